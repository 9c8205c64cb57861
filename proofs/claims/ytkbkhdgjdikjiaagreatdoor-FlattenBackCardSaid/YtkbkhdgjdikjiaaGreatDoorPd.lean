/- Plain laws of names: who has one, which one, and how often each node is told. Own text of the prover; nothing is assumed. -/
import Derived.Test.YtkbkhdgjdikjiaaGreatDoorPc
import Derived.Test.YtkbkhdgjdikjiaaGreatDoorPb
set_option maxRecDepth 100000
namespace Go.SV

/-! ### Numbers in digits -/
def digitsV (l : List UInt8) : Nat := l.foldl (fun a b => 10 * a + (b.toNat - 48)) 0
theorem digitsV_dec : ∀ (n u : Nat), u ≤ n → digitsV (Lib.decDigits u) = u := by
  intro n
  induction n with
  | zero =>
    intro u h
    obtain rfl := Nat.le_zero.1 h
    rw [Lib.decDigits_one (by decide)]; rfl
  | succ n ih =>
    intro u h
    rw [Lib.decDigits]
    have d8 : ∀ d, d < 10 → (UInt8.ofNat (48 + d)).toNat = 48 + d := fun d hd => by
      rw [UInt8.toNat_ofNat']; omega
    by_cases h10 : u < 10
    · rw [dif_pos h10]
      simp only [digitsV, List.foldl_cons, List.foldl_nil, d8 u h10]
      omega
    · rw [dif_neg h10]
      have := ih (u / 10) (by omega)
      simp only [digitsV, List.foldl_append, List.foldl_cons, List.foldl_nil] at this ⊢
      rw [this, d8 _ (by omega)]
      omega
theorem anchorN_inj {m n : Nat} (h : anchorN m = anchorN n) : m = n := by
  unfold anchorN at h
  have h2 := (List.cons.inj h).2
  unfold Lib.itoa at h2
  rw [if_neg (by omega), if_neg (by omega)] at h2
  have := congrArg digitsV h2
  rw [digitsV_dec _ _ (Nat.le_refl _), digitsV_dec _ _ (Nat.le_refl _)] at this
  omega
theorem anchorN_ne (m : Nat) : anchorN m ≠ [] := by unfold anchorN; exact List.cons_ne_nil _ _

/-! ### Who has a name -/
def nmC (cs : List Int) (i : Nat) : Bool := decide (1 < if i = 0 then (cs[i]?).getD 0 + 1 else (cs[i]?).getD 0)
def rk (p : Nat → Bool) (m : Nat) : Nat := ((List.range m).filter p).length
theorem rk_succ (p : Nat → Bool) (m : Nat) : rk p (m + 1) = rk p m + if p m = true then 1 else 0 := by
  simp only [rk, List.range_succ, List.filter_append, List.length_append, List.filter_cons, List.filter_nil]
  split <;> simp
theorem rk_le (p : Nat → Bool) {a b : Nat} (h : a ≤ b) : rk p a ≤ rk p b := by
  induction b with
  | zero => rw [show a = 0 by omega]; exact Nat.le_refl _
  | succ b ih =>
    by_cases e : a = b + 1
    · rw [e]; exact Nat.le_refl _
    · have := ih (by omega)
      rw [rk_succ]; omega
theorem rk_lt (p : Nat → Bool) {a b : Nat} (h : a < b) (hp : p a = true) : rk p a < rk p b := by
  have := rk_le p (show a + 1 ≤ b from h)
  rw [rk_succ, if_pos hp] at this
  omega

theorem namesF_at (cs : List Int) : ∀ (k i : Nat), cs.length - i = k → ∀ j, i + j < cs.length → (namesF (cs.drop i) i (rk (nmC cs) i))[j]? = some (if nmC cs (i + j) = true then anchorN (rk (nmC cs) (i + j) + 1) else []) := by
  intro k
  induction k with
  | zero => intro i h j hj; omega
  | succ k ih =>
    intro i h j hj
    have hlt : i < cs.length := by omega
    rw [List.drop_eq_getElem_cons hlt, namesF]
    have hge : (cs[i]?).getD 0 = cs[i] := by rw [List.getElem?_eq_getElem hlt]; rfl
    have hs := rk_succ (nmC cs) i
    have i1 := ih (i + 1) (by omega)
    by_cases hn : nmC cs i = true
    · have hn' : 1 < if i = 0 then cs[i] + 1 else cs[i] := by rw [← hge]; simpa [nmC] using hn
      rw [if_pos hn']
      cases j with
      | zero => simp only [List.getElem?_cons_zero, Nat.add_zero, if_pos hn]
      | succ j =>
        rw [if_pos hn] at hs
        rw [List.getElem?_cons_succ, ← hs, i1 j (by omega), show i + 1 + j = i + (j + 1) by omega]
    · have hn' : ¬ 1 < if i = 0 then cs[i] + 1 else cs[i] := by rw [← hge]; simpa [nmC] using hn
      rw [if_neg hn']
      cases j with
      | zero => simp only [List.getElem?_cons_zero, Nat.add_zero, if_neg hn]
      | succ j =>
        simp only [if_neg hn, Nat.add_zero] at hs
        rw [List.getElem?_cons_succ, ← hs, i1 j (by omega), show i + 1 + j = i + (j + 1) by omega]

def slotsG (g : List Nd) (x : Int) : Nat := (g.flatMap (·.kids)).count x
def isNamed (g : List Nd) (i : Nat) : Bool := decide (1 < slotsG g i + if i = 0 then 1 else 0)

theorem name_of {g : List Nd} (hr : rightG g = true) {a : Int} (h0 : 0 ≤ a) (ha : a < g.length) : nameAt (namesG g) a = if isNamed g a.toNat = true then anchorN (rk (isNamed g) a.toNat + 1) else [] := by
  have hi : ins g = cnt g.length (g.flatMap (·.kids)) := by rw [ins, if_pos hr]
  have hl : (ins g).length = g.length := by rw [hi, cnt_len]
  have hnm : ∀ i, i < g.length → nmC (ins g) i = isNamed g i := fun i hi2 => by
    rw [nmC, isNamed, hi, cnt_at _ _ _ hi2, decide_eq_decide]
    simp only [Option.getD_some, slotsG]
    split <;> omega
  have hrk : ∀ m, m ≤ g.length → rk (nmC (ins g)) m = rk (isNamed g) m := by
    intro m
    induction m with
    | zero => intro _; rfl
    | succ m ih => intro hm; rw [rk_succ, rk_succ, ih (by omega), hnm m (by omega)]
  have hat : a.toNat < g.length := by omega
  have := namesF_at (ins g) _ 0 rfl a.toNat (by omega)
  rw [List.drop_zero] at this
  have hz : rk (nmC (ins g)) 0 = 0 := rfl
  rw [hz, Nat.zero_add, hnm _ hat, hrk _ (by omega)] at this
  rw [nameAt, namesG, hl, Nat.sub_self, List.replicate_zero, List.append_nil, this]
  rfl

theorem name_inj {g : List Nd} (hr : rightG g = true) {a b : Int} (h0 : 0 ≤ a) (ha : a < g.length) (h1 : 0 ≤ b) (hb : b < g.length) (hn : isNamed g a.toNat = true) (h : nameAt (namesG g) a = nameAt (namesG g) b) : a = b := by
  rw [name_of hr h0 ha, name_of hr h1 hb, if_pos hn] at h
  by_cases hm : isNamed g b.toNat = true
  · rw [if_pos hm] at h
    have := anchorN_inj h
    rcases Nat.lt_trichotomy a.toNat b.toNat with hl | he | hg
    · have := rk_lt _ hl hn; omega
    · omega
    · have := rk_lt _ hg hm; omega
  · rw [if_neg hm] at h
    exact absurd h (anchorN_ne _)

/-! ### How often each node is told -/
variable {g : List Nd} {names : List (List UInt8)}
def upTo (g : List Nd) (m : Nat) (x : Int) : Nat := ((g.take m).flatMap (·.kids)).count x
theorem upTo_succ {m : Nat} {nd : Nd} (h : g[m]? = some nd) (x : Int) : upTo g (m + 1) x = upTo g m x + nd.kids.count x := by
  simp [upTo, List.take_add_one, h, List.count_append]

/-- What is asked for: the aliases, in turn. -/
inductive Al (g : List Nd) : Nat → List Int → Nat → List Int → Prop
  | nil (met : Nat) : Al g met [] met []
  | alias {met m : Nat} {a : Int} {ks l : List Int} : 0 ≤ a → a < met → Al g met ks m l → Al g met (a :: ks) m (a :: l)
  | leaf {met m : Nat} {nd : Nd} {ks l : List Int} : g[met]? = some nd → nd.kids = [] → Al g (met + 1) ks m l → Al g met ((met : Int) :: ks) m l
  | node {met m1 m : Nat} {nd : Nd} {ks l1 l : List Int} : g[met]? = some nd → Al g (met + 1) nd.kids m1 l1 → Al g m1 ks m l → Al g met ((met : Int) :: ks) m (l1 ++ l)

def asked (s : List Ev) : List (List UInt8) := (s.filter fun e => e.kind == 7).map (·.anchor)

theorem al_count {met m : Nat} {ks l : List Int} (w : Al g met ks m l) : met ≤ m ∧ ∀ x : Int, l.count x + (if (met : Int) ≤ x ∧ x < m then 1 else 0) + upTo g met x = ks.count x + upTo g m x := by
  induction w with
  | nil met => exact ⟨Nat.le_refl _, fun x => by rw [if_neg (by omega)]; simp⟩
  | @alias met m a ks l h0 h1 _ ih =>
    refine ⟨ih.1, fun x => ?_⟩
    have := ih.2 x
    rw [List.count_cons, List.count_cons]
    omega
  | @leaf met m nd ks l hn hk _ ih =>
    refine ⟨by omega, fun x => ?_⟩
    have i1 := ih.2 x
    have i2 := ih.1
    have hu := upTo_succ hn x
    rw [hk, List.count_nil] at hu
    rw [List.count_cons]
    by_cases e : (met : Int) = x
    · subst e
      rw [if_neg (by omega)] at i1
      rw [if_pos (by omega)]
      simp only [beq_self_eq_true, if_true]
      omega
    · rw [if_neg (show ¬ ((met : Int) == x) = true by simpa using e)]
      by_cases hb : (met : Int) + 1 ≤ x ∧ x < m
      · rw [if_pos (by omega)] at i1; rw [if_pos (by omega)]; omega
      · rw [if_neg (by omega)] at i1; rw [if_neg (by omega)]; omega
  | @node met m1 m nd ks l1 l hn _ _ ih1 ih2 =>
    refine ⟨by omega, fun x => ?_⟩
    have i1 := ih1.2 x
    have i2 := ih2.2 x
    have j1 := ih1.1
    have j2 := ih2.1
    have hu := upTo_succ hn x
    rw [List.count_cons, List.count_append]
    by_cases e : (met : Int) = x
    · subst e
      rw [if_neg (by omega)] at i1
      rw [if_neg (by omega)] at i2
      rw [if_pos (by omega)]
      simp only [beq_self_eq_true, if_true]
      omega
    · rw [if_neg (show ¬ ((met : Int) == x) = true by simpa using e)]
      by_cases hb : (met : Int) + 1 ≤ x ∧ x < m1
      · rw [if_pos (by omega)] at i1; rw [if_neg (by omega)] at i2; rw [if_pos (by omega)]; omega
      · rw [if_neg (by omega)] at i1
        by_cases hb2 : (m1 : Int) ≤ x ∧ x < m
        · rw [if_pos hb2] at i2; rw [if_pos (by omega)]; omega
        · rw [if_neg hb2] at i2; rw [if_neg (by omega)]; omega

theorem al_in {met m : Nat} {ks l : List Int} (w : Al g met ks m l) : ∀ a ∈ l, 0 ≤ a ∧ a < m := by
  induction w with
  | nil => simp
  | alias h0 h1 w ih =>
    intro a ha
    rcases List.mem_cons.1 ha with rfl | ha
    · have := (al_count w).1; omega
    · exact ih a ha
  | leaf _ _ _ ih => exact ih
  | node _ w1 w2 ih1 ih2 =>
    intro a ha
    rcases List.mem_append.1 ha with ha | ha
    · have h1 := ih1 a ha; have := (al_count w2).1; omega
    · exact ih2 a ha

/-- As nodes are told, each alias asks for a node with a name; and each one with a name is asked for. -/
theorem al_named {l : List Int} (w : Al g 0 [0] g.length l) : ∀ i : Nat, i < g.length → ((i : Int) ∈ l ↔ isNamed g i = true) := by
  intro i hi
  have h := (al_count w).2 i
  rw [if_pos (by omega)] at h
  have h0 : upTo g 0 (i : Int) = 0 := by simp [upTo]
  have hN : upTo g g.length (i : Int) = slotsG g i := by simp [upTo, slotsG]
  rw [h0, hN, List.count_cons, List.count_nil] at h
  rw [isNamed, decide_eq_true_eq, ← List.count_pos_iff]
  by_cases e : i = 0
  · subst e
    rw [if_pos (show ((0 : Int) == ((0 : Nat) : Int)) = true from rfl)] at h
    rw [if_pos rfl]
    omega
  · rw [if_neg (by simp; omega)] at h
    rw [if_neg e]
    omega

end Go.SV
