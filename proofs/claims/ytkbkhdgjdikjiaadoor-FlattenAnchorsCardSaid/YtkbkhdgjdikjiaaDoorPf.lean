/- Plain law: anchors are told once each, numbered as they come, and asked for. Own text of the prover; nothing is assumed. -/
import Derived.Test.YtkbkhdgjdikjiaaDoorPe
set_option maxRecDepth 100000
namespace Go.SV

/-- The look at anchors: those that were told, and those that were asked for. -/
def anc : List Ev → List (List UInt8) → List (List UInt8) → Option (List (List UInt8) × List (List UInt8))
  | [], T, A => some (T, A)
  | e :: s, T, A =>
    if e.anchor = [] then anc s T A
    else if e.kind = 7 then (if e.anchor ∈ T then anc s T (A ++ [e.anchor]) else none)
    else if e.anchor ∈ T then none
    else if e.anchor = anchorN (T.length + 1) then anc s (T ++ [e.anchor]) A else none

def toldU (g : List Nd) (m : Nat) : List (List UInt8) := ((List.range m).filter (isNamed g)).map fun (i : Nat) => nameAt (namesG g) (i : Int)
theorem toldU_len (g : List Nd) (m : Nat) : (toldU g m).length = rk (isNamed g) m := by simp [toldU, rk]
theorem toldU_succ (g : List Nd) (m : Nat) : toldU g (m + 1) = toldU g m ++ if isNamed g m = true then [nameAt (namesG g) m] else [] := by
  simp only [toldU, List.range_succ, List.filter_append, List.map_append, List.filter_cons, List.filter_nil]
  split <;> simp
theorem toldU_mem {g : List Nd} {m : Nat} {x : List UInt8} : x ∈ toldU g m ↔ ∃ i, i < m ∧ isNamed g i = true ∧ nameAt (namesG g) i = x := by
  simp only [toldU, List.mem_map, List.mem_filter, List.mem_range]
  constructor
  · rintro ⟨i, ⟨h1, h2⟩, h3⟩; exact ⟨i, h1, h2, h3⟩
  · rintro ⟨i, h1, h2, h3⟩; exact ⟨i, ⟨h1, h2⟩, h3⟩

variable {g : List Nd}
theorem name_new (hr : rightG g = true) {m : Nat} (hm : m < g.length) (hn : isNamed g m = true) : nameAt (namesG g) m ≠ [] ∧ nameAt (namesG g) m ∉ toldU g m ∧ nameAt (namesG g) m = anchorN ((toldU g m).length + 1) := by
  have h := name_of hr (a := m) (by omega) (by omega)
  rw [Int.toNat_natCast, if_pos hn] at h
  refine ⟨by rw [h]; exact anchorN_ne _, fun hx => ?_, by rw [h, toldU_len]⟩
  obtain ⟨i, h1, h2, h3⟩ := toldU_mem.1 hx
  have := name_inj hr (a := i) (b := m) (by omega) (by omega) (by omega) (by omega) (by simpa using h2) h3
  omega

theorem anc_open (hr : rightG g = true) {m : Nat} {nd : Nd} (hm : m < g.length) (hk : (openE (namesG g) nd m).kind ≠ 7) (s : List Ev) (A : List (List UInt8)) : anc (openE (namesG g) nd m :: s) (toldU g m) A = anc s (toldU g (m + 1)) A := by
  have ha : (openE (namesG g) nd m).anchor = nameAt (namesG g) m := rfl
  rw [anc, ha, toldU_succ]
  by_cases hn : isNamed g m = true
  · obtain ⟨n1, n2, n3⟩ := name_new hr hm hn
    rw [if_neg n1, if_neg hk, if_neg n2, if_pos n3, if_pos hn]
  · have h := name_of hr (a := m) (by omega) (by omega)
    rw [Int.toNat_natCast, if_neg hn] at h
    rw [if_pos h, if_neg hn, List.append_nil]

theorem wq_anc (hr : rightG g = true) {met m : Nat} {ks : List Int} {s : List Ev} (w : Wq g met ks m s) : m ≤ g.length → ∃ l, Al g met ks m l ∧ ∀ (A : List (List UInt8)) (rest : List Ev), anc (s ++ rest) (toldU g met) A = anc rest (toldU g m) (A ++ l.map (nameAt (namesG g))) := by
  induction w with
  | nil => intro _; exact ⟨[], .nil _, fun A rest => by simp⟩
  | @alias met m a ks s h0 h1 hn wa ih =>
    intro hm
    have hle := wq_le wa
    obtain ⟨l, b, c⟩ := ih hm
    refine ⟨a :: l, .alias h0 h1 b, fun A rest => ?_⟩
    have ha : (aliasE (namesG g) a).anchor = nameAt (namesG g) a := rfl
    have h := name_of hr h0 (by omega)
    rw [if_pos hn] at h
    have hmem : nameAt (namesG g) a ∈ toldU g met := toldU_mem.2 ⟨a.toNat, by omega, hn, by rw [show ((a.toNat : Nat) : Int) = a by omega]⟩
    rw [List.cons_append, anc, ha, if_neg (by rw [h]; exact anchorN_ne _), if_pos (show (aliasE (namesG g) a).kind = 7 from rfl), if_pos hmem, c]
    simp
  | @leaf met m nd ks s hg hk hkk hn w ih =>
    intro hm
    have hle := wq_le w
    obtain ⟨l, b, c⟩ := ih hm
    refine ⟨l, .leaf hg hkk b, fun A rest => ?_⟩
    rw [List.cons_append, anc_open hr (by omega) (isN_open hn).2.2.1, c]
  | @node met m1 m nd ks s1 s hg hk hn w1 w ih1 ih2 =>
    intro hm
    have hle := wq_le w
    have hle1 := wq_le w1
    obtain ⟨l1, b1, c1⟩ := ih1 (by omega)
    obtain ⟨l, b, c⟩ := ih2 hm
    refine ⟨l1 ++ l, .node hg b1 b, fun A rest => ?_⟩
    have hc : (closeE nd).anchor = [] := rfl
    rw [List.cons_append, anc_open hr (by omega) (isN_open hn).2.2.1, List.append_assoc, c1, List.cons_append, anc, if_pos hc, c]
    simp

theorem nodup_le {α : Type} [DecidableEq α] : ∀ {K L : List α}, K.Nodup → (∀ x ∈ K, x ∈ L) → K.length ≤ L.length := by
  intro K
  induction K with
  | nil => intro L _ _; exact Nat.zero_le _
  | cons a K ih =>
    intro L hn hs
    rw [List.nodup_cons] at hn
    have ha := hs a (by simp)
    have := ih (L := L.erase a) hn.2 (fun x hx => by
      have hne : x ≠ a := fun e => hn.1 (e ▸ hx)
      exact (List.mem_erase_of_ne hne).2 (hs x (by simp [hx])))
    rw [List.length_erase_of_mem ha] at this
    have hp : 0 < L.length := List.length_pos_of_mem ha
    rw [List.length_cons]; omega

theorem toldU_nodup (hr : rightG g = true) : ∀ m, m ≤ g.length → (toldU g m).Nodup := by
  intro m
  induction m with
  | zero => intro _; simp [toldU]
  | succ m ih =>
    intro hm
    rw [toldU_succ]
    by_cases hn : isNamed g m = true
    · rw [if_pos hn, List.nodup_append]
      refine ⟨ih (by omega), by simp, fun a ha b hb => ?_⟩
      simp only [List.mem_singleton] at hb
      subst hb
      exact fun e => (name_new hr (by omega) hn).2.1 (e ▸ ha)
    · rw [if_neg hn, List.append_nil]; exact ih (by omega)

/-- What the look finds: as many that were told as were asked for. -/
theorem doc_anc {g : List Nd} (hr : rightG g = true) : ∃ T A, anc (docE g) [] [] = some (T, A) ∧ ∀ K : List (List UInt8), K.Nodup → (∀ x, x ∈ K ↔ x ∈ A) → K.length = T.length := by
  have hn := normal_right hr
  obtain ⟨l, al, c⟩ := wq_anc hn (tell_wq hr).1 (Nat.le_refl _)
  refine ⟨toldU (normal g) (normal g).length, l.map (nameAt (namesG (normal g))), ?_, fun K hK hm => ?_⟩
  · have hb : evB.anchor = [] := rfl
    have he : evE.anchor = [] := rfl
    have h0 : toldU (normal g) 0 = [] := rfl
    rw [h0] at c
    rw [docE, anc, if_pos hb, c, anc, if_pos he, anc, List.nil_append]
  · have hs : ∀ x, x ∈ K ↔ x ∈ toldU (normal g) (normal g).length := by
      intro x
      rw [hm x, toldU_mem, List.mem_map]
      constructor
      · rintro ⟨a, ha, rfl⟩
        have h1 := al_in al a ha
        have h2 : ((a.toNat : Nat) : Int) = a := by omega
        exact ⟨a.toNat, by omega, (al_named al a.toNat (by omega)).1 (by rw [h2]; exact ha), by rw [h2]⟩
      · rintro ⟨i, h1, h2, h3⟩
        exact ⟨i, (al_named al i h1).2 h2, h3⟩
    have h1 := nodup_le hK (fun x hx => (hs x).1 hx)
    have h2 := nodup_le (toldU_nodup hn _ (Nat.le_refl _)) (fun x hx => (hs x).2 hx)
    omega

end Go.SV
