/- Functions run out by the kernel: with so many rounds and so many depths of calls. Own text of the prover; nothing is assumed. -/
import Derived.Test.YtmbaaiifdjoibaaGreatDoorLe
import Derived.Test.YtmbaaiifdjoibaaGreatDoorLd
namespace Go.SV

/-! ### Equal values, by looking -/
def eqL (f : AV → AV → Bool) : List AV → List AV → Bool
  | [], [] => true
  | x :: xs, y :: ys => f x y && eqL f xs ys
  | _, _ => false
theorem eqL_ok {f : AV → AV → Bool} (hf : ∀ x y, f x y = true → x = y) : ∀ {xs ys : List AV}, eqL f xs ys = true → xs = ys := by
  intro xs
  induction xs with
  | nil =>
    intro ys h
    cases ys with
    | nil => rfl
    | cons => cases h
  | cons x xs ih =>
    intro ys h
    cases ys with
    | nil => cases h
    | cons y ys =>
      rw [eqL, Bool.and_eq_true] at h
      rw [hf _ _ h.1, ih h.2]
def eqV : Nat → AV → AV → Bool
  | 0, _, _ => false
  | _ + 1, .undef, .undef => true
  | _ + 1, .bool a, .bool b => a == b
  | _ + 1, .int k a, .int k' b => decide (k = k') && a == b
  | _ + 1, .str a, .str b => a == b
  | _ + 1, .nilp, .nilp => true
  | _ + 1, .bnil, .bnil => true
  | _ + 1, .ptr a b, .ptr c d => a == c && b == d
  | n + 1, .vp a, .vp b => eqL (eqV n) a b
  | _ + 1, .nils, .nils => true
  | n + 1, .sl t s a, .sl t' s' b => t == t' && (s == s' && eqL (eqV n) a b)
  | _ + 1, .slr a b c d, .slr a' b' c' d' => a == a' && (b == b' && (c == c' && d == d'))
  | _ + 1, .nilm, .nilm => true
  | _ + 1, .map a, .map b => a == b
  | _ + 1, .nilf, .nilf => true
  | _ + 1, .niliface, .niliface => true
  | n + 1, .iface t a, .iface t' b => t == t' && eqV n a b
  | n + 1, .agg a, .agg b => eqL (eqV n) a b
  | n + 1, .tup a, .tup b => eqL (eqV n) a b
  | _ + 1, _, _ => false
theorem eqV_ok : ∀ (n : Nat) (x y : AV), eqV n x y = true → x = y := by
  intro n
  induction n with
  | zero => intro x y h; simp [eqV] at h
  | succ n ih =>
    intro x y h
    have hl : ∀ {a b : List AV}, eqL (eqV n) a b = true → a = b := fun h => eqL_ok ih h
    cases x <;> cases y <;> simp only [eqV, Bool.and_eq_true, beq_iff_eq, decide_eq_true_eq, Bool.false_eq_true] at h
    all_goals first
      | rfl
      | (subst h; rfl)
      | (obtain ⟨rfl, rfl⟩ := h; rfl)
      | (obtain ⟨rfl, rfl, rfl, rfl⟩ := h; rfl)
      | (rw [hl h])
      | (obtain ⟨rfl, h⟩ := h; rw [ih _ _ h])
      | (obtain ⟨rfl, rfl, h⟩ := h; rw [hl h])
def eqR : Option (AV × AH) → Option (AV × AH) → Bool
  | none, none => true
  | some (a, _), some (b, _) => eqV 6 a b
  | _, _ => false
theorem eqR_ok {x y : Option (AV × AH)} (h : eqR x y = true) : x.map (·.1) = y.map (·.1) := by
  cases x with
  | none => cases y with
    | none => rfl
    | some y => cases h
  | some x => cases y with
    | none => cases h
    | some y => simp only [Option.map_some]; rw [eqV_ok 6 _ _ h]
def eqC : AObj → List AV → Bool
  | .cells c, z => eqL (eqV 6) c z
  | _, _ => false
theorem eqC_ok {o : AObj} {z : List AV} (h : eqC o z = true) : o = .cells z := by
  cases o with
  | cells c => rw [eqL_ok (eqV_ok 6) h]
  | _ => cases h

def dynB (ios : List IOper) (bef : List (List Nat)) (fr : List AV) (sts : List (List AV × AH)) : Bool :=
  (dstsA ios).all (fun d => decide (d < fr.length)) &&
  ((loose ios bef).all (fun p => match ios[p.2]? with
    | some o => eqR (aop (stF sts p.2) o.op (stH sts (p.1 + 1))) (aop (stF sts p.2) o.op (stH sts p.1))
    | none => true) &&
  (looseA ios bef).all (fun p => match alAt ios sts p.2 with
    | some (z, b) => eqC ((stH sts (p.1 + 1)).get b) z
    | none => true))
theorem dynB_ok {ios : List IOper} {bef : List (List Nat)} {fr : List AV} {sts : List (List AV × AH)} (h : dynB ios bef fr sts = true) : DynOk ios bef fr sts := by
  simp only [dynB, Bool.and_eq_true, List.all_eq_true, decide_eq_true_eq] at h
  obtain ⟨h1, h2, h3⟩ := h
  refine dynOk_of h1 (fun p hp o ho => ?_) (fun p hp z b hz => ?_)
  · have := h2 p hp
    simp only [ho] at this
    exact eqR_ok this
  · have := h3 p hp
    simp only [hz] at this
    exact eqC_ok this
def fdreg (D : Den) (ios : List IOper) (bef : List (List Nat)) (fr : List AV) (H : AH) : Option (List AV × AH) :=
  let h := hoist ios fr H
  match trace D ios h.1 h.2 with
  | some sts => if dynB ios bef fr sts = true then some (stF sts ios.length, stH sts ios.length) else none
  | none => none
theorem fdreg_ok {D : Den} {ios : List IOper} {bef : List (List Nat)} {fr : List AV} {H : AH} {r} (h : fdreg D ios bef fr H = some r) : dreg D ios bef fr H = some r := by
  simp only [fdreg] at h
  simp only [dreg]
  split at h
  · rename_i sts hs
    rw [hs]
    split at h
    · rename_i hd
      simp only
      rw [if_pos (dynB_ok hd)]
      exact h
    · cases h
  · cases h

/-- Code run with at most m rounds a loop. -/
def fexec (m : Nat) (D : Den) : IC → Rd
  | .skip, fr, H => some (.normal, fr, H)
  | .reg ops, fr, H => (iops D ops fr H).map fun r => (.normal, r.1, r.2)
  | .dreg ops bef, fr, H => (fdreg D ops bef fr H).map fun r => (.normal, r.1, r.2)
  | .seq a b, fr, H => match fexec m D a fr H with
    | some (.normal, fr', H') => fexec m D b fr' H'
    | r => r
  | .cond c a b, fr, H => match c.ev fr with
    | .bool true => fexec m D a fr H
    | .bool false => fexec m D b fr H
    | _ => none
  | .block id c, fr, H => match fexec m D c fr H with
    | some (.exit i, fr', H') => if i = id then some (.normal, fr', H') else some (.exit i, fr', H')
    | r => r
  | .loop dead c, fr, H => iter (fun fr H => fexec m D c (kill dead fr) H) m fr H
  | .exit id, fr, H => some (.exit id, fr, H)
  | .ret, fr, H => some (.ret, fr, H)
  | .gh gs c, fr, H => match ghosts gs fr H with
    | some (fr', H') => fexec m D c fr' H'
    | none => none

theorem fexec_ok {m : Nat} {D : Den} : ∀ {c : IC} {fr : List AV} {H : AH} {r}, fexec m D c fr H = some r → iexec D c fr H = some r := by
  intro c
  induction c with
  | skip => intro fr H r hr; exact hr
  | exit id => intro fr H r hr; exact hr
  | ret => intro fr H r hr; exact hr
  | reg ops => intro fr H r hr; exact hr
  | dreg ops bef =>
    intro fr H r hr
    simp only [fexec, Option.map_eq_some_iff] at hr
    simp only [iexec, Option.map_eq_some_iff]
    obtain ⟨x, hx, rfl⟩ := hr
    exact ⟨x, fdreg_ok hx, rfl⟩
  | seq a b iha ihb =>
    intro fr H r hr
    simp only [fexec] at hr
    simp only [iexec]
    split at hr
    · rename_i f1 H1 h1
      rw [iha h1]
      exact ihb hr
    · rename_i hne
      rw [iha hr]
      obtain ⟨e, f1, H1⟩ := r
      cases e with
      | normal => exact absurd hr (hne _ _)
      | _ => rfl
  | cond c a b iha ihb =>
    intro fr H r hr
    simp only [fexec] at hr
    simp only [iexec]
    split at hr
    · rename_i h1; rw [h1]; exact iha hr
    · rename_i h1; rw [h1]; exact ihb hr
    · simp at hr
  | block id c ih =>
    intro fr H r hr
    simp only [fexec] at hr
    simp only [iexec]
    split at hr
    · rename_i i f1 H1 h1
      rw [ih h1]
      exact hr
    · rename_i hne
      rw [ih hr]
      obtain ⟨e, f1, H1⟩ := r
      cases e with
      | exit i => exact absurd hr (hne _ _ _)
      | _ => rfl
  | loop dead c ih =>
    intro fr H r hr
    simp only [fexec] at hr
    simp only [iexec]
    exact iterω_iff.2 ⟨m, iter_mono (fun _ _ _ h => ih h) hr⟩
  | gh gs c ih =>
    intro fr H r hr
    simp only [fexec] at hr
    simp only [iexec]
    split at hr
    · rename_i h1; rw [h1]; exact ih hr
    · simp at hr

def frun (m : Nat) (D : Den) (f : IF) (args : List AV) (H : AH) : Option (AV × AH) :=
  match fexec m D f.body (args ++ List.replicate (f.nt - args.length) .undef) H with
  | some (.normal, fr, H') | some (.ret, fr, H') => (resV fr H' f.res).map fun v => (v, H')
  | _ => none
theorem frun_ok {m : Nat} {D : Den} {f : IF} {args : List AV} {H : AH} {r} (h : frun m D f args H = some r) : irun D f args H = some r := by
  simp only [frun] at h
  simp only [irun]
  split at h
  · rename_i f1 H1 h1; rw [fexec_ok h1]; exact h
  · rename_i f1 H1 h1; rw [fexec_ok h1]; exact h
  · simp at h

def fcall (T : Nat → Option Entry) (m : Nat) : Nat → Den
  | 0, _, _, _ => none
  | n + 1, k, args, H => match T k with
    | some (.known g) => g args H
    | some (.ir f) => frun m (fcall T m n) f args H
    | none => none
theorem fcall_ok (T : Nat → Option Entry) (m : Nat) : ∀ n, DLe (fcall T m n) (Den.of T) := by
  intro n
  induction n with
  | zero => intro k args H r h; simp [fcall] at h
  | succ n ih =>
    intro k args H r h
    rw [fcall] at h
    split at h
    · rename_i g hg
      rw [Den.of_known hg]; exact h
    · rename_i f hf
      rw [Den.of_ir hf]
      exact irun_mono ih (frun_ok h)
    · simp at h

/-- A call from nothing that ends in true. -/
def endsTrue (T : Nat → Option Entry) (m n k : Nat) : Bool := match fcall T m n k [] AH.start with
  | some (.bool true, H') => decide (0 < H'.toks.length)
  | _ => false
theorem run_true {T : Nat → Option Entry} {m n k : Nat} (h : endsTrue T m n k = true) : ∃ H', Den.of T k [] AH.start = some (.bool true, H') ∧ 0 < H'.toks.length := by
  unfold endsTrue at h
  split at h
  · rename_i H' hr
    exact ⟨H', fcall_ok T m n _ _ _ _ hr, by simpa using h⟩
  · cases h

end Go.SV
