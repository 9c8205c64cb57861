/- The table of functions with what repeats, finds and trims. Own text of the prover; nothing is assumed. -/
import Derived.Test.YtmbaaiifdjoibaaGreatDoorQu
import Derived.Test.YtmbaaiifdjoibaaGreatDoorLim
import Derived.Lib.TrimByte
import Derived.Lib.Repeat
set_option maxRecDepth 100000
namespace Go.SV
open Go.Proofs Go.Shelf Go.RowKit

def gRep : List AV → AH → Option (AV × AH)
  | [.str s, .int .i64 n], H => if 0 ≤ n ∧ n ≤ 2 ^ 20 ∧ s.length ≤ 2 ^ 20 then some (.str (Lib.repeatL s n.toNat), H) else none
  | _, _ => none
def gIdx : List AV → AH → Option (AV × AH)
  | [.str s, .str p], H => if s.length < 2 ^ 30 then some (.int .i64 (Lib.index s p), H) else none
  | _, _ => none
def gTl : List AV → AH → Option (AV × AH)
  | [.str s, .str [c]], H => if c.toNat < 128 then some (.str (Lib.trimLeftB s c), H) else none
  | _, _ => none
def gTr : List AV → AH → Option (AV × AH)
  | [.str s, .str [c]], H => if c.toNat < 128 ∧ s.length < 2 ^ 60 then some (.str (Lib.trimRightB s c), H) else none
  | _, _ => none

abbrev kRep : Nat := 6
abbrev kIdx : Nat := 39
abbrev kTl : Nat := 8
abbrev kTr : Nat := 86

def tableV (k : Nat) : Option Entry := match tableE k with
  | some e => some e
  | none => if k = kRep then some (.known gRep) else if k = kIdx then some (.known gIdx) else if k = kTl then some (.known gTl) else if k = kTr then some (.known gTr) else none
theorem tableV_of {k : Nat} {e : Entry} (h : tableE k = some e) : tableV k = some e := by simp only [tableV, h]
theorem tableV_has : Has tableV := fun k f h => tableV_of (tableE_has k f h)
theorem tableE_none {k : Nat} (h : irAt k = none) (h1 : table k = none) (h2 : ¬ k = kCopy) (h3 : ¬ k = kText) (h4 : ¬ k = kRepl) (h5 : ¬ k = kCount) (h6 : ¬ k = kAny) (h7 : ¬ k = kErr) : tableE k = none := by
  have e : tableQ k = none := by rw [tableQ_none h h1, if_neg h2, if_neg h3, if_neg h4, if_neg h5, if_neg h6]
  simp only [tableE, e, if_neg h7]
theorem tableV_none {k : Nat} (h : tableE k = none) : tableV k = if k = kRep then some (.known gRep) else if k = kIdx then some (.known gIdx) else if k = kTl then some (.known gTl) else if k = kTr then some (.known gTr) else none := by simp only [tableV, h]
theorem v1 : tableV kRep = some (.known gRep) := (tableV_none (tableE_none (by kernel_rfl) (tn (by kernel_rfl) (by decide) (by decide) (by decide) (by decide)) (by decide) (by decide) (by decide) (by decide) (by decide) (by decide))).trans rfl
theorem v2 : tableV kIdx = some (.known gIdx) := (tableV_none (tableE_none (by kernel_rfl) (tn (by kernel_rfl) (by decide) (by decide) (by decide) (by decide)) (by decide) (by decide) (by decide) (by decide) (by decide) (by decide))).trans rfl
theorem v3 : tableV kTl = some (.known gTl) := (tableV_none (tableE_none (by kernel_rfl) (tn (by kernel_rfl) (by decide) (by decide) (by decide) (by decide)) (by decide) (by decide) (by decide) (by decide) (by decide) (by decide))).trans rfl
theorem v4 : tableV kTr = some (.known gTr) := (tableV_none (tableE_none (by kernel_rfl) (tn (by kernel_rfl) (by decide) (by decide) (by decide) (by decide)) (by decide) (by decide) (by decide) (by decide) (by decide) (by decide))).trans rfl

/-- The library's part, once more. -/
structure KnowsV (T : Nat → Option Entry) : Prop where
  rep : ∀ (s : List UInt8) (n : Nat) (H : AH), n ≤ 2 ^ 20 → s.length ≤ 2 ^ 20 → Den.of T kRep [.str s, .int .i64 n] H = some (.str (Lib.repeatL s n), H)
  tl : ∀ (s : List UInt8) (c : UInt8) (H : AH), c.toNat < 128 → Den.of T kTl [.str s, .str [c]] H = some (.str (Lib.trimLeftB s c), H)
theorem tableV_knowsV : KnowsV tableV where
  rep s n H h1 h2 := by rw [Den.of_known v1]; simp only [gRep]; rw [if_pos ⟨by omega, by omega, h2⟩, Int.toNat_natCast]
  tl s c H h := by rw [Den.of_known v3]; simp only [gTl]; rw [if_pos h]

theorem tableV_each {W : World} (t : TabsE W) (k : Nat) (e : Entry) (h : tableV k = some e) : EntryOk Tryz.prog (Laid.of W) k e := by
  unfold tableV at h
  split at h
  · rename_i e' he
    simp only [Option.some.injEq] at h
    subst h
    exact tableE_each t k _ he
  · split at h
    · rename_i hk
      simp only [Option.some.injEq] at h
      subst hk; subst h
      refine ⟨enters _ _ Tryz.func6 (by kernel_rfl) (by kernel_rfl), fun args H v H' hg => ?_⟩
      unfold gRep at hg
      split at hg
      · rename_i s n
        split at hg
        · rename_i hl
          simp only [Option.some.injEq, Prod.mk.injEq] at hg
          obtain ⟨rfl, rfl⟩ := hg
          refine CallSim.of_below fun E w rs hr ha => ?_
          obtain ⟨x, y, rfl, hx, hy⟩ := ha.two
          cases hx
          cases hy
          obtain ⟨u, rfl⟩ := Int.eq_ofNat_of_zero_le hl.1
          rw [Int.toNat_natCast]
          refine ⟨.string ⟨(Lib.repeatL s u).toArray⟩, fun w' _ => .str _, ?_⟩
          have h1 : (⟨s.toArray⟩ : ByteArray).size = s.length := rfl
          refine Tryz.strings_Repeat ⟨s.toArray⟩ u w (by omega) ?_
          have h4 : s.length * u ≤ 2 ^ 20 * 2 ^ 20 := Nat.mul_le_mul hl.2.2 (by omega)
          rw [h1]
          omega
        · simp at hg
      · simp at hg
    · split at h
      · rename_i hk
        simp only [Option.some.injEq] at h
        subst hk; subst h
        refine ⟨enters _ _ Tryz.func39 (by kernel_rfl) (by kernel_rfl), fun args H v H' hg => ?_⟩
        unfold gIdx at hg
        split at hg
        · rename_i s p
          split at hg
          · rename_i hl
            simp only [Option.some.injEq, Prod.mk.injEq] at hg
            obtain ⟨rfl, rfl⟩ := hg
            refine CallSim.of_below fun E w rs hr ha => ?_
            obtain ⟨x, y, rfl, hx, hy⟩ := ha.two
            cases hx
            cases hy
            refine ⟨.int .i64 (Lib.index s p), fun w' _ => .int _ _, ?_⟩
            obtain ⟨m, hm⟩ := (t.t.keep fun r hr' => (hr.laid.2 r hr').2).max
            have h1 : (⟨s.toArray⟩ : ByteArray).size = s.length := rfl
            exact (Tryz.strings_Index ⟨s.toArray⟩ ⟨p.toArray⟩ m w (by omega) hm).mono fun e w' ⟨he, hw⟩ => ⟨he, by rw [hw]; exact Below.refl _ _⟩
          · simp at hg
        · simp at hg
      · split at h
        · rename_i hk
          simp only [Option.some.injEq] at h
          subst hk; subst h
          refine ⟨enters _ _ Tryz.func8 (by kernel_rfl) (by kernel_rfl), fun args H v H' hg => ?_⟩
          unfold gTl at hg
          split at hg
          · rename_i s c
            split at hg
            · rename_i hl
              simp only [Option.some.injEq, Prod.mk.injEq] at hg
              obtain ⟨rfl, rfl⟩ := hg
              refine CallSim.of_below fun E w rs hr ha => ?_
              obtain ⟨x, y, rfl, hx, hy⟩ := ha.two
              cases hx
              cases hy
              refine ⟨.string ⟨(Lib.trimLeftB s c).toArray⟩, fun w' _ => .str _, ?_⟩
              exact (Tryz.strings_TrimLeft_one ⟨s.toArray⟩ c hl w).mono fun e w' ⟨he, hw⟩ => ⟨he, by rw [hw]; exact Below.refl _ _⟩
            · simp at hg
          · simp at hg
        · split at h
          · rename_i hk
            simp only [Option.some.injEq] at h
            subst hk; subst h
            refine ⟨enters _ _ Tryz.func86 (by kernel_rfl) (by kernel_rfl), fun args H v H' hg => ?_⟩
            unfold gTr at hg
            split at hg
            · rename_i s c
              split at hg
              · rename_i hl
                simp only [Option.some.injEq, Prod.mk.injEq] at hg
                obtain ⟨rfl, rfl⟩ := hg
                refine CallSim.of_below fun E w rs hr ha => ?_
                obtain ⟨x, y, rfl, hx, hy⟩ := ha.two
                cases hx
                cases hy
                refine ⟨.string ⟨(Lib.trimRightB s c).toArray⟩, fun w' _ => .str _, ?_⟩
                have h1 : (⟨s.toArray⟩ : ByteArray).size = s.length := rfl
                exact (Tryz.strings_TrimRight_one ⟨s.toArray⟩ c hl.1 w (by omega)).mono fun e w' ⟨he, hw⟩ => ⟨he, by rw [hw]; exact Below.refl _ _⟩
              · simp at hg
            · simp at hg
          · simp at h

theorem tableV_ok {W : World} (t : TabsE W) : DOk Tryz.prog (Laid.of W) (Den.of tableV) := Den.of_ok (by kernel_rfl) (tableV_each t)

end Go.SV
