/- The table of functions with what is known of Builders and texts. Own text of the prover; nothing is assumed. -/
import Derived.Test.YtmbaaiifdjoibaaGreatDoorDa
import Derived.Test.YtmbaaiifdjoibaaGreatDoorJb
import Derived.Test.YtmbaaiifdjoibaaGreatDoorLik
import Derived.Test.YtmbaaiifdjoibaaGreatDoorQb
set_option maxRecDepth 100000
namespace Go.SV
open Go.Proofs Go.Shelf Go.RowKit

def gRepl : List AV → AH → Option (AV × AH)
  | [.str s, .str p, .str q], H => if s.length < 2 ^ 20 ∧ 1 ≤ p.length ∧ q.length < 2 ^ 20 ∧ Lib.countB ⟨s.toArray⟩ ⟨p.toArray⟩ < 2 ^ 21 then some (.str (Lib.replaceAll s p q), H) else none
  | _, _ => none
def gCount : List AV → AH → Option (AV × AH)
  | [.str s, .str [c]], H => some (.int .i64 (Lib.countByte s c), H)
  | _, _ => none
def ascii (l : List UInt8) : Bool := l.all fun b => decide (b.toNat < 128)
def gAny : List AV → AH → Option (AV × AH)
  | [.str s, .str p], H => if s.length < 2 ^ 30 ∧ p.length < 2 ^ 30 ∧ ascii s = true ∧ ascii p = true then some (.bool (Lib.containsAny s p), H) else none
  | _, _ => none

abbrev kCopy : Nat := 26
abbrev kText : Nat := 14
abbrev kRepl : Nat := 77
abbrev kCount : Nat := 38
abbrev kAny : Nat := 106

def tableQ (k : Nat) : Option Entry := match table k with
  | some e => some e
  | none => if k = kCopy then some (.known gCopy) else if k = kText then some (.known (gText U8)) else if k = kRepl then some (.known gRepl) else if k = kCount then some (.known gCount) else if k = kAny then some (.known gAny) else none

theorem tableQ_of {k : Nat} {e : Entry} (h : table k = some e) : tableQ k = some e := by simp only [tableQ, h]
theorem tableQ_none {k : Nat} (h : irAt k = none) (h1 : table k = none) : tableQ k = if k = kCopy then some (.known gCopy) else if k = kText then some (.known (gText U8)) else if k = kRepl then some (.known gRepl) else if k = kCount then some (.known gCount) else if k = kAny then some (.known gAny) else none := by simp only [tableQ, h1]
theorem tableQ_has : Has tableQ := fun k f h => tableQ_of (table_has k f h)
theorem tn {k : Nat} (h : irAt k = none) (h1 : ¬ k = 43) (h2 : ¬ k = 65) (h3 : ¬ k = 104) (h4 : ¬ k = 126) : table k = none := by
  rw [table_none h, if_neg h1, if_neg h2, if_neg h3, if_neg h4]
theorem q1 : tableQ kCopy = some (.known gCopy) := (tableQ_none (by kernel_rfl) (tn (by kernel_rfl) (by decide) (by decide) (by decide) (by decide))).trans rfl
theorem q2 : tableQ kText = some (.known (gText U8)) := (tableQ_none (by kernel_rfl) (tn (by kernel_rfl) (by decide) (by decide) (by decide) (by decide))).trans rfl
theorem q3 : tableQ kRepl = some (.known gRepl) := (tableQ_none (by kernel_rfl) (tn (by kernel_rfl) (by decide) (by decide) (by decide) (by decide))).trans rfl
theorem lb_is (e n o : Nat) (h : lbB e n o = true) : e = 41 ∧ n = 2 ∧ o = 0 := by
  simp only [lbB, Bool.and_eq_true, beq_iff_eq] at h
  exact h

theorem ArgsR.three {E : Env} {w : World} {x y z : AV} {rs : Array Value} (h : ArgsR E w [x, y, z] rs) : ∃ u v r, rs = #[u, v, r] ∧ VR E w x u ∧ VR E w y v ∧ VR E w z r := by
  obtain ⟨h1, h2⟩ := h
  obtain ⟨l⟩ := rs
  match l, h1 with
  | [u, v, r], _ => exact ⟨u, v, r, rfl, h2 0 x u rfl rfl, h2 1 y v rfl rfl, h2 2 z r rfl rfl⟩

theorem ascii_at {l : List UInt8} (h : ascii l = true) (j : Nat) (b : UInt8) (hb : l[j]? = some b) : b.toNat < 128 := by
  have := List.all_eq_true.1 h b (List.mem_of_getElem? hb)
  simpa using this

theorem tableQ_each {W : World} (t : Tabs W) (k : Nat) (e : Entry) (h : tableQ k = some e) : EntryOk Tryz.prog (Laid.of W) k e := by
  unfold tableQ at h
  split at h
  · rename_i e' he
    simp only [Option.some.injEq] at h
    subst h
    exact table_each t k _ he
  · split at h
    · rename_i hk
      simp only [Option.some.injEq] at h
      subst hk; subst h
      exact ⟨enters _ _ Tryz.func26 (by kernel_rfl) (by kernel_rfl), fun args H v H' hg => gCopy_ok copy_used copy_fresh lb_is hg⟩
    · split at h
      · rename_i hk
        simp only [Option.some.injEq] at h
        subst hk; subst h
        exact ⟨enters _ _ Tryz.func14 (by kernel_rfl) (by kernel_rfl), fun args H v H' hg => gText_ok Tryz.lays169 Tryz.Builder_Extra_169 lb_is (by decide) hg⟩
      · split at h
        · rename_i hk
          simp only [Option.some.injEq] at h
          subst hk; subst h
          refine ⟨enters _ _ Tryz.func77 (by kernel_rfl) (by kernel_rfl), fun args H v H' hg => ?_⟩
          unfold gRepl at hg
          split at hg
          · rename_i s p q
            split at hg
            · rename_i hl
              simp only [Option.some.injEq, Prod.mk.injEq] at hg
              obtain ⟨rfl, rfl⟩ := hg
              refine CallSim.of_below fun E w rs hr ha => ?_
              obtain ⟨x, y, z, rfl, hx, hy, hz⟩ := ha.three
              cases hx
              cases hy
              cases hz
              refine ⟨.string ⟨(Lib.replaceAll s p q).toArray⟩, fun w' _ => .str _, ?_⟩
              obtain ⟨m, hm⟩ := (t.keep fun r hr' => (hr.laid.2 r hr').2).max
              have h1 : (⟨s.toArray⟩ : ByteArray).size = s.length := rfl
              have h2 : (⟨p.toArray⟩ : ByteArray).size = p.length := rfl
              have h3 : (⟨q.toArray⟩ : ByteArray).size = q.length := rfl
              refine Tryz.strings_ReplaceAll ⟨s.toArray⟩ ⟨p.toArray⟩ ⟨q.toArray⟩ m w (by omega) hm (by omega) ?_
              have h4 : Lib.countB ⟨s.toArray⟩ ⟨p.toArray⟩ * q.length ≤ 2 ^ 21 * 2 ^ 20 := Nat.mul_le_mul (by omega) (by omega)
              show s.length + Lib.countB ⟨s.toArray⟩ ⟨p.toArray⟩ * q.length ≤ _
              omega
            · simp at hg
          · simp at hg
        · split at h
          · rename_i hk
            simp only [Option.some.injEq] at h
            subst hk; subst h
            refine ⟨enters _ _ Tryz.func38 (by kernel_rfl) (by kernel_rfl), fun args H v H' hg => ?_⟩
            unfold gCount at hg
            split at hg
            · rename_i s c
              simp only [Option.some.injEq, Prod.mk.injEq] at hg
              obtain ⟨rfl, rfl⟩ := hg
              refine CallSim.of_below fun E w rs hr ha => ?_
              obtain ⟨x, y, rfl, hx, hy⟩ := ha.two
              cases hx
              cases hy
              refine ⟨.int .i64 (Lib.countByte s c), fun w' _ => .int _ _, ?_⟩
              exact (Tryz.strings_Count_one ⟨s.toArray⟩ c w).mono fun e w' ⟨he, hw⟩ => ⟨he, by rw [hw]; exact Below.refl _ _⟩
            · simp at hg
          · split at h
            · rename_i hk
              simp only [Option.some.injEq] at h
              subst hk; subst h
              refine ⟨enters _ _ Tryz.func106 (by kernel_rfl) (by kernel_rfl), fun args H v H' hg => ?_⟩
              unfold gAny at hg
              split at hg
              · rename_i s p
                split at hg
                · rename_i hl
                  simp only [Option.some.injEq, Prod.mk.injEq] at hg
                  obtain ⟨rfl, rfl⟩ := hg
                  refine CallSim.of_below fun E w rs hr ha => ?_
                  obtain ⟨x, y, rfl, hx, hy⟩ := ha.two
                  cases hx
                  cases hy
                  refine ⟨.bool (Lib.containsAny s p), fun w' _ => .bool _, ?_⟩
                  have h1 : (⟨s.toArray⟩ : ByteArray).size = s.length := rfl
                  have h2 : (⟨p.toArray⟩ : ByteArray).size = p.length := rfl
                  exact Tryz.strings_ContainsAny_laid ⟨s.toArray⟩ ⟨p.toArray⟩ w (by omega) (by omega) (ascii_at hl.2.2.1) (ascii_at hl.2.2.2)
                · simp at hg
              · simp at hg
            · simp at h

end Go.SV
