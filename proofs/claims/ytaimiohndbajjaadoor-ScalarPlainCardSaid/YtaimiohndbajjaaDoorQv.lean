/- The table of functions in which ContainsAny answers on any text that has none of the characters. Own text of the prover; nothing is assumed. -/
import Derived.Test.YtaimiohndbajjaaDoorQu
import Derived.Test.YtaimiohndbajjaaDoorJd
set_option maxRecDepth 100000
namespace Go.SV
open Go.Proofs Go.Shelf Go.RowKit

def noneB (s p : List UInt8) : Bool := s.all fun b => !p.contains b
def gAnyP : List AV → AH → Option (AV × AH)
  | [.str s, .str p], H => if s.length < 2 ^ 30 ∧ p.length < 2 ^ 30 ∧ ascii p = true ∧ (ascii s = true ∨ (2 ≤ p.length ∧ noneB s p = true)) then some (.bool (Lib.containsAny s p), H) else none
  | _, _ => none

def tableP (k : Nat) : Option Entry := if k = kAny then some (.known gAnyP) else tableE k
theorem tableP_any : tableP kAny = some (.known gAnyP) := if_pos rfl
theorem tableP_of {k : Nat} {e : Entry} (hk : k ≠ kAny) (h : tableE k = some e) : tableP k = some e := by rw [tableP, if_neg hk]; exact h
theorem tableP_has : Has tableP := fun k f h => by
  refine tableP_of ?_ (tableE_has k f h)
  rintro rfl
  have : irAt kAny = none := by kernel_rfl
  rw [this] at h
  cases h

theorem tableP_knows : Knows tableP where
  valid s H h := by rw [Den.of_known (tableP_of (by decide) (tableE_of (tableQ_of table1)))]; simp only [gValid, if_pos h]
  byte s c H := by rw [Den.of_known (tableP_of (by decide) (tableE_of (tableQ_of table2)))]; simp [gByte]
  contains s p H h := by rw [Den.of_known (tableP_of (by decide) (tableE_of (tableQ_of table3)))]; simp only [gContains, if_pos h]
  itoa n H h := by rw [Den.of_known (tableP_of (by decide) (tableE_of (tableQ_of table4)))]; simp only [gItoa]; rw [if_pos ⟨by omega, by omega⟩]
theorem tableP_knowsB : KnowsB tableP where
  copy b l H h := by rw [Den.of_known (tableP_of (by decide) (tableE_of q1))]; exact gCopy_bl h
  text h hp hl := by rw [Den.of_known (tableP_of (by decide) (tableE_of q2))]; exact gText_bl h hp hl
theorem tableP_knowsT : KnowsT tableP where
  repl s p q H h1 h2 h3 h4 := by rw [Den.of_known (tableP_of (by decide) (tableE_of q3))]; simp only [gRepl]; rw [if_pos ⟨h1, h2, h3, h4⟩]
  count s c H := by rw [Den.of_known (tableP_of (by decide) (tableE_of q4))]; rfl
  any s p H h1 h2 h3 h4 := by rw [Den.of_known tableP_any]; simp only [gAnyP]; rw [if_pos ⟨h1, h2, h4, .inl h3⟩]
theorem tableP_knowsE : KnowsE tableP where
  err fn s a b H h := by rw [Den.of_known (tableP_of (by decide) e1)]; unfold gErr; exact if_pos ⟨h, rfl, rfl⟩

structure KnowsP (T : Nat → Option Entry) : Prop where
  none : ∀ (s p : List UInt8) (H : AH), s.length < 2 ^ 30 → p.length < 2 ^ 30 → ascii p = true → 2 ≤ p.length → noneB s p = true → Den.of T kAny [.str s, .str p] H = some (.bool false, H)
theorem noneB_any {s p : List UInt8} (h : noneB s p = true) : Lib.containsAny s p = false := by
  have hi : Lib.indexAny s p = -1 := Lib.indexAny_none fun j b _ hb => by
    have := List.all_eq_true.1 h b (List.mem_of_getElem? hb)
    simpa using this
  rw [Lib.containsAny, hi]
  rfl
theorem tableP_knowsP : KnowsP tableP where
  none s p H h1 h2 h3 h4 h5 := by rw [Den.of_known tableP_any]; simp only [gAnyP]; rw [if_pos ⟨h1, h2, h3, .inr ⟨h4, h5⟩⟩, noneB_any h5]

theorem tableP_ok {W : World} (t : TabsE W) : DOk Tryd.prog (Laid.of W) (Den.of tableP) := by
  refine Den.of_ok (by kernel_rfl) fun k e h => ?_
  unfold tableP at h
  split at h
  · rename_i hk
    simp only [Option.some.injEq] at h
    subst hk; subst h
    refine ⟨enters _ _ Tryd.func17 (by kernel_rfl) (by kernel_rfl), fun args H v H' hg => ?_⟩
    unfold gAnyP at hg
    split at hg
    · rename_i s p
      split at hg
      · rename_i hl
        simp only [Option.some.injEq, Prod.mk.injEq] at hg
        obtain ⟨rfl, rfl⟩ := hg
        refine CallSim.of_below fun E w rs hr ha => ?_
        obtain ⟨x, y, rfl, hx, hy⟩ := ha.two
        cases hx
        cases hy
        refine ⟨.bool (Lib.containsAny s p), fun w' _ => .bool _, ?_⟩
        have h1 : (⟨s.toArray⟩ : ByteArray).size = s.length := rfl
        have h2 : (⟨p.toArray⟩ : ByteArray).size = p.length := rfl
        obtain ⟨l1, l2, l3, l4⟩ := hl
        by_cases ha : ascii s = true
        · exact Tryd.strings_ContainsAny_laid ⟨s.toArray⟩ ⟨p.toArray⟩ w (by omega) (by omega) (ascii_at ha) (ascii_at l3)
        · obtain ⟨l5, l6⟩ := l4.resolve_left ha
          exact cAny_none Tryd.lays150 (by kernel_rfl) ⟨s.toArray⟩ ⟨p.toArray⟩ w (by omega) (by omega) (by omega) (ascii_at l3) fun b hb => by
            have := List.all_eq_true.1 l6 b hb
            simpa using this
      · simp at hg
    · simp at hg
  · exact tableE_each t k _ h

end Go.SV
