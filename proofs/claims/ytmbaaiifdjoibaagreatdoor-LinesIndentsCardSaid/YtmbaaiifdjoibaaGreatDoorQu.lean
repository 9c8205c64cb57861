/- The table of functions with the errors of numbers. Own text of the prover; nothing is assumed. -/
import Derived.Test.YtmbaaiifdjoibaaGreatDoorQt
import Derived.Test.YtmbaaiifdjoibaaGreatDoorLip
set_option maxRecDepth 100000
namespace Go.SV
open Go.Proofs Go.Shelf Go.RowKit

def gErr : List AV → AH → Option (AV × AH)
  | [.str _, .str s, .int .i64 _, .int .i64 _, .iface t (.int .i64 n)], H => if s.length < 2 ^ 40 ∧ t = 127 ∧ n = 2 then some (.iface 129 (.vp []), H) else none
  | _, _ => none

abbrev kErr : Nat := 114
def tableE (k : Nat) : Option Entry := match tableQ k with
  | some e => some e
  | none => if k = kErr then some (.known gErr) else none
theorem tableE_of {k : Nat} {e : Entry} (h : tableQ k = some e) : tableE k = some e := by simp only [tableE, h]
theorem tableE_has : Has tableE := fun k f h => tableE_of (tableQ_has k f h)
theorem e1 : tableE kErr = some (.known gErr) := by
  have h1 : table kErr = none := tn (by kernel_rfl) (by decide) (by decide) (by decide) (by decide)
  have h2 : tableQ kErr = none := by
    rw [tableQ_none (by kernel_rfl) h1, if_neg (by decide), if_neg (by decide), if_neg (by decide), if_neg (by decide), if_neg (by decide)]
  simp only [tableE, h2, if_pos]

/-- .. and the variable of the error stands. -/
structure TabsE (W : World) : Prop where
  t : Tabs W
  e : ∃ te pe, W.cell? ⟨3, 0, none⟩ = some (.iface te pe)

theorem ArgsR.five {E : Env} {w : World} {x y z a b : AV} {rs : Array Value} (h : ArgsR E w [x, y, z, a, b] rs) : ∃ u v r p q, rs = #[u, v, r, p, q] ∧ VR E w x u ∧ VR E w y v ∧ VR E w z r ∧ VR E w a p ∧ VR E w b q := by
  obtain ⟨h1, h2⟩ := h
  obtain ⟨l⟩ := rs
  match l, h1 with
  | [u, v, r, p, q], _ => exact ⟨u, v, r, p, q, rfl, h2 0 x u rfl rfl, h2 1 y v rfl rfl, h2 2 z r rfl rfl, h2 3 a p rfl rfl, h2 4 b q rfl rfl⟩

theorem tableE_each {W : World} (t : TabsE W) (k : Nat) (e : Entry) (h : tableE k = some e) : EntryOk Tryz.prog (Laid.of W) k e := by
  unfold tableE at h
  split at h
  · rename_i e' he
    simp only [Option.some.injEq] at h
    subst h
    exact tableQ_each t.t k _ he
  · split at h
    · rename_i hk
      simp only [Option.some.injEq] at h
      subst hk; subst h
      refine ⟨enters _ _ Tryz.func114 (by kernel_rfl) (by kernel_rfl), fun args H v H' hg => ?_⟩
      unfold gErr at hg
      split at hg
      · rename_i fn s a b tt n
        split at hg
        · rename_i hl
          obtain ⟨hl, rfl, rfl⟩ := hl
          simp only [Option.some.injEq, Prod.mk.injEq] at hg
          obtain ⟨rfl, rfl⟩ := hg
          intro E w rs hH hr ha
          obtain ⟨x, y, z, p, q, rfl, hx, hy, hz, hp, hq⟩ := ha.five
          cases hx
          cases hy
          cases hz
          cases hp
          cases hq with
          | iface _ _ v hv =>
            cases hv
            obtain ⟨te, pe, hc⟩ := t.e
            have hcw := cell_keep (fun r hr' => (hr.laid.2 r hr').2) hc
            refine (Tryz.strconv_toError_syntax ⟨fn.toArray⟩ ⟨s.toArray⟩ a b (.iface te pe) w (by show s.length ≤ _; omega) hcw (.inr ⟨te, pe, rfl⟩)).mono ?_
            rintro e w' ⟨N, he, _, _, hb⟩
            obtain ⟨h1, h2⟩ := hH.below hb
            exact ⟨E, _, he, .iface _ _ _ (.vp [] N 0 (fun _ => default) (fun j c h => by simp at h) (fun j c h => by simp at h) (fun j c h => by simp at h)), h1, h2⟩
        · simp at hg
      · simp at hg
    · simp at h
end Go.SV
