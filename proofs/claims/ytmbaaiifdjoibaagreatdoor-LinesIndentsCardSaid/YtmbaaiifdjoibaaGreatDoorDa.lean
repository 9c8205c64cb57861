/- The table of functions, those of the library as they are known, in a world whose tables stand. Own text of the prover; nothing is assumed. -/
import Derived.Test.YtmbaaiifdjoibaaGreatDoorQa
import Derived.Test.YtmbaaiifdjoibaaGreatDoorLib
import Derived.Lib.LaidU8T
import Derived.Lib.AppendIntMem
import Derived.Shelf.Vars
set_option maxRecDepth 100000
namespace Go.SV
open Go.Proofs Go.RowKit

def gValid : List AV → AH → Option (AV × AH)
  | [.str s], H => if s.length < 2 ^ 60 then some (.bool (Lib.validD s), H) else none
  | _, _ => none
def gByte : List AV → AH → Option (AV × AH)
  | [.str s, .int .u8 n], H => some (.int .i64 (Lib.indexByte s n.toNat.toUInt8), H)
  | _, _ => none
def gContains : List AV → AH → Option (AV × AH)
  | [.str s, .str p], H => if s.length < 4294967281 then some (.bool (Lib.contains s p), H) else none
  | _, _ => none
def gItoa : List AV → AH → Option (AV × AH)
  | [.int .i64 n], H => if 0 ≤ n ∧ n < 2 ^ 62 then some (.str (Lib.itoa n), H) else none
  | _, _ => none

def table (k : Nat) : Option Entry := match irAt k with
  | some f => some (.ir f)
  | none => if k = 43 then some (.known gValid) else if k = 65 then some (.known gByte) else if k = 104 then some (.known gContains)
    else if k = 126 then some (.known gItoa) else none

theorem table_has : Has table := fun k f h => by simp only [table, h]
theorem table_none {k : Nat} (h : irAt k = none) : table k = if k = 43 then some (.known gValid) else if k = 65 then some (.known gByte) else if k = 104 then some (.known gContains)
    else if k = 126 then some (.known gItoa) else none := by simp only [table, h]
/-- The library's tables stand, and one number is some number. -/
structure Tabs (W : World) : Prop where
  u8 : Lib.Utf8Tabs (Tryz.lays196_ren.g 3) (Tryz.lays196_ren.g 4) W
  pow : Lib.TabIs Tryz.prog W "internal/strconv.uint64pow10" .u64 Lib.pow10Tab
  max : ∃ m, W.cell? ⟨0, 0, none⟩ = some (.int .i64 m)

theorem cell_keep {W w : World} (h : ∀ r, r < W.heap.size → w.heap[r]? = W.heap[r]?) {r i : Nat} {x : Value} (hx : W.cell? ⟨r, i, none⟩ = some x) : w.cell? ⟨r, i, none⟩ = some x := by
  have hl := lt_of_cell hx
  unfold World.cell? at hx ⊢
  simp only at hx ⊢
  rw [h r hl]; exact hx

theorem Tabs.keep {W w : World} (t : Tabs W) (h : ∀ r, r < W.heap.size → w.heap[r]? = W.heap[r]?) : Tabs w := by
  refine ⟨⟨fun c hc => cell_keep h (t.u8.1 c hc), fun i hi => ⟨cell_keep h (t.u8.2 i hi).1, cell_keep h (t.u8.2 i hi).2⟩⟩, ?_, ?_⟩
  · have hp := t.pow
    unfold Lib.TabIs World.var? at hp ⊢
    simp only [Option.bind_eq_some_iff] at hp ⊢
    obtain ⟨g, hg, hv⟩ := hp
    refine ⟨g, hg, ?_⟩
    have hl : g < W.heap.size := by
      rcases Nat.lt_or_ge g W.heap.size with hl | hl
      · exact hl
      · rw [Array.getElem?_eq_none hl] at hv; simp at hv
    rw [h g hl]; exact hv
  · obtain ⟨m, hm⟩ := t.max
    exact ⟨m, cell_keep h hm⟩

theorem enters (k : Nat) (fn : Func) (h1 : Tryz.prog.funcs[k]? = some fn) (h2 : fn.body.isSome = true) (h3 : (fn.name == "runtime.NumGoroutine") = false) : Enters Tryz.prog k := ⟨fn, h1, h2, h3⟩

theorem table_each {W : World} (t : Tabs W) (k : Nat) (e : Entry) (h : table k = some e) : EntryOk Tryz.prog (Laid.of W) k e := by
  unfold table at h
  split at h
  · rename_i f hf
    simp only [Option.some.injEq] at h
    subst h
    exact irAt_ok _ hf
  · split at h
    · rename_i hk
      simp only [Option.some.injEq] at h
      subst hk; subst h
      refine ⟨enters _ _ Tryz.func43 (by kernel_rfl) (by kernel_rfl), fun args H v H' hg => ?_⟩
      unfold gValid at hg
      split at hg
      · rename_i s
        split at hg
        · rename_i hl
          simp only [Option.some.injEq, Prod.mk.injEq] at hg
          obtain ⟨rfl, rfl⟩ := hg
          refine known_str (u := .bool (Lib.validD s)) (fun E w => .bool _) fun w hw => ?_
          have hz : (⟨s.toArray⟩ : ByteArray).size = s.length := rfl
          have := Tryz.utf8_ValidString ⟨s.toArray⟩ w (by rw [hz]; omega) (t.keep hw).u8
          exact this.mono fun e w' ⟨he, hb⟩ => ⟨by rw [he], hb⟩
        · simp at hg
      · simp at hg
    · split at h
      · rename_i hk
        simp only [Option.some.injEq] at h
        subst hk; subst h
        refine ⟨enters _ _ Tryz.func65 (by kernel_rfl) (by kernel_rfl), fun args H v H' hg => ?_⟩
        unfold gByte at hg
        split at hg
        · rename_i s n
          simp only [Option.some.injEq, Prod.mk.injEq] at hg
          obtain ⟨rfl, rfl⟩ := hg
          refine CallSim.of_below fun E w rs hr ha => ?_
          obtain ⟨x, y, rfl, hx, hy⟩ := ha.two
          cases hx
          cases hy
          refine ⟨.int .i64 (Lib.indexByte s n.toNat.toUInt8), fun w' _ => .int _ _, ?_⟩
          exact (Tryz.strings_IndexByte ⟨s.toArray⟩ n w).mono fun e w' ⟨he, hw⟩ => ⟨he, by rw [hw]; exact Below.refl _ _⟩
        · simp at hg
      · split at h
        · rename_i hk
          simp only [Option.some.injEq] at h
          subst hk; subst h
          refine ⟨enters _ _ Tryz.func104 (by kernel_rfl) (by kernel_rfl), fun args H v H' hg => ?_⟩
          unfold gContains at hg
          split at hg
          · rename_i s p
            split at hg
            · rename_i hl
              simp only [Option.some.injEq, Prod.mk.injEq] at hg
              obtain ⟨rfl, rfl⟩ := hg
              refine CallSim.of_below fun E w rs hr ha => ?_
              obtain ⟨x, y, rfl, hx, hy⟩ := ha.two
              cases hx
              cases hy
              refine ⟨.bool (Lib.contains s p), fun w' _ => .bool _, ?_⟩
              obtain ⟨m, hm⟩ := (t.keep fun r hr' => (hr.laid.2 r hr').2).max
              exact (Tryz.strings_Contains ⟨s.toArray⟩ ⟨p.toArray⟩ m w hl hm).mono fun e w' ⟨he, hw⟩ => ⟨he, by rw [hw]; exact Below.refl _ _⟩
            · simp at hg
          · simp at hg
        · split at h
          · rename_i hk
            simp only [Option.some.injEq] at h
            subst hk; subst h
            refine ⟨enters _ _ Tryz.func126 (by kernel_rfl) (by kernel_rfl), fun args H v H' hg => ?_⟩
            unfold gItoa at hg
            split at hg
            · rename_i n
              split at hg
              · rename_i hl
                simp only [Option.some.injEq, Prod.mk.injEq] at hg
                obtain ⟨rfl, rfl⟩ := hg
                refine CallSim.of_below fun E w rs hr ha => ?_
                obtain ⟨x, rfl, hx⟩ := ha.one
                cases hx
                refine ⟨.string ⟨(Lib.itoa n).toArray⟩, fun w' _ => .str _, ?_⟩
                exact (Tryz.strconv_Itoa n (by omega) (by omega) w (t.keep fun r hr' => (hr.laid.2 r hr').2).pow).mono fun e w' ⟨he, k, os, hw⟩ => ⟨he, by rw [hw]; exact Lib.below_grow _ w (Nat.le_refl _) k os⟩
              · simp at hg
            · simp at hg
          · simp at h
end Go.SV
