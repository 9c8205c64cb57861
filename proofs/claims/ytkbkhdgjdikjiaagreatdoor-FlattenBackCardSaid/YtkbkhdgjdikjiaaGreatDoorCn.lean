/- Contracts: the answers that the document fixes, and the law of tags. Own text of the prover; nothing is assumed. -/
import Derived.Test.YtkbkhdgjdikjiaaGreatDoorCm
set_option maxRecDepth 100000
namespace Go.SV

variable {T : Nat → Option Entry}

theorem cells_ev (a b : Ev) : cellsEq [.int, .str, .str, .str, .bool] [.int .i64 a.kind, .str a.anchor, .str a.tag, .str a.text, .bool a.plain] [.int .i64 b.kind, .str b.anchor, .str b.tag, .str b.text, .bool b.plain] = some (decide (a = b)) := by
  simp only [cellsEq, cellEq, if_true, Option.bind_some, Option.some.injEq]
  rw [Bool.eq_iff_iff]
  obtain ⟨a1, a2, a3, a4, a5⟩ := a
  obtain ⟨b1, b2, b3, b4, b5⟩ := b
  simp
theorem s_eqE {a b : Ev} {neg : Bool} {H : AH} {k : AV → AH → Prop} (h : k (.bool (if neg = true then !decide (a = b) else decide (a = b))) H) : sP (aop [] (.eqAgg [.int, .str, .str, .str, .bool] neg (.cst (encE a)) (.cst (encE b))) H) k := by
  refine sP_i (v := .bool (if neg = true then !decide (a = b) else decide (a = b))) (H := H) ?_ h
  simp only [aop, Opd.ev, encE, cells_ev, Option.map_some]

def n0 : Nd := ⟨1, tSeq, [], [0]⟩
def n1 : Nd := ⟨0, tStr, [53], []⟩
def n2 : Nd := ⟨2, tMap, [], []⟩
theorem itoa1 : Lib.itoa ((1 : Nat) : Int) = [49] := by
  unfold Lib.itoa
  rw [if_neg (by decide), show (((1 : Nat) : Int)).toNat = 1 from rfl, Lib.decDigits_one (by decide)]
  rfl
theorem names0 : namesG (normal [n0]) = [[97, 49]] := by
  have h1 : namesG (normal [n0]) = [anchorN 1] := by kernel_rfl
  rw [h1, anchorN, itoa1]
theorem tell0 (x : List UInt8) : tellF (normal [n0]) [x] ((normal [n0]).length + 1) ⟨[], 0, 0, 0⟩ 0 = ⟨[⟨2, x, [], [], false⟩, ⟨7, x, [], [], false⟩, ⟨3, [], [], [], false⟩], 1, 0, 1⟩ := by kernel_rfl
theorem right0 : rightG [n0] = true := by kernel_rfl
theorem events0 : eventsG [[n0]] = ([evB, ⟨2, [97, 49], [], [], false⟩, ⟨7, [97, 49], [], [], false⟩, ⟨3, [], [], [], false⟩, evE], 0) := by
  have ht : tellG [n0] = ⟨[⟨2, [97, 49], [], [], false⟩, ⟨7, [97, 49], [], [], false⟩, ⟨3, [], [], [], false⟩], 1, 0, 1⟩ := by rw [tellG, names0, tell0]
  unfold eventsG
  rw [if_pos (by simp [right0]), if_neg (by simp [ht])]
  simp [docE, ht]
theorem event1 : eventOf n1 = ⟨6, [], [], [53], false⟩ := by kernel_rfl
theorem deep2 : deepG [n2] = 1 := by kernel_rfl

theorem okN0 : OkN n0 := ⟨by decide, by decide, by decide⟩
theorem okN1 : OkN n1 := ⟨by decide, by decide, by decide⟩
theorem okN2 : OkN n2 := ⟨by decide, by decide, by decide⟩
theorem okG1 {n : Nd} (h : OkN n) : OkG [n] := ⟨by simp, fun m hm => by simp only [List.mem_singleton] at hm; rw [hm]; exact h⟩
theorem rowG1 {x : AV} {n : Nd} (t : Nat) (h : IsNd x n) : IsG (.sl t 4 [x]) [n] := .inr ⟨t, _, rfl, by have := (F2.nil (R := IsNd)).snoc h; simpa using this⟩
theorem rowG11 {x : AV} {g : List Nd} (t : Nat) (h : IsG x g) : RowOf 1 IsGv (.sl t 1 [x]) [g] := .inr ⟨t, _, rfl, by have := (F2.nil (R := IsGv)).snoc (show IsGv x g from h); simpa using this⟩

theorem alive_ok (hT : Has T) (hK : Knows T) (H : AH) (hp : 0 < H.toks.length) :
    ∃ H', Den.of T 13 [] H = some (.bool true, H') ∧ Grow H H' := by
  refine gr_of (w13_ok hT ?_)
  unfold w13
  refine s_lit rfl ?_
  refine gP_i (v := .agg [.int .i64 1, .str tSeq, .str [], .sl 0 1 [.int .i64 0]]) rfl ?_
  have hx0 : IsNd (.agg [.int .i64 1, .str tSeq, .str [], .sl 0 1 [.int .i64 0]]) n0 := ⟨_, rfl, RowOf.ints (l := [0]) 0⟩
  refine s_lit (elemsOk_nd hx0) ?_
  refine s_lit rfl ?_
  refine c_i (events_ok hT hK (rowG11 0 (rowG1 0 hx0)) (by decide) (fun g hg => by simp only [List.mem_singleton] at hg; rw [hg]; exact okG1 okN0) H hp) ?_
  rintro _ H4 ⟨⟨ov, rfl, hov⟩, g4⟩
  rw [events0] at hov ⊢
  (repeat (with_reducible first | refine Stp.go ?_ | (refine i_cT ?_ ?_; · first | assumption | decide | exact rfl) | (refine i_cF ?_ ?_; · first | assumption | decide | exact rfl) | (refine i_T ?_ ?_; · first | assumption | exact rfl) | (refine i_F ?_ ?_; · first | assumption | exact rfl) | (refine Sts.go ?_ ?_; · first | omega | decide) | refine Stu.go ?_))
  refine gP_i (v := .agg [.int .i64 0, .str tStr, .str [53], .nils]) rfl ?_
  have hx1 : IsNd (.agg [.int .i64 0, .str tStr, .str [53], .nils]) n1 := ⟨_, rfl, .inl ⟨rfl, rfl⟩⟩
  refine c_gr (event_ok hT hK hx1 okN1 H4) fun H5 g5 => ?_
  rw [event1]
  refine a_i ?_
  refine h_top (c' := (encE ⟨6, [], [], [53], false⟩).cells) rfl rfl rfl (by simp) rfl ?_
  have p3 := Holds.push H5 (encE ⟨6, [], [], [53], false⟩).cells
  have g7 : Grow H (H5.push (.cells (encE ⟨6, [], [], [53], false⟩).cells)) := (g4.trans g5).pushed
  generalize H5.push (.cells (encE ⟨6, [], [], [53], false⟩).cells) = H7 at *
  generalize H5.obs.length = b at *
  refine g_lenW hov ?_
  (repeat (with_reducible first | refine Stp.go ?_ | (refine i_cT ?_ ?_; · first | assumption | decide | exact rfl) | (refine i_cF ?_ ?_; · first | assumption | decide | exact rfl) | (refine i_T ?_ ?_; · first | assumption | exact rfl) | (refine i_F ?_ ?_; · first | assumption | exact rfl) | (refine Sts.go ?_ ?_; · first | omega | decide) | refine Stu.go ?_))
  refine g_at hov (by decide) (y := ⟨2, [97, 49], [], [], false⟩) rfl fun x hx => ?_
  cases hx
  refine g_ldv5 ?_
  refine gP_i (v := encE ⟨2, [97, 49], [], [], false⟩) rfl ?_
  refine s_eqE (a := ⟨2, [97, 49], [], [], false⟩) (b := ⟨2, [97, 49], [], [], false⟩) ?_
  refine d_t ?_
  refine i_T rfl ?_
  refine g_at hov (by decide) (y := ⟨7, [97, 49], [], [], false⟩) rfl fun x hx => ?_
  cases hx
  refine g_ldv5 ?_
  refine gP_i (v := encE ⟨7, [97, 49], [], [], false⟩) rfl ?_
  refine s_eqE (a := ⟨7, [97, 49], [], [], false⟩) (b := ⟨7, [97, 49], [], [], false⟩) ?_
  refine d_t ?_
  refine i_T rfl ?_
  (repeat (with_reducible first | refine Stp.go ?_ | (refine i_cT ?_ ?_; · first | assumption | decide | exact rfl) | (refine i_cF ?_ ?_; · first | assumption | decide | exact rfl) | (refine i_T ?_ ?_; · first | assumption | exact rfl) | (refine i_F ?_ ?_; · first | assumption | exact rfl) | (refine Sts.go ?_ ?_; · first | omega | decide) | refine Stu.go ?_))
  refine g_hN p3 rfl ?_
  refine gP_i (v := encE ⟨6, [], [], [53], false⟩) rfl ?_
  refine s_eqE (a := ⟨6, [], [], [53], false⟩) (b := ⟨6, [], [], [53], false⟩) ?_
  refine d_t ?_
  refine i_T rfl ?_
  refine gP_i (v := .agg [.int .i64 2, .str tMap, .str [], .nils]) rfl ?_
  have hx2 : IsNd (.agg [.int .i64 2, .str tMap, .str [], .nils]) n2 := ⟨_, rfl, .inl ⟨rfl, rfl⟩⟩
  refine s_lit (elemsOk_nd hx2) ?_
  refine c_gr (deep_ok hT hK (rowG1 0 hx2) (okG1 okN2) H7 (g7.pos hp)) fun H12 g12 => ?_
  rw [deep2]
  (repeat (with_reducible first | refine Stp.go ?_ | (refine i_cT ?_ ?_; · first | assumption | decide | exact rfl) | (refine i_cF ?_ ?_; · first | assumption | decide | exact rfl) | (refine i_T ?_ ?_; · first | assumption | exact rfl) | (refine i_F ?_ ?_; · first | assumption | exact rfl) | (refine Sts.go ?_ ?_; · first | omega | decide) | refine Stu.go ?_))
  exact ⟨rfl, g7.trans g12⟩

/-! ### A copy of one node that may be written -/
/-! ### The law of tags -/
theorem tagOf2 (a t x : List UInt8) (p : Bool) : tagOf ⟨2, a, t, x, p⟩ = namedT t tSeq := by unfold tagOf; rw [if_pos rfl]
theorem tagOf4 (a t x : List UInt8) (p : Bool) : tagOf ⟨4, a, t, x, p⟩ = namedT t tMap := by unfold tagOf; rw [if_neg (show ¬ ((4 : Int) = 2) by decide), if_pos rfl]
theorem tagOf6 (a t x : List UInt8) (p : Bool) : tagOf ⟨6, a, t, x, p⟩ = if t = [] ∧ p = true then (resolve x, 0) else if t = [] then (tStr, 0) else if fits t x = true then (t, 0) else ([], 14) := by
  unfold tagOf; rw [if_neg (show ¬ ((6 : Int) = 2) by decide), if_neg (show ¬ ((6 : Int) = 4) by decide), if_pos rfl]
theorem plainlaw_tag (n : Nd) (hr : rightG [{ n with kids := [] }] = true) :
    tagOf (eventOf n) = (n.tag, 0) ∧ (eventOf n).text = n.text ∧ (eventOf n).anchor = [] ∧ ((eventOf n).plain = true → (eventOf n).tag = []) := by
  have h1 : rightN [{ n with kids := [] }] { n with kids := [] } = true := by
    simp only [rightG, Bool.and_eq_true, Bool.not_eq_true'] at hr
    have := hr.2.1
    rw [List.any_eq_false] at this
    have := this { n with kids := [] } (by simp)
    simpa using this
  have own0nil : own0 [] = false := by kernel_rfl
  have fitsnil : ∀ s, fits [] s = false := fun s => by
    unfold fits
    rw [if_neg (by decide)]
    have : own [] = false := by kernel_rfl
    rw [this]; rfl
  unfold rightN at h1
  simp only [List.any_nil, Bool.false_eq_true, if_false, List.length_nil, decide_true, Bool.true_and] at h1
  by_cases k0 : n.kind = 0
  · rw [if_pos k0, Bool.and_eq_true] at h1
    have hf := h1.2
    have he : eventOf n = if plainT n.text = true ∧ resolve n.text = n.tag then ⟨6, [], [], n.text, true⟩ else ⟨6, [], unlT n.tag tStr, n.text, false⟩ := by
      rw [eventOf, if_neg (by omega), if_neg (by omega), if_pos k0]
    by_cases hp : plainT n.text = true ∧ resolve n.text = n.tag
    · rw [he, if_pos hp]
      refine ⟨?_, rfl, rfl, fun _ => rfl⟩
      rw [tagOf6, if_pos ⟨rfl, rfl⟩, hp.2]
    · rw [he, if_neg hp]
      refine ⟨?_, rfl, rfl, fun h => by simp at h⟩
      rw [tagOf6, if_neg (by simp)]
      by_cases ht : n.tag = tStr
      · have : unlT n.tag tStr = [] := by rw [unlT, if_pos ht]
        rw [this, if_pos rfl, ht]
      · have hu : unlT n.tag tStr = n.tag := by rw [unlT, if_neg ht]
        have hne : n.tag ≠ [] := by
          intro e
          rw [e, fitsnil] at hf
          simp at hf
        rw [hu, if_neg hne, if_pos hf]
  rw [if_neg k0] at h1
  by_cases k1 : n.kind = 1
  · rw [if_pos k1, Bool.and_eq_true, Bool.or_eq_true, beq_iff_eq, beq_iff_eq] at h1
    have he : eventOf n = ⟨2, [], unlT n.tag tSeq, [], false⟩ := by rw [eventOf, if_pos k1]
    rw [he]
    refine ⟨?_, h1.2.symm, rfl, fun h => by simp at h⟩
    rw [tagOf2]
    by_cases ht : n.tag = tSeq
    · have : unlT n.tag tSeq = [] := by rw [unlT, if_pos ht]
      rw [this, namedT, if_pos (.inl rfl), ht]
    · have hu : unlT n.tag tSeq = n.tag := by rw [unlT, if_neg ht]
      have ho := h1.1.resolve_right ht
      have hne : n.tag ≠ [] := by intro e; rw [e, own0nil] at ho; simp at ho
      rw [hu, namedT, if_neg (by simp [hne, ht]), if_pos ho]
  rw [if_neg k1] at h1
  by_cases k2 : n.kind = 2
  · rw [if_pos k2] at h1
    simp only [evens, List.any_nil, Bool.false_eq_true, or_false, Nat.zero_mod, ne_eq, not_true_eq_false, if_false] at h1
    rw [Bool.and_eq_true, Bool.or_eq_true, beq_iff_eq, beq_iff_eq] at h1
    have he : eventOf n = ⟨4, [], unlT n.tag tMap, [], false⟩ := by rw [eventOf, if_neg (by omega), if_pos k2]
    rw [he]
    refine ⟨?_, h1.2.symm, rfl, fun h => by simp at h⟩
    rw [tagOf4]
    by_cases ht : n.tag = tMap
    · have : unlT n.tag tMap = [] := by rw [unlT, if_pos ht]
      rw [this, namedT, if_pos (.inl rfl), ht]
    · have hu : unlT n.tag tMap = n.tag := by rw [unlT, if_neg ht]
      have ho := h1.1.resolve_right ht
      have hne : n.tag ≠ [] := by intro e; rw [e, own0nil] at ho; simp at ho
      rw [hu, namedT, if_neg (by simp [hne, ht]), if_pos ho]
  rw [if_neg k2] at h1
  simp at h1

end Go.SV
