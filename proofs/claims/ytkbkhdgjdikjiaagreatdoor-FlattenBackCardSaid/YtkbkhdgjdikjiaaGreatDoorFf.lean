/- Contracts: the same graph in the document's words, the very same nodes; the law of graphs that come back. Own text of the prover; nothing is assumed. -/
import Derived.Test.YtkbkhdgjdikjiaaGreatDoorFe
import Derived.Test.YtkbkhdgjdikjiaaGreatDoorFg
import Derived.Test.YtkbkhdgjdikjiaaGreatDoorPh
set_option maxRecDepth 100000
namespace Go.SV

variable {T : Nat → Option Entry}

theorem oursG_ok (hT : Has T) {v : AV} {g : List Nd} (hv : IsG v g) (hg : MemG g) (H : AH) (hp : 0 < H.toks.length) :
    ∃ v' H', Den.of T 18 [v] H = some (v', H') ∧ IsG v' g ∧ Grow H H' := by
  refine w18_ok hT ?_
  unfold w18
  refine g_lenW hv ?_
  have hgl := hg.1
  refine l2 (fun m a c H' => ∃ (i : Nat) (xs : List AV), c = .int .i64 i ∧ i ≤ g.length ∧ Grow H H' ∧ Tok H H' 4 a xs ∧ F2 IsNd xs (g.take i) ∧ m = g.length - i) g.length ⟨0, [], rfl, Nat.zero_le _, .refl _, .nil _ _ _, by simp; exact .nil, rfl⟩ ?_
  rintro m ov _ H1 ⟨i, xs, rfl, hi, g1, ht, hf, hm⟩
  (repeat (with_reducible first | refine Stp.go ?_ | (refine i_cT ?_ ?_; · first | assumption | decide | exact rfl) | (refine i_cF ?_ ?_; · first | assumption | decide | exact rfl) | (refine i_T ?_ ?_; · first | assumption | exact rfl) | (refine i_F ?_ ?_; · first | assumption | exact rfl) | (refine Sts.go ?_ ?_; · first | omega | decide) | refine Stu.go ?_))
  refine i_dec (fun h => ?_) (fun h => ?_)
  rotate_left
  · rw [show i = g.length by omega, List.take_length] at hf
    exact ⟨ht.row hf, g1⟩
  have hlt : i < g.length := by omega
  have htk : g.take (i + 1) = g.take i ++ [g[i]] := by rw [List.take_add_one, List.getElem?_eq_getElem hlt]; rfl
  have hni := hg.2 _ (List.getElem_mem hlt)
  refine g_atn hv (List.getElem?_eq_getElem hlt) fun x hx => ?_
  have hok := hx.ok
  generalize g[i] = n at *
  obtain ⟨kv, rfl, hkv⟩ := hx
  refine g_ldv4 ?_
  refine a_i ?_
  refine h_top (c' := [AV.int IntKind.i64 n.kind, AV.str n.tag, AV.str n.text, kv]) hok.1 hok.2.1 hok.2.2 (by simp) rfl ?_
  have cb := Holds.push H1 [AV.int IntKind.i64 n.kind, AV.str n.tag, AV.str n.text, kv]
  have g3 := g1.trans (.push _ (.cells [AV.int IntKind.i64 n.kind, AV.str n.tag, AV.str n.text, kv]))
  have ht3 := ht.grow (.push _ (.cells [AV.int IntKind.i64 n.kind, AV.str n.tag, AV.str n.text, kv]))
  generalize H1.push (.cells [AV.int IntKind.i64 n.kind, AV.str n.tag, AV.str n.text, kv]) = H3 at *
  generalize H1.obs.length = b at *
  (repeat (first | (with_reducible first | refine Stp.go ?_ | (refine i_cT ?_ ?_; · first | assumption | decide | exact rfl) | (refine i_cF ?_ ?_; · first | assumption | decide | exact rfl) | (refine i_T ?_ ?_; · first | assumption | exact rfl) | (refine i_F ?_ ?_; · first | assumption | exact rfl) | (refine Sts.go ?_ ?_; · first | omega | decide) | refine Stu.go ?_) | refine g_h1 cb rfl ?_))
  refine c_i (clone_ok hT hkv (by omega) H3 (g3.pos hp)) ?_
  rintro kv' H4 ⟨hkv', g4⟩
  have hnd : IsNd (.agg [AV.int IntKind.i64 n.kind, AV.str n.tag, AV.str n.text, kv']) n := ⟨kv', rfl, hkv'⟩
  refine gP_i (v := .agg [AV.int IntKind.i64 n.kind, AV.str n.tag, AV.str n.text, kv']) ?_ ?_
  · have hd : kv'.def? = true := hkv'.def
    have hc : kv'.cells = [kv'] := hkv'.cells
    simp only [aBuild, hd, hc]
    rfl
  refine s_lit (elemsOk_nd hnd) ?_
  have hxl := hf.1
  rw [List.length_take] at hxl
  refine s_app (ht3.grow g4) (g3.trans g4) hp (by simp) (elemsOk_nd hnd) (by simp; omega) fun v' H6 ht6 g6 _ => ?_
  refine ⟨same_grow g4 cb.1, same_grow g4 cb.1, same_grow g4 cb.1, ?_⟩
  (repeat (with_reducible first | refine Stp.go ?_ | (refine i_cT ?_ ?_; · first | assumption | decide | exact rfl) | (refine i_cF ?_ ?_; · first | assumption | decide | exact rfl) | (refine i_T ?_ ?_; · first | assumption | exact rfl) | (refine i_F ?_ ?_; · first | assumption | exact rfl) | (refine Sts.go ?_ ?_; · first | omega | decide) | refine Stu.go ?_))
  exact ⟨g.length - (i + 1), by omega, i + 1, _, by congr 1, by omega, g6, ht6, by rw [htk]; exact hf.snoc hnd, rfl⟩


theorem refEqual_ok (hT : Has T) {v w : AV} {a b : List Nd} (hv : IsG v a) (hw : IsG w b) (ha : a.length < 2 ^ 62) (hk : ∀ n ∈ a, n.kids.length < 2 ^ 62) (H : AH) :
    Den.of T 17 [v, w] H = some (.bool (decide (a = b)), H) := by
  refine eq_of (w17_ok hT ?_)
  unfold w17
  refine g_lenW hv ?_
  refine g_lenW hw ?_
  refine Stp.go ?_
  refine Stp.go ?_
  refine i_c (fun h => ?_) (fun h => ?_)
  rotate_left
  · exact ⟨by rw [decide_eq_false]; intro e; exact h (by rw [e]), rfl⟩
  refine l1 (fun k x H' => ∃ i : Nat, x = .int .i64 i ∧ i ≤ a.length ∧ H = H' ∧ (a = b ↔ a.drop i = b.drop i) ∧ k = a.length - i) a.length ⟨0, rfl, Nat.zero_le _, rfl, Iff.rfl, rfl⟩ ?_
  rintro k _ _ ⟨i, rfl, hi, rfl, he, hkk⟩
  refine g_lenW hv ?_
  refine Stp.go ?_
  refine i_c (fun h2 => ?_) (fun h2 => ?_)
  rotate_left
  · rw [List.drop_eq_nil_of_le (by omega), List.drop_eq_nil_of_le (by omega)] at he
    exact ⟨by rw [decide_eq_true (he.2 rfl)], rfl⟩
  have h3 : i < a.length := by omega
  have h4 : i < b.length := by omega
  have hka := hk _ (List.getElem_mem h3)
  have ga := List.getElem?_eq_getElem h3
  have gb := List.getElem?_eq_getElem h4
  rw [drop_eq ga gb] at he
  generalize a[i] = na at *
  generalize b[i] = nb at *
  have hnd : na = nb ↔ na.kind = nb.kind ∧ na.tag = nb.tag ∧ na.text = nb.text ∧ na.kids = nb.kids := by
    obtain ⟨_, _, _, _⟩ := na
    obtain ⟨_, _, _, _⟩ := nb
    simp
  -- a field of a node of each
  have fA : ∀ {k : AV → Prop}, (∀ x kv, x = [AV.int .i64 na.kind, .str na.tag, .str na.text, kv] → RowOf 1 IsI kv na.kids → k (.vp x)) → gP (aIdxAddr 4 v (.int .i64 (i : Int))) k := by
    intro k hk
    refine g_atn hv ga fun x hx => ?_
    obtain ⟨kv, rfl, hkv⟩ := hx
    exact hk _ kv rfl hkv
  have fB : ∀ {k : AV → Prop}, (∀ x kv, x = [AV.int .i64 nb.kind, .str nb.tag, .str nb.text, kv] → RowOf 1 IsI kv nb.kids → k (.vp x)) → gP (aIdxAddr 4 w (.int .i64 (i : Int))) k := by
    intro k hk
    refine g_atn hw gb fun x hx => ?_
    obtain ⟨kv, rfl, hkv⟩ := hx
    exact hk _ kv rfl hkv
  refine j1 (fun x H' => x = .bool (!decide (na.kind = nb.kind ∧ na.tag = nb.tag ∧ na.text = nb.text ∧ na.kids.length = nb.kids.length)) ∧ H = H') ?_ ?_
  rotate_left
  · intro j hj
    refine fA fun _ kv e _ => ?_
    subst e
    refine Stp.go ?_
    refine Stp.go ?_
    refine fB fun _ kv e _ => ?_
    subst e
    refine Stp.go ?_
    refine Stp.go ?_
    refine Stp.go ?_
    refine Stp.go ?_
    refine Stp.go ?_
    refine i_c (fun e1 => ?_) (fun e1 => ?_)
    rotate_left
    · exact hj _ _ ⟨by rw [decide_eq_false (fun e => e1 e.1)]; rfl, rfl⟩
    refine fA fun _ kv e _ => ?_
    subst e
    refine Stp.go ?_
    refine Stp.go ?_
    refine fB fun _ kv e _ => ?_
    subst e
    refine Stp.go ?_
    refine Stp.go ?_
    refine Stp.go ?_
    refine Stp.go ?_
    refine Stp.go ?_
    refine i_c (fun e2 => ?_) (fun e2 => ?_)
    rotate_left
    · exact hj _ _ ⟨by rw [decide_eq_false (fun e => e2 e.2.1)]; rfl, rfl⟩
    refine fA fun _ kv e _ => ?_
    subst e
    refine Stp.go ?_
    refine Stp.go ?_
    refine fB fun _ kv e _ => ?_
    subst e
    refine Stp.go ?_
    refine Stp.go ?_
    refine Stp.go ?_
    refine Stp.go ?_
    refine Stp.go ?_
    refine i_c (fun e3 => ?_) (fun e3 => ?_)
    rotate_left
    · exact hj _ _ ⟨by rw [decide_eq_false (fun e => e3 e.2.2.1)]; rfl, rfl⟩
    refine fA fun _ kv e hkv => ?_
    subst e
    refine Stp.go ?_
    refine Stp.go ?_
    refine g_lenW hkv ?_
    refine fB fun _ kw e hkw => ?_
    subst e
    refine Stp.go ?_
    refine Stp.go ?_
    refine g_lenW hkw ?_
    refine Stp.go ?_
    refine hj _ _ ⟨?_, rfl⟩
    congr 1
    rw [Bool.eq_iff_iff]
    simp only [e1, e2, e3, true_and, Bool.not_eq_true', beq_eq_false_iff_ne, decide_eq_false_iff_not, ne_eq]
    omega
  rintro _ _ ⟨rfl, rfl⟩
  refine i_i (fun h5 => ?_) (fun h5 => ?_)
  · simp only [Bool.not_eq_true', decide_eq_false_iff_not] at h5
    exact ⟨by rw [decide_eq_false]; intro e; exact h5 (by have := (he.1 e).1; rw [this]; exact ⟨rfl, rfl, rfl, rfl⟩), rfl⟩
  simp only [Bool.not_eq_false', decide_eq_true_eq] at h5
  obtain ⟨e1, e2, e3, e4⟩ := h5
  refine l1 (fun q x H' => ∃ j : Nat, x = .int .i64 j ∧ j ≤ na.kids.length ∧ H = H' ∧ (na.kids = nb.kids ↔ na.kids.drop j = nb.kids.drop j) ∧ q = na.kids.length - j) na.kids.length ⟨0, rfl, Nat.zero_le _, rfl, Iff.rfl, rfl⟩ ?_
  rintro q _ _ ⟨j, rfl, hj, rfl, hek, hq⟩
  refine fA fun _ kv e hkv => ?_
  subst e
  refine Stp.go ?_
  refine Stp.go ?_
  refine g_lenW hkv ?_
  refine Stp.go ?_
  refine i_c (fun h6 => ?_) (fun h6 => ?_)
  rotate_left
  · rw [List.drop_eq_nil_of_le (by omega), List.drop_eq_nil_of_le (by omega)] at hek
    refine g_add64 (by omega) ?_
    exact ⟨a.length - (i + 1), by omega, i + 1, by congr 1, by omega, rfl, he.trans ⟨fun h => h.2, fun h => ⟨hnd.2 ⟨e1, e2, e3, hek.2 rfl⟩, h⟩⟩, rfl⟩
  have h7 : j < na.kids.length := by omega
  have h8 : j < nb.kids.length := by omega
  have gk := List.getElem?_eq_getElem h7
  have gl := List.getElem?_eq_getElem h8
  rw [drop_eq gk gl] at hek
  refine fA fun _ kv e hkv => ?_
  subst e
  refine Stp.go ?_
  refine Stp.go ?_
  refine g_atIn hkv gk ?_
  refine Stp.go ?_
  refine fB fun _ kw e hkw => ?_
  subst e
  refine Stp.go ?_
  refine Stp.go ?_
  refine g_atIn hkw gl ?_
  refine Stp.go ?_
  refine Stp.go ?_
  refine Stp.go ?_
  refine i_c (fun h9 => ?_) (fun h9 => ?_)
  · refine g_add64 (by omega) ?_
    exact ⟨na.kids.length - (j + 1), by omega, j + 1, by congr 1, by omega, rfl, hek.trans ⟨fun h => h.2, fun h => ⟨h9, h⟩⟩, rfl⟩
  · exact ⟨by rw [decide_eq_false]; intro e; exact h9 (hek.1 ((hnd.1 (he.1 e).1).2.2.2)).1, rfl⟩

theorem eventsG_cases (l : List (List Nd)) : (eventsG l = ([], 5)) ∨ (eventsG l = ([], 13)) ∨ ((∀ g ∈ l, rightG g = true ∧ (tellG g).most ≤ 40) ∧ eventsG l = (l.flatMap docE, 0)) := by
  unfold eventsG
  by_cases h1 : l.all rightG = true
  · rw [if_pos h1]
    by_cases h2 : l.any (fun g => decide (40 < (tellG g).most)) = true
    · rw [if_pos h2]; exact .inr (.inl rfl)
    · rw [if_neg h2]
      refine .inr (.inr ⟨fun g hg => ⟨List.all_eq_true.1 h1 g hg, ?_⟩, rfl⟩)
      have h3 : l.any (fun g => decide (40 < (tellG g).most)) = false := by simpa using h2
      rw [List.any_eq_false] at h3
      have := h3 g hg
      simp only [decide_eq_true_eq] at this
      omega
  · rw [if_neg h1]; exact .inl rfl

/-- Texts of events are those of nodes. -/
theorem wq_text {g : List Nd} (hr : rightG g = true) {B : Nat} (hB : 2 ^ 12 ≤ B) (ht : ∀ n ∈ g, n.text.length < B ∧ n.tag.length < B) {met m : Nat} {ks : List Int} {s : List Ev} (w : Wq g met ks m s) : ∀ e ∈ s, e.text.length < B ∧ e.tag.length < B := by
  have ev : ∀ n, n ∈ g → (eventOf n).text.length < B ∧ (eventOf n).tag.length < B := by
    intro n hn
    have h := ht n hn
    have hu : ∀ p : List UInt8, (unlT n.tag p).length < B := by
      intro p
      unfold unlT
      split
      · simp; omega
      · exact h.2
    unfold eventOf
    split
    · exact ⟨by simp; omega, hu _⟩
    · split
      · exact ⟨by simp; omega, hu _⟩
      · split
        · split
          · exact ⟨h.1, by simp; omega⟩
          · exact ⟨h.1, hu _⟩
        · exact ⟨by simp; omega, by simp; omega⟩
  have hz : ∀ e ∈ ([] : List Ev), e.text.length < B ∧ e.tag.length < B := by simp
  induction w with
  | nil => exact hz
  | alias _ _ _ _ ih =>
    intro e he
    simp only [List.mem_cons] at he
    rcases he with rfl | he
    · exact ⟨by simp [aliasE]; omega, by simp [aliasE]; omega⟩
    · exact ih e he
  | leaf hn _ _ _ _ ih =>
    intro e he
    simp only [List.mem_cons] at he
    rcases he with rfl | he
    · exact ev _ (List.mem_of_getElem? hn)
    · exact ih e he
  | node hn _ _ _ _ ih1 ih2 =>
    intro e he
    simp only [List.mem_cons, List.mem_append] at he
    rcases he with rfl | he | rfl | he
    · exact ev _ (List.mem_of_getElem? hn)
    · exact ih1 e he
    · exact ⟨by simp [closeE]; omega, by simp [closeE]; omega⟩
    · exact ih2 e he

end Go.SV
