/- Contracts: rows of graphs. Own text of the prover; nothing is assumed. -/
import Derived.Test.YtkbkhdgjdikjiaaGreatDoorCn
set_option maxRecDepth 100000
namespace Go.SV

variable {T : Nat → Option Entry}

def heavyR (l : List (List Nd)) : Bool := l.any heavy || decide (5 < l.length)

theorem heavyR_ok (hT : Has T) {v : AV} {l : List (List Nd)} (hv : RowOf 1 IsGv v l) (hl : l.length < 2 ^ 63) (hg : ∀ g ∈ l, g.length < 2 ^ 63) (H : AH) :
    ∃ H', Den.of T 7 [v] H = some (.bool (heavyR l), H') ∧ Grow H H' := by
  refine gr_of (w7_ok hT ?_)
  unfold w7
  refine g_lenW hv ?_
  refine l1 (fun m a H' => ∃ i : Nat, a = .int .i64 i ∧ i ≤ l.length ∧ Grow H H' ∧ heavyR l = ((l.drop i).any heavy || decide (5 < l.length)) ∧ m = l.length - i) l.length ⟨0, rfl, Nat.zero_le _, .refl _, rfl, rfl⟩ ?_
  rintro m _ H1 ⟨i, rfl, hi, g1, he, hm⟩
  (repeat (with_reducible first | refine Stp.go ?_ | (refine i_cT ?_ ?_; · first | assumption | decide | exact rfl) | (refine i_cF ?_ ?_; · first | assumption | decide | exact rfl) | (refine i_T ?_ ?_; · first | assumption | exact rfl) | (refine i_F ?_ ?_; · first | assumption | exact rfl) | (refine Sts.go ?_ ?_; · first | omega | decide) | refine Stu.go ?_))
  refine i_dec (fun h => ?_) (fun h => ?_)
  rotate_left
  · rw [List.drop_eq_nil_of_le (by omega), List.any_nil, Bool.false_or] at he
    (repeat (first | (with_reducible first | refine Stp.go ?_ | (refine i_cT ?_ ?_; · first | assumption | decide | exact rfl) | (refine i_cF ?_ ?_; · first | assumption | decide | exact rfl) | (refine i_T ?_ ?_; · first | assumption | exact rfl) | (refine i_F ?_ ?_; · first | assumption | exact rfl) | (refine Sts.go ?_ ?_; · first | omega | decide) | refine Stu.go ?_) | refine g_lenW hv ?_))
    refine ⟨?_, g1⟩
    rw [he]
    congr 1
    rw [Bool.eq_iff_iff, decide_eq_true_eq, decide_eq_true_eq]
    omega
  have hlt : i < l.length := by omega
  have hgl := hg _ (List.getElem_mem hlt)
  rw [List.drop_eq_getElem_cons hlt, List.any_cons] at he
  refine g_atn hv (List.getElem?_eq_getElem hlt) fun x hx => ?_
  have hxg : IsG x l[i] := hx
  rw [hxg.cells]
  refine g_ldv ?_
  refine c_gb g1 (heavy_ok hT hxg hgl H1) fun H2 g2 => ?_
  refine i_i (fun hh => ?_) (fun hh => ?_)
  · exact ⟨by rw [he, hh]; rfl, g2⟩
  · (repeat (with_reducible first | refine Stp.go ?_ | (refine i_cT ?_ ?_; · first | assumption | decide | exact rfl) | (refine i_cF ?_ ?_; · first | assumption | decide | exact rfl) | (refine i_T ?_ ?_; · first | assumption | exact rfl) | (refine i_F ?_ ?_; · first | assumption | exact rfl) | (refine Sts.go ?_ ?_; · first | omega | decide) | refine Stu.go ?_))
    exact ⟨l.length - (i + 1), by omega, i + 1, by congr 1, by omega, g2, by rw [he, hh, Bool.false_or], rfl⟩

theorem lightR {l : List (List Nd)} (h : heavyR l = false) : (∀ g ∈ l, heavy g = false) ∧ (∀ g ∈ l, OkG g) ∧ l.length ≤ 5 := by
  simp only [heavyR, Bool.or_eq_false_iff, List.any_eq_false, decide_eq_false_iff_not] at h
  have h1 : ∀ g ∈ l, heavy g = false := fun g hg => by simpa using h.1 g hg
  exact ⟨h1, fun g hg => (light (h1 g hg)).1, by omega⟩

theorem memR {l : List (List Nd)} (h : ∀ g ∈ l, OkG g) (hl : l.length ≤ 100) : MemR l := ⟨by omega, fun g hg => (h g hg).mem⟩
theorem theirsR_ok (hT : Has T) {v : AV} {l : List (List Nd)} (hv : RowOf 1 IsGv v l) (hg : MemR l) (H : AH) (hp : 0 < H.toks.length) :
    ∃ v' H', Den.of T 8 [v] H = some (v', H') ∧ (∃ xs, Tok H H' 1 v' xs ∧ F2 IsGv xs l) ∧ Grow H H' := by
  refine w8_ok hT ?_
  unfold w8
  refine g_lenW hv ?_
  have hgl0 := hg.1
  refine l2 (fun m a c H' => ∃ (i : Nat) (xs : List AV), c = .int .i64 i ∧ i ≤ l.length ∧ Grow H H' ∧ Tok H H' 1 a xs ∧ F2 IsGv xs (l.take i) ∧ m = l.length - i) l.length ⟨0, [], rfl, Nat.zero_le _, .refl _, .nil _ _ _, by simp; exact .nil, rfl⟩ ?_
  rintro m ov _ H1 ⟨i, xs, rfl, hi, g1, ht, hf, hm⟩
  (repeat (with_reducible first | refine Stp.go ?_ | (refine i_cT ?_ ?_; · first | assumption | decide | exact rfl) | (refine i_cF ?_ ?_; · first | assumption | decide | exact rfl) | (refine i_T ?_ ?_; · first | assumption | exact rfl) | (refine i_F ?_ ?_; · first | assumption | exact rfl) | (refine Sts.go ?_ ?_; · first | omega | decide) | refine Stu.go ?_))
  refine i_dec (fun h => ?_) (fun h => ?_)
  rotate_left
  · rw [show i = l.length by omega, List.take_length] at hf
    exact ⟨⟨xs, ht, hf⟩, g1⟩
  have hlt : i < l.length := by omega
  have htk : l.take (i + 1) = l.take i ++ [l[i]] := by rw [List.take_add_one, List.getElem?_eq_getElem hlt]; rfl
  have hni := hg.2 _ (List.getElem_mem hlt)
  have hgl := hg.1
  refine g_atn hv (List.getElem?_eq_getElem hlt) fun x hx => ?_
  generalize l[i] = g at *
  have hxg : IsG x g := hx
  rw [hxg.cells]
  refine g_ldv ?_
  refine c_i (theirs_ok hT hxg hni H1 (g1.pos hp)) ?_
  rintro v2 H2 ⟨hv2, e2⟩
  have g2 := g1.trans e2
  refine s_lit (by have := hv2.def; have := hv2.cells; have := hv2.cell; simp [elemsOk, *]) ?_
  have hxl : xs.length = i := by rw [hf.1, List.length_take]; omega
  refine s_app (ht.grow e2) g2 hp (by simp) (by have := hv2.def; have := hv2.cells; have := hv2.cell; simp [elemsOk, *]) (by rw [hxl]; simp; omega) fun v3 H3 ht3 g3 ho => ?_
  (repeat (with_reducible first | refine Stp.go ?_ | (refine i_cT ?_ ?_; · first | assumption | decide | exact rfl) | (refine i_cF ?_ ?_; · first | assumption | decide | exact rfl) | (refine i_T ?_ ?_; · first | assumption | exact rfl) | (refine i_F ?_ ?_; · first | assumption | exact rfl) | (refine Sts.go ?_ ?_; · first | omega | decide) | refine Stu.go ?_))
  refine ⟨l.length - (i + 1), by omega, i + 1, xs ++ [v2], rfl, by omega, g3, ht3, ?_, rfl⟩
  rw [htk]
  exact hf.snoc hv2

theorem drop_eq {α : Type} {l m : List α} {i : Nat} {a b : α} (ha : l[i]? = some a) (hb : m[i]? = some b) : (l.drop i = m.drop i) ↔ a = b ∧ l.drop (i + 1) = m.drop (i + 1) := by
  have h1 := getElem?_lt ha
  have h2 := getElem?_lt hb
  rw [List.getElem?_eq_getElem h1, Option.some.injEq] at ha
  rw [List.getElem?_eq_getElem h2, Option.some.injEq] at hb
  rw [List.drop_eq_getElem_cons h1, List.drop_eq_getElem_cons h2, ha, hb, List.cons.injEq]

end Go.SV
