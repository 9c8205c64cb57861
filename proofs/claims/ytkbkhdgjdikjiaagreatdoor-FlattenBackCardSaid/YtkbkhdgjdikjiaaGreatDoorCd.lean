/- Contracts: graphs. Own text of the prover; nothing is assumed. -/
import Derived.Test.YtkbkhdgjdikjiaaGreatDoorCc
import Derived.Test.YtkbkhdgjdikjiaaGreatDoorLe
set_option maxRecDepth 100000
namespace Go.SV

variable {T : Nat → Option Entry}

structure Nd where
  kind : Int
  tag : List UInt8
  text : List UInt8
  kids : List Int
  deriving DecidableEq

def IsNd (x : AV) (n : Nd) : Prop := ∃ kv, x = .agg [.int .i64 n.kind, .str n.tag, .str n.text, kv] ∧ RowOf 1 IsI kv n.kids
theorem IsNd.ok {x : AV} {n : Nd} (h : IsNd x n) : x.def? = true ∧ x.cells.length = 4 ∧ x.cells.all AV.isCell = true := by
  obtain ⟨kv, rfl, hk⟩ := h
  have := hk.cell
  refine ⟨rfl, rfl, ?_⟩
  show (true && (true && (true && (kv.isCell && true)))) = true
  rw [this]; rfl
abbrev IsG (v : AV) (g : List Nd) : Prop := RowOf 4 IsNd v g
def OkN (n : Nd) : Prop := n.kids.length < 2 ^ 20 ∧ n.text.length < 2 ^ 30 ∧ n.tag.length < 2 ^ 30
def OkG (g : List Nd) : Prop := g.length < 2 ^ 30 ∧ ∀ n ∈ g, OkN n

/-- What a graph that came in is at most. -/
def MemG (g : List Nd) : Prop := g.length * 64 ≤ 2 ^ 47 ∧ ∀ n ∈ g, n.kids.length * 8 ≤ 2 ^ 47
theorem MemG.len {g : List Nd} (h : MemG g) : g.length < 2 ^ 63 := by have := h.1; omega
theorem OkG.mem {g : List Nd} (h : OkG g) : MemG g := ⟨by have := h.1; omega, fun n hn => by have := (h.2 n hn).1; omega⟩
def MemR (l : List (List Nd)) : Prop := l.length * 24 ≤ 2 ^ 47 ∧ ∀ g ∈ l, MemG g

def hasG (g : List Nd) (i : Int) : Bool := decide (0 ≤ i ∧ i < g.length)
theorem has_ok (hT : Has T) {v : AV} {g : List Nd} (hv : IsG v g) (i : Int) (H : AH) : Den.of T 101 [v, .int .i64 i] H = some (.bool (hasG g i), H) := by
  refine eq_of (w101_ok hT ?_)
  unfold w101
  (repeat' (first | (first | (with_reducible first | refine Stp.go ?_ | (refine i_cT ?_ ?_; · first | assumption | decide | exact rfl) | (refine i_cF ?_ ?_; · first | assumption | decide | exact rfl) | (refine i_T ?_ ?_; · first | assumption | exact rfl) | (refine i_F ?_ ?_; · first | assumption | exact rfl) | (refine Sts.go ?_ ?_; · first | omega | decide) | refine Stu.go ?_) | refine j_i ?_) | refine g_lenW hv ?_ | (with_reducible first | refine i_c (fun h => ?_) (fun h => ?_) | refine i_i (fun h => ?_) (fun h => ?_))))
  all_goals refine ⟨?_, rfl⟩
  all_goals congr 1
  all_goals unfold hasG
  all_goals rw [Bool.eq_iff_iff]
  all_goals simp
  all_goals omega

def evens : List Int → List Int
  | [] => []
  | [a] => [a]
  | a :: _ :: l => a :: evens l
theorem evens_len : ∀ (n : Nat) (l : List Int), l.length ≤ n → (evens l).length ≤ l.length := by
  intro n
  induction n with
  | zero => intro l h; cases l with
    | nil => simp [evens]
    | cons => simp at h
  | succ n ih => intro l h; match l with
    | [] => simp [evens]
    | [a] => simp [evens]
    | a :: b :: l => simp only [evens, List.length_cons]; have := ih l (by simp at h; omega); omega
theorem evens_mem : ∀ (n : Nat) (l : List Int), l.length ≤ n → ∀ x ∈ evens l, x ∈ l := by
  intro n
  induction n with
  | zero => intro l h; cases l with
    | nil => simp [evens]
    | cons => simp at h
  | succ n ih => intro l h; match l with
    | [] => simp [evens]
    | [a] => simp [evens]
    | a :: b :: l =>
      intro x hx
      simp only [evens, List.mem_cons] at hx ⊢
      rcases hx with rfl | hx
      · exact .inl rfl
      · exact .inr (.inr (ih l (by simp at h; omega) x hx))

theorem elemsOk1 (n : Int) : elemsOk 1 [AV.int .i64 n] = true := rfl

theorem keys_ok (hT : Has T) {x : AV} {n : Nd} (hx : IsNd x n) (hn : n.kids.length < 2 ^ 20) (H : AH) (hp : 0 < H.toks.length) :
    ∃ v H', Den.of T 106 [x] H = some (v, H') ∧ RowOf 1 IsI v (evens n.kids) ∧ Grow H H' := by
  refine w106_ok hT ?_
  unfold w106
  have ho := hx.ok
  obtain ⟨kv, rfl, hk⟩ := hx
  refine s_box ho.1 ho.2.2 ?_
  have hc := Holds.push H [.int .i64 n.kind, .str n.tag, .str n.text, kv]
  refine l2 (fun m a b H' => ∃ (i : Nat) (xs : List AV), b = .int .i64 ((2 * i : Nat) : Int) ∧ Tok (H.push (.cells [.int .i64 n.kind, .str n.tag, .str n.text, kv])) H' 1 a xs ∧ Grow (H.push (.cells [.int .i64 n.kind, .str n.tag, .str n.text, kv])) H' ∧
      (∃ ys, F2 IsI xs ys ∧ evens n.kids = ys ++ evens (n.kids.drop (2 * i))) ∧ xs.length ≤ i ∧ m = n.kids.length - 2 * i) n.kids.length ⟨0, [], rfl, .nil _ _ _, .refl _, ⟨[], .nil, by simp⟩, by simp, by simp⟩ ?_
  rintro m _ _ H1 ⟨i, xs, rfl, ht, hg, ⟨ys, hf, he⟩, hl, hm⟩
  (repeat' (first | (first | (with_reducible first | refine Stp.go ?_ | (refine i_cT ?_ ?_; · first | assumption | decide | exact rfl) | (refine i_cF ?_ ?_; · first | assumption | decide | exact rfl) | (refine i_T ?_ ?_; · first | assumption | exact rfl) | (refine i_F ?_ ?_; · first | assumption | exact rfl) | (refine Sts.go ?_ ?_; · first | omega | decide) | refine Stu.go ?_) | refine j_i ?_) | refine g_h1 (hc.grow hg) rfl ?_ | refine g_lenW hk ?_ | (with_reducible first | refine i_c (fun h => ?_) (fun h => ?_) | refine i_i (fun h => ?_) (fun h => ?_))))
  · have hlt : 2 * i < n.kids.length := by omega
    refine g_atIn hk (List.getElem?_eq_getElem hlt) ?_
    (repeat (with_reducible first | refine Stp.go ?_ | (refine i_cT ?_ ?_; · first | assumption | decide | exact rfl) | (refine i_cF ?_ ?_; · first | assumption | decide | exact rfl) | (refine i_T ?_ ?_; · first | assumption | exact rfl) | (refine i_F ?_ ?_; · first | assumption | exact rfl) | (refine Sts.go ?_ ?_; · first | omega | decide) | refine Stu.go ?_))
    refine s_lit (elemsOk1 _) ?_
    refine s_app ht hg (by exact hp) (by simp) (elemsOk1 _) (by simp; omega) fun v' H' ht' hg' _ => ?_
    (repeat' (first | (first | (with_reducible first | refine Stp.go ?_ | (refine i_cT ?_ ?_; · first | assumption | decide | exact rfl) | (refine i_cF ?_ ?_; · first | assumption | decide | exact rfl) | (refine i_T ?_ ?_; · first | assumption | exact rfl) | (refine i_F ?_ ?_; · first | assumption | exact rfl) | (refine Sts.go ?_ ?_; · first | omega | decide) | refine Stu.go ?_) | refine j_i ?_) | (with_reducible first | refine i_c (fun h => ?_) (fun h => ?_) | refine i_i (fun h => ?_) (fun h => ?_))))
    refine ⟨n.kids.length - 2 * (i + 1), by omega, i + 1, _, by congr 1 <;> omega, ht', hg', ⟨ys ++ [n.kids[2 * i]], hf.snoc rfl, ?_⟩, by simp; omega, rfl⟩
    rw [he, List.append_assoc]
    congr 1
    have hd : n.kids.drop (2 * i) = n.kids[2 * i] :: n.kids.drop (2 * i + 1) := List.drop_eq_getElem_cons hlt
    rw [hd]
    rcases Nat.lt_or_ge (2 * i + 1) n.kids.length with h2 | h2
    · rw [List.drop_eq_getElem_cons h2]; rfl
    · rw [List.drop_eq_nil_of_le h2, List.drop_eq_nil_of_le (by omega)]; simp [evens]
  · refine ⟨?_, (Grow.push _ _).trans hg⟩
    rw [List.drop_eq_nil_of_le (by omega)] at he
    simp only [evens, List.append_nil] at he
    rw [he]; exact ht.row hf

theorem indexInt_ok (hT : Has T) {v : AV} {l : List Int} (hv : RowOf 1 IsI v l) (hl : l.length < 2 ^ 40) (F : Nat) (cap : List AV) (p : Int → Bool) (hF : F < 100000) (H : AH)
    (hp : ∀ i ∈ l, ∀ H', Grow H H' → ∃ H'', Den.of T F (.int .i64 i :: cap) H' = some (.bool (p i), H'') ∧ Grow H' H'') :
    ∃ v' H', Den.of T 136 [v, .fn (.func F) [] cap] H = some (v', H') ∧ (∃ i : Int, v' = .int .i64 i ∧ decide (i ≥ 0) = l.any p) ∧ Grow H H' := by
  refine w136_ok hT ?_
  unfold w136
  refine g_lenW hv ?_
  refine l1 (fun m a H' => ∃ i : Nat, a = .int .i64 i ∧ Grow H H' ∧ l.any p = (l.drop i).any p ∧ m = l.length - i) l.length ⟨0, rfl, .refl _, by simp, by simp⟩ ?_
  rintro m _ H1 ⟨i, rfl, hg, he, hm⟩
  (repeat' (first | (first | (with_reducible first | refine Stp.go ?_ | (refine i_cT ?_ ?_; · first | assumption | decide | exact rfl) | (refine i_cF ?_ ?_; · first | assumption | decide | exact rfl) | (refine i_T ?_ ?_; · first | assumption | exact rfl) | (refine i_F ?_ ?_; · first | assumption | exact rfl) | (refine Sts.go ?_ ?_; · first | omega | decide) | refine Stu.go ?_) | refine j_i ?_) | (with_reducible first | refine i_c (fun h => ?_) (fun h => ?_) | refine i_i (fun h => ?_) (fun h => ?_))))
  · have hlt : i < l.length := by omega
    refine g_atIn hv (List.getElem?_eq_getElem hlt) ?_
    rw [List.drop_eq_getElem_cons hlt, List.any_cons] at he
    (repeat (with_reducible first | refine Stp.go ?_ | (refine i_cT ?_ ?_; · first | assumption | decide | exact rfl) | (refine i_cF ?_ ?_; · first | assumption | decide | exact rfl) | (refine i_T ?_ ?_; · first | assumption | exact rfl) | (refine i_F ?_ ?_; · first | assumption | exact rfl) | (refine Sts.go ?_ ?_; · first | omega | decide) | refine Stu.go ?_))
    refine v_c hF rfl ?_
    refine c_gb hg (hp _ (List.getElem_mem hlt) H1 hg) fun H2 hg2 => ?_
    (repeat' (first | (first | (with_reducible first | refine Stp.go ?_ | (refine i_cT ?_ ?_; · first | assumption | decide | exact rfl) | (refine i_cF ?_ ?_; · first | assumption | decide | exact rfl) | (refine i_T ?_ ?_; · first | assumption | exact rfl) | (refine i_F ?_ ?_; · first | assumption | exact rfl) | (refine Sts.go ?_ ?_; · first | omega | decide) | refine Stu.go ?_) | refine j_i ?_) | (with_reducible first | refine i_c (fun h => ?_) (fun h => ?_) | refine i_i (fun h => ?_) (fun h => ?_))))
    · exact ⟨⟨_, rfl, by rw [he, h]; simp⟩, hg2⟩
    · exact ⟨l.length - (i + 1), by omega, i + 1, by simp, hg2, by rw [he, h, Bool.false_or], rfl⟩
  · rw [List.drop_eq_nil_of_le (by omega)] at he
    exact ⟨⟨_, rfl, by rw [he]; rfl⟩, hg⟩

theorem containsInt_ok (hT : Has T) {v : AV} {l : List Int} (hv : RowOf 1 IsI v l) (hl : l.length < 2 ^ 40) (F : Nat) (cap : List AV) (p : Int → Bool) (hF : F < 100000) (H : AH)
    (hp : ∀ i ∈ l, ∀ H', Grow H H' → ∃ H'', Den.of T F (.int .i64 i :: cap) H' = some (.bool (p i), H'') ∧ Grow H' H'') :
    ∃ H', Den.of T 102 [v, .fn (.func F) [] cap] H = some (.bool (l.any p), H') ∧ Grow H H' := by
  refine gr_of (w102_ok hT ?_)
  unfold w102
  refine c_i (indexInt_ok hT hv hl F cap p hF H hp) ?_
  rintro v' H' ⟨⟨i, rfl, hi⟩, hg⟩
  (repeat (with_reducible first | refine Stp.go ?_ | (refine i_cT ?_ ?_; · first | assumption | decide | exact rfl) | (refine i_cF ?_ ?_; · first | assumption | decide | exact rfl) | (refine i_T ?_ ?_; · first | assumption | exact rfl) | (refine i_F ?_ ?_; · first | assumption | exact rfl) | (refine Sts.go ?_ ?_; · first | omega | decide) | refine Stu.go ?_))
  exact ⟨by rw [hi], hg⟩

theorem indexNode_ok (hT : Has T) {v : AV} {l : List Nd} (hv : IsG v l) (hl : l.length < 2 ^ 40) (F : Nat) (cap : List AV) (p : Nd → Bool) (hF : F < 100000) (H : AH)
    (hp : ∀ n ∈ l, ∀ x, IsNd x n → ∀ H', Grow H H' → ∃ H'', Den.of T F (x :: cap) H' = some (.bool (p n), H'') ∧ Grow H' H'') :
    ∃ v' H', Den.of T 107 [v, .fn (.func F) [] cap] H = some (v', H') ∧ (∃ i : Int, v' = .int .i64 i ∧ decide (i ≥ 0) = l.any p) ∧ Grow H H' := by
  refine w107_ok hT ?_
  unfold w107
  refine g_lenW hv ?_
  refine l1 (fun m a H' => ∃ i : Nat, a = .int .i64 i ∧ Grow H H' ∧ l.any p = (l.drop i).any p ∧ m = l.length - i) l.length ⟨0, rfl, .refl _, by simp, by simp⟩ ?_
  rintro m _ H1 ⟨i, rfl, hg, he, hm⟩
  (repeat' (first | (first | (with_reducible first | refine Stp.go ?_ | (refine i_cT ?_ ?_; · first | assumption | decide | exact rfl) | (refine i_cF ?_ ?_; · first | assumption | decide | exact rfl) | (refine i_T ?_ ?_; · first | assumption | exact rfl) | (refine i_F ?_ ?_; · first | assumption | exact rfl) | (refine Sts.go ?_ ?_; · first | omega | decide) | refine Stu.go ?_) | refine j_i ?_) | (with_reducible first | refine i_c (fun h => ?_) (fun h => ?_) | refine i_i (fun h => ?_) (fun h => ?_))))
  · have hlt : i < l.length := by omega
    refine g_atn hv (List.getElem?_eq_getElem hlt) fun x hx => ?_
    have hx' := hx
    obtain ⟨kv, rfl, hk⟩ := hx
    rw [List.drop_eq_getElem_cons hlt, List.any_cons] at he
    refine g_ldv4 ?_
    refine v_c hF rfl ?_
    refine c_gb hg (hp _ (List.getElem_mem hlt) _ hx' H1 hg) fun H2 hg2 => ?_
    (repeat' (first | (first | (with_reducible first | refine Stp.go ?_ | (refine i_cT ?_ ?_; · first | assumption | decide | exact rfl) | (refine i_cF ?_ ?_; · first | assumption | decide | exact rfl) | (refine i_T ?_ ?_; · first | assumption | exact rfl) | (refine i_F ?_ ?_; · first | assumption | exact rfl) | (refine Sts.go ?_ ?_; · first | omega | decide) | refine Stu.go ?_) | refine j_i ?_) | (with_reducible first | refine i_c (fun h => ?_) (fun h => ?_) | refine i_i (fun h => ?_) (fun h => ?_))))
    · exact ⟨⟨_, rfl, by rw [he, h]; simp⟩, hg2⟩
    · exact ⟨l.length - (i + 1), by omega, i + 1, by simp, hg2, by rw [he, h, Bool.false_or], rfl⟩
  · rw [List.drop_eq_nil_of_le (by omega)] at he
    exact ⟨⟨_, rfl, by rw [he]; rfl⟩, hg⟩

theorem containsNode_ok (hT : Has T) {v : AV} {l : List Nd} (hv : IsG v l) (hl : l.length < 2 ^ 40) (F : Nat) (cap : List AV) (p : Nd → Bool) (hF : F < 100000) (H : AH)
    (hp : ∀ n ∈ l, ∀ x, IsNd x n → ∀ H', Grow H H' → ∃ H'', Den.of T F (x :: cap) H' = some (.bool (p n), H'') ∧ Grow H' H'') :
    ∃ H', Den.of T 62 [v, .fn (.func F) [] cap] H = some (.bool (l.any p), H') ∧ Grow H H' := by
  refine gr_of (w62_ok hT ?_)
  unfold w62
  refine c_i (indexNode_ok hT hv hl F cap p hF H hp) ?_
  rintro v' H' ⟨⟨i, rfl, hi⟩, hg⟩
  (repeat (with_reducible first | refine Stp.go ?_ | (refine i_cT ?_ ?_; · first | assumption | decide | exact rfl) | (refine i_cF ?_ ?_; · first | assumption | decide | exact rfl) | (refine i_T ?_ ?_; · first | assumption | exact rfl) | (refine i_F ?_ ?_; · first | assumption | exact rfl) | (refine Sts.go ?_ ?_; · first | omega | decide) | refine Stu.go ?_))
  exact ⟨by rw [hi], hg⟩

end Go.SV
