/- The law of graphs that come back from their events. Own text of the prover; nothing is assumed. -/
import Derived.Test.YtkbkhdgjdikjiaaGreatDoorFf
set_option maxRecDepth 100000
namespace Go.SV

variable {T : Nat → Option Entry}

theorem wq_len {g : List Nd} {met m : Nat} {ks : List Int} {s : List Ev} (w : Wq g met ks m s) : s.length ≤ 2 * cntN s := by
  induction w with
  | nil => simp
  | @alias met m a ks s _ _ _ _ ih =>
    have : isN (aliasE (namesG g) a) = true := rfl
    simp only [cntN, List.filter_cons, this, if_true, List.length_cons] at ih ⊢
    omega
  | @leaf met m nd ks s _ _ _ hr _ ih =>
    have := (isN_open (names := namesG g) (met := met) hr).1
    simp only [cntN, List.filter_cons, this, if_true, List.length_cons] at ih ⊢
    omega
  | @node met m1 m nd ks s1 s _ hk hr _ _ ih1 ih2 =>
    have h1 := (isN_open (names := namesG g) (met := met) hr).1
    have h2 : (cntN (openE (namesG g) nd met :: (s1 ++ closeE nd :: s))) ≥ 1 + cntN s1 + cntN s := by
      simp only [cntN, List.filter_cons, h1, if_true, List.length_cons, List.filter_append, List.length_append]
      split <;> simp <;> omega
    simp only [List.length_cons, List.length_append]
    omega

theorem sum_le {α : Type} (f : α → Nat) (B : Nat) : ∀ (l : List α), (∀ x ∈ l, f x ≤ B) → (l.map f).sum ≤ l.length * B := by
  intro l
  induction l with
  | nil => intro _; simp
  | cons x l ih =>
    intro h
    have h1 := h x (by simp)
    have h2 := ih fun y hy => h y (by simp [hy])
    simp only [List.map_cons, List.sum_cons, List.length_cons, Nat.add_mul, Nat.one_mul]
    omega

theorem doc_short {g : List Nd} (hr : rightG g = true) (hh : heavy g = false) : (docE g).length ≤ 50000 := by
  obtain ⟨_, hl, hk⟩ := light hh
  obtain ⟨w, _⟩ := tell_wq hr
  have h1 := wq_len w
  have h2 := doc_cnt hr
  have hnl : (normal g).length ≤ 120 := by rw [normal_len]; have := order_len g; omega
  have h3 : ((normal g).map fun n => n.kids.length).sum ≤ (normal g).length * 200 := sum_le _ _ _ fun n hn => by
    obtain ⟨n0, h0, rfl, _⟩ := normal_nodes hr n hn
    simp only [renum, List.length_map]
    exact (hk n0 h0).1
  have h4 : (normal g).length * 200 ≤ 120 * 200 := Nat.mul_le_mul_right _ hnl
  have h5 : cntN (docE g) = cntN (tellG g).out := by
    have hb : isN evB = false := rfl
    have he : isN evE = false := rfl
    simp only [cntN, docE, List.filter_cons, List.filter_append, hb, he, Bool.false_eq_true, if_false, List.filter_nil, List.append_nil]
  simp only [docE, List.length_cons, List.length_append, List.length_nil]
  omega

theorem docs_short : ∀ (l : List (List Nd)), (∀ g ∈ l, (docE g).length ≤ 50000) → (l.flatMap docE).length ≤ l.length * 50000 := by
  intro l
  induction l with
  | nil => intro _; simp
  | cons g l ih =>
    intro h
    have h1 := h g (by simp)
    have h2 := ih fun g hg => h g (by simp [hg])
    simp only [List.flatMap_cons, List.length_append, List.length_cons, Nat.add_mul, Nat.one_mul]
    omega

theorem doc_texts {g : List Nd} (hr : rightG g = true) (hh : heavy g = false) : ∀ e ∈ docE g, e.text.length < 2 ^ 30 ∧ e.tag.length < 2 ^ 30 := by
  obtain ⟨_, hl, hk⟩ := light hh
  obtain ⟨w, _⟩ := tell_wq hr
  have := wq_text (normal_right hr) (B := 2 ^ 30) (by decide) (fun n hn => by
    obtain ⟨n0, h0, rfl, _⟩ := normal_nodes hr n hn
    have := hk n0 h0
    simp only [renum]
    omega) w
  intro e he
  simp only [docE, List.mem_cons, List.mem_append, List.mem_nil_iff, or_false] at he
  rcases he with rfl | he | rfl
  · exact ⟨by decide, by decide⟩
  · exact this e he
  · exact ⟨by decide, by decide⟩

theorem lawBack (hT : Has T) (hK : Knows T) {v : AV} {l : List (List Nd)} (hv : RowOf 1 IsGv v l) (hll : l.length < 2 ^ 63) (hgl : ∀ g ∈ l, g.length < 2 ^ 63) (H : AH) (hp : 0 < H.toks.length) :
    ∃ H', Den.of T 4 [v] H = some (.bool true, H') ∧ Grow H H' := by
  refine gr_of (w4_ok hT ?_)
  unfold w4
  refine c_gr (alive_ok hT hK H hp) fun H1 g1 => ?_
  refine gP_i rfl ?_
  refine i_F rfl ?_
  refine c_gb g1 (heavyR_ok hT hv hll hgl H1) fun H2 g2 => ?_
  refine i_i (fun h => ?_) (fun h => ?_)
  · exact ⟨rfl, g2⟩
  obtain ⟨hlt, hok, hl5⟩ := lightR h
  refine c_i (theirsR_ok hT hv (memR hok (by omega)) H2 (g2.pos hp)) ?_
  rintro v3 H3 ⟨⟨xs3, t3, f3⟩, e3⟩
  have g3 := g2.trans e3
  have hv3 := t3.row f3
  refine c_i (events_ok hT hK hv3 (by omega) hok H3 (g3.pos hp)) ?_
  rintro _ H4 ⟨⟨ov, rfl, hov⟩, e4⟩
  have g4 := g3.trans e4
  refine Stp.go ?_
  refine Stp.go ?_
  refine Stp.go ?_
  refine Stp.go ?_
  refine i_c (fun hz => ?_) (fun hz => ?_)
  rotate_left
  · have he : (eventsG l).1 = [] := by
      rcases eventsG_cases l with e | e | ⟨_, e⟩
      · rw [e]
      · rw [e]
      · rw [e] at hz; exact absurd rfl hz
    rw [he] at hov
    refine g_lenW hov ?_
    refine Stp.go ?_
    exact ⟨rfl, g4⟩
  obtain ⟨hr, he⟩ : (∀ g ∈ l, rightG g = true ∧ (tellG g).most ≤ 40) ∧ eventsG l = (l.flatMap docE, 0) := by
    rcases eventsG_cases l with e | e | e
    · rw [e] at hz; exact absurd hz (by decide)
    · rw [e] at hz; exact absurd hz (by decide)
    · exact e
  rw [he] at hov
  replace hov : RowOf 5 IsEv ov (l.flatMap docE) := hov
  have hre := docs_right l hr
  have hcg : composeG (l.flatMap docE) = (l.map normal, 0) := by
    unfold composeG
    rw [if_pos hre, docs_comp l _ _ fun g hg => (hr g hg).1, List.nil_append]
  have hlen : (l.flatMap docE).length ≤ l.length * 50000 := docs_short l fun g hg => doc_short (hr g hg).1 (hlt g hg)
  have htx : ∀ e ∈ l.flatMap docE, e.text.length < 2 ^ 30 ∧ e.tag.length < 2 ^ 30 := by
    intro e he
    obtain ⟨g, hg, he⟩ := List.mem_flatMap.1 he
    exact doc_texts (hr g hg).1 (hlt g hg) e he
  refine c_i (composeG_ok hT hK hov (by omega) htx H4 (g4.pos hp)) ?_
  rintro _ H5 ⟨⟨gv, rfl, hgv⟩, e5⟩
  have g5 := g4.trans e5
  rw [hcg] at hgv ⊢
  replace hgv : RowOf 1 IsGv gv (l.map normal) := hgv
  refine Stp.go ?_
  refine Stp.go ?_
  refine j1 (fun x H' => x = .bool false ∧ Grow H H') ?_ ?_
  rotate_left
  · intro j hj
    refine Stp.go ?_
    refine d_f ?_
    refine i_F rfl ?_
    refine g_lenW hgv ?_
    refine g_lenW hv3 ?_
    refine Stp.go ?_
    refine d_f ?_
    refine i_F (by simp) ?_
    refine c_gb g5 (rightEs_ok hT hK hov (by omega) (fun e he => by have := (htx e he).1; omega) H5) fun H6 g6 => ?_
    rw [hre]
    refine Stp.go ?_
    exact hj _ _ ⟨rfl, g6⟩
  rintro _ H6 ⟨rfl, g6⟩
  refine i_F rfl ?_
  refine g_lenW hgv ?_
  rw [List.length_map]
  refine l1 (fun k x H' => ∃ i : Nat, x = .int .i64 i ∧ i ≤ l.length ∧ Grow H H' ∧ k = l.length - i) l.length ⟨0, rfl, Nat.zero_le _, g6, rfl⟩ ?_
  rintro m _ H7 ⟨i, rfl, hi, g7, hm⟩
  refine Stp.go ?_
  refine i_c (fun hc => ?_) (fun hc => ?_)
  rotate_left
  · exact ⟨rfl, g7⟩
  have hil : i < l.length := by omega
  have hgi : l[i]? = some l[i] := List.getElem?_eq_getElem hil
  have hni : (l.map normal)[i]? = some (normal l[i]) := by rw [List.getElem?_map, hgi]; rfl
  have hoki := hok _ (List.getElem_mem hil)
  have hno := normal_ok2 hoki
  generalize l[i] = q at *
  refine g_atn hgv hni fun x hx => ?_
  have hx' : IsG x (normal q) := hx
  rw [hx'.cells]
  refine Stp.go ?_
  refine c_i (oursG_ok hT hx' hno.mem H7 (g7.pos hp)) ?_
  rintro v8 H8 ⟨hv8, e8⟩
  have g8 := g7.trans e8
  refine g_atn hv3 hgi fun y hy => ?_
  have hy' : IsG y q := hy
  rw [hy'.cells]
  refine Stp.go ?_
  refine c_i (normal_ok hT hK hy' hoki H8 (g8.pos hp)) ?_
  rintro v9 H9 ⟨hv9, e9⟩
  have g9 := g8.trans e9
  refine c_i (oursG_ok hT hv9 hno.mem H9 (g9.pos hp)) ?_
  rintro v10 H10 ⟨hv10, e10⟩
  have g10 := g9.trans e10
  refine c_eq (refEqual_ok hT hv8 hv10 (by have := hno.1; omega) (fun n hn => by have := (hno.2 n hn).1; omega) H10) ?_
  refine Stp.go ?_
  refine ⟨same_vp, ?_⟩
  refine i_F (by simp) ?_
  refine g_add64 (by omega) ?_
  exact ⟨l.length - (i + 1), by omega, i + 1, by congr 1, by omega, g10, rfl⟩

end Go.SV
