/- Contracts: graphs that may be. Own text of the prover; nothing is assumed. -/
import Derived.Test.YtkbkhdgjdikjiaaGreatDoorCd
set_option maxRecDepth 100000
namespace Go.SV

variable {T : Nat → Option Entry}

theorem far_ok (hT : Has T) {v : AV} {g : List Nd} (hv : IsG v g) {b : Nat} {H : AH} (hb : Holds H b [v]) (i : Int) : Den.of T 100 [.int .i64 i, .ptr b 0] H = some (.bool (!hasG g i), H) := by
  refine eq_of (w100_ok hT ?_)
  unfold w100
  (repeat' (first | (first | (with_reducible first | refine Stp.go ?_ | (refine i_cT ?_ ?_; · first | assumption | decide | exact rfl) | (refine i_cF ?_ ?_; · first | assumption | decide | exact rfl) | (refine i_T ?_ ?_; · first | assumption | exact rfl) | (refine i_F ?_ ?_; · first | assumption | exact rfl) | (refine Sts.go ?_ ?_; · first | omega | decide) | refine Stu.go ?_) | refine j_i ?_) | refine g_h1 hb rfl ?_ | with_reducible refine c_eq (has_ok hT hv _ _) ?_ | (with_reducible first | refine i_c (fun h => ?_) (fun h => ?_) | refine i_i (fun h => ?_) (fun h => ?_))))
  exact ⟨rfl, rfl⟩

def kindAt (g : List Nd) (i : Int) : Int := ((g[i.toNat]?).map (·.kind)).getD 0

theorem scal_ok (hT : Has T) {v : AV} {g : List Nd} (hv : IsG v g) {b : Nat} {H : AH} (hb : Holds H b [v]) (i : Int) (hi : hasG g i = true) :
    Den.of T 105 [.int .i64 i, .ptr b 0] H = some (.bool (!(kindAt g i == 0)), H) := by
  refine eq_of (w105_ok hT ?_)
  unfold w105
  simp only [hasG, decide_eq_true_eq] at hi
  have hlt : i.toNat < g.length := by omega
  refine g_h1 hb rfl ?_
  refine g_at hv hi.1 (List.getElem?_eq_getElem hlt) fun x hx => ?_
  obtain ⟨kv, rfl, hk⟩ := hx
  refine g_fv0 ?_
  refine g_ldv ?_
  (repeat (with_reducible first | refine Stp.go ?_ | (refine i_cT ?_ ?_; · first | assumption | decide | exact rfl) | (refine i_cF ?_ ?_; · first | assumption | decide | exact rfl) | (refine i_T ?_ ?_; · first | assumption | exact rfl) | (refine i_F ?_ ?_; · first | assumption | exact rfl) | (refine Sts.go ?_ ?_; · first | omega | decide) | refine Stu.go ?_))
  exact ⟨by simp [kindAt, List.getElem?_eq_getElem hlt], rfl⟩

def own0 (t : List UInt8) : Bool := tagRight t && !core t
def rightN (g : List Nd) (n : Nd) : Bool :=
  if n.kids.any (fun i => !hasG g i) then false
  else if n.kind = 0 then decide (n.kids.length = 0) && (Lib.validD n.text && fits n.tag n.text)
  else if n.kind = 1 then (own0 n.tag || n.tag == tSeq) && n.text == []
  else if n.kind = 2 then if n.kids.length % 2 ≠ 0 ∨ (evens n.kids).any (fun i => !(kindAt g i == 0)) = true then false else (own0 n.tag || n.tag == tMap) && n.text == []
  else false

theorem right_ok (hT : Has T) (hK : Knows T) {v x : AV} {g : List Nd} {n : Nd} (hv : IsG v g) (hx : IsNd x n) (hn : OkN n) (H : AH) (hp : 0 < H.toks.length) :
    ∃ H', Den.of T 61 [v, x] H = some (.bool (rightN g n), H') ∧ Grow H H' := by
  refine gr_of (w61_ok hT ?_)
  unfold w61
  have ho := hx.ok
  have hx' := hx
  obtain ⟨kv, rfl, hk⟩ := hx
  refine s_box hv.def (by rw [hv.cells]; simp [hv.cell]) ?_
  rw [hv.cells]
  refine s_box ho.1 ho.2.2 ?_
  refine s_fn1 ?_
  have hc1 := (Holds.push H [v]).pushed (.cells (AV.agg [AV.int IntKind.i64 n.kind, AV.str n.tag, AV.str n.text, kv]).cells)
  have hc2 := Holds.push (H.push (.cells [v])) (AV.agg [AV.int IntKind.i64 n.kind, AV.str n.tag, AV.str n.text, kv]).cells
  have g0 : Grow H ((H.push (.cells [v])).push (.cells (AV.agg [AV.int IntKind.i64 n.kind, AV.str n.tag, AV.str n.text, kv]).cells)) := (Grow.push _ _).trans (Grow.push _ _)
  generalize (H.push (.cells [v])).push (.cells (AV.agg [AV.int IntKind.i64 n.kind, AV.str n.tag, AV.str n.text, kv]).cells) = H2 at *
  generalize (H.push (.cells [v])).obs.length = b2 at *
  generalize H.obs.length = b1 at *
  have h1 : ∀ {H' : AH} {k : AV → Prop}, Grow H2 H' → k (.int .i64 n.kind) → gP (aLoad none (.ptr b2 0) H') k := fun g h => g_h1 (hc2.grow g) rfl h
  have h2 : ∀ {H' : AH} {k : AV → Prop}, Grow H2 H' → k (.str n.tag) → gP (aLoad none (.ptr b2 1) H') k := fun g h => g_h1 (hc2.grow g) rfl h
  have h3 : ∀ {H' : AH} {k : AV → Prop}, Grow H2 H' → k (.str n.text) → gP (aLoad none (.ptr b2 2) H') k := fun g h => g_h1 (hc2.grow g) rfl h
  have h4 : ∀ {H' : AH} {k : AV → Prop}, Grow H2 H' → k kv → gP (aLoad none (.ptr b2 3) H') k := fun g h => g_h1 (hc2.grow g) rfl h
  have cf : ∀ H', Grow H2 H' → ∃ H'', Den.of T 102 [kv, .fn (.func 100) [] [.ptr b1 0]] H' = some (.bool (n.kids.any fun i => !hasG g i), H'') ∧ Grow H' H'' :=
    fun H' g' => containsInt_ok hT hk (by have := hn.1; omega) _ _ _ (by decide) H' fun i _ H'' g'' => gr_eq (far_ok hT hv ((hc1.grow g').grow g'') i)
  have va := fun H => hK.valid n.text H (by have := hn.2.1; omega)
  have ff := fun H => fits_ok hT n.tag n.text (by have := hn.2.1; omega) H
  have hpos : 0 < H2.toks.length := g0.pos hp
  (repeat (first | (with_reducible first | refine Stp.go ?_ | (refine i_cT ?_ ?_; · first | assumption | decide | exact rfl) | (refine i_cF ?_ ?_; · first | assumption | decide | exact rfl) | (refine i_T ?_ ?_; · first | assumption | exact rfl) | (refine i_F ?_ ?_; · first | assumption | exact rfl) | (refine Sts.go ?_ ?_; · first | omega | decide) | refine Stu.go ?_) | refine h4 (.refl _) ?_))
  refine c_gr (cf _ (.refl _)) fun H4 g4 => ?_
  (with_reducible first | refine i_c (fun h => ?_) (fun h => ?_) | refine i_i (fun h => ?_) (fun h => ?_))
  · exact ⟨by rw [rightN, if_pos h], g0.trans g4⟩
  have n0 := h
  have n0' : ¬ (n.kids.any (fun i => !hasG g i) = true) := by rw [n0]; simp
  (repeat (first | (with_reducible first | refine Stp.go ?_ | (refine i_cT ?_ ?_; · first | assumption | decide | exact rfl) | (refine i_cF ?_ ?_; · first | assumption | decide | exact rfl) | (refine i_T ?_ ?_; · first | assumption | exact rfl) | (refine i_F ?_ ?_; · first | assumption | exact rfl) | (refine Sts.go ?_ ?_; · first | omega | decide) | refine Stu.go ?_) | refine h1 g4 ?_))
  (with_reducible first | refine i_c (fun h => ?_) (fun h => ?_) | refine i_i (fun h => ?_) (fun h => ?_))
  · -- a scalar
    have k0 := h
    have hr : rightN g n = (decide (n.kids.length = 0) && (Lib.validD n.text && fits n.tag n.text)) := by rw [rightN, if_neg n0', if_pos k0]
    (repeat' (first | (first | (with_reducible first | refine Stp.go ?_ | (refine i_cT ?_ ?_; · first | assumption | decide | exact rfl) | (refine i_cF ?_ ?_; · first | assumption | decide | exact rfl) | (refine i_T ?_ ?_; · first | assumption | exact rfl) | (refine i_F ?_ ?_; · first | assumption | exact rfl) | (refine Sts.go ?_ ?_; · first | omega | decide) | refine Stu.go ?_) | refine j_i ?_) | refine h4 g4 ?_ | refine h3 g4 ?_ | refine h2 g4 ?_ | refine g_lenW hk ?_ | with_reducible refine c_eq (va _) ?_ | (with_reducible refine c_gb (H0 := H2) ?_ (ff _) ?_; (· (first | assumption | exact .refl _)); refine fun _ _ => ?_) | (with_reducible first | refine i_c (fun h => ?_) (fun h => ?_) | refine i_i (fun h => ?_) (fun h => ?_))))
    all_goals refine ⟨?_, by first | exact g0.trans g4 | exact g0.trans (by assumption)⟩
    all_goals rw [hr]
    all_goals congr 1
    · have : n.kids.length = 0 := by omega
      simp [*]
    · have : n.kids.length = 0 := by omega
      simp [*]
    · have : n.kids.length ≠ 0 := by omega
      simp [*]
  have k0 := h
  refine j1 (fun a H' => a = .bool (own0 n.tag) ∧ Grow H2 H') ?_ ?_
  · rintro _ H7 ⟨rfl, g7⟩
    refine j1 (fun a H' => ∃ r : Bool, a = .bool r ∧ Grow H2 H' ∧ rightN g n = (r && n.text == [])) ?_ ?_
    · rintro _ H8 ⟨r, rfl, g8, hr⟩
      (repeat' (first | (first | (with_reducible first | refine Stp.go ?_ | (refine i_cT ?_ ?_; · first | assumption | decide | exact rfl) | (refine i_cF ?_ ?_; · first | assumption | decide | exact rfl) | (refine i_T ?_ ?_; · first | assumption | exact rfl) | (refine i_F ?_ ?_; · first | assumption | exact rfl) | (refine Sts.go ?_ ?_; · first | omega | decide) | refine Stu.go ?_) | refine j_i ?_) | refine h3 g8 ?_ | (with_reducible first | refine i_c (fun h => ?_) (fun h => ?_) | refine i_i (fun h => ?_) (fun h => ?_))))
      all_goals exact ⟨by rw [hr]; simp [*], g0.trans g8⟩
    · intro j hj
      (repeat (first | (with_reducible first | refine Stp.go ?_ | (refine i_cT ?_ ?_; · first | assumption | decide | exact rfl) | (refine i_cF ?_ ?_; · first | assumption | decide | exact rfl) | (refine i_T ?_ ?_; · first | assumption | exact rfl) | (refine i_F ?_ ?_; · first | assumption | exact rfl) | (refine Sts.go ?_ ?_; · first | omega | decide) | refine Stu.go ?_) | refine h1 g7 ?_))
      (with_reducible first | refine i_c (fun h => ?_) (fun h => ?_) | refine i_i (fun h => ?_) (fun h => ?_))
      · have k1 := h
        have hr : rightN g n = ((own0 n.tag || n.tag == tSeq) && n.text == []) := by rw [rightN, if_neg n0', if_neg k0, if_pos k1]
        (repeat' (first | (first | (with_reducible first | refine Stp.go ?_ | (refine i_cT ?_ ?_; · first | assumption | decide | exact rfl) | (refine i_cF ?_ ?_; · first | assumption | decide | exact rfl) | (refine i_T ?_ ?_; · first | assumption | exact rfl) | (refine i_F ?_ ?_; · first | assumption | exact rfl) | (refine Sts.go ?_ ?_; · first | omega | decide) | refine Stu.go ?_) | refine j_i ?_) | refine h2 g7 ?_ | (with_reducible first | refine i_c (fun h => ?_) (fun h => ?_) | refine i_i (fun h => ?_) (fun h => ?_))))
        all_goals exact hj _ _ ⟨_, rfl, g7, by rw [hr]; simp [tSeq, *]⟩
      have k1 := h
      (repeat (with_reducible first | refine Stp.go ?_ | (refine i_cT ?_ ?_; · first | assumption | decide | exact rfl) | (refine i_cF ?_ ?_; · first | assumption | decide | exact rfl) | (refine i_T ?_ ?_; · first | assumption | exact rfl) | (refine i_F ?_ ?_; · first | assumption | exact rfl) | (refine Sts.go ?_ ?_; · first | omega | decide) | refine Stu.go ?_))
      (with_reducible first | refine i_c (fun h => ?_) (fun h => ?_) | refine i_i (fun h => ?_) (fun h => ?_))
      · have k2 := h
        have hr : rightN g n = if n.kids.length % 2 ≠ 0 ∨ (evens n.kids).any (fun i => !(kindAt g i == 0)) = true then false else (own0 n.tag || n.tag == tMap) && n.text == [] := by rw [rightN, if_neg n0', if_neg k0, if_neg k1, if_pos k2]
        refine s_fn1 ?_
        refine j1 (fun a H' => a = .bool (decide (n.kids.length % 2 ≠ 0 ∨ (evens n.kids).any (fun i => !(kindAt g i == 0)) = true)) ∧ Grow H2 H') ?_ ?_
        · rintro _ H10 ⟨rfl, g10⟩
          (with_reducible first | refine i_c (fun h => ?_) (fun h => ?_) | refine i_i (fun h => ?_) (fun h => ?_))
          · exact ⟨by rw [hr, if_pos h], g0.trans g10⟩
          rw [if_neg h] at hr
          (repeat' (first | (first | (with_reducible first | refine Stp.go ?_ | (refine i_cT ?_ ?_; · first | assumption | decide | exact rfl) | (refine i_cF ?_ ?_; · first | assumption | decide | exact rfl) | (refine i_T ?_ ?_; · first | assumption | exact rfl) | (refine i_F ?_ ?_; · first | assumption | exact rfl) | (refine Sts.go ?_ ?_; · first | omega | decide) | refine Stu.go ?_) | refine j_i ?_) | refine h2 g10 ?_ | (with_reducible first | refine i_c (fun h => ?_) (fun h => ?_) | refine i_i (fun h => ?_) (fun h => ?_))))
          all_goals exact hj _ _ ⟨_, rfl, g10, by rw [hr]; simp [tMap, *]⟩
        · intro i hi
          (repeat (first | (with_reducible first | refine Stp.go ?_ | (refine i_cT ?_ ?_; · first | assumption | decide | exact rfl) | (refine i_cF ?_ ?_; · first | assumption | decide | exact rfl) | (refine i_T ?_ ?_; · first | assumption | exact rfl) | (refine i_F ?_ ?_; · first | assumption | exact rfl) | (refine Sts.go ?_ ?_; · first | omega | decide) | refine Stu.go ?_) | refine h4 g7 ?_ | refine g_lenW hk ?_))
          have hmod : ((n.kids.length : Int).tmod 2) = ((n.kids.length % 2 : Nat) : Int) := by
            rw [Int.tmod_eq_emod_of_nonneg (by omega)]; omega
          rw [hmod]
          (with_reducible first | refine i_c (fun h => ?_) (fun h => ?_) | refine i_i (fun h => ?_) (fun h => ?_))
          rotate_left
          · exact hi _ _ ⟨by rw [decide_eq_true (.inl (by omega))], g7⟩
          · have m0 := h
            refine g_hN (hc2.grow g7) rfl ?_
            refine c_i (keys_ok hT hx' hn.1 H7 (g7.pos hpos)) ?_
            rintro kv' H11 ⟨hr', g11⟩
            have cs : ∃ H'', Den.of T 102 [kv', .fn (.func 105) [] [.ptr b1 0]] H11 = some (.bool ((evens n.kids).any fun i => !(kindAt g i == 0)), H'') ∧ Grow H11 H'' := by
              have hle := evens_len _ n.kids (Nat.le_refl _)
              refine containsInt_ok hT hr' (by have := hn.1; omega) _ _ _ (by decide) H11 fun i hi H'' g'' => ?_
              refine gr_eq (scal_ok hT hv (((hc1.grow g7).grow g11).grow g'') i ?_)
              have hm := evens_mem _ n.kids (Nat.le_refl _) i hi
              rw [List.any_eq_false] at n0
              simpa using n0 i hm
            refine c_gr cs fun H12 g12 => ?_
            refine hi _ _ ⟨?_, (g7.trans g11).trans g12⟩
            congr 1
            rw [Bool.eq_iff_iff, decide_eq_true_eq]
            have : n.kids.length % 2 = 0 := by omega
            simp [this]
      · have k2 := h
        exact ⟨by rw [rightN, if_neg n0', if_neg k0, if_neg k1, if_neg k2], g0.trans g7⟩
  · intro j hj
    have tr := fun H => tagRight_ok hT n.tag H
    (repeat' (first | (first | (with_reducible first | refine Stp.go ?_ | (refine i_cT ?_ ?_; · first | assumption | decide | exact rfl) | (refine i_cF ?_ ?_; · first | assumption | decide | exact rfl) | (refine i_T ?_ ?_; · first | assumption | exact rfl) | (refine i_F ?_ ?_; · first | assumption | exact rfl) | (refine Sts.go ?_ ?_; · first | omega | decide) | refine Stu.go ?_) | refine j_i ?_) | refine h2 (by first | assumption | exact g4) ?_ | (with_reducible refine c_gb (H0 := H2) ?_ (tr _) ?_; (· (first | assumption | exact .refl _)); refine fun _ _ => ?_) | with_reducible refine c_eq (core_ok hT _ _) ?_ | (with_reducible first | refine i_c (fun h => ?_) (fun h => ?_) | refine i_i (fun h => ?_) (fun h => ?_))))
    all_goals refine hj _ _ ⟨?_, by assumption⟩
    all_goals unfold own0
    all_goals simp [*]

end Go.SV
