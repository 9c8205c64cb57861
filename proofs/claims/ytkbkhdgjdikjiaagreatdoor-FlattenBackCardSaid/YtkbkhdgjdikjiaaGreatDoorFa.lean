/- Contracts: rows of events that may be. Own text of the prover; nothing is assumed. -/
import Derived.Test.YtkbkhdgjdikjiaaGreatDoorCz
set_option maxRecDepth 100000
namespace Go.SV

variable {T : Nat → Option Entry}

theorem rightEs_ok (hT : Has T) (hK : Knows T) {v : AV} {l : List Ev} (hv : RowOf 5 IsEv v l) (hl : l.length < 2 ^ 38) (htx : ∀ e ∈ l, e.text.length < 2 ^ 60) (H : AH) :
    ∃ H', Den.of T 16 [v] H = some (.bool (rightEs l), H') ∧ Grow H H' := by
  refine gr_of (w16_ok hT ?_)
  unfold w16
  refine gP_i (v := .agg [.nils]) rfl ?_
  refine s_box rfl rfl ?_
  have c1 := Holds.push H [AV.nils]
  have g1 := Grow.push H (.cells [AV.nils])
  have n1 : Nst H (H.push (.cells [AV.nils])) .nils H.obs.length 0 [] := ⟨c1, Nat.le_refl _, .inl ⟨rfl, rfl⟩, Nat.le_refl _, by simp⟩
  have hcells : (AV.agg [AV.nils]).cells = [AV.nils] := rfl
  rw [hcells]
  generalize H.push (.cells [AV.nils]) = H1 at *
  generalize hb : H.obs.length = b at *
  refine g_lenW hv ?_
  refine l1 (fun k x H' => ∃ (i : Nat) (st : List (Int × Nat)), x = .int .i64 i ∧ i ≤ l.length ∧ Grow H H' ∧ (∃ v', Nst H H' v' b (2 * i) st) ∧ nestG l [] = nestG (l.drop i) st.reverse ∧ k = l.length - i) l.length ⟨0, [], rfl, Nat.zero_le _, g1, ⟨.nils, n1⟩, rfl, rfl⟩ ?_
  rintro m _ H2 ⟨i, st, rfl, hi, g2, ⟨v2, n2⟩, he, hm⟩
  refine Stp.go ?_
  refine i_c (fun hlt => ?_) (fun hlt => ?_)
  rotate_left
  · rw [List.drop_eq_nil_of_le (by omega), nestG] at he
    refine Stp.go ?_
    refine Stp.go ?_
    refine g_h1 n2.hold rfl ?_
    have hlen : ∀ {k : AV → Prop}, k (.int .i64 st.length) → gP (aLen .row v2 H2) k := by
      intro k hk
      rcases n2.row with ⟨rfl, rfl⟩ | ⟨bo, c, rfl, _⟩
      · exact g_lenN hk
      · exact g_lenR hk
    refine hlen ?_
    refine Stp.go ?_
    refine d_t ?_
    refine i_c (fun h0 => ?_) (fun h0 => ?_)
    · have hst : st = [] := List.eq_nil_of_length_eq_zero (by omega)
      subst hst
      refine c_gb g2 (depth_ok hT hv (by omega) H2) fun H3 g3 => ?_
      refine Stp.go ?_
      refine ⟨?_, g3⟩
      rw [rightEs, he]
      simp
    · refine ⟨?_, g2⟩
      have hne : ¬ st = [] := fun e => h0 (by rw [e]; rfl)
      rw [rightEs, he]
      simp [hne]
  have hlt : i < l.length := by omega
  have hge := List.getElem?_eq_getElem hlt
  rw [List.drop_eq_getElem_cons hlt] at he
  have htl := htx _ (List.getElem_mem hlt)
  refine g_atn hv hge fun x hx => ?_
  generalize l[i] = e at *
  cases hx
  refine g_ldv5 ?_
  refine a_i ?_
  refine h_top (c' := (encE e).cells) rfl rfl rfl (by simp) rfl ?_
  have c3 := Holds.push H2 (encE e).cells
  replace n2 := n2.grow (.push H2 (.cells (encE e).cells))
  replace g2 := g2.trans (.push H2 (.cells (encE e).cells))
  generalize H2.push (.cells (encE e).cells) = H3 at *
  generalize H2.obs.length = be at *
  refine j1 (fun x H' => x = .bool (!(rightE e && (nestS st.reverse e).isSome)) ∧ Grow H H' ∧ ∀ s, rightE e = true → nestS st.reverse e = some s → ∃ v', Nst H H' v' b (2 * i + 2) s.reverse) ?_ ?_
  · rintro _ H4 ⟨rfl, g4, hn⟩
    refine i_i (fun h => ?_) (fun h => ?_)
    · refine ⟨?_, g4⟩
      have : nestG l [] = none := by
        rw [he, nestG]
        split
        · rename_i hr
          rw [hr] at h
          simp only [Bool.true_and, Bool.not_eq_true', Option.isSome_eq_false_iff] at h
          rw [Option.isNone_iff_eq_none.1 h]; rfl
        · rfl
      rw [rightEs, this]; rfl
    · simp only [Bool.not_eq_false', Bool.and_eq_true] at h
      obtain ⟨s, hs⟩ := Option.isSome_iff_exists.1 h.2
      rw [nestG, if_pos h.1, hs, Option.bind_some] at he
      obtain ⟨v', n'⟩ := hn s h.1 hs
      refine g_add64 (by omega) ?_
      exact ⟨l.length - (i + 1), by omega, i + 1, s.reverse, by congr 1, by omega, g4, ⟨v', n'.more (by omega)⟩, by rw [List.reverse_reverse]; exact he, rfl⟩
  · intro j hj
    refine g_hN c3 rfl ?_
    refine c_gr (rightE_ok hT hK e htl H3) fun H5 g5 => ?_
    refine Stp.go ?_
    refine d_f ?_
    refine i_i (fun h => ?_) (fun h => ?_)
    · simp only [Bool.not_eq_true'] at h
      exact hj _ _ ⟨by rw [h]; rfl, g2.trans g5, fun s e _ => by rw [h] at e; cases e⟩
    · simp only [Bool.not_eq_false'] at h
      refine g_hN (c3.grow g5) rfl ?_
      refine c_i (eTake_ok hT (n2.grow g5) (g2.trans g5) (by omega) e) ?_
      rintro _ H6 ⟨rfl, g6, hn⟩
      refine Stp.go ?_
      exact hj _ _ ⟨by rw [h, Bool.true_and], g6, fun s _ hs => hn s hs⟩

end Go.SV
