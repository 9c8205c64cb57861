/- Each operation of the machine does what its translation does. Own text of the prover; nothing is assumed. -/
import Derived.Test.YtkbkhdgjdikjiaaDoorSl
namespace Go.SV

variable {P : Program} {E E' : Env} {H H' : AH} {w w' : World} {fr : List AV} {a : Act}

theorem defVal_VR {z : Value} {v : AV} (h : defVal z = some v) : v.def? = true ∧ VR E w v z := by
  obtain ⟨h1, rfl⟩ := defVal_spec h
  exact ⟨h1, ofVal_VR _⟩

theorem sim_op (hF : FR E w fr a.tmps) (hH : HRel E H w) (h0 : 0 < H.toks.length) {m : Mode} (o : Oper) {io : IOp} (htr : trOp P m o.op = some io) (hnc : ∀ n f xs, io ≠ .call n f xs) {v : AV} (ha : aop fr io H = some (v, H')) :
    SimN P (execOp a.eval o) E H w v H' := by
  obtain ⟨dst, op, ty, pos, after, guard⟩ := o
  simp only at htr
  cases op with
  | move x =>
    simp only [trOp, Option.map_eq_some_iff] at htr
    obtain ⟨x', hx, rfl⟩ := htr
    simp only [aop, Option.some.injEq, Prod.mk.injEq] at ha
    obtain ⟨rfl, rfl⟩ := ha
    exact SimN.same hH rfl (hF.ev hx)
  | assign x =>
    simp only [trOp, Option.map_eq_some_iff] at htr
    obtain ⟨x', hx, rfl⟩ := htr
    simp only [aop, Option.some.injEq, Prod.mk.injEq] at ha
    obtain ⟨rfl, rfl⟩ := ha
    exact SimN.same hH rfl (hF.ev hx)
  | pick c x y =>
    simp only [trOp, Option.bind_eq_some_iff, Option.map_eq_some_iff] at htr
    obtain ⟨c', hc, x', hx, y', hy, rfl⟩ := htr
    have hvc := hF.ev hc
    have hvx := hF.ev hx
    have hvy := hF.ev hy
    simp only [aop] at ha
    split at ha
    · rename_i t e
      simp only [Option.some.injEq, Prod.mk.injEq] at ha
      obtain ⟨rfl, rfl⟩ := ha
      rw [e] at hvc
      generalize hec : a.eval c = vc at hvc
      cases hvc
      refine SimN.same hH (v' := if t then a.eval x else a.eval y) ?_ (by cases t <;> assumption)
      cases t <;> simp [execOp, hec, asBool]
    · simp at ha
  | alloc e =>
    simp only [trOp, Option.bind_eq_some_iff, Option.map_eq_some_iff] at htr
    obtain ⟨z, hz, v0, hv0, rfl⟩ := htr
    obtain ⟨hd, hv⟩ := defVal_VR (E := E) (w := w) hv0
    have hdef : v0 ≠ .undef := by rintro rfl; simp [AV.def?] at hd
    obtain ⟨hl, hcv⟩ := hv.cells hdef
    simp only [aop, allocCells, Option.some.injEq, Prod.mk.injEq] at ha
    obtain ⟨rfl, rfl⟩ := ha
    refine SimN.val (s := Instr.alloc e true (.tuple #[])) ?_
    obtain ⟨E', w', v', hr, b, c, d⟩ := sim_newVar (P := P) hH e hl hcv
    refine ⟨E', w', v', ?_, b, c, d⟩
    rw [← hr]
    simp only [Instr.alloc, Sem.run_bind, r_zero hz, Result.andThen_ok]
  | box e x =>
    simp only [trOp, Option.map_eq_some_iff] at htr
    obtain ⟨x', hx, rfl⟩ := htr
    have hvx := hF.ev hx
    simp only [aop] at ha
    split at ha
    · rename_i hc
      simp only [Bool.and_eq_true] at hc
      have hdef : x'.ev fr ≠ .undef := by intro h; rw [h] at hc; simp [AV.def?] at hc
      obtain ⟨hl, hcv⟩ := hvx.cells hdef
      simp only [allocCells, Option.some.injEq, Prod.mk.injEq] at ha
      obtain ⟨rfl, rfl⟩ := ha
      exact SimN.val (sim_newVar (P := P) hH e hl hcv)
    · simp at ha
  | build t ps =>
    simp only [trOp, Option.bind_eq_some_iff] at htr
    obtain ⟨z, hz, v0, hv0, htr⟩ := htr
    obtain ⟨hd, hv⟩ := defVal_VR (E := E) (w := w) hv0
    have hps : (ps.map fun (x : Nat × Operand) => (x.1, a.eval x.2)) = (ps.toList.map fun p => (p.1, a.eval p.2)).toArray := by
      apply Array.ext'; simp
    split at htr
    · rename_i fs hu
      simp only [Option.bind_eq_some_iff, Option.map_eq_some_iff] at htr
      obtain ⟨pl, hpl, qs, hqs, rfl⟩ := htr
      simp only [aop, Option.map_eq_some_iff, Prod.mk.injEq] at ha
      obtain ⟨_, ⟨z', hz', rfl⟩, rfl, rfl⟩ := ha
      obtain ⟨h1, h2⟩ := hF.parts (fun i => pl[i]?) ps.toList hqs
      refine SimN.val (s := Instr.build t (ps.map fun (x : Nat × Operand) => (x.1, a.eval x.2))) ?_
      rw [hps]
      exact sim_build hH (fs := fs.toList) (by simpa using hu) hz hd hv hpl h1 h2 hz'
    · rename_i n e hu
      simp only [Option.bind_eq_some_iff, Option.map_eq_some_iff] at htr
      obtain ⟨s, hs, qs, hqs, rfl⟩ := htr
      simp only [aop, Option.map_eq_some_iff, Prod.mk.injEq] at ha
      obtain ⟨_, ⟨z', hz', rfl⟩, rfl, rfl⟩ := ha
      obtain ⟨h1, h2⟩ := hF.parts (fun i => some (i * s, s)) ps.toList hqs
      refine SimN.val (s := Instr.build t (ps.map fun (x : Nat × Operand) => (x.1, a.eval x.2))) ?_
      rw [hps]
      exact sim_buildArr hH hu hs hz hd hv h1 (fun k p q hk hq => by obtain ⟨x, y⟩ := h2 k p q hk hq; exact ⟨by simpa using x, y⟩) hz'
    · simp at htr
  | buildSlice t len ps =>
    simp only [trOp] at htr
    split at htr
    · rename_i e hu
      simp only [Option.bind_eq_some_iff] at htr
      obtain ⟨s, hs, htr⟩ := htr
      split at htr
      · rename_i hc
        simp only [Bool.and_eq_true, beq_iff_eq, decide_eq_true_eq] at hc
        obtain ⟨⟨⟨hz, hio⟩, hsz⟩, hbig⟩ := hc
        simp only [Option.map_eq_some_iff] at htr
        obtain ⟨xs, hxs, rfl⟩ := htr
        obtain ⟨hl, hv⟩ := hF.evs _ hxs
        have hps : (ps.map fun (x : Nat × Operand) => (x.1, a.eval x.2)) = ((((ps.toList.map (·.2)).map a.eval).zipIdx 0).map fun p => (p.2, p.1)).toArray := by
          apply Array.ext'
          rw [← inOrder_spec a ps.toList 0 hio]
          simp
        have hlen : (xs.map (Opd.ev fr)).length = len := by simp at hl ⊢; omega
        simp only [aop] at ha
        split at ha
        · simp at ha
        · rename_i hok
          refine SimN.val (s := Instr.buildSlice t len (ps.map fun (x : Nat × Operand) => (x.1, a.eval x.2))) ?_
          rw [hps, ← hlen]
          have := sim_lit (P := P) hH h0 hu hs hz (xs := xs.map (Opd.ev fr)) (vs := (ps.toList.map (·.2)).map a.eval) (by simp at hl ⊢; exact hl) (by simpa using hok) hv (by rw [hlen]; exact hbig) m
          cases m <;> simp only [Option.some.injEq, Prod.mk.injEq] at ha <;> obtain ⟨rfl, rfl⟩ := ha <;> exact this
      · simp at htr
    · simp at htr
  | load t x =>
    simp only [trOp, Option.bind_eq_some_iff, Option.map_eq_some_iff] at htr
    obtain ⟨n, hn, x', hx, rfl⟩ := htr
    obtain ⟨d, hd, hn1, hn2⟩ := aggN_spec hn
    simp only [aop, Option.map_eq_some_iff, Prod.mk.injEq] at ha
    obtain ⟨u, hu, rfl, rfl⟩ := ha
    exact SimN.val (sim_load hH hd hn1 hn2 (hF.ev hx) hu)
  | store t x y =>
    simp only [trOp, Option.bind_eq_some_iff, Option.map_eq_some_iff] at htr
    obtain ⟨n, hn, x', hx, y', hy, rfl⟩ := htr
    simp only [aop, Option.map_eq_some_iff, Prod.mk.injEq] at ha
    obtain ⟨u, hu, rfl, rfl⟩ := ha
    exact SimN.unit (sim_store hH hn (hF.ev hx) (hF.ev hy) hu)
  | nilCheck x =>
    simp only [trOp, Option.map_eq_some_iff] at htr
    obtain ⟨x', hx, rfl⟩ := htr
    have hvx := hF.ev hx
    simp only [aop] at ha
    split at ha <;> simp only [Option.some.injEq, Prod.mk.injEq, reduceCtorEq] at ha <;> obtain ⟨rfl, rfl⟩ := ha <;> rename_i e
    all_goals
      refine SimN.same hH (v' := a.eval x) ?_ hvx
      rw [e] at hvx
      simp only [execOp]
      generalize a.eval x = vx at hvx
      cases hvx <;> rfl
  | binOp op t x y yt =>
    simp only [trOp, Option.bind_eq_some_iff] at htr
    obtain ⟨x', hx, y', hy, htr⟩ := htr
    exact SimN.val (sim_bin' hF hH hx hy htr ha)
  | unOp op t x =>
    cases op with
    | not =>
      simp only [trOp, Option.map_eq_some_iff] at htr
      obtain ⟨x', hx, rfl⟩ := htr
      have hvx := hF.ev hx
      simp only [aop] at ha
      split at ha
      · rename_i b e
        simp only [Option.some.injEq, Prod.mk.injEq] at ha
        obtain ⟨rfl, rfl⟩ := ha
        rw [e] at hvx
        refine SimN.val (s := Op.unary .not (a.eval x)) ?_
        generalize a.eval x = vx at hvx
        cases hvx
        exact Sim.same hH (v' := .bool (!b)) rfl (.bool _)
      · simp at ha
    | neg =>
      simp only [trOp, Option.map_eq_some_iff] at htr
      obtain ⟨x', hx, rfl⟩ := htr
      have hvx := hF.ev hx
      simp only [aop] at ha
      split at ha
      · rename_i k n e
        simp only [Option.some.injEq, Prod.mk.injEq] at ha
        obtain ⟨rfl, rfl⟩ := ha
        rw [e] at hvx
        refine SimN.val (s := Op.unary .neg (a.eval x)) ?_
        generalize a.eval x = vx at hvx
        cases hvx
        exact Sim.same hH (v' := .int k (k.wrap (0 - n))) rfl (.int _ _)
      · simp at ha
    | _ => simp [trOp] at htr
  | convert src dst' x =>
    simp only [trOp, Option.bind_eq_some_iff] at htr
    obtain ⟨x', hx, htr⟩ := htr
    exact SimN.val (sim_conv' hF hH hx htr ha)
  | makeInterface t x =>
    simp only [trOp] at htr
    split at htr
    · simp at htr
    · simp at htr
    · rename_i d hd hu
      simp only [Option.map_eq_some_iff] at htr
      obtain ⟨x', hx, rfl⟩ := htr
      simp only [aop] at ha
      split at ha
      · simp only [Option.some.injEq, Prod.mk.injEq] at ha
        obtain ⟨rfl, rfl⟩ := ha
        refine SimN.val (s := Instr.makeInterface t (a.eval x)) (Sim.same hH (v' := .iface t (a.eval x)) ?_ (.iface _ _ _ (hF.ev hx)))
        simp only [Instr.makeInterface, Sem.run_bind, r_under hu, Result.andThen_ok]
        cases d <;> first | rfl | exact absurd hu (hd _)
      · simp at ha
  | makeFunc f first cap =>
    simp only [trOp, Option.bind_eq_some_iff, Option.map_eq_some_iff] at htr
    obtain ⟨xs, hxs, ys, hys, rfl⟩ := htr
    obtain ⟨l1, v1⟩ := hF.evs _ hxs
    obtain ⟨l2, v2⟩ := hF.evs _ hys
    simp only [aop, Option.some.injEq, Prod.mk.injEq] at ha
    obtain ⟨rfl, rfl⟩ := ha
    refine SimN.val (s := Instr.makeFunc f (first.map a.eval) (cap.map a.eval)) (Sim.same hH (v' := .func f (first.map a.eval) (cap.map a.eval)) rfl (.fn _ _ _ _ _ (by simpa using l1) (by simpa using l2) (fun j x u hj hu => v1 j x u hj ?_) (fun j x u hj hu => v2 j x u hj ?_)))
    · simpa using hu
    · simpa using hu
  | makeMap t r =>
    cases r with
    | none =>
      simp only [trOp, Option.some.injEq] at htr
      subst htr
      simp only [aop, Option.some.injEq, Prod.mk.injEq] at ha
      obtain ⟨rfl, rfl⟩ := ha
      exact SimN.val (sim_mkMap hH t)
    | some r => simp [trOp] at htr
  | makeSlice t l c =>
    simp only [trOp] at htr
    split at htr
    · rename_i e hu
      simp only [Option.bind_eq_some_iff, Option.map_eq_some_iff] at htr
      obtain ⟨s, hs, bytes, hb, z, hz, v0, hv0, l', hl, c', hc, rfl⟩ := htr
      obtain ⟨hd, hv⟩ := defVal_VR (E := E) (w := w) hv0
      have hvl := hF.ev hl
      have hvc := hF.ev hc
      simp only [aop] at ha
      split at ha
      · rename_i kl l0 kc c0 e1 e2
        split at ha
        · rename_i hcond
          simp only [Option.some.injEq] at ha
          rw [e1] at hvl
          rw [e2] at hvc
          refine SimN.val (s := Instr.makeSlice t (a.eval l) (a.eval c)) ?_
          generalize a.eval l = vl at hvl
          generalize a.eval c = vc at hvc
          cases hvl; cases hvc
          exact sim_make hH h0 m hu hs hb hz hv hd hcond ha
        · simp at ha
      · simp at ha
    · simp at htr
  | slice t x lo hi mx =>
    cases mx with
    | some mx => simp [trOp] at htr
    | none =>
      simp only [trOp, Option.bind_eq_some_iff] at htr
      obtain ⟨x', hx, lo', hlo, hi', hhi, htr⟩ := htr
      have hvx := hF.ev hx
      have hvl := hF.opt hlo
      have hvh := hF.opt hhi
      split at htr
      · rename_i hu
        simp only [Option.some.injEq] at htr
        subst htr
        simp only [aop] at ha
        split at ha
        · rename_i l e
          simp only [Option.map_eq_some_iff, Prod.mk.injEq] at ha
          obtain ⟨u, hu2, rfl, rfl⟩ := ha
          rw [e] at hvx
          exact SimN.val (s := Instr.sliceAt t (a.eval x) (lo.map a.eval) (hi.map a.eval) none) (sim_slice_str hH hu hvx hvl hvh rfl hu2)
        · simp at ha
      · rename_i e hu
        simp only [Option.map_eq_some_iff] at htr
        obtain ⟨s, hs, rfl⟩ := htr
        simp only [aop] at ha
        split at ha
        · simp at ha
        · rename_i hns
          simp only [Option.map_eq_some_iff, Prod.mk.injEq] at ha
          obtain ⟨u, hu2, rfl, rfl⟩ := ha
          exact SimN.val (s := Instr.sliceAt t (a.eval x) (lo.map a.eval) (hi.map a.eval) none) (sim_slice_row hH hu hs hvx hvl hvh (fun l hl => hns l hl) hu2)
      · simp at htr
  | fieldAddr t x f =>
    simp only [trOp] at htr
    split at htr
    · rename_i fs hu
      simp only [Option.bind_eq_some_iff] at htr
      obtain ⟨fl, hfl, s, hs, htr⟩ := htr
      split at htr
      · simp at htr
      · rename_i hs0
        simp only [Option.map_eq_some_iff] at htr
        obtain ⟨x', hx, rfl⟩ := htr
        simp only [aop, Option.map_eq_some_iff, Prod.mk.injEq] at ha
        obtain ⟨u, hu2, rfl, rfl⟩ := ha
        exact SimN.val (s := Instr.fieldAt t (a.eval x) f) (sim_fieldAddr hH hu hfl hs hs0 (hF.ev hx) hu2)
    · simp at htr
  | field t x f =>
    simp only [trOp] at htr
    split at htr
    · rename_i fs hu
      simp only [Option.bind_eq_some_iff, Option.map_eq_some_iff] at htr
      obtain ⟨fl, hfl, n, hn, x', hx, rfl⟩ := htr
      obtain ⟨d, hd, hn1, hn2⟩ := aggN_spec hn
      have hvx := hF.ev hx
      simp only [aop] at ha
      split at ha
      · rename_i cs e
        simp only [Option.map_eq_some_iff, Prod.mk.injEq] at ha
        obtain ⟨u, hu2, rfl, rfl⟩ := ha
        rw [e] at hvx
        refine SimN.val (s := Instr.field t (a.eval x) f) ?_
        generalize a.eval x = vx at hvx
        cases hvx with
        | agg _ vs l1 v1 =>
          obtain ⟨E', w', v', hr, b, c, dd⟩ := sim_part (P := P) hH hd hn1 hn2 l1 v1 hu2
          refine ⟨E', w', v', ?_, b, c, dd⟩
          rw [← hr]
          simp only [Instr.field, Sem.run_bind, r_under hu, Result.andThen_ok, hfl, asAgg, Sem.run_pure]
      · simp at ha
    · simp at htr
  | indexAddr t x i =>
    simp only [trOp, Option.bind_eq_some_iff] at htr
    obtain ⟨x', hx, i', hi, htr⟩ := htr
    have hvx := hF.ev hx
    have hvi := hF.ev hi
    split at htr
    · rename_i e hu
      simp only [Option.map_eq_some_iff] at htr
      obtain ⟨s, hs, rfl⟩ := htr
      simp only [aop, Option.map_eq_some_iff, Prod.mk.injEq] at ha
      obtain ⟨u, hu2, rfl, rfl⟩ := ha
      exact SimN.val (s := Instr.indexAt t (a.eval x) (a.eval i)) (sim_idxAddr hH hu hs hvx hvi hu2)
    · rename_i len e hu
      simp only [Option.map_eq_some_iff] at htr
      obtain ⟨s, hs, rfl⟩ := htr
      simp only [aop, Option.map_eq_some_iff, Prod.mk.injEq] at ha
      obtain ⟨u, hu2, rfl, rfl⟩ := ha
      refine SimN.val (s := Instr.indexAt t (a.eval x) (a.eval i)) ?_
      generalize a.eval i = vi at hvi
      generalize Opd.ev fr i' = y at hvi hu2
      cases hvi with
      | int k n => exact sim_idxAddrArr hH hu hs hvx hu2
      | _ => unfold aIdxAddrArr at hu2; simp at hu2
    · simp at htr
  | index t x i =>
    simp only [trOp, Option.bind_eq_some_iff] at htr
    obtain ⟨x', hx, i', hi, htr⟩ := htr
    have hvx := hF.ev hx
    have hvi := hF.ev hi
    split at htr
    · rename_i hu
      simp only [Option.some.injEq] at htr
      subst htr
      simp only [aop] at ha
      refine SimN.val (s := Instr.index t (a.eval x) (a.eval i)) ?_
      split at ha
      · rename_i l k n e1 e2
        split at ha
        · rename_i hn
          simp only [Option.map_eq_some_iff, Prod.mk.injEq] at ha
          obtain ⟨_, ⟨b, hb, rfl⟩, rfl, rfl⟩ := ha
          rw [e1] at hvx
          rw [e2] at hvi
          generalize a.eval i = vi at hvi
          generalize a.eval x = vx at hvx
          cases hvi; cases hvx
          exact sim_idxStr hH hu hn hb
        · simp at ha
      · simp at ha
    · rename_i len e hu
      simp only [Option.bind_eq_some_iff, Option.map_eq_some_iff] at htr
      obtain ⟨s, hs, n, hn, rfl⟩ := htr
      obtain ⟨d, hd, hn1, hn2⟩ := aggN_spec hn
      simp only [aop] at ha
      refine SimN.val (s := Instr.index t (a.eval x) (a.eval i)) ?_
      split at ha
      · rename_i cs k j e1 e2
        split at ha
        · rename_i hb
          simp only [Option.map_eq_some_iff, Prod.mk.injEq] at ha
          obtain ⟨u, hu2, rfl, rfl⟩ := ha
          rw [e1] at hvx
          rw [e2] at hvi
          generalize a.eval i = vi at hvi
          cases hvi
          exact sim_idxArr hH hu hs hd hn1 hvx hb hu2
        · simp at ha
      · simp at ha
    · simp at htr
  | lookup t x k ok =>
    simp only [trOp] at htr
    split at htr
    · rename_i kt e hu
      simp only [Option.bind_eq_some_iff, Option.map_eq_some_iff] at htr
      obtain ⟨K, hK, z, hz, x', hx, k', hk, rfl⟩ := htr
      simp only [aop, Option.map_eq_some_iff, Prod.mk.injEq] at ha
      obtain ⟨u, hu2, rfl, rfl⟩ := ha
      exact SimN.val (s := Instr.lookup t (a.eval x) (a.eval k) ok) (sim_lookup hH hu hK hz (ofVal_VR z) (hF.ev hx) (hF.ev hk) hu2)
    · simp at htr
  | mapUpdate t x k y =>
    simp only [trOp] at htr
    split at htr
    · rename_i kt e hu
      simp only [Option.bind_eq_some_iff, Option.map_eq_some_iff] at htr
      obtain ⟨K, hK, x', hx, k', hk, y', hy, rfl⟩ := htr
      have hvx := hF.ev hx
      simp only [aop] at ha
      split at ha
      · rename_i b e1
        split at ha
        · rename_i es clk hc
          split at ha
          · rename_i hcond
            simp only [Bool.and_eq_true] at hcond
            simp only [Option.map_eq_some_iff] at ha
            obtain ⟨r, hr, hrv⟩ := ha
            rw [e1] at hvx
            have := sim_mapUpd (P := P) hH hu hK hvx (hF.ev hk) (hF.ev hy) hc hcond.1 hr
            cases r with
            | none => simp only [Prod.mk.injEq] at hrv; obtain ⟨rfl, rfl⟩ := hrv; exact SimN.unit this
            | some p => simp only [Prod.mk.injEq] at hrv; obtain ⟨rfl, rfl⟩ := hrv; exact SimN.unit this
          · simp at ha
        · simp at ha
      · simp at ha
    · simp at htr
  | insert t x k y =>
    simp only [trOp] at htr
    split at htr
    · rename_i kt e hu
      simp only [Option.bind_eq_some_iff, Option.map_eq_some_iff] at htr
      obtain ⟨K, hK, x', hx, k', hk, y', hy, rfl⟩ := htr
      have hvx := hF.ev hx
      simp only [aop] at ha
      split at ha
      · rename_i b e1
        split at ha
        · rename_i es clk hc
          split at ha
          · rename_i hcond
            simp only [Bool.and_eq_true] at hcond
            simp only [Option.map_eq_some_iff] at ha
            obtain ⟨r, hr, hrv⟩ := ha
            rw [e1] at hvx
            have := sim_mapUpd (P := P) hH hu hK hvx (hF.ev hk) (hF.ev hy) hc hcond.1 hr
            cases r with
            | none => simp only [Prod.mk.injEq] at hrv; obtain ⟨rfl, rfl⟩ := hrv; exact SimN.unit this
            | some p => simp only [Prod.mk.injEq] at hrv; obtain ⟨rfl, rfl⟩ := hrv; exact SimN.unit this
          · simp at ha
        · simp at ha
      · simp at ha
    · simp at htr
  | mapEntry t x k =>
    simp only [trOp] at htr
    split at htr
    · rename_i kt e hu
      simp only [Option.bind_eq_some_iff, Option.map_eq_some_iff] at htr
      obtain ⟨K, hK, z, hz, x', hx, k', hk, rfl⟩ := htr
      have hvx := hF.ev hx
      simp only [aop] at ha
      refine SimN.val (s := Instr.mapEntry t (a.eval x) (a.eval k)) ?_
      split at ha
      · rename_i b e1
        split at ha
        · rename_i es clk hc
          split at ha
          · rename_i hkey
            simp only [Option.map_eq_some_iff] at ha
            obtain ⟨r, hr, hrv⟩ := ha
            rw [e1] at hvx
            have := sim_mapEntry (P := P) hH hu hK hz (ofVal_VR z) hvx (hF.ev hk) hc hkey hr
            cases r with
            | none => simp only [Prod.mk.injEq] at hrv; obtain ⟨rfl, rfl⟩ := hrv; exact this
            | some p => simp only [Prod.mk.injEq] at hrv; obtain ⟨rfl, rfl⟩ := hrv; exact this
          · simp at ha
        · simp at ha
      · simp at ha
    · simp at htr
  | entryStore t x s y =>
    simp only [trOp, Option.bind_eq_some_iff, Option.map_eq_some_iff] at htr
    obtain ⟨x', hx, s', hs, y', hy, rfl⟩ := htr
    have hvx := hF.ev hx
    have hvs := hF.ev hs
    simp only [aop] at ha
    split at ha
    · rename_i b k n e1 e2
      split at ha
      · rename_i es clk hc
        split at ha
        · split at ha
          · rename_i i hi
            simp only [Option.some.injEq, Prod.mk.injEq] at ha
            obtain ⟨rfl, rfl⟩ := ha
            rw [e1] at hvx
            rw [e2] at hvs
            refine SimN.unit (s := Instr.entryStore t (a.eval x) (a.eval s) (a.eval y)) ?_
            generalize a.eval s = vs at hvs
            cases hvs
            exact sim_entrySt hH hvx (hF.ev hy) hc hi
          · simp at ha
        · simp at ha
      · simp at ha
    · simp at ha
  | range t x =>
    simp only [trOp] at htr
    split at htr
    · rename_i hu
      simp only [Option.map_eq_some_iff] at htr
      obtain ⟨x', hx, rfl⟩ := htr
      have hvx := hF.ev hx
      simp only [aop] at ha
      refine SimN.val (s := Instr.range t (a.eval x)) ?_
      split at ha
      · rename_i l e
        simp only [Option.some.injEq, Prod.mk.injEq] at ha
        obtain ⟨rfl, rfl⟩ := ha
        rw [e] at hvx
        generalize a.eval x = vx at hvx
        cases hvx
        exact sim_range hH hu l
      · simp at ha
    · simp at htr
  | next x b =>
    cases b with
    | false => simp [trOp] at htr
    | true =>
      simp only [trOp, Option.map_eq_some_iff] at htr
      obtain ⟨x', hx, rfl⟩ := htr
      have hvx := hF.ev hx
      simp only [aop] at ha
      refine SimN.val (s := Instr.next (a.eval x) true ty) ?_
      split at ha
      · rename_i b e
        split at ha
        · rename_i l pos hc
          rw [e] at hvx
          have := sim_next (P := P) hH (t := ty) hvx hc
          split at ha
          · rename_i hp
            simp only [if_pos hp] at this
            simp only [Option.some.injEq, Prod.mk.injEq] at ha
            obtain ⟨rfl, rfl⟩ := ha
            exact this
          · rename_i hp
            simp only [if_neg hp] at this
            simp only [Option.some.injEq, Prod.mk.injEq] at ha
            obtain ⟨rfl, rfl⟩ := ha
            exact this
        · simp at ha
      · simp at ha
  | extract x i =>
    simp only [trOp, Option.map_eq_some_iff] at htr
    obtain ⟨x', hx, rfl⟩ := htr
    have hvx := hF.ev hx
    simp only [aop] at ha
    split at ha
    · rename_i vs e
      simp only [Option.map_eq_some_iff, Prod.mk.injEq] at ha
      obtain ⟨u, hu2, rfl, rfl⟩ := ha
      rw [e] at hvx
      refine SimN.val (s := Instr.extract (a.eval x) i) ?_
      generalize a.eval x = vx at hvx
      cases hvx with
      | tup _ rs l1 v1 =>
        have hlt := inL hu2
        refine Sim.same hH (v' := rs[i]) ?_ (v1 i u _ hu2 (Array.getElem?_eq_getElem (by omega)))
        simp [Instr.extract, show i < rs.size by omega]
    · simp at ha
  | call c =>
    simp only [trOp] at htr
    split at htr
    · rename_i b hb
      simp only [Option.bind_eq_some_iff] at htr
      obtain ⟨xs, hxs, htr⟩ := htr
      obtain ⟨callee, args, ats⟩ := c
      simp only at hb
      subst hb
      exact sim_builtin hF hH h0 hxs htr ha ty _
    · simp only [Option.bind_eq_some_iff, Option.map_eq_some_iff] at htr
      obtain ⟨f, hf, xs, hxs, rfl⟩ := htr
      exact absurd rfl (hnc _ _ _)
    · simp at htr
  | _ => simp [trOp] at htr

end Go.SV
