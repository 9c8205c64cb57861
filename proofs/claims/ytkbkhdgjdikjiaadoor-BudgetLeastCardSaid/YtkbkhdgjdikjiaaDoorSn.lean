/- One operation in a region, calls among them; rows of operations. Own text of the prover; nothing is assumed. -/
import Derived.Test.YtkbkhdgjdikjiaaDoorSm
namespace Go.SV

variable {P : Program} {E E' : Env} {H H' : AH} {w w' : World} {fr : List AV} {a : Act}

/-- Arguments against the machine's. -/
def ArgsR (E : Env) (w : World) (xs : List AV) (vs : Array Value) : Prop :=
  xs.length = vs.size ∧ ∀ (j : Nat) x u, xs[j]? = some x → vs[j]? = some u → VR E w x u

/-- What stands in memory from the beginning, and lasts. -/
structure Laid where
  L : Env → World → Prop
  mono : ∀ {E : Env} {H : AH} {w : World} {E' : Env} {H' : AH} {w' : World}, HRel E H w → Step E H w E' H' w' → L E w → L E' w'

structure Rdy (T : Laid) (E : Env) (H : AH) (w : World) : Prop where
  toks : 0 < H.toks.length
  laid : T.L E w

theorem Rdy.step {T : Laid} (h : Rdy T E H w) (hH : HRel E H w) (hS : Step E H w E' H' w') : Rdy T E' H' w' := ⟨Nat.lt_of_lt_of_le h.toks hS.toks, T.mono hH hS h.laid⟩

variable {T : Laid}

def CallSim (P : Program) (T : Laid) (f : FuncId) (args : List AV) (H : AH) (v : AV) (H' : AH) : Prop :=
  ∀ E w (rargs : Array Value), HRel E H w → Rdy T E H w → ArgsR E w args rargs →
    Calls P f rargs w fun e w' => ∃ E' v', e = .returned v' ∧ VR E' w' v v' ∧ HRel E' H' w' ∧ Step E H w E' H' w'

/-- A function that may be entered. -/
def Enters (P : Program) (f : FuncId) : Prop := ∃ fn, P.funcs[f]? = some fn ∧ fn.body.isSome = true ∧ (fn.name == "runtime.NumGoroutine") = false

def DOk (P : Program) (T : Laid) (D : Den) : Prop :=
  ∀ k args H v H', D k args H = some (v, H') → Enters P (k % 100000) ∧ CallSim P T (k % 100000) args H v H'

theorem FR.put {d : Option Tmp} {v : AV} {v' : Value} (h : FR E w fr a.tmps) (hv : VR E w v v') : FR E w (setd d v fr) (a.put d v').tmps := by
  cases d with
  | none => exact h
  | some d =>
    refine ⟨by simp [setd, Act.put, h.1], fun t x ht => ?_⟩
    simp only [setd] at ht
    simp only [Act.put]
    rw [List.getElem?_set] at ht
    split at ht
    · rename_i e
      subst e
      split at ht
      · rename_i hlt
        simp only [Option.some.injEq] at ht
        subst ht
        exact ⟨v', by rw [Array.getElem?_setIfInBounds_self, if_pos (by rw [← h.1]; exact hlt)], hv⟩
      · simp at ht
    · rename_i hne
      rw [Array.getElem?_setIfInBounds_ne hne]
      exact h.2 t x ht

theorem run_callFunc {f : FuncId} (h : Enters P f) (args : Array Value) : (callFunc f args).run P w = .ok (.enter f args) w := by
  obtain ⟨fn, h1, h2, h3⟩ := h
  have h4 : fn.body.isNone = false := by cases hb : fn.body <;> simp_all
  simp only [callFunc, Sem.run_bind, run_program, Result.andThen_ok, h1, h3, h4, Bool.false_eq_true, if_false, Sem.run_pure]

theorem one_op {D : Den} (hD : DOk P T D) (hF : FR E w fr a.tmps) (hH : HRel E H w) (h0 : Rdy T E H w) {m : Mode} (o : Oper) {io : IOp} (htr : trOp P m o.op = some io) {v : AV} (h : iop D fr io H = some (v, H'))
    {next : Act → World → Prop} {Q : Exit → Act → World → Prop} (hK : ∀ E' w' v', VR E' w' v v' → HRel E' H' w' → Step E H w E' H' w' → next (a.put o.dst v') w') : o.wp P a w next Q := by
  by_cases hc : ∃ n f xs, io = .call n f xs
  · obtain ⟨n, f, xs, rfl⟩ := hc
    obtain ⟨dst, op, ty, pos, after, guard⟩ := o
    simp only at htr hK
    have hop : ∃ c f0, op = .call c ∧ c.callee = .value f0 ∧ trOpd f0 = some f ∧ trOpds c.args.toList = some xs := by
      cases op with
      | call c =>
        simp only [trOp] at htr
        split at htr
        · rename_i b hb
          simp only [Option.bind_eq_some_iff] at htr
          obtain ⟨ys, _, htr⟩ := htr
          unfold trBuiltin at htr
          exfalso
          repeat' (split at htr)
          all_goals simp only [Option.some.injEq, reduceCtorEq] at htr
        · rename_i f0 hf0
          simp only [Option.bind_eq_some_iff, Option.map_eq_some_iff, IOp.call.injEq] at htr
          obtain ⟨f', hf', ys, hys, rfl, rfl, rfl⟩ := htr
          exact ⟨c, f0, rfl, hf0, hf', hys⟩
        · simp at htr
      | unOp op t x => cases op <;> simp [trOp] at htr
      | build t ps => simp only [trOp, Option.bind_eq_some_iff] at htr; obtain ⟨_, _, _, _, htr⟩ := htr; split at htr <;> simp [Option.bind_eq_some_iff] at htr
      | buildSlice t n ps => simp only [trOp] at htr; split at htr <;> simp [Option.bind_eq_some_iff] at htr
      | binOp op t x y yt =>
        simp only [trOp, Option.bind_eq_some_iff] at htr
        obtain ⟨_, _, _, _, htr⟩ := htr
        unfold trBin at htr
        split at htr
        · simp at htr
        · split at htr
          · simp at htr
          · simp at htr
          · split at htr
            · simp at htr
            · simp at htr
          · simp at htr
          · simp at htr
      | convert s d x =>
        simp only [trOp, Option.bind_eq_some_iff] at htr
        obtain ⟨_, _, htr⟩ := htr
        unfold trConv at htr
        repeat' (split at htr)
        all_goals simp at htr
      | makeInterface t x => simp only [trOp] at htr; split at htr <;> simp at htr
      | makeMap t r => cases r <;> simp [trOp] at htr
      | makeSlice t l c => simp only [trOp] at htr; split at htr <;> simp [Option.bind_eq_some_iff] at htr
      | slice t x lo hi mx =>
        cases mx with
        | some mx => simp [trOp] at htr
        | none =>
          simp only [trOp, Option.bind_eq_some_iff] at htr
          obtain ⟨_, _, _, _, _, _, htr⟩ := htr
          split at htr <;> simp at htr
      | fieldAddr t x f =>
        simp only [trOp] at htr
        split at htr
        · simp only [Option.bind_eq_some_iff] at htr
          obtain ⟨_, _, _, _, htr⟩ := htr
          split at htr <;> simp at htr
        · simp at htr
      | field t x f => simp only [trOp] at htr; split at htr <;> simp [Option.bind_eq_some_iff] at htr
      | indexAddr t x i =>
        simp only [trOp, Option.bind_eq_some_iff] at htr
        obtain ⟨_, _, _, _, htr⟩ := htr
        split at htr <;> simp at htr
      | index t x i =>
        simp only [trOp, Option.bind_eq_some_iff] at htr
        obtain ⟨_, _, _, _, htr⟩ := htr
        split at htr <;> simp [Option.bind_eq_some_iff] at htr
      | lookup t x k ok => simp only [trOp] at htr; split at htr <;> simp [Option.bind_eq_some_iff] at htr
      | mapUpdate t x k y => simp only [trOp] at htr; split at htr <;> simp [Option.bind_eq_some_iff] at htr
      | insert t x k y => simp only [trOp] at htr; split at htr <;> simp [Option.bind_eq_some_iff] at htr
      | mapEntry t x k => simp only [trOp] at htr; split at htr <;> simp [Option.bind_eq_some_iff] at htr
      | range t x => simp only [trOp] at htr; split at htr <;> simp at htr
      | next x b => cases b <;> simp [trOp] at htr
      | _ => simp [trOp, Option.bind_eq_some_iff] at htr
    obtain ⟨c, f0, rfl, hcal, hf0, hxs⟩ := hop
    have hvf := hF.ev hf0
    obtain ⟨hl, hvs⟩ := hF.evs _ hxs
    simp only [iop] at h
    split at h
    · rename_i k first cap e
      split at h
      · rename_i hk
        rw [e] at hvf
        generalize hef : a.eval f0 = vf at hvf
        cases hvf with
        | fn _ _ _ rf rc l1 l2 v1 v2 =>
          obtain ⟨hen, hcs⟩ := hD _ _ _ _ _ h
          have hkm : (k + n * 100000) % 100000 = k := (Nat.add_mul_mod_self_right k n 100000).trans (Nat.mod_eq_of_lt hk)
          rw [hkm] at hen hcs
          obtain ⟨callee, args, ats⟩ := c
          simp only at hcal hxs hl hvs
          subst hcal
          have hargs : ArgsR E w (first ++ xs.map (Opd.ev fr) ++ cap) (rf ++ args.map a.eval ++ rc) := by
            have hsr := Array.length_toList (xs := rf)
            have hsa := Array.length_toList (xs := args)
            refine ⟨by rw [List.length_append, List.length_append, List.length_map, Array.size_append, Array.size_append, Array.size_map]; omega, fun j x u hj hu => ?_⟩
            have hla : (args.map a.eval).toList = args.toList.map a.eval := by simp
            have hu' : (rf.toList ++ args.toList.map a.eval ++ rc.toList)[j]? = some u := by
              rw [← hla, ← Array.toList_append, ← Array.toList_append, Array.getElem?_toList]; exact hu
            have hlm : (xs.map (Opd.ev fr)).length = (args.toList.map a.eval).length := by simpa using hl
            rcases Nat.lt_or_ge j (first ++ xs.map (Opd.ev fr)).length with h1 | h1
            · rw [List.getElem?_append_left h1] at hj
              rw [List.getElem?_append_left (by rw [List.length_append] at h1 ⊢; omega)] at hu'
              rcases Nat.lt_or_ge j first.length with h2 | h2
              · rw [List.getElem?_append_left h2] at hj
                rw [List.getElem?_append_left (by simpa [l1] using h2)] at hu'
                exact v1 j x u hj (by simpa using hu')
              · rw [List.getElem?_append_right h2] at hj
                rw [List.getElem?_append_right (by simpa [l1] using h2)] at hu'
                rw [Array.length_toList, ← l1] at hu'
                exact hvs _ x u hj hu'
            · rw [List.getElem?_append_right h1] at hj
              rw [List.getElem?_append_right (by rw [List.length_append] at h1 ⊢; omega)] at hu'
              have e1 : (first ++ xs.map (Opd.ev fr)).length = (rf.toList ++ args.toList.map a.eval).length := by rw [List.length_append, List.length_append, hlm]; omega
              refine v2 _ x u hj ?_
              rw [Array.getElem?_toList] at hu'
              rw [e1]
              exact hu'
          have hrun : (execOp a.eval ⟨dst, .call ⟨.value f0, args, ats⟩, ty, pos, after, guard⟩).run P w = .ok (.enter k (rf ++ args.map a.eval ++ rc)) w := by
            simp only [execOp, resolve, Deferred.ofValue, hef, pure_bind, Sem.run_bind, Sem.run_pure, Result.andThen_ok, invoke, run_callFunc hen]
          unfold Oper.wp
          rw [hrun, Oper.upon_enter]
          refine (hcs E w _ hH h0 hargs).mono ?_
          rintro e w' ⟨E', v', rfl, hv', hH', hS⟩
          exact hK E' w' v' hv' hH' hS
      · simp at h
    · simp at h
  · have hnc : ∀ n f xs, io ≠ .call n f xs := fun n f xs he => hc ⟨n, f, xs, he⟩
    have ha : aop fr io H = some (v, H') := by
      cases io <;> first | exact h | exact absurd rfl (hnc _ _ _)
    obtain ⟨E', w', nx, v', hr, hnx, hv, hH', hS⟩ := sim_op hF hH h0.toks o htr hnc ha
    unfold Oper.wp
    rw [hr]
    rcases hnx with rfl | ⟨rfl, rfl⟩
    · exact hK E' w' v' hv hH' hS
    · exact hK E' w' undef hv hH' hS

/-! ### Guards -/
def trGuard (ops : Array Oper) : Option (Nat × Bool) → Option (Option (Nat × Bool))
  | none => some none
  | some (j, b) => ((ops[j]?).bind (·.dst)).map fun d => some (d, b)

theorem want_ok (hF : FR E w fr a.tmps) {ops : Array Oper} {o : Oper} {g : Option (Nat × Bool)} (hg : trGuard ops o.guard = some g) {b : Bool} (h : want g fr = some b) : Region.wanted o (yielded ops a.tmps) = b := by
  cases hgo : o.guard with
  | none =>
    rw [hgo] at hg
    simp only [trGuard, Option.some.injEq] at hg
    subst hg
    simp only [want, Option.some.injEq] at h
    subst h
    simp [Region.wanted, hgo]
  | some p =>
    obtain ⟨j, c⟩ := p
    rw [hgo] at hg
    simp only [trGuard, Option.map_eq_some_iff] at hg
    obtain ⟨d, hd, rfl⟩ := hg
    simp only [want] at h
    split at h
    · rename_i q hq
      simp only [Option.some.injEq] at h
      subst h
      obtain ⟨u, hu, hv⟩ := hF.2 _ _ hq
      cases hv
      simp [Region.wanted, hgo, yielded, hd, hu]
    · rename_i hq
      simp only [Option.some.injEq] at h
      subst h
      obtain ⟨u, hu, hv⟩ := hF.2 _ _ hq
      cases hv with
      | tup _ vs l1 _ =>
        simp [Region.wanted, hgo, yielded, hd, hu]
    · simp at h

def trOper (P : Program) (ops : Array Oper) (m : Mode) (o : Oper) : Option IOper :=
  (trOp P m o.op).bind fun io => (trGuard ops o.guard).map fun g => ⟨o.dst, io, g⟩

/-- Operations, each against its translation. -/
inductive OpsR (P : Program) (ops : Array Oper) : List Nat → List IOper → Prop
  | nil : OpsR P ops [] []
  | cons {i : Nat} {is : List Nat} {o : Oper} {io : IOper} {ios : List IOper} {m : Mode} (h : ops[i]? = some o) (ht : trOper P ops m o = some io) (hr : OpsR P ops is ios) : OpsR P ops (i :: is) (io :: ios)

theorem VR.skip : VR E w (.tup []) Go.undef := .tup _ _ rfl (fun j x u h => by simp at h)

theorem sim_ops {D : Den} (hD : DOk P T D) {ops : Array Oper} {Q : Exit → Act → World → Prop} {is : List Nat} {ios : List IOper} (hr : OpsR P ops is ios) : ∀ {E : Env} {H H' : AH} {w : World} {fr fr' : List AV} {a : Act},
    FR E w fr a.tmps → HRel E H w → Rdy T E H w → iops D ios fr H = some (fr', H') →
    (∀ E' w' a', FR E' w' fr' a'.tmps → HRel E' H' w' → Step E H w E' H' w' → a'.defers = a.defers → Q .normal a' w') → wpOps P ops Q is a w := by
  induction hr with
  | nil =>
    intro E H H' w fr fr' a hF hH h0 h hQ
    simp only [iops, Option.some.injEq, Prod.mk.injEq] at h
    obtain ⟨rfl, rfl⟩ := h
    exact hQ E w a hF hH (.refl _ _ _) rfl
  | @cons i is o io ios m ho ht hr ih =>
    intro E H H' w fr fr' a hF hH h0 h hQ
    simp only [trOper, Option.bind_eq_some_iff, Option.map_eq_some_iff] at ht
    obtain ⟨op, hop, g, hg, rfl⟩ := ht
    simp only [iops] at h
    simp only [wpOps, ho]
    split at h
    · rename_i hw
      rw [want_ok hF hg hw]
      simp only [if_true]
      split at h
      · rename_i v H1 hv
        refine .inl (one_op hD hF hH h0 o hop hv ?_)
        intro E1 w1 v' hv' hH1 hS1
        refine ih ((hF.mono hS1.ext).put hv') hH1 (h0.step hH hS1) h ?_
        intro E2 w2 a2 hF2 hH2 hS2 hd
        refine hQ E2 w2 a2 hF2 hH2 (hS1.trans hS2) (hd.trans ?_)
        cases o.dst <;> rfl
      · simp at h
    · rename_i hw
      rw [want_ok hF hg hw]
      simp only [Bool.false_eq_true, if_false]
      refine ih (hF.put VR.skip) hH h0 h ?_
      intro E2 w2 a2 hF2 hH2 hS2 hd
      refine hQ E2 w2 a2 hF2 hH2 hS2 (hd.trans ?_)
      cases o.dst <;> rfl
    · simp at h

end Go.SV
