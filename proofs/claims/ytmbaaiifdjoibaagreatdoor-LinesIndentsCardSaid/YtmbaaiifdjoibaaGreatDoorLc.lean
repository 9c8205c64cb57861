/- One operation in a region, calls among them; rows of operations. Regions whose order is open: every order that the edges allow comes to what the text's order comes to. Regions whose order is open, joined: from the text's order with allocations first to every order that the edges allow. Regions whose order is open: every order that the edges allow comes to what the text's order, allocations first, comes to. Regions whose order is open: the simulation. Code of the abstract machine, and that the model's code does what it does. Own text of the prover; nothing is assumed. -/
import Derived.Test.YtmbaaiifdjoibaaGreatDoorLb
import Derived.LoopN
namespace Go.SV

variable {P : Program} {E E' : Env} {H H' : AH} {w w' : World} {fr : List AV} {a : Act}

/-- Arguments against the machine's. -/
def ArgsR (E : Env) (w : World) (xs : List AV) (vs : Array Value) : Prop :=
  xs.length = vs.size ∧ ∀ (j : Nat) x u, xs[j]? = some x → vs[j]? = some u → VR E w x u

/-- What stands in memory from the beginning, and lasts. -/
structure Laid where
  L : Env → World → Prop
  mono : ∀ {E : Env} {H : AH} {w : World} {E' : Env} {H' : AH} {w' : World}, HRel E H w → Step E H w E' H' w' → L E w → L E' w'

structure Rdy (T : Laid) (E : Env) (H : AH) (w : World) : Prop where
  toks : 0 < H.toks.length
  laid : T.L E w

theorem Rdy.step {T : Laid} (h : Rdy T E H w) (hH : HRel E H w) (hS : Step E H w E' H' w') : Rdy T E' H' w' := ⟨Nat.lt_of_lt_of_le h.toks hS.toks, T.mono hH hS h.laid⟩

variable {T : Laid}

def CallSim (P : Program) (T : Laid) (f : FuncId) (args : List AV) (H : AH) (v : AV) (H' : AH) : Prop :=
  ∀ E w (rargs : Array Value), HRel E H w → Rdy T E H w → ArgsR E w args rargs →
    Calls P f rargs w fun e w' => ∃ E' v', e = .returned v' ∧ VR E' w' v v' ∧ HRel E' H' w' ∧ Step E H w E' H' w'

/-- A function that may be entered. -/
def Enters (P : Program) (f : FuncId) : Prop := ∃ fn, P.funcs[f]? = some fn ∧ fn.body.isSome = true ∧ (fn.name == "runtime.NumGoroutine") = false

def DOk (P : Program) (T : Laid) (D : Den) : Prop :=
  ∀ k args H v H', D k args H = some (v, H') → Enters P (k % 100000) ∧ CallSim P T (k % 100000) args H v H'

theorem FR.put {d : Option Tmp} {v : AV} {v' : Value} (h : FR E w fr a.tmps) (hv : VR E w v v') : FR E w (setd d v fr) (a.put d v').tmps := by
  cases d with
  | none => exact h
  | some d =>
    refine ⟨by simp [setd, Act.put, h.1], fun t x ht => ?_⟩
    simp only [setd] at ht
    simp only [Act.put]
    rw [List.getElem?_set] at ht
    split at ht
    · rename_i e
      subst e
      split at ht
      · rename_i hlt
        simp only [Option.some.injEq] at ht
        subst ht
        exact ⟨v', by rw [Array.getElem?_setIfInBounds_self, if_pos (by rw [← h.1]; exact hlt)], hv⟩
      · simp at ht
    · rename_i hne
      rw [Array.getElem?_setIfInBounds_ne hne]
      exact h.2 t x ht

theorem run_callFunc {f : FuncId} (h : Enters P f) (args : Array Value) : (callFunc f args).run P w = .ok (.enter f args) w := by
  obtain ⟨fn, h1, h2, h3⟩ := h
  have h4 : fn.body.isNone = false := by cases hb : fn.body <;> simp_all
  simp only [callFunc, Sem.run_bind, run_program, Result.andThen_ok, h1, h3, h4, Bool.false_eq_true, if_false, Sem.run_pure]

theorem one_op {D : Den} (hD : DOk P T D) (hF : FR E w fr a.tmps) (hH : HRel E H w) (h0 : Rdy T E H w) {m : Mode} (o : Oper) {io : IOp} (htr : trOp P m o.op = some io) {v : AV} (h : iop D fr io H = some (v, H'))
    {next : Act → World → Prop} {Q : Exit → Act → World → Prop} (hK : ∀ E' w' v', VR E' w' v v' → HRel E' H' w' → Step E H w E' H' w' → next (a.put o.dst v') w') : o.wp P a w next Q := by
  by_cases hc : ∃ n f xs, io = .call n f xs
  · obtain ⟨n, f, xs, rfl⟩ := hc
    obtain ⟨dst, op, ty, pos, after, guard⟩ := o
    simp only at htr hK
    have hop : ∃ c f0, op = .call c ∧ c.callee = .value f0 ∧ trOpd f0 = some f ∧ trOpds c.args.toList = some xs := by
      cases op with
      | call c =>
        simp only [trOp] at htr
        split at htr
        · rename_i b hb
          simp only [Option.bind_eq_some_iff] at htr
          obtain ⟨ys, _, htr⟩ := htr
          unfold trBuiltin at htr
          exfalso
          repeat' (split at htr)
          all_goals simp only [Option.some.injEq, reduceCtorEq] at htr
        · rename_i f0 hf0
          simp only [Option.bind_eq_some_iff, Option.map_eq_some_iff, IOp.call.injEq] at htr
          obtain ⟨f', hf', ys, hys, rfl, rfl, rfl⟩ := htr
          exact ⟨c, f0, rfl, hf0, hf', hys⟩
        · simp at htr
      | unOp op t x => cases op <;> simp [trOp] at htr
      | build t ps => simp only [trOp, Option.bind_eq_some_iff] at htr; obtain ⟨_, _, _, _, htr⟩ := htr; split at htr <;> simp [Option.bind_eq_some_iff] at htr
      | buildSlice t n ps => simp only [trOp] at htr; split at htr <;> simp [Option.bind_eq_some_iff] at htr
      | binOp op t x y yt =>
        simp only [trOp, Option.bind_eq_some_iff] at htr
        obtain ⟨_, _, _, _, htr⟩ := htr
        unfold trBin at htr
        split at htr
        · simp at htr
        · split at htr
          · simp at htr
          · simp at htr
          · split at htr
            · simp at htr
            · simp at htr
          · simp at htr
          · simp at htr
      | convert s d x =>
        simp only [trOp, Option.bind_eq_some_iff] at htr
        obtain ⟨_, _, htr⟩ := htr
        unfold trConv at htr
        repeat' (split at htr)
        all_goals simp at htr
      | makeInterface t x => simp only [trOp] at htr; split at htr <;> simp at htr
      | makeMap t r => cases r <;> simp [trOp] at htr
      | makeSlice t l c => simp only [trOp] at htr; split at htr <;> simp [Option.bind_eq_some_iff] at htr
      | slice t x lo hi mx =>
        cases mx with
        | some mx => simp [trOp] at htr
        | none =>
          simp only [trOp, Option.bind_eq_some_iff] at htr
          obtain ⟨_, _, _, _, _, _, htr⟩ := htr
          split at htr <;> simp at htr
      | fieldAddr t x f =>
        simp only [trOp] at htr
        split at htr
        · simp only [Option.bind_eq_some_iff] at htr
          obtain ⟨_, _, _, _, htr⟩ := htr
          split at htr <;> simp at htr
        · simp at htr
      | field t x f => simp only [trOp] at htr; split at htr <;> simp [Option.bind_eq_some_iff] at htr
      | indexAddr t x i =>
        simp only [trOp, Option.bind_eq_some_iff] at htr
        obtain ⟨_, _, _, _, htr⟩ := htr
        split at htr <;> simp at htr
      | index t x i =>
        simp only [trOp, Option.bind_eq_some_iff] at htr
        obtain ⟨_, _, _, _, htr⟩ := htr
        split at htr <;> simp [Option.bind_eq_some_iff] at htr
      | lookup t x k ok => simp only [trOp] at htr; split at htr <;> simp [Option.bind_eq_some_iff] at htr
      | mapUpdate t x k y => simp only [trOp] at htr; split at htr <;> simp [Option.bind_eq_some_iff] at htr
      | insert t x k y => simp only [trOp] at htr; split at htr <;> simp [Option.bind_eq_some_iff] at htr
      | mapEntry t x k => simp only [trOp] at htr; split at htr <;> simp [Option.bind_eq_some_iff] at htr
      | range t x => simp only [trOp] at htr; split at htr <;> simp at htr
      | next x b => cases b <;> simp [trOp] at htr
      | _ => simp [trOp, Option.bind_eq_some_iff] at htr
    obtain ⟨c, f0, rfl, hcal, hf0, hxs⟩ := hop
    have hvf := hF.ev hf0
    obtain ⟨hl, hvs⟩ := hF.evs _ hxs
    simp only [iop] at h
    split at h
    · rename_i k first cap e
      split at h
      · rename_i hk
        rw [e] at hvf
        generalize hef : a.eval f0 = vf at hvf
        cases hvf with
        | fn _ _ _ rf rc l1 l2 v1 v2 =>
          obtain ⟨hen, hcs⟩ := hD _ _ _ _ _ h
          have hkm : (k + n * 100000) % 100000 = k := (Nat.add_mul_mod_self_right k n 100000).trans (Nat.mod_eq_of_lt hk)
          rw [hkm] at hen hcs
          obtain ⟨callee, args, ats⟩ := c
          simp only at hcal hxs hl hvs
          subst hcal
          have hargs : ArgsR E w (first ++ xs.map (Opd.ev fr) ++ cap) (rf ++ args.map a.eval ++ rc) := by
            have hsr := Array.length_toList (xs := rf)
            have hsa := Array.length_toList (xs := args)
            refine ⟨by rw [List.length_append, List.length_append, List.length_map, Array.size_append, Array.size_append, Array.size_map]; omega, fun j x u hj hu => ?_⟩
            have hla : (args.map a.eval).toList = args.toList.map a.eval := by simp
            have hu' : (rf.toList ++ args.toList.map a.eval ++ rc.toList)[j]? = some u := by
              rw [← hla, ← Array.toList_append, ← Array.toList_append, Array.getElem?_toList]; exact hu
            have hlm : (xs.map (Opd.ev fr)).length = (args.toList.map a.eval).length := by simpa using hl
            rcases Nat.lt_or_ge j (first ++ xs.map (Opd.ev fr)).length with h1 | h1
            · rw [List.getElem?_append_left h1] at hj
              rw [List.getElem?_append_left (by rw [List.length_append] at h1 ⊢; omega)] at hu'
              rcases Nat.lt_or_ge j first.length with h2 | h2
              · rw [List.getElem?_append_left h2] at hj
                rw [List.getElem?_append_left (by simpa [l1] using h2)] at hu'
                exact v1 j x u hj (by simpa using hu')
              · rw [List.getElem?_append_right h2] at hj
                rw [List.getElem?_append_right (by simpa [l1] using h2)] at hu'
                rw [Array.length_toList, ← l1] at hu'
                exact hvs _ x u hj hu'
            · rw [List.getElem?_append_right h1] at hj
              rw [List.getElem?_append_right (by rw [List.length_append] at h1 ⊢; omega)] at hu'
              have e1 : (first ++ xs.map (Opd.ev fr)).length = (rf.toList ++ args.toList.map a.eval).length := by rw [List.length_append, List.length_append, hlm]; omega
              refine v2 _ x u hj ?_
              rw [Array.getElem?_toList] at hu'
              rw [e1]
              exact hu'
          have hrun : (execOp a.eval ⟨dst, .call ⟨.value f0, args, ats⟩, ty, pos, after, guard⟩).run P w = .ok (.enter k (rf ++ args.map a.eval ++ rc)) w := by
            simp only [execOp, resolve, Deferred.ofValue, hef, pure_bind, Sem.run_bind, Sem.run_pure, Result.andThen_ok, invoke, run_callFunc hen]
          unfold Oper.wp
          rw [hrun, Oper.upon_enter]
          refine (hcs E w _ hH h0 hargs).mono ?_
          rintro e w' ⟨E', v', rfl, hv', hH', hS⟩
          exact hK E' w' v' hv' hH' hS
      · simp at h
    · simp at h
  · have hnc : ∀ n f xs, io ≠ .call n f xs := fun n f xs he => hc ⟨n, f, xs, he⟩
    have ha : aop fr io H = some (v, H') := by
      cases io <;> first | exact h | exact absurd rfl (hnc _ _ _)
    obtain ⟨E', w', nx, v', hr, hnx, hv, hH', hS⟩ := sim_op hF hH h0.toks o htr hnc ha
    unfold Oper.wp
    rw [hr]
    rcases hnx with rfl | ⟨rfl, rfl⟩
    · exact hK E' w' v' hv hH' hS
    · exact hK E' w' undef hv hH' hS

/-! ### Guards -/
def trGuard (ops : Array Oper) : Option (Nat × Bool) → Option (Option (Nat × Bool))
  | none => some none
  | some (j, b) => ((ops[j]?).bind (·.dst)).map fun d => some (d, b)

theorem want_ok (hF : FR E w fr a.tmps) {ops : Array Oper} {o : Oper} {g : Option (Nat × Bool)} (hg : trGuard ops o.guard = some g) {b : Bool} (h : want g fr = some b) : Region.wanted o (yielded ops a.tmps) = b := by
  cases hgo : o.guard with
  | none =>
    rw [hgo] at hg
    simp only [trGuard, Option.some.injEq] at hg
    subst hg
    simp only [want, Option.some.injEq] at h
    subst h
    simp [Region.wanted, hgo]
  | some p =>
    obtain ⟨j, c⟩ := p
    rw [hgo] at hg
    simp only [trGuard, Option.map_eq_some_iff] at hg
    obtain ⟨d, hd, rfl⟩ := hg
    simp only [want] at h
    split at h
    · rename_i q hq
      simp only [Option.some.injEq] at h
      subst h
      obtain ⟨u, hu, hv⟩ := hF.2 _ _ hq
      cases hv
      simp [Region.wanted, hgo, yielded, hd, hu]
    · rename_i hq
      simp only [Option.some.injEq] at h
      subst h
      obtain ⟨u, hu, hv⟩ := hF.2 _ _ hq
      cases hv with
      | tup _ vs l1 _ =>
        simp [Region.wanted, hgo, yielded, hd, hu]
    · simp at h

def trOper (P : Program) (ops : Array Oper) (m : Mode) (o : Oper) : Option IOper :=
  (trOp P m o.op).bind fun io => (trGuard ops o.guard).map fun g => ⟨o.dst, io, g⟩

/-- Operations, each against its translation. -/
inductive OpsR (P : Program) (ops : Array Oper) : List Nat → List IOper → Prop
  | nil : OpsR P ops [] []
  | cons {i : Nat} {is : List Nat} {o : Oper} {io : IOper} {ios : List IOper} {m : Mode} (h : ops[i]? = some o) (ht : trOper P ops m o = some io) (hr : OpsR P ops is ios) : OpsR P ops (i :: is) (io :: ios)

theorem VR.skip : VR E w (.tup []) Go.undef := .tup _ _ rfl (fun j x u h => by simp at h)

theorem sim_ops {D : Den} (hD : DOk P T D) {ops : Array Oper} {Q : Exit → Act → World → Prop} {is : List Nat} {ios : List IOper} (hr : OpsR P ops is ios) : ∀ {E : Env} {H H' : AH} {w : World} {fr fr' : List AV} {a : Act},
    FR E w fr a.tmps → HRel E H w → Rdy T E H w → iops D ios fr H = some (fr', H') →
    (∀ E' w' a', FR E' w' fr' a'.tmps → HRel E' H' w' → Step E H w E' H' w' → a'.defers = a.defers → Q .normal a' w') → wpOps P ops Q is a w := by
  induction hr with
  | nil =>
    intro E H H' w fr fr' a hF hH h0 h hQ
    simp only [iops, Option.some.injEq, Prod.mk.injEq] at h
    obtain ⟨rfl, rfl⟩ := h
    exact hQ E w a hF hH (.refl _ _ _) rfl
  | @cons i is o io ios m ho ht hr ih =>
    intro E H H' w fr fr' a hF hH h0 h hQ
    simp only [trOper, Option.bind_eq_some_iff, Option.map_eq_some_iff] at ht
    obtain ⟨op, hop, g, hg, rfl⟩ := ht
    simp only [iops] at h
    simp only [wpOps, ho]
    split at h
    · rename_i hw
      rw [want_ok hF hg hw]
      simp only [if_true]
      split at h
      · rename_i v H1 hv
        refine .inl (one_op hD hF hH h0 o hop hv ?_)
        intro E1 w1 v' hv' hH1 hS1
        refine ih ((hF.mono hS1.ext).put hv') hH1 (h0.step hH hS1) h ?_
        intro E2 w2 a2 hF2 hH2 hS2 hd
        refine hQ E2 w2 a2 hF2 hH2 (hS1.trans hS2) (hd.trans ?_)
        cases o.dst <;> rfl
      · simp at h
    · rename_i hw
      rw [want_ok hF hg hw]
      simp only [Bool.false_eq_true, if_false]
      refine ih (hF.put VR.skip) hH h0 h ?_
      intro E2 w2 a2 hF2 hH2 hS2 hd
      refine hQ E2 w2 a2 hF2 hH2 hS2 (hd.trans ?_)
      cases o.dst <;> rfl
    · simp at h

end Go.SV

namespace Go.SV

variable {P : Program} {E E' : Env} {H H' : AH} {w w' : World} {fr : List AV} {a : Act}

/-! ### What an operation reads -/
def IOp.opds : IOp → List Opd
  | .mov x | .box x | .load _ x | .nilck x | .not x | .neg x | .cvInt _ x | .cvRune x | .cvBytes x | .cvStr x | .cvMark x | .cvSame x | .mkIface _ x | .fieldAddr _ x | .field _ _ x | .rangeS x | .nextS x | .extract _ x
  | .len _ x | .sealR x => [x]
  | .pick a b c => [a, b, c]
  | .alloc _ | .mkMap => []
  | .build _ ps => ps.map (·.2.2)
  | .lit _ _ xs => xs
  | .store _ x y | .bin _ x y | .eqv _ _ x y | .eqAgg _ _ x y | .make _ _ _ _ x y | .idxAddr _ x y | .idxAddrArr _ _ x y | .idxStr x y | .idxArr _ _ _ x y | .lookup _ _ _ x y | .mapEntry _ _ x y | .append _ _ _ x y => [x, y]
  | .mkFn _ xs ys => xs ++ ys
  | .slcS x lo hi | .slc _ x lo hi => x :: (lo.toList ++ hi.toList)
  | .mapUpd _ x y z | .entrySt x y z => [x, y, z]
  | .minmax _ x xs => x :: xs
  | .call _ f xs => f :: xs

def Opd.tmp? : Opd → Option Nat
  | .tmp t => some t
  | _ => none

theorem map_ev {xs : List Opd} {fr fr' : List AV} (h : ∀ x ∈ xs, x.ev fr = x.ev fr') : xs.map (Opd.ev fr) = xs.map (Opd.ev fr') := List.map_congr_left h

theorem iop_congr {D : Den} {fr fr' : List AV} (io : IOp) (h : ∀ x ∈ io.opds, x.ev fr = x.ev fr') (H : AH) : iop D fr io H = iop D fr' io H := by
  have opt : ∀ {o : Option Opd}, (∀ x ∈ o.toList, x.ev fr = x.ev fr') → o.map (Opd.ev fr) = o.map (Opd.ev fr') := by
    intro o ho
    cases o with
    | none => rfl
    | some x => simp [ho x (by simp)]
  cases io with
  | call n f xs =>
    simp only [IOp.opds, List.mem_cons, forall_eq_or_imp] at h
    simp only [iop, h.1, map_ev h.2]
  | build z ps =>
    have : (ps.map fun p => (p.1, p.2.1, p.2.2.ev fr)) = ps.map fun p => (p.1, p.2.1, p.2.2.ev fr') := List.map_congr_left fun p hp => by
      rw [h p.2.2 (by simp only [IOp.opds, List.mem_map]; exact ⟨p, hp, rfl⟩)]
    simp only [iop, aop, this]
  | lit m s xs => simp only [iop, aop, map_ev (xs := xs) h]
  | mkFn f xs ys =>
    simp only [iop, aop, map_ev (xs := xs) (fun x hx => h x (by simp [IOp.opds, hx])), map_ev (xs := ys) (fun x hx => h x (by simp [IOp.opds, hx]))]
  | slcS x lo hi =>
    simp only [iop, aop, h x (by simp [IOp.opds]), opt (o := lo) (fun y hy => h y (by simp only [IOp.opds, List.mem_cons, List.mem_append]; exact .inr (.inl hy))), opt (o := hi) (fun y hy => h y (by simp only [IOp.opds, List.mem_cons, List.mem_append]; exact .inr (.inr hy)))]
  | slc s x lo hi =>
    simp only [iop, aop, h x (by simp [IOp.opds]), opt (o := lo) (fun y hy => h y (by simp only [IOp.opds, List.mem_cons, List.mem_append]; exact .inr (.inl hy))), opt (o := hi) (fun y hy => h y (by simp only [IOp.opds, List.mem_cons, List.mem_append]; exact .inr (.inr hy)))]
  | minmax b x xs =>
    simp only [IOp.opds, List.mem_cons, forall_eq_or_imp] at h
    simp only [iop, aop, h.1, map_ev h.2]
  | alloc z => rfl
  | mkMap => rfl
  | _ =>
    simp only [IOp.opds, List.mem_cons, List.not_mem_nil, or_false, forall_eq_or_imp, forall_eq] at h
    simp only [iop, aop, h]

def IOp.tmps (io : IOp) : List Nat := io.opds.filterMap Opd.tmp?

/-! ### Kinds of operations -/
def IOp.isAlloc : IOp → Bool
  | .alloc _ => true
  | _ => false

def IOp.isEff : IOp → Bool
  | .call _ _ _ | .store _ _ _ | .append _ _ _ _ _ | .mkMap | .mapUpd _ _ _ _ | .mapEntry _ _ _ _ | .entrySt _ _ _ | .rangeS _ | .nextS _ | .box _ | .sealR _ => true
  | .lit .ro _ _ => false
  | .lit _ _ _ => true
  | .make .ro _ _ _ _ _ => false
  | .make _ _ _ _ _ _ => true
  | _ => false

def blkOf : AV → Option Nat
  | .ptr b _ => some b
  | .slr b _ _ _ => some b
  | .map b => some b
  | _ => none

def rdOpd : IOp → Option Opd
  | .load _ x | .lookup _ _ _ x _ | .len _ x | .cvStr x | .cvMark x => some x
  | _ => none

def rdBlk (fr : List AV) (io : IOp) : Option Nat := (rdOpd io).bind fun x => blkOf (x.ev fr)

theorem floater {D : Den} {fr : List AV} {io : IOp} (h1 : io.isEff = false) (h2 : io.isAlloc = false) {v : AV} (h : iop D fr io H = some (v, H')) :
    H' = H ∧ ∀ H2 : AH, (∀ b, rdBlk fr io = some b → H2.get b = H.get b) → iop D fr io H2 = some (v, H2) := by
  have retc : ∀ {o : Option AV}, (o.map fun v => (v, H)) = some (v, H') → H' = H ∧ o = some v := by
    intro o ho
    simp only [Option.map_eq_some_iff, Prod.mk.injEq] at ho
    obtain ⟨u, hu, rfl, rfl⟩ := ho
    exact ⟨rfl, hu⟩
  cases io with
  | load n x =>
    simp only [iop, aop] at h ⊢
    obtain ⟨rfl, h⟩ := retc h
    refine ⟨rfl, fun H2 hb => ?_⟩
    simp only [rdBlk, rdOpd, Option.bind_some] at hb
    have : aLoad n (x.ev fr) H2 = aLoad n (x.ev fr) H' := by
      unfold aLoad
      split
      · rename_i b o e
        rw [hb b (by rw [e]; rfl)]
      · rfl
      · rfl
    rw [this, h]; rfl
  | lookup K z ok m k =>
    simp only [iop, aop] at h ⊢
    obtain ⟨rfl, h⟩ := retc h
    refine ⟨rfl, fun H2 hb => ?_⟩
    simp only [rdBlk, rdOpd, Option.bind_some] at hb
    have : mapEs (m.ev fr) H2 = mapEs (m.ev fr) H' := by
      unfold mapEs
      split
      · rfl
      · rename_i b e
        rw [hb b (by rw [e]; rfl)]
      · rfl
    unfold aLook at h ⊢
    rw [this, h]; rfl
  | len k x =>
    simp only [iop, aop] at h ⊢
    obtain ⟨rfl, h⟩ := retc h
    refine ⟨rfl, fun H2 hb => ?_⟩
    simp only [rdBlk, rdOpd, Option.bind_some] at hb
    have : aLen k (x.ev fr) H2 = aLen k (x.ev fr) H' := by
      generalize x.ev fr = y at hb
      unfold aLen
      cases k <;> cases y <;> first | rfl | (simp only; rw [hb _ rfl])
    rw [this, h]; rfl
  | cvStr x =>
    simp only [iop, aop] at h ⊢
    have key : ∀ H2 : AH, (∀ b, rdBlk fr (.cvStr x) = some b → H2.get b = H.get b) → elems 1 (x.ev fr) H2 = elems 1 (x.ev fr) H := by
      intro H2 hb
      simp only [rdBlk, rdOpd, Option.bind_some] at hb
      generalize x.ev fr = y at hb
      cases y <;> simp only [elems]
      rename_i b _ _ _
      rw [hb b rfl]
    split at h
    · rename_i xs hxs
      split at h
      · simp at h
      · rename_i hns
        split at h
        · rename_i hb
          simp only [Option.some.injEq, Prod.mk.injEq] at h
          obtain ⟨rfl, rfl⟩ := h
          refine ⟨rfl, fun H2 hb2 => ?_⟩
          rw [key H2 hb2, hxs]
          generalize x.ev fr = y at hns
          cases y <;> first | exact absurd rfl (hns _) | (simp only; rw [if_pos hb])
        · simp at h
    · simp at h
  | cvMark x =>
    simp only [iop, aop] at h ⊢
    split at h
    · rename_i b o n s e
      split at h
      · rename_i c hc
        simp only [Option.some.injEq, Prod.mk.injEq] at h
        obtain ⟨rfl, rfl⟩ := h
        refine ⟨rfl, fun H2 hb => ?_⟩
        have := hb b (by simp [rdBlk, rdOpd, e, blkOf])
        simp only [e, this, hc]
      · simp at h
    · simp at h
  | lit m s xs =>
    cases m <;> simp [IOp.isEff] at h1
    simp only [iop, aop] at h ⊢
    split at h
    · simp at h
    · rename_i hc
      simp only [Option.some.injEq, Prod.mk.injEq] at h
      obtain ⟨rfl, rfl⟩ := h
      refine ⟨rfl, fun H2 _ => ?_⟩
      rw [if_neg hc]
  | alloc z => simp [IOp.isAlloc] at h2
  | mov x =>
    simp only [iop, aop, Option.some.injEq, Prod.mk.injEq] at h ⊢
    exact ⟨h.2.symm, fun H2 _ => ⟨h.1, trivial⟩⟩
  | mkFn f xs ys =>
    simp only [iop, aop, Option.some.injEq, Prod.mk.injEq] at h ⊢
    exact ⟨h.2.symm, fun H2 _ => ⟨h.1, trivial⟩⟩
  | build z ps => simp only [iop, aop] at h ⊢; obtain ⟨rfl, hu⟩ := retc h; exact ⟨rfl, fun H2 _ => by rw [hu]; rfl⟩
  | bin op x y => simp only [iop, aop] at h ⊢; obtain ⟨rfl, hu⟩ := retc h; exact ⟨rfl, fun H2 _ => by rw [hu]; rfl⟩
  | eqv k n x y => simp only [iop, aop] at h ⊢; obtain ⟨rfl, hu⟩ := retc h; exact ⟨rfl, fun H2 _ => by rw [hu]; rfl⟩
  | idxAddr s x i => simp only [iop, aop] at h ⊢; obtain ⟨rfl, hu⟩ := retc h; exact ⟨rfl, fun H2 _ => by rw [hu]; rfl⟩
  | idxAddrArr l s x i => simp only [iop, aop] at h ⊢; obtain ⟨rfl, hu⟩ := retc h; exact ⟨rfl, fun H2 _ => by rw [hu]; rfl⟩
  | fieldAddr o x => simp only [iop, aop] at h ⊢; obtain ⟨rfl, hu⟩ := retc h; exact ⟨rfl, fun H2 _ => by rw [hu]; rfl⟩
  | minmax b x xs => simp only [iop, aop] at h ⊢; obtain ⟨rfl, hu⟩ := retc h; exact ⟨rfl, fun H2 _ => by rw [hu]; rfl⟩
  | call n f xs => simp [IOp.isEff] at h1
  | store n x y => simp [IOp.isEff] at h1
  | append m s b x y => simp [IOp.isEff] at h1
  | make m s b z x y =>
    cases m <;> simp [IOp.isEff] at h1
    simp only [iop, aop] at h ⊢
    split at h
    · split at h
      · rename_i hc
        simp only [Option.some.injEq, Prod.mk.injEq] at h
        obtain ⟨rfl, rfl⟩ := h
        exact ⟨rfl, fun H2 _ => by rw [if_pos hc]⟩
      · simp at h
    · simp at h
  | mkMap => simp [IOp.isEff] at h1
  | mapUpd K x y z => simp [IOp.isEff] at h1
  | mapEntry K x y z => simp [IOp.isEff] at h1
  | entrySt x y z => simp [IOp.isEff] at h1
  | rangeS x => simp [IOp.isEff] at h1
  | nextS x => simp [IOp.isEff] at h1
  | box x => simp [IOp.isEff] at h1
  | sealR x => simp [IOp.isEff] at h1
  | slcS x lo hi =>
    simp only [iop, aop] at h ⊢
    split at h
    · rename_i l e; obtain ⟨rfl, hu⟩ := retc h; exact ⟨rfl, fun H2 _ => by rw [hu]; rfl⟩
    · simp at h
  | slc s x lo hi =>
    simp only [iop, aop] at h ⊢
    split at h
    · simp at h
    · obtain ⟨rfl, hu⟩ := retc h; exact ⟨rfl, fun H2 _ => by rw [hu]; rfl⟩
  | _ =>
    simp only [iop, aop] at h ⊢
    repeat' (split at h)
    all_goals first
      | (simp only [Option.some.injEq, Prod.mk.injEq, reduceCtorEq] at h; done)
      | (simp only [Option.some.injEq, Prod.mk.injEq] at h; obtain ⟨rfl, rfl⟩ := h; exact ⟨rfl, fun H2 _ => by simp_all⟩)
      | (obtain ⟨rfl, hu⟩ := retc h; exact ⟨rfl, fun H2 _ => by first | (rw [hu]; rfl) | simp_all⟩)
      | skip

end Go.SV

namespace Go.SV

variable {P : Program} {E E' : Env} {H H' : AH} {w w' : World} {fr : List AV} {a : Act}

/-! ### Blocks that are there before the machine has made them -/
theorem HRel.extend (hH : HRel E H w) (l : List AObj) : HRel E ⟨H.obs ++ l, H.toks⟩ w ∧ Step E H w E ⟨H.obs ++ l, H.toks⟩ w := by
  have hg : ∀ b L, E.φ b = some L → AH.get ⟨H.obs ++ l, H.toks⟩ b = H.get b := fun b L hb => AH.get_append_lt H (hH.lt b L hb)
  refine ⟨⟨fun b L hb => by have := hH.lt b L hb; simp; omega, fun b L hb => by rw [hg b L hb]; exact hH.obj b L hb, ?_, hH.tok, hH.tinj, ?_, hH.prot, ?_⟩, ⟨.refl _ _, rfl, rfl, rfl, Nat.le_refl _, ?_, Nat.le_refl _, by simp, fun _ _ _ h => h⟩⟩
  · intro b b' L L' hb hb' h1 h2 he
    rw [hg b L hb] at h1
    rw [hg b' L' hb'] at h2
    exact hH.inj b b' L L' hb hb' h1 h2 he
  · intro b L t ns hb hl ht
    rw [hg b L hb] at hl
    exact hH.apart b L t ns hb hl ht
  · intro r hr
    obtain ⟨h1, h2, h3⟩ := hH.inert r hr
    exact ⟨h1, fun b L hb hl => h2 b L hb (by rw [hg b L hb] at hl; exact hl), h3⟩
  · intro r hr ho
    refine ⟨?_, rfl⟩
    rintro (⟨b, L, hb, hl, he⟩ | h)
    · rw [hg b L hb] at hl
      exact ho (.inl ⟨b, L, hb, hl, he⟩)
    · exact ho (.inr h)

theorem HRel.fillRef (hH : HRel E H w) (o : Obj) {b : Nat} (L : Ref) (hb : b < H.obs.length) (hφ : E.φ b = none) (hr : L.r = w.heap.size)
    (hobj : ∀ E', Ext E w E' (w.alloc o) → (∀ i, ¬ E'.prot L.r i) → ObjRel E' (w.alloc o) L (H.get b)) :
    HRel (E.addRef b L) H (w.alloc o) ∧ Ext E w (E.addRef b L) (w.alloc o) ∧ (E.addRef b L).φ b = some L ∧
    (∀ b', b' ≠ b → (E.addRef b L).φ b' = E.φ b') := by
  have hne : ∀ b', b' ≠ b → (E.addRef b L).φ b' = E.φ b' := fun b' h => by simp [Env.addRef, h]
  have hsame : (E.addRef b L).φ b = some L := by simp [Env.addRef]
  have hφ' : ∀ b' L', E.φ b' = some L' → (E.addRef b L).φ b' = some L' := by
    intro b' L' h
    rw [hne b' (fun e => by rw [e, hφ] at h; simp at h)]
    exact h
  have hold : ∀ b' L', (E.addRef b L).φ b' = some L' → (b' = b ∧ L' = L) ∨ (b' ≠ b ∧ E.φ b' = some L') := by
    intro b' L' h
    by_cases e : b' = b
    · subst e; rw [hsame] at h; injection h with h; exact .inl ⟨rfl, h.symm⟩
    · rw [hne b' e] at h; exact .inr ⟨e, h⟩
  have hx : Ext E w (E.addRef b L) (w.alloc o) := by
    refine ⟨hφ', fun _ _ h => h, fun r i v _ hc => ?_, fun _ n _ h => ⟨n, h, Nat.le_refl _, fun _ => rfl⟩, fun _ h => h⟩
    rw [World.cell?_alloc_lt _ _ _ (lt_of_cell hc)]; exact hc
  have hnp : ∀ i, ¬ (E.addRef b L).prot L.r i := fun i => by rw [hr]; exact hH.noprot_new i
  refine ⟨⟨?_, ?_, ?_, ?_, hH.tinj, ?_, ?_, ?_⟩, hx, hsame, hne⟩
  · intro b' L' h
    rcases hold b' L' h with ⟨rfl, _⟩ | ⟨_, h⟩
    · exact hb
    · exact hH.lt b' L' h
  · intro b' L' h
    rcases hold b' L' h with ⟨rfl, rfl⟩ | ⟨_, h⟩
    · exact hobj _ hx hnp
    · exact (hH.obj b' L' h).frame hx (fun hl => heap_alloc_lt _ _ ((hH.obj b' L' h).lt hl)) (fun _ _ h => h)
  · intro b1 b2 L1 L2 h1 h2 hl1 hl2 he
    rcases hold b1 L1 h1 with ⟨rfl, rfl⟩ | ⟨n1, k1⟩ <;> rcases hold b2 L2 h2 with ⟨rfl, rfl⟩ | ⟨n2, k2⟩
    · rfl
    · have := (hH.obj b2 L2 k2).lt hl2
      omega
    · have := (hH.obj b1 L1 k1).lt hl1
      omega
    · exact hH.inj b1 b2 L1 L2 k1 k2 hl1 hl2 he
  · intro t n s ht
    obtain ⟨h0, te', h1, h2⟩ := hH.tok t n s ht
    exact ⟨h0, te', h1, h2.frame (heap_alloc_lt _ _ h2.lt) (fun _ h => h)⟩
  · intro b' L' t ns h hl ht
    rcases hold b' L' h with ⟨rfl, rfl⟩ | ⟨_, h⟩
    · obtain ⟨n, s⟩ := ns
      have := hH.tok_lt ht
      show L'.r ≠ (E.tk t).r
      omega
    · exact hH.apart b' L' t ns h hl ht
  · intro r i hp
    obtain ⟨v, hv⟩ := hH.prot r i hp
    exact ⟨v, hx.cell r i v hp hv⟩
  · intro r hi
    obtain ⟨i1, i2, i3⟩ := hH.inert r hi
    refine ⟨by simp; omega, fun b' L' h hl => ?_, i3⟩
    rcases hold b' L' h with ⟨rfl, rfl⟩ | ⟨_, h⟩
    · omega
    · exact i2 b' L' h hl

/-- The block that an allocation made in its turn stands for one that has been there. -/
theorem fill_step {E0 : Env} {H0 : AH} {w0 : World} (hS : Step E0 H0 w0 E H w) {o : Obj} {b : Nat} {L : Ref} (hr : L.r = w.heap.size) (hb : H0.obs.length ≤ b) (hx : Ext E w (E.addRef b L) (w.alloc o)) :
    Step E0 H0 w0 (E.addRef b L) H (w.alloc o) := by
  have hne : ∀ b', b' ≠ b → (E.addRef b L).φ b' = E.φ b' := fun b' h => by simp [Env.addRef, h]
  refine ⟨hS.ext.trans hx, hS.os, hS.tape, hS.output, by have := hS.size; simp; omega, fun r hr' ho => ?_, hS.toks, hS.obs, fun b' L' hb' h => ?_⟩
  · obtain ⟨h1, h2⟩ := hS.keep r hr' ho
    have := hS.size
    refine ⟨?_, (heap_alloc_lt _ _ (by omega)).trans h2⟩
    rintro (⟨b', L', hb', hl, he⟩ | h)
    · by_cases e : b' = b
      · subst e
        simp only [Env.addRef, if_true, Option.some.injEq] at hb'
        subst hb'
        omega
      · rw [hne b' e] at hb'
        exact h1 (.inl ⟨b', L', hb', hl, he⟩)
    · exact h1 (.inr h)
  · rw [hne b' (by omega)] at h
    exact hS.old b' L' hb' h

/-! ### The text's order, allocations first -/
def hoist : List IOper → List AV → AH → List AV × AH
  | [], fr, H => (fr, H)
  | o :: os, fr, H => match o.op with
    | .alloc z => hoist os (setd o.dst (.ptr H.obs.length 0) fr) ⟨H.obs ++ [.cells z], H.toks⟩
    | _ => hoist os fr H

def trace (D : Den) : List IOper → List AV → AH → Option (List (List AV × AH))
  | [], fr, H => some [(fr, H)]
  | o :: os, fr, H =>
    if o.op.isAlloc then (trace D os fr H).map ((fr, H) :: ·) else
    match want o.guard fr with
    | some true => match iop D fr o.op H with
      | some (v, H') => (trace D os (setd o.dst v fr) H').map ((fr, H) :: ·)
      | none => none
    | some false => (trace D os (setd o.dst (.tup []) fr) H).map ((fr, H) :: ·)
    | none => none

def bq (bef : List (List Nat)) (j : Nat) : List Nat := (bef[j]?).getD []

def stF (sts : List (List AV × AH)) (i : Nat) : List AV := ((sts[i]?).getD ([], default)).1
def stH (sts : List (List AV × AH)) (i : Nat) : AH := ((sts[i]?).getD ([], default)).2

/-- What must hold of memory where the order is open: what is read out of its turn is not changed meanwhile. -/
def DynOk (ios : List IOper) (bef : List (List Nat)) (fr : List AV) (sts : List (List AV × AH)) : Prop :=
  (∀ (f : Nat) o d, ios[f]? = some o → o.op.isAlloc = true → o.dst = some d → d < fr.length) ∧
  (∀ (e j : Nat) oe oj, ios[e]? = some oe → ios[j]? = some oj → oe.op.isEff = true → oj.op.isEff = false → oj.op.isAlloc = false → e ∉ bq bef j → j ∉ bq bef e →
    (aop (stF sts j) oj.op (stH sts (e + 1))).map (·.1) = (aop (stF sts j) oj.op (stH sts e)).map (·.1)) ∧
  (∀ (e f : Nat) oe z d b, ios[e]? = some oe → oe.op.isEff = true → f ∉ bq bef e → (ios[f]?).map (fun o => (o.op, o.dst)) = some (.alloc z, some d) →
    (stF sts 0)[d]? = some (.ptr b 0) → (stH sts (e + 1)).get b = .cells z)

open Classical in
noncomputable def dreg (D : Den) (ios : List IOper) (bef : List (List Nat)) (fr : List AV) (H : AH) : Option (List AV × AH) :=
  let h := hoist ios fr H
  match trace D ios h.1 h.2 with
  | some sts => if DynOk ios bef fr sts then some (stF sts ios.length, stH sts ios.length) else none
  | none => none

theorem setd_length (d : Option Nat) (v : AV) (fr : List AV) : (setd d v fr).length = fr.length := by
  cases d <;> simp [setd]
theorem setd_ne {d : Option Nat} {v : AV} {fr : List AV} {t : Nat} (h : d ≠ some t) : (setd d v fr)[t]? = fr[t]? := by
  cases d with
  | none => rfl
  | some d => simp only [setd]; rw [List.getElem?_set_ne]; intro e; exact h (by rw [e])

theorem hoist_spec : ∀ (ios : List IOper) (fr : List AV) (H : AH),
    (∀ (i j : Nat) oi oj d, ios[i]? = some oi → ios[j]? = some oj → oi.dst = some d → oj.dst = some d → i = j) →
    (∀ (i : Nat) o d, ios[i]? = some o → o.op.isAlloc = true → o.dst = some d → d < fr.length) →
    (∀ (i : Nat) o, ios[i]? = some o → o.op.isAlloc = true → o.dst.isSome = true) →
    ∃ B : Nat → Nat, (hoist ios fr H).1.length = fr.length ∧ (hoist ios fr H).2.toks = H.toks ∧ (∃ l, (hoist ios fr H).2.obs = H.obs ++ l) ∧
      (∀ (i : Nat) o z d, ios[i]? = some o → o.op = .alloc z → o.dst = some d → (hoist ios fr H).1[d]? = some (.ptr (B i) 0) ∧ H.obs.length ≤ B i ∧ B i < (hoist ios fr H).2.obs.length ∧ (hoist ios fr H).2.get (B i) = .cells z) ∧
      (∀ (i j : Nat) oi oj, ios[i]? = some oi → ios[j]? = some oj → oi.op.isAlloc = true → oj.op.isAlloc = true → B i = B j → i = j) ∧
      (∀ t, (∀ (i : Nat) o, ios[i]? = some o → o.op.isAlloc = true → o.dst ≠ some t) → (hoist ios fr H).1[t]? = fr[t]?) := by
  intro ios
  induction ios with
  | nil =>
    intro fr H _ _ _
    exact ⟨fun _ => 0, rfl, rfl, ⟨[], by simp [hoist]⟩, by simp, by simp, fun _ _ => rfl⟩
  | cons o os ih =>
    intro fr H h1 h2 h3
    have h1' : ∀ (i j : Nat) oi oj d, os[i]? = some oi → os[j]? = some oj → oi.dst = some d → oj.dst = some d → i = j := fun i j oi oj d a b c e => by
      have := h1 (i + 1) (j + 1) oi oj d (by simpa using a) (by simpa using b) c e
      omega
    have h3' : ∀ (i : Nat) o, os[i]? = some o → o.op.isAlloc = true → o.dst.isSome = true := fun i o a b => h3 (i + 1) o (by simpa using a) b
    by_cases ha : ∃ z, o.op = .alloc z
    · obtain ⟨z, hz⟩ := ha
      obtain ⟨d, hd⟩ := Option.isSome_iff_exists.1 (h3 0 o rfl (by rw [hz]; rfl))
      have hdlt := h2 0 o d rfl (by rw [hz]; rfl) hd
      have hun : hoist (o :: os) fr H = hoist os (setd o.dst (.ptr H.obs.length 0) fr) ⟨H.obs ++ [.cells z], H.toks⟩ := by simp only [hoist, hz]
      obtain ⟨B, b1, b2, ⟨l, b3⟩, b4, b5, b6⟩ := ih (setd o.dst (.ptr H.obs.length 0) fr) ⟨H.obs ++ [.cells z], H.toks⟩ h1' (fun i o' d' x y e => by rw [setd_length]; exact h2 (i + 1) o' d' (by simpa using x) y e) h3'
      rw [hun]
      have hlen : H.obs.length < (hoist os (setd o.dst (.ptr H.obs.length 0) fr) ⟨H.obs ++ [.cells z], H.toks⟩).2.obs.length := by rw [b3]; simp
      have hd0 : (hoist os (setd o.dst (.ptr H.obs.length 0) fr) ⟨H.obs ++ [.cells z], H.toks⟩).1[d]? = some (.ptr H.obs.length 0) := by
        rw [b6 d (fun i o' hi' _ he => by have := h1 0 (i + 1) o o' d rfl (by simpa using hi') hd he; omega)]
        simp only [hd, setd]
        rw [List.getElem?_set_self hdlt]
      refine ⟨fun i => match i with | 0 => H.obs.length | i + 1 => B i, by rw [b1, setd_length], b2, ⟨.cells z :: l, by rw [b3]; simp⟩, ?_, ?_, ?_⟩
      · intro i o' z' d' hi' hz' hd'
        cases i with
        | zero =>
          simp only [List.getElem?_cons_zero, Option.some.injEq] at hi'
          subst hi'
          rw [hd] at hd'
          injection hd' with hd'
          subst hd'
          rw [hz] at hz'
          injection hz' with hz'
          subst hz'
          refine ⟨hd0, Nat.le_refl _, hlen, ?_⟩
          simp only [AH.get, b3]
          simp
        | succ i =>
          obtain ⟨c1, c2, c3, c4⟩ := b4 i o' z' d' (by simpa using hi') hz' hd'
          exact ⟨c1, by simp at c2; show H.obs.length ≤ B i; omega, c3, c4⟩
      · intro i j oi oj hi' hj' ai aj he
        cases i with
        | zero =>
          cases j with
          | zero => rfl
          | succ j =>
            obtain ⟨zj, hzj⟩ : ∃ z, oj.op = .alloc z := by
              revert aj; cases oj.op <;> simp [IOp.isAlloc]
            obtain ⟨dj, hdj⟩ := Option.isSome_iff_exists.1 (h3 _ oj hj' aj)
            obtain ⟨_, c2, _⟩ := b4 j oj zj dj (by simpa using hj') hzj hdj
            simp at c2 he
            omega
        | succ i =>
          cases j with
          | zero =>
            obtain ⟨zj, hzj⟩ : ∃ z, oi.op = .alloc z := by
              revert ai; cases oi.op <;> simp [IOp.isAlloc]
            obtain ⟨dj, hdj⟩ := Option.isSome_iff_exists.1 (h3 _ oi hi' ai)
            obtain ⟨_, c2, _⟩ := b4 i oi zj dj (by simpa using hi') hzj hdj
            simp at c2 he
            omega
          | succ j => rw [b5 i j oi oj (by simpa using hi') (by simpa using hj') ai aj he]
      · intro t ht
        rw [b6 t (fun i o' hi' ho' => ht (i + 1) o' (by simpa using hi') ho')]
        exact setd_ne (ht 0 o rfl (by rw [hz]; rfl))
    · have hun : hoist (o :: os) fr H = hoist os fr H := by
        simp only [hoist]
        split
        · rename_i z hz; exact absurd ⟨z, hz⟩ ha
        · rfl
      have hna : o.op.isAlloc = false := by
        cases ho : o.op <;> simp [IOp.isAlloc]
        exact ha ⟨_, ho⟩
      obtain ⟨B, b1, b2, b3, b4, b5, b6⟩ := ih fr H h1' (fun i o' d' x y e => h2 (i + 1) o' d' (by simpa using x) y e) h3'
      rw [hun]
      refine ⟨fun i => match i with | 0 => 0 | i + 1 => B i, b1, b2, b3, ?_, ?_, ?_⟩
      · intro i o' z' d' hi' hz' hd'
        cases i with
        | zero =>
          simp only [List.getElem?_cons_zero, Option.some.injEq] at hi'
          subst hi'
          exact absurd ⟨_, hz'⟩ ha
        | succ i => exact b4 i o' z' d' (by simpa using hi') hz' hd'
      · intro i j oi oj hi' hj' ai aj he
        cases i with
        | zero =>
          simp only [List.getElem?_cons_zero, Option.some.injEq] at hi'
          subst hi'
          rw [hna] at ai; simp at ai
        | succ i =>
          cases j with
          | zero =>
            simp only [List.getElem?_cons_zero, Option.some.injEq] at hj'
            subst hj'
            rw [hna] at aj; simp at aj
          | succ j => rw [b5 i j oi oj (by simpa using hi') (by simpa using hj') ai aj he]
      · intro t ht
        exact b6 t (fun i o' hi' ho' => ht (i + 1) o' (by simpa using hi') ho')

/-- One operation of the trace. -/
def StepAt (D : Den) (o : IOper) (s s' : List AV × AH) : Prop :=
  (o.op.isAlloc = true ∧ s' = s) ∨
  (o.op.isAlloc = false ∧ want o.guard s.1 = some true ∧ ∃ v, iop D s.1 o.op s.2 = some (v, s'.2) ∧ s'.1 = setd o.dst v s.1) ∨
  (o.op.isAlloc = false ∧ want o.guard s.1 = some false ∧ s'.2 = s.2 ∧ s'.1 = setd o.dst (.tup []) s.1)

theorem trace_spec {D : Den} : ∀ (ios : List IOper) (fr : List AV) (H : AH) sts, trace D ios fr H = some sts →
    stF sts 0 = fr ∧ stH sts 0 = H ∧ ∀ (i : Nat) o, ios[i]? = some o → StepAt D o (stF sts i, stH sts i) (stF sts (i + 1), stH sts (i + 1)) := by
  intro ios
  induction ios with
  | nil =>
    intro fr H sts h
    simp only [trace, Option.some.injEq] at h
    subst h
    exact ⟨rfl, rfl, by simp⟩
  | cons o os ih =>
    intro fr H sts h
    have step : ∀ fr' H' sts', trace D os fr' H' = some sts' → StepAt D o (fr, H) (fr', H') → sts = (fr, H) :: sts' →
        stF sts 0 = fr ∧ stH sts 0 = H ∧ ∀ (i : Nat) o', (o :: os)[i]? = some o' → StepAt D o' (stF sts i, stH sts i) (stF sts (i + 1), stH sts (i + 1)) := by
      intro fr' H' sts' ht hs he
      obtain ⟨i1, i2, i3⟩ := ih fr' H' sts' ht
      subst he
      refine ⟨rfl, rfl, fun i o' hi => ?_⟩
      cases i with
      | zero =>
        simp only [List.getElem?_cons_zero, Option.some.injEq] at hi
        subst hi
        have e1 : stF ((fr, H) :: sts') (0 + 1) = fr' := by rw [← i1]; simp [stF]
        have e2 : stH ((fr, H) :: sts') (0 + 1) = H' := by rw [← i2]; simp [stH]
        rw [e1, e2]
        exact hs
      | succ i =>
        have := i3 i o' (by simpa using hi)
        simpa [stF, stH] using this
    simp only [trace] at h
    split at h
    · rename_i ha
      simp only [Option.map_eq_some_iff] at h
      obtain ⟨sts', ht, rfl⟩ := h
      exact step fr H sts' ht (.inl ⟨ha, rfl⟩) rfl
    · rename_i ha
      split at h
      · rename_i hw
        split at h
        · rename_i v H' hv
          simp only [Option.map_eq_some_iff] at h
          obtain ⟨sts', ht, rfl⟩ := h
          exact step _ H' sts' ht (.inr (.inl ⟨by simpa using ha, hw, v, hv, rfl⟩)) rfl
        · simp at h
      · rename_i hw
        simp only [Option.map_eq_some_iff] at h
        obtain ⟨sts', ht, rfl⟩ := h
        exact step _ H sts' ht (.inr (.inr ⟨by simpa using ha, hw, rfl, rfl⟩)) rfl
      · simp at h

end Go.SV

namespace Go.SV

variable {P : Program} {E E' : Env} {H H' : AH} {w w' : World} {fr : List AV} {a : Act}

def reads (o : IOper) : List Nat := (match o.guard with | some (t, _) => [t] | none => []) ++ o.op.tmps

/-- The edges, what they say, and what each operation reads: nothing hangs on the order. -/
def chk (ops : Array Oper) (ios : List IOper) (bef : List (List Nat)) (j : Nat) : Bool :=
  match ops[j]?, ios[j]? with
  | some o, some io =>
    (o.after.toList.all fun e => !Region.binds .any e || decide (e.on < j)) &&
    ((bq bef j).all fun k => decide (k < j) && o.after.toList.any fun e => Region.binds .any e && (e.on == k || (bq bef e.on).contains k)) &&
    ((List.range ios.length).all fun i => match ios[i]? with
      | some x => match x.dst with
        | some d =>
          (!(reads io).contains d || (i == j && !x.op.isAlloc) || (decide (i < j) && (bq bef j).contains i) || (decide (j < i) && !x.op.isAlloc && (bq bef i).contains j)) &&
          (io.dst != some d || i == j)
        | none => true
      | none => true) &&
    (!io.op.isEff || (List.range j).all fun i => match ios[i]? with
      | some x => !x.op.isEff || (bq bef j).contains i
      | none => true) &&
    (!io.op.isAlloc || (io.guard.isNone && io.dst.isSome))
  | _, _ => false

def dOk (ops : Array Oper) (ios : List IOper) (bef : List (List Nat)) : Bool :=
  ops.size == ios.length && (List.range ios.length).all (chk ops ios bef)

structure Chk (ops : Array Oper) (ios : List IOper) (bef : List (List Nat)) (j : Nat) (o : Oper) (io : IOper) : Prop where
  back : ∀ e ∈ o.after, Region.binds .any e = true → e.on < j
  sub : ∀ k ∈ bq bef j, k < j ∧ ∃ e ∈ o.after, Region.binds .any e = true ∧ (e.on = k ∨ k ∈ bq bef e.on)
  read : ∀ (i : Nat) x d, ios[i]? = some x → x.dst = some d → d ∈ reads io → (i = j ∧ x.op.isAlloc = false) ∨ (i < j ∧ i ∈ bq bef j) ∨ (j < i ∧ x.op.isAlloc = false ∧ j ∈ bq bef i)
  dist : ∀ (i : Nat) x d, ios[i]? = some x → x.dst = some d → io.dst = some d → i = j
  eff : ∀ (i : Nat) x, ios[i]? = some x → i < j → io.op.isEff = true → x.op.isEff = true → i ∈ bq bef j
  alloc : io.op.isAlloc = true → io.guard = none ∧ io.dst.isSome = true

theorem getElem?_lt {α : Type} {l : List α} {i : Nat} {x : α} (h : l[i]? = some x) : i < l.length := by
  rcases Nat.lt_or_ge i l.length with h' | h'
  · exact h'
  · simp [List.getElem?_eq_none h'] at h

theorem chk_spec {ops : Array Oper} {ios : List IOper} {bef : List (List Nat)} (h : dOk ops ios bef = true) : ops.size = ios.length ∧
    ∀ (j : Nat) o io, ops[j]? = some o → ios[j]? = some io → Chk ops ios bef j o io := by
  simp only [dOk, Bool.and_eq_true, beq_iff_eq, List.all_eq_true, List.mem_range] at h
  refine ⟨h.1, fun j o io ho hio => ?_⟩
  have hj := h.2 j (getElem?_lt hio)
  simp only [chk, ho, hio, Bool.and_eq_true, List.all_eq_true, List.mem_range, Bool.or_eq_true, Bool.not_eq_true', decide_eq_true_eq, List.any_eq_true, beq_iff_eq, List.contains_iff_mem, Array.mem_toList_iff] at hj
  obtain ⟨⟨⟨⟨h1, h2⟩, h3⟩, h4⟩, h5⟩ := hj
  refine ⟨?_, ?_, ?_, ?_, ?_, ?_⟩
  · intro e he hb
    rcases h1 e he with h | h
    · rw [hb] at h; simp at h
    · exact h
  · intro k hk
    obtain ⟨hlt, e, he, hb, hor⟩ := h2 k hk
    exact ⟨hlt, e, he, hb, hor⟩
  · intro i x d hi hd hr
    have := h3 i (getElem?_lt hi)
    simp only [hi, hd, Bool.and_eq_true, Bool.or_eq_true, Bool.not_eq_true', List.contains_iff_mem, beq_iff_eq, decide_eq_true_eq, bne_iff_ne, ne_eq] at this
    have hc : (reads io).contains d = true := by simpa using hr
    rcases this.1 with ((h | h) | h) | h
    · rw [hc] at h; simp at h
    · exact .inl h
    · exact .inr (.inl h)
    · exact .inr (.inr ⟨h.1.1, h.1.2, h.2⟩)
  · intro i x d hi hd hj
    have := h3 i (getElem?_lt hi)
    simp only [hi, hd, Bool.and_eq_true, Bool.or_eq_true, beq_iff_eq, bne_iff_ne, ne_eq] at this
    rcases this.2 with h | h
    · exact absurd hj h
    · exact h
  · intro i x hi hlt he hx
    rcases h4 with h | h
    · rw [he] at h; simp at h
    · have := h i hlt
      simp only [hi, hx, Bool.not_true, Bool.false_eq_true, Bool.or_eq_true, List.contains_iff_mem, false_or] at this
      exact this
  · intro ha
    rcases h5 with h | h
    · rw [ha] at h; simp at h
    · simpa using h

theorem OpsR.at {ops : Array Oper} {is : List Nat} {ios : List IOper} (h : OpsR P ops is ios) : is.length = ios.length ∧ ∀ (k i : Nat) io, is[k]? = some i → ios[k]? = some io → ∃ o m, ops[i]? = some o ∧ trOper P ops m o = some io := by
  induction h with
  | nil => exact ⟨rfl, by simp⟩
  | @cons i is o io ios m ho ht hr ih =>
    refine ⟨by simp [ih.1], fun k i' io' hk hk' => ?_⟩
    cases k with
    | zero =>
      simp only [List.getElem?_cons_zero, Option.some.injEq] at hk hk'
      subst hk; subst hk'
      exact ⟨o, m, ho, ht⟩
    | succ k => exact ih.2 k i' io' (by simpa using hk) (by simpa using hk')

theorem iop_reads {D : Den} {fr fr' : List AV} {io : IOper} (h : ∀ t ∈ reads io, fr[t]? = fr'[t]?) (H : AH) : iop D fr io.op H = iop D fr' io.op H ∧ want io.guard fr = want io.guard fr' := by
  refine ⟨iop_congr io.op (fun x hx => ?_) H, ?_⟩
  · cases x with
    | tmp t =>
      have := h t (by simp only [reads, List.mem_append]; exact .inr (List.mem_filterMap.2 ⟨_, hx, rfl⟩))
      simp only [Opd.ev, this]
    | _ => rfl
  · obtain ⟨dst, op, g⟩ := io
    cases g with
    | none => rfl
    | some p =>
      obtain ⟨t, b⟩ := p
      have := h t (by simp [reads])
      simp only [want, this]

end Go.SV

namespace Go.SV

variable {P : Program} {T : Laid} {E E' : Env} {H H' : AH} {w w' : World} {fr : List AV} {a : Act}

theorem trBin_alloc {op : BinOp} {t : TypeId} {x y : Opd} {z : List AV} : trBin P op t x y ≠ some (.alloc z) := by
  intro h
  unfold trBin at h
  repeat' (split at h)
  all_goals simp only [Option.some.injEq, Option.map_eq_some_iff, reduceCtorEq, and_false, exists_false] at h

theorem trConv_alloc {s d : TypeId} {x : Opd} {z : List AV} : trConv P s d x ≠ some (.alloc z) := by
  intro h
  unfold trConv at h
  repeat' (split at h)
  all_goals simp only [Option.some.injEq, reduceCtorEq] at h

theorem trBuiltin_alloc {m : Mode} {b : Builtin} {ts : List TypeId} {xs : List Opd} {z : List AV} : trBuiltin P m b ts xs ≠ some (.alloc z) := by
  intro h
  unfold trBuiltin at h
  repeat' (split at h)
  all_goals simp only [Option.some.injEq, reduceCtorEq] at h

theorem trOp_alloc {m : Mode} {op : Op} {z : List AV} (h : trOp P m op = some (.alloc z)) : ∃ e, op = .alloc e := by
  unfold trOp at h
  split at h
  all_goals first
    | exact ⟨_, rfl⟩
    | (exfalso
       simp only [Option.bind_eq_some_iff, Option.map_eq_some_iff, reduceCtorEq, and_false, exists_false] at h
       done)
    | (exfalso
       try simp only [Option.bind_eq_some_iff, Option.map_eq_some_iff] at h
       first
         | (obtain ⟨_, _, _, _, h⟩ := h; exact trBin_alloc h)
         | (obtain ⟨_, _, h⟩ := h; exact trConv_alloc h)
         | (repeat' (split at h)
            all_goals first
              | (simp only [Option.bind_eq_some_iff, Option.map_eq_some_iff, Option.some.injEq, reduceCtorEq, and_false, exists_false] at h; done)
              | (try simp only [Option.bind_eq_some_iff, Option.map_eq_some_iff] at h
                 first
                   | (obtain ⟨_, _, h⟩ := h; exact trBuiltin_alloc h)
                   | (obtain ⟨_, _, h⟩ := h; repeat' (split at h)
                      all_goals (simp only [Option.bind_eq_some_iff, Option.map_eq_some_iff, Option.some.injEq, reduceCtorEq, and_false, exists_false] at h; done))
                   | (obtain ⟨_, _, _, _, h⟩ := h; repeat' (split at h)
                      all_goals (simp only [Option.bind_eq_some_iff, Option.map_eq_some_iff, Option.some.injEq, reduceCtorEq, and_false, exists_false] at h; done))
                   | (obtain ⟨_, _, _, _, _, _, h⟩ := h; repeat' (split at h)
                      all_goals (simp only [Option.bind_eq_some_iff, Option.map_eq_some_iff, Option.some.injEq, reduceCtorEq, and_false, exists_false] at h; done)))))

structure Lay (P : Program) (D : Den) (ops : Array Oper) (ios : List IOper) (bef : List (List Nat)) (fr0 : List AV) (H0 : AH) (sts : List (List AV × AH)) (B : Nat → Nat) : Prop where
  size : ops.size = ios.length
  chk : ∀ (j : Nat) o io, ops[j]? = some o → ios[j]? = some io → Chk ops ios bef j o io
  tr : ∀ (j : Nat) io, ios[j]? = some io → ∃ o m, ops[j]? = some o ∧ trOper P ops m o = some io
  step : ∀ (i : Nat) o, ios[i]? = some o → StepAt D o (stF sts i, stH sts i) (stF sts (i + 1), stH sts (i + 1))
  dyn : DynOk ios bef fr0 sts
  hoistF : ∀ t, (∀ (i : Nat) o, ios[i]? = some o → o.op.isAlloc = true → o.dst ≠ some t) → (stF sts 0)[t]? = fr0[t]?
  len : (stF sts 0).length = fr0.length
  B1 : ∀ (i : Nat) o z d, ios[i]? = some o → o.op = .alloc z → o.dst = some d → (stF sts 0)[d]? = some (.ptr (B i) 0) ∧ H0.obs.length ≤ B i ∧ B i < (stH sts 0).obs.length ∧ (stH sts 0).get (B i) = .cells z
  B2 : ∀ (i j : Nat) oi oj, ios[i]? = some oi → ios[j]? = some oj → oi.op.isAlloc = true → oj.op.isAlloc = true → B i = B j → i = j

section
variable {D : Den} {ops : Array Oper} {ios : List IOper} {bef : List (List Nat)} {fr0 : List AV} {H0 : AH} {sts : List (List AV × AH)} {B : Nat → Nat}

theorem Lay.dist (L : Lay P D ops ios bef fr0 H0 sts B) {i j : Nat} {x y : IOper} {d : Nat} (hi : ios[i]? = some x) (hj : ios[j]? = some y) (hx : x.dst = some d) (hy : y.dst = some d) : i = j := by
  obtain ⟨o, m, ho, _⟩ := L.tr j y hj
  exact (L.chk j o y ho hj).dist i x d hi hx hy

theorem Lay.heap1 (L : Lay P D ops ios bef fr0 H0 sts B) {i : Nat} {o : IOper} (hi : ios[i]? = some o) (he : o.op.isEff = false) : stH sts (i + 1) = stH sts i := by
  rcases L.step i o hi with ⟨_, h⟩ | ⟨ha, _, v, hv, _⟩ | ⟨_, _, h, _⟩
  · exact congrArg Prod.snd h
  · exact (floater he ha hv).1
  · exact h

theorem Lay.heaps (L : Lay P D ops ios bef fr0 H0 sts B) {i : Nat} : ∀ {j : Nat}, i ≤ j → j ≤ ios.length → (∀ (e : Nat) o, i ≤ e → e < j → ios[e]? = some o → o.op.isEff = false) → stH sts j = stH sts i := by
  intro j
  induction j with
  | zero => intro h _ _; rw [Nat.le_zero.1 h]
  | succ j ih =>
    intro h hj hn
    rcases Nat.lt_or_ge i (j + 1) with h1 | h1
    · obtain ⟨o, ho⟩ : ∃ o, ios[j]? = some o := ⟨_, List.getElem?_eq_getElem (by omega)⟩
      rw [L.heap1 ho (hn j o (by omega) (by omega) ho), ih (by omega) (by omega) fun e o h1 h2 => hn e o h1 (by omega)]
    · rw [show i = j + 1 by omega]

theorem Lay.gets {β : Type} (φ : AH → β) (L : Lay P D ops ios bef fr0 H0 sts B) {i : Nat} : ∀ {j : Nat}, i ≤ j → j ≤ ios.length →
    (∀ (e : Nat) o, i ≤ e → e < j → ios[e]? = some o → o.op.isEff = true → φ (stH sts (e + 1)) = φ (stH sts e)) → φ (stH sts j) = φ (stH sts i) := by
  intro j
  induction j with
  | zero => intro h _ _; rw [Nat.le_zero.1 h]
  | succ j ih =>
    intro h hj hn
    rcases Nat.lt_or_ge i (j + 1) with h1 | h1
    · obtain ⟨o, ho⟩ : ∃ o, ios[j]? = some o := ⟨_, List.getElem?_eq_getElem (by omega)⟩
      have e1 : φ (stH sts (j + 1)) = φ (stH sts j) := by
        cases he : o.op.isEff with
        | true => exact hn j o (by omega) (by omega) ho he
        | false => rw [L.heap1 ho he]
      rw [e1, ih (by omega) (by omega) fun e o h1 h2 => hn e o h1 (by omega)]
    · rw [show i = j + 1 by omega]

theorem Lay.frame1 (L : Lay P D ops ios bef fr0 H0 sts B) {i : Nat} {o : IOper} (hi : ios[i]? = some o) : (stF sts (i + 1)).length = (stF sts i).length ∧
    ∀ t, (o.op.isAlloc = false → o.dst ≠ some t) → (stF sts (i + 1))[t]? = (stF sts i)[t]? := by
  rcases L.step i o hi with ⟨_, h⟩ | ⟨ha, _, v, _, hv⟩ | ⟨ha, _, _, hv⟩
  · have := congrArg Prod.fst h
    simp only at this
    exact ⟨by rw [this], fun t _ => by rw [this]⟩
  · simp only at hv
    exact ⟨by rw [hv, setd_length], fun t ht => by rw [hv, setd_ne (ht ha)]⟩
  · simp only at hv
    exact ⟨by rw [hv, setd_length], fun t ht => by rw [hv, setd_ne (ht ha)]⟩

theorem Lay.frames (L : Lay P D ops ios bef fr0 H0 sts B) {i t : Nat} : ∀ {j : Nat}, i ≤ j → j ≤ ios.length → (∀ (e : Nat) o, i ≤ e → e < j → ios[e]? = some o → o.op.isAlloc = false → o.dst ≠ some t) → (stF sts j)[t]? = (stF sts i)[t]? := by
  intro j
  induction j with
  | zero => intro h _ _; rw [Nat.le_zero.1 h]
  | succ j ih =>
    intro h hj hn
    rcases Nat.lt_or_ge i (j + 1) with h1 | h1
    · obtain ⟨o, ho⟩ : ∃ o, ios[j]? = some o := ⟨_, List.getElem?_eq_getElem (by omega)⟩
      rw [(L.frame1 ho).2 t (hn j o (by omega) (by omega) ho), ih (by omega) (by omega) fun e o h1 h2 => hn e o h1 (by omega)]
    · rw [show i = j + 1 by omega]

theorem Lay.flen (L : Lay P D ops ios bef fr0 H0 sts B) : ∀ {j : Nat}, j ≤ ios.length → (stF sts j).length = fr0.length := by
  intro j
  induction j with
  | zero => intro _; exact L.len
  | succ j ih =>
    intro hj
    obtain ⟨o, ho⟩ : ∃ o, ios[j]? = some o := ⟨_, List.getElem?_eq_getElem (by omega)⟩
    rw [(L.frame1 ho).1, ih (by omega)]

/-- How far some order has come. -/
structure Inv (ios : List IOper) (bef : List (List Nat)) (fr0 : List AV) (sts : List (List AV × AH)) (B : Nat → Nat) (E0 : Env) (H0 : AH) (w0 : World) (a0 : Act) (listed : Array Bool) (a : Act) (w : World) (E : Env) (c : Nat) (fr : List AV) : Prop where
  size : listed.size = ios.length
  closed : ∀ j, listed[j]? = some true → ∀ k ∈ bq bef j, listed[k]? = some true
  le : c ≤ ios.length
  hH : HRel E (stH sts c) w
  hS : Step E0 H0 w0 E (stH sts c) w
  hF : FR E w fr a.tmps
  def_ : a.defers = a0.defers
  eff : ∀ (e : Nat) o, ios[e]? = some o → o.op.isEff = true → (listed[e]? = some true ↔ e < c)
  done : ∀ (i : Nat) o t, ios[i]? = some o → o.dst = some t → listed[i]? = some true → fr[t]? = (stF sts ios.length)[t]?
  rest : ∀ t, (∀ (i : Nat) o, ios[i]? = some o → listed[i]? = some true → o.dst ≠ some t) → fr[t]? = fr0[t]?
  all : ∀ (i : Nat) o z, ios[i]? = some o → o.op = .alloc z → listed[i]? ≠ some true → E.φ (B i) = none ∧ (stH sts c).get (B i) = .cells z
  obs : (stH sts 0).obs.length ≤ (stH sts c).obs.length
  flen : fr.length = fr0.length

variable {E0 : Env} {w0 : World} {a0 : Act} {listed : Array Bool} {c : Nat}

theorem Lay.reads_eq (L : Lay P D ops ios bef fr0 H0 sts B) (I : Inv ios bef fr0 sts B E0 H0 w0 a0 listed a w E c fr) {j : Nat} {o : Oper} {io : IOper} (ho : ops[j]? = some o) (hio : ios[j]? = some io)
    (hn : listed[j]? ≠ some true) (hb : ∀ k ∈ bq bef j, listed[k]? = some true) : ∀ t ∈ reads io, fr[t]? = (stF sts j)[t]? := by
  intro t ht
  have C := L.chk j o io ho hio
  have hj := getElem?_lt hio
  by_cases hw : ∃ (i : Nat) (x : IOper), ios[i]? = some x ∧ x.dst = some t
  · obtain ⟨i, x, hi, hx⟩ := hw
    have hdone : listed[i]? = some true → (i < j ∨ x.op.isAlloc = true) → fr[t]? = (stF sts j)[t]? := by
      intro hl hlt
      rw [I.done i x t hi hx hl]
      refine L.frames (by omega) (Nat.le_refl _) fun e y h1 h2 hy hna hyd => ?_
      have := L.dist hi hy hx hyd
      subst this
      rw [hi] at hy
      injection hy with hy
      subst hy
      rcases hlt with h | h
      · omega
      · rw [hna] at h; simp at h
    have hrest : listed[i]? ≠ some true → x.op.isAlloc = false → j ≤ i → fr[t]? = (stF sts j)[t]? := by
      intro hl hna hle
      rw [I.rest t (fun k y hk hkl hkd => hl (by rw [L.dist hi hk hx hkd]; exact hkl))]
      rw [L.frames (i := 0) (t := t) (Nat.zero_le _) (Nat.le_of_lt hj) (fun e y h1 h2 hy hya hyd => by have := L.dist hi hy hx hyd; omega)]
      refine (L.hoistF t fun k y hk hka hkd => ?_).symm
      have := L.dist hi hk hx hkd
      subst this
      rw [hi] at hk
      injection hk with hk
      subst hk
      rw [hna] at hka; simp at hka
    rcases C.read i x t hi hx ht with ⟨rfl, hna⟩ | ⟨hlt, hm⟩ | ⟨hlt, hna, hm⟩
    · exact hrest hn hna (Nat.le_refl _)
    · exact hdone (hb i hm) (.inl hlt)
    · exact hrest (fun hl => hn (I.closed i hl j hm)) hna (Nat.le_of_lt hlt)
  · have hno : ∀ (i : Nat) x, ios[i]? = some x → x.dst ≠ some t := fun i x hi hx => hw ⟨i, x, hi, hx⟩
    rw [I.rest t (fun i x hi _ => hno i x hi)]
    rw [L.frames (i := 0) (t := t) (Nat.zero_le _) (Nat.le_of_lt hj) (fun e y h1 h2 hy _ => hno e y hy)]
    exact (L.hoistF t fun i x hi _ => hno i x hi).symm

theorem set_true {listed : Array Bool} {i j : Nat} (hj : j < listed.size) : (listed.setIfInBounds j true)[i]? = some true ↔ i = j ∨ listed[i]? = some true := by
  by_cases h : i = j
  · subst h
    simp [Array.getElem?_setIfInBounds_self, hj]
  · rw [Array.getElem?_setIfInBounds_ne (fun e => h e.symm)]
    simp [h]

/-- After an operation that is no allocation. -/
theorem Lay.next (L : Lay P D ops ios bef fr0 H0 sts B) (I : Inv ios bef fr0 sts B E0 H0 w0 a0 listed a w E c fr) {j : Nat} {o : Oper} {io : IOper} (ho : ops[j]? = some o) (hio : ios[j]? = some io)
    (hn : listed[j]? ≠ some true) (hb : ∀ k ∈ bq bef j, listed[k]? = some true) (hna : io.op.isAlloc = false) {v : AV} (hv : stF sts (j + 1) = setd io.dst v (stF sts j)) {v' : Value}
    {c' : Nat} {E' : Env} {w' : World} (hc : (io.op.isEff = true ∧ c' = j + 1) ∨ (io.op.isEff = false ∧ c' = c)) (hvr : VR E' w' v v') (hH' : HRel E' (stH sts c') w') (hS' : Step E (stH sts c) w E' (stH sts c') w')
    (hd2 : io.op.isEff = true → ∀ (i : Nat) x z, ios[i]? = some x → x.op = .alloc z → listed[i]? ≠ some true → (stH sts c').get (B i) = .cells z) (hdst : o.dst = io.dst) :
    Inv ios bef fr0 sts B E0 H0 w0 a0 (listed.setIfInBounds j true) (a.put o.dst v') w' E' c' (setd io.dst v fr) := by
  have C := L.chk j o io ho hio
  have hj := getElem?_lt hio
  have hjs : j < listed.size := by rw [I.size]; exact hj
  have hlist := fun i => set_true (i := i) hjs
  refine ⟨by simp [I.size], ?_, ?_, hH', I.hS.trans hS', ?_, ?_, ?_, ?_, ?_, ?_, Nat.le_trans I.obs hS'.obs, by rw [setd_length, I.flen]⟩
  · intro i hi k hk
    rw [hlist] at hi ⊢
    rcases hi with rfl | hi
    · exact .inr (hb k hk)
    · exact .inr (I.closed i hi k hk)
  · rcases hc with ⟨_, rfl⟩ | ⟨_, rfl⟩
    · exact hj
    · exact I.le
  · rw [hdst]
    exact (I.hF.mono hS'.ext).put hvr
  · rw [← I.def_]; cases o.dst <;> rfl
  · intro e x he hx
    rw [hlist, I.eff e x he hx]
    rcases hc with ⟨hj1, rfl⟩ | ⟨hj1, rfl⟩
    · have hcj : c ≤ j := by
        rcases Nat.lt_or_ge j c with h | h
        · exact absurd ((I.eff j io hio hj1).2 h) hn
        · exact h
      constructor
      · rintro (rfl | h) <;> omega
      · intro h
        rcases Nat.lt_or_ge e j with h1 | h1
        · exact .inr ((I.eff e x he hx).1 (hb e (C.eff e x he h1 hj1 hx)))
        · exact .inl (by omega)
    · constructor
      · rintro (rfl | h)
        · rw [hio] at he; injection he with he; subst he; rw [hj1] at hx; simp at hx
        · exact h
      · exact .inr
  · intro i x t hi hx hl
    rw [hlist] at hl
    by_cases hij : i = j
    · subst hij
      rw [hio] at hi
      injection hi with hi
      subst hi
      rw [L.frames (i := i + 1) (j := ios.length) (t := t) hj (Nat.le_refl _) (fun e y h1 h2 hy _ hyd => by have := L.dist hio hy hx hyd; omega), hv, hx]
      simp only [setd]
      rw [List.getElem?_set_self', List.getElem?_set_self']
      have hlen : (stF sts i).length = fr.length := by rw [L.flen (Nat.le_of_lt hj), I.flen]
      rcases Nat.lt_or_ge t fr.length with h | h
      · rw [List.getElem?_eq_getElem h, List.getElem?_eq_getElem (by omega)]; rfl
      · rw [List.getElem?_eq_none h, List.getElem?_eq_none (by omega)]
    · have hne : io.dst ≠ some t := fun h => hij (L.dist hi hio hx h)
      rw [setd_ne hne]
      exact I.done i x t hi hx (hl.resolve_left hij)
  · intro t ht
    rw [setd_ne (ht j io hio ((hlist j).2 (.inl rfl)))]
    exact I.rest t fun i x hi hl => ht i x hi ((hlist i).2 (.inr hl))
  · intro i x z hi hx hl
    have hl' : listed[i]? ≠ some true := fun h => hl ((hlist i).2 (.inr h))
    obtain ⟨h1, h2⟩ := I.all i x z hi hx hl'
    obtain ⟨ox, mx, hox, _⟩ := L.tr i x hi
    obtain ⟨d, hd⟩ := Option.isSome_iff_exists.1 ((L.chk i ox x hox hi).alloc (by rw [hx]; rfl)).2
    obtain ⟨_, _, b3, _⟩ := L.B1 i x z d hi hx hd
    refine ⟨?_, ?_⟩
    · cases hφ : E'.φ (B i) with
      | none => rfl
      | some R =>
        have := hS'.old _ _ (Nat.lt_of_lt_of_le b3 I.obs) hφ
        rw [h1] at this; simp at this
    · rcases hc with ⟨hj1, _⟩ | ⟨_, rfl⟩
      · exact hd2 hj1 i x z hi hx hl'
      · exact h2

/-- One operation in some order. -/
theorem Lay.one (L : Lay P D ops ios bef fr0 H0 sts B) (hD : DOk P T D) (I : Inv ios bef fr0 sts B E0 H0 w0 a0 listed a w E c fr) (hH0 : HRel E0 H0 w0) (h0 : Rdy T E0 H0 w0) {j : Nat} {o : Oper} (ho : ops[j]? = some o)
    (hn : listed[j]? ≠ some true) (hb : ∀ k ∈ bq bef j, listed[k]? = some true) {Q : Exit → Act → World → Prop} {K : Act → World → Prop}
    (hK : ∀ a' w' E' c' fr', Inv ios bef fr0 sts B E0 H0 w0 a0 (listed.setIfInBounds j true) a' w' E' c' fr' → K a' w') : wpOp P ops Q j K a w := by
  have hlt : j < ios.length := by
    rw [← L.size]
    rcases Nat.lt_or_ge j ops.size with h | h
    · exact h
    · rw [Array.getElem?_eq_none h] at ho; simp at ho
  obtain ⟨io, hio⟩ : ∃ io, ios[j]? = some io := ⟨_, List.getElem?_eq_getElem hlt⟩
  obtain ⟨o', m, ho', htr⟩ := L.tr j io hio
  rw [ho] at ho'
  injection ho' with ho'
  subst ho'
  have C := L.chk j o io ho hio
  have hrd := L.reads_eq I ho hio hn hb
  have h0c : Rdy T E (stH sts c) w := h0.step hH0 I.hS
  simp only [trOper, Option.bind_eq_some_iff, Option.map_eq_some_iff] at htr
  obtain ⟨op, hop, g, hg, hioe⟩ := htr
  have hdst : o.dst = io.dst := by rw [← hioe]
  have hguard : io.guard = g := by rw [← hioe]
  have hopi : io.op = op := by rw [← hioe]
  unfold wpOp
  simp only [ho]
  rcases L.step j io hio with ⟨hal, hse⟩ | ⟨hna, hw, v, hv, hf⟩ | ⟨hna, hw, hh, hf⟩
  · -- an allocation
    obtain ⟨z, hz⟩ : ∃ z, io.op = .alloc z := by revert hal; cases io.op <;> simp [IOp.isAlloc]
    obtain ⟨hgn, hds⟩ := C.alloc hal
    obtain ⟨d, hd⟩ := Option.isSome_iff_exists.1 hds
    obtain ⟨b1, b2, b3, b4⟩ := L.B1 j io z d hio hz hd
    obtain ⟨a1, a2⟩ := I.all j io z hio hz hn
    have hwant : Region.wanted o (yielded ops a.tmps) = true := want_ok I.hF hg (by rw [← hguard, hgn]; rfl)
    rw [hwant]
    simp only [if_true]
    refine .inl ?_
    rw [hz] at hopi
    obtain ⟨e, hoe⟩ : ∃ e, o.op = .alloc e := trOp_alloc (by rw [hop, ← hopi])
    rw [hoe, ← hopi] at hop
    simp only [trOp, Option.bind_eq_some_iff, Option.map_eq_some_iff, IOp.alloc.injEq] at hop
    obtain ⟨zv, hzv, v0, hv0, hzz⟩ := hop
    obtain ⟨hdf, hvr⟩ := defVal_VR (E := E) (w := w) hv0
    have hdef : v0 ≠ .undef := by rintro rfl; simp [AV.def?] at hdf
    obtain ⟨hl, hcv⟩ := hvr.cells hdef
    have hl' : (markB e v0.cells.length v0.cells).length = zv.cells.size := by rw [markB_len]; exact hl
    have hcv' : ∀ (j : Nat) x u, (markB e v0.cells.length v0.cells)[j]? = some x → zv.cells[j]? = some u → VR E w x u := fun j x u hx hu => by
      obtain ⟨y, hy, rfl⟩ := markB_get hx
      exact mark1_VR (hcv j y u hy hu)
    have hB' : ∀ (j : Nat) x, (markB e v0.cells.length v0.cells)[j]? = some x → x.isB = true → lbB e zv.cells.size j = true ∧ zv.cells[j]? = some (.pointer none) := fun j x hx hb => by
      obtain ⟨y, hy, rfl⟩ := markB_get hx
      obtain ⟨h1, rfl⟩ := mark1_isB (defVal_isB hv0 (List.mem_of_getElem? hy)) hb
      have hj : j < zv.cells.size := by have := inL hy; omega
      have hu := Array.getElem?_eq_getElem hj
      have hvu := hcv j _ _ hy hu
      rw [hu]
      generalize zv.cells[j] = u at hvu
      cases hvu
      exact ⟨by rw [← hl]; exact h1, rfl⟩
    replace hl := hl'
    replace hcv := hcv'
    clear hl' hcv'
    rw [hzz] at hl hcv hB'
    have hfill := I.hH.fillRef (.cells zv.cells e) (b := B j) ⟨w.heap.size, 0, zv.cells.size⟩ (Nat.lt_of_lt_of_le b3 I.obs) a1 rfl (fun E' hx hnp => by
      rw [a2]
      refine ⟨zv.cells, e, (0, 0), heap_alloc_new _ _, rfl, by simp; omega, fun k x hk => ?_, .inl rfl, hnp, fun k x hk hb => by rw [Nat.zero_add]; exact ⟨(hB' k x hk hb).1, .inl (hB' k x hk hb).2⟩⟩
      have hk' : k < zv.cells.size := by rw [← hl]; exact getElem?_lt hk
      exact ⟨zv.cells[k], by simp [hk'], (hcv k x _ hk (by simp [hk'])).mono hx⟩)
    obtain ⟨f1, f2, f3, f4⟩ := hfill
    have hrun : (execOp a.eval o).run P w = .ok (.value (.pointer (some ⟨w.heap.size, 0, none⟩))) (w.alloc (.cells zv.cells e)) := by
      obtain ⟨dst, op', ty, pos, after, guard⟩ := o
      simp only at hoe
      subst hoe
      simp only [execOp, Instr.alloc, Sem.run_bind, r_zero hzv, Result.andThen_ok]
      rfl
    unfold Oper.wp
    rw [hrun]
    have hjs : j < listed.size := by rw [I.size]; exact hlt
    have hlist := fun i => set_true (i := i) hjs
    refine hK _ _ (E.addRef (B j) ⟨w.heap.size, 0, zv.cells.size⟩) c (setd io.dst (.ptr (B j) 0) fr) ?_
    have hvp : VR (E.addRef (B j) ⟨w.heap.size, 0, zv.cells.size⟩) (w.alloc (.cells zv.cells e)) (.ptr (B j) 0) (.pointer (some ⟨w.heap.size, 0, none⟩)) := .ptr _ 0 _ f3
    refine ⟨by simp [I.size], ?_, I.le, f1, fill_step I.hS rfl b2 f2, ?_, ?_, ?_, ?_, ?_, ?_, I.obs, by rw [setd_length, I.flen]⟩
    · intro i hi k hk
      rw [hlist] at hi ⊢
      rcases hi with rfl | hi
      · exact .inr (hb k hk)
      · exact .inr (I.closed i hi k hk)
    · rw [hdst]
      exact (I.hF.mono f2).put hvp
    · rw [← I.def_]; cases o.dst <;> rfl
    · intro e' x he hx
      rw [hlist, I.eff e' x he hx]
      constructor
      · rintro (rfl | h)
        · rw [hio] at he; injection he with he; subst he
          rw [hz] at hx; simp [IOp.isEff] at hx
        · exact h
      · exact .inr
    · intro i x t hi hx hl'
      rw [hlist] at hl'
      by_cases hij : i = j
      · subst hij
        rw [hio] at hi
        injection hi with hi
        subst hi
        rw [hd] at hx
        injection hx with hx
        subst hx
        rw [L.frames (i := 0) (j := ios.length) (t := d) (Nat.zero_le _) (Nat.le_refl _) (fun e y h1 h2 hy hya hyd => by
          have := L.dist hio hy hd hyd
          subst this
          rw [hio] at hy; injection hy with hy; subst hy
          rw [hal] at hya; simp at hya), b1, hd]
        simp only [setd]
        rw [List.getElem?_set_self]
        rw [I.flen, ← L.len]
        exact getElem?_lt b1
      · have hne : io.dst ≠ some t := fun h => hij (L.dist hi hio hx h)
        rw [setd_ne hne]
        exact I.done i x t hi hx (hl'.resolve_left hij)
    · intro t ht
      rw [setd_ne (ht j io hio ((hlist j).2 (.inl rfl)))]
      exact I.rest t fun i x hi hl => ht i x hi ((hlist i).2 (.inr hl))
    · intro i x z' hi hx hl'
      have hl'' : listed[i]? ≠ some true := fun h => hl' ((hlist i).2 (.inr h))
      have hij : i ≠ j := fun h => hl' ((hlist i).2 (.inl h))
      obtain ⟨h1, h2⟩ := I.all i x z' hi hx hl''
      refine ⟨?_, h2⟩
      rw [f4 (B i) (fun h => hij (L.B2 i j x io hi hio (by rw [hx]; rfl) hal h))]
      exact h1
  · -- it is carried out
    simp only at hw hv hf
    obtain ⟨hi1, hi2⟩ := iop_reads (D := D) hrd (stH sts j)
    have hwant : Region.wanted o (yielded ops a.tmps) = true := want_ok I.hF hg (by rw [← hguard, hi2]; exact hw)
    rw [hwant]
    simp only [if_true]
    refine .inl ?_
    rw [← hi1] at hv
    cases he : io.op.isEff with
    | true =>
      have hcj : c ≤ j := by
        rcases Nat.lt_or_ge j c with h | h
        · exact absurd ((I.eff j io hio he).2 h) hn
        · exact h
      have hsame : stH sts j = stH sts c := L.heaps hcj (Nat.le_of_lt hlt) fun e x h1 h2 hx => by
        cases hxe : x.op.isEff with
        | false => rfl
        | true =>
          have := (I.eff e x hx hxe).1 (hb e (C.eff e x hx h2 he hxe))
          omega
      rw [hsame, hopi] at hv
      refine one_op hD I.hF I.hH h0c o hop hv fun E' w' v' hv' hH' hS' => ?_
      refine hK _ _ E' (j + 1) (setd io.dst v fr) (L.next I ho hio hn hb hna hf (.inl ⟨he, rfl⟩) hv' hH' hS' (fun _ i x z hi hx hl => ?_) hdst)
      obtain ⟨ox, mx, hox, _⟩ := L.tr i x hi
      obtain ⟨d, hd⟩ := Option.isSome_iff_exists.1 ((L.chk i ox x hox hi).alloc (by rw [hx]; rfl)).2
      obtain ⟨b1, _⟩ := L.B1 i x z d hi hx hd
      exact L.dyn.2.2 j i io z d (B i) hio he (fun h => hl (hb i h)) (by rw [hi]; simp [hx, hd]) b1
    | false =>
      have hna' : ∀ H, iop D (stF sts j) io.op H = aop (stF sts j) io.op H := fun H => by cases hop' : io.op <;> first | rfl | (rw [hop'] at he; simp [IOp.isEff] at he)
      have hio' : ∀ H, iop D fr io.op H = aop (stF sts j) io.op H := fun H => by rw [(iop_reads (D := D) hrd H).1]; exact hna' H
      have hφ : (aop (stF sts j) io.op (stH sts c)).map (·.1) = (aop (stF sts j) io.op (stH sts j)).map (·.1) := by
        rcases Nat.lt_or_ge j c with hlt' | hge
        · refine L.gets (fun H => (aop (stF sts j) io.op H).map (·.1)) (Nat.le_of_lt hlt') I.le fun e x h1 h2 hx hxe => ?_
          have hel : listed[e]? = some true := (I.eff e x hx hxe).2 h2
          refine L.dyn.2.1 e j x io hx hio hxe he hna (fun h => ?_) (fun h => ?_)
          · have := (C.sub e h).1; omega
          · exact hn (I.closed e hel j h)
        · refine (L.gets (fun H => (aop (stF sts j) io.op H).map (·.1)) hge (Nat.le_of_lt hlt) fun e x h1 h2 hx hxe => ?_).symm
          have hel : listed[e]? ≠ some true := fun h => by have := (I.eff e x hx hxe).1 h; omega
          refine L.dyn.2.1 e j x io hx hio hxe he hna (fun h => hel (hb e h)) (fun h => ?_)
          obtain ⟨oe, me, hoe, _⟩ := L.tr e x hx
          have := ((L.chk e oe x hoe hx).sub j h).1
          omega
      have hfl : iop D fr io.op (stH sts c) = some (v, stH sts c) := by
        rw [hio'] at hv ⊢
        rw [hv] at hφ
        simp only [Option.map_some, Option.map_eq_some_iff] at hφ
        obtain ⟨⟨v2, H2⟩, h1, rfl⟩ := hφ
        have h2 := (floater he hna (show iop D (stF sts j) io.op (stH sts c) = some (v2, H2) by rw [hna']; exact h1)).1
        rw [h1, h2]
      rw [hopi] at hfl
      refine one_op hD I.hF I.hH h0c o hop hfl fun E' w' v' hv' hH' hS' => ?_
      exact hK _ _ E' c (setd io.dst v fr) (L.next I ho hio hn hb hna hf (.inr ⟨he, rfl⟩) hv' hH' hS' (fun h => by rw [he] at h; simp at h) hdst)
  · -- it is passed over
    simp only at hw hh hf
    obtain ⟨hi1, hi2⟩ := iop_reads (D := D) hrd (stH sts j)
    have hwant : Region.wanted o (yielded ops a.tmps) = false := want_ok I.hF hg (by rw [← hguard, hi2]; exact hw)
    rw [hwant]
    simp only [Bool.false_eq_true, if_false]
    cases he : io.op.isEff with
    | true =>
      have hcj : c ≤ j := by
        rcases Nat.lt_or_ge j c with h | h
        · exact absurd ((I.eff j io hio he).2 h) hn
        · exact h
      have hsame : stH sts j = stH sts c := L.heaps hcj (Nat.le_of_lt hlt) fun e x h1 h2 hx => by
        cases hxe : x.op.isEff with
        | false => rfl
        | true =>
          have := (I.eff e x hx hxe).1 (hb e (C.eff e x hx h2 he hxe))
          omega
      refine hK _ _ E (j + 1) (setd io.dst (.tup []) fr) (L.next I ho hio hn hb hna hf (.inl ⟨he, rfl⟩) VR.skip ?_ ?_ (fun _ i x z hi hx hl => ?_) hdst)
      · rw [hh, hsame]; exact I.hH
      · rw [hh, hsame]; exact .refl _ _ _
      · rw [hh, hsame]; exact (I.all i x z hi hx hl).2
    | false =>
      exact hK _ _ E c (setd io.dst (.tup []) fr) (L.next I ho hio hn hb hna hf (.inr ⟨he, rfl⟩) VR.skip I.hH (.refl _ _ _) (fun h => by rw [he] at h; simp at h) hdst)

/-- How many are not listed. -/
def unl (listed : Array Bool) : Nat := (listed.toList.filter (!·)).length

theorem unl_set {listed : Array Bool} {j : Nat} (h : listed[j]? = some false) : unl (listed.setIfInBounds j true) + 1 = unl listed := by
  have key : ∀ (l : List Bool) (j : Nat), l[j]? = some false → ((l.set j true).filter (!·)).length + 1 = (l.filter (!·)).length := by
    intro l
    induction l with
    | nil => intro j h; simp at h
    | cons x l ih =>
      intro j h
      cases j with
      | zero =>
        simp only [List.getElem?_cons_zero, Option.some.injEq] at h
        subst h
        simp
      | succ j =>
        have := ih j (by simpa using h)
        cases x <;> simp [List.filter_cons] <;> omega
  unfold unl
  rw [Array.toList_setIfInBounds]
  exact key _ _ (by rw [Array.getElem?_toList]; exact h)

theorem unl_zero {listed : Array Bool} (h : unl listed = 0) (j : Nat) (hj : j < listed.size) : listed[j]? = some true := by
  unfold unl at h
  rw [List.length_eq_zero_iff, List.filter_eq_nil_iff] at h
  have := h listed[j] (by simp)
  simp at this
  rw [Array.getElem?_eq_getElem hj, this]

theorem Lay.any (L : Lay P D ops ios bef fr0 H0 sts B) (hD : DOk P T D) (hH0 : HRel E0 H0 w0) (h0 : Rdy T E0 H0 w0) {Q : Exit → Act → World → Prop}
    (hQ : ∀ E' w' a', FR E' w' (stF sts ios.length) a'.tmps → HRel E' (stH sts ios.length) w' → Step E0 H0 w0 E' (stH sts ios.length) w' → a'.defers = a0.defers → Q .normal a' w') :
    ∀ (fuel : Nat) (listed : Array Bool) (a : Act) (w : World) (E : Env) (c : Nat) (fr : List AV), unl listed = fuel → Inv ios bef fr0 sts B E0 H0 w0 a0 listed a w E c fr → wpAny P .any ops Q fuel listed a w := by
  have fin : ∀ (listed : Array Bool) (a : Act) (w : World) (E : Env) (c : Nat) (fr : List AV), (∀ j, j < ios.length → listed[j]? = some true) → Inv ios bef fr0 sts B E0 H0 w0 a0 listed a w E c fr → Q .normal a w := by
    intro listed a w E c fr hall I
    have hfr : fr = stF sts ios.length := by
      refine List.ext_getElem? fun t => ?_
      by_cases hw : ∃ (i : Nat) (x : IOper), ios[i]? = some x ∧ x.dst = some t
      · obtain ⟨i, x, hi, hx⟩ := hw
        exact I.done i x t hi hx (hall i (getElem?_lt hi))
      · have hno : ∀ (i : Nat) x, ios[i]? = some x → x.dst ≠ some t := fun i x hi hx => hw ⟨i, x, hi, hx⟩
        rw [I.rest t (fun i x hi _ => hno i x hi), L.frames (i := 0) (t := t) (Nat.zero_le _) (Nat.le_refl _) (fun e y h1 h2 hy _ => hno e y hy)]
        exact (L.hoistF t fun i x hi _ => hno i x hi).symm
    have hh : stH sts ios.length = stH sts c := L.heaps I.le (Nat.le_refl _) fun e x h1 h2 hx => by
      cases hxe : x.op.isEff with
      | false => rfl
      | true => have := (I.eff e x hx hxe).1 (hall e h2); omega
    refine hQ E w a ?_ ?_ ?_ I.def_
    · rw [← hfr]; exact I.hF
    · rw [hh]; exact I.hH
    · rw [hh]; exact I.hS
  intro fuel
  induction fuel with
  | zero =>
    intro listed a w E c fr hu I
    have hall : ∀ j, j < ios.length → listed[j]? = some true := fun j hj => unl_zero hu j (by rw [I.size]; exact hj)
    refine ⟨?_, fin listed a w E c fr hall I⟩
    rw [Region.ready, List.filter_eq_nil_iff]
    intro j hj
    rw [List.mem_range, L.size] at hj
    have h1 := hall j hj
    simp [Array.getD_eq_getD_getElem?, h1]
  | succ fuel ih =>
    intro listed a w E c fr hu I
    refine ⟨fun hr => fin listed a w E c fr ?_ I, fun j hj => ?_⟩
    · rw [Region.ready, List.filter_eq_nil_iff] at hr
      intro j
      induction j using Nat.strongRecOn with
      | _ j ihj =>
        intro hj
        have h1 := hr j (by rw [List.mem_range, L.size]; exact hj)
        have hjs : j < listed.size := by rw [I.size]; exact hj
        obtain ⟨o, ho⟩ : ∃ o, ops[j]? = some o := ⟨_, Array.getElem?_eq_getElem (by rw [L.size]; exact hj)⟩
        obtain ⟨io, hio⟩ : ∃ io, ios[j]? = some io := ⟨_, List.getElem?_eq_getElem hj⟩
        have C := L.chk j o io ho hio
        simp only [ho, Option.map_some, Option.getD_some, Bool.and_eq_true, Bool.not_eq_true', not_and, Array.all_eq_true_iff_forall_mem, Bool.or_eq_true] at h1
        cases hl : listed[j] with
        | true => rw [Array.getElem?_eq_getElem hjs, hl]
        | false =>
          exfalso
          refine h1 (by simp [Array.getD_eq_getD_getElem?, hjs, hl]) fun e he => ?_
          cases hb : Region.binds .any e with
          | false => exact .inl rfl
          | true =>
            have hlt := C.back e he hb
            exact .inr (by simp [Array.getD_eq_getD_getElem?, ihj e.on hlt (by omega)])
    · rw [Region.ready, List.mem_filter, List.mem_range, L.size] at hj
      obtain ⟨hj, h1⟩ := hj
      obtain ⟨o, ho⟩ : ∃ o, ops[j]? = some o := ⟨_, Array.getElem?_eq_getElem (by rw [L.size]; exact hj)⟩
      obtain ⟨io, hio⟩ : ∃ io, ios[j]? = some io := ⟨_, List.getElem?_eq_getElem hj⟩
      have hjs : j < listed.size := by rw [I.size]; exact hj
      have C := L.chk j o io ho hio
      simp only [ho, Option.map_some, Option.getD_some, Bool.and_eq_true, Bool.not_eq_true', Array.all_eq_true_iff_forall_mem, Bool.or_eq_true] at h1
      have hlf : listed[j]? = some false := by
        have := h1.1
        simp [Array.getD_eq_getD_getElem?, hjs] at this
        rw [Array.getElem?_eq_getElem hjs, this]
      refine L.one hD I hH0 h0 ho (by rw [hlf]; simp) (fun k hk => ?_) fun a' w' E' c' fr' I' => ih _ a' w' E' c' fr' (by have := unl_set hlf; omega) I'
      obtain ⟨hlt, e, he, hb, hor⟩ := C.sub k hk
      have hon : listed[e.on]? = some true := by
        have hlt' := C.back e he hb
        rcases h1.2 e he with h | h
        · rw [hb] at h; simp at h
        · have hes : e.on < listed.size := by omega
          simp [Array.getD_eq_getD_getElem?, hes] at h
          rw [Array.getElem?_eq_getElem hes, h]
      rcases hor with rfl | hor
      · exact hon
      · exact I.closed _ hon k hor

end

theorem unl_start (n : Nat) : unl (Array.replicate n false) = n := by simp [unl]

theorem sim_dreg {D : Den} (hD : DOk P T D) {ops : Array Oper} {ios : List IOper} {bef : List (List Nat)} (hr : OpsR P ops (List.range ops.size) ios) (hc : dOk ops ios bef = true) (hm : P.follows .mixedOrders = true)
    (hF : FR E w fr a.tmps) (hH : HRel E H w) (h0 : Rdy T E H w) {fr' : List AV} (h : dreg D ios bef fr H = some (fr', H')) {id : Nat} {Q : Exit → Act → World → Prop}
    (hQ : ∀ E' w' a', FR E' w' fr' a'.tmps → HRel E' H' w' → Step E H w E' H' w' → a'.defers = a.defers → Q .normal a' w') : (Code.region id ops true).wp P Q a w := by
  obtain ⟨hsz, hchk⟩ := chk_spec hc
  obtain ⟨_, hat⟩ := hr.at
  simp only [dreg] at h
  split at h
  · rename_i sts hst
    split at h
    · rename_i hdyn
      simp only [Option.some.injEq, Prod.mk.injEq] at h
      obtain ⟨rfl, rfl⟩ := h
      have htr : ∀ (j : Nat) io, ios[j]? = some io → ∃ o m, ops[j]? = some o ∧ trOper P ops m o = some io := fun j io hio =>
        hat j j io (by rw [List.getElem?_range]; rw [hsz]; exact getElem?_lt hio) hio
      have hdist : ∀ (i j : Nat) oi oj d, ios[i]? = some oi → ios[j]? = some oj → oi.dst = some d → oj.dst = some d → i = j := fun i j oi oj d hi hj h1 h2 => by
        obtain ⟨o, m, ho, _⟩ := htr j oj hj
        exact (hchk j o oj ho hj).dist i oi d hi h1 h2
      obtain ⟨B, b1, b2, ⟨l, b3⟩, b4, b5, b6⟩ := hoist_spec ios fr H hdist hdyn.1 (fun i o hi ha => by
        obtain ⟨o', m, ho, _⟩ := htr i o hi
        exact ((hchk i o' o ho hi).alloc ha).2)
      obtain ⟨t1, t2, t3⟩ := trace_spec ios _ _ sts hst
      have L : Lay P D ops ios bef fr H sts B := ⟨hsz, hchk, htr, t3, hdyn, by rw [t1]; exact b6, by rw [t1]; exact b1, by rw [t1, t2]; exact b4, b5⟩
      obtain ⟨hd1, hd2⟩ := hH.drew (w.drawn + 1)
      obtain ⟨hx1, hx2⟩ := hd1.extend l
      have hH0 : stH sts 0 = ⟨H.obs ++ l, H.toks⟩ := by
        rw [t2]
        cases hh : (hoist ios fr H).2 with
        | mk obs toks => rw [hh] at b2 b3; simp only at b2 b3; rw [b2, b3]
      refine wp_region_any hm (L.any (E0 := E) (w0 := w) (a0 := a) hD hH h0 hQ ops.size _ a _ E 0 fr (unl_start _) ?_)
      have hnl : ∀ i : Nat, (Array.replicate ops.size false)[i]? ≠ some true := by
        intro i h
        rw [Array.getElem?_replicate] at h
        split at h <;> simp at h
      refine ⟨by simp [hsz], fun j hj => absurd hj (hnl j), Nat.zero_le _, by rw [hH0]; exact hx1, by rw [hH0]; exact hd2.trans hx2, hF.mono hd2.ext, rfl, ?_, ?_, fun _ _ => rfl, ?_, Nat.le_refl _, rfl⟩
      · intro e o _ _
        exact ⟨fun h => absurd h (hnl e), fun h => absurd h (Nat.not_lt_zero _)⟩
      · intro i o t _ _ h
        exact absurd h (hnl i)
      · intro i o z hi hz _
        obtain ⟨o', m, ho, _⟩ := htr i o hi
        obtain ⟨d, hd⟩ := Option.isSome_iff_exists.1 ((hchk i o' o ho hi).alloc (by rw [hz]; rfl)).2
        obtain ⟨_, c2, _, c4⟩ := L.B1 i o z d hi hz hd
        refine ⟨?_, c4⟩
        cases hφ : E.φ (B i) with
        | none => rfl
        | some R => have := hH.lt _ _ hφ; omega
    · simp at h
  · simp at h

end Go.SV

namespace Go.SV

variable {P : Program} {T : Laid} {E E' : Env} {H H' : AH} {w w' : World} {fr : List AV} {a : Act}

/-- What is done beside the machine's steps: a row that is written no more becomes one by value. -/
inductive Gho where
  | sealT (t : Nat)
  | kill (l : List Nat)
  | sealC (t off : Nat)

inductive IC where
  | skip
  | reg (ops : List IOper)
  | dreg (ops : List IOper) (bef : List (List Nat))
  | seq (a b : IC)
  | cond (c : Opd) (a b : IC)
  | block (id : Nat) (c : IC)
  | loop (dead : List Nat) (c : IC)
  | exit (id : Nat)
  | ret
  | gh (gs : List Gho) (c : IC)

inductive Ex where
  | normal
  | exit (id : Nat)
  | ret
  deriving DecidableEq

inductive IRes where
  | tmp (t : Nat)
  | cell (t : Nat) (n : Option Nat)

structure IF where
  nt : Nat
  body : IC
  res : List IRes

def kill (l : List Nat) (fr : List AV) : List AV := l.foldl (fun fr t => fr.set t .undef) fr

/-- A row in a cell, written no more: from now on by value. -/
def sealCell (b i : Nat) (H : AH) : Option AH := match H.get b with
  | .cells c => match c[i]? with
    | some (.slr b2 o2 n s) => match elems s (.slr b2 o2 n s) H with
      | some ys => if b2 ≠ b ∧ 0 < s ∧ elemsOk s ys = true then some ⟨(H.obs.set b2 .dead).set b (.cells (c.set i (.sl 0 s ys))), H.toks⟩ else none
      | none => none
    | some .nils => some H
    | some (.sl _ _ _) => some H
    | _ => none
  | _ => none

def ghost (g : Gho) (fr : List AV) (H : AH) : Option (List AV × AH) :=
  match g with
  | .sealT t => match fr[t]? with
    | some (.slr b o n s) => match elems s (.slr b o n s) H with
      | some ys => if 0 < s ∧ elemsOk s ys then some (fr.set t (.sl 0 s ys), ⟨H.obs.set b .dead, H.toks⟩) else none
      | none => none
    | some .nils => some (fr, H)
    | some (.sl _ _ _) => some (fr, H)
    | _ => none
  | .kill l => some (SV.kill l fr, H)
  | .sealC t off => match fr[t]? with
    | some (.ptr b o) => (sealCell b (o + off) H).map fun H' => (fr, H')
    | _ => none

def ghosts : List Gho → List AV → AH → Option (List AV × AH)
  | [], fr, H => some (fr, H)
  | g :: gs, fr, H => match ghost g fr H with
    | some (fr', H') => ghosts gs fr' H'
    | none => none


abbrev Rd := List AV → AH → Option (Ex × List AV × AH)

def iter (f : Rd) : Nat → Rd
  | 0, _, _ => none
  | n + 1, fr, H =>
    match f fr H with
    | some (.normal, fr', H') => iter f n fr' H'
    | r => r

theorem iter_succ {f : Rd} : ∀ {n : Nat} {fr : List AV} {H : AH} {r}, iter f n fr H = some r → iter f (n + 1) fr H = some r := by
  intro n
  induction n with
  | zero => intro fr H r h; simp [iter] at h
  | succ n ih =>
    intro fr H r h
    rw [iter] at h ⊢
    split
    · rename_i fr' H' he
      rw [he] at h
      exact ih h
    · rename_i hne
      split at h
      · rename_i fr' H' he
        exact absurd he (hne fr' H')
      · exact h

theorem iter_le {f : Rd} {n m : Nat} (hle : n ≤ m) {fr : List AV} {H : AH} {r} (h : iter f n fr H = some r) : iter f m fr H = some r := by
  induction hle with
  | refl => exact h
  | step _ ih => exact iter_succ ih

open Classical in
/-- A loop: as many rounds as it needs. -/
noncomputable def iterω (f : Rd) : Rd := fun fr H =>
  if h : ∃ r, ∃ n, iter f n fr H = some r then some (Classical.choose h) else none

theorem iterω_iff {f : Rd} {fr : List AV} {H : AH} {r} : iterω f fr H = some r ↔ ∃ n, iter f n fr H = some r := by
  unfold iterω
  split
  · rename_i h
    obtain ⟨n, hn⟩ := Classical.choose_spec h
    constructor
    · intro e
      injection e with e
      exact ⟨n, by rw [← e]; exact hn⟩
    · rintro ⟨m, hm⟩
      have h1 := iter_le (Nat.le_max_left n m) hn
      have h2 := iter_le (Nat.le_max_right n m) hm
      rw [h1] at h2
      exact h2
  · rename_i h
    constructor
    · intro e; simp at e
    · rintro ⟨n, hn⟩; exact absurd ⟨r, n, hn⟩ h

theorem iterω_unfold (f : Rd) (fr : List AV) (H : AH) : iterω f fr H = match f fr H with
    | some (.normal, fr', H') => iterω f fr' H'
    | r => r := by
  refine Option.ext fun r => ?_
  constructor
  · intro h
    obtain ⟨n, hn⟩ := iterω_iff.1 h
    cases n with
    | zero => simp [iter] at hn
    | succ n =>
      rw [iter] at hn
      split at hn
      · rename_i fr' H' he
        exact iterω_iff.2 ⟨n, hn⟩
      · exact hn
  · intro h
    split at h
    · rename_i fr' H' he
      obtain ⟨n, hn⟩ := iterω_iff.1 h
      exact iterω_iff.2 ⟨n + 1, by rw [iter, he]; exact hn⟩
    · rename_i hne
      refine iterω_iff.2 ⟨1, ?_⟩
      rw [iter]
      split
      · rename_i fr' H' he; exact absurd he (hne fr' H')
      · exact h

noncomputable def iexec (D : Den) : IC → Rd
  | .skip, fr, H => some (.normal, fr, H)
  | .reg ops, fr, H => (iops D ops fr H).map fun r => (.normal, r.1, r.2)
  | .dreg ops bef, fr, H => (dreg D ops bef fr H).map fun r => (.normal, r.1, r.2)
  | .seq a b, fr, H => match iexec D a fr H with
    | some (.normal, fr', H') => iexec D b fr' H'
    | r => r
  | .cond c a b, fr, H => match c.ev fr with
    | .bool true => iexec D a fr H
    | .bool false => iexec D b fr H
    | _ => none
  | .block id c, fr, H => match iexec D c fr H with
    | some (.exit i, fr', H') => if i = id then some (.normal, fr', H') else some (.exit i, fr', H')
    | r => r
  | .loop dead c, fr, H => iterω (fun fr H => iexec D c (kill dead fr) H) fr H
  | .exit id, fr, H => some (.exit id, fr, H)
  | .ret, fr, H => some (.ret, fr, H)
  | .gh gs c, fr, H => match ghosts gs fr H with
    | some (fr', H') => iexec D c fr' H'
    | none => none

def resV1 (fr : List AV) (H : AH) : IRes → Option AV
  | .tmp t => fr[t]?
  | .cell t n => aLoad n ((fr[t]?).getD .undef) H

def resVs (fr : List AV) (H : AH) : List IRes → Option (List AV)
  | [] => some []
  | r :: rs => (resV1 fr H r).bind fun v => (resVs fr H rs).map (v :: ·)

def resV (fr : List AV) (H : AH) (rs : List IRes) : Option AV :=
  match resVs fr H rs with
  | some [v] => some v
  | some vs => some (.tup vs)
  | none => none

noncomputable def irun (D : Den) (f : IF) (args : List AV) (H : AH) : Option (AV × AH) :=
  match iexec D f.body (args ++ List.replicate (f.nt - args.length) .undef) H with
  | some (.normal, fr, H') | some (.ret, fr, H') => (resV fr H' f.res).map fun v => (v, H')
  | _ => none

/-! ### Against the model -/
def modeOf : IOp → Mode
  | .lit m _ _ => m
  | .append m _ _ _ _ => m
  | .make m _ _ _ _ _ => m
  | .call 1 _ _ => .ref
  | _ => .ro

def trOpers (P : Program) (ops : Array Oper) : List Oper → List IOper → Option (List IOper)
  | [], [] => some []
  | o :: os, i :: is => (trOper P ops (modeOf i.op) o).bind fun x => (trOpers P ops os is).map (x :: ·)
  | _, _ => none

def trC (P : Program) : IC → Code → Option IC
  | .gh gs i, c => (trC P i c).map (.gh gs)
  | .skip, .skip => some .skip
  | .reg is, .region _ ops false => (trOpers P ops ops.toList is).map .reg
  | .dreg is bef, .region _ ops true => (trOpers P ops ops.toList is).bind fun is' => if dOk ops is' bef then some (.dreg is' bef) else none
  | .seq a b, .seq x y => (trC P a x).bind fun a => (trC P b y).map (.seq a)
  | .cond _ a b, .cond c x y => (trOpd c).bind fun c => (trC P a x).bind fun a => (trC P b y).map (.cond c a)
  | .block _ a, .block id x => (trC P a x).map (.block id)
  | .loop dead a, .loop x => (trC P a x).map (.loop dead)
  | .exit _, .exit id => some (.exit id)
  | .ret, .ret => some .ret
  | _, _ => none

def trRes (P : Program) : List ResultVar → Option (List IRes)
  | [] => some []
  | .tmp t :: rs => (trRes P rs).map (.tmp t :: ·)
  | .cell a t :: rs => (aggN P t).bind fun n => (trRes P rs).map (.cell a n :: ·)

def trF (P : Program) (f : IF) (fn : Func) : Option IF :=
  fn.body.bind fun c => (trC P f.body c).bind fun b => (trRes P fn.results.toList).bind fun rs => if fn.name == "runtime.NumGoroutine" then none else some ⟨fn.ntmps, b, rs⟩

theorem trOpers_ok {ops : Array Oper} : ∀ (l : List Oper) (is ios : List IOper) (j : Nat), trOpers P ops l is = some ios → (∀ (k : Nat) o, l[k]? = some o → ops[j + k]? = some o) → OpsR P ops (List.range' j l.length) ios := by
  intro l
  induction l with
  | nil =>
    intro is ios j h _
    cases is with
    | nil => simp only [trOpers, Option.some.injEq] at h; subst h; exact .nil
    | cons i is => simp [trOpers] at h
  | cons o l ih =>
    intro is ios j h hl
    cases is with
    | nil => simp [trOpers] at h
    | cons i is =>
      simp only [trOpers, Option.bind_eq_some_iff, Option.map_eq_some_iff] at h
      obtain ⟨x, hx, xs, hxs, rfl⟩ := h
      rw [List.length_cons, List.range'_succ]
      refine .cons (hl 0 o rfl) hx (ih is xs (j + 1) hxs fun k o hk => ?_)
      have := hl (k + 1) o (by simpa using hk)
      rw [← this]; congr 1; omega

theorem trOpers_range {ops : Array Oper} {is ios : List IOper} (h : trOpers P ops ops.toList is = some ios) : OpsR P ops (List.range ops.size) ios := by
  have := trOpers_ok ops.toList is ios 0 h (fun k o hk => by rw [Nat.zero_add, ← Array.getElem?_toList]; exact hk)
  rw [List.range_eq_range', ← Array.length_toList]
  exact this

theorem FR.set {t : Nat} {v : AV} {v' : Value} {tmps : Array Value} (h : FR E w fr tmps) (ht : tmps[t]? = some v') (hv : VR E w v v') : FR E w (fr.set t v) tmps := by
  refine ⟨by rw [List.length_set]; exact h.1, fun k x hk => ?_⟩
  rw [List.getElem?_set] at hk
  split at hk
  · rename_i e
    subst e
    split at hk
    · simp only [Option.some.injEq] at hk
      subst hk
      exact ⟨v', ht, hv⟩
    · simp at hk
  · exact h.2 k x hk

theorem FR.kill1 {tmps : Array Value} (h : FR E w fr tmps) (t : Nat) : FR E w (fr.set t .undef) tmps := by
  rcases Nat.lt_or_ge t fr.length with hl | hl
  · exact h.set (Array.getElem?_eq_getElem (by rw [← h.1]; exact hl)) (.undef _)
  · rw [List.set_eq_of_length_le hl]; exact h

theorem FR.kill {tmps : Array Value} (l : List Nat) : ∀ {fr : List AV}, FR E w fr tmps → FR E w (kill l fr) tmps := by
  induction l with
  | nil => intro fr h; exact h
  | cons t l ih => intro fr h; exact ih (h.kill1 t)

theorem HRel.recell (hH : HRel E H w) {b i : Nat} {L : Ref} {c : List AV} {x x' : AV} (hb : E.φ b = some L) (hc : H.get b = .cells c) (hx : c[i]? = some x) (hxB : x'.isB = false) (hv : ∀ u, w.cell? ⟨L.r, L.d + i, none⟩ = some u → VR E w x u → VR E w x' u) :
    HRel E ⟨H.obs.set b (.cells (c.set i x')), H.toks⟩ w ∧ Step E H w E ⟨H.obs.set b (.cells (c.set i x')), H.toks⟩ w := by
  have hbl := hH.lt b L hb
  have hget : ∀ b', (⟨H.obs.set b (.cells (c.set i x')), H.toks⟩ : AH).get b' = if b = b' then .cells (c.set i x') else H.get b' := by
    intro b'
    simp only [AH.get, List.getElem?_set]
    by_cases h : b = b'
    · subst h; simp [hbl]
    · rw [if_neg h, if_neg h]
  have hlive : ∀ b', ((⟨H.obs.set b (.cells (c.set i x')), H.toks⟩ : AH).get b').live = (H.get b').live := by
    intro b'
    rw [hget]
    by_cases h : b = b'
    · subst h; rw [if_pos rfl, hc]; rfl
    · rw [if_neg h]
  refine ⟨⟨fun b' L' h' => by simpa using hH.lt b' L' h', fun b' L' h' => ?_, fun b1 b2 L1 L2 h1 h2 a1 a2 => hH.inj b1 b2 L1 L2 h1 h2 (by rw [← hlive]; exact a1) (by rw [← hlive]; exact a2), hH.tok, hH.tinj,
    fun b' L' t ns h1 h2 => hH.apart b' L' t ns h1 (by rw [← hlive]; exact h2), hH.prot, fun r hr => ?_⟩, ?_⟩
  · rw [hget]
    by_cases h : b = b'
    · subst h
      rw [if_pos rfl]
      have hL : L' = L := by rw [hb] at h'; exact (Option.some.inj h').symm
      subst hL
      have ho := hH.obj b L' hb
      rw [hc] at ho
      obtain ⟨rc, e, fz, h1, h2, h3, h4, h5⟩ := ho
      refine ⟨rc, e, fz, h1, h2, by simpa using h3, fun j y hj => ?_, h5.1, h5.2.1, fun j y hj hb => ?_⟩
      rotate_left
      · rw [List.getElem?_set] at hj
        split at hj
        · split at hj
          · simp only [Option.some.injEq] at hj
            subst hj
            rw [hxB] at hb
            cases hb
          · simp at hj
        · exact h5.2.2 j y hj hb
      rw [List.getElem?_set] at hj
      split at hj
      · rename_i e1
        subst e1
        split at hj
        · simp only [Option.some.injEq] at hj
          subst hj
          obtain ⟨u, hu, hvu⟩ := h4 i x hx
          exact ⟨u, hu, hv u (by rw [cell_of_block h1]; exact hu) hvu⟩
        · simp at hj
      · exact h4 j y hj
    · rw [if_neg h]; exact hH.obj b' L' h'
  · obtain ⟨a1, a2, a3⟩ := hH.inert r hr
    exact ⟨a1, fun b' L' h1 h2 => a2 b' L' h1 (by rw [← hlive]; exact h2), a3⟩
  · refine ⟨.refl _ _, rfl, rfl, rfl, Nat.le_refl _, fun r _ ho => ⟨fun h => ho ?_, rfl⟩, Nat.le_refl _, by simp, fun _ _ _ h => h⟩
    rcases h with ⟨b', L', h1, h2, h3⟩ | h
    · exact .inl ⟨b', L', h1, by rw [← hlive]; exact h2, h3⟩
    · exact .inr h

theorem sim_sealCell (hH : HRel E H w) {b o off : Nat} {v : Value} (hp : VR E w (.ptr b o) v) (h : sealCell b (o + off) H = some H') :
    ∃ E', HRel E' H' w ∧ Step E H w E' H' w := by
  have triv : H' = H → ∃ E', HRel E' H' w ∧ Step E H w E' H' w := fun e => by subst e; exact ⟨E, hH, .refl _ _ _⟩
  cases hp with
  | ptr _ _ L hL =>
  unfold sealCell at h
  split at h
  · rename_i c hc
    split at h
    · rename_i b2 o2 n s hx
      split at h
      · rename_i ys hys
        split at h
        · rename_i hcond
          simp only [Option.some.injEq] at h
          obtain ⟨u, hu, hvu⟩ := (ref_cells hH hL hc).2 _ _ hx
          obtain ⟨E1, h1, h2, h3⟩ := sim_seal hH hvu hys hcond.2.1 hcond.2.2
          have hc1 : (⟨H.obs.set b2 .dead, H.toks⟩ : AH).get b = .cells c := by
            rw [← hc]
            simp only [AH.get, List.getElem?_set, if_neg hcond.1]
          obtain ⟨k1, k2⟩ := h2.recell (x' := .sl 0 s ys) (h3.ext.φ _ _ hL) hc1 hx rfl (fun u' hu' _ => by
            rw [hu] at hu'
            simp only [Option.some.injEq] at hu'
            subst hu'
            exact h1)
          subst h
          exact ⟨E1, k1, h3.trans k2⟩
        · simp at h
      · simp at h
    · simp only [Option.some.injEq] at h; exact triv h.symm
    · simp only [Option.some.injEq] at h; exact triv h.symm
    · simp at h
  · simp at h

theorem sim_ghost {g : Gho} {fr' : List AV} {tmps : Array Value} (hF : FR E w fr tmps) (hH : HRel E H w) (h : ghost g fr H = some (fr', H')) :
    ∃ E', FR E' w fr' tmps ∧ HRel E' H' w ∧ Step E H w E' H' w := by
  cases g with
  | sealC t off =>
    simp only [ghost] at h
    split at h
    · rename_i b o e
      obtain ⟨v, hv, hr⟩ := hF.2 t _ e
      simp only [Option.map_eq_some_iff, Prod.mk.injEq] at h
      obtain ⟨H1, h1, rfl, rfl⟩ := h
      obtain ⟨E', h2, h3⟩ := sim_sealCell hH hr h1
      exact ⟨E', hF.mono h3.ext, h2, h3⟩
    · simp at h
  | kill l =>
    simp only [ghost, Option.some.injEq, Prod.mk.injEq] at h
    obtain ⟨rfl, rfl⟩ := h
    exact ⟨E, hF.kill l, hH, .refl _ _ _⟩
  | sealT t =>
    simp only [ghost] at h
    split at h
    · rename_i b o n s e
      obtain ⟨v, hv, hr⟩ := hF.2 t _ e
      split at h
      · rename_i ys hys
        split at h
        · rename_i hc
          simp only [Option.some.injEq, Prod.mk.injEq] at h
          obtain ⟨rfl, rfl⟩ := h
          obtain ⟨E', h1, h2, h3⟩ := sim_seal hH hr hys hc.1 hc.2
          exact ⟨E', (hF.mono h3.ext).set hv h1, h2, h3⟩
        · simp at h
      · simp at h
    · simp only [Option.some.injEq, Prod.mk.injEq] at h
      obtain ⟨rfl, rfl⟩ := h
      exact ⟨E, hF, hH, .refl _ _ _⟩
    · simp only [Option.some.injEq, Prod.mk.injEq] at h
      obtain ⟨rfl, rfl⟩ := h
      exact ⟨E, hF, hH, .refl _ _ _⟩
    · simp at h

theorem sim_ghosts (gs : List Gho) : ∀ {E : Env} {H H' : AH} {fr fr' : List AV} {tmps : Array Value}, FR E w fr tmps → HRel E H w → ghosts gs fr H = some (fr', H') →
    ∃ E', FR E' w fr' tmps ∧ HRel E' H' w ∧ Step E H w E' H' w := by
  induction gs with
  | nil =>
    intro E H H' fr fr' tmps hF hH h
    simp only [ghosts, Option.some.injEq, Prod.mk.injEq] at h
    obtain ⟨rfl, rfl⟩ := h
    exact ⟨E, hF, hH, .refl _ _ _⟩
  | cons g gs ih =>
    intro E H H' fr fr' tmps hF hH h
    simp only [ghosts] at h
    split at h
    · rename_i f1 H1 h1
      obtain ⟨E1, a1, a2, a3⟩ := sim_ghost hF hH h1
      obtain ⟨E2, b1, b2, b3⟩ := ih a1 a2 h
      exact ⟨E2, b1, b2, a3.trans b3⟩
    · simp at h

def exOf : Ex → Exit
  | .normal => .normal
  | .exit id => .exit id
  | .ret => .ret

/-- What code ends in. -/
def After (E : Env) (H : AH) (w : World) (a : Act) (fr' : List AV) (H' : AH) (R : Act → World → Prop) : Prop :=
  ∀ E' w' a', FR E' w' fr' a'.tmps → HRel E' H' w' → Step E H w E' H' w' → a'.defers = a.defers → R a' w'

theorem sim_code {D : Den} (hD : DOk P T D) (hm : P.follows .mixedOrders = true) : ∀ (ic : IC) (c : Code) {ic' : IC}, trC P ic c = some ic' → ∀ {E : Env} {H H' : AH} {w : World} {fr fr' : List AV} {a : Act} {e : Ex} {Q : Exit → Act → World → Prop},
    FR E w fr a.tmps → HRel E H w → Rdy T E H w → iexec D ic' fr H = some (e, fr', H') → After E H w a fr' H' (Q (exOf e)) → c.wp P Q a w := by
  intro ic
  induction ic with
  | gh gs i ih =>
    intro c ic' htr E H H' w fr fr' a e Q hF hH h0 h hQ
    simp only [trC, Option.map_eq_some_iff] at htr
    obtain ⟨i', hi, rfl⟩ := htr
    simp only [iexec] at h
    split at h
    · rename_i f1 H1 h1
      obtain ⟨E1, a1, a2, a3⟩ := sim_ghosts gs hF hH h1
      exact ih c hi a1 a2 (h0.step hH a3) h fun E' w' a' b1 b2 b3 b4 => hQ E' w' a' b1 b2 (a3.trans b3) b4
    · simp at h
  | skip =>
    intro c ic' htr E H H' w fr fr' a e Q hF hH h0 h hQ
    cases c <;> simp only [trC, Option.some.injEq, reduceCtorEq] at htr
    subst htr
    simp only [iexec, Option.some.injEq, Prod.mk.injEq] at h
    obtain ⟨rfl, rfl, rfl⟩ := h
    exact wp_skip (hQ E w a hF hH (.refl _ _ _) rfl)
  | reg is =>
    intro c ic' htr E H H' w fr fr' a e Q hF hH h0 h hQ
    cases c with
    | region id ops draw =>
      cases draw <;> simp only [trC, Option.map_eq_some_iff, reduceCtorEq] at htr
      obtain ⟨ios, hos, rfl⟩ := htr
      simp only [iexec, Option.map_eq_some_iff, Prod.mk.injEq] at h
      obtain ⟨⟨f1, H1⟩, h1, rfl, rfl, rfl⟩ := h
      exact wp_region (sim_ops hD (trOpers_range hos) hF hH h0 h1 hQ)
    | _ => simp [trC] at htr
  | dreg is bef =>
    intro c ic' htr E H H' w fr fr' a e Q hF hH h0 h hQ
    cases c with
    | region id ops draw =>
      cases draw <;> simp only [trC, Option.bind_eq_some_iff, reduceCtorEq] at htr
      obtain ⟨ios, hos, htr⟩ := htr
      split at htr
      · rename_i hdo
        simp only [Option.some.injEq] at htr
        subst htr
        simp only [iexec, Option.map_eq_some_iff, Prod.mk.injEq] at h
        obtain ⟨⟨f1, H1⟩, h1, rfl, rfl, rfl⟩ := h
        exact sim_dreg hD (trOpers_range hos) hdo hm hF hH h0 h1 hQ
      · simp at htr
    | _ => simp [trC] at htr
  | seq x y ihx ihy =>
    intro c ic' htr E H H' w fr fr' a e Q hF hH h0 h hQ
    cases c with
    | seq cx cy =>
      simp only [trC, Option.bind_eq_some_iff, Option.map_eq_some_iff] at htr
      obtain ⟨x', hx, y', hy, rfl⟩ := htr
      simp only [iexec] at h
      refine wp_seq ?_
      split at h
      · rename_i f1 H1 h1
        refine ihx cx hx hF hH h0 h1 fun E1 w1 a1 b1 b2 b3 b4 => ?_
        exact ihy cy hy b1 b2 (h0.step hH b3) h fun E2 w2 a2 c1 c2 c3 c4 => hQ E2 w2 a2 c1 c2 (b3.trans c3) (c4.trans b4)
      · rename_i hne
        refine ihx cx hx hF hH h0 h fun E1 w1 a1 b1 b2 b3 b4 => ?_
        cases e with
        | normal => exact absurd h (hne _ _)
        | exit id => exact hQ E1 w1 a1 b1 b2 b3 b4
        | ret => exact hQ E1 w1 a1 b1 b2 b3 b4
    | _ => simp [trC] at htr
  | cond o x y ihx ihy =>
    intro c ic' htr E H H' w fr fr' a e Q hF hH h0 h hQ
    cases c with
    | cond co cx cy =>
      simp only [trC, Option.bind_eq_some_iff, Option.map_eq_some_iff] at htr
      obtain ⟨o', ho, x', hx, y', hy, rfl⟩ := htr
      have hv := hF.ev ho
      simp only [iexec] at h
      split at h
      · rename_i hb
        rw [hb] at hv
        generalize hev : a.eval co = v at hv
        cases hv
        exact wp_cond_true hev (ihx cx hx hF hH h0 h hQ)
      · rename_i hb
        rw [hb] at hv
        generalize hev : a.eval co = v at hv
        cases hv
        exact wp_cond_false hev (ihy cy hy hF hH h0 h hQ)
      · simp at h
    | _ => simp [trC] at htr
  | block id x ih =>
    intro c ic' htr E H H' w fr fr' a e Q hF hH h0 h hQ
    cases c with
    | block cid cx =>
      simp only [trC, Option.map_eq_some_iff] at htr
      obtain ⟨x', hx, rfl⟩ := htr
      simp only [iexec] at h
      refine wp_block ?_
      split at h
      · rename_i i f1 H1 h1
        split at h
        · rename_i hid
          simp only [Option.some.injEq, Prod.mk.injEq] at h
          obtain ⟨rfl, rfl, rfl⟩ := h
          refine ih cx hx hF hH h0 h1 fun E1 w1 a1 b1 b2 b3 b4 => ?_
          simp only [exOf, Exit.inBlock, hid, if_true]
          exact hQ E1 w1 a1 b1 b2 b3 b4
        · rename_i hid
          simp only [Option.some.injEq, Prod.mk.injEq] at h
          obtain ⟨rfl, rfl, rfl⟩ := h
          refine ih cx hx hF hH h0 h1 fun E1 w1 a1 b1 b2 b3 b4 => ?_
          simp only [exOf, Exit.inBlock, if_neg hid]
          exact hQ E1 w1 a1 b1 b2 b3 b4
      · rename_i hne
        refine ih cx hx hF hH h0 h fun E1 w1 a1 b1 b2 b3 b4 => ?_
        cases e with
        | normal => exact hQ E1 w1 a1 b1 b2 b3 b4
        | exit i => exact absurd h (hne _ _ _)
        | ret => exact hQ E1 w1 a1 b1 b2 b3 b4
    | _ => simp [trC] at htr
  | loop dead x ih =>
    intro c ic' htr E H H' w fr fr' a e Q hF hH h0 h hQ
    cases c with
    | loop cx =>
      simp only [trC, Option.map_eq_some_iff] at htr
      obtain ⟨x', hx, rfl⟩ := htr
      simp only [iexec] at h
      obtain ⟨n, hn⟩ := iterω_iff.1 h
      refine wp_loop_rounds n ?_
      clear h
      induction n generalizing E H w fr a with
      | zero => simp [iter] at hn
      | succ n ihn =>
        rw [iter] at hn
        rw [rounds_succ]
        split at hn
        · rename_i f1 H1 h1
          refine ih cx hx (hF.kill dead) hH h0 h1 fun E1 w1 a1 b1 b2 b3 b4 => ?_
          exact ihn b1 b2 (h0.step hH b3) (fun E2 w2 a2 c1 c2 c3 c4 => hQ E2 w2 a2 c1 c2 (b3.trans c3) (c4.trans b4)) hn
        · rename_i hne
          refine ih cx hx (hF.kill dead) hH h0 hn fun E1 w1 a1 b1 b2 b3 b4 => ?_
          cases e with
          | normal => exact absurd hn (hne _ _)
          | exit i => exact hQ E1 w1 a1 b1 b2 b3 b4
          | ret => exact hQ E1 w1 a1 b1 b2 b3 b4
    | _ => simp [trC] at htr
  | exit id =>
    intro c ic' htr E H H' w fr fr' a e Q hF hH h0 h hQ
    cases c <;> simp only [trC, Option.some.injEq, reduceCtorEq] at htr
    subst htr
    simp only [iexec, Option.some.injEq, Prod.mk.injEq] at h
    obtain ⟨rfl, rfl, rfl⟩ := h
    exact wp_exit (hQ E w a hF hH (.refl _ _ _) rfl)
  | ret =>
    intro c ic' htr E H H' w fr fr' a e Q hF hH h0 h hQ
    cases c <;> simp only [trC, Option.some.injEq, reduceCtorEq] at htr
    subst htr
    simp only [iexec, Option.some.injEq, Prod.mk.injEq] at h
    obtain ⟨rfl, rfl, rfl⟩ := h
    exact wp_ret (hQ E w a hF hH (.refl _ _ _) rfl)

/-! ### Results, functions -/
theorem load_same (hH : HRel E H w) {t : TypeId} {d : TypeDesc} (hd : P.underlying t = some d) {n : Option Nat} (hn : n = if isAggD d then sizeT P t else none)
    (hs : (sizeT P t).isSome) {a x : AV} {v : Value} (ha : VR E w a v) (hx : aLoad n a H = some x) : ∃ r o v', v = .pointer (some ⟨r, o, none⟩) ∧ (loadVar t ⟨r, o, none⟩).run P w = .ok v' w ∧ VR E w x v' := by
  unfold aLoad at hx
  split at hx
  · rename_i b o
    cases ha with
    | ptr _ _ L hL =>
      split at hx
      · rename_i c hc
        obtain ⟨h1, h2⟩ := ref_cells hH hL hc
        have hp : part 0 n (c.drop o) = some x := by
          cases n with
          | none => simpa [part] using hx
          | some n =>
            simp only [part] at hx ⊢
            simp only [List.drop_zero, Nat.zero_add, List.length_drop]
            split at hx
            · rename_i hle; rw [if_pos (by omega)]; exact hx
            · simp at hx
        obtain ⟨v', hr, hv⟩ := load_gen (w := w) (E := E) (r := L.r) (o := L.d + o) hd hn hs hp (fun j y hj => by
          rw [List.getElem?_drop] at hj
          obtain ⟨u, hu, hv⟩ := h2 (o + j) y hj
          exact ⟨u, by rw [Nat.add_assoc]; exact hu, hv⟩)
        exact ⟨_, _, v', rfl, hr, hv⟩
      · simp at hx
  · rename_i cs
    cases ha with
    | vp _ r o us hc hp hv =>
      have hp : part 0 n cs = some x := by
        cases n with
        | none => simpa [part] using hx
        | some n => simpa [part] using hx
      obtain ⟨v', hr, hv⟩ := load_gen (w := w) (E := E) (r := r) (o := o) hd hn hs hp (fun j y hj => ⟨us j, hc j y hj, hv j y hj⟩)
      exact ⟨_, _, v', rfl, hr, hv⟩
  · simp at hx

def resOne (tmps : Array Value) : ResultVar → Sem Value
  | .tmp t => pure (tmps.getD t undef)
  | .cell x t => do loadVar t (← asAddr (tmps.getD x undef))

theorem sim_res1 (hF : FR E w fr a.tmps) (hH : HRel E H w) {r : ResultVar} {rs : List ResultVar} {r' : IRes} {rs' : List IRes} {v : AV} (hr : trRes P (r :: rs) = some (r' :: rs')) (h : resV1 fr H r' = some v) :
    trRes P rs = some rs' ∧ ∃ v', (resOne a.tmps r).run P w = .ok v' w ∧ VR E w v v' := by
  cases r with
  | tmp t =>
    simp only [trRes, Option.map_eq_some_iff, List.cons.injEq] at hr
    obtain ⟨l, hl, rfl, rfl⟩ := hr
    obtain ⟨u, hu, hv⟩ := hF.2 t v h
    exact ⟨hl, u, by simp [resOne, Array.getD_eq_getD_getElem?, hu], hv⟩
  | cell x t =>
    simp only [trRes, Option.map_eq_some_iff, Option.bind_eq_some_iff, List.cons.injEq] at hr
    obtain ⟨n, hn, l, hl, rfl, rfl⟩ := hr
    refine ⟨hl, ?_⟩
    obtain ⟨d, hd, hnn, hs⟩ := aggN_spec hn
    simp only [resV1] at h
    cases hx : fr[x]? with
    | none => rw [hx] at h; simp [aLoad] at h
    | some y =>
      rw [hx] at h
      obtain ⟨u, hu, hv⟩ := hF.2 x y hx
      obtain ⟨r, o, v', rfl, h1, h2⟩ := load_same (P := P) hH hd hnn hs hv h
      exact ⟨v', by simp [resOne, Array.getD_eq_getD_getElem?, hu, asAddr, h1], h2⟩

theorem sim_resVs (hF : FR E w fr a.tmps) (hH : HRel E H w) : ∀ (rs : List ResultVar) {rs' : List IRes} {vs : List AV}, trRes P rs = some rs' → resVs fr H rs' = some vs →
    ∃ us : List Value, (rs.mapM (resOne a.tmps)).run P w = .ok us w ∧ vs.length = us.length ∧ ∀ (j : Nat) x u, vs[j]? = some x → us[j]? = some u → VR E w x u := by
  intro rs
  induction rs with
  | nil =>
    intro rs' vs hr h
    simp only [trRes, Option.some.injEq] at hr
    subst hr
    simp only [resVs, Option.some.injEq] at h
    subst h
    exact ⟨[], by simp, rfl, by simp⟩
  | cons r rs ih =>
    intro rs' vs hr h
    cases rs' with
    | nil =>
      exfalso
      cases r <;> simp [trRes, Option.bind_eq_some_iff] at hr
    | cons r' rs' =>
      simp only [resVs, Option.bind_eq_some_iff, Option.map_eq_some_iff] at h
      obtain ⟨v, hv, l, hl, rfl⟩ := h
      obtain ⟨hrs, v', hv', hvr⟩ := sim_res1 hF hH hr hv
      obtain ⟨us, h1, h2, h3⟩ := ih hrs hl
      refine ⟨v' :: us, by simp [List.mapM_cons, hv', h1], by simp [h2], fun j x u hj hu => ?_⟩
      cases j with
      | zero =>
        simp only [List.getElem?_cons_zero, Option.some.injEq] at hj hu
        subst hj; subst hu; exact hvr
      | succ j => exact h3 j x u (by simpa using hj) (by simpa using hu)

theorem results_eq (fn : Func) (tmps : Array Value) : results fn tmps = (do
    let vs ← fn.results.mapM (resOne tmps)
    pure (if h : vs.size = 1 then vs[0] else .tuple vs)) := by
  unfold results
  congr 1

theorem sim_resV (hF : FR E w fr a.tmps) (hH : HRel E H w) {fn : Func} {rs' : List IRes} {v : AV} (hr : trRes P fn.results.toList = some rs') (h : resV fr H rs' = some v) :
    ∃ v', (results fn a.tmps).run P w = .ok v' w ∧ VR E w v v' := by
  unfold resV at h
  have key : ∀ {vs : List AV}, resVs fr H rs' = some vs → ∃ us : Array Value, (results fn a.tmps).run P w = .ok (if h : us.size = 1 then us[0] else .tuple us) w ∧ vs.length = us.size ∧ ∀ (j : Nat) x u, vs[j]? = some x → us[j]? = some u → VR E w x u := by
    intro vs hvs
    obtain ⟨us, h1, h2, h3⟩ := sim_resVs hF hH _ hr hvs
    refine ⟨us.toArray, ?_, by simpa using h2, fun j x u hj hu => h3 j x u hj (by simpa using hu)⟩
    rw [results_eq, Array.mapM_eq_mapM_toList]
    simp [h1]
  split at h
  · rename_i v0 hvs
    simp only [Option.some.injEq] at h
    subst h
    obtain ⟨us, h1, h2, h3⟩ := key hvs
    have hs : us.size = 1 := by simpa using h2.symm
    rw [dif_pos hs] at h1
    exact ⟨_, h1, h3 0 _ _ rfl (by rw [Array.getElem?_eq_getElem])⟩
  · rename_i vs hne hvs
    simp only [Option.some.injEq] at h
    subst h
    obtain ⟨us, h1, h2, h3⟩ := key hvs
    have hs : us.size ≠ 1 := by
      intro e
      rw [e] at h2
      obtain ⟨x, rfl⟩ := List.length_eq_one_iff.1 h2
      exact hne x rfl
    rw [dif_neg hs] at h1
    exact ⟨_, h1, .tup _ _ h2 h3⟩
  · simp at h

/-- A function does what its translation does. -/
theorem sim_fun {D : Den} (hD : DOk P T D) (hm : P.follows .mixedOrders = true) {f : FuncId} {fn : Func} {i i' : IF} (hf : P.funcs[f]? = some fn) (ht : trF P i fn = some i') {args : List AV} {v : AV} (h : irun D i' args H = some (v, H')) :
    Enters P f ∧ CallSim P T f args H v H' := by
  simp only [trF, Option.bind_eq_some_iff] at ht
  obtain ⟨c, hc, b, hb, rs, hrs, ht⟩ := ht
  split at ht
  · simp at ht
  · rename_i hname
    simp only [Option.some.injEq] at ht
    subst ht
    refine ⟨⟨fn, hf, by rw [hc]; rfl, by simpa using hname⟩, fun E w rargs hH h0 hargs => ?_⟩
    refine calls_of_wp hf hc ?_
    have hF : FR E w (args ++ List.replicate (fn.ntmps - args.length) .undef) (rargs ++ Array.replicate (fn.ntmps - rargs.size) undef) := by
      refine ⟨by simp [hargs.1], fun t x hx => ?_⟩
      rcases Nat.lt_or_ge t args.length with hl | hl
      · rw [List.getElem?_append_left hl] at hx
        have hl' : t < rargs.size := by rw [← hargs.1]; exact hl
        exact ⟨rargs[t], by rw [Array.getElem?_append_left hl', Array.getElem?_eq_getElem hl'], hargs.2 t x _ hx (Array.getElem?_eq_getElem hl')⟩
      · rw [List.getElem?_append_right hl] at hx
        have hlt := getElem?_lt hx
        rw [List.getElem?_replicate] at hx
        split at hx
        · simp only [Option.some.injEq] at hx
          subst hx
          refine ⟨undef, ?_, .undef _⟩
          rw [Array.getElem?_append_right (by rw [← hargs.1]; exact hl), Array.getElem?_replicate, if_pos]
          rw [← hargs.1]; assumption
        · simp at hx
    simp only [irun] at h
    split at h
    · rename_i fr1 H1 h1
      simp only [Option.map_eq_some_iff, Prod.mk.injEq] at h
      obtain ⟨v0, hv0, rfl, rfl⟩ := h
      refine sim_code hD hm i.body c hb hF hH h0 h1 fun E' w' a' b1 b2 b3 b4 => ?_
      obtain ⟨v', q1, q2⟩ := sim_resV b1 b2 hrs hv0
      exact ⟨b4, v', q1, E', v', rfl, q2, b2, b3⟩
    · rename_i fr1 H1 h1
      simp only [Option.map_eq_some_iff, Prod.mk.injEq] at h
      obtain ⟨v0, hv0, rfl, rfl⟩ := h
      refine sim_code hD hm i.body c hb hF hH h0 h1 fun E' w' a' b1 b2 b3 b4 => ?_
      obtain ⟨v', q1, q2⟩ := sim_resV b1 b2 hrs hv0
      exact ⟨b4, v', q1, E', v', rfl, q2, b2, b3⟩
    · simp at h

end Go.SV
