/- The translation of the machine's operations into abstract ones, and that each does what the abstract one does. Own text of the prover; nothing is assumed. -/
import Derived.Test.YtkbkhdgjdikjiaaDoorSk
namespace Go.SV

variable {P : Program} {E E' : Env} {H H' : AH} {w w' : World}

def AV.ofCell : Value → AV
  | .bool b => .bool b
  | .int k n => .int k n
  | .string s => .str s.data.toList
  | .pointer none => .nilp
  | .slice none 0 0 => .nils
  | .map none => .nilm
  | .nilFunc => .nilf
  | .nilIface => .niliface
  | _ => .undef

def AV.ofVal : Value → AV
  | .agg cs => .agg (cs.toList.map AV.ofCell)
  | v => .ofCell v

theorem ofCell_VR (v : Value) : VR E w (.ofCell v) v := by
  unfold AV.ofCell
  split
  · exact .bool _
  · exact .int _ _
  · rename_i s; exact .str s.data.toList
  · exact .nilp
  · exact .nils
  · exact .nilm
  · exact .nilf
  · exact .niliface
  · exact .undef _

theorem ofVal_VR (v : Value) : VR E w (.ofVal v) v := by
  cases v with
  | agg cs =>
    refine .agg _ _ (by simp) (fun j a u hj hu => ?_)
    simp only [List.getElem?_map, Option.map_eq_some_iff] at hj
    obtain ⟨x, hx, rfl⟩ := hj
    rw [Array.getElem?_toList, hu] at hx
    injection hx with hx
    subst hx
    exact ofCell_VR _
  | _ => simp only [AV.ofVal]; exact ofCell_VR _

def trOpd : Operand → Option Opd
  | .tmp t => some (.tmp t)
  | .const v => some (.cst (.ofVal v))
  | .func f => some (.fn f)
  | .global _ => none

def trOpds : List Operand → Option (List Opd)
  | [] => some []
  | x :: xs => (trOpd x).bind fun y => (trOpds xs).map (y :: ·)

def trOpt : Option Operand → Option (Option Opd)
  | none => some none
  | some x => (trOpd x).map some

def trParts (place : Nat → Option (Nat × Nat)) : List (Nat × Operand) → Option (List (Nat × Nat × Opd))
  | [] => some []
  | (i, x) :: ps => (place i).bind fun p => (trOpd x).bind fun y => (trParts place ps).map ((p.1, p.2, y) :: ·)

/-- The frame's slots. -/
def FR (E : Env) (w : World) (fr : List AV) (tmps : Array Value) : Prop :=
  fr.length = tmps.size ∧ ∀ (t : Nat) x, fr[t]? = some x → ∃ v, tmps[t]? = some v ∧ VR E w x v

theorem FR.mono {fr : List AV} {tmps : Array Value} (h : FR E w fr tmps) (hx : Ext E w E' w') : FR E' w' fr tmps :=
  ⟨h.1, fun t x ht => by obtain ⟨v, hv, hr⟩ := h.2 t x ht; exact ⟨v, hv, hr.mono hx⟩⟩

theorem FR.ev {fr : List AV} {a : Act} (h : FR E w fr a.tmps) {x : Operand} {y : Opd} (ht : trOpd x = some y) : VR E w (y.ev fr) (a.eval x) := by
  cases x with
  | tmp t =>
    simp only [trOpd, Option.some.injEq] at ht
    subst ht
    simp only [Opd.ev, Act.eval]
    cases hf : fr[t]? with
    | none => exact .undef _
    | some x =>
      obtain ⟨v, hv, hr⟩ := h.2 t x hf
      simp only [Option.getD_some]
      rw [Array.getD_eq_getD_getElem?, hv]
      exact hr
  | const v =>
    simp only [trOpd, Option.some.injEq] at ht
    subst ht
    exact ofVal_VR v
  | func f =>
    simp only [trOpd, Option.some.injEq] at ht
    subst ht
    exact .fn _ _ _ _ _ rfl rfl (fun j a u h => by simp at h) (fun j a u h => by simp at h)
  | global g => simp [trOpd] at ht

theorem FR.evs {fr : List AV} {a : Act} (h : FR E w fr a.tmps) (xs : List Operand) : ∀ {ys : List Opd}, trOpds xs = some ys → ys.length = xs.length ∧ ∀ (j : Nat) x u, (ys.map (Opd.ev fr))[j]? = some x → (xs.map a.eval)[j]? = some u → VR E w x u := by
  induction xs with
  | nil => intro ys ht; simp only [trOpds, Option.some.injEq] at ht; subst ht; exact ⟨rfl, fun j x u h => by simp at h⟩
  | cons x xs ih =>
    intro ys ht
    simp only [trOpds, Option.bind_eq_some_iff, Option.map_eq_some_iff] at ht
    obtain ⟨y, hy, ys', hys, rfl⟩ := ht
    obtain ⟨h1, h2⟩ := ih hys
    refine ⟨by simp [h1], fun j a u hj hu => ?_⟩
    cases j with
    | zero => simp at hj hu; subst hj; subst hu; exact h.ev hy
    | succ j => simp only [List.map_cons, List.getElem?_cons_succ] at hj hu; exact h2 j a u hj hu

theorem FR.opt {fr : List AV} {a : Act} (h : FR E w fr a.tmps) {x : Option Operand} {y : Option Opd} (ht : trOpt x = some y) : OptVR E w (y.map (Opd.ev fr)) (x.map a.eval) := by
  cases x with
  | none => simp only [trOpt, Option.some.injEq] at ht; subst ht; exact .none
  | some x =>
    simp only [trOpt, Option.map_eq_some_iff] at ht
    obtain ⟨y', hy, rfl⟩ := ht
    exact .some (h.ev hy)

theorem FR.parts {fr : List AV} {a : Act} (h : FR E w fr a.tmps) (place : Nat → Option (Nat × Nat)) (ps : List (Nat × Operand)) : ∀ {qs : List (Nat × Nat × Opd)}, trParts place ps = some qs →
    (qs.map fun p => (p.1, p.2.1, p.2.2.ev fr)).length = (ps.map fun p => (p.1, a.eval p.2)).length ∧
    ∀ (k : Nat) p q, (qs.map fun p => (p.1, p.2.1, p.2.2.ev fr))[k]? = some p → (ps.map fun p => (p.1, a.eval p.2))[k]? = some q → place q.1 = some (p.1, p.2.1) ∧ VR E w p.2.2 q.2 := by
  induction ps with
  | nil => intro qs ht; simp only [trParts, Option.some.injEq] at ht; subst ht; exact ⟨rfl, fun k p q h => by simp at h⟩
  | cons p ps ih =>
    intro qs ht
    obtain ⟨i, x⟩ := p
    simp only [trParts, Option.bind_eq_some_iff, Option.map_eq_some_iff] at ht
    obtain ⟨pl, hpl, y, hy, qs', hqs, rfl⟩ := ht
    obtain ⟨h1, h2⟩ := ih hqs
    refine ⟨by simp at h1 ⊢; exact h1, fun k p q hk hq => ?_⟩
    cases k with
    | zero => simp at hk hq; subst hk; subst hq; exact ⟨hpl, h.ev hy⟩
    | succ k => simp only [List.map_cons, List.getElem?_cons_succ] at hk hq; exact h2 k p q hk hq

/-- What an operation comes to. -/
def SimN (P : Program) (s : Sem Next) (E : Env) (H : AH) (w : World) (v : AV) (H' : AH) : Prop :=
  ∃ E' w' nx v', s.run P w = .ok nx w' ∧ (nx = .value v' ∨ (nx = .skip ∧ v' = undef)) ∧ VR E' w' v v' ∧ HRel E' H' w' ∧ Step E H w E' H' w'

theorem SimN.val {s : Sem Value} {v : AV} (h : Sim P s E H w v H') : SimN P (do pure (.value (← s))) E H w v H' := by
  obtain ⟨E', w', v', hr, a, b, c⟩ := h
  exact ⟨E', w', _, v', by simp only [Sem.run_bind, hr, Result.andThen_ok, Sem.run_pure], .inl rfl, a, b, c⟩

theorem SimN.unit {s : Sem Unit} (h : SimU P s E H w H') : SimN P (do s; pure .skip) E H w .undef H' := by
  obtain ⟨E', w', hr, b, c⟩ := h
  exact ⟨E', w', _, undef, by simp only [Sem.run_bind, hr, Result.andThen_ok, Sem.run_pure], .inr ⟨rfl, rfl⟩, .undef _, b, c⟩

theorem SimN.same (hH : HRel E H w) {s : Sem Next} {v : AV} {v' : Value} (hr : s.run P w = .ok (.value v') w) (hv : VR E w v v') : SimN P s E H w v H :=
  ⟨E, w, _, v', hr, .inl rfl, hv, hH, .refl _ _ _⟩

/-! ### The translation -/
def eqKindOf : TypeDesc → Option EqK
  | .bool => some .bool
  | .slice _ => some .slice
  | .pointer _ => some .ptr
  | .map _ _ => some .map
  | .func _ _ _ => some .func
  | .interface _ => some .iface
  | _ => none

theorem eqKindOf_ok {d : TypeDesc} {k : EqK} (h : eqKindOf d = some k) : kindOk k d = true := by
  cases d <;> simp [eqKindOf] at h <;> subst h <;> rfl

def isEq : BinOp → Option Bool
  | .eql => some false
  | .neq => some true
  | _ => none

def trBin (P : Program) (op : BinOp) (t : TypeId) (x y : Opd) : Option IOp :=
  match isEq op with
  | none => some (.bin op x y)
  | some neg =>
    match P.underlying t with
    | some (.int _) | some .string => some (.bin op x y)
    | some (.struct fs) => if P.stoodInHeld t || P.eqGuardType P.depth t then none else (flatFs P fs.toList 0).map fun ks => .eqAgg ks neg x y
    | some d => (eqKindOf d).map fun k => .eqv k neg x y
    | none => none

def trConv (P : Program) (src dst : TypeId) (x : Opd) : Option IOp :=
  match P.underlying src, P.underlying dst with
  | some (.int _), some (.int k) => some (.cvInt k x)
  | some (.int _), some .string => some (.cvRune x)
  | some .string, some .string => some (.cvSame x)
  | some .string, some (.slice e) => match P.underlying e with
    | some (.int .u8) => some (.cvBytes x)
    | _ => none
  | some (.slice e), some .string => match P.underlying e with
    | some (.int .u8) => some (.cvStr x)
    | _ => none
  | some (.slice _), some (.slice e) => if src = dst then match P.underlying e with
    | some (.int .u8) => some (.cvMark x)
    | _ => none else none
  | _, _ => none

def aggN (P : Program) (t : TypeId) : Option (Option Nat) :=
  match P.underlying t, sizeT P t with
  | some d, some s => some (if isAggD d then some s else none)
  | _, _ => none

def defVal (z : Value) : Option AV := if (AV.ofVal z).def? then some (AV.ofVal z) else none

def trBuiltin (P : Program) (m : Mode) (b : Builtin) (ts : List TypeId) (xs : List Opd) : Option IOp :=
  match b, ts, xs with
  | .len, [t], [x] => match P.underlying t with
    | some .string => some (.len .str x)
    | some (.slice _) => some (.len .row x)
    | some (.map _ _) => some (.len .map x)
    | _ => none
  | .append, [t, tx], [x, y] => match P.underlying t, P.underlying tx with
    | _, some (.int _) => none
    | some (.slice e), some _ => match sizeT P e, bytesT P e, zeroT P e with
      | some s, some bytes, some z => if 0 < bytes ∧ z.cells.size = s then some (.append m s bytes x y) else none
      | _, _, _ => none
    | _, _ => none
  | .min, _, x :: xs => some (.minmax false x xs)
  | .max, _, x :: xs => some (.minmax true x xs)
  | _, _, _ => none

def inOrder : List (Nat × Operand) → Nat → Bool
  | [], _ => true
  | p :: ps, k => p.1 == k && inOrder ps (k + 1)

def modeVer : Mode → Nat
  | .ref => 1
  | _ => 0

def trOp (P : Program) (m : Mode) : Op → Option IOp
  | .move x | .assign x => (trOpd x).map .mov
  | .pick c a b => (trOpd c).bind fun c => (trOpd a).bind fun a => (trOpd b).map fun b => .pick c a b
  | .alloc e => (zeroT P e).bind fun z => (defVal z).map fun v => .alloc v.cells
  | .box _ x => (trOpd x).map .box
  | .build t ps => (zeroT P t).bind fun z => (defVal z).bind fun v => match P.underlying t with
    | some (.struct fs) => (placesT P fs.toList).bind fun pl => (trParts (fun i => pl[i]?) ps.toList).map (.build v.cells)
    | some (.array _ e) => (sizeT P e).bind fun s => (trParts (fun i => some (i * s, s)) ps.toList).map (.build v.cells)
    | _ => none
  | .buildSlice t len ps => match P.underlying t with
    | some (.slice e) => (sizeT P e).bind fun s => if (zeroT P e).isSome && inOrder ps.toList 0 && ps.size == len && decide (len * s ≤ 2 ^ 24) then (trOpds (ps.toList.map (·.2))).map (.lit m s) else none
    | _ => none
  | .load t a => (aggN P t).bind fun n => (trOpd a).map (.load n)
  | .store t a x => (sizeT P t).bind fun n => (trOpd a).bind fun a => (trOpd x).map (.store n a)
  | .nilCheck x => (trOpd x).map .nilck
  | .binOp op t x y _ => (trOpd x).bind fun x => (trOpd y).bind fun y => trBin P op t x y
  | .unOp .not _ x => (trOpd x).map .not
  | .unOp .neg _ x => (trOpd x).map .neg
  | .convert src dst x => (trOpd x).bind fun x => trConv P src dst x
  | .makeInterface t x => match P.underlying t with
    | some (.interface _) | none => none
    | some _ => (trOpd x).map (.mkIface t)
  | .makeFunc f first cap => (trOpds first.toList).bind fun first => (trOpds cap.toList).map (.mkFn f first)
  | .makeMap _ none => some .mkMap
  | .makeSlice t l c => match P.underlying t with
    | some (.slice e) => (sizeT P e).bind fun s => (bytesT P e).bind fun bytes => (zeroT P e).bind fun z => (defVal z).bind fun v => (trOpd l).bind fun l => (trOpd c).map (.make m s bytes v.cells l)
    | _ => none
  | .slice t x lo hi none => (trOpd x).bind fun x => (trOpt lo).bind fun lo => (trOpt hi).bind fun hi => match P.underlying t with
    | some .string => some (.slcS x lo hi)
    | some (.slice e) => (sizeT P e).map fun s => .slc s x lo hi
    | _ => none
  | .fieldAddr t x f => match P.underlying t with
    | some (.struct fs) => (fs[f]?).bind fun fl => (sizeT P fl.type).bind fun s => if s = 0 then none else (trOpd x).map (.fieldAddr fl.offset)
    | _ => none
  | .field t x f => match P.underlying t with
    | some (.struct fs) => (fs[f]?).bind fun fl => (aggN P fl.type).bind fun n => (trOpd x).map (.field fl.offset n)
    | _ => none
  | .indexAddr t x i => (trOpd x).bind fun x => (trOpd i).bind fun i => match P.underlying t with
    | some (.slice e) => (sizeT P e).map fun s => .idxAddr s x i
    | some (.array len e) => (sizeT P e).map fun s => .idxAddrArr len s x i
    | _ => none
  | .index t x i => (trOpd x).bind fun x => (trOpd i).bind fun i => match P.underlying t with
    | some .string => some (.idxStr x i)
    | some (.array len e) => (sizeT P e).bind fun s => (aggN P e).map fun n => .idxArr len s n x i
    | _ => none
  | .lookup t m k ok => match P.underlying t with
    | some (.map kt e) => (keyT P kt).bind fun K => (zeroT P e).bind fun z => (trOpd m).bind fun m => (trOpd k).map (.lookup K (.ofVal z) ok m)
    | _ => none
  | .mapUpdate t m k v | .insert t m k v => match P.underlying t with
    | some (.map kt _) => (keyT P kt).bind fun K => (trOpd m).bind fun m => (trOpd k).bind fun k => (trOpd v).map (.mapUpd K m k)
    | _ => none
  | .mapEntry t m k => match P.underlying t with
    | some (.map kt e) => (keyT P kt).bind fun K => (zeroT P e).bind fun z => (trOpd m).bind fun m => (trOpd k).map (.mapEntry K (.ofVal z) m)
    | _ => none
  | .entryStore _ m s v => (trOpd m).bind fun m => (trOpd s).bind fun s => (trOpd v).map (.entrySt m s)
  | .range t x => match P.underlying t with
    | some .string => (trOpd x).map .rangeS
    | _ => none
  | .next x true => (trOpd x).map .nextS
  | .extract x i => (trOpd x).map (.extract i)
  | .call c => match c.callee with
    | .builtin b => (trOpds c.args.toList).bind fun xs => trBuiltin P m b c.argTypes.toList xs
    | .value f => (trOpd f).bind fun f => (trOpds c.args.toList).map (.call (modeVer m) f)
    | _ => none
  | _ => none


theorem defVal_spec {z : Value} {v : AV} (h : defVal z = some v) : v.def? = true ∧ v = .ofVal z := by
  unfold defVal at h
  split at h
  · rename_i hd
    simp only [Option.some.injEq] at h
    subst h
    exact ⟨hd, rfl⟩
  · simp at h

theorem aggN_spec {t : Nat} {n : Option Nat} (h : aggN P t = some n) : ∃ d, P.underlying t = some d ∧ n = (if isAggD d then sizeT P t else none) ∧ (sizeT P t).isSome := by
  unfold aggN at h
  split at h
  · rename_i d s hd hs
    simp only [Option.some.injEq] at h
    subst h
    exact ⟨d, hd, by simp [hs], by simp [hs]⟩
  · simp at h

theorem inOrder_spec (a : Act) (ps : List (Nat × Operand)) : ∀ k, inOrder ps k = true → ps.map (fun p => (p.1, a.eval p.2)) = (((ps.map (·.2)).map a.eval).zipIdx k).map fun p => (p.2, p.1) := by
  induction ps with
  | nil => intro k _; rfl
  | cons p ps ih =>
    intro k h
    simp only [inOrder, Bool.and_eq_true, beq_iff_eq] at h
    simp only [List.map_cons, List.zipIdx_cons, ih _ h.2, h.1]

variable {fr : List AV} {a : Act}

theorem sim_bin' (hF : FR E w fr a.tmps) (hH : HRel E H w) {op : BinOp} {t : Nat} {x y : Operand} {x' y' : Opd} (hx : trOpd x = some x') (hy : trOpd y = some y') {io : IOp} (h : trBin P op t x' y' = some io) {v : AV} (ha : aop fr io H = some (v, H')) :
    Sim P (do eqGuard op t x y (a.eval x) (a.eval y); binOp op t (a.eval x) (a.eval y)) E H w v H' := by
  have hvx := hF.ev hx
  have hvy := hF.ev hy
  have bincase : ∀ v, aop fr (.bin op x' y') H = some (v, H') → Sim P (do eqGuard op t x y (a.eval x) (a.eval y); binOp op t (a.eval x) (a.eval y)) E H w v H' := by
    intro v ha
    simp only [aop, Option.map_eq_some_iff, Prod.mk.injEq] at ha
    obtain ⟨u, hu, rfl, rfl⟩ := ha
    exact sim_bin hH hvx hvy hu
  unfold trBin at h
  split at h
  · simp only [Option.some.injEq] at h; subst h; exact bincase v ha
  · rename_i neg hneg
    have hop : op = if neg then .neq else .eql := by
      cases op <;> simp [isEq] at hneg <;> subst hneg <;> rfl
    split at h
    · simp only [Option.some.injEq] at h; subst h; exact bincase v ha
    · simp only [Option.some.injEq] at h; subst h; exact bincase v ha
    · rename_i fs hu
      split at h
      · simp at h
      · rename_i hc
        simp only [Bool.or_eq_true, not_or, Bool.not_eq_true] at hc
        simp only [Option.map_eq_some_iff] at h
        obtain ⟨ks, hks, rfl⟩ := h
        simp only [aop] at ha
        split at ha
        · rename_i xs ys e1 e2
          simp only [Option.map_eq_some_iff, Prod.mk.injEq] at ha
          obtain ⟨_, ⟨b, hb, rfl⟩, rfl, rfl⟩ := ha
          rw [e1] at hvx
          rw [e2] at hvy
          rw [hop]
          exact sim_eqAgg hH hu hks hc.1 hc.2 neg hvx hvy hb
        · simp at ha
    · rename_i d _ _ _ hu
      simp only [Option.map_eq_some_iff] at h
      obtain ⟨k, hk, rfl⟩ := h
      simp only [aop, Option.map_eq_some_iff, Prod.mk.injEq] at ha
      obtain ⟨_, ⟨b, hb, rfl⟩, rfl, rfl⟩ := ha
      rw [hop]
      exact sim_eqv hH hu (eqKindOf_ok hk) neg hvx hvy hb
    · simp at h

theorem sim_conv' (hF : FR E w fr a.tmps) (hH : HRel E H w) {src dst : Nat} {x : Operand} {x' : Opd} (hx : trOpd x = some x') {io : IOp} (h : trConv P src dst x' = some io) {v : AV} (ha : aop fr io H = some (v, H')) :
    Sim P (convert src dst (a.eval x)) E H w v H' := by
  have hvx := hF.ev hx
  unfold trConv at h
  split at h
  · rename_i k1 k2 hs hd
    simp only [Option.some.injEq] at h; subst h
    simp only [aop] at ha
    split at ha
    · rename_i k n e
      simp only [Option.some.injEq, Prod.mk.injEq] at ha
      obtain ⟨rfl, rfl⟩ := ha
      rw [e] at hvx
      generalize a.eval x = vx at hvx
      cases hvx
      exact Sim.same hH (v' := .int k2 (k2.wrap n)) (by simp [convert, r_under hs, r_under hd, Conv.intToInt]) (.int _ _)
    · simp at ha
  · rename_i k1 hs hd
    simp only [Option.some.injEq] at h; subst h
    simp only [aop] at ha
    split at ha
    · rename_i k n e
      simp only [Option.some.injEq, Prod.mk.injEq] at ha
      obtain ⟨rfl, rfl⟩ := ha
      rw [e] at hvx
      generalize a.eval x = vx at hvx
      cases hvx
      exact Sim.same hH (v' := .string (Utf8.encode n)) (by simp [convert, r_under hs, r_under hd, Conv.intToString]) (.str _)
    · simp at ha
  · rename_i hs hd
    simp only [Option.some.injEq] at h; subst h
    simp only [aop] at ha
    split at ha
    · rename_i l e
      simp only [Option.some.injEq, Prod.mk.injEq] at ha
      obtain ⟨rfl, rfl⟩ := ha
      rw [e] at hvx
      generalize a.eval x = vx at hvx
      cases hvx
      exact Sim.same hH (v' := .string ⟨l.toArray⟩) (by simp [convert, r_under hs, r_under hd]) (.str _)
    · simp at ha
  · rename_i el hs hd
    split at h
    · rename_i he
      simp only [Option.some.injEq] at h; subst h
      simp only [aop] at ha
      split at ha
      · rename_i l e
        simp only [Option.some.injEq, Prod.mk.injEq] at ha
        obtain ⟨rfl, rfl⟩ := ha
        rw [e] at hvx
        generalize a.eval x = vx at hvx
        cases hvx
        obtain ⟨E', w', v', hr, b, c, d⟩ := sim_cvBytes (P := P) hH (e := el) l
        refine ⟨E', w', v', ?_, b, c, d⟩
        rw [← hr]
        simp [convert, r_under hs, r_under hd, r_under he]
      · simp at ha
    · simp at h
  · rename_i el hs hd
    split at h
    · rename_i he
      simp only [Option.some.injEq] at h; subst h
      simp only [aop] at ha
      split at ha
      · rename_i xs hxs
        split at ha
        · simp at ha
        · rename_i hns
          split at ha
          · rename_i hb
            simp only [Option.some.injEq, Prod.mk.injEq] at ha
            obtain ⟨rfl, rfl⟩ := ha
            obtain ⟨E', w', v', hr, b, c, d⟩ := sim_cvStr (P := P) hH hvx (fun l hl => hns l hl) hxs hb
            refine ⟨E', w', v', ?_, b, c, d⟩
            rw [← hr]
            have hsl : ∃ b l c, a.eval x = .slice b l c := by
              generalize a.eval x = vx at hvx
              generalize Opd.ev fr x' = y at hvx hxs hns
              cases hvx with
              | nils => exact ⟨_, _, _, rfl⟩
              | sl => exact ⟨_, _, _, rfl⟩
              | sle => exact ⟨_, _, _, rfl⟩
              | slr => exact ⟨_, _, _, rfl⟩
              | str l => exact absurd rfl (hns l)
              | _ => simp [elems] at hxs
            obtain ⟨b, l, c, hbl⟩ := hsl
            rw [hbl]
            exact run_convert_bytes_string w src dst el b l c hs he hd
          · simp at ha
      · simp at ha
    · simp at h
  · rename_i e0 el hs hd
    split at h
    · rename_i hsd
      subst hsd
      split at h
      · rename_i he
        simp only [Option.some.injEq] at h; subst h
        simp only [aop] at ha
        split at ha
        · rename_i b o n s e
          split at ha
          · rename_i c hc
            simp only [Option.some.injEq, Prod.mk.injEq] at ha
            obtain ⟨rfl, rfl⟩ := ha
            rw [e] at hvx
            exact sim_mark hH hc hvx hd he
          · simp at ha
        · simp at ha
      · simp at h
    · simp at h
  · simp at h

theorem sim_len (hH : HRel E H w) (k : LK) {t : Nat} {d : TypeDesc} (hu : P.underlying t = some d) (hk : k = .str ∧ d = .string ∨ (∃ e, k = .row ∧ d = .slice e) ∨ (∃ kt e, k = .map ∧ d = .map kt e)) {y v : AV} {vx : Value} (hvx : VR E w y vx)
    (hlen : aLen k y H = some v) (T : Nat) : Sim P (Builtin.len_ #[t] T #[vx]) E H w v H := by
  have hsz : ∀ l : List UInt8, (ByteArray.mk l.toArray).size = l.length := fun l => by simp [ByteArray.size]
  rcases hk with ⟨rfl, rfl⟩ | ⟨e, rfl, rfl⟩ | ⟨kt, e, rfl, rfl⟩
  · cases hvx with
    | str l =>
      simp only [aLen, Option.some.injEq] at hlen
      subst hlen
      refine Sim.same hH (v' := .int .i64 l.length) ?_ (.int _ _)
      unfold Builtin.len_
      simp only [List.getElem?_toArray, List.getElem?_cons_zero, Sem.run_bind, r_under hu, Result.andThen_ok, Sem.run_pure, hsz, goInt]
    | _ => simp [aLen] at hlen
  · cases hvx with
    | nils =>
      simp only [aLen, Option.some.injEq] at hlen
      subst hlen
      refine Sim.same hH (v' := .int .i64 0) ?_ (.int _ _)
      unfold Builtin.len_
      simp [r_under hu, goInt]
    | sle s' a' =>
      simp only [aLen, Option.some.injEq] at hlen
      subst hlen
      refine Sim.same hH (v' := .int .i64 0) ?_ (.int _ _)
      unfold Builtin.len_
      simp [r_under hu, goInt]
    | sl t' s' l r o cap us hcap =>
      simp only [aLen, Option.some.injEq] at hlen
      subst hlen
      refine Sim.same hH (v' := .int .i64 l.length) ?_ (.int _ _)
      unfold Builtin.len_
      simp [r_under hu, goInt]
    | slr b o n s =>
      simp only [aLen, Option.some.injEq] at hlen
      subst hlen
      refine Sim.same hH (v' := .int .i64 n) ?_ (.int _ _)
      unfold Builtin.len_
      simp [r_under hu, goInt]
    | _ => simp [aLen] at hlen
  · cases hvx with
    | nilm =>
      simp only [aLen, Option.some.injEq] at hlen
      subst hlen
      refine Sim.same hH (v' := .int .i64 0) ?_ (.int _ _)
      unfold Builtin.len_
      simp [r_under hu, goInt]
    | map b L hL =>
      simp only [aLen] at hlen
      split at hlen
      · rename_i es clk hc
        simp only [Option.some.injEq] at hlen
        subst hlen
        obtain ⟨res, hb, hr⟩ := map_obj hH hL hc
        refine Sim.same hH (v' := .int .i64 es.length) ?_ (.int _ _)
        have := hr.1
        simp only [Array.length_toList] at this
        unfold Builtin.len_
        simp [r_under hu, goInt, r_getMap hb, this]
      · simp at hlen
    | _ => simp [aLen] at hlen

theorem sim_fold (mx : Bool) (ys : List AV) : ∀ (vs : List Value) (x v : AV) (vx : Value), ys.length = vs.length → VR E w x vx → (∀ (j : Nat) y u, ys[j]? = some y → vs[j]? = some u → VR E w y u) → aFold mx x ys = some v →
    ∃ v', (vs.foldlM (if mx then Builtin.max2 else Builtin.min2) vx).run P w = .ok v' w ∧ VR E w v v' := by
  induction ys with
  | nil =>
    intro vs x v vx hl hx _ h
    cases vs with
    | nil => simp only [aFold, Option.some.injEq] at h; subst h; exact ⟨vx, rfl, hx⟩
    | cons u vs => simp at hl
  | cons y ys ih =>
    intro vs x v vx hl hx hv h
    cases vs with
    | nil => simp at hl
    | cons u vs =>
      simp only [aFold, Option.bind_eq_some_iff] at h
      obtain ⟨z, hz, h⟩ := h
      have hy := hv 0 y u rfl rfl
      unfold aMin at hz
      split at hz
      · rename_i k p k' q
        simp only [Option.some.injEq] at hz
        subst hz
        cases hx; cases hy
        have hz' : VR E w (.int k (if mx then (if p < q then q else p) else (if q < p then q else p))) (.int k (if mx then (if p < q then q else p) else (if q < p then q else p))) := .int _ _
        obtain ⟨v', h1, h2⟩ := ih vs _ v _ (by simpa using hl) hz' (fun j a b hj hb => hv (j + 1) a b (by simpa using hj) (by simpa using hb)) h
        refine ⟨v', ?_, h2⟩
        rw [← h1]
        cases mx <;> simp only [List.foldlM_cons, Sem.run_bind, Bool.false_eq_true, if_false, if_true, Builtin.min2, Builtin.max2, Sem.run_pure, Result.andThen_ok, gt_iff_lt]
      · simp at hz

theorem sim_builtin (hF : FR E w fr a.tmps) (hH : HRel E H w) (h0 : 0 < H.toks.length) {m : Mode} {b : Builtin} {ts : Array TypeId} {args : Array Operand} {xs : List Opd} (hx : trOpds args.toList = some xs) {io : IOp} (h : trBuiltin P m b ts.toList xs = some io)
    {v : AV} (ha : aop fr io H = some (v, H')) (T : Nat) (cs : Array Bool) : SimN P (builtin b ts T cs (args.map a.eval)) E H w v H' := by
  obtain ⟨hl, hv⟩ := hF.evs args.toList hx
  have hargs : args.map a.eval = (args.toList.map a.eval).toArray := by
    apply Array.ext'
    simp
  rw [hargs]
  generalize hvs : args.toList.map a.eval = vs at hv
  have hvl : xs.length = vs.length := by rw [← hvs]; simpa using hl
  clear hvs hargs hl hx
  obtain ⟨tl⟩ := ts
  simp only at h
  unfold trBuiltin at h
  split at h
  · rename_i t x
    match vs, hvl with
    | [vx], _ =>
      have hvx := hv 0 (x.ev fr) vx rfl rfl
      refine SimN.val (s := Builtin.len_ #[t] T #[vx]) ?_
      split at h
      · rename_i hu
        simp only [Option.some.injEq] at h; subst h
        simp only [aop, Option.map_eq_some_iff, Prod.mk.injEq] at ha
        obtain ⟨u, hu2, rfl, rfl⟩ := ha
        exact sim_len hH .str hu (.inl ⟨rfl, rfl⟩) hvx hu2 T
      · rename_i e hu
        simp only [Option.some.injEq] at h; subst h
        simp only [aop, Option.map_eq_some_iff, Prod.mk.injEq] at ha
        obtain ⟨u, hu2, rfl, rfl⟩ := ha
        exact sim_len hH .row hu (.inr (.inl ⟨e, rfl, rfl⟩)) hvx hu2 T
      · rename_i kt e hu
        simp only [Option.some.injEq] at h; subst h
        simp only [aop, Option.map_eq_some_iff, Prod.mk.injEq] at ha
        obtain ⟨u, hu2, rfl, rfl⟩ := ha
        exact sim_len hH .map hu (.inr (.inr ⟨kt, e, rfl, rfl⟩)) hvx hu2 T
      · simp at h
  · rename_i t tx x y
    match vs, hvl with
    | [vx, vy], _ =>
      have hvx := hv 0 (x.ev fr) vx rfl rfl
      have hvy := hv 1 (y.ev fr) vy rfl rfl
      refine SimN.val (s := Builtin.append_ #[t, tx] T #[vx, vy]) ?_
      split at h
      · simp at h
      · rename_i e dx hdx hu hux
        split at h
        · rename_i s bytes z hs hb hz
          split at h
          · rename_i hc
            simp only [Option.some.injEq] at h; subst h
            simp only [aop] at ha
            exact sim_append hH h0 ⟨hu, ⟨_, hux, hdx⟩, hs, hb, hc.1, ⟨z, hz, hc.2⟩⟩ hvx hvy ha
          · simp at h
        · simp at h
      · simp at h
  · rename_i x xs
    match vs, hvl with
    | vx :: vs, hvl =>
      simp only [Option.some.injEq] at h; subst h
      simp only [aop, Option.map_eq_some_iff, Prod.mk.injEq] at ha
      obtain ⟨u, hu2, rfl, rfl⟩ := ha
      refine SimN.val (s := Builtin.min_ _ T (vx :: vs).toArray) ?_
      obtain ⟨v', h1, h2⟩ := sim_fold (P := P) (w := w) (E := E) false (xs.map (Opd.ev fr)) vs (x.ev fr) u vx (by simpa using hvl) (hv 0 _ _ rfl rfl) (fun j a b hj hb => hv (j + 1) a b (by simpa using hj) (by simpa using hb)) hu2
      exact Sim.same hH h1 h2
  · rename_i x xs
    match vs, hvl with
    | vx :: vs, hvl =>
      simp only [Option.some.injEq] at h; subst h
      simp only [aop, Option.map_eq_some_iff, Prod.mk.injEq] at ha
      obtain ⟨u, hu2, rfl, rfl⟩ := ha
      refine SimN.val (s := Builtin.max_ _ T (vx :: vs).toArray) ?_
      obtain ⟨v', h1, h2⟩ := sim_fold (P := P) (w := w) (E := E) true (xs.map (Opd.ev fr)) vs (x.ev fr) u vx (by simpa using hvl) (hv 0 _ _ rfl rfl) (fun j a b hj hb => hv (j + 1) a b (by simpa using hj) (by simpa using hb)) hu2
      exact Sim.same hH h1 h2
  · simp at h

end Go.SV
