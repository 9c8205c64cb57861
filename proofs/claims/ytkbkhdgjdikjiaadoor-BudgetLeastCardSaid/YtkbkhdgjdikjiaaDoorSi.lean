/- Places of elements and fields; comparisons; rows made and sealed; conversions. Own text of the prover; nothing is assumed. -/
import Derived.Test.YtkbkhdgjdikjiaaDoorSh
import Derived.Laws.StructEq
import Derived.Laws.BytesString
namespace Go.SV

variable {P : Program} {E E' : Env} {H H' : AH} {w w' : World}

theorem VR.vpDrop {cs : List AV} {r o : Nat} (h : VR E w (.vp cs) (.pointer (some ⟨r, o, none⟩))) (k : Nat) : VR E w (.vp (cs.drop k)) (.pointer (some ⟨r, o + k, none⟩)) := by
  cases h with
  | vp _ _ _ us hc hp hv =>
    refine .vp _ _ _ (fun j => us (k + j)) (fun j c hj => ?_) (fun j c hj => ?_) (fun j c hj => ?_)
    · rw [List.getElem?_drop] at hj
      rw [Nat.add_assoc]; exact hc _ c hj
    · rw [List.getElem?_drop] at hj
      rw [Nat.add_assoc]; exact hp _ c hj
    · rw [List.getElem?_drop] at hj
      exact hv _ c hj

theorem sim_idxAddr (hH : HRel E H w) {t e s : Nat} (hu : P.underlying t = some (.slice e)) (hs : sizeT P e = some s) {x i v : AV} {vx vi : Value} (hx : VR E w x vx) (hi : VR E w i vi) (h : aIdxAddr s x i = some v) :
    Sim P (Instr.indexAt t vx vi) E H w v H := by
  unfold aIdxAddr at h
  split at h
  · rename_i k s' xs k' n
    split at h
    · rename_i hc0
      obtain ⟨rfl, h0⟩ := hc0
      simp only [Option.map_eq_some_iff] at h
      obtain ⟨y, hy, rfl⟩ := h
      have hlt := inL hy
      cases hi
      cases hx with
      | sl _ _ _ r o cap us hcap hs' hc hp hv ht h00 =>
        have hb : 0 ≤ n ∧ n < ((xs.length : Nat) : Int) := by omega
        refine Sim.same hH (v' := .pointer (some ⟨r, o + n.toNat * s', none⟩)) ?_ (.vp _ _ _ (us n.toNat) (fun j c hj => hc _ _ _ _ hy hj) (fun j c hj => hp _ _ _ _ hy hj) (fun j c hj => hv _ _ _ _ hy hj))
        simp only [Instr.indexAt, asIntOf, pure_bind, Sem.run_bind, r_under hu, Result.andThen_ok, Sem.run_pure]
        rw [if_pos hb]
        simp only [Sem.run_bind, r_sizeOf hs, Result.andThen_ok, Sem.run_pure, add_addr]
      | sle => simp at hy
    · simp at h
  · rename_i b o m s' k' n
    split at h
    · rename_i hc0
      obtain ⟨rfl, h0, h1⟩ := hc0
      simp only [Option.some.injEq] at h
      subst h
      cases hi
      cases hx with
      | slr _ _ _ _ cap o' L hL hn ho =>
        obtain ⟨ho1, _⟩ := ho (by omega)
        subst ho1
        refine Sim.same hH (v' := .pointer (some ⟨L.r, L.d + o + n.toNat * s', none⟩)) ?_ (by rw [Nat.add_assoc]; exact .ptr _ _ L hL)
        have hb : 0 ≤ n ∧ n < (m : Int) := ⟨h0, h1⟩
        simp only [Instr.indexAt, asIntOf, pure_bind, Sem.run_bind, r_under hu, Result.andThen_ok, Sem.run_pure]
        rw [if_pos hb]
        simp only [Sem.run_bind, r_sizeOf hs, Result.andThen_ok, Sem.run_pure, add_addr]
    · simp at h
  · simp at h

theorem sim_idxAddrArr (hH : HRel E H w) {t e s len : Nat} (hu : P.underlying t = some (.array len e)) (hs : sizeT P e = some s) {x v : AV} {n : Int} {k : IntKind} {vx : Value} (hx : VR E w x vx)
    (h : aIdxAddrArr len s x (.int k n) = some v) : Sim P (Instr.indexAt t vx (.int k n)) E H w v H := by
  unfold aIdxAddrArr at h
  have run : ∀ (r o : Nat), vx = .pointer (some ⟨r, o, none⟩) → 0 ≤ n ∧ n < (len : Int) → (Instr.indexAt t vx (.int k n)).run P w = .ok (.pointer (some ⟨r, o + n.toNat * s, none⟩)) w := by
    intro r o hv hb
    subst hv
    simp only [Instr.indexAt, asIntOf, pure_bind, Sem.run_bind, r_under hu, Result.andThen_ok, Sem.run_pure, Instr.sureAddr]
    rw [if_pos hb]
    simp only [Sem.run_bind, r_sizeOf hs, Result.andThen_ok, Sem.run_pure, add_addr]
  cases hx with
  | ptr b o L hL =>
    simp only at h
    split at h
    · rename_i hb
      simp only [Option.some.injEq] at h
      subst h
      exact Sim.same hH (run _ _ rfl hb) (by rw [Nat.add_assoc]; exact .ptr _ _ L hL)
    · simp at h
  | vp cs r o us hc hp hv =>
    simp only at h
    split at h
    · rename_i hb
      simp only [Option.some.injEq] at h
      subst h
      exact Sim.same hH (run _ _ rfl hb) (VR.vpDrop (.vp cs r o us hc hp hv) _)
    · simp at h
  | _ => simp at h

theorem sim_fieldAddr (hH : HRel E H w) {t f sz : Nat} {fs : Array Field} {fl : Field} (hu : P.underlying t = some (.struct fs)) (hf : fs[f]? = some fl) (hs : sizeT P fl.type = some sz) (hs0 : sz ≠ 0) {x v : AV} {vx : Value} (hx : VR E w x vx)
    (h : aFieldAddr fl.offset x = some v) : Sim P (Instr.fieldAt t vx f) E H w v H := by
  unfold aFieldAddr at h
  have run : ∀ (r o : Nat), vx = .pointer (some ⟨r, o, none⟩) → (Instr.fieldAt t vx f).run P w = .ok (.pointer (some ⟨r, o + fl.offset, none⟩)) w := by
    intro r o hv
    subst hv
    simp only [Instr.fieldAt, Sem.run_bind, r_under hu, Result.andThen_ok, hf, Instr.sureAddr, Sem.run_pure, fieldPlace, r_sizeOf hs]
    rw [if_neg hs0]
    simp only [Sem.run_pure, Result.andThen_ok, add_addr]
  cases hx with
  | ptr b o L hL =>
    simp only [Option.some.injEq] at h
    subst h
    exact Sim.same hH (run _ _ rfl) (by rw [Nat.add_assoc]; exact .ptr _ _ L hL)
  | vp cs r o us hc hp hv =>
    simp only at h
    split at h
    · simp only [Option.some.injEq] at h
      subst h
      exact Sim.same hH (run _ _ rfl) (VR.vpDrop (.vp cs r o us hc hp hv) _)
    · simp at h
  | _ => simp at h

theorem sim_part (hH : HRel E H w) {t off : Nat} {d : TypeDesc} (hd : P.underlying t = some d) {n : Option Nat} (hn : n = if isAggD d then sizeT P t else none) (hs : (sizeT P t).isSome) {cs : List AV} {vs : Array Value} {v : AV}
    (h1 : cs.length = vs.size) (hv : ∀ (j : Nat) a u, cs[j]? = some a → vs[j]? = some u → VR E w a u) (h : part off n cs = some v) : Sim P (Go.part t vs off) E H w v H := by
  obtain ⟨sz, hsz⟩ := Option.isSome_iff_exists.1 hs
  cases ha : isAggD d with
  | false =>
    simp [ha] at hn
    subst hn
    simp only [part] at h
    have hlt := inL h
    have hlt2 : off < vs.size := by omega
    refine Sim.same hH (v' := vs[off]) ?_ (hv off v _ h (Array.getElem?_eq_getElem hlt2))
    simp [Go.part, r_isAgg hd, ha, Array.getElem?_eq_getElem hlt2]
  | true =>
    simp [ha, hsz] at hn
    subst hn
    simp only [part] at h
    split at h
    · rename_i hle
      simp only [Option.some.injEq] at h
      subst h
      refine Sim.same hH (v' := .agg (vs.extract off (off + sz))) ?_ (.agg _ _ ?_ ?_)
      · simp [Go.part, r_isAgg hd, ha, r_sizeOf hsz]
      · simp; omega
      · intro j a u hj hu
        have hj2 := inL hj
        simp only [List.length_take, List.length_drop] at hj2
        rw [List.getElem?_take, if_pos (by omega), List.getElem?_drop] at hj
        rw [Array.getElem?_extract] at hu
        split at hu
        · exact hv _ a u hj hu
        · simp at hu
    · simp at h

theorem str_get (l : List UInt8) (n : Nat) : (ByteArray.mk l.toArray)[n]? = l[n]? := by
  rcases Nat.lt_or_ge n l.length with h | h
  · have : n < (ByteArray.mk l.toArray).size := by simpa [ByteArray.size] using h
    rw [getElem?_pos (ByteArray.mk l.toArray) n this, List.getElem?_eq_getElem h]
    rfl
  · have : ¬ n < (ByteArray.mk l.toArray).size := by simpa [ByteArray.size] using h
    rw [getElem?_neg (ByteArray.mk l.toArray) n this, List.getElem?_eq_none h]

theorem sim_idxStr (hH : HRel E H w) {t : Nat} (hu : P.underlying t = some .string) {l : List UInt8} {n : Int} {k : IntKind} {b : UInt8} (h0 : 0 ≤ n) (hb : l[n.toNat]? = some b) :
    Sim P (Instr.index t (.string ⟨l.toArray⟩) (.int k n)) E H w (.int .u8 b.toNat) H := by
  refine Sim.same hH (v' := .int .u8 b.toNat) ?_ (.int _ _)
  simp only [Instr.index, asIntOf, pure_bind, Sem.run_bind, r_under hu, Result.andThen_ok, h0, if_true, str_get, hb, Sem.run_pure]

theorem sim_idxArr (hH : HRel E H w) {t e s len : Nat} {d : TypeDesc} (hu : P.underlying t = some (.array len e)) (hs : sizeT P e = some s) (hd : P.underlying e = some d) {n : Option Nat} (hn : n = if isAggD d then sizeT P e else none)
    {cs : List AV} {vx : Value} {j : Int} {k : IntKind} {v : AV} (hx : VR E w (.agg cs) vx) (hb : 0 ≤ j ∧ j < len) (h : part (j.toNat * s) n cs = some v) : Sim P (Instr.index t vx (.int k j)) E H w v H := by
  cases hx with
  | agg _ vs h1 hv =>
    obtain ⟨E', w', v', hr, a, b, c⟩ := sim_part (P := P) hH hd hn (by rw [hs]; rfl) h1 hv h
    refine ⟨E', w', v', ?_, a, b, c⟩
    simp only [Instr.index, asIntOf, pure_bind, Sem.run_bind, r_under hu, Result.andThen_ok]
    rw [if_pos hb]
    simp only [Sem.run_bind, r_sizeOf hs, Result.andThen_ok, hr]

/-! ### Comparisons -/
def scalT (P : Program) (t : Nat) : Option CK :=
  match P.underlying t with
  | some .bool => some .bool
  | some (.int _) => some .int
  | some .string => some .str
  | _ => none

/-- The fields of a struct of scalars, each at its place. -/
def flatFs (P : Program) : List Field → Nat → Option (List CK)
  | [], _ => some []
  | f :: fs, k => if f.name ≠ "_" ∧ f.offset = k then (scalT P f.type).bind fun c => (flatFs P fs (k + 1)).map (c :: ·) else none

theorem toList_mk (l : List UInt8) : (ByteArray.mk l.toArray).toList = l := by rw [ByteArray.toList_eq]

theorem cellEq_run {t : Nat} {c : CK} (hc : scalT P t = some c) {x y : AV} {vx vy : Value} (hx : VR E w x vx) (hy : VR E w y vy) {b : Bool} (h : cellEq c x y = some b) (d : Nat) :
    (Op.equalIn (d + 1) t vx vy).run P w = .ok b w := by
  unfold scalT at hc
  cases hu : P.underlying t with
  | none => simp [hu] at hc
  | some D =>
    cases D <;> simp [hu] at hc <;> subst hc
    · cases hx <;> cases hy <;> simp [cellEq] at h
      subst h
      exact run_equalIn_bool' w d t _ _ hu
    · cases hx <;> cases hy <;> simp [cellEq] at h
      obtain ⟨rfl, rfl⟩ := h
      exact run_equalIn_int w d t _ _ _ _ hu
    · cases hx <;> cases hy <;> simp [cellEq] at h
      subst h
      rw [run_equalIn_string w d t _ _ hu, toList_mk, toList_mk]

theorem part_scal {t off : Nat} {c : CK} (hc : scalT P t = some c) {vs : Array Value} {v : Value} (h : vs[off]? = some v) : (Go.part t vs off).run P w = .ok v w := by
  unfold scalT at hc
  split at hc <;> simp only [Option.some.injEq, reduceCtorEq] at hc
  all_goals
    rename_i hu
    simp [Go.part, r_isAgg hu, isAggD, h]

theorem cellsEq_run (d : Nat) {vx vy : Array Value} (fs : List Field) : ∀ (k : Nat) (ks : List CK) (xs ys : List AV), flatFs P fs k = some ks →
    (∀ (j : Nat) a, xs[j]? = some a → ∃ u, vx[k + j]? = some u ∧ VR E w a u) → (∀ (j : Nat) a, ys[j]? = some a → ∃ u, vy[k + j]? = some u ∧ VR E w a u) → ∀ b, cellsEq ks xs ys = some b →
    (Op.eqFields (d + 1) vx vy fs).run P w = .ok b w := by
  induction fs with
  | nil =>
    intro k ks xs ys hf _ _ b h
    simp only [flatFs, Option.some.injEq] at hf
    subst hf
    cases xs <;> cases ys <;> simp [cellsEq] at h
    subst h
    simp [Op.eqFields]
  | cons f fs ih =>
    intro k ks xs ys hf hx hy b h
    simp only [flatFs] at hf
    split at hf
    · rename_i hn
      simp only [Option.bind_eq_some_iff, Option.map_eq_some_iff] at hf
      obtain ⟨c, hc, ks', hks, rfl⟩ := hf
      cases xs with
      | nil => simp [cellsEq] at h
      | cons x xs =>
        cases ys with
        | nil => simp [cellsEq] at h
        | cons y ys =>
          simp only [cellsEq, Option.bind_eq_some_iff, Option.some.injEq] at h
          obtain ⟨b1, hb1, b2, hb2, rfl⟩ := h
          obtain ⟨u, hu, hxu⟩ := hx 0 x rfl
          obtain ⟨u', hu', hyu⟩ := hy 0 y rfl
          have := ih (k + 1) ks' xs ys hks (fun j a hj => by have := hx (j + 1) a hj; rwa [show k + (j + 1) = k + 1 + j by omega] at this) (fun j a hj => by have := hy (j + 1) a hj; rwa [show k + (j + 1) = k + 1 + j by omega] at this) b2 hb2
          simp only [Op.eqFields]
          rw [if_pos hn.1, hn.2]
          simp only [Nat.add_zero] at hu hu'
          simp only [Sem.run_bind, part_scal hc hu, part_scal hc hu', Result.andThen_ok, cellEq_run hc hxu hyu hb1]
          cases b1
          · simp
          · simpa using this
    · simp at hf

theorem structEq_run {t : Nat} {fs : Array Field} {ks : List CK} (hu : P.underlying t = some (.struct fs)) (hf : flatFs P fs.toList 0 = some ks) (hp : P.stoodInHeld t = false) {xs ys : List AV} {vx vy : Value} (hx : VR E w (.agg xs) vx) (hy : VR E w (.agg ys) vy)
    {b : Bool} (h : cellsEq ks xs ys = some b) (d : Nat) : (Op.equalIn (d + 2) t vx vy).run P w = .ok b w := by
  cases hx with
  | agg _ va h1 hva =>
    cases hy with
    | agg _ vb h2 hvb =>
      have hfo : P.fieldsOf t = fs := by simp [Program.fieldsOf, hu]
      rw [run_equalIn_struct w (d + 1) t va vb (by rw [hfo]; exact hu) hp, hfo]
      refine cellsEq_run (E := E) d fs.toList 0 ks xs ys hf (fun j a hj => ?_) (fun j a hj => ?_) b h
      · have := inL hj
        exact ⟨va[j], by simp [show j < va.size by omega], hva j a _ hj (Array.getElem?_eq_getElem (by omega))⟩
      · have := inL hj
        exact ⟨vb[j], by simp [show j < vb.size by omega], hvb j a _ hj (Array.getElem?_eq_getElem (by omega))⟩

/-! ### Numbers and strings -/
theorem sim_bin (hH : HRel E H w) {op : BinOp} {t : Nat} {x y v : AV} {vx vy : Value} {ox oy : Operand} (hx : VR E w x vx) (hy : VR E w y vy) (h : aBin op x y = some v) :
    Sim P (do eqGuard op t ox oy vx vy; binOp op t vx vy) E H w v H := by
  unfold aBin at h
  split at h
  · rename_i k a k' b
    cases hx; cases hy
    have hg : (eqGuard op t ox oy (.int k a) (.int k' b)).run P w = .ok () w := by
      cases op <;> simp [eqGuard]
    split at h
    · rename_i hs
      unfold aShift at h
      split at h
      · simp at h
      · rename_i hb
        cases op <;> simp [isShift] at hs <;> simp only [Option.some.injEq] at h <;> subst h <;> refine Sim.same hH (v' := _) ?_ (.int _ _)
        all_goals
          simp only [Sem.run_bind, hg, Result.andThen_ok, binOp, Op.shift]
          rw [if_neg hb]
          rfl
    · rename_i hs
      split at h
      · rename_i hk
        subst hk
        cases op <;> simp [isShift] at hs <;> simp only [aInt, aBits, Option.map_some, Option.map_none, Option.some.injEq, reduceCtorEq] at h
        all_goals (try (split at h <;> simp only [Option.some.injEq, reduceCtorEq] at h))
        all_goals
          subst h
          refine Sim.same hH (v' := _) ?_ (by first | exact .int _ _ | exact .bool _)
          simp only [Sem.run_bind, hg, Result.andThen_ok, binOp, ne_eq, not_true_eq_false, if_false]
          first
            | rfl
            | (simp only [Op.intDiv]; rw [if_neg (by assumption)]; rfl)
      · simp at h
  · rename_i a b
    cases hx; cases hy
    have hg : (eqGuard op t ox oy (.string ⟨a.toArray⟩) (.string ⟨b.toArray⟩)).run P w = .ok () w := by
      cases op <;> simp [eqGuard]
    cases op <;> simp only [aStr, Option.some.injEq, reduceCtorEq] at h
    case add =>
      split at h
      · rename_i hb
        simp only [Option.some.injEq] at h
        subst h
        refine Sim.same hH (v' := .string ⟨(a ++ b).toArray⟩) ?_ (.str _)
        simp only [Sem.run_bind, hg, Result.andThen_ok, binOp, Op.stringOp]
        have hmax : IntKind.i64.max = 9223372036854775807 := by decide
        rw [if_neg (by rw [hmax]; simp [ByteArray.size]; omega)]
        simp only [Sem.run_pure]
        congr 2
      · simp at h
    all_goals
      subst h
      refine Sim.same hH (v' := _) ?_ (.bool _)
      simp only [Sem.run_bind, hg, Result.andThen_ok, binOp, Op.stringOp, toList_mk, Sem.run_pure]
  · simp at h


def kindOk (k : EqK) (d : TypeDesc) : Bool :=
  match k, d with
  | .bool, .bool | .slice, .slice _ | .ptr, .pointer _ | .map, .map _ _ | .func, .func _ _ _ | .iface, .interface _ => true
  | _, _ => false

/-- What a comparison by '==' of two values is, once Op.equalIn is known. -/
def EqRun (P : Program) (w : World) (t : Nat) (vx vy : Value) (b : Bool) : Prop :=
  (∀ d, (Op.equalIn (d + 1) t vx vy).run P w = .ok b w) ∧ (∀ op ox oy, (eqGuard op t ox oy vx vy).run P w = .ok () w) ∧ (binOp .eql t vx vy = do pure (.bool (← Op.equal t vx vy))) ∧ (binOp .neq t vx vy = do pure (.bool (!(← Op.equal t vx vy))))

theorem eq_bool {t : Nat} (hu : P.underlying t = some .bool) {x y : AV} {vx vy : Value} (hx : VR E w x vx) (hy : VR E w y vy) {b : Bool} (h : aEq .bool x y = some b) : EqRun P w t vx vy b := by
  cases hx <;> simp only [aEq, reduceCtorEq] at h
  cases hy <;> simp only [reduceCtorEq, Option.some.injEq] at h
  subst h
  exact ⟨fun d => by simp [Op.equalIn, r_under hu], fun op ox oy => by cases op <;> simp [eqGuard], rfl, rfl⟩
theorem eq_slice {t e : Nat} (hu : P.underlying t = some (.slice e)) {x y : AV} {vx vy : Value} (hx : VR E w x vx) (hy : VR E w y vy) {b : Bool} (h : aEq .slice x y = some b) : EqRun P w t vx vy b := by
  cases hx <;> simp only [aEq, reduceCtorEq] at h <;> cases hy <;> simp only [reduceCtorEq, Option.some.injEq] at h
  all_goals
    subst h
    exact ⟨fun d => by simp [Op.equalIn, r_under hu], fun op ox oy => by cases op <;> simp [eqGuard], rfl, rfl⟩
theorem eq_ptr {t e : Nat} (hu : P.underlying t = some (.pointer e)) {x y : AV} {vx vy : Value} (hx : VR E w x vx) (hy : VR E w y vy) {b : Bool} (h : aEq .ptr x y = some b) : EqRun P w t vx vy b := by
  cases hx <;> simp only [aEq, reduceCtorEq] at h <;> cases hy <;> simp only [reduceCtorEq, Option.some.injEq] at h
  all_goals
    subst h
    exact ⟨fun d => by simp [Op.equalIn, r_under hu], fun op ox oy => by cases op <;> simp [eqGuard], rfl, rfl⟩
theorem eq_map {t k e : Nat} (hu : P.underlying t = some (.map k e)) {x y : AV} {vx vy : Value} (hx : VR E w x vx) (hy : VR E w y vy) {b : Bool} (h : aEq .map x y = some b) : EqRun P w t vx vy b := by
  cases hx <;> simp only [aEq, reduceCtorEq] at h <;> cases hy <;> simp only [reduceCtorEq, Option.some.injEq] at h
  all_goals
    subst h
    exact ⟨fun d => by simp [Op.equalIn, r_under hu], fun op ox oy => by cases op <;> simp [eqGuard], rfl, rfl⟩
theorem eq_func {t : Nat} {ps rs : Array TypeId} {vd : Bool} (hu : P.underlying t = some (.func ps rs vd)) {x y : AV} {vx vy : Value} (hx : VR E w x vx) (hy : VR E w y vy) {b : Bool} (h : aEq .func x y = some b) : EqRun P w t vx vy b := by
  cases hx <;> simp only [aEq, reduceCtorEq] at h <;> cases hy <;> simp only [reduceCtorEq, Option.some.injEq] at h
  all_goals
    subst h
    exact ⟨fun d => by simp [Op.equalIn, r_under hu], fun op ox oy => by cases op <;> simp [eqGuard], rfl, rfl⟩
theorem eq_iface {t : Nat} {ms : Array (String × TypeId)} (hu : P.underlying t = some (.interface ms)) {x y : AV} {vx vy : Value} (hx : VR E w x vx) (hy : VR E w y vy) {b : Bool} (h : aEq .iface x y = some b) : EqRun P w t vx vy b := by
  cases hx <;> simp only [aEq, reduceCtorEq] at h <;> cases hy <;> simp only [reduceCtorEq, Option.some.injEq] at h
  all_goals
    subst h
    exact ⟨fun d => by simp [Op.equalIn, r_under hu], fun op ox oy => by cases op <;> simp [eqGuard], rfl, rfl⟩

theorem eqv_run {t : Nat} {d : TypeDesc} {k : EqK} (hu : P.underlying t = some d) (hk : kindOk k d = true) {x y : AV} {vx vy : Value} (hx : VR E w x vx) (hy : VR E w y vy) {b : Bool} (h : aEq k x y = some b) :
    (Op.equal t vx vy).run P w = .ok b w ∧ (∀ op ox oy, (eqGuard op t ox oy vx vy).run P w = .ok () w) ∧ (binOp .eql t vx vy = do pure (.bool (← Op.equal t vx vy))) ∧ (binOp .neq t vx vy = do pure (.bool (!(← Op.equal t vx vy)))) := by
  have key : EqRun P w t vx vy b := by
    unfold kindOk at hk
    split at hk
    · exact eq_bool hu hx hy h
    · exact eq_slice hu hx hy h
    · exact eq_ptr hu hx hy h
    · exact eq_map hu hx hy h
    · exact eq_func hu hx hy h
    · exact eq_iface hu hx hy h
    · simp at hk
  exact ⟨key.1 9999, key.2⟩

theorem sim_eqv (hH : HRel E H w) {t : Nat} {d : TypeDesc} {k : EqK} (hu : P.underlying t = some d) (hk : kindOk k d = true) {x y : AV} {vx vy : Value} {ox oy : Operand} (neg : Bool) (hx : VR E w x vx) (hy : VR E w y vy) {b : Bool} (h : aEq k x y = some b) :
    Sim P (do eqGuard (if neg then .neq else .eql) t ox oy vx vy; binOp (if neg then .neq else .eql) t vx vy) E H w (.bool (if neg then !b else b)) H := by
  obtain ⟨h1, h2, h3, h4⟩ := eqv_run (P := P) hu hk hx hy h
  refine Sim.same hH (v' := .bool (if neg then !b else b)) ?_ (.bool _)
  cases neg
  · simp only [Sem.run_bind, h2, Result.andThen_ok, Bool.false_eq_true, if_false, h3, h1, Sem.run_pure]
  · simp only [Sem.run_bind, h2, Result.andThen_ok, if_true, h4, h1, Sem.run_pure]

theorem sim_eqAgg (hH : HRel E H w) {t : Nat} {fs : Array Field} {ks : List CK} (hu : P.underlying t = some (.struct fs)) (hf : flatFs P fs.toList 0 = some ks) (hp : P.stoodInHeld t = false) (hm : P.eqGuardType P.depth t = false)
    {xs ys : List AV} {vx vy : Value} {ox oy : Operand} (neg : Bool) (hx : VR E w (.agg xs) vx) (hy : VR E w (.agg ys) vy) {b : Bool} (h : cellsEq ks xs ys = some b) :
    Sim P (do eqGuard (if neg then .neq else .eql) t ox oy vx vy; binOp (if neg then .neq else .eql) t vx vy) E H w (.bool (if neg then !b else b)) H := by
  have h1 := structEq_run (P := P) hu hf hp hx hy h 9998
  refine Sim.same hH (v' := .bool (if neg then !b else b)) ?_ (.bool _)
  cases hx with
  | agg _ va l1 hva =>
    cases hy with
    | agg _ vb l2 hvb =>
      cases neg
      · simp only [Sem.run_bind, Bool.false_eq_true, if_false, run_eqGuard_agg w _ t ox oy va vb hm, Result.andThen_ok, run_eql_struct w t va vb, h1]
      · simp only [Sem.run_bind, if_true, run_eqGuard_agg w _ t ox oy va vb hm, Result.andThen_ok, run_neq_struct w t va vb, h1]

/-! ### Conversions -/
theorem freeze_new (w : World) (rc : Array Value) (e : TypeId) (k : Nat) :
    (World.alloc w (.cells rc e)).freeze ⟨w.heap.size, k, none⟩ 1 = w.alloc (.cells rc e (k, k + 1)) := by
  unfold World.freeze World.alloc
  simp only [Nat.succ_ne_self, Nat.one_ne_zero, if_false]
  congr 1
  apply Array.ext'
  apply List.ext_getElem?
  intro i
  simp only [Array.getElem?_toList, Array.getElem?_modify, Array.getElem?_push]
  by_cases h : i = w.heap.size
  · subst h; simp
  · rw [if_neg (Ne.symm h), if_neg h, if_neg h]

theorem sim_cvBytes (hH : HRel E H w) {e : Nat} (l : List UInt8) : Sim P (Conv.stringToBytes e ⟨l.toArray⟩) E H w (.sl 0 1 (l.map fun b => .int .u8 b.toNat)) H := by
  have hsz : (ByteArray.mk l.toArray).size = l.length := by simp [ByteArray.size]
  have hsz2 : (l.toArray).size = l.length := by simp
  obtain ⟨hD, sD⟩ := hH.drew (w.drawn + 1)
  have hfm : (l.map fun b => AV.int .u8 b.toNat).flatMap AV.cells = l.map fun b => AV.int .u8 b.toNat := by
    clear hsz hsz2
    induction l with
    | nil => rfl
    | cons a l ih => simp only [List.map_cons, List.flatMap_cons, ih, AV.cells]; rfl
  let nc := l.length + w.tape w.drawn (.appendCap l.length 0 e) % (2 ^ 63 - l.length)
  let rc : Array Value := (l.toArray.map fun b => Value.int .u8 b.toNat) ++ Array.replicate (nc - l.length) (.int .u8 0)
  have hrc : rc.size = nc := by simp [rc]; omega
  obtain ⟨E', a, b, c⟩ := newRow_ro (s := 1) (cap := nc) hD e (nc, nc + 1) (xs := l.map fun b => AV.int .u8 b.toNat) (cells := rc) (fun x hx => by
      obtain ⟨y, _, rfl⟩ := List.mem_map.1 hx
      exact ⟨by simp, rfl⟩) (by simp [nc]) (by rw [hfm, hrc]; simp [nc]) (fun j x u hj hu => by
      rw [hfm] at hj
      simp only [List.getElem?_map, Option.map_eq_some_iff] at hj
      obtain ⟨y, hy, rfl⟩ := hj
      have hlt := inL hy
      simp only [rc] at hu
      rw [Array.getElem?_append_left (by simpa using hlt)] at hu
      simp [hy] at hu
      subst hu
      exact .int _ _)
  refine ⟨E', _, _, ?_, a, b, sD.trans c⟩
  have hch : (choose (.appendCap l.length 0 e)).run P w = .ok nc { w with drawn := w.drawn + 1 } := by
    rw [run_choose]; rfl
  simp only [Conv.stringToBytes, hsz, Sem.run_bind, hch, Result.andThen_ok]
  have hnr : (newRow e rc).run P { w with drawn := w.drawn + 1 } = .ok ⟨w.heap.size, 0, none⟩ (World.alloc { w with drawn := w.drawn + 1 } (.cells rc e)) := rfl
  have hms : (markStringish ⟨w.heap.size, 0, none⟩).run P (World.alloc { w with drawn := w.drawn + 1 } (.cells rc e)) = .ok () (World.alloc { w with drawn := w.drawn + 1 } (.cells rc e (nc, nc + 1))) := by
    have hsh : (World.alloc { w with drawn := w.drawn + 1 } (.cells rc e)).shape? w.heap.size = some (e, nc) := by
      simp only [World.shape?]
      have := heap_alloc_new { w with drawn := w.drawn + 1 } (.cells rc e)
      simp only at this
      rw [this]; simp [hrc]
    simp only [markStringish, Sem.run_bind, run_shape, Result.andThen_ok, hsh, run_freeze]
    rw [← freeze_new]
  have : ((ByteArray.mk l.toArray).data.map fun b => Value.int .u8 b.toNat) ++ Array.replicate (nc - l.length) (Value.int .u8 0) = rc := rfl
  simp only [this, hnr, Result.andThen_ok, hms, Sem.run_pure]
  simp [nc]

theorem sim_cvStr (hH : HRel E H w) {x : AV} {vx : Value} (hx : VR E w x vx) (hns : ∀ l, x ≠ .str l) {xs : List AV} (he : elems 1 x H = some xs) (hb : xs.all (fun | .int .u8 n => decide (0 ≤ n ∧ n < 256) | _ => false) = true) :
    Sim P (Conv.bytesToString vx) E H w (.str (xs.map fun | .int _ n => UInt8.ofNat n.toNat | _ => 0)) H := by
  have hint : ∀ x ∈ xs, ∃ n, x = .int .u8 n := by
    intro x hxm
    have := List.all_eq_true.1 hb x hxm
    split at this
    · exact ⟨_, rfl⟩
    · simp at this
  have hok : ∀ x ∈ xs, x ≠ .undef ∧ x.cells.length = 1 := fun x hxm => by obtain ⟨n, rfl⟩ := hint x hxm; exact ⟨by simp, rfl⟩
  obtain ⟨hn, cells, hc, hcl, hcv⟩ := elems_run (P := P) hH hx he hok
  have hfm : xs.flatMap AV.cells = xs := by
    clear hb hok hcl hcv hc hn he
    induction xs with
    | nil => rfl
    | cons a l ih =>
      obtain ⟨n, rfl⟩ := hint a (by simp)
      simp only [List.flatMap_cons, ih (fun x hx => hint x (by simp [hx])), AV.cells]; rfl
  rw [hfm] at hcl hcv
  have hcells : cells = (xs.map fun | .int _ n => n | _ => 0).map (Value.int .u8) := by
    apply List.ext_getElem?
    intro j
    rcases Nat.lt_or_ge j xs.length with h | h
    · obtain ⟨n, hn⟩ := hint xs[j] (List.getElem_mem _)
      have h1 : xs[j]? = some (.int .u8 n) := by rw [List.getElem?_eq_getElem h, hn]
      have h2 : cells[j]? = some cells[j] := List.getElem?_eq_getElem (by omega)
      have h3 := hcv j _ _ h1 h2
      rw [h2]
      simp only [List.getElem?_map, h1, Option.map_some]
      generalize cells[j] = c at h3
      cases h3
      rfl
    · rw [List.getElem?_eq_none (by omega), List.getElem?_eq_none (by simp; omega)]
  have hfold : ∀ (ns : List Int) (s : ByteArray), (ns.foldl (fun r n => r.push (UInt8.ofNat n.toNat)) s).data.toList = s.data.toList ++ ns.map fun n => UInt8.ofNat n.toNat := by
    intro ns
    induction ns with
    | nil => intro s; simp
    | cons n ns ih => intro s; simp [ih]
  have hres : ∀ ns : List Int, ns = (xs.map fun | .int _ n => n | _ => 0) → (ns.foldl (fun r n => r.push (UInt8.ofNat n.toNat)) ByteArray.empty) = ⟨(xs.map fun | .int _ n => UInt8.ofNat n.toNat | _ => 0).toArray⟩ := by
    intro ns hns
    apply ByteArray.ext
    apply Array.ext'
    rw [hfold, hns]
    simp only [List.map_map]
    show [] ++ _ = _
    simp only [List.nil_append]
    apply List.map_congr_left
    intro a ha
    obtain ⟨n, rfl⟩ := hint a ha
    rfl
  cases hx with
  | nils =>
    simp only [elems, Option.some.injEq] at he
    subst he
    refine Sim.same hH (v' := .string .empty) (by simp [Conv.bytesToString]) ?_
    have := VR.str (E := E) (w := w) []
    exact this
  | sle s0 a0 =>
    have hx0 : xs = [] := by
      simp only [elems] at he
      split at he
      · simpa using he.symm
      · simp at he
    subst hx0
    refine Sim.same hH (v' := .string .empty) (by simp [Conv.bytesToString, loadCells, loadCellsFrom]) ?_
    have := VR.str (E := E) (w := w) []
    exact this
  | sl t0 s0 xs0 r o cap us hcap hs hcc hp hv ht h0 =>
    have hlen : xs.length = xs0.length := by
      have := hn
      simp only [Builtin.lenOf, Sem.run_pure, Result.ok.injEq] at this
      exact this.1.symm
    have hload : (loadCells ⟨r, o, none⟩ xs.length).run P w = .ok ((xs.map fun | .int _ n => n | _ => 0).map (Value.int .u8)).toArray w := by
      have := hc w.drawn
      simp only [Builtin.firstCells, Nat.mul_one, hcells] at this
      exact this
    refine Sim.same hH ?_ (.str _)
    rw [← hlen, run_bytesToString w _ _ _ _ hload, hres _ rfl]
  | slr b0 o0 n0 s0 cap o' L hL hncap ho =>
    have hlen : xs.length = n0 := by
      have := hn
      simp only [Builtin.lenOf, Sem.run_pure, Result.ok.injEq] at this
      exact this.1.symm
    have hload : (loadCells ⟨L.r, o', none⟩ xs.length).run P w = .ok ((xs.map fun | .int _ n => n | _ => 0).map (Value.int .u8)).toArray w := by
      have := hc w.drawn
      simp only [Builtin.firstCells, Nat.mul_one, hcells] at this
      exact this
    refine Sim.same hH ?_ (.str _)
    rw [← hlen, run_bytesToString w _ _ _ _ hload, hres _ rfl]
  | str l => exact absurd rfl (hns l)
  | _ => simp [elems] at he

end Go.SV
