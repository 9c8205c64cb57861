/- Places of elements and fields; comparisons; rows made and sealed; conversions. Rows made, marked and sealed; maps; iterators over strings. Maps and iterators over strings. The translation of the machine's operations into abstract ones, and that each does what the abstract one does. Each operation of the machine does what its translation does. Own text of the prover; nothing is assumed. -/
import Derived.Test.YtmbaaiifdjoibaaGreatDoorLa
import Derived.Laws.StructEq
import Derived.Laws.BytesString
namespace Go.SV

variable {P : Program} {E E' : Env} {H H' : AH} {w w' : World}

theorem VR.vpDrop {cs : List AV} {r o : Nat} (h : VR E w (.vp cs) (.pointer (some ⟨r, o, none⟩))) (k : Nat) : VR E w (.vp (cs.drop k)) (.pointer (some ⟨r, o + k, none⟩)) := by
  cases h with
  | vp _ _ _ us hc hp hv =>
    refine .vp _ _ _ (fun j => us (k + j)) (fun j c hj => ?_) (fun j c hj => ?_) (fun j c hj => ?_)
    · rw [List.getElem?_drop] at hj
      rw [Nat.add_assoc]; exact hc _ c hj
    · rw [List.getElem?_drop] at hj
      rw [Nat.add_assoc]; exact hp _ c hj
    · rw [List.getElem?_drop] at hj
      exact hv _ c hj

theorem sim_idxAddr (hH : HRel E H w) {t e s : Nat} (hu : P.underlying t = some (.slice e)) (hs : sizeT P e = some s) {x i v : AV} {vx vi : Value} (hx : VR E w x vx) (hi : VR E w i vi) (h : aIdxAddr s x i = some v) :
    Sim P (Instr.indexAt t vx vi) E H w v H := by
  unfold aIdxAddr at h
  split at h
  · rename_i k s' xs k' n
    split at h
    · rename_i hc0
      obtain ⟨rfl, h0⟩ := hc0
      simp only [Option.map_eq_some_iff] at h
      obtain ⟨y, hy, rfl⟩ := h
      have hlt := inL hy
      cases hi
      cases hx with
      | sl _ _ _ r o cap us hcap hs' hc hp hv ht h00 =>
        have hb : 0 ≤ n ∧ n < ((xs.length : Nat) : Int) := by omega
        refine Sim.same hH (v' := .pointer (some ⟨r, o + n.toNat * s', none⟩)) ?_ (.vp _ _ _ (us n.toNat) (fun j c hj => hc _ _ _ _ hy hj) (fun j c hj => hp _ _ _ _ hy hj) (fun j c hj => hv _ _ _ _ hy hj))
        simp only [Instr.indexAt, asIntOf, pure_bind, Sem.run_bind, r_under hu, Result.andThen_ok, Sem.run_pure]
        rw [if_pos hb]
        simp only [Sem.run_bind, r_sizeOf hs, Result.andThen_ok, Sem.run_pure, add_addr]
      | sle => simp at hy
    · simp at h
  · rename_i b o m s' k' n
    split at h
    · rename_i hc0
      obtain ⟨rfl, h0, h1⟩ := hc0
      simp only [Option.some.injEq] at h
      subst h
      cases hi
      cases hx with
      | slr _ _ _ _ cap o' L hL hn ho =>
        obtain ⟨ho1, _⟩ := ho (by omega)
        subst ho1
        refine Sim.same hH (v' := .pointer (some ⟨L.r, L.d + o + n.toNat * s', none⟩)) ?_ (by rw [Nat.add_assoc]; exact .ptr _ _ L hL)
        have hb : 0 ≤ n ∧ n < (m : Int) := ⟨h0, h1⟩
        simp only [Instr.indexAt, asIntOf, pure_bind, Sem.run_bind, r_under hu, Result.andThen_ok, Sem.run_pure]
        rw [if_pos hb]
        simp only [Sem.run_bind, r_sizeOf hs, Result.andThen_ok, Sem.run_pure, add_addr]
    · simp at h
  · simp at h

theorem sim_idxAddrArr (hH : HRel E H w) {t e s len : Nat} (hu : P.underlying t = some (.array len e)) (hs : sizeT P e = some s) {x v : AV} {n : Int} {k : IntKind} {vx : Value} (hx : VR E w x vx)
    (h : aIdxAddrArr len s x (.int k n) = some v) : Sim P (Instr.indexAt t vx (.int k n)) E H w v H := by
  unfold aIdxAddrArr at h
  have run : ∀ (r o : Nat), vx = .pointer (some ⟨r, o, none⟩) → 0 ≤ n ∧ n < (len : Int) → (Instr.indexAt t vx (.int k n)).run P w = .ok (.pointer (some ⟨r, o + n.toNat * s, none⟩)) w := by
    intro r o hv hb
    subst hv
    simp only [Instr.indexAt, asIntOf, pure_bind, Sem.run_bind, r_under hu, Result.andThen_ok, Sem.run_pure, Instr.sureAddr]
    rw [if_pos hb]
    simp only [Sem.run_bind, r_sizeOf hs, Result.andThen_ok, Sem.run_pure, add_addr]
  cases hx with
  | ptr b o L hL =>
    simp only at h
    split at h
    · rename_i hb
      simp only [Option.some.injEq] at h
      subst h
      exact Sim.same hH (run _ _ rfl hb) (by rw [Nat.add_assoc]; exact .ptr _ _ L hL)
    · simp at h
  | vp cs r o us hc hp hv =>
    simp only at h
    split at h
    · rename_i hb
      simp only [Option.some.injEq] at h
      subst h
      exact Sim.same hH (run _ _ rfl hb) (VR.vpDrop (.vp cs r o us hc hp hv) _)
    · simp at h
  | _ => simp at h

theorem sim_fieldAddr (hH : HRel E H w) {t f sz : Nat} {fs : Array Field} {fl : Field} (hu : P.underlying t = some (.struct fs)) (hf : fs[f]? = some fl) (hs : sizeT P fl.type = some sz) (hs0 : sz ≠ 0) {x v : AV} {vx : Value} (hx : VR E w x vx)
    (h : aFieldAddr fl.offset x = some v) : Sim P (Instr.fieldAt t vx f) E H w v H := by
  unfold aFieldAddr at h
  have run : ∀ (r o : Nat), vx = .pointer (some ⟨r, o, none⟩) → (Instr.fieldAt t vx f).run P w = .ok (.pointer (some ⟨r, o + fl.offset, none⟩)) w := by
    intro r o hv
    subst hv
    simp only [Instr.fieldAt, Sem.run_bind, r_under hu, Result.andThen_ok, hf, Instr.sureAddr, Sem.run_pure, fieldPlace, r_sizeOf hs]
    rw [if_neg hs0]
    simp only [Sem.run_pure, Result.andThen_ok, add_addr]
  cases hx with
  | ptr b o L hL =>
    simp only [Option.some.injEq] at h
    subst h
    exact Sim.same hH (run _ _ rfl) (by rw [Nat.add_assoc]; exact .ptr _ _ L hL)
  | vp cs r o us hc hp hv =>
    simp only at h
    split at h
    · simp only [Option.some.injEq] at h
      subst h
      exact Sim.same hH (run _ _ rfl) (VR.vpDrop (.vp cs r o us hc hp hv) _)
    · simp at h
  | _ => simp at h

theorem sim_part (hH : HRel E H w) {t off : Nat} {d : TypeDesc} (hd : P.underlying t = some d) {n : Option Nat} (hn : n = if isAggD d then sizeT P t else none) (hs : (sizeT P t).isSome) {cs : List AV} {vs : Array Value} {v : AV}
    (h1 : cs.length = vs.size) (hv : ∀ (j : Nat) a u, cs[j]? = some a → vs[j]? = some u → VR E w a u) (h : part off n cs = some v) : Sim P (Go.part t vs off) E H w v H := by
  obtain ⟨sz, hsz⟩ := Option.isSome_iff_exists.1 hs
  cases ha : isAggD d with
  | false =>
    simp [ha] at hn
    subst hn
    simp only [part] at h
    have hlt := inL h
    have hlt2 : off < vs.size := by omega
    refine Sim.same hH (v' := vs[off]) ?_ (hv off v _ h (Array.getElem?_eq_getElem hlt2))
    simp [Go.part, r_isAgg hd, ha, Array.getElem?_eq_getElem hlt2]
  | true =>
    simp [ha, hsz] at hn
    subst hn
    simp only [part] at h
    split at h
    · rename_i hle
      simp only [Option.some.injEq] at h
      subst h
      refine Sim.same hH (v' := .agg (vs.extract off (off + sz))) ?_ (.agg _ _ ?_ ?_)
      · simp [Go.part, r_isAgg hd, ha, r_sizeOf hsz]
      · simp; omega
      · intro j a u hj hu
        have hj2 := inL hj
        simp only [List.length_take, List.length_drop] at hj2
        rw [List.getElem?_take, if_pos (by omega), List.getElem?_drop] at hj
        rw [Array.getElem?_extract] at hu
        split at hu
        · exact hv _ a u hj hu
        · simp at hu
    · simp at h

theorem str_get (l : List UInt8) (n : Nat) : (ByteArray.mk l.toArray)[n]? = l[n]? := by
  rcases Nat.lt_or_ge n l.length with h | h
  · have : n < (ByteArray.mk l.toArray).size := by simpa [ByteArray.size] using h
    rw [getElem?_pos (ByteArray.mk l.toArray) n this, List.getElem?_eq_getElem h]
    rfl
  · have : ¬ n < (ByteArray.mk l.toArray).size := by simpa [ByteArray.size] using h
    rw [getElem?_neg (ByteArray.mk l.toArray) n this, List.getElem?_eq_none h]

theorem sim_idxStr (hH : HRel E H w) {t : Nat} (hu : P.underlying t = some .string) {l : List UInt8} {n : Int} {k : IntKind} {b : UInt8} (h0 : 0 ≤ n) (hb : l[n.toNat]? = some b) :
    Sim P (Instr.index t (.string ⟨l.toArray⟩) (.int k n)) E H w (.int .u8 b.toNat) H := by
  refine Sim.same hH (v' := .int .u8 b.toNat) ?_ (.int _ _)
  simp only [Instr.index, asIntOf, pure_bind, Sem.run_bind, r_under hu, Result.andThen_ok, h0, if_true, str_get, hb, Sem.run_pure]

theorem sim_idxArr (hH : HRel E H w) {t e s len : Nat} {d : TypeDesc} (hu : P.underlying t = some (.array len e)) (hs : sizeT P e = some s) (hd : P.underlying e = some d) {n : Option Nat} (hn : n = if isAggD d then sizeT P e else none)
    {cs : List AV} {vx : Value} {j : Int} {k : IntKind} {v : AV} (hx : VR E w (.agg cs) vx) (hb : 0 ≤ j ∧ j < len) (h : part (j.toNat * s) n cs = some v) : Sim P (Instr.index t vx (.int k j)) E H w v H := by
  cases hx with
  | agg _ vs h1 hv =>
    obtain ⟨E', w', v', hr, a, b, c⟩ := sim_part (P := P) hH hd hn (by rw [hs]; rfl) h1 hv h
    refine ⟨E', w', v', ?_, a, b, c⟩
    simp only [Instr.index, asIntOf, pure_bind, Sem.run_bind, r_under hu, Result.andThen_ok]
    rw [if_pos hb]
    simp only [Sem.run_bind, r_sizeOf hs, Result.andThen_ok, hr]

/-! ### Comparisons -/
def scalT (P : Program) (t : Nat) : Option CK :=
  match P.underlying t with
  | some .bool => some .bool
  | some (.int _) => some .int
  | some .string => some .str
  | _ => none

/-- The fields of a struct of scalars, each at its place. -/
def flatFs (P : Program) : List Field → Nat → Option (List CK)
  | [], _ => some []
  | f :: fs, k => if f.name ≠ "_" ∧ f.offset = k then (scalT P f.type).bind fun c => (flatFs P fs (k + 1)).map (c :: ·) else none

theorem toList_mk (l : List UInt8) : (ByteArray.mk l.toArray).toList = l := by rw [ByteArray.toList_eq]

theorem cellEq_run {t : Nat} {c : CK} (hc : scalT P t = some c) {x y : AV} {vx vy : Value} (hx : VR E w x vx) (hy : VR E w y vy) {b : Bool} (h : cellEq c x y = some b) (d : Nat) :
    (Op.equalIn (d + 1) t vx vy).run P w = .ok b w := by
  unfold scalT at hc
  cases hu : P.underlying t with
  | none => simp [hu] at hc
  | some D =>
    cases D <;> simp [hu] at hc <;> subst hc
    · cases hx <;> cases hy <;> simp [cellEq] at h
      subst h
      exact run_equalIn_bool' w d t _ _ hu
    · cases hx <;> cases hy <;> simp [cellEq] at h
      obtain ⟨rfl, rfl⟩ := h
      exact run_equalIn_int w d t _ _ _ _ hu
    · cases hx <;> cases hy <;> simp [cellEq] at h
      subst h
      rw [run_equalIn_string w d t _ _ hu, toList_mk, toList_mk]

theorem part_scal {t off : Nat} {c : CK} (hc : scalT P t = some c) {vs : Array Value} {v : Value} (h : vs[off]? = some v) : (Go.part t vs off).run P w = .ok v w := by
  unfold scalT at hc
  split at hc <;> simp only [Option.some.injEq, reduceCtorEq] at hc
  all_goals
    rename_i hu
    simp [Go.part, r_isAgg hu, isAggD, h]

theorem cellsEq_run (d : Nat) {vx vy : Array Value} (fs : List Field) : ∀ (k : Nat) (ks : List CK) (xs ys : List AV), flatFs P fs k = some ks →
    (∀ (j : Nat) a, xs[j]? = some a → ∃ u, vx[k + j]? = some u ∧ VR E w a u) → (∀ (j : Nat) a, ys[j]? = some a → ∃ u, vy[k + j]? = some u ∧ VR E w a u) → ∀ b, cellsEq ks xs ys = some b →
    (Op.eqFields (d + 1) vx vy fs).run P w = .ok b w := by
  induction fs with
  | nil =>
    intro k ks xs ys hf _ _ b h
    simp only [flatFs, Option.some.injEq] at hf
    subst hf
    cases xs <;> cases ys <;> simp [cellsEq] at h
    subst h
    simp [Op.eqFields]
  | cons f fs ih =>
    intro k ks xs ys hf hx hy b h
    simp only [flatFs] at hf
    split at hf
    · rename_i hn
      simp only [Option.bind_eq_some_iff, Option.map_eq_some_iff] at hf
      obtain ⟨c, hc, ks', hks, rfl⟩ := hf
      cases xs with
      | nil => simp [cellsEq] at h
      | cons x xs =>
        cases ys with
        | nil => simp [cellsEq] at h
        | cons y ys =>
          simp only [cellsEq, Option.bind_eq_some_iff, Option.some.injEq] at h
          obtain ⟨b1, hb1, b2, hb2, rfl⟩ := h
          obtain ⟨u, hu, hxu⟩ := hx 0 x rfl
          obtain ⟨u', hu', hyu⟩ := hy 0 y rfl
          have := ih (k + 1) ks' xs ys hks (fun j a hj => by have := hx (j + 1) a hj; rwa [show k + (j + 1) = k + 1 + j by omega] at this) (fun j a hj => by have := hy (j + 1) a hj; rwa [show k + (j + 1) = k + 1 + j by omega] at this) b2 hb2
          simp only [Op.eqFields]
          rw [if_pos hn.1, hn.2]
          simp only [Nat.add_zero] at hu hu'
          simp only [Sem.run_bind, part_scal hc hu, part_scal hc hu', Result.andThen_ok, cellEq_run hc hxu hyu hb1]
          cases b1
          · simp
          · simpa using this
    · simp at hf

theorem structEq_run {t : Nat} {fs : Array Field} {ks : List CK} (hu : P.underlying t = some (.struct fs)) (hf : flatFs P fs.toList 0 = some ks) (hp : P.stoodInHeld t = false) {xs ys : List AV} {vx vy : Value} (hx : VR E w (.agg xs) vx) (hy : VR E w (.agg ys) vy)
    {b : Bool} (h : cellsEq ks xs ys = some b) (d : Nat) : (Op.equalIn (d + 2) t vx vy).run P w = .ok b w := by
  cases hx with
  | agg _ va h1 hva =>
    cases hy with
    | agg _ vb h2 hvb =>
      have hfo : P.fieldsOf t = fs := by simp [Program.fieldsOf, hu]
      rw [run_equalIn_struct w (d + 1) t va vb (by rw [hfo]; exact hu) hp, hfo]
      refine cellsEq_run (E := E) d fs.toList 0 ks xs ys hf (fun j a hj => ?_) (fun j a hj => ?_) b h
      · have := inL hj
        exact ⟨va[j], by simp [show j < va.size by omega], hva j a _ hj (Array.getElem?_eq_getElem (by omega))⟩
      · have := inL hj
        exact ⟨vb[j], by simp [show j < vb.size by omega], hvb j a _ hj (Array.getElem?_eq_getElem (by omega))⟩

/-! ### Numbers and strings -/
theorem sim_bin (hH : HRel E H w) {op : BinOp} {t : Nat} {x y v : AV} {vx vy : Value} {ox oy : Operand} (hx : VR E w x vx) (hy : VR E w y vy) (h : aBin op x y = some v) :
    Sim P (do eqGuard op t ox oy vx vy; binOp op t vx vy) E H w v H := by
  unfold aBin at h
  split at h
  · rename_i k a k' b
    cases hx; cases hy
    have hg : (eqGuard op t ox oy (.int k a) (.int k' b)).run P w = .ok () w := by
      cases op <;> simp [eqGuard]
    split at h
    · rename_i hs
      unfold aShift at h
      split at h
      · simp at h
      · rename_i hb
        cases op <;> simp [isShift] at hs <;> simp only [Option.some.injEq] at h <;> subst h <;> refine Sim.same hH (v' := _) ?_ (.int _ _)
        all_goals
          simp only [Sem.run_bind, hg, Result.andThen_ok, binOp, Op.shift]
          rw [if_neg hb]
          rfl
    · rename_i hs
      split at h
      · rename_i hk
        subst hk
        cases op <;> simp [isShift] at hs <;> simp only [aInt, aBits, Option.map_some, Option.map_none, Option.some.injEq, reduceCtorEq] at h
        all_goals (try (split at h <;> simp only [Option.some.injEq, reduceCtorEq] at h))
        all_goals
          subst h
          refine Sim.same hH (v' := _) ?_ (by first | exact .int _ _ | exact .bool _)
          simp only [Sem.run_bind, hg, Result.andThen_ok, binOp, ne_eq, not_true_eq_false, if_false]
          first
            | rfl
            | (simp only [Op.intDiv]; rw [if_neg (by assumption)]; rfl)
      · simp at h
  · rename_i a b
    cases hx; cases hy
    have hg : (eqGuard op t ox oy (.string ⟨a.toArray⟩) (.string ⟨b.toArray⟩)).run P w = .ok () w := by
      cases op <;> simp [eqGuard]
    cases op <;> simp only [aStr, Option.some.injEq, reduceCtorEq] at h
    case add =>
      split at h
      · rename_i hb
        simp only [Option.some.injEq] at h
        subst h
        refine Sim.same hH (v' := .string ⟨(a ++ b).toArray⟩) ?_ (.str _)
        simp only [Sem.run_bind, hg, Result.andThen_ok, binOp, Op.stringOp]
        have hmax : IntKind.i64.max = 9223372036854775807 := by decide
        rw [if_neg (by rw [hmax]; simp [ByteArray.size]; omega)]
        simp only [Sem.run_pure]
        congr 2
      · simp at h
    all_goals
      subst h
      refine Sim.same hH (v' := _) ?_ (.bool _)
      simp only [Sem.run_bind, hg, Result.andThen_ok, binOp, Op.stringOp, toList_mk, Sem.run_pure]
  · simp at h


def kindOk (P : Program) (k : EqK) (d : TypeDesc) : Bool :=
  match k, d with
  | .ptr, .pointer e => (sizeT P e).isSome
  | .bool, .bool | .slice, .slice _ | .map, .map _ _ | .func, .func _ _ _ | .iface, .interface _ | .ifn, .interface _ => true
  | _, _ => false

/-- What a comparison by '==' of two values is, once Op.equalIn is known. -/
def EqRun (P : Program) (w : World) (t : Nat) (vx vy : Value) (b : Bool) : Prop :=
  (∀ d, (Op.equalIn (d + 1) t vx vy).run P w = .ok b w) ∧ (∀ op ox oy, (eqGuard op t ox oy vx vy).run P w = .ok () w) ∧ (binOp .eql t vx vy = do pure (.bool (← Op.equal t vx vy))) ∧ (binOp .neq t vx vy = do pure (.bool (!(← Op.equal t vx vy))))

theorem eq_bool {t : Nat} (hu : P.underlying t = some .bool) {x y : AV} {vx vy : Value} (hx : VR E w x vx) (hy : VR E w y vy) {b : Bool} (h : aEq .bool x y = some b) : EqRun P w t vx vy b := by
  cases hx <;> simp only [aEq, reduceCtorEq] at h
  cases hy <;> simp only [reduceCtorEq, Option.some.injEq] at h
  subst h
  exact ⟨fun d => by simp [Op.equalIn, r_under hu], fun op ox oy => by cases op <;> simp [eqGuard], rfl, rfl⟩
theorem eq_slice {t e : Nat} (hu : P.underlying t = some (.slice e)) {x y : AV} {vx vy : Value} (hx : VR E w x vx) (hy : VR E w y vy) {b : Bool} (h : aEq .slice x y = some b) : EqRun P w t vx vy b := by
  cases hx <;> simp only [aEq, reduceCtorEq] at h <;> cases hy <;> simp only [reduceCtorEq, Option.some.injEq] at h
  all_goals
    subst h
    exact ⟨fun d => by simp [Op.equalIn, r_under hu], fun op ox oy => by cases op <;> simp [eqGuard], rfl, rfl⟩
theorem eq_ptr {t e : Nat} (hu : P.underlying t = some (.pointer e)) (hs : (sizeT P e).isSome = true) {x y : AV} {vx vy : Value} (hx : VR E w x vx) (hy : VR E w y vy) {b : Bool} (h : aEq .ptr x y = some b) : EqRun P w t vx vy b := by
  cases hx <;> simp only [aEq, reduceCtorEq] at h <;> cases hy <;> simp only [reduceCtorEq, Option.some.injEq] at h
  all_goals first
    | (subst h
       exact ⟨fun d => by simp [Op.equalIn, r_under hu], fun op ox oy => by cases op <;> simp [eqGuard], rfl, rfl⟩)
    | (rename_i L hL _ _ L' hL'
       split at h
       · rename_i e
         obtain ⟨rfl, rfl⟩ := e
         rw [hL] at hL'
         cases hL'
         simp only [Option.some.injEq] at h
         subst h
         obtain ⟨n, hn⟩ := Option.isSome_iff_exists.1 hs
         exact ⟨fun d => by
           simp only [Op.equalIn, Sem.run_bind, r_under hu, r_sizeOf hn, Result.andThen_ok]
           split <;> simp [sameAddr], fun op ox oy => by cases op <;> simp [eqGuard], rfl, rfl⟩
       · simp at h)
theorem eq_map {t k e : Nat} (hu : P.underlying t = some (.map k e)) {x y : AV} {vx vy : Value} (hx : VR E w x vx) (hy : VR E w y vy) {b : Bool} (h : aEq .map x y = some b) : EqRun P w t vx vy b := by
  cases hx <;> simp only [aEq, reduceCtorEq] at h <;> cases hy <;> simp only [reduceCtorEq, Option.some.injEq] at h
  all_goals
    subst h
    exact ⟨fun d => by simp [Op.equalIn, r_under hu], fun op ox oy => by cases op <;> simp [eqGuard], rfl, rfl⟩
theorem eq_func {t : Nat} {ps rs : Array TypeId} {vd : Bool} (hu : P.underlying t = some (.func ps rs vd)) {x y : AV} {vx vy : Value} (hx : VR E w x vx) (hy : VR E w y vy) {b : Bool} (h : aEq .func x y = some b) : EqRun P w t vx vy b := by
  cases hx <;> simp only [aEq, reduceCtorEq] at h <;> cases hy <;> simp only [reduceCtorEq, Option.some.injEq] at h
  all_goals
    subst h
    exact ⟨fun d => by simp [Op.equalIn, r_under hu], fun op ox oy => by cases op <;> simp [eqGuard], rfl, rfl⟩
theorem eq_iface {t : Nat} {ms : Array (String × TypeId)} (hu : P.underlying t = some (.interface ms)) {x y : AV} {vx vy : Value} (hx : VR E w x vx) (hy : VR E w y vy) {b : Bool} (h : aEq .iface x y = some b) : EqRun P w t vx vy b := by
  cases hx <;> simp only [aEq, reduceCtorEq] at h <;> cases hy <;> simp only [reduceCtorEq, Option.some.injEq] at h
  all_goals
    subst h
    exact ⟨fun d => by simp [Op.equalIn, r_under hu], fun op ox oy => by cases op <;> simp [eqGuard], rfl, rfl⟩

theorem eq_ifn {t : Nat} {ms : Array (String × TypeId)} (hu : P.underlying t = some (.interface ms)) {x y : AV} {vx vy : Value} (hx : VR E w x vx) (hy : VR E w y vy) {b : Bool} (h : aEq .ifn x y = some b) :
    (∀ d, (Op.equalIn (d + 1) t vx vy).run P w = .ok b w) ∧ (∀ op ox oy, ((∃ v, ox = Operand.const v) ∨ ∃ v, oy = Operand.const v) → (eqGuard op t ox oy vx vy).run P w = .ok () w) ∧ (binOp .eql t vx vy = do pure (.bool (← Op.equal t vx vy))) ∧ (binOp .neq t vx vy = do pure (.bool (!(← Op.equal t vx vy)))) := by
  cases hx <;> simp only [aEq, reduceCtorEq] at h <;> cases hy <;> simp only [reduceCtorEq, Option.some.injEq] at h
  all_goals
    subst h
    refine ⟨fun d => by simp [Op.equalIn, r_under hu], fun op ox oy hc => ?_, rfl, rfl⟩
    rcases hc with ⟨v, rfl⟩ | ⟨v, rfl⟩ <;> cases op <;> simp [eqGuard]

theorem eqv_run {t : Nat} {d : TypeDesc} {k : EqK} (hu : P.underlying t = some d) (hk : kindOk P k d = true) {x y : AV} {vx vy : Value} (hx : VR E w x vx) (hy : VR E w y vy) {b : Bool} (h : aEq k x y = some b) :
    (Op.equal t vx vy).run P w = .ok b w ∧ (∀ op ox oy, (k = .ifn → (∃ v, ox = Operand.const v) ∨ ∃ v, oy = Operand.const v) → (eqGuard op t ox oy vx vy).run P w = .ok () w) ∧ (binOp .eql t vx vy = do pure (.bool (← Op.equal t vx vy))) ∧ (binOp .neq t vx vy = do pure (.bool (!(← Op.equal t vx vy)))) := by
  by_cases hn : k = .ifn
  · subst hn
    unfold kindOk at hk
    split at hk
    all_goals first
      | (rename_i e; cases e; done)
      | (obtain ⟨a, b', c⟩ := eq_ifn hu hx hy h; exact ⟨a 9999, fun op ox oy hc => b' op ox oy (hc rfl), c⟩)
      | simp at hk
  have key : EqRun P w t vx vy b := by
    unfold kindOk at hk
    split at hk
    · exact eq_ptr hu hk hx hy h
    · exact eq_bool hu hx hy h
    · exact eq_slice hu hx hy h
    · exact eq_map hu hx hy h
    · exact eq_func hu hx hy h
    · exact eq_iface hu hx hy h
    · exact absurd rfl hn
    · simp at hk
  exact ⟨key.1 9999, fun op ox oy _ => key.2.1 op ox oy, key.2.2⟩

theorem sim_eqv (hH : HRel E H w) {t : Nat} {d : TypeDesc} {k : EqK} (hu : P.underlying t = some d) (hk : kindOk P k d = true) {x y : AV} {vx vy : Value} {ox oy : Operand} (hN : k = .ifn → (∃ v, ox = Operand.const v) ∨ ∃ v, oy = Operand.const v) (neg : Bool) (hx : VR E w x vx) (hy : VR E w y vy) {b : Bool} (h : aEq k x y = some b) :
    Sim P (do eqGuard (if neg then .neq else .eql) t ox oy vx vy; binOp (if neg then .neq else .eql) t vx vy) E H w (.bool (if neg then !b else b)) H := by
  obtain ⟨h1, h2, h3, h4⟩ := eqv_run (P := P) hu hk hx hy h
  refine Sim.same hH (v' := .bool (if neg then !b else b)) ?_ (.bool _)
  cases neg
  · simp only [Sem.run_bind, h2 _ _ _ hN, Result.andThen_ok, Bool.false_eq_true, if_false, h3, h1, Sem.run_pure]
  · simp only [Sem.run_bind, h2 _ _ _ hN, Result.andThen_ok, if_true, h4, h1, Sem.run_pure]

theorem sim_eqAgg (hH : HRel E H w) {t : Nat} {fs : Array Field} {ks : List CK} (hu : P.underlying t = some (.struct fs)) (hf : flatFs P fs.toList 0 = some ks) (hp : P.stoodInHeld t = false) (hm : P.eqGuardType P.depth t = false)
    {xs ys : List AV} {vx vy : Value} {ox oy : Operand} (neg : Bool) (hx : VR E w (.agg xs) vx) (hy : VR E w (.agg ys) vy) {b : Bool} (h : cellsEq ks xs ys = some b) :
    Sim P (do eqGuard (if neg then .neq else .eql) t ox oy vx vy; binOp (if neg then .neq else .eql) t vx vy) E H w (.bool (if neg then !b else b)) H := by
  have h1 := structEq_run (P := P) hu hf hp hx hy h 9998
  refine Sim.same hH (v' := .bool (if neg then !b else b)) ?_ (.bool _)
  cases hx with
  | agg _ va l1 hva =>
    cases hy with
    | agg _ vb l2 hvb =>
      cases neg
      · simp only [Sem.run_bind, Bool.false_eq_true, if_false, run_eqGuard_agg w _ t ox oy va vb hm, Result.andThen_ok, run_eql_struct w t va vb, h1]
      · simp only [Sem.run_bind, if_true, run_eqGuard_agg w _ t ox oy va vb hm, Result.andThen_ok, run_neq_struct w t va vb, h1]

/-! ### Conversions -/
theorem freeze_new (w : World) (rc : Array Value) (e : TypeId) (k : Nat) :
    (World.alloc w (.cells rc e)).freeze ⟨w.heap.size, k, none⟩ 1 = w.alloc (.cells rc e (k, k + 1)) := by
  unfold World.freeze World.alloc
  simp only [Nat.succ_ne_self, Nat.one_ne_zero, if_false]
  congr 1
  apply Array.ext'
  apply List.ext_getElem?
  intro i
  simp only [Array.getElem?_toList, Array.getElem?_modify, Array.getElem?_push]
  by_cases h : i = w.heap.size
  · subst h; simp
  · rw [if_neg (Ne.symm h), if_neg h, if_neg h]

theorem sim_cvBytes (hH : HRel E H w) {e : Nat} (l : List UInt8) : Sim P (Conv.stringToBytes e ⟨l.toArray⟩) E H w (.sl 0 1 (l.map fun b => .int .u8 b.toNat)) H := by
  have hsz : (ByteArray.mk l.toArray).size = l.length := by simp [ByteArray.size]
  have hsz2 : (l.toArray).size = l.length := by simp
  obtain ⟨hD, sD⟩ := hH.drew (w.drawn + 1)
  have hfm : (l.map fun b => AV.int .u8 b.toNat).flatMap AV.cells = l.map fun b => AV.int .u8 b.toNat := by
    clear hsz hsz2
    induction l with
    | nil => rfl
    | cons a l ih => simp only [List.map_cons, List.flatMap_cons, ih, AV.cells]; rfl
  let nc := l.length + w.tape w.drawn (.appendCap l.length 0 e) % (2 ^ 63 - l.length)
  let rc : Array Value := (l.toArray.map fun b => Value.int .u8 b.toNat) ++ Array.replicate (nc - l.length) (.int .u8 0)
  have hrc : rc.size = nc := by simp [rc]; omega
  obtain ⟨E', a, b, c⟩ := newRow_ro (s := 1) (cap := nc) hD e (nc, nc + 1) (xs := l.map fun b => AV.int .u8 b.toNat) (cells := rc) (fun x hx => by
      obtain ⟨y, _, rfl⟩ := List.mem_map.1 hx
      exact ⟨by simp, rfl⟩) (by simp [nc]) (by rw [hfm, hrc]; simp [nc]) (fun j x u hj hu => by
      rw [hfm] at hj
      simp only [List.getElem?_map, Option.map_eq_some_iff] at hj
      obtain ⟨y, hy, rfl⟩ := hj
      have hlt := inL hy
      simp only [rc] at hu
      rw [Array.getElem?_append_left (by simpa using hlt)] at hu
      simp [hy] at hu
      subst hu
      exact .int _ _)
  refine ⟨E', _, _, ?_, a, b, sD.trans c⟩
  have hch : (choose (.appendCap l.length 0 e)).run P w = .ok nc { w with drawn := w.drawn + 1 } := by
    rw [run_choose]; rfl
  simp only [Conv.stringToBytes, hsz, Sem.run_bind, hch, Result.andThen_ok]
  have hnr : (newRow e rc).run P { w with drawn := w.drawn + 1 } = .ok ⟨w.heap.size, 0, none⟩ (World.alloc { w with drawn := w.drawn + 1 } (.cells rc e)) := rfl
  have hms : (markStringish ⟨w.heap.size, 0, none⟩).run P (World.alloc { w with drawn := w.drawn + 1 } (.cells rc e)) = .ok () (World.alloc { w with drawn := w.drawn + 1 } (.cells rc e (nc, nc + 1))) := by
    have hsh : (World.alloc { w with drawn := w.drawn + 1 } (.cells rc e)).shape? w.heap.size = some (e, nc) := by
      simp only [World.shape?]
      have := heap_alloc_new { w with drawn := w.drawn + 1 } (.cells rc e)
      simp only at this
      rw [this]; simp [hrc]
    simp only [markStringish, Sem.run_bind, run_shape, Result.andThen_ok, hsh, run_freeze]
    rw [← freeze_new]
  have : ((ByteArray.mk l.toArray).data.map fun b => Value.int .u8 b.toNat) ++ Array.replicate (nc - l.length) (Value.int .u8 0) = rc := rfl
  simp only [this, hnr, Result.andThen_ok, hms, Sem.run_pure]
  simp [nc]

theorem sim_cvStr (hH : HRel E H w) {x : AV} {vx : Value} (hx : VR E w x vx) (hns : ∀ l, x ≠ .str l) {xs : List AV} (he : elems 1 x H = some xs) (hb : xs.all (fun | .int .u8 n => decide (0 ≤ n ∧ n < 256) | _ => false) = true) :
    Sim P (Conv.bytesToString vx) E H w (.str (xs.map fun | .int _ n => UInt8.ofNat n.toNat | _ => 0)) H := by
  have hint : ∀ x ∈ xs, ∃ n, x = .int .u8 n := by
    intro x hxm
    have := List.all_eq_true.1 hb x hxm
    split at this
    · exact ⟨_, rfl⟩
    · simp at this
  have hok : ∀ x ∈ xs, x ≠ .undef ∧ x.cells.length = 1 := fun x hxm => by obtain ⟨n, rfl⟩ := hint x hxm; exact ⟨by simp, rfl⟩
  obtain ⟨hn, cells, hc, hcl, hcv⟩ := elems_run (P := P) hH hx he hok
  have hfm : xs.flatMap AV.cells = xs := by
    clear hb hok hcl hcv hc hn he
    induction xs with
    | nil => rfl
    | cons a l ih =>
      obtain ⟨n, rfl⟩ := hint a (by simp)
      simp only [List.flatMap_cons, ih (fun x hx => hint x (by simp [hx])), AV.cells]; rfl
  rw [hfm] at hcl hcv
  have hcells : cells = (xs.map fun | .int _ n => n | _ => 0).map (Value.int .u8) := by
    apply List.ext_getElem?
    intro j
    rcases Nat.lt_or_ge j xs.length with h | h
    · obtain ⟨n, hn⟩ := hint xs[j] (List.getElem_mem _)
      have h1 : xs[j]? = some (.int .u8 n) := by rw [List.getElem?_eq_getElem h, hn]
      have h2 : cells[j]? = some cells[j] := List.getElem?_eq_getElem (by omega)
      have h3 := hcv j _ _ h1 h2
      rw [h2]
      simp only [List.getElem?_map, h1, Option.map_some]
      generalize cells[j] = c at h3
      cases h3
      rfl
    · rw [List.getElem?_eq_none (by omega), List.getElem?_eq_none (by simp; omega)]
  have hfold : ∀ (ns : List Int) (s : ByteArray), (ns.foldl (fun r n => r.push (UInt8.ofNat n.toNat)) s).data.toList = s.data.toList ++ ns.map fun n => UInt8.ofNat n.toNat := by
    intro ns
    induction ns with
    | nil => intro s; simp
    | cons n ns ih => intro s; simp [ih]
  have hres : ∀ ns : List Int, ns = (xs.map fun | .int _ n => n | _ => 0) → (ns.foldl (fun r n => r.push (UInt8.ofNat n.toNat)) ByteArray.empty) = ⟨(xs.map fun | .int _ n => UInt8.ofNat n.toNat | _ => 0).toArray⟩ := by
    intro ns hns
    apply ByteArray.ext
    apply Array.ext'
    rw [hfold, hns]
    simp only [List.map_map]
    show [] ++ _ = _
    simp only [List.nil_append]
    apply List.map_congr_left
    intro a ha
    obtain ⟨n, rfl⟩ := hint a ha
    rfl
  cases hx with
  | nils =>
    simp only [elems, Option.some.injEq] at he
    subst he
    refine Sim.same hH (v' := .string .empty) (by simp [Conv.bytesToString]) ?_
    have := VR.str (E := E) (w := w) []
    exact this
  | sle s0 a0 =>
    have hx0 : xs = [] := by
      simp only [elems] at he
      split at he
      · simpa using he.symm
      · simp at he
    subst hx0
    refine Sim.same hH (v' := .string .empty) (by simp [Conv.bytesToString, loadCells, loadCellsFrom]) ?_
    have := VR.str (E := E) (w := w) []
    exact this
  | sl t0 s0 xs0 r o cap us hcap hs hcc hp hv ht h0 =>
    have hlen : xs.length = xs0.length := by
      have := hn
      simp only [Builtin.lenOf, Sem.run_pure, Result.ok.injEq] at this
      exact this.1.symm
    have hload : (loadCells ⟨r, o, none⟩ xs.length).run P w = .ok ((xs.map fun | .int _ n => n | _ => 0).map (Value.int .u8)).toArray w := by
      have := hc w.drawn
      simp only [Builtin.firstCells, Nat.mul_one, hcells] at this
      exact this
    refine Sim.same hH ?_ (.str _)
    rw [← hlen, run_bytesToString w _ _ _ _ hload, hres _ rfl]
  | slr b0 o0 n0 s0 cap o' L hL hncap ho =>
    have hlen : xs.length = n0 := by
      have := hn
      simp only [Builtin.lenOf, Sem.run_pure, Result.ok.injEq] at this
      exact this.1.symm
    have hload : (loadCells ⟨L.r, o', none⟩ xs.length).run P w = .ok ((xs.map fun | .int _ n => n | _ => 0).map (Value.int .u8)).toArray w := by
      have := hc w.drawn
      simp only [Builtin.firstCells, Nat.mul_one, hcells] at this
      exact this
    refine Sim.same hH ?_ (.str _)
    rw [← hlen, run_bytesToString w _ _ _ _ hload, hres _ rfl]
  | str l => exact absurd rfl (hns l)
  | _ => simp [elems] at he

end Go.SV

namespace Go.SV

variable {P : Program} {E E' : Env} {H H' : AH} {w w' : World}

/-! ### Sealing -/
theorem sim_seal (hH : HRel E H w) {b o n s : Nat} {v : Value} (hx : VR E w (.slr b o n s) v) {ys : List AV} (he : elems s (.slr b o n s) H = some ys) (hs : 0 < s) (hok : elemsOk s ys = true) :
    ∃ E', VR E' w (.sl 0 s ys) v ∧ HRel E' ⟨H.obs.set b .dead, H.toks⟩ w ∧ Step E H w E' ⟨H.obs.set b .dead, H.toks⟩ w := by
  simp only [elems, if_true] at he
  split at he
  · rename_i c hc
    split at he
    · rename_i hle
      simp only [Option.some.injEq] at he
      cases hx with
      | slr _ _ _ _ cap o' L hL hn ho =>
        obtain ⟨h1, h2⟩ := ref_cells hH hL hc
        have hspec := elemsOk_spec hok
        have hlen : ys.length = n := by rw [← he]; simp
        have hyc : ∀ (i : Nat) x, ys[i]? = some x → i < n ∧ x.cells = (c.drop (o + i * s)).take s := by
          intro i x hi
          rw [← he] at hi
          have := inL hi
          simp only [List.length_map, List.length_range] at this
          simp only [List.getElem?_map, List.getElem?_range this, Option.map_some, Option.some.injEq] at hi
          subst hi
          exact ⟨this, mkElem_cells _⟩
        have hcell : ∀ (i : Nat) x (j : Nat) c', ys[i]? = some x → x.cells[j]? = some c' → i < n ∧ j < s ∧ c[o + (i * s + j)]? = some c' := by
          intro i x j c' hi hj
          obtain ⟨a, b'⟩ := hyc i x hi
          rw [b'] at hj
          have hj2 := inL hj
          simp only [List.length_take, List.length_drop] at hj2
          rw [List.getElem?_take, if_pos (by omega), List.getElem?_drop] at hj
          exact ⟨a, by omega, by rw [← hj]; congr 1; omega⟩
        obtain ⟨hS, sS⟩ := hH.sealR hL (by rw [hc]; rfl) (L.d + o) (n * s) (fun i hi => by
          obtain ⟨u, hu, _⟩ := h2 (o + i) _ (List.getElem?_eq_getElem (by omega))
          exact ⟨u, by rw [Nat.add_assoc]; exact hu⟩)
        have hsz : ∀ (i : Nat) x, ys[i]? = some x → x.cells.length = s := fun i x hi => (hspec x (List.mem_of_getElem? hi)).2.1
        by_cases hn0 : n = 0
        · subst hn0
          have hy0 : ys = [] := List.eq_nil_of_length_eq_zero hlen
          subst hy0
          exact ⟨_, .sl 0 s [] L.r o' cap (fun _ _ => undef) (Nat.zero_le _) (fun i x h => by simp at h) (fun i x j c h => by simp at h) (fun i x j c h => by simp at h) (fun i x j c h => by simp at h) (fun h => absurd rfl h) (fun _ => Or.inr rfl), hS, sS⟩
        · obtain ⟨ho1, _⟩ := ho (by omega)
          subst ho1
          subst hlen
          refine ⟨_, ?_, hS, sS⟩
          refine .sl 0 s ys L.r (L.d + o) cap (fun i j => (w.cell? ⟨L.r, L.d + o + i * s + j, none⟩).getD undef) (by omega) hsz (fun i x j c' hi hj => ?_) (fun i x j c' hi hj => ?_) (fun i x j c' hi hj => ?_) (fun h => absurd rfl h) (fun _ => Or.inr rfl)
          · obtain ⟨a, b', c1⟩ := hcell i x j c' hi hj
            obtain ⟨u, hu, hv⟩ := h2 _ c' c1
            rw [show L.d + o + i * s + j = L.d + (o + (i * s + j)) by omega, hu]; rfl
          · obtain ⟨a, b', c1⟩ := hcell i x j c' hi hj
            have : (i + 1) * s ≤ ys.length * s := Nat.mul_le_mul_right s (by omega)
            rw [Nat.succ_mul] at this
            exact Or.inr ⟨rfl, by omega, by omega⟩
          · obtain ⟨a, b', c1⟩ := hcell i x j c' hi hj
            obtain ⟨u, hu, hv⟩ := h2 _ c' c1
            rw [show L.d + o + i * s + j = L.d + (o + (i * s + j)) by omega, hu]
            exact hv.mono sS.ext
    · simp at he
  · simp at he

/-! ### Rows made -/
theorem flat_rep (z : List AV) (n i : Nat) (h : i < n * z.length) : ((List.replicate n z).flatten)[i]? = z[i % z.length]? := by
  induction n generalizing i with
  | zero => simp at h
  | succ n ih =>
    rw [List.replicate_succ, List.flatten_cons]
    rcases Nat.lt_or_ge i z.length with hlt | hge
    · rw [List.getElem?_append_left hlt, Nat.mod_eq_of_lt hlt]
    · rw [List.getElem?_append_right hge]
      rw [Nat.succ_mul] at h
      rw [ih (i - z.length) (by omega), Nat.mod_eq_sub_mod hge]

theorem run_make {t e s bytes : Nat} (hu : P.underlying t = some (.slice e)) (hs : sizeT P e = some s) (hb : bytesT P e = some bytes) {z : Value} (hz : zeroT P e = some z) {zz : AV} (hzz : VR E w zz z) (hzd : zz.def? = true) {l c : Int} {kl kc : IntKind}
    (h : 0 ≤ l ∧ l ≤ c ∧ bytes * c ≤ 2 ^ 48 ∧ c < 2 ^ 62 ∧ zz.cells.length = s) :
    ∃ cells : Array Value, (Instr.makeSlice t (.int kl l) (.int kc c)).run P w = .ok (.slice (some ⟨w.heap.size, 0, none⟩) l.toNat c.toNat) (w.alloc (.cells cells e)) ∧ cells.size = c.toNat * s ∧
      ∀ (j : Nat) x u, ((List.replicate c.toNat zz.cells).flatten)[j]? = some x → cells[j]? = some u → VR E w x u := by
  obtain ⟨h0, h1, h2, h3, h4⟩ := h
  have hdef : zz ≠ .undef := by rintro rfl; simp [AV.def?] at hzd
  obtain ⟨hzs, hzv⟩ := hzz.cells hdef
  simp only [bytesT, Option.map_eq_some_iff] at hb
  obtain ⟨i, hi, hib⟩ := hb
  have wl : IntKind.i64.wrap l = l := by unfold IntKind.wrap; simp [IntKind.bits, IntKind.signed]; omega
  have wc : IntKind.i64.wrap c = c := by unfold IntKind.wrap; simp [IntKind.bits, IntKind.signed]; omega
  let cells : Array Value := (Array.range (c.toNat * s)).map fun k => (if c.toNat * s = 0 then #[] else z.cells)[k % (if c.toNat * s = 0 then (#[] : Array Value) else z.cells).size]!
  have hcs : cells.size = c.toNat * s := by simp [cells]
  have hfl : ((List.replicate c.toNat zz.cells).flatten).length = c.toNat * s := by simp [h4]
  refine ⟨cells, ?_, hcs, ?_⟩
  · have hnr : (newRow e cells).run P w = .ok ⟨w.heap.size, 0, none⟩ (w.alloc (.cells cells e)) := rfl
    simp only [Instr.makeSlice, Sem.run_bind, r_under hu, Result.andThen_ok, asInt, asIntOf, pure_bind, Sem.run_pure, r_typeInfo hi, wl, wc, hib]
    rw [if_neg (by simp; omega)]
    simp only [Sem.run_bind, run_askRoom, Result.andThen_ok, r_sizeOf hs]
    by_cases hz0 : c.toNat * s = 0
    · simp only [hz0, if_true, Sem.run_pure, pure_bind, Sem.run_bind] at hnr ⊢
      have hcc : cells = (Array.range 0).map fun k => (#[] : Array Value)[k % (#[] : Array Value).size]! := by simp [cells, hz0]
      rw [← hcc, hnr]; rfl
    · simp only [hz0, if_false, Sem.run_bind, r_zero hz, Result.andThen_ok, Sem.run_pure] at hnr ⊢
      have hcc : cells = (Array.range (c.toNat * s)).map fun k => z.cells[k % z.cells.size]! := by simp [cells, hz0]
      rw [← hcc, hnr]; rfl
  · intro j x u hj hu
    have hlt := inL hj
    rw [hfl] at hlt
    rw [flat_rep _ _ _ (by rw [h4]; exact hlt)] at hj
    have hs0 : 0 < s := by
      rcases Nat.eq_zero_or_pos s with h | h
      · subst h; simp at hlt
      · exact h
    have hmod : j % zz.cells.length < z.cells.size := by rw [← hzs, h4]; exact Nat.mod_lt _ hs0
    have hne : c.toNat * s ≠ 0 := by omega
    simp only [cells, hne, if_false] at hu
    rw [Array.getElem?_map, Array.getElem?_range] at hu
    rw [if_pos hlt] at hu
    simp only [Option.map_some, Option.some.injEq] at hu
    refine hzv _ x u hj ?_
    rw [← hu, hzs]
    rw [hzs] at hmod
    rw [getElem!_pos z.cells _ hmod, Array.getElem?_eq_getElem hmod]

theorem mkElem_ne (cs : List AV) : mkElem cs ≠ .undef := by
  unfold mkElem
  split
  · split
    · rename_i h; intro e; rw [e] at h; simp [AV.isCell] at h
    · simp
  · simp

theorem rep_flat (z : List AV) : ∀ n, (List.replicate n (mkElem z)).flatMap AV.cells = (List.replicate n z).flatten := by
  intro n
  induction n with
  | zero => rfl
  | succ n ih => simp only [List.replicate_succ, List.flatMap_cons, List.flatten_cons, ih, mkElem_cells]

theorem rep_prefix {z : List AV} {l c j : Nat} {x : AV} (h : l ≤ c) (hj : ((List.replicate l z).flatten)[j]? = some x) : ((List.replicate c z).flatten)[j]? = some x := by
  obtain ⟨d, rfl⟩ : ∃ d, c = l + d := ⟨c - l, by omega⟩
  rw [← List.replicate_append_replicate, List.flatten_append, List.getElem?_append_left (inL hj)]
  exact hj

theorem sim_make (hH : HRel E H w) (htk : 0 < H.toks.length) (m : Mode) {t e s bytes : Nat} (hu : P.underlying t = some (.slice e)) (hs : sizeT P e = some s) (hb : bytesT P e = some bytes) {z : Value} (hz : zeroT P e = some z) {zz : AV} (hzz : VR E w zz z) (hzd : zz.def? = true) {l c : Int} {kl kc : IntKind}
    (h : 0 ≤ l ∧ l ≤ c ∧ bytes * c ≤ 2 ^ 48 ∧ c < 2 ^ 62 ∧ zz.cells.length = s) (hzB : zz.cells.all AV.isCell = true) {v : AV} (hr : (match m with
          | .ref => (AV.slr H.obs.length 0 l.toNat s, (⟨H.obs ++ [.cells ((List.replicate c.toNat zz.cells).flatten)], H.toks⟩ : AH))
          | .tok => (.sl H.toks.length s (List.replicate l.toNat (mkElem zz.cells)), ⟨H.obs, H.toks ++ [(l.toNat, s, 0)]⟩)
          | .ro => (.sl 0 s (List.replicate l.toNat (mkElem zz.cells)), H)) = (v, H')) :
    Sim P (Instr.makeSlice t (.int kl l) (.int kc c)) E H w v H' := by
  obtain ⟨cells, hrun, hcs, hcv⟩ := run_make (w := w) (E := E) (kl := kl) (kc := kc) hu hs hb hz hzz hzd h
  obtain ⟨h0, h1, h2, h3, h4⟩ := h
  have hfl : ((List.replicate c.toNat zz.cells).flatten).length = c.toNat * s := by simp [h4]
  have hok : ∀ x ∈ List.replicate l.toNat (mkElem zz.cells), x ≠ .undef ∧ x.cells.length = s := by
    intro x hx
    obtain ⟨_, rfl⟩ := List.mem_replicate.1 hx
    exact ⟨mkElem_ne _, by rw [mkElem_cells]; exact h4⟩
  have hll : (List.replicate l.toNat (mkElem zz.cells)).length = l.toNat := by simp
  have hmul : l.toNat * s ≤ c.toNat * s := Nat.mul_le_mul_right s (by omega)
  cases m with
  | ref =>
    simp only [Prod.mk.injEq] at hr
    obtain ⟨rfl, rfl⟩ := hr
    obtain ⟨E', a, b, c'⟩ := newRow_ref (s := s) (cap := c.toNat) (n := l.toNat) hH e (xs := (List.replicate c.toNat zz.cells).flatten) (cells := cells) (by omega) (by rw [hcs]; exact Nat.le_refl _) (by rw [hfl, hcs]; exact Nat.le_refl _) hcv (fun j x hj => by
      obtain ⟨y, hy, hx⟩ := List.mem_flatten.1 (List.mem_of_getElem? hj)
      obtain ⟨_, rfl⟩ := List.mem_replicate.1 hy
      exact isCell_isB (List.all_eq_true.1 hzB x hx))
    exact ⟨E', _, _, hrun, a, b, c'⟩
  | tok =>
    simp only [Prod.mk.injEq] at hr
    obtain ⟨rfl, rfl⟩ := hr
    obtain ⟨E', a, b, c'⟩ := newRow_tok hH htk e (0, 0) (s := s) (xs := List.replicate l.toNat (mkElem zz.cells)) (cells := cells) (cap := c.toNat) hok (by rw [hll]; omega) (by rw [hcs]; exact Nat.le_refl _) (fun i _ => by simp; ) (fun j x u hj hu => by
      rw [rep_flat] at hj
      exact hcv j x u (rep_prefix (by omega) hj) hu) 0 (fun h => absurd rfl h)
    rw [hll] at a b c'
    exact ⟨E', _, _, hrun, a, b, c'⟩
  | ro =>
    simp only [Prod.mk.injEq] at hr
    obtain ⟨rfl, rfl⟩ := hr
    obtain ⟨E', a, b, c'⟩ := newRow_ro hH e (0, 0) (s := s) (xs := List.replicate l.toNat (mkElem zz.cells)) (cells := cells) (cap := c.toNat) hok (by rw [hll]; omega) (by rw [rep_flat, hcs]; simp [h4]; exact hmul) (fun j x u hj hu => by
      rw [rep_flat] at hj
      exact hcv j x u (rep_prefix (by omega) hj) hu)
    rw [hll] at a
    exact ⟨E', _, _, hrun, a, b, c'⟩

/-! ### A row of bytes that came of a constant's text -/
theorem sim_mark (hH : HRel E H w) {b o n s : Nat} {c : List AV} (hc : H.get b = .cells c) {v : Value} (hx : VR E w (.slr b o n s) v) {t e : Nat} (hu : P.underlying t = some (.slice e)) (he : P.underlying e = some (.int .u8)) :
    Sim P (convert t t v) E H w (.slr b o n s) H := by
  cases hx with
  | slr _ _ _ _ cap o' L hL hn ho =>
    have hobj := hH.obj b L hL
    rw [hc] at hobj
    obtain ⟨rc, e', fz, hb, hR, hlen, hcv, hfz, hnp, hBt⟩ := hobj
    let fz' : Nat × Nat := if fz.1 == fz.2 then (rc.size, rc.size + 1) else (min fz.1 rc.size, max fz.2 (rc.size + 1))
    have hfz' : Unfz fz' L.R := by
      simp only [fz']
      split
      · exact .inr (by simp only; omega)
      · rename_i hne
        simp only [beq_iff_eq] at hne
        rcases hfz with h | h
        · exact absurd h hne
        · exact .inr (by simp only; omega)
    obtain ⟨hP, sP⟩ := hH.putRef hL (by rw [hc]; rfl) (.cells rc e' fz') (.cells c) (fun hx' hnp' =>
      ⟨rc, e', fz', heap_put_same _ _ (lt_of_heap hb), hR, hlen, fun j x hj => by
        obtain ⟨u, hu, hv⟩ := hcv j x hj
        exact ⟨u, hu, hv.mono hx'⟩, hfz', hnp', hBt⟩)
    have hset : H.obs.set b (.cells c) = H.obs := by
      apply List.ext_getElem?
      intro i
      rw [List.getElem?_set]
      split
      · rename_i hbi
        subst hbi
        have := hH.lt b L hL
        rw [if_pos this]
        simp only [AH.get] at hc
        rw [List.getElem?_eq_getElem this] at hc ⊢
        simp only [Option.getD_some] at hc
        rw [hc]
      · rfl
    rw [hset] at hP sP
    have hfr : w.freeze ⟨L.r, rc.size, none⟩ 1 = putBlock w L.r (.cells rc e' fz') := by
      have hr := lt_of_heap hb
      unfold World.freeze putBlock
      simp only [Nat.one_ne_zero, if_false]
      congr 1
      apply Array.ext'
      apply List.ext_getElem?
      intro i
      simp only [Array.getElem?_toList, Array.getElem?_modify, Array.getElem?_setIfInBounds]
      by_cases hi : L.r = i
      · subst hi
        rw [hb]
        simp only [if_true, Option.map_some, hr, fz']
      · simp [hi]
    have hsh : w.shape? L.r = some (e', rc.size) := by simp [World.shape?, hb]
    refine ⟨E, _, _, ?_, .slr b o n s cap o' L hL hn ho, hP, sP⟩
    simp only [convert, Sem.run_bind, r_under hu, r_under he, Result.andThen_ok, beq_self_eq_true]
    simp only [markStringish, Sem.run_bind, run_shape, Result.andThen_ok, hsh, run_freeze, Sem.run_pure, hfr]

/-! ### Maps -/
/-- What a map's key type is, as the machine's '==' takes it. -/
def keyT (P : Program) (t : Nat) : Option KeyK :=
  match scalT P t with
  | some c => some (.scal c)
  | none => match P.underlying t with
    | some (.struct fs) => if P.stoodInHeld t then none else (flatFs P fs.toList 0).map .struct
    | _ => none

theorem keyEq_run {t : Nat} {K : KeyK} (hK : keyT P t = some K) {x y : AV} {vx vy : Value} (hx : VR E w x vx) (hy : VR E w y vy) {b : Bool} (h : keyEq K x y = some b) : (Op.equal t vx vy).run P w = .ok b w := by
  unfold keyT at hK
  split at hK
  · rename_i c hc
    simp only [Option.some.injEq] at hK
    subst hK
    exact cellEq_run hc hx hy h 9999
  · split at hK
    · rename_i fs hu
      split at hK
      · simp at hK
      · rename_i hp
        simp only [Option.map_eq_some_iff] at hK
        obtain ⟨ks, hks, rfl⟩ := hK
        unfold keyEq at h
        simp only at h
        split at h
        · exact structEq_run hu hks (by simpa using hp) hx hy h 9998
        · simp at h
    · simp at hK

end Go.SV

namespace Go.SV

variable {P : Program} {E E' : Env} {H H' : AH} {w w' : World}

/-- Entries against entries. -/
def EsR (E : Env) (w : World) (es : List (AV × AV × Nat)) (res : List MapEntry) : Prop :=
  es.length = res.length ∧ ∀ (j : Nat) x m, es[j]? = some x → res[j]? = some m → VR E w x.1 m.key ∧ VR E w x.2.1 m.val ∧ m.born = x.2.2

theorem EsR.tail {x : AV × AV × Nat} {es : List (AV × AV × Nat)} {m : MapEntry} {res : List MapEntry} (h : EsR E w (x :: es) (m :: res)) : EsR E w es res :=
  ⟨by simpa using h.1, fun j y n hj hm => h.2 (j + 1) y n (by simpa using hj) (by simpa using hm)⟩

/-- What a search came to, against what the machine's came to. -/
def FindR (E : Env) (w : World) : Option (Nat × AV) → Option (Nat × Value) → Prop
  | none, none => True
  | some (i, v), some (j, u) => i = j ∧ VR E w v u
  | _, _ => False

theorem asking_run {t : Nat} {K : KeyK} (hK : keyT P t = some K) {k : AV} {vk : Value} (hk : VR E w k vk) (es : List (AV × AV × Nat)) : ∀ (res : List MapEntry) (i : Nat) r, EsR E w es res → aFind K k es i = some r →
    ∃ r', (Instr.findAsking t vk res i).run P w = .ok r' w ∧ FindR E w r r' := by
  induction es with
  | nil =>
    intro res i r hr h
    cases res with
    | nil => simp only [aFind, Option.some.injEq] at h; subst h; exact ⟨none, by simp [Instr.findAsking], trivial⟩
    | cons m res => simp [EsR] at hr
  | cons e es ih =>
    intro res i r hr h
    cases res with
    | nil => simp [EsR] at hr
    | cons m res =>
      obtain ⟨h1, h2, _⟩ := hr.2 0 e m rfl rfl
      simp only [aFind] at h
      split at h
      · rename_i he
        simp only [Option.some.injEq] at h
        subst h
        exact ⟨some (i, m.val), by simp [Instr.findAsking, keyEq_run hK hk h1 he], rfl, h2⟩
      · rename_i he
        obtain ⟨r', hr', hf⟩ := ih res (i + 1) r hr.tail h
        exact ⟨r', by simpa [Instr.findAsking, keyEq_run hK hk h1 he] using hr', hf⟩
      · simp at h

theorem sameNow_eq {t : Nat} {c : CK} (hc : scalT P t = some c) {d : TypeDesc} (hu : P.underlying t = some d) {x y : AV} {vx vy : Value} (hx : VR E w x vx) (hy : VR E w y vy) {b : Bool} (h : cellEq c x y = some b) : Instr.sameNow d vx vy = some b := by
  unfold scalT at hc
  cases d <;> simp [hu] at hc <;> subst hc
  · cases hx <;> cases hy <;> simp [cellEq] at h
    subst h; rfl
  · cases hx <;> cases hy <;> simp [cellEq] at h
    obtain ⟨rfl, rfl⟩ := h
    simp [Instr.sameNow]
  · cases hx <;> cases hy <;> simp [cellEq] at h
    subst h
    simp only [Instr.sameNow]
    rw [beq_toListBytes, toList_mk, toList_mk]

theorem now_run {t : Nat} {c : CK} (hc : scalT P t = some c) {d : TypeDesc} (hu : P.underlying t = some d) {k : AV} {vk : Value} (hk : VR E w k vk) (es : List (AV × AV × Nat)) : ∀ (res : List MapEntry) (i : Nat) r, EsR E w es res → aFind (.scal c) k es i = some r →
    ∃ r', Instr.findNow d vk res i = some r' ∧ FindR E w r r' := by
  induction es with
  | nil =>
    intro res i r hr h
    cases res with
    | nil => simp only [aFind, Option.some.injEq] at h; subst h; exact ⟨none, rfl, trivial⟩
    | cons m res => simp [EsR] at hr
  | cons e es ih =>
    intro res i r hr h
    cases res with
    | nil => simp [EsR] at hr
    | cons m res =>
      obtain ⟨h1, h2, _⟩ := hr.2 0 e m rfl rfl
      simp only [aFind, keyEq] at h
      split at h
      · rename_i he
        simp only [Option.some.injEq] at h
        subst h
        exact ⟨some (i, m.val), by simp [Instr.findNow, sameNow_eq hc hu hk h1 he], rfl, h2⟩
      · rename_i he
        obtain ⟨r', hr', hf⟩ := ih res (i + 1) r hr.tail h
        exact ⟨r', by simpa [Instr.findNow, sameNow_eq hc hu hk h1 he] using hr', hf⟩
      · simp at h

theorem find_run {t : Nat} {K : KeyK} (hK : keyT P t = some K) {k : AV} {vk : Value} (hk : VR E w k vk) {es : List (AV × AV × Nat)} {res : List MapEntry} {r : Option (Nat × AV)} (hr : EsR E w es res) (h : aFind K k es 0 = some r) :
    ∃ r', (Instr.findKey t vk res).run P w = .ok r' w ∧ FindR E w r r' := by
  have hK' := hK
  unfold keyT at hK
  split at hK
  · rename_i c hc
    simp only [Option.some.injEq] at hK
    subst hK
    have hu : ∃ d, P.underlying t = some d := by
      unfold scalT at hc
      cases hu : P.underlying t with
      | none => simp [hu] at hc
      | some d => exact ⟨d, rfl⟩
    obtain ⟨d, hu⟩ := hu
    obtain ⟨r', h1, h2⟩ := now_run hc hu hk es res 0 r hr h
    exact ⟨r', by simp [Instr.findKey, r_under hu, h1], h2⟩
  · split at hK
    · rename_i fs hu
      cases es with
      | nil =>
        cases res with
        | nil => simp only [aFind, Option.some.injEq] at h; subst h; exact ⟨none, by simp [Instr.findKey, r_under hu, Instr.findNow], trivial⟩
        | cons m res => simp [EsR] at hr
      | cons e es =>
        cases res with
        | nil => simp [EsR] at hr
        | cons m res =>
          obtain ⟨r', h1, h2⟩ := asking_run hK' hk (e :: es) (m :: res) 0 r hr h
          refine ⟨r', ?_, h2⟩
          simp only [Instr.findKey, Sem.run_bind, r_under hu, Result.andThen_ok, Instr.findNow, Instr.sameNow]
          exact h1
    · simp at hK

theorem check_scal {t : Nat} {c : CK} (hc : scalT P t = some c) (b : Bool) (n : Nat) (v : Value) : (Instr.checkKey b (n + 1) t v).run P w = .ok () w := by
  unfold scalT at hc
  cases hu : P.underlying t with
  | none => simp [hu] at hc
  | some d =>
    cases d <;> simp [hu] at hc <;> simp [Instr.checkKey, r_under hu]

theorem check_fields (b : Bool) (n : Nat) {vs : Array Value} (fs : List Field) : ∀ (k : Nat) (ks : List CK), flatFs P fs k = some ks → k + ks.length ≤ vs.size →
    (forIn (m := Sem) fs PUnit.unit fun f _ =>
      if f.name ≠ "_" then do
        let a ← Go.part f.type vs f.offset
        Instr.checkKey b (n + 1) f.type a
        pure (ForInStep.yield PUnit.unit)
      else pure (ForInStep.yield PUnit.unit)).run P w = .ok PUnit.unit w := by
  induction fs with
  | nil => intro k ks _ _; simp
  | cons f fs ih =>
    intro k ks hf hl
    simp only [flatFs] at hf
    split at hf
    · rename_i hn
      simp only [Option.bind_eq_some_iff, Option.map_eq_some_iff] at hf
      obtain ⟨c, hc, ks', hks, rfl⟩ := hf
      simp only [List.length_cons] at hl
      have hp := part_scal (P := P) (w := w) hc (vs := vs) (off := k) (v := vs[k]'(by omega)) (by simp [show k < vs.size by omega])
      have := ih (k + 1) ks' hks (by omega)
      simp only [List.forIn_cons, Sem.run_bind, hn.2]
      rw [if_pos hn.1]
      simp only [Sem.run_bind, hp, Result.andThen_ok, check_scal hc, Sem.run_pure]
      exact this
    · simp at hf

theorem cellsEq_len {ks : List CK} : ∀ {xs ys : List AV} {b : Bool}, cellsEq ks xs ys = some b → xs.length = ks.length ∧ ys.length = ks.length := by
  induction ks with
  | nil => intro xs ys b h; cases xs <;> cases ys <;> simp [cellsEq] at h ⊢
  | cons k ks ih =>
    intro xs ys b h
    cases xs with
    | nil => simp [cellsEq] at h
    | cons x xs =>
      cases ys with
      | nil => simp [cellsEq] at h
      | cons y ys =>
        simp only [cellsEq, Option.bind_eq_some_iff] at h
        obtain ⟨_, _, _, h2, _⟩ := h
        obtain ⟨a, b⟩ := ih h2
        simp [a, b]

theorem check_struct {t : Nat} {fs : Array Field} {ks : List CK} (hu : P.underlying t = some (.struct fs)) (hks : flatFs P fs.toList 0 = some ks) {vs : Array Value} (hl : 0 + ks.length ≤ vs.size) (b : Bool) (n : Nat) :
    (Instr.checkKey b (n + 2) t (.agg vs)).run P w = .ok () w := by
  have := check_fields (P := P) (w := w) b n (vs := vs) fs.toList 0 ks hks hl
  unfold Instr.checkKey
  simp only [Sem.run_bind, r_under hu, Result.andThen_ok]
  rw [← Array.forIn_toList, this]
  rfl

theorem check_run {t : Nat} {K : KeyK} (hK : keyT P t = some K) {k : AV} {vk : Value} (hk : VR E w k vk) (hkey : isKey K k = true) (b : Bool) : (Instr.checkKey b 10000 t vk).run P w = .ok () w := by
  unfold keyT at hK
  split at hK
  · rename_i c hc
    exact check_scal hc b 9999 vk
  · split at hK
    · rename_i fs hu
      split at hK
      · simp at hK
      · simp only [Option.map_eq_some_iff] at hK
        obtain ⟨ks, hks, rfl⟩ := hK
        simp only [isKey, keyEq] at hkey
        cases hk with
        | agg cs vs h1 hv =>
          simp only at hkey
          obtain ⟨bb, hb⟩ := Option.isSome_iff_exists.1 hkey
          have hl := (cellsEq_len hb).1
          exact check_struct hu hks (by omega) b 9998
        | _ => simp at hkey
    · simp at hK

theorem sameBits_cell {c : CK} {x y : AV} {vx vy : Value} (hx : VR E w x vx) (hy : VR E w y vy) (h : cellEq c x y = some true) (n : Nat) : Instr.sameBits (n + 1) vy vx = true := by
  cases c <;> cases hx <;> cases hy <;> simp [cellEq] at h
  · obtain ⟨rfl, rfl⟩ := h; simp [Instr.sameBits]
  · subst h; simp [Instr.sameBits, beq_toListBytes]
  · subst h; simp [Instr.sameBits]

theorem sameBits_cells (n : Nat) {ks : List CK} : ∀ {xs ys : List AV} {vx vy : List Value}, xs.length = vx.length → ys.length = vy.length → (∀ (j : Nat) a u, xs[j]? = some a → vx[j]? = some u → VR E w a u) → (∀ (j : Nat) a u, ys[j]? = some a → vy[j]? = some u → VR E w a u) →
    cellsEq ks xs ys = some true → ((vy.zip vx).all fun (x, y) => Instr.sameBits (n + 1) x y) = true := by
  induction ks with
  | nil => intro xs ys vx vy h1 h2 _ _ h; cases xs <;> cases ys <;> simp [cellsEq] at h; cases vy <;> simp at h2; rfl
  | cons k ks ih =>
    intro xs ys vx vy h1 h2 hx hy h
    cases xs with
    | nil => simp [cellsEq] at h
    | cons x xs =>
      cases ys with
      | nil => simp [cellsEq] at h
      | cons y ys =>
        cases vx with
        | nil => simp at h1
        | cons a vx =>
          cases vy with
          | nil => simp at h2
          | cons b vy =>
            simp only [cellsEq, Option.bind_eq_some_iff, Option.some.injEq, Bool.and_eq_true] at h
            obtain ⟨b1, hb1, b2, hb2, rfl, rfl⟩ := h
            simp only [List.zip_cons_cons, List.all_cons, Bool.and_eq_true]
            exact ⟨sameBits_cell (hx 0 x a rfl rfl) (hy 0 y b rfl rfl) hb1 n, ih (by simpa using h1) (by simpa using h2) (fun j c u hj hu => hx (j + 1) c u (by simpa using hj) (by simpa using hu)) (fun j c u hj hu => hy (j + 1) c u (by simpa using hj) (by simpa using hu)) hb2⟩

theorem sameBits_key {K : KeyK} {x y : AV} {vx vy : Value} (hx : VR E w x vx) (hy : VR E w y vy) (h : keyEq K x y = some true) : Instr.sameBits 10000 vy vx = true := by
  cases K with
  | scal c => exact sameBits_cell hx hy h 9999
  | struct ks =>
    simp only [keyEq] at h
    split at h
    · rename_i xs ys
      have hl := cellsEq_len h
      cases hx with
      | agg _ va h1 hva =>
        cases hy with
        | agg _ vb h2 hvb =>
          have := sameBits_cells (E := E) (w := w) 9998 (vx := va.toList) (vy := vb.toList) (by simpa using h1) (by simpa using h2) (fun j a u hj hu => hva j a u hj (by simpa using hu)) (fun j a u hj hu => hvb j a u hj (by simpa using hu)) h
          show Instr.sameBits (9999 + 1) (.agg vb) (.agg va) = true
          simp only [Instr.sameBits, Bool.and_eq_true, beq_iff_eq]
          exact ⟨by omega, this⟩
    · simp at h

theorem aFind_at {K : KeyK} {k : AV} (es : List (AV × AV × Nat)) : ∀ (i j : Nat) (v : AV), aFind K k es i = some (some (j, v)) → ∃ e, i ≤ j ∧ es[j - i]? = some e ∧ keyEq K k e.1 = some true ∧ v = e.2.1 := by
  induction es with
  | nil => intro i j v h; simp [aFind] at h
  | cons e es ih =>
    intro i j v h
    simp only [aFind] at h
    split at h
    · rename_i he
      simp only [Option.some.injEq, Prod.mk.injEq] at h
      obtain ⟨rfl, rfl⟩ := h
      exact ⟨e, Nat.le_refl _, by simp, he, rfl⟩
    · obtain ⟨e', h1, h2, h3, h4⟩ := ih _ _ _ h
      exact ⟨e', by omega, by rw [show j - i = (j - (i + 1)) + 1 by omega, List.getElem?_cons_succ]; exact h2, h3, h4⟩
    · simp at h

theorem map_obj (hH : HRel E H w) {b : Nat} {L : Ref} (hL : E.φ b = some L) {es : List (AV × AV × Nat)} {clk : Nat} (hc : H.get b = .map es clk) :
    ∃ res : Array MapEntry, w.heap[L.r]? = some (.map res clk) ∧ EsR E w es res.toList := by
  have := hH.obj b L hL
  rw [hc] at this
  obtain ⟨res, h1, h2, _, h3⟩ := this
  exact ⟨res, h1, by simpa using h2.symm, fun j x m hj hm => h3 j x m hj (by simpa using hm)⟩

theorem r_getMap {r : Nat} {res : Array MapEntry} {clk : Nat} (h : w.heap[r]? = some (.map res clk)) : (getObj r).run P w = .ok (.map res clk) w := by
  simp [getObj, Sem.run, h]
theorem r_setMap {r : Nat} {res : Array MapEntry} {clk : Nat} (h : w.heap[r]? = some (.map res clk)) (o : Obj) : (setObj r o).run P w = .ok () (putBlock w r o) := by
  simp [setObj, Sem.run, h, putBlock]

theorem sim_lookup (hH : HRel E H w) {t kt e : Nat} (hu : P.underlying t = some (.map kt e)) {K : KeyK} (hK : keyT P kt = some K) {z : AV} {vz : Value} (hz : zeroT P e = some vz) (hvz : VR E w z vz) {m k v : AV} {vm vk : Value} (hm : VR E w m vm) (hk : VR E w k vk) {ok : Bool}
    (h : aLook K z ok m k H = some v) : Sim P (Instr.lookup t vm vk ok) E H w v H := by
  have key : ∀ (es : List (AV × AV × Nat)) (res : Array MapEntry), EsR E w es res.toList → isKey K k = true → ∀ r, aFind K k es 0 = some r →
      ∃ u, (Instr.findKey kt vk res.toList).run P w = .ok (r.map fun p => (p.1, u)) w ∧ (Instr.checkKey res.isEmpty 10000 kt vk).run P w = .ok () w ∧ VR E w (match r with | some (_, v) => v | none => z) u ∧ (r = none → u = vz) := by
    intro es res hr hkey r hf
    obtain ⟨r', h1, h2⟩ := find_run (P := P) hK hk hr hf
    cases r with
    | none =>
      cases r' with
      | none => exact ⟨vz, h1, check_run hK hk hkey _, hvz, fun _ => rfl⟩
      | some q => exact h2.elim
    | some p =>
      cases r' with
      | none => exact h2.elim
      | some q =>
        obtain ⟨i, v⟩ := p
        obtain ⟨j, u⟩ := q
        obtain ⟨rfl, h3⟩ := h2
        exact ⟨u, h1, check_run hK hk hkey _, h3, fun h => by simp at h⟩
  have fin : ∀ (r : Option (Nat × AV)) (u : Value), VR E w (match r with | some (_, v) => v | none => z) u → VR E w (lookR z ok r) (if ok then .tuple #[u, .bool r.isSome] else u) := by
    intro r u hu'
    cases ok with
    | false => cases r <;> simpa [lookR] using hu'
    | true =>
      have : ∀ (a : AV) (c : Bool), VR E w a u → VR E w (.tup [a, .bool c]) (.tuple #[u, .bool c]) := by
        intro a c ha
        refine .tup _ _ rfl (fun j x y hj hy => ?_)
        match j with
        | 0 => simp at hj hy; subst hj; subst hy; exact ha
        | 1 => simp at hj hy; subst hj; subst hy; exact .bool _
        | j + 2 => simp at hj
      cases r with
      | none => simpa [lookR] using this _ false hu'
      | some p => simpa [lookR] using this _ true hu'
  unfold aLook mapEs at h
  cases hm with
  | nilm =>
    simp only at h
    split at h
    · rename_i hkey
      simp only [Option.map_eq_some_iff] at h
      obtain ⟨r, hf, rfl⟩ := h
      obtain ⟨u, h1, h2, h3, h4⟩ := key [] #[] ⟨rfl, fun j x m h => by simp at h⟩ hkey r hf
      refine Sim.same hH ?_ (fin r u h3)
      simp only [Instr.lookup, Sem.run_bind, r_under hu, Result.andThen_ok, Sem.run_pure, h2, h1]
      cases r with
      | none => rw [h4 rfl]; simp only [Option.map_none, Sem.run_bind, r_zero hz, Result.andThen_ok, Sem.run_pure]; rfl
      | some p => simp only [Option.map_some, Sem.run_bind, Sem.run_pure, Result.andThen_ok]; rfl
    · simp at h
  | map b L hL =>
    simp only at h
    split at h
    · simp at h
    · rename_i es hes
      split at hes
      · rename_i es' clk hc
        simp only [Option.some.injEq] at hes
        subst hes
        split at h
        · rename_i hkey
          simp only [Option.map_eq_some_iff] at h
          obtain ⟨r, hf, rfl⟩ := h
          obtain ⟨res, hb, hr⟩ := map_obj hH hL hc
          obtain ⟨u, h1, h2, h3, h4⟩ := key es' res hr hkey r hf
          refine Sim.same hH ?_ (fin r u h3)
          simp only [Instr.lookup, Sem.run_bind, r_under hu, Result.andThen_ok, r_getMap hb, Sem.run_pure, h2, h1]
          cases r with
          | none => rw [h4 rfl]; simp only [Option.map_none, Sem.run_bind, r_zero hz, Result.andThen_ok, Sem.run_pure]; rfl
          | some p => simp only [Option.map_some, Sem.run_bind, Sem.run_pure, Result.andThen_ok]; rfl
        · simp at h
      · simp at hes
  | _ => simp at h

/-! ### Writes into maps -/
theorem put_map (hH : HRel E H w) {b : Nat} {L : Ref} (hL : E.φ b = some L) (hl : (H.get b).live = true) {es : List (AV × AV × Nat)} {res : Array MapEntry} {clk : Nat} (hr : EsR E w es res.toList) :
    HRel E ⟨H.obs.set b (.map es clk), H.toks⟩ (putBlock w L.r (.map res clk)) ∧ Step E H w E ⟨H.obs.set b (.map es clk), H.toks⟩ (putBlock w L.r (.map res clk)) := by
  have hlt := (hH.obj b L hL).lt hl
  exact hH.putRef hL hl (.map res clk) (.map es clk) (fun hx hnp => ⟨res, heap_put_same _ _ hlt, by simpa using hr.1.symm, hnp, fun j x m hj hm => by
    obtain ⟨a, b, c⟩ := hr.2 j x m hj (by simpa using hm)
    exact ⟨a.mono hx, b.mono hx, c⟩⟩)

theorem EsR.push {es : List (AV × AV × Nat)} {res : Array MapEntry} (hr : EsR E w es res.toList) {k v : AV} {vk vv : Value} (hk : VR E w k vk) (hv : VR E w v vv) (n : Nat) :
    EsR E w (es ++ [(k, v, n)]) (res.push { key := vk, val := vv, born := n }).toList := by
  refine ⟨by simp; simpa using hr.1, fun j x m hj hm => ?_⟩
  rw [Array.toList_push] at hm
  rcases Nat.lt_or_ge j es.length with h | h
  · rw [List.getElem?_append_left h] at hj
    rw [List.getElem?_append_left (by rw [← hr.1]; exact h)] at hm
    exact hr.2 j x m hj hm
  · have h2 := inL hj
    simp at h2
    have hj0 : j = es.length := by omega
    subst hj0
    simp at hj
    rw [hr.1] at hm
    simp at hm
    subst hj; subst hm
    exact ⟨hk, hv, rfl⟩

theorem EsR.mod {es : List (AV × AV × Nat)} {res : Array MapEntry} (hr : EsR E w es res.toList) (i : Nat) (f : AV × AV × Nat → AV × AV × Nat) (g : MapEntry → MapEntry)
    (hfg : ∀ x m, VR E w x.1 m.key → VR E w x.2.1 m.val → m.born = x.2.2 → VR E w (f x).1 (g m).key ∧ VR E w (f x).2.1 (g m).val ∧ (g m).born = (f x).2.2) :
    EsR E w (es.modify i f) (res.modify i g).toList := by
  refine ⟨by simp; simpa using hr.1, fun j x m hj hm => ?_⟩
  rw [Array.getElem?_toList, Array.getElem?_modify] at hm
  by_cases hij : i = j
  · subst hij
    simp only [List.getElem?_modify_eq, Option.map_eq_map, Option.map_eq_some_iff] at hj
    obtain ⟨x0, hx0, hxe⟩ := hj
    rw [if_pos rfl] at hm
    simp only [Option.map_eq_some_iff] at hm
    obtain ⟨m0, hm0, hme⟩ := hm
    obtain ⟨a, b, c⟩ := hr.2 i x0 m0 hx0 (by simpa using hm0)
    rw [← hxe, ← hme]
    exact hfg _ _ a b c
  · rw [List.getElem?_modify] at hj
    simp [hij] at hj
    rw [if_neg hij] at hm
    exact hr.2 j x m hj (by simpa using hm)


theorem keyStays {K : KeyK} {k e : AV} {vk ve : Value} (hk : VR E w k vk) (he : VR E w e ve) (h : keyEq K k e = some true) : (Instr.keyThatStays ve vk).run P w = .ok vk w := by
  simp [Instr.keyThatStays, sameBits_key hk he h]

theorem found_key {K : KeyK} {k : AV} {es : List (AV × AV × Nat)} {res : Array MapEntry} (hr : EsR E w es res.toList) {i : Nat} {v : AV} (h : aFind K k es 0 = some (some (i, v))) :
    ∃ e m, es[i]? = some e ∧ res[i]? = some m ∧ VR E w e.1 m.key ∧ VR E w e.2.1 m.val ∧ m.born = e.2.2 ∧ keyEq K k e.1 = some true := by
  obtain ⟨e, _, h2, h3, _⟩ := aFind_at es 0 i v h
  simp only [Nat.sub_zero] at h2
  have hlt := inL h2
  rw [hr.1] at hlt
  have hm : res[i]? = some res[i] := Array.getElem?_eq_getElem (by simpa using hlt)
  obtain ⟨a, b, c⟩ := hr.2 i e (res[i]'(by simpa using hlt)) h2 (by rw [Array.getElem?_toList]; exact hm)
  exact ⟨e, _, h2, hm, a, b, c, h3⟩

theorem sim_mapUpd (hH : HRel E H w) {t kt e : Nat} (hu : P.underlying t = some (.map kt e)) {K : KeyK} (hK : keyT P kt = some K) {b : Nat} {k v : AV} {vm vk vv : Value} (hm : VR E w (.map b) vm) (hk : VR E w k vk) (hv : VR E w v vv)
    {es : List (AV × AV × Nat)} {clk : Nat} (hc : H.get b = .map es clk) (hkey : isKey K k = true) {r : Option (Nat × AV)} (hf : aFind K k es 0 = some r) :
    SimU P (Instr.mapUpdate t vm vk vv) E H w (match r with
      | some (i, _) => ⟨H.obs.set b (.map (es.modify i fun e => (k, v, e.2.2)) clk), H.toks⟩
      | none => ⟨H.obs.set b (.map (es ++ [(k, v, clk)]) (clk + 1)), H.toks⟩) := by
  cases hm with
  | map _ L hL =>
    obtain ⟨res, hb, hr⟩ := map_obj hH hL hc
    obtain ⟨r', h1, h2⟩ := find_run (P := P) hK hk hr hf
    have hck := check_run (P := P) hK hk hkey false
    have hl : (H.get b).live = true := by rw [hc]; rfl
    cases r with
    | none =>
      cases r' with
      | some q => exact h2.elim
      | none =>
        obtain ⟨a, c⟩ := put_map hH hL hl (clk := clk + 1) (hr.push hk hv clk)
        refine ⟨E, _, ?_, a, c⟩
        simp only [Instr.mapUpdate, Sem.run_bind, r_under hu, Result.andThen_ok, r_getMap hb, hck, h1, r_setMap hb]
    | some p =>
      obtain ⟨i, v0⟩ := p
      cases r' with
      | none => exact h2.elim
      | some q =>
        obtain ⟨j, u⟩ := q
        obtain ⟨rfl, _⟩ := h2
        obtain ⟨e0, m0, g1, g2, g3, g4, g5, g6⟩ := found_key hr hf
        obtain ⟨a, c⟩ := put_map hH hL hl (clk := clk) (hr.mod i (fun e => (k, v, e.2.2)) (fun e => { e with key := vk, val := vv }) (fun x m _ _ h => ⟨hk, hv, h⟩))
        refine ⟨E, _, ?_, a, c⟩
        have hks := keyStays (P := P) hk g3 g6
        simp only [Instr.mapUpdate, Sem.run_bind, r_under hu, Result.andThen_ok, r_getMap hb, hck, h1, g2, Option.map_some, Option.getD_some, hks, r_setMap hb]

theorem pair_VR {a b : AV} {u v : Value} (h1 : VR E w a u) (h2 : VR E w b v) : VR E w (.tup [a, b]) (.tuple #[u, v]) := by
  refine .tup _ _ rfl (fun j x y hj hy => ?_)
  match j with
  | 0 => simp at hj hy; subst hj; subst hy; exact h1
  | 1 => simp at hj hy; subst hj; subst hy; exact h2
  | j + 2 => simp at hj

theorem sim_mapEntry (hH : HRel E H w) {t kt e : Nat} (hu : P.underlying t = some (.map kt e)) {K : KeyK} (hK : keyT P kt = some K) {z : AV} {vz : Value} (hz : zeroT P e = some vz) (hvz : VR E w z vz) {b : Nat} {k : AV} {vm vk : Value} (hm : VR E w (.map b) vm) (hk : VR E w k vk)
    {es : List (AV × AV × Nat)} {clk : Nat} (hc : H.get b = .map es clk) (hkey : isKey K k = true) {r : Option (Nat × AV)} (hf : aFind K k es 0 = some r) :
    Sim P (Instr.mapEntry t vm vk) E H w (match r with
      | some (i, v) => .tup [v, .int .i64 (((es[i]?).map (·.2.2)).getD 0)]
      | none => .tup [z, .int .i64 clk]) (match r with
      | some (i, _) => ⟨H.obs.set b (.map (es.modify i fun e => (k, e.2.1, e.2.2)) clk), H.toks⟩
      | none => ⟨H.obs.set b (.map (es ++ [(k, z, clk)]) (clk + 1)), H.toks⟩) := by
  cases hm with
  | map _ L hL =>
    obtain ⟨res, hb, hr⟩ := map_obj hH hL hc
    obtain ⟨r', h1, h2⟩ := find_run (P := P) hK hk hr hf
    have hck := check_run (P := P) hK hk hkey false
    have hl : (H.get b).live = true := by rw [hc]; rfl
    cases r with
    | none =>
      cases r' with
      | some q => exact h2.elim
      | none =>
        obtain ⟨a, c⟩ := put_map hH hL hl (clk := clk + 1) (hr.push hk hvz clk)
        refine ⟨E, _, .tuple #[vz, goInt clk], ?_, (pair_VR hvz (.int _ _)).mono c.ext, a, c⟩
        simp only [Instr.mapEntry, Sem.run_bind, r_under hu, Result.andThen_ok, r_getMap hb, hck, h1, r_zero hz, r_setMap hb, Sem.run_pure]
    | some p =>
      obtain ⟨i, v0⟩ := p
      cases r' with
      | none => exact h2.elim
      | some q =>
        obtain ⟨j, u⟩ := q
        obtain ⟨rfl, hu2⟩ := h2
        obtain ⟨e0, m0, g1, g2, g3, g4, g5, g6⟩ := found_key hr hf
        obtain ⟨a, c⟩ := put_map hH hL hl (clk := clk) (hr.mod i (fun e => (k, e.2.1, e.2.2)) (fun e => { e with key := vk }) (fun x m _ h1 h => ⟨hk, h1, h⟩))
        have hks := keyStays (P := P) hk g3 g6
        refine ⟨E, _, .tuple #[u, goInt m0.born], ?_, ?_, a, c⟩
        · simp only [Instr.mapEntry, Sem.run_bind, r_under hu, Result.andThen_ok, r_getMap hb, hck, h1, g2, Option.map_some, Option.getD_some, hks, r_setMap hb, Sem.run_pure]
        · simp only [g1, Option.map_some, Option.getD_some, ← g5]
          exact (pair_VR hu2 (.int _ _)).mono c.ext

theorem findIdx_EsR {es : List (AV × AV × Nat)} : ∀ {res : List MapEntry} (_ : EsR E w es res) (n : Int), res.findIdx? (fun e => (e.born : Int) == n) = es.findIdx? (fun e => ((e.2.2 : Nat) : Int) == n) := by
  induction es with
  | nil => intro res hr n; cases res with
    | nil => rfl
    | cons m res => simp [EsR] at hr
  | cons x es ih =>
    intro res hr n
    cases res with
    | nil => simp [EsR] at hr
    | cons m res =>
      obtain ⟨_, _, h3⟩ := hr.2 0 x m rfl rfl
      rw [List.findIdx?_cons, List.findIdx?_cons, h3, ih hr.tail]

theorem sim_entrySt (hH : HRel E H w) {t : Nat} {b : Nat} {v : AV} {vm vv : Value} (hm : VR E w (.map b) vm) (hv : VR E w v vv) {k : IntKind} {n : Int}
    {es : List (AV × AV × Nat)} {clk : Nat} (hc : H.get b = .map es clk) {i : Nat} (hi : es.findIdx? (fun e => ((e.2.2 : Nat) : Int) == n) = some i) :
    SimU P (Instr.entryStore t vm (.int k n) vv) E H w ⟨H.obs.set b (.map (es.modify i fun e => (e.1, v, e.2.2)) clk), H.toks⟩ := by
  cases hm with
  | map _ L hL =>
    obtain ⟨res, hb, hr⟩ := map_obj hH hL hc
    have hl : (H.get b).live = true := by rw [hc]; rfl
    obtain ⟨a, c⟩ := put_map hH hL hl (clk := clk) (hr.mod i (fun e => (e.1, v, e.2.2)) (fun e => { e with val := vv }) (fun x m h1 _ h => ⟨h1, hv, h⟩))
    refine ⟨E, _, ?_, a, c⟩
    have hfi : res.findIdx? (fun e => (e.born : Int) == n) = some i := by
      have h5 := findIdx_EsR hr n
      rw [hi] at h5
      rcases res with ⟨rl⟩
      rw [List.findIdx?_toArray]
      exact h5
    simp only [Instr.entryStore, Sem.run_bind, r_getMap hb, Result.andThen_ok, asInt, asIntOf, pure_bind, Sem.run_pure, hfi, r_setMap hb]

theorem sim_mkMap (hH : HRel E H w) (t : Nat) : Sim P (Instr.makeMap t none) E H w (.map H.obs.length) ⟨H.obs ++ [.map [] 0], H.toks⟩ := by
  obtain ⟨h1, h2, h3⟩ := hH.allocRef (.map #[] 0) (.map [] 0) ⟨w.heap.size, 0, 0⟩ rfl (fun E' hx hnp => ⟨#[], heap_alloc_new _ _, rfl, hnp, fun j x m h => by simp at h⟩)
  exact ⟨_, _, .map (some w.heap.size), rfl, .map _ _ h3, h1, h2⟩

/-! ### Iterators over strings -/
theorem sim_range (hH : HRel E H w) {t : Nat} (hu : P.underlying t = some .string) (l : List UInt8) : Sim P (Instr.range t (.string ⟨l.toArray⟩)) E H w (.ptr H.obs.length 0) ⟨H.obs ++ [.iter l 0], H.toks⟩ := by
  obtain ⟨h1, h2, h3⟩ := hH.allocRef (.stringIter ⟨l.toArray⟩ 0) (.iter l 0) ⟨w.heap.size, 0, 0⟩ rfl (fun E' hx hnp => ⟨heap_alloc_new _ _, rfl, hnp⟩)
  refine ⟨_, w.alloc (.stringIter ⟨l.toArray⟩ 0), .pointer (some ⟨w.heap.size, 0 + 0, none⟩), ?_, .ptr _ _ _ h3, h1, h2⟩
  simp only [Instr.range, Sem.run_bind, r_under hu, Result.andThen_ok, Sem.run_pure, run_newObj]
  rfl

theorem triple_VR {a b c : AV} {u v x : Value} (h1 : VR E w a u) (h2 : VR E w b v) (h3 : VR E w c x) : VR E w (.tup [a, b, c]) (.tuple #[u, v, x]) := by
  refine .tup _ _ rfl (fun j y z hj hy => ?_)
  match j with
  | 0 => simp at hj hy; subst hj; subst hy; exact h1
  | 1 => simp at hj hy; subst hj; subst hy; exact h2
  | 2 => simp at hj hy; subst hj; subst hy; exact h3
  | j + 3 => simp at hj

theorem sim_next (hH : HRel E H w) {t b : Nat} {l : List UInt8} {pos : Nat} {vx : Value} (hx : VR E w (.ptr b 0) vx) (hc : H.get b = .iter l pos) :
    Sim P (Instr.next vx true t) E H w (if pos < l.length then .tup [.bool true, .int .i64 pos, .int .i32 (Utf8.decode ⟨l.toArray⟩ pos).1] else .tup [.bool false])
      (if pos < l.length then ⟨H.obs.set b (.iter l (pos + (Utf8.decode ⟨l.toArray⟩ pos).2)), H.toks⟩ else H) := by
  cases hx with
  | ptr _ _ L hL =>
    have hobj := hH.obj b L hL
    rw [hc] at hobj
    obtain ⟨hb, hd0, hnp⟩ := hobj
    have hlt := lt_of_heap hb
    have hsz : (ByteArray.mk l.toArray).size = l.length := by simp [ByteArray.size]
    have hget : (getObj L.r).run P w = .ok (.stringIter ⟨l.toArray⟩ pos) w := by simp [getObj, Sem.run, hb]
    have hset : ∀ o, (setObj L.r o).run P w = .ok () (putBlock w L.r o) := fun o => by simp [setObj, Sem.run, hb, putBlock]
    by_cases hp : pos < l.length
    · simp only [hp, if_true]
      obtain ⟨a, c⟩ := hH.putRef hL (by rw [hc]; rfl) (.stringIter ⟨l.toArray⟩ (pos + (Utf8.decode ⟨l.toArray⟩ pos).2)) (.iter l (pos + (Utf8.decode ⟨l.toArray⟩ pos).2)) (fun hx' hnp' => ⟨heap_put_same _ _ hlt, hd0, hnp'⟩)
      refine ⟨E, _, .tuple #[.bool true, goInt pos, .int .i32 (Utf8.decode ⟨l.toArray⟩ pos).1], ?_, triple_VR (.bool _) (.int _ _) (.int _ _), a, c⟩
      rw [hd0]
      simp only [Instr.next, Nat.zero_add, Sem.run_bind, hget, Result.andThen_ok]
      rw [if_pos (by rw [hsz]; exact hp)]
      simp only [Sem.run_bind, hset, Result.andThen_ok, Sem.run_pure]
    · simp only [hp, if_false]
      refine Sim.same hH (v' := .tuple #[.bool false]) ?_ (.tup _ _ rfl (fun j x y hj hy => ?_))
      · rw [hd0]
        simp only [Instr.next, Nat.zero_add, Sem.run_bind, hget, Result.andThen_ok]
        rw [if_neg (by rw [hsz]; exact hp)]
        rfl
      · match j with
        | 0 => simp at hj hy; subst hj; subst hy; exact .bool _
        | j + 1 => simp at hj

end Go.SV

namespace Go.SV

variable {P : Program} {E E' : Env} {H H' : AH} {w w' : World}

def AV.ofCell : Value → AV
  | .bool b => .bool b
  | .int k n => .int k n
  | .string s => .str s.data.toList
  | .pointer none => .nilp
  | .slice none 0 0 => .nils
  | .map none => .nilm
  | .nilFunc => .nilf
  | .nilIface => .niliface
  | _ => .undef

def AV.ofVal : Value → AV
  | .agg cs => .agg (cs.toList.map AV.ofCell)
  | v => .ofCell v

theorem ofCell_VR (v : Value) : VR E w (.ofCell v) v := by
  unfold AV.ofCell
  split
  · exact .bool _
  · exact .int _ _
  · rename_i s; exact .str s.data.toList
  · exact .nilp
  · exact .nils
  · exact .nilm
  · exact .nilf
  · exact .niliface
  · exact .undef _

theorem ofVal_VR (v : Value) : VR E w (.ofVal v) v := by
  cases v with
  | agg cs =>
    refine .agg _ _ (by simp) (fun j a u hj hu => ?_)
    simp only [List.getElem?_map, Option.map_eq_some_iff] at hj
    obtain ⟨x, hx, rfl⟩ := hj
    rw [Array.getElem?_toList, hu] at hx
    injection hx with hx
    subst hx
    exact ofCell_VR _
  | _ => simp only [AV.ofVal]; exact ofCell_VR _

def trOpd : Operand → Option Opd
  | .tmp t => some (.tmp t)
  | .const v => some (.cst (.ofVal v))
  | .func f => some (.fn f)
  | .global _ => none

def trOpds : List Operand → Option (List Opd)
  | [] => some []
  | x :: xs => (trOpd x).bind fun y => (trOpds xs).map (y :: ·)

def trOpt : Option Operand → Option (Option Opd)
  | none => some none
  | some x => (trOpd x).map some

def trParts (place : Nat → Option (Nat × Nat)) : List (Nat × Operand) → Option (List (Nat × Nat × Opd))
  | [] => some []
  | (i, x) :: ps => (place i).bind fun p => (trOpd x).bind fun y => (trParts place ps).map ((p.1, p.2, y) :: ·)

/-- The frame's slots. -/
def FR (E : Env) (w : World) (fr : List AV) (tmps : Array Value) : Prop :=
  fr.length = tmps.size ∧ ∀ (t : Nat) x, fr[t]? = some x → ∃ v, tmps[t]? = some v ∧ VR E w x v

theorem FR.mono {fr : List AV} {tmps : Array Value} (h : FR E w fr tmps) (hx : Ext E w E' w') : FR E' w' fr tmps :=
  ⟨h.1, fun t x ht => by obtain ⟨v, hv, hr⟩ := h.2 t x ht; exact ⟨v, hv, hr.mono hx⟩⟩

theorem FR.ev {fr : List AV} {a : Act} (h : FR E w fr a.tmps) {x : Operand} {y : Opd} (ht : trOpd x = some y) : VR E w (y.ev fr) (a.eval x) := by
  cases x with
  | tmp t =>
    simp only [trOpd, Option.some.injEq] at ht
    subst ht
    simp only [Opd.ev, Act.eval]
    cases hf : fr[t]? with
    | none => exact .undef _
    | some x =>
      obtain ⟨v, hv, hr⟩ := h.2 t x hf
      simp only [Option.getD_some]
      rw [Array.getD_eq_getD_getElem?, hv]
      exact hr
  | const v =>
    simp only [trOpd, Option.some.injEq] at ht
    subst ht
    exact ofVal_VR v
  | func f =>
    simp only [trOpd, Option.some.injEq] at ht
    subst ht
    exact .fn _ _ _ _ _ rfl rfl (fun j a u h => by simp at h) (fun j a u h => by simp at h)
  | global g => simp [trOpd] at ht

theorem FR.evs {fr : List AV} {a : Act} (h : FR E w fr a.tmps) (xs : List Operand) : ∀ {ys : List Opd}, trOpds xs = some ys → ys.length = xs.length ∧ ∀ (j : Nat) x u, (ys.map (Opd.ev fr))[j]? = some x → (xs.map a.eval)[j]? = some u → VR E w x u := by
  induction xs with
  | nil => intro ys ht; simp only [trOpds, Option.some.injEq] at ht; subst ht; exact ⟨rfl, fun j x u h => by simp at h⟩
  | cons x xs ih =>
    intro ys ht
    simp only [trOpds, Option.bind_eq_some_iff, Option.map_eq_some_iff] at ht
    obtain ⟨y, hy, ys', hys, rfl⟩ := ht
    obtain ⟨h1, h2⟩ := ih hys
    refine ⟨by simp [h1], fun j a u hj hu => ?_⟩
    cases j with
    | zero => simp at hj hu; subst hj; subst hu; exact h.ev hy
    | succ j => simp only [List.map_cons, List.getElem?_cons_succ] at hj hu; exact h2 j a u hj hu

theorem FR.opt {fr : List AV} {a : Act} (h : FR E w fr a.tmps) {x : Option Operand} {y : Option Opd} (ht : trOpt x = some y) : OptVR E w (y.map (Opd.ev fr)) (x.map a.eval) := by
  cases x with
  | none => simp only [trOpt, Option.some.injEq] at ht; subst ht; exact .none
  | some x =>
    simp only [trOpt, Option.map_eq_some_iff] at ht
    obtain ⟨y', hy, rfl⟩ := ht
    exact .some (h.ev hy)

theorem FR.parts {fr : List AV} {a : Act} (h : FR E w fr a.tmps) (place : Nat → Option (Nat × Nat)) (ps : List (Nat × Operand)) : ∀ {qs : List (Nat × Nat × Opd)}, trParts place ps = some qs →
    (qs.map fun p => (p.1, p.2.1, p.2.2.ev fr)).length = (ps.map fun p => (p.1, a.eval p.2)).length ∧
    ∀ (k : Nat) p q, (qs.map fun p => (p.1, p.2.1, p.2.2.ev fr))[k]? = some p → (ps.map fun p => (p.1, a.eval p.2))[k]? = some q → place q.1 = some (p.1, p.2.1) ∧ VR E w p.2.2 q.2 := by
  induction ps with
  | nil => intro qs ht; simp only [trParts, Option.some.injEq] at ht; subst ht; exact ⟨rfl, fun k p q h => by simp at h⟩
  | cons p ps ih =>
    intro qs ht
    obtain ⟨i, x⟩ := p
    simp only [trParts, Option.bind_eq_some_iff, Option.map_eq_some_iff] at ht
    obtain ⟨pl, hpl, y, hy, qs', hqs, rfl⟩ := ht
    obtain ⟨h1, h2⟩ := ih hqs
    refine ⟨by simp at h1 ⊢; exact h1, fun k p q hk hq => ?_⟩
    cases k with
    | zero => simp at hk hq; subst hk; subst hq; exact ⟨hpl, h.ev hy⟩
    | succ k => simp only [List.map_cons, List.getElem?_cons_succ] at hk hq; exact h2 k p q hk hq

/-- What an operation comes to. -/
def SimN (P : Program) (s : Sem Next) (E : Env) (H : AH) (w : World) (v : AV) (H' : AH) : Prop :=
  ∃ E' w' nx v', s.run P w = .ok nx w' ∧ (nx = .value v' ∨ (nx = .skip ∧ v' = undef)) ∧ VR E' w' v v' ∧ HRel E' H' w' ∧ Step E H w E' H' w'

theorem SimN.val {s : Sem Value} {v : AV} (h : Sim P s E H w v H') : SimN P (do pure (.value (← s))) E H w v H' := by
  obtain ⟨E', w', v', hr, a, b, c⟩ := h
  exact ⟨E', w', _, v', by simp only [Sem.run_bind, hr, Result.andThen_ok, Sem.run_pure], .inl rfl, a, b, c⟩

theorem SimN.unit {s : Sem Unit} (h : SimU P s E H w H') : SimN P (do s; pure .skip) E H w .undef H' := by
  obtain ⟨E', w', hr, b, c⟩ := h
  exact ⟨E', w', _, undef, by simp only [Sem.run_bind, hr, Result.andThen_ok, Sem.run_pure], .inr ⟨rfl, rfl⟩, .undef _, b, c⟩

theorem SimN.same (hH : HRel E H w) {s : Sem Next} {v : AV} {v' : Value} (hr : s.run P w = .ok (.value v') w) (hv : VR E w v v') : SimN P s E H w v H :=
  ⟨E, w, _, v', hr, .inl rfl, hv, hH, .refl _ _ _⟩

/-! ### The translation -/
def eqKindOf (P : Program) : TypeDesc → Option EqK
  | .bool => some .bool
  | .slice _ => some .slice
  | .pointer e => if (sizeT P e).isSome = true then some .ptr else none
  | .map _ _ => some .map
  | .func _ _ _ => some .func
  | .interface _ => some .iface
  | _ => none

theorem eqKindOf_ok {P : Program} {d : TypeDesc} {k : EqK} (h : eqKindOf P d = some k) : kindOk P k d = true := by
  cases d <;> simp [eqKindOf] at h
  case pointer e => obtain ⟨h1, rfl⟩ := h; exact h1
  all_goals (subst h; rfl)

/-- A comparison with the literal nil. -/
def litK (k : EqK) (x y : Opd) : EqK := match k, x, y with
  | .iface, .cst _, _ => .ifn
  | .iface, _, .cst _ => .ifn
  | k, _, _ => k
theorem litK_ok {P : Program} {k : EqK} {d : TypeDesc} {x y : Opd} (h : kindOk P k d = true) : kindOk P (litK k x y) d = true := by
  unfold litK
  split
  · cases d <;> simp_all [kindOk]
  · cases d <;> simp_all [kindOk]
  · exact h
theorem litK_cst {k : EqK} {x y : Opd} (h : litK k x y = .ifn) (hk : k ≠ .ifn) : (∃ v, x = .cst v) ∨ ∃ v, y = .cst v := by
  unfold litK at h
  split at h
  · exact .inl ⟨_, rfl⟩
  · exact .inr ⟨_, rfl⟩
  · exact absurd h hk
theorem eqKindOf_ne {P : Program} {d : TypeDesc} {k : EqK} (h : eqKindOf P d = some k) : k ≠ .ifn := by
  rintro rfl
  cases d <;> simp [eqKindOf] at h
theorem trOpd_cst {o : Operand} {v : AV} (h : trOpd o = some (.cst v)) : ∃ u, o = .const u := by
  cases o with
  | const u => exact ⟨u, rfl⟩
  | _ => simp [trOpd] at h

def isEq : BinOp → Option Bool
  | .eql => some false
  | .neq => some true
  | _ => none

def trBin (P : Program) (op : BinOp) (t : TypeId) (x y : Opd) : Option IOp :=
  match isEq op with
  | none => some (.bin op x y)
  | some neg =>
    match P.underlying t with
    | some (.int _) | some .string => some (.bin op x y)
    | some (.struct fs) => if P.stoodInHeld t || P.eqGuardType P.depth t then none else (flatFs P fs.toList 0).map fun ks => .eqAgg ks neg x y
    | some d => (eqKindOf P d).map fun k => .eqv (litK k x y) neg x y
    | none => none

def trConv (P : Program) (src dst : TypeId) (x : Opd) : Option IOp :=
  match P.underlying src, P.underlying dst with
  | some (.int _), some (.int k) => some (.cvInt k x)
  | some (.int _), some .string => some (.cvRune x)
  | some .string, some .string => some (.cvSame x)
  | some .string, some (.slice e) => match P.underlying e with
    | some (.int .u8) => some (.cvBytes x)
    | _ => none
  | some (.slice e), some .string => match P.underlying e with
    | some (.int .u8) => some (.cvStr x)
    | _ => none
  | some (.slice _), some (.slice e) => if src = dst then match P.underlying e with
    | some (.int .u8) => some (.cvMark x)
    | _ => none else none
  | _, _ => none

def aggN (P : Program) (t : TypeId) : Option (Option Nat) :=
  match P.underlying t, sizeT P t with
  | some d, some s => some (if isAggD d then some s else none)
  | _, _ => none

/-- The first cells of Builders. -/
def mark1 (b : Bool) : AV → AV
  | .nilp => if b then .bnil else .nilp
  | x => x
def markB (e n : Nat) (l : List AV) : List AV := (l.zipIdx).map fun p => mark1 (lbB e n p.2) p.1
theorem markB_len (e n : Nat) (l : List AV) : (markB e n l).length = l.length := by simp [markB]
theorem markB_get {e n : Nat} {l : List AV} {j : Nat} {x : AV} (h : (markB e n l)[j]? = some x) : ∃ y, l[j]? = some y ∧ x = mark1 (lbB e n j) y := by
  simp only [markB, List.getElem?_map, List.getElem?_zipIdx, Option.map_eq_some_iff, Nat.zero_add] at h
  obtain ⟨p, ⟨y, hy, rfl⟩, rfl⟩ := h
  exact ⟨y, hy, rfl⟩
theorem mark1_VR {b : Bool} {y : AV} {u : Value} (h : VR E w y u) : VR E w (mark1 b y) u := by
  unfold mark1
  split
  · cases h; cases b <;> first | exact .nilp | exact .bnil _
  · exact h
theorem mark1_isB {b : Bool} {y : AV} (hy : y.isB = false) (h : (mark1 b y).isB = true) : b = true ∧ y = .nilp := by
  cases b <;> cases y <;> simp [mark1, AV.isB] at h hy ⊢
theorem ofCell_isB (z : Value) : (AV.ofCell z).isB = false := by
  unfold AV.ofCell
  split <;> rfl
theorem ofVal_cells {z : Value} {y : AV} (h : y ∈ (AV.ofVal z).cells) : y.isB = false := by
  have one : ∀ v : Value, y ∈ (AV.ofCell v).cells → y.isB = false := by
    intro v hv
    have : (AV.ofCell v).cells = [AV.ofCell v] := by unfold AV.ofCell; split <;> rfl
    rw [this, List.mem_singleton] at hv
    rw [hv]; exact ofCell_isB v
  cases z with
  | agg cs =>
    obtain ⟨x, _, rfl⟩ := List.mem_map.1 h
    exact ofCell_isB x
  | _ => simp only [AV.ofVal] at h; exact one _ h

def defVal (z : Value) : Option AV := if (AV.ofVal z).def? then some (AV.ofVal z) else none
theorem defVal_isB {z : Value} {v : AV} (h : defVal z = some v) {y : AV} (hy : y ∈ v.cells) : y.isB = false := by
  unfold defVal at h
  split at h
  · injection h with h
    subst h
    exact ofVal_cells hy
  · cases h

def trBuiltin (P : Program) (m : Mode) (b : Builtin) (ts : List TypeId) (xs : List Opd) : Option IOp :=
  match b, ts, xs with
  | .len, [t], [x] => match P.underlying t with
    | some .string => some (.len .str x)
    | some (.slice _) => some (.len .row x)
    | some (.map _ _) => some (.len .map x)
    | _ => none
  | .append, [t, tx], [x, y] => match P.underlying t, P.underlying tx with
    | _, some (.int _) => none
    | some (.slice e), some _ => match sizeT P e, bytesT P e, zeroT P e with
      | some s, some bytes, some z => if 0 < bytes ∧ z.cells.size = s then some (.append m s (bytes, e) x y) else none
      | _, _, _ => none
    | _, _ => none
  | .min, _, x :: xs => some (.minmax false x xs)
  | .max, _, x :: xs => some (.minmax true x xs)
  | _, _, _ => none

def inOrder : List (Nat × Operand) → Nat → Bool
  | [], _ => true
  | p :: ps, k => p.1 == k && inOrder ps (k + 1)

def modeVer : Mode → Nat
  | .ref => 1
  | _ => 0

def trOp (P : Program) (m : Mode) : Op → Option IOp
  | .move x | .assign x => (trOpd x).map .mov
  | .pick c a b => (trOpd c).bind fun c => (trOpd a).bind fun a => (trOpd b).map fun b => .pick c a b
  | .alloc e => (zeroT P e).bind fun z => (defVal z).map fun v => .alloc (markB e v.cells.length v.cells)
  | .box _ x => (trOpd x).map .box
  | .build t ps => (zeroT P t).bind fun z => (defVal z).bind fun v => match P.underlying t with
    | some (.struct fs) => (placesT P fs.toList).bind fun pl => (trParts (fun i => pl[i]?) ps.toList).map (.build v.cells)
    | some (.array _ e) => (sizeT P e).bind fun s => (trParts (fun i => some (i * s, s)) ps.toList).map (.build v.cells)
    | _ => none
  | .buildSlice t len ps => match P.underlying t with
    | some (.slice e) => (sizeT P e).bind fun s => if (zeroT P e).isSome && inOrder ps.toList 0 && ps.size == len && decide (len * s ≤ 2 ^ 24) then (trOpds (ps.toList.map (·.2))).map (.lit m s) else none
    | _ => none
  | .load t a => (aggN P t).bind fun n => (trOpd a).map (.load n)
  | .store t a x => (sizeT P t).bind fun n => (trOpd a).bind fun a => (trOpd x).map (.store n a)
  | .nilCheck x => (trOpd x).map .nilck
  | .binOp op t x y _ => (trOpd x).bind fun x => (trOpd y).bind fun y => trBin P op t x y
  | .unOp .not _ x => (trOpd x).map .not
  | .unOp .neg _ x => (trOpd x).map .neg
  | .convert src dst x => (trOpd x).bind fun x => trConv P src dst x
  | .makeInterface t x => match P.underlying t with
    | some (.interface _) | none => none
    | some _ => (trOpd x).map (.mkIface t)
  | .makeFunc f first cap => (trOpds first.toList).bind fun first => (trOpds cap.toList).map (.mkFn f first)
  | .makeMap _ none => some .mkMap
  | .makeSlice t l c => match P.underlying t with
    | some (.slice e) => (sizeT P e).bind fun s => (bytesT P e).bind fun bytes => (zeroT P e).bind fun z => (defVal z).bind fun v => (trOpd l).bind fun l => (trOpd c).map (.make m s bytes v.cells l)
    | _ => none
  | .slice t x lo hi none => (trOpd x).bind fun x => (trOpt lo).bind fun lo => (trOpt hi).bind fun hi => match P.underlying t with
    | some .string => some (.slcS x lo hi)
    | some (.slice e) => (sizeT P e).map fun s => .slc s x lo hi
    | _ => none
  | .fieldAddr t x f => match P.underlying t with
    | some (.struct fs) => (fs[f]?).bind fun fl => (sizeT P fl.type).bind fun s => if s = 0 then none else (trOpd x).map (.fieldAddr fl.offset)
    | _ => none
  | .field t x f => match P.underlying t with
    | some (.struct fs) => (fs[f]?).bind fun fl => (aggN P fl.type).bind fun n => (trOpd x).map (.field fl.offset n)
    | _ => none
  | .indexAddr t x i => (trOpd x).bind fun x => (trOpd i).bind fun i => match P.underlying t with
    | some (.slice e) => (sizeT P e).map fun s => .idxAddr s x i
    | some (.array len e) => (sizeT P e).map fun s => .idxAddrArr len s x i
    | _ => none
  | .index t x i => (trOpd x).bind fun x => (trOpd i).bind fun i => match P.underlying t with
    | some .string => some (.idxStr x i)
    | some (.array len e) => (sizeT P e).bind fun s => (aggN P e).map fun n => .idxArr len s n x i
    | _ => none
  | .lookup t m k ok => match P.underlying t with
    | some (.map kt e) => (keyT P kt).bind fun K => (zeroT P e).bind fun z => (trOpd m).bind fun m => (trOpd k).map (.lookup K (.ofVal z) ok m)
    | _ => none
  | .mapUpdate t m k v | .insert t m k v => match P.underlying t with
    | some (.map kt _) => (keyT P kt).bind fun K => (trOpd m).bind fun m => (trOpd k).bind fun k => (trOpd v).map (.mapUpd K m k)
    | _ => none
  | .mapEntry t m k => match P.underlying t with
    | some (.map kt e) => (keyT P kt).bind fun K => (zeroT P e).bind fun z => (trOpd m).bind fun m => (trOpd k).map (.mapEntry K (.ofVal z) m)
    | _ => none
  | .entryStore _ m s v => (trOpd m).bind fun m => (trOpd s).bind fun s => (trOpd v).map (.entrySt m s)
  | .range t x => match P.underlying t with
    | some .string => (trOpd x).map .rangeS
    | _ => none
  | .next x true => (trOpd x).map .nextS
  | .extract x i => (trOpd x).map (.extract i)
  | .call c => match c.callee with
    | .builtin b => (trOpds c.args.toList).bind fun xs => trBuiltin P m b c.argTypes.toList xs
    | .value f => (trOpd f).bind fun f => (trOpds c.args.toList).map (.call (modeVer m) f)
    | _ => none
  | _ => none


theorem defVal_spec {z : Value} {v : AV} (h : defVal z = some v) : v.def? = true ∧ v = .ofVal z := by
  unfold defVal at h
  split at h
  · rename_i hd
    simp only [Option.some.injEq] at h
    subst h
    exact ⟨hd, rfl⟩
  · simp at h

theorem aggN_spec {t : Nat} {n : Option Nat} (h : aggN P t = some n) : ∃ d, P.underlying t = some d ∧ n = (if isAggD d then sizeT P t else none) ∧ (sizeT P t).isSome := by
  unfold aggN at h
  split at h
  · rename_i d s hd hs
    simp only [Option.some.injEq] at h
    subst h
    exact ⟨d, hd, by simp [hs], by simp [hs]⟩
  · simp at h

theorem inOrder_spec (a : Act) (ps : List (Nat × Operand)) : ∀ k, inOrder ps k = true → ps.map (fun p => (p.1, a.eval p.2)) = (((ps.map (·.2)).map a.eval).zipIdx k).map fun p => (p.2, p.1) := by
  induction ps with
  | nil => intro k _; rfl
  | cons p ps ih =>
    intro k h
    simp only [inOrder, Bool.and_eq_true, beq_iff_eq] at h
    simp only [List.map_cons, List.zipIdx_cons, ih _ h.2, h.1]

variable {fr : List AV} {a : Act}

theorem sim_bin' (hF : FR E w fr a.tmps) (hH : HRel E H w) {op : BinOp} {t : Nat} {x y : Operand} {x' y' : Opd} (hx : trOpd x = some x') (hy : trOpd y = some y') {io : IOp} (h : trBin P op t x' y' = some io) {v : AV} (ha : aop fr io H = some (v, H')) :
    Sim P (do eqGuard op t x y (a.eval x) (a.eval y); binOp op t (a.eval x) (a.eval y)) E H w v H' := by
  have hvx := hF.ev hx
  have hvy := hF.ev hy
  have bincase : ∀ v, aop fr (.bin op x' y') H = some (v, H') → Sim P (do eqGuard op t x y (a.eval x) (a.eval y); binOp op t (a.eval x) (a.eval y)) E H w v H' := by
    intro v ha
    simp only [aop, Option.map_eq_some_iff, Prod.mk.injEq] at ha
    obtain ⟨u, hu, rfl, rfl⟩ := ha
    exact sim_bin hH hvx hvy hu
  unfold trBin at h
  split at h
  · simp only [Option.some.injEq] at h; subst h; exact bincase v ha
  · rename_i neg hneg
    have hop : op = if neg then .neq else .eql := by
      cases op <;> simp [isEq] at hneg <;> subst hneg <;> rfl
    split at h
    · simp only [Option.some.injEq] at h; subst h; exact bincase v ha
    · simp only [Option.some.injEq] at h; subst h; exact bincase v ha
    · rename_i fs hu
      split at h
      · simp at h
      · rename_i hc
        simp only [Bool.or_eq_true, not_or, Bool.not_eq_true] at hc
        simp only [Option.map_eq_some_iff] at h
        obtain ⟨ks, hks, rfl⟩ := h
        simp only [aop] at ha
        split at ha
        · rename_i xs ys e1 e2
          simp only [Option.map_eq_some_iff, Prod.mk.injEq] at ha
          obtain ⟨_, ⟨b, hb, rfl⟩, rfl, rfl⟩ := ha
          rw [e1] at hvx
          rw [e2] at hvy
          rw [hop]
          exact sim_eqAgg hH hu hks hc.1 hc.2 neg hvx hvy hb
        · simp at ha
    · rename_i d _ _ _ hu
      simp only [Option.map_eq_some_iff] at h
      obtain ⟨k, hk, rfl⟩ := h
      simp only [aop, Option.map_eq_some_iff, Prod.mk.injEq] at ha
      obtain ⟨_, ⟨b, hb, rfl⟩, rfl, rfl⟩ := ha
      rw [hop]
      refine sim_eqv hH hu (litK_ok (eqKindOf_ok hk)) (fun h => ?_) neg hvx hvy hb
      rcases litK_cst h (eqKindOf_ne hk) with ⟨u, rfl⟩ | ⟨u, rfl⟩
      · exact .inl (trOpd_cst hx)
      · exact .inr (trOpd_cst hy)
    · simp at h

theorem sim_conv' (hF : FR E w fr a.tmps) (hH : HRel E H w) {src dst : Nat} {x : Operand} {x' : Opd} (hx : trOpd x = some x') {io : IOp} (h : trConv P src dst x' = some io) {v : AV} (ha : aop fr io H = some (v, H')) :
    Sim P (convert src dst (a.eval x)) E H w v H' := by
  have hvx := hF.ev hx
  unfold trConv at h
  split at h
  · rename_i k1 k2 hs hd
    simp only [Option.some.injEq] at h; subst h
    simp only [aop] at ha
    split at ha
    · rename_i k n e
      simp only [Option.some.injEq, Prod.mk.injEq] at ha
      obtain ⟨rfl, rfl⟩ := ha
      rw [e] at hvx
      generalize a.eval x = vx at hvx
      cases hvx
      exact Sim.same hH (v' := .int k2 (k2.wrap n)) (by simp [convert, r_under hs, r_under hd, Conv.intToInt]) (.int _ _)
    · simp at ha
  · rename_i k1 hs hd
    simp only [Option.some.injEq] at h; subst h
    simp only [aop] at ha
    split at ha
    · rename_i k n e
      simp only [Option.some.injEq, Prod.mk.injEq] at ha
      obtain ⟨rfl, rfl⟩ := ha
      rw [e] at hvx
      generalize a.eval x = vx at hvx
      cases hvx
      exact Sim.same hH (v' := .string (Utf8.encode n)) (by simp [convert, r_under hs, r_under hd, Conv.intToString]) (.str _)
    · simp at ha
  · rename_i hs hd
    simp only [Option.some.injEq] at h; subst h
    simp only [aop] at ha
    split at ha
    · rename_i l e
      simp only [Option.some.injEq, Prod.mk.injEq] at ha
      obtain ⟨rfl, rfl⟩ := ha
      rw [e] at hvx
      generalize a.eval x = vx at hvx
      cases hvx
      exact Sim.same hH (v' := .string ⟨l.toArray⟩) (by simp [convert, r_under hs, r_under hd]) (.str _)
    · simp at ha
  · rename_i el hs hd
    split at h
    · rename_i he
      simp only [Option.some.injEq] at h; subst h
      simp only [aop] at ha
      split at ha
      · rename_i l e
        simp only [Option.some.injEq, Prod.mk.injEq] at ha
        obtain ⟨rfl, rfl⟩ := ha
        rw [e] at hvx
        generalize a.eval x = vx at hvx
        cases hvx
        obtain ⟨E', w', v', hr, b, c, d⟩ := sim_cvBytes (P := P) hH (e := el) l
        refine ⟨E', w', v', ?_, b, c, d⟩
        rw [← hr]
        simp [convert, r_under hs, r_under hd, r_under he]
      · simp at ha
    · simp at h
  · rename_i el hs hd
    split at h
    · rename_i he
      simp only [Option.some.injEq] at h; subst h
      simp only [aop] at ha
      split at ha
      · rename_i xs hxs
        split at ha
        · simp at ha
        · rename_i hns
          split at ha
          · rename_i hb
            simp only [Option.some.injEq, Prod.mk.injEq] at ha
            obtain ⟨rfl, rfl⟩ := ha
            obtain ⟨E', w', v', hr, b, c, d⟩ := sim_cvStr (P := P) hH hvx (fun l hl => hns l hl) hxs hb
            refine ⟨E', w', v', ?_, b, c, d⟩
            rw [← hr]
            have hsl : ∃ b l c, a.eval x = .slice b l c := by
              generalize a.eval x = vx at hvx
              generalize Opd.ev fr x' = y at hvx hxs hns
              cases hvx with
              | nils => exact ⟨_, _, _, rfl⟩
              | sl => exact ⟨_, _, _, rfl⟩
              | sle => exact ⟨_, _, _, rfl⟩
              | slr => exact ⟨_, _, _, rfl⟩
              | str l => exact absurd rfl (hns l)
              | _ => simp [elems] at hxs
            obtain ⟨b, l, c, hbl⟩ := hsl
            rw [hbl]
            exact run_convert_bytes_string w src dst el b l c hs he hd
          · simp at ha
      · simp at ha
    · simp at h
  · rename_i e0 el hs hd
    split at h
    · rename_i hsd
      subst hsd
      split at h
      · rename_i he
        simp only [Option.some.injEq] at h; subst h
        simp only [aop] at ha
        split at ha
        · rename_i b o n s e
          split at ha
          · rename_i c hc
            simp only [Option.some.injEq, Prod.mk.injEq] at ha
            obtain ⟨rfl, rfl⟩ := ha
            rw [e] at hvx
            exact sim_mark hH hc hvx hd he
          · simp at ha
        · simp at ha
      · simp at h
    · simp at h
  · simp at h

theorem sim_len (hH : HRel E H w) (k : LK) {t : Nat} {d : TypeDesc} (hu : P.underlying t = some d) (hk : k = .str ∧ d = .string ∨ (∃ e, k = .row ∧ d = .slice e) ∨ (∃ kt e, k = .map ∧ d = .map kt e)) {y v : AV} {vx : Value} (hvx : VR E w y vx)
    (hlen : aLen k y H = some v) (T : Nat) : Sim P (Builtin.len_ #[t] T #[vx]) E H w v H := by
  have hsz : ∀ l : List UInt8, (ByteArray.mk l.toArray).size = l.length := fun l => by simp [ByteArray.size]
  rcases hk with ⟨rfl, rfl⟩ | ⟨e, rfl, rfl⟩ | ⟨kt, e, rfl, rfl⟩
  · cases hvx with
    | str l =>
      simp only [aLen, Option.some.injEq] at hlen
      subst hlen
      refine Sim.same hH (v' := .int .i64 l.length) ?_ (.int _ _)
      unfold Builtin.len_
      simp only [List.getElem?_toArray, List.getElem?_cons_zero, Sem.run_bind, r_under hu, Result.andThen_ok, Sem.run_pure, hsz, goInt]
    | _ => simp [aLen] at hlen
  · cases hvx with
    | nils =>
      simp only [aLen, Option.some.injEq] at hlen
      subst hlen
      refine Sim.same hH (v' := .int .i64 0) ?_ (.int _ _)
      unfold Builtin.len_
      simp [r_under hu, goInt]
    | sle s' a' =>
      simp only [aLen, Option.some.injEq] at hlen
      subst hlen
      refine Sim.same hH (v' := .int .i64 0) ?_ (.int _ _)
      unfold Builtin.len_
      simp [r_under hu, goInt]
    | sl t' s' l r o cap us hcap =>
      simp only [aLen, Option.some.injEq] at hlen
      subst hlen
      refine Sim.same hH (v' := .int .i64 l.length) ?_ (.int _ _)
      unfold Builtin.len_
      simp [r_under hu, goInt]
    | slr b o n s =>
      simp only [aLen, Option.some.injEq] at hlen
      subst hlen
      refine Sim.same hH (v' := .int .i64 n) ?_ (.int _ _)
      unfold Builtin.len_
      simp [r_under hu, goInt]
    | _ => simp [aLen] at hlen
  · cases hvx with
    | nilm =>
      simp only [aLen, Option.some.injEq] at hlen
      subst hlen
      refine Sim.same hH (v' := .int .i64 0) ?_ (.int _ _)
      unfold Builtin.len_
      simp [r_under hu, goInt]
    | map b L hL =>
      simp only [aLen] at hlen
      split at hlen
      · rename_i es clk hc
        simp only [Option.some.injEq] at hlen
        subst hlen
        obtain ⟨res, hb, hr⟩ := map_obj hH hL hc
        refine Sim.same hH (v' := .int .i64 es.length) ?_ (.int _ _)
        have := hr.1
        simp only [Array.length_toList] at this
        unfold Builtin.len_
        simp [r_under hu, goInt, r_getMap hb, this]
      · simp at hlen
    | _ => simp [aLen] at hlen

theorem sim_fold (mx : Bool) (ys : List AV) : ∀ (vs : List Value) (x v : AV) (vx : Value), ys.length = vs.length → VR E w x vx → (∀ (j : Nat) y u, ys[j]? = some y → vs[j]? = some u → VR E w y u) → aFold mx x ys = some v →
    ∃ v', (vs.foldlM (if mx then Builtin.max2 else Builtin.min2) vx).run P w = .ok v' w ∧ VR E w v v' := by
  induction ys with
  | nil =>
    intro vs x v vx hl hx _ h
    cases vs with
    | nil => simp only [aFold, Option.some.injEq] at h; subst h; exact ⟨vx, rfl, hx⟩
    | cons u vs => simp at hl
  | cons y ys ih =>
    intro vs x v vx hl hx hv h
    cases vs with
    | nil => simp at hl
    | cons u vs =>
      simp only [aFold, Option.bind_eq_some_iff] at h
      obtain ⟨z, hz, h⟩ := h
      have hy := hv 0 y u rfl rfl
      unfold aMin at hz
      split at hz
      · rename_i k p k' q
        simp only [Option.some.injEq] at hz
        subst hz
        cases hx; cases hy
        have hz' : VR E w (.int k (if mx then (if p < q then q else p) else (if q < p then q else p))) (.int k (if mx then (if p < q then q else p) else (if q < p then q else p))) := .int _ _
        obtain ⟨v', h1, h2⟩ := ih vs _ v _ (by simpa using hl) hz' (fun j a b hj hb => hv (j + 1) a b (by simpa using hj) (by simpa using hb)) h
        refine ⟨v', ?_, h2⟩
        rw [← h1]
        cases mx <;> simp only [List.foldlM_cons, Sem.run_bind, Bool.false_eq_true, if_false, if_true, Builtin.min2, Builtin.max2, Sem.run_pure, Result.andThen_ok, gt_iff_lt]
      · simp at hz

theorem sim_builtin (hF : FR E w fr a.tmps) (hH : HRel E H w) (h0 : 0 < H.toks.length) {m : Mode} {b : Builtin} {ts : Array TypeId} {args : Array Operand} {xs : List Opd} (hx : trOpds args.toList = some xs) {io : IOp} (h : trBuiltin P m b ts.toList xs = some io)
    {v : AV} (ha : aop fr io H = some (v, H')) (T : Nat) (cs : Array Bool) : SimN P (builtin b ts T cs (args.map a.eval)) E H w v H' := by
  obtain ⟨hl, hv⟩ := hF.evs args.toList hx
  have hargs : args.map a.eval = (args.toList.map a.eval).toArray := by
    apply Array.ext'
    simp
  rw [hargs]
  generalize hvs : args.toList.map a.eval = vs at hv
  have hvl : xs.length = vs.length := by rw [← hvs]; simpa using hl
  clear hvs hargs hl hx
  obtain ⟨tl⟩ := ts
  simp only at h
  unfold trBuiltin at h
  split at h
  · rename_i t x
    match vs, hvl with
    | [vx], _ =>
      have hvx := hv 0 (x.ev fr) vx rfl rfl
      refine SimN.val (s := Builtin.len_ #[t] T #[vx]) ?_
      split at h
      · rename_i hu
        simp only [Option.some.injEq] at h; subst h
        simp only [aop, Option.map_eq_some_iff, Prod.mk.injEq] at ha
        obtain ⟨u, hu2, rfl, rfl⟩ := ha
        exact sim_len hH .str hu (.inl ⟨rfl, rfl⟩) hvx hu2 T
      · rename_i e hu
        simp only [Option.some.injEq] at h; subst h
        simp only [aop, Option.map_eq_some_iff, Prod.mk.injEq] at ha
        obtain ⟨u, hu2, rfl, rfl⟩ := ha
        exact sim_len hH .row hu (.inr (.inl ⟨e, rfl, rfl⟩)) hvx hu2 T
      · rename_i kt e hu
        simp only [Option.some.injEq] at h; subst h
        simp only [aop, Option.map_eq_some_iff, Prod.mk.injEq] at ha
        obtain ⟨u, hu2, rfl, rfl⟩ := ha
        exact sim_len hH .map hu (.inr (.inr ⟨kt, e, rfl, rfl⟩)) hvx hu2 T
      · simp at h
  · rename_i t tx x y
    match vs, hvl with
    | [vx, vy], _ =>
      have hvx := hv 0 (x.ev fr) vx rfl rfl
      have hvy := hv 1 (y.ev fr) vy rfl rfl
      refine SimN.val (s := Builtin.append_ #[t, tx] T #[vx, vy]) ?_
      split at h
      · simp at h
      · rename_i e dx hdx hu hux
        split at h
        · rename_i s bytes z hs hb hz
          split at h
          · rename_i hc
            simp only [Option.some.injEq] at h; subst h
            simp only [aop] at ha
            exact sim_append hH h0 ⟨hu, ⟨_, hux, hdx⟩, hs, hb, hc.1, ⟨z, hz, hc.2⟩⟩ hvx hvy ha
          · simp at h
        · simp at h
      · simp at h
  · rename_i x xs
    match vs, hvl with
    | vx :: vs, hvl =>
      simp only [Option.some.injEq] at h; subst h
      simp only [aop, Option.map_eq_some_iff, Prod.mk.injEq] at ha
      obtain ⟨u, hu2, rfl, rfl⟩ := ha
      refine SimN.val (s := Builtin.min_ _ T (vx :: vs).toArray) ?_
      obtain ⟨v', h1, h2⟩ := sim_fold (P := P) (w := w) (E := E) false (xs.map (Opd.ev fr)) vs (x.ev fr) u vx (by simpa using hvl) (hv 0 _ _ rfl rfl) (fun j a b hj hb => hv (j + 1) a b (by simpa using hj) (by simpa using hb)) hu2
      exact Sim.same hH h1 h2
  · rename_i x xs
    match vs, hvl with
    | vx :: vs, hvl =>
      simp only [Option.some.injEq] at h; subst h
      simp only [aop, Option.map_eq_some_iff, Prod.mk.injEq] at ha
      obtain ⟨u, hu2, rfl, rfl⟩ := ha
      refine SimN.val (s := Builtin.max_ _ T (vx :: vs).toArray) ?_
      obtain ⟨v', h1, h2⟩ := sim_fold (P := P) (w := w) (E := E) true (xs.map (Opd.ev fr)) vs (x.ev fr) u vx (by simpa using hvl) (hv 0 _ _ rfl rfl) (fun j a b hj hb => hv (j + 1) a b (by simpa using hj) (by simpa using hb)) hu2
      exact Sim.same hH h1 h2
  · simp at h

end Go.SV

namespace Go.SV

variable {P : Program} {E E' : Env} {H H' : AH} {w w' : World} {fr : List AV} {a : Act}

theorem defVal_VR {z : Value} {v : AV} (h : defVal z = some v) : v.def? = true ∧ VR E w v z := by
  obtain ⟨h1, rfl⟩ := defVal_spec h
  exact ⟨h1, ofVal_VR _⟩

theorem sim_op (hF : FR E w fr a.tmps) (hH : HRel E H w) (h0 : 0 < H.toks.length) {m : Mode} (o : Oper) {io : IOp} (htr : trOp P m o.op = some io) (hnc : ∀ n f xs, io ≠ .call n f xs) {v : AV} (ha : aop fr io H = some (v, H')) :
    SimN P (execOp a.eval o) E H w v H' := by
  obtain ⟨dst, op, ty, pos, after, guard⟩ := o
  simp only at htr
  cases op with
  | move x =>
    simp only [trOp, Option.map_eq_some_iff] at htr
    obtain ⟨x', hx, rfl⟩ := htr
    simp only [aop, Option.some.injEq, Prod.mk.injEq] at ha
    obtain ⟨rfl, rfl⟩ := ha
    exact SimN.same hH rfl (hF.ev hx)
  | assign x =>
    simp only [trOp, Option.map_eq_some_iff] at htr
    obtain ⟨x', hx, rfl⟩ := htr
    simp only [aop, Option.some.injEq, Prod.mk.injEq] at ha
    obtain ⟨rfl, rfl⟩ := ha
    exact SimN.same hH rfl (hF.ev hx)
  | pick c x y =>
    simp only [trOp, Option.bind_eq_some_iff, Option.map_eq_some_iff] at htr
    obtain ⟨c', hc, x', hx, y', hy, rfl⟩ := htr
    have hvc := hF.ev hc
    have hvx := hF.ev hx
    have hvy := hF.ev hy
    simp only [aop] at ha
    split at ha
    · rename_i t e
      simp only [Option.some.injEq, Prod.mk.injEq] at ha
      obtain ⟨rfl, rfl⟩ := ha
      rw [e] at hvc
      generalize hec : a.eval c = vc at hvc
      cases hvc
      refine SimN.same hH (v' := if t then a.eval x else a.eval y) ?_ (by cases t <;> assumption)
      cases t <;> simp [execOp, hec, asBool]
    · simp at ha
  | alloc e =>
    simp only [trOp, Option.bind_eq_some_iff, Option.map_eq_some_iff] at htr
    obtain ⟨z, hz, v0, hv0, rfl⟩ := htr
    obtain ⟨hd, hv⟩ := defVal_VR (E := E) (w := w) hv0
    have hdef : v0 ≠ .undef := by rintro rfl; simp [AV.def?] at hd
    obtain ⟨hl, hcv⟩ := hv.cells hdef
    have hl' : (markB e v0.cells.length v0.cells).length = z.cells.size := by rw [markB_len]; exact hl
    have hcv' : ∀ (j : Nat) x u, (markB e v0.cells.length v0.cells)[j]? = some x → z.cells[j]? = some u → VR E w x u := fun j x u hx hu => by
      obtain ⟨y, hy, rfl⟩ := markB_get hx
      exact mark1_VR (hcv j y u hy hu)
    have hB' : ∀ (j : Nat) x, (markB e v0.cells.length v0.cells)[j]? = some x → x.isB = true → lbB e z.cells.size j = true ∧ z.cells[j]? = some (.pointer none) := fun j x hx hb => by
      obtain ⟨y, hy, rfl⟩ := markB_get hx
      obtain ⟨h1, rfl⟩ := mark1_isB (defVal_isB hv0 (List.mem_of_getElem? hy)) hb
      have hj : j < z.cells.size := by have := inL hy; omega
      have hu := Array.getElem?_eq_getElem hj
      have hvu := hcv j _ _ hy hu
      rw [hu]
      generalize z.cells[j] = u at hvu
      cases hvu
      exact ⟨by rw [← hl]; exact h1, rfl⟩
    simp only [aop, allocCells, Option.some.injEq, Prod.mk.injEq] at ha
    obtain ⟨rfl, rfl⟩ := ha
    refine SimN.val (s := Instr.alloc e true (.tuple #[])) ?_
    obtain ⟨E', w', v', hr, b, c, d⟩ := sim_newVar (P := P) hH e hl' hcv' hB'
    refine ⟨E', w', v', ?_, b, c, d⟩
    rw [← hr]
    simp only [Instr.alloc, Sem.run_bind, r_zero hz, Result.andThen_ok]
  | box e x =>
    simp only [trOp, Option.map_eq_some_iff] at htr
    obtain ⟨x', hx, rfl⟩ := htr
    have hvx := hF.ev hx
    simp only [aop] at ha
    split at ha
    · rename_i hc
      simp only [Bool.and_eq_true] at hc
      have hdef : x'.ev fr ≠ .undef := by intro h; rw [h] at hc; simp [AV.def?] at hc
      obtain ⟨hl, hcv⟩ := hvx.cells hdef
      simp only [allocCells, Option.some.injEq, Prod.mk.injEq] at ha
      obtain ⟨rfl, rfl⟩ := ha
      exact SimN.val (sim_newVar (P := P) hH e hl hcv (fun j x hj hb => by rw [all_isB hc.2 hj] at hb; simp at hb))
    · simp at ha
  | build t ps =>
    simp only [trOp, Option.bind_eq_some_iff] at htr
    obtain ⟨z, hz, v0, hv0, htr⟩ := htr
    obtain ⟨hd, hv⟩ := defVal_VR (E := E) (w := w) hv0
    have hps : (ps.map fun (x : Nat × Operand) => (x.1, a.eval x.2)) = (ps.toList.map fun p => (p.1, a.eval p.2)).toArray := by
      apply Array.ext'; simp
    split at htr
    · rename_i fs hu
      simp only [Option.bind_eq_some_iff, Option.map_eq_some_iff] at htr
      obtain ⟨pl, hpl, qs, hqs, rfl⟩ := htr
      simp only [aop, Option.map_eq_some_iff, Prod.mk.injEq] at ha
      obtain ⟨_, ⟨z', hz', rfl⟩, rfl, rfl⟩ := ha
      obtain ⟨h1, h2⟩ := hF.parts (fun i => pl[i]?) ps.toList hqs
      refine SimN.val (s := Instr.build t (ps.map fun (x : Nat × Operand) => (x.1, a.eval x.2))) ?_
      rw [hps]
      exact sim_build hH (fs := fs.toList) (by simpa using hu) hz hd hv hpl h1 h2 hz'
    · rename_i n e hu
      simp only [Option.bind_eq_some_iff, Option.map_eq_some_iff] at htr
      obtain ⟨s, hs, qs, hqs, rfl⟩ := htr
      simp only [aop, Option.map_eq_some_iff, Prod.mk.injEq] at ha
      obtain ⟨_, ⟨z', hz', rfl⟩, rfl, rfl⟩ := ha
      obtain ⟨h1, h2⟩ := hF.parts (fun i => some (i * s, s)) ps.toList hqs
      refine SimN.val (s := Instr.build t (ps.map fun (x : Nat × Operand) => (x.1, a.eval x.2))) ?_
      rw [hps]
      exact sim_buildArr hH hu hs hz hd hv h1 (fun k p q hk hq => by obtain ⟨x, y⟩ := h2 k p q hk hq; exact ⟨by simpa using x, y⟩) hz'
    · simp at htr
  | buildSlice t len ps =>
    simp only [trOp] at htr
    split at htr
    · rename_i e hu
      simp only [Option.bind_eq_some_iff] at htr
      obtain ⟨s, hs, htr⟩ := htr
      split at htr
      · rename_i hc
        simp only [Bool.and_eq_true, beq_iff_eq, decide_eq_true_eq] at hc
        obtain ⟨⟨⟨hz, hio⟩, hsz⟩, hbig⟩ := hc
        simp only [Option.map_eq_some_iff] at htr
        obtain ⟨xs, hxs, rfl⟩ := htr
        obtain ⟨hl, hv⟩ := hF.evs _ hxs
        have hps : (ps.map fun (x : Nat × Operand) => (x.1, a.eval x.2)) = ((((ps.toList.map (·.2)).map a.eval).zipIdx 0).map fun p => (p.2, p.1)).toArray := by
          apply Array.ext'
          rw [← inOrder_spec a ps.toList 0 hio]
          simp
        have hlen : (xs.map (Opd.ev fr)).length = len := by simp at hl ⊢; omega
        simp only [aop] at ha
        split at ha
        · simp at ha
        · rename_i hok
          refine SimN.val (s := Instr.buildSlice t len (ps.map fun (x : Nat × Operand) => (x.1, a.eval x.2))) ?_
          rw [hps, ← hlen]
          have := sim_lit (P := P) hH h0 hu hs hz (xs := xs.map (Opd.ev fr)) (vs := (ps.toList.map (·.2)).map a.eval) (by simp at hl ⊢; exact hl) (by simpa using hok) hv (by rw [hlen]; exact hbig) m
          cases m <;> simp only [Option.some.injEq, Prod.mk.injEq] at ha <;> obtain ⟨rfl, rfl⟩ := ha <;> exact this
      · simp at htr
    · simp at htr
  | load t x =>
    simp only [trOp, Option.bind_eq_some_iff, Option.map_eq_some_iff] at htr
    obtain ⟨n, hn, x', hx, rfl⟩ := htr
    obtain ⟨d, hd, hn1, hn2⟩ := aggN_spec hn
    simp only [aop, Option.map_eq_some_iff, Prod.mk.injEq] at ha
    obtain ⟨u, hu, rfl, rfl⟩ := ha
    exact SimN.val (sim_load hH hd hn1 hn2 (hF.ev hx) hu)
  | store t x y =>
    simp only [trOp, Option.bind_eq_some_iff, Option.map_eq_some_iff] at htr
    obtain ⟨n, hn, x', hx, y', hy, rfl⟩ := htr
    simp only [aop, Option.map_eq_some_iff, Prod.mk.injEq] at ha
    obtain ⟨u, hu, rfl, rfl⟩ := ha
    exact SimN.unit (sim_store hH hn (hF.ev hx) (hF.ev hy) hu)
  | nilCheck x =>
    simp only [trOp, Option.map_eq_some_iff] at htr
    obtain ⟨x', hx, rfl⟩ := htr
    have hvx := hF.ev hx
    simp only [aop] at ha
    split at ha <;> simp only [Option.some.injEq, Prod.mk.injEq, reduceCtorEq] at ha <;> obtain ⟨rfl, rfl⟩ := ha <;> rename_i e
    all_goals
      refine SimN.same hH (v' := a.eval x) ?_ hvx
      rw [e] at hvx
      simp only [execOp]
      generalize a.eval x = vx at hvx
      cases hvx <;> rfl
  | binOp op t x y yt =>
    simp only [trOp, Option.bind_eq_some_iff] at htr
    obtain ⟨x', hx, y', hy, htr⟩ := htr
    exact SimN.val (sim_bin' hF hH hx hy htr ha)
  | unOp op t x =>
    cases op with
    | not =>
      simp only [trOp, Option.map_eq_some_iff] at htr
      obtain ⟨x', hx, rfl⟩ := htr
      have hvx := hF.ev hx
      simp only [aop] at ha
      split at ha
      · rename_i b e
        simp only [Option.some.injEq, Prod.mk.injEq] at ha
        obtain ⟨rfl, rfl⟩ := ha
        rw [e] at hvx
        refine SimN.val (s := Op.unary .not (a.eval x)) ?_
        generalize a.eval x = vx at hvx
        cases hvx
        exact Sim.same hH (v' := .bool (!b)) rfl (.bool _)
      · simp at ha
    | neg =>
      simp only [trOp, Option.map_eq_some_iff] at htr
      obtain ⟨x', hx, rfl⟩ := htr
      have hvx := hF.ev hx
      simp only [aop] at ha
      split at ha
      · rename_i k n e
        simp only [Option.some.injEq, Prod.mk.injEq] at ha
        obtain ⟨rfl, rfl⟩ := ha
        rw [e] at hvx
        refine SimN.val (s := Op.unary .neg (a.eval x)) ?_
        generalize a.eval x = vx at hvx
        cases hvx
        exact Sim.same hH (v' := .int k (k.wrap (0 - n))) rfl (.int _ _)
      · simp at ha
    | _ => simp [trOp] at htr
  | convert src dst' x =>
    simp only [trOp, Option.bind_eq_some_iff] at htr
    obtain ⟨x', hx, htr⟩ := htr
    exact SimN.val (sim_conv' hF hH hx htr ha)
  | makeInterface t x =>
    simp only [trOp] at htr
    split at htr
    · simp at htr
    · simp at htr
    · rename_i d hd hu
      simp only [Option.map_eq_some_iff] at htr
      obtain ⟨x', hx, rfl⟩ := htr
      simp only [aop] at ha
      split at ha
      · simp only [Option.some.injEq, Prod.mk.injEq] at ha
        obtain ⟨rfl, rfl⟩ := ha
        refine SimN.val (s := Instr.makeInterface t (a.eval x)) (Sim.same hH (v' := .iface t (a.eval x)) ?_ (.iface _ _ _ (hF.ev hx)))
        simp only [Instr.makeInterface, Sem.run_bind, r_under hu, Result.andThen_ok]
        cases d <;> first | rfl | exact absurd hu (hd _)
      · simp at ha
  | makeFunc f first cap =>
    simp only [trOp, Option.bind_eq_some_iff, Option.map_eq_some_iff] at htr
    obtain ⟨xs, hxs, ys, hys, rfl⟩ := htr
    obtain ⟨l1, v1⟩ := hF.evs _ hxs
    obtain ⟨l2, v2⟩ := hF.evs _ hys
    simp only [aop, Option.some.injEq, Prod.mk.injEq] at ha
    obtain ⟨rfl, rfl⟩ := ha
    refine SimN.val (s := Instr.makeFunc f (first.map a.eval) (cap.map a.eval)) (Sim.same hH (v' := .func f (first.map a.eval) (cap.map a.eval)) rfl (.fn _ _ _ _ _ (by simpa using l1) (by simpa using l2) (fun j x u hj hu => v1 j x u hj ?_) (fun j x u hj hu => v2 j x u hj ?_)))
    · simpa using hu
    · simpa using hu
  | makeMap t r =>
    cases r with
    | none =>
      simp only [trOp, Option.some.injEq] at htr
      subst htr
      simp only [aop, Option.some.injEq, Prod.mk.injEq] at ha
      obtain ⟨rfl, rfl⟩ := ha
      exact SimN.val (sim_mkMap hH t)
    | some r => simp [trOp] at htr
  | makeSlice t l c =>
    simp only [trOp] at htr
    split at htr
    · rename_i e hu
      simp only [Option.bind_eq_some_iff, Option.map_eq_some_iff] at htr
      obtain ⟨s, hs, bytes, hb, z, hz, v0, hv0, l', hl, c', hc, rfl⟩ := htr
      obtain ⟨hd, hv⟩ := defVal_VR (E := E) (w := w) hv0
      have hvl := hF.ev hl
      have hvc := hF.ev hc
      simp only [aop] at ha
      split at ha
      · rename_i kl l0 kc c0 e1 e2
        split at ha
        · rename_i hcond
          simp only [Option.some.injEq] at ha
          rw [e1] at hvl
          rw [e2] at hvc
          refine SimN.val (s := Instr.makeSlice t (a.eval l) (a.eval c)) ?_
          generalize a.eval l = vl at hvl
          generalize a.eval c = vc at hvc
          cases hvl; cases hvc
          exact sim_make hH h0 m hu hs hb hz hv hd ⟨hcond.1, hcond.2.1, hcond.2.2.1, hcond.2.2.2.1, hcond.2.2.2.2.1⟩ hcond.2.2.2.2.2 ha
        · simp at ha
      · simp at ha
    · simp at htr
  | slice t x lo hi mx =>
    cases mx with
    | some mx => simp [trOp] at htr
    | none =>
      simp only [trOp, Option.bind_eq_some_iff] at htr
      obtain ⟨x', hx, lo', hlo, hi', hhi, htr⟩ := htr
      have hvx := hF.ev hx
      have hvl := hF.opt hlo
      have hvh := hF.opt hhi
      split at htr
      · rename_i hu
        simp only [Option.some.injEq] at htr
        subst htr
        simp only [aop] at ha
        split at ha
        · rename_i l e
          simp only [Option.map_eq_some_iff, Prod.mk.injEq] at ha
          obtain ⟨u, hu2, rfl, rfl⟩ := ha
          rw [e] at hvx
          exact SimN.val (s := Instr.sliceAt t (a.eval x) (lo.map a.eval) (hi.map a.eval) none) (sim_slice_str hH hu hvx hvl hvh rfl hu2)
        · simp at ha
      · rename_i e hu
        simp only [Option.map_eq_some_iff] at htr
        obtain ⟨s, hs, rfl⟩ := htr
        simp only [aop] at ha
        split at ha
        · simp at ha
        · rename_i hns
          simp only [Option.map_eq_some_iff, Prod.mk.injEq] at ha
          obtain ⟨u, hu2, rfl, rfl⟩ := ha
          exact SimN.val (s := Instr.sliceAt t (a.eval x) (lo.map a.eval) (hi.map a.eval) none) (sim_slice_row hH hu hs hvx hvl hvh (fun l hl => hns l hl) hu2)
      · simp at htr
  | fieldAddr t x f =>
    simp only [trOp] at htr
    split at htr
    · rename_i fs hu
      simp only [Option.bind_eq_some_iff] at htr
      obtain ⟨fl, hfl, s, hs, htr⟩ := htr
      split at htr
      · simp at htr
      · rename_i hs0
        simp only [Option.map_eq_some_iff] at htr
        obtain ⟨x', hx, rfl⟩ := htr
        simp only [aop, Option.map_eq_some_iff, Prod.mk.injEq] at ha
        obtain ⟨u, hu2, rfl, rfl⟩ := ha
        exact SimN.val (s := Instr.fieldAt t (a.eval x) f) (sim_fieldAddr hH hu hfl hs hs0 (hF.ev hx) hu2)
    · simp at htr
  | field t x f =>
    simp only [trOp] at htr
    split at htr
    · rename_i fs hu
      simp only [Option.bind_eq_some_iff, Option.map_eq_some_iff] at htr
      obtain ⟨fl, hfl, n, hn, x', hx, rfl⟩ := htr
      obtain ⟨d, hd, hn1, hn2⟩ := aggN_spec hn
      have hvx := hF.ev hx
      simp only [aop] at ha
      split at ha
      · rename_i cs e
        simp only [Option.map_eq_some_iff, Prod.mk.injEq] at ha
        obtain ⟨u, hu2, rfl, rfl⟩ := ha
        rw [e] at hvx
        refine SimN.val (s := Instr.field t (a.eval x) f) ?_
        generalize a.eval x = vx at hvx
        cases hvx with
        | agg _ vs l1 v1 =>
          obtain ⟨E', w', v', hr, b, c, dd⟩ := sim_part (P := P) hH hd hn1 hn2 l1 v1 hu2
          refine ⟨E', w', v', ?_, b, c, dd⟩
          rw [← hr]
          simp only [Instr.field, Sem.run_bind, r_under hu, Result.andThen_ok, hfl, asAgg, Sem.run_pure]
      · simp at ha
    · simp at htr
  | indexAddr t x i =>
    simp only [trOp, Option.bind_eq_some_iff] at htr
    obtain ⟨x', hx, i', hi, htr⟩ := htr
    have hvx := hF.ev hx
    have hvi := hF.ev hi
    split at htr
    · rename_i e hu
      simp only [Option.map_eq_some_iff] at htr
      obtain ⟨s, hs, rfl⟩ := htr
      simp only [aop, Option.map_eq_some_iff, Prod.mk.injEq] at ha
      obtain ⟨u, hu2, rfl, rfl⟩ := ha
      exact SimN.val (s := Instr.indexAt t (a.eval x) (a.eval i)) (sim_idxAddr hH hu hs hvx hvi hu2)
    · rename_i len e hu
      simp only [Option.map_eq_some_iff] at htr
      obtain ⟨s, hs, rfl⟩ := htr
      simp only [aop, Option.map_eq_some_iff, Prod.mk.injEq] at ha
      obtain ⟨u, hu2, rfl, rfl⟩ := ha
      refine SimN.val (s := Instr.indexAt t (a.eval x) (a.eval i)) ?_
      generalize a.eval i = vi at hvi
      generalize Opd.ev fr i' = y at hvi hu2
      cases hvi with
      | int k n => exact sim_idxAddrArr hH hu hs hvx hu2
      | _ => unfold aIdxAddrArr at hu2; simp at hu2
    · simp at htr
  | index t x i =>
    simp only [trOp, Option.bind_eq_some_iff] at htr
    obtain ⟨x', hx, i', hi, htr⟩ := htr
    have hvx := hF.ev hx
    have hvi := hF.ev hi
    split at htr
    · rename_i hu
      simp only [Option.some.injEq] at htr
      subst htr
      simp only [aop] at ha
      refine SimN.val (s := Instr.index t (a.eval x) (a.eval i)) ?_
      split at ha
      · rename_i l k n e1 e2
        split at ha
        · rename_i hn
          simp only [Option.map_eq_some_iff, Prod.mk.injEq] at ha
          obtain ⟨_, ⟨b, hb, rfl⟩, rfl, rfl⟩ := ha
          rw [e1] at hvx
          rw [e2] at hvi
          generalize a.eval i = vi at hvi
          generalize a.eval x = vx at hvx
          cases hvi; cases hvx
          exact sim_idxStr hH hu hn hb
        · simp at ha
      · simp at ha
    · rename_i len e hu
      simp only [Option.bind_eq_some_iff, Option.map_eq_some_iff] at htr
      obtain ⟨s, hs, n, hn, rfl⟩ := htr
      obtain ⟨d, hd, hn1, hn2⟩ := aggN_spec hn
      simp only [aop] at ha
      refine SimN.val (s := Instr.index t (a.eval x) (a.eval i)) ?_
      split at ha
      · rename_i cs k j e1 e2
        split at ha
        · rename_i hb
          simp only [Option.map_eq_some_iff, Prod.mk.injEq] at ha
          obtain ⟨u, hu2, rfl, rfl⟩ := ha
          rw [e1] at hvx
          rw [e2] at hvi
          generalize a.eval i = vi at hvi
          cases hvi
          exact sim_idxArr hH hu hs hd hn1 hvx hb hu2
        · simp at ha
      · simp at ha
    · simp at htr
  | lookup t x k ok =>
    simp only [trOp] at htr
    split at htr
    · rename_i kt e hu
      simp only [Option.bind_eq_some_iff, Option.map_eq_some_iff] at htr
      obtain ⟨K, hK, z, hz, x', hx, k', hk, rfl⟩ := htr
      simp only [aop, Option.map_eq_some_iff, Prod.mk.injEq] at ha
      obtain ⟨u, hu2, rfl, rfl⟩ := ha
      exact SimN.val (s := Instr.lookup t (a.eval x) (a.eval k) ok) (sim_lookup hH hu hK hz (ofVal_VR z) (hF.ev hx) (hF.ev hk) hu2)
    · simp at htr
  | mapUpdate t x k y =>
    simp only [trOp] at htr
    split at htr
    · rename_i kt e hu
      simp only [Option.bind_eq_some_iff, Option.map_eq_some_iff] at htr
      obtain ⟨K, hK, x', hx, k', hk, y', hy, rfl⟩ := htr
      have hvx := hF.ev hx
      simp only [aop] at ha
      split at ha
      · rename_i b e1
        split at ha
        · rename_i es clk hc
          split at ha
          · rename_i hcond
            simp only [Bool.and_eq_true] at hcond
            simp only [Option.map_eq_some_iff] at ha
            obtain ⟨r, hr, hrv⟩ := ha
            rw [e1] at hvx
            have := sim_mapUpd (P := P) hH hu hK hvx (hF.ev hk) (hF.ev hy) hc hcond.1 hr
            cases r with
            | none => simp only [Prod.mk.injEq] at hrv; obtain ⟨rfl, rfl⟩ := hrv; exact SimN.unit this
            | some p => simp only [Prod.mk.injEq] at hrv; obtain ⟨rfl, rfl⟩ := hrv; exact SimN.unit this
          · simp at ha
        · simp at ha
      · simp at ha
    · simp at htr
  | insert t x k y =>
    simp only [trOp] at htr
    split at htr
    · rename_i kt e hu
      simp only [Option.bind_eq_some_iff, Option.map_eq_some_iff] at htr
      obtain ⟨K, hK, x', hx, k', hk, y', hy, rfl⟩ := htr
      have hvx := hF.ev hx
      simp only [aop] at ha
      split at ha
      · rename_i b e1
        split at ha
        · rename_i es clk hc
          split at ha
          · rename_i hcond
            simp only [Bool.and_eq_true] at hcond
            simp only [Option.map_eq_some_iff] at ha
            obtain ⟨r, hr, hrv⟩ := ha
            rw [e1] at hvx
            have := sim_mapUpd (P := P) hH hu hK hvx (hF.ev hk) (hF.ev hy) hc hcond.1 hr
            cases r with
            | none => simp only [Prod.mk.injEq] at hrv; obtain ⟨rfl, rfl⟩ := hrv; exact SimN.unit this
            | some p => simp only [Prod.mk.injEq] at hrv; obtain ⟨rfl, rfl⟩ := hrv; exact SimN.unit this
          · simp at ha
        · simp at ha
      · simp at ha
    · simp at htr
  | mapEntry t x k =>
    simp only [trOp] at htr
    split at htr
    · rename_i kt e hu
      simp only [Option.bind_eq_some_iff, Option.map_eq_some_iff] at htr
      obtain ⟨K, hK, z, hz, x', hx, k', hk, rfl⟩ := htr
      have hvx := hF.ev hx
      simp only [aop] at ha
      refine SimN.val (s := Instr.mapEntry t (a.eval x) (a.eval k)) ?_
      split at ha
      · rename_i b e1
        split at ha
        · rename_i es clk hc
          split at ha
          · rename_i hkey
            simp only [Option.map_eq_some_iff] at ha
            obtain ⟨r, hr, hrv⟩ := ha
            rw [e1] at hvx
            have := sim_mapEntry (P := P) hH hu hK hz (ofVal_VR z) hvx (hF.ev hk) hc hkey hr
            cases r with
            | none => simp only [Prod.mk.injEq] at hrv; obtain ⟨rfl, rfl⟩ := hrv; exact this
            | some p => simp only [Prod.mk.injEq] at hrv; obtain ⟨rfl, rfl⟩ := hrv; exact this
          · simp at ha
        · simp at ha
      · simp at ha
    · simp at htr
  | entryStore t x s y =>
    simp only [trOp, Option.bind_eq_some_iff, Option.map_eq_some_iff] at htr
    obtain ⟨x', hx, s', hs, y', hy, rfl⟩ := htr
    have hvx := hF.ev hx
    have hvs := hF.ev hs
    simp only [aop] at ha
    split at ha
    · rename_i b k n e1 e2
      split at ha
      · rename_i es clk hc
        split at ha
        · split at ha
          · rename_i i hi
            simp only [Option.some.injEq, Prod.mk.injEq] at ha
            obtain ⟨rfl, rfl⟩ := ha
            rw [e1] at hvx
            rw [e2] at hvs
            refine SimN.unit (s := Instr.entryStore t (a.eval x) (a.eval s) (a.eval y)) ?_
            generalize a.eval s = vs at hvs
            cases hvs
            exact sim_entrySt hH hvx (hF.ev hy) hc hi
          · simp at ha
        · simp at ha
      · simp at ha
    · simp at ha
  | range t x =>
    simp only [trOp] at htr
    split at htr
    · rename_i hu
      simp only [Option.map_eq_some_iff] at htr
      obtain ⟨x', hx, rfl⟩ := htr
      have hvx := hF.ev hx
      simp only [aop] at ha
      refine SimN.val (s := Instr.range t (a.eval x)) ?_
      split at ha
      · rename_i l e
        simp only [Option.some.injEq, Prod.mk.injEq] at ha
        obtain ⟨rfl, rfl⟩ := ha
        rw [e] at hvx
        generalize a.eval x = vx at hvx
        cases hvx
        exact sim_range hH hu l
      · simp at ha
    · simp at htr
  | next x b =>
    cases b with
    | false => simp [trOp] at htr
    | true =>
      simp only [trOp, Option.map_eq_some_iff] at htr
      obtain ⟨x', hx, rfl⟩ := htr
      have hvx := hF.ev hx
      simp only [aop] at ha
      refine SimN.val (s := Instr.next (a.eval x) true ty) ?_
      split at ha
      · rename_i b e
        split at ha
        · rename_i l pos hc
          rw [e] at hvx
          have := sim_next (P := P) hH (t := ty) hvx hc
          split at ha
          · rename_i hp
            simp only [if_pos hp] at this
            simp only [Option.some.injEq, Prod.mk.injEq] at ha
            obtain ⟨rfl, rfl⟩ := ha
            exact this
          · rename_i hp
            simp only [if_neg hp] at this
            simp only [Option.some.injEq, Prod.mk.injEq] at ha
            obtain ⟨rfl, rfl⟩ := ha
            exact this
        · simp at ha
      · simp at ha
  | extract x i =>
    simp only [trOp, Option.map_eq_some_iff] at htr
    obtain ⟨x', hx, rfl⟩ := htr
    have hvx := hF.ev hx
    simp only [aop] at ha
    split at ha
    · rename_i vs e
      simp only [Option.map_eq_some_iff, Prod.mk.injEq] at ha
      obtain ⟨u, hu2, rfl, rfl⟩ := ha
      rw [e] at hvx
      refine SimN.val (s := Instr.extract (a.eval x) i) ?_
      generalize a.eval x = vx at hvx
      cases hvx with
      | tup _ rs l1 v1 =>
        have hlt := inL hu2
        refine Sim.same hH (v' := rs[i]) ?_ (v1 i u _ hu2 (Array.getElem?_eq_getElem (by omega)))
        simp [Instr.extract, show i < rs.size by omega]
    · simp at ha
  | call c =>
    simp only [trOp] at htr
    split at htr
    · rename_i b hb
      simp only [Option.bind_eq_some_iff] at htr
      obtain ⟨xs, hxs, htr⟩ := htr
      obtain ⟨callee, args, ats⟩ := c
      simp only at hb
      subst hb
      exact sim_builtin hF hH h0 hxs htr ha ty _
    · simp only [Option.bind_eq_some_iff, Option.map_eq_some_iff] at htr
      obtain ⟨f, hf, xs, hxs, rfl⟩ := htr
      exact absurd rfl (hnc _ _ _)
    · simp at htr
  | _ => simp [trOp] at htr

end Go.SV
