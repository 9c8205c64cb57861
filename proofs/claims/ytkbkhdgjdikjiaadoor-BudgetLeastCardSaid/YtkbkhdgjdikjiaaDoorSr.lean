/- Regions whose order is open: the simulation. Own text of the prover; nothing is assumed. -/
import Derived.Test.YtkbkhdgjdikjiaaDoorSq
namespace Go.SV

variable {P : Program} {T : Laid} {E E' : Env} {H H' : AH} {w w' : World} {fr : List AV} {a : Act}

theorem trBin_alloc {op : BinOp} {t : TypeId} {x y : Opd} {z : List AV} : trBin P op t x y ≠ some (.alloc z) := by
  intro h
  unfold trBin at h
  repeat' (split at h)
  all_goals simp only [Option.some.injEq, Option.map_eq_some_iff, reduceCtorEq, and_false, exists_false] at h

theorem trConv_alloc {s d : TypeId} {x : Opd} {z : List AV} : trConv P s d x ≠ some (.alloc z) := by
  intro h
  unfold trConv at h
  repeat' (split at h)
  all_goals simp only [Option.some.injEq, reduceCtorEq] at h

theorem trBuiltin_alloc {m : Mode} {b : Builtin} {ts : List TypeId} {xs : List Opd} {z : List AV} : trBuiltin P m b ts xs ≠ some (.alloc z) := by
  intro h
  unfold trBuiltin at h
  repeat' (split at h)
  all_goals simp only [Option.some.injEq, reduceCtorEq] at h

theorem trOp_alloc {m : Mode} {op : Op} {z : List AV} (h : trOp P m op = some (.alloc z)) : ∃ e, op = .alloc e := by
  unfold trOp at h
  split at h
  all_goals first
    | exact ⟨_, rfl⟩
    | (exfalso
       simp only [Option.bind_eq_some_iff, Option.map_eq_some_iff, reduceCtorEq, and_false, exists_false] at h
       done)
    | (exfalso
       try simp only [Option.bind_eq_some_iff, Option.map_eq_some_iff] at h
       first
         | (obtain ⟨_, _, _, _, h⟩ := h; exact trBin_alloc h)
         | (obtain ⟨_, _, h⟩ := h; exact trConv_alloc h)
         | (repeat' (split at h)
            all_goals first
              | (simp only [Option.bind_eq_some_iff, Option.map_eq_some_iff, Option.some.injEq, reduceCtorEq, and_false, exists_false] at h; done)
              | (try simp only [Option.bind_eq_some_iff, Option.map_eq_some_iff] at h
                 first
                   | (obtain ⟨_, _, h⟩ := h; exact trBuiltin_alloc h)
                   | (obtain ⟨_, _, h⟩ := h; repeat' (split at h)
                      all_goals (simp only [Option.bind_eq_some_iff, Option.map_eq_some_iff, Option.some.injEq, reduceCtorEq, and_false, exists_false] at h; done))
                   | (obtain ⟨_, _, _, _, h⟩ := h; repeat' (split at h)
                      all_goals (simp only [Option.bind_eq_some_iff, Option.map_eq_some_iff, Option.some.injEq, reduceCtorEq, and_false, exists_false] at h; done))
                   | (obtain ⟨_, _, _, _, _, _, h⟩ := h; repeat' (split at h)
                      all_goals (simp only [Option.bind_eq_some_iff, Option.map_eq_some_iff, Option.some.injEq, reduceCtorEq, and_false, exists_false] at h; done)))))

structure Lay (P : Program) (D : Den) (ops : Array Oper) (ios : List IOper) (bef : List (List Nat)) (fr0 : List AV) (H0 : AH) (sts : List (List AV × AH)) (B : Nat → Nat) : Prop where
  size : ops.size = ios.length
  chk : ∀ (j : Nat) o io, ops[j]? = some o → ios[j]? = some io → Chk ops ios bef j o io
  tr : ∀ (j : Nat) io, ios[j]? = some io → ∃ o m, ops[j]? = some o ∧ trOper P ops m o = some io
  step : ∀ (i : Nat) o, ios[i]? = some o → StepAt D o (stF sts i, stH sts i) (stF sts (i + 1), stH sts (i + 1))
  dyn : DynOk ios bef fr0 sts
  hoistF : ∀ t, (∀ (i : Nat) o, ios[i]? = some o → o.op.isAlloc = true → o.dst ≠ some t) → (stF sts 0)[t]? = fr0[t]?
  len : (stF sts 0).length = fr0.length
  B1 : ∀ (i : Nat) o z d, ios[i]? = some o → o.op = .alloc z → o.dst = some d → (stF sts 0)[d]? = some (.ptr (B i) 0) ∧ H0.obs.length ≤ B i ∧ B i < (stH sts 0).obs.length ∧ (stH sts 0).get (B i) = .cells z
  B2 : ∀ (i j : Nat) oi oj, ios[i]? = some oi → ios[j]? = some oj → oi.op.isAlloc = true → oj.op.isAlloc = true → B i = B j → i = j

section
variable {D : Den} {ops : Array Oper} {ios : List IOper} {bef : List (List Nat)} {fr0 : List AV} {H0 : AH} {sts : List (List AV × AH)} {B : Nat → Nat}

theorem Lay.dist (L : Lay P D ops ios bef fr0 H0 sts B) {i j : Nat} {x y : IOper} {d : Nat} (hi : ios[i]? = some x) (hj : ios[j]? = some y) (hx : x.dst = some d) (hy : y.dst = some d) : i = j := by
  obtain ⟨o, m, ho, _⟩ := L.tr j y hj
  exact (L.chk j o y ho hj).dist i x d hi hx hy

theorem Lay.heap1 (L : Lay P D ops ios bef fr0 H0 sts B) {i : Nat} {o : IOper} (hi : ios[i]? = some o) (he : o.op.isEff = false) : stH sts (i + 1) = stH sts i := by
  rcases L.step i o hi with ⟨_, h⟩ | ⟨ha, _, v, hv, _⟩ | ⟨_, _, h, _⟩
  · exact congrArg Prod.snd h
  · exact (floater he ha hv).1
  · exact h

theorem Lay.heaps (L : Lay P D ops ios bef fr0 H0 sts B) {i : Nat} : ∀ {j : Nat}, i ≤ j → j ≤ ios.length → (∀ (e : Nat) o, i ≤ e → e < j → ios[e]? = some o → o.op.isEff = false) → stH sts j = stH sts i := by
  intro j
  induction j with
  | zero => intro h _ _; rw [Nat.le_zero.1 h]
  | succ j ih =>
    intro h hj hn
    rcases Nat.lt_or_ge i (j + 1) with h1 | h1
    · obtain ⟨o, ho⟩ : ∃ o, ios[j]? = some o := ⟨_, List.getElem?_eq_getElem (by omega)⟩
      rw [L.heap1 ho (hn j o (by omega) (by omega) ho), ih (by omega) (by omega) fun e o h1 h2 => hn e o h1 (by omega)]
    · rw [show i = j + 1 by omega]

theorem Lay.gets {β : Type} (φ : AH → β) (L : Lay P D ops ios bef fr0 H0 sts B) {i : Nat} : ∀ {j : Nat}, i ≤ j → j ≤ ios.length →
    (∀ (e : Nat) o, i ≤ e → e < j → ios[e]? = some o → o.op.isEff = true → φ (stH sts (e + 1)) = φ (stH sts e)) → φ (stH sts j) = φ (stH sts i) := by
  intro j
  induction j with
  | zero => intro h _ _; rw [Nat.le_zero.1 h]
  | succ j ih =>
    intro h hj hn
    rcases Nat.lt_or_ge i (j + 1) with h1 | h1
    · obtain ⟨o, ho⟩ : ∃ o, ios[j]? = some o := ⟨_, List.getElem?_eq_getElem (by omega)⟩
      have e1 : φ (stH sts (j + 1)) = φ (stH sts j) := by
        cases he : o.op.isEff with
        | true => exact hn j o (by omega) (by omega) ho he
        | false => rw [L.heap1 ho he]
      rw [e1, ih (by omega) (by omega) fun e o h1 h2 => hn e o h1 (by omega)]
    · rw [show i = j + 1 by omega]

theorem Lay.frame1 (L : Lay P D ops ios bef fr0 H0 sts B) {i : Nat} {o : IOper} (hi : ios[i]? = some o) : (stF sts (i + 1)).length = (stF sts i).length ∧
    ∀ t, (o.op.isAlloc = false → o.dst ≠ some t) → (stF sts (i + 1))[t]? = (stF sts i)[t]? := by
  rcases L.step i o hi with ⟨_, h⟩ | ⟨ha, _, v, _, hv⟩ | ⟨ha, _, _, hv⟩
  · have := congrArg Prod.fst h
    simp only at this
    exact ⟨by rw [this], fun t _ => by rw [this]⟩
  · simp only at hv
    exact ⟨by rw [hv, setd_length], fun t ht => by rw [hv, setd_ne (ht ha)]⟩
  · simp only at hv
    exact ⟨by rw [hv, setd_length], fun t ht => by rw [hv, setd_ne (ht ha)]⟩

theorem Lay.frames (L : Lay P D ops ios bef fr0 H0 sts B) {i t : Nat} : ∀ {j : Nat}, i ≤ j → j ≤ ios.length → (∀ (e : Nat) o, i ≤ e → e < j → ios[e]? = some o → o.op.isAlloc = false → o.dst ≠ some t) → (stF sts j)[t]? = (stF sts i)[t]? := by
  intro j
  induction j with
  | zero => intro h _ _; rw [Nat.le_zero.1 h]
  | succ j ih =>
    intro h hj hn
    rcases Nat.lt_or_ge i (j + 1) with h1 | h1
    · obtain ⟨o, ho⟩ : ∃ o, ios[j]? = some o := ⟨_, List.getElem?_eq_getElem (by omega)⟩
      rw [(L.frame1 ho).2 t (hn j o (by omega) (by omega) ho), ih (by omega) (by omega) fun e o h1 h2 => hn e o h1 (by omega)]
    · rw [show i = j + 1 by omega]

theorem Lay.flen (L : Lay P D ops ios bef fr0 H0 sts B) : ∀ {j : Nat}, j ≤ ios.length → (stF sts j).length = fr0.length := by
  intro j
  induction j with
  | zero => intro _; exact L.len
  | succ j ih =>
    intro hj
    obtain ⟨o, ho⟩ : ∃ o, ios[j]? = some o := ⟨_, List.getElem?_eq_getElem (by omega)⟩
    rw [(L.frame1 ho).1, ih (by omega)]

/-- How far some order has come. -/
structure Inv (ios : List IOper) (bef : List (List Nat)) (fr0 : List AV) (sts : List (List AV × AH)) (B : Nat → Nat) (E0 : Env) (H0 : AH) (w0 : World) (a0 : Act) (listed : Array Bool) (a : Act) (w : World) (E : Env) (c : Nat) (fr : List AV) : Prop where
  size : listed.size = ios.length
  closed : ∀ j, listed[j]? = some true → ∀ k ∈ bq bef j, listed[k]? = some true
  le : c ≤ ios.length
  hH : HRel E (stH sts c) w
  hS : Step E0 H0 w0 E (stH sts c) w
  hF : FR E w fr a.tmps
  def_ : a.defers = a0.defers
  eff : ∀ (e : Nat) o, ios[e]? = some o → o.op.isEff = true → (listed[e]? = some true ↔ e < c)
  done : ∀ (i : Nat) o t, ios[i]? = some o → o.dst = some t → listed[i]? = some true → fr[t]? = (stF sts ios.length)[t]?
  rest : ∀ t, (∀ (i : Nat) o, ios[i]? = some o → listed[i]? = some true → o.dst ≠ some t) → fr[t]? = fr0[t]?
  all : ∀ (i : Nat) o z, ios[i]? = some o → o.op = .alloc z → listed[i]? ≠ some true → E.φ (B i) = none ∧ (stH sts c).get (B i) = .cells z
  obs : (stH sts 0).obs.length ≤ (stH sts c).obs.length
  flen : fr.length = fr0.length

variable {E0 : Env} {w0 : World} {a0 : Act} {listed : Array Bool} {c : Nat}

theorem Lay.reads_eq (L : Lay P D ops ios bef fr0 H0 sts B) (I : Inv ios bef fr0 sts B E0 H0 w0 a0 listed a w E c fr) {j : Nat} {o : Oper} {io : IOper} (ho : ops[j]? = some o) (hio : ios[j]? = some io)
    (hn : listed[j]? ≠ some true) (hb : ∀ k ∈ bq bef j, listed[k]? = some true) : ∀ t ∈ reads io, fr[t]? = (stF sts j)[t]? := by
  intro t ht
  have C := L.chk j o io ho hio
  have hj := getElem?_lt hio
  by_cases hw : ∃ (i : Nat) (x : IOper), ios[i]? = some x ∧ x.dst = some t
  · obtain ⟨i, x, hi, hx⟩ := hw
    have hdone : listed[i]? = some true → (i < j ∨ x.op.isAlloc = true) → fr[t]? = (stF sts j)[t]? := by
      intro hl hlt
      rw [I.done i x t hi hx hl]
      refine L.frames (by omega) (Nat.le_refl _) fun e y h1 h2 hy hna hyd => ?_
      have := L.dist hi hy hx hyd
      subst this
      rw [hi] at hy
      injection hy with hy
      subst hy
      rcases hlt with h | h
      · omega
      · rw [hna] at h; simp at h
    have hrest : listed[i]? ≠ some true → x.op.isAlloc = false → j ≤ i → fr[t]? = (stF sts j)[t]? := by
      intro hl hna hle
      rw [I.rest t (fun k y hk hkl hkd => hl (by rw [L.dist hi hk hx hkd]; exact hkl))]
      rw [L.frames (i := 0) (t := t) (Nat.zero_le _) (Nat.le_of_lt hj) (fun e y h1 h2 hy hya hyd => by have := L.dist hi hy hx hyd; omega)]
      refine (L.hoistF t fun k y hk hka hkd => ?_).symm
      have := L.dist hi hk hx hkd
      subst this
      rw [hi] at hk
      injection hk with hk
      subst hk
      rw [hna] at hka; simp at hka
    rcases C.read i x t hi hx ht with ⟨rfl, hna⟩ | ⟨hlt, hm⟩ | ⟨hlt, hna, hm⟩
    · exact hrest hn hna (Nat.le_refl _)
    · exact hdone (hb i hm) (.inl hlt)
    · exact hrest (fun hl => hn (I.closed i hl j hm)) hna (Nat.le_of_lt hlt)
  · have hno : ∀ (i : Nat) x, ios[i]? = some x → x.dst ≠ some t := fun i x hi hx => hw ⟨i, x, hi, hx⟩
    rw [I.rest t (fun i x hi _ => hno i x hi)]
    rw [L.frames (i := 0) (t := t) (Nat.zero_le _) (Nat.le_of_lt hj) (fun e y h1 h2 hy _ => hno e y hy)]
    exact (L.hoistF t fun i x hi _ => hno i x hi).symm

theorem set_true {listed : Array Bool} {i j : Nat} (hj : j < listed.size) : (listed.setIfInBounds j true)[i]? = some true ↔ i = j ∨ listed[i]? = some true := by
  by_cases h : i = j
  · subst h
    simp [Array.getElem?_setIfInBounds_self, hj]
  · rw [Array.getElem?_setIfInBounds_ne (fun e => h e.symm)]
    simp [h]

/-- After an operation that is no allocation. -/
theorem Lay.next (L : Lay P D ops ios bef fr0 H0 sts B) (I : Inv ios bef fr0 sts B E0 H0 w0 a0 listed a w E c fr) {j : Nat} {o : Oper} {io : IOper} (ho : ops[j]? = some o) (hio : ios[j]? = some io)
    (hn : listed[j]? ≠ some true) (hb : ∀ k ∈ bq bef j, listed[k]? = some true) (hna : io.op.isAlloc = false) {v : AV} (hv : stF sts (j + 1) = setd io.dst v (stF sts j)) {v' : Value}
    {c' : Nat} {E' : Env} {w' : World} (hc : (io.op.isEff = true ∧ c' = j + 1) ∨ (io.op.isEff = false ∧ c' = c)) (hvr : VR E' w' v v') (hH' : HRel E' (stH sts c') w') (hS' : Step E (stH sts c) w E' (stH sts c') w')
    (hd2 : io.op.isEff = true → ∀ (i : Nat) x z, ios[i]? = some x → x.op = .alloc z → listed[i]? ≠ some true → (stH sts c').get (B i) = .cells z) (hdst : o.dst = io.dst) :
    Inv ios bef fr0 sts B E0 H0 w0 a0 (listed.setIfInBounds j true) (a.put o.dst v') w' E' c' (setd io.dst v fr) := by
  have C := L.chk j o io ho hio
  have hj := getElem?_lt hio
  have hjs : j < listed.size := by rw [I.size]; exact hj
  have hlist := fun i => set_true (i := i) hjs
  refine ⟨by simp [I.size], ?_, ?_, hH', I.hS.trans hS', ?_, ?_, ?_, ?_, ?_, ?_, Nat.le_trans I.obs hS'.obs, by rw [setd_length, I.flen]⟩
  · intro i hi k hk
    rw [hlist] at hi ⊢
    rcases hi with rfl | hi
    · exact .inr (hb k hk)
    · exact .inr (I.closed i hi k hk)
  · rcases hc with ⟨_, rfl⟩ | ⟨_, rfl⟩
    · exact hj
    · exact I.le
  · rw [hdst]
    exact (I.hF.mono hS'.ext).put hvr
  · rw [← I.def_]; cases o.dst <;> rfl
  · intro e x he hx
    rw [hlist, I.eff e x he hx]
    rcases hc with ⟨hj1, rfl⟩ | ⟨hj1, rfl⟩
    · have hcj : c ≤ j := by
        rcases Nat.lt_or_ge j c with h | h
        · exact absurd ((I.eff j io hio hj1).2 h) hn
        · exact h
      constructor
      · rintro (rfl | h) <;> omega
      · intro h
        rcases Nat.lt_or_ge e j with h1 | h1
        · exact .inr ((I.eff e x he hx).1 (hb e (C.eff e x he h1 hj1 hx)))
        · exact .inl (by omega)
    · constructor
      · rintro (rfl | h)
        · rw [hio] at he; injection he with he; subst he; rw [hj1] at hx; simp at hx
        · exact h
      · exact .inr
  · intro i x t hi hx hl
    rw [hlist] at hl
    by_cases hij : i = j
    · subst hij
      rw [hio] at hi
      injection hi with hi
      subst hi
      rw [L.frames (i := i + 1) (j := ios.length) (t := t) hj (Nat.le_refl _) (fun e y h1 h2 hy _ hyd => by have := L.dist hio hy hx hyd; omega), hv, hx]
      simp only [setd]
      rw [List.getElem?_set_self', List.getElem?_set_self']
      have hlen : (stF sts i).length = fr.length := by rw [L.flen (Nat.le_of_lt hj), I.flen]
      rcases Nat.lt_or_ge t fr.length with h | h
      · rw [List.getElem?_eq_getElem h, List.getElem?_eq_getElem (by omega)]; rfl
      · rw [List.getElem?_eq_none h, List.getElem?_eq_none (by omega)]
    · have hne : io.dst ≠ some t := fun h => hij (L.dist hi hio hx h)
      rw [setd_ne hne]
      exact I.done i x t hi hx (hl.resolve_left hij)
  · intro t ht
    rw [setd_ne (ht j io hio ((hlist j).2 (.inl rfl)))]
    exact I.rest t fun i x hi hl => ht i x hi ((hlist i).2 (.inr hl))
  · intro i x z hi hx hl
    have hl' : listed[i]? ≠ some true := fun h => hl ((hlist i).2 (.inr h))
    obtain ⟨h1, h2⟩ := I.all i x z hi hx hl'
    obtain ⟨ox, mx, hox, _⟩ := L.tr i x hi
    obtain ⟨d, hd⟩ := Option.isSome_iff_exists.1 ((L.chk i ox x hox hi).alloc (by rw [hx]; rfl)).2
    obtain ⟨_, _, b3, _⟩ := L.B1 i x z d hi hx hd
    refine ⟨?_, ?_⟩
    · cases hφ : E'.φ (B i) with
      | none => rfl
      | some R =>
        have := hS'.old _ _ (Nat.lt_of_lt_of_le b3 I.obs) hφ
        rw [h1] at this; simp at this
    · rcases hc with ⟨hj1, _⟩ | ⟨_, rfl⟩
      · exact hd2 hj1 i x z hi hx hl'
      · exact h2

/-- One operation in some order. -/
theorem Lay.one (L : Lay P D ops ios bef fr0 H0 sts B) (hD : DOk P T D) (I : Inv ios bef fr0 sts B E0 H0 w0 a0 listed a w E c fr) (hH0 : HRel E0 H0 w0) (h0 : Rdy T E0 H0 w0) {j : Nat} {o : Oper} (ho : ops[j]? = some o)
    (hn : listed[j]? ≠ some true) (hb : ∀ k ∈ bq bef j, listed[k]? = some true) {Q : Exit → Act → World → Prop} {K : Act → World → Prop}
    (hK : ∀ a' w' E' c' fr', Inv ios bef fr0 sts B E0 H0 w0 a0 (listed.setIfInBounds j true) a' w' E' c' fr' → K a' w') : wpOp P ops Q j K a w := by
  have hlt : j < ios.length := by
    rw [← L.size]
    rcases Nat.lt_or_ge j ops.size with h | h
    · exact h
    · rw [Array.getElem?_eq_none h] at ho; simp at ho
  obtain ⟨io, hio⟩ : ∃ io, ios[j]? = some io := ⟨_, List.getElem?_eq_getElem hlt⟩
  obtain ⟨o', m, ho', htr⟩ := L.tr j io hio
  rw [ho] at ho'
  injection ho' with ho'
  subst ho'
  have C := L.chk j o io ho hio
  have hrd := L.reads_eq I ho hio hn hb
  have h0c : Rdy T E (stH sts c) w := h0.step hH0 I.hS
  simp only [trOper, Option.bind_eq_some_iff, Option.map_eq_some_iff] at htr
  obtain ⟨op, hop, g, hg, hioe⟩ := htr
  have hdst : o.dst = io.dst := by rw [← hioe]
  have hguard : io.guard = g := by rw [← hioe]
  have hopi : io.op = op := by rw [← hioe]
  unfold wpOp
  simp only [ho]
  rcases L.step j io hio with ⟨hal, hse⟩ | ⟨hna, hw, v, hv, hf⟩ | ⟨hna, hw, hh, hf⟩
  · -- an allocation
    obtain ⟨z, hz⟩ : ∃ z, io.op = .alloc z := by revert hal; cases io.op <;> simp [IOp.isAlloc]
    obtain ⟨hgn, hds⟩ := C.alloc hal
    obtain ⟨d, hd⟩ := Option.isSome_iff_exists.1 hds
    obtain ⟨b1, b2, b3, b4⟩ := L.B1 j io z d hio hz hd
    obtain ⟨a1, a2⟩ := I.all j io z hio hz hn
    have hwant : Region.wanted o (yielded ops a.tmps) = true := want_ok I.hF hg (by rw [← hguard, hgn]; rfl)
    rw [hwant]
    simp only [if_true]
    refine .inl ?_
    rw [hz] at hopi
    obtain ⟨e, hoe⟩ : ∃ e, o.op = .alloc e := trOp_alloc (by rw [hop, ← hopi])
    rw [hoe, ← hopi] at hop
    simp only [trOp, Option.bind_eq_some_iff, Option.map_eq_some_iff, IOp.alloc.injEq] at hop
    obtain ⟨zv, hzv, v0, hv0, hzz⟩ := hop
    obtain ⟨hdf, hvr⟩ := defVal_VR (E := E) (w := w) hv0
    have hdef : v0 ≠ .undef := by rintro rfl; simp [AV.def?] at hdf
    obtain ⟨hl, hcv⟩ := hvr.cells hdef
    rw [hzz] at hl hcv
    have hfill := I.hH.fillRef (.cells zv.cells e) (b := B j) ⟨w.heap.size, 0, zv.cells.size⟩ (Nat.lt_of_lt_of_le b3 I.obs) a1 rfl (fun E' hx hnp => by
      rw [a2]
      refine ⟨zv.cells, e, (0, 0), heap_alloc_new _ _, rfl, by simp; omega, fun k x hk => ?_, .inl rfl, hnp⟩
      have hk' : k < zv.cells.size := by rw [← hl]; exact getElem?_lt hk
      exact ⟨zv.cells[k], by simp [hk'], (hcv k x _ hk (by simp [hk'])).mono hx⟩)
    obtain ⟨f1, f2, f3, f4⟩ := hfill
    have hrun : (execOp a.eval o).run P w = .ok (.value (.pointer (some ⟨w.heap.size, 0, none⟩))) (w.alloc (.cells zv.cells e)) := by
      obtain ⟨dst, op', ty, pos, after, guard⟩ := o
      simp only at hoe
      subst hoe
      simp only [execOp, Instr.alloc, Sem.run_bind, r_zero hzv, Result.andThen_ok]
      rfl
    unfold Oper.wp
    rw [hrun]
    have hjs : j < listed.size := by rw [I.size]; exact hlt
    have hlist := fun i => set_true (i := i) hjs
    refine hK _ _ (E.addRef (B j) ⟨w.heap.size, 0, zv.cells.size⟩) c (setd io.dst (.ptr (B j) 0) fr) ?_
    have hvp : VR (E.addRef (B j) ⟨w.heap.size, 0, zv.cells.size⟩) (w.alloc (.cells zv.cells e)) (.ptr (B j) 0) (.pointer (some ⟨w.heap.size, 0, none⟩)) := .ptr _ 0 _ f3
    refine ⟨by simp [I.size], ?_, I.le, f1, fill_step I.hS rfl b2 f2, ?_, ?_, ?_, ?_, ?_, ?_, I.obs, by rw [setd_length, I.flen]⟩
    · intro i hi k hk
      rw [hlist] at hi ⊢
      rcases hi with rfl | hi
      · exact .inr (hb k hk)
      · exact .inr (I.closed i hi k hk)
    · rw [hdst]
      exact (I.hF.mono f2).put hvp
    · rw [← I.def_]; cases o.dst <;> rfl
    · intro e' x he hx
      rw [hlist, I.eff e' x he hx]
      constructor
      · rintro (rfl | h)
        · rw [hio] at he; injection he with he; subst he
          rw [hz] at hx; simp [IOp.isEff] at hx
        · exact h
      · exact .inr
    · intro i x t hi hx hl'
      rw [hlist] at hl'
      by_cases hij : i = j
      · subst hij
        rw [hio] at hi
        injection hi with hi
        subst hi
        rw [hd] at hx
        injection hx with hx
        subst hx
        rw [L.frames (i := 0) (j := ios.length) (t := d) (Nat.zero_le _) (Nat.le_refl _) (fun e y h1 h2 hy hya hyd => by
          have := L.dist hio hy hd hyd
          subst this
          rw [hio] at hy; injection hy with hy; subst hy
          rw [hal] at hya; simp at hya), b1, hd]
        simp only [setd]
        rw [List.getElem?_set_self]
        rw [I.flen, ← L.len]
        exact getElem?_lt b1
      · have hne : io.dst ≠ some t := fun h => hij (L.dist hi hio hx h)
        rw [setd_ne hne]
        exact I.done i x t hi hx (hl'.resolve_left hij)
    · intro t ht
      rw [setd_ne (ht j io hio ((hlist j).2 (.inl rfl)))]
      exact I.rest t fun i x hi hl => ht i x hi ((hlist i).2 (.inr hl))
    · intro i x z' hi hx hl'
      have hl'' : listed[i]? ≠ some true := fun h => hl' ((hlist i).2 (.inr h))
      have hij : i ≠ j := fun h => hl' ((hlist i).2 (.inl h))
      obtain ⟨h1, h2⟩ := I.all i x z' hi hx hl''
      refine ⟨?_, h2⟩
      rw [f4 (B i) (fun h => hij (L.B2 i j x io hi hio (by rw [hx]; rfl) hal h))]
      exact h1
  · -- it is carried out
    simp only at hw hv hf
    obtain ⟨hi1, hi2⟩ := iop_reads (D := D) hrd (stH sts j)
    have hwant : Region.wanted o (yielded ops a.tmps) = true := want_ok I.hF hg (by rw [← hguard, hi2]; exact hw)
    rw [hwant]
    simp only [if_true]
    refine .inl ?_
    rw [← hi1] at hv
    cases he : io.op.isEff with
    | true =>
      have hcj : c ≤ j := by
        rcases Nat.lt_or_ge j c with h | h
        · exact absurd ((I.eff j io hio he).2 h) hn
        · exact h
      have hsame : stH sts j = stH sts c := L.heaps hcj (Nat.le_of_lt hlt) fun e x h1 h2 hx => by
        cases hxe : x.op.isEff with
        | false => rfl
        | true =>
          have := (I.eff e x hx hxe).1 (hb e (C.eff e x hx h2 he hxe))
          omega
      rw [hsame, hopi] at hv
      refine one_op hD I.hF I.hH h0c o hop hv fun E' w' v' hv' hH' hS' => ?_
      refine hK _ _ E' (j + 1) (setd io.dst v fr) (L.next I ho hio hn hb hna hf (.inl ⟨he, rfl⟩) hv' hH' hS' (fun _ i x z hi hx hl => ?_) hdst)
      obtain ⟨ox, mx, hox, _⟩ := L.tr i x hi
      obtain ⟨d, hd⟩ := Option.isSome_iff_exists.1 ((L.chk i ox x hox hi).alloc (by rw [hx]; rfl)).2
      obtain ⟨b1, _⟩ := L.B1 i x z d hi hx hd
      exact L.dyn.2.2 j i io z d (B i) hio he (fun h => hl (hb i h)) (by rw [hi]; simp [hx, hd]) b1
    | false =>
      have hna' : ∀ H, iop D (stF sts j) io.op H = aop (stF sts j) io.op H := fun H => by cases hop' : io.op <;> first | rfl | (rw [hop'] at he; simp [IOp.isEff] at he)
      have hio' : ∀ H, iop D fr io.op H = aop (stF sts j) io.op H := fun H => by rw [(iop_reads (D := D) hrd H).1]; exact hna' H
      have hφ : (aop (stF sts j) io.op (stH sts c)).map (·.1) = (aop (stF sts j) io.op (stH sts j)).map (·.1) := by
        rcases Nat.lt_or_ge j c with hlt' | hge
        · refine L.gets (fun H => (aop (stF sts j) io.op H).map (·.1)) (Nat.le_of_lt hlt') I.le fun e x h1 h2 hx hxe => ?_
          have hel : listed[e]? = some true := (I.eff e x hx hxe).2 h2
          refine L.dyn.2.1 e j x io hx hio hxe he hna (fun h => ?_) (fun h => ?_)
          · have := (C.sub e h).1; omega
          · exact hn (I.closed e hel j h)
        · refine (L.gets (fun H => (aop (stF sts j) io.op H).map (·.1)) hge (Nat.le_of_lt hlt) fun e x h1 h2 hx hxe => ?_).symm
          have hel : listed[e]? ≠ some true := fun h => by have := (I.eff e x hx hxe).1 h; omega
          refine L.dyn.2.1 e j x io hx hio hxe he hna (fun h => hel (hb e h)) (fun h => ?_)
          obtain ⟨oe, me, hoe, _⟩ := L.tr e x hx
          have := ((L.chk e oe x hoe hx).sub j h).1
          omega
      have hfl : iop D fr io.op (stH sts c) = some (v, stH sts c) := by
        rw [hio'] at hv ⊢
        rw [hv] at hφ
        simp only [Option.map_some, Option.map_eq_some_iff] at hφ
        obtain ⟨⟨v2, H2⟩, h1, rfl⟩ := hφ
        have h2 := (floater he hna (show iop D (stF sts j) io.op (stH sts c) = some (v2, H2) by rw [hna']; exact h1)).1
        rw [h1, h2]
      rw [hopi] at hfl
      refine one_op hD I.hF I.hH h0c o hop hfl fun E' w' v' hv' hH' hS' => ?_
      exact hK _ _ E' c (setd io.dst v fr) (L.next I ho hio hn hb hna hf (.inr ⟨he, rfl⟩) hv' hH' hS' (fun h => by rw [he] at h; simp at h) hdst)
  · -- it is passed over
    simp only at hw hh hf
    obtain ⟨hi1, hi2⟩ := iop_reads (D := D) hrd (stH sts j)
    have hwant : Region.wanted o (yielded ops a.tmps) = false := want_ok I.hF hg (by rw [← hguard, hi2]; exact hw)
    rw [hwant]
    simp only [Bool.false_eq_true, if_false]
    cases he : io.op.isEff with
    | true =>
      have hcj : c ≤ j := by
        rcases Nat.lt_or_ge j c with h | h
        · exact absurd ((I.eff j io hio he).2 h) hn
        · exact h
      have hsame : stH sts j = stH sts c := L.heaps hcj (Nat.le_of_lt hlt) fun e x h1 h2 hx => by
        cases hxe : x.op.isEff with
        | false => rfl
        | true =>
          have := (I.eff e x hx hxe).1 (hb e (C.eff e x hx h2 he hxe))
          omega
      refine hK _ _ E (j + 1) (setd io.dst (.tup []) fr) (L.next I ho hio hn hb hna hf (.inl ⟨he, rfl⟩) VR.skip ?_ ?_ (fun _ i x z hi hx hl => ?_) hdst)
      · rw [hh, hsame]; exact I.hH
      · rw [hh, hsame]; exact .refl _ _ _
      · rw [hh, hsame]; exact (I.all i x z hi hx hl).2
    | false =>
      exact hK _ _ E c (setd io.dst (.tup []) fr) (L.next I ho hio hn hb hna hf (.inr ⟨he, rfl⟩) VR.skip I.hH (.refl _ _ _) (fun h => by rw [he] at h; simp at h) hdst)

/-- How many are not listed. -/
def unl (listed : Array Bool) : Nat := (listed.toList.filter (!·)).length

theorem unl_set {listed : Array Bool} {j : Nat} (h : listed[j]? = some false) : unl (listed.setIfInBounds j true) + 1 = unl listed := by
  have key : ∀ (l : List Bool) (j : Nat), l[j]? = some false → ((l.set j true).filter (!·)).length + 1 = (l.filter (!·)).length := by
    intro l
    induction l with
    | nil => intro j h; simp at h
    | cons x l ih =>
      intro j h
      cases j with
      | zero =>
        simp only [List.getElem?_cons_zero, Option.some.injEq] at h
        subst h
        simp
      | succ j =>
        have := ih j (by simpa using h)
        cases x <;> simp [List.filter_cons] <;> omega
  unfold unl
  rw [Array.toList_setIfInBounds]
  exact key _ _ (by rw [Array.getElem?_toList]; exact h)

theorem unl_zero {listed : Array Bool} (h : unl listed = 0) (j : Nat) (hj : j < listed.size) : listed[j]? = some true := by
  unfold unl at h
  rw [List.length_eq_zero_iff, List.filter_eq_nil_iff] at h
  have := h listed[j] (by simp)
  simp at this
  rw [Array.getElem?_eq_getElem hj, this]

theorem Lay.any (L : Lay P D ops ios bef fr0 H0 sts B) (hD : DOk P T D) (hH0 : HRel E0 H0 w0) (h0 : Rdy T E0 H0 w0) {Q : Exit → Act → World → Prop}
    (hQ : ∀ E' w' a', FR E' w' (stF sts ios.length) a'.tmps → HRel E' (stH sts ios.length) w' → Step E0 H0 w0 E' (stH sts ios.length) w' → a'.defers = a0.defers → Q .normal a' w') :
    ∀ (fuel : Nat) (listed : Array Bool) (a : Act) (w : World) (E : Env) (c : Nat) (fr : List AV), unl listed = fuel → Inv ios bef fr0 sts B E0 H0 w0 a0 listed a w E c fr → wpAny P .any ops Q fuel listed a w := by
  have fin : ∀ (listed : Array Bool) (a : Act) (w : World) (E : Env) (c : Nat) (fr : List AV), (∀ j, j < ios.length → listed[j]? = some true) → Inv ios bef fr0 sts B E0 H0 w0 a0 listed a w E c fr → Q .normal a w := by
    intro listed a w E c fr hall I
    have hfr : fr = stF sts ios.length := by
      refine List.ext_getElem? fun t => ?_
      by_cases hw : ∃ (i : Nat) (x : IOper), ios[i]? = some x ∧ x.dst = some t
      · obtain ⟨i, x, hi, hx⟩ := hw
        exact I.done i x t hi hx (hall i (getElem?_lt hi))
      · have hno : ∀ (i : Nat) x, ios[i]? = some x → x.dst ≠ some t := fun i x hi hx => hw ⟨i, x, hi, hx⟩
        rw [I.rest t (fun i x hi _ => hno i x hi), L.frames (i := 0) (t := t) (Nat.zero_le _) (Nat.le_refl _) (fun e y h1 h2 hy _ => hno e y hy)]
        exact (L.hoistF t fun i x hi _ => hno i x hi).symm
    have hh : stH sts ios.length = stH sts c := L.heaps I.le (Nat.le_refl _) fun e x h1 h2 hx => by
      cases hxe : x.op.isEff with
      | false => rfl
      | true => have := (I.eff e x hx hxe).1 (hall e h2); omega
    refine hQ E w a ?_ ?_ ?_ I.def_
    · rw [← hfr]; exact I.hF
    · rw [hh]; exact I.hH
    · rw [hh]; exact I.hS
  intro fuel
  induction fuel with
  | zero =>
    intro listed a w E c fr hu I
    have hall : ∀ j, j < ios.length → listed[j]? = some true := fun j hj => unl_zero hu j (by rw [I.size]; exact hj)
    refine ⟨?_, fin listed a w E c fr hall I⟩
    rw [Region.ready, List.filter_eq_nil_iff]
    intro j hj
    rw [List.mem_range, L.size] at hj
    have h1 := hall j hj
    simp [Array.getD_eq_getD_getElem?, h1]
  | succ fuel ih =>
    intro listed a w E c fr hu I
    refine ⟨fun hr => fin listed a w E c fr ?_ I, fun j hj => ?_⟩
    · rw [Region.ready, List.filter_eq_nil_iff] at hr
      intro j
      induction j using Nat.strongRecOn with
      | _ j ihj =>
        intro hj
        have h1 := hr j (by rw [List.mem_range, L.size]; exact hj)
        have hjs : j < listed.size := by rw [I.size]; exact hj
        obtain ⟨o, ho⟩ : ∃ o, ops[j]? = some o := ⟨_, Array.getElem?_eq_getElem (by rw [L.size]; exact hj)⟩
        obtain ⟨io, hio⟩ : ∃ io, ios[j]? = some io := ⟨_, List.getElem?_eq_getElem hj⟩
        have C := L.chk j o io ho hio
        simp only [ho, Option.map_some, Option.getD_some, Bool.and_eq_true, Bool.not_eq_true', not_and, Array.all_eq_true_iff_forall_mem, Bool.or_eq_true] at h1
        cases hl : listed[j] with
        | true => rw [Array.getElem?_eq_getElem hjs, hl]
        | false =>
          exfalso
          refine h1 (by simp [Array.getD_eq_getD_getElem?, hjs, hl]) fun e he => ?_
          cases hb : Region.binds .any e with
          | false => exact .inl rfl
          | true =>
            have hlt := C.back e he hb
            exact .inr (by simp [Array.getD_eq_getD_getElem?, ihj e.on hlt (by omega)])
    · rw [Region.ready, List.mem_filter, List.mem_range, L.size] at hj
      obtain ⟨hj, h1⟩ := hj
      obtain ⟨o, ho⟩ : ∃ o, ops[j]? = some o := ⟨_, Array.getElem?_eq_getElem (by rw [L.size]; exact hj)⟩
      obtain ⟨io, hio⟩ : ∃ io, ios[j]? = some io := ⟨_, List.getElem?_eq_getElem hj⟩
      have hjs : j < listed.size := by rw [I.size]; exact hj
      have C := L.chk j o io ho hio
      simp only [ho, Option.map_some, Option.getD_some, Bool.and_eq_true, Bool.not_eq_true', Array.all_eq_true_iff_forall_mem, Bool.or_eq_true] at h1
      have hlf : listed[j]? = some false := by
        have := h1.1
        simp [Array.getD_eq_getD_getElem?, hjs] at this
        rw [Array.getElem?_eq_getElem hjs, this]
      refine L.one hD I hH0 h0 ho (by rw [hlf]; simp) (fun k hk => ?_) fun a' w' E' c' fr' I' => ih _ a' w' E' c' fr' (by have := unl_set hlf; omega) I'
      obtain ⟨hlt, e, he, hb, hor⟩ := C.sub k hk
      have hon : listed[e.on]? = some true := by
        have hlt' := C.back e he hb
        rcases h1.2 e he with h | h
        · rw [hb] at h; simp at h
        · have hes : e.on < listed.size := by omega
          simp [Array.getD_eq_getD_getElem?, hes] at h
          rw [Array.getElem?_eq_getElem hes, h]
      rcases hor with rfl | hor
      · exact hon
      · exact I.closed _ hon k hor

end

theorem unl_start (n : Nat) : unl (Array.replicate n false) = n := by simp [unl]

theorem sim_dreg {D : Den} (hD : DOk P T D) {ops : Array Oper} {ios : List IOper} {bef : List (List Nat)} (hr : OpsR P ops (List.range ops.size) ios) (hc : dOk ops ios bef = true) (hm : P.follows .mixedOrders = true)
    (hF : FR E w fr a.tmps) (hH : HRel E H w) (h0 : Rdy T E H w) {fr' : List AV} (h : dreg D ios bef fr H = some (fr', H')) {id : Nat} {Q : Exit → Act → World → Prop}
    (hQ : ∀ E' w' a', FR E' w' fr' a'.tmps → HRel E' H' w' → Step E H w E' H' w' → a'.defers = a.defers → Q .normal a' w') : (Code.region id ops true).wp P Q a w := by
  obtain ⟨hsz, hchk⟩ := chk_spec hc
  obtain ⟨_, hat⟩ := hr.at
  simp only [dreg] at h
  split at h
  · rename_i sts hst
    split at h
    · rename_i hdyn
      simp only [Option.some.injEq, Prod.mk.injEq] at h
      obtain ⟨rfl, rfl⟩ := h
      have htr : ∀ (j : Nat) io, ios[j]? = some io → ∃ o m, ops[j]? = some o ∧ trOper P ops m o = some io := fun j io hio =>
        hat j j io (by rw [List.getElem?_range]; rw [hsz]; exact getElem?_lt hio) hio
      have hdist : ∀ (i j : Nat) oi oj d, ios[i]? = some oi → ios[j]? = some oj → oi.dst = some d → oj.dst = some d → i = j := fun i j oi oj d hi hj h1 h2 => by
        obtain ⟨o, m, ho, _⟩ := htr j oj hj
        exact (hchk j o oj ho hj).dist i oi d hi h1 h2
      obtain ⟨B, b1, b2, ⟨l, b3⟩, b4, b5, b6⟩ := hoist_spec ios fr H hdist hdyn.1 (fun i o hi ha => by
        obtain ⟨o', m, ho, _⟩ := htr i o hi
        exact ((hchk i o' o ho hi).alloc ha).2)
      obtain ⟨t1, t2, t3⟩ := trace_spec ios _ _ sts hst
      have L : Lay P D ops ios bef fr H sts B := ⟨hsz, hchk, htr, t3, hdyn, by rw [t1]; exact b6, by rw [t1]; exact b1, by rw [t1, t2]; exact b4, b5⟩
      obtain ⟨hd1, hd2⟩ := hH.drew (w.drawn + 1)
      obtain ⟨hx1, hx2⟩ := hd1.extend l
      have hH0 : stH sts 0 = ⟨H.obs ++ l, H.toks⟩ := by
        rw [t2]
        cases hh : (hoist ios fr H).2 with
        | mk obs toks => rw [hh] at b2 b3; simp only at b2 b3; rw [b2, b3]
      refine wp_region_any hm (L.any (E0 := E) (w0 := w) (a0 := a) hD hH h0 hQ ops.size _ a _ E 0 fr (unl_start _) ?_)
      have hnl : ∀ i : Nat, (Array.replicate ops.size false)[i]? ≠ some true := by
        intro i h
        rw [Array.getElem?_replicate] at h
        split at h <;> simp at h
      refine ⟨by simp [hsz], fun j hj => absurd hj (hnl j), Nat.zero_le _, by rw [hH0]; exact hx1, by rw [hH0]; exact hd2.trans hx2, hF.mono hd2.ext, rfl, ?_, ?_, fun _ _ => rfl, ?_, Nat.le_refl _, rfl⟩
      · intro e o _ _
        exact ⟨fun h => absurd h (hnl e), fun h => absurd h (Nat.not_lt_zero _)⟩
      · intro i o t _ _ h
        exact absurd h (hnl i)
      · intro i o z hi hz _
        obtain ⟨o', m, ho, _⟩ := htr i o hi
        obtain ⟨d, hd⟩ := Option.isSome_iff_exists.1 ((hchk i o' o ho hi).alloc (by rw [hz]; rfl)).2
        obtain ⟨_, c2, _, c4⟩ := L.B1 i o z d hi hz hd
        refine ⟨?_, c4⟩
        cases hφ : E.φ (B i) with
        | none => rfl
        | some R => have := hH.lt _ _ hφ; omega
    · simp at h
  · simp at h

end Go.SV
