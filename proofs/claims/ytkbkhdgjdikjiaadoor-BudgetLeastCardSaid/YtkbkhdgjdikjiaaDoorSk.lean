/- Maps and iterators over strings. Own text of the prover; nothing is assumed. -/
import Derived.Test.YtkbkhdgjdikjiaaDoorSj
namespace Go.SV

variable {P : Program} {E E' : Env} {H H' : AH} {w w' : World}

/-- Entries against entries. -/
def EsR (E : Env) (w : World) (es : List (AV × AV × Nat)) (res : List MapEntry) : Prop :=
  es.length = res.length ∧ ∀ (j : Nat) x m, es[j]? = some x → res[j]? = some m → VR E w x.1 m.key ∧ VR E w x.2.1 m.val ∧ m.born = x.2.2

theorem EsR.tail {x : AV × AV × Nat} {es : List (AV × AV × Nat)} {m : MapEntry} {res : List MapEntry} (h : EsR E w (x :: es) (m :: res)) : EsR E w es res :=
  ⟨by simpa using h.1, fun j y n hj hm => h.2 (j + 1) y n (by simpa using hj) (by simpa using hm)⟩

/-- What a search came to, against what the machine's came to. -/
def FindR (E : Env) (w : World) : Option (Nat × AV) → Option (Nat × Value) → Prop
  | none, none => True
  | some (i, v), some (j, u) => i = j ∧ VR E w v u
  | _, _ => False

theorem asking_run {t : Nat} {K : KeyK} (hK : keyT P t = some K) {k : AV} {vk : Value} (hk : VR E w k vk) (es : List (AV × AV × Nat)) : ∀ (res : List MapEntry) (i : Nat) r, EsR E w es res → aFind K k es i = some r →
    ∃ r', (Instr.findAsking t vk res i).run P w = .ok r' w ∧ FindR E w r r' := by
  induction es with
  | nil =>
    intro res i r hr h
    cases res with
    | nil => simp only [aFind, Option.some.injEq] at h; subst h; exact ⟨none, by simp [Instr.findAsking], trivial⟩
    | cons m res => simp [EsR] at hr
  | cons e es ih =>
    intro res i r hr h
    cases res with
    | nil => simp [EsR] at hr
    | cons m res =>
      obtain ⟨h1, h2, _⟩ := hr.2 0 e m rfl rfl
      simp only [aFind] at h
      split at h
      · rename_i he
        simp only [Option.some.injEq] at h
        subst h
        exact ⟨some (i, m.val), by simp [Instr.findAsking, keyEq_run hK hk h1 he], rfl, h2⟩
      · rename_i he
        obtain ⟨r', hr', hf⟩ := ih res (i + 1) r hr.tail h
        exact ⟨r', by simpa [Instr.findAsking, keyEq_run hK hk h1 he] using hr', hf⟩
      · simp at h

theorem sameNow_eq {t : Nat} {c : CK} (hc : scalT P t = some c) {d : TypeDesc} (hu : P.underlying t = some d) {x y : AV} {vx vy : Value} (hx : VR E w x vx) (hy : VR E w y vy) {b : Bool} (h : cellEq c x y = some b) : Instr.sameNow d vx vy = some b := by
  unfold scalT at hc
  cases d <;> simp [hu] at hc <;> subst hc
  · cases hx <;> cases hy <;> simp [cellEq] at h
    subst h; rfl
  · cases hx <;> cases hy <;> simp [cellEq] at h
    obtain ⟨rfl, rfl⟩ := h
    simp [Instr.sameNow]
  · cases hx <;> cases hy <;> simp [cellEq] at h
    subst h
    simp only [Instr.sameNow]
    rw [beq_toListBytes, toList_mk, toList_mk]

theorem now_run {t : Nat} {c : CK} (hc : scalT P t = some c) {d : TypeDesc} (hu : P.underlying t = some d) {k : AV} {vk : Value} (hk : VR E w k vk) (es : List (AV × AV × Nat)) : ∀ (res : List MapEntry) (i : Nat) r, EsR E w es res → aFind (.scal c) k es i = some r →
    ∃ r', Instr.findNow d vk res i = some r' ∧ FindR E w r r' := by
  induction es with
  | nil =>
    intro res i r hr h
    cases res with
    | nil => simp only [aFind, Option.some.injEq] at h; subst h; exact ⟨none, rfl, trivial⟩
    | cons m res => simp [EsR] at hr
  | cons e es ih =>
    intro res i r hr h
    cases res with
    | nil => simp [EsR] at hr
    | cons m res =>
      obtain ⟨h1, h2, _⟩ := hr.2 0 e m rfl rfl
      simp only [aFind, keyEq] at h
      split at h
      · rename_i he
        simp only [Option.some.injEq] at h
        subst h
        exact ⟨some (i, m.val), by simp [Instr.findNow, sameNow_eq hc hu hk h1 he], rfl, h2⟩
      · rename_i he
        obtain ⟨r', hr', hf⟩ := ih res (i + 1) r hr.tail h
        exact ⟨r', by simpa [Instr.findNow, sameNow_eq hc hu hk h1 he] using hr', hf⟩
      · simp at h

theorem find_run {t : Nat} {K : KeyK} (hK : keyT P t = some K) {k : AV} {vk : Value} (hk : VR E w k vk) {es : List (AV × AV × Nat)} {res : List MapEntry} {r : Option (Nat × AV)} (hr : EsR E w es res) (h : aFind K k es 0 = some r) :
    ∃ r', (Instr.findKey t vk res).run P w = .ok r' w ∧ FindR E w r r' := by
  have hK' := hK
  unfold keyT at hK
  split at hK
  · rename_i c hc
    simp only [Option.some.injEq] at hK
    subst hK
    have hu : ∃ d, P.underlying t = some d := by
      unfold scalT at hc
      cases hu : P.underlying t with
      | none => simp [hu] at hc
      | some d => exact ⟨d, rfl⟩
    obtain ⟨d, hu⟩ := hu
    obtain ⟨r', h1, h2⟩ := now_run hc hu hk es res 0 r hr h
    exact ⟨r', by simp [Instr.findKey, r_under hu, h1], h2⟩
  · split at hK
    · rename_i fs hu
      cases es with
      | nil =>
        cases res with
        | nil => simp only [aFind, Option.some.injEq] at h; subst h; exact ⟨none, by simp [Instr.findKey, r_under hu, Instr.findNow], trivial⟩
        | cons m res => simp [EsR] at hr
      | cons e es =>
        cases res with
        | nil => simp [EsR] at hr
        | cons m res =>
          obtain ⟨r', h1, h2⟩ := asking_run hK' hk (e :: es) (m :: res) 0 r hr h
          refine ⟨r', ?_, h2⟩
          simp only [Instr.findKey, Sem.run_bind, r_under hu, Result.andThen_ok, Instr.findNow, Instr.sameNow]
          exact h1
    · simp at hK

theorem check_scal {t : Nat} {c : CK} (hc : scalT P t = some c) (b : Bool) (n : Nat) (v : Value) : (Instr.checkKey b (n + 1) t v).run P w = .ok () w := by
  unfold scalT at hc
  cases hu : P.underlying t with
  | none => simp [hu] at hc
  | some d =>
    cases d <;> simp [hu] at hc <;> simp [Instr.checkKey, r_under hu]

theorem check_fields (b : Bool) (n : Nat) {vs : Array Value} (fs : List Field) : ∀ (k : Nat) (ks : List CK), flatFs P fs k = some ks → k + ks.length ≤ vs.size →
    (forIn (m := Sem) fs PUnit.unit fun f _ =>
      if f.name ≠ "_" then do
        let a ← Go.part f.type vs f.offset
        Instr.checkKey b (n + 1) f.type a
        pure (ForInStep.yield PUnit.unit)
      else pure (ForInStep.yield PUnit.unit)).run P w = .ok PUnit.unit w := by
  induction fs with
  | nil => intro k ks _ _; simp
  | cons f fs ih =>
    intro k ks hf hl
    simp only [flatFs] at hf
    split at hf
    · rename_i hn
      simp only [Option.bind_eq_some_iff, Option.map_eq_some_iff] at hf
      obtain ⟨c, hc, ks', hks, rfl⟩ := hf
      simp only [List.length_cons] at hl
      have hp := part_scal (P := P) (w := w) hc (vs := vs) (off := k) (v := vs[k]'(by omega)) (by simp [show k < vs.size by omega])
      have := ih (k + 1) ks' hks (by omega)
      simp only [List.forIn_cons, Sem.run_bind, hn.2]
      rw [if_pos hn.1]
      simp only [Sem.run_bind, hp, Result.andThen_ok, check_scal hc, Sem.run_pure]
      exact this
    · simp at hf

theorem cellsEq_len {ks : List CK} : ∀ {xs ys : List AV} {b : Bool}, cellsEq ks xs ys = some b → xs.length = ks.length ∧ ys.length = ks.length := by
  induction ks with
  | nil => intro xs ys b h; cases xs <;> cases ys <;> simp [cellsEq] at h ⊢
  | cons k ks ih =>
    intro xs ys b h
    cases xs with
    | nil => simp [cellsEq] at h
    | cons x xs =>
      cases ys with
      | nil => simp [cellsEq] at h
      | cons y ys =>
        simp only [cellsEq, Option.bind_eq_some_iff] at h
        obtain ⟨_, _, _, h2, _⟩ := h
        obtain ⟨a, b⟩ := ih h2
        simp [a, b]

theorem check_struct {t : Nat} {fs : Array Field} {ks : List CK} (hu : P.underlying t = some (.struct fs)) (hks : flatFs P fs.toList 0 = some ks) {vs : Array Value} (hl : 0 + ks.length ≤ vs.size) (b : Bool) (n : Nat) :
    (Instr.checkKey b (n + 2) t (.agg vs)).run P w = .ok () w := by
  have := check_fields (P := P) (w := w) b n (vs := vs) fs.toList 0 ks hks hl
  unfold Instr.checkKey
  simp only [Sem.run_bind, r_under hu, Result.andThen_ok]
  rw [← Array.forIn_toList, this]
  rfl

theorem check_run {t : Nat} {K : KeyK} (hK : keyT P t = some K) {k : AV} {vk : Value} (hk : VR E w k vk) (hkey : isKey K k = true) (b : Bool) : (Instr.checkKey b 10000 t vk).run P w = .ok () w := by
  unfold keyT at hK
  split at hK
  · rename_i c hc
    exact check_scal hc b 9999 vk
  · split at hK
    · rename_i fs hu
      split at hK
      · simp at hK
      · simp only [Option.map_eq_some_iff] at hK
        obtain ⟨ks, hks, rfl⟩ := hK
        simp only [isKey, keyEq] at hkey
        cases hk with
        | agg cs vs h1 hv =>
          simp only at hkey
          obtain ⟨bb, hb⟩ := Option.isSome_iff_exists.1 hkey
          have hl := (cellsEq_len hb).1
          exact check_struct hu hks (by omega) b 9998
        | _ => simp at hkey
    · simp at hK

theorem sameBits_cell {c : CK} {x y : AV} {vx vy : Value} (hx : VR E w x vx) (hy : VR E w y vy) (h : cellEq c x y = some true) (n : Nat) : Instr.sameBits (n + 1) vy vx = true := by
  cases c <;> cases hx <;> cases hy <;> simp [cellEq] at h
  · obtain ⟨rfl, rfl⟩ := h; simp [Instr.sameBits]
  · subst h; simp [Instr.sameBits, beq_toListBytes]
  · subst h; simp [Instr.sameBits]

theorem sameBits_cells (n : Nat) {ks : List CK} : ∀ {xs ys : List AV} {vx vy : List Value}, xs.length = vx.length → ys.length = vy.length → (∀ (j : Nat) a u, xs[j]? = some a → vx[j]? = some u → VR E w a u) → (∀ (j : Nat) a u, ys[j]? = some a → vy[j]? = some u → VR E w a u) →
    cellsEq ks xs ys = some true → ((vy.zip vx).all fun (x, y) => Instr.sameBits (n + 1) x y) = true := by
  induction ks with
  | nil => intro xs ys vx vy h1 h2 _ _ h; cases xs <;> cases ys <;> simp [cellsEq] at h; cases vy <;> simp at h2; rfl
  | cons k ks ih =>
    intro xs ys vx vy h1 h2 hx hy h
    cases xs with
    | nil => simp [cellsEq] at h
    | cons x xs =>
      cases ys with
      | nil => simp [cellsEq] at h
      | cons y ys =>
        cases vx with
        | nil => simp at h1
        | cons a vx =>
          cases vy with
          | nil => simp at h2
          | cons b vy =>
            simp only [cellsEq, Option.bind_eq_some_iff, Option.some.injEq, Bool.and_eq_true] at h
            obtain ⟨b1, hb1, b2, hb2, rfl, rfl⟩ := h
            simp only [List.zip_cons_cons, List.all_cons, Bool.and_eq_true]
            exact ⟨sameBits_cell (hx 0 x a rfl rfl) (hy 0 y b rfl rfl) hb1 n, ih (by simpa using h1) (by simpa using h2) (fun j c u hj hu => hx (j + 1) c u (by simpa using hj) (by simpa using hu)) (fun j c u hj hu => hy (j + 1) c u (by simpa using hj) (by simpa using hu)) hb2⟩

theorem sameBits_key {K : KeyK} {x y : AV} {vx vy : Value} (hx : VR E w x vx) (hy : VR E w y vy) (h : keyEq K x y = some true) : Instr.sameBits 10000 vy vx = true := by
  cases K with
  | scal c => exact sameBits_cell hx hy h 9999
  | struct ks =>
    simp only [keyEq] at h
    split at h
    · rename_i xs ys
      have hl := cellsEq_len h
      cases hx with
      | agg _ va h1 hva =>
        cases hy with
        | agg _ vb h2 hvb =>
          have := sameBits_cells (E := E) (w := w) 9998 (vx := va.toList) (vy := vb.toList) (by simpa using h1) (by simpa using h2) (fun j a u hj hu => hva j a u hj (by simpa using hu)) (fun j a u hj hu => hvb j a u hj (by simpa using hu)) h
          show Instr.sameBits (9999 + 1) (.agg vb) (.agg va) = true
          simp only [Instr.sameBits, Bool.and_eq_true, beq_iff_eq]
          exact ⟨by omega, this⟩
    · simp at h

theorem aFind_at {K : KeyK} {k : AV} (es : List (AV × AV × Nat)) : ∀ (i j : Nat) (v : AV), aFind K k es i = some (some (j, v)) → ∃ e, i ≤ j ∧ es[j - i]? = some e ∧ keyEq K k e.1 = some true ∧ v = e.2.1 := by
  induction es with
  | nil => intro i j v h; simp [aFind] at h
  | cons e es ih =>
    intro i j v h
    simp only [aFind] at h
    split at h
    · rename_i he
      simp only [Option.some.injEq, Prod.mk.injEq] at h
      obtain ⟨rfl, rfl⟩ := h
      exact ⟨e, Nat.le_refl _, by simp, he, rfl⟩
    · obtain ⟨e', h1, h2, h3, h4⟩ := ih _ _ _ h
      exact ⟨e', by omega, by rw [show j - i = (j - (i + 1)) + 1 by omega, List.getElem?_cons_succ]; exact h2, h3, h4⟩
    · simp at h

theorem map_obj (hH : HRel E H w) {b : Nat} {L : Ref} (hL : E.φ b = some L) {es : List (AV × AV × Nat)} {clk : Nat} (hc : H.get b = .map es clk) :
    ∃ res : Array MapEntry, w.heap[L.r]? = some (.map res clk) ∧ EsR E w es res.toList := by
  have := hH.obj b L hL
  rw [hc] at this
  obtain ⟨res, h1, h2, _, h3⟩ := this
  exact ⟨res, h1, by simpa using h2.symm, fun j x m hj hm => h3 j x m hj (by simpa using hm)⟩

theorem r_getMap {r : Nat} {res : Array MapEntry} {clk : Nat} (h : w.heap[r]? = some (.map res clk)) : (getObj r).run P w = .ok (.map res clk) w := by
  simp [getObj, Sem.run, h]
theorem r_setMap {r : Nat} {res : Array MapEntry} {clk : Nat} (h : w.heap[r]? = some (.map res clk)) (o : Obj) : (setObj r o).run P w = .ok () (putBlock w r o) := by
  simp [setObj, Sem.run, h, putBlock]

theorem sim_lookup (hH : HRel E H w) {t kt e : Nat} (hu : P.underlying t = some (.map kt e)) {K : KeyK} (hK : keyT P kt = some K) {z : AV} {vz : Value} (hz : zeroT P e = some vz) (hvz : VR E w z vz) {m k v : AV} {vm vk : Value} (hm : VR E w m vm) (hk : VR E w k vk) {ok : Bool}
    (h : aLook K z ok m k H = some v) : Sim P (Instr.lookup t vm vk ok) E H w v H := by
  have key : ∀ (es : List (AV × AV × Nat)) (res : Array MapEntry), EsR E w es res.toList → isKey K k = true → ∀ r, aFind K k es 0 = some r →
      ∃ u, (Instr.findKey kt vk res.toList).run P w = .ok (r.map fun p => (p.1, u)) w ∧ (Instr.checkKey res.isEmpty 10000 kt vk).run P w = .ok () w ∧ VR E w (match r with | some (_, v) => v | none => z) u ∧ (r = none → u = vz) := by
    intro es res hr hkey r hf
    obtain ⟨r', h1, h2⟩ := find_run (P := P) hK hk hr hf
    cases r with
    | none =>
      cases r' with
      | none => exact ⟨vz, h1, check_run hK hk hkey _, hvz, fun _ => rfl⟩
      | some q => exact h2.elim
    | some p =>
      cases r' with
      | none => exact h2.elim
      | some q =>
        obtain ⟨i, v⟩ := p
        obtain ⟨j, u⟩ := q
        obtain ⟨rfl, h3⟩ := h2
        exact ⟨u, h1, check_run hK hk hkey _, h3, fun h => by simp at h⟩
  have fin : ∀ (r : Option (Nat × AV)) (u : Value), VR E w (match r with | some (_, v) => v | none => z) u → VR E w (lookR z ok r) (if ok then .tuple #[u, .bool r.isSome] else u) := by
    intro r u hu'
    cases ok with
    | false => cases r <;> simpa [lookR] using hu'
    | true =>
      have : ∀ (a : AV) (c : Bool), VR E w a u → VR E w (.tup [a, .bool c]) (.tuple #[u, .bool c]) := by
        intro a c ha
        refine .tup _ _ rfl (fun j x y hj hy => ?_)
        match j with
        | 0 => simp at hj hy; subst hj; subst hy; exact ha
        | 1 => simp at hj hy; subst hj; subst hy; exact .bool _
        | j + 2 => simp at hj
      cases r with
      | none => simpa [lookR] using this _ false hu'
      | some p => simpa [lookR] using this _ true hu'
  unfold aLook mapEs at h
  cases hm with
  | nilm =>
    simp only at h
    split at h
    · rename_i hkey
      simp only [Option.map_eq_some_iff] at h
      obtain ⟨r, hf, rfl⟩ := h
      obtain ⟨u, h1, h2, h3, h4⟩ := key [] #[] ⟨rfl, fun j x m h => by simp at h⟩ hkey r hf
      refine Sim.same hH ?_ (fin r u h3)
      simp only [Instr.lookup, Sem.run_bind, r_under hu, Result.andThen_ok, Sem.run_pure, h2, h1]
      cases r with
      | none => rw [h4 rfl]; simp only [Option.map_none, Sem.run_bind, r_zero hz, Result.andThen_ok, Sem.run_pure]; rfl
      | some p => simp only [Option.map_some, Sem.run_bind, Sem.run_pure, Result.andThen_ok]; rfl
    · simp at h
  | map b L hL =>
    simp only at h
    split at h
    · simp at h
    · rename_i es hes
      split at hes
      · rename_i es' clk hc
        simp only [Option.some.injEq] at hes
        subst hes
        split at h
        · rename_i hkey
          simp only [Option.map_eq_some_iff] at h
          obtain ⟨r, hf, rfl⟩ := h
          obtain ⟨res, hb, hr⟩ := map_obj hH hL hc
          obtain ⟨u, h1, h2, h3, h4⟩ := key es' res hr hkey r hf
          refine Sim.same hH ?_ (fin r u h3)
          simp only [Instr.lookup, Sem.run_bind, r_under hu, Result.andThen_ok, r_getMap hb, Sem.run_pure, h2, h1]
          cases r with
          | none => rw [h4 rfl]; simp only [Option.map_none, Sem.run_bind, r_zero hz, Result.andThen_ok, Sem.run_pure]; rfl
          | some p => simp only [Option.map_some, Sem.run_bind, Sem.run_pure, Result.andThen_ok]; rfl
        · simp at h
      · simp at hes
  | _ => simp at h

/-! ### Writes into maps -/
theorem put_map (hH : HRel E H w) {b : Nat} {L : Ref} (hL : E.φ b = some L) (hl : (H.get b).live = true) {es : List (AV × AV × Nat)} {res : Array MapEntry} {clk : Nat} (hr : EsR E w es res.toList) :
    HRel E ⟨H.obs.set b (.map es clk), H.toks⟩ (putBlock w L.r (.map res clk)) ∧ Step E H w E ⟨H.obs.set b (.map es clk), H.toks⟩ (putBlock w L.r (.map res clk)) := by
  have hlt := (hH.obj b L hL).lt hl
  exact hH.putRef hL hl (.map res clk) (.map es clk) (fun hx hnp => ⟨res, heap_put_same _ _ hlt, by simpa using hr.1.symm, hnp, fun j x m hj hm => by
    obtain ⟨a, b, c⟩ := hr.2 j x m hj (by simpa using hm)
    exact ⟨a.mono hx, b.mono hx, c⟩⟩)

theorem EsR.push {es : List (AV × AV × Nat)} {res : Array MapEntry} (hr : EsR E w es res.toList) {k v : AV} {vk vv : Value} (hk : VR E w k vk) (hv : VR E w v vv) (n : Nat) :
    EsR E w (es ++ [(k, v, n)]) (res.push { key := vk, val := vv, born := n }).toList := by
  refine ⟨by simp; simpa using hr.1, fun j x m hj hm => ?_⟩
  rw [Array.toList_push] at hm
  rcases Nat.lt_or_ge j es.length with h | h
  · rw [List.getElem?_append_left h] at hj
    rw [List.getElem?_append_left (by rw [← hr.1]; exact h)] at hm
    exact hr.2 j x m hj hm
  · have h2 := inL hj
    simp at h2
    have hj0 : j = es.length := by omega
    subst hj0
    simp at hj
    rw [hr.1] at hm
    simp at hm
    subst hj; subst hm
    exact ⟨hk, hv, rfl⟩

theorem EsR.mod {es : List (AV × AV × Nat)} {res : Array MapEntry} (hr : EsR E w es res.toList) (i : Nat) (f : AV × AV × Nat → AV × AV × Nat) (g : MapEntry → MapEntry)
    (hfg : ∀ x m, VR E w x.1 m.key → VR E w x.2.1 m.val → m.born = x.2.2 → VR E w (f x).1 (g m).key ∧ VR E w (f x).2.1 (g m).val ∧ (g m).born = (f x).2.2) :
    EsR E w (es.modify i f) (res.modify i g).toList := by
  refine ⟨by simp; simpa using hr.1, fun j x m hj hm => ?_⟩
  rw [Array.getElem?_toList, Array.getElem?_modify] at hm
  by_cases hij : i = j
  · subst hij
    simp only [List.getElem?_modify_eq, Option.map_eq_map, Option.map_eq_some_iff] at hj
    obtain ⟨x0, hx0, hxe⟩ := hj
    rw [if_pos rfl] at hm
    simp only [Option.map_eq_some_iff] at hm
    obtain ⟨m0, hm0, hme⟩ := hm
    obtain ⟨a, b, c⟩ := hr.2 i x0 m0 hx0 (by simpa using hm0)
    rw [← hxe, ← hme]
    exact hfg _ _ a b c
  · rw [List.getElem?_modify] at hj
    simp [hij] at hj
    rw [if_neg hij] at hm
    exact hr.2 j x m hj (by simpa using hm)


theorem keyStays {K : KeyK} {k e : AV} {vk ve : Value} (hk : VR E w k vk) (he : VR E w e ve) (h : keyEq K k e = some true) : (Instr.keyThatStays ve vk).run P w = .ok vk w := by
  simp [Instr.keyThatStays, sameBits_key hk he h]

theorem found_key {K : KeyK} {k : AV} {es : List (AV × AV × Nat)} {res : Array MapEntry} (hr : EsR E w es res.toList) {i : Nat} {v : AV} (h : aFind K k es 0 = some (some (i, v))) :
    ∃ e m, es[i]? = some e ∧ res[i]? = some m ∧ VR E w e.1 m.key ∧ VR E w e.2.1 m.val ∧ m.born = e.2.2 ∧ keyEq K k e.1 = some true := by
  obtain ⟨e, _, h2, h3, _⟩ := aFind_at es 0 i v h
  simp only [Nat.sub_zero] at h2
  have hlt := inL h2
  rw [hr.1] at hlt
  have hm : res[i]? = some res[i] := Array.getElem?_eq_getElem (by simpa using hlt)
  obtain ⟨a, b, c⟩ := hr.2 i e (res[i]'(by simpa using hlt)) h2 (by rw [Array.getElem?_toList]; exact hm)
  exact ⟨e, _, h2, hm, a, b, c, h3⟩

theorem sim_mapUpd (hH : HRel E H w) {t kt e : Nat} (hu : P.underlying t = some (.map kt e)) {K : KeyK} (hK : keyT P kt = some K) {b : Nat} {k v : AV} {vm vk vv : Value} (hm : VR E w (.map b) vm) (hk : VR E w k vk) (hv : VR E w v vv)
    {es : List (AV × AV × Nat)} {clk : Nat} (hc : H.get b = .map es clk) (hkey : isKey K k = true) {r : Option (Nat × AV)} (hf : aFind K k es 0 = some r) :
    SimU P (Instr.mapUpdate t vm vk vv) E H w (match r with
      | some (i, _) => ⟨H.obs.set b (.map (es.modify i fun e => (k, v, e.2.2)) clk), H.toks⟩
      | none => ⟨H.obs.set b (.map (es ++ [(k, v, clk)]) (clk + 1)), H.toks⟩) := by
  cases hm with
  | map _ L hL =>
    obtain ⟨res, hb, hr⟩ := map_obj hH hL hc
    obtain ⟨r', h1, h2⟩ := find_run (P := P) hK hk hr hf
    have hck := check_run (P := P) hK hk hkey false
    have hl : (H.get b).live = true := by rw [hc]; rfl
    cases r with
    | none =>
      cases r' with
      | some q => exact h2.elim
      | none =>
        obtain ⟨a, c⟩ := put_map hH hL hl (clk := clk + 1) (hr.push hk hv clk)
        refine ⟨E, _, ?_, a, c⟩
        simp only [Instr.mapUpdate, Sem.run_bind, r_under hu, Result.andThen_ok, r_getMap hb, hck, h1, r_setMap hb]
    | some p =>
      obtain ⟨i, v0⟩ := p
      cases r' with
      | none => exact h2.elim
      | some q =>
        obtain ⟨j, u⟩ := q
        obtain ⟨rfl, _⟩ := h2
        obtain ⟨e0, m0, g1, g2, g3, g4, g5, g6⟩ := found_key hr hf
        obtain ⟨a, c⟩ := put_map hH hL hl (clk := clk) (hr.mod i (fun e => (k, v, e.2.2)) (fun e => { e with key := vk, val := vv }) (fun x m _ _ h => ⟨hk, hv, h⟩))
        refine ⟨E, _, ?_, a, c⟩
        have hks := keyStays (P := P) hk g3 g6
        simp only [Instr.mapUpdate, Sem.run_bind, r_under hu, Result.andThen_ok, r_getMap hb, hck, h1, g2, Option.map_some, Option.getD_some, hks, r_setMap hb]

theorem pair_VR {a b : AV} {u v : Value} (h1 : VR E w a u) (h2 : VR E w b v) : VR E w (.tup [a, b]) (.tuple #[u, v]) := by
  refine .tup _ _ rfl (fun j x y hj hy => ?_)
  match j with
  | 0 => simp at hj hy; subst hj; subst hy; exact h1
  | 1 => simp at hj hy; subst hj; subst hy; exact h2
  | j + 2 => simp at hj

theorem sim_mapEntry (hH : HRel E H w) {t kt e : Nat} (hu : P.underlying t = some (.map kt e)) {K : KeyK} (hK : keyT P kt = some K) {z : AV} {vz : Value} (hz : zeroT P e = some vz) (hvz : VR E w z vz) {b : Nat} {k : AV} {vm vk : Value} (hm : VR E w (.map b) vm) (hk : VR E w k vk)
    {es : List (AV × AV × Nat)} {clk : Nat} (hc : H.get b = .map es clk) (hkey : isKey K k = true) {r : Option (Nat × AV)} (hf : aFind K k es 0 = some r) :
    Sim P (Instr.mapEntry t vm vk) E H w (match r with
      | some (i, v) => .tup [v, .int .i64 (((es[i]?).map (·.2.2)).getD 0)]
      | none => .tup [z, .int .i64 clk]) (match r with
      | some (i, _) => ⟨H.obs.set b (.map (es.modify i fun e => (k, e.2.1, e.2.2)) clk), H.toks⟩
      | none => ⟨H.obs.set b (.map (es ++ [(k, z, clk)]) (clk + 1)), H.toks⟩) := by
  cases hm with
  | map _ L hL =>
    obtain ⟨res, hb, hr⟩ := map_obj hH hL hc
    obtain ⟨r', h1, h2⟩ := find_run (P := P) hK hk hr hf
    have hck := check_run (P := P) hK hk hkey false
    have hl : (H.get b).live = true := by rw [hc]; rfl
    cases r with
    | none =>
      cases r' with
      | some q => exact h2.elim
      | none =>
        obtain ⟨a, c⟩ := put_map hH hL hl (clk := clk + 1) (hr.push hk hvz clk)
        refine ⟨E, _, .tuple #[vz, goInt clk], ?_, (pair_VR hvz (.int _ _)).mono c.ext, a, c⟩
        simp only [Instr.mapEntry, Sem.run_bind, r_under hu, Result.andThen_ok, r_getMap hb, hck, h1, r_zero hz, r_setMap hb, Sem.run_pure]
    | some p =>
      obtain ⟨i, v0⟩ := p
      cases r' with
      | none => exact h2.elim
      | some q =>
        obtain ⟨j, u⟩ := q
        obtain ⟨rfl, hu2⟩ := h2
        obtain ⟨e0, m0, g1, g2, g3, g4, g5, g6⟩ := found_key hr hf
        obtain ⟨a, c⟩ := put_map hH hL hl (clk := clk) (hr.mod i (fun e => (k, e.2.1, e.2.2)) (fun e => { e with key := vk }) (fun x m _ h1 h => ⟨hk, h1, h⟩))
        have hks := keyStays (P := P) hk g3 g6
        refine ⟨E, _, .tuple #[u, goInt m0.born], ?_, ?_, a, c⟩
        · simp only [Instr.mapEntry, Sem.run_bind, r_under hu, Result.andThen_ok, r_getMap hb, hck, h1, g2, Option.map_some, Option.getD_some, hks, r_setMap hb, Sem.run_pure]
        · simp only [g1, Option.map_some, Option.getD_some, ← g5]
          exact (pair_VR hu2 (.int _ _)).mono c.ext

theorem findIdx_EsR {es : List (AV × AV × Nat)} : ∀ {res : List MapEntry} (_ : EsR E w es res) (n : Int), res.findIdx? (fun e => (e.born : Int) == n) = es.findIdx? (fun e => ((e.2.2 : Nat) : Int) == n) := by
  induction es with
  | nil => intro res hr n; cases res with
    | nil => rfl
    | cons m res => simp [EsR] at hr
  | cons x es ih =>
    intro res hr n
    cases res with
    | nil => simp [EsR] at hr
    | cons m res =>
      obtain ⟨_, _, h3⟩ := hr.2 0 x m rfl rfl
      rw [List.findIdx?_cons, List.findIdx?_cons, h3, ih hr.tail]

theorem sim_entrySt (hH : HRel E H w) {t : Nat} {b : Nat} {v : AV} {vm vv : Value} (hm : VR E w (.map b) vm) (hv : VR E w v vv) {k : IntKind} {n : Int}
    {es : List (AV × AV × Nat)} {clk : Nat} (hc : H.get b = .map es clk) {i : Nat} (hi : es.findIdx? (fun e => ((e.2.2 : Nat) : Int) == n) = some i) :
    SimU P (Instr.entryStore t vm (.int k n) vv) E H w ⟨H.obs.set b (.map (es.modify i fun e => (e.1, v, e.2.2)) clk), H.toks⟩ := by
  cases hm with
  | map _ L hL =>
    obtain ⟨res, hb, hr⟩ := map_obj hH hL hc
    have hl : (H.get b).live = true := by rw [hc]; rfl
    obtain ⟨a, c⟩ := put_map hH hL hl (clk := clk) (hr.mod i (fun e => (e.1, v, e.2.2)) (fun e => { e with val := vv }) (fun x m h1 _ h => ⟨h1, hv, h⟩))
    refine ⟨E, _, ?_, a, c⟩
    have hfi : res.findIdx? (fun e => (e.born : Int) == n) = some i := by
      have h5 := findIdx_EsR hr n
      rw [hi] at h5
      rcases res with ⟨rl⟩
      rw [List.findIdx?_toArray]
      exact h5
    simp only [Instr.entryStore, Sem.run_bind, r_getMap hb, Result.andThen_ok, asInt, asIntOf, pure_bind, Sem.run_pure, hfi, r_setMap hb]

theorem sim_mkMap (hH : HRel E H w) (t : Nat) : Sim P (Instr.makeMap t none) E H w (.map H.obs.length) ⟨H.obs ++ [.map [] 0], H.toks⟩ := by
  obtain ⟨h1, h2, h3⟩ := hH.allocRef (.map #[] 0) (.map [] 0) ⟨w.heap.size, 0, 0⟩ rfl (fun E' hx hnp => ⟨#[], heap_alloc_new _ _, rfl, hnp, fun j x m h => by simp at h⟩)
  exact ⟨_, _, .map (some w.heap.size), rfl, .map _ _ h3, h1, h2⟩

/-! ### Iterators over strings -/
theorem sim_range (hH : HRel E H w) {t : Nat} (hu : P.underlying t = some .string) (l : List UInt8) : Sim P (Instr.range t (.string ⟨l.toArray⟩)) E H w (.ptr H.obs.length 0) ⟨H.obs ++ [.iter l 0], H.toks⟩ := by
  obtain ⟨h1, h2, h3⟩ := hH.allocRef (.stringIter ⟨l.toArray⟩ 0) (.iter l 0) ⟨w.heap.size, 0, 0⟩ rfl (fun E' hx hnp => ⟨heap_alloc_new _ _, rfl, hnp⟩)
  refine ⟨_, w.alloc (.stringIter ⟨l.toArray⟩ 0), .pointer (some ⟨w.heap.size, 0 + 0, none⟩), ?_, .ptr _ _ _ h3, h1, h2⟩
  simp only [Instr.range, Sem.run_bind, r_under hu, Result.andThen_ok, Sem.run_pure, run_newObj]
  rfl

theorem triple_VR {a b c : AV} {u v x : Value} (h1 : VR E w a u) (h2 : VR E w b v) (h3 : VR E w c x) : VR E w (.tup [a, b, c]) (.tuple #[u, v, x]) := by
  refine .tup _ _ rfl (fun j y z hj hy => ?_)
  match j with
  | 0 => simp at hj hy; subst hj; subst hy; exact h1
  | 1 => simp at hj hy; subst hj; subst hy; exact h2
  | 2 => simp at hj hy; subst hj; subst hy; exact h3
  | j + 3 => simp at hj

theorem sim_next (hH : HRel E H w) {t b : Nat} {l : List UInt8} {pos : Nat} {vx : Value} (hx : VR E w (.ptr b 0) vx) (hc : H.get b = .iter l pos) :
    Sim P (Instr.next vx true t) E H w (if pos < l.length then .tup [.bool true, .int .i64 pos, .int .i32 (Utf8.decode ⟨l.toArray⟩ pos).1] else .tup [.bool false])
      (if pos < l.length then ⟨H.obs.set b (.iter l (pos + (Utf8.decode ⟨l.toArray⟩ pos).2)), H.toks⟩ else H) := by
  cases hx with
  | ptr _ _ L hL =>
    have hobj := hH.obj b L hL
    rw [hc] at hobj
    obtain ⟨hb, hd0, hnp⟩ := hobj
    have hlt := lt_of_heap hb
    have hsz : (ByteArray.mk l.toArray).size = l.length := by simp [ByteArray.size]
    have hget : (getObj L.r).run P w = .ok (.stringIter ⟨l.toArray⟩ pos) w := by simp [getObj, Sem.run, hb]
    have hset : ∀ o, (setObj L.r o).run P w = .ok () (putBlock w L.r o) := fun o => by simp [setObj, Sem.run, hb, putBlock]
    by_cases hp : pos < l.length
    · simp only [hp, if_true]
      obtain ⟨a, c⟩ := hH.putRef hL (by rw [hc]; rfl) (.stringIter ⟨l.toArray⟩ (pos + (Utf8.decode ⟨l.toArray⟩ pos).2)) (.iter l (pos + (Utf8.decode ⟨l.toArray⟩ pos).2)) (fun hx' hnp' => ⟨heap_put_same _ _ hlt, hd0, hnp'⟩)
      refine ⟨E, _, .tuple #[.bool true, goInt pos, .int .i32 (Utf8.decode ⟨l.toArray⟩ pos).1], ?_, triple_VR (.bool _) (.int _ _) (.int _ _), a, c⟩
      rw [hd0]
      simp only [Instr.next, Nat.zero_add, Sem.run_bind, hget, Result.andThen_ok]
      rw [if_pos (by rw [hsz]; exact hp)]
      simp only [Sem.run_bind, hset, Result.andThen_ok, Sem.run_pure]
    · simp only [hp, if_false]
      refine Sim.same hH (v' := .tuple #[.bool false]) ?_ (.tup _ _ rfl (fun j x y hj hy => ?_))
      · rw [hd0]
        simp only [Instr.next, Nat.zero_add, Sem.run_bind, hget, Result.andThen_ok]
        rw [if_neg (by rw [hsz]; exact hp)]
        rfl
      · match j with
        | 0 => simp at hj hy; subst hj; subst hy; exact .bool _
        | j + 1 => simp at hj

end Go.SV
