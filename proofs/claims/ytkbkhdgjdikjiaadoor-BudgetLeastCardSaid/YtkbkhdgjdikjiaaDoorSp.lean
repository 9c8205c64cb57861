/- Regions whose order is open, joined: from the text's order with allocations first to every order that the edges allow. Own text of the prover; nothing is assumed. -/
import Derived.Test.YtkbkhdgjdikjiaaDoorSo
namespace Go.SV

variable {P : Program} {E E' : Env} {H H' : AH} {w w' : World} {fr : List AV} {a : Act}

/-! ### Blocks that are there before the machine has made them -/
theorem HRel.extend (hH : HRel E H w) (l : List AObj) : HRel E ⟨H.obs ++ l, H.toks⟩ w ∧ Step E H w E ⟨H.obs ++ l, H.toks⟩ w := by
  have hg : ∀ b L, E.φ b = some L → AH.get ⟨H.obs ++ l, H.toks⟩ b = H.get b := fun b L hb => AH.get_append_lt H (hH.lt b L hb)
  refine ⟨⟨fun b L hb => by have := hH.lt b L hb; simp; omega, fun b L hb => by rw [hg b L hb]; exact hH.obj b L hb, ?_, hH.tok, hH.tinj, ?_, hH.prot, ?_⟩, ⟨.refl _ _, rfl, rfl, rfl, Nat.le_refl _, ?_, Nat.le_refl _, by simp, fun _ _ _ h => h⟩⟩
  · intro b b' L L' hb hb' h1 h2 he
    rw [hg b L hb] at h1
    rw [hg b' L' hb'] at h2
    exact hH.inj b b' L L' hb hb' h1 h2 he
  · intro b L t ns hb hl ht
    rw [hg b L hb] at hl
    exact hH.apart b L t ns hb hl ht
  · intro r hr
    obtain ⟨h1, h2, h3⟩ := hH.inert r hr
    exact ⟨h1, fun b L hb hl => h2 b L hb (by rw [hg b L hb] at hl; exact hl), h3⟩
  · intro r hr ho
    refine ⟨?_, rfl⟩
    rintro (⟨b, L, hb, hl, he⟩ | h)
    · rw [hg b L hb] at hl
      exact ho (.inl ⟨b, L, hb, hl, he⟩)
    · exact ho (.inr h)

theorem HRel.fillRef (hH : HRel E H w) (o : Obj) {b : Nat} (L : Ref) (hb : b < H.obs.length) (hφ : E.φ b = none) (hr : L.r = w.heap.size)
    (hobj : ∀ E', Ext E w E' (w.alloc o) → (∀ i, ¬ E'.prot L.r i) → ObjRel E' (w.alloc o) L (H.get b)) :
    HRel (E.addRef b L) H (w.alloc o) ∧ Ext E w (E.addRef b L) (w.alloc o) ∧ (E.addRef b L).φ b = some L ∧
    (∀ b', b' ≠ b → (E.addRef b L).φ b' = E.φ b') := by
  have hne : ∀ b', b' ≠ b → (E.addRef b L).φ b' = E.φ b' := fun b' h => by simp [Env.addRef, h]
  have hsame : (E.addRef b L).φ b = some L := by simp [Env.addRef]
  have hφ' : ∀ b' L', E.φ b' = some L' → (E.addRef b L).φ b' = some L' := by
    intro b' L' h
    rw [hne b' (fun e => by rw [e, hφ] at h; simp at h)]
    exact h
  have hold : ∀ b' L', (E.addRef b L).φ b' = some L' → (b' = b ∧ L' = L) ∨ (b' ≠ b ∧ E.φ b' = some L') := by
    intro b' L' h
    by_cases e : b' = b
    · subst e; rw [hsame] at h; injection h with h; exact .inl ⟨rfl, h.symm⟩
    · rw [hne b' e] at h; exact .inr ⟨e, h⟩
  have hx : Ext E w (E.addRef b L) (w.alloc o) := by
    refine ⟨hφ', fun _ _ h => h, fun r i v _ hc => ?_, fun _ n _ h => ⟨n, h, Nat.le_refl _, fun _ => rfl⟩, fun _ h => h⟩
    rw [World.cell?_alloc_lt _ _ _ (lt_of_cell hc)]; exact hc
  have hnp : ∀ i, ¬ (E.addRef b L).prot L.r i := fun i => by rw [hr]; exact hH.noprot_new i
  refine ⟨⟨?_, ?_, ?_, ?_, hH.tinj, ?_, ?_, ?_⟩, hx, hsame, hne⟩
  · intro b' L' h
    rcases hold b' L' h with ⟨rfl, _⟩ | ⟨_, h⟩
    · exact hb
    · exact hH.lt b' L' h
  · intro b' L' h
    rcases hold b' L' h with ⟨rfl, rfl⟩ | ⟨_, h⟩
    · exact hobj _ hx hnp
    · exact (hH.obj b' L' h).frame hx (fun hl => heap_alloc_lt _ _ ((hH.obj b' L' h).lt hl)) (fun _ _ h => h)
  · intro b1 b2 L1 L2 h1 h2 hl1 hl2 he
    rcases hold b1 L1 h1 with ⟨rfl, rfl⟩ | ⟨n1, k1⟩ <;> rcases hold b2 L2 h2 with ⟨rfl, rfl⟩ | ⟨n2, k2⟩
    · rfl
    · have := (hH.obj b2 L2 k2).lt hl2
      omega
    · have := (hH.obj b1 L1 k1).lt hl1
      omega
    · exact hH.inj b1 b2 L1 L2 k1 k2 hl1 hl2 he
  · intro t n s ht
    obtain ⟨h0, h1, h2⟩ := hH.tok t n s ht
    exact ⟨h0, h1, h2.frame (heap_alloc_lt _ _ h2.lt) (fun _ h => h)⟩
  · intro b' L' t ns h hl ht
    rcases hold b' L' h with ⟨rfl, rfl⟩ | ⟨_, h⟩
    · obtain ⟨n, s⟩ := ns
      have := (hH.tok t n s ht).2.2.lt
      show L'.r ≠ (E.tk t).r
      omega
    · exact hH.apart b' L' t ns h hl ht
  · intro r i hp
    obtain ⟨v, hv⟩ := hH.prot r i hp
    exact ⟨v, hx.cell r i v hp hv⟩
  · intro r hi
    obtain ⟨i1, i2, i3⟩ := hH.inert r hi
    refine ⟨by simp; omega, fun b' L' h hl => ?_, i3⟩
    rcases hold b' L' h with ⟨rfl, rfl⟩ | ⟨_, h⟩
    · omega
    · exact i2 b' L' h hl

/-- The block that an allocation made in its turn stands for one that has been there. -/
theorem fill_step {E0 : Env} {H0 : AH} {w0 : World} (hS : Step E0 H0 w0 E H w) {o : Obj} {b : Nat} {L : Ref} (hr : L.r = w.heap.size) (hb : H0.obs.length ≤ b) (hx : Ext E w (E.addRef b L) (w.alloc o)) :
    Step E0 H0 w0 (E.addRef b L) H (w.alloc o) := by
  have hne : ∀ b', b' ≠ b → (E.addRef b L).φ b' = E.φ b' := fun b' h => by simp [Env.addRef, h]
  refine ⟨hS.ext.trans hx, hS.os, hS.tape, hS.output, by have := hS.size; simp; omega, fun r hr' ho => ?_, hS.toks, hS.obs, fun b' L' hb' h => ?_⟩
  · obtain ⟨h1, h2⟩ := hS.keep r hr' ho
    have := hS.size
    refine ⟨?_, (heap_alloc_lt _ _ (by omega)).trans h2⟩
    rintro (⟨b', L', hb', hl, he⟩ | h)
    · by_cases e : b' = b
      · subst e
        simp only [Env.addRef, if_true, Option.some.injEq] at hb'
        subst hb'
        omega
      · rw [hne b' e] at hb'
        exact h1 (.inl ⟨b', L', hb', hl, he⟩)
    · exact h1 (.inr h)
  · rw [hne b' (by omega)] at h
    exact hS.old b' L' hb' h

/-! ### The text's order, allocations first -/
def hoist : List IOper → List AV → AH → List AV × AH
  | [], fr, H => (fr, H)
  | o :: os, fr, H => match o.op with
    | .alloc z => hoist os (setd o.dst (.ptr H.obs.length 0) fr) ⟨H.obs ++ [.cells z], H.toks⟩
    | _ => hoist os fr H

def trace (D : Den) : List IOper → List AV → AH → Option (List (List AV × AH))
  | [], fr, H => some [(fr, H)]
  | o :: os, fr, H =>
    if o.op.isAlloc then (trace D os fr H).map ((fr, H) :: ·) else
    match want o.guard fr with
    | some true => match iop D fr o.op H with
      | some (v, H') => (trace D os (setd o.dst v fr) H').map ((fr, H) :: ·)
      | none => none
    | some false => (trace D os (setd o.dst (.tup []) fr) H).map ((fr, H) :: ·)
    | none => none

def bq (bef : List (List Nat)) (j : Nat) : List Nat := (bef[j]?).getD []

def stF (sts : List (List AV × AH)) (i : Nat) : List AV := ((sts[i]?).getD ([], default)).1
def stH (sts : List (List AV × AH)) (i : Nat) : AH := ((sts[i]?).getD ([], default)).2

/-- What must hold of memory where the order is open: what is read out of its turn is not changed meanwhile. -/
def DynOk (ios : List IOper) (bef : List (List Nat)) (fr : List AV) (sts : List (List AV × AH)) : Prop :=
  (∀ (f : Nat) o d, ios[f]? = some o → o.op.isAlloc = true → o.dst = some d → d < fr.length) ∧
  (∀ (e j : Nat) oe oj, ios[e]? = some oe → ios[j]? = some oj → oe.op.isEff = true → oj.op.isEff = false → oj.op.isAlloc = false → e ∉ bq bef j → j ∉ bq bef e →
    (aop (stF sts j) oj.op (stH sts (e + 1))).map (·.1) = (aop (stF sts j) oj.op (stH sts e)).map (·.1)) ∧
  (∀ (e f : Nat) oe z d b, ios[e]? = some oe → oe.op.isEff = true → f ∉ bq bef e → (ios[f]?).map (fun o => (o.op, o.dst)) = some (.alloc z, some d) →
    (stF sts 0)[d]? = some (.ptr b 0) → (stH sts (e + 1)).get b = .cells z)

open Classical in
noncomputable def dreg (D : Den) (ios : List IOper) (bef : List (List Nat)) (fr : List AV) (H : AH) : Option (List AV × AH) :=
  let h := hoist ios fr H
  match trace D ios h.1 h.2 with
  | some sts => if DynOk ios bef fr sts then some (stF sts ios.length, stH sts ios.length) else none
  | none => none

theorem setd_length (d : Option Nat) (v : AV) (fr : List AV) : (setd d v fr).length = fr.length := by
  cases d <;> simp [setd]
theorem setd_ne {d : Option Nat} {v : AV} {fr : List AV} {t : Nat} (h : d ≠ some t) : (setd d v fr)[t]? = fr[t]? := by
  cases d with
  | none => rfl
  | some d => simp only [setd]; rw [List.getElem?_set_ne]; intro e; exact h (by rw [e])

theorem hoist_spec : ∀ (ios : List IOper) (fr : List AV) (H : AH),
    (∀ (i j : Nat) oi oj d, ios[i]? = some oi → ios[j]? = some oj → oi.dst = some d → oj.dst = some d → i = j) →
    (∀ (i : Nat) o d, ios[i]? = some o → o.op.isAlloc = true → o.dst = some d → d < fr.length) →
    (∀ (i : Nat) o, ios[i]? = some o → o.op.isAlloc = true → o.dst.isSome = true) →
    ∃ B : Nat → Nat, (hoist ios fr H).1.length = fr.length ∧ (hoist ios fr H).2.toks = H.toks ∧ (∃ l, (hoist ios fr H).2.obs = H.obs ++ l) ∧
      (∀ (i : Nat) o z d, ios[i]? = some o → o.op = .alloc z → o.dst = some d → (hoist ios fr H).1[d]? = some (.ptr (B i) 0) ∧ H.obs.length ≤ B i ∧ B i < (hoist ios fr H).2.obs.length ∧ (hoist ios fr H).2.get (B i) = .cells z) ∧
      (∀ (i j : Nat) oi oj, ios[i]? = some oi → ios[j]? = some oj → oi.op.isAlloc = true → oj.op.isAlloc = true → B i = B j → i = j) ∧
      (∀ t, (∀ (i : Nat) o, ios[i]? = some o → o.op.isAlloc = true → o.dst ≠ some t) → (hoist ios fr H).1[t]? = fr[t]?) := by
  intro ios
  induction ios with
  | nil =>
    intro fr H _ _ _
    exact ⟨fun _ => 0, rfl, rfl, ⟨[], by simp [hoist]⟩, by simp, by simp, fun _ _ => rfl⟩
  | cons o os ih =>
    intro fr H h1 h2 h3
    have h1' : ∀ (i j : Nat) oi oj d, os[i]? = some oi → os[j]? = some oj → oi.dst = some d → oj.dst = some d → i = j := fun i j oi oj d a b c e => by
      have := h1 (i + 1) (j + 1) oi oj d (by simpa using a) (by simpa using b) c e
      omega
    have h3' : ∀ (i : Nat) o, os[i]? = some o → o.op.isAlloc = true → o.dst.isSome = true := fun i o a b => h3 (i + 1) o (by simpa using a) b
    by_cases ha : ∃ z, o.op = .alloc z
    · obtain ⟨z, hz⟩ := ha
      obtain ⟨d, hd⟩ := Option.isSome_iff_exists.1 (h3 0 o rfl (by rw [hz]; rfl))
      have hdlt := h2 0 o d rfl (by rw [hz]; rfl) hd
      have hun : hoist (o :: os) fr H = hoist os (setd o.dst (.ptr H.obs.length 0) fr) ⟨H.obs ++ [.cells z], H.toks⟩ := by simp only [hoist, hz]
      obtain ⟨B, b1, b2, ⟨l, b3⟩, b4, b5, b6⟩ := ih (setd o.dst (.ptr H.obs.length 0) fr) ⟨H.obs ++ [.cells z], H.toks⟩ h1' (fun i o' d' x y e => by rw [setd_length]; exact h2 (i + 1) o' d' (by simpa using x) y e) h3'
      rw [hun]
      have hlen : H.obs.length < (hoist os (setd o.dst (.ptr H.obs.length 0) fr) ⟨H.obs ++ [.cells z], H.toks⟩).2.obs.length := by rw [b3]; simp
      have hd0 : (hoist os (setd o.dst (.ptr H.obs.length 0) fr) ⟨H.obs ++ [.cells z], H.toks⟩).1[d]? = some (.ptr H.obs.length 0) := by
        rw [b6 d (fun i o' hi' _ he => by have := h1 0 (i + 1) o o' d rfl (by simpa using hi') hd he; omega)]
        simp only [hd, setd]
        rw [List.getElem?_set_self hdlt]
      refine ⟨fun i => match i with | 0 => H.obs.length | i + 1 => B i, by rw [b1, setd_length], b2, ⟨.cells z :: l, by rw [b3]; simp⟩, ?_, ?_, ?_⟩
      · intro i o' z' d' hi' hz' hd'
        cases i with
        | zero =>
          simp only [List.getElem?_cons_zero, Option.some.injEq] at hi'
          subst hi'
          rw [hd] at hd'
          injection hd' with hd'
          subst hd'
          rw [hz] at hz'
          injection hz' with hz'
          subst hz'
          refine ⟨hd0, Nat.le_refl _, hlen, ?_⟩
          simp only [AH.get, b3]
          simp
        | succ i =>
          obtain ⟨c1, c2, c3, c4⟩ := b4 i o' z' d' (by simpa using hi') hz' hd'
          exact ⟨c1, by simp at c2; show H.obs.length ≤ B i; omega, c3, c4⟩
      · intro i j oi oj hi' hj' ai aj he
        cases i with
        | zero =>
          cases j with
          | zero => rfl
          | succ j =>
            obtain ⟨zj, hzj⟩ : ∃ z, oj.op = .alloc z := by
              revert aj; cases oj.op <;> simp [IOp.isAlloc]
            obtain ⟨dj, hdj⟩ := Option.isSome_iff_exists.1 (h3 _ oj hj' aj)
            obtain ⟨_, c2, _⟩ := b4 j oj zj dj (by simpa using hj') hzj hdj
            simp at c2 he
            omega
        | succ i =>
          cases j with
          | zero =>
            obtain ⟨zj, hzj⟩ : ∃ z, oi.op = .alloc z := by
              revert ai; cases oi.op <;> simp [IOp.isAlloc]
            obtain ⟨dj, hdj⟩ := Option.isSome_iff_exists.1 (h3 _ oi hi' ai)
            obtain ⟨_, c2, _⟩ := b4 i oi zj dj (by simpa using hi') hzj hdj
            simp at c2 he
            omega
          | succ j => rw [b5 i j oi oj (by simpa using hi') (by simpa using hj') ai aj he]
      · intro t ht
        rw [b6 t (fun i o' hi' ho' => ht (i + 1) o' (by simpa using hi') ho')]
        exact setd_ne (ht 0 o rfl (by rw [hz]; rfl))
    · have hun : hoist (o :: os) fr H = hoist os fr H := by
        simp only [hoist]
        split
        · rename_i z hz; exact absurd ⟨z, hz⟩ ha
        · rfl
      have hna : o.op.isAlloc = false := by
        cases ho : o.op <;> simp [IOp.isAlloc]
        exact ha ⟨_, ho⟩
      obtain ⟨B, b1, b2, b3, b4, b5, b6⟩ := ih fr H h1' (fun i o' d' x y e => h2 (i + 1) o' d' (by simpa using x) y e) h3'
      rw [hun]
      refine ⟨fun i => match i with | 0 => 0 | i + 1 => B i, b1, b2, b3, ?_, ?_, ?_⟩
      · intro i o' z' d' hi' hz' hd'
        cases i with
        | zero =>
          simp only [List.getElem?_cons_zero, Option.some.injEq] at hi'
          subst hi'
          exact absurd ⟨_, hz'⟩ ha
        | succ i => exact b4 i o' z' d' (by simpa using hi') hz' hd'
      · intro i j oi oj hi' hj' ai aj he
        cases i with
        | zero =>
          simp only [List.getElem?_cons_zero, Option.some.injEq] at hi'
          subst hi'
          rw [hna] at ai; simp at ai
        | succ i =>
          cases j with
          | zero =>
            simp only [List.getElem?_cons_zero, Option.some.injEq] at hj'
            subst hj'
            rw [hna] at aj; simp at aj
          | succ j => rw [b5 i j oi oj (by simpa using hi') (by simpa using hj') ai aj he]
      · intro t ht
        exact b6 t (fun i o' hi' ho' => ht (i + 1) o' (by simpa using hi') ho')

/-- One operation of the trace. -/
def StepAt (D : Den) (o : IOper) (s s' : List AV × AH) : Prop :=
  (o.op.isAlloc = true ∧ s' = s) ∨
  (o.op.isAlloc = false ∧ want o.guard s.1 = some true ∧ ∃ v, iop D s.1 o.op s.2 = some (v, s'.2) ∧ s'.1 = setd o.dst v s.1) ∨
  (o.op.isAlloc = false ∧ want o.guard s.1 = some false ∧ s'.2 = s.2 ∧ s'.1 = setd o.dst (.tup []) s.1)

theorem trace_spec {D : Den} : ∀ (ios : List IOper) (fr : List AV) (H : AH) sts, trace D ios fr H = some sts →
    stF sts 0 = fr ∧ stH sts 0 = H ∧ ∀ (i : Nat) o, ios[i]? = some o → StepAt D o (stF sts i, stH sts i) (stF sts (i + 1), stH sts (i + 1)) := by
  intro ios
  induction ios with
  | nil =>
    intro fr H sts h
    simp only [trace, Option.some.injEq] at h
    subst h
    exact ⟨rfl, rfl, by simp⟩
  | cons o os ih =>
    intro fr H sts h
    have step : ∀ fr' H' sts', trace D os fr' H' = some sts' → StepAt D o (fr, H) (fr', H') → sts = (fr, H) :: sts' →
        stF sts 0 = fr ∧ stH sts 0 = H ∧ ∀ (i : Nat) o', (o :: os)[i]? = some o' → StepAt D o' (stF sts i, stH sts i) (stF sts (i + 1), stH sts (i + 1)) := by
      intro fr' H' sts' ht hs he
      obtain ⟨i1, i2, i3⟩ := ih fr' H' sts' ht
      subst he
      refine ⟨rfl, rfl, fun i o' hi => ?_⟩
      cases i with
      | zero =>
        simp only [List.getElem?_cons_zero, Option.some.injEq] at hi
        subst hi
        have e1 : stF ((fr, H) :: sts') (0 + 1) = fr' := by rw [← i1]; simp [stF]
        have e2 : stH ((fr, H) :: sts') (0 + 1) = H' := by rw [← i2]; simp [stH]
        rw [e1, e2]
        exact hs
      | succ i =>
        have := i3 i o' (by simpa using hi)
        simpa [stF, stH] using this
    simp only [trace] at h
    split at h
    · rename_i ha
      simp only [Option.map_eq_some_iff] at h
      obtain ⟨sts', ht, rfl⟩ := h
      exact step fr H sts' ht (.inl ⟨ha, rfl⟩) rfl
    · rename_i ha
      split at h
      · rename_i hw
        split at h
        · rename_i v H' hv
          simp only [Option.map_eq_some_iff] at h
          obtain ⟨sts', ht, rfl⟩ := h
          exact step _ H' sts' ht (.inr (.inl ⟨by simpa using ha, hw, v, hv, rfl⟩)) rfl
        · simp at h
      · rename_i hw
        simp only [Option.map_eq_some_iff] at h
        obtain ⟨sts', ht, rfl⟩ := h
        exact step _ H sts' ht (.inr (.inr ⟨by simpa using ha, hw, rfl, rfl⟩)) rfl
      · simp at h

end Go.SV
