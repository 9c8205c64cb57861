/- Regions whose order is open: every order that the edges allow comes to what the text's order, allocations first, comes to. Own text of the prover; nothing is assumed. -/
import Derived.Test.YtkbkhdgjdikjiaaDoorSp
namespace Go.SV

variable {P : Program} {E E' : Env} {H H' : AH} {w w' : World} {fr : List AV} {a : Act}

def reads (o : IOper) : List Nat := (match o.guard with | some (t, _) => [t] | none => []) ++ o.op.tmps

/-- The edges, what they say, and what each operation reads: nothing hangs on the order. -/
def chk (ops : Array Oper) (ios : List IOper) (bef : List (List Nat)) (j : Nat) : Bool :=
  match ops[j]?, ios[j]? with
  | some o, some io =>
    (o.after.toList.all fun e => !Region.binds .any e || decide (e.on < j)) &&
    ((bq bef j).all fun k => decide (k < j) && o.after.toList.any fun e => Region.binds .any e && (e.on == k || (bq bef e.on).contains k)) &&
    ((List.range ios.length).all fun i => match ios[i]? with
      | some x => match x.dst with
        | some d =>
          (!(reads io).contains d || (i == j && !x.op.isAlloc) || (decide (i < j) && (bq bef j).contains i) || (decide (j < i) && !x.op.isAlloc && (bq bef i).contains j)) &&
          (io.dst != some d || i == j)
        | none => true
      | none => true) &&
    (!io.op.isEff || (List.range j).all fun i => match ios[i]? with
      | some x => !x.op.isEff || (bq bef j).contains i
      | none => true) &&
    (!io.op.isAlloc || (io.guard.isNone && io.dst.isSome))
  | _, _ => false

def dOk (ops : Array Oper) (ios : List IOper) (bef : List (List Nat)) : Bool :=
  ops.size == ios.length && (List.range ios.length).all (chk ops ios bef)

structure Chk (ops : Array Oper) (ios : List IOper) (bef : List (List Nat)) (j : Nat) (o : Oper) (io : IOper) : Prop where
  back : ∀ e ∈ o.after, Region.binds .any e = true → e.on < j
  sub : ∀ k ∈ bq bef j, k < j ∧ ∃ e ∈ o.after, Region.binds .any e = true ∧ (e.on = k ∨ k ∈ bq bef e.on)
  read : ∀ (i : Nat) x d, ios[i]? = some x → x.dst = some d → d ∈ reads io → (i = j ∧ x.op.isAlloc = false) ∨ (i < j ∧ i ∈ bq bef j) ∨ (j < i ∧ x.op.isAlloc = false ∧ j ∈ bq bef i)
  dist : ∀ (i : Nat) x d, ios[i]? = some x → x.dst = some d → io.dst = some d → i = j
  eff : ∀ (i : Nat) x, ios[i]? = some x → i < j → io.op.isEff = true → x.op.isEff = true → i ∈ bq bef j
  alloc : io.op.isAlloc = true → io.guard = none ∧ io.dst.isSome = true

theorem getElem?_lt {α : Type} {l : List α} {i : Nat} {x : α} (h : l[i]? = some x) : i < l.length := by
  rcases Nat.lt_or_ge i l.length with h' | h'
  · exact h'
  · simp [List.getElem?_eq_none h'] at h

theorem chk_spec {ops : Array Oper} {ios : List IOper} {bef : List (List Nat)} (h : dOk ops ios bef = true) : ops.size = ios.length ∧
    ∀ (j : Nat) o io, ops[j]? = some o → ios[j]? = some io → Chk ops ios bef j o io := by
  simp only [dOk, Bool.and_eq_true, beq_iff_eq, List.all_eq_true, List.mem_range] at h
  refine ⟨h.1, fun j o io ho hio => ?_⟩
  have hj := h.2 j (getElem?_lt hio)
  simp only [chk, ho, hio, Bool.and_eq_true, List.all_eq_true, List.mem_range, Bool.or_eq_true, Bool.not_eq_true', decide_eq_true_eq, List.any_eq_true, beq_iff_eq, List.contains_iff_mem, Array.mem_toList_iff] at hj
  obtain ⟨⟨⟨⟨h1, h2⟩, h3⟩, h4⟩, h5⟩ := hj
  refine ⟨?_, ?_, ?_, ?_, ?_, ?_⟩
  · intro e he hb
    rcases h1 e he with h | h
    · rw [hb] at h; simp at h
    · exact h
  · intro k hk
    obtain ⟨hlt, e, he, hb, hor⟩ := h2 k hk
    exact ⟨hlt, e, he, hb, hor⟩
  · intro i x d hi hd hr
    have := h3 i (getElem?_lt hi)
    simp only [hi, hd, Bool.and_eq_true, Bool.or_eq_true, Bool.not_eq_true', List.contains_iff_mem, beq_iff_eq, decide_eq_true_eq, bne_iff_ne, ne_eq] at this
    have hc : (reads io).contains d = true := by simpa using hr
    rcases this.1 with ((h | h) | h) | h
    · rw [hc] at h; simp at h
    · exact .inl h
    · exact .inr (.inl h)
    · exact .inr (.inr ⟨h.1.1, h.1.2, h.2⟩)
  · intro i x d hi hd hj
    have := h3 i (getElem?_lt hi)
    simp only [hi, hd, Bool.and_eq_true, Bool.or_eq_true, beq_iff_eq, bne_iff_ne, ne_eq] at this
    rcases this.2 with h | h
    · exact absurd hj h
    · exact h
  · intro i x hi hlt he hx
    rcases h4 with h | h
    · rw [he] at h; simp at h
    · have := h i hlt
      simp only [hi, hx, Bool.not_true, Bool.false_eq_true, Bool.or_eq_true, List.contains_iff_mem, false_or] at this
      exact this
  · intro ha
    rcases h5 with h | h
    · rw [ha] at h; simp at h
    · simpa using h

theorem OpsR.at {ops : Array Oper} {is : List Nat} {ios : List IOper} (h : OpsR P ops is ios) : is.length = ios.length ∧ ∀ (k i : Nat) io, is[k]? = some i → ios[k]? = some io → ∃ o m, ops[i]? = some o ∧ trOper P ops m o = some io := by
  induction h with
  | nil => exact ⟨rfl, by simp⟩
  | @cons i is o io ios m ho ht hr ih =>
    refine ⟨by simp [ih.1], fun k i' io' hk hk' => ?_⟩
    cases k with
    | zero =>
      simp only [List.getElem?_cons_zero, Option.some.injEq] at hk hk'
      subst hk; subst hk'
      exact ⟨o, m, ho, ht⟩
    | succ k => exact ih.2 k i' io' (by simpa using hk) (by simpa using hk')

theorem iop_reads {D : Den} {fr fr' : List AV} {io : IOper} (h : ∀ t ∈ reads io, fr[t]? = fr'[t]?) (H : AH) : iop D fr io.op H = iop D fr' io.op H ∧ want io.guard fr = want io.guard fr' := by
  refine ⟨iop_congr io.op (fun x hx => ?_) H, ?_⟩
  · cases x with
    | tmp t =>
      have := h t (by simp only [reads, List.mem_append]; exact .inr (List.mem_filterMap.2 ⟨_, hx, rfl⟩))
      simp only [Opd.ev, this]
    | _ => rfl
  · obtain ⟨dst, op, g⟩ := io
    cases g with
    | none => rfl
    | some p =>
      obtain ⟨t, b⟩ := p
      have := h t (by simp [reads])
      simp only [want, this]

theorem rdBlk_reads {fr fr' : List AV} {io : IOper} (h : ∀ t ∈ reads io, fr[t]? = fr'[t]?) : rdBlk fr io.op = rdBlk fr' io.op := by
  unfold rdBlk
  cases hr : rdOpd io.op with
  | none => rfl
  | some x =>
    simp only [Option.bind_some]
    have hx : x ∈ io.op.opds := by
      cases ho : io.op <;> rw [ho] at hr <;> simp [rdOpd] at hr <;> subst hr <;> simp [IOp.opds]
    cases x with
    | tmp t =>
      have := h t (by simp only [reads, List.mem_append]; exact .inr (List.mem_filterMap.2 ⟨_, hx, rfl⟩))
      simp only [Opd.ev, this]
    | _ => rfl

end Go.SV
