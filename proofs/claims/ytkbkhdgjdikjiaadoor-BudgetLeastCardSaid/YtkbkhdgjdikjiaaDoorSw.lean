/- Rules to walk regions whose order is open. Own text of the prover; nothing is assumed. -/
import Derived.Test.YtkbkhdgjdikjiaaDoorSv
namespace Go.SV

variable {D : Den} {N R : Kont} {X : Nat → Kont} {fr : List AV} {H : AH}

/-- Pairs of an effect and a reading operation that no order binds. -/
def loose (ios : List IOper) (bef : List (List Nat)) : List (Nat × Nat) :=
  (List.range ios.length).flatMap fun e => match ios[e]? with
    | some oe => if oe.op.isEff then (List.range ios.length).filterMap fun j => match ios[j]? with
      | some oj => if !oj.op.isEff && !oj.op.isAlloc && (rdOpd oj.op).isSome && !(bq bef j).contains e && !(bq bef e).contains j then some (e, j) else none
      | none => none
    else []
    | none => []

/-- Pairs of an effect and an allocation that need not come before it. -/
def looseA (ios : List IOper) (bef : List (List Nat)) : List (Nat × Nat) :=
  (List.range ios.length).flatMap fun e => match ios[e]? with
    | some oe => if oe.op.isEff then (List.range ios.length).filterMap fun j => match ios[j]? with
      | some oj => if oj.op.isAlloc && !(bq bef e).contains j then some (e, j) else none
      | none => none
    else []
    | none => []

/-- An operation reads the same in two heaps. -/
def sameR (op : IOp) (H1 H2 : AH) : Prop := (aop [] op H1).map (·.1) = (aop [] op H2).map (·.1)
def rdSame (ios : List IOper) (sts : List (List AV × AH)) (p : Nat × Nat) : Prop := ∀ o, ios[p.2]? = some o → (aop (stF sts p.2) o.op (stH sts (p.1 + 1))).map (·.1) = (aop (stF sts p.2) o.op (stH sts p.1)).map (·.1)
def alAt (ios : List IOper) (sts : List (List AV × AH)) (j : Nat) : Option (List AV × Nat) := (ios[j]?).bind fun o => match o.op, o.dst with
  | .alloc z, some d => match (stF sts 0)[d]? with
    | some (.ptr b 0) => some (z, b)
    | _ => none
  | _, _ => none

def dstsA (ios : List IOper) : List Nat := ios.filterMap fun o => if o.op.isAlloc then o.dst else none

theorem dynOk_of {ios : List IOper} {bef : List (List Nat)} {sts : List (List AV × AH)}
    (h1 : ∀ d ∈ dstsA ios, d < fr.length)
    (h2 : ∀ p ∈ loose ios bef, rdSame ios sts p)
    (h3 : ∀ p ∈ looseA ios bef, ∀ z b, alAt ios sts p.2 = some (z, b) → (stH sts (p.1 + 1)).get b = .cells z) : DynOk ios bef fr sts := by
  refine ⟨fun f o d hf ha hd => h1 d ?_, fun e j oe oj he hj h4 h5 h6 h7 h8 => ?_, fun e f oe z d b he h4 h5 hf hs => ?_⟩
  · exact List.mem_filterMap.2 ⟨o, List.mem_of_getElem? hf, by rw [if_pos ha]; exact hd⟩
  · by_cases hrd : (rdOpd oj.op).isSome = true
    rotate_left
    · have hno : rdOpd oj.op = none := by simpa using hrd
      have hna : ∀ H, iop (fun _ _ _ => none) (stF sts j) oj.op H = aop (stF sts j) oj.op H := fun H => by cases hop' : oj.op <;> first | rfl | (rw [hop'] at h5; simp [IOp.isEff] at h5)
      have key : ∀ H H2 : AH, ∀ v, (aop (stF sts j) oj.op H).map (·.1) = some v → (aop (stF sts j) oj.op H2).map (·.1) = some v := by
        intro H H2 v hv
        simp only [Option.map_eq_some_iff] at hv
        obtain ⟨⟨v', H'⟩, h1, rfl⟩ := hv
        have := (floater h5 h6 (show iop (fun _ _ _ => none) (stF sts j) oj.op H = some (v', H') by rw [hna]; exact h1)).2 H2 (fun b hb => by simp [rdBlk, hno] at hb)
        rw [hna] at this
        rw [this]; rfl
      exact Option.ext fun v => ⟨key _ _ v, key _ _ v⟩
    refine h2 (e, j) ?_ oj hj
    refine List.mem_flatMap.2 ⟨e, List.mem_range.2 (getElem?_lt he), ?_⟩
    simp only [he, h4, if_true]
    refine List.mem_filterMap.2 ⟨j, List.mem_range.2 (getElem?_lt hj), ?_⟩
    simp only [hj, h5, h6, hrd, Bool.not_false, Bool.true_and, Bool.and_true]
    have e1 : (bq bef j).contains e = false := by simpa using h7
    have e2 : (bq bef e).contains j = false := by simpa using h8
    rw [e1, e2]
    rfl
  · cases ho : ios[f]? with
    | none => rw [ho] at hf; simp at hf
    | some o =>
      rw [ho] at hf
      simp only [Option.map_some, Option.some.injEq, Prod.mk.injEq] at hf
      refine h3 (e, f) ?_ z b ?_
      · refine List.mem_flatMap.2 ⟨e, List.mem_range.2 (getElem?_lt he), ?_⟩
        simp only [he, h4, if_true]
        refine List.mem_filterMap.2 ⟨f, List.mem_range.2 (getElem?_lt ho), ?_⟩
        have e1 : (bq bef e).contains f = false := by simpa using h5
        simp only [ho, hf.1, IOp.isAlloc, e1, Bool.not_false, Bool.and_self, if_true]
      · simp only [alAt, ho, Option.bind_some, hf.1, hf.2, hs]

structure Wt (D : Den) (ops : List IOper) (K : List (List AV × AH) → Prop) (fr : List AV) (H : AH) : Prop where
  run : ∃ sts, trace D ops fr H = some sts ∧ K sts

variable {K : List (List AV × AH) → Prop}

theorem wt_nil (h : K [(fr, H)]) : Wt D [] K fr H := ⟨_, rfl, h⟩

theorem wt_alloc {d : Option Nat} {z : List AV} {os : List IOper} (h : Wt D os (fun l => K ((fr, H) :: l)) fr H) : Wt D (⟨d, .alloc z, none⟩ :: os) K fr H := by
  obtain ⟨l, h1, h2⟩ := h
  exact ⟨_, by simp only [trace, IOp.isAlloc, if_true, h1, Option.map_some], h2⟩

theorem wt_op {o : IOper} {os : List IOper} {v : AV} {H' : AH} {fr' : List AV} (ha : o.op.isAlloc = false) (hw : want o.guard fr = some true) (hv : iop D fr o.op H = some (v, H')) (hf : setd o.dst v fr = fr')
    (h : Wt D os (fun l => K ((fr, H) :: l)) fr' H') : Wt D (o :: os) K fr H := by
  obtain ⟨l, h1, h2⟩ := h
  subst hf
  exact ⟨_, by simp only [trace, ha, Bool.false_eq_true, if_false, hw, hv, h1, Option.map_some], h2⟩

theorem wt_off {o : IOper} {os : List IOper} {fr' : List AV} (ha : o.op.isAlloc = false) (hw : want o.guard fr = some false) (hf : setd o.dst (.tup []) fr = fr')
    (h : Wt D os (fun l => K ((fr, H) :: l)) fr' H) : Wt D (o :: os) K fr H := by
  obtain ⟨l, h1, h2⟩ := h
  subst hf
  exact ⟨_, by simp only [trace, ha, Bool.false_eq_true, if_false, hw, h1, Option.map_some], h2⟩

theorem wt_call {d : Option Nat} {g : Option (Nat × Bool)} {ver k : Nat} {f : Opd} {args : List Opd} {os : List IOper} {first cap as : List AV} {Q : AV → AH → Prop} {F : AV → List AV} (hg : want g fr = some true)
    (hf : f.ev fr = .fn (.func k) first cap) (hk : k < 100000) (ha : first ++ args.map (Opd.ev fr) ++ cap = as) (hc : ∃ v H', D (k + ver * 100000) as H = some (v, H') ∧ Q v H')
    (hF : ∀ v, setd d v fr = F v) (h : ∀ v H', Q v H' → Wt D os (fun l => K ((fr, H) :: l)) (F v) H') : Wt D (⟨d, .call ver f args, g⟩ :: os) K fr H := by
  obtain ⟨v, H', h1, h2⟩ := hc
  subst ha
  exact wt_op (v := v) (H' := H') rfl hg (by simp only [iop, hf, if_pos hk]; exact h1) (hF v) (h v H' h2)

theorem wc_dreg' {ios : List IOper} {bef : List (List Nat)} {P1 P2 : List (Nat × Nat)} {f0 : List AV} {H0 : AH} (hp : loose ios bef = P1) (hq : looseA ios bef = P2) (hd : ∀ d ∈ dstsA ios, d < fr.length)
    (hh : hoist ios fr H = (f0, H0))
    (hw : Wt D ios (fun sts => (∀ p ∈ P1, rdSame ios sts p) ∧
      (∀ p ∈ P2, ∀ z b, alAt ios sts p.2 = some (z, b) → (stH sts (p.1 + 1)).get b = .cells z) ∧ N (stF sts ios.length) (stH sts ios.length)) f0 H0) :
    Wc D (.dreg ios bef) N R X fr H := by
  obtain ⟨sts, h1, h2, h3, h4⟩ := hw
  subst hp; subst hq
  refine wc_dreg (fr' := stF sts ios.length) (H' := stH sts ios.length) ?_ h4
  simp only [dreg, hh, h1]
  rw [if_pos (dynOk_of hd h2 h3)]

/-- Guarded operations in regions of the text's order. -/
theorem wr_on {o : IOper} {os : List IOper} {K : Kont} (hw : want o.guard fr = some true) (h : Wr D (⟨o.dst, o.op, none⟩ :: os) K fr H) : Wr D (o :: os) K fr H := by
  obtain ⟨f, H2, h1, h2⟩ := h
  refine ⟨f, H2, ?_, h2⟩
  simp only [iops, want] at h1
  simp only [iops, hw]
  exact h1

end Go.SV
