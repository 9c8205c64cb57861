/- Code as a formula, and that the formula is enough. Own text of the prover; nothing is assumed. -/
import Derived.Test.YtkbkhdgjdikjiaaDoorSx
namespace Go.SV

/-! ### What code writes -/
def dstsO (ops : List IOper) : List Nat := ops.filterMap fun o => o.dst
def asgG : Gho → List Nat
  | .sealT t => [t]
  | .kill l => l
  | .sealC _ _ => []
def asg : IC → List Nat
  | .skip | .exit _ | .ret => []
  | .reg ops | .dreg ops _ => dstsO ops
  | .seq a b | .cond _ a b => asg a ++ asg b
  | .block _ c => asg c
  | .loop dead c => dead ++ asg c
  | .gh gs c => gs.flatMap asgG ++ asg c

/-- Frames that are the same but for some slots. -/
def Ag (l : List Nat) (fr fr' : List AV) : Prop := fr'.length = fr.length ∧ ∀ i, i ∉ l → fr'[i]? = fr[i]?

theorem Ag.refl (l : List Nat) (fr : List AV) : Ag l fr fr := ⟨rfl, fun _ _ => rfl⟩
theorem Ag.trans {l : List Nat} {a b c : List AV} (h : Ag l a b) (k : Ag l b c) : Ag l a c := ⟨k.1.trans h.1, fun i hi => (k.2 i hi).trans (h.2 i hi)⟩
theorem Ag.mono {l l' : List Nat} {a b : List AV} (h : Ag l a b) (hs : ∀ i ∈ l, i ∈ l') : Ag l' a b := ⟨h.1, fun i hi => h.2 i fun hm => hi (hs i hm)⟩
theorem Ag.set {l : List Nat} {t : Nat} (fr : List AV) (v : AV) (ht : t ∈ l) : Ag l fr (fr.set t v) :=
  ⟨by simp, fun i hi => List.getElem?_set_ne (by rintro rfl; exact hi ht)⟩
theorem Ag.setd {l : List Nat} {d : Option Nat} (fr : List AV) (v : AV) (ht : ∀ t, d = some t → t ∈ l) : Ag l fr (setd d v fr) := by
  cases d with
  | none => exact .refl _ _
  | some t => exact .set _ _ (ht t rfl)

theorem Ag.kill (ds : List Nat) : ∀ {l : List Nat} (fr : List AV), (∀ i ∈ ds, i ∈ l) → Ag l fr (kill ds fr) := by
  induction ds with
  | nil => intro l fr _; exact .refl _ _
  | cons d ds ih => intro l fr h; exact (Ag.set fr .undef (h d (by simp))).trans (ih _ fun i hi => h i (by simp [hi]))

theorem iops_ag {D : Den} : ∀ (ops : List IOper) {fr fr' : List AV} {H H' : AH}, iops D ops fr H = some (fr', H') → Ag (dstsO ops) fr fr' := by
  intro ops
  induction ops with
  | nil => intro fr fr' H H' h; simp only [iops, Option.some.injEq, Prod.mk.injEq] at h; obtain ⟨rfl, rfl⟩ := h; exact .refl _ _
  | cons o ops ih =>
    intro fr fr' H H' h
    have hd : ∀ v, Ag (dstsO (o :: ops)) fr (setd o.dst v fr) := fun v => .setd _ _ fun t ht => by simp [dstsO, ht]
    have hm : ∀ i ∈ dstsO ops, i ∈ dstsO (o :: ops) := fun i hi => by
      obtain ⟨x, hx, he⟩ := List.mem_filterMap.1 hi
      exact List.mem_filterMap.2 ⟨x, List.mem_cons_of_mem _ hx, he⟩
    simp only [iops] at h
    split at h
    · split at h
      · exact (hd _).trans ((ih h).mono hm)
      · simp at h
    · exact (hd _).trans ((ih h).mono hm)
    · simp at h

theorem hoist_ag : ∀ (ops : List IOper) (fr : List AV) (H : AH), Ag (dstsO ops) fr (hoist ops fr H).1 := by
  intro ops
  induction ops with
  | nil => intro fr H; exact .refl _ _
  | cons o ops ih =>
    intro fr H
    have hd : ∀ v, Ag (dstsO (o :: ops)) fr (setd o.dst v fr) := fun v => .setd _ _ fun t ht => by simp [dstsO, ht]
    have hm : ∀ i ∈ dstsO ops, i ∈ dstsO (o :: ops) := fun i hi => by
      obtain ⟨x, hx, he⟩ := List.mem_filterMap.1 hi
      exact List.mem_filterMap.2 ⟨x, List.mem_cons_of_mem _ hx, he⟩
    simp only [hoist]
    split
    · exact (hd _).trans ((ih _ _).mono hm)
    · exact (ih _ _).mono hm

theorem trace_ag {D : Den} : ∀ (ops : List IOper) {fr : List AV} {H : AH} {sts : List (List AV × AH)}, trace D ops fr H = some sts → sts.length = ops.length + 1 ∧ ∀ s ∈ sts, Ag (dstsO ops) fr s.1 := by
  intro ops
  induction ops with
  | nil =>
    intro fr H sts h
    simp only [trace, Option.some.injEq] at h; subst h
    exact ⟨rfl, fun s hs => by simp only [List.mem_singleton] at hs; subst hs; exact .refl _ _⟩
  | cons o ops ih =>
    intro fr H sts h
    have hd : ∀ v, Ag (dstsO (o :: ops)) fr (setd o.dst v fr) := fun v => .setd _ _ fun t ht => by simp [dstsO, ht]
    have hm : ∀ i ∈ dstsO ops, i ∈ dstsO (o :: ops) := fun i hi => by
      obtain ⟨x, hx, he⟩ := List.mem_filterMap.1 hi
      exact List.mem_filterMap.2 ⟨x, List.mem_cons_of_mem _ hx, he⟩
    have fin : ∀ {fr1 : List AV} {H1 : AH} {sts : List (List AV × AH)}, Ag (dstsO (o :: ops)) fr fr1 → (trace D ops fr1 H1).map ((fr, H) :: ·) = some sts → sts.length = (o :: ops).length + 1 ∧ ∀ s ∈ sts, Ag (dstsO (o :: ops)) fr s.1 := by
      intro fr1 H1 sts ha h
      simp only [Option.map_eq_some_iff] at h
      obtain ⟨l, hl, rfl⟩ := h
      obtain ⟨h1, h2⟩ := ih hl
      refine ⟨by simp [h1], fun s hs => ?_⟩
      simp only [List.mem_cons] at hs
      rcases hs with rfl | hs
      · exact .refl _ _
      · exact ha.trans ((h2 s hs).mono hm)
    simp only [trace] at h
    split at h
    · exact fin (.refl _ _) h
    · split at h
      · split at h
        · exact fin (hd _) h
        · simp at h
      · exact fin (hd _) h
      · simp at h

theorem dreg_ag {D : Den} {ops : List IOper} {bef : List (List Nat)} {fr fr' : List AV} {H H' : AH} (h : dreg D ops bef fr H = some (fr', H')) : Ag (dstsO ops) fr fr' := by
  simp only [dreg] at h
  split at h
  · rename_i sts hs
    split at h
    · simp only [Option.some.injEq, Prod.mk.injEq] at h
      obtain ⟨rfl, rfl⟩ := h
      obtain ⟨h1, h2⟩ := trace_ag ops hs
      have hl : ops.length < sts.length := by omega
      have : stF sts ops.length = (sts[ops.length]).1 := by simp [stF, List.getElem?_eq_getElem hl]
      rw [this]
      exact (hoist_ag ops fr H).trans (h2 _ (List.getElem_mem hl))
    · simp at h
  · simp at h

theorem ghosts_ag : ∀ (gs : List Gho) {fr fr' : List AV} {H H' : AH}, ghosts gs fr H = some (fr', H') → Ag (gs.flatMap asgG) fr fr' := by
  intro gs
  induction gs with
  | nil => intro fr fr' H H' h; simp only [ghosts, Option.some.injEq, Prod.mk.injEq] at h; obtain ⟨rfl, rfl⟩ := h; exact .refl _ _
  | cons g gs ih =>
    intro fr fr' H H' h
    simp only [ghosts] at h
    split at h
    · rename_i f1 H1 h1
      have h2 := (ih h).mono (l' := (g :: gs).flatMap asgG) fun i hi => by simp only [List.flatMap_cons, List.mem_append]; exact .inr hi
      refine Ag.trans ?_ h2
      cases g with
      | sealC t off =>
        simp only [ghost] at h1
        split at h1
        · simp only [Option.map_eq_some_iff, Prod.mk.injEq] at h1
          obtain ⟨_, _, rfl, _⟩ := h1
          exact .refl _ _
        · simp at h1
      | kill l =>
        simp only [ghost, Option.some.injEq, Prod.mk.injEq] at h1
        obtain ⟨rfl, rfl⟩ := h1
        exact .kill _ _ fun i hi => by simp only [List.flatMap_cons, List.mem_append, asgG]; exact .inl hi
      | sealT t =>
        have ht : ∀ v, Ag ((Gho.sealT t :: gs).flatMap asgG) fr (fr.set t v) := fun v => .set _ _ (by simp [asgG])
        simp only [ghost] at h1
        split at h1
        · split at h1
          · split at h1
            · simp only [Option.some.injEq, Prod.mk.injEq] at h1; obtain ⟨rfl, rfl⟩ := h1; exact ht _
            · simp at h1
          · simp at h1
        · simp only [Option.some.injEq, Prod.mk.injEq] at h1; obtain ⟨rfl, rfl⟩ := h1; exact .refl _ _
        · simp only [Option.some.injEq, Prod.mk.injEq] at h1; obtain ⟨rfl, rfl⟩ := h1; exact .refl _ _
        · simp at h1
    · simp at h

theorem iexec_ag {D : Den} : ∀ (c : IC) {fr fr' : List AV} {H H' : AH} {e : Ex}, iexec D c fr H = some (e, fr', H') → Ag (asg c) fr fr' := by
  intro c
  induction c with
  | skip => intro fr fr' H H' e h; simp only [iexec, Option.some.injEq, Prod.mk.injEq] at h; obtain ⟨rfl, rfl, rfl⟩ := h; exact .refl _ _
  | exit i => intro fr fr' H H' e h; simp only [iexec, Option.some.injEq, Prod.mk.injEq] at h; obtain ⟨rfl, rfl, rfl⟩ := h; exact .refl _ _
  | ret => intro fr fr' H H' e h; simp only [iexec, Option.some.injEq, Prod.mk.injEq] at h; obtain ⟨rfl, rfl, rfl⟩ := h; exact .refl _ _
  | reg ops =>
    intro fr fr' H H' e h
    simp only [iexec, Option.map_eq_some_iff, Prod.mk.injEq] at h
    obtain ⟨⟨f1, H1⟩, h1, rfl, rfl, rfl⟩ := h
    exact iops_ag ops h1
  | dreg ops bef =>
    intro fr fr' H H' e h
    simp only [iexec, Option.map_eq_some_iff, Prod.mk.injEq] at h
    obtain ⟨⟨f1, H1⟩, h1, rfl, rfl, rfl⟩ := h
    exact dreg_ag h1
  | seq a b iha ihb =>
    intro fr fr' H H' e h
    simp only [iexec] at h
    split at h
    · rename_i f1 H1 h1
      exact ((iha h1).mono fun i hi => by simp [asg, hi]).trans ((ihb h).mono fun i hi => by simp [asg, hi])
    · exact (iha h).mono fun i hi => by simp [asg, hi]
  | cond o a b iha ihb =>
    intro fr fr' H H' e h
    simp only [iexec] at h
    split at h
    · exact (iha h).mono fun i hi => by simp [asg, hi]
    · exact (ihb h).mono fun i hi => by simp [asg, hi]
    · simp at h
  | block id c ih =>
    intro fr fr' H H' e h
    simp only [iexec] at h
    split at h
    · rename_i i f1 H1 h1
      split at h
      · simp only [Option.some.injEq, Prod.mk.injEq] at h; obtain ⟨rfl, rfl, rfl⟩ := h; exact ih h1
      · simp only [Option.some.injEq, Prod.mk.injEq] at h; obtain ⟨rfl, rfl, rfl⟩ := h; exact ih h1
    · exact ih h
  | loop dead c ih =>
    intro fr fr' H H' e h
    simp only [iexec] at h
    obtain ⟨n, hn⟩ := iterω_iff.1 h
    clear h
    induction n generalizing fr H with
    | zero => simp [iter] at hn
    | succ n ihn =>
      have hk : Ag (asg (.loop dead c)) fr (kill dead fr) := .kill _ _ fun i hi => by simp [asg, hi]
      rw [iter] at hn
      split at hn
      · rename_i f1 H1 h1
        exact hk.trans (((ih h1).mono fun i hi => by simp [asg, hi]).trans (ihn hn))
      · exact hk.trans ((ih hn).mono fun i hi => by simp [asg, hi])
  | gh gs c ih =>
    intro fr fr' H H' e h
    simp only [iexec] at h
    split at h
    · rename_i f1 H1 h1
      exact ((ghosts_ag gs h1).mono fun i hi => by simp only [asg, List.mem_append]; exact .inl hi).trans ((ih h).mono fun i hi => by simp only [asg, List.mem_append]; exact .inr hi)
    · simp at h

/-! ### Slots that change, as values -/
def dd : List Nat → List Nat
  | [] => []
  | x :: l => bif l.elem x then dd l else x :: dd l
def slots (l dead : List Nat) : List Nat := (dd l).filter fun x => !dead.elem x

theorem mem_dd {x : Nat} : ∀ {l : List Nat}, x ∈ dd l ↔ x ∈ l := by
  intro l
  induction l with
  | nil => simp [dd]
  | cons y l ih =>
    simp only [dd, Bool.cond_eq_ite, List.elem_eq_mem, decide_eq_true_eq]
    split
    · rename_i h
      rw [ih, List.mem_cons]
      constructor
      · exact .inr
      · rintro (rfl | h2)
        · exact h
        · exact h2
    · simp [ih]

theorem nodup_dd : ∀ (l : List Nat), (dd l).Nodup := by
  intro l
  induction l with
  | nil => simp [dd]
  | cons y l ih =>
    simp only [dd, Bool.cond_eq_ite, List.elem_eq_mem, decide_eq_true_eq]
    split
    · exact ih
    · rename_i h; exact List.nodup_cons.2 ⟨fun hm => h (mem_dd.1 hm), ih⟩

theorem mem_slots {x : Nat} {l dead : List Nat} : x ∈ slots l dead ↔ x ∈ l ∧ x ∉ dead := by
  simp only [slots, List.mem_filter, mem_dd, List.elem_eq_mem, Bool.not_eq_true', decide_eq_false_iff_not]

def upds : List Nat → List AV → List AV → List AV
  | s :: ss, x :: xs, fr => upds ss xs (fr.set s x)
  | _, _, fr => fr

theorem upds_get : ∀ (ss : List Nat) (g : Nat → AV) (fr : List AV) (i : Nat), ss.Nodup →
    (upds ss (ss.map g) fr)[i]? = if i ∈ ss then (fr[i]?).map (fun _ => g i) else fr[i]? := by
  intro ss
  induction ss with
  | nil => intro g fr i _; simp [upds]
  | cons s ss ih =>
    intro g fr i hn
    rw [List.nodup_cons] at hn
    simp only [List.map_cons, upds]
    rw [ih g _ i hn.2]
    by_cases his : i = s
    · subst his
      rw [if_neg hn.1, if_pos (by simp)]
      rcases Nat.lt_or_ge i fr.length with h | h
      · rw [List.getElem?_set_self h, List.getElem?_eq_getElem h]; rfl
      · rw [List.getElem?_eq_none (by simpa using h), List.getElem?_eq_none h]; rfl
    · have hs : (fr.set s (g s))[i]? = fr[i]? := List.getElem?_set_ne (fun e => his e.symm)
      rw [hs]
      by_cases h : i ∈ ss
      · rw [if_pos h, if_pos (by simp [h])]
      · rw [if_neg h, if_neg (by simp [his, h])]

theorem kill_get (l : List Nat) : ∀ (fr : List AV) (i : Nat), (kill l fr)[i]? = if i ∈ l then (fr[i]?).map (fun _ => AV.undef) else fr[i]? := by
  induction l with
  | nil => intro fr i; simp [kill]
  | cons d l ih =>
    intro fr i
    have : kill (d :: l) fr = kill l (fr.set d .undef) := rfl
    rw [this, ih]
    by_cases hd : i = d
    · subst hd
      rcases Nat.lt_or_ge i fr.length with h | h
      · rw [List.getElem?_set_self h, List.getElem?_eq_getElem h]; simp
      · rw [List.getElem?_eq_none (by simpa using h), List.getElem?_eq_none h]; simp
    · rw [List.getElem?_set_ne (fun e => hd e.symm)]
      by_cases h : i ∈ l <;> simp [h, hd]

theorem kill_kill (l : List Nat) (fr : List AV) : kill l (kill l fr) = kill l fr := by
  refine List.ext_getElem? fun i => ?_
  simp only [kill_get]
  by_cases h : i ∈ l
  · simp only [if_pos h]; cases fr[i]? <;> rfl
  · simp only [if_neg h]

/-- After what writes some slots: the frame again, by its values there. -/
theorem kill_upds {as dead : List Nat} {fr0 fr fr' : List AV} (h0 : fr0 = kill dead fr) (h : Ag as fr0 fr' ∨ Ag as fr fr') : kill dead fr' = upds (slots as dead) ((slots as dead).map (getF fr')) (kill dead fr) := by
  have hlen : fr'.length = fr.length := by
    rcases h with h | h
    · rw [h.1, h0]; exact (Ag.kill dead (l := dead) fr fun _ h => h).1
    · exact h.1
  have hnd : (slots as dead).Nodup := (nodup_dd as).filter _
  refine List.ext_getElem? fun i => ?_
  rw [upds_get _ _ _ _ hnd, kill_get, kill_get]
  by_cases hd : i ∈ dead
  · rw [if_pos hd, if_pos hd, if_neg (fun hm => (mem_slots.1 hm).2 hd)]
    rcases Nat.lt_or_ge i fr.length with hl | hl
    · rw [List.getElem?_eq_getElem (by omega), List.getElem?_eq_getElem hl]; rfl
    · rw [List.getElem?_eq_none (by omega), List.getElem?_eq_none hl]
  · rw [if_neg hd, if_neg hd]
    by_cases ha : i ∈ as
    · rw [if_pos (mem_slots.2 ⟨ha, hd⟩)]
      rcases Nat.lt_or_ge i fr.length with hl | hl
      · rw [List.getElem?_eq_getElem (by omega), List.getElem?_eq_getElem hl]
        simp [getF, List.getElem?_eq_getElem (show i < fr'.length by omega)]
      · rw [List.getElem?_eq_none (by omega), List.getElem?_eq_none hl]; rfl
    · rw [if_neg (fun hm => ha (mem_slots.1 hm).1)]
      rcases h with h | h
      · rw [h.2 i ha, h0, kill_get, if_neg hd]
      · exact h.2 i ha

/-! ### The formula -/
def deadOf : IC → Option (List Nat)
  | .gh (.kill dead :: _) _ => some dead
  | _ => none

def sealV (v : AV) (H : AH) : Option (AV × AH) := match v with
  | .slr b o n s => match elems s (.slr b o n s) H with
    | some ys => if 0 < s ∧ elemsOk s ys then some (.sl 0 s ys, ⟨H.obs.set b .dead, H.toks⟩) else none
    | none => none
  | .nils => some (v, H)
  | .sl _ _ _ => some (v, H)
  | _ => none

def sealAt (v : AV) (off : Nat) (H : AH) : Option AH := match v with
  | .ptr b o => sealCell b (o + off) H
  | _ => none

def wpG (k : Kont) : List Gho → List AV → AH → Prop
  | [], fr, H => k fr H
  | .kill l :: gs, fr, H => wpG k gs (kill l fr) H
  | .sealT t :: gs, fr, H => sP (sealV (getF fr t) H) fun v H' => wpG k gs (fr.set t v) H'
  | .sealC t off :: gs, fr, H => hP (sealAt (getF fr t) off H) fun H' => wpG k gs fr H'

def hoistP (k : Kont) : List IOper → List AV → AH → Prop
  | [], fr, H => k fr H
  | o :: os, fr, H => match o.op with
    | .alloc z => aP z H fun v H' => hoistP k os (setd o.dst v fr) H'
    | _ => hoistP k os fr H

def rdO (ios : List IOper) (sts : List (List AV × AH)) (j : Nat) : IOp := match ios[j]? with
  | some o => o.op.sb (stF sts j)
  | none => .mkMap
def chkR (ios : List IOper) (sts : List (List AV × AH)) : List (Nat × Nat) → Prop → Prop
  | [], r => r
  | p :: l, r => sameR (rdO ios sts p.2) (stH sts (p.1 + 1)) (stH sts p.1) ∧ chkR ios sts l r
def alV (ios : List IOper) (sts : List (List AV × AH)) (j : Nat) : AV := match ios[j]? with
  | some o => match o.dst with
    | some d => getF (stF sts 0) d
    | none => .undef
  | none => .undef
def alZ (ios : List IOper) (j : Nat) : List AV := match ios[j]? with
  | some o => match o.op with
    | .alloc z => z
    | _ => []
  | none => []
def chkA (ios : List IOper) (sts : List (List AV × AH)) : List (Nat × Nat) → Prop → Prop
  | [], r => r
  | p :: l, r => keptP (alV ios sts p.2) (alZ ios p.2) (stH sts (p.1 + 1)) ∧ chkA ios sts l r

def wp (D : Den) : IC → Kont → Kont → (Nat → Kont) → List AV → AH → Prop
  | .skip, N, _, _, fr, H => N fr H
  | .reg ops, N, _, _, fr, H => wpO D N ops [] fr H
  | .dreg ops bef, N, _, _, fr, H =>
    bif (dstsA ops).all fun d => Nat.blt d fr.length then
      hoistP (fun f0 H0 => wpT D (fun sts => chkR ops sts (loose ops bef) (chkA ops sts (looseA ops bef) (N (stF sts ops.length) (stH sts ops.length)))) ops [] [] f0 H0) ops fr H
    else False
  | .seq a b, N, R, X, fr, H => match deadOf b with
    | some dead => jP (slots (asg a) dead).length (lam _ fun xs H => wp D b N R X (upds (slots (asg a) dead) xs (kill dead fr)) H)
        (fun j => wp D a (fun fr' H' => appC _ j ((slots (asg a) dead).map (getF fr')) H') R X fr H)
    | none => wp D a (fun fr' H' => wp D b N R X fr' H') R X fr H
  | .cond c a b, N, R, X, fr, H => iP (c.ev fr) (wp D a N R X fr H) (wp D b N R X fr H)
  | .block id c, N, R, X, fr, H => wp D c N R (fun i fr H => bif i == id then N fr H else X i fr H) fr H
  | .loop dead c, _, R, X, fr, H => lP (slots (asg c) dead).length
      (fun self => lam _ fun xs H => wp D c (fun fr' H' => appC _ self ((slots (asg c) dead).map (getF fr')) H') R X (upds (slots (asg c) dead) xs (kill dead fr)) H)
      ((slots (asg c) dead).map (getF fr)) H
  | .exit i, _, _, X, fr, H => X i fr H
  | .ret, _, R, _, fr, H => R fr H
  | .gh gs c, N, R, X, fr, H => wpG (fun fr' H' => wp D c N R X fr' H') gs fr H

theorem wpG_ok {k : Kont} : ∀ (gs : List Gho) {fr : List AV} {H : AH}, wpG k gs fr H → ∃ fr' H', ghosts gs fr H = some (fr', H') ∧ k fr' H' := by
  intro gs
  induction gs with
  | nil => intro fr H h; exact ⟨fr, H, rfl, h⟩
  | cons g gs ih =>
    intro fr H h
    cases g with
    | sealC t off =>
      obtain ⟨H1, h1, h2⟩ := h
      obtain ⟨f, H', h3, h4⟩ := ih h2
      refine ⟨f, H', ?_, h4⟩
      unfold sealAt at h1
      split at h1
      · rename_i b o e
        have := getF_some e (by intro e; cases e)
        simp only [ghosts, ghost, this, h1, Option.map_some]
        exact h3
      · simp at h1
    | kill l =>
      obtain ⟨f, H', h1, h2⟩ := ih h
      exact ⟨f, H', by simp only [ghosts, ghost]; exact h1, h2⟩
    | sealT t =>
      obtain ⟨v, H1, h1, h2⟩ := h
      obtain ⟨f, H', h3, h4⟩ := ih h2
      refine ⟨f, H', ?_, h4⟩
      have hg : ∀ {x : AV}, getF fr t = x → x ≠ .undef → fr[t]? = some x := fun h hv => getF_some h hv
      have e : ghost (.sealT t) fr H = some (fr.set t v, H1) := by
        unfold sealV at h1
        split at h1
        · rename_i b o n s e
          have := hg e (by intro e; cases e)
          simp only [ghost, this]
          split at h1
          · split at h1
            · rename_i ys hys hc
              simp only [Option.some.injEq, Prod.mk.injEq] at h1
              obtain ⟨rfl, rfl⟩ := h1
              rw [hys]
              simp only [if_pos hc]
            · simp at h1
          · simp at h1
        · rename_i e
          have := hg e (by intro e; cases e)
          simp only [Option.some.injEq, Prod.mk.injEq] at h1
          obtain ⟨rfl, rfl⟩ := h1
          simp only [ghost, this]
          rw [e, set_same this]
        · rename_i e
          have := hg e (by intro e; cases e)
          simp only [Option.some.injEq, Prod.mk.injEq] at h1
          obtain ⟨rfl, rfl⟩ := h1
          simp only [ghost, this]
          rw [e, set_same this]
        · simp at h1
      simp only [ghosts, e]
      exact h3

theorem hoistP_ok {k : Kont} : ∀ (os : List IOper) {fr : List AV} {H : AH}, hoistP k os fr H → k (hoist os fr H).1 (hoist os fr H).2 := by
  intro os
  induction os with
  | nil => intro fr H h; exact h
  | cons o os ih =>
    intro fr H h
    simp only [hoistP] at h
    simp only [hoist]
    split at h
    · rename_i z e
      rw [e]
      exact ih h.run
    · rename_i hne
      split
      · rename_i z e; exact absurd e (hne z)
      · exact ih h

theorem chkR_ok {ios : List IOper} {sts : List (List AV × AH)} : ∀ {l : List (Nat × Nat)} {r : Prop}, chkR ios sts l r → (∀ p ∈ l, rdSame ios sts p) ∧ r := by
  intro l
  induction l with
  | nil => intro r h; exact ⟨fun p hp => by simp at hp, h⟩
  | cons p l ih =>
    intro r h
    obtain ⟨h1, h2⟩ := ih h.2
    refine ⟨fun q hq => ?_, h2⟩
    simp only [List.mem_cons] at hq
    rcases hq with rfl | hq
    · intro o ho
      have := h.1
      simp only [rdO, ho, sameR, aop_sb] at this
      exact this
    · exact h1 q hq

theorem chkA_ok {ios : List IOper} {sts : List (List AV × AH)} : ∀ {l : List (Nat × Nat)} {r : Prop}, chkA ios sts l r → (∀ p ∈ l, ∀ z b, alAt ios sts p.2 = some (z, b) → (stH sts (p.1 + 1)).get b = .cells z) ∧ r := by
  intro l
  induction l with
  | nil => intro r h; exact ⟨fun p hp => by simp at hp, h⟩
  | cons p l ih =>
    intro r h
    obtain ⟨h1, h2⟩ := ih h.2
    refine ⟨fun q hq => ?_, h2⟩
    simp only [List.mem_cons] at hq
    rcases hq with rfl | hq
    · intro z b hb
      simp only [alAt, Option.bind_eq_some_iff] at hb
      obtain ⟨o, ho, hb⟩ := hb
      split at hb
      · rename_i z' d e1 e2
        split at hb
        · rename_i b' e3
          simp only [Option.some.injEq, Prod.mk.injEq] at hb
          obtain ⟨rfl, rfl⟩ := hb
          have := h.1
          simp only [alV, alZ, ho, e1, e2] at this
          exact this b' (by simp [getF, e3])
        · simp at hb
      · simp at hb
    · exact h1 q hq

theorem Wc.ag {D : Den} {c : IC} {N R : Kont} {X : Nat → Kont} {fr : List AV} {H : AH} (h : Wc D c N R X fr H) : Wc D c (fun fr' H' => Ag (asg c) fr fr' ∧ N fr' H') R X fr H := by
  obtain ⟨e, fr', H', h1, h2⟩ := h
  refine ⟨e, fr', H', h1, ?_⟩
  have := iexec_ag c h1
  cases e with
  | normal => exact ⟨this, h2⟩
  | ret => exact h2
  | exit i => exact h2

theorem Wc.mono {D : Den} {c : IC} {N N' R : Kont} {X X' : Nat → Kont} {fr : List AV} {H : AH} (h : Wc D c N R X fr H) (hN : ∀ fr H, N fr H → N' fr H) (hX : ∀ i fr H, X i fr H → X' i fr H) : Wc D c N' R X' fr H := by
  obtain ⟨e, fr', H', h1, h2⟩ := h
  refine ⟨e, fr', H', h1, ?_⟩
  cases e with
  | normal => exact hN _ _ h2
  | ret => exact h2
  | exit i => exact hX _ _ _ h2

theorem deadOf_exec {D : Den} {b : IC} {dead : List Nat} (h : deadOf b = some dead) (fr : List AV) (H : AH) : iexec D b (kill dead fr) H = iexec D b fr H := by
  unfold deadOf at h
  split at h
  · simp only [Option.some.injEq] at h
    subst h
    simp only [iexec, ghosts, ghost, kill_kill]
  · simp at h

theorem wp_ok {D : Den} : ∀ (c : IC) {N R : Kont} {X : Nat → Kont} {fr : List AV} {H : AH}, wp D c N R X fr H → Wc D c N R X fr H := by
  intro c
  induction c with
  | skip => intro N R X fr H h; exact wc_skip h
  | exit i => intro N R X fr H h; exact wc_exit h
  | ret => intro N R X fr H h; exact wc_ret h
  | reg ops =>
    intro N R X fr H h
    exact wc_reg (wpO_ok ops (by intro p hp; simp at hp) h)
  | dreg ops bef =>
    intro N R X fr H h
    simp only [wp, Bool.cond_eq_ite] at h
    split at h
    · rename_i hd
      have hd' : ∀ d ∈ dstsA ops, d < fr.length := by
        intro d hm
        have := List.all_eq_true.1 hd d hm
        simpa [Nat.blt_eq] using this
      have h1 := hoistP_ok ops h
      have h2 := wpT_ok ops (by intro p hp; simp at hp) h1
      refine wc_dreg' rfl rfl hd' (f0 := (hoist ops fr H).1) (H0 := (hoist ops fr H).2) rfl ?_
      obtain ⟨sts, h3, h4⟩ := h2
      refine ⟨sts, h3, ?_⟩
      rw [List.nil_append] at h4
      obtain ⟨a1, a2⟩ := chkR_ok h4
      obtain ⟨b1, b2⟩ := chkA_ok a2
      exact ⟨a1, b1, b2⟩
    · exact h.elim
  | seq a b iha ihb =>
    intro N R X fr H h
    simp only [wp] at h
    split at h
    · rename_i dead hd
      refine wc_seq ((iha h.run).ag.mono ?_ fun _ _ _ h => h)
      rintro fr' H' ⟨hag, hj⟩
      rw [appC_lam _ _ _ _ (by simp)] at hj
      rw [← kill_upds rfl (.inr hag)] at hj
      obtain ⟨e, f, H2, h1, h2⟩ := ihb hj
      exact ⟨e, f, H2, by rw [← deadOf_exec hd]; exact h1, h2⟩
    · exact wc_seq ((iha h).mono (fun fr' H' h => ihb h) fun _ _ _ h => h)
  | cond o a b iha ihb =>
    intro N R X fr H h
    obtain ⟨t, ht, h1, h2⟩ := h
    exact wc_cond ht (fun e => iha (h1 e)) fun e => ihb (h2 e)
  | block id c ih =>
    intro N R X fr H h
    refine wc_block ((ih h).mono (fun _ _ h => h) fun i fr H h => ?_)
    simp only [Bool.cond_eq_ite, beq_iff_eq] at h
    exact h
  | loop dead c ih =>
    intro N R X fr H h
    obtain ⟨I, k0, h0, hs⟩ := h
    refine wc_loop (fun m fr1 H1 => ∃ xs : List AV, xs.length = (slots (asg c) dead).length ∧ fr1 = upds (slots (asg c) dead) xs (kill dead fr) ∧ appC _ (I m) xs H1) k0 ?_ ?_
    · refine ⟨_, by simp, ?_, h0⟩
      exact kill_upds (as := asg c) rfl (.inr (.refl _ _))
    · rintro n fr1 H1 ⟨xs, hx, hf, hi⟩
      subst hf
      have h1 := (hs n).app hi
      rw [appC_lam _ _ _ _ hx] at h1
      refine (ih h1).ag.mono ?_ fun _ _ _ h => h
      rintro fr' H' ⟨hag, hj⟩
      rw [lessC, appC_lam _ _ _ _ (by simp)] at hj
      obtain ⟨m, hm, hj⟩ := hj
      refine ⟨m, hm, _, by simp, ?_, hj⟩
      refine kill_upds (as := asg c) (fr0 := kill dead fr) rfl (.inl ?_)
      refine Ag.trans ?_ hag
      clear hj h1 hi hag
      have : ∀ (ss : List Nat) (xs : List AV) (f : List AV), (∀ i ∈ ss, i ∈ asg c) → Ag (asg c) f (upds ss xs f) := by
        intro ss
        induction ss with
        | nil => intro xs f _; simp only [upds]; exact .refl _ _
        | cons s ss ih2 =>
          intro xs f hs
          cases xs with
          | nil => exact .refl _ _
          | cons x xs => exact (Ag.set f x (hs s (by simp))).trans (ih2 xs _ fun i hi => hs i (by simp [hi]))
      exact this _ _ _ fun i hi => (mem_slots.1 hi).1
  | gh gs c ih =>
    intro N R X fr H h
    obtain ⟨fr', H', h1, h2⟩ := wpG_ok gs h
    exact wc_gh h1 (ih h2)

/-! ### Functions -/
def tup1 : List AV → AV
  | [v] => v
  | vs => .tup vs

def resP (fr : List AV) (Q : AV → AH → Prop) (H : AH) : List IRes → List AV → Prop
  | [], acc => Q (tup1 acc) H
  | .tmp t :: rs, acc => bif Nat.blt t fr.length then resP fr Q H rs (acc ++ [getF fr t]) else False
  | .cell t n :: rs, acc => gP (aLoad n (getF fr t) H) fun v => resP fr Q H rs (acc ++ [v])

theorem resP_ok {fr : List AV} {Q : AV → AH → Prop} {H : AH} : ∀ (rs : List IRes) {acc : List AV}, resP fr Q H rs acc → ∃ vs, resVs fr H rs = some vs ∧ Q (tup1 (acc ++ vs)) H := by
  intro rs
  induction rs with
  | nil => intro acc h; exact ⟨[], rfl, by rw [List.append_nil]; exact h⟩
  | cons r rs ih =>
    intro acc h
    cases r with
    | tmp t =>
      simp only [resP, Bool.cond_eq_ite] at h
      split at h
      · rename_i ht
        have ht' : t < fr.length := by simpa [Nat.blt_eq] using ht
        obtain ⟨vs, h1, h2⟩ := ih h
        refine ⟨getF fr t :: vs, ?_, by simpa using h2⟩
        simp only [resVs, resV1, getF, List.getElem?_eq_getElem ht', Option.bind_some, h1, Option.map_some, Option.getD_some]
      · exact h.elim
    | cell t n =>
      obtain ⟨v, hv, h⟩ := h
      obtain ⟨vs, h1, h2⟩ := ih h
      refine ⟨v :: vs, ?_, by simpa using h2⟩
      simp only [getF] at hv
      simp only [resVs, resV1, hv, Option.bind_some, h1, Option.map_some]

def wpF (D : Den) (f : IF) (args : List AV) (H : AH) (Q : AV → AH → Prop) : Prop :=
  wp D f.body (fun fr H => resP fr Q H f.res []) (fun fr H => resP fr Q H f.res []) (fun _ _ _ => False) (args ++ List.replicate (f.nt - args.length) .undef) H

theorem wpF_ok {T : Nat → Option Entry} {k : Nat} {f : IF} (hT : T k = some (.ir f)) {args : List AV} {H : AH} {Q : AV → AH → Prop} (h : wpF (Den.of T) f args H Q) :
    ∃ v H', Den.of T k args H = some (v, H') ∧ Q v H' := by
  refine fun_ir hT fun R hR => ?_
  have hr : ∀ fr H, resP fr Q H f.res [] → R fr H := by
    intro fr H h
    obtain ⟨vs, h1, h2⟩ := resP_ok _ h
    refine hR fr H (tup1 vs) ?_ h2
    simp only [resV, h1]
    rcases vs with _ | ⟨v, _ | ⟨u, vs⟩⟩ <;> rfl
  obtain ⟨e, fr', H', h1, h2⟩ := wp_ok _ h
  refine ⟨e, fr', H', h1, ?_⟩
  cases e with
  | normal => exact hr _ _ h2
  | ret => exact hr _ _ h2
  | exit i => exact h2

end Go.SV
