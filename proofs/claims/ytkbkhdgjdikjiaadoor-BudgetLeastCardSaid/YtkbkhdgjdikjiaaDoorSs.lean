/- Code of the abstract machine, and that the model's code does what it does. Own text of the prover; nothing is assumed. -/
import Derived.Test.YtkbkhdgjdikjiaaDoorSr
import Derived.LoopN
namespace Go.SV

variable {P : Program} {T : Laid} {E E' : Env} {H H' : AH} {w w' : World} {fr : List AV} {a : Act}

/-- What is done beside the machine's steps: a row that is written no more becomes one by value. -/
inductive Gho where
  | sealT (t : Nat)
  | kill (l : List Nat)
  | sealC (t off : Nat)

inductive IC where
  | skip
  | reg (ops : List IOper)
  | dreg (ops : List IOper) (bef : List (List Nat))
  | seq (a b : IC)
  | cond (c : Opd) (a b : IC)
  | block (id : Nat) (c : IC)
  | loop (dead : List Nat) (c : IC)
  | exit (id : Nat)
  | ret
  | gh (gs : List Gho) (c : IC)

inductive Ex where
  | normal
  | exit (id : Nat)
  | ret
  deriving DecidableEq

inductive IRes where
  | tmp (t : Nat)
  | cell (t : Nat) (n : Option Nat)

structure IF where
  nt : Nat
  body : IC
  res : List IRes

def kill (l : List Nat) (fr : List AV) : List AV := l.foldl (fun fr t => fr.set t .undef) fr

/-- A row in a cell, written no more: from now on by value. -/
def sealCell (b i : Nat) (H : AH) : Option AH := match H.get b with
  | .cells c => match c[i]? with
    | some (.slr b2 o2 n s) => match elems s (.slr b2 o2 n s) H with
      | some ys => if b2 ≠ b ∧ 0 < s ∧ elemsOk s ys = true then some ⟨(H.obs.set b2 .dead).set b (.cells (c.set i (.sl 0 s ys))), H.toks⟩ else none
      | none => none
    | some .nils => some H
    | some (.sl _ _ _) => some H
    | _ => none
  | _ => none

def ghost (g : Gho) (fr : List AV) (H : AH) : Option (List AV × AH) :=
  match g with
  | .sealT t => match fr[t]? with
    | some (.slr b o n s) => match elems s (.slr b o n s) H with
      | some ys => if 0 < s ∧ elemsOk s ys then some (fr.set t (.sl 0 s ys), ⟨H.obs.set b .dead, H.toks⟩) else none
      | none => none
    | some .nils => some (fr, H)
    | some (.sl _ _ _) => some (fr, H)
    | _ => none
  | .kill l => some (SV.kill l fr, H)
  | .sealC t off => match fr[t]? with
    | some (.ptr b o) => (sealCell b (o + off) H).map fun H' => (fr, H')
    | _ => none

def ghosts : List Gho → List AV → AH → Option (List AV × AH)
  | [], fr, H => some (fr, H)
  | g :: gs, fr, H => match ghost g fr H with
    | some (fr', H') => ghosts gs fr' H'
    | none => none


abbrev Rd := List AV → AH → Option (Ex × List AV × AH)

def iter (f : Rd) : Nat → Rd
  | 0, _, _ => none
  | n + 1, fr, H =>
    match f fr H with
    | some (.normal, fr', H') => iter f n fr' H'
    | r => r

theorem iter_succ {f : Rd} : ∀ {n : Nat} {fr : List AV} {H : AH} {r}, iter f n fr H = some r → iter f (n + 1) fr H = some r := by
  intro n
  induction n with
  | zero => intro fr H r h; simp [iter] at h
  | succ n ih =>
    intro fr H r h
    rw [iter] at h ⊢
    split
    · rename_i fr' H' he
      rw [he] at h
      exact ih h
    · rename_i hne
      split at h
      · rename_i fr' H' he
        exact absurd he (hne fr' H')
      · exact h

theorem iter_le {f : Rd} {n m : Nat} (hle : n ≤ m) {fr : List AV} {H : AH} {r} (h : iter f n fr H = some r) : iter f m fr H = some r := by
  induction hle with
  | refl => exact h
  | step _ ih => exact iter_succ ih

open Classical in
/-- A loop: as many rounds as it needs. -/
noncomputable def iterω (f : Rd) : Rd := fun fr H =>
  if h : ∃ r, ∃ n, iter f n fr H = some r then some (Classical.choose h) else none

theorem iterω_iff {f : Rd} {fr : List AV} {H : AH} {r} : iterω f fr H = some r ↔ ∃ n, iter f n fr H = some r := by
  unfold iterω
  split
  · rename_i h
    obtain ⟨n, hn⟩ := Classical.choose_spec h
    constructor
    · intro e
      injection e with e
      exact ⟨n, by rw [← e]; exact hn⟩
    · rintro ⟨m, hm⟩
      have h1 := iter_le (Nat.le_max_left n m) hn
      have h2 := iter_le (Nat.le_max_right n m) hm
      rw [h1] at h2
      exact h2
  · rename_i h
    constructor
    · intro e; simp at e
    · rintro ⟨n, hn⟩; exact absurd ⟨r, n, hn⟩ h

theorem iterω_unfold (f : Rd) (fr : List AV) (H : AH) : iterω f fr H = match f fr H with
    | some (.normal, fr', H') => iterω f fr' H'
    | r => r := by
  refine Option.ext fun r => ?_
  constructor
  · intro h
    obtain ⟨n, hn⟩ := iterω_iff.1 h
    cases n with
    | zero => simp [iter] at hn
    | succ n =>
      rw [iter] at hn
      split at hn
      · rename_i fr' H' he
        exact iterω_iff.2 ⟨n, hn⟩
      · exact hn
  · intro h
    split at h
    · rename_i fr' H' he
      obtain ⟨n, hn⟩ := iterω_iff.1 h
      exact iterω_iff.2 ⟨n + 1, by rw [iter, he]; exact hn⟩
    · rename_i hne
      refine iterω_iff.2 ⟨1, ?_⟩
      rw [iter]
      split
      · rename_i fr' H' he; exact absurd he (hne fr' H')
      · exact h

noncomputable def iexec (D : Den) : IC → Rd
  | .skip, fr, H => some (.normal, fr, H)
  | .reg ops, fr, H => (iops D ops fr H).map fun r => (.normal, r.1, r.2)
  | .dreg ops bef, fr, H => (dreg D ops bef fr H).map fun r => (.normal, r.1, r.2)
  | .seq a b, fr, H => match iexec D a fr H with
    | some (.normal, fr', H') => iexec D b fr' H'
    | r => r
  | .cond c a b, fr, H => match c.ev fr with
    | .bool true => iexec D a fr H
    | .bool false => iexec D b fr H
    | _ => none
  | .block id c, fr, H => match iexec D c fr H with
    | some (.exit i, fr', H') => if i = id then some (.normal, fr', H') else some (.exit i, fr', H')
    | r => r
  | .loop dead c, fr, H => iterω (fun fr H => iexec D c (kill dead fr) H) fr H
  | .exit id, fr, H => some (.exit id, fr, H)
  | .ret, fr, H => some (.ret, fr, H)
  | .gh gs c, fr, H => match ghosts gs fr H with
    | some (fr', H') => iexec D c fr' H'
    | none => none

def resV1 (fr : List AV) (H : AH) : IRes → Option AV
  | .tmp t => fr[t]?
  | .cell t n => aLoad n ((fr[t]?).getD .undef) H

def resVs (fr : List AV) (H : AH) : List IRes → Option (List AV)
  | [] => some []
  | r :: rs => (resV1 fr H r).bind fun v => (resVs fr H rs).map (v :: ·)

def resV (fr : List AV) (H : AH) (rs : List IRes) : Option AV :=
  match resVs fr H rs with
  | some [v] => some v
  | some vs => some (.tup vs)
  | none => none

noncomputable def irun (D : Den) (f : IF) (args : List AV) (H : AH) : Option (AV × AH) :=
  match iexec D f.body (args ++ List.replicate (f.nt - args.length) .undef) H with
  | some (.normal, fr, H') | some (.ret, fr, H') => (resV fr H' f.res).map fun v => (v, H')
  | _ => none

/-! ### Against the model -/
def modeOf : IOp → Mode
  | .lit m _ _ => m
  | .append m _ _ _ _ => m
  | .make m _ _ _ _ _ => m
  | .call 1 _ _ => .ref
  | _ => .ro

def trOpers (P : Program) (ops : Array Oper) : List Oper → List IOper → Option (List IOper)
  | [], [] => some []
  | o :: os, i :: is => (trOper P ops (modeOf i.op) o).bind fun x => (trOpers P ops os is).map (x :: ·)
  | _, _ => none

def trC (P : Program) : IC → Code → Option IC
  | .gh gs i, c => (trC P i c).map (.gh gs)
  | .skip, .skip => some .skip
  | .reg is, .region _ ops false => (trOpers P ops ops.toList is).map .reg
  | .dreg is bef, .region _ ops true => (trOpers P ops ops.toList is).bind fun is' => if dOk ops is' bef then some (.dreg is' bef) else none
  | .seq a b, .seq x y => (trC P a x).bind fun a => (trC P b y).map (.seq a)
  | .cond _ a b, .cond c x y => (trOpd c).bind fun c => (trC P a x).bind fun a => (trC P b y).map (.cond c a)
  | .block _ a, .block id x => (trC P a x).map (.block id)
  | .loop dead a, .loop x => (trC P a x).map (.loop dead)
  | .exit _, .exit id => some (.exit id)
  | .ret, .ret => some .ret
  | _, _ => none

def trRes (P : Program) : List ResultVar → Option (List IRes)
  | [] => some []
  | .tmp t :: rs => (trRes P rs).map (.tmp t :: ·)
  | .cell a t :: rs => (aggN P t).bind fun n => (trRes P rs).map (.cell a n :: ·)

def trF (P : Program) (f : IF) (fn : Func) : Option IF :=
  fn.body.bind fun c => (trC P f.body c).bind fun b => (trRes P fn.results.toList).bind fun rs => if fn.name == "runtime.NumGoroutine" then none else some ⟨fn.ntmps, b, rs⟩

theorem trOpers_ok {ops : Array Oper} : ∀ (l : List Oper) (is ios : List IOper) (j : Nat), trOpers P ops l is = some ios → (∀ (k : Nat) o, l[k]? = some o → ops[j + k]? = some o) → OpsR P ops (List.range' j l.length) ios := by
  intro l
  induction l with
  | nil =>
    intro is ios j h _
    cases is with
    | nil => simp only [trOpers, Option.some.injEq] at h; subst h; exact .nil
    | cons i is => simp [trOpers] at h
  | cons o l ih =>
    intro is ios j h hl
    cases is with
    | nil => simp [trOpers] at h
    | cons i is =>
      simp only [trOpers, Option.bind_eq_some_iff, Option.map_eq_some_iff] at h
      obtain ⟨x, hx, xs, hxs, rfl⟩ := h
      rw [List.length_cons, List.range'_succ]
      refine .cons (hl 0 o rfl) hx (ih is xs (j + 1) hxs fun k o hk => ?_)
      have := hl (k + 1) o (by simpa using hk)
      rw [← this]; congr 1; omega

theorem trOpers_range {ops : Array Oper} {is ios : List IOper} (h : trOpers P ops ops.toList is = some ios) : OpsR P ops (List.range ops.size) ios := by
  have := trOpers_ok ops.toList is ios 0 h (fun k o hk => by rw [Nat.zero_add, ← Array.getElem?_toList]; exact hk)
  rw [List.range_eq_range', ← Array.length_toList]
  exact this

theorem FR.set {t : Nat} {v : AV} {v' : Value} {tmps : Array Value} (h : FR E w fr tmps) (ht : tmps[t]? = some v') (hv : VR E w v v') : FR E w (fr.set t v) tmps := by
  refine ⟨by rw [List.length_set]; exact h.1, fun k x hk => ?_⟩
  rw [List.getElem?_set] at hk
  split at hk
  · rename_i e
    subst e
    split at hk
    · simp only [Option.some.injEq] at hk
      subst hk
      exact ⟨v', ht, hv⟩
    · simp at hk
  · exact h.2 k x hk

theorem FR.kill1 {tmps : Array Value} (h : FR E w fr tmps) (t : Nat) : FR E w (fr.set t .undef) tmps := by
  rcases Nat.lt_or_ge t fr.length with hl | hl
  · exact h.set (Array.getElem?_eq_getElem (by rw [← h.1]; exact hl)) (.undef _)
  · rw [List.set_eq_of_length_le hl]; exact h

theorem FR.kill {tmps : Array Value} (l : List Nat) : ∀ {fr : List AV}, FR E w fr tmps → FR E w (kill l fr) tmps := by
  induction l with
  | nil => intro fr h; exact h
  | cons t l ih => intro fr h; exact ih (h.kill1 t)

theorem HRel.recell (hH : HRel E H w) {b i : Nat} {L : Ref} {c : List AV} {x x' : AV} (hb : E.φ b = some L) (hc : H.get b = .cells c) (hx : c[i]? = some x) (hv : ∀ u, w.cell? ⟨L.r, L.d + i, none⟩ = some u → VR E w x u → VR E w x' u) :
    HRel E ⟨H.obs.set b (.cells (c.set i x')), H.toks⟩ w ∧ Step E H w E ⟨H.obs.set b (.cells (c.set i x')), H.toks⟩ w := by
  have hbl := hH.lt b L hb
  have hget : ∀ b', (⟨H.obs.set b (.cells (c.set i x')), H.toks⟩ : AH).get b' = if b = b' then .cells (c.set i x') else H.get b' := by
    intro b'
    simp only [AH.get, List.getElem?_set]
    by_cases h : b = b'
    · subst h; simp [hbl]
    · rw [if_neg h, if_neg h]
  have hlive : ∀ b', ((⟨H.obs.set b (.cells (c.set i x')), H.toks⟩ : AH).get b').live = (H.get b').live := by
    intro b'
    rw [hget]
    by_cases h : b = b'
    · subst h; rw [if_pos rfl, hc]; rfl
    · rw [if_neg h]
  refine ⟨⟨fun b' L' h' => by simpa using hH.lt b' L' h', fun b' L' h' => ?_, fun b1 b2 L1 L2 h1 h2 a1 a2 => hH.inj b1 b2 L1 L2 h1 h2 (by rw [← hlive]; exact a1) (by rw [← hlive]; exact a2), hH.tok, hH.tinj,
    fun b' L' t ns h1 h2 => hH.apart b' L' t ns h1 (by rw [← hlive]; exact h2), hH.prot, fun r hr => ?_⟩, ?_⟩
  · rw [hget]
    by_cases h : b = b'
    · subst h
      rw [if_pos rfl]
      have hL : L' = L := by rw [hb] at h'; exact (Option.some.inj h').symm
      subst hL
      have ho := hH.obj b L' hb
      rw [hc] at ho
      obtain ⟨rc, e, fz, h1, h2, h3, h4, h5⟩ := ho
      refine ⟨rc, e, fz, h1, h2, by simpa using h3, fun j y hj => ?_, h5⟩
      rw [List.getElem?_set] at hj
      split at hj
      · rename_i e1
        subst e1
        split at hj
        · simp only [Option.some.injEq] at hj
          subst hj
          obtain ⟨u, hu, hvu⟩ := h4 i x hx
          exact ⟨u, hu, hv u (by rw [cell_of_block h1]; exact hu) hvu⟩
        · simp at hj
      · exact h4 j y hj
    · rw [if_neg h]; exact hH.obj b' L' h'
  · obtain ⟨a1, a2, a3⟩ := hH.inert r hr
    exact ⟨a1, fun b' L' h1 h2 => a2 b' L' h1 (by rw [← hlive]; exact h2), a3⟩
  · refine ⟨.refl _ _, rfl, rfl, rfl, Nat.le_refl _, fun r _ ho => ⟨fun h => ho ?_, rfl⟩, Nat.le_refl _, by simp, fun _ _ _ h => h⟩
    rcases h with ⟨b', L', h1, h2, h3⟩ | h
    · exact .inl ⟨b', L', h1, by rw [← hlive]; exact h2, h3⟩
    · exact .inr h

theorem sim_sealCell (hH : HRel E H w) {b o off : Nat} {v : Value} (hp : VR E w (.ptr b o) v) (h : sealCell b (o + off) H = some H') :
    ∃ E', HRel E' H' w ∧ Step E H w E' H' w := by
  have triv : H' = H → ∃ E', HRel E' H' w ∧ Step E H w E' H' w := fun e => by subst e; exact ⟨E, hH, .refl _ _ _⟩
  cases hp with
  | ptr _ _ L hL =>
  unfold sealCell at h
  split at h
  · rename_i c hc
    split at h
    · rename_i b2 o2 n s hx
      split at h
      · rename_i ys hys
        split at h
        · rename_i hcond
          simp only [Option.some.injEq] at h
          obtain ⟨u, hu, hvu⟩ := (ref_cells hH hL hc).2 _ _ hx
          obtain ⟨E1, h1, h2, h3⟩ := sim_seal hH hvu hys hcond.2.1 hcond.2.2
          have hc1 : (⟨H.obs.set b2 .dead, H.toks⟩ : AH).get b = .cells c := by
            rw [← hc]
            simp only [AH.get, List.getElem?_set, if_neg hcond.1]
          obtain ⟨k1, k2⟩ := h2.recell (x' := .sl 0 s ys) (h3.ext.φ _ _ hL) hc1 hx (fun u' hu' _ => by
            rw [hu] at hu'
            simp only [Option.some.injEq] at hu'
            subst hu'
            exact h1)
          subst h
          exact ⟨E1, k1, h3.trans k2⟩
        · simp at h
      · simp at h
    · simp only [Option.some.injEq] at h; exact triv h.symm
    · simp only [Option.some.injEq] at h; exact triv h.symm
    · simp at h
  · simp at h

theorem sim_ghost {g : Gho} {fr' : List AV} {tmps : Array Value} (hF : FR E w fr tmps) (hH : HRel E H w) (h : ghost g fr H = some (fr', H')) :
    ∃ E', FR E' w fr' tmps ∧ HRel E' H' w ∧ Step E H w E' H' w := by
  cases g with
  | sealC t off =>
    simp only [ghost] at h
    split at h
    · rename_i b o e
      obtain ⟨v, hv, hr⟩ := hF.2 t _ e
      simp only [Option.map_eq_some_iff, Prod.mk.injEq] at h
      obtain ⟨H1, h1, rfl, rfl⟩ := h
      obtain ⟨E', h2, h3⟩ := sim_sealCell hH hr h1
      exact ⟨E', hF.mono h3.ext, h2, h3⟩
    · simp at h
  | kill l =>
    simp only [ghost, Option.some.injEq, Prod.mk.injEq] at h
    obtain ⟨rfl, rfl⟩ := h
    exact ⟨E, hF.kill l, hH, .refl _ _ _⟩
  | sealT t =>
    simp only [ghost] at h
    split at h
    · rename_i b o n s e
      obtain ⟨v, hv, hr⟩ := hF.2 t _ e
      split at h
      · rename_i ys hys
        split at h
        · rename_i hc
          simp only [Option.some.injEq, Prod.mk.injEq] at h
          obtain ⟨rfl, rfl⟩ := h
          obtain ⟨E', h1, h2, h3⟩ := sim_seal hH hr hys hc.1 hc.2
          exact ⟨E', (hF.mono h3.ext).set hv h1, h2, h3⟩
        · simp at h
      · simp at h
    · simp only [Option.some.injEq, Prod.mk.injEq] at h
      obtain ⟨rfl, rfl⟩ := h
      exact ⟨E, hF, hH, .refl _ _ _⟩
    · simp only [Option.some.injEq, Prod.mk.injEq] at h
      obtain ⟨rfl, rfl⟩ := h
      exact ⟨E, hF, hH, .refl _ _ _⟩
    · simp at h

theorem sim_ghosts (gs : List Gho) : ∀ {E : Env} {H H' : AH} {fr fr' : List AV} {tmps : Array Value}, FR E w fr tmps → HRel E H w → ghosts gs fr H = some (fr', H') →
    ∃ E', FR E' w fr' tmps ∧ HRel E' H' w ∧ Step E H w E' H' w := by
  induction gs with
  | nil =>
    intro E H H' fr fr' tmps hF hH h
    simp only [ghosts, Option.some.injEq, Prod.mk.injEq] at h
    obtain ⟨rfl, rfl⟩ := h
    exact ⟨E, hF, hH, .refl _ _ _⟩
  | cons g gs ih =>
    intro E H H' fr fr' tmps hF hH h
    simp only [ghosts] at h
    split at h
    · rename_i f1 H1 h1
      obtain ⟨E1, a1, a2, a3⟩ := sim_ghost hF hH h1
      obtain ⟨E2, b1, b2, b3⟩ := ih a1 a2 h
      exact ⟨E2, b1, b2, a3.trans b3⟩
    · simp at h

def exOf : Ex → Exit
  | .normal => .normal
  | .exit id => .exit id
  | .ret => .ret

/-- What code ends in. -/
def After (E : Env) (H : AH) (w : World) (a : Act) (fr' : List AV) (H' : AH) (R : Act → World → Prop) : Prop :=
  ∀ E' w' a', FR E' w' fr' a'.tmps → HRel E' H' w' → Step E H w E' H' w' → a'.defers = a.defers → R a' w'

theorem sim_code {D : Den} (hD : DOk P T D) (hm : P.follows .mixedOrders = true) : ∀ (ic : IC) (c : Code) {ic' : IC}, trC P ic c = some ic' → ∀ {E : Env} {H H' : AH} {w : World} {fr fr' : List AV} {a : Act} {e : Ex} {Q : Exit → Act → World → Prop},
    FR E w fr a.tmps → HRel E H w → Rdy T E H w → iexec D ic' fr H = some (e, fr', H') → After E H w a fr' H' (Q (exOf e)) → c.wp P Q a w := by
  intro ic
  induction ic with
  | gh gs i ih =>
    intro c ic' htr E H H' w fr fr' a e Q hF hH h0 h hQ
    simp only [trC, Option.map_eq_some_iff] at htr
    obtain ⟨i', hi, rfl⟩ := htr
    simp only [iexec] at h
    split at h
    · rename_i f1 H1 h1
      obtain ⟨E1, a1, a2, a3⟩ := sim_ghosts gs hF hH h1
      exact ih c hi a1 a2 (h0.step hH a3) h fun E' w' a' b1 b2 b3 b4 => hQ E' w' a' b1 b2 (a3.trans b3) b4
    · simp at h
  | skip =>
    intro c ic' htr E H H' w fr fr' a e Q hF hH h0 h hQ
    cases c <;> simp only [trC, Option.some.injEq, reduceCtorEq] at htr
    subst htr
    simp only [iexec, Option.some.injEq, Prod.mk.injEq] at h
    obtain ⟨rfl, rfl, rfl⟩ := h
    exact wp_skip (hQ E w a hF hH (.refl _ _ _) rfl)
  | reg is =>
    intro c ic' htr E H H' w fr fr' a e Q hF hH h0 h hQ
    cases c with
    | region id ops draw =>
      cases draw <;> simp only [trC, Option.map_eq_some_iff, reduceCtorEq] at htr
      obtain ⟨ios, hos, rfl⟩ := htr
      simp only [iexec, Option.map_eq_some_iff, Prod.mk.injEq] at h
      obtain ⟨⟨f1, H1⟩, h1, rfl, rfl, rfl⟩ := h
      exact wp_region (sim_ops hD (trOpers_range hos) hF hH h0 h1 hQ)
    | _ => simp [trC] at htr
  | dreg is bef =>
    intro c ic' htr E H H' w fr fr' a e Q hF hH h0 h hQ
    cases c with
    | region id ops draw =>
      cases draw <;> simp only [trC, Option.bind_eq_some_iff, reduceCtorEq] at htr
      obtain ⟨ios, hos, htr⟩ := htr
      split at htr
      · rename_i hdo
        simp only [Option.some.injEq] at htr
        subst htr
        simp only [iexec, Option.map_eq_some_iff, Prod.mk.injEq] at h
        obtain ⟨⟨f1, H1⟩, h1, rfl, rfl, rfl⟩ := h
        exact sim_dreg hD (trOpers_range hos) hdo hm hF hH h0 h1 hQ
      · simp at htr
    | _ => simp [trC] at htr
  | seq x y ihx ihy =>
    intro c ic' htr E H H' w fr fr' a e Q hF hH h0 h hQ
    cases c with
    | seq cx cy =>
      simp only [trC, Option.bind_eq_some_iff, Option.map_eq_some_iff] at htr
      obtain ⟨x', hx, y', hy, rfl⟩ := htr
      simp only [iexec] at h
      refine wp_seq ?_
      split at h
      · rename_i f1 H1 h1
        refine ihx cx hx hF hH h0 h1 fun E1 w1 a1 b1 b2 b3 b4 => ?_
        exact ihy cy hy b1 b2 (h0.step hH b3) h fun E2 w2 a2 c1 c2 c3 c4 => hQ E2 w2 a2 c1 c2 (b3.trans c3) (c4.trans b4)
      · rename_i hne
        refine ihx cx hx hF hH h0 h fun E1 w1 a1 b1 b2 b3 b4 => ?_
        cases e with
        | normal => exact absurd h (hne _ _)
        | exit id => exact hQ E1 w1 a1 b1 b2 b3 b4
        | ret => exact hQ E1 w1 a1 b1 b2 b3 b4
    | _ => simp [trC] at htr
  | cond o x y ihx ihy =>
    intro c ic' htr E H H' w fr fr' a e Q hF hH h0 h hQ
    cases c with
    | cond co cx cy =>
      simp only [trC, Option.bind_eq_some_iff, Option.map_eq_some_iff] at htr
      obtain ⟨o', ho, x', hx, y', hy, rfl⟩ := htr
      have hv := hF.ev ho
      simp only [iexec] at h
      split at h
      · rename_i hb
        rw [hb] at hv
        generalize hev : a.eval co = v at hv
        cases hv
        exact wp_cond_true hev (ihx cx hx hF hH h0 h hQ)
      · rename_i hb
        rw [hb] at hv
        generalize hev : a.eval co = v at hv
        cases hv
        exact wp_cond_false hev (ihy cy hy hF hH h0 h hQ)
      · simp at h
    | _ => simp [trC] at htr
  | block id x ih =>
    intro c ic' htr E H H' w fr fr' a e Q hF hH h0 h hQ
    cases c with
    | block cid cx =>
      simp only [trC, Option.map_eq_some_iff] at htr
      obtain ⟨x', hx, rfl⟩ := htr
      simp only [iexec] at h
      refine wp_block ?_
      split at h
      · rename_i i f1 H1 h1
        split at h
        · rename_i hid
          simp only [Option.some.injEq, Prod.mk.injEq] at h
          obtain ⟨rfl, rfl, rfl⟩ := h
          refine ih cx hx hF hH h0 h1 fun E1 w1 a1 b1 b2 b3 b4 => ?_
          simp only [exOf, Exit.inBlock, hid, if_true]
          exact hQ E1 w1 a1 b1 b2 b3 b4
        · rename_i hid
          simp only [Option.some.injEq, Prod.mk.injEq] at h
          obtain ⟨rfl, rfl, rfl⟩ := h
          refine ih cx hx hF hH h0 h1 fun E1 w1 a1 b1 b2 b3 b4 => ?_
          simp only [exOf, Exit.inBlock, if_neg hid]
          exact hQ E1 w1 a1 b1 b2 b3 b4
      · rename_i hne
        refine ih cx hx hF hH h0 h fun E1 w1 a1 b1 b2 b3 b4 => ?_
        cases e with
        | normal => exact hQ E1 w1 a1 b1 b2 b3 b4
        | exit i => exact absurd h (hne _ _ _)
        | ret => exact hQ E1 w1 a1 b1 b2 b3 b4
    | _ => simp [trC] at htr
  | loop dead x ih =>
    intro c ic' htr E H H' w fr fr' a e Q hF hH h0 h hQ
    cases c with
    | loop cx =>
      simp only [trC, Option.map_eq_some_iff] at htr
      obtain ⟨x', hx, rfl⟩ := htr
      simp only [iexec] at h
      obtain ⟨n, hn⟩ := iterω_iff.1 h
      refine wp_loop_rounds n ?_
      clear h
      induction n generalizing E H w fr a with
      | zero => simp [iter] at hn
      | succ n ihn =>
        rw [iter] at hn
        rw [rounds_succ]
        split at hn
        · rename_i f1 H1 h1
          refine ih cx hx (hF.kill dead) hH h0 h1 fun E1 w1 a1 b1 b2 b3 b4 => ?_
          exact ihn b1 b2 (h0.step hH b3) (fun E2 w2 a2 c1 c2 c3 c4 => hQ E2 w2 a2 c1 c2 (b3.trans c3) (c4.trans b4)) hn
        · rename_i hne
          refine ih cx hx (hF.kill dead) hH h0 hn fun E1 w1 a1 b1 b2 b3 b4 => ?_
          cases e with
          | normal => exact absurd hn (hne _ _)
          | exit i => exact hQ E1 w1 a1 b1 b2 b3 b4
          | ret => exact hQ E1 w1 a1 b1 b2 b3 b4
    | _ => simp [trC] at htr
  | exit id =>
    intro c ic' htr E H H' w fr fr' a e Q hF hH h0 h hQ
    cases c <;> simp only [trC, Option.some.injEq, reduceCtorEq] at htr
    subst htr
    simp only [iexec, Option.some.injEq, Prod.mk.injEq] at h
    obtain ⟨rfl, rfl, rfl⟩ := h
    exact wp_exit (hQ E w a hF hH (.refl _ _ _) rfl)
  | ret =>
    intro c ic' htr E H H' w fr fr' a e Q hF hH h0 h hQ
    cases c <;> simp only [trC, Option.some.injEq, reduceCtorEq] at htr
    subst htr
    simp only [iexec, Option.some.injEq, Prod.mk.injEq] at h
    obtain ⟨rfl, rfl, rfl⟩ := h
    exact wp_ret (hQ E w a hF hH (.refl _ _ _) rfl)

/-! ### Results, functions -/
theorem load_same (hH : HRel E H w) {t : TypeId} {d : TypeDesc} (hd : P.underlying t = some d) {n : Option Nat} (hn : n = if isAggD d then sizeT P t else none)
    (hs : (sizeT P t).isSome) {a x : AV} {v : Value} (ha : VR E w a v) (hx : aLoad n a H = some x) : ∃ r o v', v = .pointer (some ⟨r, o, none⟩) ∧ (loadVar t ⟨r, o, none⟩).run P w = .ok v' w ∧ VR E w x v' := by
  unfold aLoad at hx
  split at hx
  · rename_i b o
    cases ha with
    | ptr _ _ L hL =>
      split at hx
      · rename_i c hc
        obtain ⟨h1, h2⟩ := ref_cells hH hL hc
        have hp : part 0 n (c.drop o) = some x := by
          cases n with
          | none => simpa [part] using hx
          | some n =>
            simp only [part] at hx ⊢
            simp only [List.drop_zero, Nat.zero_add, List.length_drop]
            split at hx
            · rename_i hle; rw [if_pos (by omega)]; exact hx
            · simp at hx
        obtain ⟨v', hr, hv⟩ := load_gen (w := w) (E := E) (r := L.r) (o := L.d + o) hd hn hs hp (fun j y hj => by
          rw [List.getElem?_drop] at hj
          obtain ⟨u, hu, hv⟩ := h2 (o + j) y hj
          exact ⟨u, by rw [Nat.add_assoc]; exact hu, hv⟩)
        exact ⟨_, _, v', rfl, hr, hv⟩
      · simp at hx
  · rename_i cs
    cases ha with
    | vp _ r o us hc hp hv =>
      have hp : part 0 n cs = some x := by
        cases n with
        | none => simpa [part] using hx
        | some n => simpa [part] using hx
      obtain ⟨v', hr, hv⟩ := load_gen (w := w) (E := E) (r := r) (o := o) hd hn hs hp (fun j y hj => ⟨us j, hc j y hj, hv j y hj⟩)
      exact ⟨_, _, v', rfl, hr, hv⟩
  · simp at hx

def resOne (tmps : Array Value) : ResultVar → Sem Value
  | .tmp t => pure (tmps.getD t undef)
  | .cell x t => do loadVar t (← asAddr (tmps.getD x undef))

theorem sim_res1 (hF : FR E w fr a.tmps) (hH : HRel E H w) {r : ResultVar} {rs : List ResultVar} {r' : IRes} {rs' : List IRes} {v : AV} (hr : trRes P (r :: rs) = some (r' :: rs')) (h : resV1 fr H r' = some v) :
    trRes P rs = some rs' ∧ ∃ v', (resOne a.tmps r).run P w = .ok v' w ∧ VR E w v v' := by
  cases r with
  | tmp t =>
    simp only [trRes, Option.map_eq_some_iff, List.cons.injEq] at hr
    obtain ⟨l, hl, rfl, rfl⟩ := hr
    obtain ⟨u, hu, hv⟩ := hF.2 t v h
    exact ⟨hl, u, by simp [resOne, Array.getD_eq_getD_getElem?, hu], hv⟩
  | cell x t =>
    simp only [trRes, Option.map_eq_some_iff, Option.bind_eq_some_iff, List.cons.injEq] at hr
    obtain ⟨n, hn, l, hl, rfl, rfl⟩ := hr
    refine ⟨hl, ?_⟩
    obtain ⟨d, hd, hnn, hs⟩ := aggN_spec hn
    simp only [resV1] at h
    cases hx : fr[x]? with
    | none => rw [hx] at h; simp [aLoad] at h
    | some y =>
      rw [hx] at h
      obtain ⟨u, hu, hv⟩ := hF.2 x y hx
      obtain ⟨r, o, v', rfl, h1, h2⟩ := load_same (P := P) hH hd hnn hs hv h
      exact ⟨v', by simp [resOne, Array.getD_eq_getD_getElem?, hu, asAddr, h1], h2⟩

theorem sim_resVs (hF : FR E w fr a.tmps) (hH : HRel E H w) : ∀ (rs : List ResultVar) {rs' : List IRes} {vs : List AV}, trRes P rs = some rs' → resVs fr H rs' = some vs →
    ∃ us : List Value, (rs.mapM (resOne a.tmps)).run P w = .ok us w ∧ vs.length = us.length ∧ ∀ (j : Nat) x u, vs[j]? = some x → us[j]? = some u → VR E w x u := by
  intro rs
  induction rs with
  | nil =>
    intro rs' vs hr h
    simp only [trRes, Option.some.injEq] at hr
    subst hr
    simp only [resVs, Option.some.injEq] at h
    subst h
    exact ⟨[], by simp, rfl, by simp⟩
  | cons r rs ih =>
    intro rs' vs hr h
    cases rs' with
    | nil =>
      exfalso
      cases r <;> simp [trRes, Option.bind_eq_some_iff] at hr
    | cons r' rs' =>
      simp only [resVs, Option.bind_eq_some_iff, Option.map_eq_some_iff] at h
      obtain ⟨v, hv, l, hl, rfl⟩ := h
      obtain ⟨hrs, v', hv', hvr⟩ := sim_res1 hF hH hr hv
      obtain ⟨us, h1, h2, h3⟩ := ih hrs hl
      refine ⟨v' :: us, by simp [List.mapM_cons, hv', h1], by simp [h2], fun j x u hj hu => ?_⟩
      cases j with
      | zero =>
        simp only [List.getElem?_cons_zero, Option.some.injEq] at hj hu
        subst hj; subst hu; exact hvr
      | succ j => exact h3 j x u (by simpa using hj) (by simpa using hu)

theorem results_eq (fn : Func) (tmps : Array Value) : results fn tmps = (do
    let vs ← fn.results.mapM (resOne tmps)
    pure (if h : vs.size = 1 then vs[0] else .tuple vs)) := by
  unfold results
  congr 1

theorem sim_resV (hF : FR E w fr a.tmps) (hH : HRel E H w) {fn : Func} {rs' : List IRes} {v : AV} (hr : trRes P fn.results.toList = some rs') (h : resV fr H rs' = some v) :
    ∃ v', (results fn a.tmps).run P w = .ok v' w ∧ VR E w v v' := by
  unfold resV at h
  have key : ∀ {vs : List AV}, resVs fr H rs' = some vs → ∃ us : Array Value, (results fn a.tmps).run P w = .ok (if h : us.size = 1 then us[0] else .tuple us) w ∧ vs.length = us.size ∧ ∀ (j : Nat) x u, vs[j]? = some x → us[j]? = some u → VR E w x u := by
    intro vs hvs
    obtain ⟨us, h1, h2, h3⟩ := sim_resVs hF hH _ hr hvs
    refine ⟨us.toArray, ?_, by simpa using h2, fun j x u hj hu => h3 j x u hj (by simpa using hu)⟩
    rw [results_eq, Array.mapM_eq_mapM_toList]
    simp [h1]
  split at h
  · rename_i v0 hvs
    simp only [Option.some.injEq] at h
    subst h
    obtain ⟨us, h1, h2, h3⟩ := key hvs
    have hs : us.size = 1 := by simpa using h2.symm
    rw [dif_pos hs] at h1
    exact ⟨_, h1, h3 0 _ _ rfl (by rw [Array.getElem?_eq_getElem])⟩
  · rename_i vs hne hvs
    simp only [Option.some.injEq] at h
    subst h
    obtain ⟨us, h1, h2, h3⟩ := key hvs
    have hs : us.size ≠ 1 := by
      intro e
      rw [e] at h2
      obtain ⟨x, rfl⟩ := List.length_eq_one_iff.1 h2
      exact hne x rfl
    rw [dif_neg hs] at h1
    exact ⟨_, h1, .tup _ _ h2 h3⟩
  · simp at h

/-- A function does what its translation does. -/
theorem sim_fun {D : Den} (hD : DOk P T D) (hm : P.follows .mixedOrders = true) {f : FuncId} {fn : Func} {i i' : IF} (hf : P.funcs[f]? = some fn) (ht : trF P i fn = some i') {args : List AV} {v : AV} (h : irun D i' args H = some (v, H')) :
    Enters P f ∧ CallSim P T f args H v H' := by
  simp only [trF, Option.bind_eq_some_iff] at ht
  obtain ⟨c, hc, b, hb, rs, hrs, ht⟩ := ht
  split at ht
  · simp at ht
  · rename_i hname
    simp only [Option.some.injEq] at ht
    subst ht
    refine ⟨⟨fn, hf, by rw [hc]; rfl, by simpa using hname⟩, fun E w rargs hH h0 hargs => ?_⟩
    refine calls_of_wp hf hc ?_
    have hF : FR E w (args ++ List.replicate (fn.ntmps - args.length) .undef) (rargs ++ Array.replicate (fn.ntmps - rargs.size) undef) := by
      refine ⟨by simp [hargs.1], fun t x hx => ?_⟩
      rcases Nat.lt_or_ge t args.length with hl | hl
      · rw [List.getElem?_append_left hl] at hx
        have hl' : t < rargs.size := by rw [← hargs.1]; exact hl
        exact ⟨rargs[t], by rw [Array.getElem?_append_left hl', Array.getElem?_eq_getElem hl'], hargs.2 t x _ hx (Array.getElem?_eq_getElem hl')⟩
      · rw [List.getElem?_append_right hl] at hx
        have hlt := getElem?_lt hx
        rw [List.getElem?_replicate] at hx
        split at hx
        · simp only [Option.some.injEq] at hx
          subst hx
          refine ⟨undef, ?_, .undef _⟩
          rw [Array.getElem?_append_right (by rw [← hargs.1]; exact hl), Array.getElem?_replicate, if_pos]
          rw [← hargs.1]; assumption
        · simp at hx
    simp only [irun] at h
    split at h
    · rename_i fr1 H1 h1
      simp only [Option.map_eq_some_iff, Prod.mk.injEq] at h
      obtain ⟨v0, hv0, rfl, rfl⟩ := h
      refine sim_code hD hm i.body c hb hF hH h0 h1 fun E' w' a' b1 b2 b3 b4 => ?_
      obtain ⟨v', q1, q2⟩ := sim_resV b1 b2 hrs hv0
      exact ⟨b4, v', q1, E', v', rfl, q2, b2, b3⟩
    · rename_i fr1 H1 h1
      simp only [Option.map_eq_some_iff, Prod.mk.injEq] at h
      obtain ⟨v0, hv0, rfl, rfl⟩ := h
      refine sim_code hD hm i.body c hb hF hH h0 h1 fun E' w' a' b1 b2 b3 b4 => ?_
      obtain ⟨v', q1, q2⟩ := sim_resV b1 b2 hrs hv0
      exact ⟨b4, v', q1, E', v', rfl, q2, b2, b3⟩
    · simp at h

end Go.SV
