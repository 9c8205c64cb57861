/- What a program's functions come to in the abstract machine: the limit of all depths of calls. Own text of the prover; nothing is assumed. -/
import Derived.Test.YtkbkhdgjdikjiaaDoorSs
namespace Go.SV

variable {P : Program} {T' : Laid} {H H' : AH} {fr : List AV}

def DLe (D D' : Den) : Prop := ∀ k args H r, D k args H = some r → D' k args H = some r

variable {D D' : Den}

theorem iop_mono (h : DLe D D') {io : IOp} {r} (hr : iop D fr io H = some r) : iop D' fr io H = some r := by
  cases io with
  | call n f xs =>
    simp only [iop] at hr ⊢
    split at hr
    · split at hr
      · rename_i hk; rw [if_pos hk]; exact h _ _ _ _ hr
      · simp at hr
    · simp at hr
  | _ => exact hr

theorem iops_mono (h : DLe D D') : ∀ {os : List IOper} {fr : List AV} {H : AH} {r}, iops D os fr H = some r → iops D' os fr H = some r := by
  intro os
  induction os with
  | nil => intro fr H r hr; exact hr
  | cons o os ih =>
    intro fr H r hr
    simp only [iops] at hr ⊢
    split at hr
    · split at hr
      · rename_i v H1 hv
        rw [iop_mono h hv]
        exact ih hr
      · simp at hr
    · exact ih hr
    · simp at hr

theorem trace_mono (h : DLe D D') : ∀ {os : List IOper} {fr : List AV} {H : AH} {r}, trace D os fr H = some r → trace D' os fr H = some r := by
  intro os
  induction os with
  | nil => intro fr H r hr; exact hr
  | cons o os ih =>
    intro fr H r hr
    simp only [trace] at hr ⊢
    split at hr
    · rename_i ha
      rw [if_pos ha]
      simp only [Option.map_eq_some_iff] at hr ⊢
      obtain ⟨l, hl, rfl⟩ := hr
      exact ⟨l, ih hl, rfl⟩
    · rename_i ha
      rw [if_neg ha]
      split at hr
      · split at hr
        · rename_i v H1 hv
          rw [iop_mono h hv]
          simp only [Option.map_eq_some_iff] at hr ⊢
          obtain ⟨l, hl, rfl⟩ := hr
          exact ⟨l, ih hl, rfl⟩
        · simp at hr
      · simp only [Option.map_eq_some_iff] at hr ⊢
        obtain ⟨l, hl, rfl⟩ := hr
        exact ⟨l, ih hl, rfl⟩
      · simp at hr

theorem dreg_mono (h : DLe D D') {ios : List IOper} {bef : List (List Nat)} {r} (hr : dreg D ios bef fr H = some r) : dreg D' ios bef fr H = some r := by
  simp only [dreg] at hr ⊢
  split at hr
  · rename_i sts hs
    rw [trace_mono h hs]
    exact hr
  · simp at hr

theorem iter_mono {f g : Rd} (h : ∀ fr H r, f fr H = some r → g fr H = some r) : ∀ {n : Nat} {fr : List AV} {H : AH} {r}, iter f n fr H = some r → iter g n fr H = some r := by
  intro n
  induction n with
  | zero => intro fr H r hr; simp [iter] at hr
  | succ n ih =>
    intro fr H r hr
    rw [iter] at hr ⊢
    split at hr
    · rename_i f1 H1 h1
      rw [h _ _ _ h1]
      exact ih hr
    · rename_i hne
      rw [h _ _ _ hr]
      obtain ⟨e, f1, H1⟩ := r
      cases e with
      | normal => exact absurd hr (hne _ _)
      | _ => rfl

theorem iexec_mono (h : DLe D D') : ∀ {c : IC} {fr : List AV} {H : AH} {r}, iexec D c fr H = some r → iexec D' c fr H = some r := by
  intro c
  induction c with
  | skip => intro fr H r hr; exact hr
  | exit id => intro fr H r hr; exact hr
  | ret => intro fr H r hr; exact hr
  | reg ops =>
    intro fr H r hr
    simp only [iexec, Option.map_eq_some_iff] at hr ⊢
    obtain ⟨x, hx, rfl⟩ := hr
    exact ⟨x, iops_mono h hx, rfl⟩
  | dreg ops bef =>
    intro fr H r hr
    simp only [iexec, Option.map_eq_some_iff] at hr ⊢
    obtain ⟨x, hx, rfl⟩ := hr
    exact ⟨x, dreg_mono h hx, rfl⟩
  | seq a b iha ihb =>
    intro fr H r hr
    simp only [iexec] at hr ⊢
    split at hr
    · rename_i f1 H1 h1
      rw [iha h1]
      exact ihb hr
    · rename_i hne
      rw [iha hr]
      obtain ⟨e, f1, H1⟩ := r
      cases e with
      | normal => exact absurd hr (hne _ _)
      | _ => rfl
  | cond c a b iha ihb =>
    intro fr H r hr
    simp only [iexec] at hr ⊢
    split at hr
    · exact iha hr
    · exact ihb hr
    · simp at hr
  | block id c ih =>
    intro fr H r hr
    simp only [iexec] at hr ⊢
    split at hr
    · rename_i i f1 H1 h1
      rw [ih h1]
      exact hr
    · rename_i hne
      rw [ih hr]
      obtain ⟨e, f1, H1⟩ := r
      cases e with
      | exit i => exact absurd hr (hne _ _ _)
      | _ => rfl
  | loop dead c ih =>
    intro fr H r hr
    simp only [iexec] at hr ⊢
    obtain ⟨n, hn⟩ := iterω_iff.1 hr
    exact iterω_iff.2 ⟨n, iter_mono (fun _ _ _ h => ih h) hn⟩
  | gh gs c ih =>
    intro fr H r hr
    simp only [iexec] at hr ⊢
    split at hr
    · exact ih hr
    · simp at hr

theorem irun_mono (h : DLe D D') {f : IF} {args : List AV} {r} (hr : irun D f args H = some r) : irun D' f args H = some r := by
  simp only [irun] at hr ⊢
  split at hr
  · rename_i f1 H1 h1; rw [iexec_mono h h1]; exact hr
  · rename_i f1 H1 h1; rw [iexec_mono h h1]; exact hr
  · simp at hr

/-! ### Chains -/
structure Chain (C : Nat → Den) : Prop where
  up : ∀ n, DLe (C n) (C (n + 1))

variable {C : Nat → Den}

theorem Chain.le (h : Chain C) {n m : Nat} (hle : n ≤ m) : DLe (C n) (C m) := by
  induction hle with
  | refl => intro k args H r hr; exact hr
  | step _ ih => intro k args H r hr; exact h.up _ _ _ _ _ (ih _ _ _ _ hr)

open Classical in
noncomputable def lim (C : Nat → Den) : Den := fun k args H =>
  if h : ∃ r n, C n k args H = some r then some (Classical.choose h) else none

theorem lim_iff (h : Chain C) {k : Nat} {args : List AV} {r} : lim C k args H = some r ↔ ∃ n, C n k args H = some r := by
  unfold lim
  split
  · rename_i hx
    obtain ⟨n, hn⟩ := Classical.choose_spec hx
    constructor
    · intro e
      injection e with e
      exact ⟨n, by rw [← e]; exact hn⟩
    · rintro ⟨m, hm⟩
      have h1 := h.le (Nat.le_max_left n m) _ _ _ _ hn
      have h2 := h.le (Nat.le_max_right n m) _ _ _ _ hm
      rw [h1] at h2
      exact h2
  · rename_i hx
    constructor
    · intro e; simp at e
    · rintro ⟨n, hn⟩; exact absurd ⟨r, n, hn⟩ hx

theorem Chain.le_lim (h : Chain C) (n : Nat) : DLe (C n) (lim C) := fun _ _ _ _ hr => (lim_iff h).2 ⟨n, hr⟩

theorem iop_cont (h : Chain C) {io : IOp} {r} (hr : iop (lim C) fr io H = some r) : ∃ n, iop (C n) fr io H = some r := by
  cases io with
  | call n f xs =>
    simp only [iop] at hr ⊢
    split at hr
    · split at hr
      · rename_i hk; obtain ⟨n, hn⟩ := (lim_iff h).1 hr; exact ⟨n, by rw [if_pos hk]; exact hn⟩
      · simp at hr
    · simp at hr
  | _ => exact ⟨0, hr⟩

theorem iops_cont (h : Chain C) : ∀ {os : List IOper} {fr : List AV} {H : AH} {r}, iops (lim C) os fr H = some r → ∃ n, iops (C n) os fr H = some r := by
  intro os
  induction os with
  | nil => intro fr H r hr; exact ⟨0, hr⟩
  | cons o os ih =>
    intro fr H r hr
    simp only [iops] at hr ⊢
    split at hr
    · split at hr
      · rename_i v H1 hv
        obtain ⟨n, hn⟩ := iop_cont h hv
        obtain ⟨m, hm⟩ := ih hr
        refine ⟨max n m, ?_⟩
        rw [iop_mono (h.le (Nat.le_max_left n m)) hn]
        exact iops_mono (h.le (Nat.le_max_right n m)) hm
      · simp at hr
    · exact ih hr
    · simp at hr

theorem trace_cont (h : Chain C) : ∀ {os : List IOper} {fr : List AV} {H : AH} {r}, trace (lim C) os fr H = some r → ∃ n, trace (C n) os fr H = some r := by
  intro os
  induction os with
  | nil => intro fr H r hr; exact ⟨0, hr⟩
  | cons o os ih =>
    intro fr H r hr
    simp only [trace] at hr ⊢
    split at hr
    · rename_i ha
      simp only [Option.map_eq_some_iff] at hr
      obtain ⟨l, hl, rfl⟩ := hr
      obtain ⟨n, hn⟩ := ih hl
      exact ⟨n, by rw [if_pos ha, hn]; rfl⟩
    · rename_i ha
      split at hr
      · split at hr
        · rename_i v H1 hv
          simp only [Option.map_eq_some_iff] at hr
          obtain ⟨l, hl, rfl⟩ := hr
          obtain ⟨n, hn⟩ := iop_cont h hv
          obtain ⟨m, hm⟩ := ih hl
          refine ⟨max n m, ?_⟩
          rw [if_neg ha, iop_mono (h.le (Nat.le_max_left n m)) hn]
          simp only
          rw [trace_mono (h.le (Nat.le_max_right n m)) hm]; rfl
        · simp at hr
      · simp only [Option.map_eq_some_iff] at hr
        obtain ⟨l, hl, rfl⟩ := hr
        obtain ⟨m, hm⟩ := ih hl
        exact ⟨m, by rw [if_neg ha, hm]; rfl⟩
      · simp at hr

theorem dreg_cont (h : Chain C) {ios : List IOper} {bef : List (List Nat)} {r} (hr : dreg (lim C) ios bef fr H = some r) : ∃ n, dreg (C n) ios bef fr H = some r := by
  simp only [dreg] at hr ⊢
  split at hr
  · rename_i sts hs
    obtain ⟨n, hn⟩ := trace_cont h hs
    exact ⟨n, by rw [hn]; exact hr⟩
  · simp at hr

theorem iexec_cont (h : Chain C) : ∀ {c : IC} {fr : List AV} {H : AH} {r}, iexec (lim C) c fr H = some r → ∃ n, iexec (C n) c fr H = some r := by
  intro c
  induction c with
  | skip => intro fr H r hr; exact ⟨0, hr⟩
  | exit id => intro fr H r hr; exact ⟨0, hr⟩
  | ret => intro fr H r hr; exact ⟨0, hr⟩
  | reg ops =>
    intro fr H r hr
    simp only [iexec, Option.map_eq_some_iff] at hr ⊢
    obtain ⟨x, hx, rfl⟩ := hr
    obtain ⟨n, hn⟩ := iops_cont h hx
    exact ⟨n, x, hn, rfl⟩
  | dreg ops bef =>
    intro fr H r hr
    simp only [iexec, Option.map_eq_some_iff] at hr ⊢
    obtain ⟨x, hx, rfl⟩ := hr
    obtain ⟨n, hn⟩ := dreg_cont h hx
    exact ⟨n, x, hn, rfl⟩
  | seq a b iha ihb =>
    intro fr H r hr
    simp only [iexec] at hr ⊢
    split at hr
    · rename_i f1 H1 h1
      obtain ⟨n, hn⟩ := iha h1
      obtain ⟨m, hm⟩ := ihb hr
      refine ⟨max n m, ?_⟩
      rw [iexec_mono (h.le (Nat.le_max_left n m)) hn]
      exact iexec_mono (h.le (Nat.le_max_right n m)) hm
    · rename_i hne
      obtain ⟨n, hn⟩ := iha hr
      refine ⟨n, ?_⟩
      rw [hn]
      obtain ⟨e, f1, H1⟩ := r
      cases e with
      | normal => exact absurd hr (hne _ _)
      | _ => rfl
  | cond c a b iha ihb =>
    intro fr H r hr
    simp only [iexec] at hr ⊢
    split at hr
    · exact iha hr
    · exact ihb hr
    · simp at hr
  | block id c ih =>
    intro fr H r hr
    simp only [iexec] at hr ⊢
    split at hr
    · rename_i i f1 H1 h1
      obtain ⟨n, hn⟩ := ih h1
      exact ⟨n, by rw [hn]; exact hr⟩
    · rename_i hne
      obtain ⟨n, hn⟩ := ih hr
      refine ⟨n, ?_⟩
      rw [hn]
      obtain ⟨e, f1, H1⟩ := r
      cases e with
      | exit i => exact absurd hr (hne _ _ _)
      | _ => rfl
  | loop dead c ih =>
    intro fr H r hr
    simp only [iexec] at hr ⊢
    obtain ⟨n, hn⟩ := iterω_iff.1 hr
    clear hr
    suffices hs : ∃ m, iter (fun fr H => iexec (C m) c (kill dead fr) H) n fr H = some r by
      obtain ⟨m, hm⟩ := hs
      exact ⟨m, iterω_iff.2 ⟨n, hm⟩⟩
    induction n generalizing fr H with
    | zero => simp [iter] at hn
    | succ n ihn =>
      rw [iter] at hn
      split at hn
      · rename_i f1 H1 h1
        obtain ⟨m1, hm1⟩ := ih h1
        obtain ⟨m2, hm2⟩ := ihn hn
        refine ⟨max m1 m2, ?_⟩
        rw [iter, iexec_mono (h.le (Nat.le_max_left m1 m2)) hm1]
        exact iter_mono (fun _ _ _ hh => iexec_mono (h.le (Nat.le_max_right m1 m2)) hh) hm2
      · rename_i hne
        obtain ⟨m, hm⟩ := ih hn
        refine ⟨m, ?_⟩
        rw [iter, hm]
        obtain ⟨e, f1, H1⟩ := r
        cases e with
        | normal => exact absurd hn (hne _ _)
        | _ => rfl
  | gh gs c ih =>
    intro fr H r hr
    simp only [iexec] at hr ⊢
    split at hr
    · exact ih hr
    · simp at hr

theorem irun_cont (h : Chain C) {f : IF} {args : List AV} {r} (hr : irun (lim C) f args H = some r) : ∃ n, irun (C n) f args H = some r := by
  simp only [irun] at hr ⊢
  split at hr
  · rename_i f1 H1 h1; obtain ⟨n, hn⟩ := iexec_cont h h1; exact ⟨n, by rw [hn]; exact hr⟩
  · rename_i f1 H1 h1; obtain ⟨n, hn⟩ := iexec_cont h h1; exact ⟨n, by rw [hn]; exact hr⟩
  · simp at hr

/-! ### Tables of functions -/
inductive Entry where
  | ir (f : IF)
  | known (g : List AV → AH → Option (AV × AH))

noncomputable def icall (T : Nat → Option Entry) : Nat → Den
  | 0, _, _, _ => none
  | n + 1, k, args, H => match T k with
    | some (.known g) => g args H
    | some (.ir f) => irun (icall T n) f args H
    | none => none

theorem icall_chain (T : Nat → Option Entry) : Chain (icall T) := by
  refine ⟨fun n => ?_⟩
  induction n with
  | zero => intro k args H r h; simp [icall] at h
  | succ n ih =>
    intro k args H r h
    rw [icall] at h ⊢
    split at h
    · exact h
    · exact irun_mono ih h
    · simp at h

noncomputable def Den.of (T : Nat → Option Entry) : Den := lim (icall T)

theorem Den.of_ir {T : Nat → Option Entry} {k : Nat} {f : IF} (h : T k = some (.ir f)) (args : List AV) (H : AH) : Den.of T k args H = irun (Den.of T) f args H := by
  refine Option.ext fun r => ?_
  constructor
  · intro hr
    obtain ⟨n, hn⟩ := (lim_iff (icall_chain T)).1 hr
    cases n with
    | zero => simp [icall] at hn
    | succ n =>
      rw [icall, h] at hn
      exact irun_mono ((icall_chain T).le_lim n) hn
  · intro hr
    obtain ⟨n, hn⟩ := irun_cont (icall_chain T) hr
    exact (lim_iff (icall_chain T)).2 ⟨n + 1, by rw [icall, h]; exact hn⟩

theorem Den.of_known {T : Nat → Option Entry} {k : Nat} {g : List AV → AH → Option (AV × AH)} (h : T k = some (.known g)) (args : List AV) (H : AH) : Den.of T k args H = g args H := by
  refine Option.ext fun r => ?_
  constructor
  · intro hr
    obtain ⟨n, hn⟩ := (lim_iff (icall_chain T)).1 hr
    cases n with
    | zero => simp [icall] at hn
    | succ n => rw [icall, h] at hn; exact hn
  · intro hr
    exact (lim_iff (icall_chain T)).2 ⟨1, by rw [icall, h]; exact hr⟩

/-- What a table's row is worth. -/
def EntryOk (P : Program) (T' : Laid) (k : Nat) : Entry → Prop
  | .ir f => ∃ fn, P.funcs[k % 100000]? = some fn ∧ trF P f fn = some f
  | .known g => Enters P (k % 100000) ∧ ∀ args H v H', g args H = some (v, H') → CallSim P T' (k % 100000) args H v H'

theorem icall_ok (hm : P.follows .mixedOrders = true) {T : Nat → Option Entry} (hT : ∀ k e, T k = some e → EntryOk P T' k e) : ∀ n, DOk P T' (icall T n) := by
  intro n
  induction n with
  | zero => intro k args H v H' h; simp [icall] at h
  | succ n ih =>
    intro k args H v H' h
    rw [icall] at h
    split at h
    · rename_i g hg
      exact ⟨(hT k _ hg).1, (hT k _ hg).2 _ _ _ _ h⟩
    · rename_i f hf
      obtain ⟨fn, hfn, htr⟩ := hT k _ hf
      exact sim_fun ih hm hfn htr h
    · simp at h

theorem Den.of_ok (hm : P.follows .mixedOrders = true) {T : Nat → Option Entry} (hT : ∀ k e, T k = some e → EntryOk P T' k e) : DOk P T' (Den.of T) := by
  intro k args H v H' h
  obtain ⟨n, hn⟩ := (lim_iff (icall_chain T)).1 h
  exact icall_ok hm hT n k args H v H' hn

end Go.SV
