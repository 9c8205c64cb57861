/- What a program's functions come to in the abstract machine: the limit of all depths of calls. Arguments that came in, read as values of the abstract machine; contracts of the library brought over; a law's call. Rules to walk code of the abstract machine. Rules to walk regions whose order is open. Code of the abstract machine as a formula over its values: what must hold for the code to end with what is asked. Code as a formula, and that the formula is enough. Own text of the prover; nothing is assumed. -/
import Derived.Test.YtmbaaiifdjoibaaGreatDoorLc
import Derived.ChangeArms
import Derived.ChangeOld
import Derived.Handed
namespace Go.SV

variable {P : Program} {T' : Laid} {H H' : AH} {fr : List AV}

def DLe (D D' : Den) : Prop := ∀ k args H r, D k args H = some r → D' k args H = some r

variable {D D' : Den}

theorem iop_mono (h : DLe D D') {io : IOp} {r} (hr : iop D fr io H = some r) : iop D' fr io H = some r := by
  cases io with
  | call n f xs =>
    simp only [iop] at hr ⊢
    split at hr
    · split at hr
      · rename_i hk; rw [if_pos hk]; exact h _ _ _ _ hr
      · simp at hr
    · simp at hr
  | _ => exact hr

theorem iops_mono (h : DLe D D') : ∀ {os : List IOper} {fr : List AV} {H : AH} {r}, iops D os fr H = some r → iops D' os fr H = some r := by
  intro os
  induction os with
  | nil => intro fr H r hr; exact hr
  | cons o os ih =>
    intro fr H r hr
    simp only [iops] at hr ⊢
    split at hr
    · split at hr
      · rename_i v H1 hv
        rw [iop_mono h hv]
        exact ih hr
      · simp at hr
    · exact ih hr
    · simp at hr

theorem trace_mono (h : DLe D D') : ∀ {os : List IOper} {fr : List AV} {H : AH} {r}, trace D os fr H = some r → trace D' os fr H = some r := by
  intro os
  induction os with
  | nil => intro fr H r hr; exact hr
  | cons o os ih =>
    intro fr H r hr
    simp only [trace] at hr ⊢
    split at hr
    · rename_i ha
      rw [if_pos ha]
      simp only [Option.map_eq_some_iff] at hr ⊢
      obtain ⟨l, hl, rfl⟩ := hr
      exact ⟨l, ih hl, rfl⟩
    · rename_i ha
      rw [if_neg ha]
      split at hr
      · split at hr
        · rename_i v H1 hv
          rw [iop_mono h hv]
          simp only [Option.map_eq_some_iff] at hr ⊢
          obtain ⟨l, hl, rfl⟩ := hr
          exact ⟨l, ih hl, rfl⟩
        · simp at hr
      · simp only [Option.map_eq_some_iff] at hr ⊢
        obtain ⟨l, hl, rfl⟩ := hr
        exact ⟨l, ih hl, rfl⟩
      · simp at hr

theorem dreg_mono (h : DLe D D') {ios : List IOper} {bef : List (List Nat)} {r} (hr : dreg D ios bef fr H = some r) : dreg D' ios bef fr H = some r := by
  simp only [dreg] at hr ⊢
  split at hr
  · rename_i sts hs
    rw [trace_mono h hs]
    exact hr
  · simp at hr

theorem iter_mono {f g : Rd} (h : ∀ fr H r, f fr H = some r → g fr H = some r) : ∀ {n : Nat} {fr : List AV} {H : AH} {r}, iter f n fr H = some r → iter g n fr H = some r := by
  intro n
  induction n with
  | zero => intro fr H r hr; simp [iter] at hr
  | succ n ih =>
    intro fr H r hr
    rw [iter] at hr ⊢
    split at hr
    · rename_i f1 H1 h1
      rw [h _ _ _ h1]
      exact ih hr
    · rename_i hne
      rw [h _ _ _ hr]
      obtain ⟨e, f1, H1⟩ := r
      cases e with
      | normal => exact absurd hr (hne _ _)
      | _ => rfl

theorem iexec_mono (h : DLe D D') : ∀ {c : IC} {fr : List AV} {H : AH} {r}, iexec D c fr H = some r → iexec D' c fr H = some r := by
  intro c
  induction c with
  | skip => intro fr H r hr; exact hr
  | exit id => intro fr H r hr; exact hr
  | ret => intro fr H r hr; exact hr
  | reg ops =>
    intro fr H r hr
    simp only [iexec, Option.map_eq_some_iff] at hr ⊢
    obtain ⟨x, hx, rfl⟩ := hr
    exact ⟨x, iops_mono h hx, rfl⟩
  | dreg ops bef =>
    intro fr H r hr
    simp only [iexec, Option.map_eq_some_iff] at hr ⊢
    obtain ⟨x, hx, rfl⟩ := hr
    exact ⟨x, dreg_mono h hx, rfl⟩
  | seq a b iha ihb =>
    intro fr H r hr
    simp only [iexec] at hr ⊢
    split at hr
    · rename_i f1 H1 h1
      rw [iha h1]
      exact ihb hr
    · rename_i hne
      rw [iha hr]
      obtain ⟨e, f1, H1⟩ := r
      cases e with
      | normal => exact absurd hr (hne _ _)
      | _ => rfl
  | cond c a b iha ihb =>
    intro fr H r hr
    simp only [iexec] at hr ⊢
    split at hr
    · exact iha hr
    · exact ihb hr
    · simp at hr
  | block id c ih =>
    intro fr H r hr
    simp only [iexec] at hr ⊢
    split at hr
    · rename_i i f1 H1 h1
      rw [ih h1]
      exact hr
    · rename_i hne
      rw [ih hr]
      obtain ⟨e, f1, H1⟩ := r
      cases e with
      | exit i => exact absurd hr (hne _ _ _)
      | _ => rfl
  | loop dead c ih =>
    intro fr H r hr
    simp only [iexec] at hr ⊢
    obtain ⟨n, hn⟩ := iterω_iff.1 hr
    exact iterω_iff.2 ⟨n, iter_mono (fun _ _ _ h => ih h) hn⟩
  | gh gs c ih =>
    intro fr H r hr
    simp only [iexec] at hr ⊢
    split at hr
    · exact ih hr
    · simp at hr

theorem irun_mono (h : DLe D D') {f : IF} {args : List AV} {r} (hr : irun D f args H = some r) : irun D' f args H = some r := by
  simp only [irun] at hr ⊢
  split at hr
  · rename_i f1 H1 h1; rw [iexec_mono h h1]; exact hr
  · rename_i f1 H1 h1; rw [iexec_mono h h1]; exact hr
  · simp at hr

/-! ### Chains -/
structure Chain (C : Nat → Den) : Prop where
  up : ∀ n, DLe (C n) (C (n + 1))

variable {C : Nat → Den}

theorem Chain.le (h : Chain C) {n m : Nat} (hle : n ≤ m) : DLe (C n) (C m) := by
  induction hle with
  | refl => intro k args H r hr; exact hr
  | step _ ih => intro k args H r hr; exact h.up _ _ _ _ _ (ih _ _ _ _ hr)

open Classical in
noncomputable def lim (C : Nat → Den) : Den := fun k args H =>
  if h : ∃ r n, C n k args H = some r then some (Classical.choose h) else none

theorem lim_iff (h : Chain C) {k : Nat} {args : List AV} {r} : lim C k args H = some r ↔ ∃ n, C n k args H = some r := by
  unfold lim
  split
  · rename_i hx
    obtain ⟨n, hn⟩ := Classical.choose_spec hx
    constructor
    · intro e
      injection e with e
      exact ⟨n, by rw [← e]; exact hn⟩
    · rintro ⟨m, hm⟩
      have h1 := h.le (Nat.le_max_left n m) _ _ _ _ hn
      have h2 := h.le (Nat.le_max_right n m) _ _ _ _ hm
      rw [h1] at h2
      exact h2
  · rename_i hx
    constructor
    · intro e; simp at e
    · rintro ⟨n, hn⟩; exact absurd ⟨r, n, hn⟩ hx

theorem Chain.le_lim (h : Chain C) (n : Nat) : DLe (C n) (lim C) := fun _ _ _ _ hr => (lim_iff h).2 ⟨n, hr⟩

theorem iop_cont (h : Chain C) {io : IOp} {r} (hr : iop (lim C) fr io H = some r) : ∃ n, iop (C n) fr io H = some r := by
  cases io with
  | call n f xs =>
    simp only [iop] at hr ⊢
    split at hr
    · split at hr
      · rename_i hk; obtain ⟨n, hn⟩ := (lim_iff h).1 hr; exact ⟨n, by rw [if_pos hk]; exact hn⟩
      · simp at hr
    · simp at hr
  | _ => exact ⟨0, hr⟩

theorem iops_cont (h : Chain C) : ∀ {os : List IOper} {fr : List AV} {H : AH} {r}, iops (lim C) os fr H = some r → ∃ n, iops (C n) os fr H = some r := by
  intro os
  induction os with
  | nil => intro fr H r hr; exact ⟨0, hr⟩
  | cons o os ih =>
    intro fr H r hr
    simp only [iops] at hr ⊢
    split at hr
    · split at hr
      · rename_i v H1 hv
        obtain ⟨n, hn⟩ := iop_cont h hv
        obtain ⟨m, hm⟩ := ih hr
        refine ⟨max n m, ?_⟩
        rw [iop_mono (h.le (Nat.le_max_left n m)) hn]
        exact iops_mono (h.le (Nat.le_max_right n m)) hm
      · simp at hr
    · exact ih hr
    · simp at hr

theorem trace_cont (h : Chain C) : ∀ {os : List IOper} {fr : List AV} {H : AH} {r}, trace (lim C) os fr H = some r → ∃ n, trace (C n) os fr H = some r := by
  intro os
  induction os with
  | nil => intro fr H r hr; exact ⟨0, hr⟩
  | cons o os ih =>
    intro fr H r hr
    simp only [trace] at hr ⊢
    split at hr
    · rename_i ha
      simp only [Option.map_eq_some_iff] at hr
      obtain ⟨l, hl, rfl⟩ := hr
      obtain ⟨n, hn⟩ := ih hl
      exact ⟨n, by rw [if_pos ha, hn]; rfl⟩
    · rename_i ha
      split at hr
      · split at hr
        · rename_i v H1 hv
          simp only [Option.map_eq_some_iff] at hr
          obtain ⟨l, hl, rfl⟩ := hr
          obtain ⟨n, hn⟩ := iop_cont h hv
          obtain ⟨m, hm⟩ := ih hl
          refine ⟨max n m, ?_⟩
          rw [if_neg ha, iop_mono (h.le (Nat.le_max_left n m)) hn]
          simp only
          rw [trace_mono (h.le (Nat.le_max_right n m)) hm]; rfl
        · simp at hr
      · simp only [Option.map_eq_some_iff] at hr
        obtain ⟨l, hl, rfl⟩ := hr
        obtain ⟨m, hm⟩ := ih hl
        exact ⟨m, by rw [if_neg ha, hm]; rfl⟩
      · simp at hr

theorem dreg_cont (h : Chain C) {ios : List IOper} {bef : List (List Nat)} {r} (hr : dreg (lim C) ios bef fr H = some r) : ∃ n, dreg (C n) ios bef fr H = some r := by
  simp only [dreg] at hr ⊢
  split at hr
  · rename_i sts hs
    obtain ⟨n, hn⟩ := trace_cont h hs
    exact ⟨n, by rw [hn]; exact hr⟩
  · simp at hr

theorem iexec_cont (h : Chain C) : ∀ {c : IC} {fr : List AV} {H : AH} {r}, iexec (lim C) c fr H = some r → ∃ n, iexec (C n) c fr H = some r := by
  intro c
  induction c with
  | skip => intro fr H r hr; exact ⟨0, hr⟩
  | exit id => intro fr H r hr; exact ⟨0, hr⟩
  | ret => intro fr H r hr; exact ⟨0, hr⟩
  | reg ops =>
    intro fr H r hr
    simp only [iexec, Option.map_eq_some_iff] at hr ⊢
    obtain ⟨x, hx, rfl⟩ := hr
    obtain ⟨n, hn⟩ := iops_cont h hx
    exact ⟨n, x, hn, rfl⟩
  | dreg ops bef =>
    intro fr H r hr
    simp only [iexec, Option.map_eq_some_iff] at hr ⊢
    obtain ⟨x, hx, rfl⟩ := hr
    obtain ⟨n, hn⟩ := dreg_cont h hx
    exact ⟨n, x, hn, rfl⟩
  | seq a b iha ihb =>
    intro fr H r hr
    simp only [iexec] at hr ⊢
    split at hr
    · rename_i f1 H1 h1
      obtain ⟨n, hn⟩ := iha h1
      obtain ⟨m, hm⟩ := ihb hr
      refine ⟨max n m, ?_⟩
      rw [iexec_mono (h.le (Nat.le_max_left n m)) hn]
      exact iexec_mono (h.le (Nat.le_max_right n m)) hm
    · rename_i hne
      obtain ⟨n, hn⟩ := iha hr
      refine ⟨n, ?_⟩
      rw [hn]
      obtain ⟨e, f1, H1⟩ := r
      cases e with
      | normal => exact absurd hr (hne _ _)
      | _ => rfl
  | cond c a b iha ihb =>
    intro fr H r hr
    simp only [iexec] at hr ⊢
    split at hr
    · exact iha hr
    · exact ihb hr
    · simp at hr
  | block id c ih =>
    intro fr H r hr
    simp only [iexec] at hr ⊢
    split at hr
    · rename_i i f1 H1 h1
      obtain ⟨n, hn⟩ := ih h1
      exact ⟨n, by rw [hn]; exact hr⟩
    · rename_i hne
      obtain ⟨n, hn⟩ := ih hr
      refine ⟨n, ?_⟩
      rw [hn]
      obtain ⟨e, f1, H1⟩ := r
      cases e with
      | exit i => exact absurd hr (hne _ _ _)
      | _ => rfl
  | loop dead c ih =>
    intro fr H r hr
    simp only [iexec] at hr ⊢
    obtain ⟨n, hn⟩ := iterω_iff.1 hr
    clear hr
    suffices hs : ∃ m, iter (fun fr H => iexec (C m) c (kill dead fr) H) n fr H = some r by
      obtain ⟨m, hm⟩ := hs
      exact ⟨m, iterω_iff.2 ⟨n, hm⟩⟩
    induction n generalizing fr H with
    | zero => simp [iter] at hn
    | succ n ihn =>
      rw [iter] at hn
      split at hn
      · rename_i f1 H1 h1
        obtain ⟨m1, hm1⟩ := ih h1
        obtain ⟨m2, hm2⟩ := ihn hn
        refine ⟨max m1 m2, ?_⟩
        rw [iter, iexec_mono (h.le (Nat.le_max_left m1 m2)) hm1]
        exact iter_mono (fun _ _ _ hh => iexec_mono (h.le (Nat.le_max_right m1 m2)) hh) hm2
      · rename_i hne
        obtain ⟨m, hm⟩ := ih hn
        refine ⟨m, ?_⟩
        rw [iter, hm]
        obtain ⟨e, f1, H1⟩ := r
        cases e with
        | normal => exact absurd hn (hne _ _)
        | _ => rfl
  | gh gs c ih =>
    intro fr H r hr
    simp only [iexec] at hr ⊢
    split at hr
    · exact ih hr
    · simp at hr

theorem irun_cont (h : Chain C) {f : IF} {args : List AV} {r} (hr : irun (lim C) f args H = some r) : ∃ n, irun (C n) f args H = some r := by
  simp only [irun] at hr ⊢
  split at hr
  · rename_i f1 H1 h1; obtain ⟨n, hn⟩ := iexec_cont h h1; exact ⟨n, by rw [hn]; exact hr⟩
  · rename_i f1 H1 h1; obtain ⟨n, hn⟩ := iexec_cont h h1; exact ⟨n, by rw [hn]; exact hr⟩
  · simp at hr

/-! ### Tables of functions -/
inductive Entry where
  | ir (f : IF)
  | known (g : List AV → AH → Option (AV × AH))

noncomputable def icall (T : Nat → Option Entry) : Nat → Den
  | 0, _, _, _ => none
  | n + 1, k, args, H => match T k with
    | some (.known g) => g args H
    | some (.ir f) => irun (icall T n) f args H
    | none => none

theorem icall_chain (T : Nat → Option Entry) : Chain (icall T) := by
  refine ⟨fun n => ?_⟩
  induction n with
  | zero => intro k args H r h; simp [icall] at h
  | succ n ih =>
    intro k args H r h
    rw [icall] at h ⊢
    split at h
    · exact h
    · exact irun_mono ih h
    · simp at h

noncomputable def Den.of (T : Nat → Option Entry) : Den := lim (icall T)

theorem Den.of_ir {T : Nat → Option Entry} {k : Nat} {f : IF} (h : T k = some (.ir f)) (args : List AV) (H : AH) : Den.of T k args H = irun (Den.of T) f args H := by
  refine Option.ext fun r => ?_
  constructor
  · intro hr
    obtain ⟨n, hn⟩ := (lim_iff (icall_chain T)).1 hr
    cases n with
    | zero => simp [icall] at hn
    | succ n =>
      rw [icall, h] at hn
      exact irun_mono ((icall_chain T).le_lim n) hn
  · intro hr
    obtain ⟨n, hn⟩ := irun_cont (icall_chain T) hr
    exact (lim_iff (icall_chain T)).2 ⟨n + 1, by rw [icall, h]; exact hn⟩

theorem Den.of_known {T : Nat → Option Entry} {k : Nat} {g : List AV → AH → Option (AV × AH)} (h : T k = some (.known g)) (args : List AV) (H : AH) : Den.of T k args H = g args H := by
  refine Option.ext fun r => ?_
  constructor
  · intro hr
    obtain ⟨n, hn⟩ := (lim_iff (icall_chain T)).1 hr
    cases n with
    | zero => simp [icall] at hn
    | succ n => rw [icall, h] at hn; exact hn
  · intro hr
    exact (lim_iff (icall_chain T)).2 ⟨1, by rw [icall, h]; exact hr⟩

/-- What a table's row is worth. -/
def EntryOk (P : Program) (T' : Laid) (k : Nat) : Entry → Prop
  | .ir f => ∃ fn, P.funcs[k % 100000]? = some fn ∧ trF P f fn = some f
  | .known g => Enters P (k % 100000) ∧ ∀ args H v H', g args H = some (v, H') → CallSim P T' (k % 100000) args H v H'

theorem icall_ok (hm : P.follows .mixedOrders = true) {T : Nat → Option Entry} (hT : ∀ k e, T k = some e → EntryOk P T' k e) : ∀ n, DOk P T' (icall T n) := by
  intro n
  induction n with
  | zero => intro k args H v H' h; simp [icall] at h
  | succ n ih =>
    intro k args H v H' h
    rw [icall] at h
    split at h
    · rename_i g hg
      exact ⟨(hT k _ hg).1, (hT k _ hg).2 _ _ _ _ h⟩
    · rename_i f hf
      obtain ⟨fn, hfn, htr⟩ := hT k _ hf
      exact sim_fun ih hm hfn htr h
    · simp at h

theorem Den.of_ok (hm : P.follows .mixedOrders = true) {T : Nat → Option Entry} (hT : ∀ k e, T k = some e → EntryOk P T' k e) : DOk P T' (Den.of T) := by
  intro k args H v H' h
  obtain ⟨n, hn⟩ := (lim_iff (icall_chain T)).1 h
  exact icall_ok hm hT n k args H v H' hn

end Go.SV

namespace Go.SV
open Go.RowKit

variable {P : Program} {E E' : Env} {H H' : AH} {w w' : World}

/-! ### The beginning -/
def Env.start (W : World) : Env := ⟨fun _ => none, fun r i => (W.cell? ⟨r, i, none⟩).isSome = true, fun _ => none, fun _ => ⟨0, 0, 0⟩, fun r => r < W.heap.size⟩
def AH.start : AH := ⟨[], [(0, 0, 0)]⟩

theorem HRel.start (W : World) : HRel (Env.start W) AH.start W :=
  ⟨fun _ _ h => by simp [Env.start] at h, fun _ _ h => by simp [Env.start] at h, fun _ _ _ _ h => by simp [Env.start] at h, fun _ _ _ h => by simp [Env.start] at h, fun _ _ _ _ h => by simp [Env.start] at h,
    fun _ _ _ _ h => by simp [Env.start] at h, fun r i h => by simpa [Env.start, Option.isSome_iff_exists] using h,
    fun r h => ⟨h, fun _ _ h => by simp [Env.start] at h, fun _ _ h => by simp [Env.start] at h⟩⟩

theorem Step.below {W : World} (h : Step (Env.start W) AH.start W E' H' w') : Below W.heap.size W w' := by
  refine ⟨h.os, h.tape, h.output, h.size, fun k hk => (h.keep k hk ?_).2⟩
  rintro (⟨b, L, hb, _⟩ | ⟨t, ns, ht, _⟩)
  · simp [Env.start] at hb
  · simp [Env.start] at ht

/-! ### Contracts that leave old memory as it was -/
theorem HRel.below (hH : HRel E H w) (hb : Below w.heap.size w w') : HRel E H w' ∧ Step E H w E H w' := by
  have hheap : ∀ r, r < w.heap.size → w'.heap[r]? = w.heap[r]? := hb.block
  have hx : Ext E w E w' := ⟨fun _ _ h => h, fun _ _ h => h, fun r i v _ hc => by
    have := lt_of_cell hc
    unfold World.cell? at hc ⊢
    simp only at hc ⊢
    rw [hheap r this]
    exact hc, fun _ n _ h => ⟨n, h, Nat.le_refl _, fun _ => rfl⟩, fun _ h => h⟩
  refine ⟨⟨hH.lt, fun b L hL => (hH.obj b L hL).frame hx (fun hl => hheap _ ((hH.obj b L hL).lt hl)) (fun _ _ h => h), hH.inj, fun t n s h => ?_, hH.tinj, hH.apart, fun r i hp => ?_, fun r hi => ?_⟩, ⟨hx, hb.os, hb.tape, hb.output, hb.size, fun r hr ho => ⟨ho, hheap r hr⟩, Nat.le_refl _, Nat.le_refl _, fun _ _ _ h => h⟩⟩
  · obtain ⟨h0, te', h1, h2⟩ := hH.tok t n s h
    exact ⟨h0, te', h1, h2.frame (hheap _ h2.lt) (fun _ h => h)⟩
  · obtain ⟨v, hv⟩ := hH.prot r i hp
    exact ⟨v, hx.cell r i v hp hv⟩
  · obtain ⟨h1, h2, h3⟩ := hH.inert r hi
    exact ⟨Nat.lt_of_lt_of_le h1 hb.size, h2, h3⟩

theorem CallSim.of_below {T : Laid} {f : FuncId} {args : List AV} {v : AV}
    (h : ∀ E w (rargs : Array Value), Rdy T E H w → ArgsR E w args rargs → ∃ v', (∀ w', Below w.heap.size w w' → VR E w' v v') ∧ Calls P f rargs w fun e w' => e = .returned v' ∧ Below w.heap.size w w') :
    CallSim P T f args H v H := by
  intro E w rargs hH hr ha
  obtain ⟨v', hv, hc⟩ := h E w rargs hr ha
  refine hc.mono fun e w' ⟨he, hb⟩ => ?_
  obtain ⟨h1, h2⟩ := hH.below hb
  exact ⟨E, v', he, hv w' hb, h1, h2⟩

/-! ### Arguments -/
def RowR (W : World) (xs : List AV) (cs : List Value) : Prop :=
  xs.length = cs.length ∧ ∀ (j : Nat) x u, xs[j]? = some x → cs[j]? = some u → VR (Env.start W) W x u

theorem RowR.append {W : World} {xs ys : List AV} {cs ds : List Value} (h : RowR W xs cs) (k : RowR W ys ds) : RowR W (xs ++ ys) (cs ++ ds) := by
  refine ⟨by rw [List.length_append, List.length_append, h.1, k.1], fun j x u hx hu => ?_⟩
  rcases Nat.lt_or_ge j xs.length with hl | hl
  · rw [List.getElem?_append_left hl] at hx
    rw [List.getElem?_append_left (by rw [← h.1]; exact hl)] at hu
    exact h.2 j x u hx hu
  · rw [List.getElem?_append_right hl] at hx
    rw [List.getElem?_append_right (by rw [← h.1]; exact hl), ← h.1] at hu
    exact k.2 _ x u hx hu

theorem RowR.one {W : World} {x : AV} {u : Value} (h : VR (Env.start W) W x u) : RowR W [x] [u] := by
  refine ⟨rfl, fun j y v hy hv => ?_⟩
  cases j with
  | zero => simp at hy hv; subst hy; subst hv; exact h
  | succ j => simp at hy

/-- Whatever is read at a type is a value of the prover's own data. -/
def Reads (P : Program) (t : TypeId) {α : Type} (f : α → List AV) (G : α → Prop) : Prop :=
  ∀ {Hd : Type} (enc : TypeId × Value → Hd) (W : World) (fuel : Nat) (cs : List Value) (x : DataW Hd × List MemPlace),
    DataW.trod enc P W 0 (fun _ => true) true fuel t cs = some x → ∃ a, G a ∧ RowR W (f a) cs

theorem reads_int {t : TypeId} {k : IntKind} (hu : P.underlying t = some (.int k)) : Reads P t (fun n : Int => [.int k n]) (fun n => (Lit.int k n).wf = true) := by
  intro Hd enc W fuel cs x h
  obtain ⟨n, rfl, _, hw⟩ := DataW.trod_int hu h
  exact ⟨n, hw, .one (.int _ _)⟩

theorem reads_str {t : TypeId} (hu : P.underlying t = some .string) : Reads P t (fun l : List UInt8 => [.str l]) (fun l => l.length ≤ maxLen) := by
  intro Hd enc W fuel cs x h
  obtain ⟨s, rfl, _, hw⟩ := DataW.trod_string hu h
  have hz : s.data.toList.length = s.size := Array.length_toList
  refine ⟨s.data.toList, (show s.data.toList.length ≤ maxLen by rw [hz]; exact hw), .one ?_⟩
  have := VR.str (E := Env.start W) (w := W) s.data.toList
  simpa using this

/-- So, of what is no larger than memory is. -/
def Sized {Hd : Type} (P : Program) (t : TypeId) (d : DataW Hd) : Prop := ∀ n ∈ d.weights P t, n ≤ reachBytes
def ReadsZ (P : Program) (t : TypeId) {α : Type} (f : α → List AV) (G : α → Prop) : Prop :=
  ∀ {Hd : Type} (enc : TypeId × Value → Hd) (W : World) (fuel : Nat) (cs : List Value) (x : DataW Hd × List MemPlace),
    DataW.trod enc P W 0 (fun _ => true) true fuel t cs = some x → Sized P t x.1 → ∃ a, G a ∧ RowR W (f a) cs
theorem Reads.z {t : TypeId} {α : Type} {f : α → List AV} {G : α → Prop} (h : Reads P t f G) : ReadsZ P t f G := fun enc W fuel cs x hx _ => h enc W fuel cs x hx

/-! ### Structs -/
theorem weightsEach_mem {Hd : Type} {n : Nat} : ∀ {ts : List TypeId} {ds : List (DataW Hd)} {i : Nat} {t : TypeId} {d : DataW Hd}, ts[i]? = some t → ds[i]? = some d → n ∈ d.weights P t → n ∈ DataW.weightsEach P ts ds := by
  intro ts
  induction ts with
  | nil => intro ds i t d ht; simp at ht
  | cons a ts ih =>
    intro ds i t d ht hd hn
    cases ds with
    | nil => simp at hd
    | cons x ds =>
      rw [DataW.weightsEach, List.mem_append]
      cases i with
      | zero =>
        simp only [List.getElem?_cons_zero, Option.some.injEq] at ht hd
        subst ht; subst hd
        exact .inl hn
      | succ i => exact .inr (ih (by simpa using ht) (by simpa using hd) hn)

/-- What a law's arguments weigh. -/
theorem sized_arg {Hd : Type} {ts us : List TypeId} {ds gs : List (DataW Hd)} (h : (DataW.weightsEach P (ts ++ us) (ds ++ gs)).all (· ≤ reachBytes) = true) {i : Nat} {t : TypeId} {d : DataW Hd} (ht : ts[i]? = some t) (hd : ds[i]? = some d) : Sized P t d := by
  intro n hn
  have h1 : (ts ++ us)[i]? = some t := by rw [List.getElem?_append_left (getElem?_lt ht)]; exact ht
  have h2 : (ds ++ gs)[i]? = some d := by rw [List.getElem?_append_left (getElem?_lt hd)]; exact hd
  simpa using List.all_eq_true.1 h n (weightsEach_mem h1 h2 hn)

/-! ### What stood in memory at the beginning -/
/-- Each cell of the world in which the call began stands as it was, and each block. -/
def Laid.of (W : World) : Laid where
  L := fun E w => (∀ r i v, W.cell? ⟨r, i, none⟩ = some v → E.prot r i ∧ w.cell? ⟨r, i, none⟩ = some v) ∧ ∀ r, r < W.heap.size → E.inert r ∧ w.heap[r]? = W.heap[r]?
  mono := fun {E H w E' H' w'} hH hS h => ⟨fun r i v hv => ⟨hS.ext.prot _ _ (h.1 r i v hv).1, hS.ext.cell _ _ _ (h.1 r i v hv).1 (h.1 r i v hv).2⟩, fun r hr => by
    obtain ⟨h1, h2⟩ := h.2 r hr
    obtain ⟨k1, k2, k3⟩ := hH.inert r h1
    refine ⟨hS.ext.inert r h1, ?_⟩
    rw [← h2]
    refine (hS.keep r k1 ?_).2
    rintro (⟨b, L, hb, hl, he⟩ | ⟨t, ns, ht, he⟩)
    · exact k2 b L hb hl he
    · exact k3 t ns ht he⟩

theorem Laid.start (W : World) : (Laid.of W).L (Env.start W) W := ⟨fun r i v hv => ⟨by simp only [Env.start, hv, Option.isSome_some], hv⟩, fun r hr => ⟨hr, rfl⟩⟩

theorem ArgsR.one {x : AV} {rs : Array Value} (h : ArgsR E w [x] rs) : ∃ u, rs = #[u] ∧ VR E w x u := by
  obtain ⟨h1, h2⟩ := h
  obtain ⟨l⟩ := rs
  match l, h1 with
  | [u], _ => exact ⟨u, rfl, h2 0 x u rfl rfl⟩

theorem ArgsR.two {x y : AV} {rs : Array Value} (h : ArgsR E w [x, y] rs) : ∃ u v, rs = #[u, v] ∧ VR E w x u ∧ VR E w y v := by
  obtain ⟨h1, h2⟩ := h
  obtain ⟨l⟩ := rs
  match l, h1 with
  | [u, v], _ => exact ⟨u, v, rfl, h2 0 x u rfl rfl, h2 1 y v rfl rfl⟩

theorem ArgsR.mk2 {x y : AV} {u v : Value} (h : VR E w x u) (k : VR E w y v) : ArgsR E w [x, y] #[u, v] := by
  refine ⟨rfl, fun j a b ha hb => ?_⟩
  match j with
  | 0 => simp at ha hb; subst ha; subst hb; exact h
  | 1 => simp at ha hb; subst ha; subst hb; exact k
  | j + 2 => simp at ha

/-- A contract of the library, brought over: one argument, a text. -/
theorem known_str {W : World} {f : FuncId} {l : List UInt8} {v : AV} {u : Value} (hv : ∀ E w, VR E w v u)
    (h : ∀ w, (∀ r, r < W.heap.size → w.heap[r]? = W.heap[r]?) → Calls P f #[.string ⟨l.toArray⟩] w fun e w' => e = .returned u ∧ Below w.heap.size w w') : CallSim P (Laid.of W) f [.str l] H v H := by
  refine CallSim.of_below fun E w rs hr ha => ?_
  obtain ⟨x, rfl, hx⟩ := ha.one
  cases hx
  exact ⟨u, fun w' _ => hv E w', h w fun r hr' => (hr.laid.2 r hr').2⟩

/-! ### A call of the whole -/
theorem call_of {T : Laid} {D : Den} (hD : DOk P T D) {f : FuncId} {args : List AV} {v : AV} {W : World} {rargs : Array Value} (hk : f < 100000) (h : D f args AH.start = some (v, H')) (hl : T.L (Env.start W) W) (ha : ArgsR (Env.start W) W args rargs) :
    Calls P f rargs W fun e w' => (∃ E' v', e = .returned v' ∧ VR E' w' v v') ∧ Below W.heap.size W w' := by
  obtain ⟨_, hc⟩ := hD _ _ _ _ _ h
  rw [Nat.mod_eq_of_lt hk] at hc
  refine (hc (Env.start W) W rargs (HRel.start W) ⟨by simp [AH.start], hl⟩ ha).mono fun e w' ⟨E', v', he, hv, _, hS⟩ => ⟨⟨E', v', he, hv⟩, hS.below⟩

end Go.SV

namespace Go.SV

abbrev Kont := List AV → AH → Prop

/-- Code comes to an end, and what then holds: behind it, at a return, at an exit. -/
structure Wc (D : Den) (c : IC) (N R : Kont) (X : Nat → Kont) (fr : List AV) (H : AH) : Prop where
  run : ∃ e fr' H', iexec D c fr H = some (e, fr', H') ∧ (match e with | .normal => N fr' H' | .ret => R fr' H' | .exit i => X i fr' H')

structure Wr (D : Den) (ops : List IOper) (K : Kont) (fr : List AV) (H : AH) : Prop where
  run : ∃ fr' H', iops D ops fr H = some (fr', H') ∧ K fr' H'

variable {D : Den} {N R K : Kont} {X : Nat → Kont} {fr : List AV} {H : AH}

theorem wc_skip (h : N fr H) : Wc D .skip N R X fr H := ⟨.normal, fr, H, rfl, h⟩
theorem wc_ret (h : R fr H) : Wc D .ret N R X fr H := ⟨.ret, fr, H, rfl, h⟩
theorem wc_exit {i : Nat} (h : X i fr H) : Wc D (.exit i) N R X fr H := ⟨.exit i, fr, H, rfl, h⟩

theorem wc_reg {ops : List IOper} (h : Wr D ops N fr H) : Wc D (.reg ops) N R X fr H := by
  obtain ⟨fr', H', h1, h2⟩ := h
  exact ⟨.normal, fr', H', by simp only [iexec, h1]; rfl, h2⟩

theorem wc_dreg {ops : List IOper} {bef : List (List Nat)} {fr' : List AV} {H' : AH} (h1 : dreg D ops bef fr H = some (fr', H')) (h2 : N fr' H') : Wc D (.dreg ops bef) N R X fr H :=
  ⟨.normal, fr', H', by simp only [iexec, h1]; rfl, h2⟩

theorem wc_seq {a b : IC} (h : Wc D a (fun fr H => Wc D b N R X fr H) R X fr H) : Wc D (.seq a b) N R X fr H := by
  obtain ⟨e, fr', H', h1, h2⟩ := h
  cases e with
  | normal =>
    obtain ⟨e2, f2, H2, h3, h4⟩ := h2
    exact ⟨e2, f2, H2, by simp only [iexec, h1]; exact h3, h4⟩
  | ret => exact ⟨.ret, fr', H', by simp only [iexec, h1], h2⟩
  | exit i => exact ⟨.exit i, fr', H', by simp only [iexec, h1], h2⟩

theorem wc_cond {c : Opd} {a b : IC} {t : Bool} (hc : c.ev fr = .bool t) (ha : t = true → Wc D a N R X fr H) (hb : t = false → Wc D b N R X fr H) : Wc D (.cond c a b) N R X fr H := by
  cases t with
  | true =>
    obtain ⟨e, f, H', h1, h2⟩ := ha rfl
    exact ⟨e, f, H', by simp only [iexec, hc]; exact h1, h2⟩
  | false =>
    obtain ⟨e, f, H', h1, h2⟩ := hb rfl
    exact ⟨e, f, H', by simp only [iexec, hc]; exact h1, h2⟩

theorem wc_block {id : Nat} {c : IC} (h : Wc D c N R (fun i fr H => if i = id then N fr H else X i fr H) fr H) : Wc D (.block id c) N R X fr H := by
  obtain ⟨e, f, H', h1, h2⟩ := h
  cases e with
  | normal => exact ⟨.normal, f, H', by simp only [iexec, h1], h2⟩
  | ret => exact ⟨.ret, f, H', by simp only [iexec, h1], h2⟩
  | exit i =>
    simp only at h2
    split at h2
    · rename_i hi; exact ⟨.normal, f, H', by simp only [iexec, h1, hi, if_true], h2⟩
    · rename_i hi; exact ⟨.exit i, f, H', by simp only [iexec, h1, if_neg hi], h2⟩

theorem wc_gh {gs : List Gho} {c : IC} {fr' : List AV} {H' : AH} (h : ghosts gs fr H = some (fr', H')) (hc : Wc D c N R X fr' H') : Wc D (.gh gs c) N R X fr H := by
  obtain ⟨e, f, H2, h1, h2⟩ := hc
  exact ⟨e, f, H2, by simp only [iexec, h]; exact h1, h2⟩

/-- A loop, by what holds at its head (what is dead there is struck): some measure goes down. -/
theorem wc_loop {dead : List Nat} {c : IC} (I : Nat → Kont) (n : Nat) (h0 : I n (kill dead fr) H)
    (h : ∀ n fr H, I n fr H → Wc D c (fun fr' H' => ∃ m, m < n ∧ I m (kill dead fr') H') R X fr H) : Wc D (.loop dead c) N R X fr H := by
  induction n using Nat.strongRecOn generalizing fr H with
  | _ n ih =>
    obtain ⟨e, f, H', h1, h2⟩ := h n _ H h0
    cases e with
    | normal =>
      obtain ⟨m, hm, hi⟩ := h2
      obtain ⟨e2, f2, H2, h3, h4⟩ := ih m hm hi
      simp only [iexec] at h3
      exact ⟨e2, f2, H2, by simp only [iexec]; rw [iterω_unfold, h1]; exact h3, h4⟩
    | ret => exact ⟨.ret, f, H', by simp only [iexec]; rw [iterω_unfold, h1], h2⟩
    | exit i => exact ⟨.exit i, f, H', by simp only [iexec]; rw [iterω_unfold, h1], h2⟩

/-! ### Rows of operations -/
theorem wr_nil (h : K fr H) : Wr D [] K fr H := ⟨fr, H, rfl, h⟩

theorem wr_op {o : IOper} {os : List IOper} {v : AV} {H' : AH} {fr' : List AV} (hw : want o.guard fr = some true) (hv : iop D fr o.op H = some (v, H')) (hf : setd o.dst v fr = fr') (h : Wr D os K fr' H') : Wr D (o :: os) K fr H := by
  obtain ⟨f, H2, h1, h2⟩ := h
  exact ⟨f, H2, by simp only [iops, hw, hv, hf]; exact h1, h2⟩

theorem wr_off {o : IOper} {os : List IOper} {fr' : List AV} (hw : want o.guard fr = some false) (hf : setd o.dst (.tup []) fr = fr') (h : Wr D os K fr' H) : Wr D (o :: os) K fr H := by
  obtain ⟨f, H2, h1, h2⟩ := h
  exact ⟨f, H2, by simp only [iops, hw, hf]; exact h1, h2⟩

/-- A function, by its code. -/
theorem fun_ir {T : Nat → Option Entry} {k : Nat} {f : IF} (hT : T k = some (.ir f)) {args : List AV} {Q : AV → AH → Prop}
    (h : ∀ R : Kont, (∀ fr H v, resV fr H f.res = some v → Q v H → R fr H) → Wc (Den.of T) f.body R R (fun _ _ _ => False) (args ++ List.replicate (f.nt - args.length) .undef) H) :
    ∃ v H', Den.of T k args H = some (v, H') ∧ Q v H' := by
  obtain ⟨e, fr', H', h1, h2⟩ := h (fun fr H => ∃ v, resV fr H f.res = some v ∧ Q v H) (fun fr H v h1 h2 => ⟨v, h1, h2⟩)
  rw [Den.of_ir hT]
  cases e with
  | normal =>
    obtain ⟨v, h3, h4⟩ := h2
    exact ⟨v, H', by simp only [irun, h1, h3, Option.map_some], h4⟩
  | ret =>
    obtain ⟨v, h3, h4⟩ := h2
    exact ⟨v, H', by simp only [irun, h1, h3, Option.map_some], h4⟩
  | exit i => exact h2.elim

/-! ### Heaps that have grown -/
structure Grow (H H' : AH) : Prop where
  obs : ∃ l, H'.obs = H.obs ++ l
  toks : ∃ l, H'.toks = H.toks ++ l

theorem Grow.refl (H : AH) : Grow H H := ⟨⟨[], by simp⟩, ⟨[], by simp⟩⟩
theorem Grow.trans {H1 H2 H3 : AH} (h : Grow H1 H2) (k : Grow H2 H3) : Grow H1 H3 := by
  obtain ⟨⟨a, ha⟩, ⟨b, hb⟩⟩ := h
  obtain ⟨⟨c, hc⟩, ⟨d, hd⟩⟩ := k
  exact ⟨⟨a ++ c, by rw [hc, ha, List.append_assoc]⟩, ⟨b ++ d, by rw [hd, hb, List.append_assoc]⟩⟩
theorem Grow.get {H H' : AH} (h : Grow H H') {b : Nat} (hb : b < H.obs.length) : H'.get b = H.get b := by
  obtain ⟨⟨l, hl⟩, _⟩ := h
  simp [AH.get, hl, List.getElem?_append_left hb]
theorem Grow.tok {H H' : AH} (h : Grow H H') {t : Nat} (ht : t < H.toks.length) : H'.toks[t]? = H.toks[t]? := by
  obtain ⟨_, ⟨l, hl⟩⟩ := h
  rw [hl, List.getElem?_append_left ht]
theorem Grow.pos {H H' : AH} (h : Grow H H') (hp : 0 < H.toks.length) : 0 < H'.toks.length := by
  obtain ⟨_, ⟨l, hl⟩⟩ := h
  rw [hl, List.length_append]; omega

/-! ### New cells -/
def AH.push (H : AH) (o : AObj) : AH := ⟨H.obs ++ [o], H.toks⟩

theorem Grow.push (H : AH) (o : AObj) : Grow H (H.push o) := ⟨⟨[o], rfl⟩, ⟨[], by simp [AH.push]⟩⟩
theorem push_get (H : AH) (o : AObj) : (H.push o).get H.obs.length = o := by simp [AH.push, AH.get]
theorem push_len (H : AH) (o : AObj) : (H.push o).obs.length = H.obs.length + 1 := by simp [AH.push]

theorem aLoad_push1 {o : Nat} {c : List AV} (H : AH) : aLoad none (.ptr H.obs.length o) (H.push (.cells c)) = c[o]? := by
  simp only [aLoad, push_get]

/-! ### Rules for single operations -/
section
variable {os : List IOper} {d : Option Nat} {fr' : List AV}

end

/-! ### Rows that came by value -/
def IsRow {α : Type} (s : Nat) (f : α → AV) (v : AV) (l : List α) : Prop := (v = .nils ∧ l = []) ∨ ∃ t, v = .sl t s (l.map f)

theorem IsRow.len {α : Type} {s : Nat} {f : α → AV} {v : AV} {l : List α} (h : IsRow s f v l) (H : AH) : aLen .row v H = some (.int .i64 l.length) := by
  rcases h with ⟨rfl, rfl⟩ | ⟨t, rfl⟩ <;> simp [aLen]

theorem IsRow.at {α : Type} {s : Nat} {f : α → AV} {v : AV} {l : List α} (h : IsRow s f v l) {i : Nat} {x : α} (hi : l[i]? = some x) {k : IntKind} : aIdxAddr s v (.int k i) = some (.vp (f x).cells) := by
  rcases h with ⟨rfl, rfl⟩ | ⟨t, rfl⟩
  · simp at hi
  · simp [aIdxAddr, hi]

theorem IsRow.elems {α : Type} {s : Nat} {f : α → AV} {v : AV} {l : List α} (h : IsRow s f v l) (H : AH) : elems s v H = some (l.map f) := by
  rcases h with ⟨rfl, rfl⟩ | ⟨t, rfl⟩ <;> simp [SV.elems]

theorem wrap_small {n : Int} (h : -(2 ^ 63) ≤ n ∧ n < 2 ^ 63) : IntKind.i64.wrap n = n := by
  unfold IntKind.wrap; simp [IntKind.bits, IntKind.signed]; omega

end Go.SV

namespace Go.SV

variable {D : Den} {N R : Kont} {X : Nat → Kont} {fr : List AV} {H : AH}

/-- Pairs of an effect and a reading operation that no order binds. -/
def loose (ios : List IOper) (bef : List (List Nat)) : List (Nat × Nat) :=
  (List.range ios.length).flatMap fun e => match ios[e]? with
    | some oe => if oe.op.isEff then (List.range ios.length).filterMap fun j => match ios[j]? with
      | some oj => if !oj.op.isEff && !oj.op.isAlloc && (rdOpd oj.op).isSome && !(bq bef j).contains e && !(bq bef e).contains j then some (e, j) else none
      | none => none
    else []
    | none => []

/-- Pairs of an effect and an allocation that need not come before it. -/
def looseA (ios : List IOper) (bef : List (List Nat)) : List (Nat × Nat) :=
  (List.range ios.length).flatMap fun e => match ios[e]? with
    | some oe => if oe.op.isEff then (List.range ios.length).filterMap fun j => match ios[j]? with
      | some oj => if oj.op.isAlloc && !(bq bef e).contains j then some (e, j) else none
      | none => none
    else []
    | none => []

/-- An operation reads the same in two heaps. -/
def sameR (op : IOp) (H1 H2 : AH) : Prop := (aop [] op H1).map (·.1) = (aop [] op H2).map (·.1)
def rdSame (ios : List IOper) (sts : List (List AV × AH)) (p : Nat × Nat) : Prop := ∀ o, ios[p.2]? = some o → (aop (stF sts p.2) o.op (stH sts (p.1 + 1))).map (·.1) = (aop (stF sts p.2) o.op (stH sts p.1)).map (·.1)
def alAt (ios : List IOper) (sts : List (List AV × AH)) (j : Nat) : Option (List AV × Nat) := (ios[j]?).bind fun o => match o.op, o.dst with
  | .alloc z, some d => match (stF sts 0)[d]? with
    | some (.ptr b 0) => some (z, b)
    | _ => none
  | _, _ => none

def dstsA (ios : List IOper) : List Nat := ios.filterMap fun o => if o.op.isAlloc then o.dst else none

theorem dynOk_of {ios : List IOper} {bef : List (List Nat)} {sts : List (List AV × AH)}
    (h1 : ∀ d ∈ dstsA ios, d < fr.length)
    (h2 : ∀ p ∈ loose ios bef, rdSame ios sts p)
    (h3 : ∀ p ∈ looseA ios bef, ∀ z b, alAt ios sts p.2 = some (z, b) → (stH sts (p.1 + 1)).get b = .cells z) : DynOk ios bef fr sts := by
  refine ⟨fun f o d hf ha hd => h1 d ?_, fun e j oe oj he hj h4 h5 h6 h7 h8 => ?_, fun e f oe z d b he h4 h5 hf hs => ?_⟩
  · exact List.mem_filterMap.2 ⟨o, List.mem_of_getElem? hf, by rw [if_pos ha]; exact hd⟩
  · by_cases hrd : (rdOpd oj.op).isSome = true
    rotate_left
    · have hno : rdOpd oj.op = none := by simpa using hrd
      have hna : ∀ H, iop (fun _ _ _ => none) (stF sts j) oj.op H = aop (stF sts j) oj.op H := fun H => by cases hop' : oj.op <;> first | rfl | (rw [hop'] at h5; simp [IOp.isEff] at h5)
      have key : ∀ H H2 : AH, ∀ v, (aop (stF sts j) oj.op H).map (·.1) = some v → (aop (stF sts j) oj.op H2).map (·.1) = some v := by
        intro H H2 v hv
        simp only [Option.map_eq_some_iff] at hv
        obtain ⟨⟨v', H'⟩, h1, rfl⟩ := hv
        have := (floater h5 h6 (show iop (fun _ _ _ => none) (stF sts j) oj.op H = some (v', H') by rw [hna]; exact h1)).2 H2 (fun b hb => by simp [rdBlk, hno] at hb)
        rw [hna] at this
        rw [this]; rfl
      exact Option.ext fun v => ⟨key _ _ v, key _ _ v⟩
    refine h2 (e, j) ?_ oj hj
    refine List.mem_flatMap.2 ⟨e, List.mem_range.2 (getElem?_lt he), ?_⟩
    simp only [he, h4, if_true]
    refine List.mem_filterMap.2 ⟨j, List.mem_range.2 (getElem?_lt hj), ?_⟩
    simp only [hj, h5, h6, hrd, Bool.not_false, Bool.true_and, Bool.and_true]
    have e1 : (bq bef j).contains e = false := by simpa using h7
    have e2 : (bq bef e).contains j = false := by simpa using h8
    rw [e1, e2]
    rfl
  · cases ho : ios[f]? with
    | none => rw [ho] at hf; simp at hf
    | some o =>
      rw [ho] at hf
      simp only [Option.map_some, Option.some.injEq, Prod.mk.injEq] at hf
      refine h3 (e, f) ?_ z b ?_
      · refine List.mem_flatMap.2 ⟨e, List.mem_range.2 (getElem?_lt he), ?_⟩
        simp only [he, h4, if_true]
        refine List.mem_filterMap.2 ⟨f, List.mem_range.2 (getElem?_lt ho), ?_⟩
        have e1 : (bq bef e).contains f = false := by simpa using h5
        simp only [ho, hf.1, IOp.isAlloc, e1, Bool.not_false, Bool.and_self, if_true]
      · simp only [alAt, ho, Option.bind_some, hf.1, hf.2, hs]

structure Wt (D : Den) (ops : List IOper) (K : List (List AV × AH) → Prop) (fr : List AV) (H : AH) : Prop where
  run : ∃ sts, trace D ops fr H = some sts ∧ K sts

variable {K : List (List AV × AH) → Prop}

theorem wt_nil (h : K [(fr, H)]) : Wt D [] K fr H := ⟨_, rfl, h⟩

theorem wt_op {o : IOper} {os : List IOper} {v : AV} {H' : AH} {fr' : List AV} (ha : o.op.isAlloc = false) (hw : want o.guard fr = some true) (hv : iop D fr o.op H = some (v, H')) (hf : setd o.dst v fr = fr')
    (h : Wt D os (fun l => K ((fr, H) :: l)) fr' H') : Wt D (o :: os) K fr H := by
  obtain ⟨l, h1, h2⟩ := h
  subst hf
  exact ⟨_, by simp only [trace, ha, Bool.false_eq_true, if_false, hw, hv, h1, Option.map_some], h2⟩

theorem wt_off {o : IOper} {os : List IOper} {fr' : List AV} (ha : o.op.isAlloc = false) (hw : want o.guard fr = some false) (hf : setd o.dst (.tup []) fr = fr')
    (h : Wt D os (fun l => K ((fr, H) :: l)) fr' H) : Wt D (o :: os) K fr H := by
  obtain ⟨l, h1, h2⟩ := h
  subst hf
  exact ⟨_, by simp only [trace, ha, Bool.false_eq_true, if_false, hw, h1, Option.map_some], h2⟩

theorem wc_dreg' {ios : List IOper} {bef : List (List Nat)} {P1 P2 : List (Nat × Nat)} {f0 : List AV} {H0 : AH} (hp : loose ios bef = P1) (hq : looseA ios bef = P2) (hd : ∀ d ∈ dstsA ios, d < fr.length)
    (hh : hoist ios fr H = (f0, H0))
    (hw : Wt D ios (fun sts => (∀ p ∈ P1, rdSame ios sts p) ∧
      (∀ p ∈ P2, ∀ z b, alAt ios sts p.2 = some (z, b) → (stH sts (p.1 + 1)).get b = .cells z) ∧ N (stF sts ios.length) (stH sts ios.length)) f0 H0) :
    Wc D (.dreg ios bef) N R X fr H := by
  obtain ⟨sts, h1, h2, h3, h4⟩ := hw
  subst hp; subst hq
  refine wc_dreg (fr' := stF sts ios.length) (H' := stH sts ios.length) ?_ h4
  simp only [dreg, hh, h1]
  rw [if_pos (dynOk_of hd h2 h3)]

end Go.SV

namespace Go.SV

/-! ### Functions of as many values -/
def Cur : Nat → Type
  | 0 => AH → Prop
  | n + 1 => AV → Cur n

def lam : (n : Nat) → (List AV → AH → Prop) → Cur n
  | 0, f => f []
  | n + 1, f => fun a => lam n fun l => f (a :: l)

def appC : (n : Nat) → Cur n → List AV → AH → Prop
  | 0, f, _ => f
  | n + 1, f, a :: l => appC n (f a) l
  | _ + 1, _, [] => fun _ => False

theorem appC_lam : ∀ (n : Nat) (f : List AV → AH → Prop) (xs : List AV) (H : AH), xs.length = n → appC n (lam n f) xs H = f xs H := by
  intro n
  induction n with
  | zero => intro f xs H h; cases xs with
    | nil => rfl
    | cons => simp at h
  | succ n ih => intro f xs H h; cases xs with
    | nil => simp at h
    | cons x xs => exact ih _ xs H (by simpa using h)

def ImpC : (n : Nat) → Cur n → Cur n → Prop
  | 0, P, Q => ∀ H, P H → Q H
  | n + 1, P, Q => ∀ x, ImpC n (P x) (Q x)

theorem ImpC.app : ∀ {n : Nat} {P Q : Cur n}, ImpC n P Q → ∀ {xs : List AV} {H : AH}, appC n P xs H → appC n Q xs H := by
  intro n
  induction n with
  | zero => intro P Q h xs H hp; exact h H hp
  | succ n ih => intro P Q h xs H hp; cases xs with
    | nil => exact hp.elim
    | cons x xs => exact ih (h x) hp

/-- Later in the order of rounds. -/
def lessC (n : Nat) (I : Nat → Cur n) (k : Nat) : Cur n := lam n fun xs H => ∃ m, m < k ∧ appC n (I m) xs H

structure jP (n : Nat) (f : Cur n) (g : Cur n → Prop) : Prop where
  run : g f
def lP (n : Nat) (F : Cur n → Cur n) (init : List AV) (H : AH) : Prop := ∃ (I : Nat → Cur n) (k0 : Nat), appC n (I k0) init H ∧ ∀ k, ImpC n (I k) (F (lessC n I k))

/-! ### Heads of formulas -/
def gP (m : Option AV) (k : AV → Prop) : Prop := ∃ v, m = some v ∧ k v
def hP (m : Option AH) (k : AH → Prop) : Prop := ∃ v, m = some v ∧ k v
def sP (m : Option (AV × AH)) (k : AV → AH → Prop) : Prop := ∃ v H, m = some (v, H) ∧ k v H
structure aP (z : List AV) (H : AH) (k : AV → AH → Prop) : Prop where
  run : k (.ptr H.obs.length 0) (H.push (.cells z))
def iP (v : AV) (A B : Prop) : Prop := ∃ t, v = .bool t ∧ (t = true → A) ∧ (t = false → B)
def dP (v : AV) (b : Bool) (A B : Prop) : Prop := ∃ t, v = .bool t ∧ (t = b → A) ∧ (t = (!b) → B)
def pP (c x y : AV) (k : AV → Prop) : Prop := ∃ t, c = .bool t ∧ k (if t = true then x else y)
def cP (D : Den) (key : Nat) (args : List AV) (H : AH) (k : AV → AH → Prop) : Prop := ∃ v H', D key args H = some (v, H') ∧ k v H'
def vP (D : Den) (ver : Nat) (f : AV) (args : List AV) (H : AH) (k : AV → AH → Prop) : Prop :=
  ∃ kk first cap, f = .fn (.func kk) first cap ∧ kk < 100000 ∧ cP D (kk + ver * 100000) (first ++ args ++ cap) H k
def keptP (v : AV) (z : List AV) (H : AH) : Prop := ∀ b, v = .ptr b 0 → H.get b = .cells z

def aNot : AV → Option AV
  | .bool b => some (.bool (!b))
  | _ => none
def aSlcS (x : AV) (lo hi : Option AV) : Option AV := match x with
  | .str l => aSlice 0 (.str l) lo hi
  | _ => none
def aSlc (s : Nat) (x : AV) (lo hi : Option AV) : Option AV := match x with
  | .str _ => none
  | x => aSlice s x lo hi
def aIdxStr (x i : AV) : Option AV := match x, i with
  | .str l, .int _ n => if 0 ≤ n then (l[n.toNat]?).map fun b => .int .u8 b.toNat else none
  | _, _ => none
def aField (off : Nat) (n : Option Nat) (x : AV) : Option AV := match x with
  | .agg cs => part off n cs
  | _ => none
def aNilck (x : AV) : Option AV := match x with
  | .ptr _ _ | .vp _ => some x
  | .fn (.func _) _ _ => some x
  | .iface _ _ => some x
  | _ => none
def aExtract (i : Nat) (x : AV) : Option AV := match x with
  | .tup vs => vs[i]?
  | _ => none
def aLit (m : Mode) (s : Nat) (ys : List AV) (H : AH) : Option (AV × AH) :=
  if !elemsOk s ys then none else
  match m with
  | .ro => some (.sl 0 s ys, H)
  | .tok => some (.sl H.toks.length s ys, ⟨H.obs, H.toks ++ [(ys.length, s, 0)]⟩)
  | .ref => some (.slr H.obs.length 0 ys.length s, ⟨H.obs ++ [.cells (ys.flatMap AV.cells)], H.toks⟩)
def aCv (k : IntKind) (x : AV) : Option AV := match x with
  | .int _ n => some (.int k (k.wrap n))
  | _ => none
def aEqv (k : EqK) (neg : Bool) (x y : AV) : Option AV := (aEq k x y).map fun b => .bool (if neg then !b else b)
/-! ### Operations with their values put in -/
def getF (fr : List AV) (t : Nat) : AV := (fr[t]?).getD .undef
def sb (fr : List AV) (x : Opd) : Opd := .cst (x.ev fr)

def IOp.sb (fr : List AV) : IOp → IOp
  | .mov x => .mov (SV.sb fr x)
  | .pick c a b => .pick (SV.sb fr c) (SV.sb fr a) (SV.sb fr b)
  | .alloc z => .alloc z
  | .box x => .box (SV.sb fr x)
  | .build z ps => .build z (ps.map fun p => (p.1, p.2.1, SV.sb fr p.2.2))
  | .lit m s xs => .lit m s (xs.map (SV.sb fr))
  | .load n a => .load n (SV.sb fr a)
  | .store n a x => .store n (SV.sb fr a) (SV.sb fr x)
  | .nilck x => .nilck (SV.sb fr x)
  | .bin op x y => .bin op (SV.sb fr x) (SV.sb fr y)
  | .eqv k ng x y => .eqv k ng (SV.sb fr x) (SV.sb fr y)
  | .eqAgg ks ng x y => .eqAgg ks ng (SV.sb fr x) (SV.sb fr y)
  | .not x => .not (SV.sb fr x)
  | .neg x => .neg (SV.sb fr x)
  | .cvInt k x => .cvInt k (SV.sb fr x)
  | .cvRune x => .cvRune (SV.sb fr x)
  | .cvBytes x => .cvBytes (SV.sb fr x)
  | .cvStr x => .cvStr (SV.sb fr x)
  | .cvMark x => .cvMark (SV.sb fr x)
  | .cvSame x => .cvSame (SV.sb fr x)
  | .mkIface t x => .mkIface t (SV.sb fr x)
  | .mkFn f first cap => .mkFn f (first.map (SV.sb fr)) (cap.map (SV.sb fr))
  | .mkMap => .mkMap
  | .make m s bytes z l c => .make m s bytes z (SV.sb fr l) (SV.sb fr c)
  | .slcS x lo hi => .slcS (SV.sb fr x) (lo.map (SV.sb fr)) (hi.map (SV.sb fr))
  | .slc s x lo hi => .slc s (SV.sb fr x) (lo.map (SV.sb fr)) (hi.map (SV.sb fr))
  | .fieldAddr off x => .fieldAddr off (SV.sb fr x)
  | .field off n x => .field off n (SV.sb fr x)
  | .idxAddr s x i => .idxAddr s (SV.sb fr x) (SV.sb fr i)
  | .idxAddrArr ln s x i => .idxAddrArr ln s (SV.sb fr x) (SV.sb fr i)
  | .idxStr x i => .idxStr (SV.sb fr x) (SV.sb fr i)
  | .idxArr ln s n x i => .idxArr ln s n (SV.sb fr x) (SV.sb fr i)
  | .lookup K z ok m k => .lookup K z ok (SV.sb fr m) (SV.sb fr k)
  | .mapUpd K m k v => .mapUpd K (SV.sb fr m) (SV.sb fr k) (SV.sb fr v)
  | .mapEntry K z m k => .mapEntry K z (SV.sb fr m) (SV.sb fr k)
  | .entrySt m s v => .entrySt (SV.sb fr m) (SV.sb fr s) (SV.sb fr v)
  | .rangeS x => .rangeS (SV.sb fr x)
  | .nextS x => .nextS (SV.sb fr x)
  | .extract i x => .extract i (SV.sb fr x)
  | .len k x => .len k (SV.sb fr x)
  | .append m s bytes x y => .append m s bytes (SV.sb fr x) (SV.sb fr y)
  | .minmax mx x xs => .minmax mx (SV.sb fr x) (xs.map (SV.sb fr))
  | .sealR x => .sealR (SV.sb fr x)
  | .call ver f args => .call ver f args

theorem sb_ev (fr : List AV) (x : Opd) : (sb fr x).ev [] = x.ev fr := rfl
theorem sb_map (fr : List AV) (xs : List Opd) : (xs.map (sb fr)).map (Opd.ev []) = xs.map (Opd.ev fr) := by
  rw [List.map_map]; rfl
theorem sb_opt (fr : List AV) (x : Option Opd) : (x.map (sb fr)).map (Opd.ev []) = x.map (Opd.ev fr) := by
  cases x <;> rfl

theorem aop_sb (fr : List AV) (op : IOp) (H : AH) : aop [] (op.sb fr) H = aop fr op H := by
  cases op <;> (simp only [IOp.sb, aop, sb_ev, sb_map, sb_opt] <;> try rfl)
  case build z ps =>
    have : (ps.map fun p => (p.1, p.2.1, sb fr p.2.2)).map (fun p => (p.1, p.2.1, p.2.2.ev [])) = ps.map fun p => (p.1, p.2.1, p.2.2.ev fr) := by
      rw [List.map_map]; rfl
    rw [this]

/-! ### Operations -/
inductive Kn where
  | b (v : Bool)
  | off

def lookK (g : Nat) : List (Nat × Kn) → Option Kn
  | [] => none
  | p :: l => bif p.1 == g then some p.2 else lookK g l
def rmK (d : Option Nat) (l : List (Nat × Kn)) : List (Nat × Kn) := match d with
  | none => l
  | some d => l.filter fun p => !(p.1 == d)

def wpOp (D : Den) (kn : List (Nat × Kn)) (op : IOp) (fr : List AV) (H : AH) (k : AV → AH → Prop) : Prop :=
  match op with
  | .mov x => k (x.ev fr) H
  | .alloc z => aP z H k
  | .load n a => gP (aLoad n (a.ev fr) H) fun v => k v H
  | .store n a x => hP (aStore n (a.ev fr) (x.ev fr) H) fun H' => k .undef H'
  | .bin op x y => gP (aBin op (x.ev fr) (y.ev fr)) fun v => k v H
  | .fieldAddr o x => gP (aFieldAddr o (x.ev fr)) fun v => k v H
  | .idxAddr s x i => gP (aIdxAddr s (x.ev fr) (i.ev fr)) fun v => k v H
  | .idxAddrArr len s x i => gP (aIdxAddrArr len s (x.ev fr) (i.ev fr)) fun v => k v H
  | .len lk x => gP (aLen lk (x.ev fr) H) fun v => k v H
  | .lookup K z ok m y => gP (aLook K z ok (m.ev fr) (y.ev fr) H) fun v => k v H
  | .append m s b x y => sP (aAppend m s b (x.ev fr) (y.ev fr) H) k
  | .slcS x lo hi => gP (aSlcS (x.ev fr) (lo.map (Opd.ev fr)) (hi.map (Opd.ev fr))) fun v => k v H
  | .slc s x lo hi => gP (aSlc s (x.ev fr) (lo.map (Opd.ev fr)) (hi.map (Opd.ev fr))) fun v => k v H
  | .idxStr x i => gP (aIdxStr (x.ev fr) (i.ev fr)) fun v => k v H
  | .field off n x => gP (aField off n (x.ev fr)) fun v => k v H
  | .nilck x => gP (aNilck (x.ev fr)) fun v => k v H
  | .extract i x => gP (aExtract i (x.ev fr)) fun v => k v H
  | .not x => gP (aNot (x.ev fr)) fun v => k v H
  | .cvInt t x => gP (aCv t (x.ev fr)) fun v => k v H
  | .eqv t neg x y => gP (aEqv t neg (x.ev fr) (y.ev fr)) fun v => k v H
  | .minmax mx x xs => gP (aFold mx (x.ev fr) (xs.map (Opd.ev fr))) fun v => k v H
  | .lit m s xs => sP (aLit m s (xs.map (Opd.ev fr)) H) k
  | .build z ps => gP ((aBuild z (ps.map fun p => (p.1, p.2.1, p.2.2.ev fr))).map .agg) fun v => k v H
  | .pick (.tmp c) x y => match lookK c kn with
    | some (.b true) => k (x.ev fr) H
    | some (.b false) => k (y.ev fr) H
    | _ => pP (getF fr c) (x.ev fr) (y.ev fr) fun v => k v H
  | .pick c x y => pP (c.ev fr) (x.ev fr) (y.ev fr) fun v => k v H
  | .call ver (.fn f) args => if f < 100000 then cP D (f + ver * 100000) (args.map (Opd.ev fr)) H k else False
  | .call ver f args => vP D ver (f.ev fr) (args.map (Opd.ev fr)) H k
  | op => sP (aop [] (op.sb fr) H) k

def knV : Kn → AV
  | .b v => .bool v
  | .off => .tup []
def KnOk (kn : List (Nat × Kn)) (fr : List AV) : Prop := ∀ p ∈ kn, fr[p.1]? = some (knV p.2)

theorem lookK_mem {g : Nat} {κ : Kn} : ∀ {l : List (Nat × Kn)}, lookK g l = some κ → (g, κ) ∈ l := by
  intro l
  induction l with
  | nil => intro h; simp [lookK] at h
  | cons p l ih =>
    intro h
    simp only [lookK, Bool.cond_eq_ite, beq_iff_eq] at h
    split at h
    · rename_i e; subst e; simp only [Option.some.injEq] at h; subst h; exact List.mem_cons_self
    · exact List.mem_cons_of_mem _ (ih h)

theorem KnOk.rm {kn : List (Nat × Kn)} {fr : List AV} (h : KnOk kn fr) (d : Option Nat) (v : AV) : KnOk (rmK d kn) (setd d v fr) := by
  cases d with
  | none => exact h
  | some d =>
    intro p hp
    simp only [rmK, List.mem_filter, Bool.not_eq_true', beq_eq_false_iff_ne, ne_eq] at hp
    simp only [setd]
    rw [List.getElem?_set_ne (fun e => hp.2 e.symm)]
    exact h p hp.1

theorem getF_some {fr : List AV} {t : Nat} {v : AV} (h : getF fr t = v) (hv : v ≠ .undef) : fr[t]? = some v := by
  unfold getF at h
  cases e : fr[t]? with
  | none => rw [e] at h; exact absurd h.symm hv
  | some x => rw [e] at h; simp only [Option.getD_some] at h; rw [h]

theorem iop_of {D : Den} {op : IOp} {fr : List AV} {H : AH} (hc : ∀ v f az, op ≠ .call v f az) : iop D fr op H = aop fr op H := by
  cases op <;> first | rfl | exact absurd rfl (hc _ _ _)

theorem wpOp_ok {D : Den} {kn : List (Nat × Kn)} {op : IOp} {fr : List AV} {H : AH} {k : AV → AH → Prop} (hk : KnOk kn fr) (h : wpOp D kn op fr H k) :
    ∃ v H', iop D fr op H = some (v, H') ∧ k v H' := by
  have g : ∀ {m : Option AV} {op : IOp}, (iop D fr op H = m.map fun v => (v, H)) → gP m (fun v => k v H) → ∃ v H', iop D fr op H = some (v, H') ∧ k v H' := by
    rintro m op e ⟨v, hv, hk⟩
    exact ⟨v, H, by rw [e, hv]; rfl, hk⟩
  have s : ∀ {m : Option (AV × AH)} {op : IOp}, iop D fr op H = m → sP m k → ∃ v H', iop D fr op H = some (v, H') ∧ k v H' := by
    rintro m op e ⟨v, H', hv, hk⟩
    exact ⟨v, H', by rw [e, hv], hk⟩
  cases op with
  | mov x => exact ⟨_, _, rfl, h⟩
  | alloc z => exact ⟨_, _, rfl, h.run⟩
  | store n a x =>
    obtain ⟨H', hv, hk⟩ := h
    exact ⟨_, H', by simp only [iop, aop, hv, Option.map_some], hk⟩
  | pick c x y =>
    have p : ∀ {c : Opd}, pP (c.ev fr) (x.ev fr) (y.ev fr) (fun v => k v H) → ∃ v H', iop D fr (.pick c x y) H = some (v, H') ∧ k v H' := by
      rintro c ⟨t, ht, hk⟩
      exact ⟨_, _, by simp only [iop, aop, ht], hk⟩
    cases c with
    | tmp c =>
      simp only [wpOp] at h
      split at h
      · rename_i e
        have := hk _ (lookK_mem e)
        simp only [knV] at this
        exact ⟨_, _, by simp only [iop, aop, Opd.ev, this, Option.getD_some, if_true], h⟩
      · rename_i e
        have := hk _ (lookK_mem e)
        simp only [knV] at this
        exact ⟨_, _, by simp only [iop, aop, Opd.ev, this, Option.getD_some, Bool.false_eq_true, if_false], h⟩
      · exact p h
    | cst v => exact p h
    | fn f => exact p h
  | call ver f args =>
    have q : ∀ {f : Opd}, vP D ver (f.ev fr) (args.map (Opd.ev fr)) H k → ∃ v H', iop D fr (.call ver f args) H = some (v, H') ∧ k v H' := by
      rintro f ⟨kk, first, cap, hf, hkk, v, H', hv, hk⟩
      exact ⟨v, H', by simp only [iop, hf, if_pos hkk]; exact hv, hk⟩
    cases f with
    | fn f =>
      simp only [wpOp] at h
      split at h
      · rename_i hl
        obtain ⟨v, H', hv, hk⟩ := h
        exact ⟨v, H', by simp only [iop, Opd.ev, if_pos hl, List.nil_append, List.append_nil]; exact hv, hk⟩
      · exact h.elim
    | tmp c => exact q h
    | cst v => exact q h
  | not x => exact g (by simp only [iop, aop, aNot]; generalize x.ev fr = y; cases y <;> rfl) h
  | nilck x => exact g (by simp only [iop, aop, aNilck]; generalize x.ev fr = y; cases y <;> (try rfl); rename_i f _ _; cases f <;> rfl) h
  | cvInt t x => exact g (by simp only [iop, aop, aCv]; generalize x.ev fr = y; cases y <;> rfl) h
  | field off n x => exact g (by simp only [iop, aop, aField]; generalize x.ev fr = y; cases y <;> rfl) h
  | extract i x => exact g (by simp only [iop, aop, aExtract]; generalize x.ev fr = y; cases y <;> rfl) h
  | slcS x lo hi => exact g (by simp only [iop, aop, aSlcS]; generalize x.ev fr = y; cases y <;> rfl) h
  | slc s x lo hi => exact g (by simp only [iop, aop, aSlc]; generalize x.ev fr = y; cases y <;> rfl) h
  | idxStr x i => exact g (by simp only [iop, aop, aIdxStr]; generalize x.ev fr = y; generalize i.ev fr = z; cases y <;> (try rfl); cases z <;> (try rfl); simp only []; split <;> rfl) h
  | lit m t xs => exact s (by simp only [iop, aop, aLit]; rfl) h
  | append m t b x y => exact s rfl h
  | load n a => exact g rfl h
  | bin op x y => exact g rfl h
  | fieldAddr o x => exact g rfl h
  | idxAddr s x i => exact g rfl h
  | idxAddrArr len s x i => exact g rfl h
  | len lk x => exact g rfl h
  | lookup K z ok m y => exact g rfl h
  | minmax mx x xs => exact g rfl h
  | build z ps => exact g rfl h
  | eqv t neg x y => exact g rfl h
  | _ => exact s (by rw [aop_sb]; exact iop_of (by intro v f az e; cases e)) h

def offK (d : Option Nat) (kn : List (Nat × Kn)) : List (Nat × Kn) := match d with
  | none => kn
  | some d => (d, .off) :: rmK (some d) kn
def okD (d : Option Nat) (n : Nat) : Bool := match d with
  | none => true
  | some d => Nat.blt d n

theorem KnOk.offd {kn : List (Nat × Kn)} {fr : List AV} (h : KnOk kn fr) (d : Option Nat) (hd : okD d fr.length = true) : KnOk (offK d kn) (setd d (.tup []) fr) := by
  cases d with
  | none => exact h
  | some d =>
    have hd' : d < fr.length := by simpa [okD, Nat.blt_eq] using hd
    intro p hp
    simp only [offK, List.mem_cons] at hp
    rcases hp with rfl | hp
    · simp only [setd, knV]
      rw [List.getElem?_set_self hd']
    · exact h.rm (some d) _ p hp

theorem KnOk.cons {kn : List (Nat × Kn)} {fr : List AV} (h : KnOk kn fr) {g : Nat} {b : Bool} (hg : fr[g]? = some (.bool b)) : KnOk ((g, .b b) :: kn) fr := by
  intro p hp
  simp only [List.mem_cons] at hp
  rcases hp with rfl | hp
  · exact hg
  · exact h p hp

theorem set_same {fr : List AV} {g : Nat} {v : AV} (hg : fr[g]? = some v) : fr.set g v = fr := by
  refine List.ext_getElem? fun i => ?_
  rw [List.getElem?_set]
  split
  · rename_i e; subst e
    have hl : g < fr.length := by
      rcases Nat.lt_or_ge g fr.length with h | h
      · exact h
      · rw [List.getElem?_eq_none h] at hg; simp at hg
    rw [if_pos hl, hg]
  · rfl

def constK : Opd → Option Bool
  | .cst (.bool b) => some b
  | _ => none
def opK (kn : List (Nat × Kn)) : IOp → Option Bool
  | .mov (.tmp c) => match lookK c kn with
    | some (.b b) => some b
    | _ => none
  | .mov x => constK x
  | .pick (.tmp c) x y => match lookK c kn with
    | some (.b true) => constK x
    | some (.b false) => constK y
    | _ => none
  | _ => none
/-- What is known after an operation. -/
def kAft (op : IOp) (d : Option Nat) (n : Nat) (kn : List (Nat × Kn)) : List (Nat × Kn) := match d with
  | none => kn
  | some d => match opK kn op with
    | some b => bif Nat.blt d n then (d, .b b) :: rmK (some d) kn else rmK (some d) kn
    | none => rmK (some d) kn

theorem constK_ev {x : Opd} {b : Bool} (h : constK x = some b) (fr : List AV) : x.ev fr = .bool b := by
  unfold constK at h
  split at h
  · simp only [Option.some.injEq] at h; subst h; rfl
  · simp at h

theorem opK_ok {D : Den} {kn : List (Nat × Kn)} {fr : List AV} {op : IOp} {H H' : AH} {v : AV} {b : Bool} (hk : KnOk kn fr) (h : opK kn op = some b) (hi : iop D fr op H = some (v, H')) : v = .bool b := by
  unfold opK at h
  split at h
  · rename_i c
    split at h
    · rename_i b' e
      have hg := hk _ (lookK_mem e)
      simp only [knV] at hg
      simp only [Option.some.injEq] at h
      simp only [iop, aop, Opd.ev, hg, Option.getD_some, Option.some.injEq, Prod.mk.injEq] at hi
      rw [← hi.1, h]
    · simp at h
  · rename_i x _
    have := constK_ev h fr
    simp only [iop, aop, Option.some.injEq, Prod.mk.injEq] at hi
    rw [← hi.1, this]
  · rename_i c x y
    split at h
    · rename_i e
      have hg := hk _ (lookK_mem e)
      simp only [knV] at hg
      have := constK_ev h fr
      simp only [iop, aop, Opd.ev, hg, Option.getD_some, if_true, Option.some.injEq, Prod.mk.injEq] at hi
      rw [← hi.1]; exact this
    · rename_i e
      have hg := hk _ (lookK_mem e)
      simp only [knV] at hg
      have := constK_ev h fr
      simp only [iop, aop, Opd.ev, hg, Option.getD_some, Bool.false_eq_true, if_false, Option.some.injEq, Prod.mk.injEq] at hi
      rw [← hi.1]; exact this
    · simp at h
  · simp at h

theorem KnOk.aft {D : Den} {kn : List (Nat × Kn)} {fr : List AV} {op : IOp} {H H' : AH} {v : AV} (h : KnOk kn fr) (d : Option Nat) (hi : iop D fr op H = some (v, H')) : KnOk (kAft op d fr.length kn) (setd d v fr) := by
  cases d with
  | none => exact h
  | some d =>
    have hr := h.rm (some d) v
    simp only [kAft]
    split
    · rename_i b hb
      rw [Bool.cond_eq_ite]
      split
      · rename_i hd
        have hd' : d < fr.length := by simpa [Nat.blt_eq] using hd
        intro p hp
        simp only [List.mem_cons] at hp
        rcases hp with rfl | hp
        · simp only [setd, knV]
          rw [List.getElem?_set_self hd', opK_ok h hb hi]
        · exact hr p hp
      · exact hr
    · exact hr

/-- Rows of operations, with what is known of guards. -/
def wpO (D : Den) (K : Kont) : List IOper → List (Nat × Kn) → List AV → AH → Prop
  | [], _, fr, H => K fr H
  | o :: os, kn, fr, H =>
    match o.guard with
    | none => wpOp D kn o.op fr H fun v H' => wpO D K os (kAft o.op o.dst fr.length kn) (setd o.dst v fr) H'
    | some (g, b) => match lookK g kn with
      | some (.b c) => bif c == b then wpOp D kn o.op fr H fun v H' => wpO D K os (kAft o.op o.dst fr.length kn) (setd o.dst v fr) H'
        else bif okD o.dst fr.length then wpO D K os (offK o.dst kn) (setd o.dst (.tup []) fr) H else False
      | some .off => bif okD o.dst fr.length then wpO D K os (offK o.dst kn) (setd o.dst (.tup []) fr) H else False
      | none => dP (getF fr g) b
        (wpOp D ((g, .b b) :: kn) o.op (fr.set g (.bool b)) H fun v H' => wpO D K os (kAft o.op o.dst (fr.set g (.bool b)).length ((g, .b b) :: kn)) (setd o.dst v (fr.set g (.bool b))) H')
        (bif okD o.dst fr.length then wpO D K os (offK o.dst ((g, .b (!b)) :: kn)) (setd o.dst (.tup []) (fr.set g (.bool (!b)))) H else False)

theorem wpO_ok {D : Den} {K : Kont} : ∀ (os : List IOper) {kn : List (Nat × Kn)} {fr : List AV} {H : AH}, KnOk kn fr → wpO D K os kn fr H → Wr D os K fr H := by
  intro os
  induction os with
  | nil => intro kn fr H _ h; exact wr_nil h
  | cons o os ih =>
    intro kn fr H hk h
    have on : ∀ {kn : List (Nat × Kn)} {fr : List AV}, KnOk kn fr → want o.guard fr = some true → wpOp D kn o.op fr H (fun v H' => wpO D K os (kAft o.op o.dst fr.length kn) (setd o.dst v fr) H') → Wr D (o :: os) K fr H := by
      intro kn fr hk hw h
      obtain ⟨v, H', h1, h2⟩ := wpOp_ok hk h
      exact wr_op hw h1 rfl (ih (hk.aft _ h1) h2)
    have off : ∀ {kn : List (Nat × Kn)} {fr : List AV}, KnOk kn fr → want o.guard fr = some false → (bif okD o.dst fr.length then wpO D K os (offK o.dst kn) (setd o.dst (.tup []) fr) H else False) → Wr D (o :: os) K fr H := by
      intro kn fr hk hw h
      rw [Bool.cond_eq_ite] at h
      split at h
      · rename_i hd
        exact wr_off hw rfl (ih (hk.offd _ hd) h)
      · exact h.elim
    simp only [wpO] at h
    split at h
    · rename_i e
      exact on hk (by rw [e]; rfl) h
    · rename_i g b e
      split at h
      · rename_i c e2
        have hg := hk _ (lookK_mem e2)
        simp only [knV] at hg
        have hw : want o.guard fr = some (c == b) := by rw [e]; simp [want, hg]
        cases hcb : (c == b) with
        | true => rw [hcb] at h hw; exact on hk hw h
        | false => rw [hcb] at h hw; exact off hk hw h
      · rename_i e2
        have hg := hk _ (lookK_mem e2)
        simp only [knV] at hg
        exact off hk (by rw [e]; simp [want, hg]) h
      · obtain ⟨t, ht, ha, hb⟩ := h
        have hg := getF_some ht (by intro e; cases e)
        have hs := set_same hg
        rcases (show t = b ∨ t = (!b) by cases t <;> cases b <;> simp) with rfl | rfl
        · have := ha rfl
          rw [hs] at this
          exact on (hk.cons hg) (by rw [e]; simp [want, hg]) this
        · have := hb rfl
          rw [hs] at this
          exact off (hk.cons hg) (by rw [e]; simp [want, hg]) this

/-- The same, with all states on the way. -/
def wpT (D : Den) (K : List (List AV × AH) → Prop) : List IOper → List (Nat × Kn) → List (List AV × AH) → List AV → AH → Prop
  | [], _, acc, fr, H => K (acc ++ [(fr, H)])
  | o :: os, kn, acc, fr, H =>
    bif o.op.isAlloc then wpT D K os kn (acc ++ [(fr, H)]) fr H else
    match o.guard with
    | none => wpOp D kn o.op fr H fun v H' => wpT D K os (kAft o.op o.dst fr.length kn) (acc ++ [(fr, H)]) (setd o.dst v fr) H'
    | some (g, b) => match lookK g kn with
      | some (.b c) => bif c == b then wpOp D kn o.op fr H fun v H' => wpT D K os (kAft o.op o.dst fr.length kn) (acc ++ [(fr, H)]) (setd o.dst v fr) H'
        else bif okD o.dst fr.length then wpT D K os (offK o.dst kn) (acc ++ [(fr, H)]) (setd o.dst (.tup []) fr) H else False
      | some .off => bif okD o.dst fr.length then wpT D K os (offK o.dst kn) (acc ++ [(fr, H)]) (setd o.dst (.tup []) fr) H else False
      | none => dP (getF fr g) b
        (wpOp D ((g, .b b) :: kn) o.op (fr.set g (.bool b)) H fun v H' => wpT D K os (kAft o.op o.dst (fr.set g (.bool b)).length ((g, .b b) :: kn)) (acc ++ [(fr.set g (.bool b), H)]) (setd o.dst v (fr.set g (.bool b))) H')
        (bif okD o.dst fr.length then wpT D K os (offK o.dst ((g, .b (!b)) :: kn)) (acc ++ [(fr.set g (.bool (!b)), H)]) (setd o.dst (.tup []) (fr.set g (.bool (!b)))) H else False)

theorem wpT_ok {D : Den} {K : List (List AV × AH) → Prop} : ∀ (os : List IOper) {kn : List (Nat × Kn)} {acc : List (List AV × AH)} {fr : List AV} {H : AH}, KnOk kn fr → wpT D K os kn acc fr H → Wt D os (fun l => K (acc ++ l)) fr H := by
  intro os
  induction os with
  | nil => intro kn acc fr H _ h; exact wt_nil h
  | cons o os ih =>
    intro kn acc fr H hk h
    have app : ∀ {fr1 fr2 : List AV} {H1 H2 : AH}, Wt D os (fun l => K ((acc ++ [(fr1, H1)]) ++ l)) fr2 H2 → Wt D os (fun l => K (acc ++ ((fr1, H1) :: l))) fr2 H2 := by
      rintro fr1 fr2 H1 H2 ⟨l, h1, h2⟩
      exact ⟨l, h1, by simpa using h2⟩
    simp only [wpT, Bool.cond_eq_ite] at h
    split at h
    · rename_i ha
      obtain ⟨l, h1, h2⟩ := app (ih hk h)
      exact ⟨(fr, H) :: l, by simp only [trace, ha, if_true, h1, Option.map_some], h2⟩
    rename_i ha
    have ha : o.op.isAlloc = false := by simpa using ha
    have on : ∀ {kn : List (Nat × Kn)} {fr : List AV}, KnOk kn fr → want o.guard fr = some true → wpOp D kn o.op fr H (fun v H' => wpT D K os (kAft o.op o.dst fr.length kn) (acc ++ [(fr, H)]) (setd o.dst v fr) H') → Wt D (o :: os) (fun l => K (acc ++ l)) fr H := by
      intro kn fr hk hw h
      obtain ⟨v, H', h1, h2⟩ := wpOp_ok hk h
      exact wt_op ha hw h1 rfl (app (ih (hk.aft _ h1) h2))
    have off : ∀ {kn : List (Nat × Kn)} {fr : List AV}, KnOk kn fr → want o.guard fr = some false → (if okD o.dst fr.length = true then wpT D K os (offK o.dst kn) (acc ++ [(fr, H)]) (setd o.dst (.tup []) fr) H else False) → Wt D (o :: os) (fun l => K (acc ++ l)) fr H := by
      intro kn fr hk hw h
      split at h
      · rename_i hd
        exact wt_off ha hw rfl (app (ih (hk.offd _ hd) h))
      · exact h.elim
    split at h
    · rename_i e
      exact on hk (by rw [e]; rfl) h
    · rename_i g b e
      split at h
      · rename_i c e2
        have hg := hk _ (lookK_mem e2)
        simp only [knV] at hg
        have hw : want o.guard fr = some (c == b) := by rw [e]; simp [want, hg]
        cases hcb : (c == b) with
        | true => rw [hcb] at h hw; exact on hk hw (by simpa using h)
        | false => rw [hcb] at h hw; exact off hk hw (by simpa using h)
      · rename_i e2
        have hg := hk _ (lookK_mem e2)
        simp only [knV] at hg
        exact off hk (by rw [e]; simp [want, hg]) h
      · obtain ⟨t, ht, ha, hb⟩ := h
        have hg := getF_some ht (by intro e; cases e)
        have hs := set_same hg
        rcases (show t = b ∨ t = (!b) by cases t <;> cases b <;> simp) with rfl | rfl
        · have := ha rfl
          rw [hs] at this
          exact on (hk.cons hg) (by rw [e]; simp [want, hg]) this
        · have := hb rfl
          rw [hs] at this
          exact off (hk.cons hg) (by rw [e]; simp [want, hg]) this

end Go.SV

namespace Go.SV

/-! ### What code writes -/
def dstsO (ops : List IOper) : List Nat := ops.filterMap fun o => o.dst
def asgG : Gho → List Nat
  | .sealT t => [t]
  | .kill l => l
  | .sealC _ _ => []
def asg : IC → List Nat
  | .skip | .exit _ | .ret => []
  | .reg ops | .dreg ops _ => dstsO ops
  | .seq a b | .cond _ a b => asg a ++ asg b
  | .block _ c => asg c
  | .loop dead c => dead ++ asg c
  | .gh gs c => gs.flatMap asgG ++ asg c

/-- Frames that are the same but for some slots. -/
def Ag (l : List Nat) (fr fr' : List AV) : Prop := fr'.length = fr.length ∧ ∀ i, i ∉ l → fr'[i]? = fr[i]?

theorem Ag.refl (l : List Nat) (fr : List AV) : Ag l fr fr := ⟨rfl, fun _ _ => rfl⟩
theorem Ag.trans {l : List Nat} {a b c : List AV} (h : Ag l a b) (k : Ag l b c) : Ag l a c := ⟨k.1.trans h.1, fun i hi => (k.2 i hi).trans (h.2 i hi)⟩
theorem Ag.mono {l l' : List Nat} {a b : List AV} (h : Ag l a b) (hs : ∀ i ∈ l, i ∈ l') : Ag l' a b := ⟨h.1, fun i hi => h.2 i fun hm => hi (hs i hm)⟩
theorem Ag.set {l : List Nat} {t : Nat} (fr : List AV) (v : AV) (ht : t ∈ l) : Ag l fr (fr.set t v) :=
  ⟨by simp, fun i hi => List.getElem?_set_ne (by rintro rfl; exact hi ht)⟩
theorem Ag.setd {l : List Nat} {d : Option Nat} (fr : List AV) (v : AV) (ht : ∀ t, d = some t → t ∈ l) : Ag l fr (setd d v fr) := by
  cases d with
  | none => exact .refl _ _
  | some t => exact .set _ _ (ht t rfl)

theorem Ag.kill (ds : List Nat) : ∀ {l : List Nat} (fr : List AV), (∀ i ∈ ds, i ∈ l) → Ag l fr (kill ds fr) := by
  induction ds with
  | nil => intro l fr _; exact .refl _ _
  | cons d ds ih => intro l fr h; exact (Ag.set fr .undef (h d (by simp))).trans (ih _ fun i hi => h i (by simp [hi]))

theorem iops_ag {D : Den} : ∀ (ops : List IOper) {fr fr' : List AV} {H H' : AH}, iops D ops fr H = some (fr', H') → Ag (dstsO ops) fr fr' := by
  intro ops
  induction ops with
  | nil => intro fr fr' H H' h; simp only [iops, Option.some.injEq, Prod.mk.injEq] at h; obtain ⟨rfl, rfl⟩ := h; exact .refl _ _
  | cons o ops ih =>
    intro fr fr' H H' h
    have hd : ∀ v, Ag (dstsO (o :: ops)) fr (setd o.dst v fr) := fun v => .setd _ _ fun t ht => by simp [dstsO, ht]
    have hm : ∀ i ∈ dstsO ops, i ∈ dstsO (o :: ops) := fun i hi => by
      obtain ⟨x, hx, he⟩ := List.mem_filterMap.1 hi
      exact List.mem_filterMap.2 ⟨x, List.mem_cons_of_mem _ hx, he⟩
    simp only [iops] at h
    split at h
    · split at h
      · exact (hd _).trans ((ih h).mono hm)
      · simp at h
    · exact (hd _).trans ((ih h).mono hm)
    · simp at h

theorem hoist_ag : ∀ (ops : List IOper) (fr : List AV) (H : AH), Ag (dstsO ops) fr (hoist ops fr H).1 := by
  intro ops
  induction ops with
  | nil => intro fr H; exact .refl _ _
  | cons o ops ih =>
    intro fr H
    have hd : ∀ v, Ag (dstsO (o :: ops)) fr (setd o.dst v fr) := fun v => .setd _ _ fun t ht => by simp [dstsO, ht]
    have hm : ∀ i ∈ dstsO ops, i ∈ dstsO (o :: ops) := fun i hi => by
      obtain ⟨x, hx, he⟩ := List.mem_filterMap.1 hi
      exact List.mem_filterMap.2 ⟨x, List.mem_cons_of_mem _ hx, he⟩
    simp only [hoist]
    split
    · exact (hd _).trans ((ih _ _).mono hm)
    · exact (ih _ _).mono hm

theorem trace_ag {D : Den} : ∀ (ops : List IOper) {fr : List AV} {H : AH} {sts : List (List AV × AH)}, trace D ops fr H = some sts → sts.length = ops.length + 1 ∧ ∀ s ∈ sts, Ag (dstsO ops) fr s.1 := by
  intro ops
  induction ops with
  | nil =>
    intro fr H sts h
    simp only [trace, Option.some.injEq] at h; subst h
    exact ⟨rfl, fun s hs => by simp only [List.mem_singleton] at hs; subst hs; exact .refl _ _⟩
  | cons o ops ih =>
    intro fr H sts h
    have hd : ∀ v, Ag (dstsO (o :: ops)) fr (setd o.dst v fr) := fun v => .setd _ _ fun t ht => by simp [dstsO, ht]
    have hm : ∀ i ∈ dstsO ops, i ∈ dstsO (o :: ops) := fun i hi => by
      obtain ⟨x, hx, he⟩ := List.mem_filterMap.1 hi
      exact List.mem_filterMap.2 ⟨x, List.mem_cons_of_mem _ hx, he⟩
    have fin : ∀ {fr1 : List AV} {H1 : AH} {sts : List (List AV × AH)}, Ag (dstsO (o :: ops)) fr fr1 → (trace D ops fr1 H1).map ((fr, H) :: ·) = some sts → sts.length = (o :: ops).length + 1 ∧ ∀ s ∈ sts, Ag (dstsO (o :: ops)) fr s.1 := by
      intro fr1 H1 sts ha h
      simp only [Option.map_eq_some_iff] at h
      obtain ⟨l, hl, rfl⟩ := h
      obtain ⟨h1, h2⟩ := ih hl
      refine ⟨by simp [h1], fun s hs => ?_⟩
      simp only [List.mem_cons] at hs
      rcases hs with rfl | hs
      · exact .refl _ _
      · exact ha.trans ((h2 s hs).mono hm)
    simp only [trace] at h
    split at h
    · exact fin (.refl _ _) h
    · split at h
      · split at h
        · exact fin (hd _) h
        · simp at h
      · exact fin (hd _) h
      · simp at h

theorem dreg_ag {D : Den} {ops : List IOper} {bef : List (List Nat)} {fr fr' : List AV} {H H' : AH} (h : dreg D ops bef fr H = some (fr', H')) : Ag (dstsO ops) fr fr' := by
  simp only [dreg] at h
  split at h
  · rename_i sts hs
    split at h
    · simp only [Option.some.injEq, Prod.mk.injEq] at h
      obtain ⟨rfl, rfl⟩ := h
      obtain ⟨h1, h2⟩ := trace_ag ops hs
      have hl : ops.length < sts.length := by omega
      have : stF sts ops.length = (sts[ops.length]).1 := by simp [stF, List.getElem?_eq_getElem hl]
      rw [this]
      exact (hoist_ag ops fr H).trans (h2 _ (List.getElem_mem hl))
    · simp at h
  · simp at h

theorem ghosts_ag : ∀ (gs : List Gho) {fr fr' : List AV} {H H' : AH}, ghosts gs fr H = some (fr', H') → Ag (gs.flatMap asgG) fr fr' := by
  intro gs
  induction gs with
  | nil => intro fr fr' H H' h; simp only [ghosts, Option.some.injEq, Prod.mk.injEq] at h; obtain ⟨rfl, rfl⟩ := h; exact .refl _ _
  | cons g gs ih =>
    intro fr fr' H H' h
    simp only [ghosts] at h
    split at h
    · rename_i f1 H1 h1
      have h2 := (ih h).mono (l' := (g :: gs).flatMap asgG) fun i hi => by simp only [List.flatMap_cons, List.mem_append]; exact .inr hi
      refine Ag.trans ?_ h2
      cases g with
      | sealC t off =>
        simp only [ghost] at h1
        split at h1
        · simp only [Option.map_eq_some_iff, Prod.mk.injEq] at h1
          obtain ⟨_, _, rfl, _⟩ := h1
          exact .refl _ _
        · simp at h1
      | kill l =>
        simp only [ghost, Option.some.injEq, Prod.mk.injEq] at h1
        obtain ⟨rfl, rfl⟩ := h1
        exact .kill _ _ fun i hi => by simp only [List.flatMap_cons, List.mem_append, asgG]; exact .inl hi
      | sealT t =>
        have ht : ∀ v, Ag ((Gho.sealT t :: gs).flatMap asgG) fr (fr.set t v) := fun v => .set _ _ (by simp [asgG])
        simp only [ghost] at h1
        split at h1
        · split at h1
          · split at h1
            · simp only [Option.some.injEq, Prod.mk.injEq] at h1; obtain ⟨rfl, rfl⟩ := h1; exact ht _
            · simp at h1
          · simp at h1
        · simp only [Option.some.injEq, Prod.mk.injEq] at h1; obtain ⟨rfl, rfl⟩ := h1; exact .refl _ _
        · simp only [Option.some.injEq, Prod.mk.injEq] at h1; obtain ⟨rfl, rfl⟩ := h1; exact .refl _ _
        · simp at h1
    · simp at h

theorem iexec_ag {D : Den} : ∀ (c : IC) {fr fr' : List AV} {H H' : AH} {e : Ex}, iexec D c fr H = some (e, fr', H') → Ag (asg c) fr fr' := by
  intro c
  induction c with
  | skip => intro fr fr' H H' e h; simp only [iexec, Option.some.injEq, Prod.mk.injEq] at h; obtain ⟨rfl, rfl, rfl⟩ := h; exact .refl _ _
  | exit i => intro fr fr' H H' e h; simp only [iexec, Option.some.injEq, Prod.mk.injEq] at h; obtain ⟨rfl, rfl, rfl⟩ := h; exact .refl _ _
  | ret => intro fr fr' H H' e h; simp only [iexec, Option.some.injEq, Prod.mk.injEq] at h; obtain ⟨rfl, rfl, rfl⟩ := h; exact .refl _ _
  | reg ops =>
    intro fr fr' H H' e h
    simp only [iexec, Option.map_eq_some_iff, Prod.mk.injEq] at h
    obtain ⟨⟨f1, H1⟩, h1, rfl, rfl, rfl⟩ := h
    exact iops_ag ops h1
  | dreg ops bef =>
    intro fr fr' H H' e h
    simp only [iexec, Option.map_eq_some_iff, Prod.mk.injEq] at h
    obtain ⟨⟨f1, H1⟩, h1, rfl, rfl, rfl⟩ := h
    exact dreg_ag h1
  | seq a b iha ihb =>
    intro fr fr' H H' e h
    simp only [iexec] at h
    split at h
    · rename_i f1 H1 h1
      exact ((iha h1).mono fun i hi => by simp [asg, hi]).trans ((ihb h).mono fun i hi => by simp [asg, hi])
    · exact (iha h).mono fun i hi => by simp [asg, hi]
  | cond o a b iha ihb =>
    intro fr fr' H H' e h
    simp only [iexec] at h
    split at h
    · exact (iha h).mono fun i hi => by simp [asg, hi]
    · exact (ihb h).mono fun i hi => by simp [asg, hi]
    · simp at h
  | block id c ih =>
    intro fr fr' H H' e h
    simp only [iexec] at h
    split at h
    · rename_i i f1 H1 h1
      split at h
      · simp only [Option.some.injEq, Prod.mk.injEq] at h; obtain ⟨rfl, rfl, rfl⟩ := h; exact ih h1
      · simp only [Option.some.injEq, Prod.mk.injEq] at h; obtain ⟨rfl, rfl, rfl⟩ := h; exact ih h1
    · exact ih h
  | loop dead c ih =>
    intro fr fr' H H' e h
    simp only [iexec] at h
    obtain ⟨n, hn⟩ := iterω_iff.1 h
    clear h
    induction n generalizing fr H with
    | zero => simp [iter] at hn
    | succ n ihn =>
      have hk : Ag (asg (.loop dead c)) fr (kill dead fr) := .kill _ _ fun i hi => by simp [asg, hi]
      rw [iter] at hn
      split at hn
      · rename_i f1 H1 h1
        exact hk.trans (((ih h1).mono fun i hi => by simp [asg, hi]).trans (ihn hn))
      · exact hk.trans ((ih hn).mono fun i hi => by simp [asg, hi])
  | gh gs c ih =>
    intro fr fr' H H' e h
    simp only [iexec] at h
    split at h
    · rename_i f1 H1 h1
      exact ((ghosts_ag gs h1).mono fun i hi => by simp only [asg, List.mem_append]; exact .inl hi).trans ((ih h).mono fun i hi => by simp only [asg, List.mem_append]; exact .inr hi)
    · simp at h

/-! ### Slots that change, as values -/
def dd : List Nat → List Nat
  | [] => []
  | x :: l => bif l.elem x then dd l else x :: dd l
def slots (l dead : List Nat) : List Nat := (dd l).filter fun x => !dead.elem x

theorem mem_dd {x : Nat} : ∀ {l : List Nat}, x ∈ dd l ↔ x ∈ l := by
  intro l
  induction l with
  | nil => simp [dd]
  | cons y l ih =>
    simp only [dd, Bool.cond_eq_ite, List.elem_eq_mem, decide_eq_true_eq]
    split
    · rename_i h
      rw [ih, List.mem_cons]
      constructor
      · exact .inr
      · rintro (rfl | h2)
        · exact h
        · exact h2
    · simp [ih]

theorem nodup_dd : ∀ (l : List Nat), (dd l).Nodup := by
  intro l
  induction l with
  | nil => simp [dd]
  | cons y l ih =>
    simp only [dd, Bool.cond_eq_ite, List.elem_eq_mem, decide_eq_true_eq]
    split
    · exact ih
    · rename_i h; exact List.nodup_cons.2 ⟨fun hm => h (mem_dd.1 hm), ih⟩

theorem mem_slots {x : Nat} {l dead : List Nat} : x ∈ slots l dead ↔ x ∈ l ∧ x ∉ dead := by
  simp only [slots, List.mem_filter, mem_dd, List.elem_eq_mem, Bool.not_eq_true', decide_eq_false_iff_not]

def upds : List Nat → List AV → List AV → List AV
  | s :: ss, x :: xs, fr => upds ss xs (fr.set s x)
  | _, _, fr => fr

theorem upds_get : ∀ (ss : List Nat) (g : Nat → AV) (fr : List AV) (i : Nat), ss.Nodup →
    (upds ss (ss.map g) fr)[i]? = if i ∈ ss then (fr[i]?).map (fun _ => g i) else fr[i]? := by
  intro ss
  induction ss with
  | nil => intro g fr i _; simp [upds]
  | cons s ss ih =>
    intro g fr i hn
    rw [List.nodup_cons] at hn
    simp only [List.map_cons, upds]
    rw [ih g _ i hn.2]
    by_cases his : i = s
    · subst his
      rw [if_neg hn.1, if_pos (by simp)]
      rcases Nat.lt_or_ge i fr.length with h | h
      · rw [List.getElem?_set_self h, List.getElem?_eq_getElem h]; rfl
      · rw [List.getElem?_eq_none (by simpa using h), List.getElem?_eq_none h]; rfl
    · have hs : (fr.set s (g s))[i]? = fr[i]? := List.getElem?_set_ne (fun e => his e.symm)
      rw [hs]
      by_cases h : i ∈ ss
      · rw [if_pos h, if_pos (by simp [h])]
      · rw [if_neg h, if_neg (by simp [his, h])]

theorem kill_get (l : List Nat) : ∀ (fr : List AV) (i : Nat), (kill l fr)[i]? = if i ∈ l then (fr[i]?).map (fun _ => AV.undef) else fr[i]? := by
  induction l with
  | nil => intro fr i; simp [kill]
  | cons d l ih =>
    intro fr i
    have : kill (d :: l) fr = kill l (fr.set d .undef) := rfl
    rw [this, ih]
    by_cases hd : i = d
    · subst hd
      rcases Nat.lt_or_ge i fr.length with h | h
      · rw [List.getElem?_set_self h, List.getElem?_eq_getElem h]; simp
      · rw [List.getElem?_eq_none (by simpa using h), List.getElem?_eq_none h]; simp
    · rw [List.getElem?_set_ne (fun e => hd e.symm)]
      by_cases h : i ∈ l <;> simp [h, hd]

theorem kill_kill (l : List Nat) (fr : List AV) : kill l (kill l fr) = kill l fr := by
  refine List.ext_getElem? fun i => ?_
  simp only [kill_get]
  by_cases h : i ∈ l
  · simp only [if_pos h]; cases fr[i]? <;> rfl
  · simp only [if_neg h]

/-- After what writes some slots: the frame again, by its values there. -/
theorem kill_upds {az dead : List Nat} {fr0 fr fr' : List AV} (h0 : fr0 = kill dead fr) (h : Ag az fr0 fr' ∨ Ag az fr fr') : kill dead fr' = upds (slots az dead) ((slots az dead).map (getF fr')) (kill dead fr) := by
  have hlen : fr'.length = fr.length := by
    rcases h with h | h
    · rw [h.1, h0]; exact (Ag.kill dead (l := dead) fr fun _ h => h).1
    · exact h.1
  have hnd : (slots az dead).Nodup := (nodup_dd az).filter _
  refine List.ext_getElem? fun i => ?_
  rw [upds_get _ _ _ _ hnd, kill_get, kill_get]
  by_cases hd : i ∈ dead
  · rw [if_pos hd, if_pos hd, if_neg (fun hm => (mem_slots.1 hm).2 hd)]
    rcases Nat.lt_or_ge i fr.length with hl | hl
    · rw [List.getElem?_eq_getElem (by omega), List.getElem?_eq_getElem hl]; rfl
    · rw [List.getElem?_eq_none (by omega), List.getElem?_eq_none hl]
  · rw [if_neg hd, if_neg hd]
    by_cases ha : i ∈ az
    · rw [if_pos (mem_slots.2 ⟨ha, hd⟩)]
      rcases Nat.lt_or_ge i fr.length with hl | hl
      · rw [List.getElem?_eq_getElem (by omega), List.getElem?_eq_getElem hl]
        simp [getF, List.getElem?_eq_getElem (show i < fr'.length by omega)]
      · rw [List.getElem?_eq_none (by omega), List.getElem?_eq_none hl]; rfl
    · rw [if_neg (fun hm => ha (mem_slots.1 hm).1)]
      rcases h with h | h
      · rw [h.2 i ha, h0, kill_get, if_neg hd]
      · exact h.2 i ha

/-! ### The formula -/
def deadOf : IC → Option (List Nat)
  | .gh (.kill dead :: _) _ => some dead
  | _ => none

def sealV (v : AV) (H : AH) : Option (AV × AH) := match v with
  | .slr b o n s => match elems s (.slr b o n s) H with
    | some ys => if 0 < s ∧ elemsOk s ys then some (.sl 0 s ys, ⟨H.obs.set b .dead, H.toks⟩) else none
    | none => none
  | .nils => some (v, H)
  | .sl _ _ _ => some (v, H)
  | _ => none

def sealAt (v : AV) (off : Nat) (H : AH) : Option AH := match v with
  | .ptr b o => sealCell b (o + off) H
  | _ => none

def wpG (k : Kont) : List Gho → List AV → AH → Prop
  | [], fr, H => k fr H
  | .kill l :: gs, fr, H => wpG k gs (kill l fr) H
  | .sealT t :: gs, fr, H => sP (sealV (getF fr t) H) fun v H' => wpG k gs (fr.set t v) H'
  | .sealC t off :: gs, fr, H => hP (sealAt (getF fr t) off H) fun H' => wpG k gs fr H'

def hoistP (k : Kont) : List IOper → List AV → AH → Prop
  | [], fr, H => k fr H
  | o :: os, fr, H => match o.op with
    | .alloc z => aP z H fun v H' => hoistP k os (setd o.dst v fr) H'
    | _ => hoistP k os fr H

def rdO (ios : List IOper) (sts : List (List AV × AH)) (j : Nat) : IOp := match ios[j]? with
  | some o => o.op.sb (stF sts j)
  | none => .mkMap
def chkR (ios : List IOper) (sts : List (List AV × AH)) : List (Nat × Nat) → Prop → Prop
  | [], r => r
  | p :: l, r => sameR (rdO ios sts p.2) (stH sts (p.1 + 1)) (stH sts p.1) ∧ chkR ios sts l r
def alV (ios : List IOper) (sts : List (List AV × AH)) (j : Nat) : AV := match ios[j]? with
  | some o => match o.dst with
    | some d => getF (stF sts 0) d
    | none => .undef
  | none => .undef
def alZ (ios : List IOper) (j : Nat) : List AV := match ios[j]? with
  | some o => match o.op with
    | .alloc z => z
    | _ => []
  | none => []
def chkA (ios : List IOper) (sts : List (List AV × AH)) : List (Nat × Nat) → Prop → Prop
  | [], r => r
  | p :: l, r => keptP (alV ios sts p.2) (alZ ios p.2) (stH sts (p.1 + 1)) ∧ chkA ios sts l r

def wp (D : Den) : IC → Kont → Kont → (Nat → Kont) → List AV → AH → Prop
  | .skip, N, _, _, fr, H => N fr H
  | .reg ops, N, _, _, fr, H => wpO D N ops [] fr H
  | .dreg ops bef, N, _, _, fr, H =>
    bif (dstsA ops).all fun d => Nat.blt d fr.length then
      hoistP (fun f0 H0 => wpT D (fun sts => chkR ops sts (loose ops bef) (chkA ops sts (looseA ops bef) (N (stF sts ops.length) (stH sts ops.length)))) ops [] [] f0 H0) ops fr H
    else False
  | .seq a b, N, R, X, fr, H => match deadOf b with
    | some dead => jP (slots (asg a) dead).length (lam _ fun xs H => wp D b N R X (upds (slots (asg a) dead) xs (kill dead fr)) H)
        (fun j => wp D a (fun fr' H' => appC _ j ((slots (asg a) dead).map (getF fr')) H') R X fr H)
    | none => wp D a (fun fr' H' => wp D b N R X fr' H') R X fr H
  | .cond c a b, N, R, X, fr, H => iP (c.ev fr) (wp D a N R X fr H) (wp D b N R X fr H)
  | .block id c, N, R, X, fr, H => wp D c N R (fun i fr H => bif i == id then N fr H else X i fr H) fr H
  | .loop dead c, _, R, X, fr, H => lP (slots (asg c) dead).length
      (fun self => lam _ fun xs H => wp D c (fun fr' H' => appC _ self ((slots (asg c) dead).map (getF fr')) H') R X (upds (slots (asg c) dead) xs (kill dead fr)) H)
      ((slots (asg c) dead).map (getF fr)) H
  | .exit i, _, _, X, fr, H => X i fr H
  | .ret, _, R, _, fr, H => R fr H
  | .gh gs c, N, R, X, fr, H => wpG (fun fr' H' => wp D c N R X fr' H') gs fr H

theorem wpG_ok {k : Kont} : ∀ (gs : List Gho) {fr : List AV} {H : AH}, wpG k gs fr H → ∃ fr' H', ghosts gs fr H = some (fr', H') ∧ k fr' H' := by
  intro gs
  induction gs with
  | nil => intro fr H h; exact ⟨fr, H, rfl, h⟩
  | cons g gs ih =>
    intro fr H h
    cases g with
    | sealC t off =>
      obtain ⟨H1, h1, h2⟩ := h
      obtain ⟨f, H', h3, h4⟩ := ih h2
      refine ⟨f, H', ?_, h4⟩
      unfold sealAt at h1
      split at h1
      · rename_i b o e
        have := getF_some e (by intro e; cases e)
        simp only [ghosts, ghost, this, h1, Option.map_some]
        exact h3
      · simp at h1
    | kill l =>
      obtain ⟨f, H', h1, h2⟩ := ih h
      exact ⟨f, H', by simp only [ghosts, ghost]; exact h1, h2⟩
    | sealT t =>
      obtain ⟨v, H1, h1, h2⟩ := h
      obtain ⟨f, H', h3, h4⟩ := ih h2
      refine ⟨f, H', ?_, h4⟩
      have hg : ∀ {x : AV}, getF fr t = x → x ≠ .undef → fr[t]? = some x := fun h hv => getF_some h hv
      have e : ghost (.sealT t) fr H = some (fr.set t v, H1) := by
        unfold sealV at h1
        split at h1
        · rename_i b o n s e
          have := hg e (by intro e; cases e)
          simp only [ghost, this]
          split at h1
          · split at h1
            · rename_i ys hys hc
              simp only [Option.some.injEq, Prod.mk.injEq] at h1
              obtain ⟨rfl, rfl⟩ := h1
              rw [hys]
              simp only [if_pos hc]
            · simp at h1
          · simp at h1
        · rename_i e
          have := hg e (by intro e; cases e)
          simp only [Option.some.injEq, Prod.mk.injEq] at h1
          obtain ⟨rfl, rfl⟩ := h1
          simp only [ghost, this]
          rw [e, set_same this]
        · rename_i e
          have := hg e (by intro e; cases e)
          simp only [Option.some.injEq, Prod.mk.injEq] at h1
          obtain ⟨rfl, rfl⟩ := h1
          simp only [ghost, this]
          rw [e, set_same this]
        · simp at h1
      simp only [ghosts, e]
      exact h3

theorem hoistP_ok {k : Kont} : ∀ (os : List IOper) {fr : List AV} {H : AH}, hoistP k os fr H → k (hoist os fr H).1 (hoist os fr H).2 := by
  intro os
  induction os with
  | nil => intro fr H h; exact h
  | cons o os ih =>
    intro fr H h
    simp only [hoistP] at h
    simp only [hoist]
    split at h
    · rename_i z e
      rw [e]
      exact ih h.run
    · rename_i hne
      split
      · rename_i z e; exact absurd e (hne z)
      · exact ih h

theorem chkR_ok {ios : List IOper} {sts : List (List AV × AH)} : ∀ {l : List (Nat × Nat)} {r : Prop}, chkR ios sts l r → (∀ p ∈ l, rdSame ios sts p) ∧ r := by
  intro l
  induction l with
  | nil => intro r h; exact ⟨fun p hp => by simp at hp, h⟩
  | cons p l ih =>
    intro r h
    obtain ⟨h1, h2⟩ := ih h.2
    refine ⟨fun q hq => ?_, h2⟩
    simp only [List.mem_cons] at hq
    rcases hq with rfl | hq
    · intro o ho
      have := h.1
      simp only [rdO, ho, sameR, aop_sb] at this
      exact this
    · exact h1 q hq

theorem chkA_ok {ios : List IOper} {sts : List (List AV × AH)} : ∀ {l : List (Nat × Nat)} {r : Prop}, chkA ios sts l r → (∀ p ∈ l, ∀ z b, alAt ios sts p.2 = some (z, b) → (stH sts (p.1 + 1)).get b = .cells z) ∧ r := by
  intro l
  induction l with
  | nil => intro r h; exact ⟨fun p hp => by simp at hp, h⟩
  | cons p l ih =>
    intro r h
    obtain ⟨h1, h2⟩ := ih h.2
    refine ⟨fun q hq => ?_, h2⟩
    simp only [List.mem_cons] at hq
    rcases hq with rfl | hq
    · intro z b hb
      simp only [alAt, Option.bind_eq_some_iff] at hb
      obtain ⟨o, ho, hb⟩ := hb
      split at hb
      · rename_i z' d e1 e2
        split at hb
        · rename_i b' e3
          simp only [Option.some.injEq, Prod.mk.injEq] at hb
          obtain ⟨rfl, rfl⟩ := hb
          have := h.1
          simp only [alV, alZ, ho, e1, e2] at this
          exact this b' (by simp [getF, e3])
        · simp at hb
      · simp at hb
    · exact h1 q hq

theorem Wc.ag {D : Den} {c : IC} {N R : Kont} {X : Nat → Kont} {fr : List AV} {H : AH} (h : Wc D c N R X fr H) : Wc D c (fun fr' H' => Ag (asg c) fr fr' ∧ N fr' H') R X fr H := by
  obtain ⟨e, fr', H', h1, h2⟩ := h
  refine ⟨e, fr', H', h1, ?_⟩
  have := iexec_ag c h1
  cases e with
  | normal => exact ⟨this, h2⟩
  | ret => exact h2
  | exit i => exact h2

theorem Wc.mono {D : Den} {c : IC} {N N' R : Kont} {X X' : Nat → Kont} {fr : List AV} {H : AH} (h : Wc D c N R X fr H) (hN : ∀ fr H, N fr H → N' fr H) (hX : ∀ i fr H, X i fr H → X' i fr H) : Wc D c N' R X' fr H := by
  obtain ⟨e, fr', H', h1, h2⟩ := h
  refine ⟨e, fr', H', h1, ?_⟩
  cases e with
  | normal => exact hN _ _ h2
  | ret => exact h2
  | exit i => exact hX _ _ _ h2

theorem deadOf_exec {D : Den} {b : IC} {dead : List Nat} (h : deadOf b = some dead) (fr : List AV) (H : AH) : iexec D b (kill dead fr) H = iexec D b fr H := by
  unfold deadOf at h
  split at h
  · simp only [Option.some.injEq] at h
    subst h
    simp only [iexec, ghosts, ghost, kill_kill]
  · simp at h

theorem wp_ok {D : Den} : ∀ (c : IC) {N R : Kont} {X : Nat → Kont} {fr : List AV} {H : AH}, wp D c N R X fr H → Wc D c N R X fr H := by
  intro c
  induction c with
  | skip => intro N R X fr H h; exact wc_skip h
  | exit i => intro N R X fr H h; exact wc_exit h
  | ret => intro N R X fr H h; exact wc_ret h
  | reg ops =>
    intro N R X fr H h
    exact wc_reg (wpO_ok ops (by intro p hp; simp at hp) h)
  | dreg ops bef =>
    intro N R X fr H h
    simp only [wp, Bool.cond_eq_ite] at h
    split at h
    · rename_i hd
      have hd' : ∀ d ∈ dstsA ops, d < fr.length := by
        intro d hm
        have := List.all_eq_true.1 hd d hm
        simpa [Nat.blt_eq] using this
      have h1 := hoistP_ok ops h
      have h2 := wpT_ok ops (by intro p hp; simp at hp) h1
      refine wc_dreg' rfl rfl hd' (f0 := (hoist ops fr H).1) (H0 := (hoist ops fr H).2) rfl ?_
      obtain ⟨sts, h3, h4⟩ := h2
      refine ⟨sts, h3, ?_⟩
      rw [List.nil_append] at h4
      obtain ⟨a1, a2⟩ := chkR_ok h4
      obtain ⟨b1, b2⟩ := chkA_ok a2
      exact ⟨a1, b1, b2⟩
    · exact h.elim
  | seq a b iha ihb =>
    intro N R X fr H h
    simp only [wp] at h
    split at h
    · rename_i dead hd
      refine wc_seq ((iha h.run).ag.mono ?_ fun _ _ _ h => h)
      rintro fr' H' ⟨hag, hj⟩
      rw [appC_lam _ _ _ _ (by simp)] at hj
      rw [← kill_upds rfl (.inr hag)] at hj
      obtain ⟨e, f, H2, h1, h2⟩ := ihb hj
      exact ⟨e, f, H2, by rw [← deadOf_exec hd]; exact h1, h2⟩
    · exact wc_seq ((iha h).mono (fun fr' H' h => ihb h) fun _ _ _ h => h)
  | cond o a b iha ihb =>
    intro N R X fr H h
    obtain ⟨t, ht, h1, h2⟩ := h
    exact wc_cond ht (fun e => iha (h1 e)) fun e => ihb (h2 e)
  | block id c ih =>
    intro N R X fr H h
    refine wc_block ((ih h).mono (fun _ _ h => h) fun i fr H h => ?_)
    simp only [Bool.cond_eq_ite, beq_iff_eq] at h
    exact h
  | loop dead c ih =>
    intro N R X fr H h
    obtain ⟨I, k0, h0, hs⟩ := h
    refine wc_loop (fun m fr1 H1 => ∃ xs : List AV, xs.length = (slots (asg c) dead).length ∧ fr1 = upds (slots (asg c) dead) xs (kill dead fr) ∧ appC _ (I m) xs H1) k0 ?_ ?_
    · refine ⟨_, by simp, ?_, h0⟩
      exact kill_upds (az := asg c) rfl (.inr (.refl _ _))
    · rintro n fr1 H1 ⟨xs, hx, hf, hi⟩
      subst hf
      have h1 := (hs n).app hi
      rw [appC_lam _ _ _ _ hx] at h1
      refine (ih h1).ag.mono ?_ fun _ _ _ h => h
      rintro fr' H' ⟨hag, hj⟩
      rw [lessC, appC_lam _ _ _ _ (by simp)] at hj
      obtain ⟨m, hm, hj⟩ := hj
      refine ⟨m, hm, _, by simp, ?_, hj⟩
      refine kill_upds (az := asg c) (fr0 := kill dead fr) rfl (.inl ?_)
      refine Ag.trans ?_ hag
      clear hj h1 hi hag
      have : ∀ (ss : List Nat) (xs : List AV) (f : List AV), (∀ i ∈ ss, i ∈ asg c) → Ag (asg c) f (upds ss xs f) := by
        intro ss
        induction ss with
        | nil => intro xs f _; simp only [upds]; exact .refl _ _
        | cons s ss ih2 =>
          intro xs f hs
          cases xs with
          | nil => exact .refl _ _
          | cons x xs => exact (Ag.set f x (hs s (by simp))).trans (ih2 xs _ fun i hi => hs i (by simp [hi]))
      exact this _ _ _ fun i hi => (mem_slots.1 hi).1
  | gh gs c ih =>
    intro N R X fr H h
    obtain ⟨fr', H', h1, h2⟩ := wpG_ok gs h
    exact wc_gh h1 (ih h2)

/-! ### Functions -/
def tup1 : List AV → AV
  | [v] => v
  | vs => .tup vs

def resP (fr : List AV) (Q : AV → AH → Prop) (H : AH) : List IRes → List AV → Prop
  | [], acc => Q (tup1 acc) H
  | .tmp t :: rs, acc => bif Nat.blt t fr.length then resP fr Q H rs (acc ++ [getF fr t]) else False
  | .cell t n :: rs, acc => gP (aLoad n (getF fr t) H) fun v => resP fr Q H rs (acc ++ [v])

theorem resP_ok {fr : List AV} {Q : AV → AH → Prop} {H : AH} : ∀ (rs : List IRes) {acc : List AV}, resP fr Q H rs acc → ∃ vs, resVs fr H rs = some vs ∧ Q (tup1 (acc ++ vs)) H := by
  intro rs
  induction rs with
  | nil => intro acc h; exact ⟨[], rfl, by rw [List.append_nil]; exact h⟩
  | cons r rs ih =>
    intro acc h
    cases r with
    | tmp t =>
      simp only [resP, Bool.cond_eq_ite] at h
      split at h
      · rename_i ht
        have ht' : t < fr.length := by simpa [Nat.blt_eq] using ht
        obtain ⟨vs, h1, h2⟩ := ih h
        refine ⟨getF fr t :: vs, ?_, by simpa using h2⟩
        simp only [resVs, resV1, getF, List.getElem?_eq_getElem ht', Option.bind_some, h1, Option.map_some, Option.getD_some]
      · exact h.elim
    | cell t n =>
      obtain ⟨v, hv, h⟩ := h
      obtain ⟨vs, h1, h2⟩ := ih h
      refine ⟨v :: vs, ?_, by simpa using h2⟩
      simp only [getF] at hv
      simp only [resVs, resV1, hv, Option.bind_some, h1, Option.map_some]

def wpF (D : Den) (f : IF) (args : List AV) (H : AH) (Q : AV → AH → Prop) : Prop :=
  wp D f.body (fun fr H => resP fr Q H f.res []) (fun fr H => resP fr Q H f.res []) (fun _ _ _ => False) (args ++ List.replicate (f.nt - args.length) .undef) H

theorem wpF_ok {T : Nat → Option Entry} {k : Nat} {f : IF} (hT : T k = some (.ir f)) {args : List AV} {H : AH} {Q : AV → AH → Prop} (h : wpF (Den.of T) f args H Q) :
    ∃ v H', Den.of T k args H = some (v, H') ∧ Q v H' := by
  refine fun_ir hT fun R hR => ?_
  have hr : ∀ fr H, resP fr Q H f.res [] → R fr H := by
    intro fr H h
    obtain ⟨vs, h1, h2⟩ := resP_ok _ h
    refine hR fr H (tup1 vs) ?_ h2
    simp only [resV, h1]
    rcases vs with _ | ⟨v, _ | ⟨u, vs⟩⟩ <;> rfl
  obtain ⟨e, fr', H', h1, h2⟩ := wp_ok _ h
  refine ⟨e, fr', H', h1, ?_⟩
  cases e with
  | normal => exact hr _ _ h2
  | ret => exact hr _ _ h2
  | exit i => exact h2

end Go.SV
