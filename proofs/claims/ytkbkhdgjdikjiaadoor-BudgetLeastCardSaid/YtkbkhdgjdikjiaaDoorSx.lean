/- Code of the abstract machine as a formula over its values: what must hold for the code to end with what is asked. Own text of the prover; nothing is assumed. -/
import Derived.Test.YtkbkhdgjdikjiaaDoorSw
namespace Go.SV

/-! ### Functions of as many values -/
def Cur : Nat → Type
  | 0 => AH → Prop
  | n + 1 => AV → Cur n

def lam : (n : Nat) → (List AV → AH → Prop) → Cur n
  | 0, f => f []
  | n + 1, f => fun a => lam n fun l => f (a :: l)

def appC : (n : Nat) → Cur n → List AV → AH → Prop
  | 0, f, _ => f
  | n + 1, f, a :: l => appC n (f a) l
  | _ + 1, _, [] => fun _ => False

theorem appC_lam : ∀ (n : Nat) (f : List AV → AH → Prop) (xs : List AV) (H : AH), xs.length = n → appC n (lam n f) xs H = f xs H := by
  intro n
  induction n with
  | zero => intro f xs H h; cases xs with
    | nil => rfl
    | cons => simp at h
  | succ n ih => intro f xs H h; cases xs with
    | nil => simp at h
    | cons x xs => exact ih _ xs H (by simpa using h)

def ImpC : (n : Nat) → Cur n → Cur n → Prop
  | 0, P, Q => ∀ H, P H → Q H
  | n + 1, P, Q => ∀ x, ImpC n (P x) (Q x)

theorem ImpC.app : ∀ {n : Nat} {P Q : Cur n}, ImpC n P Q → ∀ {xs : List AV} {H : AH}, appC n P xs H → appC n Q xs H := by
  intro n
  induction n with
  | zero => intro P Q h xs H hp; exact h H hp
  | succ n ih => intro P Q h xs H hp; cases xs with
    | nil => exact hp.elim
    | cons x xs => exact ih (h x) hp

/-- Later in the order of rounds. -/
def lessC (n : Nat) (I : Nat → Cur n) (k : Nat) : Cur n := lam n fun xs H => ∃ m, m < k ∧ appC n (I m) xs H

structure jP (n : Nat) (f : Cur n) (g : Cur n → Prop) : Prop where
  run : g f
def lP (n : Nat) (F : Cur n → Cur n) (init : List AV) (H : AH) : Prop := ∃ (I : Nat → Cur n) (k0 : Nat), appC n (I k0) init H ∧ ∀ k, ImpC n (I k) (F (lessC n I k))

/-! ### Heads of formulas -/
def gP (m : Option AV) (k : AV → Prop) : Prop := ∃ v, m = some v ∧ k v
def hP (m : Option AH) (k : AH → Prop) : Prop := ∃ v, m = some v ∧ k v
def sP (m : Option (AV × AH)) (k : AV → AH → Prop) : Prop := ∃ v H, m = some (v, H) ∧ k v H
structure aP (z : List AV) (H : AH) (k : AV → AH → Prop) : Prop where
  run : k (.ptr H.obs.length 0) (H.push (.cells z))
def iP (v : AV) (A B : Prop) : Prop := ∃ t, v = .bool t ∧ (t = true → A) ∧ (t = false → B)
def dP (v : AV) (b : Bool) (A B : Prop) : Prop := ∃ t, v = .bool t ∧ (t = b → A) ∧ (t = (!b) → B)
def pP (c x y : AV) (k : AV → Prop) : Prop := ∃ t, c = .bool t ∧ k (if t = true then x else y)
def cP (D : Den) (key : Nat) (args : List AV) (H : AH) (k : AV → AH → Prop) : Prop := ∃ v H', D key args H = some (v, H') ∧ k v H'
def vP (D : Den) (ver : Nat) (f : AV) (args : List AV) (H : AH) (k : AV → AH → Prop) : Prop :=
  ∃ kk first cap, f = .fn (.func kk) first cap ∧ kk < 100000 ∧ cP D (kk + ver * 100000) (first ++ args ++ cap) H k
def keptP (v : AV) (z : List AV) (H : AH) : Prop := ∀ b, v = .ptr b 0 → H.get b = .cells z

def aNot : AV → Option AV
  | .bool b => some (.bool (!b))
  | _ => none
def aSlcS (x : AV) (lo hi : Option AV) : Option AV := match x with
  | .str l => aSlice 0 (.str l) lo hi
  | _ => none
def aSlc (s : Nat) (x : AV) (lo hi : Option AV) : Option AV := match x with
  | .str _ => none
  | x => aSlice s x lo hi
def aIdxStr (x i : AV) : Option AV := match x, i with
  | .str l, .int _ n => if 0 ≤ n then (l[n.toNat]?).map fun b => .int .u8 b.toNat else none
  | _, _ => none
def aField (off : Nat) (n : Option Nat) (x : AV) : Option AV := match x with
  | .agg cs => part off n cs
  | _ => none
def aNilck (x : AV) : Option AV := match x with
  | .ptr _ _ | .vp _ => some x
  | .fn (.func _) _ _ => some x
  | .iface _ _ => some x
  | _ => none
def aExtract (i : Nat) (x : AV) : Option AV := match x with
  | .tup vs => vs[i]?
  | _ => none
def aLit (m : Mode) (s : Nat) (ys : List AV) (H : AH) : Option (AV × AH) :=
  if !elemsOk s ys then none else
  match m with
  | .ro => some (.sl 0 s ys, H)
  | .tok => some (.sl H.toks.length s ys, ⟨H.obs, H.toks ++ [(ys.length, s)]⟩)
  | .ref => some (.slr H.obs.length 0 ys.length s, ⟨H.obs ++ [.cells (ys.flatMap AV.cells)], H.toks⟩)
def aCv (k : IntKind) (x : AV) : Option AV := match x with
  | .int _ n => some (.int k (k.wrap n))
  | _ => none
def aEqv (k : EqK) (neg : Bool) (x y : AV) : Option AV := (aEq k x y).map fun b => .bool (if neg then !b else b)
def aNext (x : AV) (H : AH) : Option (AV × AH) := aop [] (.nextS (.cst x)) H

/-! ### Operations with their values put in -/
def getF (fr : List AV) (t : Nat) : AV := (fr[t]?).getD .undef
def sb (fr : List AV) (x : Opd) : Opd := .cst (x.ev fr)

def IOp.sb (fr : List AV) : IOp → IOp
  | .mov x => .mov (SV.sb fr x)
  | .pick c a b => .pick (SV.sb fr c) (SV.sb fr a) (SV.sb fr b)
  | .alloc z => .alloc z
  | .box x => .box (SV.sb fr x)
  | .build z ps => .build z (ps.map fun p => (p.1, p.2.1, SV.sb fr p.2.2))
  | .lit m s xs => .lit m s (xs.map (SV.sb fr))
  | .load n a => .load n (SV.sb fr a)
  | .store n a x => .store n (SV.sb fr a) (SV.sb fr x)
  | .nilck x => .nilck (SV.sb fr x)
  | .bin op x y => .bin op (SV.sb fr x) (SV.sb fr y)
  | .eqv k ng x y => .eqv k ng (SV.sb fr x) (SV.sb fr y)
  | .eqAgg ks ng x y => .eqAgg ks ng (SV.sb fr x) (SV.sb fr y)
  | .not x => .not (SV.sb fr x)
  | .neg x => .neg (SV.sb fr x)
  | .cvInt k x => .cvInt k (SV.sb fr x)
  | .cvRune x => .cvRune (SV.sb fr x)
  | .cvBytes x => .cvBytes (SV.sb fr x)
  | .cvStr x => .cvStr (SV.sb fr x)
  | .cvMark x => .cvMark (SV.sb fr x)
  | .cvSame x => .cvSame (SV.sb fr x)
  | .mkIface t x => .mkIface t (SV.sb fr x)
  | .mkFn f first cap => .mkFn f (first.map (SV.sb fr)) (cap.map (SV.sb fr))
  | .mkMap => .mkMap
  | .make m s bytes z l c => .make m s bytes z (SV.sb fr l) (SV.sb fr c)
  | .slcS x lo hi => .slcS (SV.sb fr x) (lo.map (SV.sb fr)) (hi.map (SV.sb fr))
  | .slc s x lo hi => .slc s (SV.sb fr x) (lo.map (SV.sb fr)) (hi.map (SV.sb fr))
  | .fieldAddr off x => .fieldAddr off (SV.sb fr x)
  | .field off n x => .field off n (SV.sb fr x)
  | .idxAddr s x i => .idxAddr s (SV.sb fr x) (SV.sb fr i)
  | .idxAddrArr ln s x i => .idxAddrArr ln s (SV.sb fr x) (SV.sb fr i)
  | .idxStr x i => .idxStr (SV.sb fr x) (SV.sb fr i)
  | .idxArr ln s n x i => .idxArr ln s n (SV.sb fr x) (SV.sb fr i)
  | .lookup K z ok m k => .lookup K z ok (SV.sb fr m) (SV.sb fr k)
  | .mapUpd K m k v => .mapUpd K (SV.sb fr m) (SV.sb fr k) (SV.sb fr v)
  | .mapEntry K z m k => .mapEntry K z (SV.sb fr m) (SV.sb fr k)
  | .entrySt m s v => .entrySt (SV.sb fr m) (SV.sb fr s) (SV.sb fr v)
  | .rangeS x => .rangeS (SV.sb fr x)
  | .nextS x => .nextS (SV.sb fr x)
  | .extract i x => .extract i (SV.sb fr x)
  | .len k x => .len k (SV.sb fr x)
  | .append m s bytes x y => .append m s bytes (SV.sb fr x) (SV.sb fr y)
  | .minmax mx x xs => .minmax mx (SV.sb fr x) (xs.map (SV.sb fr))
  | .sealR x => .sealR (SV.sb fr x)
  | .call ver f args => .call ver f args

theorem sb_ev (fr : List AV) (x : Opd) : (sb fr x).ev [] = x.ev fr := rfl
theorem sb_map (fr : List AV) (xs : List Opd) : (xs.map (sb fr)).map (Opd.ev []) = xs.map (Opd.ev fr) := by
  rw [List.map_map]; rfl
theorem sb_opt (fr : List AV) (x : Option Opd) : (x.map (sb fr)).map (Opd.ev []) = x.map (Opd.ev fr) := by
  cases x <;> rfl

theorem aop_sb (fr : List AV) (op : IOp) (H : AH) : aop [] (op.sb fr) H = aop fr op H := by
  cases op <;> (simp only [IOp.sb, aop, sb_ev, sb_map, sb_opt] <;> try rfl)
  case build z ps =>
    have : (ps.map fun p => (p.1, p.2.1, sb fr p.2.2)).map (fun p => (p.1, p.2.1, p.2.2.ev [])) = ps.map fun p => (p.1, p.2.1, p.2.2.ev fr) := by
      rw [List.map_map]; rfl
    rw [this]

/-! ### Operations -/
inductive Kn where
  | b (v : Bool)
  | off

def lookK (g : Nat) : List (Nat × Kn) → Option Kn
  | [] => none
  | p :: l => bif p.1 == g then some p.2 else lookK g l
def rmK (d : Option Nat) (l : List (Nat × Kn)) : List (Nat × Kn) := match d with
  | none => l
  | some d => l.filter fun p => !(p.1 == d)

def wpOp (D : Den) (kn : List (Nat × Kn)) (op : IOp) (fr : List AV) (H : AH) (k : AV → AH → Prop) : Prop :=
  match op with
  | .mov x => k (x.ev fr) H
  | .alloc z => aP z H k
  | .load n a => gP (aLoad n (a.ev fr) H) fun v => k v H
  | .store n a x => hP (aStore n (a.ev fr) (x.ev fr) H) fun H' => k .undef H'
  | .bin op x y => gP (aBin op (x.ev fr) (y.ev fr)) fun v => k v H
  | .fieldAddr o x => gP (aFieldAddr o (x.ev fr)) fun v => k v H
  | .idxAddr s x i => gP (aIdxAddr s (x.ev fr) (i.ev fr)) fun v => k v H
  | .idxAddrArr len s x i => gP (aIdxAddrArr len s (x.ev fr) (i.ev fr)) fun v => k v H
  | .len lk x => gP (aLen lk (x.ev fr) H) fun v => k v H
  | .lookup K z ok m y => gP (aLook K z ok (m.ev fr) (y.ev fr) H) fun v => k v H
  | .append m s b x y => sP (aAppend m s b (x.ev fr) (y.ev fr) H) k
  | .slcS x lo hi => gP (aSlcS (x.ev fr) (lo.map (Opd.ev fr)) (hi.map (Opd.ev fr))) fun v => k v H
  | .slc s x lo hi => gP (aSlc s (x.ev fr) (lo.map (Opd.ev fr)) (hi.map (Opd.ev fr))) fun v => k v H
  | .idxStr x i => gP (aIdxStr (x.ev fr) (i.ev fr)) fun v => k v H
  | .field off n x => gP (aField off n (x.ev fr)) fun v => k v H
  | .nilck x => gP (aNilck (x.ev fr)) fun v => k v H
  | .extract i x => gP (aExtract i (x.ev fr)) fun v => k v H
  | .not x => gP (aNot (x.ev fr)) fun v => k v H
  | .cvInt t x => gP (aCv t (x.ev fr)) fun v => k v H
  | .eqv t neg x y => gP (aEqv t neg (x.ev fr) (y.ev fr)) fun v => k v H
  | .minmax mx x xs => gP (aFold mx (x.ev fr) (xs.map (Opd.ev fr))) fun v => k v H
  | .lit m s xs => sP (aLit m s (xs.map (Opd.ev fr)) H) k
  | .build z ps => gP ((aBuild z (ps.map fun p => (p.1, p.2.1, p.2.2.ev fr))).map .agg) fun v => k v H
  | .pick (.tmp c) x y => match lookK c kn with
    | some (.b true) => k (x.ev fr) H
    | some (.b false) => k (y.ev fr) H
    | _ => pP (getF fr c) (x.ev fr) (y.ev fr) fun v => k v H
  | .pick c x y => pP (c.ev fr) (x.ev fr) (y.ev fr) fun v => k v H
  | .call ver (.fn f) args => if f < 100000 then cP D (f + ver * 100000) (args.map (Opd.ev fr)) H k else False
  | .call ver f args => vP D ver (f.ev fr) (args.map (Opd.ev fr)) H k
  | op => sP (aop [] (op.sb fr) H) k

def knV : Kn → AV
  | .b v => .bool v
  | .off => .tup []
def KnOk (kn : List (Nat × Kn)) (fr : List AV) : Prop := ∀ p ∈ kn, fr[p.1]? = some (knV p.2)

theorem lookK_mem {g : Nat} {κ : Kn} : ∀ {l : List (Nat × Kn)}, lookK g l = some κ → (g, κ) ∈ l := by
  intro l
  induction l with
  | nil => intro h; simp [lookK] at h
  | cons p l ih =>
    intro h
    simp only [lookK, Bool.cond_eq_ite, beq_iff_eq] at h
    split at h
    · rename_i e; subst e; simp only [Option.some.injEq] at h; subst h; exact List.mem_cons_self
    · exact List.mem_cons_of_mem _ (ih h)

theorem KnOk.rm {kn : List (Nat × Kn)} {fr : List AV} (h : KnOk kn fr) (d : Option Nat) (v : AV) : KnOk (rmK d kn) (setd d v fr) := by
  cases d with
  | none => exact h
  | some d =>
    intro p hp
    simp only [rmK, List.mem_filter, Bool.not_eq_true', beq_eq_false_iff_ne, ne_eq] at hp
    simp only [setd]
    rw [List.getElem?_set_ne (fun e => hp.2 e.symm)]
    exact h p hp.1

theorem getF_some {fr : List AV} {t : Nat} {v : AV} (h : getF fr t = v) (hv : v ≠ .undef) : fr[t]? = some v := by
  unfold getF at h
  cases e : fr[t]? with
  | none => rw [e] at h; exact absurd h.symm hv
  | some x => rw [e] at h; simp only [Option.getD_some] at h; rw [h]

theorem iop_of {D : Den} {op : IOp} {fr : List AV} {H : AH} (hc : ∀ v f as, op ≠ .call v f as) : iop D fr op H = aop fr op H := by
  cases op <;> first | rfl | exact absurd rfl (hc _ _ _)

theorem wpOp_ok {D : Den} {kn : List (Nat × Kn)} {op : IOp} {fr : List AV} {H : AH} {k : AV → AH → Prop} (hk : KnOk kn fr) (h : wpOp D kn op fr H k) :
    ∃ v H', iop D fr op H = some (v, H') ∧ k v H' := by
  have g : ∀ {m : Option AV} {op : IOp}, (iop D fr op H = m.map fun v => (v, H)) → gP m (fun v => k v H) → ∃ v H', iop D fr op H = some (v, H') ∧ k v H' := by
    rintro m op e ⟨v, hv, hk⟩
    exact ⟨v, H, by rw [e, hv]; rfl, hk⟩
  have s : ∀ {m : Option (AV × AH)} {op : IOp}, iop D fr op H = m → sP m k → ∃ v H', iop D fr op H = some (v, H') ∧ k v H' := by
    rintro m op e ⟨v, H', hv, hk⟩
    exact ⟨v, H', by rw [e, hv], hk⟩
  cases op with
  | mov x => exact ⟨_, _, rfl, h⟩
  | alloc z => exact ⟨_, _, rfl, h.run⟩
  | store n a x =>
    obtain ⟨H', hv, hk⟩ := h
    exact ⟨_, H', by simp only [iop, aop, hv, Option.map_some], hk⟩
  | pick c x y =>
    have p : ∀ {c : Opd}, pP (c.ev fr) (x.ev fr) (y.ev fr) (fun v => k v H) → ∃ v H', iop D fr (.pick c x y) H = some (v, H') ∧ k v H' := by
      rintro c ⟨t, ht, hk⟩
      exact ⟨_, _, by simp only [iop, aop, ht], hk⟩
    cases c with
    | tmp c =>
      simp only [wpOp] at h
      split at h
      · rename_i e
        have := hk _ (lookK_mem e)
        simp only [knV] at this
        exact ⟨_, _, by simp only [iop, aop, Opd.ev, this, Option.getD_some, if_true], h⟩
      · rename_i e
        have := hk _ (lookK_mem e)
        simp only [knV] at this
        exact ⟨_, _, by simp only [iop, aop, Opd.ev, this, Option.getD_some, Bool.false_eq_true, if_false], h⟩
      · exact p h
    | cst v => exact p h
    | fn f => exact p h
  | call ver f args =>
    have q : ∀ {f : Opd}, vP D ver (f.ev fr) (args.map (Opd.ev fr)) H k → ∃ v H', iop D fr (.call ver f args) H = some (v, H') ∧ k v H' := by
      rintro f ⟨kk, first, cap, hf, hkk, v, H', hv, hk⟩
      exact ⟨v, H', by simp only [iop, hf, if_pos hkk]; exact hv, hk⟩
    cases f with
    | fn f =>
      simp only [wpOp] at h
      split at h
      · rename_i hl
        obtain ⟨v, H', hv, hk⟩ := h
        exact ⟨v, H', by simp only [iop, Opd.ev, if_pos hl, List.nil_append, List.append_nil]; exact hv, hk⟩
      · exact h.elim
    | tmp c => exact q h
    | cst v => exact q h
  | not x => exact g (by simp only [iop, aop, aNot]; generalize x.ev fr = y; cases y <;> rfl) h
  | nilck x => exact g (by simp only [iop, aop, aNilck]; generalize x.ev fr = y; cases y <;> (try rfl); rename_i f _ _; cases f <;> rfl) h
  | cvInt t x => exact g (by simp only [iop, aop, aCv]; generalize x.ev fr = y; cases y <;> rfl) h
  | field off n x => exact g (by simp only [iop, aop, aField]; generalize x.ev fr = y; cases y <;> rfl) h
  | extract i x => exact g (by simp only [iop, aop, aExtract]; generalize x.ev fr = y; cases y <;> rfl) h
  | slcS x lo hi => exact g (by simp only [iop, aop, aSlcS]; generalize x.ev fr = y; cases y <;> rfl) h
  | slc s x lo hi => exact g (by simp only [iop, aop, aSlc]; generalize x.ev fr = y; cases y <;> rfl) h
  | idxStr x i => exact g (by simp only [iop, aop, aIdxStr]; generalize x.ev fr = y; generalize i.ev fr = z; cases y <;> (try rfl); cases z <;> (try rfl); simp only []; split <;> rfl) h
  | lit m t xs => exact s (by simp only [iop, aop, aLit]; rfl) h
  | append m t b x y => exact s rfl h
  | load n a => exact g rfl h
  | bin op x y => exact g rfl h
  | fieldAddr o x => exact g rfl h
  | idxAddr s x i => exact g rfl h
  | idxAddrArr len s x i => exact g rfl h
  | len lk x => exact g rfl h
  | lookup K z ok m y => exact g rfl h
  | minmax mx x xs => exact g rfl h
  | build z ps => exact g rfl h
  | eqv t neg x y => exact g rfl h
  | _ => exact s (by rw [aop_sb]; exact iop_of (by intro v f as e; cases e)) h

def offK (d : Option Nat) (kn : List (Nat × Kn)) : List (Nat × Kn) := match d with
  | none => kn
  | some d => (d, .off) :: rmK (some d) kn
def okD (d : Option Nat) (n : Nat) : Bool := match d with
  | none => true
  | some d => Nat.blt d n

theorem KnOk.offd {kn : List (Nat × Kn)} {fr : List AV} (h : KnOk kn fr) (d : Option Nat) (hd : okD d fr.length = true) : KnOk (offK d kn) (setd d (.tup []) fr) := by
  cases d with
  | none => exact h
  | some d =>
    have hd' : d < fr.length := by simpa [okD, Nat.blt_eq] using hd
    intro p hp
    simp only [offK, List.mem_cons] at hp
    rcases hp with rfl | hp
    · simp only [setd, knV]
      rw [List.getElem?_set_self hd']
    · exact h.rm (some d) _ p hp

theorem KnOk.cons {kn : List (Nat × Kn)} {fr : List AV} (h : KnOk kn fr) {g : Nat} {b : Bool} (hg : fr[g]? = some (.bool b)) : KnOk ((g, .b b) :: kn) fr := by
  intro p hp
  simp only [List.mem_cons] at hp
  rcases hp with rfl | hp
  · exact hg
  · exact h p hp

theorem set_same {fr : List AV} {g : Nat} {v : AV} (hg : fr[g]? = some v) : fr.set g v = fr := by
  refine List.ext_getElem? fun i => ?_
  rw [List.getElem?_set]
  split
  · rename_i e; subst e
    have hl : g < fr.length := by
      rcases Nat.lt_or_ge g fr.length with h | h
      · exact h
      · rw [List.getElem?_eq_none h] at hg; simp at hg
    rw [if_pos hl, hg]
  · rfl

def constK : Opd → Option Bool
  | .cst (.bool b) => some b
  | _ => none
def opK (kn : List (Nat × Kn)) : IOp → Option Bool
  | .mov (.tmp c) => match lookK c kn with
    | some (.b b) => some b
    | _ => none
  | .mov x => constK x
  | .pick (.tmp c) x y => match lookK c kn with
    | some (.b true) => constK x
    | some (.b false) => constK y
    | _ => none
  | _ => none
/-- What is known after an operation. -/
def kAft (op : IOp) (d : Option Nat) (n : Nat) (kn : List (Nat × Kn)) : List (Nat × Kn) := match d with
  | none => kn
  | some d => match opK kn op with
    | some b => bif Nat.blt d n then (d, .b b) :: rmK (some d) kn else rmK (some d) kn
    | none => rmK (some d) kn

theorem constK_ev {x : Opd} {b : Bool} (h : constK x = some b) (fr : List AV) : x.ev fr = .bool b := by
  unfold constK at h
  split at h
  · simp only [Option.some.injEq] at h; subst h; rfl
  · simp at h

theorem opK_ok {D : Den} {kn : List (Nat × Kn)} {fr : List AV} {op : IOp} {H H' : AH} {v : AV} {b : Bool} (hk : KnOk kn fr) (h : opK kn op = some b) (hi : iop D fr op H = some (v, H')) : v = .bool b := by
  unfold opK at h
  split at h
  · rename_i c
    split at h
    · rename_i b' e
      have hg := hk _ (lookK_mem e)
      simp only [knV] at hg
      simp only [Option.some.injEq] at h
      simp only [iop, aop, Opd.ev, hg, Option.getD_some, Option.some.injEq, Prod.mk.injEq] at hi
      rw [← hi.1, h]
    · simp at h
  · rename_i x _
    have := constK_ev h fr
    simp only [iop, aop, Option.some.injEq, Prod.mk.injEq] at hi
    rw [← hi.1, this]
  · rename_i c x y
    split at h
    · rename_i e
      have hg := hk _ (lookK_mem e)
      simp only [knV] at hg
      have := constK_ev h fr
      simp only [iop, aop, Opd.ev, hg, Option.getD_some, if_true, Option.some.injEq, Prod.mk.injEq] at hi
      rw [← hi.1]; exact this
    · rename_i e
      have hg := hk _ (lookK_mem e)
      simp only [knV] at hg
      have := constK_ev h fr
      simp only [iop, aop, Opd.ev, hg, Option.getD_some, Bool.false_eq_true, if_false, Option.some.injEq, Prod.mk.injEq] at hi
      rw [← hi.1]; exact this
    · simp at h
  · simp at h

theorem KnOk.aft {D : Den} {kn : List (Nat × Kn)} {fr : List AV} {op : IOp} {H H' : AH} {v : AV} (h : KnOk kn fr) (d : Option Nat) (hi : iop D fr op H = some (v, H')) : KnOk (kAft op d fr.length kn) (setd d v fr) := by
  cases d with
  | none => exact h
  | some d =>
    have hr := h.rm (some d) v
    simp only [kAft]
    split
    · rename_i b hb
      rw [Bool.cond_eq_ite]
      split
      · rename_i hd
        have hd' : d < fr.length := by simpa [Nat.blt_eq] using hd
        intro p hp
        simp only [List.mem_cons] at hp
        rcases hp with rfl | hp
        · simp only [setd, knV]
          rw [List.getElem?_set_self hd', opK_ok h hb hi]
        · exact hr p hp
      · exact hr
    · exact hr

/-- Rows of operations, with what is known of guards. -/
def wpO (D : Den) (K : Kont) : List IOper → List (Nat × Kn) → List AV → AH → Prop
  | [], _, fr, H => K fr H
  | o :: os, kn, fr, H =>
    match o.guard with
    | none => wpOp D kn o.op fr H fun v H' => wpO D K os (kAft o.op o.dst fr.length kn) (setd o.dst v fr) H'
    | some (g, b) => match lookK g kn with
      | some (.b c) => bif c == b then wpOp D kn o.op fr H fun v H' => wpO D K os (kAft o.op o.dst fr.length kn) (setd o.dst v fr) H'
        else bif okD o.dst fr.length then wpO D K os (offK o.dst kn) (setd o.dst (.tup []) fr) H else False
      | some .off => bif okD o.dst fr.length then wpO D K os (offK o.dst kn) (setd o.dst (.tup []) fr) H else False
      | none => dP (getF fr g) b
        (wpOp D ((g, .b b) :: kn) o.op (fr.set g (.bool b)) H fun v H' => wpO D K os (kAft o.op o.dst (fr.set g (.bool b)).length ((g, .b b) :: kn)) (setd o.dst v (fr.set g (.bool b))) H')
        (bif okD o.dst fr.length then wpO D K os (offK o.dst ((g, .b (!b)) :: kn)) (setd o.dst (.tup []) (fr.set g (.bool (!b)))) H else False)

theorem wpO_ok {D : Den} {K : Kont} : ∀ (os : List IOper) {kn : List (Nat × Kn)} {fr : List AV} {H : AH}, KnOk kn fr → wpO D K os kn fr H → Wr D os K fr H := by
  intro os
  induction os with
  | nil => intro kn fr H _ h; exact wr_nil h
  | cons o os ih =>
    intro kn fr H hk h
    have on : ∀ {kn : List (Nat × Kn)} {fr : List AV}, KnOk kn fr → want o.guard fr = some true → wpOp D kn o.op fr H (fun v H' => wpO D K os (kAft o.op o.dst fr.length kn) (setd o.dst v fr) H') → Wr D (o :: os) K fr H := by
      intro kn fr hk hw h
      obtain ⟨v, H', h1, h2⟩ := wpOp_ok hk h
      exact wr_op hw h1 rfl (ih (hk.aft _ h1) h2)
    have off : ∀ {kn : List (Nat × Kn)} {fr : List AV}, KnOk kn fr → want o.guard fr = some false → (bif okD o.dst fr.length then wpO D K os (offK o.dst kn) (setd o.dst (.tup []) fr) H else False) → Wr D (o :: os) K fr H := by
      intro kn fr hk hw h
      rw [Bool.cond_eq_ite] at h
      split at h
      · rename_i hd
        exact wr_off hw rfl (ih (hk.offd _ hd) h)
      · exact h.elim
    simp only [wpO] at h
    split at h
    · rename_i e
      exact on hk (by rw [e]; rfl) h
    · rename_i g b e
      split at h
      · rename_i c e2
        have hg := hk _ (lookK_mem e2)
        simp only [knV] at hg
        have hw : want o.guard fr = some (c == b) := by rw [e]; simp [want, hg]
        cases hcb : (c == b) with
        | true => rw [hcb] at h hw; exact on hk hw h
        | false => rw [hcb] at h hw; exact off hk hw h
      · rename_i e2
        have hg := hk _ (lookK_mem e2)
        simp only [knV] at hg
        exact off hk (by rw [e]; simp [want, hg]) h
      · obtain ⟨t, ht, ha, hb⟩ := h
        have hg := getF_some ht (by intro e; cases e)
        have hs := set_same hg
        rcases (show t = b ∨ t = (!b) by cases t <;> cases b <;> simp) with rfl | rfl
        · have := ha rfl
          rw [hs] at this
          exact on (hk.cons hg) (by rw [e]; simp [want, hg]) this
        · have := hb rfl
          rw [hs] at this
          exact off (hk.cons hg) (by rw [e]; simp [want, hg]) this

/-- The same, with all states on the way. -/
def wpT (D : Den) (K : List (List AV × AH) → Prop) : List IOper → List (Nat × Kn) → List (List AV × AH) → List AV → AH → Prop
  | [], _, acc, fr, H => K (acc ++ [(fr, H)])
  | o :: os, kn, acc, fr, H =>
    bif o.op.isAlloc then wpT D K os kn (acc ++ [(fr, H)]) fr H else
    match o.guard with
    | none => wpOp D kn o.op fr H fun v H' => wpT D K os (kAft o.op o.dst fr.length kn) (acc ++ [(fr, H)]) (setd o.dst v fr) H'
    | some (g, b) => match lookK g kn with
      | some (.b c) => bif c == b then wpOp D kn o.op fr H fun v H' => wpT D K os (kAft o.op o.dst fr.length kn) (acc ++ [(fr, H)]) (setd o.dst v fr) H'
        else bif okD o.dst fr.length then wpT D K os (offK o.dst kn) (acc ++ [(fr, H)]) (setd o.dst (.tup []) fr) H else False
      | some .off => bif okD o.dst fr.length then wpT D K os (offK o.dst kn) (acc ++ [(fr, H)]) (setd o.dst (.tup []) fr) H else False
      | none => dP (getF fr g) b
        (wpOp D ((g, .b b) :: kn) o.op (fr.set g (.bool b)) H fun v H' => wpT D K os (kAft o.op o.dst (fr.set g (.bool b)).length ((g, .b b) :: kn)) (acc ++ [(fr.set g (.bool b), H)]) (setd o.dst v (fr.set g (.bool b))) H')
        (bif okD o.dst fr.length then wpT D K os (offK o.dst ((g, .b (!b)) :: kn)) (acc ++ [(fr.set g (.bool (!b)), H)]) (setd o.dst (.tup []) (fr.set g (.bool (!b)))) H else False)

theorem wpT_ok {D : Den} {K : List (List AV × AH) → Prop} : ∀ (os : List IOper) {kn : List (Nat × Kn)} {acc : List (List AV × AH)} {fr : List AV} {H : AH}, KnOk kn fr → wpT D K os kn acc fr H → Wt D os (fun l => K (acc ++ l)) fr H := by
  intro os
  induction os with
  | nil => intro kn acc fr H _ h; exact wt_nil h
  | cons o os ih =>
    intro kn acc fr H hk h
    have app : ∀ {fr1 fr2 : List AV} {H1 H2 : AH}, Wt D os (fun l => K ((acc ++ [(fr1, H1)]) ++ l)) fr2 H2 → Wt D os (fun l => K (acc ++ ((fr1, H1) :: l))) fr2 H2 := by
      rintro fr1 fr2 H1 H2 ⟨l, h1, h2⟩
      exact ⟨l, h1, by simpa using h2⟩
    simp only [wpT, Bool.cond_eq_ite] at h
    split at h
    · rename_i ha
      obtain ⟨l, h1, h2⟩ := app (ih hk h)
      exact ⟨(fr, H) :: l, by simp only [trace, ha, if_true, h1, Option.map_some], h2⟩
    rename_i ha
    have ha : o.op.isAlloc = false := by simpa using ha
    have on : ∀ {kn : List (Nat × Kn)} {fr : List AV}, KnOk kn fr → want o.guard fr = some true → wpOp D kn o.op fr H (fun v H' => wpT D K os (kAft o.op o.dst fr.length kn) (acc ++ [(fr, H)]) (setd o.dst v fr) H') → Wt D (o :: os) (fun l => K (acc ++ l)) fr H := by
      intro kn fr hk hw h
      obtain ⟨v, H', h1, h2⟩ := wpOp_ok hk h
      exact wt_op ha hw h1 rfl (app (ih (hk.aft _ h1) h2))
    have off : ∀ {kn : List (Nat × Kn)} {fr : List AV}, KnOk kn fr → want o.guard fr = some false → (if okD o.dst fr.length = true then wpT D K os (offK o.dst kn) (acc ++ [(fr, H)]) (setd o.dst (.tup []) fr) H else False) → Wt D (o :: os) (fun l => K (acc ++ l)) fr H := by
      intro kn fr hk hw h
      split at h
      · rename_i hd
        exact wt_off ha hw rfl (app (ih (hk.offd _ hd) h))
      · exact h.elim
    split at h
    · rename_i e
      exact on hk (by rw [e]; rfl) h
    · rename_i g b e
      split at h
      · rename_i c e2
        have hg := hk _ (lookK_mem e2)
        simp only [knV] at hg
        have hw : want o.guard fr = some (c == b) := by rw [e]; simp [want, hg]
        cases hcb : (c == b) with
        | true => rw [hcb] at h hw; exact on hk hw (by simpa using h)
        | false => rw [hcb] at h hw; exact off hk hw (by simpa using h)
      · rename_i e2
        have hg := hk _ (lookK_mem e2)
        simp only [knV] at hg
        exact off hk (by rw [e]; simp [want, hg]) h
      · obtain ⟨t, ht, ha, hb⟩ := h
        have hg := getF_some ht (by intro e; cases e)
        have hs := set_same hg
        rcases (show t = b ∨ t = (!b) by cases t <;> cases b <;> simp) with rfl | rfl
        · have := ha rfl
          rw [hs] at this
          exact on (hk.cons hg) (by rw [e]; simp [want, hg]) this
        · have := hb rfl
          rw [hs] at this
          exact off (hk.cons hg) (by rw [e]; simp [want, hg]) this

end Go.SV
