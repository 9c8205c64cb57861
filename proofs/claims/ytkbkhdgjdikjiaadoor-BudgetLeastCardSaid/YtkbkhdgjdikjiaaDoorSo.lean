/- Regions whose order is open: every order that the edges allow comes to what the text's order comes to. Own text of the prover; nothing is assumed. -/
import Derived.Test.YtkbkhdgjdikjiaaDoorSn
namespace Go.SV

variable {P : Program} {E E' : Env} {H H' : AH} {w w' : World} {fr : List AV} {a : Act}

/-! ### What an operation reads -/
def IOp.opds : IOp → List Opd
  | .mov x | .box x | .load _ x | .nilck x | .not x | .neg x | .cvInt _ x | .cvRune x | .cvBytes x | .cvStr x | .cvMark x | .cvSame x | .mkIface _ x | .fieldAddr _ x | .field _ _ x | .rangeS x | .nextS x | .extract _ x
  | .len _ x | .sealR x => [x]
  | .pick a b c => [a, b, c]
  | .alloc _ | .mkMap => []
  | .build _ ps => ps.map (·.2.2)
  | .lit _ _ xs => xs
  | .store _ x y | .bin _ x y | .eqv _ _ x y | .eqAgg _ _ x y | .make _ _ _ _ x y | .idxAddr _ x y | .idxAddrArr _ _ x y | .idxStr x y | .idxArr _ _ _ x y | .lookup _ _ _ x y | .mapEntry _ _ x y | .append _ _ _ x y => [x, y]
  | .mkFn _ xs ys => xs ++ ys
  | .slcS x lo hi | .slc _ x lo hi => x :: (lo.toList ++ hi.toList)
  | .mapUpd _ x y z | .entrySt x y z => [x, y, z]
  | .minmax _ x xs => x :: xs
  | .call _ f xs => f :: xs

def Opd.tmp? : Opd → Option Nat
  | .tmp t => some t
  | _ => none

theorem map_ev {xs : List Opd} {fr fr' : List AV} (h : ∀ x ∈ xs, x.ev fr = x.ev fr') : xs.map (Opd.ev fr) = xs.map (Opd.ev fr') := List.map_congr_left h

theorem iop_congr {D : Den} {fr fr' : List AV} (io : IOp) (h : ∀ x ∈ io.opds, x.ev fr = x.ev fr') (H : AH) : iop D fr io H = iop D fr' io H := by
  have opt : ∀ {o : Option Opd}, (∀ x ∈ o.toList, x.ev fr = x.ev fr') → o.map (Opd.ev fr) = o.map (Opd.ev fr') := by
    intro o ho
    cases o with
    | none => rfl
    | some x => simp [ho x (by simp)]
  cases io with
  | call n f xs =>
    simp only [IOp.opds, List.mem_cons, forall_eq_or_imp] at h
    simp only [iop, h.1, map_ev h.2]
  | build z ps =>
    have : (ps.map fun p => (p.1, p.2.1, p.2.2.ev fr)) = ps.map fun p => (p.1, p.2.1, p.2.2.ev fr') := List.map_congr_left fun p hp => by
      rw [h p.2.2 (by simp only [IOp.opds, List.mem_map]; exact ⟨p, hp, rfl⟩)]
    simp only [iop, aop, this]
  | lit m s xs => simp only [iop, aop, map_ev (xs := xs) h]
  | mkFn f xs ys =>
    simp only [iop, aop, map_ev (xs := xs) (fun x hx => h x (by simp [IOp.opds, hx])), map_ev (xs := ys) (fun x hx => h x (by simp [IOp.opds, hx]))]
  | slcS x lo hi =>
    simp only [iop, aop, h x (by simp [IOp.opds]), opt (o := lo) (fun y hy => h y (by simp only [IOp.opds, List.mem_cons, List.mem_append]; exact .inr (.inl hy))), opt (o := hi) (fun y hy => h y (by simp only [IOp.opds, List.mem_cons, List.mem_append]; exact .inr (.inr hy)))]
  | slc s x lo hi =>
    simp only [iop, aop, h x (by simp [IOp.opds]), opt (o := lo) (fun y hy => h y (by simp only [IOp.opds, List.mem_cons, List.mem_append]; exact .inr (.inl hy))), opt (o := hi) (fun y hy => h y (by simp only [IOp.opds, List.mem_cons, List.mem_append]; exact .inr (.inr hy)))]
  | minmax b x xs =>
    simp only [IOp.opds, List.mem_cons, forall_eq_or_imp] at h
    simp only [iop, aop, h.1, map_ev h.2]
  | alloc z => rfl
  | mkMap => rfl
  | _ =>
    simp only [IOp.opds, List.mem_cons, List.not_mem_nil, or_false, forall_eq_or_imp, forall_eq] at h
    simp only [iop, aop, h]

def mask (l : List Nat) (fr : List AV) : List AV := fr.mapIdx fun i v => if l.contains i then v else .undef

theorem mask_get (l : List Nat) (fr : List AV) (t : Nat) : (mask l fr)[t]? = (fr[t]?).map fun v => if l.contains t then v else .undef := by
  simp [mask, List.getElem?_mapIdx]

theorem mask_ev {l : List Nat} {fr : List AV} {x : Opd} (h : ∀ t, x.tmp? = some t → t ∈ l) : x.ev (mask l fr) = x.ev fr := by
  cases x with
  | tmp t =>
    have ht := h t rfl
    simp only [Opd.ev, mask_get]
    cases hf : fr[t]? with
    | none => rfl
    | some v => simp [ht]
  | _ => rfl

def IOp.tmps (io : IOp) : List Nat := io.opds.filterMap Opd.tmp?

theorem iop_mask {D : Den} {fr : List AV} {io : IOp} {l : List Nat} (hl : ∀ t ∈ io.tmps, t ∈ l) (H : AH) : iop D (mask l fr) io H = iop D fr io H :=
  iop_congr io (fun x hx => mask_ev fun t ht => hl t (List.mem_filterMap.2 ⟨x, hx, ht⟩)) H

/-! ### Kinds of operations -/
def IOp.isAlloc : IOp → Bool
  | .alloc _ => true
  | _ => false

def IOp.isEff : IOp → Bool
  | .call _ _ _ | .store _ _ _ | .append _ _ _ _ _ | .mkMap | .mapUpd _ _ _ _ | .mapEntry _ _ _ _ | .entrySt _ _ _ | .rangeS _ | .nextS _ | .box _ | .sealR _ => true
  | .lit .ro _ _ => false
  | .lit _ _ _ => true
  | .make .ro _ _ _ _ _ => false
  | .make _ _ _ _ _ _ => true
  | _ => false

def blkOf : AV → Option Nat
  | .ptr b _ => some b
  | .slr b _ _ _ => some b
  | .map b => some b
  | _ => none

def rdOpd : IOp → Option Opd
  | .load _ x | .lookup _ _ _ x _ | .len _ x | .cvStr x | .cvMark x => some x
  | _ => none

def rdBlk (fr : List AV) (io : IOp) : Option Nat := (rdOpd io).bind fun x => blkOf (x.ev fr)

theorem floater {D : Den} {fr : List AV} {io : IOp} (h1 : io.isEff = false) (h2 : io.isAlloc = false) {v : AV} (h : iop D fr io H = some (v, H')) :
    H' = H ∧ ∀ H2 : AH, (∀ b, rdBlk fr io = some b → H2.get b = H.get b) → iop D fr io H2 = some (v, H2) := by
  have retc : ∀ {o : Option AV}, (o.map fun v => (v, H)) = some (v, H') → H' = H ∧ o = some v := by
    intro o ho
    simp only [Option.map_eq_some_iff, Prod.mk.injEq] at ho
    obtain ⟨u, hu, rfl, rfl⟩ := ho
    exact ⟨rfl, hu⟩
  cases io with
  | load n x =>
    simp only [iop, aop] at h ⊢
    obtain ⟨rfl, h⟩ := retc h
    refine ⟨rfl, fun H2 hb => ?_⟩
    simp only [rdBlk, rdOpd, Option.bind_some] at hb
    have : aLoad n (x.ev fr) H2 = aLoad n (x.ev fr) H' := by
      unfold aLoad
      split
      · rename_i b o e
        rw [hb b (by rw [e]; rfl)]
      · rfl
      · rfl
    rw [this, h]; rfl
  | lookup K z ok m k =>
    simp only [iop, aop] at h ⊢
    obtain ⟨rfl, h⟩ := retc h
    refine ⟨rfl, fun H2 hb => ?_⟩
    simp only [rdBlk, rdOpd, Option.bind_some] at hb
    have : mapEs (m.ev fr) H2 = mapEs (m.ev fr) H' := by
      unfold mapEs
      split
      · rfl
      · rename_i b e
        rw [hb b (by rw [e]; rfl)]
      · rfl
    unfold aLook at h ⊢
    rw [this, h]; rfl
  | len k x =>
    simp only [iop, aop] at h ⊢
    obtain ⟨rfl, h⟩ := retc h
    refine ⟨rfl, fun H2 hb => ?_⟩
    simp only [rdBlk, rdOpd, Option.bind_some] at hb
    have : aLen k (x.ev fr) H2 = aLen k (x.ev fr) H' := by
      generalize x.ev fr = y at hb
      unfold aLen
      cases k <;> cases y <;> first | rfl | (simp only; rw [hb _ rfl])
    rw [this, h]; rfl
  | cvStr x =>
    simp only [iop, aop] at h ⊢
    have key : ∀ H2 : AH, (∀ b, rdBlk fr (.cvStr x) = some b → H2.get b = H.get b) → elems 1 (x.ev fr) H2 = elems 1 (x.ev fr) H := by
      intro H2 hb
      simp only [rdBlk, rdOpd, Option.bind_some] at hb
      generalize x.ev fr = y at hb
      cases y <;> simp only [elems]
      rename_i b _ _ _
      rw [hb b rfl]
    split at h
    · rename_i xs hxs
      split at h
      · simp at h
      · rename_i hns
        split at h
        · rename_i hb
          simp only [Option.some.injEq, Prod.mk.injEq] at h
          obtain ⟨rfl, rfl⟩ := h
          refine ⟨rfl, fun H2 hb2 => ?_⟩
          rw [key H2 hb2, hxs]
          generalize x.ev fr = y at hns
          cases y <;> first | exact absurd rfl (hns _) | (simp only; rw [if_pos hb])
        · simp at h
    · simp at h
  | cvMark x =>
    simp only [iop, aop] at h ⊢
    split at h
    · rename_i b o n s e
      split at h
      · rename_i c hc
        simp only [Option.some.injEq, Prod.mk.injEq] at h
        obtain ⟨rfl, rfl⟩ := h
        refine ⟨rfl, fun H2 hb => ?_⟩
        have := hb b (by simp [rdBlk, rdOpd, e, blkOf])
        simp only [e, this, hc]
      · simp at h
    · simp at h
  | lit m s xs =>
    cases m <;> simp [IOp.isEff] at h1
    simp only [iop, aop] at h ⊢
    split at h
    · simp at h
    · rename_i hc
      simp only [Option.some.injEq, Prod.mk.injEq] at h
      obtain ⟨rfl, rfl⟩ := h
      refine ⟨rfl, fun H2 _ => ?_⟩
      rw [if_neg hc]
  | alloc z => simp [IOp.isAlloc] at h2
  | mov x =>
    simp only [iop, aop, Option.some.injEq, Prod.mk.injEq] at h ⊢
    exact ⟨h.2.symm, fun H2 _ => ⟨h.1, trivial⟩⟩
  | mkFn f xs ys =>
    simp only [iop, aop, Option.some.injEq, Prod.mk.injEq] at h ⊢
    exact ⟨h.2.symm, fun H2 _ => ⟨h.1, trivial⟩⟩
  | build z ps => simp only [iop, aop] at h ⊢; obtain ⟨rfl, hu⟩ := retc h; exact ⟨rfl, fun H2 _ => by rw [hu]; rfl⟩
  | bin op x y => simp only [iop, aop] at h ⊢; obtain ⟨rfl, hu⟩ := retc h; exact ⟨rfl, fun H2 _ => by rw [hu]; rfl⟩
  | eqv k n x y => simp only [iop, aop] at h ⊢; obtain ⟨rfl, hu⟩ := retc h; exact ⟨rfl, fun H2 _ => by rw [hu]; rfl⟩
  | idxAddr s x i => simp only [iop, aop] at h ⊢; obtain ⟨rfl, hu⟩ := retc h; exact ⟨rfl, fun H2 _ => by rw [hu]; rfl⟩
  | idxAddrArr l s x i => simp only [iop, aop] at h ⊢; obtain ⟨rfl, hu⟩ := retc h; exact ⟨rfl, fun H2 _ => by rw [hu]; rfl⟩
  | fieldAddr o x => simp only [iop, aop] at h ⊢; obtain ⟨rfl, hu⟩ := retc h; exact ⟨rfl, fun H2 _ => by rw [hu]; rfl⟩
  | minmax b x xs => simp only [iop, aop] at h ⊢; obtain ⟨rfl, hu⟩ := retc h; exact ⟨rfl, fun H2 _ => by rw [hu]; rfl⟩
  | call n f xs => simp [IOp.isEff] at h1
  | store n x y => simp [IOp.isEff] at h1
  | append m s b x y => simp [IOp.isEff] at h1
  | make m s b z x y =>
    cases m <;> simp [IOp.isEff] at h1
    simp only [iop, aop] at h ⊢
    split at h
    · split at h
      · rename_i hc
        simp only [Option.some.injEq, Prod.mk.injEq] at h
        obtain ⟨rfl, rfl⟩ := h
        exact ⟨rfl, fun H2 _ => by rw [if_pos hc]⟩
      · simp at h
    · simp at h
  | mkMap => simp [IOp.isEff] at h1
  | mapUpd K x y z => simp [IOp.isEff] at h1
  | mapEntry K x y z => simp [IOp.isEff] at h1
  | entrySt x y z => simp [IOp.isEff] at h1
  | rangeS x => simp [IOp.isEff] at h1
  | nextS x => simp [IOp.isEff] at h1
  | box x => simp [IOp.isEff] at h1
  | sealR x => simp [IOp.isEff] at h1
  | slcS x lo hi =>
    simp only [iop, aop] at h ⊢
    split at h
    · rename_i l e; obtain ⟨rfl, hu⟩ := retc h; exact ⟨rfl, fun H2 _ => by rw [hu]; rfl⟩
    · simp at h
  | slc s x lo hi =>
    simp only [iop, aop] at h ⊢
    split at h
    · simp at h
    · obtain ⟨rfl, hu⟩ := retc h; exact ⟨rfl, fun H2 _ => by rw [hu]; rfl⟩
  | _ =>
    simp only [iop, aop] at h ⊢
    repeat' (split at h)
    all_goals first
      | (simp only [Option.some.injEq, Prod.mk.injEq, reduceCtorEq] at h; done)
      | (simp only [Option.some.injEq, Prod.mk.injEq] at h; obtain ⟨rfl, rfl⟩ := h; exact ⟨rfl, fun H2 _ => by simp_all⟩)
      | (obtain ⟨rfl, hu⟩ := retc h; exact ⟨rfl, fun H2 _ => by first | (rw [hu]; rfl) | simp_all⟩)
      | skip

end Go.SV
