/- Rules to walk code of the abstract machine. Own text of the prover; nothing is assumed. -/
import Derived.Test.YtkbkhdgjdikjiaaDoorSu
namespace Go.SV

abbrev Kont := List AV → AH → Prop

/-- Code comes to an end, and what then holds: behind it, at a return, at an exit. -/
structure Wc (D : Den) (c : IC) (N R : Kont) (X : Nat → Kont) (fr : List AV) (H : AH) : Prop where
  run : ∃ e fr' H', iexec D c fr H = some (e, fr', H') ∧ (match e with | .normal => N fr' H' | .ret => R fr' H' | .exit i => X i fr' H')

structure Wr (D : Den) (ops : List IOper) (K : Kont) (fr : List AV) (H : AH) : Prop where
  run : ∃ fr' H', iops D ops fr H = some (fr', H') ∧ K fr' H'

variable {D : Den} {N R K : Kont} {X : Nat → Kont} {fr : List AV} {H : AH}

theorem wc_skip (h : N fr H) : Wc D .skip N R X fr H := ⟨.normal, fr, H, rfl, h⟩
theorem wc_ret (h : R fr H) : Wc D .ret N R X fr H := ⟨.ret, fr, H, rfl, h⟩
theorem wc_exit {i : Nat} (h : X i fr H) : Wc D (.exit i) N R X fr H := ⟨.exit i, fr, H, rfl, h⟩

theorem wc_reg {ops : List IOper} (h : Wr D ops N fr H) : Wc D (.reg ops) N R X fr H := by
  obtain ⟨fr', H', h1, h2⟩ := h
  exact ⟨.normal, fr', H', by simp only [iexec, h1]; rfl, h2⟩

theorem wc_dreg {ops : List IOper} {bef : List (List Nat)} {fr' : List AV} {H' : AH} (h1 : dreg D ops bef fr H = some (fr', H')) (h2 : N fr' H') : Wc D (.dreg ops bef) N R X fr H :=
  ⟨.normal, fr', H', by simp only [iexec, h1]; rfl, h2⟩

theorem wc_seq {a b : IC} (h : Wc D a (fun fr H => Wc D b N R X fr H) R X fr H) : Wc D (.seq a b) N R X fr H := by
  obtain ⟨e, fr', H', h1, h2⟩ := h
  cases e with
  | normal =>
    obtain ⟨e2, f2, H2, h3, h4⟩ := h2
    exact ⟨e2, f2, H2, by simp only [iexec, h1]; exact h3, h4⟩
  | ret => exact ⟨.ret, fr', H', by simp only [iexec, h1], h2⟩
  | exit i => exact ⟨.exit i, fr', H', by simp only [iexec, h1], h2⟩

theorem x_hit {i : Nat} {A B : Prop} (h : A) : if i = i then A else B := by rw [if_pos rfl]; exact h
theorem x_miss {i j : Nat} {A B : Prop} (hn : i ≠ j) (h : B) : if i = j then A else B := by rw [if_neg hn]; exact h

theorem wc_cond {c : Opd} {a b : IC} {t : Bool} (hc : c.ev fr = .bool t) (ha : t = true → Wc D a N R X fr H) (hb : t = false → Wc D b N R X fr H) : Wc D (.cond c a b) N R X fr H := by
  cases t with
  | true =>
    obtain ⟨e, f, H', h1, h2⟩ := ha rfl
    exact ⟨e, f, H', by simp only [iexec, hc]; exact h1, h2⟩
  | false =>
    obtain ⟨e, f, H', h1, h2⟩ := hb rfl
    exact ⟨e, f, H', by simp only [iexec, hc]; exact h1, h2⟩

theorem wc_condT {c : Opd} {a b : IC} {t : Bool} (hc : c.ev fr = .bool t) (ht : t = true) (h : Wc D a N R X fr H) : Wc D (.cond c a b) N R X fr H :=
  wc_cond hc (fun _ => h) (fun hf => by rw [ht] at hf; simp at hf)
theorem wc_condF {c : Opd} {a b : IC} {t : Bool} (hc : c.ev fr = .bool t) (ht : t = false) (h : Wc D b N R X fr H) : Wc D (.cond c a b) N R X fr H :=
  wc_cond hc (fun hf => by rw [ht] at hf; simp at hf) (fun _ => h)

theorem wc_block {id : Nat} {c : IC} (h : Wc D c N R (fun i fr H => if i = id then N fr H else X i fr H) fr H) : Wc D (.block id c) N R X fr H := by
  obtain ⟨e, f, H', h1, h2⟩ := h
  cases e with
  | normal => exact ⟨.normal, f, H', by simp only [iexec, h1], h2⟩
  | ret => exact ⟨.ret, f, H', by simp only [iexec, h1], h2⟩
  | exit i =>
    simp only at h2
    split at h2
    · rename_i hi; exact ⟨.normal, f, H', by simp only [iexec, h1, hi, if_true], h2⟩
    · rename_i hi; exact ⟨.exit i, f, H', by simp only [iexec, h1, if_neg hi], h2⟩

theorem wc_gh {gs : List Gho} {c : IC} {fr' : List AV} {H' : AH} (h : ghosts gs fr H = some (fr', H')) (hc : Wc D c N R X fr' H') : Wc D (.gh gs c) N R X fr H := by
  obtain ⟨e, f, H2, h1, h2⟩ := hc
  exact ⟨e, f, H2, by simp only [iexec, h]; exact h1, h2⟩

/-- A loop, by what holds at its head (what is dead there is struck): some measure goes down. -/
theorem wc_loop {dead : List Nat} {c : IC} (I : Nat → Kont) (n : Nat) (h0 : I n (kill dead fr) H)
    (h : ∀ n fr H, I n fr H → Wc D c (fun fr' H' => ∃ m, m < n ∧ I m (kill dead fr') H') R X fr H) : Wc D (.loop dead c) N R X fr H := by
  induction n using Nat.strongRecOn generalizing fr H with
  | _ n ih =>
    obtain ⟨e, f, H', h1, h2⟩ := h n _ H h0
    cases e with
    | normal =>
      obtain ⟨m, hm, hi⟩ := h2
      obtain ⟨e2, f2, H2, h3, h4⟩ := ih m hm hi
      simp only [iexec] at h3
      exact ⟨e2, f2, H2, by simp only [iexec]; rw [iterω_unfold, h1]; exact h3, h4⟩
    | ret => exact ⟨.ret, f, H', by simp only [iexec]; rw [iterω_unfold, h1], h2⟩
    | exit i => exact ⟨.exit i, f, H', by simp only [iexec]; rw [iterω_unfold, h1], h2⟩

def frm (n : Nat) (l : List (Nat × AV)) : List AV := l.foldl (fun f p => f.set p.1 p.2) (List.replicate n .undef)

/-! ### Rows of operations -/
theorem wr_nil (h : K fr H) : Wr D [] K fr H := ⟨fr, H, rfl, h⟩

theorem wr_op {o : IOper} {os : List IOper} {v : AV} {H' : AH} {fr' : List AV} (hw : want o.guard fr = some true) (hv : iop D fr o.op H = some (v, H')) (hf : setd o.dst v fr = fr') (h : Wr D os K fr' H') : Wr D (o :: os) K fr H := by
  obtain ⟨f, H2, h1, h2⟩ := h
  exact ⟨f, H2, by simp only [iops, hw, hv, hf]; exact h1, h2⟩

theorem wr_off {o : IOper} {os : List IOper} {fr' : List AV} (hw : want o.guard fr = some false) (hf : setd o.dst (.tup []) fr = fr') (h : Wr D os K fr' H) : Wr D (o :: os) K fr H := by
  obtain ⟨f, H2, h1, h2⟩ := h
  exact ⟨f, H2, by simp only [iops, hw, hf]; exact h1, h2⟩

/-- A call, by what is known of it. -/
theorem wr_call {d : Option Nat} {ver k : Nat} {f : Opd} {args : List Opd} {os : List IOper} {first cap as : List AV} {Q : AV → AH → Prop} {F : AV → List AV}
    (hf : f.ev fr = .fn (.func k) first cap) (hk : k < 100000) (ha : first ++ args.map (Opd.ev fr) ++ cap = as) (hc : ∃ v H', D (k + ver * 100000) as H = some (v, H') ∧ Q v H')
    (hF : ∀ v, setd d v fr = F v) (h : ∀ v H', Q v H' → Wr D os K (F v) H') : Wr D (⟨d, .call ver f args, none⟩ :: os) K fr H := by
  obtain ⟨v, H', h1, h2⟩ := hc
  subst ha
  exact wr_op (v := v) (H' := H') rfl (by simp only [iop, hf, if_pos hk]; exact h1) (hF v) (h v H' h2)

/-- A function, by its code. -/
theorem fun_ir {T : Nat → Option Entry} {k : Nat} {f : IF} (hT : T k = some (.ir f)) {args : List AV} {Q : AV → AH → Prop}
    (h : ∀ R : Kont, (∀ fr H v, resV fr H f.res = some v → Q v H → R fr H) → Wc (Den.of T) f.body R R (fun _ _ _ => False) (args ++ List.replicate (f.nt - args.length) .undef) H) :
    ∃ v H', Den.of T k args H = some (v, H') ∧ Q v H' := by
  obtain ⟨e, fr', H', h1, h2⟩ := h (fun fr H => ∃ v, resV fr H f.res = some v ∧ Q v H) (fun fr H v h1 h2 => ⟨v, h1, h2⟩)
  rw [Den.of_ir hT]
  cases e with
  | normal =>
    obtain ⟨v, h3, h4⟩ := h2
    exact ⟨v, H', by simp only [irun, h1, h3, Option.map_some], h4⟩
  | ret =>
    obtain ⟨v, h3, h4⟩ := h2
    exact ⟨v, H', by simp only [irun, h1, h3, Option.map_some], h4⟩
  | exit i => exact h2.elim

/-! ### Heaps that have grown -/
structure Grow (H H' : AH) : Prop where
  obs : ∃ l, H'.obs = H.obs ++ l
  toks : ∃ l, H'.toks = H.toks ++ l

theorem Grow.refl (H : AH) : Grow H H := ⟨⟨[], by simp⟩, ⟨[], by simp⟩⟩
theorem Grow.trans {H1 H2 H3 : AH} (h : Grow H1 H2) (k : Grow H2 H3) : Grow H1 H3 := by
  obtain ⟨⟨a, ha⟩, ⟨b, hb⟩⟩ := h
  obtain ⟨⟨c, hc⟩, ⟨d, hd⟩⟩ := k
  exact ⟨⟨a ++ c, by rw [hc, ha, List.append_assoc]⟩, ⟨b ++ d, by rw [hd, hb, List.append_assoc]⟩⟩
theorem Grow.get {H H' : AH} (h : Grow H H') {b : Nat} (hb : b < H.obs.length) : H'.get b = H.get b := by
  obtain ⟨⟨l, hl⟩, _⟩ := h
  simp [AH.get, hl, List.getElem?_append_left hb]
theorem Grow.tok {H H' : AH} (h : Grow H H') {t : Nat} (ht : t < H.toks.length) : H'.toks[t]? = H.toks[t]? := by
  obtain ⟨_, ⟨l, hl⟩⟩ := h
  rw [hl, List.getElem?_append_left ht]
theorem Grow.pos {H H' : AH} (h : Grow H H') (hp : 0 < H.toks.length) : 0 < H'.toks.length := by
  obtain ⟨_, ⟨l, hl⟩⟩ := h
  rw [hl, List.length_append]; omega

/-! ### New cells -/
def AH.push (H : AH) (o : AObj) : AH := ⟨H.obs ++ [o], H.toks⟩

theorem Grow.push (H : AH) (o : AObj) : Grow H (H.push o) := ⟨⟨[o], rfl⟩, ⟨[], by simp [AH.push]⟩⟩
theorem push_get (H : AH) (o : AObj) : (H.push o).get H.obs.length = o := by simp [AH.push, AH.get]
theorem push_len (H : AH) (o : AObj) : (H.push o).obs.length = H.obs.length + 1 := by simp [AH.push]

theorem aLoad_vp1 {cs : List AV} (H : AH) : aLoad none (.vp cs) H = cs[0]? := rfl
theorem aLoad_vpN {n : Nat} {cs : List AV} (H : AH) : aLoad (some n) (.vp cs) H = if n ≤ cs.length then some (.agg (cs.take n)) else none := rfl

theorem iop_alloc (D : Den) (fr : List AV) (z : List AV) (H : AH) : iop D fr (.alloc z) H = some (.ptr H.obs.length 0, H.push (.cells z)) := rfl

theorem aStore_push {n o : Nat} {x : AV} {c : List AV} (H : AH) (h1 : x.def? = true) (h2 : x.cells.length = n) (h3 : x.cells.all AV.isCell = true) (h4 : o + n ≤ c.length) :
    aStore n (.ptr H.obs.length o) x (H.push (.cells c)) = some (H.push (.cells (splice c o x.cells))) := by
  simp only [aStore, push_get, h1, h2, h3, h4, beq_self_eq_true, Bool.and_self, decide_true, if_true]
  simp [AH.push]

theorem iop_store_push {D : Den} {fr : List AV} {n o : Nat} {a x : Opd} {c : List AV} {y : AV} {H : AH} (ha : a.ev fr = .ptr H.obs.length o) (hx : x.ev fr = y) (h1 : y.def? = true) (h2 : y.cells.length = n) (h3 : y.cells.all AV.isCell = true) (h4 : o + n ≤ c.length) :
    iop D fr (.store n a x) (H.push (.cells c)) = some (.undef, H.push (.cells (splice c o y.cells))) := by
  simp only [iop, aop, ha, hx, aStore_push H h1 h2 h3 h4, Option.map_some]

theorem aLoad_push1 {o : Nat} {c : List AV} (H : AH) : aLoad none (.ptr H.obs.length o) (H.push (.cells c)) = c[o]? := by
  simp only [aLoad, push_get]

theorem aLoad_pushN {n o : Nat} {c : List AV} (H : AH) : aLoad (some n) (.ptr H.obs.length o) (H.push (.cells c)) = if o + n ≤ c.length then some (.agg ((c.drop o).take n)) else none := by
  simp only [aLoad, push_get]

/-! ### Rules for single operations -/
section
variable {os : List IOper} {d : Option Nat} {fr' : List AV}

theorem wr_mov {x : Opd} (hf : setd d (x.ev fr) fr = fr') (h : Wr D os K fr' H) : Wr D (⟨d, .mov x, none⟩ :: os) K fr H := wr_op rfl rfl hf h
theorem wr_gT {g : Nat} {b t : Bool} {x : IOp} (hg : fr[g]? = some (.bool t)) (ht : t = b) (h : Wr D (⟨d, x, none⟩ :: os) K fr H) : Wr D (⟨d, x, some (g, b)⟩ :: os) K fr H := by
  obtain ⟨f, H2, h1, h2⟩ := h
  refine ⟨f, H2, ?_, h2⟩
  subst ht
  have hw : want (some (g, t)) fr = some true := by simp [want, hg]
  simp only [iops, want] at h1
  simp only [iops, hw]
  exact h1
theorem wr_gF {g : Nat} {b t : Bool} {x : IOp} (hg : fr[g]? = some (.bool t)) (ht : t = !b) (hf : setd d (.tup []) fr = fr') (h : Wr D os K fr' H) : Wr D (⟨d, x, some (g, b)⟩ :: os) K fr H := by
  subst ht
  exact wr_off (by cases b <;> simp [want, hg]) hf h
theorem wr_gS {g : Nat} {b : Bool} {x : IOp} (hg : fr[g]? = some (.tup [])) (hf : setd d (.tup []) fr = fr') (h : Wr D os K fr' H) : Wr D (⟨d, x, some (g, b)⟩ :: os) K fr H := by
  exact wr_off (by simp [want, hg]) hf h
theorem wr_gt {g : Nat} {t : Bool} {x : IOp} (hg : fr[g]? = some (.bool t)) (hf : setd d (.tup []) fr = fr') (h1 : t = true → Wr D (⟨d, x, none⟩ :: os) K fr H) (h2 : t = false → Wr D os K fr' H) : Wr D (⟨d, x, some (g, true)⟩ :: os) K fr H := by
  cases t
  · exact wr_gF hg rfl hf (h2 rfl)
  · exact wr_gT hg rfl (h1 rfl)
theorem wr_gf {g : Nat} {t : Bool} {x : IOp} (hg : fr[g]? = some (.bool t)) (hf : setd d (.tup []) fr = fr') (h1 : t = false → Wr D (⟨d, x, none⟩ :: os) K fr H) (h2 : t = true → Wr D os K fr' H) : Wr D (⟨d, x, some (g, false)⟩ :: os) K fr H := by
  cases t
  · exact wr_gT hg rfl (h1 rfl)
  · exact wr_gF hg rfl hf (h2 rfl)
theorem wr_pick {c x y : Opd} {t : Bool} {f1 f2 : List AV} (hc : c.ev fr = .bool t) (hf1 : setd d (x.ev fr) fr = f1) (hf2 : setd d (y.ev fr) fr = f2) (h1 : t = true → Wr D os K f1 H) (h2 : t = false → Wr D os K f2 H) : Wr D (⟨d, .pick c x y, none⟩ :: os) K fr H := by
  cases t
  · exact wr_op rfl (by simp only [iop, aop, hc, Bool.false_eq_true, if_false]) hf2 (h2 rfl)
  · exact wr_op rfl (by simp only [iop, aop, hc, if_true]) hf1 (h1 rfl)
theorem wr_pickT {c x y : Opd} {t : Bool} (hc : c.ev fr = .bool t) (ht : t = true) (hf : setd d (x.ev fr) fr = fr') (h : Wr D os K fr' H) : Wr D (⟨d, .pick c x y, none⟩ :: os) K fr H := by
  subst ht; exact wr_op rfl (by simp only [iop, aop, hc, if_true]) hf h
theorem wr_pickF {c x y : Opd} {t : Bool} (hc : c.ev fr = .bool t) (ht : t = false) (hf : setd d (y.ev fr) fr = fr') (h : Wr D os K fr' H) : Wr D (⟨d, .pick c x y, none⟩ :: os) K fr H := by
  subst ht; exact wr_op rfl (by simp only [iop, aop, hc, Bool.false_eq_true, if_false]) hf h
theorem wr_nilck {x : Opd} {b o : Nat} (hx : x.ev fr = .ptr b o) (hf : setd d (.ptr b o) fr = fr') (h : Wr D os K fr' H) : Wr D (⟨d, .nilck x, none⟩ :: os) K fr H := wr_op rfl (by simp only [iop, aop, hx]) hf h
theorem wr_alloc {z : List AV} (hf : setd d (.ptr H.obs.length 0) fr = fr') (h : Wr D os K fr' (H.push (.cells z))) : Wr D (⟨d, .alloc z, none⟩ :: os) K fr H := wr_op rfl rfl hf h
theorem wr_store {n o : Nat} {a x : Opd} {c : List AV} {y : AV} (ha : a.ev fr = .ptr H.obs.length o) (hx : x.ev fr = y) (h1 : y.def? = true) (h2 : y.cells.length = n) (h3 : y.cells.all AV.isCell = true) (h4 : o + n ≤ c.length)
    {c' : List AV} (hc : splice c o y.cells = c') (h : Wr D os K fr (H.push (.cells c'))) : Wr D (⟨none, .store n a x, none⟩ :: os) K fr (H.push (.cells c)) := by
  subst hc
  exact wr_op rfl (iop_store_push ha hx h1 h2 h3 h4) rfl h
theorem wr_field {o : Nat} {x : Opd} {b p : Nat} (hx : x.ev fr = .ptr b p) (hf : setd d (.ptr b (p + o)) fr = fr') (h : Wr D os K fr' H) : Wr D (⟨d, .fieldAddr o x, none⟩ :: os) K fr H := wr_op rfl (by simp only [iop, aop, hx, aFieldAddr, Option.map_some]) hf h
theorem wr_load {n : Option Nat} {a : Opd} {y : AV} {v : AV} (ha : a.ev fr = y) (hl : aLoad n y H = some v) (hf : setd d v fr = fr') (h : Wr D os K fr' H) : Wr D (⟨d, .load n a, none⟩ :: os) K fr H := wr_op rfl (by simp only [iop, aop, ha, hl, Option.map_some]) hf h
theorem wr_len {k : LK} {x : Opd} {y v : AV} (hx : x.ev fr = y) (hl : aLen k y H = some v) (hf : setd d v fr = fr') (h : Wr D os K fr' H) : Wr D (⟨d, .len k x, none⟩ :: os) K fr H := wr_op rfl (by simp only [iop, aop, hx, hl, Option.map_some]) hf h
theorem wr_idx {s : Nat} {x i : Opd} {y j v : AV} (hx : x.ev fr = y) (hi : i.ev fr = j) (hl : aIdxAddr s y j = some v) (hf : setd d v fr = fr') (h : Wr D os K fr' H) : Wr D (⟨d, .idxAddr s x i, none⟩ :: os) K fr H := wr_op rfl (by simp only [iop, aop, hx, hi, hl, Option.map_some]) hf h
theorem wr_bin {op : BinOp} {x y : Opd} {v : AV} (hv : aBin op (x.ev fr) (y.ev fr) = some v) (hf : setd d v fr = fr') (h : Wr D os K fr' H) : Wr D (⟨d, .bin op x y, none⟩ :: os) K fr H := wr_op rfl (by simp only [iop, aop, hv, Option.map_some]) hf h
theorem wr_from {x lo : Opd} {l : List UInt8} {k : IntKind} {i : Int} (hx : x.ev fr = .str l) (hl : lo.ev fr = .int k i) (hb : 0 ≤ i ∧ i ≤ l.length) (hf : setd d (.str (l.drop i.toNat)) fr = fr') (h : Wr D os K fr' H) :
    Wr D (⟨d, .slcS x (some lo) none, none⟩ :: os) K fr H :=
  wr_op rfl (by simp only [iop, aop, hx, hl, Option.map_some, Option.map_none, aSlice, if_pos hb, List.take_length]) hf h
theorem wr_upto {x hi : Opd} {l : List UInt8} {k : IntKind} {j : Int} (hx : x.ev fr = .str l) (hh : hi.ev fr = .int k j) (hb : 0 ≤ j ∧ j ≤ l.length) (hf : setd d (.str (l.take j.toNat)) fr = fr') (h : Wr D os K fr' H) :
    Wr D (⟨d, .slcS x none (some hi), none⟩ :: os) K fr H :=
  wr_op rfl (by simp only [iop, aop, hx, hh, Option.map_some, Option.map_none, aSlice, if_pos hb, List.drop_zero]) hf h
theorem wr_part {x lo hi : Opd} {l : List UInt8} {k k' : IntKind} {i j : Int} (hx : x.ev fr = .str l) (hl : lo.ev fr = .int k i) (hh : hi.ev fr = .int k' j) (hb : 0 ≤ j ∧ j ≤ l.length ∧ 0 ≤ i ∧ i ≤ j) (hf : setd d (.str ((l.take j.toNat).drop i.toNat)) fr = fr')
    (h : Wr D os K fr' H) : Wr D (⟨d, .slcS x (some lo) (some hi), none⟩ :: os) K fr H :=
  wr_op rfl (by simp only [iop, aop, hx, hl, hh, Option.map_some, aSlice, if_pos hb]) hf h
theorem wr_byte {x i : Opd} {l : List UInt8} {k : IntKind} {n : Int} {b : UInt8} (hx : x.ev fr = .str l) (hi : i.ev fr = .int k n) (h0 : 0 ≤ n) (hb : l[n.toNat]? = some b) (hf : setd d (.int .u8 b.toNat) fr = fr') (h : Wr D os K fr' H) :
    Wr D (⟨d, .idxStr x i, none⟩ :: os) K fr H :=
  wr_op rfl (by simp only [iop, aop, hx, hi, if_pos h0, hb, Option.map_some]) hf h
end

/-! ### Rows that came by value -/
def IsRow {α : Type} (s : Nat) (f : α → AV) (v : AV) (l : List α) : Prop := (v = .nils ∧ l = []) ∨ ∃ t, v = .sl t s (l.map f)

theorem IsRow.len {α : Type} {s : Nat} {f : α → AV} {v : AV} {l : List α} (h : IsRow s f v l) (H : AH) : aLen .row v H = some (.int .i64 l.length) := by
  rcases h with ⟨rfl, rfl⟩ | ⟨t, rfl⟩ <;> simp [aLen]

theorem IsRow.at {α : Type} {s : Nat} {f : α → AV} {v : AV} {l : List α} (h : IsRow s f v l) {i : Nat} {x : α} (hi : l[i]? = some x) {k : IntKind} : aIdxAddr s v (.int k i) = some (.vp (f x).cells) := by
  rcases h with ⟨rfl, rfl⟩ | ⟨t, rfl⟩
  · simp at hi
  · simp [aIdxAddr, hi]

theorem IsRow.elems {α : Type} {s : Nat} {f : α → AV} {v : AV} {l : List α} (h : IsRow s f v l) (H : AH) : elems s v H = some (l.map f) := by
  rcases h with ⟨rfl, rfl⟩ | ⟨t, rfl⟩ <;> simp [SV.elems]

theorem wrap_small {n : Int} (h : -(2 ^ 63) ≤ n ∧ n < 2 ^ 63) : IntKind.i64.wrap n = n := by
  unfold IntKind.wrap; simp [IntKind.bits, IntKind.signed]; omega

end Go.SV
