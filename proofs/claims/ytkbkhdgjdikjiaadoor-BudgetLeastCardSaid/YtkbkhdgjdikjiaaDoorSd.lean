/- The abstract machine: operations over abstract values, and code. Own text of the prover; nothing is assumed. -/
import Derived.Test.YtkbkhdgjdikjiaaDoorSc
namespace Go.SV

inductive Opd where
  | tmp (t : Nat)
  | cst (v : AV)
  | fn (f : Nat)
  deriving Inhabited

def Opd.ev (fr : List AV) : Opd → AV
  | .tmp t => (fr[t]?).getD .undef
  | .cst v => v
  | .fn f => .fn (.func f) [] []

inductive EqK where
  | bool | slice | ptr | map | func | iface

/-- Kinds of scalars, and of keys. -/
inductive CK where
  | int | str | bool

inductive KeyK where
  | scal (k : CK)
  | struct (ks : List CK)

inductive LK where
  | str | row | map

inductive Mode where
  | ro | tok | ref

inductive IOp where
  | mov (x : Opd)
  | pick (c a b : Opd)
  | alloc (z : List AV)
  | box (x : Opd)
  | build (z : List AV) (ps : List (Nat × Nat × Opd))
  | lit (m : Mode) (s : Nat) (xs : List Opd)
  | load (n : Option Nat) (a : Opd)
  | store (n : Nat) (a x : Opd)
  | nilck (x : Opd)
  | bin (op : BinOp) (x y : Opd)
  | eqv (k : EqK) (neg : Bool) (x y : Opd)
  | eqAgg (ks : List CK) (neg : Bool) (x y : Opd)
  | not (x : Opd)
  | neg (x : Opd)
  | cvInt (k : IntKind) (x : Opd)
  | cvRune (x : Opd)
  | cvBytes (x : Opd)
  | cvStr (x : Opd)
  | cvMark (x : Opd)
  | cvSame (x : Opd)
  | mkIface (t : Nat) (x : Opd)
  | mkFn (f : Fn) (first cap : List Opd)
  | mkMap
  | make (m : Mode) (s bytes : Nat) (z : List AV) (l c : Opd)
  | slcS (x : Opd) (lo hi : Option Opd)
  | slc (s : Nat) (x : Opd) (lo hi : Option Opd)
  | fieldAddr (off : Nat) (x : Opd)
  | field (off : Nat) (n : Option Nat) (x : Opd)
  | idxAddr (s : Nat) (x i : Opd)
  | idxAddrArr (len s : Nat) (x i : Opd)
  | idxStr (x i : Opd)
  | idxArr (len s : Nat) (n : Option Nat) (x i : Opd)
  | lookup (K : KeyK) (z : AV) (ok : Bool) (m k : Opd)
  | mapUpd (K : KeyK) (m k v : Opd)
  | mapEntry (K : KeyK) (z : AV) (m k : Opd)
  | entrySt (m s v : Opd)
  | rangeS (x : Opd)
  | nextS (x : Opd)
  | extract (i : Nat) (x : Opd)
  | len (k : LK) (x : Opd)
  | append (m : Mode) (s bytes : Nat) (x y : Opd)
  | minmax (mx : Bool) (x : Opd) (xs : List Opd)
  | sealR (x : Opd)
  | call (ver : Nat) (f : Opd) (args : List Opd)

def AV.isCell : AV → Bool
  | .undef | .agg _ | .tup _ => false
  | _ => true

def AV.def? : AV → Bool
  | .undef => false
  | _ => true

def splice : List AV → Nat → List AV → List AV
  | c, _, [] => c
  | c, o, x :: xs => splice (c.set o x) (o + 1) xs

theorem splice_length (xs : List AV) : ∀ (c : List AV) (o : Nat), (splice c o xs).length = c.length := by
  induction xs with
  | nil => intro c o; rfl
  | cons x xs ih => intro c o; simp [splice, ih]

/-! ### Integers, strings, equality -/
def aBits (op : BinOp) (k : IntKind) (x y : Int) : Option Int :=
  match op with
  | .and => some (k.wrap (BitVec.ofInt k.bits x &&& BitVec.ofInt k.bits y).toNat)
  | .or => some (k.wrap (BitVec.ofInt k.bits x ||| BitVec.ofInt k.bits y).toNat)
  | .xor => some (k.wrap (BitVec.ofInt k.bits x ^^^ BitVec.ofInt k.bits y).toNat)
  | .andNot => some (k.wrap (BitVec.ofInt k.bits x &&& ~~~(BitVec.ofInt k.bits y)).toNat)
  | _ => none

def aInt (op : BinOp) (k : IntKind) (a b : Int) : Option AV :=
  match op with
  | .add => some (.int k (k.wrap (a + b)))
  | .sub => some (.int k (k.wrap (a - b)))
  | .mul => some (.int k (k.wrap (a * b)))
  | .quo => if b = 0 then none else some (.int k (k.wrap (a.tdiv b)))
  | .rem => if b = 0 then none else some (.int k (a.tmod b))
  | .eql => some (.bool (a == b))
  | .neq => some (.bool (a != b))
  | .lss => some (.bool (decide (a < b)))
  | .leq => some (.bool (decide (a ≤ b)))
  | .gtr => some (.bool (decide (a > b)))
  | .geq => some (.bool (decide (a ≥ b)))
  | op => (aBits op k a b).map (.int k)

def aStr (op : BinOp) (a b : List UInt8) : Option AV :=
  match op with
  | .add => if a.length + b.length ≤ 2 ^ 62 then some (.str (a ++ b)) else none
  | .eql => some (.bool (a == b))
  | .neq => some (.bool (!(a == b)))
  | .lss => some (.bool (Op.bytesLess a b))
  | .leq => some (.bool (Op.bytesLess a b || a == b))
  | .gtr => some (.bool (!(Op.bytesLess a b || a == b)))
  | .geq => some (.bool (!Op.bytesLess a b))
  | _ => none

def aShift (op : BinOp) (k : IntKind) (a b : Int) : Option AV :=
  if b < 0 then none else
  match op with
  | .shl => some (.int k (k.wrap (a * 2 ^ (min b.toNat k.bits))))
  | .shr => some (.int k (a.fdiv (2 ^ (min b.toNat k.bits))))
  | _ => none

def isShift : BinOp → Bool
  | .shl | .shr => true
  | _ => false

def aBin (op : BinOp) (x y : AV) : Option AV :=
  match x, y with
  | .int k a, .int k' b => if isShift op then aShift op k a b else if k = k' then aInt op k a b else none
  | .str a, .str b => aStr op a b
  | _, _ => none

def aEq (k : EqK) (x y : AV) : Option Bool :=
  match k, x, y with
  | .bool, .bool a, .bool b => some (a == b)
  | .slice, .nils, .nils => some true
  | .slice, .nils, .sl _ _ _ | .slice, .nils, .slr _ _ _ _ | .slice, .sl _ _ _, .nils | .slice, .slr _ _ _ _, .nils => some false
  | .ptr, .nilp, .nilp => some true
  | .ptr, .nilp, .ptr _ _ | .ptr, .nilp, .vp _ | .ptr, .ptr _ _, .nilp | .ptr, .vp _, .nilp => some false
  | .map, .nilm, .nilm => some true
  | .map, .nilm, .map _ | .map, .map _, .nilm => some false
  | .func, .nilf, .nilf => some true
  | .func, .nilf, .fn _ _ _ | .func, .fn _ _ _, .nilf => some false
  | .iface, .niliface, .iface _ _ | .iface, .iface _ _, .niliface => some false
  | _, _, _ => none

def cellEq (k : CK) (x y : AV) : Option Bool :=
  match k, x, y with
  | .int, .int k a, .int k' b => if k = k' then some (a == b) else none
  | .str, .str a, .str b => some (a == b)
  | .bool, .bool a, .bool b => some (a == b)
  | _, _, _ => none

def cellsEq : List CK → List AV → List AV → Option Bool
  | [], [], [] => some true
  | k :: ks, x :: xs, y :: ys => (cellEq k x y).bind fun b => (cellsEq ks xs ys).bind fun r => some (b && r)
  | _, _, _ => none

/-- Keys of maps: scalars, or structs of scalars. -/
def keyEq (K : KeyK) (x y : AV) : Option Bool :=
  match K with
  | .scal k => cellEq k x y
  | .struct ks => match x, y with
    | .agg xs, .agg ys => cellsEq ks xs ys
    | _, _ => none

def isKey (K : KeyK) (k : AV) : Bool := (keyEq K k k).isSome

def aFind (K : KeyK) (k : AV) : List (AV × AV × Nat) → Nat → Option (Option (Nat × AV))
  | [], _ => some none
  | e :: es, i =>
    match keyEq K k e.1 with
    | some true => some (some (i, e.2.1))
    | some false => aFind K k es (i + 1)
    | none => none

/-! ### Memory -/
def aLoad (n : Option Nat) (a : AV) (H : AH) : Option AV :=
  match a with
  | .ptr b o =>
    match H.get b with
    | .cells c => match n with
      | none => c[o]?
      | some n => if o + n ≤ c.length then some (.agg ((c.drop o).take n)) else none
    | _ => none
  | .vp cs => match n with
    | none => cs[0]?
    | some n => if n ≤ cs.length then some (.agg (cs.take n)) else none
  | _ => none

def aStore (n : Nat) (a x : AV) (H : AH) : Option AH :=
  match a with
  | .ptr b o =>
    match H.get b with
    | .cells c => if x.def? && x.cells.length == n && x.cells.all AV.isCell && decide (o + n ≤ c.length) then some ⟨H.obs.set b (.cells (splice c o x.cells)), H.toks⟩ else none
    | _ => none
  | _ => none

def allocCells (c : List AV) (H : AH) : Option (AV × AH) := some (.ptr H.obs.length 0, ⟨H.obs ++ [.cells c], H.toks⟩)

def aBuild : List AV → List (Nat × Nat × AV) → Option (List AV)
  | z, [] => some z
  | z, (off, n, x) :: ps => if x.def? && x.cells.length == n && decide (off + n ≤ z.length) then aBuild (splice z off x.cells) ps else none

def mkElem : List AV → AV
  | [x] => if x.isCell then x else .agg [x]
  | cs => .agg cs

theorem mkElem_cells (cs : List AV) : (mkElem cs).cells = cs := by
  unfold mkElem
  split
  · split
    · rename_i x h
      cases x <;> first | rfl | simp [AV.isCell] at h
    · rfl
  · rfl

/-- The elements of a row that came by value, or of a row that may be written, or the bytes of a string. -/
def elems (s : Nat) (x : AV) (H : AH) : Option (List AV) :=
  match x with
  | .nils => some []
  | .sl _ s' xs => if s' = s then some xs else none
  | .str l => some (l.map fun b => .int .u8 b.toNat)
  | .slr b o n s' => if s' = s then
      match H.get b with
      | .cells c => if o + n * s ≤ c.length then some ((List.range n).map fun i => mkElem ((c.drop (o + i * s)).take s)) else none
      | _ => none
    else none
  | _ => none

def elemsOk (s : Nat) (ys : List AV) : Bool := ys.all fun y => y.def? && y.cells.length == s && y.cells.all AV.isCell

def aAppend (m : Mode) (s bytes : Nat) (x y : AV) (H : AH) : Option (AV × AH) :=
  match elems s y H with
  | none => none
  | some ys =>
    if ys.isEmpty then (match x with | .nils | .sl _ _ _ | .slr _ _ _ _ => some (x, H) | _ => none) else
    if !elemsOk s ys then none else
    match m, x with
    | .ref, .nils => if ys.length * bytes ≤ 2 ^ 47 then some (.slr H.obs.length 0 ys.length s, ⟨H.obs ++ [.cells (ys.flatMap AV.cells)], H.toks⟩) else none
    | .ref, .slr b o n s' =>
      match H.get b with
      | .cells c => if s' = s ∧ o + n * s ≤ c.length ∧ (n + ys.length) * bytes ≤ 2 ^ 47
          then some (.slr H.obs.length 0 (n + ys.length) s, ⟨H.obs.set b .dead ++ [.cells ((c.drop o).take (n * s) ++ ys.flatMap AV.cells)], H.toks⟩) else none
      | _ => none
    | .ref, _ => none
    | _, .nils => if ys.length * bytes ≤ 2 ^ 47 then some (.sl H.toks.length s ys, ⟨H.obs, H.toks ++ [(ys.length, s)]⟩) else none
    | _, .sl t s' xs => if s' = s ∧ t ≠ 0 ∧ H.toks[t]? = some (xs.length, s) ∧ (xs.length + ys.length) * bytes ≤ 2 ^ 47
        then some (.sl t s (xs ++ ys), ⟨H.obs, H.toks.set t (xs.length + ys.length, s)⟩) else none
    | _, _ => none

def aSlice (s : Nat) (x : AV) (lo hi : Option AV) : Option AV :=
  let bd (n : Nat) : Option (Nat × Nat) :=
    match hi, lo with
    | none, none => some (0, n)
    | none, some (.int _ l) => if 0 ≤ l ∧ l ≤ n then some (l.toNat, n) else none
    | some (.int _ h), none => if 0 ≤ h ∧ h ≤ n then some (0, h.toNat) else none
    | some (.int _ h), some (.int _ l) => if 0 ≤ h ∧ h ≤ n ∧ 0 ≤ l ∧ l ≤ h then some (l.toNat, h.toNat) else none
    | _, _ => none
  match x with
  | .str l => (bd l.length).map fun (a, b) => .str ((l.take b).drop a)
  | .nils => (bd 0).map fun _ => .nils
  | .sl t s' xs => if s' = s then (bd xs.length).map fun (a, b) => .sl t s ((xs.take b).drop a) else none
  | .slr b o n s' => if s' = s then (bd n).map fun (a, h) => .slr b (o + a * s) (h - a) s else none
  | _ => none

def aIdxAddr (s : Nat) (x i : AV) : Option AV :=
  match x, i with
  | .sl _ s' xs, .int _ n => if s' = s ∧ 0 ≤ n then (xs[n.toNat]?).map fun y => .vp y.cells else none
  | .slr b o m s', .int _ n => if s' = s ∧ 0 ≤ n ∧ n < m then some (.ptr b (o + n.toNat * s)) else none
  | _, _ => none

def part (off : Nat) (n : Option Nat) (cs : List AV) : Option AV :=
  match n with
  | none => cs[off]?
  | some n => if off + n ≤ cs.length then some (.agg ((cs.drop off).take n)) else none

def aLen (k : LK) (x : AV) (H : AH) : Option AV :=
  match k, x with
  | .str, .str l => some (.int .i64 l.length)
  | .row, .nils => some (.int .i64 0)
  | .row, .sl _ _ xs => some (.int .i64 xs.length)
  | .row, .slr _ _ n _ => some (.int .i64 n)
  | .map, .nilm => some (.int .i64 0)
  | .map, .map b => match H.get b with
    | .map es _ => some (.int .i64 es.length)
    | _ => none
  | _, _ => none

def aMin (mx : Bool) (x y : AV) : Option AV :=
  match x, y with
  | .int k a, .int _ b => some (.int k (if mx then (if a < b then b else a) else (if b < a then b else a)))
  | _, _ => none

def aFold (mx : Bool) : AV → List AV → Option AV
  | x, [] => some x
  | x, y :: ys => (aMin mx x y).bind fun z => aFold mx z ys

def lookR (z : AV) (ok : Bool) : Option (Nat × AV) → AV
  | some (_, v) => if ok then .tup [v, .bool true] else v
  | none => if ok then .tup [z, .bool false] else z

def mapEs (m : AV) (H : AH) : Option (List (AV × AV × Nat)) :=
  match m with
  | .nilm => some []
  | .map b => match H.get b with
    | .map es _ => some es
    | _ => none
  | _ => none

def aLook (K : KeyK) (z : AV) (ok : Bool) (m k : AV) (H : AH) : Option AV :=
  match mapEs m H with
  | none => none
  | some es => if isKey K k then (aFind K k es 0).map (lookR z ok) else none

def aFieldAddr (off : Nat) (x : AV) : Option AV :=
  match x with
  | .ptr b o => some (.ptr b (o + off))
  | .vp cs => if off ≤ cs.length then some (.vp (cs.drop off)) else none
  | _ => none

def aIdxAddrArr (len s : Nat) (x i : AV) : Option AV :=
  match x, i with
  | .ptr b o, .int _ n => if 0 ≤ n ∧ n < len then some (.ptr b (o + n.toNat * s)) else none
  | .vp cs, .int _ n => if 0 ≤ n ∧ n < len then some (.vp (cs.drop (n.toNat * s))) else none
  | _, _ => none

def aop (fr : List AV) (op : IOp) (H : AH) : Option (AV × AH) :=
  let ret (x : Option AV) : Option (AV × AH) := x.map fun v => (v, H)
  match op with
  | .mov x => some (x.ev fr, H)
  | .pick c a b => match c.ev fr with
    | .bool t => some (if t then a.ev fr else b.ev fr, H)
    | _ => none
  | .alloc z => allocCells z H
  | .box x => if (x.ev fr).def? && (x.ev fr).cells.all AV.isCell then allocCells (x.ev fr).cells H else none
  | .build z ps => ret ((aBuild z (ps.map fun p => (p.1, p.2.1, p.2.2.ev fr))).map .agg)
  | .lit m s xs =>
    let ys := xs.map (Opd.ev fr)
    if !elemsOk s ys then none else
    match m with
    | .ro => some (.sl 0 s ys, H)
    | .tok => some (.sl H.toks.length s ys, ⟨H.obs, H.toks ++ [(ys.length, s)]⟩)
    | .ref => some (.slr H.obs.length 0 ys.length s, ⟨H.obs ++ [.cells (ys.flatMap AV.cells)], H.toks⟩)
  | .load n a => ret (aLoad n (a.ev fr) H)
  | .store n a x => (aStore n (a.ev fr) (x.ev fr) H).map fun H' => (.undef, H')
  | .nilck x => match x.ev fr with
    | .ptr _ _ | .vp _ => some (x.ev fr, H)
    | .fn (.func _) _ _ => some (x.ev fr, H)
    | .iface _ _ => some (x.ev fr, H)
    | _ => none
  | .bin op x y => ret (aBin op (x.ev fr) (y.ev fr))
  | .eqv k neg x y => ret ((aEq k (x.ev fr) (y.ev fr)).map fun b => .bool (if neg then !b else b))
  | .eqAgg ks neg x y => match x.ev fr, y.ev fr with
    | .agg xs, .agg ys => ret ((cellsEq ks xs ys).map fun b => .bool (if neg then !b else b))
    | _, _ => none
  | .not x => match x.ev fr with
    | .bool b => some (.bool (!b), H)
    | _ => none
  | .neg x => match x.ev fr with
    | .int k n => some (.int k (k.wrap (0 - n)), H)
    | _ => none
  | .cvInt k x => match x.ev fr with
    | .int _ n => some (.int k (k.wrap n), H)
    | _ => none
  | .cvRune x => match x.ev fr with
    | .int _ n => some (.str (Utf8.encode n).data.toList, H)
    | _ => none
  | .cvBytes x => match x.ev fr with
    | .str l => some (.sl 0 1 (l.map fun b => .int .u8 b.toNat), H)
    | _ => none
  | .cvStr x => match elems 1 (x.ev fr) H with
    | some xs => match x.ev fr with
      | .str _ => none
      | _ => if xs.all (fun | .int .u8 n => decide (0 ≤ n ∧ n < 256) | _ => false) then some (.str (xs.map fun | .int _ n => UInt8.ofNat n.toNat | _ => 0), H) else none
    | none => none
  | .cvSame x => match x.ev fr with
    | .str l => some (.str l, H)
    | _ => none
  | .cvMark x => match x.ev fr with
    | .slr b o n s => match H.get b with
      | .cells _ => some (.slr b o n s, H)
      | _ => none
    | _ => none
  | .mkIface t x => if (x.ev fr).def? then some (.iface t (x.ev fr), H) else none
  | .mkFn f first cap => some (.fn f (first.map (Opd.ev fr)) (cap.map (Opd.ev fr)), H)
  | .mkMap => some (.map H.obs.length, ⟨H.obs ++ [.map [] 0], H.toks⟩)
  | .make m s bytes z l c => match l.ev fr, c.ev fr with
    | .int _ l, .int _ c => if 0 ≤ l ∧ l ≤ c ∧ bytes * c ≤ 2 ^ 48 ∧ c < 2 ^ 62 ∧ z.length = s then
        some (match m with
          | .ref => (.slr H.obs.length 0 l.toNat s, ⟨H.obs ++ [.cells ((List.replicate c.toNat z).flatten)], H.toks⟩)
          | .tok => (.sl H.toks.length s (List.replicate l.toNat (mkElem z)), ⟨H.obs, H.toks ++ [(l.toNat, s)]⟩)
          | .ro => (.sl 0 s (List.replicate l.toNat (mkElem z)), H)) else none
    | _, _ => none
  | .slcS x lo hi => match x.ev fr with
    | .str l => ret (aSlice 0 (.str l) (lo.map (Opd.ev fr)) (hi.map (Opd.ev fr)))
    | _ => none
  | .slc s x lo hi => match x.ev fr with
    | .str _ => none
    | x => ret (aSlice s x (lo.map (Opd.ev fr)) (hi.map (Opd.ev fr)))
  | .fieldAddr off x => ret (aFieldAddr off (x.ev fr))
  | .field off n x => match x.ev fr with
    | .agg cs => ret (part off n cs)
    | _ => none
  | .idxAddr s x i => ret (aIdxAddr s (x.ev fr) (i.ev fr))
  | .idxAddrArr len s x i => ret (aIdxAddrArr len s (x.ev fr) (i.ev fr))
  | .idxStr x i => match x.ev fr, i.ev fr with
    | .str l, .int _ n => if 0 ≤ n then ret ((l[n.toNat]?).map fun b => .int .u8 b.toNat) else none
    | _, _ => none
  | .idxArr len s n x i => match x.ev fr, i.ev fr with
    | .agg cs, .int _ j => if 0 ≤ j ∧ j < len then ret (part (j.toNat * s) n cs) else none
    | _, _ => none
  | .lookup K z ok m k => ret (aLook K z ok (m.ev fr) (k.ev fr) H)
  | .mapUpd K m k v => match m.ev fr with
    | .map b => match H.get b with
      | .map es clk => if isKey K (k.ev fr) && (v.ev fr).def? then (aFind K (k.ev fr) es 0).map fun
        | some (i, _) => (.undef, ⟨H.obs.set b (.map (es.modify i fun e => (k.ev fr, v.ev fr, e.2.2)) clk), H.toks⟩)
        | none => (.undef, ⟨H.obs.set b (.map (es ++ [(k.ev fr, v.ev fr, clk)]) (clk + 1)), H.toks⟩) else none
      | _ => none
    | _ => none
  | .mapEntry K z m k => match m.ev fr with
    | .map b => match H.get b with
      | .map es clk => if isKey K (k.ev fr) then (aFind K (k.ev fr) es 0).map fun
        | some (i, v) => (.tup [v, .int .i64 (((es[i]?).map (·.2.2)).getD 0)], ⟨H.obs.set b (.map (es.modify i fun e => (k.ev fr, e.2.1, e.2.2)) clk), H.toks⟩)
        | none => (.tup [z, .int .i64 clk], ⟨H.obs.set b (.map (es ++ [(k.ev fr, z, clk)]) (clk + 1)), H.toks⟩) else none
      | _ => none
    | _ => none
  | .entrySt m s v => match m.ev fr, s.ev fr with
    | .map b, .int _ n => match H.get b with
      | .map es clk => if (v.ev fr).def? then match es.findIdx? (fun e => ((e.2.2 : Nat) : Int) == n) with
        | some i => some (.undef, ⟨H.obs.set b (.map (es.modify i fun e => (e.1, v.ev fr, e.2.2)) clk), H.toks⟩)
        | none => none else none
      | _ => none
    | _, _ => none
  | .rangeS x => match x.ev fr with
    | .str l => some (.ptr H.obs.length 0, ⟨H.obs ++ [.iter l 0], H.toks⟩)
    | _ => none
  | .nextS x => match x.ev fr with
    | .ptr b 0 => match H.get b with
      | .iter l pos => if pos < l.length then
          some (.tup [.bool true, .int .i64 pos, .int .i32 (Utf8.decode ⟨l.toArray⟩ pos).1], ⟨H.obs.set b (.iter l (pos + (Utf8.decode ⟨l.toArray⟩ pos).2)), H.toks⟩)
        else some (.tup [.bool false], H)
      | _ => none
    | _ => none
  | .extract i x => match x.ev fr with
    | .tup vs => ret (vs[i]?)
    | _ => none
  | .len k x => ret (aLen k (x.ev fr) H)
  | .append m s bytes x y => aAppend m s bytes (x.ev fr) (y.ev fr) H
  | .minmax mx x xs => ret (aFold mx (x.ev fr) (xs.map (Opd.ev fr)))
  | .sealR x => match x.ev fr with
    | .slr b o n s => match elems s (.slr b o n s) H with
      | some ys => if 0 < s ∧ elemsOk s ys then some (.sl 0 s ys, ⟨H.obs.set b .dead, H.toks⟩) else none
      | none => none
    | _ => none
  | .call _ _ _ => none

/-! ### Code -/
structure IOper where
  dst : Option Nat
  op : IOp
  guard : Option (Nat × Bool)

def setd (d : Option Nat) (v : AV) (fr : List AV) : List AV :=
  match d with
  | some d => fr.set d v
  | none => fr

def want (g : Option (Nat × Bool)) (fr : List AV) : Option Bool :=
  match g with
  | none => some true
  | some (t, b) => match fr[t]? with
    | some (.bool c) => some (c == b)
    | some (.tup []) => some false
    | _ => none

abbrev Den := Nat → List AV → AH → Option (AV × AH)

def iop (D : Den) (fr : List AV) (op : IOp) (H : AH) : Option (AV × AH) :=
  match op with
  | .call ver f args => match f.ev fr with
    | .fn (.func k) first cap => if k < 100000 then D (k + ver * 100000) (first ++ args.map (Opd.ev fr) ++ cap) H else none
    | _ => none
  | op => aop fr op H

def iops (D : Den) : List IOper → List AV → AH → Option (List AV × AH)
  | [], fr, H => some (fr, H)
  | o :: os, fr, H =>
    match want o.guard fr with
    | some true => match iop D fr o.op H with
      | some (v, H') => iops D os (setd o.dst v fr) H'
      | none => none
    | some false => iops D os (setd o.dst (.tup []) fr) H
    | none => none

end Go.SV
