/- The program's functions as formulas; each is checked by the kernel against its translation. Printed by a program of the prover's own. -/
import Derived.Test.YtkbkhdgjdikjiaaGreatDoorIr
set_option maxRecDepth 100000
namespace Go.SV
open Go.Proofs

variable {T : Nat → Option Entry}

-- grille/grillelaw10.FlattenBack
def w4 (D : Den) (Q : AV → AH → Prop) (x0 : AV) (H : AH) : Prop :=
 cP D 13 [] H fun x10 H1 =>
 gP (aNot x10) fun x11 =>
 iP x11
 ( Q (.bool false) H1)
 ( cP D 7 [x0] H1 fun x13 H2 =>
 iP x13
 ( Q (.bool true) H2)
 ( cP D 8 [x0] H2 fun x15 H3 =>
 cP D 14 [x15] H3 fun x18 H4 =>
 gP (aExtract 0 x18) fun x19 =>
 gP (aExtract 1 x18) fun x20 =>
 gP (aBin .neq x20 (.int .i64 0)) fun x22 =>
 iP x22
 ( gP (aLen .row x19 H4) fun x24 =>
 gP (aBin .eql x24 (.int .i64 0)) fun x25 =>
 Q x25 H4)
 ( cP D 15 [x19] H4 fun x28 H5 =>
 gP (aExtract 0 x28) fun x29 =>
 gP (aExtract 1 x28) fun x30 =>
 jP 1 (fun x44 H6 =>
 iP x44
 ( Q (.bool false) H6)
 ( gP (aLen .row x29 H6) fun x46 =>
 lP 1 (fun s1 x47 H7 =>
 gP (aBin .lss x47 x46) fun x48 =>
 iP x48
 ( gP (aIdxAddr 1 x29 x47) fun x50 =>
 gP (aLoad none x50 H7) fun x51 =>
 cP D 18 [x51] H7 fun x53 H8 =>
 gP (aIdxAddr 1 x15 x47) fun x56 =>
 gP (aLoad none x56 H8) fun x57 =>
 cP D 19 [x57] H8 fun x58 H9 =>
 cP D 18 [x58] H9 fun x59 H10 =>
 cP D 17 [x53, x59] H10 fun x60 H11 =>
 gP (aNot x60) fun x61 =>
 (sameR (.load none (.cst x56)) H8 H7) ∧
 iP x61
 ( Q (.bool false) H11)
 ( gP (aBin .add x47 (.int .i64 1)) fun x62 =>
 s1 x62 H11))
 ( Q (.bool true) H7)) [(.int .i64 0)] H6)) fun j2 =>
 gP (aBin .neq x30 (.int .i64 0)) fun x32 =>
 dP x32 false
 ( gP (aLen .row x29 H5) fun x35 =>
 gP (aLen .row x15 H5) fun x37 =>
 gP (aBin .neq x35 x37) fun x38 =>
 dP x38 false
 ( cP D 16 [x19] H5 fun x42 H12 =>
 gP (aNot x42) fun x43 =>
 j2 x43 H12)
 ( j2 (.bool true) H5))
 ( j2 (.bool true) H5))))
theorem w4_eq : w4 = fun D Q x0 H => wpF D ir4 [x0] H Q := by kernel_rfl
theorem w4_ok (hT : Has T) {x0 : AV} {H : AH} {Q : AV → AH → Prop} (h : w4 (Den.of T) Q x0 H) : ∃ v H', Den.of T 4 [x0] H = some (v, H') ∧ Q v H' :=
  wpF_ok (hT _ ir4 rfl) (by rw [w4_eq] at h; exact h)

-- grille/grillelaw10.Heavy
def w7 (D : Den) (Q : AV → AH → Prop) (x0 : AV) (H : AH) : Prop :=
 gP (aLen .row x0 H) fun x6 =>
 lP 1 (fun s1 x7 H1 =>
 gP (aBin .lss x7 x6) fun x8 =>
 iP x8
 ( gP (aIdxAddr 1 x0 x7) fun x9 =>
 gP (aLoad none x9 H1) fun x10 =>
 cP D 32 [x10] H1 fun x12 H2 =>
 iP x12
 ( Q (.bool true) H2)
 ( gP (aBin .add x7 (.int .i64 1)) fun x13 =>
 s1 x13 H2))
 ( gP (aLen .row x0 H1) fun x15 =>
 gP (aBin .gtr x15 (.int .i64 5)) fun x16 =>
 Q x16 H1)) [(.int .i64 0)] H
theorem w7_eq : w7 = fun D Q x0 H => wpF D ir7 [x0] H Q := by kernel_rfl
theorem w7_ok (hT : Has T) {x0 : AV} {H : AH} {Q : AV → AH → Prop} (h : w7 (Den.of T) Q x0 H) : ∃ v H', Den.of T 7 [x0] H = some (v, H') ∧ Q v H' :=
  wpF_ok (hT _ ir7 rfl) (by rw [w7_eq] at h; exact h)

-- grille/grillelaw10.Theirs
def w8 (D : Den) (Q : AV → AH → Prop) (x0 : AV) (H : AH) : Prop :=
 gP (aLen .row x0 H) fun x7 =>
 lP 2 (fun s1 x3 x8 H1 =>
 gP (aBin .lss x8 x7) fun x9 =>
 iP x9
 ( gP (aIdxAddr 1 x0 x8) fun x10 =>
 gP (aLoad none x10 H1) fun x11 =>
 cP D 33 [x11] H1 fun x14 H2 =>
 sP (aLit .ro 1 [x14] H2) fun x15 H3 =>
 sP (aAppend .tok 1 24 x3 x15 H3) fun x16 H4 =>
 gP (aBin .add x8 (.int .i64 1)) fun x17 =>
 s1 x16 x17 H4)
 ( Q x3 H1)) [.nils, (.int .i64 0)] H
theorem w8_eq : w8 = fun D Q x0 H => wpF D ir8 [x0] H Q := by kernel_rfl
theorem w8_ok (hT : Has T) {x0 : AV} {H : AH} {Q : AV → AH → Prop} (h : w8 (Den.of T) Q x0 H) : ∃ v H', Den.of T 8 [x0] H = some (v, H') ∧ Q v H' :=
  wpF_ok (hT _ ir8 rfl) (by rw [w8_eq] at h; exact h)

-- grille/grillelaw10.alive
def w13 (D : Den) (Q : AV → AH → Prop) (H : AH) : Prop :=
 sP (aLit .ro 1 [(.int .i64 0)] H) fun x5 H1 =>
 gP ((aBuild [(.int .i64 0), (.str []), (.str []), .nils] [(0, 1, (.int .i64 1)), (1, 1, (.str [115, 101, 113])), (3, 1, x5)]).map .agg) fun x6 =>
 sP (aLit .ro 4 [x6] H1) fun x7 H2 =>
 sP (aLit .ro 1 [x7] H2) fun x8 H3 =>
 cP D 14 [x8] H3 fun x9 H4 =>
 gP (aExtract 0 x9) fun x10 =>
 gP (aExtract 1 x9) fun x11 =>
 gP ((aBuild [(.int .i64 0), (.str []), (.str []), .nils] [(1, 1, (.str [115, 116, 114])), (2, 1, (.str [53]))]).map .agg) fun x12 =>
 cP D 23 [x12] H4 fun x13 H5 =>
 aP [(.int .i64 0), (.str []), (.str []), (.str []), (.bool false)] H5 fun x3 H6 =>
 hP (aStore 5 x3 x13 H6) fun H7 =>
 gP (aLen .row x10 H7) fun x15 =>
 gP (aBin .eql x15 (.int .i64 5)) fun x16 =>
 dP x16 true
 ( gP (aIdxAddr 5 x10 (.int .i64 1)) fun x19 =>
 gP (aLoad (some 5) x19 H7) fun x20 =>
 gP ((aBuild [(.int .i64 0), (.str []), (.str []), (.str []), (.bool false)] [(0, 1, (.int .i64 2)), (1, 1, (.str [97, 49]))]).map .agg) fun x21 =>
 sP (aop [] (.eqAgg [.int, .str, .str, .str, .bool] false (.cst x20) (.cst x21)) H7) fun x22 H8 =>
 dP x22 true
 ( gP (aIdxAddr 5 x10 (.int .i64 2)) fun x26 =>
 gP (aLoad (some 5) x26 H8) fun x27 =>
 gP ((aBuild [(.int .i64 0), (.str []), (.str []), (.str []), (.bool false)] [(0, 1, (.int .i64 7)), (1, 1, (.str [97, 49]))]).map .agg) fun x28 =>
 sP (aop [] (.eqAgg [.int, .str, .str, .str, .bool] false (.cst x27) (.cst x28)) H8) fun x29 H9 =>
 dP x29 true
 ( gP (aBin .eql x11 (.int .i64 0)) fun x33 =>
 dP x33 true
 ( gP (aLoad (some 5) x3 H9) fun x36 =>
 gP ((aBuild [(.int .i64 0), (.str []), (.str []), (.str []), (.bool false)] [(0, 1, (.int .i64 6)), (3, 1, (.str [53]))]).map .agg) fun x37 =>
 sP (aop [] (.eqAgg [.int, .str, .str, .str, .bool] false (.cst x36) (.cst x37)) H9) fun x38 H10 =>
 dP x38 true
 ( gP ((aBuild [(.int .i64 0), (.str []), (.str []), .nils] [(0, 1, (.int .i64 2)), (1, 1, (.str [109, 97, 112]))]).map .agg) fun x41 =>
 sP (aLit .ro 4 [x41] H10) fun x42 H11 =>
 cP D 21 [x42] H11 fun x43 H12 =>
 gP (aBin .eql x43 (.int .i64 1)) fun x44 =>
 Q x44 H12)
 ( Q (.bool false) H10))
 ( Q (.bool false) H9))
 ( Q (.bool false) H9))
 ( Q (.bool false) H8))
 ( Q (.bool false) H7)
theorem w13_eq : w13 = fun D Q H => wpF D ir13 [] H Q := by kernel_rfl
theorem w13_ok (hT : Has T) {H : AH} {Q : AV → AH → Prop} (h : w13 (Den.of T) Q H) : ∃ v H', Den.of T 13 [] H = some (v, H') ∧ Q v H' :=
  wpF_ok (hT _ ir13 rfl) (by rw [w13_eq] at h; exact h)

-- grille/flatten.Events
def w14 (D : Den) (Q : AV → AH → Prop) (x0 : AV) (H : AH) : Prop :=
 gP (aLen .row x0 H) fun x10 =>
 lP 2 (fun s1 x2 x11 H1 =>
 gP (aBin .lss x11 x10) fun x12 =>
 iP x12
 ( gP (aIdxAddr 1 x0 x11) fun x13 =>
 gP (aLoad none x13 H1) fun x14 =>
 cP D 37 [x14] H1 fun x16 H2 =>
 gP (aNot x16) fun x17 =>
 iP x17
 ( Q (.tup [.nils, (.int .i64 5)]) H2)
 ( gP (aBin .add x11 (.int .i64 1)) fun x18 =>
 s1 x2 x18 H2))
 ( gP (aLen .row x0 H1) fun x20 =>
 lP 2 (fun s2 x2_1 x21 H3 =>
 gP (aBin .lss x21 x20) fun x22 =>
 iP x22
 ( gP (aIdxAddr 1 x0 x21) fun x23 =>
 gP (aLoad none x23 H3) fun x24 =>
 cP D 43 [x24] H3 fun x26 H4 =>
 gP (aNilck x26) fun x28 =>
 gP (aFieldAddr 5 x28) fun x29 =>
 gP (aLoad none x29 H4) fun x30 =>
 gP (aBin .gtr x30 (.int .i64 40)) fun x31 =>
 iP x31
 ( Q (.tup [.nils, (.int .i64 13)]) H4)
 ( gP ((aBuild [(.int .i64 0), (.str []), (.str []), (.str []), (.bool false)] [(0, 1, (.int .i64 0))]).map .agg) fun x33 =>
 sP (aLit .ro 5 [x33] H4) fun x34 H5 =>
 sP (aAppend .tok 5 64 x2_1 x34 H5) fun x35 H6 =>
 gP (aNilck x26) fun x37 =>
 gP (aFieldAddr 1 x37) fun x38 =>
 gP (aLoad none x38 H6) fun x39 =>
 sP (aAppend .tok 5 64 x35 x39 H6) fun x40 H7 =>
 gP ((aBuild [(.int .i64 0), (.str []), (.str []), (.str []), (.bool false)] [(0, 1, (.int .i64 1))]).map .agg) fun x41 =>
 sP (aLit .ro 5 [x41] H7) fun x42 H8 =>
 sP (aAppend .tok 5 64 x40 x42 H8) fun x43 H9 =>
 (sameR (.load none (.cst x38)) H6 H5) ∧
 gP (aBin .add x21 (.int .i64 1)) fun x44 =>
 s2 x43 x44 H9))
 ( Q (.tup [x2_1, (.int .i64 0)]) H3)) [x2, (.int .i64 0)] H1)) [.nils, (.int .i64 0)] H
theorem w14_eq : w14 = fun D Q x0 H => wpF D ir14 [x0] H Q := by kernel_rfl
theorem w14_ok (hT : Has T) {x0 : AV} {H : AH} {Q : AV → AH → Prop} (h : w14 (Den.of T) Q x0 H) : ∃ v H', Den.of T 14 [x0] H = some (v, H') ∧ Q v H' :=
  wpF_ok (hT _ ir14 rfl) (by rw [w14_eq] at h; exact h)

-- grille/compose.Graphs
def w15 (D : Den) (Q : AV → AH → Prop) (x0 : AV) (H : AH) : Prop :=
 cP D 16 [x0] H fun x10 H1 =>
 gP (aNot x10) fun x11 =>
 iP x11
 ( Q (.tup [.nils, (.int .i64 5)]) H1)
 ( gP ((aBuild [.nils, .nils, .nilm] []).map .agg) fun x12 =>
 sP (aop [] (.box (.cst x12)) H1) fun x13 H2 =>
 gP (aLen .row x0 H2) fun x15 =>
 lP 2 (fun s1 x2 x16 H3 =>
 gP (aBin .lss x16 x15) fun x17 =>
 iP x17
 ( jP 1 (fun x2_1 H4 =>
 gP (aBin .add x16 (.int .i64 1)) fun x37 =>
 s1 x2_1 x37 H4) fun j2 =>
 gP (aIdxAddr 5 x0 x16) fun x18 =>
 gP (aLoad (some 5) x18 H3) fun x19 =>
 aP [(.int .i64 0), (.str []), (.str []), (.str []), (.bool false)] H3 fun x6 H5 =>
 hP (aStore 5 x6 x19 H5) fun H6 =>
 gP (aLoad (some 5) x6 H6) fun x22 =>
 cP D 44 [x13, x22] H6 fun x23 H7 =>
 gP (aExtract 0 x23) fun x24 =>
 gP (aExtract 1 x23) fun x25 =>
 gP (aBin .neq x25 (.int .i64 0)) fun x27 =>
 iP x27
 ( Q (.tup [.nils, x25]) H7)
 ( iP x24
 ( gP (aNilck x13) fun x32 =>
 gP (aFieldAddr 0 x32) fun x33 =>
 gP (aLoad none x33 H7) fun x34 =>
 sP (aLit .ro 1 [x34] H7) fun x35 H8 =>
 sP (aAppend .tok 1 24 x2 x35 H8) fun x36 H9 =>
 j2 x36 H9)
 ( j2 x2 H7)))
 ( Q (.tup [x2, (.int .i64 0)]) H3)) [.nils, (.int .i64 0)] H2)
theorem w15_eq : w15 = fun D Q x0 H => wpF D ir15 [x0] H Q := by kernel_rfl
theorem w15_ok (hT : Has T) {x0 : AV} {H : AH} {Q : AV → AH → Prop} (h : w15 (Den.of T) Q x0 H) : ∃ v H', Den.of T 15 [x0] H = some (v, H') ∧ Q v H' :=
  wpF_ok (hT _ ir15 rfl) (by rw [w15_eq] at h; exact h)

-- grille/event.Right
def w16 (D : Den) (Q : AV → AH → Prop) (x0 : AV) (H : AH) : Prop :=
 gP ((aBuild [.nils] []).map .agg) fun x6 =>
 sP (aop [] (.box (.cst x6)) H) fun x7 H1 =>
 gP (aLen .row x0 H1) fun x9 =>
 lP 1 (fun s1 x10 H2 =>
 gP (aBin .lss x10 x9) fun x11 =>
 iP x11
 ( gP (aIdxAddr 5 x0 x10) fun x12 =>
 gP (aLoad (some 5) x12 H2) fun x13 =>
 aP [(.int .i64 0), (.str []), (.str []), (.str []), (.bool false)] H2 fun x5 H3 =>
 hP (aStore 5 x5 x13 H3) fun H4 =>
 jP 1 (fun x22 H5 =>
 iP x22
 ( Q (.bool false) H5)
 ( gP (aBin .add x10 (.int .i64 1)) fun x23 =>
 s1 x23 H5)) fun j2 =>
 gP (aLoad (some 5) x5 H4) fun x14 =>
 cP D 45 [x14] H4 fun x15 H6 =>
 gP (aNot x15) fun x16 =>
 dP x16 false
 ( gP (aLoad (some 5) x5 H6) fun x19 =>
 cP D 46 [x7, x19] H6 fun x20 H7 =>
 gP (aNot x20) fun x21 =>
 j2 x21 H7)
 ( j2 (.bool true) H6))
 ( gP (aNilck x7) fun x25 =>
 gP (aFieldAddr 0 x25) fun x26 =>
 gP (aLoad none x26 H2) fun x27 =>
 gP (aLen .row x27 H2) fun x28 =>
 gP (aBin .eql x28 (.int .i64 0)) fun x29 =>
 dP x29 true
 ( cP D 47 [x0] H2 fun x32 H8 =>
 gP (aBin .leq x32 (.int .i64 40)) fun x33 =>
 Q x33 H8)
 ( Q (.bool false) H2))) [(.int .i64 0)] H1
theorem w16_eq : w16 = fun D Q x0 H => wpF D ir16 [x0] H Q := by kernel_rfl
theorem w16_ok (hT : Has T) {x0 : AV} {H : AH} {Q : AV → AH → Prop} (h : w16 (Den.of T) Q x0 H) : ∃ v H', Den.of T 16 [x0] H = some (v, H') ∧ Q v H' :=
  wpF_ok (hT _ ir16 rfl) (by rw [w16_eq] at h; exact h)

-- grille/grilleref08.Equal
def w17 (D : Den) (Q : AV → AH → Prop) (x0 x1 : AV) (H : AH) : Prop :=
 gP (aLen .row x0 H) fun x8 =>
 gP (aLen .row x1 H) fun x10 =>
 gP (aBin .neq x8 x10) fun x11 =>
 iP x11
 ( Q (.bool false) H)
 ( lP 1 (fun s1 x5 H1 =>
 gP (aLen .row x0 H1) fun x14 =>
 gP (aBin .lss x5 x14) fun x15 =>
 iP x15
 ( jP 1 (fun x69 H2 =>
 iP x69
 ( Q (.bool false) H2)
 ( lP 1 (fun s2 x6 H3 =>
 gP (aIdxAddr 4 x0 x5) fun x73 =>
 gP (aFieldAddr 3 x73) fun x74 =>
 gP (aLoad none x74 H3) fun x75 =>
 gP (aLen .row x75 H3) fun x76 =>
 gP (aBin .lss x6 x76) fun x77 =>
 iP x77
 ( gP (aIdxAddr 4 x0 x5) fun x82 =>
 gP (aFieldAddr 3 x82) fun x83 =>
 gP (aLoad none x83 H3) fun x84 =>
 gP (aIdxAddr 1 x84 x6) fun x86 =>
 gP (aLoad none x86 H3) fun x87 =>
 gP (aIdxAddr 4 x1 x5) fun x90 =>
 gP (aFieldAddr 3 x90) fun x91 =>
 gP (aLoad none x91 H3) fun x92 =>
 gP (aIdxAddr 1 x92 x6) fun x94 =>
 gP (aLoad none x94 H3) fun x95 =>
 gP (aBin .neq x87 x95) fun x96 =>
 iP x96
 ( Q (.bool false) H3)
 ( gP (aBin .add x6 (.int .i64 1)) fun x79 =>
 s2 x79 H3))
 ( gP (aBin .add x5 (.int .i64 1)) fun x17 =>
 s1 x17 H3)) [(.int .i64 0)] H2)) fun j3 =>
 gP (aIdxAddr 4 x0 x5) fun x20 =>
 gP (aFieldAddr 0 x20) fun x21 =>
 gP (aLoad none x21 H1) fun x22 =>
 gP (aIdxAddr 4 x1 x5) fun x25 =>
 gP (aFieldAddr 0 x25) fun x26 =>
 gP (aLoad none x26 H1) fun x27 =>
 gP (aBin .neq x22 x27) fun x28 =>
 dP x28 false
 ( gP (aIdxAddr 4 x0 x5) fun x32 =>
 gP (aFieldAddr 1 x32) fun x33 =>
 gP (aLoad none x33 H1) fun x34 =>
 gP (aIdxAddr 4 x1 x5) fun x37 =>
 gP (aFieldAddr 1 x37) fun x38 =>
 gP (aLoad none x38 H1) fun x39 =>
 gP (aBin .neq x34 x39) fun x40 =>
 dP x40 false
 ( gP (aIdxAddr 4 x0 x5) fun x45 =>
 gP (aFieldAddr 2 x45) fun x46 =>
 gP (aLoad none x46 H1) fun x47 =>
 gP (aIdxAddr 4 x1 x5) fun x50 =>
 gP (aFieldAddr 2 x50) fun x51 =>
 gP (aLoad none x51 H1) fun x52 =>
 gP (aBin .neq x47 x52) fun x53 =>
 dP x53 false
 ( gP (aIdxAddr 4 x0 x5) fun x58 =>
 gP (aFieldAddr 3 x58) fun x59 =>
 gP (aLoad none x59 H1) fun x60 =>
 gP (aLen .row x60 H1) fun x61 =>
 gP (aIdxAddr 4 x1 x5) fun x64 =>
 gP (aFieldAddr 3 x64) fun x65 =>
 gP (aLoad none x65 H1) fun x66 =>
 gP (aLen .row x66 H1) fun x67 =>
 gP (aBin .neq x61 x67) fun x68 =>
 j3 x68 H1)
 ( j3 (.bool true) H1))
 ( j3 (.bool true) H1))
 ( j3 (.bool true) H1))
 ( Q (.bool true) H1)) [(.int .i64 0)] H)
theorem w17_eq : w17 = fun D Q x0 x1 H => wpF D ir17 [x0, x1] H Q := by kernel_rfl
theorem w17_ok (hT : Has T) {x0 x1 : AV} {H : AH} {Q : AV → AH → Prop} (h : w17 (Den.of T) Q x0 x1 H) : ∃ v H', Den.of T 17 [x0, x1] H = some (v, H') ∧ Q v H' :=
  wpF_ok (hT _ ir17 rfl) (by rw [w17_eq] at h; exact h)

-- grille/grillelaw08.Ours
def w18 (D : Den) (Q : AV → AH → Prop) (x0 : AV) (H : AH) : Prop :=
 gP (aLen .row x0 H) fun x7 =>
 lP 2 (fun s1 x3 x8 H1 =>
 gP (aBin .lss x8 x7) fun x9 =>
 iP x9
 ( gP (aIdxAddr 4 x0 x8) fun x10 =>
 gP (aLoad (some 4) x10 H1) fun x11 =>
 aP [(.int .i64 0), (.str []), (.str []), .nils] H1 fun x5 H2 =>
 hP (aStore 4 x5 x11 H2) fun H3 =>
 gP (aFieldAddr 0 x5) fun x13 =>
 gP (aLoad none x13 H3) fun x14 =>
 gP (aFieldAddr 1 x5) fun x15 =>
 gP (aLoad none x15 H3) fun x16 =>
 gP (aFieldAddr 2 x5) fun x17 =>
 gP (aLoad none x17 H3) fun x18 =>
 gP (aFieldAddr 3 x5) fun x19 =>
 gP (aLoad none x19 H3) fun x20 =>
 cP D 48 [x20] H3 fun x21 H4 =>
 gP ((aBuild [(.int .i64 0), (.str []), (.str []), .nils] [(0, 1, x14), (1, 1, x16), (2, 1, x18), (3, 1, x21)]).map .agg) fun x22 =>
 sP (aLit .ro 4 [x22] H4) fun x23 H5 =>
 sP (aAppend .tok 4 64 x3 x23 H5) fun x24 H6 =>
 (sameR (.load none (.cst x13)) H4 H3) ∧
 (sameR (.load none (.cst x15)) H4 H3) ∧
 (sameR (.load none (.cst x17)) H4 H3) ∧
 gP (aBin .add x8 (.int .i64 1)) fun x25 =>
 s1 x24 x25 H6)
 ( Q x3 H1)) [.nils, (.int .i64 0)] H
theorem w18_eq : w18 = fun D Q x0 H => wpF D ir18 [x0] H Q := by kernel_rfl
theorem w18_ok (hT : Has T) {x0 : AV} {H : AH} {Q : AV → AH → Prop} (h : w18 (Den.of T) Q x0 H) : ∃ v H', Den.of T 18 [x0] H = some (v, H') ∧ Q v H' :=
  wpF_ok (hT _ ir18 rfl) (by rw [w18_eq] at h; exact h)

-- grille/arena.Normal
def w19 (D : Den) (Q : AV → AH → Prop) (x0 : AV) (H : AH) : Prop :=
 cP D 34 [x0] H fun x14 H1 =>
 gP (aLen .row x0 H1) fun x16 =>
 sP (aop [] (.make .ref 1 8 [(.int .i64 0)] (.cst x16) (.cst x16)) H1) fun x17 H2 =>
 gP (aLen .row x14 H2) fun x19 =>
 lP 1 (fun s1 x20 H3 =>
 gP (aBin .lss x20 x19) fun x21 =>
 iP x21
 ( gP (aIdxAddr 1 x14 x20) fun x23 =>
 gP (aLoad none x23 H3) fun x24 =>
 gP (aIdxAddr 1 x17 x24) fun x28 =>
 hP (aStore 1 x28 x20 H3) fun H4 =>
 gP (aBin .add x20 (.int .i64 1)) fun x29 =>
 s1 x29 H4)
 ( gP (aLen .row x14 H3) fun x31 =>
 lP 2 (fun s2 x7 x32 H5 =>
 gP (aBin .lss x32 x31) fun x33 =>
 iP x33
 ( gP (aIdxAddr 1 x14 x32) fun x34 =>
 gP (aLoad none x34 H5) fun x35 =>
 gP (aIdxAddr 4 x0 x35) fun x38 =>
 gP (aLoad (some 4) x38 H5) fun x39 =>
 aP [(.int .i64 0), (.str []), (.str []), .nils] H5 fun x10 H6 =>
 hP (aStore 4 x10 x39 H6) fun H7 =>
 gP (aFieldAddr 3 x10) fun x40 =>
 gP (aLoad none x40 H7) fun x41 =>
 cP D 100048 [x41] H7 fun x42 H8 =>
 gP (aFieldAddr 3 x10) fun x43 =>
 hP (aStore 1 x43 x42 H8) fun H9 =>
 gP (aFieldAddr 3 x10) fun x44 =>
 gP (aLoad none x44 H9) fun x45 =>
 gP (aLen .row x45 H9) fun x46 =>
 lP 1 (fun s3 x47 H10 =>
 gP (aBin .lss x47 x46) fun x48 =>
 iP x48
 ( gP (aIdxAddr 1 x45 x47) fun x50 =>
 gP (aLoad none x50 H10) fun x51 =>
 gP (aFieldAddr 3 x10) fun x52 =>
 gP (aLoad none x52 H10) fun x53 =>
 gP (aIdxAddr 1 x17 x51) fun x57 =>
 gP (aLoad none x57 H10) fun x58 =>
 gP (aIdxAddr 1 x53 x47) fun x59 =>
 hP (aStore 1 x59 x58 H10) fun H11 =>
 gP (aBin .add x47 (.int .i64 1)) fun x60 =>
 s3 x60 H11)
 ( hP (sealAt x10 3 H10) fun H12 =>
 gP (aLoad (some 4) x10 H12) fun x62 =>
 sP (aLit .ro 4 [x62] H12) fun x63 H13 =>
 sP (aAppend .tok 4 64 x7 x63 H13) fun x64 H14 =>
 gP (aBin .add x32 (.int .i64 1)) fun x65 =>
 s2 x64 x65 H14)) [(.int .i64 0)] H9)
 ( Q x7 H5)) [.nils, (.int .i64 0)] H3)) [(.int .i64 0)] H2
theorem w19_eq : w19 = fun D Q x0 H => wpF D ir19 [x0] H Q := by kernel_rfl
theorem w19_ok (hT : Has T) {x0 : AV} {H : AH} {Q : AV → AH → Prop} (h : w19 (Den.of T) Q x0 H) : ∃ v H', Den.of T 19 [x0] H = some (v, H') ∧ Q v H' :=
  wpF_ok (hT _ ir19 rfl) (by rw [w19_eq] at h; exact h)

-- grille/flatten.Deep
def w21 (D : Den) (Q : AV → AH → Prop) (x0 : AV) (H : AH) : Prop :=
 cP D 37 [x0] H fun x4 H1 =>
 gP (aNot x4) fun x5 =>
 iP x5
 ( Q (.int .i64 0) H1)
 ( cP D 43 [x0] H1 fun x7 H2 =>
 gP (aNilck x7) fun x8 =>
 gP (aFieldAddr 5 x8) fun x9 =>
 gP (aLoad none x9 H2) fun x10 =>
 Q x10 H2)
theorem w21_eq : w21 = fun D Q x0 H => wpF D ir21 [x0] H Q := by kernel_rfl
theorem w21_ok (hT : Has T) {x0 : AV} {H : AH} {Q : AV → AH → Prop} (h : w21 (Den.of T) Q x0 H) : ∃ v H', Den.of T 21 [x0] H = some (v, H') ∧ Q v H' :=
  wpF_ok (hT _ ir21 rfl) (by rw [w21_eq] at h; exact h)

-- grille/flatten.Event
def w23 (D : Den) (Q : AV → AH → Prop) (x0 : AV) (H : AH) : Prop :=
 sP (aop [] (.box (.cst x0)) H) fun x1 H1 =>
 aP [(.int .i64 0), (.str []), (.str []), (.str []), (.bool false)] H1 fun x2 H2 =>
 gP (aFieldAddr 0 x1) fun x4 =>
 gP (aLoad none x4 H2) fun x5 =>
 gP (aBin .eql x5 (.int .i64 1)) fun x7 =>
 iP x7
 ( gP (aFieldAddr 1 x1) fun x8 =>
 gP (aLoad none x8 H2) fun x9 =>
 cP D 52 [x9, (.str [115, 101, 113])] H2 fun x10 H3 =>
 gP ((aBuild [(.int .i64 0), (.str []), (.str []), (.str []), (.bool false)] [(0, 1, (.int .i64 2)), (2, 1, x10)]).map .agg) fun x11 =>
 hP (aStore 5 x2 x11 H3) fun H4 =>
 gP (aLoad (some 5) x2 H4) fun r1 =>
 Q r1 H4)
 ( gP (aBin .eql x5 (.int .i64 2)) fun x13 =>
 iP x13
 ( gP (aFieldAddr 1 x1) fun x14 =>
 gP (aLoad none x14 H2) fun x15 =>
 cP D 52 [x15, (.str [109, 97, 112])] H2 fun x16 H5 =>
 gP ((aBuild [(.int .i64 0), (.str []), (.str []), (.str []), (.bool false)] [(0, 1, (.int .i64 4)), (2, 1, x16)]).map .agg) fun x17 =>
 hP (aStore 5 x2 x17 H5) fun H6 =>
 gP (aLoad (some 5) x2 H6) fun r2 =>
 Q r2 H6)
 ( gP (aBin .eql x5 (.int .i64 0)) fun x19 =>
 iP x19
 ( aP [(.int .i64 0), (.str []), (.str []), (.str []), (.bool false)] H2 fun x3 H7 =>
 gP (aFieldAddr 1 x1) fun x20 =>
 gP (aLoad none x20 H7) fun x21 =>
 cP D 52 [x21, (.str [115, 116, 114])] H7 fun x22 H8 =>
 gP (aFieldAddr 2 x1) fun x23 =>
 gP (aLoad none x23 H8) fun x24 =>
 gP ((aBuild [(.int .i64 0), (.str []), (.str []), (.str []), (.bool false)] [(0, 1, (.int .i64 6)), (2, 1, x22), (3, 1, x24)]).map .agg) fun x25 =>
 hP (aStore 5 x3 x25 H8) fun H9 =>
 (sameR (.load none (.cst x23)) H8 H7) ∧
 (keptP x3 [(.int .i64 0), (.str []), (.str []), (.str []), (.bool false)] H8) ∧
 jP 0 (fun H10 =>
 gP (aLoad (some 5) x3 H10) fun x39 =>
 hP (aStore 5 x2 x39 H10) fun H11 =>
 gP (aLoad (some 5) x2 H11) fun r3 =>
 Q r3 H11) fun j4 =>
 jP 1 (fun x36 H12 =>
 iP x36
 ( gP (aFieldAddr 2 x3) fun x37 =>
 hP (aStore 1 x37 (.str []) H12) fun H13 =>
 gP (aFieldAddr 4 x3) fun x38 =>
 hP (aStore 1 x38 (.bool true) H13) fun H14 =>
 j4 H14)
 ( j4 H12)) fun j5 =>
 gP (aFieldAddr 2 x1) fun x26 =>
 gP (aLoad none x26 H9) fun x27 =>
 cP D 53 [x27] H9 fun x28 H15 =>
 dP x28 true
 ( gP (aFieldAddr 2 x1) fun x30 =>
 gP (aLoad none x30 H15) fun x31 =>
 cP D 54 [x31] H15 fun x32 H16 =>
 gP (aFieldAddr 1 x1) fun x33 =>
 gP (aLoad none x33 H16) fun x34 =>
 gP (aBin .eql x32 x34) fun x35 =>
 (sameR (.load none (.cst x33)) H16 H15) ∧
 j5 x35 H16)
 ( (sameR (.load none (.cst (.tup []))) H15 H15) ∧
 j5 (.bool false) H15))
 ( gP ((aBuild [(.int .i64 0), (.str []), (.str []), (.str []), (.bool false)] []).map .agg) fun x40 =>
 hP (aStore 5 x2 x40 H2) fun H17 =>
 gP (aLoad (some 5) x2 H17) fun r6 =>
 Q r6 H17)))
theorem w23_eq : w23 = fun D Q x0 H => wpF D ir23 [x0] H Q := by kernel_rfl
theorem w23_ok (hT : Has T) {x0 : AV} {H : AH} {Q : AV → AH → Prop} (h : w23 (Den.of T) Q x0 H) : ∃ v H', Den.of T 23 [x0] H = some (v, H') ∧ Q v H' :=
  wpF_ok (hT _ ir23 rfl) (by rw [w23_eq] at h; exact h)

-- grille/grillelaw08.Heavy
def w32 (D : Den) (Q : AV → AH → Prop) (x0 : AV) (H : AH) : Prop :=
 gP (aLen .row x0 H) fun x6 =>
 lP 1 (fun s1 x7 H1 =>
 gP (aBin .lss x7 x6) fun x8 =>
 iP x8
 ( gP (aIdxAddr 4 x0 x7) fun x9 =>
 gP (aLoad (some 4) x9 H1) fun x10 =>
 aP [(.int .i64 0), (.str []), (.str []), .nils] H1 fun x4 H2 =>
 hP (aStore 4 x4 x10 H2) fun H3 =>
 jP 1 (fun x26 H4 =>
 iP x26
 ( Q (.bool true) H4)
 ( gP (aBin .add x7 (.int .i64 1)) fun x27 =>
 s1 x27 H4)) fun j2 =>
 gP (aFieldAddr 3 x4) fun x11 =>
 gP (aLoad none x11 H3) fun x12 =>
 gP (aLen .row x12 H3) fun x13 =>
 gP (aBin .gtr x13 (.int .i64 200)) fun x14 =>
 dP x14 false
 ( gP (aFieldAddr 2 x4) fun x16 =>
 gP (aLoad none x16 H3) fun x17 =>
 gP (aLen .str x17 H3) fun x18 =>
 gP (aBin .gtr x18 (.int .i64 2000)) fun x19 =>
 dP x19 false
 ( gP (aFieldAddr 1 x4) fun x22 =>
 gP (aLoad none x22 H3) fun x23 =>
 gP (aLen .str x23 H3) fun x24 =>
 gP (aBin .gtr x24 (.int .i64 2000)) fun x25 =>
 j2 x25 H3)
 ( j2 (.bool true) H3))
 ( j2 (.bool true) H3))
 ( gP (aLen .row x0 H1) fun x29 =>
 gP (aBin .gtr x29 (.int .i64 120)) fun x30 =>
 Q x30 H1)) [(.int .i64 0)] H
theorem w32_eq : w32 = fun D Q x0 H => wpF D ir32 [x0] H Q := by kernel_rfl
theorem w32_ok (hT : Has T) {x0 : AV} {H : AH} {Q : AV → AH → Prop} (h : w32 (Den.of T) Q x0 H) : ∃ v H', Den.of T 32 [x0] H = some (v, H') ∧ Q v H' :=
  wpF_ok (hT _ ir32 rfl) (by rw [w32_eq] at h; exact h)

-- grille/grillelaw08.Theirs
def w33 (D : Den) (Q : AV → AH → Prop) (x0 : AV) (H : AH) : Prop :=
 gP (aLen .row x0 H) fun x7 =>
 lP 2 (fun s1 x3 x8 H1 =>
 gP (aBin .lss x8 x7) fun x9 =>
 iP x9
 ( gP (aIdxAddr 4 x0 x8) fun x10 =>
 gP (aLoad (some 4) x10 H1) fun x11 =>
 aP [(.int .i64 0), (.str []), (.str []), .nils] H1 fun x5 H2 =>
 hP (aStore 4 x5 x11 H2) fun H3 =>
 gP (aFieldAddr 0 x5) fun x13 =>
 gP (aLoad none x13 H3) fun x14 =>
 gP (aFieldAddr 1 x5) fun x15 =>
 gP (aLoad none x15 H3) fun x16 =>
 gP (aFieldAddr 2 x5) fun x17 =>
 gP (aLoad none x17 H3) fun x18 =>
 gP (aFieldAddr 3 x5) fun x19 =>
 gP (aLoad none x19 H3) fun x20 =>
 cP D 48 [x20] H3 fun x21 H4 =>
 gP ((aBuild [(.int .i64 0), (.str []), (.str []), .nils] [(0, 1, x14), (1, 1, x16), (2, 1, x18), (3, 1, x21)]).map .agg) fun x22 =>
 sP (aLit .ro 4 [x22] H4) fun x23 H5 =>
 sP (aAppend .tok 4 64 x3 x23 H5) fun x24 H6 =>
 (sameR (.load none (.cst x13)) H4 H3) ∧
 (sameR (.load none (.cst x15)) H4 H3) ∧
 (sameR (.load none (.cst x17)) H4 H3) ∧
 gP (aBin .add x8 (.int .i64 1)) fun x25 =>
 s1 x24 x25 H6)
 ( Q x3 H1)) [.nils, (.int .i64 0)] H
theorem w33_eq : w33 = fun D Q x0 H => wpF D ir33 [x0] H Q := by kernel_rfl
theorem w33_ok (hT : Has T) {x0 : AV} {H : AH} {Q : AV → AH → Prop} (h : w33 (Den.of T) Q x0 H) : ∃ v H', Den.of T 33 [x0] H = some (v, H') ∧ Q v H' :=
  wpF_ok (hT _ ir33 rfl) (by rw [w33_eq] at h; exact h)

-- grille/arena.Order
def w34 (D : Den) (Q : AV → AH → Prop) (x0 : AV) (H : AH) : Prop :=
 sP (aop [] (.box (.cst x0)) H) fun x1 H1 =>
 aP [.nils] H1 fun x2 H2 =>
 gP (aLoad none x1 H2) fun x5 =>
 cP D 37 [x5] H2 fun x6 H3 =>
 gP (aNot x6) fun x7 =>
 iP x7
 ( hP (aStore 1 x2 .nils H3) fun H4 =>
 gP (aLoad none x2 H4) fun r1 =>
 Q r1 H4)
 ( gP (aLoad none x1 H3) fun x8 =>
 gP (aLen .row x8 H3) fun x9 =>
 sP (aop [] (.make .ref 1 8 [(.int .i64 0)] (.cst x9) (.cst x9)) H3) fun x10 H5 =>
 aP [.nils] H5 fun x3 H6 =>
 hP (aStore 1 x3 x10 H6) fun H7 =>
 aP [.nilf] H7 fun x4 H8 =>
 sP (aop [] (.mkFn (.func 59) [] [(.cst x3), (.cst x2), (.cst x1), (.cst x4)]) H8) fun x11 H9 =>
 hP (aStore 1 x4 x11 H9) fun H10 =>
 gP (aLoad none x4 H10) fun x12 =>
 vP D 0 x12 [(.int .i64 0)] H10 fun x13 H11 =>
 gP (aLoad none x2 H11) fun x14 =>
 hP (aStore 1 x2 x14 H11) fun H12 =>
 gP (aLoad none x2 H12) fun r2 =>
 Q r2 H12)
theorem w34_eq : w34 = fun D Q x0 H => wpF D ir34 [x0] H Q := by kernel_rfl
theorem w34_ok (hT : Has T) {x0 : AV} {H : AH} {Q : AV → AH → Prop} (h : w34 (Den.of T) Q x0 H) : ∃ v H', Den.of T 34 [x0] H = some (v, H') ∧ Q v H' :=
  wpF_ok (hT _ ir34 rfl) (by rw [w34_eq] at h; exact h)

-- grille/arena.Right
def w37 (D : Den) (Q : AV → AH → Prop) (x0 : AV) (H : AH) : Prop :=
 sP (aop [] (.box (.cst x0)) H) fun x1 H1 =>
 jP 1 (fun x11 H2 =>
 iP x11
 ( Q (.bool false) H2)
 ( sP (aop [] (.mkFn (.func 60) [] [(.cst x1)]) H2) fun x12 H3 =>
 gP (aLoad none x1 H3) fun x13 =>
 cP D 62 [x13, x12] H3 fun x15 H4 =>
 gP (aNot x15) fun x16 =>
 dP x16 true
 ( gP (aLoad none x1 H4) fun x18 =>
 cP D 63 [x18] H4 fun x19 H5 =>
 gP (aNot x19) fun x20 =>
 Q x20 H5)
 ( Q (.bool false) H4))) fun j1 =>
 gP (aLoad none x1 H1) fun x4 =>
 gP (aLen .row x4 H1) fun x5 =>
 gP (aBin .lss x5 (.int .i64 1)) fun x6 =>
 dP x6 false
 ( gP (aLoad none x1 H1) fun x8 =>
 gP (aLen .row x8 H1) fun x9 =>
 gP (aBin .gtr x9 (.int .i64 2000)) fun x10 =>
 j1 x10 H1)
 ( j1 (.bool true) H1)
theorem w37_eq : w37 = fun D Q x0 H => wpF D ir37 [x0] H Q := by kernel_rfl
theorem w37_ok (hT : Has T) {x0 : AV} {H : AH} {Q : AV → AH → Prop} (h : w37 (Den.of T) Q x0 H) : ∃ v H', Den.of T 37 [x0] H = some (v, H') ∧ Q v H' :=
  wpF_ok (hT _ ir37 rfl) (by rw [w37_eq] at h; exact h)

-- grille/flatten.tell
def w43 (D : Den) (Q : AV → AH → Prop) (x0 : AV) (H : AH) : Prop :=
 cP D 19 [x0] H fun x8 H1 =>
 gP (aLen .row x8 H1) fun x11 =>
 sP (aop [] (.make .ref 1 16 [(.str [])] (.cst x11) (.cst x11)) H1) fun x12 H2 =>
 gP ((aBuild [.nils, .nils, .nils, (.int .i64 0), (.int .i64 0), (.int .i64 0)] [(0, 1, x8), (2, 1, x12)]).map .agg) fun x13 =>
 sP (aop [] (.box (.cst x13)) H2) fun x14 H3 =>
 cP D 67 [x8] H3 fun x16 H4 =>
 gP (aLen .row x16 H4) fun x17 =>
 lP 2 (fun s1 x4 x18 H5 =>
 gP (aBin .lss x18 x17) fun x19 =>
 iP x19
 ( jP 1 (fun x4_1 H6 =>
 gP (aBin .add x18 (.int .i64 1)) fun x40 =>
 s1 x4_1 x40 H6) fun j2 =>
 gP (aIdxAddr 1 x16 x18) fun x21 =>
 gP (aLoad none x21 H5) fun x22 =>
 jP 1 (fun x6 H7 =>
 gP (aBin .gtr x6 (.int .i64 1)) fun x28 =>
 iP x28
 ( gP (aBin .add x4 (.int .i64 1)) fun x30 =>
 gP (aNilck x14) fun x32 =>
 gP (aFieldAddr 2 x32) fun x33 =>
 gP (aLoad none x33 H7) fun x34 =>
 cP D 68 [x30] H7 fun x37 H8 =>
 gP (aBin .add (.str [97]) x37) fun x38 =>
 gP (aIdxAddr 1 x34 x18) fun x39 =>
 hP (aStore 1 x39 x38 H8) fun H9 =>
 (sameR (.load none (.cst x33)) H8 H7) ∧
 j2 x30 H9)
 ( j2 x4 H7)) fun j3 =>
 gP (aBin .eql x18 (.int .i64 0)) fun x24 =>
 iP x24
 ( gP (aBin .add x22 (.int .i64 1)) fun x26 =>
 j3 x26 H5)
 ( j3 x22 H5))
 ( cP D 69 [x14, (.int .i64 0)] H5 fun x42 H10 =>
 Q x14 H10)) [(.int .i64 0), (.int .i64 0)] H4
theorem w43_eq : w43 = fun D Q x0 H => wpF D ir43 [x0] H Q := by kernel_rfl
theorem w43_ok (hT : Has T) {x0 : AV} {H : AH} {Q : AV → AH → Prop} (h : w43 (Den.of T) Q x0 H) : ∃ v H', Den.of T 43 [x0] H = some (v, H') ∧ Q v H' :=
  wpF_ok (hT _ ir43 rfl) (by rw [w43_eq] at h; exact h)

-- (*grille/compose.doc).take
def w44 (D : Den) (Q : AV → AH → Prop) (x0 x1 : AV) (H : AH) : Prop :=
 sP (aop [] (.box (.cst x1)) H) fun x3 H1 =>
 jP 0 (fun H2 =>
 Q (.tup [(.bool false), (.int .i64 0)]) H2) fun j1 =>
 gP (aFieldAddr 0 x3) fun x8 =>
 gP (aLoad none x8 H1) fun x9 =>
 gP (aBin .eql x9 (.int .i64 0)) fun x14 =>
 iP x14
 ( sP (aop [] (.mkMap) H1) fun x16 H3 =>
 gP ((aBuild [.nils, .nils, .nilm] [(2, 1, x16)]).map .agg) fun x17 =>
 gP (aNilck x0) fun x18 =>
 hP (aStore 3 x18 x17 H3) fun H4 =>
 j1 H4)
 ( gP (aBin .eql x9 (.int .i64 1)) fun x20 =>
 iP x20
 ( hP (sealAt x0 0 H1) fun H5 =>
 gP (aNilck x0) fun x22 =>
 gP (aFieldAddr 0 x22) fun x23 =>
 gP (aLoad none x23 H5) fun x24 =>
 cP D 63 [x24] H5 fun x25 H6 =>
 iP x25
 ( Q (.tup [(.bool false), (.int .i64 12)]) H6)
 ( Q (.tup [(.bool true), (.int .i64 0)]) H6))
 ( jP 1 (fun x26 H7 =>
 iP x26
 ( gP (aNilck x0) fun x31 =>
 gP (aFieldAddr 1 x31) fun x32 =>
 gP (aLoad none x32 H7) fun x33 =>
 gP (aNilck x0) fun x35 =>
 gP (aFieldAddr 1 x35) fun x36 =>
 gP (aLoad none x36 H7) fun x37 =>
 gP (aLen .row x37 H7) fun x38 =>
 gP (aBin .sub x38 (.int .i64 1)) fun x39 =>
 gP (aSlc 1 x33 none (some x39)) fun x40 =>
 gP (aNilck x0) fun x41 =>
 gP (aFieldAddr 1 x41) fun x42 =>
 hP (aStore 1 x42 x40 H7) fun H8 =>
 j1 H8)
 ( gP (aBin .eql x9 (.int .i64 7)) fun x44 =>
 iP x44
 ( gP (aNilck x0) fun x47 =>
 gP (aFieldAddr 2 x47) fun x48 =>
 gP (aLoad none x48 H7) fun x49 =>
 gP (aFieldAddr 1 x3) fun x50 =>
 gP (aLoad none x50 H7) fun x51 =>
 gP (aLook (.scal .str) (.int .i64 0) true x49 x51 H7) fun x52 =>
 gP (aExtract 0 x52) fun x53 =>
 gP (aExtract 1 x52) fun x54 =>
 gP (aNot x54) fun x56 =>
 iP x56
 ( Q (.tup [(.bool false), (.int .i64 11)]) H7)
 ( cP D 70 [x0, x53] H7 fun x59 H9 =>
 Q (.tup [(.bool false), x59]) H9))
 ( gP (aLoad (some 5) x3 H7) fun x11 =>
 cP D 71 [x0, x11] H7 fun x12 H10 =>
 Q (.tup [(.bool false), x12]) H10))) fun j2 =>
 gP (aBin .eql x9 (.int .i64 3)) fun x27 =>
 iP x27
 ( j2 x27 H1)
 ( gP (aBin .eql x9 (.int .i64 5)) fun x28 =>
 j2 x28 H1)))
theorem w44_eq : w44 = fun D Q x0 x1 H => wpF D ir44 [x0, x1] H Q := by kernel_rfl
theorem w44_ok (hT : Has T) {x0 x1 : AV} {H : AH} {Q : AV → AH → Prop} (h : w44 (Den.of T) Q x0 x1 H) : ∃ v H', Den.of T 44 [x0, x1] H = some (v, H') ∧ Q v H' :=
  wpF_ok (hT _ ir44 rfl) (by rw [w44_eq] at h; exact h)

-- (grille/event.Event).right
def w45 (D : Den) (Q : AV → AH → Prop) (x0 : AV) (H : AH) : Prop :=
 sP (aop [] (.box (.cst x0)) H) fun x1 H1 =>
 jP 1 (fun x3 H2 =>
 iP x3
 ( Q (.bool false) H2)
 ( gP (aFieldAddr 0 x1) fun x19 =>
 gP (aLoad none x19 H2) fun x20 =>
 gP (aBin .eql x20 (.int .i64 7)) fun x21 =>
 iP x21
 ( gP (aFieldAddr 1 x1) fun x22 =>
 gP (aLoad none x22 H2) fun x23 =>
 cP D 73 [x23] H2 fun x24 H3 =>
 dP x24 true
 ( gP (aFieldAddr 2 x1) fun x26 =>
 gP (aLoad none x26 H3) fun x27 =>
 gP (aBin .eql x27 (.str [])) fun x28 =>
 dP x28 true
 ( gP (aFieldAddr 3 x1) fun x31 =>
 gP (aLoad none x31 H3) fun x32 =>
 gP (aBin .eql x32 (.str [])) fun x33 =>
 dP x33 true
 ( gP (aFieldAddr 4 x1) fun x36 =>
 gP (aLoad none x36 H3) fun x37 =>
 gP (aNot x37) fun x38 =>
 Q x38 H3)
 ( Q (.bool false) H3))
 ( Q (.bool false) H3))
 ( Q (.bool false) H3))
 ( gP (aLoad (some 5) x1 H2) fun x41 =>
 cP D 74 [x41] H2 fun x42 H4 =>
 gP (aNot x42) fun x43 =>
 iP x43
 ( gP (aLoad (some 5) x1 H4) fun x44 =>
 gP (aFieldAddr 0 x1) fun x45 =>
 gP (aLoad none x45 H4) fun x46 =>
 gP ((aBuild [(.int .i64 0), (.str []), (.str []), (.str []), (.bool false)] [(0, 1, x46)]).map .agg) fun x47 =>
 sP (aop [] (.eqAgg [.int, .str, .str, .str, .bool] false (.cst x44) (.cst x47)) H4) fun x48 H5 =>
 Q x48 H5)
 ( jP 1 (fun x49 H6 =>
 iP x49
 ( Q (.bool false) H6)
 ( gP (aFieldAddr 1 x1) fun x62 =>
 gP (aLoad none x62 H6) fun x63 =>
 gP (aBin .eql x63 (.str [])) fun x64 =>
 dP x64 false
 ( gP (aFieldAddr 1 x1) fun x66 =>
 gP (aLoad none x66 H6) fun x67 =>
 cP D 73 [x67] H6 fun x68 H7 =>
 dP x68 true
 ( gP (aFieldAddr 2 x1) fun x71 =>
 gP (aLoad none x71 H7) fun x72 =>
 gP (aBin .eql x72 (.str [])) fun x73 =>
 dP x73 false
 ( gP (aFieldAddr 2 x1) fun x75 =>
 gP (aLoad none x75 H7) fun x76 =>
 cP D 75 [x76] H7 fun x77 H8 =>
 Q x77 H8)
 ( Q (.bool true) H7))
 ( Q (.bool false) H7))
 ( gP (aFieldAddr 2 x1) fun x71_1 =>
 gP (aLoad none x71_1 H6) fun x72_1 =>
 gP (aBin .eql x72_1 (.str [])) fun x73_1 =>
 dP x73_1 false
 ( gP (aFieldAddr 2 x1) fun x75_1 =>
 gP (aLoad none x75_1 H6) fun x76_1 =>
 cP D 75 [x76_1] H6 fun x77_1 H9 =>
 Q x77_1 H9)
 ( Q (.bool true) H6)))) fun j1 =>
 gP (aFieldAddr 0 x1) fun x50 =>
 gP (aLoad none x50 H4) fun x51 =>
 gP (aBin .neq x51 (.int .i64 6)) fun x52 =>
 dP x52 true
 ( gP (aFieldAddr 3 x1) fun x54 =>
 gP (aLoad none x54 H4) fun x55 =>
 gP (aBin .neq x55 (.str [])) fun x56 =>
 dP x56 false
 ( gP (aFieldAddr 4 x1) fun x58 =>
 gP (aLoad none x58 H4) fun x59 =>
 j1 x59 H4)
 ( j1 (.bool true) H4))
 ( j1 (.bool false) H4))))) fun j2 =>
 gP (aFieldAddr 0 x1) fun x4 =>
 gP (aLoad none x4 H1) fun x5 =>
 gP (aBin .lss x5 (.int .i64 0)) fun x6 =>
 dP x6 false
 ( gP (aFieldAddr 0 x1) fun x8 =>
 gP (aLoad none x8 H1) fun x9 =>
 gP (aBin .gtr x9 (.int .i64 7)) fun x10 =>
 dP x10 false
 ( gP (aFieldAddr 3 x1) fun x13 =>
 gP (aLoad none x13 H1) fun x14 =>
 cP D 72 [x14] H1 fun x15 H10 =>
 gP (aNot x15) fun x16 =>
 j2 x16 H10)
 ( j2 (.bool true) H1))
 ( j2 (.bool true) H1)
theorem w45_eq : w45 = fun D Q x0 H => wpF D ir45 [x0] H Q := by kernel_rfl
theorem w45_ok (hT : Has T) {x0 : AV} {H : AH} {Q : AV → AH → Prop} (h : w45 (Den.of T) Q x0 H) : ∃ v H', Den.of T 45 [x0] H = some (v, H') ∧ Q v H' :=
  wpF_ok (hT _ ir45 rfl) (by rw [w45_eq] at h; exact h)

-- (*grille/event.nest).take
def w46 (D : Den) (Q : AV → AH → Prop) (x0 x1 : AV) (H : AH) : Prop :=
 sP (aop [] (.box (.cst x1)) H) fun x3 H1 =>
 cP D 76 [x0] H1 fun x7 H2 =>
 gP (aNilck x7) fun x8 =>
 gP (aFieldAddr 0 x8) fun x9 =>
 gP (aLoad none x9 H2) fun x10 =>
 gP (aBin .geq x10 (.int .i64 0)) fun x11 =>
 gP (aFieldAddr 0 x3) fun x12 =>
 gP (aLoad none x12 H2) fun x13 =>
 gP (aBin .eql x13 (.int .i64 0)) fun x15 =>
 iP x15
 ( cP D 77 [x0, (.int .i64 0)] H2 fun x17 H3 =>
 gP (aNot x11) fun x19 =>
 Q x19 H3)
 ( gP (aBin .eql x13 (.int .i64 1)) fun x21 =>
 iP x21
 ( cP D 78 [x0, (.int .i64 0), (.fn (.func 79) [] [])] H2 fun x23 H4 =>
 Q x23 H4)
 ( gP (aBin .eql x13 (.int .i64 3)) fun x25 =>
 iP x25
 ( cP D 78 [x0, (.int .i64 2), (.fn (.func 80) [] [])] H2 fun x27 H5 =>
 Q x27 H5)
 ( gP (aBin .eql x13 (.int .i64 5)) fun x29 =>
 iP x29
 ( cP D 78 [x0, (.int .i64 4), (.fn (.func 81) [] [])] H2 fun x31 H6 =>
 Q x31 H6)
 ( cP D 76 [x0] H2 fun x33 H7 =>
 gP (aNilck x33) fun x34 =>
 gP (aFieldAddr 1 x34) fun x35 =>
 gP (aLoad none x35 H7) fun x36 =>
 gP (aBin .add x36 (.int .i64 1)) fun x37 =>
 gP (aNilck x33) fun x38 =>
 gP (aFieldAddr 1 x38) fun x39 =>
 hP (aStore 1 x39 x37 H7) fun H8 =>
 jP 0 (fun H9 =>
 Q x11 H9) fun j1 =>
 jP 1 (fun x47 H10 =>
 iP x47
 ( gP (aFieldAddr 0 x3) fun x49 =>
 gP (aLoad none x49 H10) fun x50 =>
 cP D 77 [x0, x50] H10 fun x51 H11 =>
 j1 H11)
 ( j1 H10)) fun j2 =>
 gP (aFieldAddr 0 x3) fun x40 =>
 gP (aLoad none x40 H8) fun x41 =>
 gP (aBin .eql x41 (.int .i64 2)) fun x42 =>
 dP x42 false
 ( gP (aFieldAddr 0 x3) fun x44 =>
 gP (aLoad none x44 H8) fun x45 =>
 gP (aBin .eql x45 (.int .i64 4)) fun x46 =>
 j2 x46 H8)
 ( j2 (.bool true) H8)))))
theorem w46_eq : w46 = fun D Q x0 x1 H => wpF D ir46 [x0, x1] H Q := by kernel_rfl
theorem w46_ok (hT : Has T) {x0 x1 : AV} {H : AH} {Q : AV → AH → Prop} (h : w46 (Den.of T) Q x0 x1 H) : ∃ v H', Den.of T 46 [x0, x1] H = some (v, H') ∧ Q v H' :=
  wpF_ok (hT _ ir46 rfl) (by rw [w46_eq] at h; exact h)

-- grille/event.Depth
def w47 (D : Den) (Q : AV → AH → Prop) (x0 : AV) (H : AH) : Prop :=
 gP (aLen .row x0 H) fun x7 =>
 lP 3 (fun s1 x3 x2 x8 H1 =>
 gP (aBin .lss x8 x7) fun x9 =>
 iP x9
 ( gP (aIdxAddr 5 x0 x8) fun x10 =>
 gP (aLoad (some 5) x10 H1) fun x11 =>
 aP [(.int .i64 0), (.str []), (.str []), (.str []), (.bool false)] H1 fun x5 H2 =>
 hP (aStore 5 x5 x11 H2) fun H3 =>
 jP 1 (fun x3_1 H4 =>
 gP (aFold true x2 [x3_1]) fun x26 =>
 gP (aBin .add x8 (.int .i64 1)) fun x27 =>
 s1 x3_1 x26 x27 H4) fun j2 =>
 gP (aFieldAddr 0 x5) fun x12 =>
 gP (aLoad none x12 H3) fun x13 =>
 jP 1 (fun x14 H5 =>
 iP x14
 ( gP (aBin .add x3 (.int .i64 1)) fun x18 =>
 j2 x18 H5)
 ( jP 1 (fun x19 H6 =>
 iP x19
 ( gP (aBin .sub x3 (.int .i64 1)) fun x23 =>
 j2 x23 H6)
 ( j2 x3 H6)) fun j3 =>
 gP (aBin .eql x13 (.int .i64 3)) fun x20 =>
 iP x20
 ( j3 x20 H5)
 ( gP (aBin .eql x13 (.int .i64 5)) fun x21 =>
 j3 x21 H5))) fun j4 =>
 gP (aBin .eql x13 (.int .i64 2)) fun x15 =>
 iP x15
 ( j4 x15 H3)
 ( gP (aBin .eql x13 (.int .i64 4)) fun x16 =>
 j4 x16 H3))
 ( Q x2 H1)) [(.int .i64 0), (.int .i64 0), (.int .i64 0)] H
theorem w47_eq : w47 = fun D Q x0 H => wpF D ir47 [x0] H Q := by kernel_rfl
theorem w47_ok (hT : Has T) {x0 : AV} {H : AH} {Q : AV → AH → Prop} (h : w47 (Den.of T) Q x0 H) : ∃ v H', Den.of T 47 [x0] H = some (v, H') ∧ Q v H' :=
  wpF_ok (hT _ ir47 rfl) (by rw [w47_eq] at h; exact h)

-- slices.Clone[[]int,int]
def w48 (D : Den) (Q : AV → AH → Prop) (x0 : AV) (H : AH) : Prop :=
 gP (aEqv .slice false x0 .nils) fun x4 =>
 iP x4
 ( Q .nils H)
 ( sP (aLit .tok 1 [] H) fun x5 H1 =>
 sP (aAppend .tok 1 8 x5 x0 H1) fun x7 H2 =>
 Q x7 H2)
theorem w48_eq : w48 = fun D Q x0 H => wpF D ir48 [x0] H Q := by kernel_rfl
theorem w48_ok (hT : Has T) {x0 : AV} {H : AH} {Q : AV → AH → Prop} (h : w48 (Den.of T) Q x0 H) : ∃ v H', Den.of T 48 [x0] H = some (v, H') ∧ Q v H' :=
  wpF_ok (hT _ ir48 rfl) (by rw [w48_eq] at h; exact h)

-- slices.Clone[[]int,int]
def w48v1 (D : Den) (Q : AV → AH → Prop) (x0 : AV) (H : AH) : Prop :=
 gP (aEqv .slice false x0 .nils) fun x4 =>
 iP x4
 ( Q .nils H)
 ( sP (aLit .ref 1 [] H) fun x5 H1 =>
 sP (aAppend .ref 1 8 x5 x0 H1) fun x7 H2 =>
 Q x7 H2)
theorem w48v1_eq : w48v1 = fun D Q x0 H => wpF D ir48v1 [x0] H Q := by kernel_rfl
theorem w48v1_ok (hT : Has T) {x0 : AV} {H : AH} {Q : AV → AH → Prop} (h : w48v1 (Den.of T) Q x0 H) : ∃ v H', Den.of T 100048 [x0] H = some (v, H') ∧ Q v H' :=
  wpF_ok (hT _ ir48v1 rfl) (by rw [w48v1_eq] at h; exact h)

-- grille/flatten.unless
def w52 (D : Den) (Q : AV → AH → Prop) (x0 x1 : AV) (H : AH) : Prop :=
 gP (aBin .eql x0 x1) fun x7 =>
 iP x7
 ( Q (.str []) H)
 ( Q x0 H)
theorem w52_eq : w52 = fun D Q x0 x1 H => wpF D ir52 [x0, x1] H Q := by kernel_rfl
theorem w52_ok (hT : Has T) {x0 x1 : AV} {H : AH} {Q : AV → AH → Prop} (h : w52 (Den.of T) Q x0 x1 H) : ∃ v H', Den.of T 52 [x0, x1] H = some (v, H') ∧ Q v H' :=
  wpF_ok (hT _ ir52 rfl) (by rw [w52_eq] at h; exact h)

-- grille/scalar.Plain
def w53 (D : Den) (Q : AV → AH → Prop) (x0 : AV) (H : AH) : Prop :=
 jP 1 (fun x4 H1 =>
 iP x4
 ( Q (.bool false) H1)
 ( jP 1 (fun x20 H2 =>
 iP x20
 ( Q (.bool false) H2)
 ( jP 1 (fun x34 H3 =>
 iP x34
 ( Q (.bool false) H3)
 ( cP D 90 [x0, (.str [58, 32])] H3 fun x42 H4 =>
 gP (aNot x42) fun x43 =>
 dP x43 true
 ( cP D 90 [x0, (.str [32, 35])] H4 fun x46 H5 =>
 gP (aNot x46) fun x47 =>
 Q x47 H5)
 ( Q (.bool false) H4))) fun j1 =>
 cP D 89 [x0, (.str [32])] H2 fun x36 H6 =>
 dP x36 false
 ( cP D 89 [x0, (.str [58])] H6 fun x39 H7 =>
 j1 x39 H7)
 ( j1 (.bool true) H6))) fun j2 =>
 gP (aIdxStr x0 (.int .i64 0)) fun x22 =>
 cP D 86 [(.str [45, 63, 58, 44, 91, 93, 123, 125, 35, 38, 42, 33, 124, 62, 39, 34, 37, 64, 96, 32]), x22] H1 fun x23 H8 =>
 gP (aBin .geq x23 (.int .i64 0)) fun x24 =>
 dP x24 false
 ( cP D 87 [x0, (.str [9, 10, 13, 44, 91, 93, 123, 125])] H8 fun x27 H9 =>
 dP x27 false
 ( cP D 88 [x0, (.fn (.func 84) [] [])] H9 fun x32 H10 =>
 j2 x32 H10)
 ( j2 (.bool true) H9))
 ( j2 (.bool true) H8))) fun j3 =>
 gP (aBin .eql x0 (.str [])) fun x6 =>
 dP x6 false
 ( gP (aBin .eql x0 (.str [45, 45, 45])) fun x9 =>
 dP x9 false
 ( gP (aBin .eql x0 (.str [46, 46, 46])) fun x13 =>
 dP x13 false
 ( cP D 72 [x0] H fun x17 H11 =>
 gP (aNot x17) fun x18 =>
 j3 x18 H11)
 ( j3 (.bool true) H))
 ( j3 (.bool true) H))
 ( j3 (.bool true) H)
theorem w53_eq : w53 = fun D Q x0 H => wpF D ir53 [x0] H Q := by kernel_rfl
theorem w53_ok (hT : Has T) {x0 : AV} {H : AH} {Q : AV → AH → Prop} (h : w53 (Den.of T) Q x0 H) : ∃ v H', Den.of T 53 [x0] H = some (v, H') ∧ Q v H' :=
  wpF_ok (hT _ ir53 rfl) (by rw [w53_eq] at h; exact h)

-- grille/tag.Resolve
def w54 (D : Den) (Q : AV → AH → Prop) (x0 : AV) (H : AH) : Prop :=
 jP 1 (fun x4 H1 =>
 iP x4
 ( Q (.str [110, 117, 108, 108]) H1)
 ( jP 1 (fun x10 H2 =>
 iP x10
 ( Q (.str [98, 111, 111, 108]) H2)
 ( jP 1 (fun x17 H3 =>
 iP x17
 ( Q (.str [102, 108, 111, 97, 116]) H3)
 ( cP D 91 [x0] H3 fun x22 H4 =>
 jP 1 (fun x23 H5 =>
 iP x23
 ( Q (.str [102, 108, 111, 97, 116]) H5)
 ( cP D 92 [x0] H5 fun x29 H6 =>
 iP x29
 ( Q (.str [105, 110, 116]) H6)
 ( cP D 93 [x0] H6 fun x32 H7 =>
 iP x32
 ( Q (.str [102, 108, 111, 97, 116]) H7)
 ( Q (.str [115, 116, 114]) H7)))) fun j1 =>
 gP (aBin .eql x22 (.str [46, 105, 110, 102])) fun x24 =>
 iP x24
 ( j1 x24 H4)
 ( gP (aBin .eql x22 (.str [46, 73, 110, 102])) fun x25 =>
 iP x25
 ( j1 x25 H4)
 ( gP (aBin .eql x22 (.str [46, 73, 78, 70])) fun x26 =>
 j1 x26 H4)))) fun j2 =>
 gP (aBin .eql x0 (.str [46, 110, 97, 110])) fun x18 =>
 iP x18
 ( j2 x18 H2)
 ( gP (aBin .eql x0 (.str [46, 78, 97, 78])) fun x19 =>
 iP x19
 ( j2 x19 H2)
 ( gP (aBin .eql x0 (.str [46, 78, 65, 78])) fun x20 =>
 j2 x20 H2)))) fun j3 =>
 gP (aBin .eql x0 (.str [116, 114, 117, 101])) fun x11 =>
 iP x11
 ( j3 x11 H1)
 ( gP (aBin .eql x0 (.str [84, 114, 117, 101])) fun x12 =>
 iP x12
 ( j3 x12 H1)
 ( gP (aBin .eql x0 (.str [84, 82, 85, 69])) fun x13 =>
 iP x13
 ( j3 x13 H1)
 ( gP (aBin .eql x0 (.str [102, 97, 108, 115, 101])) fun x14 =>
 iP x14
 ( j3 x14 H1)
 ( gP (aBin .eql x0 (.str [70, 97, 108, 115, 101])) fun x15 =>
 iP x15
 ( j3 x15 H1)
 ( gP (aBin .eql x0 (.str [70, 65, 76, 83, 69])) fun x16 =>
 j3 x16 H1))))))) fun j4 =>
 gP (aBin .eql x0 (.str [])) fun x5 =>
 iP x5
 ( j4 x5 H)
 ( gP (aBin .eql x0 (.str [126])) fun x6 =>
 iP x6
 ( j4 x6 H)
 ( gP (aBin .eql x0 (.str [110, 117, 108, 108])) fun x7 =>
 iP x7
 ( j4 x7 H)
 ( gP (aBin .eql x0 (.str [78, 117, 108, 108])) fun x8 =>
 iP x8
 ( j4 x8 H)
 ( gP (aBin .eql x0 (.str [78, 85, 76, 76])) fun x9 =>
 j4 x9 H))))
theorem w54_eq : w54 = fun D Q x0 H => wpF D ir54 [x0] H Q := by kernel_rfl
theorem w54_ok (hT : Has T) {x0 : AV} {H : AH} {Q : AV → AH → Prop} (h : w54 (Den.of T) Q x0 H) : ∃ v H', Den.of T 54 [x0] H = some (v, H') ∧ Q v H' :=
  wpF_ok (hT _ ir54 rfl) (by rw [w54_eq] at h; exact h)

-- grille/arena.Order$1
def w59 (D : Den) (Q : AV → AH → Prop) (x0 x1 x2 x3 x4 : AV) (H : AH) : Prop :=
 gP (aLoad none x1 H) fun x8 =>
 gP (aIdxAddr 1 x8 x0) fun x10 =>
 gP (aLoad none x10 H) fun x11 =>
 gP (aBin .add x11 (.int .i64 1)) fun x12 =>
 gP (aIdxAddr 1 x8 x0) fun x13 =>
 hP (aStore 1 x13 x12 H) fun H1 =>
 gP (aLoad none x1 H1) fun x14 =>
 gP (aIdxAddr 1 x14 x0) fun x16 =>
 gP (aLoad none x16 H1) fun x17 =>
 gP (aBin .gtr x17 (.int .i64 1)) fun x18 =>
 iP x18
 ( Q (.tup []) H1)
 ( gP (aLoad none x2 H1) fun x19 =>
 sP (aLit .ro 1 [x0] H1) fun x21 H2 =>
 sP (aAppend .tok 1 8 x19 x21 H2) fun x22 H3 =>
 hP (aStore 1 x2 x22 H3) fun H4 =>
 gP (aLoad none x3 H4) fun x23 =>
 gP (aIdxAddr 4 x23 x0) fun x25 =>
 gP (aFieldAddr 3 x25) fun x26 =>
 gP (aLoad none x26 H4) fun x27 =>
 gP (aLen .row x27 H4) fun x28 =>
 lP 1 (fun s1 x29 H5 =>
 gP (aBin .lss x29 x28) fun x30 =>
 iP x30
 ( gP (aIdxAddr 1 x27 x29) fun x31 =>
 gP (aLoad none x31 H5) fun x32 =>
 gP (aLoad none x4 H5) fun x33 =>
 vP D 0 x33 [x32] H5 fun x35 H6 =>
 gP (aBin .add x29 (.int .i64 1)) fun x36 =>
 s1 x36 H6)
 ( Q (.tup []) H5)) [(.int .i64 0)] H4)
theorem w59_eq : w59 = fun D Q x0 x1 x2 x3 x4 H => wpF D ir59 [x0, x1, x2, x3, x4] H Q := by kernel_rfl
theorem w59_ok (hT : Has T) {x0 x1 x2 x3 x4 : AV} {H : AH} {Q : AV → AH → Prop} (h : w59 (Den.of T) Q x0 x1 x2 x3 x4 H) : ∃ v H', Den.of T 59 [x0, x1, x2, x3, x4] H = some (v, H') ∧ Q v H' :=
  wpF_ok (hT _ ir59 rfl) (by rw [w59_eq] at h; exact h)

-- grille/arena.Right$1
def w60 (D : Den) (Q : AV → AH → Prop) (x0 x1 : AV) (H : AH) : Prop :=
 sP (aop [] (.box (.cst x0)) H) fun x2 H1 =>
 gP (aLoad none x1 H1) fun x4 =>
 gP (aLoad (some 4) x2 H1) fun x5 =>
 cP D 61 [x4, x5] H1 fun x6 H2 =>
 gP (aNot x6) fun x7 =>
 Q x7 H2
theorem w60_eq : w60 = fun D Q x0 x1 H => wpF D ir60 [x0, x1] H Q := by kernel_rfl
theorem w60_ok (hT : Has T) {x0 x1 : AV} {H : AH} {Q : AV → AH → Prop} (h : w60 (Den.of T) Q x0 x1 H) : ∃ v H', Den.of T 60 [x0, x1] H = some (v, H') ∧ Q v H' :=
  wpF_ok (hT _ ir60 rfl) (by rw [w60_eq] at h; exact h)

-- (grille/arena.Graph).right
def w61 (D : Den) (Q : AV → AH → Prop) (x0 x1 : AV) (H : AH) : Prop :=
 sP (aop [] (.box (.cst x0)) H) fun x2 H1 =>
 sP (aop [] (.box (.cst x1)) H1) fun x3 H2 =>
 sP (aop [] (.mkFn (.func 100) [] [(.cst x2)]) H2) fun x8 H3 =>
 gP (aFieldAddr 3 x3) fun x9 =>
 gP (aLoad none x9 H3) fun x10 =>
 cP D 102 [x10, x8] H3 fun x12 H4 =>
 iP x12
 ( Q (.bool false) H4)
 ( gP (aFieldAddr 0 x3) fun x13 =>
 gP (aLoad none x13 H4) fun x14 =>
 gP (aBin .eql x14 (.int .i64 0)) fun x15 =>
 iP x15
 ( gP (aFieldAddr 3 x3) fun x16 =>
 gP (aLoad none x16 H4) fun x17 =>
 gP (aLen .row x17 H4) fun x18 =>
 gP (aBin .eql x18 (.int .i64 0)) fun x19 =>
 dP x19 true
 ( gP (aFieldAddr 2 x3) fun x21 =>
 gP (aLoad none x21 H4) fun x22 =>
 cP D 72 [x22] H4 fun x23 H5 =>
 dP x23 true
 ( gP (aFieldAddr 1 x3) fun x26 =>
 gP (aLoad none x26 H5) fun x27 =>
 gP (aFieldAddr 2 x3) fun x28 =>
 gP (aLoad none x28 H5) fun x29 =>
 cP D 103 [x27, x29] H5 fun x30 H6 =>
 Q x30 H6)
 ( Q (.bool false) H5))
 ( Q (.bool false) H4))
 ( jP 1 (fun x6 H7 =>
 jP 1 (fun x6_1 H8 =>
 dP x6_1 true
 ( gP (aFieldAddr 2 x3) fun x73 =>
 gP (aLoad none x73 H8) fun x74 =>
 gP (aBin .eql x74 (.str [])) fun x75 =>
 Q x75 H8)
 ( Q (.bool false) H8)) fun j1 =>
 gP (aFieldAddr 0 x3) fun x41 =>
 gP (aLoad none x41 H7) fun x42 =>
 gP (aBin .eql x42 (.int .i64 1)) fun x44 =>
 iP x44
 ( dP x6 false
 ( gP (aFieldAddr 1 x3) fun x47 =>
 gP (aLoad none x47 H7) fun x48 =>
 gP (aBin .eql x48 (.str [115, 101, 113])) fun x49 =>
 j1 x49 H7)
 ( j1 (.bool true) H7))
 ( gP (aBin .eql x42 (.int .i64 2)) fun x52 =>
 iP x52
 ( sP (aop [] (.mkFn (.func 105) [] [(.cst x2)]) H7) fun x53 H9 =>
 jP 1 (fun x64 H10 =>
 iP x64
 ( Q (.bool false) H10)
 ( dP x6 false
 ( gP (aFieldAddr 1 x3) fun x67 =>
 gP (aLoad none x67 H10) fun x68 =>
 gP (aBin .eql x68 (.str [109, 97, 112])) fun x69 =>
 j1 x69 H10)
 ( j1 (.bool true) H10))) fun j2 =>
 gP (aFieldAddr 3 x3) fun x54 =>
 gP (aLoad none x54 H9) fun x55 =>
 gP (aLen .row x55 H9) fun x56 =>
 gP (aBin .rem x56 (.int .i64 2)) fun x57 =>
 gP (aBin .neq x57 (.int .i64 0)) fun x58 =>
 dP x58 false
 ( gP (aLoad (some 4) x3 H9) fun x60 =>
 cP D 106 [x60] H9 fun x61 H11 =>
 cP D 102 [x61, x53] H11 fun x63 H12 =>
 j2 x63 H12)
 ( j2 (.bool true) H9))
 ( Q (.bool false) H7))) fun j3 =>
 gP (aFieldAddr 1 x3) fun x32 =>
 gP (aLoad none x32 H4) fun x33 =>
 cP D 75 [x33] H4 fun x34 H13 =>
 dP x34 true
 ( gP (aFieldAddr 1 x3) fun x36 =>
 gP (aLoad none x36 H13) fun x37 =>
 cP D 104 [x37] H13 fun x38 H14 =>
 gP (aNot x38) fun x39 =>
 j3 x39 H14)
 ( j3 (.bool false) H13)))
theorem w61_eq : w61 = fun D Q x0 x1 H => wpF D ir61 [x0, x1] H Q := by kernel_rfl
theorem w61_ok (hT : Has T) {x0 x1 : AV} {H : AH} {Q : AV → AH → Prop} (h : w61 (Den.of T) Q x0 x1 H) : ∃ v H', Den.of T 61 [x0, x1] H = some (v, H') ∧ Q v H' :=
  wpF_ok (hT _ ir61 rfl) (by rw [w61_eq] at h; exact h)

-- slices.ContainsFunc[grille/arena.Graph,grille/arena.Node]
def w62 (D : Den) (Q : AV → AH → Prop) (x0 x1 : AV) (H : AH) : Prop :=
 cP D 107 [x0, x1] H fun x7 H1 =>
 gP (aBin .geq x7 (.int .i64 0)) fun x8 =>
 Q x8 H1
theorem w62_eq : w62 = fun D Q x0 x1 H => wpF D ir62 [x0, x1] H Q := by kernel_rfl
theorem w62_ok (hT : Has T) {x0 x1 : AV} {H : AH} {Q : AV → AH → Prop} (h : w62 (Den.of T) Q x0 x1 H) : ∃ v H', Den.of T 62 [x0, x1] H = some (v, H') ∧ Q v H' :=
  wpF_ok (hT _ ir62 rfl) (by rw [w62_eq] at h; exact h)

-- grille/arena.Twice
def w63 (D : Den) (Q : AV → AH → Prop) (x0 : AV) (H : AH) : Prop :=
 gP (aLen .row x0 H) fun x11 =>
 lP 1 (fun s1 x12 H1 =>
 gP (aBin .lss x12 x11) fun x13 =>
 iP x13
 ( jP 0 (fun H2 =>
 gP (aBin .add x12 (.int .i64 1)) fun x66 =>
 s1 x66 H2) fun j2 =>
 gP (aIdxAddr 4 x0 x12) fun x14 =>
 gP (aLoad (some 4) x14 H1) fun x15 =>
 aP [(.int .i64 0), (.str []), (.str []), .nils] H1 fun x4 H3 =>
 hP (aStore 4 x4 x15 H3) fun H4 =>
 gP (aFieldAddr 0 x4) fun x16 =>
 gP (aLoad none x16 H4) fun x17 =>
 gP (aBin .neq x17 (.int .i64 2)) fun x18 =>
 iP x18
 ( j2 H4)
 ( sP (aop [] (.mkMap) H4) fun x19 H5 =>
 sP (aop [] (.mkMap) H5) fun x20 H6 =>
 gP (aLoad (some 4) x4 H6) fun x21 =>
 cP D 106 [x21] H6 fun x22 H7 =>
 gP (aLen .row x22 H7) fun x23 =>
 lP 1 (fun s3 x24 H8 =>
 gP (aBin .lss x24 x23) fun x25 =>
 iP x25
 ( jP 0 (fun H9 =>
 gP (aBin .add x24 (.int .i64 1)) fun x65 =>
 s3 x65 H9) fun j4 =>
 gP (aIdxAddr 1 x22 x24) fun x26 =>
 gP (aLoad none x26 H8) fun x27 =>
 cP D 101 [x0, x27] H8 fun x30 H10 =>
 gP (aNot x30) fun x31 =>
 iP x31
 ( j4 H10)
 ( gP (aLook (.scal .int) (.int .i64 0) false x19 x27 H10) fun x34 =>
 gP (aBin .add x34 (.int .i64 1)) fun x35 =>
 sP (aop [] (.mapUpd (.scal .int) (.cst x19) (.cst x27) (.cst x35)) H10) fun _ H11 =>
 gP (aLook (.scal .int) (.int .i64 0) false x19 x27 H11) fun x38 =>
 gP (aBin .gtr x38 (.int .i64 1)) fun x39 =>
 iP x39
 ( Q (.bool true) H11)
 ( gP (aIdxAddr 4 x0 x27) fun x42 =>
 gP (aLoad (some 4) x42 H11) fun x43 =>
 aP [(.int .i64 0), (.str []), (.str []), .nils] H11 fun x9 H12 =>
 hP (aStore 4 x9 x43 H12) fun H13 =>
 gP (aFieldAddr 0 x9) fun x44 =>
 gP (aLoad none x44 H13) fun x45 =>
 gP (aBin .eql x45 (.int .i64 0)) fun x46 =>
 iP x46
 ( gP (aFieldAddr 1 x9) fun x48 =>
 gP (aLoad none x48 H13) fun x49 =>
 gP (aFieldAddr 2 x9) fun x50 =>
 gP (aLoad none x50 H13) fun x51 =>
 gP ((aBuild [(.str []), (.str [])] [(0, 1, x49), (1, 1, x51)]).map .agg) fun x52 =>
 gP (aLook (.struct [.str, .str]) (.int .i64 0) false x20 x52 H13) fun x53 =>
 gP (aBin .add x53 (.int .i64 1)) fun x54 =>
 sP (aop [] (.mapEntry (.struct [.str, .str]) (.int .i64 0) (.cst x20) (.cst x52)) H13) fun x55 H14 =>
 gP (aExtract 1 x55) fun x56 =>
 sP (aop [] (.entrySt (.cst x20) (.cst x56) (.cst x54)) H14) fun _ H15 =>
 (sameR (.lookup (.struct [.str, .str]) (.int .i64 0) false (.cst x20) (.cst x52)) H14 H13) ∧
 gP (aFieldAddr 1 x9) fun x58 =>
 gP (aLoad none x58 H15) fun x59 =>
 gP (aFieldAddr 2 x9) fun x60 =>
 gP (aLoad none x60 H15) fun x61 =>
 gP ((aBuild [(.str []), (.str [])] [(0, 1, x59), (1, 1, x61)]).map .agg) fun x62 =>
 gP (aLook (.struct [.str, .str]) (.int .i64 0) false x20 x62 H15) fun x63 =>
 gP (aBin .gtr x63 (.int .i64 1)) fun x64 =>
 iP x64
 ( Q (.bool true) H15)
 ( j4 H15))
 ( j4 H13))))
 ( j2 H8)) [(.int .i64 0)] H7))
 ( Q (.bool false) H1)) [(.int .i64 0)] H
theorem w63_eq : w63 = fun D Q x0 H => wpF D ir63 [x0] H Q := by kernel_rfl
theorem w63_ok (hT : Has T) {x0 : AV} {H : AH} {Q : AV → AH → Prop} (h : w63 (Den.of T) Q x0 H) : ∃ v H', Den.of T 63 [x0] H = some (v, H') ∧ Q v H' :=
  wpF_ok (hT _ ir63 rfl) (by rw [w63_eq] at h; exact h)

-- grille/arena.Ins
def w67 (D : Den) (Q : AV → AH → Prop) (x0 : AV) (H : AH) : Prop :=
 cP D 37 [x0] H fun x9 H1 =>
 gP (aNot x9) fun x10 =>
 iP x10
 ( Q .nils H1)
 ( gP (aLen .row x0 H1) fun x12 =>
 sP (aop [] (.make .ref 1 8 [(.int .i64 0)] (.cst x12) (.cst x12)) H1) fun x13 H2 =>
 gP (aLen .row x0 H2) fun x15 =>
 lP 1 (fun s1 x16 H3 =>
 gP (aBin .lss x16 x15) fun x17 =>
 iP x17
 ( gP (aIdxAddr 4 x0 x16) fun x18 =>
 gP (aLoad (some 4) x18 H3) fun x19 =>
 aP [(.int .i64 0), (.str []), (.str []), .nils] H3 fun x5 H4 =>
 hP (aStore 4 x5 x19 H4) fun H5 =>
 gP (aFieldAddr 3 x5) fun x20 =>
 gP (aLoad none x20 H5) fun x21 =>
 gP (aLen .row x21 H5) fun x22 =>
 lP 1 (fun s2 x23 H6 =>
 gP (aBin .lss x23 x22) fun x24 =>
 iP x24
 ( gP (aIdxAddr 1 x21 x23) fun x25 =>
 gP (aLoad none x25 H6) fun x26 =>
 gP (aIdxAddr 1 x13 x26) fun x29 =>
 gP (aLoad none x29 H6) fun x30 =>
 gP (aBin .add x30 (.int .i64 1)) fun x31 =>
 gP (aIdxAddr 1 x13 x26) fun x32 =>
 hP (aStore 1 x32 x31 H6) fun H7 =>
 gP (aBin .add x23 (.int .i64 1)) fun x33 =>
 s2 x33 H7)
 ( gP (aBin .add x16 (.int .i64 1)) fun x34 =>
 s1 x34 H6)) [(.int .i64 0)] H5)
 ( sP (sealV x13 H3) fun x3 H8 =>
 Q x3 H8)) [(.int .i64 0)] H2)
theorem w67_eq : w67 = fun D Q x0 H => wpF D ir67 [x0] H Q := by kernel_rfl
theorem w67_ok (hT : Has T) {x0 : AV} {H : AH} {Q : AV → AH → Prop} (h : w67 (Den.of T) Q x0 H) : ∃ v H', Den.of T 67 [x0] H = some (v, H') ∧ Q v H' :=
  wpF_ok (hT _ ir67 rfl) (by rw [w67_eq] at h; exact h)

-- (*grille/flatten.teller).node
def w69 (D : Den) (Q : AV → AH → Prop) (x0 x1 : AV) (H : AH) : Prop :=
 sP (aop [] (.box (.cst x0)) H) fun x2 H1 =>
 gP (aLoad none x2 H1) fun x7 =>
 gP (aNilck x7) fun x8 =>
 gP (aFieldAddr 3 x8) fun x9 =>
 gP (aLoad none x9 H1) fun x10 =>
 gP (aBin .lss x1 x10) fun x11 =>
 iP x11
 ( gP (aLoad none x2 H1) fun x12 =>
 gP (aLoad none x2 H1) fun x13 =>
 gP (aNilck x13) fun x14 =>
 gP (aFieldAddr 1 x14) fun x15 =>
 gP (aLoad none x15 H1) fun x16 =>
 gP (aLoad none x2 H1) fun x17 =>
 gP (aNilck x17) fun x18 =>
 gP (aFieldAddr 2 x18) fun x19 =>
 gP (aLoad none x19 H1) fun x20 =>
 gP (aIdxAddr 1 x20 x1) fun x22 =>
 gP (aLoad none x22 H1) fun x23 =>
 gP ((aBuild [(.int .i64 0), (.str []), (.str []), (.str []), (.bool false)] [(0, 1, (.int .i64 7)), (1, 1, x23)]).map .agg) fun x24 =>
 sP (aLit .ro 5 [x24] H1) fun x25 H2 =>
 sP (aAppend .tok 5 64 x16 x25 H2) fun x26 H3 =>
 gP (aNilck x12) fun x27 =>
 gP (aFieldAddr 1 x27) fun x28 =>
 hP (aStore 1 x28 x26 H3) fun H4 =>
 (sameR (.load none (.cst x2)) H3 H2) ∧
 Q (.tup []) H4)
 ( gP (aLoad none x2 H1) fun x29 =>
 gP (aNilck x29) fun x30 =>
 gP (aFieldAddr 3 x30) fun x31 =>
 gP (aLoad none x31 H1) fun x32 =>
 gP (aBin .add x32 (.int .i64 1)) fun x33 =>
 gP (aNilck x29) fun x34 =>
 gP (aFieldAddr 3 x34) fun x35 =>
 hP (aStore 1 x35 x33 H1) fun H5 =>
 gP (aLoad none x2 H5) fun x36 =>
 gP (aNilck x36) fun x37 =>
 gP (aFieldAddr 0 x37) fun x38 =>
 gP (aLoad none x38 H5) fun x39 =>
 gP (aIdxAddr 4 x39 x1) fun x41 =>
 gP (aLoad (some 4) x41 H5) fun x42 =>
 aP [(.int .i64 0), (.str []), (.str []), .nils] H5 fun x4 H6 =>
 hP (aStore 4 x4 x42 H6) fun H7 =>
 gP (aLoad (some 4) x4 H7) fun x43 =>
 cP D 23 [x43] H7 fun x44 H8 =>
 aP [(.int .i64 0), (.str []), (.str []), (.str []), (.bool false)] H8 fun x5 H9 =>
 hP (aStore 5 x5 x44 H9) fun H10 =>
 gP (aLoad none x2 H10) fun x45 =>
 gP (aNilck x45) fun x46 =>
 gP (aFieldAddr 2 x46) fun x47 =>
 gP (aLoad none x47 H10) fun x48 =>
 gP (aIdxAddr 1 x48 x1) fun x50 =>
 gP (aLoad none x50 H10) fun x51 =>
 gP (aFieldAddr 1 x5) fun x52 =>
 hP (aStore 1 x52 x51 H10) fun H11 =>
 gP (aLoad none x2 H11) fun x53 =>
 gP (aLoad none x2 H11) fun x54 =>
 gP (aNilck x54) fun x55 =>
 gP (aFieldAddr 1 x55) fun x56 =>
 gP (aLoad none x56 H11) fun x57 =>
 gP (aLoad (some 5) x5 H11) fun x58 =>
 sP (aLit .ro 5 [x58] H11) fun x59 H12 =>
 sP (aAppend .tok 5 64 x57 x59 H12) fun x60 H13 =>
 gP (aNilck x53) fun x61 =>
 gP (aFieldAddr 1 x61) fun x62 =>
 hP (aStore 1 x62 x60 H13) fun H14 =>
 (sameR (.load none (.cst x2)) H13 H12) ∧
 gP (aFieldAddr 0 x4) fun x63 =>
 gP (aLoad none x63 H14) fun x64 =>
 gP (aBin .eql x64 (.int .i64 0)) fun x65 =>
 iP x65
 ( Q (.tup []) H14)
 ( gP (aLoad none x2 H14) fun x66 =>
 sP (aop [] (.mkFn (.func 114) [] [(.cst x4), (.cst x2)]) H14) fun x67 H15 =>
 cP D 113 [x66, x67] H15 fun x68 H16 =>
 gP (aLoad none x2 H16) fun x69 =>
 gP (aLoad none x2 H16) fun x70 =>
 gP (aNilck x70) fun x71 =>
 gP (aFieldAddr 1 x71) fun x72 =>
 gP (aLoad none x72 H16) fun x73 =>
 gP (aFieldAddr 0 x5) fun x74 =>
 gP (aLoad none x74 H16) fun x75 =>
 gP (aBin .add x75 (.int .i64 1)) fun x76 =>
 gP ((aBuild [(.int .i64 0), (.str []), (.str []), (.str []), (.bool false)] [(0, 1, x76)]).map .agg) fun x77 =>
 sP (aLit .ro 5 [x77] H16) fun x78 H17 =>
 sP (aAppend .tok 5 64 x73 x78 H17) fun x79 H18 =>
 gP (aNilck x69) fun x80 =>
 gP (aFieldAddr 1 x80) fun x81 =>
 hP (aStore 1 x81 x79 H18) fun H19 =>
 (sameR (.load none (.cst x2)) H18 H17) ∧
 Q (.tup []) H19))
theorem w69_eq : w69 = fun D Q x0 x1 H => wpF D ir69 [x0, x1] H Q := by kernel_rfl
theorem w69_ok (hT : Has T) {x0 x1 : AV} {H : AH} {Q : AV → AH → Prop} (h : w69 (Den.of T) Q x0 x1 H) : ∃ v H', Den.of T 69 [x0, x1] H = some (v, H') ∧ Q v H' :=
  wpF_ok (hT _ ir69 rfl) (by rw [w69_eq] at h; exact h)

-- (*grille/compose.doc).kid
def w70 (D : Den) (Q : AV → AH → Prop) (x0 x1 : AV) (H : AH) : Prop :=
 gP (aNilck x0) fun x7 =>
 gP (aFieldAddr 1 x7) fun x8 =>
 gP (aLoad none x8 H) fun x9 =>
 gP (aLen .row x9 H) fun x10 =>
 gP (aBin .eql x10 (.int .i64 0)) fun x11 =>
 iP x11
 ( Q (.int .i64 0) H)
 ( gP (aNilck x0) fun x13 =>
 gP (aFieldAddr 0 x13) fun x14 =>
 gP (aLoad none x14 H) fun x15 =>
 gP (aNilck x0) fun x17 =>
 gP (aFieldAddr 1 x17) fun x18 =>
 gP (aLoad none x18 H) fun x19 =>
 gP (aNilck x0) fun x21 =>
 gP (aFieldAddr 1 x21) fun x22 =>
 gP (aLoad none x22 H) fun x23 =>
 gP (aLen .row x23 H) fun x24 =>
 gP (aBin .sub x24 (.int .i64 1)) fun x25 =>
 gP (aIdxAddr 1 x19 x25) fun x26 =>
 gP (aLoad none x26 H) fun x27 =>
 gP (aIdxAddr 4 x15 x27) fun x28 =>
 jP 1 (fun x53 H1 =>
 iP x53
 ( Q (.int .i64 5) H1)
 ( gP (aNilck x28) fun x56 =>
 gP (aFieldAddr 3 x56) fun x57 =>
 gP (aLoad none x57 H1) fun x58 =>
 sP (aLit .ro 1 [x1] H1) fun x60 H2 =>
 sP (aAppend .tok 1 8 x58 x60 H2) fun x61 H3 =>
 gP (aNilck x28) fun x62 =>
 gP (aFieldAddr 3 x62) fun x63 =>
 hP (aStore 1 x63 x61 H3) fun H4 =>
 Q (.int .i64 0) H4)) fun j1 =>
 gP (aNilck x28) fun x30 =>
 gP (aFieldAddr 0 x30) fun x31 =>
 gP (aLoad none x31 H) fun x32 =>
 gP (aBin .eql x32 (.int .i64 2)) fun x33 =>
 dP x33 true
 ( gP (aNilck x28) fun x36 =>
 gP (aFieldAddr 3 x36) fun x37 =>
 gP (aLoad none x37 H) fun x38 =>
 gP (aLen .row x38 H) fun x39 =>
 gP (aBin .rem x39 (.int .i64 2)) fun x40 =>
 gP (aBin .eql x40 (.int .i64 0)) fun x41 =>
 dP x41 true
 ( gP (aNilck x0) fun x45 =>
 gP (aFieldAddr 0 x45) fun x46 =>
 gP (aLoad none x46 H) fun x47 =>
 gP (aIdxAddr 4 x47 x1) fun x49 =>
 gP (aFieldAddr 0 x49) fun x50 =>
 gP (aLoad none x50 H) fun x51 =>
 gP (aBin .neq x51 (.int .i64 0)) fun x52 =>
 j1 x52 H)
 ( j1 (.bool false) H))
 ( j1 (.bool false) H))
theorem w70_eq : w70 = fun D Q x0 x1 H => wpF D ir70 [x0, x1] H Q := by kernel_rfl
theorem w70_ok (hT : Has T) {x0 x1 : AV} {H : AH} {Q : AV → AH → Prop} (h : w70 (Den.of T) Q x0 x1 H) : ∃ v H', Den.of T 70 [x0, x1] H = some (v, H') ∧ Q v H' :=
  wpF_ok (hT _ ir70 rfl) (by rw [w70_eq] at h; exact h)

-- (*grille/compose.doc).node
def w71 (D : Den) (Q : AV → AH → Prop) (x0 x1 : AV) (H : AH) : Prop :=
 sP (aop [] (.box (.cst x1)) H) fun x3 H1 =>
 gP (aNilck x0) fun x10 =>
 gP (aFieldAddr 0 x10) fun x11 =>
 gP (aLoad none x11 H1) fun x12 =>
 gP (aLen .row x12 H1) fun x13 =>
 gP (aBin .geq x13 (.int .i64 2000)) fun x14 =>
 iP x14
 ( Q (.int .i64 16) H1)
 ( gP (aLoad (some 5) x3 H1) fun x16 =>
 cP D 115 [x16] H1 fun x17 H2 =>
 gP (aExtract 0 x17) fun x18 =>
 gP (aExtract 1 x17) fun x19 =>
 gP (aBin .neq x19 (.int .i64 0)) fun x21 =>
 iP x21
 ( Q x19 H2)
 ( gP (aNilck x0) fun x24 =>
 gP (aFieldAddr 0 x24) fun x25 =>
 gP (aLoad none x25 H2) fun x26 =>
 gP (aLen .row x26 H2) fun x27 =>
 gP (aFieldAddr 3 x3) fun x29 =>
 gP (aLoad none x29 H2) fun x30 =>
 gP ((aBuild [(.int .i64 0), (.str []), (.str []), .nils] [(1, 1, x18), (2, 1, x30)]).map .agg) fun x31 =>
 aP [(.int .i64 0), (.str []), (.str []), .nils] H2 fun x8 H3 =>
 hP (aStore 4 x8 x31 H3) fun H4 =>
 jP 0 (fun H5 =>
 gP (aNilck x0) fun x42 =>
 gP (aFieldAddr 0 x42) fun x43 =>
 gP (aLoad none x43 H5) fun x44 =>
 gP (aLoad (some 4) x8 H5) fun x45 =>
 sP (aLit .ro 4 [x45] H5) fun x46 H6 =>
 sP (aAppend .ref 4 64 x44 x46 H6) fun x47 H7 =>
 gP (aNilck x0) fun x48 =>
 gP (aFieldAddr 0 x48) fun x49 =>
 hP (aStore 1 x49 x47 H7) fun H8 =>
 jP 0 (fun H9 =>
 cP D 70 [x0, x27] H9 fun x62 H10 =>
 jP 0 (fun H11 =>
 Q x62 H11) fun j1 =>
 gP (aFieldAddr 0 x8) fun x63 =>
 gP (aLoad none x63 H10) fun x64 =>
 gP (aBin .neq x64 (.int .i64 0)) fun x65 =>
 iP x65
 ( gP (aNilck x0) fun x68 =>
 gP (aFieldAddr 1 x68) fun x69 =>
 gP (aLoad none x69 H10) fun x70 =>
 sP (aLit .ro 1 [x27] H10) fun x72 H12 =>
 sP (aAppend .ref 1 8 x70 x72 H12) fun x73 H13 =>
 gP (aNilck x0) fun x74 =>
 gP (aFieldAddr 1 x74) fun x75 =>
 hP (aStore 1 x75 x73 H13) fun H14 =>
 j1 H14)
 ( j1 H10)) fun j2 =>
 gP (aFieldAddr 1 x3) fun x50 =>
 gP (aLoad none x50 H8) fun x51 =>
 gP (aBin .neq x51 (.str [])) fun x52 =>
 iP x52
 ( gP (aNilck x0) fun x54 =>
 gP (aFieldAddr 2 x54) fun x55 =>
 gP (aLoad none x55 H8) fun x56 =>
 gP (aFieldAddr 1 x3) fun x57 =>
 gP (aLoad none x57 H8) fun x58 =>
 sP (aop [] (.mapUpd (.scal .str) (.cst x56) (.cst x58) (.cst x27)) H8) fun _ H15 =>
 j2 H15)
 ( j2 H8)) fun j3 =>
 gP (aFieldAddr 0 x3) fun x32 =>
 gP (aLoad none x32 H4) fun x33 =>
 gP (aBin .eql x33 (.int .i64 2)) fun x35 =>
 iP x35
 ( gP (aFieldAddr 0 x8) fun x36 =>
 hP (aStore 1 x36 (.int .i64 1) H4) fun H16 =>
 j3 H16)
 ( gP (aBin .eql x33 (.int .i64 4)) fun x38 =>
 iP x38
 ( gP (aFieldAddr 0 x8) fun x39 =>
 hP (aStore 1 x39 (.int .i64 2) H4) fun H17 =>
 j3 H17)
 ( j3 H4))))
theorem w71_eq : w71 = fun D Q x0 x1 H => wpF D ir71 [x0, x1] H Q := by kernel_rfl
theorem w71_ok (hT : Has T) {x0 x1 : AV} {H : AH} {Q : AV → AH → Prop} (h : w71 (Den.of T) Q x0 x1 H) : ∃ v H', Den.of T 71 [x0, x1] H = some (v, H') ∧ Q v H' :=
  wpF_ok (hT _ ir71 rfl) (by rw [w71_eq] at h; exact h)

-- grille/lex.Name
def w73 (D : Den) (Q : AV → AH → Prop) (x0 : AV) (H : AH) : Prop :=
 gP (aBin .neq x0 (.str [])) fun x5 =>
 dP x5 true
 ( gP (aLen .str x0 H) fun x8 =>
 gP (aBin .leq x8 (.int .i64 40)) fun x9 =>
 dP x9 true
 ( cP D 88 [x0, (.fn (.func 117) [] [])] H fun x14 H1 =>
 gP (aNot x14) fun x15 =>
 Q x15 H1)
 ( Q (.bool false) H))
 ( Q (.bool false) H)
theorem w73_eq : w73 = fun D Q x0 H => wpF D ir73 [x0] H Q := by kernel_rfl
theorem w73_ok (hT : Has T) {x0 : AV} {H : AH} {Q : AV → AH → Prop} (h : w73 (Den.of T) Q x0 H) : ∃ v H', Den.of T 73 [x0] H = some (v, H') ∧ Q v H' :=
  wpF_ok (hT _ ir73 rfl) (by rw [w73_eq] at h; exact h)

-- (grille/event.Event).node
def w74 (D : Den) (Q : AV → AH → Prop) (x0 : AV) (H : AH) : Prop :=
 sP (aop [] (.box (.cst x0)) H) fun x1 H1 =>
 gP (aFieldAddr 0 x1) fun x3 =>
 gP (aLoad none x3 H1) fun x4 =>
 gP (aBin .eql x4 (.int .i64 2)) fun x5 =>
 dP x5 false
 ( gP (aFieldAddr 0 x1) fun x7 =>
 gP (aLoad none x7 H1) fun x8 =>
 gP (aBin .eql x8 (.int .i64 4)) fun x9 =>
 dP x9 false
 ( gP (aFieldAddr 0 x1) fun x12 =>
 gP (aLoad none x12 H1) fun x13 =>
 gP (aBin .eql x13 (.int .i64 6)) fun x14 =>
 Q x14 H1)
 ( Q (.bool true) H1))
 ( Q (.bool true) H1)
theorem w74_eq : w74 = fun D Q x0 H => wpF D ir74 [x0] H Q := by kernel_rfl
theorem w74_ok (hT : Has T) {x0 : AV} {H : AH} {Q : AV → AH → Prop} (h : w74 (Den.of T) Q x0 H) : ∃ v H', Den.of T 74 [x0] H = some (v, H') ∧ Q v H' :=
  wpF_ok (hT _ ir74 rfl) (by rw [w74_eq] at h; exact h)

-- grille/tag.Right
def w75 (D : Den) (Q : AV → AH → Prop) (x0 : AV) (H : AH) : Prop :=
 cP D 104 [x0] H fun x4 H1 =>
 dP x4 false
 ( cP D 118 [x0] H1 fun x7 H2 =>
 Q x7 H2)
 ( Q (.bool true) H1)
theorem w75_eq : w75 = fun D Q x0 H => wpF D ir75 [x0] H Q := by kernel_rfl
theorem w75_ok (hT : Has T) {x0 : AV} {H : AH} {Q : AV → AH → Prop} (h : w75 (Den.of T) Q x0 H) : ∃ v H', Den.of T 75 [x0] H = some (v, H') ∧ Q v H' :=
  wpF_ok (hT _ ir75 rfl) (by rw [w75_eq] at h; exact h)

-- (*grille/event.nest).last
def w76 (D : Den) (Q : AV → AH → Prop) (x0 : AV) (H : AH) : Prop :=
 gP (aNilck x0) fun x4 =>
 gP (aFieldAddr 0 x4) fun x5 =>
 gP (aLoad none x5 H) fun x6 =>
 gP (aLen .row x6 H) fun x7 =>
 gP (aBin .eql x7 (.int .i64 0)) fun x8 =>
 iP x8
 ( gP ((aBuild [(.int .i64 0), (.int .i64 0)] [(0, 1, (.int .i64 (-1)))]).map .agg) fun x9 =>
 sP (aop [] (.box (.cst x9)) H) fun x10 H1 =>
 Q x10 H1)
 ( gP (aNilck x0) fun x12 =>
 gP (aFieldAddr 0 x12) fun x13 =>
 gP (aLoad none x13 H) fun x14 =>
 gP (aNilck x0) fun x16 =>
 gP (aFieldAddr 0 x16) fun x17 =>
 gP (aLoad none x17 H) fun x18 =>
 gP (aLen .row x18 H) fun x19 =>
 gP (aBin .sub x19 (.int .i64 1)) fun x20 =>
 gP (aIdxAddr 2 x14 x20) fun x21 =>
 Q x21 H)
theorem w76_eq : w76 = fun D Q x0 H => wpF D ir76 [x0] H Q := by kernel_rfl
theorem w76_ok (hT : Has T) {x0 : AV} {H : AH} {Q : AV → AH → Prop} (h : w76 (Den.of T) Q x0 H) : ∃ v H', Den.of T 76 [x0] H = some (v, H') ∧ Q v H' :=
  wpF_ok (hT _ ir76 rfl) (by rw [w76_eq] at h; exact h)

-- (*grille/event.nest).push
def w77 (D : Den) (Q : AV → AH → Prop) (x0 x1 : AV) (H : AH) : Prop :=
 gP (aNilck x0) fun x6 =>
 gP (aFieldAddr 0 x6) fun x7 =>
 gP (aLoad none x7 H) fun x8 =>
 gP ((aBuild [(.int .i64 0), (.int .i64 0)] [(0, 1, x1)]).map .agg) fun x10 =>
 sP (aLit .ro 2 [x10] H) fun x11 H1 =>
 sP (aAppend .ref 2 16 x8 x11 H1) fun x12 H2 =>
 gP (aNilck x0) fun x13 =>
 gP (aFieldAddr 0 x13) fun x14 =>
 hP (aStore 1 x14 x12 H2) fun H3 =>
 Q (.tup []) H3
theorem w77_eq : w77 = fun D Q x0 x1 H => wpF D ir77 [x0, x1] H Q := by kernel_rfl
theorem w77_ok (hT : Has T) {x0 x1 : AV} {H : AH} {Q : AV → AH → Prop} (h : w77 (Den.of T) Q x0 x1 H) : ∃ v H', Den.of T 77 [x0, x1] H = some (v, H') ∧ Q v H' :=
  wpF_ok (hT _ ir77 rfl) (by rw [w77_eq] at h; exact h)

-- (*grille/event.nest).pop
def w78 (D : Den) (Q : AV → AH → Prop) (x0 x1 x2 : AV) (H : AH) : Prop :=
 cP D 76 [x0] H fun x9 H1 =>
 jP 1 (fun x24 H2 =>
 iP x24
 ( Q (.bool false) H2)
 ( gP (aNilck x0) fun x27 =>
 gP (aFieldAddr 0 x27) fun x28 =>
 gP (aLoad none x28 H2) fun x29 =>
 gP (aNilck x0) fun x31 =>
 gP (aFieldAddr 0 x31) fun x32 =>
 gP (aLoad none x32 H2) fun x33 =>
 gP (aLen .row x33 H2) fun x34 =>
 gP (aBin .sub x34 (.int .i64 1)) fun x35 =>
 gP (aSlc 2 x29 none (some x35)) fun x36 =>
 gP (aNilck x0) fun x37 =>
 gP (aFieldAddr 0 x37) fun x38 =>
 hP (aStore 1 x38 x36 H2) fun H3 =>
 Q (.bool true) H3)) fun j1 =>
 gP (aNilck x9) fun x11 =>
 gP (aFieldAddr 0 x11) fun x12 =>
 gP (aLoad none x12 H1) fun x13 =>
 gP (aBin .neq x13 x1) fun x15 =>
 dP x15 false
 ( gP (aNilck x9) fun x19 =>
 gP (aFieldAddr 1 x19) fun x20 =>
 gP (aLoad none x20 H1) fun x21 =>
 vP D 0 x2 [x21] H1 fun x22 H4 =>
 gP (aNot x22) fun x23 =>
 j1 x23 H4)
 ( j1 (.bool true) H1)
theorem w78_eq : w78 = fun D Q x0 x1 x2 H => wpF D ir78 [x0, x1, x2] H Q := by kernel_rfl
theorem w78_ok (hT : Has T) {x0 x1 x2 : AV} {H : AH} {Q : AV → AH → Prop} (h : w78 (Den.of T) Q x0 x1 x2 H) : ∃ v H', Den.of T 78 [x0, x1, x2] H = some (v, H') ∧ Q v H' :=
  wpF_ok (hT _ ir78 rfl) (by rw [w78_eq] at h; exact h)

-- (*grille/event.nest).take$1
def w79 (D : Den) (Q : AV → AH → Prop) (x0 : AV) (H : AH) : Prop :=
 gP (aBin .eql x0 (.int .i64 1)) fun x4 =>
 Q x4 H
theorem w79_eq : w79 = fun D Q x0 H => wpF D ir79 [x0] H Q := by kernel_rfl
theorem w79_ok (hT : Has T) {x0 : AV} {H : AH} {Q : AV → AH → Prop} (h : w79 (Den.of T) Q x0 H) : ∃ v H', Den.of T 79 [x0] H = some (v, H') ∧ Q v H' :=
  wpF_ok (hT _ ir79 rfl) (by rw [w79_eq] at h; exact h)

-- (*grille/event.nest).take$2
def w80 (D : Den) (Q : AV → AH → Prop) (x0 : AV) (H : AH) : Prop :=
 Q (.bool true) H
theorem w80_eq : w80 = fun D Q x0 H => wpF D ir80 [x0] H Q := by kernel_rfl
theorem w80_ok (hT : Has T) {x0 : AV} {H : AH} {Q : AV → AH → Prop} (h : w80 (Den.of T) Q x0 H) : ∃ v H', Den.of T 80 [x0] H = some (v, H') ∧ Q v H' :=
  wpF_ok (hT _ ir80 rfl) (by rw [w80_eq] at h; exact h)

-- (*grille/event.nest).take$3
def w81 (D : Den) (Q : AV → AH → Prop) (x0 : AV) (H : AH) : Prop :=
 gP (aBin .rem x0 (.int .i64 2)) fun x4 =>
 gP (aBin .eql x4 (.int .i64 0)) fun x5 =>
 Q x5 H
theorem w81_eq : w81 = fun D Q x0 H => wpF D ir81 [x0] H Q := by kernel_rfl
theorem w81_ok (hT : Has T) {x0 : AV} {H : AH} {Q : AV → AH → Prop} (h : w81 (Den.of T) Q x0 H) : ∃ v H', Den.of T 81 [x0] H = some (v, H') ∧ Q v H' :=
  wpF_ok (hT _ ir81 rfl) (by rw [w81_eq] at h; exact h)

-- grille/scalar.Plain$1
def w84 (D : Den) (Q : AV → AH → Prop) (x0 : AV) (H : AH) : Prop :=
 cP D 85 [x0] H fun x4 H1 =>
 gP (aNot x4) fun x5 =>
 Q x5 H1
theorem w84_eq : w84 = fun D Q x0 H => wpF D ir84 [x0] H Q := by kernel_rfl
theorem w84_ok (hT : Has T) {x0 : AV} {H : AH} {Q : AV → AH → Prop} (h : w84 (Den.of T) Q x0 H) : ∃ v H', Den.of T 84 [x0] H = some (v, H') ∧ Q v H' :=
  wpF_ok (hT _ ir84 rfl) (by rw [w84_eq] at h; exact h)

-- grille/text.May
def w85 (D : Den) (Q : AV → AH → Prop) (x0 : AV) (H : AH) : Prop :=
 jP 1 (fun x3 H1 =>
 iP x3
 ( Q (.bool true) H1)
 ( jP 1 (fun x18 H2 =>
 iP x18
 ( Q (.bool false) H2)
 ( gP (aBin .geq x0 (.int .i32 32)) fun x30 =>
 dP x30 true
 ( gP (aBin .lss x0 (.int .i32 127)) fun x33 =>
 dP x33 false
 ( gP (aBin .geq x0 (.int .i32 160)) fun x37 =>
 dP x37 true
 ( cP D 121 [x0] H2 fun x40 H3 =>
 Q x40 H3)
 ( Q (.bool false) H2))
 ( Q (.bool true) H2))
 ( gP (aBin .geq x0 (.int .i32 160)) fun x37_1 =>
 dP x37_1 true
 ( cP D 121 [x0] H2 fun x40_1 H4 =>
 Q x40_1 H4)
 ( Q (.bool false) H2)))) fun j1 =>
 gP (aBin .eql x0 (.int .i32 65279)) fun x20 =>
 dP x20 false
 ( gP (aBin .eql x0 (.int .i32 65534)) fun x23 =>
 dP x23 false
 ( gP (aBin .eql x0 (.int .i32 65535)) fun x27 =>
 j1 x27 H1)
 ( j1 (.bool true) H1))
 ( j1 (.bool true) H1))) fun j2 =>
 gP (aBin .eql x0 (.int .i32 9)) fun x5 =>
 dP x5 false
 ( gP (aBin .eql x0 (.int .i32 10)) fun x8 =>
 dP x8 false
 ( gP (aBin .eql x0 (.int .i32 13)) fun x12 =>
 dP x12 false
 ( gP (aBin .eql x0 (.int .i32 133)) fun x16 =>
 j2 x16 H)
 ( j2 (.bool true) H))
 ( j2 (.bool true) H))
 ( j2 (.bool true) H)
theorem w85_eq : w85 = fun D Q x0 H => wpF D ir85 [x0] H Q := by kernel_rfl
theorem w85_ok (hT : Has T) {x0 : AV} {H : AH} {Q : AV → AH → Prop} (h : w85 (Den.of T) Q x0 H) : ∃ v H', Den.of T 85 [x0] H = some (v, H') ∧ Q v H' :=
  wpF_ok (hT _ ir85 rfl) (by rw [w85_eq] at h; exact h)

-- grille/scalar.hasAny
def w87 (D : Den) (Q : AV → AH → Prop) (x0 x1 : AV) (H : AH) : Prop :=
 sP (aop [] (.rangeS (.cst x0)) H) fun x10 H1 =>
 lP 0 (fun s1 H2 =>
 sP (aop [] (.nextS (.cst x10)) H2) fun x11 H3 =>
 gP (aExtract 0 x11) fun x12 =>
 iP x12
 ( gP (aExtract 2 x11) fun x13 =>
 sP (aop [] (.rangeS (.cst x1)) H3) fun x15 H4 =>
 lP 0 (fun s2 H5 =>
 sP (aop [] (.nextS (.cst x15)) H5) fun x16 H6 =>
 gP (aExtract 0 x16) fun x17 =>
 iP x17
 ( gP (aExtract 2 x16) fun x18 =>
 gP (aBin .eql x13 x18) fun x21 =>
 iP x21
 ( Q (.bool true) H6)
 ( s2 H6))
 ( s1 H6)) [] H4)
 ( Q (.bool false) H3)) [] H1
theorem w87_eq : w87 = fun D Q x0 x1 H => wpF D ir87 [x0, x1] H Q := by kernel_rfl
theorem w87_ok (hT : Has T) {x0 x1 : AV} {H : AH} {Q : AV → AH → Prop} (h : w87 (Den.of T) Q x0 x1 H) : ∃ v H', Den.of T 87 [x0, x1] H = some (v, H') ∧ Q v H' :=
  wpF_ok (hT _ ir87 rfl) (by rw [w87_eq] at h; exact h)

-- strings.ContainsFunc
def w88 (D : Den) (Q : AV → AH → Prop) (x0 x1 : AV) (H : AH) : Prop :=
 cP D 123 [x0, x1] H fun x7 H1 =>
 gP (aBin .geq x7 (.int .i64 0)) fun x8 =>
 Q x8 H1
theorem w88_eq : w88 = fun D Q x0 x1 H => wpF D ir88 [x0, x1] H Q := by kernel_rfl
theorem w88_ok (hT : Has T) {x0 x1 : AV} {H : AH} {Q : AV → AH → Prop} (h : w88 (Den.of T) Q x0 x1 H) : ∃ v H', Den.of T 88 [x0, x1] H = some (v, H') ∧ Q v H' :=
  wpF_ok (hT _ ir88 rfl) (by rw [w88_eq] at h; exact h)

-- strings.HasSuffix
def w89 (D : Den) (Q : AV → AH → Prop) (x0 x1 : AV) (H : AH) : Prop :=
 cP D 124 [x0, x1] H fun x7 H1 =>
 Q x7 H1
theorem w89_eq : w89 = fun D Q x0 x1 H => wpF D ir89 [x0, x1] H Q := by kernel_rfl
theorem w89_ok (hT : Has T) {x0 x1 : AV} {H : AH} {Q : AV → AH → Prop} (h : w89 (Den.of T) Q x0 x1 H) : ∃ v H', Den.of T 89 [x0, x1] H = some (v, H') ∧ Q v H' :=
  wpF_ok (hT _ ir89 rfl) (by rw [w89_eq] at h; exact h)

-- grille/tag.sign
def w91 (D : Den) (Q : AV → AH → Prop) (x0 : AV) (H : AH) : Prop :=
 jP 1 (fun x14 H1 =>
 iP x14
 ( gP (aSlcS x0 (some (.int .i64 1)) none) fun x16 =>
 Q x16 H1)
 ( Q x0 H1)) fun j1 =>
 gP (aBin .neq x0 (.str [])) fun x4 =>
 dP x4 true
 ( gP (aIdxStr x0 (.int .i64 0)) fun x7 =>
 gP (aBin .eql x7 (.int .u8 43)) fun x8 =>
 dP x8 false
 ( gP (aIdxStr x0 (.int .i64 0)) fun x11 =>
 gP (aBin .eql x11 (.int .u8 45)) fun x12 =>
 j1 x12 H)
 ( j1 (.bool true) H))
 ( j1 (.bool false) H)
theorem w91_eq : w91 = fun D Q x0 H => wpF D ir91 [x0] H Q := by kernel_rfl
theorem w91_ok (hT : Has T) {x0 : AV} {H : AH} {Q : AV → AH → Prop} (h : w91 (Den.of T) Q x0 H) : ∃ v H', Den.of T 91 [x0] H = some (v, H') ∧ Q v H' :=
  wpF_ok (hT _ ir91 rfl) (by rw [w91_eq] at h; exact h)

-- grille/tag.whole
def w92 (D : Den) (Q : AV → AH → Prop) (x0 : AV) (H : AH) : Prop :=
 cP D 126 [x0, (.str [48, 111])] H fun x9 H1 =>
 gP (aExtract 0 x9) fun x10 =>
 gP (aExtract 1 x9) fun x11 =>
 iP x11
 ( cP D 127 [x10, (.int .i64 8)] H1 fun x14 H2 =>
 Q x14 H2)
 ( cP D 126 [x0, (.str [48, 120])] H1 fun x17 H3 =>
 gP (aExtract 0 x17) fun x18 =>
 gP (aExtract 1 x17) fun x19 =>
 iP x19
 ( cP D 127 [x18, (.int .i64 16)] H3 fun x22 H4 =>
 Q x22 H4)
 ( cP D 91 [x0] H3 fun x24 H5 =>
 cP D 127 [x24, (.int .i64 10)] H5 fun x25 H6 =>
 Q x25 H6))
theorem w92_eq : w92 = fun D Q x0 H => wpF D ir92 [x0] H Q := by kernel_rfl
theorem w92_ok (hT : Has T) {x0 : AV} {H : AH} {Q : AV → AH → Prop} (h : w92 (Den.of T) Q x0 H) : ∃ v H', Den.of T 92 [x0] H = some (v, H') ∧ Q v H' :=
  wpF_ok (hT _ ir92 rfl) (by rw [w92_eq] at h; exact h)

-- grille/tag.real
def w93 (D : Den) (Q : AV → AH → Prop) (x0 : AV) (H : AH) : Prop :=
 cP D 91 [x0] H fun x10 H1 =>
 cP D 128 [x10, (.int .i64 10)] H1 fun x11 H2 =>
 gP (aExtract 0 x11) fun x12 =>
 gP (aExtract 1 x11) fun x13 =>
 jP 2 (fun x3 x5 H3 =>
 gP (aBin .add x13 x5) fun x27 =>
 gP (aBin .eql x27 (.int .i64 0)) fun x28 =>
 iP x28
 ( Q (.bool false) H3)
 ( gP (aBin .eql x3 (.str [])) fun x30 =>
 iP x30
 ( Q (.bool true) H3)
 ( gP (aIdxStr x3 (.int .i64 0)) fun x32 =>
 gP (aBin .eql x32 (.int .u8 101)) fun x33 =>
 dP x33 false
 ( gP (aIdxStr x3 (.int .i64 0)) fun x36 =>
 gP (aBin .eql x36 (.int .u8 69)) fun x37 =>
 dP x37 true
 ( gP (aSlcS x3 (some (.int .i64 1)) none) fun x41 =>
 cP D 91 [x41] H3 fun x42 H4 =>
 cP D 127 [x42, (.int .i64 10)] H4 fun x43 H5 =>
 Q x43 H5)
 ( Q (.bool false) H3))
 ( gP (aSlcS x3 (some (.int .i64 1)) none) fun x41_1 =>
 cP D 91 [x41_1] H3 fun x42_1 H6 =>
 cP D 127 [x42_1, (.int .i64 10)] H6 fun x43_1 H7 =>
 Q x43_1 H7)))) fun j1 =>
 cP D 126 [x12, (.str [46])] H2 fun x16 H8 =>
 gP (aExtract 0 x16) fun x17 =>
 gP (aExtract 1 x16) fun x18 =>
 iP x18
 ( cP D 128 [x17, (.int .i64 10)] H8 fun x22 H9 =>
 gP (aExtract 0 x22) fun x23 =>
 gP (aExtract 1 x22) fun x24 =>
 j1 x23 x24 H9)
 ( j1 x12 (.int .i64 0) H8)
theorem w93_eq : w93 = fun D Q x0 H => wpF D ir93 [x0] H Q := by kernel_rfl
theorem w93_ok (hT : Has T) {x0 : AV} {H : AH} {Q : AV → AH → Prop} (h : w93 (Den.of T) Q x0 H) : ∃ v H', Den.of T 93 [x0] H = some (v, H') ∧ Q v H' :=
  wpF_ok (hT _ ir93 rfl) (by rw [w93_eq] at h; exact h)

-- (grille/arena.Graph).right$1
def w100 (D : Den) (Q : AV → AH → Prop) (x0 x1 : AV) (H : AH) : Prop :=
 gP (aLoad none x1 H) fun x4 =>
 cP D 101 [x4, x0] H fun x6 H1 =>
 gP (aNot x6) fun x7 =>
 Q x7 H1
theorem w100_eq : w100 = fun D Q x0 x1 H => wpF D ir100 [x0, x1] H Q := by kernel_rfl
theorem w100_ok (hT : Has T) {x0 x1 : AV} {H : AH} {Q : AV → AH → Prop} (h : w100 (Den.of T) Q x0 x1 H) : ∃ v H', Den.of T 100 [x0, x1] H = some (v, H') ∧ Q v H' :=
  wpF_ok (hT _ ir100 rfl) (by rw [w100_eq] at h; exact h)

-- (grille/arena.Graph).has
def w101 (D : Den) (Q : AV → AH → Prop) (x0 x1 : AV) (H : AH) : Prop :=
 gP (aBin .geq x1 (.int .i64 0)) fun x6 =>
 dP x6 true
 ( gP (aLen .row x0 H) fun x10 =>
 gP (aBin .lss x1 x10) fun x11 =>
 Q x11 H)
 ( Q (.bool false) H)
theorem w101_eq : w101 = fun D Q x0 x1 H => wpF D ir101 [x0, x1] H Q := by kernel_rfl
theorem w101_ok (hT : Has T) {x0 x1 : AV} {H : AH} {Q : AV → AH → Prop} (h : w101 (Den.of T) Q x0 x1 H) : ∃ v H', Den.of T 101 [x0, x1] H = some (v, H') ∧ Q v H' :=
  wpF_ok (hT _ ir101 rfl) (by rw [w101_eq] at h; exact h)

-- slices.ContainsFunc[[]int,int]
def w102 (D : Den) (Q : AV → AH → Prop) (x0 x1 : AV) (H : AH) : Prop :=
 cP D 136 [x0, x1] H fun x7 H1 =>
 gP (aBin .geq x7 (.int .i64 0)) fun x8 =>
 Q x8 H1
theorem w102_eq : w102 = fun D Q x0 x1 H => wpF D ir102 [x0, x1] H Q := by kernel_rfl
theorem w102_ok (hT : Has T) {x0 x1 : AV} {H : AH} {Q : AV → AH → Prop} (h : w102 (Den.of T) Q x0 x1 H) : ∃ v H', Den.of T 102 [x0, x1] H = some (v, H') ∧ Q v H' :=
  wpF_ok (hT _ ir102 rfl) (by rw [w102_eq] at h; exact h)

-- grille/tag.Fits
def w103 (D : Den) (Q : AV → AH → Prop) (x0 x1 : AV) (H : AH) : Prop :=
 cP D 137 [x0] H fun x7 H1 =>
 gP (aNot x7) fun x8 =>
 iP x8
 ( gP (aBin .eql x0 (.str [115, 116, 114])) fun x10 =>
 dP x10 false
 ( cP D 118 [x0] H1 fun x13 H2 =>
 Q x13 H2)
 ( Q (.bool true) H1))
 ( cP D 54 [x1] H1 fun x16 H3 =>
 gP (aBin .eql x16 x0) fun x19 =>
 dP x19 false
 ( gP (aBin .eql x0 (.str [102, 108, 111, 97, 116])) fun x22 =>
 dP x22 true
 ( gP (aBin .eql x16 (.str [105, 110, 116])) fun x25 =>
 Q x25 H3)
 ( Q (.bool false) H3))
 ( Q (.bool true) H3))
theorem w103_eq : w103 = fun D Q x0 x1 H => wpF D ir103 [x0, x1] H Q := by kernel_rfl
theorem w103_ok (hT : Has T) {x0 x1 : AV} {H : AH} {Q : AV → AH → Prop} (h : w103 (Den.of T) Q x0 x1 H) : ∃ v H', Den.of T 103 [x0, x1] H = some (v, H') ∧ Q v H' :=
  wpF_ok (hT _ ir103 rfl) (by rw [w103_eq] at h; exact h)

-- grille/tag.Core
def w104 (D : Den) (Q : AV → AH → Prop) (x0 : AV) (H : AH) : Prop :=
 jP 1 (fun x4 H1 =>
 iP x4
 ( Q (.bool true) H1)
 ( cP D 137 [x0] H1 fun x9 H2 =>
 Q x9 H2)) fun j1 =>
 gP (aBin .eql x0 (.str [115, 101, 113])) fun x5 =>
 iP x5
 ( j1 x5 H)
 ( gP (aBin .eql x0 (.str [109, 97, 112])) fun x6 =>
 iP x6
 ( j1 x6 H)
 ( gP (aBin .eql x0 (.str [115, 116, 114])) fun x7 =>
 j1 x7 H))
theorem w104_eq : w104 = fun D Q x0 H => wpF D ir104 [x0] H Q := by kernel_rfl
theorem w104_ok (hT : Has T) {x0 : AV} {H : AH} {Q : AV → AH → Prop} (h : w104 (Den.of T) Q x0 H) : ∃ v H', Den.of T 104 [x0] H = some (v, H') ∧ Q v H' :=
  wpF_ok (hT _ ir104 rfl) (by rw [w104_eq] at h; exact h)

-- (grille/arena.Graph).right$2
def w105 (D : Den) (Q : AV → AH → Prop) (x0 x1 : AV) (H : AH) : Prop :=
 gP (aLoad none x1 H) fun x4 =>
 gP (aIdxAddr 4 x4 x0) fun x6 =>
 gP (aFieldAddr 0 x6) fun x7 =>
 gP (aLoad none x7 H) fun x8 =>
 gP (aBin .neq x8 (.int .i64 0)) fun x9 =>
 Q x9 H
theorem w105_eq : w105 = fun D Q x0 x1 H => wpF D ir105 [x0, x1] H Q := by kernel_rfl
theorem w105_ok (hT : Has T) {x0 x1 : AV} {H : AH} {Q : AV → AH → Prop} (h : w105 (Den.of T) Q x0 x1 H) : ∃ v H', Den.of T 105 [x0, x1] H = some (v, H') ∧ Q v H' :=
  wpF_ok (hT _ ir105 rfl) (by rw [w105_eq] at h; exact h)

-- (grille/arena.Node).keys
def w106 (D : Den) (Q : AV → AH → Prop) (x0 : AV) (H : AH) : Prop :=
 sP (aop [] (.box (.cst x0)) H) fun x1 H1 =>
 lP 2 (fun s1 x2 x3 H2 =>
 gP (aFieldAddr 3 x1) fun x5 =>
 gP (aLoad none x5 H2) fun x6 =>
 gP (aLen .row x6 H2) fun x7 =>
 gP (aBin .lss x3 x7) fun x8 =>
 iP x8
 ( gP (aFieldAddr 3 x1) fun x12 =>
 gP (aLoad none x12 H2) fun x13 =>
 gP (aIdxAddr 1 x13 x3) fun x15 =>
 gP (aLoad none x15 H2) fun x16 =>
 sP (aLit .ro 1 [x16] H2) fun x17 H3 =>
 sP (aAppend .tok 1 8 x2 x17 H3) fun x18 H4 =>
 gP (aBin .add x3 (.int .i64 2)) fun x10 =>
 s1 x18 x10 H4)
 ( Q x2 H2)) [.nils, (.int .i64 0)] H1
theorem w106_eq : w106 = fun D Q x0 H => wpF D ir106 [x0] H Q := by kernel_rfl
theorem w106_ok (hT : Has T) {x0 : AV} {H : AH} {Q : AV → AH → Prop} (h : w106 (Den.of T) Q x0 H) : ∃ v H', Den.of T 106 [x0] H = some (v, H') ∧ Q v H' :=
  wpF_ok (hT _ ir106 rfl) (by rw [w106_eq] at h; exact h)

-- slices.IndexFunc[grille/arena.Graph,grille/arena.Node]
def w107 (D : Den) (Q : AV → AH → Prop) (x0 x1 : AV) (H : AH) : Prop :=
 gP (aLen .row x0 H) fun x7 =>
 lP 1 (fun s1 x8 H1 =>
 gP (aBin .lss x8 x7) fun x9 =>
 iP x9
 ( gP (aIdxAddr 4 x0 x8) fun x14 =>
 gP (aLoad (some 4) x14 H1) fun x15 =>
 vP D 0 x1 [x15] H1 fun x16 H2 =>
 iP x16
 ( Q x8 H2)
 ( gP (aBin .add x8 (.int .i64 1)) fun x18 =>
 s1 x18 H2))
 ( Q (.int .i64 (-1)) H1)) [(.int .i64 0)] H
theorem w107_eq : w107 = fun D Q x0 x1 H => wpF D ir107 [x0, x1] H Q := by kernel_rfl
theorem w107_ok (hT : Has T) {x0 x1 : AV} {H : AH} {Q : AV → AH → Prop} (h : w107 (Den.of T) Q x0 x1 H) : ∃ v H', Den.of T 107 [x0, x1] H = some (v, H') ∧ Q v H' :=
  wpF_ok (hT _ ir107 rfl) (by rw [w107_eq] at h; exact h)

-- (*grille/flatten.teller).inside
def w113 (D : Den) (Q : AV → AH → Prop) (x0 x1 : AV) (H : AH) : Prop :=
 gP (aNilck x0) fun x5 =>
 gP (aFieldAddr 4 x5) fun x6 =>
 gP (aLoad none x6 H) fun x7 =>
 gP (aBin .add x7 (.int .i64 1)) fun x8 =>
 gP (aNilck x0) fun x9 =>
 gP (aFieldAddr 4 x9) fun x10 =>
 hP (aStore 1 x10 x8 H) fun H1 =>
 gP (aNilck x0) fun x13 =>
 gP (aFieldAddr 5 x13) fun x14 =>
 gP (aLoad none x14 H1) fun x15 =>
 gP (aNilck x0) fun x17 =>
 gP (aFieldAddr 4 x17) fun x18 =>
 gP (aLoad none x18 H1) fun x19 =>
 gP (aFold true x15 [x19]) fun x20 =>
 gP (aNilck x0) fun x21 =>
 gP (aFieldAddr 5 x21) fun x22 =>
 hP (aStore 1 x22 x20 H1) fun H2 =>
 vP D 0 x1 [] H2 fun x24 H3 =>
 gP (aNilck x0) fun x26 =>
 gP (aFieldAddr 4 x26) fun x27 =>
 gP (aLoad none x27 H3) fun x28 =>
 gP (aBin .sub x28 (.int .i64 1)) fun x29 =>
 gP (aNilck x0) fun x30 =>
 gP (aFieldAddr 4 x30) fun x31 =>
 hP (aStore 1 x31 x29 H3) fun H4 =>
 Q (.tup []) H4
theorem w113_eq : w113 = fun D Q x0 x1 H => wpF D ir113 [x0, x1] H Q := by kernel_rfl
theorem w113_ok (hT : Has T) {x0 x1 : AV} {H : AH} {Q : AV → AH → Prop} (h : w113 (Den.of T) Q x0 x1 H) : ∃ v H', Den.of T 113 [x0, x1] H = some (v, H') ∧ Q v H' :=
  wpF_ok (hT _ ir113 rfl) (by rw [w113_eq] at h; exact h)

-- (*grille/flatten.teller).node$1
def w114 (D : Den) (Q : AV → AH → Prop) (x0 x1 : AV) (H : AH) : Prop :=
 gP (aFieldAddr 3 x0) fun x4 =>
 gP (aLoad none x4 H) fun x5 =>
 gP (aLen .row x5 H) fun x6 =>
 lP 1 (fun s1 x7 H1 =>
 gP (aBin .lss x7 x6) fun x8 =>
 iP x8
 ( gP (aIdxAddr 1 x5 x7) fun x9 =>
 gP (aLoad none x9 H1) fun x10 =>
 gP (aLoad none x1 H1) fun x11 =>
 cP D 69 [x11, x10] H1 fun x13 H2 =>
 gP (aBin .add x7 (.int .i64 1)) fun x14 =>
 s1 x14 H2)
 ( Q (.tup []) H1)) [(.int .i64 0)] H
theorem w114_eq : w114 = fun D Q x0 x1 H => wpF D ir114 [x0, x1] H Q := by kernel_rfl
theorem w114_ok (hT : Has T) {x0 x1 : AV} {H : AH} {Q : AV → AH → Prop} (h : w114 (Den.of T) Q x0 x1 H) : ∃ v H', Den.of T 114 [x0, x1] H = some (v, H') ∧ Q v H' :=
  wpF_ok (hT _ ir114 rfl) (by rw [w114_eq] at h; exact h)

-- grille/compose.Tag
def w115 (D : Den) (Q : AV → AH → Prop) (x0 : AV) (H : AH) : Prop :=
 sP (aop [] (.box (.cst x0)) H) fun x1 H1 =>
 gP (aFieldAddr 0 x1) fun x4 =>
 gP (aLoad none x4 H1) fun x5 =>
 gP (aBin .eql x5 (.int .i64 2)) fun x7 =>
 iP x7
 ( gP (aFieldAddr 2 x1) fun x8 =>
 gP (aLoad none x8 H1) fun x9 =>
 cP D 140 [x9, (.str [115, 101, 113])] H1 fun x10 H2 =>
 gP (aExtract 0 x10) fun x11 =>
 gP (aExtract 1 x10) fun x12 =>
 Q (.tup [x11, x12]) H2)
 ( gP (aBin .eql x5 (.int .i64 4)) fun x14 =>
 iP x14
 ( gP (aFieldAddr 2 x1) fun x15 =>
 gP (aLoad none x15 H1) fun x16 =>
 cP D 140 [x16, (.str [109, 97, 112])] H1 fun x17 H3 =>
 gP (aExtract 0 x17) fun x18 =>
 gP (aExtract 1 x17) fun x19 =>
 Q (.tup [x18, x19]) H3)
 ( gP (aBin .eql x5 (.int .i64 6)) fun x21 =>
 iP x21
 ( jP 1 (fun x22 H4 =>
 iP x22
 ( gP (aFieldAddr 3 x1) fun x30 =>
 gP (aLoad none x30 H4) fun x31 =>
 cP D 54 [x31] H4 fun x32 H5 =>
 Q (.tup [x32, (.int .i64 0)]) H5)
 ( gP (aFieldAddr 2 x1) fun x34 =>
 gP (aLoad none x34 H4) fun x35 =>
 gP (aBin .eql x35 (.str [])) fun x36 =>
 iP x36
 ( Q (.tup [(.str [115, 116, 114]), (.int .i64 0)]) H4)
 ( gP (aFieldAddr 2 x1) fun x38 =>
 gP (aLoad none x38 H4) fun x39 =>
 gP (aFieldAddr 3 x1) fun x40 =>
 gP (aLoad none x40 H4) fun x41 =>
 cP D 103 [x39, x41] H4 fun x42 H6 =>
 iP x42
 ( gP (aFieldAddr 2 x1) fun x43 =>
 gP (aLoad none x43 H6) fun x44 =>
 Q (.tup [x44, (.int .i64 0)]) H6)
 ( Q (.tup [(.str []), (.int .i64 14)]) H6)))) fun j1 =>
 gP (aFieldAddr 2 x1) fun x23 =>
 gP (aLoad none x23 H1) fun x24 =>
 gP (aBin .eql x24 (.str [])) fun x25 =>
 dP x25 true
 ( gP (aFieldAddr 4 x1) fun x27 =>
 gP (aLoad none x27 H1) fun x28 =>
 j1 x28 H1)
 ( j1 (.bool false) H1))
 ( Q (.tup [(.str []), (.int .i64 5)]) H1)))
theorem w115_eq : w115 = fun D Q x0 H => wpF D ir115 [x0] H Q := by kernel_rfl
theorem w115_ok (hT : Has T) {x0 : AV} {H : AH} {Q : AV → AH → Prop} (h : w115 (Den.of T) Q x0 H) : ∃ v H', Den.of T 115 [x0] H = some (v, H') ∧ Q v H' :=
  wpF_ok (hT _ ir115 rfl) (by rw [w115_eq] at h; exact h)

-- grille/lex.Name$1
def w117 (D : Den) (Q : AV → AH → Prop) (x0 : AV) (H : AH) : Prop :=
 gP (aBin .lss x0 (.int .i32 97)) fun x4 =>
 dP x4 false
 ( gP (aBin .gtr x0 (.int .i32 122)) fun x7 =>
 dP x7 true
 ( gP (aBin .lss x0 (.int .i32 65)) fun x11 =>
 dP x11 false
 ( gP (aBin .gtr x0 (.int .i32 90)) fun x14 =>
 dP x14 true
 ( gP (aBin .lss x0 (.int .i32 48)) fun x19 =>
 dP x19 false
 ( gP (aBin .gtr x0 (.int .i32 57)) fun x22 =>
 dP x22 true
 ( gP (aBin .neq x0 (.int .i32 45)) fun x27 =>
 dP x27 true
 ( gP (aBin .neq x0 (.int .i32 95)) fun x31 =>
 Q x31 H)
 ( Q (.bool false) H))
 ( Q (.bool false) H))
 ( dP (.bool true) true
 ( gP (aBin .neq x0 (.int .i32 45)) fun x27_1 =>
 dP x27_1 true
 ( gP (aBin .neq x0 (.int .i32 95)) fun x31_1 =>
 Q x31_1 H)
 ( Q (.bool false) H))
 ( Q (.bool false) H)))
 ( Q (.bool false) H))
 ( dP (.bool true) true
 ( gP (aBin .lss x0 (.int .i32 48)) fun x19_1 =>
 dP x19_1 false
 ( gP (aBin .gtr x0 (.int .i32 57)) fun x22_1 =>
 dP x22_1 true
 ( gP (aBin .neq x0 (.int .i32 45)) fun x27_2 =>
 dP x27_2 true
 ( gP (aBin .neq x0 (.int .i32 95)) fun x31_2 =>
 Q x31_2 H)
 ( Q (.bool false) H))
 ( Q (.bool false) H))
 ( dP (.bool true) true
 ( gP (aBin .neq x0 (.int .i32 45)) fun x27_3 =>
 dP x27_3 true
 ( gP (aBin .neq x0 (.int .i32 95)) fun x31_3 =>
 Q x31_3 H)
 ( Q (.bool false) H))
 ( Q (.bool false) H)))
 ( Q (.bool false) H)))
 ( Q (.bool false) H))
 ( gP (aBin .lss x0 (.int .i32 65)) fun x11_1 =>
 dP x11_1 false
 ( gP (aBin .gtr x0 (.int .i32 90)) fun x14_1 =>
 dP x14_1 true
 ( gP (aBin .lss x0 (.int .i32 48)) fun x19_2 =>
 dP x19_2 false
 ( gP (aBin .gtr x0 (.int .i32 57)) fun x22_2 =>
 dP x22_2 true
 ( gP (aBin .neq x0 (.int .i32 45)) fun x27_4 =>
 dP x27_4 true
 ( gP (aBin .neq x0 (.int .i32 95)) fun x31_4 =>
 Q x31_4 H)
 ( Q (.bool false) H))
 ( Q (.bool false) H))
 ( dP (.bool true) true
 ( gP (aBin .neq x0 (.int .i32 45)) fun x27_5 =>
 dP x27_5 true
 ( gP (aBin .neq x0 (.int .i32 95)) fun x31_5 =>
 Q x31_5 H)
 ( Q (.bool false) H))
 ( Q (.bool false) H)))
 ( Q (.bool false) H))
 ( dP (.bool true) true
 ( gP (aBin .lss x0 (.int .i32 48)) fun x19_3 =>
 dP x19_3 false
 ( gP (aBin .gtr x0 (.int .i32 57)) fun x22_3 =>
 dP x22_3 true
 ( gP (aBin .neq x0 (.int .i32 45)) fun x27_6 =>
 dP x27_6 true
 ( gP (aBin .neq x0 (.int .i32 95)) fun x31_6 =>
 Q x31_6 H)
 ( Q (.bool false) H))
 ( Q (.bool false) H))
 ( dP (.bool true) true
 ( gP (aBin .neq x0 (.int .i32 45)) fun x27_7 =>
 dP x27_7 true
 ( gP (aBin .neq x0 (.int .i32 95)) fun x31_7 =>
 Q x31_7 H)
 ( Q (.bool false) H))
 ( Q (.bool false) H)))
 ( Q (.bool false) H)))
theorem w117_eq : w117 = fun D Q x0 H => wpF D ir117 [x0] H Q := by kernel_rfl
theorem w117_ok (hT : Has T) {x0 : AV} {H : AH} {Q : AV → AH → Prop} (h : w117 (Den.of T) Q x0 H) : ∃ v H', Den.of T 117 [x0] H = some (v, H') ∧ Q v H' :=
  wpF_ok (hT _ ir117 rfl) (by rw [w117_eq] at h; exact h)

-- grille/tag.own
def w118 (D : Den) (Q : AV → AH → Prop) (x0 : AV) (H : AH) : Prop :=
 cP D 126 [x0, (.str [33])] H fun x8 H1 =>
 gP (aExtract 0 x8) fun x9 =>
 gP (aExtract 1 x8) fun x10 =>
 dP x10 true
 ( gP (aBin .neq x9 (.str [])) fun x14 =>
 dP x14 true
 ( gP (aLen .str x9 H1) fun x18 =>
 gP (aBin .leq x18 (.int .i64 40)) fun x19 =>
 dP x19 true
 ( cP D 88 [x9, (.fn (.func 141) [] [])] H1 fun x24 H2 =>
 gP (aNot x24) fun x25 =>
 Q x25 H2)
 ( Q (.bool false) H1))
 ( Q (.bool false) H1))
 ( Q (.bool false) H1)
theorem w118_eq : w118 = fun D Q x0 H => wpF D ir118 [x0] H Q := by kernel_rfl
theorem w118_ok (hT : Has T) {x0 : AV} {H : AH} {Q : AV → AH → Prop} (h : w118 (Den.of T) Q x0 H) : ∃ v H', Den.of T 118 [x0] H = some (v, H') ∧ Q v H' :=
  wpF_ok (hT _ ir118 rfl) (by rw [w118_eq] at h; exact h)

-- unicode/utf8.ValidRune
def w121 (D : Den) (Q : AV → AH → Prop) (x0 : AV) (H : AH) : Prop :=
 jP 1 (fun x3 H1 =>
 iP x3
 ( Q (.bool true) H1)
 ( jP 1 (fun x10 H2 =>
 iP x10
 ( Q (.bool true) H2)
 ( Q (.bool false) H2)) fun j1 =>
 gP (aBin .lss (.int .i32 57343) x0) fun x12 =>
 dP x12 true
 ( gP (aBin .leq x0 (.int .i32 1114111)) fun x15 =>
 j1 x15 H1)
 ( j1 (.bool false) H1))) fun j2 =>
 gP (aBin .leq (.int .i32 0) x0) fun x5 =>
 dP x5 true
 ( gP (aBin .lss x0 (.int .i32 55296)) fun x8 =>
 j2 x8 H)
 ( j2 (.bool false) H)
theorem w121_eq : w121 = fun D Q x0 H => wpF D ir121 [x0] H Q := by kernel_rfl
theorem w121_ok (hT : Has T) {x0 : AV} {H : AH} {Q : AV → AH → Prop} (h : w121 (Den.of T) Q x0 H) : ∃ v H', Den.of T 121 [x0] H = some (v, H') ∧ Q v H' :=
  wpF_ok (hT _ ir121 rfl) (by rw [w121_eq] at h; exact h)

-- strings.IndexFunc
def w123 (D : Den) (Q : AV → AH → Prop) (x0 x1 : AV) (H : AH) : Prop :=
 cP D 149 [x0, x1, (.bool true)] H fun x7 H1 =>
 Q x7 H1
theorem w123_eq : w123 = fun D Q x0 x1 H => wpF D ir123 [x0, x1] H Q := by kernel_rfl
theorem w123_ok (hT : Has T) {x0 x1 : AV} {H : AH} {Q : AV → AH → Prop} (h : w123 (Den.of T) Q x0 x1 H) : ∃ v H', Den.of T 123 [x0, x1] H = some (v, H') ∧ Q v H' :=
  wpF_ok (hT _ ir123 rfl) (by rw [w123_eq] at h; exact h)

-- internal/stringslite.HasSuffix
def w124 (D : Den) (Q : AV → AH → Prop) (x0 x1 : AV) (H : AH) : Prop :=
 gP (aLen .str x0 H) fun x6 =>
 gP (aLen .str x1 H) fun x8 =>
 gP (aBin .geq x6 x8) fun x9 =>
 dP x9 true
 ( gP (aLen .str x0 H) fun x13 =>
 gP (aLen .str x1 H) fun x15 =>
 gP (aBin .sub x13 x15) fun x16 =>
 gP (aSlcS x0 (some x16) none) fun x17 =>
 gP (aBin .eql x17 x1) fun x19 =>
 Q x19 H)
 ( Q (.bool false) H)
theorem w124_eq : w124 = fun D Q x0 x1 H => wpF D ir124 [x0, x1] H Q := by kernel_rfl
theorem w124_ok (hT : Has T) {x0 x1 : AV} {H : AH} {Q : AV → AH → Prop} (h : w124 (Den.of T) Q x0 x1 H) : ∃ v H', Den.of T 124 [x0, x1] H = some (v, H') ∧ Q v H' :=
  wpF_ok (hT _ ir124 rfl) (by rw [w124_eq] at h; exact h)

-- strings.CutPrefix
def w126 (D : Den) (Q : AV → AH → Prop) (x0 x1 : AV) (H : AH) : Prop :=
 cP D 151 [x0, x1] H fun x8 H1 =>
 gP (aExtract 0 x8) fun x9 =>
 gP (aExtract 1 x8) fun x10 =>
 Q (.tup [x9, x10]) H1
theorem w126_eq : w126 = fun D Q x0 x1 H => wpF D ir126 [x0, x1] H Q := by kernel_rfl
theorem w126_ok (hT : Has T) {x0 x1 : AV} {H : AH} {Q : AV → AH → Prop} (h : w126 (Den.of T) Q x0 x1 H) : ∃ v H', Den.of T 126 [x0, x1] H = some (v, H') ∧ Q v H' :=
  wpF_ok (hT _ ir126 rfl) (by rw [w126_eq] at h; exact h)

-- grille/tag.all
def w127 (D : Den) (Q : AV → AH → Prop) (x0 x1 : AV) (H : AH) : Prop :=
 cP D 128 [x0, x1] H fun x10 H1 =>
 gP (aExtract 0 x10) fun x11 =>
 gP (aExtract 1 x10) fun x12 =>
 gP (aBin .eql x11 (.str [])) fun x14 =>
 dP x14 true
 ( gP (aBin .gtr x12 (.int .i64 0)) fun x17 =>
 Q x17 H1)
 ( Q (.bool false) H1)
theorem w127_eq : w127 = fun D Q x0 x1 H => wpF D ir127 [x0, x1] H Q := by kernel_rfl
theorem w127_ok (hT : Has T) {x0 x1 : AV} {H : AH} {Q : AV → AH → Prop} (h : w127 (Den.of T) Q x0 x1 H) : ∃ v H', Den.of T 127 [x0, x1] H = some (v, H') ∧ Q v H' :=
  wpF_ok (hT _ ir127 rfl) (by rw [w127_eq] at h; exact h)

-- grille/tag.digits
def w128 (D : Den) (Q : AV → AH → Prop) (x0 x1 : AV) (H : AH) : Prop :=
 lP 1 (fun s1 x5 H1 =>
 jP 1 (fun x17 H2 =>
 iP x17
 ( gP (aBin .add x5 (.int .i64 1)) fun x19 =>
 s1 x19 H2)
 ( gP (aSlcS x0 (some x5) none) fun x22 =>
 Q (.tup [x22, x5]) H2)) fun j2 =>
 gP (aLen .str x0 H1) fun x8 =>
 gP (aBin .lss x5 x8) fun x9 =>
 dP x9 true
 ( gP (aIdxStr x0 x5) fun x13 =>
 cP D 152 [x13] H1 fun x14 H3 =>
 gP (aBin .lss x14 x1) fun x16 =>
 j2 x16 H3)
 ( j2 (.bool false) H1)) [(.int .i64 0)] H
theorem w128_eq : w128 = fun D Q x0 x1 H => wpF D ir128 [x0, x1] H Q := by kernel_rfl
theorem w128_ok (hT : Has T) {x0 x1 : AV} {H : AH} {Q : AV → AH → Prop} (h : w128 (Den.of T) Q x0 x1 H) : ∃ v H', Den.of T 128 [x0, x1] H = some (v, H') ∧ Q v H' :=
  wpF_ok (hT _ ir128 rfl) (by rw [w128_eq] at h; exact h)

-- slices.IndexFunc[[]int,int]
def w136 (D : Den) (Q : AV → AH → Prop) (x0 x1 : AV) (H : AH) : Prop :=
 gP (aLen .row x0 H) fun x7 =>
 lP 1 (fun s1 x8 H1 =>
 gP (aBin .lss x8 x7) fun x9 =>
 iP x9
 ( gP (aIdxAddr 1 x0 x8) fun x14 =>
 gP (aLoad none x14 H1) fun x15 =>
 vP D 0 x1 [x15] H1 fun x16 H2 =>
 iP x16
 ( Q x8 H2)
 ( gP (aBin .add x8 (.int .i64 1)) fun x18 =>
 s1 x18 H2))
 ( Q (.int .i64 (-1)) H1)) [(.int .i64 0)] H
theorem w136_eq : w136 = fun D Q x0 x1 H => wpF D ir136 [x0, x1] H Q := by kernel_rfl
theorem w136_ok (hT : Has T) {x0 x1 : AV} {H : AH} {Q : AV → AH → Prop} (h : w136 (Den.of T) Q x0 x1 H) : ∃ v H', Den.of T 136 [x0, x1] H = some (v, H') ∧ Q v H' :=
  wpF_ok (hT _ ir136 rfl) (by rw [w136_eq] at h; exact h)

-- grille/tag.plain
def w137 (D : Den) (Q : AV → AH → Prop) (x0 : AV) (H : AH) : Prop :=
 gP (aBin .eql x0 (.str [110, 117, 108, 108])) fun x4 =>
 dP x4 false
 ( gP (aBin .eql x0 (.str [98, 111, 111, 108])) fun x7 =>
 dP x7 false
 ( gP (aBin .eql x0 (.str [105, 110, 116])) fun x11 =>
 dP x11 false
 ( gP (aBin .eql x0 (.str [102, 108, 111, 97, 116])) fun x15 =>
 Q x15 H)
 ( Q (.bool true) H))
 ( Q (.bool true) H))
 ( Q (.bool true) H)
theorem w137_eq : w137 = fun D Q x0 H => wpF D ir137 [x0] H Q := by kernel_rfl
theorem w137_ok (hT : Has T) {x0 : AV} {H : AH} {Q : AV → AH → Prop} (h : w137 (Den.of T) Q x0 H) : ∃ v H', Den.of T 137 [x0] H = some (v, H') ∧ Q v H' :=
  wpF_ok (hT _ ir137 rfl) (by rw [w137_eq] at h; exact h)

-- grille/compose.named
def w140 (D : Den) (Q : AV → AH → Prop) (x0 x1 : AV) (H : AH) : Prop :=
 jP 1 (fun x6 H1 =>
 iP x6
 ( Q (.tup [x1, (.int .i64 0)]) H1)
 ( jP 1 (fun x15 H2 =>
 iP x15
 ( Q (.tup [x0, (.int .i64 0)]) H2)
 ( Q (.tup [(.str []), (.int .i64 14)]) H2)) fun j1 =>
 cP D 75 [x0] H1 fun x17 H3 =>
 dP x17 true
 ( cP D 104 [x0] H3 fun x20 H4 =>
 gP (aNot x20) fun x21 =>
 j1 x21 H4)
 ( j1 (.bool false) H3))) fun j2 =>
 gP (aBin .eql x0 (.str [])) fun x8 =>
 dP x8 false
 ( gP (aBin .eql x0 x1) fun x12 =>
 j2 x12 H)
 ( j2 (.bool true) H)
theorem w140_eq : w140 = fun D Q x0 x1 H => wpF D ir140 [x0, x1] H Q := by kernel_rfl
theorem w140_ok (hT : Has T) {x0 x1 : AV} {H : AH} {Q : AV → AH → Prop} (h : w140 (Den.of T) Q x0 x1 H) : ∃ v H', Den.of T 140 [x0, x1] H = some (v, H') ∧ Q v H' :=
  wpF_ok (hT _ ir140 rfl) (by rw [w140_eq] at h; exact h)

-- grille/tag.own$1
def w141 (D : Den) (Q : AV → AH → Prop) (x0 : AV) (H : AH) : Prop :=
 cP D 142 [x0] H fun x4 H1 =>
 gP (aNot x4) fun x5 =>
 Q x5 H1
theorem w141_eq : w141 = fun D Q x0 H => wpF D ir141 [x0] H Q := by kernel_rfl
theorem w141_ok (hT : Has T) {x0 : AV} {H : AH} {Q : AV → AH → Prop} (h : w141 (Den.of T) Q x0 H) : ∃ v H', Den.of T 141 [x0] H = some (v, H') ∧ Q v H' :=
  wpF_ok (hT _ ir141 rfl) (by rw [w141_eq] at h; exact h)

-- grille/tag.named
def w142 (D : Den) (Q : AV → AH → Prop) (x0 : AV) (H : AH) : Prop :=
 gP (aBin .geq x0 (.int .i32 97)) fun x4 =>
 dP x4 true
 ( gP (aBin .leq x0 (.int .i32 122)) fun x7 =>
 dP x7 false
 ( gP (aBin .geq x0 (.int .i32 65)) fun x11 =>
 dP x11 true
 ( gP (aBin .leq x0 (.int .i32 90)) fun x14 =>
 dP x14 false
 ( gP (aBin .geq x0 (.int .i32 48)) fun x19 =>
 dP x19 true
 ( gP (aBin .leq x0 (.int .i32 57)) fun x22 =>
 dP x22 false
 ( gP (aBin .eql x0 (.int .i32 45)) fun x27 =>
 Q x27 H)
 ( Q (.bool true) H))
 ( dP (.bool false) false
 ( gP (aBin .eql x0 (.int .i32 45)) fun x27_1 =>
 Q x27_1 H)
 ( Q (.bool true) H)))
 ( Q (.bool true) H))
 ( dP (.bool false) false
 ( gP (aBin .geq x0 (.int .i32 48)) fun x19_1 =>
 dP x19_1 true
 ( gP (aBin .leq x0 (.int .i32 57)) fun x22_1 =>
 dP x22_1 false
 ( gP (aBin .eql x0 (.int .i32 45)) fun x27_2 =>
 Q x27_2 H)
 ( Q (.bool true) H))
 ( dP (.bool false) false
 ( gP (aBin .eql x0 (.int .i32 45)) fun x27_3 =>
 Q x27_3 H)
 ( Q (.bool true) H)))
 ( Q (.bool true) H)))
 ( Q (.bool true) H))
 ( gP (aBin .geq x0 (.int .i32 65)) fun x11_1 =>
 dP x11_1 true
 ( gP (aBin .leq x0 (.int .i32 90)) fun x14_1 =>
 dP x14_1 false
 ( gP (aBin .geq x0 (.int .i32 48)) fun x19_2 =>
 dP x19_2 true
 ( gP (aBin .leq x0 (.int .i32 57)) fun x22_2 =>
 dP x22_2 false
 ( gP (aBin .eql x0 (.int .i32 45)) fun x27_4 =>
 Q x27_4 H)
 ( Q (.bool true) H))
 ( dP (.bool false) false
 ( gP (aBin .eql x0 (.int .i32 45)) fun x27_5 =>
 Q x27_5 H)
 ( Q (.bool true) H)))
 ( Q (.bool true) H))
 ( dP (.bool false) false
 ( gP (aBin .geq x0 (.int .i32 48)) fun x19_3 =>
 dP x19_3 true
 ( gP (aBin .leq x0 (.int .i32 57)) fun x22_3 =>
 dP x22_3 false
 ( gP (aBin .eql x0 (.int .i32 45)) fun x27_6 =>
 Q x27_6 H)
 ( Q (.bool true) H))
 ( dP (.bool false) false
 ( gP (aBin .eql x0 (.int .i32 45)) fun x27_7 =>
 Q x27_7 H)
 ( Q (.bool true) H)))
 ( Q (.bool true) H)))
theorem w142_eq : w142 = fun D Q x0 H => wpF D ir142 [x0] H Q := by kernel_rfl
theorem w142_ok (hT : Has T) {x0 : AV} {H : AH} {Q : AV → AH → Prop} (h : w142 (Den.of T) Q x0 H) : ∃ v H', Den.of T 142 [x0] H = some (v, H') ∧ Q v H' :=
  wpF_ok (hT _ ir142 rfl) (by rw [w142_eq] at h; exact h)

-- strings.indexFunc
def w149 (D : Den) (Q : AV → AH → Prop) (x0 x1 x2 : AV) (H : AH) : Prop :=
 sP (aop [] (.rangeS (.cst x0)) H) fun x10 H1 =>
 lP 0 (fun s1 H2 =>
 sP (aop [] (.nextS (.cst x10)) H2) fun x11 H3 =>
 gP (aExtract 0 x11) fun x12 =>
 iP x12
 ( gP (aExtract 1 x11) fun x13 =>
 gP (aExtract 2 x11) fun x14 =>
 vP D 0 x1 [x14] H3 fun x17 H4 =>
 gP (aEqv .bool false x17 x2) fun x19 =>
 iP x19
 ( Q x13 H4)
 ( s1 H4))
 ( Q (.int .i64 (-1)) H3)) [] H1
theorem w149_eq : w149 = fun D Q x0 x1 x2 H => wpF D ir149 [x0, x1, x2] H Q := by kernel_rfl
theorem w149_ok (hT : Has T) {x0 x1 x2 : AV} {H : AH} {Q : AV → AH → Prop} (h : w149 (Den.of T) Q x0 x1 x2 H) : ∃ v H', Den.of T 149 [x0, x1, x2] H = some (v, H') ∧ Q v H' :=
  wpF_ok (hT _ ir149 rfl) (by rw [w149_eq] at h; exact h)

-- internal/stringslite.CutPrefix
def w151 (D : Den) (Q : AV → AH → Prop) (x0 x1 : AV) (H : AH) : Prop :=
 cP D 167 [x0, x1] H fun x8 H1 =>
 gP (aNot x8) fun x9 =>
 iP x9
 ( Q (.tup [x0, (.bool false)]) H1)
 ( gP (aLen .str x1 H1) fun x13 =>
 gP (aSlcS x0 (some x13) none) fun x14 =>
 Q (.tup [x14, (.bool true)]) H1)
theorem w151_eq : w151 = fun D Q x0 x1 H => wpF D ir151 [x0, x1] H Q := by kernel_rfl
theorem w151_ok (hT : Has T) {x0 x1 : AV} {H : AH} {Q : AV → AH → Prop} (h : w151 (Den.of T) Q x0 x1 H) : ∃ v H', Den.of T 151 [x0, x1] H = some (v, H') ∧ Q v H' :=
  wpF_ok (hT _ ir151 rfl) (by rw [w151_eq] at h; exact h)

-- grille/tag.value
def w152 (D : Den) (Q : AV → AH → Prop) (x0 : AV) (H : AH) : Prop :=
 gP (aCv .i64 x0) fun x5 =>
 jP 1 (fun x3 H1 =>
 gP (aBin .sub x3 (.int .i64 65)) fun x30 =>
 gP (aBin .add x30 (.int .i64 10)) fun x31 =>
 Q x31 H1) fun j1 =>
 jP 1 (fun x6 H2 =>
 iP x6
 ( gP (aBin .sub x5 (.int .i64 32)) fun x28 =>
 j1 x28 H2)
 ( jP 1 (fun x13 H3 =>
 iP x13
 ( j1 x5 H3)
 ( jP 1 (fun x20 H4 =>
 iP x20
 ( gP (aBin .sub x5 (.int .i64 48)) fun x33 =>
 Q x33 H4)
 ( Q (.int .i64 16) H4)) fun j2 =>
 gP (aBin .geq x0 (.int .u8 48)) fun x22 =>
 dP x22 true
 ( gP (aBin .leq x0 (.int .u8 57)) fun x25 =>
 j2 x25 H3)
 ( j2 (.bool false) H3))) fun j3 =>
 gP (aBin .geq x0 (.int .u8 65)) fun x15 =>
 dP x15 true
 ( gP (aBin .leq x0 (.int .u8 70)) fun x18 =>
 j3 x18 H2)
 ( j3 (.bool false) H2))) fun j4 =>
 gP (aBin .geq x0 (.int .u8 97)) fun x8 =>
 dP x8 true
 ( gP (aBin .leq x0 (.int .u8 102)) fun x11 =>
 j4 x11 H)
 ( j4 (.bool false) H)
theorem w152_eq : w152 = fun D Q x0 H => wpF D ir152 [x0] H Q := by kernel_rfl
theorem w152_ok (hT : Has T) {x0 : AV} {H : AH} {Q : AV → AH → Prop} (h : w152 (Den.of T) Q x0 H) : ∃ v H', Den.of T 152 [x0] H = some (v, H') ∧ Q v H' :=
  wpF_ok (hT _ ir152 rfl) (by rw [w152_eq] at h; exact h)

-- internal/stringslite.HasPrefix
def w167 (D : Den) (Q : AV → AH → Prop) (x0 x1 : AV) (H : AH) : Prop :=
 gP (aLen .str x0 H) fun x6 =>
 gP (aLen .str x1 H) fun x8 =>
 gP (aBin .geq x6 x8) fun x9 =>
 dP x9 true
 ( gP (aLen .str x1 H) fun x13 =>
 gP (aSlcS x0 none (some x13)) fun x14 =>
 gP (aBin .eql x14 x1) fun x16 =>
 Q x16 H)
 ( Q (.bool false) H)
theorem w167_eq : w167 = fun D Q x0 x1 H => wpF D ir167 [x0, x1] H Q := by kernel_rfl
theorem w167_ok (hT : Has T) {x0 x1 : AV} {H : AH} {Q : AV → AH → Prop} (h : w167 (Den.of T) Q x0 x1 H) : ∃ v H', Den.of T 167 [x0, x1] H = some (v, H') ∧ Q v H' :=
  wpF_ok (hT _ ir167 rfl) (by rw [w167_eq] at h; exact h)

end Go.SV
