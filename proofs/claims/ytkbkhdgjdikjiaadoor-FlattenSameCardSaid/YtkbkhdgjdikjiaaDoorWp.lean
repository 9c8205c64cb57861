/- The program's functions as formulas; each is checked by the kernel against its translation. Printed by a program of the prover's own. -/
import Derived.Test.YtkbkhdgjdikjiaaDoorIr
set_option maxRecDepth 100000
namespace Go.SV
open Go.Proofs

variable {T : Nat → Option Entry}

-- gosem.cut.init
def w2 (D : Den) (Q : AV → AH → Prop) (H : AH) : Prop :=
 cP D 1 [] H fun x0 H1 =>
 Q (.tup []) H1
theorem w2_eq : w2 = fun D Q H => wpF D ir2 [] H Q := by kernel_rfl
theorem w2_ok (hT : Has T) {H : AH} {Q : AV → AH → Prop} (h : w2 (Den.of T) Q H) : ∃ v H', Den.of T 2 [] H = some (v, H') ∧ Q v H' :=
  wpF_ok (hT _ ir2 rfl) (by rw [w2_eq] at h; exact h)

-- grille/grillelaw10.FlattenAnchors
def w3 (D : Den) (Q : AV → AH → Prop) (x0 : AV) (H : AH) : Prop :=
 cP D 11 [] H fun x9 H1 =>
 gP (aNot x9) fun x10 =>
 iP x10
 ( Q (.bool false) H1)
 ( cP D 12 [x0] H1 fun x12 H2 =>
 iP x12
 ( Q (.bool true) H2)
 ( cP D 14 [x0] H2 fun x15 H3 =>
 sP (aLit .ro 1 [x15] H3) fun x16 H4 =>
 cP D 13 [x16] H4 fun x17 H5 =>
 gP (aExtract 0 x17) fun x18 =>
 gP (aExtract 1 x17) fun x19 =>
 gP (aBin .neq x19 (.int .i64 0)) fun x21 =>
 iP x21
 ( gP (aLen .row x18 H5) fun x23 =>
 gP (aBin .eql x23 (.int .i64 0)) fun x24 =>
 Q x24 H5)
 ( sP (aop [] (.mkMap) H5) fun x25 H6 =>
 sP (aop [] (.mkMap) H6) fun x26 H7 =>
 gP (aLen .row x18 H7) fun x28 =>
 lP 1 (fun s1 x29 H8 =>
 gP (aBin .lss x29 x28) fun x30 =>
 iP x30
 ( jP 0 (fun H9 =>
 gP (aBin .add x29 (.int .i64 1)) fun x69 =>
 s1 x69 H9) fun j2 =>
 gP (aIdxAddr 5 x18 x29) fun x31 =>
 gP (aLoad (some 5) x31 H8) fun x32 =>
 aP [(.int .i64 0), (.str []), (.str []), (.str []), (.bool false)] H8 fun x8 H10 =>
 hP (aStore 5 x8 x32 H10) fun H11 =>
 gP (aFieldAddr 1 x8) fun x52 =>
 gP (aLoad none x52 H11) fun x53 =>
 gP (aBin .eql x53 (.str [])) fun x54 =>
 iP x54
 ( j2 H11)
 ( gP (aFieldAddr 0 x8) fun x56 =>
 gP (aLoad none x56 H11) fun x57 =>
 gP (aBin .eql x57 (.int .i64 7)) fun x58 =>
 iP x58
 ( gP (aFieldAddr 1 x8) fun x60 =>
 gP (aLoad none x60 H11) fun x61 =>
 gP (aLook (.scal .str) (.int .i64 0) false x25 x61 H11) fun x62 =>
 gP (aBin .eql x62 (.int .i64 0)) fun x63 =>
 iP x63
 ( Q (.bool false) H11)
 ( gP (aFieldAddr 1 x8) fun x65 =>
 gP (aLoad none x65 H11) fun x66 =>
 gP (aLook (.scal .str) (.int .i64 0) false x26 x66 H11) fun x67 =>
 gP (aBin .add x67 (.int .i64 1)) fun x68 =>
 sP (aop [] (.mapUpd (.scal .str) (.cst x26) (.cst x66) (.cst x68)) H11) fun _ H12 =>
 j2 H12))
 ( gP (aFieldAddr 1 x8) fun x34 =>
 gP (aLoad none x34 H11) fun x35 =>
 gP (aLook (.scal .str) (.int .i64 0) false x25 x35 H11) fun x36 =>
 gP (aBin .add x36 (.int .i64 1)) fun x37 =>
 sP (aop [] (.mapUpd (.scal .str) (.cst x25) (.cst x35) (.cst x37)) H11) fun _ H13 =>
 jP 1 (fun x50 H14 =>
 iP x50
 ( Q (.bool false) H14)
 ( j2 H14)) fun j3 =>
 gP (aFieldAddr 1 x8) fun x39 =>
 gP (aLoad none x39 H13) fun x40 =>
 gP (aLook (.scal .str) (.int .i64 0) false x25 x40 H13) fun x41 =>
 gP (aBin .gtr x41 (.int .i64 1)) fun x42 =>
 dP x42 false
 ( gP (aFieldAddr 1 x8) fun x44 =>
 gP (aLoad none x44 H13) fun x45 =>
 gP (aLen .map x25 H13) fun x47 =>
 cP D 15 [x47] H13 fun x48 H15 =>
 gP (aBin .neq x45 x48) fun x49 =>
 (sameR (.load none (.cst x44)) H15 H13) ∧
 j3 x49 H15)
 ( (sameR (.load none (.cst (.tup []))) H13 H13) ∧
 j3 (.bool true) H13))))
 ( gP (aLen .map x26 H8) fun x71 =>
 gP (aLen .map x25 H8) fun x73 =>
 gP (aBin .eql x71 x73) fun x74 =>
 Q x74 H8)) [(.int .i64 0)] H7)))
theorem w3_eq : w3 = fun D Q x0 H => wpF D ir3 [x0] H Q := by kernel_rfl
theorem w3_ok (hT : Has T) {x0 : AV} {H : AH} {Q : AV → AH → Prop} (h : w3 (Den.of T) Q x0 H) : ∃ v H', Den.of T 3 [x0] H = some (v, H') ∧ Q v H' :=
  wpF_ok (hT _ ir3 rfl) (by rw [w3_eq] at h; exact h)

-- grille/grillelaw10.FlattenOne
def w4 (D : Den) (Q : AV → AH → Prop) (x0 : AV) (H : AH) : Prop :=
 cP D 11 [] H fun x10 H1 =>
 gP (aNot x10) fun x11 =>
 iP x11
 ( Q (.bool false) H1)
 ( cP D 12 [x0] H1 fun x13 H2 =>
 iP x13
 ( Q (.bool true) H2)
 ( cP D 14 [x0] H2 fun x15 H3 =>
 sP (aLit .ro 1 [x15] H3) fun x18 H4 =>
 cP D 13 [x18] H4 fun x19 H5 =>
 gP (aExtract 0 x19) fun x20 =>
 gP (aExtract 1 x19) fun x21 =>
 gP (aBin .neq x21 (.int .i64 0)) fun x23 =>
 iP x23
 ( gP (aLen .row x20 H5) fun x25 =>
 gP (aBin .eql x25 (.int .i64 0)) fun x26 =>
 Q x26 H5)
 ( cP D 16 [x15] H5 fun x28 H6 =>
 gP (aLen .row x28 H6) fun x30 =>
 lP 2 (fun s1 x7 x31 H7 =>
 gP (aBin .lss x31 x30) fun x32 =>
 iP x32
 ( gP (aIdxAddr 4 x28 x31) fun x33 =>
 gP (aLoad (some 4) x33 H7) fun x34 =>
 aP [(.int .i64 0), (.str []), (.str []), .nils] H7 fun x9 H8 =>
 hP (aStore 4 x9 x34 H8) fun H9 =>
 gP (aFieldAddr 3 x9) fun x36 =>
 gP (aLoad none x36 H9) fun x37 =>
 gP (aLen .row x37 H9) fun x38 =>
 gP (aBin .add x7 x38) fun x39 =>
 gP (aBin .add x31 (.int .i64 1)) fun x40 =>
 s1 x39 x40 H9)
 ( cP D 17 [x20] H7 fun x42 H10 =>
 gP (aBin .add (.int .i64 1) x7) fun x44 =>
 gP (aBin .eql x42 x44) fun x45 =>
 dP x45 true
 ( cP D 18 [x20] H10 fun x48 H11 =>
 cP D 19 [x15] H11 fun x50 H12 =>
 gP (aBin .eql x48 x50) fun x51 =>
 Q x51 H12)
 ( Q (.bool false) H10))) [(.int .i64 0), (.int .i64 0)] H6)))
theorem w4_eq : w4 = fun D Q x0 H => wpF D ir4 [x0] H Q := by kernel_rfl
theorem w4_ok (hT : Has T) {x0 : AV} {H : AH} {Q : AV → AH → Prop} (h : w4 (Den.of T) Q x0 H) : ∃ v H', Den.of T 4 [x0] H = some (v, H') ∧ Q v H' :=
  wpF_ok (hT _ ir4 rfl) (by rw [w4_eq] at h; exact h)

-- grille/grillelaw10.FlattenTag
def w5 (D : Den) (Q : AV → AH → Prop) (x0 : AV) (H : AH) : Prop :=
 sP (aop [] (.box (.cst x0)) H) fun x1 H1 =>
 cP D 11 [] H1 fun x7 H2 =>
 gP (aNot x7) fun x8 =>
 iP x8
 ( Q (.bool false) H2)
 ( gP (aLoad (some 4) x1 H2) fun x9 =>
 sP (aLit .ro 4 [x9] H2) fun x10 H3 =>
 cP D 12 [x10] H3 fun x11 H4 =>
 iP x11
 ( Q (.bool true) H4)
 ( gP (aLoad (some 4) x1 H4) fun x12 =>
 sP (aLit .ro 4 [x12] H4) fun x13 H5 =>
 cP D 100014 [x13] H5 fun x14 H6 =>
 gP (aIdxAddr 4 x14 (.int .i64 0)) fun x16 =>
 gP (aFieldAddr 3 x16) fun x17 =>
 hP (aStore 1 x17 .nils H6) fun H7 =>
 sP (sealV x14 H7) fun x3 H8 =>
 cP D 20 [x3] H8 fun x19 H9 =>
 gP (aNot x19) fun x20 =>
 iP x20
 ( Q (.bool true) H9)
 ( gP (aIdxAddr 4 x3 (.int .i64 0)) fun x22 =>
 gP (aLoad (some 4) x22 H9) fun x23 =>
 cP D 21 [x23] H9 fun x24 H10 =>
 aP [(.int .i64 0), (.str []), (.str []), (.str []), (.bool false)] H10 fun x4 H11 =>
 hP (aStore 5 x4 x24 H11) fun H12 =>
 gP (aLoad (some 5) x4 H12) fun x26 =>
 cP D 22 [x26] H12 fun x27 H13 =>
 gP (aExtract 0 x27) fun x28 =>
 gP (aExtract 1 x27) fun x29 =>
 gP (aFieldAddr 1 x1) fun x31 =>
 gP (aLoad none x31 H13) fun x32 =>
 gP (aBin .eql x28 x32) fun x33 =>
 dP x33 true
 ( gP (aBin .eql x29 (.int .i64 0)) fun x36 =>
 dP x36 true
 ( gP (aFieldAddr 3 x4) fun x39 =>
 gP (aLoad none x39 H13) fun x40 =>
 gP (aFieldAddr 2 x1) fun x41 =>
 gP (aLoad none x41 H13) fun x42 =>
 gP (aBin .eql x40 x42) fun x43 =>
 dP x43 true
 ( gP (aFieldAddr 1 x4) fun x46 =>
 gP (aLoad none x46 H13) fun x47 =>
 gP (aBin .eql x47 (.str [])) fun x48 =>
 dP x48 true
 ( gP (aFieldAddr 4 x4) fun x51 =>
 gP (aLoad none x51 H13) fun x52 =>
 gP (aNot x52) fun x53 =>
 dP x53 false
 ( gP (aFieldAddr 2 x4) fun x55 =>
 gP (aLoad none x55 H13) fun x56 =>
 gP (aBin .eql x56 (.str [])) fun x57 =>
 Q x57 H13)
 ( Q (.bool true) H13))
 ( Q (.bool false) H13))
 ( Q (.bool false) H13))
 ( Q (.bool false) H13))
 ( Q (.bool false) H13))))
theorem w5_eq : w5 = fun D Q x0 H => wpF D ir5 [x0] H Q := by kernel_rfl
theorem w5_ok (hT : Has T) {x0 : AV} {H : AH} {Q : AV → AH → Prop} (h : w5 (Den.of T) Q x0 H) : ∃ v H', Den.of T 5 [x0] H = some (v, H') ∧ Q v H' :=
  wpF_ok (hT _ ir5 rfl) (by rw [w5_eq] at h; exact h)

-- grille/grillelaw10.FlattenSame
def w6 (D : Den) (Q : AV → AH → Prop) (x0 x1 : AV) (H : AH) : Prop :=
 cP D 11 [] H fun x9 H1 =>
 gP (aNot x9) fun x10 =>
 iP x10
 ( Q (.bool false) H1)
 ( jP 1 (fun x16 H2 =>
 iP x16
 ( Q (.bool true) H2)
 ( cP D 14 [x0] H2 fun x19 H3 =>
 sP (aLit .ro 1 [x19] H3) fun x20 H4 =>
 cP D 13 [x20] H4 fun x21 H5 =>
 gP (aExtract 0 x21) fun x22 =>
 gP (aExtract 1 x21) fun x23 =>
 cP D 14 [x1] H5 fun x26 H6 =>
 sP (aLit .ro 1 [x26] H6) fun x27 H7 =>
 cP D 13 [x27] H7 fun x28 H8 =>
 gP (aExtract 0 x28) fun x29 =>
 gP (aExtract 1 x28) fun x30 =>
 jP 1 (fun x36 H9 =>
 iP x36
 ( Q (.bool true) H9)
 ( cP D 24 [x22] H9 fun x38 H10 =>
 cP D 24 [x29] H10 fun x40 H11 =>
 cP D 23 [x38, x40] H11 fun x41 H12 =>
 cP D 14 [x0] H12 fun x43 H13 =>
 cP D 14 [x1] H13 fun x45 H14 =>
 cP D 25 [x43, x45] H14 fun x46 H15 =>
 gP (aEqv .bool false x41 x46) fun x47 =>
 Q x47 H15)) fun j1 =>
 gP (aBin .neq x23 (.int .i64 0)) fun x32 =>
 dP x32 false
 ( gP (aBin .neq x30 (.int .i64 0)) fun x35 =>
 j1 x35 H8)
 ( j1 (.bool true) H8))) fun j2 =>
 cP D 12 [x0] H1 fun x12 H16 =>
 dP x12 false
 ( cP D 12 [x1] H16 fun x15 H17 =>
 j2 x15 H17)
 ( j2 (.bool true) H16))
theorem w6_eq : w6 = fun D Q x0 x1 H => wpF D ir6 [x0, x1] H Q := by kernel_rfl
theorem w6_ok (hT : Has T) {x0 x1 : AV} {H : AH} {Q : AV → AH → Prop} (h : w6 (Den.of T) Q x0 x1 H) : ∃ v H', Den.of T 6 [x0, x1] H = some (v, H') ∧ Q v H' :=
  wpF_ok (hT _ ir6 rfl) (by rw [w6_eq] at h; exact h)

-- grille/grillelaw18.BudgetTells
def w7 (D : Den) (Q : AV → AH → Prop) (x0 x1 x2 : AV) (H : AH) : Prop :=
 sP (aop [] (.box (.cst x0)) H) fun x3 H1 =>
 sP (aop [] (.box (.cst x1)) H1) fun x4 H2 =>
 cP D 26 [] H2 fun x10 H3 =>
 gP (aNot x10) fun x11 =>
 iP x11
 ( Q (.bool false) H3)
 ( gP (aCv .i64 x2) fun x13 =>
 gP (aBin .gtr x13 (.int .i64 30000)) fun x14 =>
 iP x14
 ( Q (.bool true) H3)
 ( aP [(.int .i64 0), (.int .i64 0), (.int .i64 0), (.int .i64 0), (.int .i64 0)] H3 fun x7 H4 =>
 aP [(.int .i64 0), (.int .i64 0), (.int .i64 0), (.int .i64 0), (.int .i64 0)] H4 fun x8 H5 =>
 gP (aLoad (some 5) x3 H5) fun x15 =>
 gP (aLoad (some 5) x4 H5) fun x16 =>
 hP (aStore 5 x7 x15 H5) fun H6 =>
 hP (aStore 5 x8 x16 H6) fun H7 =>
 (sameR (.load (some 5) (.cst x4)) H6 H5) ∧
 sP (aop [] (.make .ro 1 1 [(.int .u8 0)] (.cst x2) (.cst x2)) H7) fun x18 H8 =>
 gP (aLoad (some 5) x7 H8) fun x19 =>
 cP D 27 [x19] H8 fun x20 H9 =>
 gP (aLoad (some 5) x3 H9) fun x21 =>
 cP D 28 [x21] H9 fun x22 H10 =>
 gP (aEqv .bool false x20 x22) fun x23 =>
 dP x23 true
 ( gP (aLoad (some 5) x7 H10) fun x25 =>
 gP (aLoad (some 5) x8 H10) fun x26 =>
 cP D 29 [x25, x26] H10 fun x27 H11 =>
 gP (aLoad (some 5) x3 H11) fun x28 =>
 gP (aLoad (some 5) x4 H11) fun x29 =>
 cP D 30 [x28, x29] H11 fun x30 H12 =>
 sP (aop [] (.eqAgg [.int, .int, .int, .int, .int] false (.cst x27) (.cst x30)) H12) fun x31 H13 =>
 dP x31 true
 ( gP (aLoad (some 5) x7 H13) fun x34 =>
 cP D 31 [x34, x18] H13 fun x36 H14 =>
 gP (aLoad (some 5) x3 H14) fun x37 =>
 gP (aCv .i64 x2) fun x39 =>
 gP (aFieldAddr 0 x3) fun x40 =>
 gP (aLoad none x40 H14) fun x41 =>
 cP D 32 [x37, x39, x41] H14 fun x42 H15 =>
 gP (aBin .eql x36 x42) fun x43 =>
 dP x43 true
 ( gP (aLoad (some 5) x7 H15) fun x46 =>
 cP D 33 [x46, x18] H15 fun x48 H16 =>
 gP (aLoad (some 5) x3 H16) fun x49 =>
 gP (aCv .i64 x2) fun x51 =>
 gP (aFieldAddr 1 x3) fun x52 =>
 gP (aLoad none x52 H16) fun x53 =>
 cP D 32 [x49, x51, x53] H16 fun x54 H17 =>
 gP (aBin .eql x48 x54) fun x55 =>
 dP x55 true
 ( cP D 34 [] H17 fun x58 H18 =>
 cP D 35 [] H18 fun x59 H19 =>
 sP (aop [] (.eqAgg [.int, .int, .int, .int, .int] false (.cst x58) (.cst x59)) H19) fun x60 H20 =>
 (sameR (.load (some 5) (.cst x3)) H9 H8) ∧
 (sameR (.load (some 5) (.cst x3)) H11 H10) ∧
 (sameR (.load (some 5) (.cst x4)) H11 H10) ∧
 (sameR (.load (some 5) (.cst x3)) H14 H13) ∧
 (sameR (.load none (.cst x40)) H14 H13) ∧
 (sameR (.load (some 5) (.cst x3)) H16 H15) ∧
 (sameR (.load none (.cst x52)) H16 H15) ∧
 Q x60 H20)
 ( (sameR (.load (some 5) (.cst x3)) H9 H8) ∧
 (sameR (.load (some 5) (.cst x3)) H11 H10) ∧
 (sameR (.load (some 5) (.cst x4)) H11 H10) ∧
 (sameR (.load (some 5) (.cst x3)) H14 H13) ∧
 (sameR (.load none (.cst x40)) H14 H13) ∧
 (sameR (.load (some 5) (.cst x3)) H16 H15) ∧
 (sameR (.load none (.cst x52)) H16 H15) ∧
 Q (.bool false) H17))
 ( (sameR (.load (some 5) (.cst x3)) H9 H8) ∧
 (sameR (.load (some 5) (.cst x3)) H11 H10) ∧
 (sameR (.load (some 5) (.cst x4)) H11 H10) ∧
 (sameR (.load (some 5) (.cst x3)) H14 H13) ∧
 (sameR (.load none (.cst x40)) H14 H13) ∧
 (sameR (.load (some 5) (.cst x3)) H15 H15) ∧
 (sameR (.load none (.cst (.tup []))) H15 H15) ∧
 Q (.bool false) H15))
 ( (sameR (.load (some 5) (.cst x3)) H9 H8) ∧
 (sameR (.load (some 5) (.cst x3)) H11 H10) ∧
 (sameR (.load (some 5) (.cst x4)) H11 H10) ∧
 (sameR (.load (some 5) (.cst x3)) H13 H13) ∧
 (sameR (.load none (.cst (.tup []))) H13 H13) ∧
 (sameR (.load (some 5) (.cst x3)) H13 H13) ∧
 (sameR (.load none (.cst (.tup []))) H13 H13) ∧
 Q (.bool false) H13))
 ( (sameR (.load (some 5) (.cst x3)) H9 H8) ∧
 (sameR (.load (some 5) (.cst x3)) H10 H10) ∧
 (sameR (.load (some 5) (.cst x4)) H10 H10) ∧
 (sameR (.load (some 5) (.cst x3)) H10 H10) ∧
 (sameR (.load none (.cst (.tup []))) H10 H10) ∧
 (sameR (.load (some 5) (.cst x3)) H10 H10) ∧
 (sameR (.load none (.cst (.tup []))) H10 H10) ∧
 Q (.bool false) H10)))
theorem w7_eq : w7 = fun D Q x0 x1 x2 H => wpF D ir7 [x0, x1, x2] H Q := by kernel_rfl
theorem w7_ok (hT : Has T) {x0 x1 x2 : AV} {H : AH} {Q : AV → AH → Prop} (h : w7 (Den.of T) Q x0 x1 x2 H) : ∃ v H', Den.of T 7 [x0, x1, x2] H = some (v, H') ∧ Q v H' :=
  wpF_ok (hT _ ir7 rfl) (by rw [w7_eq] at h; exact h)

-- grille/grillelaw18.BudgetLeast
def w8 (D : Den) (Q : AV → AH → Prop) (x0 : AV) (H : AH) : Prop :=
 sP (aop [] (.box (.cst x0)) H) fun x1 H1 =>
 cP D 26 [] H1 fun x17 H2 =>
 gP (aNot x17) fun x18 =>
 iP x18
 ( Q (.bool false) H2)
 ( aP [(.int .i64 0), (.int .i64 0), (.int .i64 0), (.int .i64 0), (.int .i64 0)] H2 fun x3 H3 =>
 aP [(.int .i64 0), (.int .i64 0), (.int .i64 0), (.int .i64 0), (.int .i64 0)] H3 fun x4 H4 =>
 gP (aFieldAddr 0 x1) fun x19 =>
 gP (aLoad (some 5) x19 H4) fun x20 =>
 gP (aFieldAddr 5 x1) fun x21 =>
 gP (aLoad (some 5) x21 H4) fun x22 =>
 gP (aFieldAddr 10 x1) fun x23 =>
 gP (aLoad none x23 H4) fun x24 =>
 gP (aFieldAddr 11 x1) fun x25 =>
 gP (aLoad none x25 H4) fun x26 =>
 hP (aStore 5 x3 x20 H4) fun H5 =>
 hP (aStore 5 x4 x22 H5) fun H6 =>
 (sameR (.load (some 5) (.cst x21)) H5 H4) ∧
 (sameR (.load none (.cst x23)) H5 H4) ∧
 (sameR (.load none (.cst x25)) H5 H4) ∧
 (sameR (.load none (.cst x23)) H6 H5) ∧
 (sameR (.load none (.cst x25)) H6 H5) ∧
 aP [(.int .i64 0), (.int .i64 0), (.int .i64 0), (.int .i64 0), (.int .i64 0)] H6 fun x7 H7 =>
 aP [(.int .i64 0), (.int .i64 0), (.int .i64 0), (.int .i64 0), (.int .i64 0)] H7 fun x8 H8 =>
 gP (aLoad (some 5) x3 H8) fun x27 =>
 gP (aLoad (some 5) x4 H8) fun x28 =>
 hP (aStore 5 x7 x27 H8) fun H9 =>
 hP (aStore 5 x8 x28 H9) fun H10 =>
 (sameR (.load (some 5) (.cst x4)) H9 H8) ∧
 jP 1 (fun x45 H11 =>
 iP x45
 ( Q (.bool true) H11)
 ( aP [.nils] H11 fun x9 H12 =>
 aP [(.int .i64 0), (.int .i64 0), (.int .i64 0), (.int .i64 0), (.int .i64 0)] H12 fun x10 H13 =>
 aP [.nils] H13 fun x11 H14 =>
 cP D 37 [x24] H14 fun x47 H15 =>
 gP (aLoad (some 5) x7 H15) fun x48 =>
 gP (aLoad (some 5) x8 H15) fun x49 =>
 cP D 29 [x48, x49] H15 fun x50 H16 =>
 sP (aop [] (.make .ro 1 1 [(.int .u8 0)] (.cst x26) (.cst x26)) H16) fun x52 H17 =>
 hP (aStore 1 x9 x47 H17) fun H18 =>
 hP (aStore 5 x10 x50 H18) fun H19 =>
 hP (aStore 1 x11 x52 H19) fun H20 =>
 (sameR (.load (some 5) (.cst x7)) H15 H14) ∧
 (sameR (.load (some 5) (.cst x8)) H15 H14) ∧
 (keptP x9 [.nils] H15) ∧
 (keptP x10 [(.int .i64 0), (.int .i64 0), (.int .i64 0), (.int .i64 0), (.int .i64 0)] H15) ∧
 (keptP x11 [.nils] H15) ∧
 (keptP x9 [.nils] H16) ∧
 (keptP x10 [(.int .i64 0), (.int .i64 0), (.int .i64 0), (.int .i64 0), (.int .i64 0)] H16) ∧
 (keptP x11 [.nils] H16) ∧
 sP (aop [] (.mkFn (.func 38) [] [(.cst x11), (.cst x9)]) H20) fun x53 H21 =>
 aP [(.bool false), (.bool false), (.bool false)] H21 fun x13 H22 =>
 aP [(.bool false), (.bool false), (.bool false)] H22 fun x14 H23 =>
 aP [(.bool false), (.bool false), (.bool false)] H23 fun x15 H24 =>
 gP (aLoad (some 5) x7 H24) fun x55 =>
 vP D 0 x53 [x55] H24 fun x56 H25 =>
 gP (aLoad (some 5) x8 H25) fun x58 =>
 vP D 0 x53 [x58] H25 fun x59 H26 =>
 gP (aLoad (some 5) x10 H26) fun x61 =>
 vP D 0 x53 [x61] H26 fun x62 H27 =>
 hP (aStore 3 x13 x56 H27) fun H28 =>
 hP (aStore 3 x14 x59 H28) fun H29 =>
 hP (aStore 3 x15 x62 H29) fun H30 =>
 (sameR (.load (some 5) (.cst x8)) H25 H24) ∧
 (sameR (.load (some 5) (.cst x10)) H25 H24) ∧
 (sameR (.load (some 5) (.cst x10)) H26 H25) ∧
 (keptP x13 [(.bool false), (.bool false), (.bool false)] H25) ∧
 (keptP x14 [(.bool false), (.bool false), (.bool false)] H25) ∧
 (keptP x15 [(.bool false), (.bool false), (.bool false)] H25) ∧
 (keptP x13 [(.bool false), (.bool false), (.bool false)] H26) ∧
 (keptP x14 [(.bool false), (.bool false), (.bool false)] H26) ∧
 (keptP x15 [(.bool false), (.bool false), (.bool false)] H26) ∧
 (keptP x13 [(.bool false), (.bool false), (.bool false)] H27) ∧
 (keptP x14 [(.bool false), (.bool false), (.bool false)] H27) ∧
 (keptP x15 [(.bool false), (.bool false), (.bool false)] H27) ∧
 lP 1 (fun s1 x63 H31 =>
 gP (aBin .lss x63 (.int .i64 3)) fun x64 =>
 iP x64
 ( jP 1 (fun x77 H32 =>
 iP x77
 ( Q (.bool false) H32)
 ( gP (aBin .add x63 (.int .i64 1)) fun x78 =>
 s1 x78 H32)) fun j2 =>
 gP (aIdxAddrArr 3 1 x15 x63) fun x67 =>
 gP (aLoad none x67 H31) fun x68 =>
 gP (aIdxAddrArr 3 1 x13 x63) fun x70 =>
 gP (aLoad none x70 H31) fun x71 =>
 dP x71 true
 ( gP (aIdxAddrArr 3 1 x14 x63) fun x74 =>
 gP (aLoad none x74 H31) fun x75 =>
 gP (aEqv .bool true x68 x75) fun x77_1 =>
 j2 x77_1 H31)
 ( gP (aEqv .bool true x68 (.bool false)) fun x77_2 =>
 j2 x77_2 H31))
 ( gP (aLoad (some 5) x10 H31) fun x79 =>
 cP D 27 [x79] H31 fun x80 H33 =>
 dP x80 true
 ( gP (aLoad (some 5) x10 H33) fun x82 =>
 gP (aLoad (some 5) x7 H33) fun x83 =>
 cP D 40 [x82, x83] H33 fun x84 H34 =>
 dP x84 true
 ( gP (aLoad (some 5) x10 H34) fun x87 =>
 gP (aLoad (some 5) x8 H34) fun x88 =>
 cP D 40 [x87, x88] H34 fun x89 H35 =>
 dP x89 true
 ( gP (aLoad (some 5) x8 H35) fun x92 =>
 gP (aLoad (some 5) x7 H35) fun x93 =>
 cP D 29 [x92, x93] H35 fun x94 H36 =>
 gP (aLoad (some 5) x10 H36) fun x95 =>
 sP (aop [] (.eqAgg [.int, .int, .int, .int, .int] false (.cst x94) (.cst x95)) H36) fun x96 H37 =>
 (sameR (.load (some 5) (.cst x10)) H36 H35) ∧
 Q x96 H37)
 ( (sameR (.load (some 5) (.cst x10)) H35 H35) ∧
 Q (.bool false) H35))
 ( (sameR (.load (some 5) (.cst x10)) H34 H34) ∧
 Q (.bool false) H34))
 ( (sameR (.load (some 5) (.cst x10)) H33 H33) ∧
 Q (.bool false) H33))) [(.int .i64 0)] H30)) fun j3 =>
 cP D 36 [x24] H10 fun x30 H38 =>
 dP x30 false
 ( gP (aCv .i64 x26) fun x33 =>
 gP (aBin .gtr x33 (.int .i64 30000)) fun x34 =>
 dP x34 false
 ( gP (aLoad (some 5) x7 H38) fun x37 =>
 cP D 27 [x37] H38 fun x38 H39 =>
 gP (aNot x38) fun x39 =>
 dP x39 false
 ( gP (aLoad (some 5) x8 H39) fun x42 =>
 cP D 27 [x42] H39 fun x43 H40 =>
 gP (aNot x43) fun x44 =>
 j3 x44 H40)
 ( j3 (.bool true) H39))
 ( j3 (.bool true) H38))
 ( j3 (.bool true) H38))
theorem w8_eq : w8 = fun D Q x0 H => wpF D ir8 [x0] H Q := by kernel_rfl
theorem w8_ok (hT : Has T) {x0 : AV} {H : AH} {Q : AV → AH → Prop} (h : w8 (Den.of T) Q x0 H) : ∃ v H', Den.of T 8 [x0] H = some (v, H') ∧ Q v H' :=
  wpF_ok (hT _ ir8 rfl) (by rw [w8_eq] at h; exact h)

-- grille/grillelaw18.BudgetUse
def w9 (D : Den) (Q : AV → AH → Prop) (x0 x1 : AV) (H : AH) : Prop :=
 sP (aop [] (.box (.cst x0)) H) fun x2 H1 =>
 cP D 26 [] H1 fun x10 H2 =>
 gP (aNot x10) fun x11 =>
 iP x11
 ( Q (.bool false) H2)
 ( aP [(.int .i64 0), (.int .i64 0), (.int .i64 0), (.int .i64 0), (.int .i64 0)] H2 fun x5 H3 =>
 gP (aLoad (some 5) x2 H3) fun x12 =>
 cP D 37 [x1] H3 fun x14 H4 =>
 hP (aStore 5 x5 x12 H4) fun H5 =>
 (sameR (.load (some 5) (.cst x2)) H4 H3) ∧
 (keptP x5 [(.int .i64 0), (.int .i64 0), (.int .i64 0), (.int .i64 0), (.int .i64 0)] H4) ∧
 jP 1 (fun x21 H6 =>
 iP x21
 ( Q (.bool true) H6)
 ( gP (aLen .row x14 H6) fun x23 =>
 lP 1 (fun s1 x24 H7 =>
 gP (aBin .lss x24 x23) fun x25 =>
 iP x25
 ( gP (aIdxAddr 1 x14 x24) fun x26 =>
 gP (aLoad none x26 H7) fun x27 =>
 cP D 20 [x27] H7 fun x29 H8 =>
 gP (aNot x29) fun x30 =>
 iP x30
 ( gP (aLoad (some 5) x5 H8) fun x31 =>
 cP D 39 [x31, x14] H8 fun x33 H9 =>
 gP (aBin .eql x33 (.int .i64 5)) fun x34 =>
 Q x34 H9)
 ( gP (aBin .add x24 (.int .i64 1)) fun x35 =>
 s1 x35 H8))
 ( cP D 41 [x14] H7 fun x37 H10 =>
 aP [(.int .i64 0), (.int .i64 0), (.int .i64 0), (.int .i64 0), (.int .i64 0)] H10 fun x9 H11 =>
 hP (aStore 5 x9 x37 H11) fun H12 =>
 gP (aFieldAddr 0 x5) fun x38 =>
 hP (aStore 1 x38 (.int .i64 0) H12) fun H13 =>
 gP (aFieldAddr 1 x5) fun x39 =>
 hP (aStore 1 x39 (.int .i64 0) H13) fun H14 =>
 gP (aLoad (some 5) x5 H14) fun x40 =>
 cP D 39 [x40, x14] H14 fun x42 H15 =>
 gP (aBin .eql x42 (.int .i64 0)) fun x43 =>
 gP (aLoad (some 5) x9 H15) fun x44 =>
 gP (aLoad (some 5) x5 H15) fun x45 =>
 cP D 40 [x44, x45] H15 fun x46 H16 =>
 gP (aEqv .bool true x43 x46) fun x47 =>
 (sameR (.load (some 5) (.cst x9)) H15 H14) ∧
 (sameR (.load (some 5) (.cst x5)) H15 H14) ∧
 iP x47
 ( Q (.bool false) H16)
 ( gP (aLoad (some 5) x9 H16) fun x48 =>
 cP D 27 [x48] H16 fun x49 H17 =>
 gP (aNot x49) fun x50 =>
 dP x50 false
 ( gP (aLoad (some 5) x9 H17) fun x52 =>
 cP D 39 [x52, x14] H17 fun x54 H18 =>
 gP (aBin .eql x54 (.int .i64 0)) fun x55 =>
 Q x55 H18)
 ( Q (.bool true) H17)))) [(.int .i64 0)] H6)) fun j2 =>
 cP D 36 [x1] H5 fun x16 H19 =>
 dP x16 false
 ( gP (aLoad (some 5) x5 H19) fun x18 =>
 cP D 27 [x18] H19 fun x19 H20 =>
 gP (aNot x19) fun x20 =>
 j2 x20 H20)
 ( j2 (.bool true) H19))
theorem w9_eq : w9 = fun D Q x0 x1 H => wpF D ir9 [x0, x1] H Q := by kernel_rfl
theorem w9_ok (hT : Has T) {x0 x1 : AV} {H : AH} {Q : AV → AH → Prop} (h : w9 (Den.of T) Q x0 x1 H) : ∃ v H', Den.of T 9 [x0, x1] H = some (v, H') ∧ Q v H' :=
  wpF_ok (hT _ ir9 rfl) (by rw [w9_eq] at h; exact h)

-- grille/grillelaw18.BudgetMore
def w10 (D : Den) (Q : AV → AH → Prop) (x0 x1 : AV) (H : AH) : Prop :=
 cP D 26 [] H fun x8 H1 =>
 gP (aNot x8) fun x9 =>
 iP x9
 ( Q (.bool false) H1)
 ( jP 1 (fun x15 H2 =>
 iP x15
 ( Q (.bool true) H2)
 ( cP D 37 [x0] H2 fun x17 H3 =>
 cP D 41 [x17] H3 fun x18 H4 =>
 cP D 37 [x1] H4 fun x20 H5 =>
 cP D 41 [x20] H5 fun x21 H6 =>
 aP [(.int .i64 0), (.int .i64 0), (.int .i64 0), (.int .i64 0), (.int .i64 0)] H6 fun x5 H7 =>
 aP [(.int .i64 0), (.int .i64 0), (.int .i64 0), (.int .i64 0), (.int .i64 0)] H7 fun x6 H8 =>
 hP (aStore 5 x5 x18 H8) fun H9 =>
 hP (aStore 5 x6 x21 H9) fun H10 =>
 cP D 37 [x0] H10 fun x23 H11 =>
 cP D 37 [x1] H11 fun x25 H12 =>
 sP (aAppend .tok 1 24 x23 x25 H12) fun x26 H13 =>
 cP D 41 [x26] H13 fun x27 H14 =>
 aP [(.int .i64 0), (.int .i64 0), (.int .i64 0), (.int .i64 0), (.int .i64 0)] H14 fun x7 H15 =>
 hP (aStore 5 x7 x27 H15) fun H16 =>
 gP (aLoad (some 5) x7 H16) fun x28 =>
 gP (aFieldAddr 2 x5) fun x29 =>
 gP (aLoad none x29 H16) fun x30 =>
 gP (aFieldAddr 2 x6) fun x31 =>
 gP (aLoad none x31 H16) fun x32 =>
 gP (aBin .add x30 x32) fun x33 =>
 gP (aFieldAddr 3 x5) fun x34 =>
 gP (aLoad none x34 H16) fun x35 =>
 gP (aFieldAddr 3 x6) fun x36 =>
 gP (aLoad none x36 H16) fun x37 =>
 gP (aBin .add x35 x37) fun x38 =>
 gP (aFieldAddr 4 x5) fun x39 =>
 gP (aLoad none x39 H16) fun x40 =>
 gP (aFieldAddr 4 x6) fun x41 =>
 gP (aLoad none x41 H16) fun x42 =>
 gP (aFold true x40 [x42]) fun x43 =>
 gP ((aBuild [(.int .i64 0), (.int .i64 0), (.int .i64 0), (.int .i64 0), (.int .i64 0)] [(2, 1, x33), (3, 1, x38), (4, 1, x43)]).map .agg) fun x44 =>
 sP (aop [] (.eqAgg [.int, .int, .int, .int, .int] false (.cst x28) (.cst x44)) H16) fun x45 H17 =>
 Q x45 H17)) fun j1 =>
 cP D 36 [x0] H1 fun x11 H18 =>
 dP x11 false
 ( cP D 36 [x1] H18 fun x14 H19 =>
 j1 x14 H19)
 ( j1 (.bool true) H18))
theorem w10_eq : w10 = fun D Q x0 x1 H => wpF D ir10 [x0, x1] H Q := by kernel_rfl
theorem w10_ok (hT : Has T) {x0 x1 : AV} {H : AH} {Q : AV → AH → Prop} (h : w10 (Den.of T) Q x0 x1 H) : ∃ v H', Den.of T 10 [x0, x1] H = some (v, H') ∧ Q v H' :=
  wpF_ok (hT _ ir10 rfl) (by rw [w10_eq] at h; exact h)

-- grille/grillelaw10.alive
def w11 (D : Den) (Q : AV → AH → Prop) (H : AH) : Prop :=
 sP (aLit .ro 1 [(.int .i64 0)] H) fun x5 H1 =>
 gP ((aBuild [(.int .i64 0), (.str []), (.str []), .nils] [(0, 1, (.int .i64 1)), (1, 1, (.str [115, 101, 113])), (3, 1, x5)]).map .agg) fun x6 =>
 sP (aLit .ro 4 [x6] H1) fun x7 H2 =>
 sP (aLit .ro 1 [x7] H2) fun x8 H3 =>
 cP D 13 [x8] H3 fun x9 H4 =>
 gP (aExtract 0 x9) fun x10 =>
 gP (aExtract 1 x9) fun x11 =>
 gP ((aBuild [(.int .i64 0), (.str []), (.str []), .nils] [(1, 1, (.str [115, 116, 114])), (2, 1, (.str [53]))]).map .agg) fun x12 =>
 cP D 21 [x12] H4 fun x13 H5 =>
 aP [(.int .i64 0), (.str []), (.str []), (.str []), (.bool false)] H5 fun x3 H6 =>
 hP (aStore 5 x3 x13 H6) fun H7 =>
 gP (aLen .row x10 H7) fun x15 =>
 gP (aBin .eql x15 (.int .i64 5)) fun x16 =>
 dP x16 true
 ( gP (aIdxAddr 5 x10 (.int .i64 1)) fun x19 =>
 gP (aLoad (some 5) x19 H7) fun x20 =>
 gP ((aBuild [(.int .i64 0), (.str []), (.str []), (.str []), (.bool false)] [(0, 1, (.int .i64 2)), (1, 1, (.str [97, 49]))]).map .agg) fun x21 =>
 sP (aop [] (.eqAgg [.int, .str, .str, .str, .bool] false (.cst x20) (.cst x21)) H7) fun x22 H8 =>
 dP x22 true
 ( gP (aIdxAddr 5 x10 (.int .i64 2)) fun x26 =>
 gP (aLoad (some 5) x26 H8) fun x27 =>
 gP ((aBuild [(.int .i64 0), (.str []), (.str []), (.str []), (.bool false)] [(0, 1, (.int .i64 7)), (1, 1, (.str [97, 49]))]).map .agg) fun x28 =>
 sP (aop [] (.eqAgg [.int, .str, .str, .str, .bool] false (.cst x27) (.cst x28)) H8) fun x29 H9 =>
 dP x29 true
 ( gP (aBin .eql x11 (.int .i64 0)) fun x33 =>
 dP x33 true
 ( gP (aLoad (some 5) x3 H9) fun x36 =>
 gP ((aBuild [(.int .i64 0), (.str []), (.str []), (.str []), (.bool false)] [(0, 1, (.int .i64 6)), (3, 1, (.str [53]))]).map .agg) fun x37 =>
 sP (aop [] (.eqAgg [.int, .str, .str, .str, .bool] false (.cst x36) (.cst x37)) H9) fun x38 H10 =>
 dP x38 true
 ( gP ((aBuild [(.int .i64 0), (.str []), (.str []), .nils] [(0, 1, (.int .i64 2)), (1, 1, (.str [109, 97, 112]))]).map .agg) fun x41 =>
 sP (aLit .ro 4 [x41] H10) fun x42 H11 =>
 cP D 19 [x42] H11 fun x43 H12 =>
 gP (aBin .eql x43 (.int .i64 1)) fun x44 =>
 Q x44 H12)
 ( Q (.bool false) H10))
 ( Q (.bool false) H9))
 ( Q (.bool false) H9))
 ( Q (.bool false) H8))
 ( Q (.bool false) H7)
theorem w11_eq : w11 = fun D Q H => wpF D ir11 [] H Q := by kernel_rfl
theorem w11_ok (hT : Has T) {H : AH} {Q : AV → AH → Prop} (h : w11 (Den.of T) Q H) : ∃ v H', Den.of T 11 [] H = some (v, H') ∧ Q v H' :=
  wpF_ok (hT _ ir11 rfl) (by rw [w11_eq] at h; exact h)

-- grille/grillelaw08.Heavy
def w12 (D : Den) (Q : AV → AH → Prop) (x0 : AV) (H : AH) : Prop :=
 gP (aLen .row x0 H) fun x6 =>
 lP 1 (fun s1 x7 H1 =>
 gP (aBin .lss x7 x6) fun x8 =>
 iP x8
 ( gP (aIdxAddr 4 x0 x7) fun x9 =>
 gP (aLoad (some 4) x9 H1) fun x10 =>
 aP [(.int .i64 0), (.str []), (.str []), .nils] H1 fun x4 H2 =>
 hP (aStore 4 x4 x10 H2) fun H3 =>
 jP 1 (fun x26 H4 =>
 iP x26
 ( Q (.bool true) H4)
 ( gP (aBin .add x7 (.int .i64 1)) fun x27 =>
 s1 x27 H4)) fun j2 =>
 gP (aFieldAddr 3 x4) fun x11 =>
 gP (aLoad none x11 H3) fun x12 =>
 gP (aLen .row x12 H3) fun x13 =>
 gP (aBin .gtr x13 (.int .i64 200)) fun x14 =>
 dP x14 false
 ( gP (aFieldAddr 2 x4) fun x16 =>
 gP (aLoad none x16 H3) fun x17 =>
 gP (aLen .str x17 H3) fun x18 =>
 gP (aBin .gtr x18 (.int .i64 2000)) fun x19 =>
 dP x19 false
 ( gP (aFieldAddr 1 x4) fun x22 =>
 gP (aLoad none x22 H3) fun x23 =>
 gP (aLen .str x23 H3) fun x24 =>
 gP (aBin .gtr x24 (.int .i64 2000)) fun x25 =>
 j2 x25 H3)
 ( j2 (.bool true) H3))
 ( j2 (.bool true) H3))
 ( gP (aLen .row x0 H1) fun x29 =>
 gP (aBin .gtr x29 (.int .i64 120)) fun x30 =>
 Q x30 H1)) [(.int .i64 0)] H
theorem w12_eq : w12 = fun D Q x0 H => wpF D ir12 [x0] H Q := by kernel_rfl
theorem w12_ok (hT : Has T) {x0 : AV} {H : AH} {Q : AV → AH → Prop} (h : w12 (Den.of T) Q x0 H) : ∃ v H', Den.of T 12 [x0] H = some (v, H') ∧ Q v H' :=
  wpF_ok (hT _ ir12 rfl) (by rw [w12_eq] at h; exact h)

-- grille/flatten.Events
def w13 (D : Den) (Q : AV → AH → Prop) (x0 : AV) (H : AH) : Prop :=
 gP (aLen .row x0 H) fun x10 =>
 lP 2 (fun s1 x2 x11 H1 =>
 gP (aBin .lss x11 x10) fun x12 =>
 iP x12
 ( gP (aIdxAddr 1 x0 x11) fun x13 =>
 gP (aLoad none x13 H1) fun x14 =>
 cP D 20 [x14] H1 fun x16 H2 =>
 gP (aNot x16) fun x17 =>
 iP x17
 ( Q (.tup [.nils, (.int .i64 5)]) H2)
 ( gP (aBin .add x11 (.int .i64 1)) fun x18 =>
 s1 x2 x18 H2))
 ( gP (aLen .row x0 H1) fun x20 =>
 lP 2 (fun s2 x2_1 x21 H3 =>
 gP (aBin .lss x21 x20) fun x22 =>
 iP x22
 ( gP (aIdxAddr 1 x0 x21) fun x23 =>
 gP (aLoad none x23 H3) fun x24 =>
 cP D 42 [x24] H3 fun x26 H4 =>
 gP (aNilck x26) fun x28 =>
 gP (aFieldAddr 5 x28) fun x29 =>
 gP (aLoad none x29 H4) fun x30 =>
 gP (aBin .gtr x30 (.int .i64 40)) fun x31 =>
 iP x31
 ( Q (.tup [.nils, (.int .i64 13)]) H4)
 ( gP ((aBuild [(.int .i64 0), (.str []), (.str []), (.str []), (.bool false)] [(0, 1, (.int .i64 0))]).map .agg) fun x33 =>
 sP (aLit .ro 5 [x33] H4) fun x34 H5 =>
 sP (aAppend .tok 5 64 x2_1 x34 H5) fun x35 H6 =>
 gP (aNilck x26) fun x37 =>
 gP (aFieldAddr 1 x37) fun x38 =>
 gP (aLoad none x38 H6) fun x39 =>
 sP (aAppend .tok 5 64 x35 x39 H6) fun x40 H7 =>
 gP ((aBuild [(.int .i64 0), (.str []), (.str []), (.str []), (.bool false)] [(0, 1, (.int .i64 1))]).map .agg) fun x41 =>
 sP (aLit .ro 5 [x41] H7) fun x42 H8 =>
 sP (aAppend .tok 5 64 x40 x42 H8) fun x43 H9 =>
 (sameR (.load none (.cst x38)) H6 H5) ∧
 gP (aBin .add x21 (.int .i64 1)) fun x44 =>
 s2 x43 x44 H9))
 ( Q (.tup [x2_1, (.int .i64 0)]) H3)) [x2, (.int .i64 0)] H1)) [.nils, (.int .i64 0)] H
theorem w13_eq : w13 = fun D Q x0 H => wpF D ir13 [x0] H Q := by kernel_rfl
theorem w13_ok (hT : Has T) {x0 : AV} {H : AH} {Q : AV → AH → Prop} (h : w13 (Den.of T) Q x0 H) : ∃ v H', Den.of T 13 [x0] H = some (v, H') ∧ Q v H' :=
  wpF_ok (hT _ ir13 rfl) (by rw [w13_eq] at h; exact h)

-- grille/grillelaw08.Theirs
def w14 (D : Den) (Q : AV → AH → Prop) (x0 : AV) (H : AH) : Prop :=
 gP (aLen .row x0 H) fun x7 =>
 lP 2 (fun s1 x3 x8 H1 =>
 gP (aBin .lss x8 x7) fun x9 =>
 iP x9
 ( gP (aIdxAddr 4 x0 x8) fun x10 =>
 gP (aLoad (some 4) x10 H1) fun x11 =>
 aP [(.int .i64 0), (.str []), (.str []), .nils] H1 fun x5 H2 =>
 hP (aStore 4 x5 x11 H2) fun H3 =>
 gP (aFieldAddr 0 x5) fun x13 =>
 gP (aLoad none x13 H3) fun x14 =>
 gP (aFieldAddr 1 x5) fun x15 =>
 gP (aLoad none x15 H3) fun x16 =>
 gP (aFieldAddr 2 x5) fun x17 =>
 gP (aLoad none x17 H3) fun x18 =>
 gP (aFieldAddr 3 x5) fun x19 =>
 gP (aLoad none x19 H3) fun x20 =>
 cP D 43 [x20] H3 fun x21 H4 =>
 gP ((aBuild [(.int .i64 0), (.str []), (.str []), .nils] [(0, 1, x14), (1, 1, x16), (2, 1, x18), (3, 1, x21)]).map .agg) fun x22 =>
 sP (aLit .ro 4 [x22] H4) fun x23 H5 =>
 sP (aAppend .tok 4 64 x3 x23 H5) fun x24 H6 =>
 (sameR (.load none (.cst x13)) H4 H3) ∧
 (sameR (.load none (.cst x15)) H4 H3) ∧
 (sameR (.load none (.cst x17)) H4 H3) ∧
 gP (aBin .add x8 (.int .i64 1)) fun x25 =>
 s1 x24 x25 H6)
 ( Q x3 H1)) [.nils, (.int .i64 0)] H
theorem w14_eq : w14 = fun D Q x0 H => wpF D ir14 [x0] H Q := by kernel_rfl
theorem w14_ok (hT : Has T) {x0 : AV} {H : AH} {Q : AV → AH → Prop} (h : w14 (Den.of T) Q x0 H) : ∃ v H', Den.of T 14 [x0] H = some (v, H') ∧ Q v H' :=
  wpF_ok (hT _ ir14 rfl) (by rw [w14_eq] at h; exact h)

-- grille/grillelaw08.Theirs
def w14v1 (D : Den) (Q : AV → AH → Prop) (x0 : AV) (H : AH) : Prop :=
 gP (aLen .row x0 H) fun x7 =>
 lP 2 (fun s1 x3 x8 H1 =>
 gP (aBin .lss x8 x7) fun x9 =>
 iP x9
 ( gP (aIdxAddr 4 x0 x8) fun x10 =>
 gP (aLoad (some 4) x10 H1) fun x11 =>
 aP [(.int .i64 0), (.str []), (.str []), .nils] H1 fun x5 H2 =>
 hP (aStore 4 x5 x11 H2) fun H3 =>
 gP (aFieldAddr 0 x5) fun x13 =>
 gP (aLoad none x13 H3) fun x14 =>
 gP (aFieldAddr 1 x5) fun x15 =>
 gP (aLoad none x15 H3) fun x16 =>
 gP (aFieldAddr 2 x5) fun x17 =>
 gP (aLoad none x17 H3) fun x18 =>
 gP (aFieldAddr 3 x5) fun x19 =>
 gP (aLoad none x19 H3) fun x20 =>
 cP D 43 [x20] H3 fun x21 H4 =>
 gP ((aBuild [(.int .i64 0), (.str []), (.str []), .nils] [(0, 1, x14), (1, 1, x16), (2, 1, x18), (3, 1, x21)]).map .agg) fun x22 =>
 sP (aLit .ro 4 [x22] H4) fun x23 H5 =>
 sP (aAppend .ref 4 64 x3 x23 H5) fun x24 H6 =>
 (sameR (.load none (.cst x13)) H4 H3) ∧
 (sameR (.load none (.cst x15)) H4 H3) ∧
 (sameR (.load none (.cst x17)) H4 H3) ∧
 gP (aBin .add x8 (.int .i64 1)) fun x25 =>
 s1 x24 x25 H6)
 ( Q x3 H1)) [.nils, (.int .i64 0)] H
theorem w14v1_eq : w14v1 = fun D Q x0 H => wpF D ir14v1 [x0] H Q := by kernel_rfl
theorem w14v1_ok (hT : Has T) {x0 : AV} {H : AH} {Q : AV → AH → Prop} (h : w14v1 (Den.of T) Q x0 H) : ∃ v H', Den.of T 100014 [x0] H = some (v, H') ∧ Q v H' :=
  wpF_ok (hT _ ir14v1 rfl) (by rw [w14v1_eq] at h; exact h)

-- grille/grillelaw10.name
def w15 (D : Den) (Q : AV → AH → Prop) (x0 : AV) (H : AH) : Prop :=
 lP 2 (fun s1 x3 x0_1 H1 =>
 gP (aBin .gtr x0_1 (.int .i64 0)) fun x5 =>
 iP x5
 ( gP (aBin .rem x0_1 (.int .i64 10)) fun x7 =>
 gP (aBin .add (.int .i64 48) x7) fun x8 =>
 gP (aCv .i32 x8) fun x9 =>
 sP (aop [] (.cvRune (.cst x9)) H1) fun x10 H2 =>
 gP (aBin .add x10 x3) fun x12 =>
 gP (aBin .quo x0_1 (.int .i64 10)) fun x14 =>
 s1 x12 x14 H2)
 ( gP (aBin .add (.str [97]) x3) fun x16 =>
 Q x16 H1)) [(.str []), x0] H
theorem w15_eq : w15 = fun D Q x0 H => wpF D ir15 [x0] H Q := by kernel_rfl
theorem w15_ok (hT : Has T) {x0 : AV} {H : AH} {Q : AV → AH → Prop} (h : w15 (Den.of T) Q x0 H) : ∃ v H', Den.of T 15 [x0] H = some (v, H') ∧ Q v H' :=
  wpF_ok (hT _ ir15 rfl) (by rw [w15_eq] at h; exact h)

-- grille/arena.Normal
def w16 (D : Den) (Q : AV → AH → Prop) (x0 : AV) (H : AH) : Prop :=
 cP D 44 [x0] H fun x14 H1 =>
 gP (aLen .row x0 H1) fun x16 =>
 sP (aop [] (.make .ref 1 8 [(.int .i64 0)] (.cst x16) (.cst x16)) H1) fun x17 H2 =>
 gP (aLen .row x14 H2) fun x19 =>
 lP 1 (fun s1 x20 H3 =>
 gP (aBin .lss x20 x19) fun x21 =>
 iP x21
 ( gP (aIdxAddr 1 x14 x20) fun x23 =>
 gP (aLoad none x23 H3) fun x24 =>
 gP (aIdxAddr 1 x17 x24) fun x28 =>
 hP (aStore 1 x28 x20 H3) fun H4 =>
 gP (aBin .add x20 (.int .i64 1)) fun x29 =>
 s1 x29 H4)
 ( gP (aLen .row x14 H3) fun x31 =>
 lP 2 (fun s2 x7 x32 H5 =>
 gP (aBin .lss x32 x31) fun x33 =>
 iP x33
 ( gP (aIdxAddr 1 x14 x32) fun x34 =>
 gP (aLoad none x34 H5) fun x35 =>
 gP (aIdxAddr 4 x0 x35) fun x38 =>
 gP (aLoad (some 4) x38 H5) fun x39 =>
 aP [(.int .i64 0), (.str []), (.str []), .nils] H5 fun x10 H6 =>
 hP (aStore 4 x10 x39 H6) fun H7 =>
 gP (aFieldAddr 3 x10) fun x40 =>
 gP (aLoad none x40 H7) fun x41 =>
 cP D 100043 [x41] H7 fun x42 H8 =>
 gP (aFieldAddr 3 x10) fun x43 =>
 hP (aStore 1 x43 x42 H8) fun H9 =>
 gP (aFieldAddr 3 x10) fun x44 =>
 gP (aLoad none x44 H9) fun x45 =>
 gP (aLen .row x45 H9) fun x46 =>
 lP 1 (fun s3 x47 H10 =>
 gP (aBin .lss x47 x46) fun x48 =>
 iP x48
 ( gP (aIdxAddr 1 x45 x47) fun x50 =>
 gP (aLoad none x50 H10) fun x51 =>
 gP (aFieldAddr 3 x10) fun x52 =>
 gP (aLoad none x52 H10) fun x53 =>
 gP (aIdxAddr 1 x17 x51) fun x57 =>
 gP (aLoad none x57 H10) fun x58 =>
 gP (aIdxAddr 1 x53 x47) fun x59 =>
 hP (aStore 1 x59 x58 H10) fun H11 =>
 gP (aBin .add x47 (.int .i64 1)) fun x60 =>
 s3 x60 H11)
 ( hP (sealAt x10 3 H10) fun H12 =>
 gP (aLoad (some 4) x10 H12) fun x62 =>
 sP (aLit .ro 4 [x62] H12) fun x63 H13 =>
 sP (aAppend .tok 4 64 x7 x63 H13) fun x64 H14 =>
 gP (aBin .add x32 (.int .i64 1)) fun x65 =>
 s2 x64 x65 H14)) [(.int .i64 0)] H9)
 ( Q x7 H5)) [.nils, (.int .i64 0)] H3)) [(.int .i64 0)] H2
theorem w16_eq : w16 = fun D Q x0 H => wpF D ir16 [x0] H Q := by kernel_rfl
theorem w16_ok (hT : Has T) {x0 : AV} {H : AH} {Q : AV → AH → Prop} (h : w16 (Den.of T) Q x0 H) : ∃ v H', Den.of T 16 [x0] H = some (v, H') ∧ Q v H' :=
  wpF_ok (hT _ ir16 rfl) (by rw [w16_eq] at h; exact h)

-- grille/event.Nodes
def w17 (D : Den) (Q : AV → AH → Prop) (x0 : AV) (H : AH) : Prop :=
 gP (aLen .row x0 H) fun x6 =>
 lP 2 (fun s1 x2 x7 H1 =>
 gP (aBin .lss x7 x6) fun x8 =>
 iP x8
 ( jP 1 (fun x2_1 H2 =>
 gP (aBin .add x7 (.int .i64 1)) fun x20 =>
 s1 x2_1 x20 H2) fun j2 =>
 gP (aIdxAddr 5 x0 x7) fun x9 =>
 gP (aLoad (some 5) x9 H1) fun x10 =>
 aP [(.int .i64 0), (.str []), (.str []), (.str []), (.bool false)] H1 fun x4 H3 =>
 hP (aStore 5 x4 x10 H3) fun H4 =>
 jP 1 (fun x17 H5 =>
 iP x17
 ( gP (aBin .add x2 (.int .i64 1)) fun x19 =>
 j2 x19 H5)
 ( j2 x2 H5)) fun j3 =>
 gP (aLoad (some 5) x4 H4) fun x11 =>
 cP D 45 [x11] H4 fun x12 H6 =>
 dP x12 false
 ( gP (aFieldAddr 0 x4) fun x14 =>
 gP (aLoad none x14 H6) fun x15 =>
 gP (aBin .eql x15 (.int .i64 7)) fun x16 =>
 j3 x16 H6)
 ( j3 (.bool true) H6))
 ( Q x2 H1)) [(.int .i64 0), (.int .i64 0)] H
theorem w17_eq : w17 = fun D Q x0 H => wpF D ir17 [x0] H Q := by kernel_rfl
theorem w17_ok (hT : Has T) {x0 : AV} {H : AH} {Q : AV → AH → Prop} (h : w17 (Den.of T) Q x0 H) : ∃ v H', Den.of T 17 [x0] H = some (v, H') ∧ Q v H' :=
  wpF_ok (hT _ ir17 rfl) (by rw [w17_eq] at h; exact h)

-- grille/event.Depth
def w18 (D : Den) (Q : AV → AH → Prop) (x0 : AV) (H : AH) : Prop :=
 gP (aLen .row x0 H) fun x7 =>
 lP 3 (fun s1 x3 x2 x8 H1 =>
 gP (aBin .lss x8 x7) fun x9 =>
 iP x9
 ( gP (aIdxAddr 5 x0 x8) fun x10 =>
 gP (aLoad (some 5) x10 H1) fun x11 =>
 aP [(.int .i64 0), (.str []), (.str []), (.str []), (.bool false)] H1 fun x5 H2 =>
 hP (aStore 5 x5 x11 H2) fun H3 =>
 jP 1 (fun x3_1 H4 =>
 gP (aFold true x2 [x3_1]) fun x26 =>
 gP (aBin .add x8 (.int .i64 1)) fun x27 =>
 s1 x3_1 x26 x27 H4) fun j2 =>
 gP (aFieldAddr 0 x5) fun x12 =>
 gP (aLoad none x12 H3) fun x13 =>
 jP 1 (fun x14 H5 =>
 iP x14
 ( gP (aBin .add x3 (.int .i64 1)) fun x18 =>
 j2 x18 H5)
 ( jP 1 (fun x19 H6 =>
 iP x19
 ( gP (aBin .sub x3 (.int .i64 1)) fun x23 =>
 j2 x23 H6)
 ( j2 x3 H6)) fun j3 =>
 gP (aBin .eql x13 (.int .i64 3)) fun x20 =>
 iP x20
 ( j3 x20 H5)
 ( gP (aBin .eql x13 (.int .i64 5)) fun x21 =>
 j3 x21 H5))) fun j4 =>
 gP (aBin .eql x13 (.int .i64 2)) fun x15 =>
 iP x15
 ( j4 x15 H3)
 ( gP (aBin .eql x13 (.int .i64 4)) fun x16 =>
 j4 x16 H3))
 ( Q x2 H1)) [(.int .i64 0), (.int .i64 0), (.int .i64 0)] H
theorem w18_eq : w18 = fun D Q x0 H => wpF D ir18 [x0] H Q := by kernel_rfl
theorem w18_ok (hT : Has T) {x0 : AV} {H : AH} {Q : AV → AH → Prop} (h : w18 (Den.of T) Q x0 H) : ∃ v H', Den.of T 18 [x0] H = some (v, H') ∧ Q v H' :=
  wpF_ok (hT _ ir18 rfl) (by rw [w18_eq] at h; exact h)

-- grille/flatten.Deep
def w19 (D : Den) (Q : AV → AH → Prop) (x0 : AV) (H : AH) : Prop :=
 cP D 20 [x0] H fun x4 H1 =>
 gP (aNot x4) fun x5 =>
 iP x5
 ( Q (.int .i64 0) H1)
 ( cP D 42 [x0] H1 fun x7 H2 =>
 gP (aNilck x7) fun x8 =>
 gP (aFieldAddr 5 x8) fun x9 =>
 gP (aLoad none x9 H2) fun x10 =>
 Q x10 H2)
theorem w19_eq : w19 = fun D Q x0 H => wpF D ir19 [x0] H Q := by kernel_rfl
theorem w19_ok (hT : Has T) {x0 : AV} {H : AH} {Q : AV → AH → Prop} (h : w19 (Den.of T) Q x0 H) : ∃ v H', Den.of T 19 [x0] H = some (v, H') ∧ Q v H' :=
  wpF_ok (hT _ ir19 rfl) (by rw [w19_eq] at h; exact h)

-- grille/arena.Right
def w20 (D : Den) (Q : AV → AH → Prop) (x0 : AV) (H : AH) : Prop :=
 sP (aop [] (.box (.cst x0)) H) fun x1 H1 =>
 jP 1 (fun x11 H2 =>
 iP x11
 ( Q (.bool false) H2)
 ( sP (aop [] (.mkFn (.func 46) [] [(.cst x1)]) H2) fun x12 H3 =>
 gP (aLoad none x1 H3) fun x13 =>
 cP D 48 [x13, x12] H3 fun x15 H4 =>
 gP (aNot x15) fun x16 =>
 dP x16 true
 ( gP (aLoad none x1 H4) fun x18 =>
 cP D 49 [x18] H4 fun x19 H5 =>
 gP (aNot x19) fun x20 =>
 Q x20 H5)
 ( Q (.bool false) H4))) fun j1 =>
 gP (aLoad none x1 H1) fun x4 =>
 gP (aLen .row x4 H1) fun x5 =>
 gP (aBin .lss x5 (.int .i64 1)) fun x6 =>
 dP x6 false
 ( gP (aLoad none x1 H1) fun x8 =>
 gP (aLen .row x8 H1) fun x9 =>
 gP (aBin .gtr x9 (.int .i64 2000)) fun x10 =>
 j1 x10 H1)
 ( j1 (.bool true) H1)
theorem w20_eq : w20 = fun D Q x0 H => wpF D ir20 [x0] H Q := by kernel_rfl
theorem w20_ok (hT : Has T) {x0 : AV} {H : AH} {Q : AV → AH → Prop} (h : w20 (Den.of T) Q x0 H) : ∃ v H', Den.of T 20 [x0] H = some (v, H') ∧ Q v H' :=
  wpF_ok (hT _ ir20 rfl) (by rw [w20_eq] at h; exact h)

-- grille/flatten.Event
def w21 (D : Den) (Q : AV → AH → Prop) (x0 : AV) (H : AH) : Prop :=
 sP (aop [] (.box (.cst x0)) H) fun x1 H1 =>
 aP [(.int .i64 0), (.str []), (.str []), (.str []), (.bool false)] H1 fun x2 H2 =>
 gP (aFieldAddr 0 x1) fun x4 =>
 gP (aLoad none x4 H2) fun x5 =>
 gP (aBin .eql x5 (.int .i64 1)) fun x7 =>
 iP x7
 ( gP (aFieldAddr 1 x1) fun x8 =>
 gP (aLoad none x8 H2) fun x9 =>
 cP D 50 [x9, (.str [115, 101, 113])] H2 fun x10 H3 =>
 gP ((aBuild [(.int .i64 0), (.str []), (.str []), (.str []), (.bool false)] [(0, 1, (.int .i64 2)), (2, 1, x10)]).map .agg) fun x11 =>
 hP (aStore 5 x2 x11 H3) fun H4 =>
 gP (aLoad (some 5) x2 H4) fun r1 =>
 Q r1 H4)
 ( gP (aBin .eql x5 (.int .i64 2)) fun x13 =>
 iP x13
 ( gP (aFieldAddr 1 x1) fun x14 =>
 gP (aLoad none x14 H2) fun x15 =>
 cP D 50 [x15, (.str [109, 97, 112])] H2 fun x16 H5 =>
 gP ((aBuild [(.int .i64 0), (.str []), (.str []), (.str []), (.bool false)] [(0, 1, (.int .i64 4)), (2, 1, x16)]).map .agg) fun x17 =>
 hP (aStore 5 x2 x17 H5) fun H6 =>
 gP (aLoad (some 5) x2 H6) fun r2 =>
 Q r2 H6)
 ( gP (aBin .eql x5 (.int .i64 0)) fun x19 =>
 iP x19
 ( aP [(.int .i64 0), (.str []), (.str []), (.str []), (.bool false)] H2 fun x3 H7 =>
 gP (aFieldAddr 1 x1) fun x20 =>
 gP (aLoad none x20 H7) fun x21 =>
 cP D 50 [x21, (.str [115, 116, 114])] H7 fun x22 H8 =>
 gP (aFieldAddr 2 x1) fun x23 =>
 gP (aLoad none x23 H8) fun x24 =>
 gP ((aBuild [(.int .i64 0), (.str []), (.str []), (.str []), (.bool false)] [(0, 1, (.int .i64 6)), (2, 1, x22), (3, 1, x24)]).map .agg) fun x25 =>
 hP (aStore 5 x3 x25 H8) fun H9 =>
 (sameR (.load none (.cst x23)) H8 H7) ∧
 (keptP x3 [(.int .i64 0), (.str []), (.str []), (.str []), (.bool false)] H8) ∧
 jP 0 (fun H10 =>
 gP (aLoad (some 5) x3 H10) fun x39 =>
 hP (aStore 5 x2 x39 H10) fun H11 =>
 gP (aLoad (some 5) x2 H11) fun r3 =>
 Q r3 H11) fun j4 =>
 jP 1 (fun x36 H12 =>
 iP x36
 ( gP (aFieldAddr 2 x3) fun x37 =>
 hP (aStore 1 x37 (.str []) H12) fun H13 =>
 gP (aFieldAddr 4 x3) fun x38 =>
 hP (aStore 1 x38 (.bool true) H13) fun H14 =>
 j4 H14)
 ( j4 H12)) fun j5 =>
 gP (aFieldAddr 2 x1) fun x26 =>
 gP (aLoad none x26 H9) fun x27 =>
 cP D 51 [x27] H9 fun x28 H15 =>
 dP x28 true
 ( gP (aFieldAddr 2 x1) fun x30 =>
 gP (aLoad none x30 H15) fun x31 =>
 cP D 52 [x31] H15 fun x32 H16 =>
 gP (aFieldAddr 1 x1) fun x33 =>
 gP (aLoad none x33 H16) fun x34 =>
 gP (aBin .eql x32 x34) fun x35 =>
 (sameR (.load none (.cst x33)) H16 H15) ∧
 j5 x35 H16)
 ( (sameR (.load none (.cst (.tup []))) H15 H15) ∧
 j5 (.bool false) H15))
 ( gP ((aBuild [(.int .i64 0), (.str []), (.str []), (.str []), (.bool false)] []).map .agg) fun x40 =>
 hP (aStore 5 x2 x40 H2) fun H17 =>
 gP (aLoad (some 5) x2 H17) fun r6 =>
 Q r6 H17)))
theorem w21_eq : w21 = fun D Q x0 H => wpF D ir21 [x0] H Q := by kernel_rfl
theorem w21_ok (hT : Has T) {x0 : AV} {H : AH} {Q : AV → AH → Prop} (h : w21 (Den.of T) Q x0 H) : ∃ v H', Den.of T 21 [x0] H = some (v, H') ∧ Q v H' :=
  wpF_ok (hT _ ir21 rfl) (by rw [w21_eq] at h; exact h)

-- grille/compose.Tag
def w22 (D : Den) (Q : AV → AH → Prop) (x0 : AV) (H : AH) : Prop :=
 sP (aop [] (.box (.cst x0)) H) fun x1 H1 =>
 gP (aFieldAddr 0 x1) fun x4 =>
 gP (aLoad none x4 H1) fun x5 =>
 gP (aBin .eql x5 (.int .i64 2)) fun x7 =>
 iP x7
 ( gP (aFieldAddr 2 x1) fun x8 =>
 gP (aLoad none x8 H1) fun x9 =>
 cP D 53 [x9, (.str [115, 101, 113])] H1 fun x10 H2 =>
 gP (aExtract 0 x10) fun x11 =>
 gP (aExtract 1 x10) fun x12 =>
 Q (.tup [x11, x12]) H2)
 ( gP (aBin .eql x5 (.int .i64 4)) fun x14 =>
 iP x14
 ( gP (aFieldAddr 2 x1) fun x15 =>
 gP (aLoad none x15 H1) fun x16 =>
 cP D 53 [x16, (.str [109, 97, 112])] H1 fun x17 H3 =>
 gP (aExtract 0 x17) fun x18 =>
 gP (aExtract 1 x17) fun x19 =>
 Q (.tup [x18, x19]) H3)
 ( gP (aBin .eql x5 (.int .i64 6)) fun x21 =>
 iP x21
 ( jP 1 (fun x22 H4 =>
 iP x22
 ( gP (aFieldAddr 3 x1) fun x30 =>
 gP (aLoad none x30 H4) fun x31 =>
 cP D 52 [x31] H4 fun x32 H5 =>
 Q (.tup [x32, (.int .i64 0)]) H5)
 ( gP (aFieldAddr 2 x1) fun x34 =>
 gP (aLoad none x34 H4) fun x35 =>
 gP (aBin .eql x35 (.str [])) fun x36 =>
 iP x36
 ( Q (.tup [(.str [115, 116, 114]), (.int .i64 0)]) H4)
 ( gP (aFieldAddr 2 x1) fun x38 =>
 gP (aLoad none x38 H4) fun x39 =>
 gP (aFieldAddr 3 x1) fun x40 =>
 gP (aLoad none x40 H4) fun x41 =>
 cP D 54 [x39, x41] H4 fun x42 H6 =>
 iP x42
 ( gP (aFieldAddr 2 x1) fun x43 =>
 gP (aLoad none x43 H6) fun x44 =>
 Q (.tup [x44, (.int .i64 0)]) H6)
 ( Q (.tup [(.str []), (.int .i64 14)]) H6)))) fun j1 =>
 gP (aFieldAddr 2 x1) fun x23 =>
 gP (aLoad none x23 H1) fun x24 =>
 gP (aBin .eql x24 (.str [])) fun x25 =>
 dP x25 true
 ( gP (aFieldAddr 4 x1) fun x27 =>
 gP (aLoad none x27 H1) fun x28 =>
 j1 x28 H1)
 ( j1 (.bool false) H1))
 ( Q (.tup [(.str []), (.int .i64 5)]) H1)))
theorem w22_eq : w22 = fun D Q x0 H => wpF D ir22 [x0] H Q := by kernel_rfl
theorem w22_ok (hT : Has T) {x0 : AV} {H : AH} {Q : AV → AH → Prop} (h : w22 (Den.of T) Q x0 H) : ∃ v H', Den.of T 22 [x0] H = some (v, H') ∧ Q v H' :=
  wpF_ok (hT _ ir22 rfl) (by rw [w22_eq] at h; exact h)

-- grille/grilleref06.Same
def w23 (D : Den) (Q : AV → AH → Prop) (x0 x1 : AV) (H : AH) : Prop :=
 gP (aLen .row x0 H) fun x7 =>
 gP (aLen .row x1 H) fun x9 =>
 gP (aBin .neq x7 x9) fun x10 =>
 iP x10
 ( Q (.bool false) H)
 ( lP 1 (fun s1 x5 H1 =>
 gP (aLen .row x0 H1) fun x13 =>
 gP (aBin .lss x5 x13) fun x14 =>
 iP x14
 ( gP (aIdxAddr 5 x0 x5) fun x19 =>
 gP (aLoad (some 5) x19 H1) fun x20 =>
 gP (aIdxAddr 5 x1 x5) fun x23 =>
 gP (aLoad (some 5) x23 H1) fun x24 =>
 sP (aop [] (.eqAgg [.int, .str, .str, .str, .bool] true (.cst x20) (.cst x24)) H1) fun x25 H2 =>
 iP x25
 ( Q (.bool false) H2)
 ( gP (aBin .add x5 (.int .i64 1)) fun x16 =>
 s1 x16 H2))
 ( Q (.bool true) H1)) [(.int .i64 0)] H)
theorem w23_eq : w23 = fun D Q x0 x1 H => wpF D ir23 [x0, x1] H Q := by kernel_rfl
theorem w23_ok (hT : Has T) {x0 x1 : AV} {H : AH} {Q : AV → AH → Prop} (h : w23 (Den.of T) Q x0 x1 H) : ∃ v H', Den.of T 23 [x0, x1] H = some (v, H') ∧ Q v H' :=
  wpF_ok (hT _ ir23 rfl) (by rw [w23_eq] at h; exact h)

-- grille/grillelaw06.Ours
def w24 (D : Den) (Q : AV → AH → Prop) (x0 : AV) (H : AH) : Prop :=
 gP (aLen .row x0 H) fun x7 =>
 lP 2 (fun s1 x3 x8 H1 =>
 gP (aBin .lss x8 x7) fun x9 =>
 iP x9
 ( gP (aIdxAddr 5 x0 x8) fun x10 =>
 gP (aLoad (some 5) x10 H1) fun x11 =>
 aP [(.int .i64 0), (.str []), (.str []), (.str []), (.bool false)] H1 fun x5 H2 =>
 hP (aStore 5 x5 x11 H2) fun H3 =>
 gP (aLoad (some 5) x5 H3) fun x13 =>
 sP (aLit .ro 5 [x13] H3) fun x14 H4 =>
 sP (aAppend .tok 5 64 x3 x14 H4) fun x15 H5 =>
 gP (aBin .add x8 (.int .i64 1)) fun x16 =>
 s1 x15 x16 H5)
 ( Q x3 H1)) [.nils, (.int .i64 0)] H
theorem w24_eq : w24 = fun D Q x0 H => wpF D ir24 [x0] H Q := by kernel_rfl
theorem w24_ok (hT : Has T) {x0 : AV} {H : AH} {Q : AV → AH → Prop} (h : w24 (Den.of T) Q x0 H) : ∃ v H', Den.of T 24 [x0] H = some (v, H') ∧ Q v H' :=
  wpF_ok (hT _ ir24 rfl) (by rw [w24_eq] at h; exact h)

-- grille/arena.Same
def w25 (D : Den) (Q : AV → AH → Prop) (x0 x1 : AV) (H : AH) : Prop :=
 cP D 20 [x0] H fun x6 H1 =>
 dP x6 true
 ( cP D 20 [x1] H1 fun x9 H2 =>
 dP x9 true
 ( cP D 16 [x0] H2 fun x13 H3 =>
 cP D 16 [x1] H3 fun x15 H4 =>
 cP D 55 [x13, x15, (.fn (.func 56) [] [])] H4 fun x16 H5 =>
 Q x16 H5)
 ( Q (.bool false) H2))
 ( Q (.bool false) H1)
theorem w25_eq : w25 = fun D Q x0 x1 H => wpF D ir25 [x0, x1] H Q := by kernel_rfl
theorem w25_ok (hT : Has T) {x0 x1 : AV} {H : AH} {Q : AV → AH → Prop} (h : w25 (Den.of T) Q x0 x1 H) : ∃ v H', Den.of T 25 [x0, x1] H = some (v, H') ∧ Q v H' :=
  wpF_ok (hT _ ir25 rfl) (by rw [w25_eq] at h; exact h)

-- grille/grillelaw18.alive
def w26 (D : Den) (Q : AV → AH → Prop) (H : AH) : Prop :=
 sP (aLit .ro 1 [(.int .i64 1)] H) fun x3 H1 =>
 gP ((aBuild [(.int .i64 0), (.str []), (.str []), .nils] [(0, 1, (.int .i64 1)), (1, 1, (.str [115, 101, 113])), (3, 1, x3)]).map .agg) fun x4 =>
 gP ((aBuild [(.int .i64 0), (.str []), (.str []), .nils] [(1, 1, (.str [115, 116, 114])), (2, 1, (.str [97]))]).map .agg) fun x5 =>
 sP (aLit .ro 4 [x4, x5] H1) fun x6 H2 =>
 sP (aLit .ro 1 [x6] H2) fun x7 H3 =>
 gP ((aBuild [(.int .i64 0), (.int .i64 0), (.int .i64 0), (.int .i64 0), (.int .i64 0)] [(0, 1, (.int .i64 3)), (1, 1, (.int .i64 2)), (2, 1, (.int .i64 1)), (3, 1, (.int .i64 2)), (4, 1, (.int .i64 1))]).map .agg) fun x8 =>
 aP [(.int .i64 0), (.int .i64 0), (.int .i64 0), (.int .i64 0), (.int .i64 0)] H3 fun x2 H4 =>
 hP (aStore 5 x2 x8 H4) fun H5 =>
 cP D 41 [x7] H5 fun x10 H6 =>
 gP ((aBuild [(.int .i64 0), (.int .i64 0), (.int .i64 0), (.int .i64 0), (.int .i64 0)] [(2, 1, (.int .i64 1)), (3, 1, (.int .i64 2)), (4, 1, (.int .i64 1))]).map .agg) fun x11 =>
 sP (aop [] (.eqAgg [.int, .int, .int, .int, .int] false (.cst x10) (.cst x11)) H6) fun x12 H7 =>
 dP x12 true
 ( gP (aLoad (some 5) x2 H7) fun x14 =>
 cP D 27 [x14] H7 fun x15 H8 =>
 dP x15 true
 ( gP (aLoad (some 5) x2 H8) fun x18 =>
 cP D 39 [x18, x7] H8 fun x20 H9 =>
 gP (aBin .eql x20 (.int .i64 0)) fun x21 =>
 dP x21 true
 ( gP (aLoad (some 5) x2 H9) fun x24 =>
 sP (aLit .ref 1 [(.int .u8 97), (.int .u8 98), (.int .u8 99), (.int .u8 100)] H9) fun x25 H10 =>
 sP (aop [] (.cvMark (.cst x25)) H10) fun x26 H11 =>
 cP D 31 [x24, x26] H11 fun x27 H12 =>
 gP (aBin .eql x27 (.int .i64 16)) fun x28 =>
 dP x28 true
 ( gP (aLoad (some 5) x2 H12) fun x31 =>
 sP (aLit .ref 1 [(.int .u8 97), (.int .u8 98)] H12) fun x32 H13 =>
 sP (aop [] (.cvMark (.cst x32)) H13) fun x33 H14 =>
 cP D 33 [x31, x33] H14 fun x34 H15 =>
 gP (aBin .eql x34 (.int .i64 0)) fun x35 =>
 dP x35 true
 ( gP (aLoad (some 5) x2 H15) fun x38 =>
 cP D 34 [] H15 fun x39 H16 =>
 cP D 29 [x38, x39] H16 fun x40 H17 =>
 gP (aLoad (some 5) x2 H17) fun x41 =>
 sP (aop [] (.eqAgg [.int, .int, .int, .int, .int] false (.cst x40) (.cst x41)) H17) fun x42 H18 =>
 dP x42 true
 ( gP ((aBuild [(.int .i64 0), (.int .i64 0), (.int .i64 0), (.int .i64 0), (.int .i64 0)] [(0, 1, (.int .i64 (-1)))]).map .agg) fun x45 =>
 cP D 27 [x45] H18 fun x46 H19 =>
 gP (aNot x46) fun x47 =>
 (sameR (.load (some 5) (.cst x2)) H10 H9) ∧
 (sameR (.load (some 5) (.cst x2)) H13 H12) ∧
 (sameR (.load (some 5) (.cst x2)) H16 H15) ∧
 (sameR (.load (some 5) (.cst x2)) H16 H15) ∧
 (sameR (.load (some 5) (.cst x2)) H17 H16) ∧
 Q x47 H19)
 ( (sameR (.load (some 5) (.cst x2)) H10 H9) ∧
 (sameR (.load (some 5) (.cst x2)) H13 H12) ∧
 (sameR (.load (some 5) (.cst x2)) H16 H15) ∧
 (sameR (.load (some 5) (.cst x2)) H16 H15) ∧
 (sameR (.load (some 5) (.cst x2)) H17 H16) ∧
 Q (.bool false) H18))
 ( (sameR (.load (some 5) (.cst x2)) H10 H9) ∧
 (sameR (.load (some 5) (.cst x2)) H13 H12) ∧
 (sameR (.load (some 5) (.cst x2)) H15 H15) ∧
 (sameR (.load (some 5) (.cst x2)) H15 H15) ∧
 (sameR (.load (some 5) (.cst x2)) H15 H15) ∧
 Q (.bool false) H15))
 ( (sameR (.load (some 5) (.cst x2)) H10 H9) ∧
 (sameR (.load (some 5) (.cst x2)) H12 H12) ∧
 (sameR (.load (some 5) (.cst x2)) H12 H12) ∧
 (sameR (.load (some 5) (.cst x2)) H12 H12) ∧
 (sameR (.load (some 5) (.cst x2)) H12 H12) ∧
 Q (.bool false) H12))
 ( (sameR (.load (some 5) (.cst x2)) H9 H9) ∧
 (sameR (.load (some 5) (.cst x2)) H9 H9) ∧
 (sameR (.load (some 5) (.cst x2)) H9 H9) ∧
 (sameR (.load (some 5) (.cst x2)) H9 H9) ∧
 (sameR (.load (some 5) (.cst x2)) H9 H9) ∧
 Q (.bool false) H9))
 ( (sameR (.load (some 5) (.cst x2)) H8 H8) ∧
 (sameR (.load (some 5) (.cst x2)) H8 H8) ∧
 (sameR (.load (some 5) (.cst x2)) H8 H8) ∧
 (sameR (.load (some 5) (.cst x2)) H8 H8) ∧
 (sameR (.load (some 5) (.cst x2)) H8 H8) ∧
 Q (.bool false) H8))
 ( (sameR (.load (some 5) (.cst x2)) H7 H7) ∧
 (sameR (.load (some 5) (.cst x2)) H7 H7) ∧
 (sameR (.load (some 5) (.cst x2)) H7 H7) ∧
 (sameR (.load (some 5) (.cst x2)) H7 H7) ∧
 (sameR (.load (some 5) (.cst x2)) H7 H7) ∧
 Q (.bool false) H7)
theorem w26_eq : w26 = fun D Q H => wpF D ir26 [] H Q := by kernel_rfl
theorem w26_ok (hT : Has T) {H : AH} {Q : AV → AH → Prop} (h : w26 (Den.of T) Q H) : ∃ v H', Den.of T 26 [] H = some (v, H') ∧ Q v H' :=
  wpF_ok (hT _ ir26 rfl) (by rw [w26_eq] at h; exact h)

-- grille/budget.Right
def w27 (D : Den) (Q : AV → AH → Prop) (x0 : AV) (H : AH) : Prop :=
 sP (aop [] (.box (.cst x0)) H) fun x1 H1 =>
 cP D 34 [] H1 fun x4 H2 =>
 aP [(.int .i64 0), (.int .i64 0), (.int .i64 0), (.int .i64 0), (.int .i64 0)] H2 fun x3 H3 =>
 hP (aStore 5 x3 x4 H3) fun H4 =>
 gP (aFieldAddr 2 x1) fun x5 =>
 gP (aLoad none x5 H4) fun x6 =>
 gP (aFieldAddr 2 x3) fun x7 =>
 hP (aStore 1 x7 x6 H4) fun H5 =>
 gP (aFieldAddr 0 x1) fun x8 =>
 gP (aLoad none x8 H5) fun x9 =>
 gP (aFieldAddr 1 x1) fun x10 =>
 gP (aLoad none x10 H5) fun x11 =>
 gP (aFieldAddr 2 x1) fun x12 =>
 gP (aLoad none x12 H5) fun x13 =>
 gP (aFieldAddr 3 x1) fun x14 =>
 gP (aLoad none x14 H5) fun x15 =>
 gP (aFieldAddr 4 x1) fun x16 =>
 gP (aLoad none x16 H5) fun x17 =>
 gP (aFold false x9 [x11, x13, x15, x17]) fun x18 =>
 gP (aBin .geq x18 (.int .i64 0)) fun x19 =>
 dP x19 true
 ( gP (aLoad (some 5) x1 H5) fun x21 =>
 gP (aLoad (some 5) x3 H5) fun x22 =>
 cP D 29 [x21, x22] H5 fun x23 H6 =>
 gP (aLoad (some 5) x1 H6) fun x24 =>
 sP (aop [] (.eqAgg [.int, .int, .int, .int, .int] false (.cst x23) (.cst x24)) H6) fun x25 H7 =>
 (sameR (.load (some 5) (.cst x1)) H6 H5) ∧
 Q x25 H7)
 ( (sameR (.load (some 5) (.cst x1)) H5 H5) ∧
 Q (.bool false) H5)
theorem w27_eq : w27 = fun D Q x0 H => wpF D ir27 [x0] H Q := by kernel_rfl
theorem w27_ok (hT : Has T) {x0 : AV} {H : AH} {Q : AV → AH → Prop} (h : w27 (Den.of T) Q x0 H) : ∃ v H', Den.of T 27 [x0] H = some (v, H') ∧ Q v H' :=
  wpF_ok (hT _ ir27 rfl) (by rw [w27_eq] at h; exact h)

-- grille/grilleref18.Right
def w28 (D : Den) (Q : AV → AH → Prop) (x0 : AV) (H : AH) : Prop :=
 sP (aop [] (.box (.cst x0)) H) fun x1 H1 =>
 gP (aFieldAddr 0 x1) fun x3 =>
 gP (aLoad none x3 H1) fun x4 =>
 gP (aBin .geq x4 (.int .i64 0)) fun x5 =>
 dP x5 true
 ( gP (aFieldAddr 1 x1) fun x7 =>
 gP (aLoad none x7 H1) fun x8 =>
 gP (aBin .geq x8 (.int .i64 0)) fun x9 =>
 dP x9 true
 ( gP (aFieldAddr 2 x1) fun x12 =>
 gP (aLoad none x12 H1) fun x13 =>
 gP (aBin .geq x13 (.int .i64 0)) fun x14 =>
 dP x14 true
 ( gP (aFieldAddr 3 x1) fun x17 =>
 gP (aLoad none x17 H1) fun x18 =>
 gP (aBin .geq x18 (.int .i64 0)) fun x19 =>
 dP x19 true
 ( gP (aFieldAddr 4 x1) fun x22 =>
 gP (aLoad none x22 H1) fun x23 =>
 gP (aBin .geq x23 (.int .i64 0)) fun x24 =>
 dP x24 true
 ( gP (aFieldAddr 0 x1) fun x27 =>
 gP (aLoad none x27 H1) fun x28 =>
 gP (aBin .leq x28 (.int .i64 20000)) fun x29 =>
 dP x29 true
 ( gP (aFieldAddr 1 x1) fun x32 =>
 gP (aLoad none x32 H1) fun x33 =>
 gP (aBin .leq x33 (.int .i64 20000)) fun x34 =>
 dP x34 true
 ( gP (aFieldAddr 3 x1) fun x37 =>
 gP (aLoad none x37 H1) fun x38 =>
 gP (aBin .leq x38 (.int .i64 2000)) fun x39 =>
 dP x39 true
 ( gP (aFieldAddr 4 x1) fun x42 =>
 gP (aLoad none x42 H1) fun x43 =>
 gP (aBin .leq x43 (.int .i64 40)) fun x44 =>
 Q x44 H1)
 ( Q (.bool false) H1))
 ( Q (.bool false) H1))
 ( Q (.bool false) H1))
 ( Q (.bool false) H1))
 ( Q (.bool false) H1))
 ( Q (.bool false) H1))
 ( Q (.bool false) H1))
 ( Q (.bool false) H1)
theorem w28_eq : w28 = fun D Q x0 H => wpF D ir28 [x0] H Q := by kernel_rfl
theorem w28_ok (hT : Has T) {x0 : AV} {H : AH} {Q : AV → AH → Prop} (h : w28 (Den.of T) Q x0 H) : ∃ v H', Den.of T 28 [x0] H = some (v, H') ∧ Q v H' :=
  wpF_ok (hT _ ir28 rfl) (by rw [w28_eq] at h; exact h)

-- grille/budget.Least
def w29 (D : Den) (Q : AV → AH → Prop) (x0 x1 : AV) (H : AH) : Prop :=
 sP (aop [] (.box (.cst x0)) H) fun x2 H1 =>
 sP (aop [] (.box (.cst x1)) H1) fun x3 H2 =>
 aP [(.int .i64 0), (.int .i64 0), (.int .i64 0), (.int .i64 0), (.int .i64 0)] H2 fun x4 H3 =>
 gP (aFieldAddr 0 x2) fun x5 =>
 gP (aLoad none x5 H3) fun x6 =>
 gP (aFieldAddr 0 x3) fun x7 =>
 gP (aLoad none x7 H3) fun x8 =>
 gP (aFold false x6 [x8]) fun x9 =>
 gP (aFieldAddr 1 x2) fun x10 =>
 gP (aLoad none x10 H3) fun x11 =>
 gP (aFieldAddr 1 x3) fun x12 =>
 gP (aLoad none x12 H3) fun x13 =>
 gP (aFold false x11 [x13]) fun x14 =>
 gP (aFieldAddr 2 x2) fun x15 =>
 gP (aLoad none x15 H3) fun x16 =>
 gP (aFieldAddr 2 x3) fun x17 =>
 gP (aLoad none x17 H3) fun x18 =>
 gP (aFold false x16 [x18]) fun x19 =>
 gP (aFieldAddr 3 x2) fun x20 =>
 gP (aLoad none x20 H3) fun x21 =>
 gP (aFieldAddr 3 x3) fun x22 =>
 gP (aLoad none x22 H3) fun x23 =>
 gP (aFold false x21 [x23]) fun x24 =>
 gP (aFieldAddr 4 x2) fun x25 =>
 gP (aLoad none x25 H3) fun x26 =>
 gP (aFieldAddr 4 x3) fun x27 =>
 gP (aLoad none x27 H3) fun x28 =>
 gP (aFold false x26 [x28]) fun x29 =>
 gP ((aBuild [(.int .i64 0), (.int .i64 0), (.int .i64 0), (.int .i64 0), (.int .i64 0)] [(0, 1, x9), (1, 1, x14), (2, 1, x19), (3, 1, x24), (4, 1, x29)]).map .agg) fun x30 =>
 hP (aStore 5 x4 x30 H3) fun H4 =>
 gP (aLoad (some 5) x4 H4) fun r1 =>
 Q r1 H4
theorem w29_eq : w29 = fun D Q x0 x1 H => wpF D ir29 [x0, x1] H Q := by kernel_rfl
theorem w29_ok (hT : Has T) {x0 x1 : AV} {H : AH} {Q : AV → AH → Prop} (h : w29 (Den.of T) Q x0 x1 H) : ∃ v H', Den.of T 29 [x0, x1] H = some (v, H') ∧ Q v H' :=
  wpF_ok (hT _ ir29 rfl) (by rw [w29_eq] at h; exact h)

-- grille/grilleref18.Least
def w30 (D : Den) (Q : AV → AH → Prop) (x0 x1 : AV) (H : AH) : Prop :=
 sP (aop [] (.box (.cst x0)) H) fun x2 H1 =>
 sP (aop [] (.box (.cst x1)) H1) fun x3 H2 =>
 aP [(.int .i64 0), (.int .i64 0), (.int .i64 0), (.int .i64 0), (.int .i64 0)] H2 fun x4 H3 =>
 gP (aFieldAddr 0 x2) fun x5 =>
 gP (aLoad none x5 H3) fun x6 =>
 gP (aFieldAddr 0 x3) fun x7 =>
 gP (aLoad none x7 H3) fun x8 =>
 gP (aFold false x6 [x8]) fun x9 =>
 gP (aFieldAddr 1 x2) fun x10 =>
 gP (aLoad none x10 H3) fun x11 =>
 gP (aFieldAddr 1 x3) fun x12 =>
 gP (aLoad none x12 H3) fun x13 =>
 gP (aFold false x11 [x13]) fun x14 =>
 gP (aFieldAddr 2 x2) fun x15 =>
 gP (aLoad none x15 H3) fun x16 =>
 gP (aFieldAddr 2 x3) fun x17 =>
 gP (aLoad none x17 H3) fun x18 =>
 gP (aFold false x16 [x18]) fun x19 =>
 gP (aFieldAddr 3 x2) fun x20 =>
 gP (aLoad none x20 H3) fun x21 =>
 gP (aFieldAddr 3 x3) fun x22 =>
 gP (aLoad none x22 H3) fun x23 =>
 gP (aFold false x21 [x23]) fun x24 =>
 gP (aFieldAddr 4 x2) fun x25 =>
 gP (aLoad none x25 H3) fun x26 =>
 gP (aFieldAddr 4 x3) fun x27 =>
 gP (aLoad none x27 H3) fun x28 =>
 gP (aFold false x26 [x28]) fun x29 =>
 gP ((aBuild [(.int .i64 0), (.int .i64 0), (.int .i64 0), (.int .i64 0), (.int .i64 0)] [(0, 1, x9), (1, 1, x14), (2, 1, x19), (3, 1, x24), (4, 1, x29)]).map .agg) fun x30 =>
 hP (aStore 5 x4 x30 H3) fun H4 =>
 gP (aLoad (some 5) x4 H4) fun r1 =>
 Q r1 H4
theorem w30_eq : w30 = fun D Q x0 x1 H => wpF D ir30 [x0, x1] H Q := by kernel_rfl
theorem w30_ok (hT : Has T) {x0 x1 : AV} {H : AH} {Q : AV → AH → Prop} (h : w30 (Den.of T) Q x0 x1 H) : ∃ v H', Den.of T 30 [x0, x1] H = some (v, H') ∧ Q v H' :=
  wpF_ok (hT _ ir30 rfl) (by rw [w30_eq] at h; exact h)

-- grille/budget.Input
def w31 (D : Den) (Q : AV → AH → Prop) (x0 x1 : AV) (H : AH) : Prop :=
 sP (aop [] (.box (.cst x0)) H) fun x2 H1 =>
 sP (aop [] (.box (.cst x1)) H1) fun x3 H2 =>
 gP (aLoad (some 5) x2 H2) fun x5 =>
 sP (aop [] (.mkFn (.func 58) [] [(.cst x3), (.cst x2)]) H2) fun x6 H3 =>
 cP D 57 [x5, x6] H3 fun x7 H4 =>
 Q x7 H4
theorem w31_eq : w31 = fun D Q x0 x1 H => wpF D ir31 [x0, x1] H Q := by kernel_rfl
theorem w31_ok (hT : Has T) {x0 x1 : AV} {H : AH} {Q : AV → AH → Prop} (h : w31 (Den.of T) Q x0 x1 H) : ∃ v H', Den.of T 31 [x0, x1] H = some (v, H') ∧ Q v H' :=
  wpF_ok (hT _ ir31 rfl) (by rw [w31_eq] at h; exact h)

-- grille/grilleref18.Bytes
def w32 (D : Den) (Q : AV → AH → Prop) (x0 x1 x2 : AV) (H : AH) : Prop :=
 sP (aop [] (.box (.cst x0)) H) fun x3 H1 =>
 gP (aLoad (some 5) x3 H1) fun x7 =>
 cP D 28 [x7] H1 fun x8 H2 =>
 gP (aNot x8) fun x9 =>
 iP x9
 ( Q (.int .i64 2) H2)
 ( gP (aBin .gtr x1 x2) fun x12 =>
 iP x12
 ( Q (.int .i64 16) H2)
 ( Q (.int .i64 0) H2))
theorem w32_eq : w32 = fun D Q x0 x1 x2 H => wpF D ir32 [x0, x1, x2] H Q := by kernel_rfl
theorem w32_ok (hT : Has T) {x0 x1 x2 : AV} {H : AH} {Q : AV → AH → Prop} (h : w32 (Den.of T) Q x0 x1 x2 H) : ∃ v H', Den.of T 32 [x0, x1, x2] H = some (v, H') ∧ Q v H' :=
  wpF_ok (hT _ ir32 rfl) (by rw [w32_eq] at h; exact h)

-- grille/budget.Output
def w33 (D : Den) (Q : AV → AH → Prop) (x0 x1 : AV) (H : AH) : Prop :=
 sP (aop [] (.box (.cst x0)) H) fun x2 H1 =>
 sP (aop [] (.box (.cst x1)) H1) fun x3 H2 =>
 gP (aLoad (some 5) x2 H2) fun x5 =>
 sP (aop [] (.mkFn (.func 59) [] [(.cst x3), (.cst x2)]) H2) fun x6 H3 =>
 cP D 57 [x5, x6] H3 fun x7 H4 =>
 Q x7 H4
theorem w33_eq : w33 = fun D Q x0 x1 H => wpF D ir33 [x0, x1] H Q := by kernel_rfl
theorem w33_ok (hT : Has T) {x0 x1 : AV} {H : AH} {Q : AV → AH → Prop} (h : w33 (Den.of T) Q x0 x1 H) : ∃ v H', Den.of T 33 [x0, x1] H = some (v, H') ∧ Q v H' :=
  wpF_ok (hT _ ir33 rfl) (by rw [w33_eq] at h; exact h)

-- grille/budget.Default
def w34 (D : Den) (Q : AV → AH → Prop) (H : AH) : Prop :=
 aP [(.int .i64 0), (.int .i64 0), (.int .i64 0), (.int .i64 0), (.int .i64 0)] H fun x0 H1 =>
 gP ((aBuild [(.int .i64 0), (.int .i64 0), (.int .i64 0), (.int .i64 0), (.int .i64 0)] [(0, 1, (.int .i64 20000)), (1, 1, (.int .i64 20000)), (2, 1, (.int .i64 10)), (3, 1, (.int .i64 2000)), (4, 1, (.int .i64 40))]).map .agg) fun x1 =>
 hP (aStore 5 x0 x1 H1) fun H2 =>
 gP (aLoad (some 5) x0 H2) fun r1 =>
 Q r1 H2
theorem w34_eq : w34 = fun D Q H => wpF D ir34 [] H Q := by kernel_rfl
theorem w34_ok (hT : Has T) {H : AH} {Q : AV → AH → Prop} (h : w34 (Den.of T) Q H) : ∃ v H', Den.of T 34 [] H = some (v, H') ∧ Q v H' :=
  wpF_ok (hT _ ir34 rfl) (by rw [w34_eq] at h; exact h)

-- grille/grilleref18.Default
def w35 (D : Den) (Q : AV → AH → Prop) (H : AH) : Prop :=
 aP [(.int .i64 0), (.int .i64 0), (.int .i64 0), (.int .i64 0), (.int .i64 0)] H fun x0 H1 =>
 gP ((aBuild [(.int .i64 0), (.int .i64 0), (.int .i64 0), (.int .i64 0), (.int .i64 0)] [(0, 1, (.int .i64 20000)), (1, 1, (.int .i64 20000)), (2, 1, (.int .i64 10)), (3, 1, (.int .i64 2000)), (4, 1, (.int .i64 40))]).map .agg) fun x1 =>
 hP (aStore 5 x0 x1 H1) fun H2 =>
 gP (aLoad (some 5) x0 H2) fun r1 =>
 Q r1 H2
theorem w35_eq : w35 = fun D Q H => wpF D ir35 [] H Q := by kernel_rfl
theorem w35_ok (hT : Has T) {H : AH} {Q : AV → AH → Prop} (h : w35 (Den.of T) Q H) : ∃ v H', Den.of T 35 [] H = some (v, H') ∧ Q v H' :=
  wpF_ok (hT _ ir35 rfl) (by rw [w35_eq] at h; exact h)

-- grille/grillelaw10.Heavy
def w36 (D : Den) (Q : AV → AH → Prop) (x0 : AV) (H : AH) : Prop :=
 gP (aLen .row x0 H) fun x6 =>
 lP 1 (fun s1 x7 H1 =>
 gP (aBin .lss x7 x6) fun x8 =>
 iP x8
 ( gP (aIdxAddr 1 x0 x7) fun x9 =>
 gP (aLoad none x9 H1) fun x10 =>
 cP D 12 [x10] H1 fun x12 H2 =>
 iP x12
 ( Q (.bool true) H2)
 ( gP (aBin .add x7 (.int .i64 1)) fun x13 =>
 s1 x13 H2))
 ( gP (aLen .row x0 H1) fun x15 =>
 gP (aBin .gtr x15 (.int .i64 5)) fun x16 =>
 Q x16 H1)) [(.int .i64 0)] H
theorem w36_eq : w36 = fun D Q x0 H => wpF D ir36 [x0] H Q := by kernel_rfl
theorem w36_ok (hT : Has T) {x0 : AV} {H : AH} {Q : AV → AH → Prop} (h : w36 (Den.of T) Q x0 H) : ∃ v H', Den.of T 36 [x0] H = some (v, H') ∧ Q v H' :=
  wpF_ok (hT _ ir36 rfl) (by rw [w36_eq] at h; exact h)

-- grille/grillelaw10.Theirs
def w37 (D : Den) (Q : AV → AH → Prop) (x0 : AV) (H : AH) : Prop :=
 gP (aLen .row x0 H) fun x7 =>
 lP 2 (fun s1 x3 x8 H1 =>
 gP (aBin .lss x8 x7) fun x9 =>
 iP x9
 ( gP (aIdxAddr 1 x0 x8) fun x10 =>
 gP (aLoad none x10 H1) fun x11 =>
 cP D 14 [x11] H1 fun x14 H2 =>
 sP (aLit .ro 1 [x14] H2) fun x15 H3 =>
 sP (aAppend .tok 1 24 x3 x15 H3) fun x16 H4 =>
 gP (aBin .add x8 (.int .i64 1)) fun x17 =>
 s1 x16 x17 H4)
 ( Q x3 H1)) [.nils, (.int .i64 0)] H
theorem w37_eq : w37 = fun D Q x0 H => wpF D ir37 [x0] H Q := by kernel_rfl
theorem w37_ok (hT : Has T) {x0 : AV} {H : AH} {Q : AV → AH → Prop} (h : w37 (Den.of T) Q x0 H) : ∃ v H', Den.of T 37 [x0] H = some (v, H') ∧ Q v H' :=
  wpF_ok (hT _ ir37 rfl) (by rw [w37_eq] at h; exact h)

-- grille/grillelaw18.BudgetLeast$1
def w38 (D : Den) (Q : AV → AH → Prop) (x0 x1 x2 : AV) (H : AH) : Prop :=
 sP (aop [] (.box (.cst x0)) H) fun x3 H1 =>
 aP [(.bool false), (.bool false), (.bool false)] H1 fun x4 H2 =>
 gP (aLoad (some 5) x3 H2) fun x5 =>
 gP (aLoad none x1 H2) fun x6 =>
 cP D 31 [x5, x6] H2 fun x7 H3 =>
 gP (aBin .eql x7 (.int .i64 0)) fun x8 =>
 gP (aLoad (some 5) x3 H3) fun x9 =>
 gP (aLoad none x1 H3) fun x10 =>
 cP D 33 [x9, x10] H3 fun x11 H4 =>
 gP (aBin .eql x11 (.int .i64 0)) fun x12 =>
 gP (aLoad (some 5) x3 H4) fun x13 =>
 gP (aLoad none x2 H4) fun x14 =>
 cP D 39 [x13, x14] H4 fun x15 H5 =>
 gP (aBin .eql x15 (.int .i64 0)) fun x16 =>
 gP ((aBuild [(.bool false), (.bool false), (.bool false)] [(0, 1, x8), (1, 1, x12), (2, 1, x16)]).map .agg) fun x17 =>
 hP (aStore 3 x4 x17 H5) fun H6 =>
 (sameR (.load (some 5) (.cst x3)) H3 H2) ∧
 (sameR (.load none (.cst x1)) H3 H2) ∧
 (sameR (.load (some 5) (.cst x3)) H3 H2) ∧
 (sameR (.load none (.cst x2)) H3 H2) ∧
 (sameR (.load (some 5) (.cst x3)) H4 H3) ∧
 (sameR (.load none (.cst x2)) H4 H3) ∧
 gP (aLoad (some 3) x4 H6) fun r1 =>
 Q r1 H6
theorem w38_eq : w38 = fun D Q x0 x1 x2 H => wpF D ir38 [x0, x1, x2] H Q := by kernel_rfl
theorem w38_ok (hT : Has T) {x0 x1 x2 : AV} {H : AH} {Q : AV → AH → Prop} (h : w38 (Den.of T) Q x0 x1 x2 H) : ∃ v H', Den.of T 38 [x0, x1, x2] H = some (v, H') ∧ Q v H' :=
  wpF_ok (hT _ ir38 rfl) (by rw [w38_eq] at h; exact h)

-- grille/budget.Graphs
def w39 (D : Den) (Q : AV → AH → Prop) (x0 x1 : AV) (H : AH) : Prop :=
 sP (aop [] (.box (.cst x0)) H) fun x2 H1 =>
 sP (aop [] (.box (.cst x1)) H1) fun x3 H2 =>
 jP 1 (fun x12 H3 =>
 iP x12
 ( Q (.int .i64 5) H3)
 ( gP (aLoad (some 5) x2 H3) fun x13 =>
 sP (aop [] (.mkFn (.func 62) [] [(.cst x3), (.cst x2)]) H3) fun x14 H4 =>
 cP D 57 [x13, x14] H4 fun x15 H5 =>
 Q x15 H5)) fun j1 =>
 gP (aLoad (some 5) x2 H2) fun x6 =>
 cP D 27 [x6] H2 fun x7 H6 =>
 dP x7 true
 ( gP (aLoad none x3 H6) fun x9 =>
 cP D 61 [x9, (.fn (.func 60) [] [])] H6 fun x11 H7 =>
 j1 x11 H7)
 ( j1 (.bool false) H6)
theorem w39_eq : w39 = fun D Q x0 x1 H => wpF D ir39 [x0, x1] H Q := by kernel_rfl
theorem w39_ok (hT : Has T) {x0 x1 : AV} {H : AH} {Q : AV → AH → Prop} (h : w39 (Den.of T) Q x0 x1 H) : ∃ v H', Den.of T 39 [x0, x1] H = some (v, H') ∧ Q v H' :=
  wpF_ok (hT _ ir39 rfl) (by rw [w39_eq] at h; exact h)

-- grille/grillelaw18.within
def w40 (D : Den) (Q : AV → AH → Prop) (x0 x1 : AV) (H : AH) : Prop :=
 sP (aop [] (.box (.cst x0)) H) fun x2 H1 =>
 sP (aop [] (.box (.cst x1)) H1) fun x3 H2 =>
 gP (aLoad (some 5) x2 H2) fun x5 =>
 gP (aLoad (some 5) x3 H2) fun x6 =>
 cP D 29 [x5, x6] H2 fun x7 H3 =>
 gP (aLoad (some 5) x2 H3) fun x8 =>
 sP (aop [] (.eqAgg [.int, .int, .int, .int, .int] false (.cst x7) (.cst x8)) H3) fun x9 H4 =>
 (sameR (.load (some 5) (.cst x2)) H3 H2) ∧
 Q x9 H4
theorem w40_eq : w40 = fun D Q x0 x1 H => wpF D ir40 [x0, x1] H Q := by kernel_rfl
theorem w40_ok (hT : Has T) {x0 x1 : AV} {H : AH} {Q : AV → AH → Prop} (h : w40 (Den.of T) Q x0 x1 H) : ∃ v H', Den.of T 40 [x0, x1] H = some (v, H') ∧ Q v H' :=
  wpF_ok (hT _ ir40 rfl) (by rw [w40_eq] at h; exact h)

-- grille/budget.Use
def w41 (D : Den) (Q : AV → AH → Prop) (x0 : AV) (H : AH) : Prop :=
 aP [(.int .i64 0), (.int .i64 0), (.int .i64 0), (.int .i64 0), (.int .i64 0)] H fun x2 H1 =>
 gP (aLen .row x0 H1) fun x7 =>
 gP ((aBuild [(.int .i64 0), (.int .i64 0), (.int .i64 0), (.int .i64 0), (.int .i64 0)] [(2, 1, x7)]).map .agg) fun x8 =>
 aP [(.int .i64 0), (.int .i64 0), (.int .i64 0), (.int .i64 0), (.int .i64 0)] H1 fun x3 H2 =>
 hP (aStore 5 x3 x8 H2) fun H3 =>
 gP (aLen .row x0 H3) fun x10 =>
 lP 1 (fun s1 x11 H4 =>
 gP (aBin .lss x11 x10) fun x12 =>
 iP x12
 ( gP (aIdxAddr 1 x0 x11) fun x13 =>
 gP (aLoad none x13 H4) fun x14 =>
 gP (aFieldAddr 3 x3) fun x15 =>
 gP (aLoad none x15 H4) fun x16 =>
 cP D 44 [x14] H4 fun x18 H5 =>
 gP (aLen .row x18 H5) fun x19 =>
 gP (aBin .add x16 x19) fun x20 =>
 gP (aFieldAddr 3 x3) fun x21 =>
 hP (aStore 1 x21 x20 H5) fun H6 =>
 (sameR (.load none (.cst x15)) H5 H4) ∧
 gP (aFieldAddr 4 x3) fun x22 =>
 gP (aLoad none x22 H6) fun x23 =>
 cP D 19 [x14] H6 fun x25 H7 =>
 gP (aFold true x23 [x25]) fun x26 =>
 gP (aFieldAddr 4 x3) fun x27 =>
 hP (aStore 1 x27 x26 H7) fun H8 =>
 (sameR (.load none (.cst x22)) H7 H6) ∧
 gP (aBin .add x11 (.int .i64 1)) fun x28 =>
 s1 x28 H8)
 ( gP (aLoad (some 5) x3 H4) fun x29 =>
 hP (aStore 5 x2 x29 H4) fun H9 =>
 gP (aLoad (some 5) x2 H9) fun r2 =>
 Q r2 H9)) [(.int .i64 0)] H3
theorem w41_eq : w41 = fun D Q x0 H => wpF D ir41 [x0] H Q := by kernel_rfl
theorem w41_ok (hT : Has T) {x0 : AV} {H : AH} {Q : AV → AH → Prop} (h : w41 (Den.of T) Q x0 H) : ∃ v H', Den.of T 41 [x0] H = some (v, H') ∧ Q v H' :=
  wpF_ok (hT _ ir41 rfl) (by rw [w41_eq] at h; exact h)

-- grille/flatten.tell
def w42 (D : Den) (Q : AV → AH → Prop) (x0 : AV) (H : AH) : Prop :=
 cP D 16 [x0] H fun x8 H1 =>
 gP (aLen .row x8 H1) fun x11 =>
 sP (aop [] (.make .ref 1 16 [(.str [])] (.cst x11) (.cst x11)) H1) fun x12 H2 =>
 gP ((aBuild [.nils, .nils, .nils, (.int .i64 0), (.int .i64 0), (.int .i64 0)] [(0, 1, x8), (2, 1, x12)]).map .agg) fun x13 =>
 sP (aop [] (.box (.cst x13)) H2) fun x14 H3 =>
 cP D 63 [x8] H3 fun x16 H4 =>
 gP (aLen .row x16 H4) fun x17 =>
 lP 2 (fun s1 x4 x18 H5 =>
 gP (aBin .lss x18 x17) fun x19 =>
 iP x19
 ( jP 1 (fun x4_1 H6 =>
 gP (aBin .add x18 (.int .i64 1)) fun x40 =>
 s1 x4_1 x40 H6) fun j2 =>
 gP (aIdxAddr 1 x16 x18) fun x21 =>
 gP (aLoad none x21 H5) fun x22 =>
 jP 1 (fun x6 H7 =>
 gP (aBin .gtr x6 (.int .i64 1)) fun x28 =>
 iP x28
 ( gP (aBin .add x4 (.int .i64 1)) fun x30 =>
 gP (aNilck x14) fun x32 =>
 gP (aFieldAddr 2 x32) fun x33 =>
 gP (aLoad none x33 H7) fun x34 =>
 cP D 64 [x30] H7 fun x37 H8 =>
 gP (aBin .add (.str [97]) x37) fun x38 =>
 gP (aIdxAddr 1 x34 x18) fun x39 =>
 hP (aStore 1 x39 x38 H8) fun H9 =>
 (sameR (.load none (.cst x33)) H8 H7) ∧
 j2 x30 H9)
 ( j2 x4 H7)) fun j3 =>
 gP (aBin .eql x18 (.int .i64 0)) fun x24 =>
 iP x24
 ( gP (aBin .add x22 (.int .i64 1)) fun x26 =>
 j3 x26 H5)
 ( j3 x22 H5))
 ( cP D 65 [x14, (.int .i64 0)] H5 fun x42 H10 =>
 Q x14 H10)) [(.int .i64 0), (.int .i64 0)] H4
theorem w42_eq : w42 = fun D Q x0 H => wpF D ir42 [x0] H Q := by kernel_rfl
theorem w42_ok (hT : Has T) {x0 : AV} {H : AH} {Q : AV → AH → Prop} (h : w42 (Den.of T) Q x0 H) : ∃ v H', Den.of T 42 [x0] H = some (v, H') ∧ Q v H' :=
  wpF_ok (hT _ ir42 rfl) (by rw [w42_eq] at h; exact h)

-- slices.Clone[[]int,int]
def w43 (D : Den) (Q : AV → AH → Prop) (x0 : AV) (H : AH) : Prop :=
 gP (aEqv .slice false x0 .nils) fun x4 =>
 iP x4
 ( Q .nils H)
 ( sP (aLit .tok 1 [] H) fun x5 H1 =>
 sP (aAppend .tok 1 8 x5 x0 H1) fun x7 H2 =>
 Q x7 H2)
theorem w43_eq : w43 = fun D Q x0 H => wpF D ir43 [x0] H Q := by kernel_rfl
theorem w43_ok (hT : Has T) {x0 : AV} {H : AH} {Q : AV → AH → Prop} (h : w43 (Den.of T) Q x0 H) : ∃ v H', Den.of T 43 [x0] H = some (v, H') ∧ Q v H' :=
  wpF_ok (hT _ ir43 rfl) (by rw [w43_eq] at h; exact h)

-- slices.Clone[[]int,int]
def w43v1 (D : Den) (Q : AV → AH → Prop) (x0 : AV) (H : AH) : Prop :=
 gP (aEqv .slice false x0 .nils) fun x4 =>
 iP x4
 ( Q .nils H)
 ( sP (aLit .ref 1 [] H) fun x5 H1 =>
 sP (aAppend .ref 1 8 x5 x0 H1) fun x7 H2 =>
 Q x7 H2)
theorem w43v1_eq : w43v1 = fun D Q x0 H => wpF D ir43v1 [x0] H Q := by kernel_rfl
theorem w43v1_ok (hT : Has T) {x0 : AV} {H : AH} {Q : AV → AH → Prop} (h : w43v1 (Den.of T) Q x0 H) : ∃ v H', Den.of T 100043 [x0] H = some (v, H') ∧ Q v H' :=
  wpF_ok (hT _ ir43v1 rfl) (by rw [w43v1_eq] at h; exact h)

-- grille/arena.Order
def w44 (D : Den) (Q : AV → AH → Prop) (x0 : AV) (H : AH) : Prop :=
 sP (aop [] (.box (.cst x0)) H) fun x1 H1 =>
 aP [.nils] H1 fun x2 H2 =>
 gP (aLoad none x1 H2) fun x5 =>
 cP D 20 [x5] H2 fun x6 H3 =>
 gP (aNot x6) fun x7 =>
 iP x7
 ( hP (aStore 1 x2 .nils H3) fun H4 =>
 gP (aLoad none x2 H4) fun r1 =>
 Q r1 H4)
 ( gP (aLoad none x1 H3) fun x8 =>
 gP (aLen .row x8 H3) fun x9 =>
 sP (aop [] (.make .ref 1 8 [(.int .i64 0)] (.cst x9) (.cst x9)) H3) fun x10 H5 =>
 aP [.nils] H5 fun x3 H6 =>
 hP (aStore 1 x3 x10 H6) fun H7 =>
 aP [.nilf] H7 fun x4 H8 =>
 sP (aop [] (.mkFn (.func 66) [] [(.cst x3), (.cst x2), (.cst x1), (.cst x4)]) H8) fun x11 H9 =>
 hP (aStore 1 x4 x11 H9) fun H10 =>
 gP (aLoad none x4 H10) fun x12 =>
 vP D 0 x12 [(.int .i64 0)] H10 fun x13 H11 =>
 gP (aLoad none x2 H11) fun x14 =>
 hP (aStore 1 x2 x14 H11) fun H12 =>
 gP (aLoad none x2 H12) fun r2 =>
 Q r2 H12)
theorem w44_eq : w44 = fun D Q x0 H => wpF D ir44 [x0] H Q := by kernel_rfl
theorem w44_ok (hT : Has T) {x0 : AV} {H : AH} {Q : AV → AH → Prop} (h : w44 (Den.of T) Q x0 H) : ∃ v H', Den.of T 44 [x0] H = some (v, H') ∧ Q v H' :=
  wpF_ok (hT _ ir44 rfl) (by rw [w44_eq] at h; exact h)

-- (grille/event.Event).node
def w45 (D : Den) (Q : AV → AH → Prop) (x0 : AV) (H : AH) : Prop :=
 sP (aop [] (.box (.cst x0)) H) fun x1 H1 =>
 gP (aFieldAddr 0 x1) fun x3 =>
 gP (aLoad none x3 H1) fun x4 =>
 gP (aBin .eql x4 (.int .i64 2)) fun x5 =>
 dP x5 false
 ( gP (aFieldAddr 0 x1) fun x7 =>
 gP (aLoad none x7 H1) fun x8 =>
 gP (aBin .eql x8 (.int .i64 4)) fun x9 =>
 dP x9 false
 ( gP (aFieldAddr 0 x1) fun x12 =>
 gP (aLoad none x12 H1) fun x13 =>
 gP (aBin .eql x13 (.int .i64 6)) fun x14 =>
 Q x14 H1)
 ( Q (.bool true) H1))
 ( Q (.bool true) H1)
theorem w45_eq : w45 = fun D Q x0 H => wpF D ir45 [x0] H Q := by kernel_rfl
theorem w45_ok (hT : Has T) {x0 : AV} {H : AH} {Q : AV → AH → Prop} (h : w45 (Den.of T) Q x0 H) : ∃ v H', Den.of T 45 [x0] H = some (v, H') ∧ Q v H' :=
  wpF_ok (hT _ ir45 rfl) (by rw [w45_eq] at h; exact h)

-- grille/arena.Right$1
def w46 (D : Den) (Q : AV → AH → Prop) (x0 x1 : AV) (H : AH) : Prop :=
 sP (aop [] (.box (.cst x0)) H) fun x2 H1 =>
 gP (aLoad none x1 H1) fun x4 =>
 gP (aLoad (some 4) x2 H1) fun x5 =>
 cP D 47 [x4, x5] H1 fun x6 H2 =>
 gP (aNot x6) fun x7 =>
 Q x7 H2
theorem w46_eq : w46 = fun D Q x0 x1 H => wpF D ir46 [x0, x1] H Q := by kernel_rfl
theorem w46_ok (hT : Has T) {x0 x1 : AV} {H : AH} {Q : AV → AH → Prop} (h : w46 (Den.of T) Q x0 x1 H) : ∃ v H', Den.of T 46 [x0, x1] H = some (v, H') ∧ Q v H' :=
  wpF_ok (hT _ ir46 rfl) (by rw [w46_eq] at h; exact h)

-- (grille/arena.Graph).right
def w47 (D : Den) (Q : AV → AH → Prop) (x0 x1 : AV) (H : AH) : Prop :=
 sP (aop [] (.box (.cst x0)) H) fun x2 H1 =>
 sP (aop [] (.box (.cst x1)) H1) fun x3 H2 =>
 sP (aop [] (.mkFn (.func 67) [] [(.cst x2)]) H2) fun x8 H3 =>
 gP (aFieldAddr 3 x3) fun x9 =>
 gP (aLoad none x9 H3) fun x10 =>
 cP D 69 [x10, x8] H3 fun x12 H4 =>
 iP x12
 ( Q (.bool false) H4)
 ( gP (aFieldAddr 0 x3) fun x13 =>
 gP (aLoad none x13 H4) fun x14 =>
 gP (aBin .eql x14 (.int .i64 0)) fun x15 =>
 iP x15
 ( gP (aFieldAddr 3 x3) fun x16 =>
 gP (aLoad none x16 H4) fun x17 =>
 gP (aLen .row x17 H4) fun x18 =>
 gP (aBin .eql x18 (.int .i64 0)) fun x19 =>
 dP x19 true
 ( gP (aFieldAddr 2 x3) fun x21 =>
 gP (aLoad none x21 H4) fun x22 =>
 cP D 70 [x22] H4 fun x23 H5 =>
 dP x23 true
 ( gP (aFieldAddr 1 x3) fun x26 =>
 gP (aLoad none x26 H5) fun x27 =>
 gP (aFieldAddr 2 x3) fun x28 =>
 gP (aLoad none x28 H5) fun x29 =>
 cP D 54 [x27, x29] H5 fun x30 H6 =>
 Q x30 H6)
 ( Q (.bool false) H5))
 ( Q (.bool false) H4))
 ( jP 1 (fun x6 H7 =>
 jP 1 (fun x6_1 H8 =>
 dP x6_1 true
 ( gP (aFieldAddr 2 x3) fun x73 =>
 gP (aLoad none x73 H8) fun x74 =>
 gP (aBin .eql x74 (.str [])) fun x75 =>
 Q x75 H8)
 ( Q (.bool false) H8)) fun j1 =>
 gP (aFieldAddr 0 x3) fun x41 =>
 gP (aLoad none x41 H7) fun x42 =>
 gP (aBin .eql x42 (.int .i64 1)) fun x44 =>
 iP x44
 ( dP x6 false
 ( gP (aFieldAddr 1 x3) fun x47 =>
 gP (aLoad none x47 H7) fun x48 =>
 gP (aBin .eql x48 (.str [115, 101, 113])) fun x49 =>
 j1 x49 H7)
 ( j1 (.bool true) H7))
 ( gP (aBin .eql x42 (.int .i64 2)) fun x52 =>
 iP x52
 ( sP (aop [] (.mkFn (.func 73) [] [(.cst x2)]) H7) fun x53 H9 =>
 jP 1 (fun x64 H10 =>
 iP x64
 ( Q (.bool false) H10)
 ( dP x6 false
 ( gP (aFieldAddr 1 x3) fun x67 =>
 gP (aLoad none x67 H10) fun x68 =>
 gP (aBin .eql x68 (.str [109, 97, 112])) fun x69 =>
 j1 x69 H10)
 ( j1 (.bool true) H10))) fun j2 =>
 gP (aFieldAddr 3 x3) fun x54 =>
 gP (aLoad none x54 H9) fun x55 =>
 gP (aLen .row x55 H9) fun x56 =>
 gP (aBin .rem x56 (.int .i64 2)) fun x57 =>
 gP (aBin .neq x57 (.int .i64 0)) fun x58 =>
 dP x58 false
 ( gP (aLoad (some 4) x3 H9) fun x60 =>
 cP D 74 [x60] H9 fun x61 H11 =>
 cP D 69 [x61, x53] H11 fun x63 H12 =>
 j2 x63 H12)
 ( j2 (.bool true) H9))
 ( Q (.bool false) H7))) fun j3 =>
 gP (aFieldAddr 1 x3) fun x32 =>
 gP (aLoad none x32 H4) fun x33 =>
 cP D 71 [x33] H4 fun x34 H13 =>
 dP x34 true
 ( gP (aFieldAddr 1 x3) fun x36 =>
 gP (aLoad none x36 H13) fun x37 =>
 cP D 72 [x37] H13 fun x38 H14 =>
 gP (aNot x38) fun x39 =>
 j3 x39 H14)
 ( j3 (.bool false) H13)))
theorem w47_eq : w47 = fun D Q x0 x1 H => wpF D ir47 [x0, x1] H Q := by kernel_rfl
theorem w47_ok (hT : Has T) {x0 x1 : AV} {H : AH} {Q : AV → AH → Prop} (h : w47 (Den.of T) Q x0 x1 H) : ∃ v H', Den.of T 47 [x0, x1] H = some (v, H') ∧ Q v H' :=
  wpF_ok (hT _ ir47 rfl) (by rw [w47_eq] at h; exact h)

-- slices.ContainsFunc[grille/arena.Graph,grille/arena.Node]
def w48 (D : Den) (Q : AV → AH → Prop) (x0 x1 : AV) (H : AH) : Prop :=
 cP D 75 [x0, x1] H fun x7 H1 =>
 gP (aBin .geq x7 (.int .i64 0)) fun x8 =>
 Q x8 H1
theorem w48_eq : w48 = fun D Q x0 x1 H => wpF D ir48 [x0, x1] H Q := by kernel_rfl
theorem w48_ok (hT : Has T) {x0 x1 : AV} {H : AH} {Q : AV → AH → Prop} (h : w48 (Den.of T) Q x0 x1 H) : ∃ v H', Den.of T 48 [x0, x1] H = some (v, H') ∧ Q v H' :=
  wpF_ok (hT _ ir48 rfl) (by rw [w48_eq] at h; exact h)

-- grille/arena.Twice
def w49 (D : Den) (Q : AV → AH → Prop) (x0 : AV) (H : AH) : Prop :=
 gP (aLen .row x0 H) fun x11 =>
 lP 1 (fun s1 x12 H1 =>
 gP (aBin .lss x12 x11) fun x13 =>
 iP x13
 ( jP 0 (fun H2 =>
 gP (aBin .add x12 (.int .i64 1)) fun x66 =>
 s1 x66 H2) fun j2 =>
 gP (aIdxAddr 4 x0 x12) fun x14 =>
 gP (aLoad (some 4) x14 H1) fun x15 =>
 aP [(.int .i64 0), (.str []), (.str []), .nils] H1 fun x4 H3 =>
 hP (aStore 4 x4 x15 H3) fun H4 =>
 gP (aFieldAddr 0 x4) fun x16 =>
 gP (aLoad none x16 H4) fun x17 =>
 gP (aBin .neq x17 (.int .i64 2)) fun x18 =>
 iP x18
 ( j2 H4)
 ( sP (aop [] (.mkMap) H4) fun x19 H5 =>
 sP (aop [] (.mkMap) H5) fun x20 H6 =>
 gP (aLoad (some 4) x4 H6) fun x21 =>
 cP D 74 [x21] H6 fun x22 H7 =>
 gP (aLen .row x22 H7) fun x23 =>
 lP 1 (fun s3 x24 H8 =>
 gP (aBin .lss x24 x23) fun x25 =>
 iP x25
 ( jP 0 (fun H9 =>
 gP (aBin .add x24 (.int .i64 1)) fun x65 =>
 s3 x65 H9) fun j4 =>
 gP (aIdxAddr 1 x22 x24) fun x26 =>
 gP (aLoad none x26 H8) fun x27 =>
 cP D 68 [x0, x27] H8 fun x30 H10 =>
 gP (aNot x30) fun x31 =>
 iP x31
 ( j4 H10)
 ( gP (aLook (.scal .int) (.int .i64 0) false x19 x27 H10) fun x34 =>
 gP (aBin .add x34 (.int .i64 1)) fun x35 =>
 sP (aop [] (.mapUpd (.scal .int) (.cst x19) (.cst x27) (.cst x35)) H10) fun _ H11 =>
 gP (aLook (.scal .int) (.int .i64 0) false x19 x27 H11) fun x38 =>
 gP (aBin .gtr x38 (.int .i64 1)) fun x39 =>
 iP x39
 ( Q (.bool true) H11)
 ( gP (aIdxAddr 4 x0 x27) fun x42 =>
 gP (aLoad (some 4) x42 H11) fun x43 =>
 aP [(.int .i64 0), (.str []), (.str []), .nils] H11 fun x9 H12 =>
 hP (aStore 4 x9 x43 H12) fun H13 =>
 gP (aFieldAddr 0 x9) fun x44 =>
 gP (aLoad none x44 H13) fun x45 =>
 gP (aBin .eql x45 (.int .i64 0)) fun x46 =>
 iP x46
 ( gP (aFieldAddr 1 x9) fun x48 =>
 gP (aLoad none x48 H13) fun x49 =>
 gP (aFieldAddr 2 x9) fun x50 =>
 gP (aLoad none x50 H13) fun x51 =>
 gP ((aBuild [(.str []), (.str [])] [(0, 1, x49), (1, 1, x51)]).map .agg) fun x52 =>
 gP (aLook (.struct [.str, .str]) (.int .i64 0) false x20 x52 H13) fun x53 =>
 gP (aBin .add x53 (.int .i64 1)) fun x54 =>
 sP (aop [] (.mapEntry (.struct [.str, .str]) (.int .i64 0) (.cst x20) (.cst x52)) H13) fun x55 H14 =>
 gP (aExtract 1 x55) fun x56 =>
 sP (aop [] (.entrySt (.cst x20) (.cst x56) (.cst x54)) H14) fun _ H15 =>
 (sameR (.lookup (.struct [.str, .str]) (.int .i64 0) false (.cst x20) (.cst x52)) H14 H13) ∧
 gP (aFieldAddr 1 x9) fun x58 =>
 gP (aLoad none x58 H15) fun x59 =>
 gP (aFieldAddr 2 x9) fun x60 =>
 gP (aLoad none x60 H15) fun x61 =>
 gP ((aBuild [(.str []), (.str [])] [(0, 1, x59), (1, 1, x61)]).map .agg) fun x62 =>
 gP (aLook (.struct [.str, .str]) (.int .i64 0) false x20 x62 H15) fun x63 =>
 gP (aBin .gtr x63 (.int .i64 1)) fun x64 =>
 iP x64
 ( Q (.bool true) H15)
 ( j4 H15))
 ( j4 H13))))
 ( j2 H8)) [(.int .i64 0)] H7))
 ( Q (.bool false) H1)) [(.int .i64 0)] H
theorem w49_eq : w49 = fun D Q x0 H => wpF D ir49 [x0] H Q := by kernel_rfl
theorem w49_ok (hT : Has T) {x0 : AV} {H : AH} {Q : AV → AH → Prop} (h : w49 (Den.of T) Q x0 H) : ∃ v H', Den.of T 49 [x0] H = some (v, H') ∧ Q v H' :=
  wpF_ok (hT _ ir49 rfl) (by rw [w49_eq] at h; exact h)

-- grille/flatten.unless
def w50 (D : Den) (Q : AV → AH → Prop) (x0 x1 : AV) (H : AH) : Prop :=
 gP (aBin .eql x0 x1) fun x7 =>
 iP x7
 ( Q (.str []) H)
 ( Q x0 H)
theorem w50_eq : w50 = fun D Q x0 x1 H => wpF D ir50 [x0, x1] H Q := by kernel_rfl
theorem w50_ok (hT : Has T) {x0 x1 : AV} {H : AH} {Q : AV → AH → Prop} (h : w50 (Den.of T) Q x0 x1 H) : ∃ v H', Den.of T 50 [x0, x1] H = some (v, H') ∧ Q v H' :=
  wpF_ok (hT _ ir50 rfl) (by rw [w50_eq] at h; exact h)

-- grille/scalar.Plain
def w51 (D : Den) (Q : AV → AH → Prop) (x0 : AV) (H : AH) : Prop :=
 jP 1 (fun x4 H1 =>
 iP x4
 ( Q (.bool false) H1)
 ( jP 1 (fun x20 H2 =>
 iP x20
 ( Q (.bool false) H2)
 ( jP 1 (fun x34 H3 =>
 iP x34
 ( Q (.bool false) H3)
 ( cP D 82 [x0, (.str [58, 32])] H3 fun x42 H4 =>
 gP (aNot x42) fun x43 =>
 dP x43 true
 ( cP D 82 [x0, (.str [32, 35])] H4 fun x46 H5 =>
 gP (aNot x46) fun x47 =>
 Q x47 H5)
 ( Q (.bool false) H4))) fun j1 =>
 cP D 81 [x0, (.str [32])] H2 fun x36 H6 =>
 dP x36 false
 ( cP D 81 [x0, (.str [58])] H6 fun x39 H7 =>
 j1 x39 H7)
 ( j1 (.bool true) H6))) fun j2 =>
 gP (aIdxStr x0 (.int .i64 0)) fun x22 =>
 cP D 78 [(.str [45, 63, 58, 44, 91, 93, 123, 125, 35, 38, 42, 33, 124, 62, 39, 34, 37, 64, 96, 32]), x22] H1 fun x23 H8 =>
 gP (aBin .geq x23 (.int .i64 0)) fun x24 =>
 dP x24 false
 ( cP D 79 [x0, (.str [9, 10, 13, 44, 91, 93, 123, 125])] H8 fun x27 H9 =>
 dP x27 false
 ( cP D 80 [x0, (.fn (.func 76) [] [])] H9 fun x32 H10 =>
 j2 x32 H10)
 ( j2 (.bool true) H9))
 ( j2 (.bool true) H8))) fun j3 =>
 gP (aBin .eql x0 (.str [])) fun x6 =>
 dP x6 false
 ( gP (aBin .eql x0 (.str [45, 45, 45])) fun x9 =>
 dP x9 false
 ( gP (aBin .eql x0 (.str [46, 46, 46])) fun x13 =>
 dP x13 false
 ( cP D 70 [x0] H fun x17 H11 =>
 gP (aNot x17) fun x18 =>
 j3 x18 H11)
 ( j3 (.bool true) H))
 ( j3 (.bool true) H))
 ( j3 (.bool true) H)
theorem w51_eq : w51 = fun D Q x0 H => wpF D ir51 [x0] H Q := by kernel_rfl
theorem w51_ok (hT : Has T) {x0 : AV} {H : AH} {Q : AV → AH → Prop} (h : w51 (Den.of T) Q x0 H) : ∃ v H', Den.of T 51 [x0] H = some (v, H') ∧ Q v H' :=
  wpF_ok (hT _ ir51 rfl) (by rw [w51_eq] at h; exact h)

-- grille/tag.Resolve
def w52 (D : Den) (Q : AV → AH → Prop) (x0 : AV) (H : AH) : Prop :=
 jP 1 (fun x4 H1 =>
 iP x4
 ( Q (.str [110, 117, 108, 108]) H1)
 ( jP 1 (fun x10 H2 =>
 iP x10
 ( Q (.str [98, 111, 111, 108]) H2)
 ( jP 1 (fun x17 H3 =>
 iP x17
 ( Q (.str [102, 108, 111, 97, 116]) H3)
 ( cP D 83 [x0] H3 fun x22 H4 =>
 jP 1 (fun x23 H5 =>
 iP x23
 ( Q (.str [102, 108, 111, 97, 116]) H5)
 ( cP D 84 [x0] H5 fun x29 H6 =>
 iP x29
 ( Q (.str [105, 110, 116]) H6)
 ( cP D 85 [x0] H6 fun x32 H7 =>
 iP x32
 ( Q (.str [102, 108, 111, 97, 116]) H7)
 ( Q (.str [115, 116, 114]) H7)))) fun j1 =>
 gP (aBin .eql x22 (.str [46, 105, 110, 102])) fun x24 =>
 iP x24
 ( j1 x24 H4)
 ( gP (aBin .eql x22 (.str [46, 73, 110, 102])) fun x25 =>
 iP x25
 ( j1 x25 H4)
 ( gP (aBin .eql x22 (.str [46, 73, 78, 70])) fun x26 =>
 j1 x26 H4)))) fun j2 =>
 gP (aBin .eql x0 (.str [46, 110, 97, 110])) fun x18 =>
 iP x18
 ( j2 x18 H2)
 ( gP (aBin .eql x0 (.str [46, 78, 97, 78])) fun x19 =>
 iP x19
 ( j2 x19 H2)
 ( gP (aBin .eql x0 (.str [46, 78, 65, 78])) fun x20 =>
 j2 x20 H2)))) fun j3 =>
 gP (aBin .eql x0 (.str [116, 114, 117, 101])) fun x11 =>
 iP x11
 ( j3 x11 H1)
 ( gP (aBin .eql x0 (.str [84, 114, 117, 101])) fun x12 =>
 iP x12
 ( j3 x12 H1)
 ( gP (aBin .eql x0 (.str [84, 82, 85, 69])) fun x13 =>
 iP x13
 ( j3 x13 H1)
 ( gP (aBin .eql x0 (.str [102, 97, 108, 115, 101])) fun x14 =>
 iP x14
 ( j3 x14 H1)
 ( gP (aBin .eql x0 (.str [70, 97, 108, 115, 101])) fun x15 =>
 iP x15
 ( j3 x15 H1)
 ( gP (aBin .eql x0 (.str [70, 65, 76, 83, 69])) fun x16 =>
 j3 x16 H1))))))) fun j4 =>
 gP (aBin .eql x0 (.str [])) fun x5 =>
 iP x5
 ( j4 x5 H)
 ( gP (aBin .eql x0 (.str [126])) fun x6 =>
 iP x6
 ( j4 x6 H)
 ( gP (aBin .eql x0 (.str [110, 117, 108, 108])) fun x7 =>
 iP x7
 ( j4 x7 H)
 ( gP (aBin .eql x0 (.str [78, 117, 108, 108])) fun x8 =>
 iP x8
 ( j4 x8 H)
 ( gP (aBin .eql x0 (.str [78, 85, 76, 76])) fun x9 =>
 j4 x9 H))))
theorem w52_eq : w52 = fun D Q x0 H => wpF D ir52 [x0] H Q := by kernel_rfl
theorem w52_ok (hT : Has T) {x0 : AV} {H : AH} {Q : AV → AH → Prop} (h : w52 (Den.of T) Q x0 H) : ∃ v H', Den.of T 52 [x0] H = some (v, H') ∧ Q v H' :=
  wpF_ok (hT _ ir52 rfl) (by rw [w52_eq] at h; exact h)

-- grille/compose.named
def w53 (D : Den) (Q : AV → AH → Prop) (x0 x1 : AV) (H : AH) : Prop :=
 jP 1 (fun x6 H1 =>
 iP x6
 ( Q (.tup [x1, (.int .i64 0)]) H1)
 ( jP 1 (fun x15 H2 =>
 iP x15
 ( Q (.tup [x0, (.int .i64 0)]) H2)
 ( Q (.tup [(.str []), (.int .i64 14)]) H2)) fun j1 =>
 cP D 71 [x0] H1 fun x17 H3 =>
 dP x17 true
 ( cP D 72 [x0] H3 fun x20 H4 =>
 gP (aNot x20) fun x21 =>
 j1 x21 H4)
 ( j1 (.bool false) H3))) fun j2 =>
 gP (aBin .eql x0 (.str [])) fun x8 =>
 dP x8 false
 ( gP (aBin .eql x0 x1) fun x12 =>
 j2 x12 H)
 ( j2 (.bool true) H)
theorem w53_eq : w53 = fun D Q x0 x1 H => wpF D ir53 [x0, x1] H Q := by kernel_rfl
theorem w53_ok (hT : Has T) {x0 x1 : AV} {H : AH} {Q : AV → AH → Prop} (h : w53 (Den.of T) Q x0 x1 H) : ∃ v H', Den.of T 53 [x0, x1] H = some (v, H') ∧ Q v H' :=
  wpF_ok (hT _ ir53 rfl) (by rw [w53_eq] at h; exact h)

-- grille/tag.Fits
def w54 (D : Den) (Q : AV → AH → Prop) (x0 x1 : AV) (H : AH) : Prop :=
 cP D 86 [x0] H fun x7 H1 =>
 gP (aNot x7) fun x8 =>
 iP x8
 ( gP (aBin .eql x0 (.str [115, 116, 114])) fun x10 =>
 dP x10 false
 ( cP D 87 [x0] H1 fun x13 H2 =>
 Q x13 H2)
 ( Q (.bool true) H1))
 ( cP D 52 [x1] H1 fun x16 H3 =>
 gP (aBin .eql x16 x0) fun x19 =>
 dP x19 false
 ( gP (aBin .eql x0 (.str [102, 108, 111, 97, 116])) fun x22 =>
 dP x22 true
 ( gP (aBin .eql x16 (.str [105, 110, 116])) fun x25 =>
 Q x25 H3)
 ( Q (.bool false) H3))
 ( Q (.bool true) H3))
theorem w54_eq : w54 = fun D Q x0 x1 H => wpF D ir54 [x0, x1] H Q := by kernel_rfl
theorem w54_ok (hT : Has T) {x0 x1 : AV} {H : AH} {Q : AV → AH → Prop} (h : w54 (Den.of T) Q x0 x1 H) : ∃ v H', Den.of T 54 [x0, x1] H = some (v, H') ∧ Q v H' :=
  wpF_ok (hT _ ir54 rfl) (by rw [w54_eq] at h; exact h)

-- slices.EqualFunc[grille/arena.Graph,grille/arena.Graph,grille/arena.Node,grille/arena.Node]
def w55 (D : Den) (Q : AV → AH → Prop) (x0 x1 x2 : AV) (H : AH) : Prop :=
 gP (aLen .row x0 H) fun x11 =>
 gP (aLen .row x1 H) fun x13 =>
 gP (aBin .neq x11 x13) fun x14 =>
 iP x14
 ( Q (.bool false) H)
 ( gP (aLen .row x0 H) fun x16 =>
 lP 1 (fun s1 x17 H1 =>
 gP (aBin .lss x17 x16) fun x18 =>
 iP x18
 ( gP (aIdxAddr 4 x0 x17) fun x20 =>
 gP (aLoad (some 4) x20 H1) fun x21 =>
 aP [(.int .i64 0), (.str []), (.str []), .nils] H1 fun x8 H2 =>
 hP (aStore 4 x8 x21 H2) fun H3 =>
 gP (aIdxAddr 4 x1 x17) fun x24 =>
 gP (aLoad (some 4) x24 H3) fun x25 =>
 aP [(.int .i64 0), (.str []), (.str []), .nils] H3 fun x9 H4 =>
 hP (aStore 4 x9 x25 H4) fun H5 =>
 gP (aLoad (some 4) x8 H5) fun x27 =>
 gP (aLoad (some 4) x9 H5) fun x28 =>
 vP D 0 x2 [x27, x28] H5 fun x29 H6 =>
 gP (aNot x29) fun x30 =>
 iP x30
 ( Q (.bool false) H6)
 ( gP (aBin .add x17 (.int .i64 1)) fun x31 =>
 s1 x31 H6))
 ( Q (.bool true) H1)) [(.int .i64 0)] H)
theorem w55_eq : w55 = fun D Q x0 x1 x2 H => wpF D ir55 [x0, x1, x2] H Q := by kernel_rfl
theorem w55_ok (hT : Has T) {x0 x1 x2 : AV} {H : AH} {Q : AV → AH → Prop} (h : w55 (Den.of T) Q x0 x1 x2 H) : ∃ v H', Den.of T 55 [x0, x1, x2] H = some (v, H') ∧ Q v H' :=
  wpF_ok (hT _ ir55 rfl) (by rw [w55_eq] at h; exact h)

-- grille/arena.equal
def w56 (D : Den) (Q : AV → AH → Prop) (x0 x1 : AV) (H : AH) : Prop :=
 sP (aop [] (.box (.cst x0)) H) fun x2 H1 =>
 sP (aop [] (.box (.cst x1)) H1) fun x3 H2 =>
 gP (aFieldAddr 0 x2) fun x5 =>
 gP (aLoad none x5 H2) fun x6 =>
 gP (aFieldAddr 0 x3) fun x7 =>
 gP (aLoad none x7 H2) fun x8 =>
 gP (aBin .eql x6 x8) fun x9 =>
 dP x9 true
 ( gP (aFieldAddr 1 x2) fun x11 =>
 gP (aLoad none x11 H2) fun x12 =>
 gP (aFieldAddr 1 x3) fun x13 =>
 gP (aLoad none x13 H2) fun x14 =>
 gP (aBin .eql x12 x14) fun x15 =>
 dP x15 true
 ( gP (aFieldAddr 2 x2) fun x18 =>
 gP (aLoad none x18 H2) fun x19 =>
 gP (aFieldAddr 2 x3) fun x20 =>
 gP (aLoad none x20 H2) fun x21 =>
 gP (aBin .eql x19 x21) fun x22 =>
 dP x22 true
 ( gP (aFieldAddr 3 x2) fun x25 =>
 gP (aLoad none x25 H2) fun x26 =>
 gP (aFieldAddr 3 x3) fun x27 =>
 gP (aLoad none x27 H2) fun x28 =>
 cP D 88 [x26, x28] H2 fun x29 H3 =>
 Q x29 H3)
 ( Q (.bool false) H2))
 ( Q (.bool false) H2))
 ( Q (.bool false) H2)
theorem w56_eq : w56 = fun D Q x0 x1 H => wpF D ir56 [x0, x1] H Q := by kernel_rfl
theorem w56_ok (hT : Has T) {x0 x1 : AV} {H : AH} {Q : AV → AH → Prop} (h : w56 (Den.of T) Q x0 x1 H) : ∃ v H', Den.of T 56 [x0, x1] H = some (v, H') ∧ Q v H' :=
  wpF_ok (hT _ ir56 rfl) (by rw [w56_eq] at h; exact h)

-- (grille/budget.Limits).keeps
def w57 (D : Den) (Q : AV → AH → Prop) (x0 x1 : AV) (H : AH) : Prop :=
 sP (aop [] (.box (.cst x0)) H) fun x2 H1 =>
 gP (aLoad (some 5) x2 H1) fun x6 =>
 cP D 27 [x6] H1 fun x7 H2 =>
 gP (aNot x7) fun x8 =>
 iP x8
 ( Q (.int .i64 2) H2)
 ( vP D 0 x1 [] H2 fun x11 H3 =>
 gP (aNot x11) fun x12 =>
 iP x12
 ( Q (.int .i64 16) H3)
 ( Q (.int .i64 0) H3))
theorem w57_eq : w57 = fun D Q x0 x1 H => wpF D ir57 [x0, x1] H Q := by kernel_rfl
theorem w57_ok (hT : Has T) {x0 x1 : AV} {H : AH} {Q : AV → AH → Prop} (h : w57 (Den.of T) Q x0 x1 H) : ∃ v H', Den.of T 57 [x0, x1] H = some (v, H') ∧ Q v H' :=
  wpF_ok (hT _ ir57 rfl) (by rw [w57_eq] at h; exact h)

-- grille/budget.Input$1
def w58 (D : Den) (Q : AV → AH → Prop) (x0 x1 : AV) (H : AH) : Prop :=
 gP (aLoad none x0 H) fun x3 =>
 gP (aLen .row x3 H) fun x4 =>
 gP (aFieldAddr 0 x1) fun x5 =>
 gP (aLoad none x5 H) fun x6 =>
 gP (aBin .leq x4 x6) fun x7 =>
 Q x7 H
theorem w58_eq : w58 = fun D Q x0 x1 H => wpF D ir58 [x0, x1] H Q := by kernel_rfl
theorem w58_ok (hT : Has T) {x0 x1 : AV} {H : AH} {Q : AV → AH → Prop} (h : w58 (Den.of T) Q x0 x1 H) : ∃ v H', Den.of T 58 [x0, x1] H = some (v, H') ∧ Q v H' :=
  wpF_ok (hT _ ir58 rfl) (by rw [w58_eq] at h; exact h)

-- grille/budget.Output$1
def w59 (D : Den) (Q : AV → AH → Prop) (x0 x1 : AV) (H : AH) : Prop :=
 gP (aLoad none x0 H) fun x3 =>
 gP (aLen .row x3 H) fun x4 =>
 gP (aFieldAddr 1 x1) fun x5 =>
 gP (aLoad none x5 H) fun x6 =>
 gP (aBin .leq x4 x6) fun x7 =>
 Q x7 H
theorem w59_eq : w59 = fun D Q x0 x1 H => wpF D ir59 [x0, x1] H Q := by kernel_rfl
theorem w59_ok (hT : Has T) {x0 x1 : AV} {H : AH} {Q : AV → AH → Prop} (h : w59 (Den.of T) Q x0 x1 H) : ∃ v H', Den.of T 59 [x0, x1] H = some (v, H') ∧ Q v H' :=
  wpF_ok (hT _ ir59 rfl) (by rw [w59_eq] at h; exact h)

-- grille/budget.Graphs$1
def w60 (D : Den) (Q : AV → AH → Prop) (x0 : AV) (H : AH) : Prop :=
 cP D 20 [x0] H fun x4 H1 =>
 gP (aNot x4) fun x5 =>
 Q x5 H1
theorem w60_eq : w60 = fun D Q x0 H => wpF D ir60 [x0] H Q := by kernel_rfl
theorem w60_ok (hT : Has T) {x0 : AV} {H : AH} {Q : AV → AH → Prop} (h : w60 (Den.of T) Q x0 H) : ∃ v H', Den.of T 60 [x0] H = some (v, H') ∧ Q v H' :=
  wpF_ok (hT _ ir60 rfl) (by rw [w60_eq] at h; exact h)

-- slices.ContainsFunc[[]grille/arena.Graph,grille/arena.Graph]
def w61 (D : Den) (Q : AV → AH → Prop) (x0 x1 : AV) (H : AH) : Prop :=
 cP D 89 [x0, x1] H fun x7 H1 =>
 gP (aBin .geq x7 (.int .i64 0)) fun x8 =>
 Q x8 H1
theorem w61_eq : w61 = fun D Q x0 x1 H => wpF D ir61 [x0, x1] H Q := by kernel_rfl
theorem w61_ok (hT : Has T) {x0 x1 : AV} {H : AH} {Q : AV → AH → Prop} (h : w61 (Den.of T) Q x0 x1 H) : ∃ v H', Den.of T 61 [x0, x1] H = some (v, H') ∧ Q v H' :=
  wpF_ok (hT _ ir61 rfl) (by rw [w61_eq] at h; exact h)

-- grille/budget.Graphs$2
def w62 (D : Den) (Q : AV → AH → Prop) (x0 x1 : AV) (H : AH) : Prop :=
 gP (aLoad none x0 H) fun x4 =>
 cP D 41 [x4] H fun x5 H1 =>
 aP [(.int .i64 0), (.int .i64 0), (.int .i64 0), (.int .i64 0), (.int .i64 0)] H1 fun x3 H2 =>
 hP (aStore 5 x3 x5 H2) fun H3 =>
 gP (aFieldAddr 0 x1) fun x6 =>
 gP (aLoad none x6 H3) fun x7 =>
 gP (aFieldAddr 1 x1) fun x8 =>
 gP (aLoad none x8 H3) fun x9 =>
 gP (aFieldAddr 0 x3) fun x10 =>
 hP (aStore 1 x10 x7 H3) fun H4 =>
 gP (aFieldAddr 1 x3) fun x11 =>
 hP (aStore 1 x11 x9 H4) fun H5 =>
 (sameR (.load none (.cst x8)) H4 H3) ∧
 gP (aLoad (some 5) x3 H5) fun x12 =>
 gP (aLoad (some 5) x1 H5) fun x13 =>
 cP D 29 [x12, x13] H5 fun x14 H6 =>
 gP (aLoad (some 5) x3 H6) fun x15 =>
 sP (aop [] (.eqAgg [.int, .int, .int, .int, .int] false (.cst x14) (.cst x15)) H6) fun x16 H7 =>
 (sameR (.load (some 5) (.cst x3)) H6 H5) ∧
 Q x16 H7
theorem w62_eq : w62 = fun D Q x0 x1 H => wpF D ir62 [x0, x1] H Q := by kernel_rfl
theorem w62_ok (hT : Has T) {x0 x1 : AV} {H : AH} {Q : AV → AH → Prop} (h : w62 (Den.of T) Q x0 x1 H) : ∃ v H', Den.of T 62 [x0, x1] H = some (v, H') ∧ Q v H' :=
  wpF_ok (hT _ ir62 rfl) (by rw [w62_eq] at h; exact h)

-- grille/arena.Ins
def w63 (D : Den) (Q : AV → AH → Prop) (x0 : AV) (H : AH) : Prop :=
 cP D 20 [x0] H fun x9 H1 =>
 gP (aNot x9) fun x10 =>
 iP x10
 ( Q .nils H1)
 ( gP (aLen .row x0 H1) fun x12 =>
 sP (aop [] (.make .ref 1 8 [(.int .i64 0)] (.cst x12) (.cst x12)) H1) fun x13 H2 =>
 gP (aLen .row x0 H2) fun x15 =>
 lP 1 (fun s1 x16 H3 =>
 gP (aBin .lss x16 x15) fun x17 =>
 iP x17
 ( gP (aIdxAddr 4 x0 x16) fun x18 =>
 gP (aLoad (some 4) x18 H3) fun x19 =>
 aP [(.int .i64 0), (.str []), (.str []), .nils] H3 fun x5 H4 =>
 hP (aStore 4 x5 x19 H4) fun H5 =>
 gP (aFieldAddr 3 x5) fun x20 =>
 gP (aLoad none x20 H5) fun x21 =>
 gP (aLen .row x21 H5) fun x22 =>
 lP 1 (fun s2 x23 H6 =>
 gP (aBin .lss x23 x22) fun x24 =>
 iP x24
 ( gP (aIdxAddr 1 x21 x23) fun x25 =>
 gP (aLoad none x25 H6) fun x26 =>
 gP (aIdxAddr 1 x13 x26) fun x29 =>
 gP (aLoad none x29 H6) fun x30 =>
 gP (aBin .add x30 (.int .i64 1)) fun x31 =>
 gP (aIdxAddr 1 x13 x26) fun x32 =>
 hP (aStore 1 x32 x31 H6) fun H7 =>
 gP (aBin .add x23 (.int .i64 1)) fun x33 =>
 s2 x33 H7)
 ( gP (aBin .add x16 (.int .i64 1)) fun x34 =>
 s1 x34 H6)) [(.int .i64 0)] H5)
 ( sP (sealV x13 H3) fun x3 H8 =>
 Q x3 H8)) [(.int .i64 0)] H2)
theorem w63_eq : w63 = fun D Q x0 H => wpF D ir63 [x0] H Q := by kernel_rfl
theorem w63_ok (hT : Has T) {x0 : AV} {H : AH} {Q : AV → AH → Prop} (h : w63 (Den.of T) Q x0 H) : ∃ v H', Den.of T 63 [x0] H = some (v, H') ∧ Q v H' :=
  wpF_ok (hT _ ir63 rfl) (by rw [w63_eq] at h; exact h)

-- (*grille/flatten.teller).node
def w65 (D : Den) (Q : AV → AH → Prop) (x0 x1 : AV) (H : AH) : Prop :=
 sP (aop [] (.box (.cst x0)) H) fun x2 H1 =>
 gP (aLoad none x2 H1) fun x7 =>
 gP (aNilck x7) fun x8 =>
 gP (aFieldAddr 3 x8) fun x9 =>
 gP (aLoad none x9 H1) fun x10 =>
 gP (aBin .lss x1 x10) fun x11 =>
 iP x11
 ( gP (aLoad none x2 H1) fun x12 =>
 gP (aLoad none x2 H1) fun x13 =>
 gP (aNilck x13) fun x14 =>
 gP (aFieldAddr 1 x14) fun x15 =>
 gP (aLoad none x15 H1) fun x16 =>
 gP (aLoad none x2 H1) fun x17 =>
 gP (aNilck x17) fun x18 =>
 gP (aFieldAddr 2 x18) fun x19 =>
 gP (aLoad none x19 H1) fun x20 =>
 gP (aIdxAddr 1 x20 x1) fun x22 =>
 gP (aLoad none x22 H1) fun x23 =>
 gP ((aBuild [(.int .i64 0), (.str []), (.str []), (.str []), (.bool false)] [(0, 1, (.int .i64 7)), (1, 1, x23)]).map .agg) fun x24 =>
 sP (aLit .ro 5 [x24] H1) fun x25 H2 =>
 sP (aAppend .tok 5 64 x16 x25 H2) fun x26 H3 =>
 gP (aNilck x12) fun x27 =>
 gP (aFieldAddr 1 x27) fun x28 =>
 hP (aStore 1 x28 x26 H3) fun H4 =>
 (sameR (.load none (.cst x2)) H3 H2) ∧
 Q (.tup []) H4)
 ( gP (aLoad none x2 H1) fun x29 =>
 gP (aNilck x29) fun x30 =>
 gP (aFieldAddr 3 x30) fun x31 =>
 gP (aLoad none x31 H1) fun x32 =>
 gP (aBin .add x32 (.int .i64 1)) fun x33 =>
 gP (aNilck x29) fun x34 =>
 gP (aFieldAddr 3 x34) fun x35 =>
 hP (aStore 1 x35 x33 H1) fun H5 =>
 gP (aLoad none x2 H5) fun x36 =>
 gP (aNilck x36) fun x37 =>
 gP (aFieldAddr 0 x37) fun x38 =>
 gP (aLoad none x38 H5) fun x39 =>
 gP (aIdxAddr 4 x39 x1) fun x41 =>
 gP (aLoad (some 4) x41 H5) fun x42 =>
 aP [(.int .i64 0), (.str []), (.str []), .nils] H5 fun x4 H6 =>
 hP (aStore 4 x4 x42 H6) fun H7 =>
 gP (aLoad (some 4) x4 H7) fun x43 =>
 cP D 21 [x43] H7 fun x44 H8 =>
 aP [(.int .i64 0), (.str []), (.str []), (.str []), (.bool false)] H8 fun x5 H9 =>
 hP (aStore 5 x5 x44 H9) fun H10 =>
 gP (aLoad none x2 H10) fun x45 =>
 gP (aNilck x45) fun x46 =>
 gP (aFieldAddr 2 x46) fun x47 =>
 gP (aLoad none x47 H10) fun x48 =>
 gP (aIdxAddr 1 x48 x1) fun x50 =>
 gP (aLoad none x50 H10) fun x51 =>
 gP (aFieldAddr 1 x5) fun x52 =>
 hP (aStore 1 x52 x51 H10) fun H11 =>
 gP (aLoad none x2 H11) fun x53 =>
 gP (aLoad none x2 H11) fun x54 =>
 gP (aNilck x54) fun x55 =>
 gP (aFieldAddr 1 x55) fun x56 =>
 gP (aLoad none x56 H11) fun x57 =>
 gP (aLoad (some 5) x5 H11) fun x58 =>
 sP (aLit .ro 5 [x58] H11) fun x59 H12 =>
 sP (aAppend .tok 5 64 x57 x59 H12) fun x60 H13 =>
 gP (aNilck x53) fun x61 =>
 gP (aFieldAddr 1 x61) fun x62 =>
 hP (aStore 1 x62 x60 H13) fun H14 =>
 (sameR (.load none (.cst x2)) H13 H12) ∧
 gP (aFieldAddr 0 x4) fun x63 =>
 gP (aLoad none x63 H14) fun x64 =>
 gP (aBin .eql x64 (.int .i64 0)) fun x65 =>
 iP x65
 ( Q (.tup []) H14)
 ( gP (aLoad none x2 H14) fun x66 =>
 sP (aop [] (.mkFn (.func 92) [] [(.cst x4), (.cst x2)]) H14) fun x67 H15 =>
 cP D 91 [x66, x67] H15 fun x68 H16 =>
 gP (aLoad none x2 H16) fun x69 =>
 gP (aLoad none x2 H16) fun x70 =>
 gP (aNilck x70) fun x71 =>
 gP (aFieldAddr 1 x71) fun x72 =>
 gP (aLoad none x72 H16) fun x73 =>
 gP (aFieldAddr 0 x5) fun x74 =>
 gP (aLoad none x74 H16) fun x75 =>
 gP (aBin .add x75 (.int .i64 1)) fun x76 =>
 gP ((aBuild [(.int .i64 0), (.str []), (.str []), (.str []), (.bool false)] [(0, 1, x76)]).map .agg) fun x77 =>
 sP (aLit .ro 5 [x77] H16) fun x78 H17 =>
 sP (aAppend .tok 5 64 x73 x78 H17) fun x79 H18 =>
 gP (aNilck x69) fun x80 =>
 gP (aFieldAddr 1 x80) fun x81 =>
 hP (aStore 1 x81 x79 H18) fun H19 =>
 (sameR (.load none (.cst x2)) H18 H17) ∧
 Q (.tup []) H19))
theorem w65_eq : w65 = fun D Q x0 x1 H => wpF D ir65 [x0, x1] H Q := by kernel_rfl
theorem w65_ok (hT : Has T) {x0 x1 : AV} {H : AH} {Q : AV → AH → Prop} (h : w65 (Den.of T) Q x0 x1 H) : ∃ v H', Den.of T 65 [x0, x1] H = some (v, H') ∧ Q v H' :=
  wpF_ok (hT _ ir65 rfl) (by rw [w65_eq] at h; exact h)

-- grille/arena.Order$1
def w66 (D : Den) (Q : AV → AH → Prop) (x0 x1 x2 x3 x4 : AV) (H : AH) : Prop :=
 gP (aLoad none x1 H) fun x8 =>
 gP (aIdxAddr 1 x8 x0) fun x10 =>
 gP (aLoad none x10 H) fun x11 =>
 gP (aBin .add x11 (.int .i64 1)) fun x12 =>
 gP (aIdxAddr 1 x8 x0) fun x13 =>
 hP (aStore 1 x13 x12 H) fun H1 =>
 gP (aLoad none x1 H1) fun x14 =>
 gP (aIdxAddr 1 x14 x0) fun x16 =>
 gP (aLoad none x16 H1) fun x17 =>
 gP (aBin .gtr x17 (.int .i64 1)) fun x18 =>
 iP x18
 ( Q (.tup []) H1)
 ( gP (aLoad none x2 H1) fun x19 =>
 sP (aLit .ro 1 [x0] H1) fun x21 H2 =>
 sP (aAppend .tok 1 8 x19 x21 H2) fun x22 H3 =>
 hP (aStore 1 x2 x22 H3) fun H4 =>
 gP (aLoad none x3 H4) fun x23 =>
 gP (aIdxAddr 4 x23 x0) fun x25 =>
 gP (aFieldAddr 3 x25) fun x26 =>
 gP (aLoad none x26 H4) fun x27 =>
 gP (aLen .row x27 H4) fun x28 =>
 lP 1 (fun s1 x29 H5 =>
 gP (aBin .lss x29 x28) fun x30 =>
 iP x30
 ( gP (aIdxAddr 1 x27 x29) fun x31 =>
 gP (aLoad none x31 H5) fun x32 =>
 gP (aLoad none x4 H5) fun x33 =>
 vP D 0 x33 [x32] H5 fun x35 H6 =>
 gP (aBin .add x29 (.int .i64 1)) fun x36 =>
 s1 x36 H6)
 ( Q (.tup []) H5)) [(.int .i64 0)] H4)
theorem w66_eq : w66 = fun D Q x0 x1 x2 x3 x4 H => wpF D ir66 [x0, x1, x2, x3, x4] H Q := by kernel_rfl
theorem w66_ok (hT : Has T) {x0 x1 x2 x3 x4 : AV} {H : AH} {Q : AV → AH → Prop} (h : w66 (Den.of T) Q x0 x1 x2 x3 x4 H) : ∃ v H', Den.of T 66 [x0, x1, x2, x3, x4] H = some (v, H') ∧ Q v H' :=
  wpF_ok (hT _ ir66 rfl) (by rw [w66_eq] at h; exact h)

-- (grille/arena.Graph).right$1
def w67 (D : Den) (Q : AV → AH → Prop) (x0 x1 : AV) (H : AH) : Prop :=
 gP (aLoad none x1 H) fun x4 =>
 cP D 68 [x4, x0] H fun x6 H1 =>
 gP (aNot x6) fun x7 =>
 Q x7 H1
theorem w67_eq : w67 = fun D Q x0 x1 H => wpF D ir67 [x0, x1] H Q := by kernel_rfl
theorem w67_ok (hT : Has T) {x0 x1 : AV} {H : AH} {Q : AV → AH → Prop} (h : w67 (Den.of T) Q x0 x1 H) : ∃ v H', Den.of T 67 [x0, x1] H = some (v, H') ∧ Q v H' :=
  wpF_ok (hT _ ir67 rfl) (by rw [w67_eq] at h; exact h)

-- (grille/arena.Graph).has
def w68 (D : Den) (Q : AV → AH → Prop) (x0 x1 : AV) (H : AH) : Prop :=
 gP (aBin .geq x1 (.int .i64 0)) fun x6 =>
 dP x6 true
 ( gP (aLen .row x0 H) fun x10 =>
 gP (aBin .lss x1 x10) fun x11 =>
 Q x11 H)
 ( Q (.bool false) H)
theorem w68_eq : w68 = fun D Q x0 x1 H => wpF D ir68 [x0, x1] H Q := by kernel_rfl
theorem w68_ok (hT : Has T) {x0 x1 : AV} {H : AH} {Q : AV → AH → Prop} (h : w68 (Den.of T) Q x0 x1 H) : ∃ v H', Den.of T 68 [x0, x1] H = some (v, H') ∧ Q v H' :=
  wpF_ok (hT _ ir68 rfl) (by rw [w68_eq] at h; exact h)

-- slices.ContainsFunc[[]int,int]
def w69 (D : Den) (Q : AV → AH → Prop) (x0 x1 : AV) (H : AH) : Prop :=
 cP D 93 [x0, x1] H fun x7 H1 =>
 gP (aBin .geq x7 (.int .i64 0)) fun x8 =>
 Q x8 H1
theorem w69_eq : w69 = fun D Q x0 x1 H => wpF D ir69 [x0, x1] H Q := by kernel_rfl
theorem w69_ok (hT : Has T) {x0 x1 : AV} {H : AH} {Q : AV → AH → Prop} (h : w69 (Den.of T) Q x0 x1 H) : ∃ v H', Den.of T 69 [x0, x1] H = some (v, H') ∧ Q v H' :=
  wpF_ok (hT _ ir69 rfl) (by rw [w69_eq] at h; exact h)

-- grille/tag.Right
def w71 (D : Den) (Q : AV → AH → Prop) (x0 : AV) (H : AH) : Prop :=
 cP D 72 [x0] H fun x4 H1 =>
 dP x4 false
 ( cP D 87 [x0] H1 fun x7 H2 =>
 Q x7 H2)
 ( Q (.bool true) H1)
theorem w71_eq : w71 = fun D Q x0 H => wpF D ir71 [x0] H Q := by kernel_rfl
theorem w71_ok (hT : Has T) {x0 : AV} {H : AH} {Q : AV → AH → Prop} (h : w71 (Den.of T) Q x0 H) : ∃ v H', Den.of T 71 [x0] H = some (v, H') ∧ Q v H' :=
  wpF_ok (hT _ ir71 rfl) (by rw [w71_eq] at h; exact h)

-- grille/tag.Core
def w72 (D : Den) (Q : AV → AH → Prop) (x0 : AV) (H : AH) : Prop :=
 jP 1 (fun x4 H1 =>
 iP x4
 ( Q (.bool true) H1)
 ( cP D 86 [x0] H1 fun x9 H2 =>
 Q x9 H2)) fun j1 =>
 gP (aBin .eql x0 (.str [115, 101, 113])) fun x5 =>
 iP x5
 ( j1 x5 H)
 ( gP (aBin .eql x0 (.str [109, 97, 112])) fun x6 =>
 iP x6
 ( j1 x6 H)
 ( gP (aBin .eql x0 (.str [115, 116, 114])) fun x7 =>
 j1 x7 H))
theorem w72_eq : w72 = fun D Q x0 H => wpF D ir72 [x0] H Q := by kernel_rfl
theorem w72_ok (hT : Has T) {x0 : AV} {H : AH} {Q : AV → AH → Prop} (h : w72 (Den.of T) Q x0 H) : ∃ v H', Den.of T 72 [x0] H = some (v, H') ∧ Q v H' :=
  wpF_ok (hT _ ir72 rfl) (by rw [w72_eq] at h; exact h)

-- (grille/arena.Graph).right$2
def w73 (D : Den) (Q : AV → AH → Prop) (x0 x1 : AV) (H : AH) : Prop :=
 gP (aLoad none x1 H) fun x4 =>
 gP (aIdxAddr 4 x4 x0) fun x6 =>
 gP (aFieldAddr 0 x6) fun x7 =>
 gP (aLoad none x7 H) fun x8 =>
 gP (aBin .neq x8 (.int .i64 0)) fun x9 =>
 Q x9 H
theorem w73_eq : w73 = fun D Q x0 x1 H => wpF D ir73 [x0, x1] H Q := by kernel_rfl
theorem w73_ok (hT : Has T) {x0 x1 : AV} {H : AH} {Q : AV → AH → Prop} (h : w73 (Den.of T) Q x0 x1 H) : ∃ v H', Den.of T 73 [x0, x1] H = some (v, H') ∧ Q v H' :=
  wpF_ok (hT _ ir73 rfl) (by rw [w73_eq] at h; exact h)

-- (grille/arena.Node).keys
def w74 (D : Den) (Q : AV → AH → Prop) (x0 : AV) (H : AH) : Prop :=
 sP (aop [] (.box (.cst x0)) H) fun x1 H1 =>
 lP 2 (fun s1 x2 x3 H2 =>
 gP (aFieldAddr 3 x1) fun x5 =>
 gP (aLoad none x5 H2) fun x6 =>
 gP (aLen .row x6 H2) fun x7 =>
 gP (aBin .lss x3 x7) fun x8 =>
 iP x8
 ( gP (aFieldAddr 3 x1) fun x12 =>
 gP (aLoad none x12 H2) fun x13 =>
 gP (aIdxAddr 1 x13 x3) fun x15 =>
 gP (aLoad none x15 H2) fun x16 =>
 sP (aLit .ro 1 [x16] H2) fun x17 H3 =>
 sP (aAppend .tok 1 8 x2 x17 H3) fun x18 H4 =>
 gP (aBin .add x3 (.int .i64 2)) fun x10 =>
 s1 x18 x10 H4)
 ( Q x2 H2)) [.nils, (.int .i64 0)] H1
theorem w74_eq : w74 = fun D Q x0 H => wpF D ir74 [x0] H Q := by kernel_rfl
theorem w74_ok (hT : Has T) {x0 : AV} {H : AH} {Q : AV → AH → Prop} (h : w74 (Den.of T) Q x0 H) : ∃ v H', Den.of T 74 [x0] H = some (v, H') ∧ Q v H' :=
  wpF_ok (hT _ ir74 rfl) (by rw [w74_eq] at h; exact h)

-- slices.IndexFunc[grille/arena.Graph,grille/arena.Node]
def w75 (D : Den) (Q : AV → AH → Prop) (x0 x1 : AV) (H : AH) : Prop :=
 gP (aLen .row x0 H) fun x7 =>
 lP 1 (fun s1 x8 H1 =>
 gP (aBin .lss x8 x7) fun x9 =>
 iP x9
 ( gP (aIdxAddr 4 x0 x8) fun x14 =>
 gP (aLoad (some 4) x14 H1) fun x15 =>
 vP D 0 x1 [x15] H1 fun x16 H2 =>
 iP x16
 ( Q x8 H2)
 ( gP (aBin .add x8 (.int .i64 1)) fun x18 =>
 s1 x18 H2))
 ( Q (.int .i64 (-1)) H1)) [(.int .i64 0)] H
theorem w75_eq : w75 = fun D Q x0 x1 H => wpF D ir75 [x0, x1] H Q := by kernel_rfl
theorem w75_ok (hT : Has T) {x0 x1 : AV} {H : AH} {Q : AV → AH → Prop} (h : w75 (Den.of T) Q x0 x1 H) : ∃ v H', Den.of T 75 [x0, x1] H = some (v, H') ∧ Q v H' :=
  wpF_ok (hT _ ir75 rfl) (by rw [w75_eq] at h; exact h)

-- grille/scalar.Plain$1
def w76 (D : Den) (Q : AV → AH → Prop) (x0 : AV) (H : AH) : Prop :=
 cP D 77 [x0] H fun x4 H1 =>
 gP (aNot x4) fun x5 =>
 Q x5 H1
theorem w76_eq : w76 = fun D Q x0 H => wpF D ir76 [x0] H Q := by kernel_rfl
theorem w76_ok (hT : Has T) {x0 : AV} {H : AH} {Q : AV → AH → Prop} (h : w76 (Den.of T) Q x0 H) : ∃ v H', Den.of T 76 [x0] H = some (v, H') ∧ Q v H' :=
  wpF_ok (hT _ ir76 rfl) (by rw [w76_eq] at h; exact h)

-- grille/text.May
def w77 (D : Den) (Q : AV → AH → Prop) (x0 : AV) (H : AH) : Prop :=
 jP 1 (fun x3 H1 =>
 iP x3
 ( Q (.bool true) H1)
 ( jP 1 (fun x18 H2 =>
 iP x18
 ( Q (.bool false) H2)
 ( gP (aBin .geq x0 (.int .i32 32)) fun x30 =>
 dP x30 true
 ( gP (aBin .lss x0 (.int .i32 127)) fun x33 =>
 dP x33 false
 ( gP (aBin .geq x0 (.int .i32 160)) fun x37 =>
 dP x37 true
 ( cP D 95 [x0] H2 fun x40 H3 =>
 Q x40 H3)
 ( Q (.bool false) H2))
 ( Q (.bool true) H2))
 ( gP (aBin .geq x0 (.int .i32 160)) fun x37_1 =>
 dP x37_1 true
 ( cP D 95 [x0] H2 fun x40_1 H4 =>
 Q x40_1 H4)
 ( Q (.bool false) H2)))) fun j1 =>
 gP (aBin .eql x0 (.int .i32 65279)) fun x20 =>
 dP x20 false
 ( gP (aBin .eql x0 (.int .i32 65534)) fun x23 =>
 dP x23 false
 ( gP (aBin .eql x0 (.int .i32 65535)) fun x27 =>
 j1 x27 H1)
 ( j1 (.bool true) H1))
 ( j1 (.bool true) H1))) fun j2 =>
 gP (aBin .eql x0 (.int .i32 9)) fun x5 =>
 dP x5 false
 ( gP (aBin .eql x0 (.int .i32 10)) fun x8 =>
 dP x8 false
 ( gP (aBin .eql x0 (.int .i32 13)) fun x12 =>
 dP x12 false
 ( gP (aBin .eql x0 (.int .i32 133)) fun x16 =>
 j2 x16 H)
 ( j2 (.bool true) H))
 ( j2 (.bool true) H))
 ( j2 (.bool true) H)
theorem w77_eq : w77 = fun D Q x0 H => wpF D ir77 [x0] H Q := by kernel_rfl
theorem w77_ok (hT : Has T) {x0 : AV} {H : AH} {Q : AV → AH → Prop} (h : w77 (Den.of T) Q x0 H) : ∃ v H', Den.of T 77 [x0] H = some (v, H') ∧ Q v H' :=
  wpF_ok (hT _ ir77 rfl) (by rw [w77_eq] at h; exact h)

-- grille/scalar.hasAny
def w79 (D : Den) (Q : AV → AH → Prop) (x0 x1 : AV) (H : AH) : Prop :=
 sP (aop [] (.rangeS (.cst x0)) H) fun x10 H1 =>
 lP 0 (fun s1 H2 =>
 sP (aop [] (.nextS (.cst x10)) H2) fun x11 H3 =>
 gP (aExtract 0 x11) fun x12 =>
 iP x12
 ( gP (aExtract 2 x11) fun x13 =>
 sP (aop [] (.rangeS (.cst x1)) H3) fun x15 H4 =>
 lP 0 (fun s2 H5 =>
 sP (aop [] (.nextS (.cst x15)) H5) fun x16 H6 =>
 gP (aExtract 0 x16) fun x17 =>
 iP x17
 ( gP (aExtract 2 x16) fun x18 =>
 gP (aBin .eql x13 x18) fun x21 =>
 iP x21
 ( Q (.bool true) H6)
 ( s2 H6))
 ( s1 H6)) [] H4)
 ( Q (.bool false) H3)) [] H1
theorem w79_eq : w79 = fun D Q x0 x1 H => wpF D ir79 [x0, x1] H Q := by kernel_rfl
theorem w79_ok (hT : Has T) {x0 x1 : AV} {H : AH} {Q : AV → AH → Prop} (h : w79 (Den.of T) Q x0 x1 H) : ∃ v H', Den.of T 79 [x0, x1] H = some (v, H') ∧ Q v H' :=
  wpF_ok (hT _ ir79 rfl) (by rw [w79_eq] at h; exact h)

-- strings.ContainsFunc
def w80 (D : Den) (Q : AV → AH → Prop) (x0 x1 : AV) (H : AH) : Prop :=
 cP D 97 [x0, x1] H fun x7 H1 =>
 gP (aBin .geq x7 (.int .i64 0)) fun x8 =>
 Q x8 H1
theorem w80_eq : w80 = fun D Q x0 x1 H => wpF D ir80 [x0, x1] H Q := by kernel_rfl
theorem w80_ok (hT : Has T) {x0 x1 : AV} {H : AH} {Q : AV → AH → Prop} (h : w80 (Den.of T) Q x0 x1 H) : ∃ v H', Den.of T 80 [x0, x1] H = some (v, H') ∧ Q v H' :=
  wpF_ok (hT _ ir80 rfl) (by rw [w80_eq] at h; exact h)

-- strings.HasSuffix
def w81 (D : Den) (Q : AV → AH → Prop) (x0 x1 : AV) (H : AH) : Prop :=
 cP D 98 [x0, x1] H fun x7 H1 =>
 Q x7 H1
theorem w81_eq : w81 = fun D Q x0 x1 H => wpF D ir81 [x0, x1] H Q := by kernel_rfl
theorem w81_ok (hT : Has T) {x0 x1 : AV} {H : AH} {Q : AV → AH → Prop} (h : w81 (Den.of T) Q x0 x1 H) : ∃ v H', Den.of T 81 [x0, x1] H = some (v, H') ∧ Q v H' :=
  wpF_ok (hT _ ir81 rfl) (by rw [w81_eq] at h; exact h)

-- grille/tag.sign
def w83 (D : Den) (Q : AV → AH → Prop) (x0 : AV) (H : AH) : Prop :=
 jP 1 (fun x14 H1 =>
 iP x14
 ( gP (aSlcS x0 (some (.int .i64 1)) none) fun x16 =>
 Q x16 H1)
 ( Q x0 H1)) fun j1 =>
 gP (aBin .neq x0 (.str [])) fun x4 =>
 dP x4 true
 ( gP (aIdxStr x0 (.int .i64 0)) fun x7 =>
 gP (aBin .eql x7 (.int .u8 43)) fun x8 =>
 dP x8 false
 ( gP (aIdxStr x0 (.int .i64 0)) fun x11 =>
 gP (aBin .eql x11 (.int .u8 45)) fun x12 =>
 j1 x12 H)
 ( j1 (.bool true) H))
 ( j1 (.bool false) H)
theorem w83_eq : w83 = fun D Q x0 H => wpF D ir83 [x0] H Q := by kernel_rfl
theorem w83_ok (hT : Has T) {x0 : AV} {H : AH} {Q : AV → AH → Prop} (h : w83 (Den.of T) Q x0 H) : ∃ v H', Den.of T 83 [x0] H = some (v, H') ∧ Q v H' :=
  wpF_ok (hT _ ir83 rfl) (by rw [w83_eq] at h; exact h)

-- grille/tag.whole
def w84 (D : Den) (Q : AV → AH → Prop) (x0 : AV) (H : AH) : Prop :=
 cP D 100 [x0, (.str [48, 111])] H fun x9 H1 =>
 gP (aExtract 0 x9) fun x10 =>
 gP (aExtract 1 x9) fun x11 =>
 iP x11
 ( cP D 101 [x10, (.int .i64 8)] H1 fun x14 H2 =>
 Q x14 H2)
 ( cP D 100 [x0, (.str [48, 120])] H1 fun x17 H3 =>
 gP (aExtract 0 x17) fun x18 =>
 gP (aExtract 1 x17) fun x19 =>
 iP x19
 ( cP D 101 [x18, (.int .i64 16)] H3 fun x22 H4 =>
 Q x22 H4)
 ( cP D 83 [x0] H3 fun x24 H5 =>
 cP D 101 [x24, (.int .i64 10)] H5 fun x25 H6 =>
 Q x25 H6))
theorem w84_eq : w84 = fun D Q x0 H => wpF D ir84 [x0] H Q := by kernel_rfl
theorem w84_ok (hT : Has T) {x0 : AV} {H : AH} {Q : AV → AH → Prop} (h : w84 (Den.of T) Q x0 H) : ∃ v H', Den.of T 84 [x0] H = some (v, H') ∧ Q v H' :=
  wpF_ok (hT _ ir84 rfl) (by rw [w84_eq] at h; exact h)

-- grille/tag.real
def w85 (D : Den) (Q : AV → AH → Prop) (x0 : AV) (H : AH) : Prop :=
 cP D 83 [x0] H fun x10 H1 =>
 cP D 102 [x10, (.int .i64 10)] H1 fun x11 H2 =>
 gP (aExtract 0 x11) fun x12 =>
 gP (aExtract 1 x11) fun x13 =>
 jP 2 (fun x3 x5 H3 =>
 gP (aBin .add x13 x5) fun x27 =>
 gP (aBin .eql x27 (.int .i64 0)) fun x28 =>
 iP x28
 ( Q (.bool false) H3)
 ( gP (aBin .eql x3 (.str [])) fun x30 =>
 iP x30
 ( Q (.bool true) H3)
 ( gP (aIdxStr x3 (.int .i64 0)) fun x32 =>
 gP (aBin .eql x32 (.int .u8 101)) fun x33 =>
 dP x33 false
 ( gP (aIdxStr x3 (.int .i64 0)) fun x36 =>
 gP (aBin .eql x36 (.int .u8 69)) fun x37 =>
 dP x37 true
 ( gP (aSlcS x3 (some (.int .i64 1)) none) fun x41 =>
 cP D 83 [x41] H3 fun x42 H4 =>
 cP D 101 [x42, (.int .i64 10)] H4 fun x43 H5 =>
 Q x43 H5)
 ( Q (.bool false) H3))
 ( gP (aSlcS x3 (some (.int .i64 1)) none) fun x41_1 =>
 cP D 83 [x41_1] H3 fun x42_1 H6 =>
 cP D 101 [x42_1, (.int .i64 10)] H6 fun x43_1 H7 =>
 Q x43_1 H7)))) fun j1 =>
 cP D 100 [x12, (.str [46])] H2 fun x16 H8 =>
 gP (aExtract 0 x16) fun x17 =>
 gP (aExtract 1 x16) fun x18 =>
 iP x18
 ( cP D 102 [x17, (.int .i64 10)] H8 fun x22 H9 =>
 gP (aExtract 0 x22) fun x23 =>
 gP (aExtract 1 x22) fun x24 =>
 j1 x23 x24 H9)
 ( j1 x12 (.int .i64 0) H8)
theorem w85_eq : w85 = fun D Q x0 H => wpF D ir85 [x0] H Q := by kernel_rfl
theorem w85_ok (hT : Has T) {x0 : AV} {H : AH} {Q : AV → AH → Prop} (h : w85 (Den.of T) Q x0 H) : ∃ v H', Den.of T 85 [x0] H = some (v, H') ∧ Q v H' :=
  wpF_ok (hT _ ir85 rfl) (by rw [w85_eq] at h; exact h)

-- grille/tag.plain
def w86 (D : Den) (Q : AV → AH → Prop) (x0 : AV) (H : AH) : Prop :=
 gP (aBin .eql x0 (.str [110, 117, 108, 108])) fun x4 =>
 dP x4 false
 ( gP (aBin .eql x0 (.str [98, 111, 111, 108])) fun x7 =>
 dP x7 false
 ( gP (aBin .eql x0 (.str [105, 110, 116])) fun x11 =>
 dP x11 false
 ( gP (aBin .eql x0 (.str [102, 108, 111, 97, 116])) fun x15 =>
 Q x15 H)
 ( Q (.bool true) H))
 ( Q (.bool true) H))
 ( Q (.bool true) H)
theorem w86_eq : w86 = fun D Q x0 H => wpF D ir86 [x0] H Q := by kernel_rfl
theorem w86_ok (hT : Has T) {x0 : AV} {H : AH} {Q : AV → AH → Prop} (h : w86 (Den.of T) Q x0 H) : ∃ v H', Den.of T 86 [x0] H = some (v, H') ∧ Q v H' :=
  wpF_ok (hT _ ir86 rfl) (by rw [w86_eq] at h; exact h)

-- grille/tag.own
def w87 (D : Den) (Q : AV → AH → Prop) (x0 : AV) (H : AH) : Prop :=
 cP D 100 [x0, (.str [33])] H fun x8 H1 =>
 gP (aExtract 0 x8) fun x9 =>
 gP (aExtract 1 x8) fun x10 =>
 dP x10 true
 ( gP (aBin .neq x9 (.str [])) fun x14 =>
 dP x14 true
 ( gP (aLen .str x9 H1) fun x18 =>
 gP (aBin .leq x18 (.int .i64 40)) fun x19 =>
 dP x19 true
 ( cP D 80 [x9, (.fn (.func 103) [] [])] H1 fun x24 H2 =>
 gP (aNot x24) fun x25 =>
 Q x25 H2)
 ( Q (.bool false) H1))
 ( Q (.bool false) H1))
 ( Q (.bool false) H1)
theorem w87_eq : w87 = fun D Q x0 H => wpF D ir87 [x0] H Q := by kernel_rfl
theorem w87_ok (hT : Has T) {x0 : AV} {H : AH} {Q : AV → AH → Prop} (h : w87 (Den.of T) Q x0 H) : ∃ v H', Den.of T 87 [x0] H = some (v, H') ∧ Q v H' :=
  wpF_ok (hT _ ir87 rfl) (by rw [w87_eq] at h; exact h)

-- slices.Equal[[]int,int]
def w88 (D : Den) (Q : AV → AH → Prop) (x0 x1 : AV) (H : AH) : Prop :=
 gP (aLen .row x0 H) fun x7 =>
 gP (aLen .row x1 H) fun x9 =>
 gP (aBin .neq x7 x9) fun x10 =>
 iP x10
 ( Q (.bool false) H)
 ( gP (aLen .row x0 H) fun x12 =>
 lP 1 (fun s1 x13 H1 =>
 gP (aBin .lss x13 x12) fun x14 =>
 iP x14
 ( gP (aIdxAddr 1 x0 x13) fun x18 =>
 gP (aLoad none x18 H1) fun x19 =>
 gP (aIdxAddr 1 x1 x13) fun x22 =>
 gP (aLoad none x22 H1) fun x23 =>
 gP (aBin .neq x19 x23) fun x24 =>
 iP x24
 ( Q (.bool false) H1)
 ( gP (aBin .add x13 (.int .i64 1)) fun x25 =>
 s1 x25 H1))
 ( Q (.bool true) H1)) [(.int .i64 0)] H)
theorem w88_eq : w88 = fun D Q x0 x1 H => wpF D ir88 [x0, x1] H Q := by kernel_rfl
theorem w88_ok (hT : Has T) {x0 x1 : AV} {H : AH} {Q : AV → AH → Prop} (h : w88 (Den.of T) Q x0 x1 H) : ∃ v H', Den.of T 88 [x0, x1] H = some (v, H') ∧ Q v H' :=
  wpF_ok (hT _ ir88 rfl) (by rw [w88_eq] at h; exact h)

-- slices.IndexFunc[[]grille/arena.Graph,grille/arena.Graph]
def w89 (D : Den) (Q : AV → AH → Prop) (x0 x1 : AV) (H : AH) : Prop :=
 gP (aLen .row x0 H) fun x7 =>
 lP 1 (fun s1 x8 H1 =>
 gP (aBin .lss x8 x7) fun x9 =>
 iP x9
 ( gP (aIdxAddr 1 x0 x8) fun x14 =>
 gP (aLoad none x14 H1) fun x15 =>
 vP D 0 x1 [x15] H1 fun x16 H2 =>
 iP x16
 ( Q x8 H2)
 ( gP (aBin .add x8 (.int .i64 1)) fun x18 =>
 s1 x18 H2))
 ( Q (.int .i64 (-1)) H1)) [(.int .i64 0)] H
theorem w89_eq : w89 = fun D Q x0 x1 H => wpF D ir89 [x0, x1] H Q := by kernel_rfl
theorem w89_ok (hT : Has T) {x0 x1 : AV} {H : AH} {Q : AV → AH → Prop} (h : w89 (Den.of T) Q x0 x1 H) : ∃ v H', Den.of T 89 [x0, x1] H = some (v, H') ∧ Q v H' :=
  wpF_ok (hT _ ir89 rfl) (by rw [w89_eq] at h; exact h)

-- internal/strconv.Itoa
def w90 (D : Den) (Q : AV → AH → Prop) (x0 : AV) (H : AH) : Prop :=
 cP D 105 [x0, (.int .i64 10)] H fun x4 H1 =>
 Q x4 H1
theorem w90_eq : w90 = fun D Q x0 H => wpF D ir90 [x0] H Q := by kernel_rfl
theorem w90_ok (hT : Has T) {x0 : AV} {H : AH} {Q : AV → AH → Prop} (h : w90 (Den.of T) Q x0 H) : ∃ v H', Den.of T 90 [x0] H = some (v, H') ∧ Q v H' :=
  wpF_ok (hT _ ir90 rfl) (by rw [w90_eq] at h; exact h)

-- (*grille/flatten.teller).inside
def w91 (D : Den) (Q : AV → AH → Prop) (x0 x1 : AV) (H : AH) : Prop :=
 gP (aNilck x0) fun x5 =>
 gP (aFieldAddr 4 x5) fun x6 =>
 gP (aLoad none x6 H) fun x7 =>
 gP (aBin .add x7 (.int .i64 1)) fun x8 =>
 gP (aNilck x0) fun x9 =>
 gP (aFieldAddr 4 x9) fun x10 =>
 hP (aStore 1 x10 x8 H) fun H1 =>
 gP (aNilck x0) fun x13 =>
 gP (aFieldAddr 5 x13) fun x14 =>
 gP (aLoad none x14 H1) fun x15 =>
 gP (aNilck x0) fun x17 =>
 gP (aFieldAddr 4 x17) fun x18 =>
 gP (aLoad none x18 H1) fun x19 =>
 gP (aFold true x15 [x19]) fun x20 =>
 gP (aNilck x0) fun x21 =>
 gP (aFieldAddr 5 x21) fun x22 =>
 hP (aStore 1 x22 x20 H1) fun H2 =>
 vP D 0 x1 [] H2 fun x24 H3 =>
 gP (aNilck x0) fun x26 =>
 gP (aFieldAddr 4 x26) fun x27 =>
 gP (aLoad none x27 H3) fun x28 =>
 gP (aBin .sub x28 (.int .i64 1)) fun x29 =>
 gP (aNilck x0) fun x30 =>
 gP (aFieldAddr 4 x30) fun x31 =>
 hP (aStore 1 x31 x29 H3) fun H4 =>
 Q (.tup []) H4
theorem w91_eq : w91 = fun D Q x0 x1 H => wpF D ir91 [x0, x1] H Q := by kernel_rfl
theorem w91_ok (hT : Has T) {x0 x1 : AV} {H : AH} {Q : AV → AH → Prop} (h : w91 (Den.of T) Q x0 x1 H) : ∃ v H', Den.of T 91 [x0, x1] H = some (v, H') ∧ Q v H' :=
  wpF_ok (hT _ ir91 rfl) (by rw [w91_eq] at h; exact h)

-- (*grille/flatten.teller).node$1
def w92 (D : Den) (Q : AV → AH → Prop) (x0 x1 : AV) (H : AH) : Prop :=
 gP (aFieldAddr 3 x0) fun x4 =>
 gP (aLoad none x4 H) fun x5 =>
 gP (aLen .row x5 H) fun x6 =>
 lP 1 (fun s1 x7 H1 =>
 gP (aBin .lss x7 x6) fun x8 =>
 iP x8
 ( gP (aIdxAddr 1 x5 x7) fun x9 =>
 gP (aLoad none x9 H1) fun x10 =>
 gP (aLoad none x1 H1) fun x11 =>
 cP D 65 [x11, x10] H1 fun x13 H2 =>
 gP (aBin .add x7 (.int .i64 1)) fun x14 =>
 s1 x14 H2)
 ( Q (.tup []) H1)) [(.int .i64 0)] H
theorem w92_eq : w92 = fun D Q x0 x1 H => wpF D ir92 [x0, x1] H Q := by kernel_rfl
theorem w92_ok (hT : Has T) {x0 x1 : AV} {H : AH} {Q : AV → AH → Prop} (h : w92 (Den.of T) Q x0 x1 H) : ∃ v H', Den.of T 92 [x0, x1] H = some (v, H') ∧ Q v H' :=
  wpF_ok (hT _ ir92 rfl) (by rw [w92_eq] at h; exact h)

-- slices.IndexFunc[[]int,int]
def w93 (D : Den) (Q : AV → AH → Prop) (x0 x1 : AV) (H : AH) : Prop :=
 gP (aLen .row x0 H) fun x7 =>
 lP 1 (fun s1 x8 H1 =>
 gP (aBin .lss x8 x7) fun x9 =>
 iP x9
 ( gP (aIdxAddr 1 x0 x8) fun x14 =>
 gP (aLoad none x14 H1) fun x15 =>
 vP D 0 x1 [x15] H1 fun x16 H2 =>
 iP x16
 ( Q x8 H2)
 ( gP (aBin .add x8 (.int .i64 1)) fun x18 =>
 s1 x18 H2))
 ( Q (.int .i64 (-1)) H1)) [(.int .i64 0)] H
theorem w93_eq : w93 = fun D Q x0 x1 H => wpF D ir93 [x0, x1] H Q := by kernel_rfl
theorem w93_ok (hT : Has T) {x0 x1 : AV} {H : AH} {Q : AV → AH → Prop} (h : w93 (Den.of T) Q x0 x1 H) : ∃ v H', Den.of T 93 [x0, x1] H = some (v, H') ∧ Q v H' :=
  wpF_ok (hT _ ir93 rfl) (by rw [w93_eq] at h; exact h)

-- unicode/utf8.word[string]
def w94 (D : Den) (Q : AV → AH → Prop) (x0 : AV) (H : AH) : Prop :=
 iP (.bool false)
 ( gP (aIdxStr x0 (.int .i64 0)) fun x4 =>
 gP (aCv .u64 x4) fun x5 =>
 gP (aIdxStr x0 (.int .i64 1)) fun x7 =>
 gP (aCv .u64 x7) fun x8 =>
 gP (aBin .shl x8 (.int .u64 8)) fun x9 =>
 gP (aBin .or x5 x9) fun x10 =>
 gP (aIdxStr x0 (.int .i64 2)) fun x12 =>
 gP (aCv .u64 x12) fun x13 =>
 gP (aBin .shl x13 (.int .u64 16)) fun x14 =>
 gP (aBin .or x10 x14) fun x15 =>
 gP (aIdxStr x0 (.int .i64 3)) fun x17 =>
 gP (aCv .u64 x17) fun x18 =>
 gP (aBin .shl x18 (.int .u64 24)) fun x19 =>
 gP (aBin .or x15 x19) fun x20 =>
 Q x20 H)
 ( gP (aIdxStr x0 (.int .i64 0)) fun x22 =>
 gP (aCv .u64 x22) fun x23 =>
 gP (aIdxStr x0 (.int .i64 1)) fun x25 =>
 gP (aCv .u64 x25) fun x26 =>
 gP (aBin .shl x26 (.int .u64 8)) fun x27 =>
 gP (aBin .or x23 x27) fun x28 =>
 gP (aIdxStr x0 (.int .i64 2)) fun x30 =>
 gP (aCv .u64 x30) fun x31 =>
 gP (aBin .shl x31 (.int .u64 16)) fun x32 =>
 gP (aBin .or x28 x32) fun x33 =>
 gP (aIdxStr x0 (.int .i64 3)) fun x35 =>
 gP (aCv .u64 x35) fun x36 =>
 gP (aBin .shl x36 (.int .u64 24)) fun x37 =>
 gP (aBin .or x33 x37) fun x38 =>
 gP (aIdxStr x0 (.int .i64 4)) fun x40 =>
 gP (aCv .u64 x40) fun x41 =>
 gP (aBin .shl x41 (.int .u64 32)) fun x42 =>
 gP (aBin .or x38 x42) fun x43 =>
 gP (aIdxStr x0 (.int .i64 5)) fun x45 =>
 gP (aCv .u64 x45) fun x46 =>
 gP (aBin .shl x46 (.int .u64 40)) fun x47 =>
 gP (aBin .or x43 x47) fun x48 =>
 gP (aIdxStr x0 (.int .i64 6)) fun x50 =>
 gP (aCv .u64 x50) fun x51 =>
 gP (aBin .shl x51 (.int .u64 48)) fun x52 =>
 gP (aBin .or x48 x52) fun x53 =>
 gP (aIdxStr x0 (.int .i64 7)) fun x55 =>
 gP (aCv .u64 x55) fun x56 =>
 gP (aBin .shl x56 (.int .u64 56)) fun x57 =>
 gP (aBin .or x53 x57) fun x58 =>
 Q x58 H)
theorem w94_eq : w94 = fun D Q x0 H => wpF D ir94 [x0] H Q := by kernel_rfl
theorem w94_ok (hT : Has T) {x0 : AV} {H : AH} {Q : AV → AH → Prop} (h : w94 (Den.of T) Q x0 H) : ∃ v H', Den.of T 94 [x0] H = some (v, H') ∧ Q v H' :=
  wpF_ok (hT _ ir94 rfl) (by rw [w94_eq] at h; exact h)

-- unicode/utf8.ValidRune
def w95 (D : Den) (Q : AV → AH → Prop) (x0 : AV) (H : AH) : Prop :=
 jP 1 (fun x3 H1 =>
 iP x3
 ( Q (.bool true) H1)
 ( jP 1 (fun x10 H2 =>
 iP x10
 ( Q (.bool true) H2)
 ( Q (.bool false) H2)) fun j1 =>
 gP (aBin .lss (.int .i32 57343) x0) fun x12 =>
 dP x12 true
 ( gP (aBin .leq x0 (.int .i32 1114111)) fun x15 =>
 j1 x15 H1)
 ( j1 (.bool false) H1))) fun j2 =>
 gP (aBin .leq (.int .i32 0) x0) fun x5 =>
 dP x5 true
 ( gP (aBin .lss x0 (.int .i32 55296)) fun x8 =>
 j2 x8 H)
 ( j2 (.bool false) H)
theorem w95_eq : w95 = fun D Q x0 H => wpF D ir95 [x0] H Q := by kernel_rfl
theorem w95_ok (hT : Has T) {x0 : AV} {H : AH} {Q : AV → AH → Prop} (h : w95 (Den.of T) Q x0 H) : ∃ v H', Den.of T 95 [x0] H = some (v, H') ∧ Q v H' :=
  wpF_ok (hT _ ir95 rfl) (by rw [w95_eq] at h; exact h)

-- internal/stringslite.IndexByte
def w96 (D : Den) (Q : AV → AH → Prop) (x0 x1 : AV) (H : AH) : Prop :=
 cP D 106 [x0, x1] H fun x7 H1 =>
 Q x7 H1
theorem w96_eq : w96 = fun D Q x0 x1 H => wpF D ir96 [x0, x1] H Q := by kernel_rfl
theorem w96_ok (hT : Has T) {x0 x1 : AV} {H : AH} {Q : AV → AH → Prop} (h : w96 (Den.of T) Q x0 x1 H) : ∃ v H', Den.of T 96 [x0, x1] H = some (v, H') ∧ Q v H' :=
  wpF_ok (hT _ ir96 rfl) (by rw [w96_eq] at h; exact h)

-- strings.IndexFunc
def w97 (D : Den) (Q : AV → AH → Prop) (x0 x1 : AV) (H : AH) : Prop :=
 cP D 107 [x0, x1, (.bool true)] H fun x7 H1 =>
 Q x7 H1
theorem w97_eq : w97 = fun D Q x0 x1 H => wpF D ir97 [x0, x1] H Q := by kernel_rfl
theorem w97_ok (hT : Has T) {x0 x1 : AV} {H : AH} {Q : AV → AH → Prop} (h : w97 (Den.of T) Q x0 x1 H) : ∃ v H', Den.of T 97 [x0, x1] H = some (v, H') ∧ Q v H' :=
  wpF_ok (hT _ ir97 rfl) (by rw [w97_eq] at h; exact h)

-- internal/stringslite.HasSuffix
def w98 (D : Den) (Q : AV → AH → Prop) (x0 x1 : AV) (H : AH) : Prop :=
 gP (aLen .str x0 H) fun x6 =>
 gP (aLen .str x1 H) fun x8 =>
 gP (aBin .geq x6 x8) fun x9 =>
 dP x9 true
 ( gP (aLen .str x0 H) fun x13 =>
 gP (aLen .str x1 H) fun x15 =>
 gP (aBin .sub x13 x15) fun x16 =>
 gP (aSlcS x0 (some x16) none) fun x17 =>
 gP (aBin .eql x17 x1) fun x19 =>
 Q x19 H)
 ( Q (.bool false) H)
theorem w98_eq : w98 = fun D Q x0 x1 H => wpF D ir98 [x0, x1] H Q := by kernel_rfl
theorem w98_ok (hT : Has T) {x0 x1 : AV} {H : AH} {Q : AV → AH → Prop} (h : w98 (Den.of T) Q x0 x1 H) : ∃ v H', Den.of T 98 [x0, x1] H = some (v, H') ∧ Q v H' :=
  wpF_ok (hT _ ir98 rfl) (by rw [w98_eq] at h; exact h)

-- strings.Index
def w99 (D : Den) (Q : AV → AH → Prop) (x0 x1 : AV) (H : AH) : Prop :=
 cP D 108 [x0, x1] H fun x7 H1 =>
 Q x7 H1
theorem w99_eq : w99 = fun D Q x0 x1 H => wpF D ir99 [x0, x1] H Q := by kernel_rfl
theorem w99_ok (hT : Has T) {x0 x1 : AV} {H : AH} {Q : AV → AH → Prop} (h : w99 (Den.of T) Q x0 x1 H) : ∃ v H', Den.of T 99 [x0, x1] H = some (v, H') ∧ Q v H' :=
  wpF_ok (hT _ ir99 rfl) (by rw [w99_eq] at h; exact h)

-- strings.CutPrefix
def w100 (D : Den) (Q : AV → AH → Prop) (x0 x1 : AV) (H : AH) : Prop :=
 cP D 109 [x0, x1] H fun x8 H1 =>
 gP (aExtract 0 x8) fun x9 =>
 gP (aExtract 1 x8) fun x10 =>
 Q (.tup [x9, x10]) H1
theorem w100_eq : w100 = fun D Q x0 x1 H => wpF D ir100 [x0, x1] H Q := by kernel_rfl
theorem w100_ok (hT : Has T) {x0 x1 : AV} {H : AH} {Q : AV → AH → Prop} (h : w100 (Den.of T) Q x0 x1 H) : ∃ v H', Den.of T 100 [x0, x1] H = some (v, H') ∧ Q v H' :=
  wpF_ok (hT _ ir100 rfl) (by rw [w100_eq] at h; exact h)

-- grille/tag.all
def w101 (D : Den) (Q : AV → AH → Prop) (x0 x1 : AV) (H : AH) : Prop :=
 cP D 102 [x0, x1] H fun x10 H1 =>
 gP (aExtract 0 x10) fun x11 =>
 gP (aExtract 1 x10) fun x12 =>
 gP (aBin .eql x11 (.str [])) fun x14 =>
 dP x14 true
 ( gP (aBin .gtr x12 (.int .i64 0)) fun x17 =>
 Q x17 H1)
 ( Q (.bool false) H1)
theorem w101_eq : w101 = fun D Q x0 x1 H => wpF D ir101 [x0, x1] H Q := by kernel_rfl
theorem w101_ok (hT : Has T) {x0 x1 : AV} {H : AH} {Q : AV → AH → Prop} (h : w101 (Den.of T) Q x0 x1 H) : ∃ v H', Den.of T 101 [x0, x1] H = some (v, H') ∧ Q v H' :=
  wpF_ok (hT _ ir101 rfl) (by rw [w101_eq] at h; exact h)

-- grille/tag.digits
def w102 (D : Den) (Q : AV → AH → Prop) (x0 x1 : AV) (H : AH) : Prop :=
 lP 1 (fun s1 x5 H1 =>
 jP 1 (fun x17 H2 =>
 iP x17
 ( gP (aBin .add x5 (.int .i64 1)) fun x19 =>
 s1 x19 H2)
 ( gP (aSlcS x0 (some x5) none) fun x22 =>
 Q (.tup [x22, x5]) H2)) fun j2 =>
 gP (aLen .str x0 H1) fun x8 =>
 gP (aBin .lss x5 x8) fun x9 =>
 dP x9 true
 ( gP (aIdxStr x0 x5) fun x13 =>
 cP D 110 [x13] H1 fun x14 H3 =>
 gP (aBin .lss x14 x1) fun x16 =>
 j2 x16 H3)
 ( j2 (.bool false) H1)) [(.int .i64 0)] H
theorem w102_eq : w102 = fun D Q x0 x1 H => wpF D ir102 [x0, x1] H Q := by kernel_rfl
theorem w102_ok (hT : Has T) {x0 x1 : AV} {H : AH} {Q : AV → AH → Prop} (h : w102 (Den.of T) Q x0 x1 H) : ∃ v H', Den.of T 102 [x0, x1] H = some (v, H') ∧ Q v H' :=
  wpF_ok (hT _ ir102 rfl) (by rw [w102_eq] at h; exact h)

-- grille/tag.own$1
def w103 (D : Den) (Q : AV → AH → Prop) (x0 : AV) (H : AH) : Prop :=
 cP D 104 [x0] H fun x4 H1 =>
 gP (aNot x4) fun x5 =>
 Q x5 H1
theorem w103_eq : w103 = fun D Q x0 H => wpF D ir103 [x0] H Q := by kernel_rfl
theorem w103_ok (hT : Has T) {x0 : AV} {H : AH} {Q : AV → AH → Prop} (h : w103 (Den.of T) Q x0 H) : ∃ v H', Den.of T 103 [x0] H = some (v, H') ∧ Q v H' :=
  wpF_ok (hT _ ir103 rfl) (by rw [w103_eq] at h; exact h)

-- grille/tag.named
def w104 (D : Den) (Q : AV → AH → Prop) (x0 : AV) (H : AH) : Prop :=
 gP (aBin .geq x0 (.int .i32 97)) fun x4 =>
 dP x4 true
 ( gP (aBin .leq x0 (.int .i32 122)) fun x7 =>
 dP x7 false
 ( gP (aBin .geq x0 (.int .i32 65)) fun x11 =>
 dP x11 true
 ( gP (aBin .leq x0 (.int .i32 90)) fun x14 =>
 dP x14 false
 ( gP (aBin .geq x0 (.int .i32 48)) fun x19 =>
 dP x19 true
 ( gP (aBin .leq x0 (.int .i32 57)) fun x22 =>
 dP x22 false
 ( gP (aBin .eql x0 (.int .i32 45)) fun x27 =>
 Q x27 H)
 ( Q (.bool true) H))
 ( dP (.bool false) false
 ( gP (aBin .eql x0 (.int .i32 45)) fun x27_1 =>
 Q x27_1 H)
 ( Q (.bool true) H)))
 ( Q (.bool true) H))
 ( dP (.bool false) false
 ( gP (aBin .geq x0 (.int .i32 48)) fun x19_1 =>
 dP x19_1 true
 ( gP (aBin .leq x0 (.int .i32 57)) fun x22_1 =>
 dP x22_1 false
 ( gP (aBin .eql x0 (.int .i32 45)) fun x27_2 =>
 Q x27_2 H)
 ( Q (.bool true) H))
 ( dP (.bool false) false
 ( gP (aBin .eql x0 (.int .i32 45)) fun x27_3 =>
 Q x27_3 H)
 ( Q (.bool true) H)))
 ( Q (.bool true) H)))
 ( Q (.bool true) H))
 ( gP (aBin .geq x0 (.int .i32 65)) fun x11_1 =>
 dP x11_1 true
 ( gP (aBin .leq x0 (.int .i32 90)) fun x14_1 =>
 dP x14_1 false
 ( gP (aBin .geq x0 (.int .i32 48)) fun x19_2 =>
 dP x19_2 true
 ( gP (aBin .leq x0 (.int .i32 57)) fun x22_2 =>
 dP x22_2 false
 ( gP (aBin .eql x0 (.int .i32 45)) fun x27_4 =>
 Q x27_4 H)
 ( Q (.bool true) H))
 ( dP (.bool false) false
 ( gP (aBin .eql x0 (.int .i32 45)) fun x27_5 =>
 Q x27_5 H)
 ( Q (.bool true) H)))
 ( Q (.bool true) H))
 ( dP (.bool false) false
 ( gP (aBin .geq x0 (.int .i32 48)) fun x19_3 =>
 dP x19_3 true
 ( gP (aBin .leq x0 (.int .i32 57)) fun x22_3 =>
 dP x22_3 false
 ( gP (aBin .eql x0 (.int .i32 45)) fun x27_6 =>
 Q x27_6 H)
 ( Q (.bool true) H))
 ( dP (.bool false) false
 ( gP (aBin .eql x0 (.int .i32 45)) fun x27_7 =>
 Q x27_7 H)
 ( Q (.bool true) H)))
 ( Q (.bool true) H)))
theorem w104_eq : w104 = fun D Q x0 H => wpF D ir104 [x0] H Q := by kernel_rfl
theorem w104_ok (hT : Has T) {x0 : AV} {H : AH} {Q : AV → AH → Prop} (h : w104 (Den.of T) Q x0 H) : ∃ v H', Den.of T 104 [x0] H = some (v, H') ∧ Q v H' :=
  wpF_ok (hT _ ir104 rfl) (by rw [w104_eq] at h; exact h)

-- strings.indexFunc
def w107 (D : Den) (Q : AV → AH → Prop) (x0 x1 x2 : AV) (H : AH) : Prop :=
 sP (aop [] (.rangeS (.cst x0)) H) fun x10 H1 =>
 lP 0 (fun s1 H2 =>
 sP (aop [] (.nextS (.cst x10)) H2) fun x11 H3 =>
 gP (aExtract 0 x11) fun x12 =>
 iP x12
 ( gP (aExtract 1 x11) fun x13 =>
 gP (aExtract 2 x11) fun x14 =>
 vP D 0 x1 [x14] H3 fun x17 H4 =>
 gP (aEqv .bool false x17 x2) fun x19 =>
 iP x19
 ( Q x13 H4)
 ( s1 H4))
 ( Q (.int .i64 (-1)) H3)) [] H1
theorem w107_eq : w107 = fun D Q x0 x1 x2 H => wpF D ir107 [x0, x1, x2] H Q := by kernel_rfl
theorem w107_ok (hT : Has T) {x0 x1 x2 : AV} {H : AH} {Q : AV → AH → Prop} (h : w107 (Den.of T) Q x0 x1 x2 H) : ∃ v H', Den.of T 107 [x0, x1, x2] H = some (v, H') ∧ Q v H' :=
  wpF_ok (hT _ ir107 rfl) (by rw [w107_eq] at h; exact h)

-- internal/stringslite.CutPrefix
def w109 (D : Den) (Q : AV → AH → Prop) (x0 x1 : AV) (H : AH) : Prop :=
 cP D 118 [x0, x1] H fun x8 H1 =>
 gP (aNot x8) fun x9 =>
 iP x9
 ( Q (.tup [x0, (.bool false)]) H1)
 ( gP (aLen .str x1 H1) fun x13 =>
 gP (aSlcS x0 (some x13) none) fun x14 =>
 Q (.tup [x14, (.bool true)]) H1)
theorem w109_eq : w109 = fun D Q x0 x1 H => wpF D ir109 [x0, x1] H Q := by kernel_rfl
theorem w109_ok (hT : Has T) {x0 x1 : AV} {H : AH} {Q : AV → AH → Prop} (h : w109 (Den.of T) Q x0 x1 H) : ∃ v H', Den.of T 109 [x0, x1] H = some (v, H') ∧ Q v H' :=
  wpF_ok (hT _ ir109 rfl) (by rw [w109_eq] at h; exact h)

-- grille/tag.value
def w110 (D : Den) (Q : AV → AH → Prop) (x0 : AV) (H : AH) : Prop :=
 gP (aCv .i64 x0) fun x5 =>
 jP 1 (fun x3 H1 =>
 gP (aBin .sub x3 (.int .i64 65)) fun x30 =>
 gP (aBin .add x30 (.int .i64 10)) fun x31 =>
 Q x31 H1) fun j1 =>
 jP 1 (fun x6 H2 =>
 iP x6
 ( gP (aBin .sub x5 (.int .i64 32)) fun x28 =>
 j1 x28 H2)
 ( jP 1 (fun x13 H3 =>
 iP x13
 ( j1 x5 H3)
 ( jP 1 (fun x20 H4 =>
 iP x20
 ( gP (aBin .sub x5 (.int .i64 48)) fun x33 =>
 Q x33 H4)
 ( Q (.int .i64 16) H4)) fun j2 =>
 gP (aBin .geq x0 (.int .u8 48)) fun x22 =>
 dP x22 true
 ( gP (aBin .leq x0 (.int .u8 57)) fun x25 =>
 j2 x25 H3)
 ( j2 (.bool false) H3))) fun j3 =>
 gP (aBin .geq x0 (.int .u8 65)) fun x15 =>
 dP x15 true
 ( gP (aBin .leq x0 (.int .u8 70)) fun x18 =>
 j3 x18 H2)
 ( j3 (.bool false) H2))) fun j4 =>
 gP (aBin .geq x0 (.int .u8 97)) fun x8 =>
 dP x8 true
 ( gP (aBin .leq x0 (.int .u8 102)) fun x11 =>
 j4 x11 H)
 ( j4 (.bool false) H)
theorem w110_eq : w110 = fun D Q x0 H => wpF D ir110 [x0] H Q := by kernel_rfl
theorem w110_ok (hT : Has T) {x0 : AV} {H : AH} {Q : AV → AH → Prop} (h : w110 (Den.of T) Q x0 H) : ∃ v H', Den.of T 110 [x0] H = some (v, H') ∧ Q v H' :=
  wpF_ok (hT _ ir110 rfl) (by rw [w110_eq] at h; exact h)

-- internal/strconv.small
def w111 (D : Den) (Q : AV → AH → Prop) (x0 : AV) (H : AH) : Prop :=
 gP (aBin .lss x0 (.int .i64 10)) fun x4 =>
 iP x4
 ( gP (aBin .add x0 (.int .i64 1)) fun x7 =>
 gP (aSlcS (.str [48, 49, 50, 51, 52, 53, 54, 55, 56, 57, 97, 98, 99, 100, 101, 102, 103, 104, 105, 106, 107, 108, 109, 110, 111, 112, 113, 114, 115, 116, 117, 118, 119, 120, 121, 122]) (some x0) (some x7)) fun x8 =>
 Q x8 H)
 ( gP (aBin .mul x0 (.int .i64 2)) fun x10 =>
 gP (aBin .mul x0 (.int .i64 2)) fun x12 =>
 gP (aBin .add x12 (.int .i64 2)) fun x13 =>
 gP (aSlcS (.str [48, 48, 48, 49, 48, 50, 48, 51, 48, 52, 48, 53, 48, 54, 48, 55, 48, 56, 48, 57, 49, 48, 49, 49, 49, 50, 49, 51, 49, 52, 49, 53, 49, 54, 49, 55, 49, 56, 49, 57, 50, 48, 50, 49, 50, 50, 50, 51, 50, 52, 50, 53, 50, 54, 50, 55, 50, 56, 50, 57, 51, 48, 51, 49, 51, 50, 51, 51, 51, 52, 51, 53, 51, 54, 51, 55, 51, 56, 51, 57, 52, 48, 52, 49, 52, 50, 52, 51, 52, 52, 52, 53, 52, 54, 52, 55, 52, 56, 52, 57, 53, 48, 53, 49, 53, 50, 53, 51, 53, 52, 53, 53, 53, 54, 53, 55, 53, 56, 53, 57, 54, 48, 54, 49, 54, 50, 54, 51, 54, 52, 54, 53, 54, 54, 54, 55, 54, 56, 54, 57, 55, 48, 55, 49, 55, 50, 55, 51, 55, 52, 55, 53, 55, 54, 55, 55, 55, 56, 55, 57, 56, 48, 56, 49, 56, 50, 56, 51, 56, 52, 56, 53, 56, 54, 56, 55, 56, 56, 56, 57, 57, 48, 57, 49, 57, 50, 57, 51, 57, 52, 57, 53, 57, 54, 57, 55, 57, 56, 57, 57]) (some x10) (some x13)) fun x14 =>
 Q x14 H)
theorem w111_eq : w111 = fun D Q x0 H => wpF D ir111 [x0] H Q := by kernel_rfl
theorem w111_ok (hT : Has T) {x0 : AV} {H : AH} {Q : AV → AH → Prop} (h : w111 (Den.of T) Q x0 H) : ∃ v H', Den.of T 111 [x0] H = some (v, H') ∧ Q v H' :=
  wpF_ok (hT _ ir111 rfl) (by rw [w111_eq] at h; exact h)

-- internal/strconv.formatBase10
def w113 (D : Den) (Q : AV → AH → Prop) (x0 x1 : AV) (H : AH) : Prop :=
 gP (aLen .row x0 H) fun x18 =>
 lP 2 (fun s1 x1_1 x4 H1 =>
 gP (aBin .geq x4 (.int .i64 8)) fun x20 =>
 iP x20
 ( gP (aBin .rem x1_1 (.int .u64 100000000)) fun x22 =>
 gP (aCv .u32 x22) fun x23 =>
 gP (aBin .quo x1_1 (.int .u64 100000000)) fun x25 =>
 gP (aBin .quo x23 (.int .u32 10000)) fun x27 =>
 gP (aBin .rem x23 (.int .u32 10000)) fun x29 =>
 gP (aBin .quo x29 (.int .u32 100)) fun x31 =>
 gP (aBin .mul x31 (.int .u32 2)) fun x32 =>
 gP (aBin .rem x29 (.int .u32 100)) fun x34 =>
 gP (aBin .mul x34 (.int .u32 2)) fun x35 =>
 gP (aBin .quo x27 (.int .u32 100)) fun x37 =>
 gP (aBin .mul x37 (.int .u32 2)) fun x38 =>
 gP (aBin .rem x27 (.int .u32 100)) fun x40 =>
 gP (aBin .mul x40 (.int .u32 2)) fun x41 =>
 gP (aBin .sub x4 (.int .i64 1)) fun x44 =>
 gP (aBin .sub x4 (.int .i64 2)) fun x47 =>
 gP (aBin .add x35 (.int .u32 1)) fun x49 =>
 gP (aIdxStr (.str [48, 48, 48, 49, 48, 50, 48, 51, 48, 52, 48, 53, 48, 54, 48, 55, 48, 56, 48, 57, 49, 48, 49, 49, 49, 50, 49, 51, 49, 52, 49, 53, 49, 54, 49, 55, 49, 56, 49, 57, 50, 48, 50, 49, 50, 50, 50, 51, 50, 52, 50, 53, 50, 54, 50, 55, 50, 56, 50, 57, 51, 48, 51, 49, 51, 50, 51, 51, 51, 52, 51, 53, 51, 54, 51, 55, 51, 56, 51, 57, 52, 48, 52, 49, 52, 50, 52, 51, 52, 52, 52, 53, 52, 54, 52, 55, 52, 56, 52, 57, 53, 48, 53, 49, 53, 50, 53, 51, 53, 52, 53, 53, 53, 54, 53, 55, 53, 56, 53, 57, 54, 48, 54, 49, 54, 50, 54, 51, 54, 52, 54, 53, 54, 54, 54, 55, 54, 56, 54, 57, 55, 48, 55, 49, 55, 50, 55, 51, 55, 52, 55, 53, 55, 54, 55, 55, 55, 56, 55, 57, 56, 48, 56, 49, 56, 50, 56, 51, 56, 52, 56, 53, 56, 54, 56, 55, 56, 56, 56, 57, 57, 48, 57, 49, 57, 50, 57, 51, 57, 52, 57, 53, 57, 54, 57, 55, 57, 56, 57, 57]) x49) fun x50 =>
 gP (aIdxStr (.str [48, 48, 48, 49, 48, 50, 48, 51, 48, 52, 48, 53, 48, 54, 48, 55, 48, 56, 48, 57, 49, 48, 49, 49, 49, 50, 49, 51, 49, 52, 49, 53, 49, 54, 49, 55, 49, 56, 49, 57, 50, 48, 50, 49, 50, 50, 50, 51, 50, 52, 50, 53, 50, 54, 50, 55, 50, 56, 50, 57, 51, 48, 51, 49, 51, 50, 51, 51, 51, 52, 51, 53, 51, 54, 51, 55, 51, 56, 51, 57, 52, 48, 52, 49, 52, 50, 52, 51, 52, 52, 52, 53, 52, 54, 52, 55, 52, 56, 52, 57, 53, 48, 53, 49, 53, 50, 53, 51, 53, 52, 53, 53, 53, 54, 53, 55, 53, 56, 53, 57, 54, 48, 54, 49, 54, 50, 54, 51, 54, 52, 54, 53, 54, 54, 54, 55, 54, 56, 54, 57, 55, 48, 55, 49, 55, 50, 55, 51, 55, 52, 55, 53, 55, 54, 55, 55, 55, 56, 55, 57, 56, 48, 56, 49, 56, 50, 56, 51, 56, 52, 56, 53, 56, 54, 56, 55, 56, 56, 56, 57, 57, 48, 57, 49, 57, 50, 57, 51, 57, 52, 57, 53, 57, 54, 57, 55, 57, 56, 57, 57]) x35) fun x52 =>
 gP (aIdxAddr 1 x0 x44) fun x53 =>
 hP (aStore 1 x53 x50 H1) fun H2 =>
 gP (aIdxAddr 1 x0 x47) fun x54 =>
 hP (aStore 1 x54 x52 H2) fun H3 =>
 gP (aBin .sub x4 (.int .i64 3)) fun x57 =>
 gP (aBin .sub x4 (.int .i64 4)) fun x60 =>
 gP (aBin .add x32 (.int .u32 1)) fun x62 =>
 gP (aIdxStr (.str [48, 48, 48, 49, 48, 50, 48, 51, 48, 52, 48, 53, 48, 54, 48, 55, 48, 56, 48, 57, 49, 48, 49, 49, 49, 50, 49, 51, 49, 52, 49, 53, 49, 54, 49, 55, 49, 56, 49, 57, 50, 48, 50, 49, 50, 50, 50, 51, 50, 52, 50, 53, 50, 54, 50, 55, 50, 56, 50, 57, 51, 48, 51, 49, 51, 50, 51, 51, 51, 52, 51, 53, 51, 54, 51, 55, 51, 56, 51, 57, 52, 48, 52, 49, 52, 50, 52, 51, 52, 52, 52, 53, 52, 54, 52, 55, 52, 56, 52, 57, 53, 48, 53, 49, 53, 50, 53, 51, 53, 52, 53, 53, 53, 54, 53, 55, 53, 56, 53, 57, 54, 48, 54, 49, 54, 50, 54, 51, 54, 52, 54, 53, 54, 54, 54, 55, 54, 56, 54, 57, 55, 48, 55, 49, 55, 50, 55, 51, 55, 52, 55, 53, 55, 54, 55, 55, 55, 56, 55, 57, 56, 48, 56, 49, 56, 50, 56, 51, 56, 52, 56, 53, 56, 54, 56, 55, 56, 56, 56, 57, 57, 48, 57, 49, 57, 50, 57, 51, 57, 52, 57, 53, 57, 54, 57, 55, 57, 56, 57, 57]) x62) fun x63 =>
 gP (aIdxStr (.str [48, 48, 48, 49, 48, 50, 48, 51, 48, 52, 48, 53, 48, 54, 48, 55, 48, 56, 48, 57, 49, 48, 49, 49, 49, 50, 49, 51, 49, 52, 49, 53, 49, 54, 49, 55, 49, 56, 49, 57, 50, 48, 50, 49, 50, 50, 50, 51, 50, 52, 50, 53, 50, 54, 50, 55, 50, 56, 50, 57, 51, 48, 51, 49, 51, 50, 51, 51, 51, 52, 51, 53, 51, 54, 51, 55, 51, 56, 51, 57, 52, 48, 52, 49, 52, 50, 52, 51, 52, 52, 52, 53, 52, 54, 52, 55, 52, 56, 52, 57, 53, 48, 53, 49, 53, 50, 53, 51, 53, 52, 53, 53, 53, 54, 53, 55, 53, 56, 53, 57, 54, 48, 54, 49, 54, 50, 54, 51, 54, 52, 54, 53, 54, 54, 54, 55, 54, 56, 54, 57, 55, 48, 55, 49, 55, 50, 55, 51, 55, 52, 55, 53, 55, 54, 55, 55, 55, 56, 55, 57, 56, 48, 56, 49, 56, 50, 56, 51, 56, 52, 56, 53, 56, 54, 56, 55, 56, 56, 56, 57, 57, 48, 57, 49, 57, 50, 57, 51, 57, 52, 57, 53, 57, 54, 57, 55, 57, 56, 57, 57]) x32) fun x65 =>
 gP (aIdxAddr 1 x0 x57) fun x66 =>
 hP (aStore 1 x66 x63 H3) fun H4 =>
 gP (aIdxAddr 1 x0 x60) fun x67 =>
 hP (aStore 1 x67 x65 H4) fun H5 =>
 gP (aBin .sub x4 (.int .i64 5)) fun x70 =>
 gP (aBin .sub x4 (.int .i64 6)) fun x73 =>
 gP (aBin .add x41 (.int .u32 1)) fun x75 =>
 gP (aIdxStr (.str [48, 48, 48, 49, 48, 50, 48, 51, 48, 52, 48, 53, 48, 54, 48, 55, 48, 56, 48, 57, 49, 48, 49, 49, 49, 50, 49, 51, 49, 52, 49, 53, 49, 54, 49, 55, 49, 56, 49, 57, 50, 48, 50, 49, 50, 50, 50, 51, 50, 52, 50, 53, 50, 54, 50, 55, 50, 56, 50, 57, 51, 48, 51, 49, 51, 50, 51, 51, 51, 52, 51, 53, 51, 54, 51, 55, 51, 56, 51, 57, 52, 48, 52, 49, 52, 50, 52, 51, 52, 52, 52, 53, 52, 54, 52, 55, 52, 56, 52, 57, 53, 48, 53, 49, 53, 50, 53, 51, 53, 52, 53, 53, 53, 54, 53, 55, 53, 56, 53, 57, 54, 48, 54, 49, 54, 50, 54, 51, 54, 52, 54, 53, 54, 54, 54, 55, 54, 56, 54, 57, 55, 48, 55, 49, 55, 50, 55, 51, 55, 52, 55, 53, 55, 54, 55, 55, 55, 56, 55, 57, 56, 48, 56, 49, 56, 50, 56, 51, 56, 52, 56, 53, 56, 54, 56, 55, 56, 56, 56, 57, 57, 48, 57, 49, 57, 50, 57, 51, 57, 52, 57, 53, 57, 54, 57, 55, 57, 56, 57, 57]) x75) fun x76 =>
 gP (aIdxStr (.str [48, 48, 48, 49, 48, 50, 48, 51, 48, 52, 48, 53, 48, 54, 48, 55, 48, 56, 48, 57, 49, 48, 49, 49, 49, 50, 49, 51, 49, 52, 49, 53, 49, 54, 49, 55, 49, 56, 49, 57, 50, 48, 50, 49, 50, 50, 50, 51, 50, 52, 50, 53, 50, 54, 50, 55, 50, 56, 50, 57, 51, 48, 51, 49, 51, 50, 51, 51, 51, 52, 51, 53, 51, 54, 51, 55, 51, 56, 51, 57, 52, 48, 52, 49, 52, 50, 52, 51, 52, 52, 52, 53, 52, 54, 52, 55, 52, 56, 52, 57, 53, 48, 53, 49, 53, 50, 53, 51, 53, 52, 53, 53, 53, 54, 53, 55, 53, 56, 53, 57, 54, 48, 54, 49, 54, 50, 54, 51, 54, 52, 54, 53, 54, 54, 54, 55, 54, 56, 54, 57, 55, 48, 55, 49, 55, 50, 55, 51, 55, 52, 55, 53, 55, 54, 55, 55, 55, 56, 55, 57, 56, 48, 56, 49, 56, 50, 56, 51, 56, 52, 56, 53, 56, 54, 56, 55, 56, 56, 56, 57, 57, 48, 57, 49, 57, 50, 57, 51, 57, 52, 57, 53, 57, 54, 57, 55, 57, 56, 57, 57]) x41) fun x78 =>
 gP (aIdxAddr 1 x0 x70) fun x79 =>
 hP (aStore 1 x79 x76 H5) fun H6 =>
 gP (aIdxAddr 1 x0 x73) fun x80 =>
 hP (aStore 1 x80 x78 H6) fun H7 =>
 gP (aBin .sub x4 (.int .i64 7)) fun x83 =>
 gP (aBin .sub x4 (.int .i64 8)) fun x86 =>
 gP (aBin .add x38 (.int .u32 1)) fun x88 =>
 gP (aIdxStr (.str [48, 48, 48, 49, 48, 50, 48, 51, 48, 52, 48, 53, 48, 54, 48, 55, 48, 56, 48, 57, 49, 48, 49, 49, 49, 50, 49, 51, 49, 52, 49, 53, 49, 54, 49, 55, 49, 56, 49, 57, 50, 48, 50, 49, 50, 50, 50, 51, 50, 52, 50, 53, 50, 54, 50, 55, 50, 56, 50, 57, 51, 48, 51, 49, 51, 50, 51, 51, 51, 52, 51, 53, 51, 54, 51, 55, 51, 56, 51, 57, 52, 48, 52, 49, 52, 50, 52, 51, 52, 52, 52, 53, 52, 54, 52, 55, 52, 56, 52, 57, 53, 48, 53, 49, 53, 50, 53, 51, 53, 52, 53, 53, 53, 54, 53, 55, 53, 56, 53, 57, 54, 48, 54, 49, 54, 50, 54, 51, 54, 52, 54, 53, 54, 54, 54, 55, 54, 56, 54, 57, 55, 48, 55, 49, 55, 50, 55, 51, 55, 52, 55, 53, 55, 54, 55, 55, 55, 56, 55, 57, 56, 48, 56, 49, 56, 50, 56, 51, 56, 52, 56, 53, 56, 54, 56, 55, 56, 56, 56, 57, 57, 48, 57, 49, 57, 50, 57, 51, 57, 52, 57, 53, 57, 54, 57, 55, 57, 56, 57, 57]) x88) fun x89 =>
 gP (aIdxStr (.str [48, 48, 48, 49, 48, 50, 48, 51, 48, 52, 48, 53, 48, 54, 48, 55, 48, 56, 48, 57, 49, 48, 49, 49, 49, 50, 49, 51, 49, 52, 49, 53, 49, 54, 49, 55, 49, 56, 49, 57, 50, 48, 50, 49, 50, 50, 50, 51, 50, 52, 50, 53, 50, 54, 50, 55, 50, 56, 50, 57, 51, 48, 51, 49, 51, 50, 51, 51, 51, 52, 51, 53, 51, 54, 51, 55, 51, 56, 51, 57, 52, 48, 52, 49, 52, 50, 52, 51, 52, 52, 52, 53, 52, 54, 52, 55, 52, 56, 52, 57, 53, 48, 53, 49, 53, 50, 53, 51, 53, 52, 53, 53, 53, 54, 53, 55, 53, 56, 53, 57, 54, 48, 54, 49, 54, 50, 54, 51, 54, 52, 54, 53, 54, 54, 54, 55, 54, 56, 54, 57, 55, 48, 55, 49, 55, 50, 55, 51, 55, 52, 55, 53, 55, 54, 55, 55, 55, 56, 55, 57, 56, 48, 56, 49, 56, 50, 56, 51, 56, 52, 56, 53, 56, 54, 56, 55, 56, 56, 56, 57, 57, 48, 57, 49, 57, 50, 57, 51, 57, 52, 57, 53, 57, 54, 57, 55, 57, 56, 57, 57]) x38) fun x91 =>
 gP (aIdxAddr 1 x0 x83) fun x92 =>
 hP (aStore 1 x92 x89 H7) fun H8 =>
 gP (aIdxAddr 1 x0 x86) fun x93 =>
 hP (aStore 1 x93 x91 H8) fun H9 =>
 gP (aBin .sub x4 (.int .i64 8)) fun x95 =>
 s1 x25 x95 H9)
 ( gP (aCv .u32 x1_1) fun x97 =>
 jP 2 (fun x12 x4_1 H10 =>
 jP 2 (fun x12_1 x4_2 H11 =>
 gP (aBin .gtr x4_2 (.int .i64 0)) fun x161 =>
 iP x161
 ( gP (aBin .add (.int .u32 48) x12_1) fun x164 =>
 gP (aCv .u8 x164) fun x165 =>
 gP (aIdxAddr 1 x0 (.int .i64 0)) fun x166 =>
 hP (aStore 1 x166 x165 H11) fun H12 =>
 Q (.tup []) H12)
 ( Q (.tup []) H11)) fun j2 =>
 gP (aBin .geq x4_1 (.int .i64 2)) fun x139 =>
 iP x139
 ( gP (aBin .rem x12 (.int .u32 100)) fun x141 =>
 gP (aBin .mul x141 (.int .u32 2)) fun x142 =>
 gP (aBin .quo x12 (.int .u32 100)) fun x144 =>
 gP (aBin .sub x4_1 (.int .i64 1)) fun x147 =>
 gP (aBin .sub x4_1 (.int .i64 2)) fun x150 =>
 gP (aBin .add x142 (.int .u32 1)) fun x152 =>
 gP (aIdxStr (.str [48, 48, 48, 49, 48, 50, 48, 51, 48, 52, 48, 53, 48, 54, 48, 55, 48, 56, 48, 57, 49, 48, 49, 49, 49, 50, 49, 51, 49, 52, 49, 53, 49, 54, 49, 55, 49, 56, 49, 57, 50, 48, 50, 49, 50, 50, 50, 51, 50, 52, 50, 53, 50, 54, 50, 55, 50, 56, 50, 57, 51, 48, 51, 49, 51, 50, 51, 51, 51, 52, 51, 53, 51, 54, 51, 55, 51, 56, 51, 57, 52, 48, 52, 49, 52, 50, 52, 51, 52, 52, 52, 53, 52, 54, 52, 55, 52, 56, 52, 57, 53, 48, 53, 49, 53, 50, 53, 51, 53, 52, 53, 53, 53, 54, 53, 55, 53, 56, 53, 57, 54, 48, 54, 49, 54, 50, 54, 51, 54, 52, 54, 53, 54, 54, 54, 55, 54, 56, 54, 57, 55, 48, 55, 49, 55, 50, 55, 51, 55, 52, 55, 53, 55, 54, 55, 55, 55, 56, 55, 57, 56, 48, 56, 49, 56, 50, 56, 51, 56, 52, 56, 53, 56, 54, 56, 55, 56, 56, 56, 57, 57, 48, 57, 49, 57, 50, 57, 51, 57, 52, 57, 53, 57, 54, 57, 55, 57, 56, 57, 57]) x152) fun x153 =>
 gP (aIdxStr (.str [48, 48, 48, 49, 48, 50, 48, 51, 48, 52, 48, 53, 48, 54, 48, 55, 48, 56, 48, 57, 49, 48, 49, 49, 49, 50, 49, 51, 49, 52, 49, 53, 49, 54, 49, 55, 49, 56, 49, 57, 50, 48, 50, 49, 50, 50, 50, 51, 50, 52, 50, 53, 50, 54, 50, 55, 50, 56, 50, 57, 51, 48, 51, 49, 51, 50, 51, 51, 51, 52, 51, 53, 51, 54, 51, 55, 51, 56, 51, 57, 52, 48, 52, 49, 52, 50, 52, 51, 52, 52, 52, 53, 52, 54, 52, 55, 52, 56, 52, 57, 53, 48, 53, 49, 53, 50, 53, 51, 53, 52, 53, 53, 53, 54, 53, 55, 53, 56, 53, 57, 54, 48, 54, 49, 54, 50, 54, 51, 54, 52, 54, 53, 54, 54, 54, 55, 54, 56, 54, 57, 55, 48, 55, 49, 55, 50, 55, 51, 55, 52, 55, 53, 55, 54, 55, 55, 55, 56, 55, 57, 56, 48, 56, 49, 56, 50, 56, 51, 56, 52, 56, 53, 56, 54, 56, 55, 56, 56, 56, 57, 57, 48, 57, 49, 57, 50, 57, 51, 57, 52, 57, 53, 57, 54, 57, 55, 57, 56, 57, 57]) x142) fun x155 =>
 gP (aIdxAddr 1 x0 x147) fun x156 =>
 hP (aStore 1 x156 x153 H10) fun H13 =>
 gP (aIdxAddr 1 x0 x150) fun x157 =>
 hP (aStore 1 x157 x155 H13) fun H14 =>
 gP (aBin .sub x4_1 (.int .i64 2)) fun x159 =>
 j2 x144 x159 H14)
 ( j2 x12 x4_1 H10)) fun j3 =>
 gP (aBin .geq x4 (.int .i64 4)) fun x99 =>
 iP x99
 ( gP (aBin .rem x97 (.int .u32 10000)) fun x101 =>
 gP (aBin .quo x97 (.int .u32 10000)) fun x103 =>
 gP (aBin .quo x101 (.int .u32 100)) fun x105 =>
 gP (aBin .mul x105 (.int .u32 2)) fun x106 =>
 gP (aBin .rem x101 (.int .u32 100)) fun x108 =>
 gP (aBin .mul x108 (.int .u32 2)) fun x109 =>
 gP (aBin .sub x4 (.int .i64 1)) fun x112 =>
 gP (aBin .sub x4 (.int .i64 2)) fun x115 =>
 gP (aBin .add x109 (.int .u32 1)) fun x117 =>
 gP (aIdxStr (.str [48, 48, 48, 49, 48, 50, 48, 51, 48, 52, 48, 53, 48, 54, 48, 55, 48, 56, 48, 57, 49, 48, 49, 49, 49, 50, 49, 51, 49, 52, 49, 53, 49, 54, 49, 55, 49, 56, 49, 57, 50, 48, 50, 49, 50, 50, 50, 51, 50, 52, 50, 53, 50, 54, 50, 55, 50, 56, 50, 57, 51, 48, 51, 49, 51, 50, 51, 51, 51, 52, 51, 53, 51, 54, 51, 55, 51, 56, 51, 57, 52, 48, 52, 49, 52, 50, 52, 51, 52, 52, 52, 53, 52, 54, 52, 55, 52, 56, 52, 57, 53, 48, 53, 49, 53, 50, 53, 51, 53, 52, 53, 53, 53, 54, 53, 55, 53, 56, 53, 57, 54, 48, 54, 49, 54, 50, 54, 51, 54, 52, 54, 53, 54, 54, 54, 55, 54, 56, 54, 57, 55, 48, 55, 49, 55, 50, 55, 51, 55, 52, 55, 53, 55, 54, 55, 55, 55, 56, 55, 57, 56, 48, 56, 49, 56, 50, 56, 51, 56, 52, 56, 53, 56, 54, 56, 55, 56, 56, 56, 57, 57, 48, 57, 49, 57, 50, 57, 51, 57, 52, 57, 53, 57, 54, 57, 55, 57, 56, 57, 57]) x117) fun x118 =>
 gP (aIdxStr (.str [48, 48, 48, 49, 48, 50, 48, 51, 48, 52, 48, 53, 48, 54, 48, 55, 48, 56, 48, 57, 49, 48, 49, 49, 49, 50, 49, 51, 49, 52, 49, 53, 49, 54, 49, 55, 49, 56, 49, 57, 50, 48, 50, 49, 50, 50, 50, 51, 50, 52, 50, 53, 50, 54, 50, 55, 50, 56, 50, 57, 51, 48, 51, 49, 51, 50, 51, 51, 51, 52, 51, 53, 51, 54, 51, 55, 51, 56, 51, 57, 52, 48, 52, 49, 52, 50, 52, 51, 52, 52, 52, 53, 52, 54, 52, 55, 52, 56, 52, 57, 53, 48, 53, 49, 53, 50, 53, 51, 53, 52, 53, 53, 53, 54, 53, 55, 53, 56, 53, 57, 54, 48, 54, 49, 54, 50, 54, 51, 54, 52, 54, 53, 54, 54, 54, 55, 54, 56, 54, 57, 55, 48, 55, 49, 55, 50, 55, 51, 55, 52, 55, 53, 55, 54, 55, 55, 55, 56, 55, 57, 56, 48, 56, 49, 56, 50, 56, 51, 56, 52, 56, 53, 56, 54, 56, 55, 56, 56, 56, 57, 57, 48, 57, 49, 57, 50, 57, 51, 57, 52, 57, 53, 57, 54, 57, 55, 57, 56, 57, 57]) x109) fun x120 =>
 gP (aIdxAddr 1 x0 x112) fun x121 =>
 hP (aStore 1 x121 x118 H1) fun H15 =>
 gP (aIdxAddr 1 x0 x115) fun x122 =>
 hP (aStore 1 x122 x120 H15) fun H16 =>
 gP (aBin .sub x4 (.int .i64 3)) fun x125 =>
 gP (aBin .sub x4 (.int .i64 4)) fun x128 =>
 gP (aBin .add x106 (.int .u32 1)) fun x130 =>
 gP (aIdxStr (.str [48, 48, 48, 49, 48, 50, 48, 51, 48, 52, 48, 53, 48, 54, 48, 55, 48, 56, 48, 57, 49, 48, 49, 49, 49, 50, 49, 51, 49, 52, 49, 53, 49, 54, 49, 55, 49, 56, 49, 57, 50, 48, 50, 49, 50, 50, 50, 51, 50, 52, 50, 53, 50, 54, 50, 55, 50, 56, 50, 57, 51, 48, 51, 49, 51, 50, 51, 51, 51, 52, 51, 53, 51, 54, 51, 55, 51, 56, 51, 57, 52, 48, 52, 49, 52, 50, 52, 51, 52, 52, 52, 53, 52, 54, 52, 55, 52, 56, 52, 57, 53, 48, 53, 49, 53, 50, 53, 51, 53, 52, 53, 53, 53, 54, 53, 55, 53, 56, 53, 57, 54, 48, 54, 49, 54, 50, 54, 51, 54, 52, 54, 53, 54, 54, 54, 55, 54, 56, 54, 57, 55, 48, 55, 49, 55, 50, 55, 51, 55, 52, 55, 53, 55, 54, 55, 55, 55, 56, 55, 57, 56, 48, 56, 49, 56, 50, 56, 51, 56, 52, 56, 53, 56, 54, 56, 55, 56, 56, 56, 57, 57, 48, 57, 49, 57, 50, 57, 51, 57, 52, 57, 53, 57, 54, 57, 55, 57, 56, 57, 57]) x130) fun x131 =>
 gP (aIdxStr (.str [48, 48, 48, 49, 48, 50, 48, 51, 48, 52, 48, 53, 48, 54, 48, 55, 48, 56, 48, 57, 49, 48, 49, 49, 49, 50, 49, 51, 49, 52, 49, 53, 49, 54, 49, 55, 49, 56, 49, 57, 50, 48, 50, 49, 50, 50, 50, 51, 50, 52, 50, 53, 50, 54, 50, 55, 50, 56, 50, 57, 51, 48, 51, 49, 51, 50, 51, 51, 51, 52, 51, 53, 51, 54, 51, 55, 51, 56, 51, 57, 52, 48, 52, 49, 52, 50, 52, 51, 52, 52, 52, 53, 52, 54, 52, 55, 52, 56, 52, 57, 53, 48, 53, 49, 53, 50, 53, 51, 53, 52, 53, 53, 53, 54, 53, 55, 53, 56, 53, 57, 54, 48, 54, 49, 54, 50, 54, 51, 54, 52, 54, 53, 54, 54, 54, 55, 54, 56, 54, 57, 55, 48, 55, 49, 55, 50, 55, 51, 55, 52, 55, 53, 55, 54, 55, 55, 55, 56, 55, 57, 56, 48, 56, 49, 56, 50, 56, 51, 56, 52, 56, 53, 56, 54, 56, 55, 56, 56, 56, 57, 57, 48, 57, 49, 57, 50, 57, 51, 57, 52, 57, 53, 57, 54, 57, 55, 57, 56, 57, 57]) x106) fun x133 =>
 gP (aIdxAddr 1 x0 x125) fun x134 =>
 hP (aStore 1 x134 x131 H16) fun H17 =>
 gP (aIdxAddr 1 x0 x128) fun x135 =>
 hP (aStore 1 x135 x133 H17) fun H18 =>
 gP (aBin .sub x4 (.int .i64 4)) fun x137 =>
 j3 x103 x137 H18)
 ( j3 x97 x4 H1))) [x1, x18] H
theorem w113_eq : w113 = fun D Q x0 x1 H => wpF D ir113 [x0, x1] H Q := by kernel_rfl
theorem w113_ok (hT : Has T) {x0 x1 : AV} {H : AH} {Q : AV → AH → Prop} (h : w113 (Den.of T) Q x0 x1 H) : ∃ v H', Den.of T 113 [x0, x1] H = some (v, H') ∧ Q v H' :=
  wpF_ok (hT _ ir113 rfl) (by rw [w113_eq] at h; exact h)

-- internal/bytealg.Cutover
def w116 (D : Den) (Q : AV → AH → Prop) (x0 : AV) (H : AH) : Prop :=
 gP (aBin .add x0 (.int .i64 16)) fun x4 =>
 gP (aBin .quo x4 (.int .i64 8)) fun x5 =>
 Q x5 H
theorem w116_eq : w116 = fun D Q x0 H => wpF D ir116 [x0] H Q := by kernel_rfl
theorem w116_ok (hT : Has T) {x0 : AV} {H : AH} {Q : AV → AH → Prop} (h : w116 (Den.of T) Q x0 H) : ∃ v H', Den.of T 116 [x0] H = some (v, H') ∧ Q v H' :=
  wpF_ok (hT _ ir116 rfl) (by rw [w116_eq] at h; exact h)

-- internal/bytealg.IndexRabinKarp[string]
def w117 (D : Den) (Q : AV → AH → Prop) (x0 x1 : AV) (H : AH) : Prop :=
 cP D 124 [x1] H fun x13 H1 =>
 gP (aExtract 0 x13) fun x14 =>
 gP (aExtract 1 x13) fun x15 =>
 gP (aLen .str x1 H1) fun x17 =>
 lP 2 (fun s1 x8 x9 H2 =>
 gP (aBin .lss x9 x17) fun x20 =>
 iP x20
 ( gP (aBin .mul x8 (.int .u32 16777619)) fun x24 =>
 gP (aIdxStr x0 x9) fun x27 =>
 gP (aCv .u32 x27) fun x28 =>
 gP (aBin .add x24 x28) fun x29 =>
 gP (aBin .add x9 (.int .i64 1)) fun x22 =>
 s1 x29 x22 H2)
 ( jP 1 (fun x39 H3 =>
 iP x39
 ( Q (.int .i64 0) H3)
 ( lP 2 (fun s2 x8_1 x10 H4 =>
 gP (aLen .str x0 H4) fun x43 =>
 gP (aBin .lss x10 x43) fun x44 =>
 iP x44
 ( gP (aBin .mul x8_1 (.int .u32 16777619)) fun x46 =>
 gP (aIdxStr x0 x10) fun x50 =>
 gP (aCv .u32 x50) fun x51 =>
 gP (aBin .add x46 x51) fun x52 =>
 gP (aBin .sub x10 x17) fun x58 =>
 gP (aIdxStr x0 x58) fun x59 =>
 gP (aCv .u32 x59) fun x60 =>
 gP (aBin .mul x15 x60) fun x61 =>
 gP (aBin .sub x52 x61) fun x62 =>
 gP (aBin .add x10 (.int .i64 1)) fun x64 =>
 jP 1 (fun x77 H5 =>
 iP x77
 ( gP (aBin .sub x64 x17) fun x80 =>
 Q x80 H5)
 ( s2 x62 x64 H5)) fun j3 =>
 gP (aBin .eql x62 x14) fun x67 =>
 dP x67 true
 ( gP (aBin .sub x64 x17) fun x72 =>
 gP (aSlcS x0 (some x72) (some x64)) fun x74 =>
 gP (aBin .eql x74 x1) fun x76 =>
 j3 x76 H4)
 ( j3 (.bool false) H4))
 ( Q (.int .i64 (-1)) H4)) [x8, x17] H3)) fun j4 =>
 gP (aBin .eql x8 x14) fun x32 =>
 dP x32 true
 ( gP (aSlcS x0 none (some x17)) fun x36 =>
 gP (aBin .eql x36 x1) fun x38 =>
 j4 x38 H2)
 ( j4 (.bool false) H2))) [(.int .u32 0), (.int .i64 0)] H1
theorem w117_eq : w117 = fun D Q x0 x1 H => wpF D ir117 [x0, x1] H Q := by kernel_rfl
theorem w117_ok (hT : Has T) {x0 x1 : AV} {H : AH} {Q : AV → AH → Prop} (h : w117 (Den.of T) Q x0 x1 H) : ∃ v H', Den.of T 117 [x0, x1] H = some (v, H') ∧ Q v H' :=
  wpF_ok (hT _ ir117 rfl) (by rw [w117_eq] at h; exact h)

-- internal/stringslite.HasPrefix
def w118 (D : Den) (Q : AV → AH → Prop) (x0 x1 : AV) (H : AH) : Prop :=
 gP (aLen .str x0 H) fun x6 =>
 gP (aLen .str x1 H) fun x8 =>
 gP (aBin .geq x6 x8) fun x9 =>
 dP x9 true
 ( gP (aLen .str x1 H) fun x13 =>
 gP (aSlcS x0 none (some x13)) fun x14 =>
 gP (aBin .eql x14 x1) fun x16 =>
 Q x16 H)
 ( Q (.bool false) H)
theorem w118_eq : w118 = fun D Q x0 x1 H => wpF D ir118 [x0, x1] H Q := by kernel_rfl
theorem w118_ok (hT : Has T) {x0 x1 : AV} {H : AH} {Q : AV → AH → Prop} (h : w118 (Den.of T) Q x0 x1 H) : ∃ v H', Den.of T 118 [x0, x1] H = some (v, H') ∧ Q v H' :=
  wpF_ok (hT _ ir118 rfl) (by rw [w118_eq] at h; exact h)

-- internal/strconv.log10Pow2
def w119 (D : Den) (Q : AV → AH → Prop) (x0 : AV) (H : AH) : Prop :=
 gP (aBin .mul x0 (.int .i64 78913)) fun x4 =>
 gP (aBin .shr x4 (.int .u64 18)) fun x5 =>
 Q x5 H
theorem w119_eq : w119 = fun D Q x0 H => wpF D ir119 [x0] H Q := by kernel_rfl
theorem w119_ok (hT : Has T) {x0 : AV} {H : AH} {Q : AV → AH → Prop} (h : w119 (Den.of T) Q x0 H) : ∃ v H', Den.of T 119 [x0] H = some (v, H') ∧ Q v H' :=
  wpF_ok (hT _ ir119 rfl) (by rw [w119_eq] at h; exact h)

-- math/bits.Len64
def w120 (D : Den) (Q : AV → AH → Prop) (x0 : AV) (H : AH) : Prop :=
 jP 2 (fun x0_1 x2 H1 =>
 jP 2 (fun x0_2 x2_1 H2 =>
 jP 2 (fun x0_3 x2_2 H3 =>
 gP (aCv .u8 x0_3) fun x21 =>
 gP (aIdxStr (.str [0, 1, 2, 2, 3, 3, 3, 3, 4, 4, 4, 4, 4, 4, 4, 4, 5, 5, 5, 5, 5, 5, 5, 5, 5, 5, 5, 5, 5, 5, 5, 5, 6, 6, 6, 6, 6, 6, 6, 6, 6, 6, 6, 6, 6, 6, 6, 6, 6, 6, 6, 6, 6, 6, 6, 6, 6, 6, 6, 6, 6, 6, 6, 6, 7, 7, 7, 7, 7, 7, 7, 7, 7, 7, 7, 7, 7, 7, 7, 7, 7, 7, 7, 7, 7, 7, 7, 7, 7, 7, 7, 7, 7, 7, 7, 7, 7, 7, 7, 7, 7, 7, 7, 7, 7, 7, 7, 7, 7, 7, 7, 7, 7, 7, 7, 7, 7, 7, 7, 7, 7, 7, 7, 7, 7, 7, 7, 7, 8, 8, 8, 8, 8, 8, 8, 8, 8, 8, 8, 8, 8, 8, 8, 8, 8, 8, 8, 8, 8, 8, 8, 8, 8, 8, 8, 8, 8, 8, 8, 8, 8, 8, 8, 8, 8, 8, 8, 8, 8, 8, 8, 8, 8, 8, 8, 8, 8, 8, 8, 8, 8, 8, 8, 8, 8, 8, 8, 8, 8, 8, 8, 8, 8, 8, 8, 8, 8, 8, 8, 8, 8, 8, 8, 8, 8, 8, 8, 8, 8, 8, 8, 8, 8, 8, 8, 8, 8, 8, 8, 8, 8, 8, 8, 8, 8, 8, 8, 8, 8, 8, 8, 8, 8, 8, 8, 8, 8, 8, 8, 8, 8, 8, 8, 8, 8, 8, 8, 8, 8, 8, 8, 8, 8, 8, 8, 8]) x21) fun x22 =>
 gP (aCv .i64 x22) fun x23 =>
 gP (aBin .add x2_2 x23) fun x24 =>
 Q x24 H3) fun j1 =>
 gP (aBin .geq x0_2 (.int .u64 256)) fun x14 =>
 iP x14
 ( gP (aBin .shr x0_2 (.int .u64 8)) fun x16 =>
 gP (aBin .add x2_1 (.int .i64 8)) fun x18 =>
 j1 x16 x18 H2)
 ( j1 x0_2 x2_1 H2)) fun j2 =>
 gP (aBin .geq x0_1 (.int .u64 65536)) fun x8 =>
 iP x8
 ( gP (aBin .shr x0_1 (.int .u64 16)) fun x10 =>
 gP (aBin .add x2 (.int .i64 16)) fun x12 =>
 j2 x10 x12 H1)
 ( j2 x0_1 x2 H1)) fun j3 =>
 gP (aBin .geq x0 (.int .u64 4294967296)) fun x4 =>
 iP x4
 ( gP (aBin .shr x0 (.int .u64 32)) fun x6 =>
 j3 x6 (.int .i64 32) H)
 ( j3 x0 (.int .i64 0) H)
theorem w120_eq : w120 = fun D Q x0 H => wpF D ir120 [x0] H Q := by kernel_rfl
theorem w120_ok (hT : Has T) {x0 : AV} {H : AH} {Q : AV → AH → Prop} (h : w120 (Den.of T) Q x0 H) : ∃ v H', Den.of T 120 [x0] H = some (v, H') ∧ Q v H' :=
  wpF_ok (hT _ ir120 rfl) (by rw [w120_eq] at h; exact h)

-- internal/strconv.bool2[int]
def w121 (D : Den) (Q : AV → AH → Prop) (x0 : AV) (H : AH) : Prop :=
 iP x0
 ( Q (.int .i64 1) H)
 ( Q (.int .i64 0) H)
theorem w121_eq : w121 = fun D Q x0 H => wpF D ir121 [x0] H Q := by kernel_rfl
theorem w121_ok (hT : Has T) {x0 : AV} {H : AH} {Q : AV → AH → Prop} (h : w121 (Den.of T) Q x0 H) : ∃ v H', Den.of T 121 [x0] H = some (v, H') ∧ Q v H' :=
  wpF_ok (hT _ ir121 rfl) (by rw [w121_eq] at h; exact h)

-- internal/strconv.isPowerOfTwo
def w122 (D : Den) (Q : AV → AH → Prop) (x0 : AV) (H : AH) : Prop :=
 gP (aBin .sub x0 (.int .i64 1)) fun x5 =>
 gP (aBin .and x0 x5) fun x6 =>
 gP (aBin .eql x6 (.int .i64 0)) fun x7 =>
 Q x7 H
theorem w122_eq : w122 = fun D Q x0 H => wpF D ir122 [x0] H Q := by kernel_rfl
theorem w122_ok (hT : Has T) {x0 : AV} {H : AH} {Q : AV → AH → Prop} (h : w122 (Den.of T) Q x0 H) : ∃ v H', Den.of T 122 [x0] H = some (v, H') ∧ Q v H' :=
  wpF_ok (hT _ ir122 rfl) (by rw [w122_eq] at h; exact h)

-- math/bits.TrailingZeros
def w123 (D : Den) (Q : AV → AH → Prop) (x0 : AV) (H : AH) : Prop :=
 iP (.bool false)
 ( gP (aCv .u32 x0) fun x4 =>
 cP D 125 [x4] H fun x5 H1 =>
 Q x5 H1)
 ( cP D 126 [x0] H fun x7 H2 =>
 Q x7 H2)
theorem w123_eq : w123 = fun D Q x0 H => wpF D ir123 [x0] H Q := by kernel_rfl
theorem w123_ok (hT : Has T) {x0 : AV} {H : AH} {Q : AV → AH → Prop} (h : w123 (Den.of T) Q x0 H) : ∃ v H', Den.of T 123 [x0] H = some (v, H') ∧ Q v H' :=
  wpF_ok (hT _ ir123 rfl) (by rw [w123_eq] at h; exact h)

-- internal/bytealg.hashStr[string]
def w124 (D : Den) (Q : AV → AH → Prop) (x0 : AV) (H : AH) : Prop :=
 lP 2 (fun s1 x4 x5 H1 =>
 gP (aLen .str x0 H1) fun x11 =>
 gP (aBin .lss x5 x11) fun x12 =>
 iP x12
 ( gP (aBin .mul x4 (.int .u32 16777619)) fun x16 =>
 gP (aIdxStr x0 x5) fun x19 =>
 gP (aCv .u32 x19) fun x20 =>
 gP (aBin .add x16 x20) fun x21 =>
 gP (aBin .add x5 (.int .i64 1)) fun x14 =>
 s1 x21 x14 H1)
 ( gP (aLen .str x0 H1) fun x23 =>
 lP 3 (fun s2 x6 x7 x8 H2 =>
 gP (aBin .gtr x8 (.int .i64 0)) fun x25 =>
 iP x25
 ( jP 1 (fun x6_1 H3 =>
 gP (aBin .mul x7 x7) fun x36 =>
 gP (aBin .shr x8 (.int .u64 1)) fun x27 =>
 s2 x6_1 x36 x27 H3) fun j3 =>
 gP (aBin .and x8 (.int .i64 1)) fun x29 =>
 gP (aBin .neq x29 (.int .i64 0)) fun x30 =>
 iP x30
 ( gP (aBin .mul x6 x7) fun x33 =>
 j3 x33 H2)
 ( j3 x6 H2))
 ( Q (.tup [x4, x6]) H2)) [(.int .u32 1), (.int .u32 16777619), x23] H1)) [(.int .u32 0), (.int .i64 0)] H
theorem w124_eq : w124 = fun D Q x0 H => wpF D ir124 [x0] H Q := by kernel_rfl
theorem w124_ok (hT : Has T) {x0 : AV} {H : AH} {Q : AV → AH → Prop} (h : w124 (Den.of T) Q x0 H) : ∃ v H', Den.of T 124 [x0] H = some (v, H') ∧ Q v H' :=
  wpF_ok (hT _ ir124 rfl) (by rw [w124_eq] at h; exact h)

end Go.SV
