/- The program's functions as formulas; each is checked by the kernel against its translation. Printed by a program of the prover's own. -/
import Derived.Test.YtaimiohndbajjaaDoorIr
set_option maxRecDepth 100000
namespace Go.SV
open Go.Proofs

variable {T : Nat → Option Entry}

-- grille/grillelaw02.ScalarPlain
def w5 (D : Den) (Q : AV → AH → Prop) (x0 : AV) (H : AH) : Prop :=
 cP D 8 [] H fun x3 H1 =>
 gP (aNot x3) fun x4 =>
 iP x4
 ( Q (.bool false) H1)
 ( jP 1 (fun x12 H2 =>
 iP x12
 ( Q (.bool true) H2)
 ( jP 1 (fun x43 H3 =>
 iP x43
 ( Q (.bool false) H3)
 ( gP (aBin .add x0 (.str [58])) fun x45 =>
 cP D 16 [x45] H3 fun x46 H4 =>
 gP (aNot x46) fun x47 =>
 dP x47 true
 ( gP (aBin .add x0 (.str [32])) fun x50 =>
 cP D 16 [x50] H4 fun x51 H5 =>
 gP (aNot x51) fun x52 =>
 dP x52 true
 ( gP (aBin .add (.str [32]) x0) fun x56 =>
 cP D 16 [x56] H5 fun x57 H6 =>
 gP (aNot x57) fun x58 =>
 dP x58 true
 ( gP (aBin .add x0 (.str [32, 35])) fun x62 =>
 cP D 16 [x62] H6 fun x63 H7 =>
 gP (aNot x63) fun x64 =>
 dP x64 true
 ( gP (aBin .add x0 (.str [44])) fun x68 =>
 cP D 16 [x68] H7 fun x69 H8 =>
 gP (aNot x69) fun x70 =>
 dP x70 true
 ( gP (aBin .add x0 (.str [120])) fun x74 =>
 cP D 16 [x74] H8 fun x75 H9 =>
 dP x75 true
 ( gP (aBin .add x0 (.str [32, 120])) fun x79 =>
 cP D 16 [x79] H9 fun x80 H10 =>
 Q x80 H10)
 ( Q (.bool false) H9))
 ( Q (.bool false) H8))
 ( Q (.bool false) H7))
 ( Q (.bool false) H6))
 ( Q (.bool false) H5))
 ( Q (.bool false) H4))) fun j1 =>
 cP D 17 [x0, (.str [10, 13, 9, 44, 91, 93, 123, 125])] H2 fun x14 H11 =>
 dP x14 false
 ( gP (aIdxStr x0 (.int .i64 0)) fun x17 =>
 gP (aBin .eql x17 (.int .u8 32)) fun x18 =>
 dP x18 false
 ( gP (aLen .str x0 H11) fun x23 =>
 gP (aBin .sub x23 (.int .i64 1)) fun x24 =>
 gP (aIdxStr x0 x24) fun x25 =>
 gP (aBin .eql x25 (.int .u8 32)) fun x26 =>
 dP x26 false
 ( cP D 15 [x0, (.str [58, 32])] H11 fun x30 H12 =>
 dP x30 false
 ( cP D 15 [x0, (.str [32, 35])] H12 fun x34 H13 =>
 dP x34 false
 ( gP (aLen .str x0 H13) fun x39 =>
 gP (aBin .sub x39 (.int .i64 1)) fun x40 =>
 gP (aIdxStr x0 x40) fun x41 =>
 gP (aBin .eql x41 (.int .u8 58)) fun x42 =>
 j1 x42 H13)
 ( j1 (.bool true) H13))
 ( j1 (.bool true) H12))
 ( j1 (.bool true) H11))
 ( j1 (.bool true) H11))
 ( j1 (.bool true) H11))) fun j2 =>
 gP (aLen .str x0 H1) fun x6 =>
 gP (aBin .gtr x6 (.int .i64 1000)) fun x7 =>
 dP x7 false
 ( cP D 16 [x0] H1 fun x10 H14 =>
 gP (aNot x10) fun x11 =>
 j2 x11 H14)
 ( j2 (.bool true) H1))
theorem w5_eq : w5 = fun D Q x0 H => wpF D ir5 [x0] H Q := by kernel_rfl
theorem w5_ok (hT : Has T) {x0 : AV} {H : AH} {Q : AV → AH → Prop} (h : w5 (Den.of T) Q x0 H) : ∃ v H', Den.of T 5 [x0] H = some (v, H') ∧ Q v H' :=
  wpF_ok (hT _ ir5 rfl) (by rw [w5_eq] at h; exact h)

-- grille/grillelaw02.alive
def w8 (D : Den) (Q : AV → AH → Prop) (H : AH) : Prop :=
 cP D 11 [(.str [34, 97, 92, 110, 92, 120, 52, 49, 34])] H fun x12 H1 =>
 gP (aExtract 0 x12) fun x13 =>
 gP (aExtract 1 x12) fun x14 =>
 cP D 13 [(.str [105, 116, 39, 115])] H1 fun x16 H2 =>
 gP (aExtract 0 x16) fun x17 =>
 gP (aExtract 1 x16) fun x18 =>
 cP D 14 [x17] H2 fun x21 H3 =>
 gP (aExtract 0 x21) fun x22 =>
 gP (aExtract 1 x21) fun x23 =>
 cP D 12 [(.str [39, 97, 39, 39, 98, 39, 32, 99])] H3 fun x25 H4 =>
 gP (aExtract 0 x25) fun x26 =>
 gP (aExtract 1 x25) fun x27 =>
 cP D 11 [(.str [34, 92, 113, 34])] H4 fun x29 H5 =>
 gP (aExtract 0 x29) fun x30 =>
 gP (aExtract 1 x29) fun x31 =>
 cP D 10 [(.str [97, 10])] H5 fun x32 H6 =>
 gP (aBin .eql x32 (.str [34, 97, 92, 110, 34])) fun x33 =>
 dP x33 true
 ( gP (aBin .eql x13 (.str [97, 10, 65])) fun x36 =>
 dP x36 true
 ( gP (aBin .eql x14 (.int .i64 0)) fun x40 =>
 dP x40 true
 ( gP (aBin .eql x17 (.str [39, 105, 116, 39, 39, 115, 39])) fun x44 =>
 dP x44 true
 ( gP (aBin .eql x18 (.int .i64 0)) fun x48 =>
 dP x48 true
 ( gP (aBin .eql x22 (.str [105, 116, 39, 115])) fun x52 =>
 dP x52 true
 ( gP (aBin .eql x23 (.int .i64 0)) fun x56 =>
 dP x56 true
 ( gP (aBin .eql x26 (.int .i64 6)) fun x60 =>
 dP x60 true
 ( gP (aBin .eql x27 (.int .i64 0)) fun x64 =>
 dP x64 true
 ( gP (aBin .eql x31 (.int .i64 10)) fun x68 =>
 dP x68 true
 ( cP D 16 [(.str [97, 32, 98])] H6 fun x71 H7 =>
 dP x71 true
 ( cP D 16 [(.str [97, 58, 32, 98])] H7 fun x74 H8 =>
 gP (aNot x74) fun x75 =>
 Q x75 H8)
 ( Q (.bool false) H7))
 ( Q (.bool false) H6))
 ( Q (.bool false) H6))
 ( Q (.bool false) H6))
 ( Q (.bool false) H6))
 ( Q (.bool false) H6))
 ( Q (.bool false) H6))
 ( Q (.bool false) H6))
 ( Q (.bool false) H6))
 ( Q (.bool false) H6))
 ( Q (.bool false) H6)
theorem w8_eq : w8 = fun D Q H => wpF D ir8 [] H Q := by kernel_rfl
theorem w8_ok (hT : Has T) {H : AH} {Q : AV → AH → Prop} (h : w8 (Den.of T) Q H) : ∃ v H', Den.of T 8 [] H = some (v, H') ∧ Q v H' :=
  wpF_ok (hT _ ir8 rfl) (by rw [w8_eq] at h; exact h)

-- grille/scalar.Quote
def w10 (D : Den) (Q : AV → AH → Prop) (x0 : AV) (H : AH) : Prop :=
 cP D 21 [x0] H fun x8 H1 =>
 gP (aNot x8) fun x9 =>
 iP x9
 ( Q (.str []) H1)
 ( aP [.bnil, .nils] H1 fun x3 H2 =>
 cP D 22 [x3, (.int .u8 34)] H2 fun x10 H3 =>
 sP (aop [] (.rangeS (.cst x0)) H3) fun x12 H4 =>
 lP 0 (fun s1 H5 =>
 sP (aop [] (.nextS (.cst x12)) H5) fun x13 H6 =>
 gP (aExtract 0 x13) fun x14 =>
 iP x14
 ( gP (aExtract 2 x13) fun x15 =>
 cP D 23 [x15] H6 fun x17 H7 =>
 gP (aBin .neq x17 (.int .u8 0)) fun x22 =>
 iP x22
 ( cP D 22 [x3, (.int .u8 92)] H7 fun x23 H8 =>
 cP D 22 [x3, x17] H8 fun x25 H9 =>
 s1 H9)
 ( cP D 18 [x15] H7 fun x28 H10 =>
 iP x28
 ( cP D 24 [x3, x15] H10 fun x30 H11 =>
 s1 H11)
 ( gP (aBin .lss x15 (.int .i32 256)) fun x33 =>
 iP x33
 ( cP D 25 [x3, (.int .u8 120), x15, (.int .i64 2)] H10 fun x35 H12 =>
 s1 H12)
 ( gP (aBin .lss x15 (.int .i32 65536)) fun x38 =>
 iP x38
 ( cP D 25 [x3, (.int .u8 117), x15, (.int .i64 4)] H10 fun x40 H13 =>
 s1 H13)
 ( cP D 25 [x3, (.int .u8 85), x15, (.int .i64 8)] H10 fun x19 H14 =>
 s1 H14)))))
 ( cP D 22 [x3, (.int .u8 34)] H6 fun x41 H15 =>
 cP D 26 [x3] H15 fun x42 H16 =>
 Q x42 H16)) [] H4)
theorem w10_eq : w10 = fun D Q x0 H => wpF D ir10 [x0] H Q := by kernel_rfl
theorem w10_ok (hT : Has T) {x0 : AV} {H : AH} {Q : AV → AH → Prop} (h : w10 (Den.of T) Q x0 H) : ∃ v H', Den.of T 10 [x0] H = some (v, H') ∧ Q v H' :=
  wpF_ok (hT _ ir10 rfl) (by rw [w10_eq] at h; exact h)

-- grille/scalar.Unquote
def w11 (D : Den) (Q : AV → AH → Prop) (x0 : AV) (H : AH) : Prop :=
 gP (aLen .str x0 H) fun x11 =>
 jP 1 (fun x30 H1 =>
 iP x30
 ( Q (.tup [(.str []), (.int .i64 10)]) H1)
 ( aP [.bnil, .nils] H1 fun x5 H2 =>
 gP (aBin .sub x11 (.int .i64 1)) fun x33 =>
 gP (aSlcS x0 (some (.int .i64 1)) (some x33)) fun x34 =>
 lP 1 (fun s1 x6 H3 =>
 gP (aBin .neq x6 (.str [])) fun x36 =>
 iP x36
 ( gP (aIdxStr x6 (.int .i64 0)) fun x38 =>
 jP 1 (fun x44 H4 =>
 iP x44
 ( Q (.tup [(.str []), (.int .i64 10)]) H4)
 ( gP (aBin .eql x38 (.int .u8 92)) fun x48 =>
 iP x48
 ( gP (aSlcS x6 (some (.int .i64 1)) none) fun x51 =>
 cP D 27 [x51] H4 fun x52 H5 =>
 gP (aExtract 0 x52) fun x53 =>
 gP (aExtract 1 x52) fun x54 =>
 gP (aExtract 2 x52) fun x55 =>
 gP (aNot x55) fun x57 =>
 iP x57
 ( Q (.tup [(.str []), (.int .i64 10)]) H5)
 ( cP D 24 [x5, x53] H5 fun x59 H6 =>
 gP (aBin .add (.int .i64 1) x54) fun x62 =>
 gP (aSlcS x6 (some x62) none) fun x63 =>
 s1 x63 H6))
 ( gP (aIdxStr x6 (.int .i64 0)) fun x40 =>
 cP D 22 [x5, x40] H4 fun x41 H7 =>
 gP (aSlcS x6 (some (.int .i64 1)) none) fun x43 =>
 s1 x43 H7))) fun j2 =>
 gP (aBin .eql x38 (.int .u8 34)) fun x45 =>
 iP x45
 ( j2 x45 H3)
 ( gP (aBin .eql x38 (.int .u8 10)) fun x46 =>
 j2 x46 H3))
 ( cP D 26 [x5] H3 fun x64 H8 =>
 Q (.tup [x64, (.int .i64 0)]) H8)) [x34] H2)) fun j3 =>
 cP D 21 [x0] H fun x13 H9 =>
 gP (aNot x13) fun x14 =>
 dP x14 false
 ( gP (aBin .lss x11 (.int .i64 2)) fun x17 =>
 dP x17 false
 ( gP (aIdxStr x0 (.int .i64 0)) fun x21 =>
 gP (aBin .neq x21 (.int .u8 34)) fun x22 =>
 dP x22 false
 ( gP (aBin .sub x11 (.int .i64 1)) fun x27 =>
 gP (aIdxStr x0 x27) fun x28 =>
 gP (aBin .neq x28 (.int .u8 34)) fun x29 =>
 j3 x29 H9)
 ( j3 (.bool true) H9))
 ( j3 (.bool true) H9))
 ( j3 (.bool true) H9)
theorem w11_eq : w11 = fun D Q x0 H => wpF D ir11 [x0] H Q := by kernel_rfl
theorem w11_ok (hT : Has T) {x0 : AV} {H : AH} {Q : AV → AH → Prop} (h : w11 (Den.of T) Q x0 H) : ∃ v H', Den.of T 11 [x0] H = some (v, H') ∧ Q v H' :=
  wpF_ok (hT _ ir11 rfl) (by rw [w11_eq] at h; exact h)

-- grille/scalar.End
def w12 (D : Den) (Q : AV → AH → Prop) (x0 : AV) (H : AH) : Prop :=
 jP 1 (fun x17 H1 =>
 iP x17
 ( Q (.tup [(.int .i64 0), (.int .i64 10)]) H1)
 ( lP 1 (fun s1 x4 H2 =>
 gP (aLen .str x0 H2) fun x20 =>
 gP (aBin .lss x4 x20) fun x21 =>
 iP x21
 ( jP 1 (fun x4_1 H3 =>
 gP (aBin .add x4_1 (.int .i64 1)) fun x23 =>
 s1 x23 H3) fun j2 =>
 gP (aIdxStr x0 (.int .i64 0)) fun x25 =>
 gP (aBin .eql x25 (.int .u8 34)) fun x26 =>
 jP 1 (fun x27 H4 =>
 iP x27
 ( gP (aBin .add x4 (.int .i64 1)) fun x36 =>
 j2 x36 H4)
 ( jP 1 (fun x37 H5 =>
 iP x37
 ( gP (aBin .add x4 (.int .i64 1)) fun x47 =>
 j2 x47 H5)
 ( gP (aIdxStr x0 x4) fun x51 =>
 gP (aIdxStr x0 (.int .i64 0)) fun x53 =>
 gP (aBin .eql x51 x53) fun x54 =>
 iP x54
 ( gP (aBin .add x4 (.int .i64 1)) fun x56 =>
 Q (.tup [x56, (.int .i64 0)]) H5)
 ( j2 x4 H5))) fun j3 =>
 gP (aNot x26) fun x39 =>
 dP x39 true
 ( gP (aSlcS x0 (some x4) none) fun x43 =>
 cP D 28 [x43, (.str [39, 39])] H4 fun x44 H6 =>
 j3 x44 H6)
 ( j3 (.bool false) H4))) fun j4 =>
 dP x26 true
 ( gP (aIdxStr x0 x4) fun x32 =>
 gP (aBin .eql x32 (.int .u8 92)) fun x33 =>
 j4 x33 H2)
 ( j4 (.bool false) H2))
 ( Q (.tup [(.int .i64 0), (.int .i64 10)]) H2)) [(.int .i64 1)] H1)) fun j5 =>
 gP (aBin .eql x0 (.str [])) fun x7 =>
 dP x7 false
 ( gP (aIdxStr x0 (.int .i64 0)) fun x10 =>
 gP (aBin .neq x10 (.int .u8 34)) fun x11 =>
 dP x11 true
 ( gP (aIdxStr x0 (.int .i64 0)) fun x14 =>
 gP (aBin .neq x14 (.int .u8 39)) fun x15 =>
 j5 x15 H)
 ( j5 (.bool false) H))
 ( j5 (.bool true) H)
theorem w12_eq : w12 = fun D Q x0 H => wpF D ir12 [x0] H Q := by kernel_rfl
theorem w12_ok (hT : Has T) {x0 : AV} {H : AH} {Q : AV → AH → Prop} (h : w12 (Den.of T) Q x0 H) : ∃ v H', Den.of T 12 [x0] H = some (v, H') ∧ Q v H' :=
  wpF_ok (hT _ ir12 rfl) (by rw [w12_eq] at h; exact h)

-- grille/scalar.Single
def w13 (D : Den) (Q : AV → AH → Prop) (x0 : AV) (H : AH) : Prop :=
 jP 1 (fun x12 H1 =>
 iP x12
 ( Q (.tup [(.str []), (.int .i64 10)]) H1)
 ( cP D 31 [x0, (.str [39]), (.str [39, 39])] H1 fun x14 H2 =>
 gP (aBin .add (.str [39]) x14) fun x15 =>
 gP (aBin .add x15 (.str [39])) fun x16 =>
 Q (.tup [x16, (.int .i64 0)]) H2)) fun j1 =>
 cP D 21 [x0] H fun x6 H3 =>
 gP (aNot x6) fun x7 =>
 dP x7 false
 ( cP D 30 [x0, (.fn (.func 29) [] [])] H3 fun x11 H4 =>
 j1 x11 H4)
 ( j1 (.bool true) H3)
theorem w13_eq : w13 = fun D Q x0 H => wpF D ir13 [x0] H Q := by kernel_rfl
theorem w13_ok (hT : Has T) {x0 : AV} {H : AH} {Q : AV → AH → Prop} (h : w13 (Den.of T) Q x0 H) : ∃ v H', Den.of T 13 [x0] H = some (v, H') ∧ Q v H' :=
  wpF_ok (hT _ ir13 rfl) (by rw [w13_eq] at h; exact h)

-- grille/scalar.Unsingle
def w14 (D : Den) (Q : AV → AH → Prop) (x0 : AV) (H : AH) : Prop :=
 gP (aLen .str x0 H) fun x8 =>
 gP (aBin .lss x8 (.int .i64 2)) fun x9 =>
 iP x9
 ( Q (.tup [(.str []), (.int .i64 10)]) H)
 ( gP (aLen .str x0 H) fun x12 =>
 gP (aBin .sub x12 (.int .i64 1)) fun x13 =>
 gP (aSlcS x0 (some (.int .i64 1)) (some x13)) fun x14 =>
 cP D 31 [x14, (.str [39, 39]), (.str [39])] H fun x15 H1 =>
 cP D 13 [x15] H1 fun x18 H2 =>
 gP (aExtract 0 x18) fun x19 =>
 gP (aExtract 1 x18) fun x20 =>
 jP 1 (fun x27 H3 =>
 iP x27
 ( Q (.tup [(.str []), (.int .i64 10)]) H3)
 ( Q (.tup [x15, (.int .i64 0)]) H3)) fun j1 =>
 gP (aBin .neq x20 (.int .i64 0)) fun x22 =>
 dP x22 false
 ( gP (aBin .neq x19 x0) fun x26 =>
 j1 x26 H2)
 ( j1 (.bool true) H2))
theorem w14_eq : w14 = fun D Q x0 H => wpF D ir14 [x0] H Q := by kernel_rfl
theorem w14_ok (hT : Has T) {x0 : AV} {H : AH} {Q : AV → AH → Prop} (h : w14 (Den.of T) Q x0 H) : ∃ v H', Den.of T 14 [x0] H = some (v, H') ∧ Q v H' :=
  wpF_ok (hT _ ir14 rfl) (by rw [w14_eq] at h; exact h)

-- grille/scalar.Plain
def w16 (D : Den) (Q : AV → AH → Prop) (x0 : AV) (H : AH) : Prop :=
 jP 1 (fun x4 H1 =>
 iP x4
 ( Q (.bool false) H1)
 ( jP 1 (fun x20 H2 =>
 iP x20
 ( Q (.bool false) H2)
 ( jP 1 (fun x34 H3 =>
 iP x34
 ( Q (.bool false) H3)
 ( cP D 15 [x0, (.str [58, 32])] H3 fun x42 H4 =>
 gP (aNot x42) fun x43 =>
 dP x43 true
 ( cP D 15 [x0, (.str [32, 35])] H4 fun x46 H5 =>
 gP (aNot x46) fun x47 =>
 Q x47 H5)
 ( Q (.bool false) H4))) fun j1 =>
 cP D 36 [x0, (.str [32])] H2 fun x36 H6 =>
 dP x36 false
 ( cP D 36 [x0, (.str [58])] H6 fun x39 H7 =>
 j1 x39 H7)
 ( j1 (.bool true) H6))) fun j2 =>
 gP (aIdxStr x0 (.int .i64 0)) fun x22 =>
 cP D 34 [(.str [45, 63, 58, 44, 91, 93, 123, 125, 35, 38, 42, 33, 124, 62, 39, 34, 37, 64, 96, 32]), x22] H1 fun x23 H8 =>
 gP (aBin .geq x23 (.int .i64 0)) fun x24 =>
 dP x24 false
 ( cP D 35 [x0, (.str [9, 10, 13, 44, 91, 93, 123, 125])] H8 fun x27 H9 =>
 dP x27 false
 ( cP D 30 [x0, (.fn (.func 33) [] [])] H9 fun x32 H10 =>
 j2 x32 H10)
 ( j2 (.bool true) H9))
 ( j2 (.bool true) H8))) fun j3 =>
 gP (aBin .eql x0 (.str [])) fun x6 =>
 dP x6 false
 ( gP (aBin .eql x0 (.str [45, 45, 45])) fun x9 =>
 dP x9 false
 ( gP (aBin .eql x0 (.str [46, 46, 46])) fun x13 =>
 dP x13 false
 ( cP D 21 [x0] H fun x17 H11 =>
 gP (aNot x17) fun x18 =>
 j3 x18 H11)
 ( j3 (.bool true) H))
 ( j3 (.bool true) H))
 ( j3 (.bool true) H)
theorem w16_eq : w16 = fun D Q x0 H => wpF D ir16 [x0] H Q := by kernel_rfl
theorem w16_ok (hT : Has T) {x0 : AV} {H : AH} {Q : AV → AH → Prop} (h : w16 (Den.of T) Q x0 H) : ∃ v H', Den.of T 16 [x0] H = some (v, H') ∧ Q v H' :=
  wpF_ok (hT _ ir16 rfl) (by rw [w16_eq] at h; exact h)

-- grille/text.May
def w18 (D : Den) (Q : AV → AH → Prop) (x0 : AV) (H : AH) : Prop :=
 jP 1 (fun x3 H1 =>
 iP x3
 ( Q (.bool true) H1)
 ( jP 1 (fun x18 H2 =>
 iP x18
 ( Q (.bool false) H2)
 ( gP (aBin .geq x0 (.int .i32 32)) fun x30 =>
 dP x30 true
 ( gP (aBin .lss x0 (.int .i32 127)) fun x33 =>
 dP x33 false
 ( gP (aBin .geq x0 (.int .i32 160)) fun x37 =>
 dP x37 true
 ( cP D 38 [x0] H2 fun x40 H3 =>
 Q x40 H3)
 ( Q (.bool false) H2))
 ( Q (.bool true) H2))
 ( gP (aBin .geq x0 (.int .i32 160)) fun x37_1 =>
 dP x37_1 true
 ( cP D 38 [x0] H2 fun x40_1 H4 =>
 Q x40_1 H4)
 ( Q (.bool false) H2)))) fun j1 =>
 gP (aBin .eql x0 (.int .i32 65279)) fun x20 =>
 dP x20 false
 ( gP (aBin .eql x0 (.int .i32 65534)) fun x23 =>
 dP x23 false
 ( gP (aBin .eql x0 (.int .i32 65535)) fun x27 =>
 j1 x27 H1)
 ( j1 (.bool true) H1))
 ( j1 (.bool true) H1))) fun j2 =>
 gP (aBin .eql x0 (.int .i32 9)) fun x5 =>
 dP x5 false
 ( gP (aBin .eql x0 (.int .i32 10)) fun x8 =>
 dP x8 false
 ( gP (aBin .eql x0 (.int .i32 13)) fun x12 =>
 dP x12 false
 ( gP (aBin .eql x0 (.int .i32 133)) fun x16 =>
 j2 x16 H)
 ( j2 (.bool true) H))
 ( j2 (.bool true) H))
 ( j2 (.bool true) H)
theorem w18_eq : w18 = fun D Q x0 H => wpF D ir18 [x0] H Q := by kernel_rfl
theorem w18_ok (hT : Has T) {x0 : AV} {H : AH} {Q : AV → AH → Prop} (h : w18 (Den.of T) Q x0 H) : ∃ v H', Den.of T 18 [x0] H = some (v, H') ∧ Q v H' :=
  wpF_ok (hT _ ir18 rfl) (by rw [w18_eq] at h; exact h)

-- (*strings.Builder).WriteByte
def w22 (D : Den) (Q : AV → AH → Prop) (x0 x1 : AV) (H : AH) : Prop :=
 cP D 47 [x0] H fun x6 H1 =>
 gP (aNilck x0) fun x9 =>
 gP (aFieldAddr 1 x9) fun x10 =>
 gP (aLoad none x10 H1) fun x11 =>
 sP (aLit .ro 1 [x1] H1) fun x13 H2 =>
 sP (aAppend .tok 1 (1, 5) x11 x13 H2) fun x14 H3 =>
 gP (aNilck x0) fun x15 =>
 gP (aFieldAddr 1 x15) fun x16 =>
 hP (aStore 1 x16 x14 H3) fun H4 =>
 Q .niliface H4
theorem w22_eq : w22 = fun D Q x0 x1 H => wpF D ir22 [x0, x1] H Q := by kernel_rfl
theorem w22_ok (hT : Has T) {x0 x1 : AV} {H : AH} {Q : AV → AH → Prop} (h : w22 (Den.of T) Q x0 x1 H) : ∃ v H', Den.of T 22 [x0, x1] H = some (v, H') ∧ Q v H' :=
  wpF_ok (hT _ ir22 rfl) (by rw [w22_eq] at h; exact h)

-- grille/scalar.letter
def w23 (D : Den) (Q : AV → AH → Prop) (x0 : AV) (H : AH) : Prop :=
 sP (aop [] (.rangeS (.cst (.str [0, 7, 8, 9, 10, 11, 12, 13, 27, 34, 92, 194, 133, 194, 160, 226, 128, 168, 226, 128, 169]))) H) fun x6 H1 =>
 lP 1 (fun s1 x3 H2 =>
 sP (aop [] (.nextS (.cst x6)) H2) fun x7 H3 =>
 gP (aExtract 0 x7) fun x8 =>
 iP x8
 ( gP (aExtract 2 x7) fun x9 =>
 gP (aBin .eql x9 x0) fun x12 =>
 iP x12
 ( gP (aIdxStr (.str [48, 97, 98, 116, 110, 118, 102, 114, 101, 34, 92, 78, 95, 76, 80]) x3) fun x14 =>
 Q x14 H3)
 ( gP (aBin .add x3 (.int .i64 1)) fun x16 =>
 s1 x16 H3))
 ( Q (.int .u8 0) H3)) [(.int .i64 0)] H1
theorem w23_eq : w23 = fun D Q x0 H => wpF D ir23 [x0] H Q := by kernel_rfl
theorem w23_ok (hT : Has T) {x0 : AV} {H : AH} {Q : AV → AH → Prop} (h : w23 (Den.of T) Q x0 H) : ∃ v H', Den.of T 23 [x0] H = some (v, H') ∧ Q v H' :=
  wpF_ok (hT _ ir23 rfl) (by rw [w23_eq] at h; exact h)

-- (*strings.Builder).WriteRune
def w24 (D : Den) (Q : AV → AH → Prop) (x0 x1 : AV) (H : AH) : Prop :=
 cP D 47 [x0] H fun x8 H1 =>
 gP (aNilck x0) fun x10 =>
 gP (aFieldAddr 1 x10) fun x11 =>
 gP (aLoad none x11 H1) fun x12 =>
 gP (aLen .row x12 H1) fun x13 =>
 gP (aNilck x0) fun x16 =>
 gP (aFieldAddr 1 x16) fun x17 =>
 gP (aLoad none x17 H1) fun x18 =>
 cP D 48 [x18, x1] H1 fun x20 H2 =>
 gP (aNilck x0) fun x21 =>
 gP (aFieldAddr 1 x21) fun x22 =>
 hP (aStore 1 x22 x20 H2) fun H3 =>
 gP (aNilck x0) fun x24 =>
 gP (aFieldAddr 1 x24) fun x25 =>
 gP (aLoad none x25 H3) fun x26 =>
 gP (aLen .row x26 H3) fun x27 =>
 gP (aBin .sub x27 x13) fun x29 =>
 Q (.tup [x29, .niliface]) H3
theorem w24_eq : w24 = fun D Q x0 x1 H => wpF D ir24 [x0, x1] H Q := by kernel_rfl
theorem w24_ok (hT : Has T) {x0 x1 : AV} {H : AH} {Q : AV → AH → Prop} (h : w24 (Den.of T) Q x0 x1 H) : ∃ v H', Den.of T 24 [x0, x1] H = some (v, H') ∧ Q v H' :=
  wpF_ok (hT _ ir24 rfl) (by rw [w24_eq] at h; exact h)

-- grille/scalar.digits
def w25 (D : Den) (Q : AV → AH → Prop) (x0 x1 x2 x3 : AV) (H : AH) : Prop :=
 cP D 22 [x0, (.int .u8 92)] H fun x10 H1 =>
 cP D 22 [x0, x1] H1 fun x13 H2 =>
 gP (aBin .sub x3 (.int .i64 1)) fun x15 =>
 lP 1 (fun s1 x8 H3 =>
 gP (aBin .geq x8 (.int .i64 0)) fun x17 =>
 iP x17
 ( gP (aBin .mul (.int .i64 4) x8) fun x23 =>
 gP (aBin .shr x2 x23) fun x24 =>
 gP (aBin .and x24 (.int .i32 15)) fun x25 =>
 gP (aIdxStr (.str [48, 49, 50, 51, 52, 53, 54, 55, 56, 57, 97, 98, 99, 100, 101, 102]) x25) fun x26 =>
 cP D 22 [x0, x26] H3 fun x27 H4 =>
 gP (aBin .sub x8 (.int .i64 1)) fun x19 =>
 s1 x19 H4)
 ( Q (.tup []) H3)) [x15] H2
theorem w25_eq : w25 = fun D Q x0 x1 x2 x3 H => wpF D ir25 [x0, x1, x2, x3] H Q := by kernel_rfl
theorem w25_ok (hT : Has T) {x0 x1 x2 x3 : AV} {H : AH} {Q : AV → AH → Prop} (h : w25 (Den.of T) Q x0 x1 x2 x3 H) : ∃ v H', Den.of T 25 [x0, x1, x2, x3] H = some (v, H') ∧ Q v H' :=
  wpF_ok (hT _ ir25 rfl) (by rw [w25_eq] at h; exact h)

-- grille/scalar.escape
def w27 (D : Den) (Q : AV → AH → Prop) (x0 : AV) (H : AH) : Prop :=
 gP (aBin .eql x0 (.str [])) fun x7 =>
 iP x7
 ( Q (.tup [(.int .i32 0), (.int .i64 0), (.bool false)]) H)
 ( jP 1 (fun x5 H1 =>
 gP (aSlcS x0 (some (.int .i64 1)) none) fun x34 =>
 cP D 50 [x34, x5] H1 fun x36 H2 =>
 gP (aExtract 0 x36) fun x37 =>
 gP (aExtract 1 x36) fun x38 =>
 gP (aBin .add (.int .i64 1) x5) fun x41 =>
 Q (.tup [x37, x41, x38]) H2) fun j1 =>
 gP (aIdxStr x0 (.int .i64 0)) fun x9 =>
 jP 1 (fun x5_1 H3 =>
 gP (aBin .add x5_1 (.int .i64 2)) fun x23 =>
 j1 x23 H3) fun j2 =>
 jP 1 (fun x5_2 H4 =>
 gP (aBin .add x5_2 (.int .i64 2)) fun x21 =>
 j2 x21 H4) fun j3 =>
 gP (aBin .eql x9 (.int .u8 85)) fun x11 =>
 iP x11
 ( gP (aBin .add (.int .i64 0) (.int .i64 4)) fun x19 =>
 j3 x19 H)
 ( gP (aBin .eql x9 (.int .u8 117)) fun x13 =>
 iP x13
 ( j3 (.int .i64 0) H)
 ( gP (aBin .eql x9 (.int .u8 120)) fun x15 =>
 iP x15
 ( j2 (.int .i64 0) H)
 ( gP (aBin .eql x9 (.int .u8 47)) fun x17 =>
 iP x17
 ( Q (.tup [(.int .i32 47), (.int .i64 1), (.bool true)]) H)
 ( gP (aIdxStr x0 (.int .i64 0)) fun x26 =>
 cP D 49 [x26] H fun x27 H5 =>
 gP (aExtract 0 x27) fun x28 =>
 gP (aExtract 1 x27) fun x29 =>
 Q (.tup [x28, (.int .i64 1), x29]) H5)))))
theorem w27_eq : w27 = fun D Q x0 H => wpF D ir27 [x0] H Q := by kernel_rfl
theorem w27_ok (hT : Has T) {x0 : AV} {H : AH} {Q : AV → AH → Prop} (h : w27 (Den.of T) Q x0 H) : ∃ v H', Den.of T 27 [x0] H = some (v, H') ∧ Q v H' :=
  wpF_ok (hT _ ir27 rfl) (by rw [w27_eq] at h; exact h)

-- strings.HasPrefix
def w28 (D : Den) (Q : AV → AH → Prop) (x0 x1 : AV) (H : AH) : Prop :=
 cP D 51 [x0, x1] H fun x7 H1 =>
 Q x7 H1
theorem w28_eq : w28 = fun D Q x0 x1 H => wpF D ir28 [x0, x1] H Q := by kernel_rfl
theorem w28_ok (hT : Has T) {x0 x1 : AV} {H : AH} {Q : AV → AH → Prop} (h : w28 (Den.of T) Q x0 x1 H) : ∃ v H', Den.of T 28 [x0, x1] H = some (v, H') ∧ Q v H' :=
  wpF_ok (hT _ ir28 rfl) (by rw [w28_eq] at h; exact h)

-- grille/scalar.Single$1
def w29 (D : Den) (Q : AV → AH → Prop) (x0 : AV) (H : AH) : Prop :=
 cP D 18 [x0] H fun x4 H1 =>
 gP (aNot x4) fun x5 =>
 dP x5 false
 ( gP (aBin .eql x0 (.int .i32 10)) fun x8 =>
 dP x8 false
 ( gP (aBin .eql x0 (.int .i32 13)) fun x12 =>
 Q x12 H1)
 ( Q (.bool true) H1))
 ( Q (.bool true) H1)
theorem w29_eq : w29 = fun D Q x0 H => wpF D ir29 [x0] H Q := by kernel_rfl
theorem w29_ok (hT : Has T) {x0 : AV} {H : AH} {Q : AV → AH → Prop} (h : w29 (Den.of T) Q x0 H) : ∃ v H', Den.of T 29 [x0] H = some (v, H') ∧ Q v H' :=
  wpF_ok (hT _ ir29 rfl) (by rw [w29_eq] at h; exact h)

-- strings.ContainsFunc
def w30 (D : Den) (Q : AV → AH → Prop) (x0 x1 : AV) (H : AH) : Prop :=
 cP D 52 [x0, x1] H fun x7 H1 =>
 gP (aBin .geq x7 (.int .i64 0)) fun x8 =>
 Q x8 H1
theorem w30_eq : w30 = fun D Q x0 x1 H => wpF D ir30 [x0, x1] H Q := by kernel_rfl
theorem w30_ok (hT : Has T) {x0 x1 : AV} {H : AH} {Q : AV → AH → Prop} (h : w30 (Den.of T) Q x0 x1 H) : ∃ v H', Den.of T 30 [x0, x1] H = some (v, H') ∧ Q v H' :=
  wpF_ok (hT _ ir30 rfl) (by rw [w30_eq] at h; exact h)

-- grille/scalar.Plain$1
def w33 (D : Den) (Q : AV → AH → Prop) (x0 : AV) (H : AH) : Prop :=
 cP D 18 [x0] H fun x4 H1 =>
 gP (aNot x4) fun x5 =>
 Q x5 H1
theorem w33_eq : w33 = fun D Q x0 H => wpF D ir33 [x0] H Q := by kernel_rfl
theorem w33_ok (hT : Has T) {x0 : AV} {H : AH} {Q : AV → AH → Prop} (h : w33 (Den.of T) Q x0 H) : ∃ v H', Den.of T 33 [x0] H = some (v, H') ∧ Q v H' :=
  wpF_ok (hT _ ir33 rfl) (by rw [w33_eq] at h; exact h)

-- grille/scalar.hasAny
def w35 (D : Den) (Q : AV → AH → Prop) (x0 x1 : AV) (H : AH) : Prop :=
 sP (aop [] (.rangeS (.cst x0)) H) fun x10 H1 =>
 lP 0 (fun s1 H2 =>
 sP (aop [] (.nextS (.cst x10)) H2) fun x11 H3 =>
 gP (aExtract 0 x11) fun x12 =>
 iP x12
 ( gP (aExtract 2 x11) fun x13 =>
 sP (aop [] (.rangeS (.cst x1)) H3) fun x15 H4 =>
 lP 0 (fun s2 H5 =>
 sP (aop [] (.nextS (.cst x15)) H5) fun x16 H6 =>
 gP (aExtract 0 x16) fun x17 =>
 iP x17
 ( gP (aExtract 2 x16) fun x18 =>
 gP (aBin .eql x13 x18) fun x21 =>
 iP x21
 ( Q (.bool true) H6)
 ( s2 H6))
 ( s1 H6)) [] H4)
 ( Q (.bool false) H3)) [] H1
theorem w35_eq : w35 = fun D Q x0 x1 H => wpF D ir35 [x0, x1] H Q := by kernel_rfl
theorem w35_ok (hT : Has T) {x0 x1 : AV} {H : AH} {Q : AV → AH → Prop} (h : w35 (Den.of T) Q x0 x1 H) : ∃ v H', Den.of T 35 [x0, x1] H = some (v, H') ∧ Q v H' :=
  wpF_ok (hT _ ir35 rfl) (by rw [w35_eq] at h; exact h)

-- strings.HasSuffix
def w36 (D : Den) (Q : AV → AH → Prop) (x0 x1 : AV) (H : AH) : Prop :=
 cP D 56 [x0, x1] H fun x7 H1 =>
 Q x7 H1
theorem w36_eq : w36 = fun D Q x0 x1 H => wpF D ir36 [x0, x1] H Q := by kernel_rfl
theorem w36_ok (hT : Has T) {x0 x1 : AV} {H : AH} {Q : AV → AH → Prop} (h : w36 (Den.of T) Q x0 x1 H) : ∃ v H', Den.of T 36 [x0, x1] H = some (v, H') ∧ Q v H' :=
  wpF_ok (hT _ ir36 rfl) (by rw [w36_eq] at h; exact h)

-- unicode/utf8.ValidRune
def w38 (D : Den) (Q : AV → AH → Prop) (x0 : AV) (H : AH) : Prop :=
 jP 1 (fun x3 H1 =>
 iP x3
 ( Q (.bool true) H1)
 ( jP 1 (fun x10 H2 =>
 iP x10
 ( Q (.bool true) H2)
 ( Q (.bool false) H2)) fun j1 =>
 gP (aBin .lss (.int .i32 57343) x0) fun x12 =>
 dP x12 true
 ( gP (aBin .leq x0 (.int .i32 1114111)) fun x15 =>
 j1 x15 H1)
 ( j1 (.bool false) H1))) fun j2 =>
 gP (aBin .leq (.int .i32 0) x0) fun x5 =>
 dP x5 true
 ( gP (aBin .lss x0 (.int .i32 55296)) fun x8 =>
 j2 x8 H)
 ( j2 (.bool false) H)
theorem w38_eq : w38 = fun D Q x0 H => wpF D ir38 [x0] H Q := by kernel_rfl
theorem w38_ok (hT : Has T) {x0 : AV} {H : AH} {Q : AV → AH → Prop} (h : w38 (Den.of T) Q x0 H) : ∃ v H', Den.of T 38 [x0] H = some (v, H') ∧ Q v H' :=
  wpF_ok (hT _ ir38 rfl) (by rw [w38_eq] at h; exact h)

-- unicode/utf8.AppendRune
def w48 (D : Den) (Q : AV → AH → Prop) (x0 x1 : AV) (H : AH) : Prop :=
 gP (aCv .u32 x1) fun x6 =>
 gP (aBin .leq x6 (.int .u32 127)) fun x7 =>
 iP x7
 ( gP (aCv .u8 x1) fun x10 =>
 sP (aLit .ro 1 [x10] H) fun x11 H1 =>
 sP (aAppend .tok 1 (1, 5) x0 x11 H1) fun x12 H2 =>
 Q x12 H2)
 ( cP D 65 [x0, x1] H fun x15 H3 =>
 Q x15 H3)
theorem w48_eq : w48 = fun D Q x0 x1 H => wpF D ir48 [x0, x1] H Q := by kernel_rfl
theorem w48_ok (hT : Has T) {x0 x1 : AV} {H : AH} {Q : AV → AH → Prop} (h : w48 (Den.of T) Q x0 x1 H) : ∃ v H', Den.of T 48 [x0, x1] H = some (v, H') ∧ Q v H' :=
  wpF_ok (hT _ ir48 rfl) (by rw [w48_eq] at h; exact h)

-- grille/scalar.means
def w49 (D : Den) (Q : AV → AH → Prop) (x0 : AV) (H : AH) : Prop :=
 cP D 34 [(.str [48, 97, 98, 116, 110, 118, 102, 114, 101, 34, 92, 78, 95, 76, 80]), x0] H fun x8 H1 =>
 sP (aop [] (.rangeS (.cst (.str [0, 7, 8, 9, 10, 11, 12, 13, 27, 34, 92, 194, 133, 194, 160, 226, 128, 168, 226, 128, 169]))) H1) fun x9 H2 =>
 lP 1 (fun s1 x4 H3 =>
 sP (aop [] (.nextS (.cst x9)) H3) fun x10 H4 =>
 gP (aExtract 0 x10) fun x11 =>
 iP x11
 ( gP (aExtract 2 x10) fun x12 =>
 gP (aBin .eql x4 (.int .i64 0)) fun x14 =>
 iP x14
 ( Q (.tup [x12, (.bool true)]) H4)
 ( gP (aBin .sub x4 (.int .i64 1)) fun x17 =>
 s1 x17 H4))
 ( Q (.tup [(.int .i32 0), (.bool false)]) H4)) [x8] H2
theorem w49_eq : w49 = fun D Q x0 H => wpF D ir49 [x0] H Q := by kernel_rfl
theorem w49_ok (hT : Has T) {x0 : AV} {H : AH} {Q : AV → AH → Prop} (h : w49 (Den.of T) Q x0 H) : ∃ v H', Den.of T 49 [x0] H = some (v, H') ∧ Q v H' :=
  wpF_ok (hT _ ir49 rfl) (by rw [w49_eq] at h; exact h)

-- grille/scalar.number
def w50 (D : Den) (Q : AV → AH → Prop) (x0 x1 : AV) (H : AH) : Prop :=
 gP (aLen .str x0 H) fun x9 =>
 gP (aBin .lss x9 x1) fun x11 =>
 iP x11
 ( Q (.tup [(.int .i32 0), (.bool false)]) H)
 ( gP (aSlcS x0 none (some x1)) fun x15 =>
 cP D 66 [x15, (.int .i64 16), (.int .i64 32)] H fun x16 H1 =>
 gP (aExtract 0 x16) fun x17 =>
 gP (aExtract 1 x16) fun x18 =>
 jP 1 (fun x36 H2 =>
 iP x36
 ( Q (.tup [(.int .i32 0), (.bool false)]) H2)
 ( gP (aCv .i32 x17) fun x38 =>
 Q (.tup [x38, (.bool true)]) H2)) fun j1 =>
 gP (aEqv .ifn true x18 .niliface) fun x20 =>
 dP x20 false
 ( gP (aSlcS x0 none (some x1)) fun x24 =>
 cP D 17 [x24, (.str [43, 45, 95])] H1 fun x25 H3 =>
 dP x25 false
 ( gP (aBin .gtr x17 (.int .u64 1114111)) fun x29 =>
 dP x29 false
 ( gP (aCv .i32 x17) fun x33 =>
 cP D 38 [x33] H3 fun x34 H4 =>
 gP (aNot x34) fun x35 =>
 j1 x35 H4)
 ( j1 (.bool true) H3))
 ( j1 (.bool true) H3))
 ( j1 (.bool true) H1))
theorem w50_eq : w50 = fun D Q x0 x1 H => wpF D ir50 [x0, x1] H Q := by kernel_rfl
theorem w50_ok (hT : Has T) {x0 x1 : AV} {H : AH} {Q : AV → AH → Prop} (h : w50 (Den.of T) Q x0 x1 H) : ∃ v H', Den.of T 50 [x0, x1] H = some (v, H') ∧ Q v H' :=
  wpF_ok (hT _ ir50 rfl) (by rw [w50_eq] at h; exact h)

-- internal/stringslite.HasPrefix
def w51 (D : Den) (Q : AV → AH → Prop) (x0 x1 : AV) (H : AH) : Prop :=
 gP (aLen .str x0 H) fun x6 =>
 gP (aLen .str x1 H) fun x8 =>
 gP (aBin .geq x6 x8) fun x9 =>
 dP x9 true
 ( gP (aLen .str x1 H) fun x13 =>
 gP (aSlcS x0 none (some x13)) fun x14 =>
 gP (aBin .eql x14 x1) fun x16 =>
 Q x16 H)
 ( Q (.bool false) H)
theorem w51_eq : w51 = fun D Q x0 x1 H => wpF D ir51 [x0, x1] H Q := by kernel_rfl
theorem w51_ok (hT : Has T) {x0 x1 : AV} {H : AH} {Q : AV → AH → Prop} (h : w51 (Den.of T) Q x0 x1 H) : ∃ v H', Den.of T 51 [x0, x1] H = some (v, H') ∧ Q v H' :=
  wpF_ok (hT _ ir51 rfl) (by rw [w51_eq] at h; exact h)

-- strings.IndexFunc
def w52 (D : Den) (Q : AV → AH → Prop) (x0 x1 : AV) (H : AH) : Prop :=
 cP D 67 [x0, x1, (.bool true)] H fun x7 H1 =>
 Q x7 H1
theorem w52_eq : w52 = fun D Q x0 x1 H => wpF D ir52 [x0, x1] H Q := by kernel_rfl
theorem w52_ok (hT : Has T) {x0 x1 : AV} {H : AH} {Q : AV → AH → Prop} (h : w52 (Den.of T) Q x0 x1 H) : ∃ v H', Den.of T 52 [x0, x1] H = some (v, H') ∧ Q v H' :=
  wpF_ok (hT _ ir52 rfl) (by rw [w52_eq] at h; exact h)

-- internal/stringslite.HasSuffix
def w56 (D : Den) (Q : AV → AH → Prop) (x0 x1 : AV) (H : AH) : Prop :=
 gP (aLen .str x0 H) fun x6 =>
 gP (aLen .str x1 H) fun x8 =>
 gP (aBin .geq x6 x8) fun x9 =>
 dP x9 true
 ( gP (aLen .str x0 H) fun x13 =>
 gP (aLen .str x1 H) fun x15 =>
 gP (aBin .sub x13 x15) fun x16 =>
 gP (aSlcS x0 (some x16) none) fun x17 =>
 gP (aBin .eql x17 x1) fun x19 =>
 Q x19 H)
 ( Q (.bool false) H)
theorem w56_eq : w56 = fun D Q x0 x1 H => wpF D ir56 [x0, x1] H Q := by kernel_rfl
theorem w56_ok (hT : Has T) {x0 x1 : AV} {H : AH} {Q : AV → AH → Prop} (h : w56 (Den.of T) Q x0 x1 H) : ∃ v H', Den.of T 56 [x0, x1] H = some (v, H') ∧ Q v H' :=
  wpF_ok (hT _ ir56 rfl) (by rw [w56_eq] at h; exact h)

-- unicode/utf8.appendRuneNonASCII
def w65 (D : Den) (Q : AV → AH → Prop) (x0 x1 : AV) (H : AH) : Prop :=
 gP (aCv .u32 x1) fun x7 =>
 gP (aBin .leq x7 (.int .u32 2047)) fun x13 =>
 iP x13
 ( gP (aBin .shr x1 (.int .u64 6)) fun x16 =>
 gP (aCv .u8 x16) fun x17 =>
 gP (aBin .or (.int .u8 192) x17) fun x18 =>
 gP (aCv .u8 x1) fun x20 =>
 gP (aBin .and x20 (.int .u8 63)) fun x21 =>
 gP (aBin .or (.int .u8 128) x21) fun x22 =>
 sP (aLit .ro 1 [x18, x22] H) fun x23 H1 =>
 sP (aAppend .tok 1 (1, 5) x0 x23 H1) fun x24 H2 =>
 Q x24 H2)
 ( jP 1 (fun x25 H3 =>
 iP x25
 ( gP (aBin .shr x1 (.int .u64 12)) fun x36 =>
 gP (aCv .u8 x36) fun x37 =>
 gP (aBin .or (.int .u8 224) x37) fun x38 =>
 gP (aBin .shr x1 (.int .u64 6)) fun x40 =>
 gP (aCv .u8 x40) fun x41 =>
 gP (aBin .and x41 (.int .u8 63)) fun x42 =>
 gP (aBin .or (.int .u8 128) x42) fun x43 =>
 gP (aCv .u8 x1) fun x45 =>
 gP (aBin .and x45 (.int .u8 63)) fun x46 =>
 gP (aBin .or (.int .u8 128) x46) fun x47 =>
 sP (aLit .ro 1 [x38, x43, x47] H3) fun x48 H4 =>
 sP (aAppend .tok 1 (1, 5) x0 x48 H4) fun x49 H5 =>
 Q x49 H5)
 ( jP 1 (fun x50 H6 =>
 iP x50
 ( gP (aBin .shr x1 (.int .u64 18)) fun x59 =>
 gP (aCv .u8 x59) fun x60 =>
 gP (aBin .or (.int .u8 240) x60) fun x61 =>
 gP (aBin .shr x1 (.int .u64 12)) fun x63 =>
 gP (aCv .u8 x63) fun x64 =>
 gP (aBin .and x64 (.int .u8 63)) fun x65 =>
 gP (aBin .or (.int .u8 128) x65) fun x66 =>
 gP (aBin .shr x1 (.int .u64 6)) fun x68 =>
 gP (aCv .u8 x68) fun x69 =>
 gP (aBin .and x69 (.int .u8 63)) fun x70 =>
 gP (aBin .or (.int .u8 128) x70) fun x71 =>
 gP (aCv .u8 x1) fun x73 =>
 gP (aBin .and x73 (.int .u8 63)) fun x74 =>
 gP (aBin .or (.int .u8 128) x74) fun x75 =>
 sP (aLit .ro 1 [x61, x66, x71, x75] H6) fun x76 H7 =>
 sP (aAppend .tok 1 (1, 5) x0 x76 H7) fun x77 H8 =>
 Q x77 H8)
 ( sP (aLit .ro 1 [(.int .u8 239), (.int .u8 191), (.int .u8 189)] H6) fun x9 H9 =>
 sP (aAppend .tok 1 (1, 5) x0 x9 H9) fun x10 H10 =>
 Q x10 H10)) fun j1 =>
 gP (aBin .gtr x7 (.int .u32 65535)) fun x52 =>
 dP x52 true
 ( gP (aBin .leq x7 (.int .u32 1114111)) fun x55 =>
 j1 x55 H3)
 ( j1 (.bool false) H3))) fun j2 =>
 gP (aBin .lss x7 (.int .u32 55296)) fun x27 =>
 iP x27
 ( j2 x27 H)
 ( gP (aBin .lss (.int .u32 57343) x7) fun x29 =>
 dP x29 true
 ( gP (aBin .leq x7 (.int .u32 65535)) fun x32 =>
 j2 x32 H)
 ( j2 (.bool false) H)))
theorem w65_eq : w65 = fun D Q x0 x1 H => wpF D ir65 [x0, x1] H Q := by kernel_rfl
theorem w65_ok (hT : Has T) {x0 x1 : AV} {H : AH} {Q : AV → AH → Prop} (h : w65 (Den.of T) Q x0 x1 H) : ∃ v H', Den.of T 65 [x0, x1] H = some (v, H') ∧ Q v H' :=
  wpF_ok (hT _ ir65 rfl) (by rw [w65_eq] at h; exact h)

-- strconv.ParseUint
def w66 (D : Den) (Q : AV → AH → Prop) (x0 x1 x2 : AV) (H : AH) : Prop :=
 cP D 75 [x0, x1, x2] H fun x14 H1 =>
 gP (aExtract 0 x14) fun x15 =>
 gP (aExtract 1 x14) fun x16 =>
 gP (aEqv .ifn true x16 .niliface) fun x18 =>
 iP x18
 ( cP D 76 [(.str [80, 97, 114, 115, 101, 85, 105, 110, 116]), x0, x1, x2, x16] H1 fun x24 H2 =>
 Q (.tup [x15, x24]) H2)
 ( Q (.tup [x15, .niliface]) H1)
theorem w66_eq : w66 = fun D Q x0 x1 x2 H => wpF D ir66 [x0, x1, x2] H Q := by kernel_rfl
theorem w66_ok (hT : Has T) {x0 x1 x2 : AV} {H : AH} {Q : AV → AH → Prop} (h : w66 (Den.of T) Q x0 x1 x2 H) : ∃ v H', Den.of T 66 [x0, x1, x2] H = some (v, H') ∧ Q v H' :=
  wpF_ok (hT _ ir66 rfl) (by rw [w66_eq] at h; exact h)

-- strings.indexFunc
def w67 (D : Den) (Q : AV → AH → Prop) (x0 x1 x2 : AV) (H : AH) : Prop :=
 sP (aop [] (.rangeS (.cst x0)) H) fun x10 H1 =>
 lP 0 (fun s1 H2 =>
 sP (aop [] (.nextS (.cst x10)) H2) fun x11 H3 =>
 gP (aExtract 0 x11) fun x12 =>
 iP x12
 ( gP (aExtract 1 x11) fun x13 =>
 gP (aExtract 2 x11) fun x14 =>
 vP D 0 x1 [x14] H3 fun x17 H4 =>
 gP (aEqv .bool false x17 x2) fun x19 =>
 iP x19
 ( Q x13 H4)
 ( s1 H4))
 ( Q (.int .i64 (-1)) H3)) [] H1
theorem w67_eq : w67 = fun D Q x0 x1 x2 H => wpF D ir67 [x0, x1, x2] H Q := by kernel_rfl
theorem w67_ok (hT : Has T) {x0 x1 x2 : AV} {H : AH} {Q : AV → AH → Prop} (h : w67 (Den.of T) Q x0 x1 x2 H) : ∃ v H', Den.of T 67 [x0, x1, x2] H = some (v, H') ∧ Q v H' :=
  wpF_ok (hT _ ir67 rfl) (by rw [w67_eq] at h; exact h)

-- internal/strconv.ParseUint
def w75 (D : Den) (Q : AV → AH → Prop) (x0 x1 x2 : AV) (H : AH) : Prop :=
 gP (aBin .eql x0 (.str [])) fun x19 =>
 iP x19
 ( sP (aop [] (.mkIface 100 (.cst (.int .i64 2))) H) fun x20 H1 =>
 Q (.tup [(.int .u64 0), x20]) H1)
 ( gP (aBin .eql x1 (.int .i64 0)) fun x22 =>
 jP 2 (fun x1_1 x0_1 H2 =>
 jP 1 (fun x2_1 H3 =>
 jP 1 (fun x10 H4 =>
 gP (aCv .u64 x2_1) fun x95 =>
 gP (aBin .shl (.int .u64 1) x95) fun x96 =>
 gP (aBin .sub x96 (.int .u64 1)) fun x97 =>
 sP (aop [] (.cvBytes (.cst x0_1)) H4) fun x99 H5 =>
 gP (aLen .row x99 H5) fun x100 =>
 lP 3 (fun s1 x12 x13 x101 H6 =>
 gP (aBin .lss x101 x100) fun x102 =>
 iP x102
 ( jP 2 (fun x12_1 x13_1 H7 =>
 gP (aBin .add x101 (.int .i64 1)) fun x163 =>
 s1 x12_1 x13_1 x163 H7) fun j2 =>
 gP (aIdxAddr 1 x99 x101) fun x103 =>
 gP (aLoad none x103 H6) fun x104 =>
 jP 2 (fun x12_2 x16 H8 =>
 gP (aCv .u8 x1_1) fun x136 =>
 gP (aBin .geq x16 x136) fun x137 =>
 iP x137
 ( sP (aop [] (.mkIface 100 (.cst (.int .i64 2))) H8) fun x138 H9 =>
 Q (.tup [(.int .u64 0), x138]) H9)
 ( gP (aBin .geq x13 x10) fun x141 =>
 iP x141
 ( sP (aop [] (.mkIface 100 (.cst (.int .i64 1))) H8) fun x143 H10 =>
 Q (.tup [x97, x143]) H10)
 ( gP (aCv .u64 x1_1) fun x146 =>
 gP (aBin .mul x13 x146) fun x147 =>
 gP (aCv .u64 x16) fun x150 =>
 gP (aBin .add x147 x150) fun x151 =>
 jP 1 (fun x159 H11 =>
 iP x159
 ( sP (aop [] (.mkIface 100 (.cst (.int .i64 1))) H11) fun x161 H12 =>
 Q (.tup [x97, x161]) H12)
 ( j2 x12_2 x151 H11)) fun j3 =>
 gP (aBin .lss x151 x147) fun x154 =>
 dP x154 false
 ( gP (aBin .gtr x151 x97) fun x158 =>
 j3 x158 H8)
 ( j3 (.bool true) H8)))) fun j4 =>
 jP 1 (fun x106 H13 =>
 iP x106
 ( j2 (.bool true) x13 H13)
 ( jP 1 (fun x112 H14 =>
 iP x112
 ( gP (aBin .sub x104 (.int .u8 48)) fun x120 =>
 j4 x12 x120 H14)
 ( jP 1 (fun x121 H15 =>
 iP x121
 ( cP D 80 [x104] H15 fun x131 H16 =>
 gP (aBin .sub x131 (.int .u8 97)) fun x132 =>
 gP (aBin .add x132 (.int .u8 10)) fun x133 =>
 j4 x12 x133 H16)
 ( sP (aop [] (.mkIface 100 (.cst (.int .i64 2))) H15) fun x105 H17 =>
 Q (.tup [(.int .u64 0), x105]) H17)) fun j5 =>
 cP D 80 [x104] H14 fun x123 H18 =>
 gP (aBin .leq (.int .u8 97) x123) fun x124 =>
 dP x124 true
 ( cP D 80 [x104] H18 fun x127 H19 =>
 gP (aBin .leq x127 (.int .u8 122)) fun x128 =>
 j5 x128 H19)
 ( j5 (.bool false) H18))) fun j6 =>
 gP (aBin .leq (.int .u8 48) x104) fun x114 =>
 dP x114 true
 ( gP (aBin .leq x104 (.int .u8 57)) fun x117 =>
 j6 x117 H13)
 ( j6 (.bool false) H13))) fun j7 =>
 gP (aBin .eql x104 (.int .u8 95)) fun x108 =>
 dP x108 true
 ( j7 x22 H6)
 ( j7 (.bool false) H6))
 ( jP 1 (fun x169 H20 =>
 iP x169
 ( sP (aop [] (.mkIface 100 (.cst (.int .i64 2))) H20) fun x170 H21 =>
 Q (.tup [(.int .u64 0), x170]) H21)
 ( Q (.tup [x13, .niliface]) H20)) fun j8 =>
 dP x12 true
 ( cP D 81 [x0] H6 fun x167 H22 =>
 gP (aNot x167) fun x168 =>
 j8 x168 H22)
 ( j8 (.bool false) H6))) [(.bool false), (.int .u64 0), (.int .i64 0)] H5) fun j9 =>
 gP (aBin .eql x1_1 (.int .i64 10)) fun x91 =>
 iP x91
 ( j9 (.int .u64 1844674407370955162) H3)
 ( gP (aBin .eql x1_1 (.int .i64 16)) fun x93 =>
 iP x93
 ( j9 (.int .u64 1152921504606846976) H3)
 ( gP (aCv .u64 x1_1) fun x87 =>
 gP (aBin .quo (.int .u64 18446744073709551615) x87) fun x88 =>
 gP (aBin .add x88 (.int .u64 1)) fun x89 =>
 j9 x89 H3))) fun j10 =>
 gP (aBin .eql x2 (.int .i64 0)) fun x77 =>
 iP x77
 ( j10 (.int .i64 64) H2)
 ( jP 1 (fun x83 H23 =>
 iP x83
 ( sP (aop [] (.mkIface 100 (.cst (.int .i64 4))) H23) fun x84 H24 =>
 Q (.tup [(.int .u64 0), x84]) H24)
 ( j10 x2 H23)) fun j11 =>
 gP (aBin .lss x2 (.int .i64 0)) fun x79 =>
 dP x79 false
 ( gP (aBin .gtr x2 (.int .i64 64)) fun x82 =>
 j11 x82 H2)
 ( j11 (.bool true) H2))) fun j12 =>
 jP 1 (fun x25 H25 =>
 iP x25
 ( j12 x1 x0 H25)
 ( gP (aBin .eql x1 (.int .i64 0)) fun x34 =>
 iP x34
 ( gP (aIdxStr x0 (.int .i64 0)) fun x36 =>
 gP (aBin .eql x36 (.int .u8 48)) fun x37 =>
 iP x37
 ( jP 1 (fun x40 H26 =>
 iP x40
 ( gP (aSlcS x0 (some (.int .i64 2)) none) fun x51 =>
 j12 (.int .i64 2) x51 H26)
 ( jP 1 (fun x52 H27 =>
 iP x52
 ( gP (aSlcS x0 (some (.int .i64 2)) none) fun x63 =>
 j12 (.int .i64 8) x63 H27)
 ( jP 1 (fun x64 H28 =>
 iP x64
 ( gP (aSlcS x0 (some (.int .i64 2)) none) fun x75 =>
 j12 (.int .i64 16) x75 H28)
 ( gP (aSlcS x0 (some (.int .i64 1)) none) fun x39 =>
 j12 (.int .i64 8) x39 H28)) fun j13 =>
 gP (aLen .str x0 H27) fun x66 =>
 gP (aBin .geq x66 (.int .i64 3)) fun x67 =>
 dP x67 true
 ( gP (aIdxStr x0 (.int .i64 1)) fun x70 =>
 cP D 80 [x70] H27 fun x71 H29 =>
 gP (aBin .eql x71 (.int .u8 120)) fun x72 =>
 j13 x72 H29)
 ( j13 (.bool false) H27))) fun j14 =>
 gP (aLen .str x0 H26) fun x54 =>
 gP (aBin .geq x54 (.int .i64 3)) fun x55 =>
 dP x55 true
 ( gP (aIdxStr x0 (.int .i64 1)) fun x58 =>
 cP D 80 [x58] H26 fun x59 H30 =>
 gP (aBin .eql x59 (.int .u8 111)) fun x60 =>
 j14 x60 H30)
 ( j14 (.bool false) H26))) fun j15 =>
 gP (aLen .str x0 H25) fun x42 =>
 gP (aBin .geq x42 (.int .i64 3)) fun x43 =>
 dP x43 true
 ( gP (aIdxStr x0 (.int .i64 1)) fun x46 =>
 cP D 80 [x46] H25 fun x47 H31 =>
 gP (aBin .eql x47 (.int .u8 98)) fun x48 =>
 j15 x48 H31)
 ( j15 (.bool false) H25))
 ( j12 (.int .i64 10) x0 H25))
 ( sP (aop [] (.mkIface 100 (.cst (.int .i64 3))) H25) fun x24 H32 =>
 Q (.tup [(.int .u64 0), x24]) H32))) fun j16 =>
 gP (aBin .leq (.int .i64 2) x1) fun x27 =>
 dP x27 true
 ( gP (aBin .leq x1 (.int .i64 36)) fun x30 =>
 j16 x30 H)
 ( j16 (.bool false) H))
theorem w75_eq : w75 = fun D Q x0 x1 x2 H => wpF D ir75 [x0, x1, x2] H Q := by kernel_rfl
theorem w75_ok (hT : Has T) {x0 x1 x2 : AV} {H : AH} {Q : AV → AH → Prop} (h : w75 (Den.of T) Q x0 x1 x2 H) : ∃ v H', Den.of T 75 [x0, x1, x2] H = some (v, H') ∧ Q v H' :=
  wpF_ok (hT _ ir75 rfl) (by rw [w75_eq] at h; exact h)

-- internal/strconv.lower
def w80 (D : Den) (Q : AV → AH → Prop) (x0 : AV) (H : AH) : Prop :=
 gP (aBin .or x0 (.int .u8 32)) fun x4 =>
 Q x4 H
theorem w80_eq : w80 = fun D Q x0 H => wpF D ir80 [x0] H Q := by kernel_rfl
theorem w80_ok (hT : Has T) {x0 : AV} {H : AH} {Q : AV → AH → Prop} (h : w80 (Den.of T) Q x0 H) : ∃ v H', Den.of T 80 [x0] H = some (v, H') ∧ Q v H' :=
  wpF_ok (hT _ ir80 rfl) (by rw [w80_eq] at h; exact h)

-- internal/strconv.underscoreOK
end Go.SV
