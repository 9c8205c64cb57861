/- The program's functions as formulas; each is checked by the kernel against its translation. Printed by a program of the prover's own. -/
import Derived.Test.YtaimiohndbajjaaGreatDoorIr
set_option maxRecDepth 100000
namespace Go.SV
open Go.Proofs

variable {T : Nat → Option Entry}

-- grille/grillelaw02.ScalarReads
def w4 (D : Den) (Q : AV → AH → Prop) (x0 : AV) (H : AH) : Prop :=
 cP D 5 [] H fun x15 H1 =>
 gP (aNot x15) fun x16 =>
 iP x16
 ( Q (.bool false) H1)
 ( gP (aLen .str x0 H1) fun x18 =>
 gP (aBin .gtr x18 (.int .i64 1000)) fun x19 =>
 iP x19
 ( Q (.bool true) H1)
 ( cP D 12 [x0] H1 fun x22 H2 =>
 gP (aExtract 0 x22) fun x23 =>
 gP (aExtract 1 x22) fun x24 =>
 cP D 13 [x0] H2 fun x27 H3 =>
 gP (aExtract 0 x27) fun x28 =>
 gP (aExtract 1 x27) fun x29 =>
 cP D 14 [x0] H3 fun x32 H4 =>
 gP (aExtract 0 x32) fun x33 =>
 gP (aExtract 1 x32) fun x34 =>
 cP D 15 [x0] H4 fun x37 H5 =>
 gP (aExtract 0 x37) fun x38 =>
 gP (aExtract 1 x37) fun x39 =>
 cP D 16 [x0] H5 fun x42 H6 =>
 gP (aExtract 0 x42) fun x43 =>
 gP (aExtract 1 x42) fun x44 =>
 cP D 17 [x0] H6 fun x47 H7 =>
 gP (aExtract 0 x47) fun x48 =>
 gP (aExtract 1 x47) fun x49 =>
 gP (aBin .eql x23 x28) fun x52 =>
 dP x52 true
 ( gP (aBin .eql x24 x29) fun x56 =>
 dP x56 true
 ( gP (aBin .eql x33 x38) fun x61 =>
 dP x61 true
 ( gP (aBin .eql x34 x39) fun x66 =>
 dP x66 true
 ( gP (aBin .eql x43 x48) fun x71 =>
 dP x71 true
 ( gP (aBin .eql x44 x49) fun x76 =>
 Q x76 H7)
 ( Q (.bool false) H7))
 ( Q (.bool false) H7))
 ( Q (.bool false) H7))
 ( Q (.bool false) H7))
 ( Q (.bool false) H7)))
theorem w4_eq : w4 = fun D Q x0 H => wpF D ir4 [x0] H Q := by kernel_rfl
theorem w4_ok (hT : Has T) {x0 : AV} {H : AH} {Q : AV → AH → Prop} (h : w4 (Den.of T) Q x0 H) : ∃ v H', Den.of T 4 [x0] H = some (v, H') ∧ Q v H' :=
  wpF_ok (hT _ ir4 rfl) (by rw [w4_eq] at h; exact h)

-- grille/grillelaw02.alive
def w5 (D : Den) (Q : AV → AH → Prop) (H : AH) : Prop :=
 cP D 12 [(.str [34, 97, 92, 110, 92, 120, 52, 49, 34])] H fun x12 H1 =>
 gP (aExtract 0 x12) fun x13 =>
 gP (aExtract 1 x12) fun x14 =>
 cP D 6 [(.str [105, 116, 39, 115])] H1 fun x16 H2 =>
 gP (aExtract 0 x16) fun x17 =>
 gP (aExtract 1 x16) fun x18 =>
 cP D 14 [x17] H2 fun x21 H3 =>
 gP (aExtract 0 x21) fun x22 =>
 gP (aExtract 1 x21) fun x23 =>
 cP D 16 [(.str [39, 97, 39, 39, 98, 39, 32, 99])] H3 fun x25 H4 =>
 gP (aExtract 0 x25) fun x26 =>
 gP (aExtract 1 x25) fun x27 =>
 cP D 12 [(.str [34, 92, 113, 34])] H4 fun x29 H5 =>
 gP (aExtract 0 x29) fun x30 =>
 gP (aExtract 1 x29) fun x31 =>
 cP D 8 [(.str [97, 10])] H5 fun x32 H6 =>
 gP (aBin .eql x32 (.str [34, 97, 92, 110, 34])) fun x33 =>
 dP x33 true
 ( gP (aBin .eql x13 (.str [97, 10, 65])) fun x36 =>
 dP x36 true
 ( gP (aBin .eql x14 (.int .i64 0)) fun x40 =>
 dP x40 true
 ( gP (aBin .eql x17 (.str [39, 105, 116, 39, 39, 115, 39])) fun x44 =>
 dP x44 true
 ( gP (aBin .eql x18 (.int .i64 0)) fun x48 =>
 dP x48 true
 ( gP (aBin .eql x22 (.str [105, 116, 39, 115])) fun x52 =>
 dP x52 true
 ( gP (aBin .eql x23 (.int .i64 0)) fun x56 =>
 dP x56 true
 ( gP (aBin .eql x26 (.int .i64 6)) fun x60 =>
 dP x60 true
 ( gP (aBin .eql x27 (.int .i64 0)) fun x64 =>
 dP x64 true
 ( gP (aBin .eql x31 (.int .i64 10)) fun x68 =>
 dP x68 true
 ( cP D 10 [(.str [97, 32, 98])] H6 fun x71 H7 =>
 dP x71 true
 ( cP D 10 [(.str [97, 58, 32, 98])] H7 fun x74 H8 =>
 gP (aNot x74) fun x75 =>
 Q x75 H8)
 ( Q (.bool false) H7))
 ( Q (.bool false) H6))
 ( Q (.bool false) H6))
 ( Q (.bool false) H6))
 ( Q (.bool false) H6))
 ( Q (.bool false) H6))
 ( Q (.bool false) H6))
 ( Q (.bool false) H6))
 ( Q (.bool false) H6))
 ( Q (.bool false) H6))
 ( Q (.bool false) H6)
theorem w5_eq : w5 = fun D Q H => wpF D ir5 [] H Q := by kernel_rfl
theorem w5_ok (hT : Has T) {H : AH} {Q : AV → AH → Prop} (h : w5 (Den.of T) Q H) : ∃ v H', Den.of T 5 [] H = some (v, H') ∧ Q v H' :=
  wpF_ok (hT _ ir5 rfl) (by rw [w5_eq] at h; exact h)

-- grille/scalar.Single
def w6 (D : Den) (Q : AV → AH → Prop) (x0 : AV) (H : AH) : Prop :=
 jP 1 (fun x12 H1 =>
 iP x12
 ( Q (.tup [(.str []), (.int .i64 10)]) H1)
 ( cP D 22 [x0, (.str [39]), (.str [39, 39])] H1 fun x14 H2 =>
 gP (aBin .add (.str [39]) x14) fun x15 =>
 gP (aBin .add x15 (.str [39])) fun x16 =>
 Q (.tup [x16, (.int .i64 0)]) H2)) fun j1 =>
 cP D 20 [x0] H fun x6 H3 =>
 gP (aNot x6) fun x7 =>
 dP x7 false
 ( cP D 21 [x0, (.fn (.func 18) [] [])] H3 fun x11 H4 =>
 j1 x11 H4)
 ( j1 (.bool true) H3)
theorem w6_eq : w6 = fun D Q x0 H => wpF D ir6 [x0] H Q := by kernel_rfl
theorem w6_ok (hT : Has T) {x0 : AV} {H : AH} {Q : AV → AH → Prop} (h : w6 (Den.of T) Q x0 H) : ∃ v H', Den.of T 6 [x0] H = some (v, H') ∧ Q v H' :=
  wpF_ok (hT _ ir6 rfl) (by rw [w6_eq] at h; exact h)

-- grille/grilleref02.Single
def w7 (D : Den) (Q : AV → AH → Prop) (x0 : AV) (H : AH) : Prop :=
 cP D 23 [x0] H fun x10 H1 =>
 gP (aExtract 0 x10) fun x11 =>
 gP (aExtract 1 x10) fun x12 =>
 sP (aLit .tok 1 [(.int .i64 39)] H1) fun x13 H2 =>
 lP 2 (fun s1 x6 x7 H3 =>
 gP (aLen .row x11 H3) fun x16 =>
 gP (aBin .lss x7 x16) fun x17 =>
 iP x17
 ( jP 1 (fun x39 H4 =>
 iP x39
 ( Q (.tup [(.str []), (.int .i64 10)]) H4)
 ( jP 1 (fun x6_1 H5 =>
 gP (aIdxAddr 1 x11 x7) fun x51 =>
 gP (aLoad none x51 H5) fun x52 =>
 sP (aLit .ro 1 [x52] H5) fun x53 H6 =>
 sP (aAppend .tok 1 (8, 3) x6_1 x53 H6) fun x54 H7 =>
 gP (aBin .add x7 (.int .i64 1)) fun x19 =>
 s1 x54 x19 H7) fun j2 =>
 gP (aIdxAddr 1 x11 x7) fun x42 =>
 gP (aLoad none x42 H4) fun x43 =>
 gP (aBin .eql x43 (.int .i64 39)) fun x44 =>
 iP x44
 ( sP (aLit .ro 1 [(.int .i64 39)] H4) fun x46 H8 =>
 sP (aAppend .tok 1 (8, 3) x6 x46 H8) fun x47 H9 =>
 j2 x47 H9)
 ( j2 x6 H4))) fun j3 =>
 gP (aIdxAddr 1 x11 x7) fun x22 =>
 gP (aLoad none x22 H3) fun x23 =>
 cP D 24 [x23] H3 fun x24 H10 =>
 gP (aNot x24) fun x25 =>
 dP x25 false
 ( gP (aIdxAddr 1 x11 x7) fun x29 =>
 gP (aLoad none x29 H10) fun x30 =>
 gP (aBin .eql x30 (.int .i64 10)) fun x31 =>
 dP x31 false
 ( gP (aIdxAddr 1 x11 x7) fun x36 =>
 gP (aLoad none x36 H10) fun x37 =>
 gP (aBin .eql x37 (.int .i64 13)) fun x38 =>
 j3 x38 H10)
 ( j3 (.bool true) H10))
 ( j3 (.bool true) H10))
 ( gP (aNot x12) fun x56 =>
 iP x56
 ( Q (.tup [(.str []), (.int .i64 10)]) H3)
 ( sP (aLit .ro 1 [(.int .i64 39)] H3) fun x58 H11 =>
 sP (aAppend .tok 1 (8, 3) x6 x58 H11) fun x59 H12 =>
 cP D 25 [x59] H12 fun x60 H13 =>
 Q (.tup [x60, (.int .i64 0)]) H13))) [x13, (.int .i64 0)] H2
theorem w7_eq : w7 = fun D Q x0 H => wpF D ir7 [x0] H Q := by kernel_rfl
theorem w7_ok (hT : Has T) {x0 : AV} {H : AH} {Q : AV → AH → Prop} (h : w7 (Den.of T) Q x0 H) : ∃ v H', Den.of T 7 [x0] H = some (v, H') ∧ Q v H' :=
  wpF_ok (hT _ ir7 rfl) (by rw [w7_eq] at h; exact h)

-- grille/scalar.Quote
def w8 (D : Den) (Q : AV → AH → Prop) (x0 : AV) (H : AH) : Prop :=
 cP D 20 [x0] H fun x8 H1 =>
 gP (aNot x8) fun x9 =>
 iP x9
 ( Q (.str []) H1)
 ( aP [.bnil, .nils] H1 fun x3 H2 =>
 cP D 26 [x3, (.int .u8 34)] H2 fun x10 H3 =>
 sP (aop [] (.rangeS (.cst x0)) H3) fun x12 H4 =>
 lP 0 (fun s1 H5 =>
 sP (aop [] (.nextS (.cst x12)) H5) fun x13 H6 =>
 gP (aExtract 0 x13) fun x14 =>
 iP x14
 ( gP (aExtract 2 x13) fun x15 =>
 cP D 27 [x15] H6 fun x17 H7 =>
 gP (aBin .neq x17 (.int .u8 0)) fun x22 =>
 iP x22
 ( cP D 26 [x3, (.int .u8 92)] H7 fun x23 H8 =>
 cP D 26 [x3, x17] H8 fun x25 H9 =>
 s1 H9)
 ( cP D 19 [x15] H7 fun x28 H10 =>
 iP x28
 ( cP D 28 [x3, x15] H10 fun x30 H11 =>
 s1 H11)
 ( gP (aBin .lss x15 (.int .i32 256)) fun x33 =>
 iP x33
 ( cP D 29 [x3, (.int .u8 120), x15, (.int .i64 2)] H10 fun x35 H12 =>
 s1 H12)
 ( gP (aBin .lss x15 (.int .i32 65536)) fun x38 =>
 iP x38
 ( cP D 29 [x3, (.int .u8 117), x15, (.int .i64 4)] H10 fun x40 H13 =>
 s1 H13)
 ( cP D 29 [x3, (.int .u8 85), x15, (.int .i64 8)] H10 fun x19 H14 =>
 s1 H14)))))
 ( cP D 26 [x3, (.int .u8 34)] H6 fun x41 H15 =>
 cP D 30 [x3] H15 fun x42 H16 =>
 Q x42 H16)) [] H4)
theorem w8_eq : w8 = fun D Q x0 H => wpF D ir8 [x0] H Q := by kernel_rfl
theorem w8_ok (hT : Has T) {x0 : AV} {H : AH} {Q : AV → AH → Prop} (h : w8 (Den.of T) Q x0 H) : ∃ v H', Den.of T 8 [x0] H = some (v, H') ∧ Q v H' :=
  wpF_ok (hT _ ir8 rfl) (by rw [w8_eq] at h; exact h)

-- grille/scalar.Plain
def w10 (D : Den) (Q : AV → AH → Prop) (x0 : AV) (H : AH) : Prop :=
 jP 1 (fun x4 H1 =>
 iP x4
 ( Q (.bool false) H1)
 ( jP 1 (fun x20 H2 =>
 iP x20
 ( Q (.bool false) H2)
 ( jP 1 (fun x34 H3 =>
 iP x34
 ( Q (.bool false) H3)
 ( cP D 36 [x0, (.str [58, 32])] H3 fun x42 H4 =>
 gP (aNot x42) fun x43 =>
 dP x43 true
 ( cP D 36 [x0, (.str [32, 35])] H4 fun x46 H5 =>
 gP (aNot x46) fun x47 =>
 Q x47 H5)
 ( Q (.bool false) H4))) fun j1 =>
 cP D 35 [x0, (.str [32])] H2 fun x36 H6 =>
 dP x36 false
 ( cP D 35 [x0, (.str [58])] H6 fun x39 H7 =>
 j1 x39 H7)
 ( j1 (.bool true) H6))) fun j2 =>
 gP (aIdxStr x0 (.int .i64 0)) fun x22 =>
 cP D 33 [(.str [45, 63, 58, 44, 91, 93, 123, 125, 35, 38, 42, 33, 124, 62, 39, 34, 37, 64, 96, 32]), x22] H1 fun x23 H8 =>
 gP (aBin .geq x23 (.int .i64 0)) fun x24 =>
 dP x24 false
 ( cP D 34 [x0, (.str [9, 10, 13, 44, 91, 93, 123, 125])] H8 fun x27 H9 =>
 dP x27 false
 ( cP D 21 [x0, (.fn (.func 32) [] [])] H9 fun x32 H10 =>
 j2 x32 H10)
 ( j2 (.bool true) H9))
 ( j2 (.bool true) H8))) fun j3 =>
 gP (aBin .eql x0 (.str [])) fun x6 =>
 dP x6 false
 ( gP (aBin .eql x0 (.str [45, 45, 45])) fun x9 =>
 dP x9 false
 ( gP (aBin .eql x0 (.str [46, 46, 46])) fun x13 =>
 dP x13 false
 ( cP D 20 [x0] H fun x17 H11 =>
 gP (aNot x17) fun x18 =>
 j3 x18 H11)
 ( j3 (.bool true) H))
 ( j3 (.bool true) H))
 ( j3 (.bool true) H)
theorem w10_eq : w10 = fun D Q x0 H => wpF D ir10 [x0] H Q := by kernel_rfl
theorem w10_ok (hT : Has T) {x0 : AV} {H : AH} {Q : AV → AH → Prop} (h : w10 (Den.of T) Q x0 H) : ∃ v H', Den.of T 10 [x0] H = some (v, H') ∧ Q v H' :=
  wpF_ok (hT _ ir10 rfl) (by rw [w10_eq] at h; exact h)

-- grille/scalar.Unquote
def w12 (D : Den) (Q : AV → AH → Prop) (x0 : AV) (H : AH) : Prop :=
 gP (aLen .str x0 H) fun x11 =>
 jP 1 (fun x30 H1 =>
 iP x30
 ( Q (.tup [(.str []), (.int .i64 10)]) H1)
 ( aP [.bnil, .nils] H1 fun x5 H2 =>
 gP (aBin .sub x11 (.int .i64 1)) fun x33 =>
 gP (aSlcS x0 (some (.int .i64 1)) (some x33)) fun x34 =>
 lP 1 (fun s1 x6 H3 =>
 gP (aBin .neq x6 (.str [])) fun x36 =>
 iP x36
 ( gP (aIdxStr x6 (.int .i64 0)) fun x38 =>
 jP 1 (fun x44 H4 =>
 iP x44
 ( Q (.tup [(.str []), (.int .i64 10)]) H4)
 ( gP (aBin .eql x38 (.int .u8 92)) fun x48 =>
 iP x48
 ( gP (aSlcS x6 (some (.int .i64 1)) none) fun x51 =>
 cP D 38 [x51] H4 fun x52 H5 =>
 gP (aExtract 0 x52) fun x53 =>
 gP (aExtract 1 x52) fun x54 =>
 gP (aExtract 2 x52) fun x55 =>
 gP (aNot x55) fun x57 =>
 iP x57
 ( Q (.tup [(.str []), (.int .i64 10)]) H5)
 ( cP D 28 [x5, x53] H5 fun x59 H6 =>
 gP (aBin .add (.int .i64 1) x54) fun x62 =>
 gP (aSlcS x6 (some x62) none) fun x63 =>
 s1 x63 H6))
 ( gP (aIdxStr x6 (.int .i64 0)) fun x40 =>
 cP D 26 [x5, x40] H4 fun x41 H7 =>
 gP (aSlcS x6 (some (.int .i64 1)) none) fun x43 =>
 s1 x43 H7))) fun j2 =>
 gP (aBin .eql x38 (.int .u8 34)) fun x45 =>
 iP x45
 ( j2 x45 H3)
 ( gP (aBin .eql x38 (.int .u8 10)) fun x46 =>
 j2 x46 H3))
 ( cP D 30 [x5] H3 fun x64 H8 =>
 Q (.tup [x64, (.int .i64 0)]) H8)) [x34] H2)) fun j3 =>
 cP D 20 [x0] H fun x13 H9 =>
 gP (aNot x13) fun x14 =>
 dP x14 false
 ( gP (aBin .lss x11 (.int .i64 2)) fun x17 =>
 dP x17 false
 ( gP (aIdxStr x0 (.int .i64 0)) fun x21 =>
 gP (aBin .neq x21 (.int .u8 34)) fun x22 =>
 dP x22 false
 ( gP (aBin .sub x11 (.int .i64 1)) fun x27 =>
 gP (aIdxStr x0 x27) fun x28 =>
 gP (aBin .neq x28 (.int .u8 34)) fun x29 =>
 j3 x29 H9)
 ( j3 (.bool true) H9))
 ( j3 (.bool true) H9))
 ( j3 (.bool true) H9)
theorem w12_eq : w12 = fun D Q x0 H => wpF D ir12 [x0] H Q := by kernel_rfl
theorem w12_ok (hT : Has T) {x0 : AV} {H : AH} {Q : AV → AH → Prop} (h : w12 (Den.of T) Q x0 H) : ∃ v H', Den.of T 12 [x0] H = some (v, H') ∧ Q v H' :=
  wpF_ok (hT _ ir12 rfl) (by rw [w12_eq] at h; exact h)

-- grille/grilleref02.Unquote
def w13 (D : Den) (Q : AV → AH → Prop) (x0 : AV) (H : AH) : Prop :=
 cP D 23 [x0] H fun x13 H1 =>
 gP (aExtract 0 x13) fun x14 =>
 gP (aExtract 1 x13) fun x15 =>
 gP (aLen .row x14 H1) fun x17 =>
 jP 1 (fun x37 H2 =>
 iP x37
 ( Q (.tup [(.str []), (.int .i64 10)]) H2)
 ( gP (aBin .sub x17 (.int .i64 1)) fun x40 =>
 gP (aSlc 1 x14 (some (.int .i64 1)) (some x40)) fun x41 =>
 lP 2 (fun s1 x7 x8 H3 =>
 gP (aLen .row x8 H3) fun x43 =>
 gP (aBin .gtr x43 (.int .i64 0)) fun x44 =>
 iP x44
 ( jP 1 (fun x54 H4 =>
 iP x54
 ( Q (.tup [(.str []), (.int .i64 10)]) H4)
 ( gP (aIdxAddr 1 x8 (.int .i64 0)) fun x56 =>
 gP (aLoad none x56 H4) fun x57 =>
 gP (aBin .neq x57 (.int .i64 92)) fun x58 =>
 iP x58
 ( gP (aIdxAddr 1 x8 (.int .i64 0)) fun x61 =>
 gP (aLoad none x61 H4) fun x62 =>
 sP (aLit .ro 1 [x62] H4) fun x63 H5 =>
 sP (aAppend .tok 1 (8, 3) x7 x63 H5) fun x64 H6 =>
 gP (aSlc 1 x8 (some (.int .i64 1)) none) fun x66 =>
 s1 x64 x66 H6)
 ( gP (aSlc 1 x8 (some (.int .i64 1)) none) fun x69 =>
 cP D 39 [x69] H4 fun x70 H7 =>
 gP (aExtract 0 x70) fun x71 =>
 gP (aExtract 1 x70) fun x72 =>
 gP (aBin .lss x71 (.int .i64 0)) fun x74 =>
 iP x74
 ( Q (.tup [(.str []), (.int .i64 10)]) H7)
 ( sP (aLit .ro 1 [x71] H7) fun x77 H8 =>
 sP (aAppend .tok 1 (8, 3) x7 x77 H8) fun x78 H9 =>
 gP (aBin .add (.int .i64 1) x72) fun x81 =>
 gP (aSlc 1 x8 (some x81) none) fun x82 =>
 s1 x78 x82 H9)))) fun j2 =>
 gP (aIdxAddr 1 x8 (.int .i64 0)) fun x46 =>
 gP (aLoad none x46 H3) fun x47 =>
 gP (aBin .eql x47 (.int .i64 34)) fun x48 =>
 dP x48 false
 ( gP (aIdxAddr 1 x8 (.int .i64 0)) fun x51 =>
 gP (aLoad none x51 H3) fun x52 =>
 gP (aBin .eql x52 (.int .i64 10)) fun x53 =>
 j2 x53 H3)
 ( j2 (.bool true) H3))
 ( cP D 25 [x7] H3 fun x84 H10 =>
 Q (.tup [x84, (.int .i64 0)]) H10)) [.nils, x41] H2)) fun j3 =>
 gP (aNot x15) fun x19 =>
 dP x19 false
 ( gP (aBin .lss x17 (.int .i64 2)) fun x22 =>
 dP x22 false
 ( gP (aIdxAddr 1 x14 (.int .i64 0)) fun x26 =>
 gP (aLoad none x26 H1) fun x27 =>
 gP (aBin .neq x27 (.int .i64 34)) fun x28 =>
 dP x28 false
 ( gP (aBin .sub x17 (.int .i64 1)) fun x33 =>
 gP (aIdxAddr 1 x14 x33) fun x34 =>
 gP (aLoad none x34 H1) fun x35 =>
 gP (aBin .neq x35 (.int .i64 34)) fun x36 =>
 j3 x36 H1)
 ( j3 (.bool true) H1))
 ( j3 (.bool true) H1))
 ( j3 (.bool true) H1)
theorem w13_eq : w13 = fun D Q x0 H => wpF D ir13 [x0] H Q := by kernel_rfl
theorem w13_ok (hT : Has T) {x0 : AV} {H : AH} {Q : AV → AH → Prop} (h : w13 (Den.of T) Q x0 H) : ∃ v H', Den.of T 13 [x0] H = some (v, H') ∧ Q v H' :=
  wpF_ok (hT _ ir13 rfl) (by rw [w13_eq] at h; exact h)

-- grille/scalar.Unsingle
def w14 (D : Den) (Q : AV → AH → Prop) (x0 : AV) (H : AH) : Prop :=
 gP (aLen .str x0 H) fun x8 =>
 gP (aBin .lss x8 (.int .i64 2)) fun x9 =>
 iP x9
 ( Q (.tup [(.str []), (.int .i64 10)]) H)
 ( gP (aLen .str x0 H) fun x12 =>
 gP (aBin .sub x12 (.int .i64 1)) fun x13 =>
 gP (aSlcS x0 (some (.int .i64 1)) (some x13)) fun x14 =>
 cP D 22 [x14, (.str [39, 39]), (.str [39])] H fun x15 H1 =>
 cP D 6 [x15] H1 fun x18 H2 =>
 gP (aExtract 0 x18) fun x19 =>
 gP (aExtract 1 x18) fun x20 =>
 jP 1 (fun x27 H3 =>
 iP x27
 ( Q (.tup [(.str []), (.int .i64 10)]) H3)
 ( Q (.tup [x15, (.int .i64 0)]) H3)) fun j1 =>
 gP (aBin .neq x20 (.int .i64 0)) fun x22 =>
 dP x22 false
 ( gP (aBin .neq x19 x0) fun x26 =>
 j1 x26 H2)
 ( j1 (.bool true) H2))
theorem w14_eq : w14 = fun D Q x0 H => wpF D ir14 [x0] H Q := by kernel_rfl
theorem w14_ok (hT : Has T) {x0 : AV} {H : AH} {Q : AV → AH → Prop} (h : w14 (Den.of T) Q x0 H) : ∃ v H', Den.of T 14 [x0] H = some (v, H') ∧ Q v H' :=
  wpF_ok (hT _ ir14 rfl) (by rw [w14_eq] at h; exact h)

-- grille/grilleref02.Unsingle
def w15 (D : Den) (Q : AV → AH → Prop) (x0 : AV) (H : AH) : Prop :=
 cP D 23 [x0] H fun x13 H1 =>
 gP (aExtract 0 x13) fun x14 =>
 gP (aExtract 1 x13) fun x15 =>
 jP 1 (fun x22 H2 =>
 iP x22
 ( Q (.tup [(.str []), (.int .i64 10)]) H2)
 ( gP (aLen .row x14 H2) fun x25 =>
 gP (aBin .sub x25 (.int .i64 1)) fun x26 =>
 gP (aSlc 1 x14 (some (.int .i64 1)) (some x26)) fun x27 =>
 lP 2 (fun s1 x6 x8 H3 =>
 gP (aLen .row x27 H3) fun x30 =>
 gP (aBin .lss x8 x30) fun x31 =>
 iP x31
 ( jP 2 (fun x6_1 x8_1 H4 =>
 gP (aBin .add x8_1 (.int .i64 1)) fun x33 =>
 s1 x6_1 x33 H4) fun j2 =>
 gP (aIdxAddr 1 x27 x8) fun x37 =>
 gP (aLoad none x37 H3) fun x38 =>
 sP (aLit .ro 1 [x38] H3) fun x39 H5 =>
 sP (aAppend .tok 1 (8, 3) x6 x39 H5) fun x40 H6 =>
 gP (aIdxAddr 1 x27 x8) fun x43 =>
 gP (aLoad none x43 H6) fun x44 =>
 gP (aBin .eql x44 (.int .i64 39)) fun x45 =>
 iP x45
 ( gP (aBin .add x8 (.int .i64 1)) fun x47 =>
 j2 x40 x47 H6)
 ( j2 x40 x8 H6))
 ( cP D 25 [x6] H3 fun x50 H7 =>
 cP D 7 [x50] H7 fun x51 H8 =>
 gP (aExtract 0 x51) fun x52 =>
 gP (aExtract 1 x51) fun x53 =>
 jP 1 (fun x60 H9 =>
 iP x60
 ( Q (.tup [(.str []), (.int .i64 10)]) H9)
 ( cP D 25 [x6] H9 fun x62 H10 =>
 Q (.tup [x62, (.int .i64 0)]) H10)) fun j3 =>
 gP (aBin .neq x53 (.int .i64 0)) fun x55 =>
 dP x55 false
 ( gP (aBin .neq x52 x0) fun x59 =>
 j3 x59 H8)
 ( j3 (.bool true) H8))) [.nils, (.int .i64 0)] H2)) fun j4 =>
 gP (aNot x15) fun x17 =>
 dP x17 false
 ( gP (aLen .row x14 H1) fun x20 =>
 gP (aBin .lss x20 (.int .i64 2)) fun x21 =>
 j4 x21 H1)
 ( j4 (.bool true) H1)
theorem w15_eq : w15 = fun D Q x0 H => wpF D ir15 [x0] H Q := by kernel_rfl
theorem w15_ok (hT : Has T) {x0 : AV} {H : AH} {Q : AV → AH → Prop} (h : w15 (Den.of T) Q x0 H) : ∃ v H', Den.of T 15 [x0] H = some (v, H') ∧ Q v H' :=
  wpF_ok (hT _ ir15 rfl) (by rw [w15_eq] at h; exact h)

-- grille/scalar.End
def w16 (D : Den) (Q : AV → AH → Prop) (x0 : AV) (H : AH) : Prop :=
 jP 1 (fun x17 H1 =>
 iP x17
 ( Q (.tup [(.int .i64 0), (.int .i64 10)]) H1)
 ( lP 1 (fun s1 x4 H2 =>
 gP (aLen .str x0 H2) fun x20 =>
 gP (aBin .lss x4 x20) fun x21 =>
 iP x21
 ( jP 1 (fun x4_1 H3 =>
 gP (aBin .add x4_1 (.int .i64 1)) fun x23 =>
 s1 x23 H3) fun j2 =>
 gP (aIdxStr x0 (.int .i64 0)) fun x25 =>
 gP (aBin .eql x25 (.int .u8 34)) fun x26 =>
 jP 1 (fun x27 H4 =>
 iP x27
 ( gP (aBin .add x4 (.int .i64 1)) fun x36 =>
 j2 x36 H4)
 ( jP 1 (fun x37 H5 =>
 iP x37
 ( gP (aBin .add x4 (.int .i64 1)) fun x47 =>
 j2 x47 H5)
 ( gP (aIdxStr x0 x4) fun x51 =>
 gP (aIdxStr x0 (.int .i64 0)) fun x53 =>
 gP (aBin .eql x51 x53) fun x54 =>
 iP x54
 ( gP (aBin .add x4 (.int .i64 1)) fun x56 =>
 Q (.tup [x56, (.int .i64 0)]) H5)
 ( j2 x4 H5))) fun j3 =>
 gP (aNot x26) fun x39 =>
 dP x39 true
 ( gP (aSlcS x0 (some x4) none) fun x43 =>
 cP D 40 [x43, (.str [39, 39])] H4 fun x44 H6 =>
 j3 x44 H6)
 ( j3 (.bool false) H4))) fun j4 =>
 dP x26 true
 ( gP (aIdxStr x0 x4) fun x32 =>
 gP (aBin .eql x32 (.int .u8 92)) fun x33 =>
 j4 x33 H2)
 ( j4 (.bool false) H2))
 ( Q (.tup [(.int .i64 0), (.int .i64 10)]) H2)) [(.int .i64 1)] H1)) fun j5 =>
 gP (aBin .eql x0 (.str [])) fun x7 =>
 dP x7 false
 ( gP (aIdxStr x0 (.int .i64 0)) fun x10 =>
 gP (aBin .neq x10 (.int .u8 34)) fun x11 =>
 dP x11 true
 ( gP (aIdxStr x0 (.int .i64 0)) fun x14 =>
 gP (aBin .neq x14 (.int .u8 39)) fun x15 =>
 j5 x15 H)
 ( j5 (.bool false) H))
 ( j5 (.bool true) H)
theorem w16_eq : w16 = fun D Q x0 H => wpF D ir16 [x0] H Q := by kernel_rfl
theorem w16_ok (hT : Has T) {x0 : AV} {H : AH} {Q : AV → AH → Prop} (h : w16 (Den.of T) Q x0 H) : ∃ v H', Den.of T 16 [x0] H = some (v, H') ∧ Q v H' :=
  wpF_ok (hT _ ir16 rfl) (by rw [w16_eq] at h; exact h)

-- grille/grilleref02.End
def w17 (D : Den) (Q : AV → AH → Prop) (x0 : AV) (H : AH) : Prop :=
 jP 1 (fun x16 H1 =>
 iP x16
 ( Q (.tup [(.int .i64 0), (.int .i64 10)]) H1)
 ( lP 1 (fun s1 x4 H2 =>
 gP (aLen .str x0 H2) fun x19 =>
 gP (aBin .lss x4 x19) fun x20 =>
 iP x20
 ( jP 1 (fun x4_1 H3 =>
 gP (aBin .add x4_1 (.int .i64 1)) fun x22 =>
 s1 x22 H3) fun j2 =>
 jP 1 (fun x23 H4 =>
 iP x23
 ( gP (aBin .add x4 (.int .i64 1)) fun x34 =>
 j2 x34 H4)
 ( jP 1 (fun x35 H5 =>
 iP x35
 ( gP (aBin .add x4 (.int .i64 1)) fun x60 =>
 j2 x60 H5)
 ( gP (aIdxStr x0 x4) fun x64 =>
 gP (aIdxStr x0 (.int .i64 0)) fun x66 =>
 gP (aBin .eql x64 x66) fun x67 =>
 iP x67
 ( gP (aBin .add x4 (.int .i64 1)) fun x69 =>
 Q (.tup [x69, (.int .i64 0)]) H5)
 ( j2 x4 H5))) fun j3 =>
 gP (aIdxStr x0 (.int .i64 0)) fun x37 =>
 gP (aBin .eql x37 (.int .u8 39)) fun x38 =>
 dP x38 true
 ( gP (aIdxStr x0 x4) fun x42 =>
 gP (aBin .eql x42 (.int .u8 39)) fun x43 =>
 dP x43 true
 ( gP (aBin .add x4 (.int .i64 1)) fun x47 =>
 gP (aLen .str x0 H4) fun x49 =>
 gP (aBin .lss x47 x49) fun x50 =>
 dP x50 true
 ( gP (aBin .add x4 (.int .i64 1)) fun x55 =>
 gP (aIdxStr x0 x55) fun x56 =>
 gP (aBin .eql x56 (.int .u8 39)) fun x57 =>
 j3 x57 H4)
 ( j3 (.bool false) H4))
 ( j3 (.bool false) H4))
 ( j3 (.bool false) H4))) fun j4 =>
 gP (aIdxStr x0 (.int .i64 0)) fun x25 =>
 gP (aBin .eql x25 (.int .u8 34)) fun x26 =>
 dP x26 true
 ( gP (aIdxStr x0 x4) fun x30 =>
 gP (aBin .eql x30 (.int .u8 92)) fun x31 =>
 j4 x31 H2)
 ( j4 (.bool false) H2))
 ( Q (.tup [(.int .i64 0), (.int .i64 10)]) H2)) [(.int .i64 1)] H1)) fun j5 =>
 gP (aBin .eql x0 (.str [])) fun x6 =>
 dP x6 false
 ( gP (aIdxStr x0 (.int .i64 0)) fun x9 =>
 gP (aBin .neq x9 (.int .u8 34)) fun x10 =>
 dP x10 true
 ( gP (aIdxStr x0 (.int .i64 0)) fun x13 =>
 gP (aBin .neq x13 (.int .u8 39)) fun x14 =>
 j5 x14 H)
 ( j5 (.bool false) H))
 ( j5 (.bool true) H)
theorem w17_eq : w17 = fun D Q x0 H => wpF D ir17 [x0] H Q := by kernel_rfl
theorem w17_ok (hT : Has T) {x0 : AV} {H : AH} {Q : AV → AH → Prop} (h : w17 (Den.of T) Q x0 H) : ∃ v H', Den.of T 17 [x0] H = some (v, H') ∧ Q v H' :=
  wpF_ok (hT _ ir17 rfl) (by rw [w17_eq] at h; exact h)

-- grille/scalar.Single$1
def w18 (D : Den) (Q : AV → AH → Prop) (x0 : AV) (H : AH) : Prop :=
 cP D 19 [x0] H fun x4 H1 =>
 gP (aNot x4) fun x5 =>
 dP x5 false
 ( gP (aBin .eql x0 (.int .i32 10)) fun x8 =>
 dP x8 false
 ( gP (aBin .eql x0 (.int .i32 13)) fun x12 =>
 Q x12 H1)
 ( Q (.bool true) H1))
 ( Q (.bool true) H1)
theorem w18_eq : w18 = fun D Q x0 H => wpF D ir18 [x0] H Q := by kernel_rfl
theorem w18_ok (hT : Has T) {x0 : AV} {H : AH} {Q : AV → AH → Prop} (h : w18 (Den.of T) Q x0 H) : ∃ v H', Den.of T 18 [x0] H = some (v, H') ∧ Q v H' :=
  wpF_ok (hT _ ir18 rfl) (by rw [w18_eq] at h; exact h)

-- grille/text.May
def w19 (D : Den) (Q : AV → AH → Prop) (x0 : AV) (H : AH) : Prop :=
 jP 1 (fun x3 H1 =>
 iP x3
 ( Q (.bool true) H1)
 ( jP 1 (fun x18 H2 =>
 iP x18
 ( Q (.bool false) H2)
 ( gP (aBin .geq x0 (.int .i32 32)) fun x30 =>
 dP x30 true
 ( gP (aBin .lss x0 (.int .i32 127)) fun x33 =>
 dP x33 false
 ( gP (aBin .geq x0 (.int .i32 160)) fun x37 =>
 dP x37 true
 ( cP D 41 [x0] H2 fun x40 H3 =>
 Q x40 H3)
 ( Q (.bool false) H2))
 ( Q (.bool true) H2))
 ( gP (aBin .geq x0 (.int .i32 160)) fun x37_1 =>
 dP x37_1 true
 ( cP D 41 [x0] H2 fun x40_1 H4 =>
 Q x40_1 H4)
 ( Q (.bool false) H2)))) fun j1 =>
 gP (aBin .eql x0 (.int .i32 65279)) fun x20 =>
 dP x20 false
 ( gP (aBin .eql x0 (.int .i32 65534)) fun x23 =>
 dP x23 false
 ( gP (aBin .eql x0 (.int .i32 65535)) fun x27 =>
 j1 x27 H1)
 ( j1 (.bool true) H1))
 ( j1 (.bool true) H1))) fun j2 =>
 gP (aBin .eql x0 (.int .i32 9)) fun x5 =>
 dP x5 false
 ( gP (aBin .eql x0 (.int .i32 10)) fun x8 =>
 dP x8 false
 ( gP (aBin .eql x0 (.int .i32 13)) fun x12 =>
 dP x12 false
 ( gP (aBin .eql x0 (.int .i32 133)) fun x16 =>
 j2 x16 H)
 ( j2 (.bool true) H))
 ( j2 (.bool true) H))
 ( j2 (.bool true) H)
theorem w19_eq : w19 = fun D Q x0 H => wpF D ir19 [x0] H Q := by kernel_rfl
theorem w19_ok (hT : Has T) {x0 : AV} {H : AH} {Q : AV → AH → Prop} (h : w19 (Den.of T) Q x0 H) : ∃ v H', Den.of T 19 [x0] H = some (v, H') ∧ Q v H' :=
  wpF_ok (hT _ ir19 rfl) (by rw [w19_eq] at h; exact h)

-- strings.ContainsFunc
def w21 (D : Den) (Q : AV → AH → Prop) (x0 x1 : AV) (H : AH) : Prop :=
 cP D 43 [x0, x1] H fun x7 H1 =>
 gP (aBin .geq x7 (.int .i64 0)) fun x8 =>
 Q x8 H1
theorem w21_eq : w21 = fun D Q x0 x1 H => wpF D ir21 [x0, x1] H Q := by kernel_rfl
theorem w21_ok (hT : Has T) {x0 x1 : AV} {H : AH} {Q : AV → AH → Prop} (h : w21 (Den.of T) Q x0 x1 H) : ∃ v H', Den.of T 21 [x0, x1] H = some (v, H') ∧ Q v H' :=
  wpF_ok (hT _ ir21 rfl) (by rw [w21_eq] at h; exact h)

-- grille/grilleref02.Chars
def w23 (D : Den) (Q : AV → AH → Prop) (x0 : AV) (H : AH) : Prop :=
 sP (aLit .tok 1 [(.int .u8 239), (.int .u8 187), (.int .u8 191)] H) fun x7 H1 =>
 sP (aAppend .tok 1 (1, 5) x7 x0 H1) fun x9 H2 =>
 cP D 45 [x9] H2 fun x10 H3 =>
 gP (aExtract 0 x10) fun x11 =>
 gP (aExtract 1 x10) fun x12 =>
 gP (aBin .eql x12 (.int .i64 0)) fun x15 =>
 Q (.tup [x11, x15]) H3
theorem w23_eq : w23 = fun D Q x0 H => wpF D ir23 [x0] H Q := by kernel_rfl
theorem w23_ok (hT : Has T) {x0 : AV} {H : AH} {Q : AV → AH → Prop} (h : w23 (Den.of T) Q x0 H) : ∃ v H', Den.of T 23 [x0] H = some (v, H') ∧ Q v H' :=
  wpF_ok (hT _ ir23 rfl) (by rw [w23_eq] at h; exact h)

-- grille/grilleref01.May
def w24 (D : Den) (Q : AV → AH → Prop) (x0 : AV) (H : AH) : Prop :=
 jP 1 (fun x24 H1 =>
 iP x24
 ( Q (.bool true) H1)
 ( cP D 46 [x0] H1 fun x26 H2 =>
 dP x26 true
 ( gP (aBin .geq x0 (.int .i64 160)) fun x29 =>
 dP x29 true
 ( gP (aBin .neq x0 (.int .i64 65279)) fun x33 =>
 dP x33 true
 ( gP (aBin .neq x0 (.int .i64 65534)) fun x37 =>
 dP x37 true
 ( gP (aBin .neq x0 (.int .i64 65535)) fun x41 =>
 Q x41 H2)
 ( Q (.bool false) H2))
 ( Q (.bool false) H2))
 ( Q (.bool false) H2))
 ( Q (.bool false) H2))) fun j1 =>
 gP (aBin .eql x0 (.int .i64 9)) fun x4 =>
 dP x4 false
 ( gP (aBin .eql x0 (.int .i64 10)) fun x7 =>
 dP x7 false
 ( gP (aBin .eql x0 (.int .i64 13)) fun x11 =>
 dP x11 false
 ( gP (aBin .geq x0 (.int .i64 32)) fun x15 =>
 dP x15 true
 ( gP (aBin .leq x0 (.int .i64 126)) fun x18 =>
 dP x18 false
 ( gP (aBin .eql x0 (.int .i64 133)) fun x23 =>
 j1 x23 H)
 ( j1 (.bool true) H))
 ( dP (.bool false) false
 ( gP (aBin .eql x0 (.int .i64 133)) fun x23_1 =>
 j1 x23_1 H)
 ( j1 (.bool true) H)))
 ( j1 (.bool true) H))
 ( j1 (.bool true) H))
 ( j1 (.bool true) H)
theorem w24_eq : w24 = fun D Q x0 H => wpF D ir24 [x0] H Q := by kernel_rfl
theorem w24_ok (hT : Has T) {x0 : AV} {H : AH} {Q : AV → AH → Prop} (h : w24 (Den.of T) Q x0 H) : ∃ v H', Den.of T 24 [x0] H = some (v, H') ∧ Q v H' :=
  wpF_ok (hT _ ir24 rfl) (by rw [w24_eq] at h; exact h)

-- grille/grilleref02.Text
def w25 (D : Den) (Q : AV → AH → Prop) (x0 : AV) (H : AH) : Prop :=
 lP 2 (fun s1 x3 x4 H1 =>
 gP (aLen .row x0 H1) fun x7 =>
 gP (aBin .lss x4 x7) fun x8 =>
 iP x8
 ( gP (aIdxAddr 1 x0 x4) fun x14 =>
 gP (aLoad none x14 H1) fun x15 =>
 cP D 47 [x15] H1 fun x16 H2 =>
 sP (aAppend .tok 1 (1, 5) x3 x16 H2) fun x17 H3 =>
 gP (aBin .add x4 (.int .i64 1)) fun x10 =>
 s1 x17 x10 H3)
 ( sP (aop [] (.cvStr (.cst x3)) H1) fun x19 H4 =>
 Q x19 H4)) [.nils, (.int .i64 0)] H
theorem w25_eq : w25 = fun D Q x0 H => wpF D ir25 [x0] H Q := by kernel_rfl
theorem w25_ok (hT : Has T) {x0 : AV} {H : AH} {Q : AV → AH → Prop} (h : w25 (Den.of T) Q x0 H) : ∃ v H', Den.of T 25 [x0] H = some (v, H') ∧ Q v H' :=
  wpF_ok (hT _ ir25 rfl) (by rw [w25_eq] at h; exact h)

-- (*strings.Builder).WriteByte
def w26 (D : Den) (Q : AV → AH → Prop) (x0 x1 : AV) (H : AH) : Prop :=
 cP D 48 [x0] H fun x6 H1 =>
 gP (aNilck x0) fun x9 =>
 gP (aFieldAddr 1 x9) fun x10 =>
 gP (aLoad none x10 H1) fun x11 =>
 sP (aLit .ro 1 [x1] H1) fun x13 H2 =>
 sP (aAppend .tok 1 (1, 5) x11 x13 H2) fun x14 H3 =>
 gP (aNilck x0) fun x15 =>
 gP (aFieldAddr 1 x15) fun x16 =>
 hP (aStore 1 x16 x14 H3) fun H4 =>
 Q .niliface H4
theorem w26_eq : w26 = fun D Q x0 x1 H => wpF D ir26 [x0, x1] H Q := by kernel_rfl
theorem w26_ok (hT : Has T) {x0 x1 : AV} {H : AH} {Q : AV → AH → Prop} (h : w26 (Den.of T) Q x0 x1 H) : ∃ v H', Den.of T 26 [x0, x1] H = some (v, H') ∧ Q v H' :=
  wpF_ok (hT _ ir26 rfl) (by rw [w26_eq] at h; exact h)

-- grille/scalar.letter
def w27 (D : Den) (Q : AV → AH → Prop) (x0 : AV) (H : AH) : Prop :=
 sP (aop [] (.rangeS (.cst (.str [0, 7, 8, 9, 10, 11, 12, 13, 27, 34, 92, 194, 133, 194, 160, 226, 128, 168, 226, 128, 169]))) H) fun x6 H1 =>
 lP 1 (fun s1 x3 H2 =>
 sP (aop [] (.nextS (.cst x6)) H2) fun x7 H3 =>
 gP (aExtract 0 x7) fun x8 =>
 iP x8
 ( gP (aExtract 2 x7) fun x9 =>
 gP (aBin .eql x9 x0) fun x12 =>
 iP x12
 ( gP (aIdxStr (.str [48, 97, 98, 116, 110, 118, 102, 114, 101, 34, 92, 78, 95, 76, 80]) x3) fun x14 =>
 Q x14 H3)
 ( gP (aBin .add x3 (.int .i64 1)) fun x16 =>
 s1 x16 H3))
 ( Q (.int .u8 0) H3)) [(.int .i64 0)] H1
theorem w27_eq : w27 = fun D Q x0 H => wpF D ir27 [x0] H Q := by kernel_rfl
theorem w27_ok (hT : Has T) {x0 : AV} {H : AH} {Q : AV → AH → Prop} (h : w27 (Den.of T) Q x0 H) : ∃ v H', Den.of T 27 [x0] H = some (v, H') ∧ Q v H' :=
  wpF_ok (hT _ ir27 rfl) (by rw [w27_eq] at h; exact h)

-- (*strings.Builder).WriteRune
def w28 (D : Den) (Q : AV → AH → Prop) (x0 x1 : AV) (H : AH) : Prop :=
 cP D 48 [x0] H fun x8 H1 =>
 gP (aNilck x0) fun x10 =>
 gP (aFieldAddr 1 x10) fun x11 =>
 gP (aLoad none x11 H1) fun x12 =>
 gP (aLen .row x12 H1) fun x13 =>
 gP (aNilck x0) fun x16 =>
 gP (aFieldAddr 1 x16) fun x17 =>
 gP (aLoad none x17 H1) fun x18 =>
 cP D 49 [x18, x1] H1 fun x20 H2 =>
 gP (aNilck x0) fun x21 =>
 gP (aFieldAddr 1 x21) fun x22 =>
 hP (aStore 1 x22 x20 H2) fun H3 =>
 gP (aNilck x0) fun x24 =>
 gP (aFieldAddr 1 x24) fun x25 =>
 gP (aLoad none x25 H3) fun x26 =>
 gP (aLen .row x26 H3) fun x27 =>
 gP (aBin .sub x27 x13) fun x29 =>
 Q (.tup [x29, .niliface]) H3
theorem w28_eq : w28 = fun D Q x0 x1 H => wpF D ir28 [x0, x1] H Q := by kernel_rfl
theorem w28_ok (hT : Has T) {x0 x1 : AV} {H : AH} {Q : AV → AH → Prop} (h : w28 (Den.of T) Q x0 x1 H) : ∃ v H', Den.of T 28 [x0, x1] H = some (v, H') ∧ Q v H' :=
  wpF_ok (hT _ ir28 rfl) (by rw [w28_eq] at h; exact h)

-- grille/scalar.digits
def w29 (D : Den) (Q : AV → AH → Prop) (x0 x1 x2 x3 : AV) (H : AH) : Prop :=
 cP D 26 [x0, (.int .u8 92)] H fun x10 H1 =>
 cP D 26 [x0, x1] H1 fun x13 H2 =>
 gP (aBin .sub x3 (.int .i64 1)) fun x15 =>
 lP 1 (fun s1 x8 H3 =>
 gP (aBin .geq x8 (.int .i64 0)) fun x17 =>
 iP x17
 ( gP (aBin .mul (.int .i64 4) x8) fun x23 =>
 gP (aBin .shr x2 x23) fun x24 =>
 gP (aBin .and x24 (.int .i32 15)) fun x25 =>
 gP (aIdxStr (.str [48, 49, 50, 51, 52, 53, 54, 55, 56, 57, 97, 98, 99, 100, 101, 102]) x25) fun x26 =>
 cP D 26 [x0, x26] H3 fun x27 H4 =>
 gP (aBin .sub x8 (.int .i64 1)) fun x19 =>
 s1 x19 H4)
 ( Q (.tup []) H3)) [x15] H2
theorem w29_eq : w29 = fun D Q x0 x1 x2 x3 H => wpF D ir29 [x0, x1, x2, x3] H Q := by kernel_rfl
theorem w29_ok (hT : Has T) {x0 x1 x2 x3 : AV} {H : AH} {Q : AV → AH → Prop} (h : w29 (Den.of T) Q x0 x1 x2 x3 H) : ∃ v H', Den.of T 29 [x0, x1, x2, x3] H = some (v, H') ∧ Q v H' :=
  wpF_ok (hT _ ir29 rfl) (by rw [w29_eq] at h; exact h)

-- grille/scalar.Plain$1
def w32 (D : Den) (Q : AV → AH → Prop) (x0 : AV) (H : AH) : Prop :=
 cP D 19 [x0] H fun x4 H1 =>
 gP (aNot x4) fun x5 =>
 Q x5 H1
theorem w32_eq : w32 = fun D Q x0 H => wpF D ir32 [x0] H Q := by kernel_rfl
theorem w32_ok (hT : Has T) {x0 : AV} {H : AH} {Q : AV → AH → Prop} (h : w32 (Den.of T) Q x0 H) : ∃ v H', Den.of T 32 [x0] H = some (v, H') ∧ Q v H' :=
  wpF_ok (hT _ ir32 rfl) (by rw [w32_eq] at h; exact h)

-- grille/scalar.hasAny
def w34 (D : Den) (Q : AV → AH → Prop) (x0 x1 : AV) (H : AH) : Prop :=
 sP (aop [] (.rangeS (.cst x0)) H) fun x10 H1 =>
 lP 0 (fun s1 H2 =>
 sP (aop [] (.nextS (.cst x10)) H2) fun x11 H3 =>
 gP (aExtract 0 x11) fun x12 =>
 iP x12
 ( gP (aExtract 2 x11) fun x13 =>
 sP (aop [] (.rangeS (.cst x1)) H3) fun x15 H4 =>
 lP 0 (fun s2 H5 =>
 sP (aop [] (.nextS (.cst x15)) H5) fun x16 H6 =>
 gP (aExtract 0 x16) fun x17 =>
 iP x17
 ( gP (aExtract 2 x16) fun x18 =>
 gP (aBin .eql x13 x18) fun x21 =>
 iP x21
 ( Q (.bool true) H6)
 ( s2 H6))
 ( s1 H6)) [] H4)
 ( Q (.bool false) H3)) [] H1
theorem w34_eq : w34 = fun D Q x0 x1 H => wpF D ir34 [x0, x1] H Q := by kernel_rfl
theorem w34_ok (hT : Has T) {x0 x1 : AV} {H : AH} {Q : AV → AH → Prop} (h : w34 (Den.of T) Q x0 x1 H) : ∃ v H', Den.of T 34 [x0, x1] H = some (v, H') ∧ Q v H' :=
  wpF_ok (hT _ ir34 rfl) (by rw [w34_eq] at h; exact h)

-- strings.HasSuffix
def w35 (D : Den) (Q : AV → AH → Prop) (x0 x1 : AV) (H : AH) : Prop :=
 cP D 53 [x0, x1] H fun x7 H1 =>
 Q x7 H1
theorem w35_eq : w35 = fun D Q x0 x1 H => wpF D ir35 [x0, x1] H Q := by kernel_rfl
theorem w35_ok (hT : Has T) {x0 x1 : AV} {H : AH} {Q : AV → AH → Prop} (h : w35 (Den.of T) Q x0 x1 H) : ∃ v H', Den.of T 35 [x0, x1] H = some (v, H') ∧ Q v H' :=
  wpF_ok (hT _ ir35 rfl) (by rw [w35_eq] at h; exact h)

-- grille/scalar.escape
def w38 (D : Den) (Q : AV → AH → Prop) (x0 : AV) (H : AH) : Prop :=
 gP (aBin .eql x0 (.str [])) fun x7 =>
 iP x7
 ( Q (.tup [(.int .i32 0), (.int .i64 0), (.bool false)]) H)
 ( jP 1 (fun x5 H1 =>
 gP (aSlcS x0 (some (.int .i64 1)) none) fun x34 =>
 cP D 56 [x34, x5] H1 fun x36 H2 =>
 gP (aExtract 0 x36) fun x37 =>
 gP (aExtract 1 x36) fun x38 =>
 gP (aBin .add (.int .i64 1) x5) fun x41 =>
 Q (.tup [x37, x41, x38]) H2) fun j1 =>
 gP (aIdxStr x0 (.int .i64 0)) fun x9 =>
 jP 1 (fun x5_1 H3 =>
 gP (aBin .add x5_1 (.int .i64 2)) fun x23 =>
 j1 x23 H3) fun j2 =>
 jP 1 (fun x5_2 H4 =>
 gP (aBin .add x5_2 (.int .i64 2)) fun x21 =>
 j2 x21 H4) fun j3 =>
 gP (aBin .eql x9 (.int .u8 85)) fun x11 =>
 iP x11
 ( gP (aBin .add (.int .i64 0) (.int .i64 4)) fun x19 =>
 j3 x19 H)
 ( gP (aBin .eql x9 (.int .u8 117)) fun x13 =>
 iP x13
 ( j3 (.int .i64 0) H)
 ( gP (aBin .eql x9 (.int .u8 120)) fun x15 =>
 iP x15
 ( j2 (.int .i64 0) H)
 ( gP (aBin .eql x9 (.int .u8 47)) fun x17 =>
 iP x17
 ( Q (.tup [(.int .i32 47), (.int .i64 1), (.bool true)]) H)
 ( gP (aIdxStr x0 (.int .i64 0)) fun x26 =>
 cP D 55 [x26] H fun x27 H5 =>
 gP (aExtract 0 x27) fun x28 =>
 gP (aExtract 1 x27) fun x29 =>
 Q (.tup [x28, (.int .i64 1), x29]) H5)))))
theorem w38_eq : w38 = fun D Q x0 H => wpF D ir38 [x0] H Q := by kernel_rfl
theorem w38_ok (hT : Has T) {x0 : AV} {H : AH} {Q : AV → AH → Prop} (h : w38 (Den.of T) Q x0 H) : ∃ v H', Den.of T 38 [x0] H = some (v, H') ∧ Q v H' :=
  wpF_ok (hT _ ir38 rfl) (by rw [w38_eq] at h; exact h)

-- grille/grilleref02.meant
def w39 (D : Den) (Q : AV → AH → Prop) (x0 : AV) (H : AH) : Prop :=
 gP (aLen .row x0 H) fun x8 =>
 gP (aBin .eql x8 (.int .i64 0)) fun x9 =>
 iP x9
 ( Q (.tup [(.int .i64 (-1)), (.int .i64 0)]) H)
 ( gP (aIdxAddr 1 x0 (.int .i64 0)) fun x11 =>
 gP (aLoad none x11 H) fun x12 =>
 gP (aBin .eql x12 (.int .i64 47)) fun x13 =>
 iP x13
 ( Q (.tup [(.int .i64 47), (.int .i64 1)]) H)
 ( cP D 57 [] H fun x14 H1 =>
 lP 1 (fun s1 x5 H2 =>
 gP (aLen .row x14 H2) fun x17 =>
 gP (aBin .lss x5 x17) fun x18 =>
 iP x18
 ( gP (aIdxAddr 2 x14 x5) fun x23 =>
 gP (aIdxAddrArr 2 1 x23 (.int .i64 1)) fun x24 =>
 gP (aLoad none x24 H2) fun x25 =>
 gP (aIdxAddr 1 x0 (.int .i64 0)) fun x27 =>
 gP (aLoad none x27 H2) fun x28 =>
 gP (aBin .eql x25 x28) fun x29 =>
 iP x29
 ( gP (aIdxAddr 2 x14 x5) fun x32 =>
 gP (aIdxAddrArr 2 1 x32 (.int .i64 0)) fun x33 =>
 gP (aLoad none x33 H2) fun x34 =>
 Q (.tup [x34, (.int .i64 1)]) H2)
 ( gP (aBin .add x5 (.int .i64 1)) fun x20 =>
 s1 x20 H2))
 ( gP (aSlc 1 x0 (some (.int .i64 1)) none) fun x36 =>
 gP (aIdxAddr 1 x0 (.int .i64 0)) fun x38 =>
 gP (aLoad none x38 H2) fun x39 =>
 cP D 59 [x39] H2 fun x40 H3 =>
 cP D 58 [x36, x40] H3 fun x41 H4 =>
 jP 1 (fun x51 H5 =>
 iP x51
 ( Q (.tup [(.int .i64 (-1)), (.int .i64 0)]) H5)
 ( gP (aIdxAddr 1 x0 (.int .i64 0)) fun x54 =>
 gP (aLoad none x54 H5) fun x55 =>
 cP D 59 [x55] H5 fun x56 H6 =>
 gP (aBin .add (.int .i64 1) x56) fun x57 =>
 Q (.tup [x41, x57]) H6)) fun j2 =>
 gP (aIdxAddr 1 x0 (.int .i64 0)) fun x43 =>
 gP (aLoad none x43 H4) fun x44 =>
 cP D 59 [x44] H4 fun x45 H7 =>
 gP (aBin .eql x45 (.int .i64 0)) fun x46 =>
 dP x46 false
 ( cP D 46 [x41] H7 fun x49 H8 =>
 gP (aNot x49) fun x50 =>
 j2 x50 H8)
 ( j2 (.bool true) H7))) [(.int .i64 0)] H1))
theorem w39_eq : w39 = fun D Q x0 H => wpF D ir39 [x0] H Q := by kernel_rfl
theorem w39_ok (hT : Has T) {x0 : AV} {H : AH} {Q : AV → AH → Prop} (h : w39 (Den.of T) Q x0 H) : ∃ v H', Den.of T 39 [x0] H = some (v, H') ∧ Q v H' :=
  wpF_ok (hT _ ir39 rfl) (by rw [w39_eq] at h; exact h)

-- strings.HasPrefix
def w40 (D : Den) (Q : AV → AH → Prop) (x0 x1 : AV) (H : AH) : Prop :=
 cP D 60 [x0, x1] H fun x7 H1 =>
 Q x7 H1
theorem w40_eq : w40 = fun D Q x0 x1 H => wpF D ir40 [x0, x1] H Q := by kernel_rfl
theorem w40_ok (hT : Has T) {x0 x1 : AV} {H : AH} {Q : AV → AH → Prop} (h : w40 (Den.of T) Q x0 x1 H) : ∃ v H', Den.of T 40 [x0, x1] H = some (v, H') ∧ Q v H' :=
  wpF_ok (hT _ ir40 rfl) (by rw [w40_eq] at h; exact h)

-- unicode/utf8.ValidRune
def w41 (D : Den) (Q : AV → AH → Prop) (x0 : AV) (H : AH) : Prop :=
 jP 1 (fun x3 H1 =>
 iP x3
 ( Q (.bool true) H1)
 ( jP 1 (fun x10 H2 =>
 iP x10
 ( Q (.bool true) H2)
 ( Q (.bool false) H2)) fun j1 =>
 gP (aBin .lss (.int .i32 57343) x0) fun x12 =>
 dP x12 true
 ( gP (aBin .leq x0 (.int .i32 1114111)) fun x15 =>
 j1 x15 H1)
 ( j1 (.bool false) H1))) fun j2 =>
 gP (aBin .leq (.int .i32 0) x0) fun x5 =>
 dP x5 true
 ( gP (aBin .lss x0 (.int .i32 55296)) fun x8 =>
 j2 x8 H)
 ( j2 (.bool false) H)
theorem w41_eq : w41 = fun D Q x0 H => wpF D ir41 [x0] H Q := by kernel_rfl
theorem w41_ok (hT : Has T) {x0 : AV} {H : AH} {Q : AV → AH → Prop} (h : w41 (Den.of T) Q x0 H) : ∃ v H', Den.of T 41 [x0] H = some (v, H') ∧ Q v H' :=
  wpF_ok (hT _ ir41 rfl) (by rw [w41_eq] at h; exact h)

-- strings.IndexFunc
def w43 (D : Den) (Q : AV → AH → Prop) (x0 x1 : AV) (H : AH) : Prop :=
 cP D 61 [x0, x1, (.bool true)] H fun x7 H1 =>
 Q x7 H1
theorem w43_eq : w43 = fun D Q x0 x1 H => wpF D ir43 [x0, x1] H Q := by kernel_rfl
theorem w43_ok (hT : Has T) {x0 x1 : AV} {H : AH} {Q : AV → AH → Prop} (h : w43 (Den.of T) Q x0 x1 H) : ∃ v H', Den.of T 43 [x0, x1] H = some (v, H') ∧ Q v H' :=
  wpF_ok (hT _ ir43 rfl) (by rw [w43_eq] at h; exact h)

-- grille/grilleref01.Runes
def w45 (D : Den) (Q : AV → AH → Prop) (x0 : AV) (H : AH) : Prop :=
 cP D 66 [x0] H fun x13 H1 =>
 gP (aExtract 0 x13) fun x14 =>
 gP (aExtract 1 x13) fun x15 =>
 gP (aSlc 1 x0 (some x15) none) fun x18 =>
 jP 2 (fun x6 x7 H2 =>
 gP (aNot x7) fun x54 =>
 iP x54
 ( Q (.tup [.nils, (.int .i64 6)]) H2)
 ( lP 1 (fun s1 x10 H3 =>
 gP (aLen .row x6 H3) fun x57 =>
 gP (aBin .lss x10 x57) fun x58 =>
 iP x58
 ( gP (aIdxAddr 1 x6 x10) fun x63 =>
 gP (aLoad none x63 H3) fun x64 =>
 cP D 46 [x64] H3 fun x65 H4 =>
 gP (aNot x65) fun x66 =>
 iP x66
 ( Q (.tup [.nils, (.int .i64 6)]) H4)
 ( gP (aBin .add x10 (.int .i64 1)) fun x60 =>
 s1 x60 H4))
 ( Q (.tup [x6, (.int .i64 0)]) H3)) [(.int .i64 0)] H2)) fun j2 =>
 gP (aBin .eql x14 (.int .i64 0)) fun x28 =>
 iP x28
 ( cP D 67 [x18] H1 fun x31 H5 =>
 gP (aExtract 0 x31) fun x32 =>
 gP (aExtract 1 x31) fun x33 =>
 j2 x32 x33 H5)
 ( jP 1 (fun x34 H6 =>
 iP x34
 ( gP (aBin .eql x14 (.int .i64 2)) fun x40 =>
 cP D 68 [x18, (.int .i64 2), x40] H6 fun x41 H7 =>
 gP (aExtract 0 x41) fun x42 =>
 gP (aExtract 1 x41) fun x43 =>
 cP D 69 [x42] H7 fun x46 H8 =>
 gP (aExtract 0 x46) fun x47 =>
 gP (aExtract 1 x46) fun x48 =>
 dP x48 true
 ( j2 x47 x43 H8)
 ( j2 x47 (.bool false) H8))
 ( gP (aBin .eql x14 (.int .i64 4)) fun x23 =>
 cP D 68 [x18, (.int .i64 4), x23] H6 fun x24 H9 =>
 gP (aExtract 0 x24) fun x25 =>
 gP (aExtract 1 x24) fun x26 =>
 j2 x25 x26 H9)) fun j3 =>
 gP (aBin .eql x14 (.int .i64 1)) fun x35 =>
 iP x35
 ( j3 x35 H1)
 ( gP (aBin .eql x14 (.int .i64 2)) fun x36 =>
 j3 x36 H1))
theorem w45_eq : w45 = fun D Q x0 H => wpF D ir45 [x0] H Q := by kernel_rfl
theorem w45_ok (hT : Has T) {x0 : AV} {H : AH} {Q : AV → AH → Prop} (h : w45 (Den.of T) Q x0 H) : ∃ v H', Den.of T 45 [x0] H = some (v, H') ∧ Q v H' :=
  wpF_ok (hT _ ir45 rfl) (by rw [w45_eq] at h; exact h)

-- grille/grilleref01.Character
def w46 (D : Den) (Q : AV → AH → Prop) (x0 : AV) (H : AH) : Prop :=
 gP (aBin .geq x0 (.int .i64 0)) fun x4 =>
 dP x4 true
 ( gP (aBin .leq x0 (.int .i64 1114111)) fun x7 =>
 dP x7 true
 ( gP (aBin .lss x0 (.int .i64 55296)) fun x11 =>
 dP x11 false
 ( gP (aBin .gtr x0 (.int .i64 57343)) fun x14 =>
 Q x14 H)
 ( Q (.bool true) H))
 ( Q (.bool false) H))
 ( Q (.bool false) H)
theorem w46_eq : w46 = fun D Q x0 H => wpF D ir46 [x0] H Q := by kernel_rfl
theorem w46_ok (hT : Has T) {x0 : AV} {H : AH} {Q : AV → AH → Prop} (h : w46 (Den.of T) Q x0 H) : ∃ v H', Den.of T 46 [x0] H = some (v, H') ∧ Q v H' :=
  wpF_ok (hT _ ir46 rfl) (by rw [w46_eq] at h; exact h)

-- grille/grilleref01.Bytes
def w47 (D : Den) (Q : AV → AH → Prop) (x0 : AV) (H : AH) : Prop :=
 gP (aBin .lss x0 (.int .i64 128)) fun x5 =>
 iP x5
 ( gP (aCv .u8 x0) fun x7 =>
 sP (aLit .ro 1 [x7] H) fun x8 H1 =>
 Q x8 H1)
 ( gP (aBin .lss x0 (.int .i64 2048)) fun x11 =>
 iP x11
 ( gP (aBin .quo x0 (.int .i64 64)) fun x13 =>
 gP (aBin .add (.int .i64 192) x13) fun x14 =>
 gP (aCv .u8 x14) fun x15 =>
 gP (aBin .rem x0 (.int .i64 64)) fun x17 =>
 gP (aBin .add (.int .i64 128) x17) fun x18 =>
 gP (aCv .u8 x18) fun x19 =>
 sP (aLit .ro 1 [x15, x19] H) fun x20 H2 =>
 Q x20 H2)
 ( gP (aBin .lss x0 (.int .i64 65536)) fun x23 =>
 iP x23
 ( gP (aBin .quo x0 (.int .i64 4096)) fun x25 =>
 gP (aBin .add (.int .i64 224) x25) fun x26 =>
 gP (aCv .u8 x26) fun x27 =>
 gP (aBin .quo x0 (.int .i64 64)) fun x29 =>
 gP (aBin .rem x29 (.int .i64 64)) fun x30 =>
 gP (aBin .add (.int .i64 128) x30) fun x31 =>
 gP (aCv .u8 x31) fun x32 =>
 gP (aBin .rem x0 (.int .i64 64)) fun x34 =>
 gP (aBin .add (.int .i64 128) x34) fun x35 =>
 gP (aCv .u8 x35) fun x36 =>
 sP (aLit .ro 1 [x27, x32, x36] H) fun x37 H3 =>
 Q x37 H3)
 ( gP (aBin .quo x0 (.int .i64 262144)) fun x39 =>
 gP (aBin .add (.int .i64 240) x39) fun x40 =>
 gP (aCv .u8 x40) fun x41 =>
 gP (aBin .quo x0 (.int .i64 4096)) fun x43 =>
 gP (aBin .rem x43 (.int .i64 64)) fun x44 =>
 gP (aBin .add (.int .i64 128) x44) fun x45 =>
 gP (aCv .u8 x45) fun x46 =>
 gP (aBin .quo x0 (.int .i64 64)) fun x48 =>
 gP (aBin .rem x48 (.int .i64 64)) fun x49 =>
 gP (aBin .add (.int .i64 128) x49) fun x50 =>
 gP (aCv .u8 x50) fun x51 =>
 gP (aBin .rem x0 (.int .i64 64)) fun x53 =>
 gP (aBin .add (.int .i64 128) x53) fun x54 =>
 gP (aCv .u8 x54) fun x55 =>
 sP (aLit .ro 1 [x41, x46, x51, x55] H) fun x56 H4 =>
 Q x56 H4)))
theorem w47_eq : w47 = fun D Q x0 H => wpF D ir47 [x0] H Q := by kernel_rfl
theorem w47_ok (hT : Has T) {x0 : AV} {H : AH} {Q : AV → AH → Prop} (h : w47 (Den.of T) Q x0 H) : ∃ v H', Den.of T 47 [x0] H = some (v, H') ∧ Q v H' :=
  wpF_ok (hT _ ir47 rfl) (by rw [w47_eq] at h; exact h)

-- unicode/utf8.AppendRune
def w49 (D : Den) (Q : AV → AH → Prop) (x0 x1 : AV) (H : AH) : Prop :=
 gP (aCv .u32 x1) fun x6 =>
 gP (aBin .leq x6 (.int .u32 127)) fun x7 =>
 iP x7
 ( gP (aCv .u8 x1) fun x10 =>
 sP (aLit .ro 1 [x10] H) fun x11 H1 =>
 sP (aAppend .tok 1 (1, 5) x0 x11 H1) fun x12 H2 =>
 Q x12 H2)
 ( cP D 71 [x0, x1] H fun x15 H3 =>
 Q x15 H3)
theorem w49_eq : w49 = fun D Q x0 x1 H => wpF D ir49 [x0, x1] H Q := by kernel_rfl
theorem w49_ok (hT : Has T) {x0 x1 : AV} {H : AH} {Q : AV → AH → Prop} (h : w49 (Den.of T) Q x0 x1 H) : ∃ v H', Den.of T 49 [x0, x1] H = some (v, H') ∧ Q v H' :=
  wpF_ok (hT _ ir49 rfl) (by rw [w49_eq] at h; exact h)

-- internal/stringslite.HasSuffix
def w53 (D : Den) (Q : AV → AH → Prop) (x0 x1 : AV) (H : AH) : Prop :=
 gP (aLen .str x0 H) fun x6 =>
 gP (aLen .str x1 H) fun x8 =>
 gP (aBin .geq x6 x8) fun x9 =>
 dP x9 true
 ( gP (aLen .str x0 H) fun x13 =>
 gP (aLen .str x1 H) fun x15 =>
 gP (aBin .sub x13 x15) fun x16 =>
 gP (aSlcS x0 (some x16) none) fun x17 =>
 gP (aBin .eql x17 x1) fun x19 =>
 Q x19 H)
 ( Q (.bool false) H)
theorem w53_eq : w53 = fun D Q x0 x1 H => wpF D ir53 [x0, x1] H Q := by kernel_rfl
theorem w53_ok (hT : Has T) {x0 x1 : AV} {H : AH} {Q : AV → AH → Prop} (h : w53 (Den.of T) Q x0 x1 H) : ∃ v H', Den.of T 53 [x0, x1] H = some (v, H') ∧ Q v H' :=
  wpF_ok (hT _ ir53 rfl) (by rw [w53_eq] at h; exact h)

-- grille/scalar.means
def w55 (D : Den) (Q : AV → AH → Prop) (x0 : AV) (H : AH) : Prop :=
 cP D 33 [(.str [48, 97, 98, 116, 110, 118, 102, 114, 101, 34, 92, 78, 95, 76, 80]), x0] H fun x8 H1 =>
 sP (aop [] (.rangeS (.cst (.str [0, 7, 8, 9, 10, 11, 12, 13, 27, 34, 92, 194, 133, 194, 160, 226, 128, 168, 226, 128, 169]))) H1) fun x9 H2 =>
 lP 1 (fun s1 x4 H3 =>
 sP (aop [] (.nextS (.cst x9)) H3) fun x10 H4 =>
 gP (aExtract 0 x10) fun x11 =>
 iP x11
 ( gP (aExtract 2 x10) fun x12 =>
 gP (aBin .eql x4 (.int .i64 0)) fun x14 =>
 iP x14
 ( Q (.tup [x12, (.bool true)]) H4)
 ( gP (aBin .sub x4 (.int .i64 1)) fun x17 =>
 s1 x17 H4))
 ( Q (.tup [(.int .i32 0), (.bool false)]) H4)) [x8] H2
theorem w55_eq : w55 = fun D Q x0 H => wpF D ir55 [x0] H Q := by kernel_rfl
theorem w55_ok (hT : Has T) {x0 : AV} {H : AH} {Q : AV → AH → Prop} (h : w55 (Den.of T) Q x0 H) : ∃ v H', Den.of T 55 [x0] H = some (v, H') ∧ Q v H' :=
  wpF_ok (hT _ ir55 rfl) (by rw [w55_eq] at h; exact h)

-- grille/scalar.number
def w56 (D : Den) (Q : AV → AH → Prop) (x0 x1 : AV) (H : AH) : Prop :=
 gP (aLen .str x0 H) fun x9 =>
 gP (aBin .lss x9 x1) fun x11 =>
 iP x11
 ( Q (.tup [(.int .i32 0), (.bool false)]) H)
 ( gP (aSlcS x0 none (some x1)) fun x15 =>
 cP D 74 [x15, (.int .i64 16), (.int .i64 32)] H fun x16 H1 =>
 gP (aExtract 0 x16) fun x17 =>
 gP (aExtract 1 x16) fun x18 =>
 jP 1 (fun x36 H2 =>
 iP x36
 ( Q (.tup [(.int .i32 0), (.bool false)]) H2)
 ( gP (aCv .i32 x17) fun x38 =>
 Q (.tup [x38, (.bool true)]) H2)) fun j1 =>
 gP (aEqv .ifn true x18 .niliface) fun x20 =>
 dP x20 false
 ( gP (aSlcS x0 none (some x1)) fun x24 =>
 cP D 75 [x24, (.str [43, 45, 95])] H1 fun x25 H3 =>
 dP x25 false
 ( gP (aBin .gtr x17 (.int .u64 1114111)) fun x29 =>
 dP x29 false
 ( gP (aCv .i32 x17) fun x33 =>
 cP D 41 [x33] H3 fun x34 H4 =>
 gP (aNot x34) fun x35 =>
 j1 x35 H4)
 ( j1 (.bool true) H3))
 ( j1 (.bool true) H3))
 ( j1 (.bool true) H1))
theorem w56_eq : w56 = fun D Q x0 x1 H => wpF D ir56 [x0, x1] H Q := by kernel_rfl
theorem w56_ok (hT : Has T) {x0 x1 : AV} {H : AH} {Q : AV → AH → Prop} (h : w56 (Den.of T) Q x0 x1 H) : ∃ v H', Den.of T 56 [x0, x1] H = some (v, H') ∧ Q v H' :=
  wpF_ok (hT _ ir56 rfl) (by rw [w56_eq] at h; exact h)

-- grille/grilleref02.table
def w57 (D : Den) (Q : AV → AH → Prop) (H : AH) : Prop :=
 gP ((aBuild [(.int .i64 0), (.int .i64 0)] [(0, 1, (.int .i64 0)), (1, 1, (.int .i64 48))]).map .agg) fun x1 =>
 gP ((aBuild [(.int .i64 0), (.int .i64 0)] [(0, 1, (.int .i64 7)), (1, 1, (.int .i64 97))]).map .agg) fun x2 =>
 gP ((aBuild [(.int .i64 0), (.int .i64 0)] [(0, 1, (.int .i64 8)), (1, 1, (.int .i64 98))]).map .agg) fun x3 =>
 gP ((aBuild [(.int .i64 0), (.int .i64 0)] [(0, 1, (.int .i64 9)), (1, 1, (.int .i64 116))]).map .agg) fun x4 =>
 gP ((aBuild [(.int .i64 0), (.int .i64 0)] [(0, 1, (.int .i64 10)), (1, 1, (.int .i64 110))]).map .agg) fun x5 =>
 gP ((aBuild [(.int .i64 0), (.int .i64 0)] [(0, 1, (.int .i64 11)), (1, 1, (.int .i64 118))]).map .agg) fun x6 =>
 gP ((aBuild [(.int .i64 0), (.int .i64 0)] [(0, 1, (.int .i64 12)), (1, 1, (.int .i64 102))]).map .agg) fun x7 =>
 gP ((aBuild [(.int .i64 0), (.int .i64 0)] [(0, 1, (.int .i64 13)), (1, 1, (.int .i64 114))]).map .agg) fun x8 =>
 gP ((aBuild [(.int .i64 0), (.int .i64 0)] [(0, 1, (.int .i64 27)), (1, 1, (.int .i64 101))]).map .agg) fun x9 =>
 gP ((aBuild [(.int .i64 0), (.int .i64 0)] [(0, 1, (.int .i64 34)), (1, 1, (.int .i64 34))]).map .agg) fun x10 =>
 gP ((aBuild [(.int .i64 0), (.int .i64 0)] [(0, 1, (.int .i64 92)), (1, 1, (.int .i64 92))]).map .agg) fun x11 =>
 gP ((aBuild [(.int .i64 0), (.int .i64 0)] [(0, 1, (.int .i64 133)), (1, 1, (.int .i64 78))]).map .agg) fun x12 =>
 gP ((aBuild [(.int .i64 0), (.int .i64 0)] [(0, 1, (.int .i64 160)), (1, 1, (.int .i64 95))]).map .agg) fun x13 =>
 gP ((aBuild [(.int .i64 0), (.int .i64 0)] [(0, 1, (.int .i64 8232)), (1, 1, (.int .i64 76))]).map .agg) fun x14 =>
 gP ((aBuild [(.int .i64 0), (.int .i64 0)] [(0, 1, (.int .i64 8233)), (1, 1, (.int .i64 80))]).map .agg) fun x15 =>
 sP (aLit .ro 2 [x1, x2, x3, x4, x5, x6, x7, x8, x9, x10, x11, x12, x13, x14, x15] H) fun x16 H1 =>
 Q x16 H1
theorem w57_eq : w57 = fun D Q H => wpF D ir57 [] H Q := by kernel_rfl
theorem w57_ok (hT : Has T) {H : AH} {Q : AV → AH → Prop} (h : w57 (Den.of T) Q H) : ∃ v H', Den.of T 57 [] H = some (v, H') ∧ Q v H' :=
  wpF_ok (hT _ ir57 rfl) (by rw [w57_eq] at h; exact h)

-- grille/grilleref02.number
def w58 (D : Den) (Q : AV → AH → Prop) (x0 x1 : AV) (H : AH) : Prop :=
 gP (aLen .row x0 H) fun x8 =>
 gP (aBin .lss x8 x1) fun x10 =>
 iP x10
 ( Q (.int .i64 (-1)) H)
 ( lP 2 (fun s1 x5 x6 H1 =>
 gP (aBin .lss x6 x1) fun x13 =>
 iP x13
 ( gP (aIdxAddr 1 x0 x6) fun x18 =>
 gP (aLoad none x18 H1) fun x19 =>
 cP D 76 [x19] H1 fun x20 H2 =>
 gP (aBin .lss x20 (.int .i64 0)) fun x21 =>
 iP x21
 ( Q (.int .i64 (-1)) H2)
 ( gP (aBin .mul x5 (.int .i64 16)) fun x23 =>
 gP (aIdxAddr 1 x0 x6) fun x26 =>
 gP (aLoad none x26 H2) fun x27 =>
 cP D 76 [x27] H2 fun x28 H3 =>
 gP (aBin .add x23 x28) fun x29 =>
 gP (aBin .add x6 (.int .i64 1)) fun x15 =>
 s1 x29 x15 H3))
 ( Q x5 H1)) [(.int .i64 0), (.int .i64 0)] H)
theorem w58_eq : w58 = fun D Q x0 x1 H => wpF D ir58 [x0, x1] H Q := by kernel_rfl
theorem w58_ok (hT : Has T) {x0 x1 : AV} {H : AH} {Q : AV → AH → Prop} (h : w58 (Den.of T) Q x0 x1 H) : ∃ v H', Den.of T 58 [x0, x1] H = some (v, H') ∧ Q v H' :=
  wpF_ok (hT _ ir58 rfl) (by rw [w58_eq] at h; exact h)

-- grille/grilleref02.width
def w59 (D : Den) (Q : AV → AH → Prop) (x0 : AV) (H : AH) : Prop :=
 gP (aBin .eql x0 (.int .i64 120)) fun x5 =>
 iP x5
 ( Q (.int .i64 2) H)
 ( gP (aBin .eql x0 (.int .i64 117)) fun x7 =>
 iP x7
 ( Q (.int .i64 4) H)
 ( gP (aBin .eql x0 (.int .i64 85)) fun x9 =>
 iP x9
 ( Q (.int .i64 8) H)
 ( Q (.int .i64 0) H)))
theorem w59_eq : w59 = fun D Q x0 H => wpF D ir59 [x0] H Q := by kernel_rfl
theorem w59_ok (hT : Has T) {x0 : AV} {H : AH} {Q : AV → AH → Prop} (h : w59 (Den.of T) Q x0 H) : ∃ v H', Den.of T 59 [x0] H = some (v, H') ∧ Q v H' :=
  wpF_ok (hT _ ir59 rfl) (by rw [w59_eq] at h; exact h)

-- internal/stringslite.HasPrefix
def w60 (D : Den) (Q : AV → AH → Prop) (x0 x1 : AV) (H : AH) : Prop :=
 gP (aLen .str x0 H) fun x6 =>
 gP (aLen .str x1 H) fun x8 =>
 gP (aBin .geq x6 x8) fun x9 =>
 dP x9 true
 ( gP (aLen .str x1 H) fun x13 =>
 gP (aSlcS x0 none (some x13)) fun x14 =>
 gP (aBin .eql x14 x1) fun x16 =>
 Q x16 H)
 ( Q (.bool false) H)
theorem w60_eq : w60 = fun D Q x0 x1 H => wpF D ir60 [x0, x1] H Q := by kernel_rfl
theorem w60_ok (hT : Has T) {x0 x1 : AV} {H : AH} {Q : AV → AH → Prop} (h : w60 (Den.of T) Q x0 x1 H) : ∃ v H', Den.of T 60 [x0, x1] H = some (v, H') ∧ Q v H' :=
  wpF_ok (hT _ ir60 rfl) (by rw [w60_eq] at h; exact h)

-- strings.indexFunc
def w61 (D : Den) (Q : AV → AH → Prop) (x0 x1 x2 : AV) (H : AH) : Prop :=
 sP (aop [] (.rangeS (.cst x0)) H) fun x10 H1 =>
 lP 0 (fun s1 H2 =>
 sP (aop [] (.nextS (.cst x10)) H2) fun x11 H3 =>
 gP (aExtract 0 x11) fun x12 =>
 iP x12
 ( gP (aExtract 1 x11) fun x13 =>
 gP (aExtract 2 x11) fun x14 =>
 vP D 0 x1 [x14] H3 fun x17 H4 =>
 gP (aEqv .bool false x17 x2) fun x19 =>
 iP x19
 ( Q x13 H4)
 ( s1 H4))
 ( Q (.int .i64 (-1)) H3)) [] H1
theorem w61_eq : w61 = fun D Q x0 x1 x2 H => wpF D ir61 [x0, x1, x2] H Q := by kernel_rfl
theorem w61_ok (hT : Has T) {x0 x1 x2 : AV} {H : AH} {Q : AV → AH → Prop} (h : w61 (Den.of T) Q x0 x1 x2 H) : ∃ v H', Den.of T 61 [x0, x1, x2] H = some (v, H') ∧ Q v H' :=
  wpF_ok (hT _ ir61 rfl) (by rw [w61_eq] at h; exact h)

-- grille/grilleref01.Detect
def w66 (D : Den) (Q : AV → AH → Prop) (x0 : AV) (H : AH) : Prop :=
 sP (aLit .ro 1 [(.int .i64 0), (.int .i64 0), (.int .i64 254), (.int .i64 255)] H) fun x6 H1 =>
 cP D 81 [x0, x6] H1 fun x7 H2 =>
 iP x7
 ( Q (.tup [(.int .i64 4), (.int .i64 4)]) H2)
 ( sP (aLit .ro 1 [(.int .i64 0), (.int .i64 0), (.int .i64 0), (.int .i64 256)] H2) fun x10 H3 =>
 cP D 81 [x0, x10] H3 fun x11 H4 =>
 iP x11
 ( Q (.tup [(.int .i64 4), (.int .i64 0)]) H4)
 ( sP (aLit .ro 1 [(.int .i64 255), (.int .i64 254), (.int .i64 0), (.int .i64 0)] H4) fun x14 H5 =>
 cP D 81 [x0, x14] H5 fun x15 H6 =>
 iP x15
 ( Q (.tup [(.int .i64 3), (.int .i64 4)]) H6)
 ( sP (aLit .ro 1 [(.int .i64 256), (.int .i64 0), (.int .i64 0), (.int .i64 0)] H6) fun x18 H7 =>
 cP D 81 [x0, x18] H7 fun x19 H8 =>
 iP x19
 ( Q (.tup [(.int .i64 3), (.int .i64 0)]) H8)
 ( sP (aLit .ro 1 [(.int .i64 254), (.int .i64 255)] H8) fun x22 H9 =>
 cP D 81 [x0, x22] H9 fun x23 H10 =>
 iP x23
 ( Q (.tup [(.int .i64 2), (.int .i64 2)]) H10)
 ( sP (aLit .ro 1 [(.int .i64 0), (.int .i64 256)] H10) fun x26 H11 =>
 cP D 81 [x0, x26] H11 fun x27 H12 =>
 iP x27
 ( Q (.tup [(.int .i64 2), (.int .i64 0)]) H12)
 ( sP (aLit .ro 1 [(.int .i64 255), (.int .i64 254)] H12) fun x30 H13 =>
 cP D 81 [x0, x30] H13 fun x31 H14 =>
 iP x31
 ( Q (.tup [(.int .i64 1), (.int .i64 2)]) H14)
 ( sP (aLit .ro 1 [(.int .i64 256), (.int .i64 0)] H14) fun x34 H15 =>
 cP D 81 [x0, x34] H15 fun x35 H16 =>
 iP x35
 ( Q (.tup [(.int .i64 1), (.int .i64 0)]) H16)
 ( sP (aLit .ro 1 [(.int .i64 239), (.int .i64 187), (.int .i64 191)] H16) fun x38 H17 =>
 cP D 81 [x0, x38] H17 fun x39 H18 =>
 iP x39
 ( Q (.tup [(.int .i64 0), (.int .i64 3)]) H18)
 ( Q (.tup [(.int .i64 0), (.int .i64 0)]) H18)))))))))
theorem w66_eq : w66 = fun D Q x0 H => wpF D ir66 [x0] H Q := by kernel_rfl
theorem w66_ok (hT : Has T) {x0 : AV} {H : AH} {Q : AV → AH → Prop} (h : w66 (Den.of T) Q x0 H) : ∃ v H', Den.of T 66 [x0] H = some (v, H') ∧ Q v H' :=
  wpF_ok (hT _ ir66 rfl) (by rw [w66_eq] at h; exact h)

-- grille/grilleref01.plain
def w67 (D : Den) (Q : AV → AH → Prop) (x0 : AV) (H : AH) : Prop :=
 lP 2 (fun s1 x4 x0_1 H1 =>
 gP (aLen .row x0_1 H1) fun x9 =>
 gP (aBin .gtr x9 (.int .i64 0)) fun x10 =>
 iP x10
 ( gP (aIdxAddr 1 x0_1 (.int .i64 0)) fun x13 =>
 gP (aLoad none x13 H1) fun x14 =>
 gP (aCv .i64 x14) fun x15 =>
 cP D 82 [x15] H1 fun x16 H2 =>
 gP (aExtract 0 x16) fun x17 =>
 gP (aExtract 1 x16) fun x18 =>
 jP 1 (fun x26 H3 =>
 iP x26
 ( Q (.tup [.nils, (.bool false)]) H3)
 ( lP 2 (fun s2 x6 x7 H4 =>
 gP (aBin .lss x7 x17) fun x29 =>
 iP x29
 ( jP 1 (fun x43 H5 =>
 iP x43
 ( Q (.tup [.nils, (.bool false)]) H5)
 ( gP (aBin .mul x6 (.int .i64 64)) fun x45 =>
 gP (aIdxAddr 1 x0_1 x7) fun x48 =>
 gP (aLoad none x48 H5) fun x49 =>
 gP (aCv .i64 x49) fun x50 =>
 gP (aBin .add x45 x50) fun x51 =>
 gP (aBin .sub x51 (.int .i64 128)) fun x52 =>
 gP (aBin .add x7 (.int .i64 1)) fun x31 =>
 s2 x52 x31 H5)) fun j3 =>
 gP (aIdxAddr 1 x0_1 x7) fun x34 =>
 gP (aLoad none x34 H4) fun x35 =>
 gP (aBin .lss x35 (.int .u8 128)) fun x36 =>
 dP x36 false
 ( gP (aIdxAddr 1 x0_1 x7) fun x40 =>
 gP (aLoad none x40 H4) fun x41 =>
 gP (aBin .gtr x41 (.int .u8 191)) fun x42 =>
 j3 x42 H4)
 ( j3 (.bool true) H4))
 ( jP 1 (fun x62 H6 =>
 iP x62
 ( Q (.tup [.nils, (.bool false)]) H6)
 ( sP (aLit .ro 1 [x6] H6) fun x65 H7 =>
 sP (aAppend .tok 1 (8, 3) x4 x65 H7) fun x66 H8 =>
 gP (aSlc 1 x0_1 (some x17) none) fun x69 =>
 s1 x66 x69 H8)) fun j4 =>
 cP D 46 [x6] H4 fun x54 H9 =>
 gP (aNot x54) fun x55 =>
 dP x55 false
 ( cP D 47 [x6] H9 fun x58 H10 =>
 gP (aLen .row x58 H10) fun x59 =>
 gP (aBin .neq x59 x17) fun x61 =>
 j4 x61 H10)
 ( j4 (.bool true) H9))) [x18, (.int .i64 1)] H3)) fun j5 =>
 gP (aBin .eql x17 (.int .i64 0)) fun x20 =>
 dP x20 false
 ( gP (aLen .row x0_1 H2) fun x24 =>
 gP (aBin .gtr x17 x24) fun x25 =>
 j5 x25 H2)
 ( j5 (.bool true) H2))
 ( Q (.tup [x4, (.bool true)]) H1)) [.nils, x0] H
theorem w67_eq : w67 = fun D Q x0 H => wpF D ir67 [x0] H Q := by kernel_rfl
theorem w67_ok (hT : Has T) {x0 : AV} {H : AH} {Q : AV → AH → Prop} (h : w67 (Den.of T) Q x0 H) : ∃ v H', Den.of T 67 [x0] H = some (v, H') ∧ Q v H' :=
  wpF_ok (hT _ ir67 rfl) (by rw [w67_eq] at h; exact h)

-- grille/grilleref01.units
-- grille/grilleref01.pairs
-- unicode/utf8.appendRuneNonASCII
def w71 (D : Den) (Q : AV → AH → Prop) (x0 x1 : AV) (H : AH) : Prop :=
 gP (aCv .u32 x1) fun x7 =>
 gP (aBin .leq x7 (.int .u32 2047)) fun x13 =>
 iP x13
 ( gP (aBin .shr x1 (.int .u64 6)) fun x16 =>
 gP (aCv .u8 x16) fun x17 =>
 gP (aBin .or (.int .u8 192) x17) fun x18 =>
 gP (aCv .u8 x1) fun x20 =>
 gP (aBin .and x20 (.int .u8 63)) fun x21 =>
 gP (aBin .or (.int .u8 128) x21) fun x22 =>
 sP (aLit .ro 1 [x18, x22] H) fun x23 H1 =>
 sP (aAppend .tok 1 (1, 5) x0 x23 H1) fun x24 H2 =>
 Q x24 H2)
 ( jP 1 (fun x25 H3 =>
 iP x25
 ( gP (aBin .shr x1 (.int .u64 12)) fun x36 =>
 gP (aCv .u8 x36) fun x37 =>
 gP (aBin .or (.int .u8 224) x37) fun x38 =>
 gP (aBin .shr x1 (.int .u64 6)) fun x40 =>
 gP (aCv .u8 x40) fun x41 =>
 gP (aBin .and x41 (.int .u8 63)) fun x42 =>
 gP (aBin .or (.int .u8 128) x42) fun x43 =>
 gP (aCv .u8 x1) fun x45 =>
 gP (aBin .and x45 (.int .u8 63)) fun x46 =>
 gP (aBin .or (.int .u8 128) x46) fun x47 =>
 sP (aLit .ro 1 [x38, x43, x47] H3) fun x48 H4 =>
 sP (aAppend .tok 1 (1, 5) x0 x48 H4) fun x49 H5 =>
 Q x49 H5)
 ( jP 1 (fun x50 H6 =>
 iP x50
 ( gP (aBin .shr x1 (.int .u64 18)) fun x59 =>
 gP (aCv .u8 x59) fun x60 =>
 gP (aBin .or (.int .u8 240) x60) fun x61 =>
 gP (aBin .shr x1 (.int .u64 12)) fun x63 =>
 gP (aCv .u8 x63) fun x64 =>
 gP (aBin .and x64 (.int .u8 63)) fun x65 =>
 gP (aBin .or (.int .u8 128) x65) fun x66 =>
 gP (aBin .shr x1 (.int .u64 6)) fun x68 =>
 gP (aCv .u8 x68) fun x69 =>
 gP (aBin .and x69 (.int .u8 63)) fun x70 =>
 gP (aBin .or (.int .u8 128) x70) fun x71 =>
 gP (aCv .u8 x1) fun x73 =>
 gP (aBin .and x73 (.int .u8 63)) fun x74 =>
 gP (aBin .or (.int .u8 128) x74) fun x75 =>
 sP (aLit .ro 1 [x61, x66, x71, x75] H6) fun x76 H7 =>
 sP (aAppend .tok 1 (1, 5) x0 x76 H7) fun x77 H8 =>
 Q x77 H8)
 ( sP (aLit .ro 1 [(.int .u8 239), (.int .u8 191), (.int .u8 189)] H6) fun x9 H9 =>
 sP (aAppend .tok 1 (1, 5) x0 x9 H9) fun x10 H10 =>
 Q x10 H10)) fun j1 =>
 gP (aBin .gtr x7 (.int .u32 65535)) fun x52 =>
 dP x52 true
 ( gP (aBin .leq x7 (.int .u32 1114111)) fun x55 =>
 j1 x55 H3)
 ( j1 (.bool false) H3))) fun j2 =>
 gP (aBin .lss x7 (.int .u32 55296)) fun x27 =>
 iP x27
 ( j2 x27 H)
 ( gP (aBin .lss (.int .u32 57343) x7) fun x29 =>
 dP x29 true
 ( gP (aBin .leq x7 (.int .u32 65535)) fun x32 =>
 j2 x32 H)
 ( j2 (.bool false) H)))
theorem w71_eq : w71 = fun D Q x0 x1 H => wpF D ir71 [x0, x1] H Q := by kernel_rfl
theorem w71_ok (hT : Has T) {x0 x1 : AV} {H : AH} {Q : AV → AH → Prop} (h : w71 (Den.of T) Q x0 x1 H) : ∃ v H', Den.of T 71 [x0, x1] H = some (v, H') ∧ Q v H' :=
  wpF_ok (hT _ ir71 rfl) (by rw [w71_eq] at h; exact h)

-- strconv.ParseUint
def w74 (D : Den) (Q : AV → AH → Prop) (x0 x1 x2 : AV) (H : AH) : Prop :=
 cP D 86 [x0, x1, x2] H fun x14 H1 =>
 gP (aExtract 0 x14) fun x15 =>
 gP (aExtract 1 x14) fun x16 =>
 gP (aEqv .ifn true x16 .niliface) fun x18 =>
 iP x18
 ( cP D 87 [(.str [80, 97, 114, 115, 101, 85, 105, 110, 116]), x0, x1, x2, x16] H1 fun x24 H2 =>
 Q (.tup [x15, x24]) H2)
 ( Q (.tup [x15, .niliface]) H1)
theorem w74_eq : w74 = fun D Q x0 x1 x2 H => wpF D ir74 [x0, x1, x2] H Q := by kernel_rfl
theorem w74_ok (hT : Has T) {x0 x1 x2 : AV} {H : AH} {Q : AV → AH → Prop} (h : w74 (Den.of T) Q x0 x1 x2 H) : ∃ v H', Den.of T 74 [x0, x1, x2] H = some (v, H') ∧ Q v H' :=
  wpF_ok (hT _ ir74 rfl) (by rw [w74_eq] at h; exact h)

-- grille/grilleref02.digit
def w76 (D : Den) (Q : AV → AH → Prop) (x0 : AV) (H : AH) : Prop :=
 jP 1 (fun x3 H1 =>
 iP x3
 ( gP (aBin .sub x0 (.int .i64 48)) fun x11 =>
 Q x11 H1)
 ( jP 1 (fun x12 H2 =>
 iP x12
 ( gP (aBin .sub x0 (.int .i64 97)) fun x20 =>
 gP (aBin .add x20 (.int .i64 10)) fun x21 =>
 Q x21 H2)
 ( jP 1 (fun x22 H3 =>
 iP x22
 ( gP (aBin .sub x0 (.int .i64 65)) fun x30 =>
 gP (aBin .add x30 (.int .i64 10)) fun x31 =>
 Q x31 H3)
 ( Q (.int .i64 (-1)) H3)) fun j1 =>
 gP (aBin .geq x0 (.int .i64 65)) fun x24 =>
 dP x24 true
 ( gP (aBin .leq x0 (.int .i64 70)) fun x27 =>
 j1 x27 H2)
 ( j1 (.bool false) H2))) fun j2 =>
 gP (aBin .geq x0 (.int .i64 97)) fun x14 =>
 dP x14 true
 ( gP (aBin .leq x0 (.int .i64 102)) fun x17 =>
 j2 x17 H1)
 ( j2 (.bool false) H1))) fun j3 =>
 gP (aBin .geq x0 (.int .i64 48)) fun x5 =>
 dP x5 true
 ( gP (aBin .leq x0 (.int .i64 57)) fun x8 =>
 j3 x8 H)
 ( j3 (.bool false) H)
theorem w76_eq : w76 = fun D Q x0 H => wpF D ir76 [x0] H Q := by kernel_rfl
theorem w76_ok (hT : Has T) {x0 : AV} {H : AH} {Q : AV → AH → Prop} (h : w76 (Den.of T) Q x0 H) : ∃ v H', Den.of T 76 [x0] H = some (v, H') ∧ Q v H' :=
  wpF_ok (hT _ ir76 rfl) (by rw [w76_eq] at h; exact h)

-- grille/grilleref01.fits
def w81 (D : Den) (Q : AV → AH → Prop) (x0 x1 : AV) (H : AH) : Prop :=
 gP (aLen .row x0 H) fun x7 =>
 gP (aLen .row x1 H) fun x9 =>
 gP (aBin .lss x7 x9) fun x10 =>
 iP x10
 ( Q (.bool false) H)
 ( lP 1 (fun s1 x5 H1 =>
 gP (aLen .row x1 H1) fun x13 =>
 gP (aBin .lss x5 x13) fun x14 =>
 iP x14
 ( jP 1 (fun x47 H2 =>
 iP x47
 ( Q (.bool false) H2)
 ( gP (aBin .add x5 (.int .i64 1)) fun x16 =>
 s1 x16 H2)) fun j2 =>
 gP (aIdxAddr 1 x1 x5) fun x19 =>
 gP (aLoad none x19 H1) fun x20 =>
 gP (aBin .eql x20 (.int .i64 256)) fun x21 =>
 dP x21 true
 ( gP (aIdxAddr 1 x0 x5) fun x25 =>
 gP (aLoad none x25 H1) fun x26 =>
 gP (aBin .eql x26 (.int .u8 0)) fun x27 =>
 dP x27 false
 ( gP (aIdxAddr 1 x1 x5) fun x32 =>
 gP (aLoad none x32 H1) fun x33 =>
 gP (aBin .lss x33 (.int .i64 256)) fun x34 =>
 dP x34 true
 ( gP (aIdxAddr 1 x0 x5) fun x38 =>
 gP (aLoad none x38 H1) fun x39 =>
 gP (aCv .i64 x39) fun x40 =>
 gP (aIdxAddr 1 x1 x5) fun x43 =>
 gP (aLoad none x43 H1) fun x44 =>
 gP (aBin .neq x40 x44) fun x45 =>
 j2 x45 H1)
 ( j2 (.bool false) H1))
 ( j2 (.bool true) H1))
 ( gP (aIdxAddr 1 x1 x5) fun x32_1 =>
 gP (aLoad none x32_1 H1) fun x33_1 =>
 gP (aBin .lss x33_1 (.int .i64 256)) fun x34_1 =>
 dP x34_1 true
 ( gP (aIdxAddr 1 x0 x5) fun x38_1 =>
 gP (aLoad none x38_1 H1) fun x39_1 =>
 gP (aCv .i64 x39_1) fun x40_1 =>
 gP (aIdxAddr 1 x1 x5) fun x43_1 =>
 gP (aLoad none x43_1 H1) fun x44_1 =>
 gP (aBin .neq x40_1 x44_1) fun x45_1 =>
 j2 x45_1 H1)
 ( j2 (.bool false) H1)))
 ( Q (.bool true) H1)) [(.int .i64 0)] H)
theorem w81_eq : w81 = fun D Q x0 x1 H => wpF D ir81 [x0, x1] H Q := by kernel_rfl
theorem w81_ok (hT : Has T) {x0 x1 : AV} {H : AH} {Q : AV → AH → Prop} (h : w81 (Den.of T) Q x0 x1 H) : ∃ v H', Den.of T 81 [x0, x1] H = some (v, H') ∧ Q v H' :=
  wpF_ok (hT _ ir81 rfl) (by rw [w81_eq] at h; exact h)

-- grille/grilleref01.lead
def w82 (D : Den) (Q : AV → AH → Prop) (x0 : AV) (H : AH) : Prop :=
 gP (aBin .lss x0 (.int .i64 128)) fun x6 =>
 iP x6
 ( Q (.tup [(.int .i64 1), x0]) H)
 ( jP 1 (fun x8 H1 =>
 iP x8
 ( gP (aBin .sub x0 (.int .i64 192)) fun x16 =>
 Q (.tup [(.int .i64 2), x16]) H1)
 ( jP 1 (fun x17 H2 =>
 iP x17
 ( gP (aBin .sub x0 (.int .i64 224)) fun x25 =>
 Q (.tup [(.int .i64 3), x25]) H2)
 ( jP 1 (fun x26 H3 =>
 iP x26
 ( gP (aBin .sub x0 (.int .i64 240)) fun x34 =>
 Q (.tup [(.int .i64 4), x34]) H3)
 ( Q (.tup [(.int .i64 0), (.int .i64 0)]) H3)) fun j1 =>
 gP (aBin .geq x0 (.int .i64 240)) fun x28 =>
 dP x28 true
 ( gP (aBin .lss x0 (.int .i64 248)) fun x31 =>
 j1 x31 H2)
 ( j1 (.bool false) H2))) fun j2 =>
 gP (aBin .geq x0 (.int .i64 224)) fun x19 =>
 dP x19 true
 ( gP (aBin .lss x0 (.int .i64 240)) fun x22 =>
 j2 x22 H1)
 ( j2 (.bool false) H1))) fun j3 =>
 gP (aBin .geq x0 (.int .i64 192)) fun x10 =>
 dP x10 true
 ( gP (aBin .lss x0 (.int .i64 224)) fun x13 =>
 j3 x13 H)
 ( j3 (.bool false) H))
theorem w82_eq : w82 = fun D Q x0 H => wpF D ir82 [x0] H Q := by kernel_rfl
theorem w82_ok (hT : Has T) {x0 : AV} {H : AH} {Q : AV → AH → Prop} (h : w82 (Den.of T) Q x0 H) : ∃ v H', Den.of T 82 [x0] H = some (v, H') ∧ Q v H' :=
  wpF_ok (hT _ ir82 rfl) (by rw [w82_eq] at h; exact h)

-- internal/strconv.ParseUint
def w86 (D : Den) (Q : AV → AH → Prop) (x0 x1 x2 : AV) (H : AH) : Prop :=
 gP (aBin .eql x0 (.str [])) fun x19 =>
 iP x19
 ( sP (aop [] (.mkIface 105 (.cst (.int .i64 2))) H) fun x20 H1 =>
 Q (.tup [(.int .u64 0), x20]) H1)
 ( gP (aBin .eql x1 (.int .i64 0)) fun x22 =>
 jP 2 (fun x1_1 x0_1 H2 =>
 jP 1 (fun x2_1 H3 =>
 jP 1 (fun x10 H4 =>
 gP (aCv .u64 x2_1) fun x95 =>
 gP (aBin .shl (.int .u64 1) x95) fun x96 =>
 gP (aBin .sub x96 (.int .u64 1)) fun x97 =>
 sP (aop [] (.cvBytes (.cst x0_1)) H4) fun x99 H5 =>
 gP (aLen .row x99 H5) fun x100 =>
 lP 3 (fun s1 x12 x13 x101 H6 =>
 gP (aBin .lss x101 x100) fun x102 =>
 iP x102
 ( jP 2 (fun x12_1 x13_1 H7 =>
 gP (aBin .add x101 (.int .i64 1)) fun x163 =>
 s1 x12_1 x13_1 x163 H7) fun j2 =>
 gP (aIdxAddr 1 x99 x101) fun x103 =>
 gP (aLoad none x103 H6) fun x104 =>
 jP 2 (fun x12_2 x16 H8 =>
 gP (aCv .u8 x1_1) fun x136 =>
 gP (aBin .geq x16 x136) fun x137 =>
 iP x137
 ( sP (aop [] (.mkIface 105 (.cst (.int .i64 2))) H8) fun x138 H9 =>
 Q (.tup [(.int .u64 0), x138]) H9)
 ( gP (aBin .geq x13 x10) fun x141 =>
 iP x141
 ( sP (aop [] (.mkIface 105 (.cst (.int .i64 1))) H8) fun x143 H10 =>
 Q (.tup [x97, x143]) H10)
 ( gP (aCv .u64 x1_1) fun x146 =>
 gP (aBin .mul x13 x146) fun x147 =>
 gP (aCv .u64 x16) fun x150 =>
 gP (aBin .add x147 x150) fun x151 =>
 jP 1 (fun x159 H11 =>
 iP x159
 ( sP (aop [] (.mkIface 105 (.cst (.int .i64 1))) H11) fun x161 H12 =>
 Q (.tup [x97, x161]) H12)
 ( j2 x12_2 x151 H11)) fun j3 =>
 gP (aBin .lss x151 x147) fun x154 =>
 dP x154 false
 ( gP (aBin .gtr x151 x97) fun x158 =>
 j3 x158 H8)
 ( j3 (.bool true) H8)))) fun j4 =>
 jP 1 (fun x106 H13 =>
 iP x106
 ( j2 (.bool true) x13 H13)
 ( jP 1 (fun x112 H14 =>
 iP x112
 ( gP (aBin .sub x104 (.int .u8 48)) fun x120 =>
 j4 x12 x120 H14)
 ( jP 1 (fun x121 H15 =>
 iP x121
 ( cP D 91 [x104] H15 fun x131 H16 =>
 gP (aBin .sub x131 (.int .u8 97)) fun x132 =>
 gP (aBin .add x132 (.int .u8 10)) fun x133 =>
 j4 x12 x133 H16)
 ( sP (aop [] (.mkIface 105 (.cst (.int .i64 2))) H15) fun x105 H17 =>
 Q (.tup [(.int .u64 0), x105]) H17)) fun j5 =>
 cP D 91 [x104] H14 fun x123 H18 =>
 gP (aBin .leq (.int .u8 97) x123) fun x124 =>
 dP x124 true
 ( cP D 91 [x104] H18 fun x127 H19 =>
 gP (aBin .leq x127 (.int .u8 122)) fun x128 =>
 j5 x128 H19)
 ( j5 (.bool false) H18))) fun j6 =>
 gP (aBin .leq (.int .u8 48) x104) fun x114 =>
 dP x114 true
 ( gP (aBin .leq x104 (.int .u8 57)) fun x117 =>
 j6 x117 H13)
 ( j6 (.bool false) H13))) fun j7 =>
 gP (aBin .eql x104 (.int .u8 95)) fun x108 =>
 dP x108 true
 ( j7 x22 H6)
 ( j7 (.bool false) H6))
 ( jP 1 (fun x169 H20 =>
 iP x169
 ( sP (aop [] (.mkIface 105 (.cst (.int .i64 2))) H20) fun x170 H21 =>
 Q (.tup [(.int .u64 0), x170]) H21)
 ( Q (.tup [x13, .niliface]) H20)) fun j8 =>
 dP x12 true
 ( cP D 92 [x0] H6 fun x167 H22 =>
 gP (aNot x167) fun x168 =>
 j8 x168 H22)
 ( j8 (.bool false) H6))) [(.bool false), (.int .u64 0), (.int .i64 0)] H5) fun j9 =>
 gP (aBin .eql x1_1 (.int .i64 10)) fun x91 =>
 iP x91
 ( j9 (.int .u64 1844674407370955162) H3)
 ( gP (aBin .eql x1_1 (.int .i64 16)) fun x93 =>
 iP x93
 ( j9 (.int .u64 1152921504606846976) H3)
 ( gP (aCv .u64 x1_1) fun x87 =>
 gP (aBin .quo (.int .u64 18446744073709551615) x87) fun x88 =>
 gP (aBin .add x88 (.int .u64 1)) fun x89 =>
 j9 x89 H3))) fun j10 =>
 gP (aBin .eql x2 (.int .i64 0)) fun x77 =>
 iP x77
 ( j10 (.int .i64 64) H2)
 ( jP 1 (fun x83 H23 =>
 iP x83
 ( sP (aop [] (.mkIface 105 (.cst (.int .i64 4))) H23) fun x84 H24 =>
 Q (.tup [(.int .u64 0), x84]) H24)
 ( j10 x2 H23)) fun j11 =>
 gP (aBin .lss x2 (.int .i64 0)) fun x79 =>
 dP x79 false
 ( gP (aBin .gtr x2 (.int .i64 64)) fun x82 =>
 j11 x82 H2)
 ( j11 (.bool true) H2))) fun j12 =>
 jP 1 (fun x25 H25 =>
 iP x25
 ( j12 x1 x0 H25)
 ( gP (aBin .eql x1 (.int .i64 0)) fun x34 =>
 iP x34
 ( gP (aIdxStr x0 (.int .i64 0)) fun x36 =>
 gP (aBin .eql x36 (.int .u8 48)) fun x37 =>
 iP x37
 ( jP 1 (fun x40 H26 =>
 iP x40
 ( gP (aSlcS x0 (some (.int .i64 2)) none) fun x51 =>
 j12 (.int .i64 2) x51 H26)
 ( jP 1 (fun x52 H27 =>
 iP x52
 ( gP (aSlcS x0 (some (.int .i64 2)) none) fun x63 =>
 j12 (.int .i64 8) x63 H27)
 ( jP 1 (fun x64 H28 =>
 iP x64
 ( gP (aSlcS x0 (some (.int .i64 2)) none) fun x75 =>
 j12 (.int .i64 16) x75 H28)
 ( gP (aSlcS x0 (some (.int .i64 1)) none) fun x39 =>
 j12 (.int .i64 8) x39 H28)) fun j13 =>
 gP (aLen .str x0 H27) fun x66 =>
 gP (aBin .geq x66 (.int .i64 3)) fun x67 =>
 dP x67 true
 ( gP (aIdxStr x0 (.int .i64 1)) fun x70 =>
 cP D 91 [x70] H27 fun x71 H29 =>
 gP (aBin .eql x71 (.int .u8 120)) fun x72 =>
 j13 x72 H29)
 ( j13 (.bool false) H27))) fun j14 =>
 gP (aLen .str x0 H26) fun x54 =>
 gP (aBin .geq x54 (.int .i64 3)) fun x55 =>
 dP x55 true
 ( gP (aIdxStr x0 (.int .i64 1)) fun x58 =>
 cP D 91 [x58] H26 fun x59 H30 =>
 gP (aBin .eql x59 (.int .u8 111)) fun x60 =>
 j14 x60 H30)
 ( j14 (.bool false) H26))) fun j15 =>
 gP (aLen .str x0 H25) fun x42 =>
 gP (aBin .geq x42 (.int .i64 3)) fun x43 =>
 dP x43 true
 ( gP (aIdxStr x0 (.int .i64 1)) fun x46 =>
 cP D 91 [x46] H25 fun x47 H31 =>
 gP (aBin .eql x47 (.int .u8 98)) fun x48 =>
 j15 x48 H31)
 ( j15 (.bool false) H25))
 ( j12 (.int .i64 10) x0 H25))
 ( sP (aop [] (.mkIface 105 (.cst (.int .i64 3))) H25) fun x24 H32 =>
 Q (.tup [(.int .u64 0), x24]) H32))) fun j16 =>
 gP (aBin .leq (.int .i64 2) x1) fun x27 =>
 dP x27 true
 ( gP (aBin .leq x1 (.int .i64 36)) fun x30 =>
 j16 x30 H)
 ( j16 (.bool false) H))
theorem w86_eq : w86 = fun D Q x0 x1 x2 H => wpF D ir86 [x0, x1, x2] H Q := by kernel_rfl
theorem w86_ok (hT : Has T) {x0 x1 x2 : AV} {H : AH} {Q : AV → AH → Prop} (h : w86 (Den.of T) Q x0 x1 x2 H) : ∃ v H', Den.of T 86 [x0, x1, x2] H = some (v, H') ∧ Q v H' :=
  wpF_ok (hT _ ir86 rfl) (by rw [w86_eq] at h; exact h)

-- internal/strconv.lower
def w91 (D : Den) (Q : AV → AH → Prop) (x0 : AV) (H : AH) : Prop :=
 gP (aBin .or x0 (.int .u8 32)) fun x4 =>
 Q x4 H
theorem w91_eq : w91 = fun D Q x0 H => wpF D ir91 [x0] H Q := by kernel_rfl
theorem w91_ok (hT : Has T) {x0 : AV} {H : AH} {Q : AV → AH → Prop} (h : w91 (Den.of T) Q x0 H) : ∃ v H', Den.of T 91 [x0] H = some (v, H') ∧ Q v H' :=
  wpF_ok (hT _ ir91 rfl) (by rw [w91_eq] at h; exact h)

-- internal/strconv.underscoreOK
end Go.SV
