/- The program's functions, translated for the abstract machine; each is checked by the kernel against the program. Printed by a program of the prover's own. -/
import Derived.Test.YtkbkhdgjdikjiaaDoorProg
import Derived.Test.YtkbkhdgjdikjiaaDoorLd
import Derived.KernelRfl
set_option maxRecDepth 100000
namespace Go.SV
open Go.Proofs
abbrev t (n : Nat) : Opd := .tmp n
abbrev o (d : Nat) (x : IOp) : IOper := ⟨some d, x, none⟩
abbrev e (x : IOp) : IOper := ⟨none, x, none⟩
abbrev og (d g : Nat) (b : Bool) (x : IOp) : IOper := ⟨some d, x, some (g, b)⟩
abbrev eg (g : Nat) (b : Bool) (x : IOp) : IOper := ⟨none, x, some (g, b)⟩

-- gosem.cut.init
def ir2 : IF := ⟨1, .reg [o 0 (.call 0 (.fn 1) [])], []⟩
theorem ir2_tr : trF Tryd.prog ir2 Tryd.f2 = some ir2 := by kernel_rfl

-- grille/grillelaw10.FlattenAnchors
def ir3 : IF := ⟨75, .seq (.reg [o 2 (.mov (.cst (.bool false)))])
(.seq (.seq (.reg [o 9 (.call 0 (.fn 11) []),
  o 10 (.not (t 9))])
(.cond (t 10)
 (.seq (.reg [o 2 (.mov (.cst (.bool false)))])
 (.ret))
 (.skip)))
(.seq (.seq (.reg [o 11 (.mov (t 0)),
  o 12 (.call 0 (.fn 12) [(t 11)])])
(.cond (t 12)
 (.seq (.reg [o 2 (.mov (.cst (.bool true)))])
 (.ret))
 (.skip)))
(.seq (.reg [o 14 (.mov (t 0)),
  o 15 (.call 0 (.fn 14) [(t 14)]),
  o 16 (.lit .ro 1 [(t 15)]),
  o 17 (.call 0 (.fn 13) [(t 16)]),
  o 13 (.mov (t 17)),
  o 18 (.extract 0 (t 13)),
  o 19 (.extract 1 (t 13)),
  o 3 (.mov (t 18)),
  o 4 (.mov (t 19))])
(.seq (.seq (.reg [o 20 (.mov (t 4)),
  o 21 (.bin .neq (t 20) (.cst (.int .i64 0)))])
(.cond (t 21)
 (.seq (.reg [o 22 (.mov (t 3)),
   o 23 (.len .row (t 22)),
   o 24 (.bin .eql (t 23) (.cst (.int .i64 0))),
   o 2 (.mov (t 24))])
 (.ret))
 (.skip)))
(.seq (.reg [o 25 (.mkMap),
  o 26 (.mkMap),
  o 5 (.mov (t 25)),
  o 6 (.mov (t 26))])
(.seq (.seq (.reg [o 27 (.mov (t 3)),
  o 28 (.len .row (t 27)),
  o 29 (.mov (.cst (.int .i64 0)))])
(.block 0 (.loop [30, 31, 32, 8, 52, 53, 54, 51, 56, 57, 58, 55, 59, 60, 61, 62, 63, 64, 65, 66, 67, 68, 33, 34, 35, 36, 37, 50, 38, 39, 40, 41, 42, 43, 44, 45, 46, 47, 48, 49, 2, 69] (.seq (.reg [o 30 (.bin .lss (t 29) (t 28))])
  (.seq (.cond (t 30)
   (.skip)
   (.exit 0))
  (.seq (.block 1 (.seq (.reg [o 31 (.idxAddr 5 (t 27) (t 29)),
     o 32 (.load (some 5) (t 31)),
     o 8 (.alloc [(.int .i64 0), (.str []), (.str []), (.str []), (.bool false)]),
     e (.store 5 (t 8) (t 32))])
   (.block 2 (.seq (.reg [o 52 (.fieldAddr 1 (t 8)),
      o 53 (.load none (t 52)),
      o 54 (.bin .eql (t 53) (.cst (.str []))),
      o 51 (.mov (t 54))])
    (.cond (t 51)
     (.skip)
     (.seq (.reg [o 56 (.fieldAddr 0 (t 8)),
       o 57 (.load none (t 56)),
       o 58 (.bin .eql (t 57) (.cst (.int .i64 7))),
       o 55 (.mov (t 58))])
     (.cond (t 55)
      (.seq (.seq (.reg [o 59 (.mov (t 5)),
        o 60 (.fieldAddr 1 (t 8)),
        o 61 (.load none (t 60)),
        o 62 (.lookup (.scal .str) (.int .i64 0) false (t 59) (t 61)),
        o 63 (.bin .eql (t 62) (.cst (.int .i64 0)))])
      (.cond (t 63)
       (.seq (.reg [o 2 (.mov (.cst (.bool false)))])
       (.ret))
       (.skip)))
      (.reg [o 64 (.mov (t 6)),
        o 65 (.fieldAddr 1 (t 8)),
        o 66 (.load none (t 65)),
        o 67 (.lookup (.scal .str) (.int .i64 0) false (t 64) (t 66)),
        o 68 (.bin .add (t 67) (.cst (.int .i64 1))),
        e (.mapUpd (.scal .str) (t 64) (t 66) (t 68))]))
      (.seq (.reg [o 33 (.mov (t 5)),
        o 34 (.fieldAddr 1 (t 8)),
        o 35 (.load none (t 34)),
        o 36 (.lookup (.scal .str) (.int .i64 0) false (t 33) (t 35)),
        o 37 (.bin .add (t 36) (.cst (.int .i64 1))),
        e (.mapUpd (.scal .str) (t 33) (t 35) (t 37))])
      (.seq (.dreg [o 38 (.mov (t 5)),
        o 39 (.fieldAddr 1 (t 8)),
        o 40 (.load none (t 39)),
        o 41 (.lookup (.scal .str) (.int .i64 0) false (t 38) (t 40)),
        o 42 (.bin .gtr (t 41) (.cst (.int .i64 1))),
        o 43 (.mov (t 42)),
        og 44 43 false (.fieldAddr 1 (t 8)),
        og 45 43 false (.load none (t 44)),
        og 46 43 false (.mov (t 5)),
        og 47 43 false (.len .map (t 46)),
        og 48 43 false (.call 0 (.fn 15) [(t 47)]),
        og 49 43 false (.bin .neq (t 45) (t 48)),
        o 50 (.pick (t 43) (.cst (.bool true)) (t 49))] [[], [], [1], [0, 1, 2], [0, 1, 2, 3], [0, 1, 2, 3, 4], [0, 1, 2, 3, 4, 5], [0, 1, 2, 3, 4, 5, 6], [0, 1, 2, 3, 4, 5], [0, 1, 2, 3, 4, 5, 8], [0, 1, 2, 3, 4, 5, 8, 9], [0, 1, 2, 3, 4, 5, 6, 7, 8, 9, 10], [0, 1, 2, 3, 4, 5, 6, 7, 8, 9, 10, 11]])
      (.gh [.kill [38, 39, 40, 41, 42, 43, 44, 45, 46, 47, 48, 49]] (.cond (t 50)
       (.seq (.reg [o 2 (.mov (.cst (.bool false)))])
       (.ret))
       (.skip))))))))))))
  (.gh [.kill [31, 32, 8, 52, 53, 54, 51, 56, 57, 58, 55, 59, 60, 61, 62, 63, 64, 65, 66, 67, 68, 33, 34, 35, 36, 37, 50, 38, 39, 40, 41, 42, 43, 44, 45, 46, 47, 48, 49, 2]] (.reg [o 69 (.bin .add (t 29) (.cst (.int .i64 1))),
    o 29 (.mov (t 69))]))))))))
(.seq (.reg [o 70 (.mov (t 6)),
  o 71 (.len .map (t 70)),
  o 72 (.mov (t 5)),
  o 73 (.len .map (t 72)),
  o 74 (.bin .eql (t 71) (t 73)),
  o 2 (.mov (t 74))])
(.ret)))))))), [.tmp 2]⟩
theorem ir3_tr : trF Tryd.prog ir3 Tryd.f3 = some ir3 := by kernel_rfl

-- grille/grillelaw10.FlattenOne
def ir4 : IF := ⟨53, .seq (.reg [o 2 (.mov (.cst (.bool false)))])
(.seq (.seq (.reg [o 10 (.call 0 (.fn 11) []),
  o 11 (.not (t 10))])
(.cond (t 11)
 (.seq (.reg [o 2 (.mov (.cst (.bool false)))])
 (.ret))
 (.skip)))
(.seq (.seq (.reg [o 12 (.mov (t 0)),
  o 13 (.call 0 (.fn 12) [(t 12)])])
(.cond (t 13)
 (.seq (.reg [o 2 (.mov (.cst (.bool true)))])
 (.ret))
 (.skip)))
(.seq (.reg [o 14 (.mov (t 0)),
  o 15 (.call 0 (.fn 14) [(t 14)]),
  o 3 (.mov (t 15))])
(.seq (.reg [o 17 (.mov (t 3)),
  o 18 (.lit .ro 1 [(t 17)]),
  o 19 (.call 0 (.fn 13) [(t 18)]),
  o 16 (.mov (t 19)),
  o 20 (.extract 0 (t 16)),
  o 21 (.extract 1 (t 16)),
  o 4 (.mov (t 20)),
  o 5 (.mov (t 21))])
(.seq (.seq (.reg [o 22 (.mov (t 5)),
  o 23 (.bin .neq (t 22) (.cst (.int .i64 0)))])
(.cond (t 23)
 (.seq (.reg [o 24 (.mov (t 4)),
   o 25 (.len .row (t 24)),
   o 26 (.bin .eql (t 25) (.cst (.int .i64 0))),
   o 2 (.mov (t 26))])
 (.ret))
 (.skip)))
(.seq (.reg [o 27 (.mov (t 3)),
  o 28 (.call 0 (.fn 16) [(t 27)]),
  o 6 (.mov (t 28))])
(.seq (.reg [o 7 (.mov (.cst (.int .i64 0)))])
(.seq (.seq (.reg [o 29 (.mov (t 6)),
  o 30 (.len .row (t 29)),
  o 31 (.mov (.cst (.int .i64 0)))])
(.block 0 (.loop [32, 33, 34, 9, 35, 36, 37, 38, 39, 40] (.seq (.reg [o 32 (.bin .lss (t 31) (t 30))])
  (.seq (.cond (t 32)
   (.skip)
   (.exit 0))
  (.seq (.block 1 (.seq (.reg [o 33 (.idxAddr 4 (t 29) (t 31)),
     o 34 (.load (some 4) (t 33)),
     o 9 (.alloc [(.int .i64 0), (.str []), (.str []), .nils]),
     e (.store 4 (t 9) (t 34))])
   (.reg [o 35 (.mov (t 7)),
     o 36 (.fieldAddr 3 (t 9)),
     o 37 (.load none (t 36)),
     o 38 (.len .row (t 37)),
     o 39 (.bin .add (t 35) (t 38)),
     o 7 (.mov (t 39))])))
  (.reg [o 40 (.bin .add (t 31) (.cst (.int .i64 1))),
    o 31 (.mov (t 40))])))))))
(.seq (.reg [o 41 (.mov (t 4)),
  o 42 (.call 0 (.fn 17) [(t 41)]),
  o 43 (.mov (t 7)),
  o 44 (.bin .add (.cst (.int .i64 1)) (t 43)),
  o 45 (.bin .eql (t 42) (t 44)),
  o 46 (.mov (t 45)),
  og 47 46 true (.mov (t 4)),
  og 48 46 true (.call 0 (.fn 18) [(t 47)]),
  og 49 46 true (.mov (t 3)),
  og 50 46 true (.call 0 (.fn 19) [(t 49)]),
  og 51 46 true (.bin .eql (t 48) (t 50)),
  o 52 (.pick (t 46) (t 51) (.cst (.bool false))),
  o 2 (.mov (t 52))])
(.ret)))))))))), [.tmp 2]⟩
theorem ir4_tr : trF Tryd.prog ir4 Tryd.f4 = some ir4 := by kernel_rfl

-- grille/grillelaw10.FlattenTag
def ir5 : IF := ⟨60, .seq (.reg [o 1 (.box (t 0)),
  o 2 (.mov (.cst (.bool false)))])
(.seq (.seq (.reg [o 7 (.call 0 (.fn 11) []),
  o 8 (.not (t 7))])
(.cond (t 8)
 (.seq (.reg [o 2 (.mov (.cst (.bool false)))])
 (.ret))
 (.skip)))
(.seq (.seq (.reg [o 9 (.load (some 4) (t 1)),
  o 10 (.lit .ro 4 [(t 9)]),
  o 11 (.call 0 (.fn 12) [(t 10)])])
(.cond (t 11)
 (.seq (.reg [o 2 (.mov (.cst (.bool true)))])
 (.ret))
 (.skip)))
(.seq (.reg [o 12 (.load (some 4) (t 1)),
  o 13 (.lit .ro 4 [(t 12)]),
  o 14 (.call 1 (.fn 14) [(t 13)]),
  o 3 (.mov (t 14))])
(.seq (.reg [o 15 (.mov (t 3)),
  o 16 (.idxAddr 4 (t 15) (.cst (.int .i64 0))),
  o 17 (.fieldAddr 3 (t 16)),
  e (.store 1 (t 17) (.cst .nils))])
(.seq (.seq (.gh [.sealT 3] (.reg [o 18 (.mov (t 3)),
  o 19 (.call 0 (.fn 20) [(t 18)]),
  o 20 (.not (t 19))]))
(.cond (t 20)
 (.seq (.reg [o 2 (.mov (.cst (.bool true)))])
 (.ret))
 (.skip)))
(.seq (.reg [o 21 (.mov (t 3)),
  o 22 (.idxAddr 4 (t 21) (.cst (.int .i64 0))),
  o 23 (.load (some 4) (t 22)),
  o 24 (.call 0 (.fn 21) [(t 23)]),
  o 4 (.alloc [(.int .i64 0), (.str []), (.str []), (.str []), (.bool false)]),
  e (.store 5 (t 4) (t 24))])
(.seq (.reg [o 26 (.load (some 5) (t 4)),
  o 27 (.call 0 (.fn 22) [(t 26)]),
  o 25 (.mov (t 27)),
  o 28 (.extract 0 (t 25)),
  o 29 (.extract 1 (t 25)),
  o 5 (.mov (t 28)),
  o 6 (.mov (t 29))])
(.seq (.reg [o 30 (.mov (t 5)),
  o 31 (.fieldAddr 1 (t 1)),
  o 32 (.load none (t 31)),
  o 33 (.bin .eql (t 30) (t 32)),
  o 34 (.mov (t 33)),
  og 35 34 true (.mov (t 6)),
  og 36 34 true (.bin .eql (t 35) (.cst (.int .i64 0))),
  o 37 (.pick (t 34) (t 36) (.cst (.bool false))),
  o 38 (.mov (t 37)),
  og 39 38 true (.fieldAddr 3 (t 4)),
  og 40 38 true (.load none (t 39)),
  og 41 38 true (.fieldAddr 2 (t 1)),
  og 42 38 true (.load none (t 41)),
  og 43 38 true (.bin .eql (t 40) (t 42)),
  o 44 (.pick (t 38) (t 43) (.cst (.bool false))),
  o 45 (.mov (t 44)),
  og 46 45 true (.fieldAddr 1 (t 4)),
  og 47 45 true (.load none (t 46)),
  og 48 45 true (.bin .eql (t 47) (.cst (.str []))),
  o 49 (.pick (t 45) (t 48) (.cst (.bool false))),
  o 50 (.mov (t 49)),
  og 51 50 true (.fieldAddr 4 (t 4)),
  og 52 50 true (.load none (t 51)),
  og 53 50 true (.not (t 52)),
  og 54 50 true (.mov (t 53)),
  og 55 54 false (.fieldAddr 2 (t 4)),
  og 56 54 false (.load none (t 55)),
  og 57 54 false (.bin .eql (t 56) (.cst (.str []))),
  og 58 50 true (.pick (t 54) (.cst (.bool true)) (t 57)),
  o 59 (.pick (t 50) (t 58) (.cst (.bool false))),
  o 2 (.mov (t 59))])
(.ret))))))))), [.tmp 2]⟩
theorem ir5_tr : trF Tryd.prog ir5 Tryd.f5 = some ir5 := by kernel_rfl

-- grille/grillelaw10.FlattenSame
def ir6 : IF := ⟨48, .seq (.reg [o 4 (.mov (.cst (.bool false)))])
(.seq (.seq (.reg [o 9 (.call 0 (.fn 11) []),
  o 10 (.not (t 9))])
(.cond (t 10)
 (.seq (.reg [o 4 (.mov (.cst (.bool false)))])
 (.ret))
 (.skip)))
(.seq (.seq (.reg [o 11 (.mov (t 0)),
  o 12 (.call 0 (.fn 12) [(t 11)]),
  o 13 (.mov (t 12)),
  og 14 13 false (.mov (t 1)),
  og 15 13 false (.call 0 (.fn 12) [(t 14)]),
  o 16 (.pick (t 13) (.cst (.bool true)) (t 15))])
(.gh [.kill [11, 12, 13, 14, 15]] (.cond (t 16)
 (.seq (.reg [o 4 (.mov (.cst (.bool true)))])
 (.ret))
 (.skip))))
(.seq (.reg [o 18 (.mov (t 0)),
  o 19 (.call 0 (.fn 14) [(t 18)]),
  o 20 (.lit .ro 1 [(t 19)]),
  o 21 (.call 0 (.fn 13) [(t 20)]),
  o 17 (.mov (t 21)),
  o 22 (.extract 0 (t 17)),
  o 23 (.extract 1 (t 17)),
  o 5 (.mov (t 22)),
  o 6 (.mov (t 23))])
(.seq (.reg [o 25 (.mov (t 1)),
  o 26 (.call 0 (.fn 14) [(t 25)]),
  o 27 (.lit .ro 1 [(t 26)]),
  o 28 (.call 0 (.fn 13) [(t 27)]),
  o 24 (.mov (t 28)),
  o 29 (.extract 0 (t 24)),
  o 30 (.extract 1 (t 24)),
  o 7 (.mov (t 29)),
  o 8 (.mov (t 30))])
(.seq (.seq (.reg [o 31 (.mov (t 6)),
  o 32 (.bin .neq (t 31) (.cst (.int .i64 0))),
  o 33 (.mov (t 32)),
  og 34 33 false (.mov (t 8)),
  og 35 33 false (.bin .neq (t 34) (.cst (.int .i64 0))),
  o 36 (.pick (t 33) (.cst (.bool true)) (t 35))])
(.gh [.kill [31, 32, 33, 34, 35]] (.cond (t 36)
 (.seq (.reg [o 4 (.mov (.cst (.bool true)))])
 (.ret))
 (.skip))))
(.seq (.reg [o 37 (.mov (t 5)),
  o 38 (.call 0 (.fn 24) [(t 37)]),
  o 39 (.mov (t 7)),
  o 40 (.call 0 (.fn 24) [(t 39)]),
  o 41 (.call 0 (.fn 23) [(t 38), (t 40)]),
  o 42 (.mov (t 0)),
  o 43 (.call 0 (.fn 14) [(t 42)]),
  o 44 (.mov (t 1)),
  o 45 (.call 0 (.fn 14) [(t 44)]),
  o 46 (.call 0 (.fn 25) [(t 43), (t 45)]),
  o 47 (.eqv .bool false (t 41) (t 46)),
  o 4 (.mov (t 47))])
(.ret))))))), [.tmp 4]⟩
theorem ir6_tr : trF Tryd.prog ir6 Tryd.f6 = some ir6 := by kernel_rfl

-- grille/grillelaw18.BudgetTells
def ir7 : IF := ⟨62, .seq (.reg [o 3 (.box (t 0)),
  o 4 (.box (t 1)),
  o 6 (.mov (.cst (.bool false)))])
(.seq (.seq (.reg [o 10 (.call 0 (.fn 26) []),
  o 11 (.not (t 10))])
(.cond (t 11)
 (.seq (.reg [o 6 (.mov (.cst (.bool false)))])
 (.ret))
 (.skip)))
(.seq (.seq (.reg [o 12 (.mov (t 2)),
  o 13 (.cvInt .i64 (t 12)),
  o 14 (.bin .gtr (t 13) (.cst (.int .i64 30000)))])
(.cond (t 14)
 (.seq (.reg [o 6 (.mov (.cst (.bool true)))])
 (.ret))
 (.skip)))
(.seq (.dreg [o 15 (.load (some 5) (t 3)),
  o 16 (.load (some 5) (t 4)),
  o 7 (.alloc [(.int .i64 0), (.int .i64 0), (.int .i64 0), (.int .i64 0), (.int .i64 0)]),
  o 8 (.alloc [(.int .i64 0), (.int .i64 0), (.int .i64 0), (.int .i64 0), (.int .i64 0)]),
  e (.store 5 (t 7) (t 15)),
  e (.store 5 (t 8) (t 16))] [[], [], [], [], [2, 0, 3], [3, 1, 2, 0, 4]])
(.seq (.reg [o 17 (.mov (t 2)),
  o 18 (.make .ro 1 1 [(.int .u8 0)] (t 17) (t 17)),
  o 9 (.mov (t 18))])
(.seq (.dreg [o 19 (.load (some 5) (t 7)),
  o 20 (.call 0 (.fn 27) [(t 19)]),
  o 21 (.load (some 5) (t 3)),
  o 22 (.call 0 (.fn 28) [(t 21)]),
  o 23 (.eqv .bool false (t 20) (t 22)),
  o 24 (.mov (t 23)),
  og 25 24 true (.load (some 5) (t 7)),
  og 26 24 true (.load (some 5) (t 8)),
  og 27 24 true (.call 0 (.fn 29) [(t 25), (t 26)]),
  og 28 24 true (.load (some 5) (t 3)),
  og 29 24 true (.load (some 5) (t 4)),
  og 30 24 true (.call 0 (.fn 30) [(t 28), (t 29)]),
  og 31 24 true (.eqAgg [.int, .int, .int, .int, .int] false (t 27) (t 30)),
  o 32 (.pick (t 24) (t 31) (.cst (.bool false))),
  o 33 (.mov (t 32)),
  og 34 33 true (.load (some 5) (t 7)),
  og 35 33 true (.mov (t 9)),
  og 36 33 true (.call 0 (.fn 31) [(t 34), (t 35)]),
  og 37 33 true (.load (some 5) (t 3)),
  og 38 33 true (.mov (t 2)),
  og 39 33 true (.cvInt .i64 (t 38)),
  og 40 33 true (.fieldAddr 0 (t 3)),
  og 41 33 true (.load none (t 40)),
  og 42 33 true (.call 0 (.fn 32) [(t 37), (t 39), (t 41)]),
  og 43 33 true (.bin .eql (t 36) (t 42)),
  o 44 (.pick (t 33) (t 43) (.cst (.bool false))),
  o 45 (.mov (t 44)),
  og 46 45 true (.load (some 5) (t 7)),
  og 47 45 true (.mov (t 9)),
  og 48 45 true (.call 0 (.fn 33) [(t 46), (t 47)]),
  og 49 45 true (.load (some 5) (t 3)),
  og 50 45 true (.mov (t 2)),
  og 51 45 true (.cvInt .i64 (t 50)),
  og 52 45 true (.fieldAddr 1 (t 3)),
  og 53 45 true (.load none (t 52)),
  og 54 45 true (.call 0 (.fn 32) [(t 49), (t 51), (t 53)]),
  og 55 45 true (.bin .eql (t 48) (t 54)),
  o 56 (.pick (t 45) (t 55) (.cst (.bool false))),
  o 57 (.mov (t 56)),
  og 58 57 true (.call 0 (.fn 34) []),
  og 59 57 true (.call 0 (.fn 35) []),
  og 60 57 true (.eqAgg [.int, .int, .int, .int, .int] false (t 58) (t 59)),
  o 61 (.pick (t 57) (t 60) (.cst (.bool false))),
  o 6 (.mov (t 61))] [[], [0], [], [2, 0, 1], [0, 1, 2, 3], [0, 1, 2, 3, 4], [0, 1, 2, 3, 4, 5], [0, 1, 2, 3, 4, 5], [0, 1, 2, 3, 4, 5, 6, 7], [0, 1, 2, 3, 4, 5], [0, 1, 2, 3, 4, 5], [0, 1, 2, 3, 4, 5, 9, 10, 6, 7, 8], [0, 1, 2, 3, 4, 5, 6, 7, 8, 9, 10, 11], [0, 1, 2, 3, 4, 5, 6, 7, 8, 9, 10, 11, 12], [0, 1, 2, 3, 4, 5, 6, 7, 8, 9, 10, 11, 12, 13], [0, 1, 2, 3, 4, 5, 6, 7, 8, 9, 10, 11, 12, 13, 14], [0, 1, 2, 3, 4, 5, 6, 7, 8, 9, 10, 11, 12, 13, 14], [0, 1, 2, 3, 4, 5, 6, 7, 8, 9, 10, 11, 12, 13, 14, 15, 16], [0, 1, 2, 3, 4, 5, 6, 7, 8, 9, 10, 11, 12, 13, 14], [0, 1, 2, 3, 4, 5, 6, 7, 8, 9, 10, 11, 12, 13, 14], [0, 1, 2, 3, 4, 5, 6, 7, 8, 9, 10, 11, 12, 13, 14, 19], [0, 1, 2, 3, 4, 5, 6, 7, 8, 9, 10, 11, 12, 13, 14], [0, 1, 2, 3, 4, 5, 6, 7, 8, 9, 10, 11, 12, 13, 14, 21], [0, 1, 2, 3, 4, 5, 6, 7, 8, 9, 10, 11, 12, 13, 14, 18, 19, 20, 21, 22, 15, 16, 17], [0, 1, 2, 3, 4, 5, 6, 7, 8, 9, 10, 11, 12, 13, 14, 15, 16, 17, 18, 19, 20, 21, 22, 23], [0, 1, 2, 3, 4, 5, 6, 7, 8, 9, 10, 11, 12, 13, 14, 15, 16, 17, 18, 19, 20, 21, 22, 23, 24], [0, 1, 2, 3, 4, 5, 6, 7, 8, 9, 10, 11, 12, 13, 14, 15, 16, 17, 18, 19, 20, 21, 22, 23, 24, 25], [0, 1, 2, 3, 4, 5, 6, 7, 8, 9, 10, 11, 12, 13, 14, 15, 16, 17, 18, 19, 20, 21, 22, 23, 24, 25, 26], [0, 1, 2, 3, 4, 5, 6, 7, 8, 9, 10, 11, 12, 13, 14, 15, 16, 17, 18, 19, 20, 21, 22, 23, 24, 25, 26], [0, 1, 2, 3, 4, 5, 6, 7, 8, 9, 10, 11, 12, 13, 14, 15, 16, 17, 18, 19, 20, 21, 22, 23, 24, 25, 26, 27, 28], [0, 1, 2, 3, 4, 5, 6, 7, 8, 9, 10, 11, 12, 13, 14, 15, 16, 17, 18, 19, 20, 21, 22, 23, 24, 25, 26], [0, 1, 2, 3, 4, 5, 6, 7, 8, 9, 10, 11, 12, 13, 14, 15, 16, 17, 18, 19, 20, 21, 22, 23, 24, 25, 26], [0, 1, 2, 3, 4, 5, 6, 7, 8, 9, 10, 11, 12, 13, 14, 15, 16, 17, 18, 19, 20, 21, 22, 23, 24, 25, 26, 31], [0, 1, 2, 3, 4, 5, 6, 7, 8, 9, 10, 11, 12, 13, 14, 15, 16, 17, 18, 19, 20, 21, 22, 23, 24, 25, 26], [0, 1, 2, 3, 4, 5, 6, 7, 8, 9, 10, 11, 12, 13, 14, 15, 16, 17, 18, 19, 20, 21, 22, 23, 24, 25, 26, 33], [0, 1, 2, 3, 4, 5, 6, 7, 8, 9, 10, 11, 12, 13, 14, 15, 16, 17, 18, 19, 20, 21, 22, 23, 24, 25, 26, 30, 31, 32, 33, 34, 27, 28, 29], [0, 1, 2, 3, 4, 5, 6, 7, 8, 9, 10, 11, 12, 13, 14, 15, 16, 17, 18, 19, 20, 21, 22, 23, 24, 25, 26, 27, 28, 29, 30, 31, 32, 33, 34, 35], [0, 1, 2, 3, 4, 5, 6, 7, 8, 9, 10, 11, 12, 13, 14, 15, 16, 17, 18, 19, 20, 21, 22, 23, 24, 25, 26, 27, 28, 29, 30, 31, 32, 33, 34, 35, 36], [0, 1, 2, 3, 4, 5, 6, 7, 8, 9, 10, 11, 12, 13, 14, 15, 16, 17, 18, 19, 20, 21, 22, 23, 24, 25, 26, 27, 28, 29, 30, 31, 32, 33, 34, 35, 36, 37], [0, 1, 2, 3, 4, 5, 6, 7, 8, 9, 10, 11, 12, 13, 14, 15, 16, 17, 18, 19, 20, 21, 22, 23, 24, 25, 26, 27, 28, 29, 30, 31, 32, 33, 34, 35, 36, 37, 38], [0, 1, 2, 3, 4, 5, 6, 7, 8, 9, 10, 11, 12, 13, 14, 15, 16, 17, 18, 19, 20, 21, 22, 23, 24, 25, 26, 27, 28, 29, 30, 31, 32, 33, 34, 35, 36, 37, 38, 39], [0, 1, 2, 3, 4, 5, 6, 7, 8, 9, 10, 11, 12, 13, 14, 15, 16, 17, 18, 19, 20, 21, 22, 23, 24, 25, 26, 27, 28, 29, 30, 31, 32, 33, 34, 35, 36, 37, 38, 39, 40], [0, 1, 2, 3, 4, 5, 6, 7, 8, 9, 10, 11, 12, 13, 14, 15, 16, 17, 18, 19, 20, 21, 22, 23, 24, 25, 26, 27, 28, 29, 30, 31, 32, 33, 34, 35, 36, 37, 38, 39, 40, 41], [0, 1, 2, 3, 4, 5, 6, 7, 8, 9, 10, 11, 12, 13, 14, 15, 16, 17, 18, 19, 20, 21, 22, 23, 24, 25, 26, 27, 28, 29, 30, 31, 32, 33, 34, 35, 36, 37, 38, 39, 40, 41, 42]])
(.ret)))))), [.tmp 6]⟩
theorem ir7_tr : trF Tryd.prog ir7 Tryd.f7 = some ir7 := by kernel_rfl

-- grille/grillelaw18.BudgetLeast
def ir8 : IF := ⟨98, .seq (.reg [o 1 (.box (t 0)),
  o 2 (.mov (.cst (.bool false)))])
(.seq (.seq (.reg [o 17 (.call 0 (.fn 26) []),
  o 18 (.not (t 17))])
(.cond (t 18)
 (.seq (.reg [o 2 (.mov (.cst (.bool false)))])
 (.ret))
 (.skip)))
(.seq (.dreg [o 19 (.fieldAddr 0 (t 1)),
  o 20 (.load (some 5) (t 19)),
  o 21 (.fieldAddr 5 (t 1)),
  o 22 (.load (some 5) (t 21)),
  o 23 (.fieldAddr 10 (t 1)),
  o 24 (.load none (t 23)),
  o 25 (.fieldAddr 11 (t 1)),
  o 26 (.load none (t 25)),
  o 3 (.alloc [(.int .i64 0), (.int .i64 0), (.int .i64 0), (.int .i64 0), (.int .i64 0)]),
  o 4 (.alloc [(.int .i64 0), (.int .i64 0), (.int .i64 0), (.int .i64 0), (.int .i64 0)]),
  e (.store 5 (t 3) (t 20)),
  e (.store 5 (t 4) (t 22)),
  o 5 (.mov (t 24)),
  o 6 (.mov (t 26))] [[], [0], [], [2], [], [4], [], [6], [], [], [8, 0, 1, 9], [9, 2, 3, 8, 0, 1, 10], [4, 5, 9, 2, 3, 8, 0, 1, 10, 11], [6, 7, 4, 5, 9, 2, 3, 8, 0, 1, 10, 11, 12]])
(.seq (.dreg [o 27 (.load (some 5) (t 3)),
  o 28 (.load (some 5) (t 4)),
  o 7 (.alloc [(.int .i64 0), (.int .i64 0), (.int .i64 0), (.int .i64 0), (.int .i64 0)]),
  o 8 (.alloc [(.int .i64 0), (.int .i64 0), (.int .i64 0), (.int .i64 0), (.int .i64 0)]),
  e (.store 5 (t 7) (t 27)),
  e (.store 5 (t 8) (t 28))] [[], [], [], [], [2, 0, 3], [3, 1, 2, 0, 4]])
(.seq (.seq (.reg [o 29 (.mov (t 5)),
  o 30 (.call 0 (.fn 36) [(t 29)]),
  o 31 (.mov (t 30)),
  og 32 31 false (.mov (t 6)),
  og 33 31 false (.cvInt .i64 (t 32)),
  og 34 31 false (.bin .gtr (t 33) (.cst (.int .i64 30000))),
  o 35 (.pick (t 31) (.cst (.bool true)) (t 34)),
  o 36 (.mov (t 35)),
  og 37 36 false (.load (some 5) (t 7)),
  og 38 36 false (.call 0 (.fn 27) [(t 37)]),
  og 39 36 false (.not (t 38)),
  o 40 (.pick (t 36) (.cst (.bool true)) (t 39)),
  o 41 (.mov (t 40)),
  og 42 41 false (.load (some 5) (t 8)),
  og 43 41 false (.call 0 (.fn 27) [(t 42)]),
  og 44 41 false (.not (t 43)),
  o 45 (.pick (t 41) (.cst (.bool true)) (t 44))])
(.gh [.kill [29, 30, 31, 32, 33, 34, 35, 36, 37, 38, 39, 40, 41, 42, 43, 44]] (.cond (t 45)
 (.seq (.reg [o 2 (.mov (.cst (.bool true)))])
 (.ret))
 (.skip))))
(.seq (.dreg [o 46 (.mov (t 5)),
  o 47 (.call 0 (.fn 37) [(t 46)]),
  o 48 (.load (some 5) (t 7)),
  o 49 (.load (some 5) (t 8)),
  o 50 (.call 0 (.fn 29) [(t 48), (t 49)]),
  o 51 (.mov (t 6)),
  o 52 (.make .ro 1 1 [(.int .u8 0)] (t 51) (t 51)),
  o 9 (.alloc [.nils]),
  o 10 (.alloc [(.int .i64 0), (.int .i64 0), (.int .i64 0), (.int .i64 0), (.int .i64 0)]),
  o 11 (.alloc [.nils]),
  e (.store 1 (t 9) (t 47)),
  e (.store 5 (t 10) (t 50)),
  e (.store 1 (t 11) (t 52))] [[], [0], [], [], [2, 3, 0, 1], [], [5], [], [], [], [7, 0, 1, 2, 3, 4, 8, 9], [8, 2, 3, 0, 1, 4, 7, 9, 10], [9, 5, 6, 8, 2, 3, 0, 1, 4, 7, 10, 11]])
(.seq (.reg [o 53 (.mkFn (.func 38) [] [(t 11), (t 9)]),
  o 12 (.mov (t 53))])
(.seq (.dreg [o 54 (.mov (t 12)),
  o 55 (.load (some 5) (t 7)),
  o 56 (.call 0 (t 54) [(t 55)]),
  o 57 (.mov (t 12)),
  o 58 (.load (some 5) (t 8)),
  o 59 (.call 0 (t 57) [(t 58)]),
  o 60 (.mov (t 12)),
  o 61 (.load (some 5) (t 10)),
  o 62 (.call 0 (t 60) [(t 61)]),
  o 13 (.alloc [(.bool false), (.bool false), (.bool false)]),
  o 14 (.alloc [(.bool false), (.bool false), (.bool false)]),
  o 15 (.alloc [(.bool false), (.bool false), (.bool false)]),
  e (.store 3 (t 13) (t 56)),
  e (.store 3 (t 14) (t 59)),
  e (.store 3 (t 15) (t 62))] [[], [], [0, 1], [], [], [3, 4, 0, 1, 2], [], [], [6, 7, 3, 4, 0, 1, 2, 5], [], [], [], [9, 0, 1, 2, 6, 7, 3, 4, 5, 8, 10, 11], [10, 3, 4, 0, 1, 2, 5, 9, 6, 7, 8, 11, 12], [11, 6, 7, 3, 4, 0, 1, 2, 5, 8, 10, 9, 12, 13]])
(.seq (.seq (.reg [o 63 (.mov (.cst (.int .i64 0)))])
(.block 0 (.loop [64, 65, 16, 77, 66, 67, 68, 69, 70, 71, 72, 73, 74, 75, 76, 2, 78] (.seq (.reg [o 64 (.bin .lss (t 63) (.cst (.int .i64 3)))])
  (.seq (.cond (t 64)
   (.skip)
   (.exit 0))
  (.seq (.block 1 (.seq (.reg [o 65 (.mov (t 63)),
     o 16 (.mov (t 65))])
   (.seq (.dreg [o 66 (.mov (t 16)),
     o 67 (.idxAddrArr 3 1 (t 15) (t 66)),
     o 68 (.load none (t 67)),
     o 69 (.mov (t 16)),
     o 70 (.idxAddrArr 3 1 (t 13) (t 69)),
     o 71 (.load none (t 70)),
     o 72 (.mov (t 71)),
     og 73 72 true (.mov (t 16)),
     og 74 72 true (.idxAddrArr 3 1 (t 14) (t 73)),
     og 75 72 true (.load none (t 74)),
     o 76 (.pick (t 72) (t 75) (.cst (.bool false))),
     o 77 (.eqv .bool true (t 68) (t 76))] [[], [0], [0, 1], [], [3], [3, 4], [3, 4, 5], [3, 4, 5, 6], [3, 4, 5, 6, 7], [3, 4, 5, 6, 7, 8], [3, 4, 5, 6, 7, 8, 9], [0, 1, 2, 3, 4, 5, 6, 7, 8, 9, 10]])
   (.gh [.kill [66, 67, 68, 69, 70, 71, 72, 73, 74, 75, 76]] (.cond (t 77)
    (.seq (.reg [o 2 (.mov (.cst (.bool false)))])
    (.ret))
    (.skip))))))
  (.reg [o 78 (.bin .add (t 63) (.cst (.int .i64 1))),
    o 63 (.mov (t 78))])))))))
(.seq (.dreg [o 79 (.load (some 5) (t 10)),
  o 80 (.call 0 (.fn 27) [(t 79)]),
  o 81 (.mov (t 80)),
  og 82 81 true (.load (some 5) (t 10)),
  og 83 81 true (.load (some 5) (t 7)),
  og 84 81 true (.call 0 (.fn 40) [(t 82), (t 83)]),
  o 85 (.pick (t 81) (t 84) (.cst (.bool false))),
  o 86 (.mov (t 85)),
  og 87 86 true (.load (some 5) (t 10)),
  og 88 86 true (.load (some 5) (t 8)),
  og 89 86 true (.call 0 (.fn 40) [(t 87), (t 88)]),
  o 90 (.pick (t 86) (t 89) (.cst (.bool false))),
  o 91 (.mov (t 90)),
  og 92 91 true (.load (some 5) (t 8)),
  og 93 91 true (.load (some 5) (t 7)),
  og 94 91 true (.call 0 (.fn 29) [(t 92), (t 93)]),
  og 95 91 true (.load (some 5) (t 10)),
  og 96 91 true (.eqAgg [.int, .int, .int, .int, .int] false (t 94) (t 95)),
  o 97 (.pick (t 91) (t 96) (.cst (.bool false))),
  o 2 (.mov (t 97))] [[], [0], [0, 1], [0, 1, 2], [0, 1, 2], [0, 1, 2, 3, 4], [0, 1, 2, 3, 4, 5], [0, 1, 2, 3, 4, 5, 6], [0, 1, 2, 3, 4, 5, 6, 7], [0, 1, 2, 3, 4, 5, 6, 7], [0, 1, 2, 3, 4, 5, 6, 7, 8, 9], [0, 1, 2, 3, 4, 5, 6, 7, 8, 9, 10], [0, 1, 2, 3, 4, 5, 6, 7, 8, 9, 10, 11], [0, 1, 2, 3, 4, 5, 6, 7, 8, 9, 10, 11, 12], [0, 1, 2, 3, 4, 5, 6, 7, 8, 9, 10, 11, 12], [0, 1, 2, 3, 4, 5, 6, 7, 8, 9, 10, 11, 12, 13, 14], [0, 1, 2, 3, 4, 5, 6, 7, 8, 9, 10, 11, 12], [0, 1, 2, 3, 4, 5, 6, 7, 8, 9, 10, 11, 12, 13, 14, 15, 16], [0, 1, 2, 3, 4, 5, 6, 7, 8, 9, 10, 11, 12, 13, 14, 15, 16, 17], [0, 1, 2, 3, 4, 5, 6, 7, 8, 9, 10, 11, 12, 13, 14, 15, 16, 17, 18]])
(.ret)))))))))), [.tmp 2]⟩
theorem ir8_tr : trF Tryd.prog ir8 Tryd.f8 = some ir8 := by kernel_rfl

-- grille/grillelaw18.BudgetUse
def ir9 : IF := ⟨57, .seq (.reg [o 2 (.box (t 0)),
  o 4 (.mov (.cst (.bool false)))])
(.seq (.seq (.reg [o 10 (.call 0 (.fn 26) []),
  o 11 (.not (t 10))])
(.cond (t 11)
 (.seq (.reg [o 4 (.mov (.cst (.bool false)))])
 (.ret))
 (.skip)))
(.seq (.dreg [o 12 (.load (some 5) (t 2)),
  o 13 (.mov (t 1)),
  o 14 (.call 0 (.fn 37) [(t 13)]),
  o 5 (.alloc [(.int .i64 0), (.int .i64 0), (.int .i64 0), (.int .i64 0), (.int .i64 0)]),
  e (.store 5 (t 5) (t 12)),
  o 6 (.mov (t 14))] [[], [], [1], [], [3, 0, 1, 2], [1, 2, 3, 0, 4]])
(.seq (.seq (.reg [o 15 (.mov (t 1)),
  o 16 (.call 0 (.fn 36) [(t 15)]),
  o 17 (.mov (t 16)),
  og 18 17 false (.load (some 5) (t 5)),
  og 19 17 false (.call 0 (.fn 27) [(t 18)]),
  og 20 17 false (.not (t 19)),
  o 21 (.pick (t 17) (.cst (.bool true)) (t 20))])
(.gh [.kill [15, 16, 17, 18, 19, 20]] (.cond (t 21)
 (.seq (.reg [o 4 (.mov (.cst (.bool true)))])
 (.ret))
 (.skip))))
(.seq (.seq (.reg [o 22 (.mov (t 6)),
  o 23 (.len .row (t 22)),
  o 24 (.mov (.cst (.int .i64 0)))])
(.block 0 (.loop [25, 26, 27, 8, 28, 29, 30, 31, 32, 33, 34, 4, 35] (.seq (.reg [o 25 (.bin .lss (t 24) (t 23))])
  (.seq (.cond (t 25)
   (.skip)
   (.exit 0))
  (.seq (.block 1 (.seq (.reg [o 26 (.idxAddr 1 (t 22) (t 24)),
     o 27 (.load none (t 26)),
     o 8 (.mov (t 27))])
   (.seq (.reg [o 28 (.mov (t 8)),
     o 29 (.call 0 (.fn 20) [(t 28)]),
     o 30 (.not (t 29))])
   (.cond (t 30)
    (.seq (.reg [o 31 (.load (some 5) (t 5)),
      o 32 (.mov (t 6)),
      o 33 (.call 0 (.fn 39) [(t 31), (t 32)]),
      o 34 (.bin .eql (t 33) (.cst (.int .i64 5))),
      o 4 (.mov (t 34))])
    (.ret))
    (.skip)))))
  (.reg [o 35 (.bin .add (t 24) (.cst (.int .i64 1))),
    o 24 (.mov (t 35))])))))))
(.seq (.reg [o 36 (.mov (t 6)),
  o 37 (.call 0 (.fn 41) [(t 36)]),
  o 9 (.alloc [(.int .i64 0), (.int .i64 0), (.int .i64 0), (.int .i64 0), (.int .i64 0)]),
  e (.store 5 (t 9) (t 37))])
(.seq (.reg [o 38 (.fieldAddr 0 (t 5)),
  e (.store 1 (t 38) (.cst (.int .i64 0))),
  o 39 (.fieldAddr 1 (t 5)),
  e (.store 1 (t 39) (.cst (.int .i64 0)))])
(.seq (.seq (.dreg [o 40 (.load (some 5) (t 5)),
  o 41 (.mov (t 6)),
  o 42 (.call 0 (.fn 39) [(t 40), (t 41)]),
  o 43 (.bin .eql (t 42) (.cst (.int .i64 0))),
  o 44 (.load (some 5) (t 9)),
  o 45 (.load (some 5) (t 5)),
  o 46 (.call 0 (.fn 40) [(t 44), (t 45)]),
  o 47 (.eqv .bool true (t 43) (t 46))] [[], [], [0, 1], [0, 1, 2], [], [], [4, 5, 0, 1, 2], [0, 1, 2, 3, 4, 5, 6]])
(.cond (t 47)
 (.seq (.reg [o 4 (.mov (.cst (.bool false)))])
 (.ret))
 (.skip)))
(.seq (.reg [o 48 (.load (some 5) (t 9)),
  o 49 (.call 0 (.fn 27) [(t 48)]),
  o 50 (.not (t 49)),
  o 51 (.mov (t 50)),
  og 52 51 false (.load (some 5) (t 9)),
  og 53 51 false (.mov (t 6)),
  og 54 51 false (.call 0 (.fn 39) [(t 52), (t 53)]),
  og 55 51 false (.bin .eql (t 54) (.cst (.int .i64 0))),
  o 56 (.pick (t 51) (.cst (.bool true)) (t 55)),
  o 4 (.mov (t 56))])
(.ret))))))))), [.tmp 4]⟩
theorem ir9_tr : trF Tryd.prog ir9 Tryd.f9 = some ir9 := by kernel_rfl

-- grille/grillelaw18.BudgetMore
def ir10 : IF := ⟨46, .seq (.reg [o 4 (.mov (.cst (.bool false)))])
(.seq (.seq (.reg [o 8 (.call 0 (.fn 26) []),
  o 9 (.not (t 8))])
(.cond (t 9)
 (.seq (.reg [o 4 (.mov (.cst (.bool false)))])
 (.ret))
 (.skip)))
(.seq (.seq (.reg [o 10 (.mov (t 0)),
  o 11 (.call 0 (.fn 36) [(t 10)]),
  o 12 (.mov (t 11)),
  og 13 12 false (.mov (t 1)),
  og 14 12 false (.call 0 (.fn 36) [(t 13)]),
  o 15 (.pick (t 12) (.cst (.bool true)) (t 14))])
(.gh [.kill [10, 11, 12, 13, 14]] (.cond (t 15)
 (.seq (.reg [o 4 (.mov (.cst (.bool true)))])
 (.ret))
 (.skip))))
(.seq (.reg [o 16 (.mov (t 0)),
  o 17 (.call 0 (.fn 37) [(t 16)]),
  o 18 (.call 0 (.fn 41) [(t 17)]),
  o 19 (.mov (t 1)),
  o 20 (.call 0 (.fn 37) [(t 19)]),
  o 21 (.call 0 (.fn 41) [(t 20)]),
  o 5 (.alloc [(.int .i64 0), (.int .i64 0), (.int .i64 0), (.int .i64 0), (.int .i64 0)]),
  o 6 (.alloc [(.int .i64 0), (.int .i64 0), (.int .i64 0), (.int .i64 0), (.int .i64 0)]),
  e (.store 5 (t 5) (t 18)),
  e (.store 5 (t 6) (t 21))])
(.seq (.reg [o 22 (.mov (t 0)),
  o 23 (.call 0 (.fn 37) [(t 22)]),
  o 24 (.mov (t 1)),
  o 25 (.call 0 (.fn 37) [(t 24)]),
  o 26 (.append .tok 1 24 (t 23) (t 25)),
  o 27 (.call 0 (.fn 41) [(t 26)]),
  o 7 (.alloc [(.int .i64 0), (.int .i64 0), (.int .i64 0), (.int .i64 0), (.int .i64 0)]),
  e (.store 5 (t 7) (t 27))])
(.seq (.reg [o 28 (.load (some 5) (t 7)),
  o 29 (.fieldAddr 2 (t 5)),
  o 30 (.load none (t 29)),
  o 31 (.fieldAddr 2 (t 6)),
  o 32 (.load none (t 31)),
  o 33 (.bin .add (t 30) (t 32)),
  o 34 (.fieldAddr 3 (t 5)),
  o 35 (.load none (t 34)),
  o 36 (.fieldAddr 3 (t 6)),
  o 37 (.load none (t 36)),
  o 38 (.bin .add (t 35) (t 37)),
  o 39 (.fieldAddr 4 (t 5)),
  o 40 (.load none (t 39)),
  o 41 (.fieldAddr 4 (t 6)),
  o 42 (.load none (t 41)),
  o 43 (.minmax true (t 40) [(t 42)]),
  o 44 (.build [(.int .i64 0), (.int .i64 0), (.int .i64 0), (.int .i64 0), (.int .i64 0)] [(2, 1, (t 33)), (3, 1, (t 38)), (4, 1, (t 43))]),
  o 45 (.eqAgg [.int, .int, .int, .int, .int] false (t 28) (t 44)),
  o 4 (.mov (t 45))])
(.ret)))))), [.tmp 4]⟩
theorem ir10_tr : trF Tryd.prog ir10 Tryd.f10 = some ir10 := by kernel_rfl

-- grille/grillelaw10.alive
def ir11 : IF := ⟨46, .seq (.reg [o 0 (.mov (.cst (.bool false)))])
(.seq (.reg [o 5 (.lit .ro 1 [(.cst (.int .i64 0))]),
  o 6 (.build [(.int .i64 0), (.str []), (.str []), .nils] [(0, 1, (.cst (.int .i64 1))), (1, 1, (.cst (.str [115, 101, 113]))), (3, 1, (t 5))]),
  o 7 (.lit .ro 4 [(t 6)]),
  o 8 (.lit .ro 1 [(t 7)]),
  o 9 (.call 0 (.fn 13) [(t 8)]),
  o 4 (.mov (t 9)),
  o 10 (.extract 0 (t 4)),
  o 11 (.extract 1 (t 4)),
  o 1 (.mov (t 10)),
  o 2 (.mov (t 11))])
(.seq (.reg [o 12 (.build [(.int .i64 0), (.str []), (.str []), .nils] [(1, 1, (.cst (.str [115, 116, 114]))), (2, 1, (.cst (.str [53])))]),
  o 13 (.call 0 (.fn 21) [(t 12)]),
  o 3 (.alloc [(.int .i64 0), (.str []), (.str []), (.str []), (.bool false)]),
  e (.store 5 (t 3) (t 13))])
(.seq (.reg [o 14 (.mov (t 1)),
  o 15 (.len .row (t 14)),
  o 16 (.bin .eql (t 15) (.cst (.int .i64 5))),
  o 17 (.mov (t 16)),
  og 18 17 true (.mov (t 1)),
  og 19 17 true (.idxAddr 5 (t 18) (.cst (.int .i64 1))),
  og 20 17 true (.load (some 5) (t 19)),
  og 21 17 true (.build [(.int .i64 0), (.str []), (.str []), (.str []), (.bool false)] [(0, 1, (.cst (.int .i64 2))), (1, 1, (.cst (.str [97, 49])))]),
  og 22 17 true (.eqAgg [.int, .str, .str, .str, .bool] false (t 20) (t 21)),
  o 23 (.pick (t 17) (t 22) (.cst (.bool false))),
  o 24 (.mov (t 23)),
  og 25 24 true (.mov (t 1)),
  og 26 24 true (.idxAddr 5 (t 25) (.cst (.int .i64 2))),
  og 27 24 true (.load (some 5) (t 26)),
  og 28 24 true (.build [(.int .i64 0), (.str []), (.str []), (.str []), (.bool false)] [(0, 1, (.cst (.int .i64 7))), (1, 1, (.cst (.str [97, 49])))]),
  og 29 24 true (.eqAgg [.int, .str, .str, .str, .bool] false (t 27) (t 28)),
  o 30 (.pick (t 24) (t 29) (.cst (.bool false))),
  o 31 (.mov (t 30)),
  og 32 31 true (.mov (t 2)),
  og 33 31 true (.bin .eql (t 32) (.cst (.int .i64 0))),
  o 34 (.pick (t 31) (t 33) (.cst (.bool false))),
  o 35 (.mov (t 34)),
  og 36 35 true (.load (some 5) (t 3)),
  og 37 35 true (.build [(.int .i64 0), (.str []), (.str []), (.str []), (.bool false)] [(0, 1, (.cst (.int .i64 6))), (3, 1, (.cst (.str [53])))]),
  og 38 35 true (.eqAgg [.int, .str, .str, .str, .bool] false (t 36) (t 37)),
  o 39 (.pick (t 35) (t 38) (.cst (.bool false))),
  o 40 (.mov (t 39)),
  og 41 40 true (.build [(.int .i64 0), (.str []), (.str []), .nils] [(0, 1, (.cst (.int .i64 2))), (1, 1, (.cst (.str [109, 97, 112])))]),
  og 42 40 true (.lit .ro 4 [(t 41)]),
  og 43 40 true (.call 0 (.fn 19) [(t 42)]),
  og 44 40 true (.bin .eql (t 43) (.cst (.int .i64 1))),
  o 45 (.pick (t 40) (t 44) (.cst (.bool false))),
  o 0 (.mov (t 45))])
(.ret)))), [.tmp 0]⟩
theorem ir11_tr : trF Tryd.prog ir11 Tryd.f11 = some ir11 := by kernel_rfl

-- grille/grillelaw08.Heavy
def ir12 : IF := ⟨31, .seq (.reg [o 2 (.mov (.cst (.bool false)))])
(.seq (.seq (.reg [o 5 (.mov (t 0)),
  o 6 (.len .row (t 5)),
  o 7 (.mov (.cst (.int .i64 0)))])
(.block 0 (.loop [8, 9, 10, 4, 26, 11, 12, 13, 14, 15, 16, 17, 18, 19, 20, 21, 22, 23, 24, 25, 2, 27] (.seq (.reg [o 8 (.bin .lss (t 7) (t 6))])
  (.seq (.cond (t 8)
   (.skip)
   (.exit 0))
  (.seq (.block 1 (.seq (.reg [o 9 (.idxAddr 4 (t 5) (t 7)),
     o 10 (.load (some 4) (t 9)),
     o 4 (.alloc [(.int .i64 0), (.str []), (.str []), .nils]),
     e (.store 4 (t 4) (t 10))])
   (.seq (.reg [o 11 (.fieldAddr 3 (t 4)),
     o 12 (.load none (t 11)),
     o 13 (.len .row (t 12)),
     o 14 (.bin .gtr (t 13) (.cst (.int .i64 200))),
     o 15 (.mov (t 14)),
     og 16 15 false (.fieldAddr 2 (t 4)),
     og 17 15 false (.load none (t 16)),
     og 18 15 false (.len .str (t 17)),
     og 19 15 false (.bin .gtr (t 18) (.cst (.int .i64 2000))),
     o 20 (.pick (t 15) (.cst (.bool true)) (t 19)),
     o 21 (.mov (t 20)),
     og 22 21 false (.fieldAddr 1 (t 4)),
     og 23 21 false (.load none (t 22)),
     og 24 21 false (.len .str (t 23)),
     og 25 21 false (.bin .gtr (t 24) (.cst (.int .i64 2000))),
     o 26 (.pick (t 21) (.cst (.bool true)) (t 25))])
   (.gh [.kill [11, 12, 13, 14, 15, 16, 17, 18, 19, 20, 21, 22, 23, 24, 25]] (.cond (t 26)
    (.seq (.reg [o 2 (.mov (.cst (.bool true)))])
    (.ret))
    (.skip))))))
  (.reg [o 27 (.bin .add (t 7) (.cst (.int .i64 1))),
    o 7 (.mov (t 27))])))))))
(.seq (.reg [o 28 (.mov (t 0)),
  o 29 (.len .row (t 28)),
  o 30 (.bin .gtr (t 29) (.cst (.int .i64 120))),
  o 2 (.mov (t 30))])
(.ret))), [.tmp 2]⟩
theorem ir12_tr : trF Tryd.prog ir12 Tryd.f12 = some ir12 := by kernel_rfl

-- grille/flatten.Events
def ir13 : IF := ⟨46, .seq (.reg [o 2 (.mov (.cst .nils)),
  o 3 (.mov (.cst (.int .i64 0)))])
(.seq (.seq (.reg [o 9 (.mov (t 0)),
  o 10 (.len .row (t 9)),
  o 11 (.mov (.cst (.int .i64 0)))])
(.block 0 (.loop [12, 13, 14, 5, 15, 16, 17, 3, 18] (.seq (.reg [o 12 (.bin .lss (t 11) (t 10))])
  (.seq (.cond (t 12)
   (.skip)
   (.exit 0))
  (.seq (.block 1 (.seq (.reg [o 13 (.idxAddr 1 (t 9) (t 11)),
     o 14 (.load none (t 13)),
     o 5 (.mov (t 14))])
   (.seq (.reg [o 15 (.mov (t 5)),
     o 16 (.call 0 (.fn 20) [(t 15)]),
     o 17 (.not (t 16))])
   (.cond (t 17)
    (.seq (.reg [o 2 (.mov (.cst .nils)),
      o 3 (.mov (.cst (.int .i64 5)))])
    (.ret))
    (.skip)))))
  (.reg [o 18 (.bin .add (t 11) (.cst (.int .i64 1))),
    o 11 (.mov (t 18))])))))))
(.seq (.seq (.reg [o 19 (.mov (t 0)),
  o 20 (.len .row (t 19)),
  o 21 (.mov (.cst (.int .i64 0)))])
(.block 2 (.loop [22, 23, 24, 7, 25, 26, 8, 27, 28, 29, 30, 31, 3, 32, 33, 34, 35, 36, 37, 38, 39, 40, 41, 42, 43, 44] (.seq (.reg [o 22 (.bin .lss (t 21) (t 20))])
  (.seq (.cond (t 22)
   (.skip)
   (.exit 2))
  (.seq (.block 3 (.seq (.reg [o 23 (.idxAddr 1 (t 19) (t 21)),
     o 24 (.load none (t 23)),
     o 7 (.mov (t 24))])
   (.seq (.reg [o 25 (.mov (t 7)),
     o 26 (.call 0 (.fn 42) [(t 25)]),
     o 8 (.mov (t 26))])
   (.seq (.seq (.reg [o 27 (.mov (t 8)),
     o 28 (.nilck (t 27)),
     o 29 (.fieldAddr 5 (t 28)),
     o 30 (.load none (t 29)),
     o 31 (.bin .gtr (t 30) (.cst (.int .i64 40)))])
   (.cond (t 31)
    (.seq (.reg [o 2 (.mov (.cst .nils)),
      o 3 (.mov (.cst (.int .i64 13)))])
    (.ret))
    (.skip)))
   (.dreg [o 32 (.mov (t 2)),
     o 33 (.build [(.int .i64 0), (.str []), (.str []), (.str []), (.bool false)] [(0, 1, (.cst (.int .i64 0)))]),
     o 34 (.lit .ro 5 [(t 33)]),
     o 35 (.append .tok 5 64 (t 32) (t 34)),
     o 36 (.mov (t 8)),
     o 37 (.nilck (t 36)),
     o 38 (.fieldAddr 1 (t 37)),
     o 39 (.load none (t 38)),
     o 40 (.append .tok 5 64 (t 35) (t 39)),
     o 41 (.build [(.int .i64 0), (.str []), (.str []), (.str []), (.bool false)] [(0, 1, (.cst (.int .i64 1)))]),
     o 42 (.lit .ro 5 [(t 41)]),
     o 43 (.append .tok 5 64 (t 40) (t 42)),
     o 2 (.mov (t 43))] [[], [], [1], [0, 1, 2], [], [4], [4, 5], [4, 5, 6], [0, 1, 2, 3, 4, 5, 6, 7], [], [9], [0, 1, 2, 3, 4, 5, 6, 7, 8, 9, 10], [0, 1, 2, 3, 4, 5, 6, 7, 8, 9, 10, 11]])))))
  (.reg [o 44 (.bin .add (t 21) (.cst (.int .i64 1))),
    o 21 (.mov (t 44))])))))))
(.seq (.reg [o 45 (.mov (t 2)),
  o 2 (.mov (t 45)),
  o 3 (.mov (.cst (.int .i64 0)))])
(.ret)))), [.tmp 2, .tmp 3]⟩
theorem ir13_tr : trF Tryd.prog ir13 Tryd.f13 = some ir13 := by kernel_rfl

-- grille/grillelaw08.Theirs
def ir14 : IF := ⟨27, .seq (.reg [o 2 (.mov (.cst .nils))])
(.seq (.reg [o 3 (.mov (.cst .nils))])
(.seq (.seq (.reg [o 6 (.mov (t 0)),
  o 7 (.len .row (t 6)),
  o 8 (.mov (.cst (.int .i64 0)))])
(.block 0 (.loop [9, 10, 11, 5, 12, 13, 14, 15, 16, 17, 18, 19, 20, 21, 22, 23, 24, 25] (.seq (.reg [o 9 (.bin .lss (t 8) (t 7))])
  (.seq (.cond (t 9)
   (.skip)
   (.exit 0))
  (.seq (.block 1 (.seq (.reg [o 10 (.idxAddr 4 (t 6) (t 8)),
     o 11 (.load (some 4) (t 10)),
     o 5 (.alloc [(.int .i64 0), (.str []), (.str []), .nils]),
     e (.store 4 (t 5) (t 11))])
   (.dreg [o 12 (.mov (t 3)),
     o 13 (.fieldAddr 0 (t 5)),
     o 14 (.load none (t 13)),
     o 15 (.fieldAddr 1 (t 5)),
     o 16 (.load none (t 15)),
     o 17 (.fieldAddr 2 (t 5)),
     o 18 (.load none (t 17)),
     o 19 (.fieldAddr 3 (t 5)),
     o 20 (.load none (t 19)),
     o 21 (.call 0 (.fn 43) [(t 20)]),
     o 22 (.build [(.int .i64 0), (.str []), (.str []), .nils] [(0, 1, (t 14)), (1, 1, (t 16)), (2, 1, (t 18)), (3, 1, (t 21))]),
     o 23 (.lit .ro 4 [(t 22)]),
     o 24 (.append .tok 4 64 (t 12) (t 23)),
     o 3 (.mov (t 24))] [[], [], [1], [], [3], [], [5], [], [7], [7, 8], [1, 2, 3, 4, 5, 6, 7, 8, 9], [1, 2, 3, 4, 5, 6, 7, 8, 9, 10], [0, 1, 2, 3, 4, 5, 6, 7, 8, 9, 10, 11], [0, 1, 2, 3, 4, 5, 6, 7, 8, 9, 10, 11, 12]])))
  (.reg [o 25 (.bin .add (t 8) (.cst (.int .i64 1))),
    o 8 (.mov (t 25))])))))))
(.seq (.reg [o 26 (.mov (t 3)),
  o 2 (.mov (t 26))])
(.ret)))), [.tmp 2]⟩
theorem ir14_tr : trF Tryd.prog ir14 Tryd.f14 = some ir14 := by kernel_rfl

-- grille/grillelaw08.Theirs
def ir14v1 : IF := ⟨27, .seq (.reg [o 2 (.mov (.cst .nils))])
(.seq (.reg [o 3 (.mov (.cst .nils))])
(.seq (.seq (.reg [o 6 (.mov (t 0)),
  o 7 (.len .row (t 6)),
  o 8 (.mov (.cst (.int .i64 0)))])
(.block 0 (.loop [9, 10, 11, 5, 12, 13, 14, 15, 16, 17, 18, 19, 20, 21, 22, 23, 24, 25] (.seq (.reg [o 9 (.bin .lss (t 8) (t 7))])
  (.seq (.cond (t 9)
   (.skip)
   (.exit 0))
  (.seq (.block 1 (.seq (.reg [o 10 (.idxAddr 4 (t 6) (t 8)),
     o 11 (.load (some 4) (t 10)),
     o 5 (.alloc [(.int .i64 0), (.str []), (.str []), .nils]),
     e (.store 4 (t 5) (t 11))])
   (.dreg [o 12 (.mov (t 3)),
     o 13 (.fieldAddr 0 (t 5)),
     o 14 (.load none (t 13)),
     o 15 (.fieldAddr 1 (t 5)),
     o 16 (.load none (t 15)),
     o 17 (.fieldAddr 2 (t 5)),
     o 18 (.load none (t 17)),
     o 19 (.fieldAddr 3 (t 5)),
     o 20 (.load none (t 19)),
     o 21 (.call 0 (.fn 43) [(t 20)]),
     o 22 (.build [(.int .i64 0), (.str []), (.str []), .nils] [(0, 1, (t 14)), (1, 1, (t 16)), (2, 1, (t 18)), (3, 1, (t 21))]),
     o 23 (.lit .ro 4 [(t 22)]),
     o 24 (.append .ref 4 64 (t 12) (t 23)),
     o 3 (.mov (t 24))] [[], [], [1], [], [3], [], [5], [], [7], [7, 8], [1, 2, 3, 4, 5, 6, 7, 8, 9], [1, 2, 3, 4, 5, 6, 7, 8, 9, 10], [0, 1, 2, 3, 4, 5, 6, 7, 8, 9, 10, 11], [0, 1, 2, 3, 4, 5, 6, 7, 8, 9, 10, 11, 12]])))
  (.reg [o 25 (.bin .add (t 8) (.cst (.int .i64 1))),
    o 8 (.mov (t 25))])))))))
(.seq (.reg [o 26 (.mov (t 3)),
  o 2 (.mov (t 26))])
(.ret)))), [.tmp 2]⟩
theorem ir14v1_tr : trF Tryd.prog ir14v1 Tryd.f14 = some ir14v1 := by kernel_rfl

-- grille/grillelaw10.name
def ir15 : IF := ⟨17, .seq (.reg [o 2 (.mov (.cst (.str [])))])
(.seq (.reg [o 3 (.mov (.cst (.str [])))])
(.seq (.block 0 (.loop [4, 5, 6, 7, 8, 9, 10, 11, 12, 13, 14] (.seq (.seq (.reg [o 4 (.mov (t 0)),
    o 5 (.bin .gtr (t 4) (.cst (.int .i64 0)))])
  (.cond (t 5)
   (.skip)
   (.exit 0)))
  (.block 1 (.seq (.reg [o 6 (.mov (t 0)),
     o 7 (.bin .rem (t 6) (.cst (.int .i64 10))),
     o 8 (.bin .add (.cst (.int .i64 48)) (t 7)),
     o 9 (.cvInt .i32 (t 8)),
     o 10 (.cvRune (t 9)),
     o 11 (.mov (t 3)),
     o 12 (.bin .add (t 10) (t 11)),
     o 3 (.mov (t 12))])
   (.reg [o 13 (.mov (t 0)),
     o 14 (.bin .quo (t 13) (.cst (.int .i64 10))),
     o 0 (.mov (t 14))]))))))
(.seq (.reg [o 15 (.mov (t 3)),
  o 16 (.bin .add (.cst (.str [97])) (t 15)),
  o 2 (.mov (t 16))])
(.ret)))), [.tmp 2]⟩
theorem ir15_tr : trF Tryd.prog ir15 Tryd.f15 = some ir15 := by kernel_rfl

-- grille/arena.Normal
def ir16 : IF := ⟨67, .seq (.reg [o 2 (.mov (.cst .nils))])
(.seq (.reg [o 13 (.mov (t 0)),
  o 14 (.call 0 (.fn 44) [(t 13)]),
  o 3 (.mov (t 14))])
(.seq (.reg [o 15 (.mov (t 0)),
  o 16 (.len .row (t 15)),
  o 17 (.make .ref 1 8 [(.int .i64 0)] (t 16) (t 16)),
  o 4 (.mov (t 17))])
(.seq (.seq (.reg [o 18 (.mov (t 3)),
  o 19 (.len .row (t 18)),
  o 20 (.mov (.cst (.int .i64 0)))])
(.block 0 (.loop [21, 22, 23, 24, 5, 6, 25, 26, 27, 28, 29] (.seq (.reg [o 21 (.bin .lss (t 20) (t 19))])
  (.seq (.cond (t 21)
   (.skip)
   (.exit 0))
  (.seq (.block 1 (.seq (.reg [o 22 (.mov (t 20)),
     o 23 (.idxAddr 1 (t 18) (t 20)),
     o 24 (.load none (t 23)),
     o 5 (.mov (t 22)),
     o 6 (.mov (t 24))])
   (.reg [o 25 (.mov (t 4)),
     o 26 (.mov (t 6)),
     o 27 (.mov (t 5)),
     o 28 (.idxAddr 1 (t 25) (t 26)),
     e (.store 1 (t 28) (t 27))])))
  (.reg [o 29 (.bin .add (t 20) (.cst (.int .i64 1))),
    o 20 (.mov (t 29))])))))))
(.seq (.reg [o 7 (.mov (.cst .nils))])
(.seq (.seq (.reg [o 30 (.mov (t 3)),
  o 31 (.len .row (t 30)),
  o 32 (.mov (.cst (.int .i64 0)))])
(.block 2 (.loop [33, 34, 35, 9, 36, 37, 38, 39, 10, 40, 41, 42, 43, 44, 45, 46, 48, 49, 50, 51, 11, 12, 52, 53, 54, 55, 56, 57, 58, 59, 60, 47, 61, 62, 63, 64, 65] (.seq (.reg [o 33 (.bin .lss (t 32) (t 31))])
  (.seq (.cond (t 33)
   (.skip)
   (.exit 2))
  (.seq (.block 3 (.seq (.reg [o 34 (.idxAddr 1 (t 30) (t 32)),
     o 35 (.load none (t 34)),
     o 9 (.mov (t 35))])
   (.seq (.reg [o 36 (.mov (t 0)),
     o 37 (.mov (t 9)),
     o 38 (.idxAddr 4 (t 36) (t 37)),
     o 39 (.load (some 4) (t 38)),
     o 10 (.alloc [(.int .i64 0), (.str []), (.str []), .nils]),
     e (.store 4 (t 10) (t 39))])
   (.seq (.reg [o 40 (.fieldAddr 3 (t 10)),
     o 41 (.load none (t 40)),
     o 42 (.call 1 (.fn 43) [(t 41)]),
     o 43 (.fieldAddr 3 (t 10)),
     e (.store 1 (t 43) (t 42))])
   (.seq (.seq (.reg [o 44 (.fieldAddr 3 (t 10)),
     o 45 (.load none (t 44)),
     o 46 (.len .row (t 45)),
     o 47 (.mov (.cst (.int .i64 0)))])
   (.block 4 (.loop [48, 49, 50, 51, 11, 12, 52, 53, 54, 55, 56, 57, 58, 59, 60] (.seq (.reg [o 48 (.bin .lss (t 47) (t 46))])
     (.seq (.cond (t 48)
      (.skip)
      (.exit 4))
     (.seq (.block 5 (.seq (.reg [o 49 (.mov (t 47)),
        o 50 (.idxAddr 1 (t 45) (t 47)),
        o 51 (.load none (t 50)),
        o 11 (.mov (t 49)),
        o 12 (.mov (t 51))])
      (.dreg [o 52 (.fieldAddr 3 (t 10)),
        o 53 (.load none (t 52)),
        o 54 (.mov (t 11)),
        o 55 (.mov (t 4)),
        o 56 (.mov (t 12)),
        o 57 (.idxAddr 1 (t 55) (t 56)),
        o 58 (.load none (t 57)),
        o 59 (.idxAddr 1 (t 53) (t 54)),
        e (.store 1 (t 59) (t 58))] [[], [0], [], [], [], [3, 4], [3, 4, 5], [0, 1, 2, 3, 4, 5, 6], [0, 1, 2, 3, 4, 5, 6, 7]])))
     (.reg [o 60 (.bin .add (t 47) (.cst (.int .i64 1))),
       o 47 (.mov (t 60))])))))))
   (.gh [.sealC 10 3] (.reg [o 61 (.mov (t 7)),
     o 62 (.load (some 4) (t 10)),
     o 63 (.lit .ro 4 [(t 62)]),
     o 64 (.append .tok 4 64 (t 61) (t 63)),
     o 7 (.mov (t 64))])))))))
  (.reg [o 65 (.bin .add (t 32) (.cst (.int .i64 1))),
    o 32 (.mov (t 65))])))))))
(.seq (.reg [o 66 (.mov (t 7)),
  o 2 (.mov (t 66))])
(.ret))))))), [.tmp 2]⟩
theorem ir16_tr : trF Tryd.prog ir16 Tryd.f16 = some ir16 := by kernel_rfl

-- grille/event.Nodes
def ir17 : IF := ⟨22, .seq (.reg [o 2 (.mov (.cst (.int .i64 0)))])
(.seq (.seq (.reg [o 5 (.mov (t 0)),
  o 6 (.len .row (t 5)),
  o 7 (.mov (.cst (.int .i64 0)))])
(.block 0 (.loop [8, 9, 10, 4, 17, 11, 12, 13, 14, 15, 16, 18, 19, 20] (.seq (.reg [o 8 (.bin .lss (t 7) (t 6))])
  (.seq (.cond (t 8)
   (.skip)
   (.exit 0))
  (.seq (.block 1 (.seq (.reg [o 9 (.idxAddr 5 (t 5) (t 7)),
     o 10 (.load (some 5) (t 9)),
     o 4 (.alloc [(.int .i64 0), (.str []), (.str []), (.str []), (.bool false)]),
     e (.store 5 (t 4) (t 10))])
   (.seq (.reg [o 11 (.load (some 5) (t 4)),
     o 12 (.call 0 (.fn 45) [(t 11)]),
     o 13 (.mov (t 12)),
     og 14 13 false (.fieldAddr 0 (t 4)),
     og 15 13 false (.load none (t 14)),
     og 16 13 false (.bin .eql (t 15) (.cst (.int .i64 7))),
     o 17 (.pick (t 13) (.cst (.bool true)) (t 16))])
   (.gh [.kill [11, 12, 13, 14, 15, 16]] (.cond (t 17)
    (.reg [o 18 (.mov (t 2)),
      o 19 (.bin .add (t 18) (.cst (.int .i64 1))),
      o 2 (.mov (t 19))])
    (.skip))))))
  (.gh [.kill [9, 10, 4, 17, 11, 12, 13, 14, 15, 16, 18, 19]] (.reg [o 20 (.bin .add (t 7) (.cst (.int .i64 1))),
    o 7 (.mov (t 20))]))))))))
(.seq (.reg [o 21 (.mov (t 2)),
  o 2 (.mov (t 21))])
(.ret))), [.tmp 2]⟩
theorem ir17_tr : trF Tryd.prog ir17 Tryd.f17 = some ir17 := by kernel_rfl

-- grille/event.Depth
def ir18 : IF := ⟨29, .seq (.reg [o 2 (.mov (.cst (.int .i64 0)))])
(.seq (.reg [o 3 (.mov (.cst (.int .i64 0)))])
(.seq (.seq (.reg [o 6 (.mov (t 0)),
  o 7 (.len .row (t 6)),
  o 8 (.mov (.cst (.int .i64 0)))])
(.block 0 (.loop [9, 10, 11, 5, 12, 13, 14, 15, 16, 17, 18, 19, 20, 21, 22, 23, 24, 25, 26, 27] (.seq (.reg [o 9 (.bin .lss (t 8) (t 7))])
  (.seq (.cond (t 9)
   (.skip)
   (.exit 0))
  (.seq (.block 1 (.seq (.reg [o 10 (.idxAddr 5 (t 6) (t 8)),
     o 11 (.load (some 5) (t 10)),
     o 5 (.alloc [(.int .i64 0), (.str []), (.str []), (.str []), (.bool false)]),
     e (.store 5 (t 5) (t 11))])
   (.seq (.seq (.reg [o 12 (.fieldAddr 0 (t 5)),
     o 13 (.load none (t 12))])
   (.block 2 (.seq (.seq (.reg [o 15 (.bin .eql (t 13) (.cst (.int .i64 2))),
      o 14 (.mov (t 15))])
    (.cond (t 14)
     (.skip)
     (.reg [o 16 (.bin .eql (t 13) (.cst (.int .i64 4))),
       o 14 (.mov (t 16))])))
    (.gh [.kill [15, 16]] (.cond (t 14)
     (.reg [o 17 (.mov (t 3)),
       o 18 (.bin .add (t 17) (.cst (.int .i64 1))),
       o 3 (.mov (t 18))])
     (.seq (.seq (.reg [o 20 (.bin .eql (t 13) (.cst (.int .i64 3))),
       o 19 (.mov (t 20))])
     (.cond (t 19)
      (.skip)
      (.reg [o 21 (.bin .eql (t 13) (.cst (.int .i64 5))),
        o 19 (.mov (t 21))])))
     (.gh [.kill [20, 21]] (.cond (t 19)
      (.reg [o 22 (.mov (t 3)),
        o 23 (.bin .sub (t 22) (.cst (.int .i64 1))),
        o 3 (.mov (t 23))])
      (.skip)))))))))
   (.gh [.kill [12, 13, 14, 15, 16, 17, 18, 19, 20, 21, 22, 23]] (.reg [o 24 (.mov (t 2)),
     o 25 (.mov (t 3)),
     o 26 (.minmax true (t 24) [(t 25)]),
     o 2 (.mov (t 26))])))))
  (.reg [o 27 (.bin .add (t 8) (.cst (.int .i64 1))),
    o 8 (.mov (t 27))])))))))
(.seq (.reg [o 28 (.mov (t 2)),
  o 2 (.mov (t 28))])
(.ret)))), [.tmp 2]⟩
theorem ir18_tr : trF Tryd.prog ir18 Tryd.f18 = some ir18 := by kernel_rfl

-- grille/flatten.Deep
def ir19 : IF := ⟨11, .seq (.reg [o 2 (.mov (.cst (.int .i64 0)))])
(.seq (.seq (.reg [o 3 (.mov (t 0)),
  o 4 (.call 0 (.fn 20) [(t 3)]),
  o 5 (.not (t 4))])
(.cond (t 5)
 (.seq (.reg [o 2 (.mov (.cst (.int .i64 0)))])
 (.ret))
 (.skip)))
(.seq (.reg [o 6 (.mov (t 0)),
  o 7 (.call 0 (.fn 42) [(t 6)]),
  o 8 (.nilck (t 7)),
  o 9 (.fieldAddr 5 (t 8)),
  o 10 (.load none (t 9)),
  o 2 (.mov (t 10))])
(.ret))), [.tmp 2]⟩
theorem ir19_tr : trF Tryd.prog ir19 Tryd.f19 = some ir19 := by kernel_rfl

-- grille/arena.Right
def ir20 : IF := ⟨22, .seq (.reg [o 1 (.box (t 0)),
  o 2 (.mov (.cst (.bool false)))])
(.seq (.seq (.reg [o 4 (.load none (t 1)),
  o 5 (.len .row (t 4)),
  o 6 (.bin .lss (t 5) (.cst (.int .i64 1))),
  o 7 (.mov (t 6)),
  og 8 7 false (.load none (t 1)),
  og 9 7 false (.len .row (t 8)),
  og 10 7 false (.bin .gtr (t 9) (.cst (.int .i64 2000))),
  o 11 (.pick (t 7) (.cst (.bool true)) (t 10))])
(.gh [.kill [4, 5, 6, 7, 8, 9, 10]] (.cond (t 11)
 (.seq (.reg [o 2 (.mov (.cst (.bool false)))])
 (.ret))
 (.skip))))
(.seq (.reg [o 12 (.mkFn (.func 46) [] [(t 1)]),
  o 3 (.mov (t 12))])
(.seq (.reg [o 13 (.load none (t 1)),
  o 14 (.mov (t 3)),
  o 15 (.call 0 (.fn 48) [(t 13), (t 14)]),
  o 16 (.not (t 15)),
  o 17 (.mov (t 16)),
  og 18 17 true (.load none (t 1)),
  og 19 17 true (.call 0 (.fn 49) [(t 18)]),
  og 20 17 true (.not (t 19)),
  o 21 (.pick (t 17) (t 20) (.cst (.bool false))),
  o 2 (.mov (t 21))])
(.ret)))), [.tmp 2]⟩
theorem ir20_tr : trF Tryd.prog ir20 Tryd.f20 = some ir20 := by kernel_rfl

-- grille/flatten.Event
def ir21 : IF := ⟨41, .seq (.reg [o 1 (.box (t 0)),
  o 2 (.alloc [(.int .i64 0), (.str []), (.str []), (.str []), (.bool false)])])
(.seq (.seq (.reg [o 4 (.fieldAddr 0 (t 1)),
  o 5 (.load none (t 4))])
(.block 0 (.seq (.reg [o 7 (.bin .eql (t 5) (.cst (.int .i64 1))),
   o 6 (.mov (t 7))])
 (.cond (t 6)
  (.seq (.reg [o 8 (.fieldAddr 1 (t 1)),
    o 9 (.load none (t 8)),
    o 10 (.call 0 (.fn 50) [(t 9), (.cst (.str [115, 101, 113]))]),
    o 11 (.build [(.int .i64 0), (.str []), (.str []), (.str []), (.bool false)] [(0, 1, (.cst (.int .i64 2))), (2, 1, (t 10))]),
    e (.store 5 (t 2) (t 11))])
  (.ret))
  (.seq (.reg [o 13 (.bin .eql (t 5) (.cst (.int .i64 2))),
    o 12 (.mov (t 13))])
  (.cond (t 12)
   (.seq (.reg [o 14 (.fieldAddr 1 (t 1)),
     o 15 (.load none (t 14)),
     o 16 (.call 0 (.fn 50) [(t 15), (.cst (.str [109, 97, 112]))]),
     o 17 (.build [(.int .i64 0), (.str []), (.str []), (.str []), (.bool false)] [(0, 1, (.cst (.int .i64 4))), (2, 1, (t 16))]),
     e (.store 5 (t 2) (t 17))])
   (.ret))
   (.seq (.reg [o 19 (.bin .eql (t 5) (.cst (.int .i64 0))),
     o 18 (.mov (t 19))])
   (.cond (t 18)
    (.seq (.dreg [o 20 (.fieldAddr 1 (t 1)),
      o 21 (.load none (t 20)),
      o 22 (.call 0 (.fn 50) [(t 21), (.cst (.str [115, 116, 114]))]),
      o 23 (.fieldAddr 2 (t 1)),
      o 24 (.load none (t 23)),
      o 25 (.build [(.int .i64 0), (.str []), (.str []), (.str []), (.bool false)] [(0, 1, (.cst (.int .i64 6))), (2, 1, (t 22)), (3, 1, (t 24))]),
      o 3 (.alloc [(.int .i64 0), (.str []), (.str []), (.str []), (.bool false)]),
      e (.store 5 (t 3) (t 25))] [[], [0], [0, 1], [], [3], [0, 1, 2, 3, 4], [], [6, 0, 1, 2, 3, 4, 5]])
    (.seq (.seq (.dreg [o 26 (.fieldAddr 2 (t 1)),
      o 27 (.load none (t 26)),
      o 28 (.call 0 (.fn 51) [(t 27)]),
      o 29 (.mov (t 28)),
      og 30 29 true (.fieldAddr 2 (t 1)),
      og 31 29 true (.load none (t 30)),
      og 32 29 true (.call 0 (.fn 52) [(t 31)]),
      og 33 29 true (.fieldAddr 1 (t 1)),
      og 34 29 true (.load none (t 33)),
      og 35 29 true (.bin .eql (t 32) (t 34)),
      o 36 (.pick (t 29) (t 35) (.cst (.bool false)))] [[], [0], [0, 1], [0, 1, 2], [0, 1, 2, 3], [0, 1, 2, 3, 4], [0, 1, 2, 3, 4, 5], [0, 1, 2, 3], [0, 1, 2, 3, 7], [0, 1, 2, 3, 4, 5, 6, 7, 8], [0, 1, 2, 3, 4, 5, 6, 7, 8, 9]])
    (.gh [.kill [26, 27, 28, 29, 30, 31, 32, 33, 34, 35]] (.cond (t 36)
     (.reg [o 37 (.fieldAddr 2 (t 3)),
       e (.store 1 (t 37) (.cst (.str []))),
       o 38 (.fieldAddr 4 (t 3)),
       e (.store 1 (t 38) (.cst (.bool true)))])
     (.skip))))
    (.gh [.kill [36, 26, 27, 28, 29, 30, 31, 32, 33, 34, 35, 37, 38]] (.seq (.reg [o 39 (.load (some 5) (t 3)),
      e (.store 5 (t 2) (t 39))])
    (.ret)))))
    (.skip)))))))))
(.seq (.reg [o 40 (.build [(.int .i64 0), (.str []), (.str []), (.str []), (.bool false)] []),
  e (.store 5 (t 2) (t 40))])
(.ret))), [.cell 2 (some 5)]⟩
theorem ir21_tr : trF Tryd.prog ir21 Tryd.f21 = some ir21 := by kernel_rfl

-- grille/compose.Tag
def ir22 : IF := ⟨45, .seq (.reg [o 1 (.box (t 0)),
  o 2 (.mov (.cst (.str []))),
  o 3 (.mov (.cst (.int .i64 0)))])
(.seq (.seq (.reg [o 4 (.fieldAddr 0 (t 1)),
  o 5 (.load none (t 4))])
(.block 0 (.seq (.reg [o 7 (.bin .eql (t 5) (.cst (.int .i64 2))),
   o 6 (.mov (t 7))])
 (.cond (t 6)
  (.seq (.reg [o 8 (.fieldAddr 2 (t 1)),
    o 9 (.load none (t 8)),
    o 10 (.call 0 (.fn 53) [(t 9), (.cst (.str [115, 101, 113]))]),
    o 11 (.extract 0 (t 10)),
    o 12 (.extract 1 (t 10)),
    o 2 (.mov (t 11)),
    o 3 (.mov (t 12))])
  (.ret))
  (.seq (.reg [o 14 (.bin .eql (t 5) (.cst (.int .i64 4))),
    o 13 (.mov (t 14))])
  (.cond (t 13)
   (.seq (.reg [o 15 (.fieldAddr 2 (t 1)),
     o 16 (.load none (t 15)),
     o 17 (.call 0 (.fn 53) [(t 16), (.cst (.str [109, 97, 112]))]),
     o 18 (.extract 0 (t 17)),
     o 19 (.extract 1 (t 17)),
     o 2 (.mov (t 18)),
     o 3 (.mov (t 19))])
   (.ret))
   (.seq (.reg [o 21 (.bin .eql (t 5) (.cst (.int .i64 6))),
     o 20 (.mov (t 21))])
   (.cond (t 20)
    (.seq (.block 1 (.seq (.reg [o 23 (.fieldAddr 2 (t 1)),
       o 24 (.load none (t 23)),
       o 25 (.bin .eql (t 24) (.cst (.str []))),
       o 26 (.mov (t 25)),
       og 27 26 true (.fieldAddr 4 (t 1)),
       og 28 26 true (.load none (t 27)),
       o 29 (.pick (t 26) (t 28) (.cst (.bool false))),
       o 22 (.mov (t 29))])
     (.gh [.kill [23, 24, 25, 26, 27, 28, 29]] (.cond (t 22)
      (.seq (.reg [o 30 (.fieldAddr 3 (t 1)),
        o 31 (.load none (t 30)),
        o 32 (.call 0 (.fn 52) [(t 31)]),
        o 2 (.mov (t 32)),
        o 3 (.mov (.cst (.int .i64 0)))])
      (.ret))
      (.seq (.reg [o 34 (.fieldAddr 2 (t 1)),
        o 35 (.load none (t 34)),
        o 36 (.bin .eql (t 35) (.cst (.str []))),
        o 33 (.mov (t 36))])
      (.cond (t 33)
       (.seq (.reg [o 2 (.mov (.cst (.str [115, 116, 114]))),
         o 3 (.mov (.cst (.int .i64 0)))])
       (.ret))
       (.seq (.reg [o 38 (.fieldAddr 2 (t 1)),
         o 39 (.load none (t 38)),
         o 40 (.fieldAddr 3 (t 1)),
         o 41 (.load none (t 40)),
         o 42 (.call 0 (.fn 54) [(t 39), (t 41)]),
         o 37 (.mov (t 42))])
       (.cond (t 37)
        (.seq (.reg [o 43 (.fieldAddr 2 (t 1)),
          o 44 (.load none (t 43)),
          o 2 (.mov (t 44)),
          o 3 (.mov (.cst (.int .i64 0)))])
        (.ret))
        (.skip)))))))))
    (.seq (.reg [o 2 (.mov (.cst (.str []))),
      o 3 (.mov (.cst (.int .i64 14)))])
    (.ret)))
    (.skip)))))))))
(.seq (.reg [o 2 (.mov (.cst (.str []))),
  o 3 (.mov (.cst (.int .i64 5)))])
(.ret))), [.tmp 2, .tmp 3]⟩
theorem ir22_tr : trF Tryd.prog ir22 Tryd.f22 = some ir22 := by kernel_rfl

-- grille/grilleref06.Same
def ir23 : IF := ⟨26, .seq (.reg [o 4 (.mov (.cst (.bool false)))])
(.seq (.seq (.reg [o 6 (.mov (t 0)),
  o 7 (.len .row (t 6)),
  o 8 (.mov (t 1)),
  o 9 (.len .row (t 8)),
  o 10 (.bin .neq (t 7) (t 9))])
(.cond (t 10)
 (.seq (.reg [o 4 (.mov (.cst (.bool false)))])
 (.ret))
 (.skip)))
(.seq (.seq (.reg [o 5 (.mov (.cst (.int .i64 0)))])
(.block 0 (.loop [11, 12, 13, 14, 17, 18, 19, 20, 21, 22, 23, 24, 25, 4, 15, 16] (.seq (.seq (.reg [o 11 (.mov (t 5)),
    o 12 (.mov (t 0)),
    o 13 (.len .row (t 12)),
    o 14 (.bin .lss (t 11) (t 13))])
  (.cond (t 14)
   (.skip)
   (.exit 0)))
  (.seq (.block 1 (.seq (.dreg [o 17 (.mov (t 0)),
     o 18 (.mov (t 5)),
     o 19 (.idxAddr 5 (t 17) (t 18)),
     o 20 (.load (some 5) (t 19)),
     o 21 (.mov (t 1)),
     o 22 (.mov (t 5)),
     o 23 (.idxAddr 5 (t 21) (t 22)),
     o 24 (.load (some 5) (t 23)),
     o 25 (.eqAgg [.int, .str, .str, .str, .bool] true (t 20) (t 24))] [[], [], [0, 1], [0, 1, 2], [], [], [4, 5], [4, 5, 6], [0, 1, 2, 3, 4, 5, 6, 7]])
   (.cond (t 25)
    (.seq (.reg [o 4 (.mov (.cst (.bool false)))])
    (.ret))
    (.skip))))
  (.reg [o 15 (.mov (t 5)),
    o 16 (.bin .add (t 15) (.cst (.int .i64 1))),
    o 5 (.mov (t 16))]))))))
(.seq (.reg [o 4 (.mov (.cst (.bool true)))])
(.ret)))), [.tmp 4]⟩
theorem ir23_tr : trF Tryd.prog ir23 Tryd.f23 = some ir23 := by kernel_rfl

-- grille/grillelaw06.Ours
def ir24 : IF := ⟨18, .seq (.reg [o 2 (.mov (.cst .nils))])
(.seq (.reg [o 3 (.mov (.cst .nils))])
(.seq (.seq (.reg [o 6 (.mov (t 0)),
  o 7 (.len .row (t 6)),
  o 8 (.mov (.cst (.int .i64 0)))])
(.block 0 (.loop [9, 10, 11, 5, 12, 13, 14, 15, 16] (.seq (.reg [o 9 (.bin .lss (t 8) (t 7))])
  (.seq (.cond (t 9)
   (.skip)
   (.exit 0))
  (.seq (.block 1 (.seq (.reg [o 10 (.idxAddr 5 (t 6) (t 8)),
     o 11 (.load (some 5) (t 10)),
     o 5 (.alloc [(.int .i64 0), (.str []), (.str []), (.str []), (.bool false)]),
     e (.store 5 (t 5) (t 11))])
   (.reg [o 12 (.mov (t 3)),
     o 13 (.load (some 5) (t 5)),
     o 14 (.lit .ro 5 [(t 13)]),
     o 15 (.append .tok 5 64 (t 12) (t 14)),
     o 3 (.mov (t 15))])))
  (.reg [o 16 (.bin .add (t 8) (.cst (.int .i64 1))),
    o 8 (.mov (t 16))])))))))
(.seq (.reg [o 17 (.mov (t 3)),
  o 2 (.mov (t 17))])
(.ret)))), [.tmp 2]⟩
theorem ir24_tr : trF Tryd.prog ir24 Tryd.f24 = some ir24 := by kernel_rfl

-- grille/arena.Same
def ir25 : IF := ⟨18, .seq (.reg [o 4 (.mov (.cst (.bool false)))])
(.seq (.reg [o 5 (.mov (t 0)),
  o 6 (.call 0 (.fn 20) [(t 5)]),
  o 7 (.mov (t 6)),
  og 8 7 true (.mov (t 1)),
  og 9 7 true (.call 0 (.fn 20) [(t 8)]),
  o 10 (.pick (t 7) (t 9) (.cst (.bool false))),
  o 11 (.mov (t 10)),
  og 12 11 true (.mov (t 0)),
  og 13 11 true (.call 0 (.fn 16) [(t 12)]),
  og 14 11 true (.mov (t 1)),
  og 15 11 true (.call 0 (.fn 16) [(t 14)]),
  og 16 11 true (.call 0 (.fn 55) [(t 13), (t 15), (.fn 56)]),
  o 17 (.pick (t 11) (t 16) (.cst (.bool false))),
  o 4 (.mov (t 17))])
(.ret)), [.tmp 4]⟩
theorem ir25_tr : trF Tryd.prog ir25 Tryd.f25 = some ir25 := by kernel_rfl

-- grille/grillelaw18.alive
def ir26 : IF := ⟨49, .seq (.reg [o 0 (.mov (.cst (.bool false)))])
(.seq (.reg [o 3 (.lit .ro 1 [(.cst (.int .i64 1))]),
  o 4 (.build [(.int .i64 0), (.str []), (.str []), .nils] [(0, 1, (.cst (.int .i64 1))), (1, 1, (.cst (.str [115, 101, 113]))), (3, 1, (t 3))]),
  o 5 (.build [(.int .i64 0), (.str []), (.str []), .nils] [(1, 1, (.cst (.str [115, 116, 114]))), (2, 1, (.cst (.str [97])))]),
  o 6 (.lit .ro 4 [(t 4), (t 5)]),
  o 7 (.lit .ro 1 [(t 6)]),
  o 1 (.mov (t 7))])
(.seq (.reg [o 8 (.build [(.int .i64 0), (.int .i64 0), (.int .i64 0), (.int .i64 0), (.int .i64 0)] [(0, 1, (.cst (.int .i64 3))), (1, 1, (.cst (.int .i64 2))), (2, 1, (.cst (.int .i64 1))), (3, 1, (.cst (.int .i64 2))), (4, 1, (.cst (.int .i64 1)))]),
  o 2 (.alloc [(.int .i64 0), (.int .i64 0), (.int .i64 0), (.int .i64 0), (.int .i64 0)]),
  e (.store 5 (t 2) (t 8))])
(.seq (.dreg [o 9 (.mov (t 1)),
  o 10 (.call 0 (.fn 41) [(t 9)]),
  o 11 (.build [(.int .i64 0), (.int .i64 0), (.int .i64 0), (.int .i64 0), (.int .i64 0)] [(2, 1, (.cst (.int .i64 1))), (3, 1, (.cst (.int .i64 2))), (4, 1, (.cst (.int .i64 1)))]),
  o 12 (.eqAgg [.int, .int, .int, .int, .int] false (t 10) (t 11)),
  o 13 (.mov (t 12)),
  og 14 13 true (.load (some 5) (t 2)),
  og 15 13 true (.call 0 (.fn 27) [(t 14)]),
  o 16 (.pick (t 13) (t 15) (.cst (.bool false))),
  o 17 (.mov (t 16)),
  og 18 17 true (.load (some 5) (t 2)),
  og 19 17 true (.mov (t 1)),
  og 20 17 true (.call 0 (.fn 39) [(t 18), (t 19)]),
  og 21 17 true (.bin .eql (t 20) (.cst (.int .i64 0))),
  o 22 (.pick (t 17) (t 21) (.cst (.bool false))),
  o 23 (.mov (t 22)),
  og 24 23 true (.load (some 5) (t 2)),
  og 25 23 true (.lit .ref 1 [(.cst (.int .u8 97)), (.cst (.int .u8 98)), (.cst (.int .u8 99)), (.cst (.int .u8 100))]),
  og 26 23 true (.cvMark (t 25)),
  og 27 23 true (.call 0 (.fn 31) [(t 24), (t 26)]),
  og 28 23 true (.bin .eql (t 27) (.cst (.int .i64 16))),
  o 29 (.pick (t 23) (t 28) (.cst (.bool false))),
  o 30 (.mov (t 29)),
  og 31 30 true (.load (some 5) (t 2)),
  og 32 30 true (.lit .ref 1 [(.cst (.int .u8 97)), (.cst (.int .u8 98))]),
  og 33 30 true (.cvMark (t 32)),
  og 34 30 true (.call 0 (.fn 33) [(t 31), (t 33)]),
  og 35 30 true (.bin .eql (t 34) (.cst (.int .i64 0))),
  o 36 (.pick (t 30) (t 35) (.cst (.bool false))),
  o 37 (.mov (t 36)),
  og 38 37 true (.load (some 5) (t 2)),
  og 39 37 true (.call 0 (.fn 34) []),
  og 40 37 true (.call 0 (.fn 29) [(t 38), (t 39)]),
  og 41 37 true (.load (some 5) (t 2)),
  og 42 37 true (.eqAgg [.int, .int, .int, .int, .int] false (t 40) (t 41)),
  o 43 (.pick (t 37) (t 42) (.cst (.bool false))),
  o 44 (.mov (t 43)),
  og 45 44 true (.build [(.int .i64 0), (.int .i64 0), (.int .i64 0), (.int .i64 0), (.int .i64 0)] [(0, 1, (.cst (.int .i64 (-1))))]),
  og 46 44 true (.call 0 (.fn 27) [(t 45)]),
  og 47 44 true (.not (t 46)),
  o 48 (.pick (t 44) (t 47) (.cst (.bool false))),
  o 0 (.mov (t 48))] [[], [0], [], [0, 1, 2], [0, 1, 2, 3], [0, 1, 2, 3, 4], [0, 1, 2, 3, 4, 5], [0, 1, 2, 3, 4, 5, 6], [0, 1, 2, 3, 4, 5, 6, 7], [0, 1, 2, 3, 4, 5, 6, 7, 8], [0, 1, 2, 3, 4, 5, 6, 7, 8], [0, 1, 2, 3, 4, 5, 6, 7, 8, 9, 10], [0, 1, 2, 3, 4, 5, 6, 7, 8, 9, 10, 11], [0, 1, 2, 3, 4, 5, 6, 7, 8, 9, 10, 11, 12], [0, 1, 2, 3, 4, 5, 6, 7, 8, 9, 10, 11, 12, 13], [0, 1, 2, 3, 4, 5, 6, 7, 8, 9, 10, 11, 12, 13, 14], [0, 1, 2, 3, 4, 5, 6, 7, 8, 9, 10, 11, 12, 13, 14], [0, 1, 2, 3, 4, 5, 6, 7, 8, 9, 10, 11, 12, 13, 14, 16], [0, 1, 2, 3, 4, 5, 6, 7, 8, 9, 10, 11, 12, 13, 14, 15, 16, 17], [0, 1, 2, 3, 4, 5, 6, 7, 8, 9, 10, 11, 12, 13, 14, 15, 16, 17, 18], [0, 1, 2, 3, 4, 5, 6, 7, 8, 9, 10, 11, 12, 13, 14, 15, 16, 17, 18, 19], [0, 1, 2, 3, 4, 5, 6, 7, 8, 9, 10, 11, 12, 13, 14, 15, 16, 17, 18, 19, 20], [0, 1, 2, 3, 4, 5, 6, 7, 8, 9, 10, 11, 12, 13, 14, 15, 16, 17, 18, 19, 20, 21], [0, 1, 2, 3, 4, 5, 6, 7, 8, 9, 10, 11, 12, 13, 14, 15, 16, 17, 18, 19, 20, 21], [0, 1, 2, 3, 4, 5, 6, 7, 8, 9, 10, 11, 12, 13, 14, 15, 16, 17, 18, 19, 20, 21, 23], [0, 1, 2, 3, 4, 5, 6, 7, 8, 9, 10, 11, 12, 13, 14, 15, 16, 17, 18, 19, 20, 21, 22, 23, 24], [0, 1, 2, 3, 4, 5, 6, 7, 8, 9, 10, 11, 12, 13, 14, 15, 16, 17, 18, 19, 20, 21, 22, 23, 24, 25], [0, 1, 2, 3, 4, 5, 6, 7, 8, 9, 10, 11, 12, 13, 14, 15, 16, 17, 18, 19, 20, 21, 22, 23, 24, 25, 26], [0, 1, 2, 3, 4, 5, 6, 7, 8, 9, 10, 11, 12, 13, 14, 15, 16, 17, 18, 19, 20, 21, 22, 23, 24, 25, 26, 27], [0, 1, 2, 3, 4, 5, 6, 7, 8, 9, 10, 11, 12, 13, 14, 15, 16, 17, 18, 19, 20, 21, 22, 23, 24, 25, 26, 27, 28], [0, 1, 2, 3, 4, 5, 6, 7, 8, 9, 10, 11, 12, 13, 14, 15, 16, 17, 18, 19, 20, 21, 22, 23, 24, 25, 26, 27, 28], [0, 1, 2, 3, 4, 5, 6, 7, 8, 9, 10, 11, 12, 13, 14, 15, 16, 17, 18, 19, 20, 21, 22, 23, 24, 25, 26, 27, 28, 29, 30], [0, 1, 2, 3, 4, 5, 6, 7, 8, 9, 10, 11, 12, 13, 14, 15, 16, 17, 18, 19, 20, 21, 22, 23, 24, 25, 26, 27, 28], [0, 1, 2, 3, 4, 5, 6, 7, 8, 9, 10, 11, 12, 13, 14, 15, 16, 17, 18, 19, 20, 21, 22, 23, 24, 25, 26, 27, 28, 29, 30, 31, 32], [0, 1, 2, 3, 4, 5, 6, 7, 8, 9, 10, 11, 12, 13, 14, 15, 16, 17, 18, 19, 20, 21, 22, 23, 24, 25, 26, 27, 28, 29, 30, 31, 32, 33], [0, 1, 2, 3, 4, 5, 6, 7, 8, 9, 10, 11, 12, 13, 14, 15, 16, 17, 18, 19, 20, 21, 22, 23, 24, 25, 26, 27, 28, 29, 30, 31, 32, 33, 34], [0, 1, 2, 3, 4, 5, 6, 7, 8, 9, 10, 11, 12, 13, 14, 15, 16, 17, 18, 19, 20, 21, 22, 23, 24, 25, 26, 27, 28, 29, 30, 31, 32, 33, 34, 35], [0, 1, 2, 3, 4, 5, 6, 7, 8, 9, 10, 11, 12, 13, 14, 15, 16, 17, 18, 19, 20, 21, 22, 23, 24, 25, 26, 27, 28, 29, 30, 31, 32, 33, 34, 35, 36], [0, 1, 2, 3, 4, 5, 6, 7, 8, 9, 10, 11, 12, 13, 14, 15, 16, 17, 18, 19, 20, 21, 22, 23, 24, 25, 26, 27, 28, 29, 30, 31, 32, 33, 34, 35, 36, 37], [0, 1, 2, 3, 4, 5, 6, 7, 8, 9, 10, 11, 12, 13, 14, 15, 16, 17, 18, 19, 20, 21, 22, 23, 24, 25, 26, 27, 28, 29, 30, 31, 32, 33, 34, 35, 36, 37, 38], [0, 1, 2, 3, 4, 5, 6, 7, 8, 9, 10, 11, 12, 13, 14, 15, 16, 17, 18, 19, 20, 21, 22, 23, 24, 25, 26, 27, 28, 29, 30, 31, 32, 33, 34, 35, 36, 37, 38, 39]])
(.ret)))), [.tmp 0]⟩
theorem ir26_tr : trF Tryd.prog ir26 Tryd.f26 = some ir26 := by kernel_rfl

-- grille/budget.Right
def ir27 : IF := ⟨27, .seq (.reg [o 1 (.box (t 0)),
  o 2 (.mov (.cst (.bool false)))])
(.seq (.reg [o 4 (.call 0 (.fn 34) []),
  o 3 (.alloc [(.int .i64 0), (.int .i64 0), (.int .i64 0), (.int .i64 0), (.int .i64 0)]),
  e (.store 5 (t 3) (t 4))])
(.seq (.reg [o 5 (.fieldAddr 2 (t 1)),
  o 6 (.load none (t 5)),
  o 7 (.fieldAddr 2 (t 3)),
  e (.store 1 (t 7) (t 6))])
(.seq (.dreg [o 8 (.fieldAddr 0 (t 1)),
  o 9 (.load none (t 8)),
  o 10 (.fieldAddr 1 (t 1)),
  o 11 (.load none (t 10)),
  o 12 (.fieldAddr 2 (t 1)),
  o 13 (.load none (t 12)),
  o 14 (.fieldAddr 3 (t 1)),
  o 15 (.load none (t 14)),
  o 16 (.fieldAddr 4 (t 1)),
  o 17 (.load none (t 16)),
  o 18 (.minmax false (t 9) [(t 11), (t 13), (t 15), (t 17)]),
  o 19 (.bin .geq (t 18) (.cst (.int .i64 0))),
  o 20 (.mov (t 19)),
  og 21 20 true (.load (some 5) (t 1)),
  og 22 20 true (.load (some 5) (t 3)),
  og 23 20 true (.call 0 (.fn 29) [(t 21), (t 22)]),
  og 24 20 true (.load (some 5) (t 1)),
  og 25 20 true (.eqAgg [.int, .int, .int, .int, .int] false (t 23) (t 24)),
  o 26 (.pick (t 20) (t 25) (.cst (.bool false))),
  o 2 (.mov (t 26))] [[], [0], [], [2], [], [4], [], [6], [], [8], [0, 1, 2, 3, 4, 5, 6, 7, 8, 9], [0, 1, 2, 3, 4, 5, 6, 7, 8, 9, 10], [0, 1, 2, 3, 4, 5, 6, 7, 8, 9, 10, 11], [0, 1, 2, 3, 4, 5, 6, 7, 8, 9, 10, 11, 12], [0, 1, 2, 3, 4, 5, 6, 7, 8, 9, 10, 11, 12], [0, 1, 2, 3, 4, 5, 6, 7, 8, 9, 10, 11, 12, 13, 14], [0, 1, 2, 3, 4, 5, 6, 7, 8, 9, 10, 11, 12], [0, 1, 2, 3, 4, 5, 6, 7, 8, 9, 10, 11, 12, 13, 14, 15, 16], [0, 1, 2, 3, 4, 5, 6, 7, 8, 9, 10, 11, 12, 13, 14, 15, 16, 17], [0, 1, 2, 3, 4, 5, 6, 7, 8, 9, 10, 11, 12, 13, 14, 15, 16, 17, 18]])
(.ret)))), [.tmp 2]⟩
theorem ir27_tr : trF Tryd.prog ir27 Tryd.f27 = some ir27 := by kernel_rfl

-- grille/grilleref18.Right
def ir28 : IF := ⟨46, .seq (.reg [o 1 (.box (t 0)),
  o 2 (.mov (.cst (.bool false)))])
(.seq (.reg [o 3 (.fieldAddr 0 (t 1)),
  o 4 (.load none (t 3)),
  o 5 (.bin .geq (t 4) (.cst (.int .i64 0))),
  o 6 (.mov (t 5)),
  og 7 6 true (.fieldAddr 1 (t 1)),
  og 8 6 true (.load none (t 7)),
  og 9 6 true (.bin .geq (t 8) (.cst (.int .i64 0))),
  o 10 (.pick (t 6) (t 9) (.cst (.bool false))),
  o 11 (.mov (t 10)),
  og 12 11 true (.fieldAddr 2 (t 1)),
  og 13 11 true (.load none (t 12)),
  og 14 11 true (.bin .geq (t 13) (.cst (.int .i64 0))),
  o 15 (.pick (t 11) (t 14) (.cst (.bool false))),
  o 16 (.mov (t 15)),
  og 17 16 true (.fieldAddr 3 (t 1)),
  og 18 16 true (.load none (t 17)),
  og 19 16 true (.bin .geq (t 18) (.cst (.int .i64 0))),
  o 20 (.pick (t 16) (t 19) (.cst (.bool false))),
  o 21 (.mov (t 20)),
  og 22 21 true (.fieldAddr 4 (t 1)),
  og 23 21 true (.load none (t 22)),
  og 24 21 true (.bin .geq (t 23) (.cst (.int .i64 0))),
  o 25 (.pick (t 21) (t 24) (.cst (.bool false))),
  o 26 (.mov (t 25)),
  og 27 26 true (.fieldAddr 0 (t 1)),
  og 28 26 true (.load none (t 27)),
  og 29 26 true (.bin .leq (t 28) (.cst (.int .i64 20000))),
  o 30 (.pick (t 26) (t 29) (.cst (.bool false))),
  o 31 (.mov (t 30)),
  og 32 31 true (.fieldAddr 1 (t 1)),
  og 33 31 true (.load none (t 32)),
  og 34 31 true (.bin .leq (t 33) (.cst (.int .i64 20000))),
  o 35 (.pick (t 31) (t 34) (.cst (.bool false))),
  o 36 (.mov (t 35)),
  og 37 36 true (.fieldAddr 3 (t 1)),
  og 38 36 true (.load none (t 37)),
  og 39 36 true (.bin .leq (t 38) (.cst (.int .i64 2000))),
  o 40 (.pick (t 36) (t 39) (.cst (.bool false))),
  o 41 (.mov (t 40)),
  og 42 41 true (.fieldAddr 4 (t 1)),
  og 43 41 true (.load none (t 42)),
  og 44 41 true (.bin .leq (t 43) (.cst (.int .i64 40))),
  o 45 (.pick (t 41) (t 44) (.cst (.bool false))),
  o 2 (.mov (t 45))])
(.ret)), [.tmp 2]⟩
theorem ir28_tr : trF Tryd.prog ir28 Tryd.f28 = some ir28 := by kernel_rfl

-- grille/budget.Least
def ir29 : IF := ⟨31, .seq (.reg [o 2 (.box (t 0)),
  o 3 (.box (t 1)),
  o 4 (.alloc [(.int .i64 0), (.int .i64 0), (.int .i64 0), (.int .i64 0), (.int .i64 0)])])
(.seq (.reg [o 5 (.fieldAddr 0 (t 2)),
  o 6 (.load none (t 5)),
  o 7 (.fieldAddr 0 (t 3)),
  o 8 (.load none (t 7)),
  o 9 (.minmax false (t 6) [(t 8)]),
  o 10 (.fieldAddr 1 (t 2)),
  o 11 (.load none (t 10)),
  o 12 (.fieldAddr 1 (t 3)),
  o 13 (.load none (t 12)),
  o 14 (.minmax false (t 11) [(t 13)]),
  o 15 (.fieldAddr 2 (t 2)),
  o 16 (.load none (t 15)),
  o 17 (.fieldAddr 2 (t 3)),
  o 18 (.load none (t 17)),
  o 19 (.minmax false (t 16) [(t 18)]),
  o 20 (.fieldAddr 3 (t 2)),
  o 21 (.load none (t 20)),
  o 22 (.fieldAddr 3 (t 3)),
  o 23 (.load none (t 22)),
  o 24 (.minmax false (t 21) [(t 23)]),
  o 25 (.fieldAddr 4 (t 2)),
  o 26 (.load none (t 25)),
  o 27 (.fieldAddr 4 (t 3)),
  o 28 (.load none (t 27)),
  o 29 (.minmax false (t 26) [(t 28)]),
  o 30 (.build [(.int .i64 0), (.int .i64 0), (.int .i64 0), (.int .i64 0), (.int .i64 0)] [(0, 1, (t 9)), (1, 1, (t 14)), (2, 1, (t 19)), (3, 1, (t 24)), (4, 1, (t 29))]),
  e (.store 5 (t 4) (t 30))])
(.ret)), [.cell 4 (some 5)]⟩
theorem ir29_tr : trF Tryd.prog ir29 Tryd.f29 = some ir29 := by kernel_rfl

-- grille/grilleref18.Least
def ir30 : IF := ⟨31, .seq (.reg [o 2 (.box (t 0)),
  o 3 (.box (t 1)),
  o 4 (.alloc [(.int .i64 0), (.int .i64 0), (.int .i64 0), (.int .i64 0), (.int .i64 0)])])
(.seq (.reg [o 5 (.fieldAddr 0 (t 2)),
  o 6 (.load none (t 5)),
  o 7 (.fieldAddr 0 (t 3)),
  o 8 (.load none (t 7)),
  o 9 (.minmax false (t 6) [(t 8)]),
  o 10 (.fieldAddr 1 (t 2)),
  o 11 (.load none (t 10)),
  o 12 (.fieldAddr 1 (t 3)),
  o 13 (.load none (t 12)),
  o 14 (.minmax false (t 11) [(t 13)]),
  o 15 (.fieldAddr 2 (t 2)),
  o 16 (.load none (t 15)),
  o 17 (.fieldAddr 2 (t 3)),
  o 18 (.load none (t 17)),
  o 19 (.minmax false (t 16) [(t 18)]),
  o 20 (.fieldAddr 3 (t 2)),
  o 21 (.load none (t 20)),
  o 22 (.fieldAddr 3 (t 3)),
  o 23 (.load none (t 22)),
  o 24 (.minmax false (t 21) [(t 23)]),
  o 25 (.fieldAddr 4 (t 2)),
  o 26 (.load none (t 25)),
  o 27 (.fieldAddr 4 (t 3)),
  o 28 (.load none (t 27)),
  o 29 (.minmax false (t 26) [(t 28)]),
  o 30 (.build [(.int .i64 0), (.int .i64 0), (.int .i64 0), (.int .i64 0), (.int .i64 0)] [(0, 1, (t 9)), (1, 1, (t 14)), (2, 1, (t 19)), (3, 1, (t 24)), (4, 1, (t 29))]),
  e (.store 5 (t 4) (t 30))])
(.ret)), [.cell 4 (some 5)]⟩
theorem ir30_tr : trF Tryd.prog ir30 Tryd.f30 = some ir30 := by kernel_rfl

-- grille/budget.Input
def ir31 : IF := ⟨8, .seq (.reg [o 2 (.box (t 0)),
  o 3 (.box (t 1)),
  o 4 (.mov (.cst (.int .i64 0)))])
(.seq (.reg [o 5 (.load (some 5) (t 2)),
  o 6 (.mkFn (.func 58) [] [(t 3), (t 2)]),
  o 7 (.call 0 (.fn 57) [(t 5), (t 6)]),
  o 4 (.mov (t 7))])
(.ret)), [.tmp 4]⟩
theorem ir31_tr : trF Tryd.prog ir31 Tryd.f31 = some ir31 := by kernel_rfl

-- grille/grilleref18.Bytes
def ir32 : IF := ⟨13, .seq (.reg [o 3 (.box (t 0)),
  o 6 (.mov (.cst (.int .i64 0)))])
(.seq (.seq (.reg [o 7 (.load (some 5) (t 3)),
  o 8 (.call 0 (.fn 28) [(t 7)]),
  o 9 (.not (t 8))])
(.cond (t 9)
 (.seq (.reg [o 6 (.mov (.cst (.int .i64 2)))])
 (.ret))
 (.skip)))
(.seq (.seq (.reg [o 10 (.mov (t 1)),
  o 11 (.mov (t 2)),
  o 12 (.bin .gtr (t 10) (t 11))])
(.cond (t 12)
 (.seq (.reg [o 6 (.mov (.cst (.int .i64 16)))])
 (.ret))
 (.skip)))
(.seq (.reg [o 6 (.mov (.cst (.int .i64 0)))])
(.ret)))), [.tmp 6]⟩
theorem ir32_tr : trF Tryd.prog ir32 Tryd.f32 = some ir32 := by kernel_rfl

-- grille/budget.Output
def ir33 : IF := ⟨8, .seq (.reg [o 2 (.box (t 0)),
  o 3 (.box (t 1)),
  o 4 (.mov (.cst (.int .i64 0)))])
(.seq (.reg [o 5 (.load (some 5) (t 2)),
  o 6 (.mkFn (.func 59) [] [(t 3), (t 2)]),
  o 7 (.call 0 (.fn 57) [(t 5), (t 6)]),
  o 4 (.mov (t 7))])
(.ret)), [.tmp 4]⟩
theorem ir33_tr : trF Tryd.prog ir33 Tryd.f33 = some ir33 := by kernel_rfl

-- grille/budget.Default
def ir34 : IF := ⟨2, .seq (.reg [o 0 (.alloc [(.int .i64 0), (.int .i64 0), (.int .i64 0), (.int .i64 0), (.int .i64 0)])])
(.seq (.reg [o 1 (.build [(.int .i64 0), (.int .i64 0), (.int .i64 0), (.int .i64 0), (.int .i64 0)] [(0, 1, (.cst (.int .i64 20000))), (1, 1, (.cst (.int .i64 20000))), (2, 1, (.cst (.int .i64 10))), (3, 1, (.cst (.int .i64 2000))), (4, 1, (.cst (.int .i64 40)))]),
  e (.store 5 (t 0) (t 1))])
(.ret)), [.cell 0 (some 5)]⟩
theorem ir34_tr : trF Tryd.prog ir34 Tryd.f34 = some ir34 := by kernel_rfl

-- grille/grilleref18.Default
def ir35 : IF := ⟨2, .seq (.reg [o 0 (.alloc [(.int .i64 0), (.int .i64 0), (.int .i64 0), (.int .i64 0), (.int .i64 0)])])
(.seq (.reg [o 1 (.build [(.int .i64 0), (.int .i64 0), (.int .i64 0), (.int .i64 0), (.int .i64 0)] [(0, 1, (.cst (.int .i64 20000))), (1, 1, (.cst (.int .i64 20000))), (2, 1, (.cst (.int .i64 10))), (3, 1, (.cst (.int .i64 2000))), (4, 1, (.cst (.int .i64 40)))]),
  e (.store 5 (t 0) (t 1))])
(.ret)), [.cell 0 (some 5)]⟩
theorem ir35_tr : trF Tryd.prog ir35 Tryd.f35 = some ir35 := by kernel_rfl

-- grille/grillelaw10.Heavy
def ir36 : IF := ⟨17, .seq (.reg [o 2 (.mov (.cst (.bool false)))])
(.seq (.seq (.reg [o 5 (.mov (t 0)),
  o 6 (.len .row (t 5)),
  o 7 (.mov (.cst (.int .i64 0)))])
(.block 0 (.loop [8, 9, 10, 4, 11, 12, 2, 13] (.seq (.reg [o 8 (.bin .lss (t 7) (t 6))])
  (.seq (.cond (t 8)
   (.skip)
   (.exit 0))
  (.seq (.block 1 (.seq (.reg [o 9 (.idxAddr 1 (t 5) (t 7)),
     o 10 (.load none (t 9)),
     o 4 (.mov (t 10))])
   (.seq (.reg [o 11 (.mov (t 4)),
     o 12 (.call 0 (.fn 12) [(t 11)])])
   (.cond (t 12)
    (.seq (.reg [o 2 (.mov (.cst (.bool true)))])
    (.ret))
    (.skip)))))
  (.reg [o 13 (.bin .add (t 7) (.cst (.int .i64 1))),
    o 7 (.mov (t 13))])))))))
(.seq (.reg [o 14 (.mov (t 0)),
  o 15 (.len .row (t 14)),
  o 16 (.bin .gtr (t 15) (.cst (.int .i64 5))),
  o 2 (.mov (t 16))])
(.ret))), [.tmp 2]⟩
theorem ir36_tr : trF Tryd.prog ir36 Tryd.f36 = some ir36 := by kernel_rfl

-- grille/grillelaw10.Theirs
def ir37 : IF := ⟨19, .seq (.reg [o 2 (.mov (.cst .nils))])
(.seq (.reg [o 3 (.mov (.cst .nils))])
(.seq (.seq (.reg [o 6 (.mov (t 0)),
  o 7 (.len .row (t 6)),
  o 8 (.mov (.cst (.int .i64 0)))])
(.block 0 (.loop [9, 10, 11, 5, 12, 13, 14, 15, 16, 17] (.seq (.reg [o 9 (.bin .lss (t 8) (t 7))])
  (.seq (.cond (t 9)
   (.skip)
   (.exit 0))
  (.seq (.block 1 (.seq (.reg [o 10 (.idxAddr 1 (t 6) (t 8)),
     o 11 (.load none (t 10)),
     o 5 (.mov (t 11))])
   (.reg [o 12 (.mov (t 3)),
     o 13 (.mov (t 5)),
     o 14 (.call 0 (.fn 14) [(t 13)]),
     o 15 (.lit .ro 1 [(t 14)]),
     o 16 (.append .tok 1 24 (t 12) (t 15)),
     o 3 (.mov (t 16))])))
  (.reg [o 17 (.bin .add (t 8) (.cst (.int .i64 1))),
    o 8 (.mov (t 17))])))))))
(.seq (.reg [o 18 (.mov (t 3)),
  o 2 (.mov (t 18))])
(.ret)))), [.tmp 2]⟩
theorem ir37_tr : trF Tryd.prog ir37 Tryd.f37 = some ir37 := by kernel_rfl

-- grille/grillelaw18.BudgetLeast$1
def ir38 : IF := ⟨18, .seq (.reg [o 3 (.box (t 0)),
  o 4 (.alloc [(.bool false), (.bool false), (.bool false)])])
(.seq (.dreg [o 5 (.load (some 5) (t 3)),
  o 6 (.load none (t 1)),
  o 7 (.call 0 (.fn 31) [(t 5), (t 6)]),
  o 8 (.bin .eql (t 7) (.cst (.int .i64 0))),
  o 9 (.load (some 5) (t 3)),
  o 10 (.load none (t 1)),
  o 11 (.call 0 (.fn 33) [(t 9), (t 10)]),
  o 12 (.bin .eql (t 11) (.cst (.int .i64 0))),
  o 13 (.load (some 5) (t 3)),
  o 14 (.load none (t 2)),
  o 15 (.call 0 (.fn 39) [(t 13), (t 14)]),
  o 16 (.bin .eql (t 15) (.cst (.int .i64 0))),
  o 17 (.build [(.bool false), (.bool false), (.bool false)] [(0, 1, (t 8)), (1, 1, (t 12)), (2, 1, (t 16))]),
  e (.store 3 (t 4) (t 17))] [[], [], [0, 1], [0, 1, 2], [], [], [4, 5, 0, 1, 2], [4, 5, 0, 1, 2, 6], [], [], [8, 9, 4, 5, 0, 1, 2, 6], [8, 9, 4, 5, 0, 1, 2, 6, 10], [0, 1, 2, 3, 4, 5, 6, 7, 8, 9, 10, 11], [0, 1, 2, 3, 4, 5, 6, 7, 8, 9, 10, 11, 12]])
(.ret)), [.cell 4 (some 3)]⟩
theorem ir38_tr : trF Tryd.prog ir38 Tryd.f38 = some ir38 := by kernel_rfl

-- grille/budget.Graphs
def ir39 : IF := ⟨16, .seq (.reg [o 2 (.box (t 0)),
  o 3 (.box (t 1)),
  o 4 (.mov (.cst (.int .i64 0)))])
(.seq (.reg [o 5 (.mov (.fn 60))])
(.seq (.seq (.reg [o 6 (.load (some 5) (t 2)),
  o 7 (.call 0 (.fn 27) [(t 6)]),
  o 8 (.mov (t 7)),
  og 9 8 true (.load none (t 3)),
  og 10 8 true (.mov (t 5)),
  og 11 8 true (.call 0 (.fn 61) [(t 9), (t 10)]),
  o 12 (.pick (t 8) (t 11) (.cst (.bool false)))])
(.gh [.kill [6, 7, 8, 9, 10, 11]] (.cond (t 12)
 (.seq (.reg [o 4 (.mov (.cst (.int .i64 5)))])
 (.ret))
 (.skip))))
(.seq (.reg [o 13 (.load (some 5) (t 2)),
  o 14 (.mkFn (.func 62) [] [(t 3), (t 2)]),
  o 15 (.call 0 (.fn 57) [(t 13), (t 14)]),
  o 4 (.mov (t 15))])
(.ret)))), [.tmp 4]⟩
theorem ir39_tr : trF Tryd.prog ir39 Tryd.f39 = some ir39 := by kernel_rfl

-- grille/grillelaw18.within
def ir40 : IF := ⟨10, .seq (.reg [o 2 (.box (t 0)),
  o 3 (.box (t 1)),
  o 4 (.mov (.cst (.bool false)))])
(.seq (.dreg [o 5 (.load (some 5) (t 2)),
  o 6 (.load (some 5) (t 3)),
  o 7 (.call 0 (.fn 29) [(t 5), (t 6)]),
  o 8 (.load (some 5) (t 2)),
  o 9 (.eqAgg [.int, .int, .int, .int, .int] false (t 7) (t 8)),
  o 4 (.mov (t 9))] [[], [], [0, 1], [], [0, 1, 2, 3], [0, 1, 2, 3, 4]])
(.ret)), [.tmp 4]⟩
theorem ir40_tr : trF Tryd.prog ir40 Tryd.f40 = some ir40 := by kernel_rfl

-- grille/budget.Use
def ir41 : IF := ⟨30, .seq (.reg [o 2 (.alloc [(.int .i64 0), (.int .i64 0), (.int .i64 0), (.int .i64 0), (.int .i64 0)])])
(.seq (.reg [o 6 (.mov (t 0)),
  o 7 (.len .row (t 6)),
  o 8 (.build [(.int .i64 0), (.int .i64 0), (.int .i64 0), (.int .i64 0), (.int .i64 0)] [(2, 1, (t 7))]),
  o 3 (.alloc [(.int .i64 0), (.int .i64 0), (.int .i64 0), (.int .i64 0), (.int .i64 0)]),
  e (.store 5 (t 3) (t 8))])
(.seq (.seq (.reg [o 9 (.mov (t 0)),
  o 10 (.len .row (t 9)),
  o 11 (.mov (.cst (.int .i64 0)))])
(.block 0 (.loop [12, 13, 14, 5, 15, 16, 17, 18, 19, 20, 21, 22, 23, 24, 25, 26, 27, 28] (.seq (.reg [o 12 (.bin .lss (t 11) (t 10))])
  (.seq (.cond (t 12)
   (.skip)
   (.exit 0))
  (.seq (.block 1 (.seq (.reg [o 13 (.idxAddr 1 (t 9) (t 11)),
     o 14 (.load none (t 13)),
     o 5 (.mov (t 14))])
   (.seq (.dreg [o 15 (.fieldAddr 3 (t 3)),
     o 16 (.load none (t 15)),
     o 17 (.mov (t 5)),
     o 18 (.call 0 (.fn 44) [(t 17)]),
     o 19 (.len .row (t 18)),
     o 20 (.bin .add (t 16) (t 19)),
     o 21 (.fieldAddr 3 (t 3)),
     e (.store 1 (t 21) (t 20))] [[], [0], [], [2], [2, 3], [0, 1, 2, 3, 4], [0, 1, 2, 3, 4, 5], [0, 1, 2, 3, 4, 5, 6]])
   (.dreg [o 22 (.fieldAddr 4 (t 3)),
     o 23 (.load none (t 22)),
     o 24 (.mov (t 5)),
     o 25 (.call 0 (.fn 19) [(t 24)]),
     o 26 (.minmax true (t 23) [(t 25)]),
     o 27 (.fieldAddr 4 (t 3)),
     e (.store 1 (t 27) (t 26))] [[], [0], [], [2], [0, 1, 2, 3], [0, 1, 2, 3, 4], [0, 1, 2, 3, 4, 5]]))))
  (.reg [o 28 (.bin .add (t 11) (.cst (.int .i64 1))),
    o 11 (.mov (t 28))])))))))
(.seq (.reg [o 29 (.load (some 5) (t 3)),
  e (.store 5 (t 2) (t 29))])
(.ret)))), [.cell 2 (some 5)]⟩
theorem ir41_tr : trF Tryd.prog ir41 Tryd.f41 = some ir41 := by kernel_rfl

-- grille/flatten.tell
def ir42 : IF := ⟨44, .seq (.reg [o 2 (.mov (.cst .nilp))])
(.seq (.reg [o 7 (.mov (t 0)),
  o 8 (.call 0 (.fn 16) [(t 7)]),
  o 0 (.mov (t 8))])
(.seq (.reg [o 9 (.mov (t 0)),
  o 10 (.mov (t 0)),
  o 11 (.len .row (t 10)),
  o 12 (.make .ref 1 16 [(.str [])] (t 11) (t 11)),
  o 13 (.build [.nils, .nils, .nils, (.int .i64 0), (.int .i64 0), (.int .i64 0)] [(0, 1, (t 9)), (2, 1, (t 12))]),
  o 14 (.box (t 13)),
  o 3 (.mov (t 14))])
(.seq (.reg [o 4 (.mov (.cst (.int .i64 0)))])
(.seq (.seq (.reg [o 15 (.mov (t 0)),
  o 16 (.call 0 (.fn 63) [(t 15)]),
  o 17 (.len .row (t 16)),
  o 18 (.mov (.cst (.int .i64 0)))])
(.block 0 (.loop [19, 20, 21, 22, 5, 6, 23, 24, 25, 26, 27, 28, 29, 30, 31, 32, 33, 34, 35, 36, 37, 38, 39, 40] (.seq (.reg [o 19 (.bin .lss (t 18) (t 17))])
  (.seq (.cond (t 19)
   (.skip)
   (.exit 0))
  (.seq (.block 1 (.seq (.reg [o 20 (.mov (t 18)),
     o 21 (.idxAddr 1 (t 16) (t 18)),
     o 22 (.load none (t 21)),
     o 5 (.mov (t 20)),
     o 6 (.mov (t 22))])
   (.seq (.seq (.reg [o 23 (.mov (t 5)),
     o 24 (.bin .eql (t 23) (.cst (.int .i64 0)))])
   (.cond (t 24)
    (.reg [o 25 (.mov (t 6)),
      o 26 (.bin .add (t 25) (.cst (.int .i64 1))),
      o 6 (.mov (t 26))])
    (.skip)))
   (.gh [.kill [23, 24, 25, 26]] (.seq (.reg [o 27 (.mov (t 6)),
     o 28 (.bin .gtr (t 27) (.cst (.int .i64 1)))])
   (.cond (t 28)
    (.seq (.reg [o 29 (.mov (t 4)),
      o 30 (.bin .add (t 29) (.cst (.int .i64 1))),
      o 4 (.mov (t 30))])
    (.dreg [o 31 (.mov (t 3)),
      o 32 (.nilck (t 31)),
      o 33 (.fieldAddr 2 (t 32)),
      o 34 (.load none (t 33)),
      o 35 (.mov (t 5)),
      o 36 (.mov (t 4)),
      o 37 (.call 0 (.fn 64) [(t 36)]),
      o 38 (.bin .add (.cst (.str [97])) (t 37)),
      o 39 (.idxAddr 1 (t 34) (t 35)),
      e (.store 1 (t 39) (t 38))] [[], [0], [0, 1], [0, 1, 2], [], [], [5], [5, 6], [0, 1, 2, 3, 4, 5, 6, 7], [0, 1, 2, 3, 4, 5, 6, 7, 8]]))
    (.skip)))))))
  (.gh [.kill [20, 21, 22, 5, 6, 23, 24, 25, 26, 27, 28, 29, 30, 31, 32, 33, 34, 35, 36, 37, 38, 39]] (.reg [o 40 (.bin .add (t 18) (.cst (.int .i64 1))),
    o 18 (.mov (t 40))]))))))))
(.seq (.reg [o 41 (.mov (t 3)),
  o 42 (.call 0 (.fn 65) [(t 41), (.cst (.int .i64 0))])])
(.seq (.reg [o 43 (.mov (t 3)),
  o 2 (.mov (t 43))])
(.ret))))))), [.tmp 2]⟩
theorem ir42_tr : trF Tryd.prog ir42 Tryd.f42 = some ir42 := by kernel_rfl

-- slices.Clone[[]int,int]
def ir43 : IF := ⟨8, .seq (.reg [o 2 (.mov (.cst .nils))])
(.seq (.seq (.reg [o 3 (.mov (t 0)),
  o 4 (.eqv .slice false (t 3) (.cst .nils))])
(.cond (t 4)
 (.seq (.reg [o 2 (.mov (.cst .nils))])
 (.ret))
 (.skip)))
(.seq (.reg [o 5 (.lit .tok 1 []),
  o 6 (.mov (t 0)),
  o 7 (.append .tok 1 8 (t 5) (t 6)),
  o 2 (.mov (t 7))])
(.ret))), [.tmp 2]⟩
theorem ir43_tr : trF Tryd.prog ir43 Tryd.f43 = some ir43 := by kernel_rfl

-- slices.Clone[[]int,int]
def ir43v1 : IF := ⟨8, .seq (.reg [o 2 (.mov (.cst .nils))])
(.seq (.seq (.reg [o 3 (.mov (t 0)),
  o 4 (.eqv .slice false (t 3) (.cst .nils))])
(.cond (t 4)
 (.seq (.reg [o 2 (.mov (.cst .nils))])
 (.ret))
 (.skip)))
(.seq (.reg [o 5 (.lit .ref 1 []),
  o 6 (.mov (t 0)),
  o 7 (.append .ref 1 8 (t 5) (t 6)),
  o 2 (.mov (t 7))])
(.ret))), [.tmp 2]⟩
theorem ir43v1_tr : trF Tryd.prog ir43v1 Tryd.f43 = some ir43v1 := by kernel_rfl

-- grille/arena.Order
def ir44 : IF := ⟨15, .seq (.reg [o 1 (.box (t 0)),
  o 2 (.alloc [.nils])])
(.seq (.seq (.reg [o 5 (.load none (t 1)),
  o 6 (.call 0 (.fn 20) [(t 5)]),
  o 7 (.not (t 6))])
(.cond (t 7)
 (.seq (.reg [e (.store 1 (t 2) (.cst .nils))])
 (.ret))
 (.skip)))
(.seq (.reg [o 8 (.load none (t 1)),
  o 9 (.len .row (t 8)),
  o 10 (.make .ref 1 8 [(.int .i64 0)] (t 9) (t 9)),
  o 3 (.alloc [.nils]),
  e (.store 1 (t 3) (t 10))])
(.seq (.reg [o 4 (.alloc [.nilf])])
(.seq (.reg [o 11 (.mkFn (.func 66) [] [(t 3), (t 2), (t 1), (t 4)]),
  e (.store 1 (t 4) (t 11))])
(.seq (.reg [o 12 (.load none (t 4)),
  o 13 (.call 0 (t 12) [(.cst (.int .i64 0))])])
(.seq (.reg [o 14 (.load none (t 2)),
  e (.store 1 (t 2) (t 14))])
(.ret))))))), [.cell 2 none]⟩
theorem ir44_tr : trF Tryd.prog ir44 Tryd.f44 = some ir44 := by kernel_rfl

-- (grille/event.Event).node
def ir45 : IF := ⟨16, .seq (.reg [o 1 (.box (t 0)),
  o 2 (.mov (.cst (.bool false)))])
(.seq (.reg [o 3 (.fieldAddr 0 (t 1)),
  o 4 (.load none (t 3)),
  o 5 (.bin .eql (t 4) (.cst (.int .i64 2))),
  o 6 (.mov (t 5)),
  og 7 6 false (.fieldAddr 0 (t 1)),
  og 8 6 false (.load none (t 7)),
  og 9 6 false (.bin .eql (t 8) (.cst (.int .i64 4))),
  o 10 (.pick (t 6) (.cst (.bool true)) (t 9)),
  o 11 (.mov (t 10)),
  og 12 11 false (.fieldAddr 0 (t 1)),
  og 13 11 false (.load none (t 12)),
  og 14 11 false (.bin .eql (t 13) (.cst (.int .i64 6))),
  o 15 (.pick (t 11) (.cst (.bool true)) (t 14)),
  o 2 (.mov (t 15))])
(.ret)), [.tmp 2]⟩
theorem ir45_tr : trF Tryd.prog ir45 Tryd.f45 = some ir45 := by kernel_rfl

-- grille/arena.Right$1
def ir46 : IF := ⟨8, .seq (.reg [o 2 (.box (t 0)),
  o 3 (.mov (.cst (.bool false)))])
(.seq (.reg [o 4 (.load none (t 1)),
  o 5 (.load (some 4) (t 2)),
  o 6 (.call 0 (.fn 47) [(t 4), (t 5)]),
  o 7 (.not (t 6)),
  o 3 (.mov (t 7))])
(.ret)), [.tmp 3]⟩
theorem ir46_tr : trF Tryd.prog ir46 Tryd.f46 = some ir46 := by kernel_rfl

-- (grille/arena.Graph).right
def ir47 : IF := ⟨77, .seq (.reg [o 2 (.box (t 0)),
  o 3 (.box (t 1)),
  o 4 (.mov (.cst (.bool false)))])
(.seq (.reg [o 8 (.mkFn (.func 67) [] [(t 2)]),
  o 5 (.mov (t 8))])
(.seq (.seq (.reg [o 9 (.fieldAddr 3 (t 3)),
  o 10 (.load none (t 9)),
  o 11 (.mov (t 5)),
  o 12 (.call 0 (.fn 69) [(t 10), (t 11)])])
(.cond (t 12)
 (.seq (.reg [o 4 (.mov (.cst (.bool false)))])
 (.ret))
 (.skip)))
(.seq (.seq (.reg [o 13 (.fieldAddr 0 (t 3)),
  o 14 (.load none (t 13)),
  o 15 (.bin .eql (t 14) (.cst (.int .i64 0)))])
(.cond (t 15)
 (.seq (.reg [o 16 (.fieldAddr 3 (t 3)),
   o 17 (.load none (t 16)),
   o 18 (.len .row (t 17)),
   o 19 (.bin .eql (t 18) (.cst (.int .i64 0))),
   o 20 (.mov (t 19)),
   og 21 20 true (.fieldAddr 2 (t 3)),
   og 22 20 true (.load none (t 21)),
   og 23 20 true (.call 0 (.fn 70) [(t 22)]),
   o 24 (.pick (t 20) (t 23) (.cst (.bool false))),
   o 25 (.mov (t 24)),
   og 26 25 true (.fieldAddr 1 (t 3)),
   og 27 25 true (.load none (t 26)),
   og 28 25 true (.fieldAddr 2 (t 3)),
   og 29 25 true (.load none (t 28)),
   og 30 25 true (.call 0 (.fn 54) [(t 27), (t 29)]),
   o 31 (.pick (t 25) (t 30) (.cst (.bool false))),
   o 4 (.mov (t 31))])
 (.ret))
 (.skip)))
(.seq (.reg [o 32 (.fieldAddr 1 (t 3)),
  o 33 (.load none (t 32)),
  o 34 (.call 0 (.fn 71) [(t 33)]),
  o 35 (.mov (t 34)),
  og 36 35 true (.fieldAddr 1 (t 3)),
  og 37 35 true (.load none (t 36)),
  og 38 35 true (.call 0 (.fn 72) [(t 37)]),
  og 39 35 true (.not (t 38)),
  o 40 (.pick (t 35) (t 39) (.cst (.bool false))),
  o 6 (.mov (t 40))])
(.gh [.kill [32, 33, 34, 35, 36, 37, 38, 39, 40]] (.seq (.seq (.reg [o 41 (.fieldAddr 0 (t 3)),
  o 42 (.load none (t 41))])
(.block 0 (.seq (.reg [o 44 (.bin .eql (t 42) (.cst (.int .i64 1))),
   o 43 (.mov (t 44))])
 (.cond (t 43)
  (.reg [o 45 (.mov (t 6)),
    o 46 (.mov (t 45)),
    og 47 46 false (.fieldAddr 1 (t 3)),
    og 48 46 false (.load none (t 47)),
    og 49 46 false (.bin .eql (t 48) (.cst (.str [115, 101, 113]))),
    o 50 (.pick (t 46) (.cst (.bool true)) (t 49)),
    o 6 (.mov (t 50))])
  (.seq (.reg [o 52 (.bin .eql (t 42) (.cst (.int .i64 2))),
    o 51 (.mov (t 52))])
  (.cond (t 51)
   (.seq (.reg [o 53 (.mkFn (.func 73) [] [(t 2)]),
     o 7 (.mov (t 53))])
   (.seq (.seq (.reg [o 54 (.fieldAddr 3 (t 3)),
     o 55 (.load none (t 54)),
     o 56 (.len .row (t 55)),
     o 57 (.bin .rem (t 56) (.cst (.int .i64 2))),
     o 58 (.bin .neq (t 57) (.cst (.int .i64 0))),
     o 59 (.mov (t 58)),
     og 60 59 false (.load (some 4) (t 3)),
     og 61 59 false (.call 0 (.fn 74) [(t 60)]),
     og 62 59 false (.mov (t 7)),
     og 63 59 false (.call 0 (.fn 69) [(t 61), (t 62)]),
     o 64 (.pick (t 59) (.cst (.bool true)) (t 63))])
   (.gh [.kill [54, 55, 56, 57, 58, 59, 60, 61, 62, 63]] (.cond (t 64)
    (.seq (.reg [o 4 (.mov (.cst (.bool false)))])
    (.ret))
    (.skip))))
   (.reg [o 65 (.mov (t 6)),
     o 66 (.mov (t 65)),
     og 67 66 false (.fieldAddr 1 (t 3)),
     og 68 66 false (.load none (t 67)),
     og 69 66 false (.bin .eql (t 68) (.cst (.str [109, 97, 112]))),
     o 70 (.pick (t 66) (.cst (.bool true)) (t 69)),
     o 6 (.mov (t 70))])))
   (.seq (.reg [o 4 (.mov (.cst (.bool false)))])
   (.ret))))))))
(.gh [.kill [41, 42, 44, 43, 45, 46, 47, 48, 49, 50, 52, 51, 53, 7, 64, 54, 55, 56, 57, 58, 59, 60, 61, 62, 63, 65, 66, 67, 68, 69, 70, 4]] (.seq (.reg [o 71 (.mov (t 6)),
  o 72 (.mov (t 71)),
  og 73 72 true (.fieldAddr 2 (t 3)),
  og 74 72 true (.load none (t 73)),
  og 75 72 true (.bin .eql (t 74) (.cst (.str []))),
  o 76 (.pick (t 72) (t 75) (.cst (.bool false))),
  o 4 (.mov (t 76))])
(.ret))))))))), [.tmp 4]⟩
theorem ir47_tr : trF Tryd.prog ir47 Tryd.f47 = some ir47 := by kernel_rfl

-- slices.ContainsFunc[grille/arena.Graph,grille/arena.Node]
def ir48 : IF := ⟨9, .seq (.reg [o 4 (.mov (.cst (.bool false)))])
(.seq (.reg [o 5 (.mov (t 0)),
  o 6 (.mov (t 1)),
  o 7 (.call 0 (.fn 75) [(t 5), (t 6)]),
  o 8 (.bin .geq (t 7) (.cst (.int .i64 0))),
  o 4 (.mov (t 8))])
(.ret)), [.tmp 4]⟩
theorem ir48_tr : trF Tryd.prog ir48 Tryd.f48 = some ir48 := by kernel_rfl

-- grille/arena.Twice
def ir49 : IF := ⟨67, .seq (.reg [o 2 (.mov (.cst (.bool false)))])
(.seq (.seq (.reg [o 10 (.mov (t 0)),
  o 11 (.len .row (t 10)),
  o 12 (.mov (.cst (.int .i64 0)))])
(.block 0 (.loop [13, 14, 15, 4, 16, 17, 18, 19, 20, 5, 6, 21, 22, 23, 25, 26, 27, 8, 28, 29, 30, 31, 32, 33, 34, 35, 36, 37, 38, 39, 40, 41, 42, 43, 9, 44, 45, 46, 47, 48, 49, 50, 51, 52, 53, 54, 55, 56, 57, 58, 59, 60, 61, 62, 63, 64, 2, 65, 24, 66] (.seq (.reg [o 13 (.bin .lss (t 12) (t 11))])
  (.seq (.cond (t 13)
   (.skip)
   (.exit 0))
  (.seq (.block 1 (.seq (.reg [o 14 (.idxAddr 4 (t 10) (t 12)),
     o 15 (.load (some 4) (t 14)),
     o 4 (.alloc [(.int .i64 0), (.str []), (.str []), .nils]),
     e (.store 4 (t 4) (t 15))])
   (.seq (.seq (.reg [o 16 (.fieldAddr 0 (t 4)),
     o 17 (.load none (t 16)),
     o 18 (.bin .neq (t 17) (.cst (.int .i64 2)))])
   (.cond (t 18)
    (.exit 1)
    (.skip)))
   (.seq (.reg [o 19 (.mkMap),
     o 20 (.mkMap),
     o 5 (.mov (t 19)),
     o 6 (.mov (t 20))])
   (.seq (.reg [o 21 (.load (some 4) (t 4)),
     o 22 (.call 0 (.fn 74) [(t 21)]),
     o 23 (.len .row (t 22)),
     o 24 (.mov (.cst (.int .i64 0)))])
   (.block 2 (.loop [25, 26, 27, 8, 28, 29, 30, 31, 32, 33, 34, 35, 36, 37, 38, 39, 40, 41, 42, 43, 9, 44, 45, 46, 47, 48, 49, 50, 51, 52, 53, 54, 55, 56, 57, 58, 59, 60, 61, 62, 63, 64, 2, 65] (.seq (.reg [o 25 (.bin .lss (t 24) (t 23))])
     (.seq (.cond (t 25)
      (.skip)
      (.exit 2))
     (.seq (.block 3 (.seq (.reg [o 26 (.idxAddr 1 (t 22) (t 24)),
        o 27 (.load none (t 26)),
        o 8 (.mov (t 27))])
      (.seq (.seq (.reg [o 28 (.mov (t 0)),
        o 29 (.mov (t 8)),
        o 30 (.call 0 (.fn 68) [(t 28), (t 29)]),
        o 31 (.not (t 30))])
      (.cond (t 31)
       (.exit 3)
       (.skip)))
      (.seq (.seq (.reg [o 32 (.mov (t 5)),
        o 33 (.mov (t 8)),
        o 34 (.lookup (.scal .int) (.int .i64 0) false (t 32) (t 33)),
        o 35 (.bin .add (t 34) (.cst (.int .i64 1))),
        e (.mapUpd (.scal .int) (t 32) (t 33) (t 35))])
      (.seq (.reg [o 36 (.mov (t 5)),
        o 37 (.mov (t 8)),
        o 38 (.lookup (.scal .int) (.int .i64 0) false (t 36) (t 37)),
        o 39 (.bin .gtr (t 38) (.cst (.int .i64 1)))])
      (.cond (t 39)
       (.seq (.reg [o 2 (.mov (.cst (.bool true)))])
       (.ret))
       (.skip))))
      (.seq (.reg [o 40 (.mov (t 0)),
        o 41 (.mov (t 8)),
        o 42 (.idxAddr 4 (t 40) (t 41)),
        o 43 (.load (some 4) (t 42)),
        o 9 (.alloc [(.int .i64 0), (.str []), (.str []), .nils]),
        e (.store 4 (t 9) (t 43))])
      (.seq (.reg [o 44 (.fieldAddr 0 (t 9)),
        o 45 (.load none (t 44)),
        o 46 (.bin .eql (t 45) (.cst (.int .i64 0)))])
      (.cond (t 46)
       (.seq (.dreg [o 47 (.mov (t 6)),
         o 48 (.fieldAddr 1 (t 9)),
         o 49 (.load none (t 48)),
         o 50 (.fieldAddr 2 (t 9)),
         o 51 (.load none (t 50)),
         o 52 (.build [(.str []), (.str [])] [(0, 1, (t 49)), (1, 1, (t 51))]),
         o 53 (.lookup (.struct [.str, .str]) (.int .i64 0) false (t 47) (t 52)),
         o 54 (.bin .add (t 53) (.cst (.int .i64 1))),
         o 55 (.mapEntry (.struct [.str, .str]) (.int .i64 0) (t 47) (t 52)),
         o 56 (.extract 1 (t 55)),
         e (.entrySt (t 47) (t 56) (t 54))] [[], [], [1], [], [3], [1, 2, 3, 4], [0, 1, 2, 3, 4, 5], [0, 1, 2, 3, 4, 5, 6], [0, 1, 2, 3, 4, 5], [0, 1, 2, 3, 4, 5, 8], [0, 1, 2, 3, 4, 5, 8, 9, 6, 7]])
       (.seq (.reg [o 57 (.mov (t 6)),
         o 58 (.fieldAddr 1 (t 9)),
         o 59 (.load none (t 58)),
         o 60 (.fieldAddr 2 (t 9)),
         o 61 (.load none (t 60)),
         o 62 (.build [(.str []), (.str [])] [(0, 1, (t 59)), (1, 1, (t 61))]),
         o 63 (.lookup (.struct [.str, .str]) (.int .i64 0) false (t 57) (t 62)),
         o 64 (.bin .gtr (t 63) (.cst (.int .i64 1)))])
       (.cond (t 64)
        (.seq (.reg [o 2 (.mov (.cst (.bool true)))])
        (.ret))
        (.skip))))
       (.skip))))))))
     (.gh [.kill [26, 27, 8, 28, 29, 30, 31, 32, 33, 34, 35, 36, 37, 38, 39, 40, 41, 42, 43, 9, 44, 45, 46, 47, 48, 49, 50, 51, 52, 53, 54, 55, 56, 57, 58, 59, 60, 61, 62, 63, 64, 2]] (.reg [o 65 (.bin .add (t 24) (.cst (.int .i64 1))),
       o 24 (.mov (t 65))]))))))))))))
  (.gh [.kill [14, 15, 4, 16, 17, 18, 19, 20, 5, 6, 21, 22, 23, 25, 26, 27, 8, 28, 29, 30, 31, 32, 33, 34, 35, 36, 37, 38, 39, 40, 41, 42, 43, 9, 44, 45, 46, 47, 48, 49, 50, 51, 52, 53, 54, 55, 56, 57, 58, 59, 60, 61, 62, 63, 64, 2, 65, 24]] (.reg [o 66 (.bin .add (t 12) (.cst (.int .i64 1))),
    o 12 (.mov (t 66))]))))))))
(.seq (.reg [o 2 (.mov (.cst (.bool false)))])
(.ret))), [.tmp 2]⟩
theorem ir49_tr : trF Tryd.prog ir49 Tryd.f49 = some ir49 := by kernel_rfl

-- grille/flatten.unless
def ir50 : IF := ⟨9, .seq (.reg [o 4 (.mov (.cst (.str [])))])
(.seq (.seq (.reg [o 5 (.mov (t 0)),
  o 6 (.mov (t 1)),
  o 7 (.bin .eql (t 5) (t 6))])
(.cond (t 7)
 (.seq (.reg [o 4 (.mov (.cst (.str [])))])
 (.ret))
 (.skip)))
(.seq (.reg [o 8 (.mov (t 0)),
  o 4 (.mov (t 8))])
(.ret))), [.tmp 4]⟩
theorem ir50_tr : trF Tryd.prog ir50 Tryd.f50 = some ir50 := by kernel_rfl

-- grille/scalar.Plain
def ir51 : IF := ⟨49, .seq (.reg [o 2 (.mov (.cst (.bool false)))])
(.seq (.reg [o 3 (.mov (.fn 76))])
(.seq (.block 0 (.seq (.reg [o 5 (.mov (t 0)),
   o 6 (.bin .eql (t 5) (.cst (.str []))),
   o 7 (.mov (t 6)),
   og 8 7 false (.mov (t 0)),
   og 9 7 false (.bin .eql (t 8) (.cst (.str [45, 45, 45]))),
   o 10 (.pick (t 7) (.cst (.bool true)) (t 9)),
   o 11 (.mov (t 10)),
   og 12 11 false (.mov (t 0)),
   og 13 11 false (.bin .eql (t 12) (.cst (.str [46, 46, 46]))),
   o 14 (.pick (t 11) (.cst (.bool true)) (t 13)),
   o 15 (.mov (t 14)),
   og 16 15 false (.mov (t 0)),
   og 17 15 false (.call 0 (.fn 70) [(t 16)]),
   og 18 15 false (.not (t 17)),
   o 19 (.pick (t 15) (.cst (.bool true)) (t 18)),
   o 4 (.mov (t 19))])
 (.gh [.kill [5, 6, 7, 8, 9, 10, 11, 12, 13, 14, 15, 16, 17, 18, 19]] (.cond (t 4)
  (.seq (.reg [o 2 (.mov (.cst (.bool false)))])
  (.ret))
  (.seq (.reg [o 21 (.mov (t 0)),
    o 22 (.idxStr (t 21) (.cst (.int .i64 0))),
    o 23 (.call 0 (.fn 78) [(.cst (.str [45, 63, 58, 44, 91, 93, 123, 125, 35, 38, 42, 33, 124, 62, 39, 34, 37, 64, 96, 32])), (t 22)]),
    o 24 (.bin .geq (t 23) (.cst (.int .i64 0))),
    o 25 (.mov (t 24)),
    og 26 25 false (.mov (t 0)),
    og 27 25 false (.call 0 (.fn 79) [(t 26), (.cst (.str [9, 10, 13, 44, 91, 93, 123, 125]))]),
    o 28 (.pick (t 25) (.cst (.bool true)) (t 27)),
    o 29 (.mov (t 28)),
    og 30 29 false (.mov (t 0)),
    og 31 29 false (.mov (t 3)),
    og 32 29 false (.call 0 (.fn 80) [(t 30), (t 31)]),
    o 33 (.pick (t 29) (.cst (.bool true)) (t 32)),
    o 20 (.mov (t 33))])
  (.gh [.kill [21, 22, 23, 24, 25, 26, 27, 28, 29, 30, 31, 32, 33]] (.cond (t 20)
   (.seq (.reg [o 2 (.mov (.cst (.bool false)))])
   (.ret))
   (.seq (.reg [o 35 (.mov (t 0)),
     o 36 (.call 0 (.fn 81) [(t 35), (.cst (.str [32]))]),
     o 37 (.mov (t 36)),
     og 38 37 false (.mov (t 0)),
     og 39 37 false (.call 0 (.fn 81) [(t 38), (.cst (.str [58]))]),
     o 40 (.pick (t 37) (.cst (.bool true)) (t 39)),
     o 34 (.mov (t 40))])
   (.gh [.kill [35, 36, 37, 38, 39, 40]] (.cond (t 34)
    (.seq (.reg [o 2 (.mov (.cst (.bool false)))])
    (.ret))
    (.skip)))))))))))
(.seq (.reg [o 41 (.mov (t 0)),
  o 42 (.call 0 (.fn 82) [(t 41), (.cst (.str [58, 32]))]),
  o 43 (.not (t 42)),
  o 44 (.mov (t 43)),
  og 45 44 true (.mov (t 0)),
  og 46 44 true (.call 0 (.fn 82) [(t 45), (.cst (.str [32, 35]))]),
  og 47 44 true (.not (t 46)),
  o 48 (.pick (t 44) (t 47) (.cst (.bool false))),
  o 2 (.mov (t 48))])
(.ret)))), [.tmp 2]⟩
theorem ir51_tr : trF Tryd.prog ir51 Tryd.f51 = some ir51 := by kernel_rfl

-- grille/tag.Resolve
def ir52 : IF := ⟨33, .seq (.reg [o 2 (.mov (.cst (.str [])))])
(.seq (.seq (.reg [o 3 (.mov (t 0))])
(.block 0 (.seq (.seq (.reg [o 5 (.bin .eql (t 3) (.cst (.str []))),
   o 4 (.mov (t 5))])
 (.cond (t 4)
  (.skip)
  (.seq (.reg [o 6 (.bin .eql (t 3) (.cst (.str [126]))),
    o 4 (.mov (t 6))])
  (.cond (t 4)
   (.skip)
   (.seq (.reg [o 7 (.bin .eql (t 3) (.cst (.str [110, 117, 108, 108]))),
     o 4 (.mov (t 7))])
   (.cond (t 4)
    (.skip)
    (.seq (.reg [o 8 (.bin .eql (t 3) (.cst (.str [78, 117, 108, 108]))),
      o 4 (.mov (t 8))])
    (.cond (t 4)
     (.skip)
     (.reg [o 9 (.bin .eql (t 3) (.cst (.str [78, 85, 76, 76]))),
       o 4 (.mov (t 9))])))))))))
 (.gh [.kill [5, 6, 7, 8, 9]] (.cond (t 4)
  (.seq (.reg [o 2 (.mov (.cst (.str [110, 117, 108, 108])))])
  (.ret))
  (.seq (.seq (.reg [o 11 (.bin .eql (t 3) (.cst (.str [116, 114, 117, 101]))),
    o 10 (.mov (t 11))])
  (.cond (t 10)
   (.skip)
   (.seq (.reg [o 12 (.bin .eql (t 3) (.cst (.str [84, 114, 117, 101]))),
     o 10 (.mov (t 12))])
   (.cond (t 10)
    (.skip)
    (.seq (.reg [o 13 (.bin .eql (t 3) (.cst (.str [84, 82, 85, 69]))),
      o 10 (.mov (t 13))])
    (.cond (t 10)
     (.skip)
     (.seq (.reg [o 14 (.bin .eql (t 3) (.cst (.str [102, 97, 108, 115, 101]))),
       o 10 (.mov (t 14))])
     (.cond (t 10)
      (.skip)
      (.seq (.reg [o 15 (.bin .eql (t 3) (.cst (.str [70, 97, 108, 115, 101]))),
        o 10 (.mov (t 15))])
      (.cond (t 10)
       (.skip)
       (.reg [o 16 (.bin .eql (t 3) (.cst (.str [70, 65, 76, 83, 69]))),
         o 10 (.mov (t 16))])))))))))))
  (.gh [.kill [11, 12, 13, 14, 15, 16]] (.cond (t 10)
   (.seq (.reg [o 2 (.mov (.cst (.str [98, 111, 111, 108])))])
   (.ret))
   (.seq (.seq (.reg [o 18 (.bin .eql (t 3) (.cst (.str [46, 110, 97, 110]))),
     o 17 (.mov (t 18))])
   (.cond (t 17)
    (.skip)
    (.seq (.reg [o 19 (.bin .eql (t 3) (.cst (.str [46, 78, 97, 78]))),
      o 17 (.mov (t 19))])
    (.cond (t 17)
     (.skip)
     (.reg [o 20 (.bin .eql (t 3) (.cst (.str [46, 78, 65, 78]))),
       o 17 (.mov (t 20))])))))
   (.gh [.kill [18, 19, 20]] (.cond (t 17)
    (.seq (.reg [o 2 (.mov (.cst (.str [102, 108, 111, 97, 116])))])
    (.ret))
    (.skip))))))))))))
(.seq (.seq (.reg [o 21 (.mov (t 0)),
  o 22 (.call 0 (.fn 83) [(t 21)])])
(.block 1 (.seq (.seq (.reg [o 24 (.bin .eql (t 22) (.cst (.str [46, 105, 110, 102]))),
   o 23 (.mov (t 24))])
 (.cond (t 23)
  (.skip)
  (.seq (.reg [o 25 (.bin .eql (t 22) (.cst (.str [46, 73, 110, 102]))),
    o 23 (.mov (t 25))])
  (.cond (t 23)
   (.skip)
   (.reg [o 26 (.bin .eql (t 22) (.cst (.str [46, 73, 78, 70]))),
     o 23 (.mov (t 26))])))))
 (.gh [.kill [24, 25, 26]] (.cond (t 23)
  (.seq (.reg [o 2 (.mov (.cst (.str [102, 108, 111, 97, 116])))])
  (.ret))
  (.skip))))))
(.seq (.block 2 (.seq (.reg [o 28 (.mov (t 0)),
   o 29 (.call 0 (.fn 84) [(t 28)]),
   o 27 (.mov (t 29))])
 (.cond (t 27)
  (.seq (.reg [o 2 (.mov (.cst (.str [105, 110, 116])))])
  (.ret))
  (.seq (.reg [o 31 (.mov (t 0)),
    o 32 (.call 0 (.fn 85) [(t 31)]),
    o 30 (.mov (t 32))])
  (.cond (t 30)
   (.seq (.reg [o 2 (.mov (.cst (.str [102, 108, 111, 97, 116])))])
   (.ret))
   (.skip))))))
(.seq (.reg [o 2 (.mov (.cst (.str [115, 116, 114])))])
(.ret))))), [.tmp 2]⟩
theorem ir52_tr : trF Tryd.prog ir52 Tryd.f52 = some ir52 := by kernel_rfl

-- grille/compose.named
def ir53 : IF := ⟨24, .seq (.reg [o 4 (.mov (.cst (.str []))),
  o 5 (.mov (.cst (.int .i64 0)))])
(.seq (.block 0 (.seq (.reg [o 7 (.mov (t 0)),
   o 8 (.bin .eql (t 7) (.cst (.str []))),
   o 9 (.mov (t 8)),
   og 10 9 false (.mov (t 0)),
   og 11 9 false (.mov (t 1)),
   og 12 9 false (.bin .eql (t 10) (t 11)),
   o 13 (.pick (t 9) (.cst (.bool true)) (t 12)),
   o 6 (.mov (t 13))])
 (.gh [.kill [7, 8, 9, 10, 11, 12, 13]] (.cond (t 6)
  (.seq (.reg [o 14 (.mov (t 1)),
    o 4 (.mov (t 14)),
    o 5 (.mov (.cst (.int .i64 0)))])
  (.ret))
  (.seq (.reg [o 16 (.mov (t 0)),
    o 17 (.call 0 (.fn 71) [(t 16)]),
    o 18 (.mov (t 17)),
    og 19 18 true (.mov (t 0)),
    og 20 18 true (.call 0 (.fn 72) [(t 19)]),
    og 21 18 true (.not (t 20)),
    o 22 (.pick (t 18) (t 21) (.cst (.bool false))),
    o 15 (.mov (t 22))])
  (.gh [.kill [16, 17, 18, 19, 20, 21, 22]] (.cond (t 15)
   (.seq (.reg [o 23 (.mov (t 0)),
     o 4 (.mov (t 23)),
     o 5 (.mov (.cst (.int .i64 0)))])
   (.ret))
   (.skip))))))))
(.seq (.reg [o 4 (.mov (.cst (.str []))),
  o 5 (.mov (.cst (.int .i64 14)))])
(.ret))), [.tmp 4, .tmp 5]⟩
theorem ir53_tr : trF Tryd.prog ir53 Tryd.f53 = some ir53 := by kernel_rfl

-- grille/tag.Fits
def ir54 : IF := ⟨28, .seq (.reg [o 4 (.mov (.cst (.bool false)))])
(.seq (.seq (.reg [o 6 (.mov (t 0)),
  o 7 (.call 0 (.fn 86) [(t 6)]),
  o 8 (.not (t 7))])
(.cond (t 8)
 (.seq (.reg [o 9 (.mov (t 0)),
   o 10 (.bin .eql (t 9) (.cst (.str [115, 116, 114]))),
   o 11 (.mov (t 10)),
   og 12 11 false (.mov (t 0)),
   og 13 11 false (.call 0 (.fn 87) [(t 12)]),
   o 14 (.pick (t 11) (.cst (.bool true)) (t 13)),
   o 4 (.mov (t 14))])
 (.ret))
 (.skip)))
(.seq (.reg [o 15 (.mov (t 1)),
  o 16 (.call 0 (.fn 52) [(t 15)]),
  o 5 (.mov (t 16))])
(.seq (.reg [o 17 (.mov (t 5)),
  o 18 (.mov (t 0)),
  o 19 (.bin .eql (t 17) (t 18)),
  o 20 (.mov (t 19)),
  og 21 20 false (.mov (t 0)),
  og 22 20 false (.bin .eql (t 21) (.cst (.str [102, 108, 111, 97, 116]))),
  og 23 20 false (.mov (t 22)),
  og 24 23 true (.mov (t 5)),
  og 25 23 true (.bin .eql (t 24) (.cst (.str [105, 110, 116]))),
  og 26 20 false (.pick (t 23) (t 25) (.cst (.bool false))),
  o 27 (.pick (t 20) (.cst (.bool true)) (t 26)),
  o 4 (.mov (t 27))])
(.ret)))), [.tmp 4]⟩
theorem ir54_tr : trF Tryd.prog ir54 Tryd.f54 = some ir54 := by kernel_rfl

-- slices.EqualFunc[grille/arena.Graph,grille/arena.Graph,grille/arena.Node,grille/arena.Node]
def ir55 : IF := ⟨32, .seq (.reg [o 6 (.mov (.cst (.bool false)))])
(.seq (.seq (.reg [o 10 (.mov (t 0)),
  o 11 (.len .row (t 10)),
  o 12 (.mov (t 1)),
  o 13 (.len .row (t 12)),
  o 14 (.bin .neq (t 11) (t 13))])
(.cond (t 14)
 (.seq (.reg [o 6 (.mov (.cst (.bool false)))])
 (.ret))
 (.skip)))
(.seq (.seq (.reg [o 15 (.mov (t 0)),
  o 16 (.len .row (t 15)),
  o 17 (.mov (.cst (.int .i64 0)))])
(.block 0 (.loop [18, 19, 20, 21, 8, 7, 22, 23, 24, 25, 9, 26, 27, 28, 29, 30, 6, 31] (.seq (.reg [o 18 (.bin .lss (t 17) (t 16))])
  (.seq (.cond (t 18)
   (.skip)
   (.exit 0))
  (.seq (.block 1 (.seq (.reg [o 19 (.mov (t 17)),
     o 20 (.idxAddr 4 (t 15) (t 17)),
     o 21 (.load (some 4) (t 20)),
     o 8 (.alloc [(.int .i64 0), (.str []), (.str []), .nils]),
     o 7 (.mov (t 19)),
     e (.store 4 (t 8) (t 21))])
   (.seq (.reg [o 22 (.mov (t 1)),
     o 23 (.mov (t 7)),
     o 24 (.idxAddr 4 (t 22) (t 23)),
     o 25 (.load (some 4) (t 24)),
     o 9 (.alloc [(.int .i64 0), (.str []), (.str []), .nils]),
     e (.store 4 (t 9) (t 25))])
   (.seq (.reg [o 26 (.mov (t 2)),
     o 27 (.load (some 4) (t 8)),
     o 28 (.load (some 4) (t 9)),
     o 29 (.call 0 (t 26) [(t 27), (t 28)]),
     o 30 (.not (t 29))])
   (.cond (t 30)
    (.seq (.reg [o 6 (.mov (.cst (.bool false)))])
    (.ret))
    (.skip))))))
  (.reg [o 31 (.bin .add (t 17) (.cst (.int .i64 1))),
    o 17 (.mov (t 31))])))))))
(.seq (.reg [o 6 (.mov (.cst (.bool true)))])
(.ret)))), [.tmp 6]⟩
theorem ir55_tr : trF Tryd.prog ir55 Tryd.f55 = some ir55 := by kernel_rfl

-- grille/arena.equal
def ir56 : IF := ⟨31, .seq (.reg [o 2 (.box (t 0)),
  o 3 (.box (t 1)),
  o 4 (.mov (.cst (.bool false)))])
(.seq (.reg [o 5 (.fieldAddr 0 (t 2)),
  o 6 (.load none (t 5)),
  o 7 (.fieldAddr 0 (t 3)),
  o 8 (.load none (t 7)),
  o 9 (.bin .eql (t 6) (t 8)),
  o 10 (.mov (t 9)),
  og 11 10 true (.fieldAddr 1 (t 2)),
  og 12 10 true (.load none (t 11)),
  og 13 10 true (.fieldAddr 1 (t 3)),
  og 14 10 true (.load none (t 13)),
  og 15 10 true (.bin .eql (t 12) (t 14)),
  o 16 (.pick (t 10) (t 15) (.cst (.bool false))),
  o 17 (.mov (t 16)),
  og 18 17 true (.fieldAddr 2 (t 2)),
  og 19 17 true (.load none (t 18)),
  og 20 17 true (.fieldAddr 2 (t 3)),
  og 21 17 true (.load none (t 20)),
  og 22 17 true (.bin .eql (t 19) (t 21)),
  o 23 (.pick (t 17) (t 22) (.cst (.bool false))),
  o 24 (.mov (t 23)),
  og 25 24 true (.fieldAddr 3 (t 2)),
  og 26 24 true (.load none (t 25)),
  og 27 24 true (.fieldAddr 3 (t 3)),
  og 28 24 true (.load none (t 27)),
  og 29 24 true (.call 0 (.fn 88) [(t 26), (t 28)]),
  o 30 (.pick (t 24) (t 29) (.cst (.bool false))),
  o 4 (.mov (t 30))])
(.ret)), [.tmp 4]⟩
theorem ir56_tr : trF Tryd.prog ir56 Tryd.f56 = some ir56 := by kernel_rfl

-- (grille/budget.Limits).keeps
def ir57 : IF := ⟨13, .seq (.reg [o 2 (.box (t 0)),
  o 4 (.mov (.cst (.int .i64 0)))])
(.seq (.block 0 (.seq (.reg [o 6 (.load (some 5) (t 2)),
   o 7 (.call 0 (.fn 27) [(t 6)]),
   o 8 (.not (t 7)),
   o 5 (.mov (t 8))])
 (.cond (t 5)
  (.seq (.reg [o 4 (.mov (.cst (.int .i64 2)))])
  (.ret))
  (.seq (.reg [o 10 (.mov (t 1)),
    o 11 (.call 0 (t 10) []),
    o 12 (.not (t 11)),
    o 9 (.mov (t 12))])
  (.cond (t 9)
   (.seq (.reg [o 4 (.mov (.cst (.int .i64 16)))])
   (.ret))
   (.skip))))))
(.seq (.reg [o 4 (.mov (.cst (.int .i64 0)))])
(.ret))), [.tmp 4]⟩
theorem ir57_tr : trF Tryd.prog ir57 Tryd.f57 = some ir57 := by kernel_rfl

-- grille/budget.Input$1
def ir58 : IF := ⟨8, .seq (.reg [o 2 (.mov (.cst (.bool false)))])
(.seq (.reg [o 3 (.load none (t 0)),
  o 4 (.len .row (t 3)),
  o 5 (.fieldAddr 0 (t 1)),
  o 6 (.load none (t 5)),
  o 7 (.bin .leq (t 4) (t 6)),
  o 2 (.mov (t 7))])
(.ret)), [.tmp 2]⟩
theorem ir58_tr : trF Tryd.prog ir58 Tryd.f58 = some ir58 := by kernel_rfl

-- grille/budget.Output$1
def ir59 : IF := ⟨8, .seq (.reg [o 2 (.mov (.cst (.bool false)))])
(.seq (.reg [o 3 (.load none (t 0)),
  o 4 (.len .row (t 3)),
  o 5 (.fieldAddr 1 (t 1)),
  o 6 (.load none (t 5)),
  o 7 (.bin .leq (t 4) (t 6)),
  o 2 (.mov (t 7))])
(.ret)), [.tmp 2]⟩
theorem ir59_tr : trF Tryd.prog ir59 Tryd.f59 = some ir59 := by kernel_rfl

-- grille/budget.Graphs$1
def ir60 : IF := ⟨6, .seq (.reg [o 2 (.mov (.cst (.bool false)))])
(.seq (.reg [o 3 (.mov (t 0)),
  o 4 (.call 0 (.fn 20) [(t 3)]),
  o 5 (.not (t 4)),
  o 2 (.mov (t 5))])
(.ret)), [.tmp 2]⟩
theorem ir60_tr : trF Tryd.prog ir60 Tryd.f60 = some ir60 := by kernel_rfl

-- slices.ContainsFunc[[]grille/arena.Graph,grille/arena.Graph]
def ir61 : IF := ⟨9, .seq (.reg [o 4 (.mov (.cst (.bool false)))])
(.seq (.reg [o 5 (.mov (t 0)),
  o 6 (.mov (t 1)),
  o 7 (.call 0 (.fn 89) [(t 5), (t 6)]),
  o 8 (.bin .geq (t 7) (.cst (.int .i64 0))),
  o 4 (.mov (t 8))])
(.ret)), [.tmp 4]⟩
theorem ir61_tr : trF Tryd.prog ir61 Tryd.f61 = some ir61 := by kernel_rfl

-- grille/budget.Graphs$2
def ir62 : IF := ⟨17, .seq (.reg [o 2 (.mov (.cst (.bool false)))])
(.seq (.reg [o 4 (.load none (t 0)),
  o 5 (.call 0 (.fn 41) [(t 4)]),
  o 3 (.alloc [(.int .i64 0), (.int .i64 0), (.int .i64 0), (.int .i64 0), (.int .i64 0)]),
  e (.store 5 (t 3) (t 5))])
(.seq (.dreg [o 6 (.fieldAddr 0 (t 1)),
  o 7 (.load none (t 6)),
  o 8 (.fieldAddr 1 (t 1)),
  o 9 (.load none (t 8)),
  o 10 (.fieldAddr 0 (t 3)),
  e (.store 1 (t 10) (t 7)),
  o 11 (.fieldAddr 1 (t 3)),
  e (.store 1 (t 11) (t 9))] [[], [0], [], [2], [0, 1], [0, 1, 4], [0, 1, 2, 3, 4, 5], [0, 1, 2, 3, 4, 5, 6]])
(.seq (.dreg [o 12 (.load (some 5) (t 3)),
  o 13 (.load (some 5) (t 1)),
  o 14 (.call 0 (.fn 29) [(t 12), (t 13)]),
  o 15 (.load (some 5) (t 3)),
  o 16 (.eqAgg [.int, .int, .int, .int, .int] false (t 14) (t 15)),
  o 2 (.mov (t 16))] [[], [], [0, 1], [], [0, 1, 2, 3], [0, 1, 2, 3, 4]])
(.ret)))), [.tmp 2]⟩
theorem ir62_tr : trF Tryd.prog ir62 Tryd.f62 = some ir62 := by kernel_rfl

-- grille/arena.Ins
def ir63 : IF := ⟨36, .seq (.reg [o 2 (.mov (.cst .nils))])
(.seq (.seq (.reg [o 8 (.mov (t 0)),
  o 9 (.call 0 (.fn 20) [(t 8)]),
  o 10 (.not (t 9))])
(.cond (t 10)
 (.seq (.reg [o 2 (.mov (.cst .nils))])
 (.ret))
 (.skip)))
(.seq (.reg [o 11 (.mov (t 0)),
  o 12 (.len .row (t 11)),
  o 13 (.make .ref 1 8 [(.int .i64 0)] (t 12) (t 12)),
  o 3 (.mov (t 13))])
(.seq (.seq (.reg [o 14 (.mov (t 0)),
  o 15 (.len .row (t 14)),
  o 16 (.mov (.cst (.int .i64 0)))])
(.block 0 (.loop [17, 18, 19, 5, 20, 21, 22, 24, 25, 26, 7, 27, 28, 29, 30, 31, 32, 33, 23, 34] (.seq (.reg [o 17 (.bin .lss (t 16) (t 15))])
  (.seq (.cond (t 17)
   (.skip)
   (.exit 0))
  (.seq (.block 1 (.seq (.reg [o 18 (.idxAddr 4 (t 14) (t 16)),
     o 19 (.load (some 4) (t 18)),
     o 5 (.alloc [(.int .i64 0), (.str []), (.str []), .nils]),
     e (.store 4 (t 5) (t 19))])
   (.seq (.reg [o 20 (.fieldAddr 3 (t 5)),
     o 21 (.load none (t 20)),
     o 22 (.len .row (t 21)),
     o 23 (.mov (.cst (.int .i64 0)))])
   (.block 2 (.loop [24, 25, 26, 7, 27, 28, 29, 30, 31, 32, 33] (.seq (.reg [o 24 (.bin .lss (t 23) (t 22))])
     (.seq (.cond (t 24)
      (.skip)
      (.exit 2))
     (.seq (.block 3 (.seq (.reg [o 25 (.idxAddr 1 (t 21) (t 23)),
        o 26 (.load none (t 25)),
        o 7 (.mov (t 26))])
      (.reg [o 27 (.mov (t 3)),
        o 28 (.mov (t 7)),
        o 29 (.idxAddr 1 (t 27) (t 28)),
        o 30 (.load none (t 29)),
        o 31 (.bin .add (t 30) (.cst (.int .i64 1))),
        o 32 (.idxAddr 1 (t 27) (t 28)),
        e (.store 1 (t 32) (t 31))])))
     (.reg [o 33 (.bin .add (t 23) (.cst (.int .i64 1))),
       o 23 (.mov (t 33))])))))))))
  (.reg [o 34 (.bin .add (t 16) (.cst (.int .i64 1))),
    o 16 (.mov (t 34))])))))))
(.seq (.gh [.sealT 3] (.reg [o 35 (.mov (t 3)),
  o 2 (.mov (t 35))]))
(.ret))))), [.tmp 2]⟩
theorem ir63_tr : trF Tryd.prog ir63 Tryd.f63 = some ir63 := by kernel_rfl

-- (*grille/flatten.teller).node
def ir65 : IF := ⟨82, .seq (.reg [o 2 (.box (t 0))])
(.seq (.seq (.reg [o 6 (.mov (t 1)),
  o 7 (.load none (t 2)),
  o 8 (.nilck (t 7)),
  o 9 (.fieldAddr 3 (t 8)),
  o 10 (.load none (t 9)),
  o 11 (.bin .lss (t 6) (t 10))])
(.cond (t 11)
 (.seq (.dreg [o 12 (.load none (t 2)),
   o 13 (.load none (t 2)),
   o 14 (.nilck (t 13)),
   o 15 (.fieldAddr 1 (t 14)),
   o 16 (.load none (t 15)),
   o 17 (.load none (t 2)),
   o 18 (.nilck (t 17)),
   o 19 (.fieldAddr 2 (t 18)),
   o 20 (.load none (t 19)),
   o 21 (.mov (t 1)),
   o 22 (.idxAddr 1 (t 20) (t 21)),
   o 23 (.load none (t 22)),
   o 24 (.build [(.int .i64 0), (.str []), (.str []), (.str []), (.bool false)] [(0, 1, (.cst (.int .i64 7))), (1, 1, (t 23))]),
   o 25 (.lit .ro 5 [(t 24)]),
   o 26 (.append .tok 5 64 (t 16) (t 25)),
   o 27 (.nilck (t 12)),
   o 28 (.fieldAddr 1 (t 27)),
   e (.store 1 (t 28) (t 26))] [[], [], [1], [1, 2], [1, 2, 3], [], [5], [5, 6], [5, 6, 7], [], [5, 6, 7, 8, 9], [5, 6, 7, 8, 9, 10], [5, 6, 7, 8, 9, 10, 11], [5, 6, 7, 8, 9, 10, 11, 12], [1, 2, 3, 4, 5, 6, 7, 8, 9, 10, 11, 12, 13], [0, 1, 2, 3, 4, 5, 6, 7, 8, 9, 10, 11, 12, 13, 14], [0, 1, 2, 3, 4, 5, 6, 7, 8, 9, 10, 11, 12, 13, 14, 15], [0, 1, 2, 3, 4, 5, 6, 7, 8, 9, 10, 11, 12, 13, 14, 15, 16]])
 (.ret))
 (.skip)))
(.seq (.reg [o 29 (.load none (t 2)),
  o 30 (.nilck (t 29)),
  o 31 (.fieldAddr 3 (t 30)),
  o 32 (.load none (t 31)),
  o 33 (.bin .add (t 32) (.cst (.int .i64 1))),
  o 34 (.nilck (t 29)),
  o 35 (.fieldAddr 3 (t 34)),
  e (.store 1 (t 35) (t 33))])
(.seq (.reg [o 36 (.load none (t 2)),
  o 37 (.nilck (t 36)),
  o 38 (.fieldAddr 0 (t 37)),
  o 39 (.load none (t 38)),
  o 40 (.mov (t 1)),
  o 41 (.idxAddr 4 (t 39) (t 40)),
  o 42 (.load (some 4) (t 41)),
  o 4 (.alloc [(.int .i64 0), (.str []), (.str []), .nils]),
  e (.store 4 (t 4) (t 42))])
(.seq (.reg [o 43 (.load (some 4) (t 4)),
  o 44 (.call 0 (.fn 21) [(t 43)]),
  o 5 (.alloc [(.int .i64 0), (.str []), (.str []), (.str []), (.bool false)]),
  e (.store 5 (t 5) (t 44))])
(.seq (.reg [o 45 (.load none (t 2)),
  o 46 (.nilck (t 45)),
  o 47 (.fieldAddr 2 (t 46)),
  o 48 (.load none (t 47)),
  o 49 (.mov (t 1)),
  o 50 (.idxAddr 1 (t 48) (t 49)),
  o 51 (.load none (t 50)),
  o 52 (.fieldAddr 1 (t 5)),
  e (.store 1 (t 52) (t 51))])
(.seq (.dreg [o 53 (.load none (t 2)),
  o 54 (.load none (t 2)),
  o 55 (.nilck (t 54)),
  o 56 (.fieldAddr 1 (t 55)),
  o 57 (.load none (t 56)),
  o 58 (.load (some 5) (t 5)),
  o 59 (.lit .ro 5 [(t 58)]),
  o 60 (.append .tok 5 64 (t 57) (t 59)),
  o 61 (.nilck (t 53)),
  o 62 (.fieldAddr 1 (t 61)),
  e (.store 1 (t 62) (t 60))] [[], [], [1], [1, 2], [1, 2, 3], [], [5], [1, 2, 3, 4, 5, 6], [0, 1, 2, 3, 4, 5, 6, 7], [0, 1, 2, 3, 4, 5, 6, 7, 8], [0, 1, 2, 3, 4, 5, 6, 7, 8, 9]])
(.seq (.seq (.reg [o 63 (.fieldAddr 0 (t 4)),
  o 64 (.load none (t 63)),
  o 65 (.bin .eql (t 64) (.cst (.int .i64 0)))])
(.cond (t 65)
 (.ret)
 (.skip)))
(.seq (.reg [o 66 (.load none (t 2)),
  o 67 (.mkFn (.func 92) [] [(t 4), (t 2)]),
  o 68 (.call 0 (.fn 91) [(t 66), (t 67)])])
(.dreg [o 69 (.load none (t 2)),
  o 70 (.load none (t 2)),
  o 71 (.nilck (t 70)),
  o 72 (.fieldAddr 1 (t 71)),
  o 73 (.load none (t 72)),
  o 74 (.fieldAddr 0 (t 5)),
  o 75 (.load none (t 74)),
  o 76 (.bin .add (t 75) (.cst (.int .i64 1))),
  o 77 (.build [(.int .i64 0), (.str []), (.str []), (.str []), (.bool false)] [(0, 1, (t 76))]),
  o 78 (.lit .ro 5 [(t 77)]),
  o 79 (.append .tok 5 64 (t 73) (t 78)),
  o 80 (.nilck (t 69)),
  o 81 (.fieldAddr 1 (t 80)),
  e (.store 1 (t 81) (t 79))] [[], [], [1], [1, 2], [1, 2, 3], [], [5], [5, 6], [5, 6, 7], [5, 6, 7, 8], [1, 2, 3, 4, 5, 6, 7, 8, 9], [0, 1, 2, 3, 4, 5, 6, 7, 8, 9, 10], [0, 1, 2, 3, 4, 5, 6, 7, 8, 9, 10, 11], [0, 1, 2, 3, 4, 5, 6, 7, 8, 9, 10, 11, 12]]))))))))), []⟩
theorem ir65_tr : trF Tryd.prog ir65 Tryd.f65 = some ir65 := by kernel_rfl

-- grille/arena.Order$1
def ir66 : IF := ⟨37, .seq (.seq (.reg [o 8 (.load none (t 1)),
  o 9 (.mov (t 0)),
  o 10 (.idxAddr 1 (t 8) (t 9)),
  o 11 (.load none (t 10)),
  o 12 (.bin .add (t 11) (.cst (.int .i64 1))),
  o 13 (.idxAddr 1 (t 8) (t 9)),
  e (.store 1 (t 13) (t 12))])
(.seq (.reg [o 14 (.load none (t 1)),
  o 15 (.mov (t 0)),
  o 16 (.idxAddr 1 (t 14) (t 15)),
  o 17 (.load none (t 16)),
  o 18 (.bin .gtr (t 17) (.cst (.int .i64 1)))])
(.cond (t 18)
 (.ret)
 (.skip))))
(.seq (.reg [o 19 (.load none (t 2)),
  o 20 (.mov (t 0)),
  o 21 (.lit .ro 1 [(t 20)]),
  o 22 (.append .tok 1 8 (t 19) (t 21)),
  e (.store 1 (t 2) (t 22))])
(.seq (.reg [o 23 (.load none (t 3)),
  o 24 (.mov (t 0)),
  o 25 (.idxAddr 4 (t 23) (t 24)),
  o 26 (.fieldAddr 3 (t 25)),
  o 27 (.load none (t 26)),
  o 28 (.len .row (t 27)),
  o 29 (.mov (.cst (.int .i64 0)))])
(.block 0 (.loop [30, 31, 32, 7, 33, 34, 35, 36] (.seq (.reg [o 30 (.bin .lss (t 29) (t 28))])
  (.seq (.cond (t 30)
   (.skip)
   (.exit 0))
  (.seq (.block 1 (.seq (.reg [o 31 (.idxAddr 1 (t 27) (t 29)),
     o 32 (.load none (t 31)),
     o 7 (.mov (t 32))])
   (.reg [o 33 (.load none (t 4)),
     o 34 (.mov (t 7)),
     o 35 (.call 0 (t 33) [(t 34)])])))
  (.reg [o 36 (.bin .add (t 29) (.cst (.int .i64 1))),
    o 29 (.mov (t 36))])))))))), []⟩
theorem ir66_tr : trF Tryd.prog ir66 Tryd.f66 = some ir66 := by kernel_rfl

-- (grille/arena.Graph).right$1
def ir67 : IF := ⟨8, .seq (.reg [o 3 (.mov (.cst (.bool false)))])
(.seq (.reg [o 4 (.load none (t 1)),
  o 5 (.mov (t 0)),
  o 6 (.call 0 (.fn 68) [(t 4), (t 5)]),
  o 7 (.not (t 6)),
  o 3 (.mov (t 7))])
(.ret)), [.tmp 3]⟩
theorem ir67_tr : trF Tryd.prog ir67 Tryd.f67 = some ir67 := by kernel_rfl

-- (grille/arena.Graph).has
def ir68 : IF := ⟨13, .seq (.reg [o 4 (.mov (.cst (.bool false)))])
(.seq (.reg [o 5 (.mov (t 1)),
  o 6 (.bin .geq (t 5) (.cst (.int .i64 0))),
  o 7 (.mov (t 6)),
  og 8 7 true (.mov (t 1)),
  og 9 7 true (.mov (t 0)),
  og 10 7 true (.len .row (t 9)),
  og 11 7 true (.bin .lss (t 8) (t 10)),
  o 12 (.pick (t 7) (t 11) (.cst (.bool false))),
  o 4 (.mov (t 12))])
(.ret)), [.tmp 4]⟩
theorem ir68_tr : trF Tryd.prog ir68 Tryd.f68 = some ir68 := by kernel_rfl

-- slices.ContainsFunc[[]int,int]
def ir69 : IF := ⟨9, .seq (.reg [o 4 (.mov (.cst (.bool false)))])
(.seq (.reg [o 5 (.mov (t 0)),
  o 6 (.mov (t 1)),
  o 7 (.call 0 (.fn 93) [(t 5), (t 6)]),
  o 8 (.bin .geq (t 7) (.cst (.int .i64 0))),
  o 4 (.mov (t 8))])
(.ret)), [.tmp 4]⟩
theorem ir69_tr : trF Tryd.prog ir69 Tryd.f69 = some ir69 := by kernel_rfl

-- grille/tag.Right
def ir71 : IF := ⟨9, .seq (.reg [o 2 (.mov (.cst (.bool false)))])
(.seq (.reg [o 3 (.mov (t 0)),
  o 4 (.call 0 (.fn 72) [(t 3)]),
  o 5 (.mov (t 4)),
  og 6 5 false (.mov (t 0)),
  og 7 5 false (.call 0 (.fn 87) [(t 6)]),
  o 8 (.pick (t 5) (.cst (.bool true)) (t 7)),
  o 2 (.mov (t 8))])
(.ret)), [.tmp 2]⟩
theorem ir71_tr : trF Tryd.prog ir71 Tryd.f71 = some ir71 := by kernel_rfl

-- grille/tag.Core
def ir72 : IF := ⟨10, .seq (.reg [o 2 (.mov (.cst (.bool false)))])
(.seq (.seq (.reg [o 3 (.mov (t 0))])
(.block 0 (.seq (.seq (.reg [o 5 (.bin .eql (t 3) (.cst (.str [115, 101, 113]))),
   o 4 (.mov (t 5))])
 (.cond (t 4)
  (.skip)
  (.seq (.reg [o 6 (.bin .eql (t 3) (.cst (.str [109, 97, 112]))),
    o 4 (.mov (t 6))])
  (.cond (t 4)
   (.skip)
   (.reg [o 7 (.bin .eql (t 3) (.cst (.str [115, 116, 114]))),
     o 4 (.mov (t 7))])))))
 (.gh [.kill [5, 6, 7]] (.cond (t 4)
  (.seq (.reg [o 2 (.mov (.cst (.bool true)))])
  (.ret))
  (.skip))))))
(.seq (.reg [o 8 (.mov (t 0)),
  o 9 (.call 0 (.fn 86) [(t 8)]),
  o 2 (.mov (t 9))])
(.ret))), [.tmp 2]⟩
theorem ir72_tr : trF Tryd.prog ir72 Tryd.f72 = some ir72 := by kernel_rfl

-- (grille/arena.Graph).right$2
def ir73 : IF := ⟨10, .seq (.reg [o 3 (.mov (.cst (.bool false)))])
(.seq (.reg [o 4 (.load none (t 1)),
  o 5 (.mov (t 0)),
  o 6 (.idxAddr 4 (t 4) (t 5)),
  o 7 (.fieldAddr 0 (t 6)),
  o 8 (.load none (t 7)),
  o 9 (.bin .neq (t 8) (.cst (.int .i64 0))),
  o 3 (.mov (t 9))])
(.ret)), [.tmp 3]⟩
theorem ir73_tr : trF Tryd.prog ir73 Tryd.f73 = some ir73 := by kernel_rfl

-- (grille/arena.Node).keys
def ir74 : IF := ⟨20, .seq (.reg [o 1 (.box (t 0)),
  o 2 (.mov (.cst .nils))])
(.seq (.seq (.reg [o 3 (.mov (.cst (.int .i64 0)))])
(.block 0 (.loop [4, 5, 6, 7, 8, 11, 12, 13, 14, 15, 16, 17, 18, 9, 10] (.seq (.seq (.reg [o 4 (.mov (t 3)),
    o 5 (.fieldAddr 3 (t 1)),
    o 6 (.load none (t 5)),
    o 7 (.len .row (t 6)),
    o 8 (.bin .lss (t 4) (t 7))])
  (.cond (t 8)
   (.skip)
   (.exit 0)))
  (.seq (.block 1 (.reg [o 11 (.mov (t 2)),
     o 12 (.fieldAddr 3 (t 1)),
     o 13 (.load none (t 12)),
     o 14 (.mov (t 3)),
     o 15 (.idxAddr 1 (t 13) (t 14)),
     o 16 (.load none (t 15)),
     o 17 (.lit .ro 1 [(t 16)]),
     o 18 (.append .tok 1 8 (t 11) (t 17)),
     o 2 (.mov (t 18))]))
  (.reg [o 9 (.mov (t 3)),
    o 10 (.bin .add (t 9) (.cst (.int .i64 2))),
    o 3 (.mov (t 10))]))))))
(.seq (.reg [o 19 (.mov (t 2)),
  o 2 (.mov (t 19))])
(.ret))), [.tmp 2]⟩
theorem ir74_tr : trF Tryd.prog ir74 Tryd.f74 = some ir74 := by kernel_rfl

-- slices.IndexFunc[grille/arena.Graph,grille/arena.Node]
def ir75 : IF := ⟨19, .seq (.reg [o 4 (.mov (.cst (.int .i64 0)))])
(.seq (.seq (.reg [o 6 (.mov (t 0)),
  o 7 (.len .row (t 6)),
  o 8 (.mov (.cst (.int .i64 0)))])
(.block 0 (.loop [9, 10, 5, 11, 12, 13, 14, 15, 16, 17, 4, 18] (.seq (.reg [o 9 (.bin .lss (t 8) (t 7))])
  (.seq (.cond (t 9)
   (.skip)
   (.exit 0))
  (.seq (.block 1 (.seq (.reg [o 10 (.mov (t 8)),
     o 5 (.mov (t 10))])
   (.seq (.reg [o 11 (.mov (t 1)),
     o 12 (.mov (t 0)),
     o 13 (.mov (t 5)),
     o 14 (.idxAddr 4 (t 12) (t 13)),
     o 15 (.load (some 4) (t 14)),
     o 16 (.call 0 (t 11) [(t 15)])])
   (.cond (t 16)
    (.seq (.reg [o 17 (.mov (t 5)),
      o 4 (.mov (t 17))])
    (.ret))
    (.skip)))))
  (.reg [o 18 (.bin .add (t 8) (.cst (.int .i64 1))),
    o 8 (.mov (t 18))])))))))
(.seq (.reg [o 4 (.mov (.cst (.int .i64 (-1))))])
(.ret))), [.tmp 4]⟩
theorem ir75_tr : trF Tryd.prog ir75 Tryd.f75 = some ir75 := by kernel_rfl

-- grille/scalar.Plain$1
def ir76 : IF := ⟨6, .seq (.reg [o 2 (.mov (.cst (.bool false)))])
(.seq (.reg [o 3 (.mov (t 0)),
  o 4 (.call 0 (.fn 77) [(t 3)]),
  o 5 (.not (t 4)),
  o 2 (.mov (t 5))])
(.ret)), [.tmp 2]⟩
theorem ir76_tr : trF Tryd.prog ir76 Tryd.f76 = some ir76 := by kernel_rfl

-- grille/text.May
def ir77 : IF := ⟨43, .seq (.reg [o 2 (.mov (.cst (.bool false)))])
(.seq (.block 0 (.seq (.reg [o 4 (.mov (t 0)),
   o 5 (.bin .eql (t 4) (.cst (.int .i32 9))),
   o 6 (.mov (t 5)),
   og 7 6 false (.mov (t 0)),
   og 8 6 false (.bin .eql (t 7) (.cst (.int .i32 10))),
   o 9 (.pick (t 6) (.cst (.bool true)) (t 8)),
   o 10 (.mov (t 9)),
   og 11 10 false (.mov (t 0)),
   og 12 10 false (.bin .eql (t 11) (.cst (.int .i32 13))),
   o 13 (.pick (t 10) (.cst (.bool true)) (t 12)),
   o 14 (.mov (t 13)),
   og 15 14 false (.mov (t 0)),
   og 16 14 false (.bin .eql (t 15) (.cst (.int .i32 133))),
   o 17 (.pick (t 14) (.cst (.bool true)) (t 16)),
   o 3 (.mov (t 17))])
 (.gh [.kill [4, 5, 6, 7, 8, 9, 10, 11, 12, 13, 14, 15, 16, 17]] (.cond (t 3)
  (.seq (.reg [o 2 (.mov (.cst (.bool true)))])
  (.ret))
  (.seq (.reg [o 19 (.mov (t 0)),
    o 20 (.bin .eql (t 19) (.cst (.int .i32 65279))),
    o 21 (.mov (t 20)),
    og 22 21 false (.mov (t 0)),
    og 23 21 false (.bin .eql (t 22) (.cst (.int .i32 65534))),
    o 24 (.pick (t 21) (.cst (.bool true)) (t 23)),
    o 25 (.mov (t 24)),
    og 26 25 false (.mov (t 0)),
    og 27 25 false (.bin .eql (t 26) (.cst (.int .i32 65535))),
    o 28 (.pick (t 25) (.cst (.bool true)) (t 27)),
    o 18 (.mov (t 28))])
  (.gh [.kill [19, 20, 21, 22, 23, 24, 25, 26, 27, 28]] (.cond (t 18)
   (.seq (.reg [o 2 (.mov (.cst (.bool false)))])
   (.ret))
   (.skip))))))))
(.seq (.reg [o 29 (.mov (t 0)),
  o 30 (.bin .geq (t 29) (.cst (.int .i32 32))),
  o 31 (.mov (t 30)),
  og 32 31 true (.mov (t 0)),
  og 33 31 true (.bin .lss (t 32) (.cst (.int .i32 127))),
  o 34 (.pick (t 31) (t 33) (.cst (.bool false))),
  o 35 (.mov (t 34)),
  og 36 35 false (.mov (t 0)),
  og 37 35 false (.bin .geq (t 36) (.cst (.int .i32 160))),
  og 38 35 false (.mov (t 37)),
  og 39 38 true (.mov (t 0)),
  og 40 38 true (.call 0 (.fn 95) [(t 39)]),
  og 41 35 false (.pick (t 38) (t 40) (.cst (.bool false))),
  o 42 (.pick (t 35) (.cst (.bool true)) (t 41)),
  o 2 (.mov (t 42))])
(.ret))), [.tmp 2]⟩
theorem ir77_tr : trF Tryd.prog ir77 Tryd.f77 = some ir77 := by kernel_rfl

-- grille/scalar.hasAny
def ir79 : IF := ⟨22, .seq (.reg [o 4 (.mov (.cst (.bool false)))])
(.seq (.seq (.reg [o 9 (.mov (t 0)),
  o 10 (.rangeS (t 9))])
(.block 0 (.loop [11, 12, 13, 6, 14, 15, 16, 17, 18, 8, 19, 20, 21, 4] (.seq (.reg [o 11 (.nextS (t 10)),
    o 12 (.extract 0 (t 11))])
  (.seq (.cond (t 12)
   (.skip)
   (.exit 0))
  (.block 1 (.seq (.reg [o 13 (.extract 2 (t 11)),
     o 6 (.mov (t 13))])
   (.seq (.reg [o 14 (.mov (t 1)),
     o 15 (.rangeS (t 14))])
   (.block 2 (.loop [16, 17, 18, 8, 19, 20, 21, 4] (.seq (.reg [o 16 (.nextS (t 15)),
       o 17 (.extract 0 (t 16))])
     (.seq (.cond (t 17)
      (.skip)
      (.exit 2))
     (.block 3 (.seq (.reg [o 18 (.extract 2 (t 16)),
        o 8 (.mov (t 18))])
      (.seq (.reg [o 19 (.mov (t 6)),
        o 20 (.mov (t 8)),
        o 21 (.bin .eql (t 19) (t 20))])
      (.cond (t 21)
       (.seq (.reg [o 4 (.mov (.cst (.bool true)))])
       (.ret))
       (.skip)))))))))))))))))
(.seq (.reg [o 4 (.mov (.cst (.bool false)))])
(.ret))), [.tmp 4]⟩
theorem ir79_tr : trF Tryd.prog ir79 Tryd.f79 = some ir79 := by kernel_rfl

-- strings.ContainsFunc
def ir80 : IF := ⟨9, .seq (.reg [o 4 (.mov (.cst (.bool false)))])
(.seq (.reg [o 5 (.mov (t 0)),
  o 6 (.mov (t 1)),
  o 7 (.call 0 (.fn 97) [(t 5), (t 6)]),
  o 8 (.bin .geq (t 7) (.cst (.int .i64 0))),
  o 4 (.mov (t 8))])
(.ret)), [.tmp 4]⟩
theorem ir80_tr : trF Tryd.prog ir80 Tryd.f80 = some ir80 := by kernel_rfl

-- strings.HasSuffix
def ir81 : IF := ⟨8, .seq (.reg [o 4 (.mov (.cst (.bool false)))])
(.seq (.reg [o 5 (.mov (t 0)),
  o 6 (.mov (t 1)),
  o 7 (.call 0 (.fn 98) [(t 5), (t 6)]),
  o 4 (.mov (t 7))])
(.ret)), [.tmp 4]⟩
theorem ir81_tr : trF Tryd.prog ir81 Tryd.f81 = some ir81 := by kernel_rfl

-- grille/tag.sign
def ir83 : IF := ⟨18, .seq (.reg [o 2 (.mov (.cst (.str [])))])
(.seq (.seq (.reg [o 3 (.mov (t 0)),
  o 4 (.bin .neq (t 3) (.cst (.str []))),
  o 5 (.mov (t 4)),
  og 6 5 true (.mov (t 0)),
  og 7 5 true (.idxStr (t 6) (.cst (.int .i64 0))),
  og 8 5 true (.bin .eql (t 7) (.cst (.int .u8 43))),
  og 9 5 true (.mov (t 8)),
  og 10 9 false (.mov (t 0)),
  og 11 9 false (.idxStr (t 10) (.cst (.int .i64 0))),
  og 12 9 false (.bin .eql (t 11) (.cst (.int .u8 45))),
  og 13 5 true (.pick (t 9) (.cst (.bool true)) (t 12)),
  o 14 (.pick (t 5) (t 13) (.cst (.bool false)))])
(.gh [.kill [3, 4, 5, 6, 7, 8, 9, 10, 11, 12, 13]] (.cond (t 14)
 (.seq (.reg [o 15 (.mov (t 0)),
   o 16 (.slcS (t 15) (some (.cst (.int .i64 1))) none),
   o 2 (.mov (t 16))])
 (.ret))
 (.skip))))
(.seq (.reg [o 17 (.mov (t 0)),
  o 2 (.mov (t 17))])
(.ret))), [.tmp 2]⟩
theorem ir83_tr : trF Tryd.prog ir83 Tryd.f83 = some ir83 := by kernel_rfl

-- grille/tag.whole
def ir84 : IF := ⟨26, .seq (.reg [o 2 (.mov (.cst (.bool false)))])
(.seq (.seq (.reg [o 8 (.mov (t 0)),
  o 9 (.call 0 (.fn 100) [(t 8), (.cst (.str [48, 111]))]),
  o 7 (.mov (t 9)),
  o 10 (.extract 0 (t 7)),
  o 11 (.extract 1 (t 7)),
  o 3 (.mov (t 10)),
  o 4 (.mov (t 11))])
(.seq (.reg [o 12 (.mov (t 4))])
(.cond (t 12)
 (.seq (.reg [o 13 (.mov (t 3)),
   o 14 (.call 0 (.fn 101) [(t 13), (.cst (.int .i64 8))]),
   o 2 (.mov (t 14))])
 (.ret))
 (.skip))))
(.seq (.seq (.reg [o 16 (.mov (t 0)),
  o 17 (.call 0 (.fn 100) [(t 16), (.cst (.str [48, 120]))]),
  o 15 (.mov (t 17)),
  o 18 (.extract 0 (t 15)),
  o 19 (.extract 1 (t 15)),
  o 5 (.mov (t 18)),
  o 6 (.mov (t 19))])
(.seq (.reg [o 20 (.mov (t 6))])
(.cond (t 20)
 (.seq (.reg [o 21 (.mov (t 5)),
   o 22 (.call 0 (.fn 101) [(t 21), (.cst (.int .i64 16))]),
   o 2 (.mov (t 22))])
 (.ret))
 (.skip))))
(.seq (.reg [o 23 (.mov (t 0)),
  o 24 (.call 0 (.fn 83) [(t 23)]),
  o 25 (.call 0 (.fn 101) [(t 24), (.cst (.int .i64 10))]),
  o 2 (.mov (t 25))])
(.ret)))), [.tmp 2]⟩
theorem ir84_tr : trF Tryd.prog ir84 Tryd.f84 = some ir84 := by kernel_rfl

-- grille/tag.real
def ir85 : IF := ⟨45, .seq (.reg [o 2 (.mov (.cst (.bool false)))])
(.seq (.reg [o 9 (.mov (t 0)),
  o 10 (.call 0 (.fn 83) [(t 9)]),
  o 11 (.call 0 (.fn 102) [(t 10), (.cst (.int .i64 10))]),
  o 8 (.mov (t 11)),
  o 12 (.extract 0 (t 8)),
  o 13 (.extract 1 (t 8)),
  o 3 (.mov (t 12)),
  o 4 (.mov (t 13))])
(.seq (.reg [o 5 (.mov (.cst (.int .i64 0)))])
(.seq (.seq (.reg [o 15 (.mov (t 3)),
  o 16 (.call 0 (.fn 100) [(t 15), (.cst (.str [46]))]),
  o 14 (.mov (t 16)),
  o 17 (.extract 0 (t 14)),
  o 18 (.extract 1 (t 14)),
  o 6 (.mov (t 17)),
  o 7 (.mov (t 18))])
(.seq (.reg [o 19 (.mov (t 7))])
(.cond (t 19)
 (.reg [o 21 (.mov (t 6)),
   o 22 (.call 0 (.fn 102) [(t 21), (.cst (.int .i64 10))]),
   o 20 (.mov (t 22)),
   o 23 (.extract 0 (t 20)),
   o 24 (.extract 1 (t 20)),
   o 3 (.mov (t 23)),
   o 5 (.mov (t 24))])
 (.skip))))
(.gh [.kill [15, 16, 14, 17, 18, 6, 7, 19, 21, 22, 20, 23, 24]] (.seq (.seq (.reg [o 25 (.mov (t 4)),
  o 26 (.mov (t 5)),
  o 27 (.bin .add (t 25) (t 26)),
  o 28 (.bin .eql (t 27) (.cst (.int .i64 0)))])
(.cond (t 28)
 (.seq (.reg [o 2 (.mov (.cst (.bool false)))])
 (.ret))
 (.skip)))
(.seq (.seq (.reg [o 29 (.mov (t 3)),
  o 30 (.bin .eql (t 29) (.cst (.str [])))])
(.cond (t 30)
 (.seq (.reg [o 2 (.mov (.cst (.bool true)))])
 (.ret))
 (.skip)))
(.seq (.reg [o 31 (.mov (t 3)),
  o 32 (.idxStr (t 31) (.cst (.int .i64 0))),
  o 33 (.bin .eql (t 32) (.cst (.int .u8 101))),
  o 34 (.mov (t 33)),
  og 35 34 false (.mov (t 3)),
  og 36 34 false (.idxStr (t 35) (.cst (.int .i64 0))),
  og 37 34 false (.bin .eql (t 36) (.cst (.int .u8 69))),
  o 38 (.pick (t 34) (.cst (.bool true)) (t 37)),
  o 39 (.mov (t 38)),
  og 40 39 true (.mov (t 3)),
  og 41 39 true (.slcS (t 40) (some (.cst (.int .i64 1))) none),
  og 42 39 true (.call 0 (.fn 83) [(t 41)]),
  og 43 39 true (.call 0 (.fn 101) [(t 42), (.cst (.int .i64 10))]),
  o 44 (.pick (t 39) (t 43) (.cst (.bool false))),
  o 2 (.mov (t 44))])
(.ret)))))))), [.tmp 2]⟩
theorem ir85_tr : trF Tryd.prog ir85 Tryd.f85 = some ir85 := by kernel_rfl

-- grille/tag.plain
def ir86 : IF := ⟨17, .seq (.reg [o 2 (.mov (.cst (.bool false)))])
(.seq (.reg [o 3 (.mov (t 0)),
  o 4 (.bin .eql (t 3) (.cst (.str [110, 117, 108, 108]))),
  o 5 (.mov (t 4)),
  og 6 5 false (.mov (t 0)),
  og 7 5 false (.bin .eql (t 6) (.cst (.str [98, 111, 111, 108]))),
  o 8 (.pick (t 5) (.cst (.bool true)) (t 7)),
  o 9 (.mov (t 8)),
  og 10 9 false (.mov (t 0)),
  og 11 9 false (.bin .eql (t 10) (.cst (.str [105, 110, 116]))),
  o 12 (.pick (t 9) (.cst (.bool true)) (t 11)),
  o 13 (.mov (t 12)),
  og 14 13 false (.mov (t 0)),
  og 15 13 false (.bin .eql (t 14) (.cst (.str [102, 108, 111, 97, 116]))),
  o 16 (.pick (t 13) (.cst (.bool true)) (t 15)),
  o 2 (.mov (t 16))])
(.ret)), [.tmp 2]⟩
theorem ir86_tr : trF Tryd.prog ir86 Tryd.f86 = some ir86 := by kernel_rfl

-- grille/tag.own
def ir87 : IF := ⟨27, .seq (.reg [o 2 (.mov (.cst (.bool false)))])
(.seq (.reg [o 7 (.mov (t 0)),
  o 8 (.call 0 (.fn 100) [(t 7), (.cst (.str [33]))]),
  o 6 (.mov (t 8)),
  o 9 (.extract 0 (t 6)),
  o 10 (.extract 1 (t 6)),
  o 3 (.mov (t 9)),
  o 4 (.mov (t 10))])
(.seq (.reg [o 5 (.mov (.fn 103))])
(.seq (.reg [o 11 (.mov (t 4)),
  o 12 (.mov (t 11)),
  og 13 12 true (.mov (t 3)),
  og 14 12 true (.bin .neq (t 13) (.cst (.str []))),
  o 15 (.pick (t 12) (t 14) (.cst (.bool false))),
  o 16 (.mov (t 15)),
  og 17 16 true (.mov (t 3)),
  og 18 16 true (.len .str (t 17)),
  og 19 16 true (.bin .leq (t 18) (.cst (.int .i64 40))),
  o 20 (.pick (t 16) (t 19) (.cst (.bool false))),
  o 21 (.mov (t 20)),
  og 22 21 true (.mov (t 3)),
  og 23 21 true (.mov (t 5)),
  og 24 21 true (.call 0 (.fn 80) [(t 22), (t 23)]),
  og 25 21 true (.not (t 24)),
  o 26 (.pick (t 21) (t 25) (.cst (.bool false))),
  o 2 (.mov (t 26))])
(.ret)))), [.tmp 2]⟩
theorem ir87_tr : trF Tryd.prog ir87 Tryd.f87 = some ir87 := by kernel_rfl

-- slices.Equal[[]int,int]
def ir88 : IF := ⟨26, .seq (.reg [o 4 (.mov (.cst (.bool false)))])
(.seq (.seq (.reg [o 6 (.mov (t 0)),
  o 7 (.len .row (t 6)),
  o 8 (.mov (t 1)),
  o 9 (.len .row (t 8)),
  o 10 (.bin .neq (t 7) (t 9))])
(.cond (t 10)
 (.seq (.reg [o 4 (.mov (.cst (.bool false)))])
 (.ret))
 (.skip)))
(.seq (.seq (.reg [o 11 (.mov (t 0)),
  o 12 (.len .row (t 11)),
  o 13 (.mov (.cst (.int .i64 0)))])
(.block 0 (.loop [14, 15, 5, 16, 17, 18, 19, 20, 21, 22, 23, 24, 4, 25] (.seq (.reg [o 14 (.bin .lss (t 13) (t 12))])
  (.seq (.cond (t 14)
   (.skip)
   (.exit 0))
  (.seq (.block 1 (.seq (.reg [o 15 (.mov (t 13)),
     o 5 (.mov (t 15))])
   (.seq (.dreg [o 16 (.mov (t 0)),
     o 17 (.mov (t 5)),
     o 18 (.idxAddr 1 (t 16) (t 17)),
     o 19 (.load none (t 18)),
     o 20 (.mov (t 1)),
     o 21 (.mov (t 5)),
     o 22 (.idxAddr 1 (t 20) (t 21)),
     o 23 (.load none (t 22)),
     o 24 (.bin .neq (t 19) (t 23))] [[], [], [0, 1], [0, 1, 2], [], [], [4, 5], [4, 5, 6], [0, 1, 2, 3, 4, 5, 6, 7]])
   (.cond (t 24)
    (.seq (.reg [o 4 (.mov (.cst (.bool false)))])
    (.ret))
    (.skip)))))
  (.reg [o 25 (.bin .add (t 13) (.cst (.int .i64 1))),
    o 13 (.mov (t 25))])))))))
(.seq (.reg [o 4 (.mov (.cst (.bool true)))])
(.ret)))), [.tmp 4]⟩
theorem ir88_tr : trF Tryd.prog ir88 Tryd.f88 = some ir88 := by kernel_rfl

-- slices.IndexFunc[[]grille/arena.Graph,grille/arena.Graph]
def ir89 : IF := ⟨19, .seq (.reg [o 4 (.mov (.cst (.int .i64 0)))])
(.seq (.seq (.reg [o 6 (.mov (t 0)),
  o 7 (.len .row (t 6)),
  o 8 (.mov (.cst (.int .i64 0)))])
(.block 0 (.loop [9, 10, 5, 11, 12, 13, 14, 15, 16, 17, 4, 18] (.seq (.reg [o 9 (.bin .lss (t 8) (t 7))])
  (.seq (.cond (t 9)
   (.skip)
   (.exit 0))
  (.seq (.block 1 (.seq (.reg [o 10 (.mov (t 8)),
     o 5 (.mov (t 10))])
   (.seq (.reg [o 11 (.mov (t 1)),
     o 12 (.mov (t 0)),
     o 13 (.mov (t 5)),
     o 14 (.idxAddr 1 (t 12) (t 13)),
     o 15 (.load none (t 14)),
     o 16 (.call 0 (t 11) [(t 15)])])
   (.cond (t 16)
    (.seq (.reg [o 17 (.mov (t 5)),
      o 4 (.mov (t 17))])
    (.ret))
    (.skip)))))
  (.reg [o 18 (.bin .add (t 8) (.cst (.int .i64 1))),
    o 8 (.mov (t 18))])))))))
(.seq (.reg [o 4 (.mov (.cst (.int .i64 (-1))))])
(.ret))), [.tmp 4]⟩
theorem ir89_tr : trF Tryd.prog ir89 Tryd.f89 = some ir89 := by kernel_rfl

-- internal/strconv.Itoa
def ir90 : IF := ⟨5, .seq (.reg [o 2 (.mov (.cst (.str [])))])
(.seq (.reg [o 3 (.mov (t 0)),
  o 4 (.call 0 (.fn 105) [(t 3), (.cst (.int .i64 10))]),
  o 2 (.mov (t 4))])
(.ret)), [.tmp 2]⟩
theorem ir90_tr : trF Tryd.prog ir90 Tryd.f90 = some ir90 := by kernel_rfl

-- (*grille/flatten.teller).inside
def ir91 : IF := ⟨32, .seq (.reg [o 4 (.mov (t 0)),
  o 5 (.nilck (t 4)),
  o 6 (.fieldAddr 4 (t 5)),
  o 7 (.load none (t 6)),
  o 8 (.bin .add (t 7) (.cst (.int .i64 1))),
  o 9 (.nilck (t 4)),
  o 10 (.fieldAddr 4 (t 9)),
  e (.store 1 (t 10) (t 8))])
(.seq (.dreg [o 11 (.mov (t 0)),
  o 12 (.mov (t 0)),
  o 13 (.nilck (t 12)),
  o 14 (.fieldAddr 5 (t 13)),
  o 15 (.load none (t 14)),
  o 16 (.mov (t 0)),
  o 17 (.nilck (t 16)),
  o 18 (.fieldAddr 4 (t 17)),
  o 19 (.load none (t 18)),
  o 20 (.minmax true (t 15) [(t 19)]),
  o 21 (.nilck (t 11)),
  o 22 (.fieldAddr 5 (t 21)),
  e (.store 1 (t 22) (t 20))] [[], [], [1], [1, 2], [1, 2, 3], [], [5], [5, 6], [5, 6, 7], [1, 2, 3, 4, 5, 6, 7, 8], [0, 1, 2, 3, 4, 5, 6, 7, 8, 9], [0, 1, 2, 3, 4, 5, 6, 7, 8, 9, 10], [0, 1, 2, 3, 4, 5, 6, 7, 8, 9, 10, 11]])
(.seq (.reg [o 23 (.mov (t 1)),
  o 24 (.call 0 (t 23) [])])
(.reg [o 25 (.mov (t 0)),
  o 26 (.nilck (t 25)),
  o 27 (.fieldAddr 4 (t 26)),
  o 28 (.load none (t 27)),
  o 29 (.bin .sub (t 28) (.cst (.int .i64 1))),
  o 30 (.nilck (t 25)),
  o 31 (.fieldAddr 4 (t 30)),
  e (.store 1 (t 31) (t 29))]))), []⟩
theorem ir91_tr : trF Tryd.prog ir91 Tryd.f91 = some ir91 := by kernel_rfl

-- (*grille/flatten.teller).node$1
def ir92 : IF := ⟨15, .seq (.reg [o 4 (.fieldAddr 3 (t 0)),
  o 5 (.load none (t 4)),
  o 6 (.len .row (t 5)),
  o 7 (.mov (.cst (.int .i64 0)))])
(.block 0 (.loop [8, 9, 10, 3, 11, 12, 13, 14] (.seq (.reg [o 8 (.bin .lss (t 7) (t 6))])
  (.seq (.cond (t 8)
   (.skip)
   (.exit 0))
  (.seq (.block 1 (.seq (.reg [o 9 (.idxAddr 1 (t 5) (t 7)),
     o 10 (.load none (t 9)),
     o 3 (.mov (t 10))])
   (.reg [o 11 (.load none (t 1)),
     o 12 (.mov (t 3)),
     o 13 (.call 0 (.fn 65) [(t 11), (t 12)])])))
  (.reg [o 14 (.bin .add (t 7) (.cst (.int .i64 1))),
    o 7 (.mov (t 14))])))))), []⟩
theorem ir92_tr : trF Tryd.prog ir92 Tryd.f92 = some ir92 := by kernel_rfl

-- slices.IndexFunc[[]int,int]
def ir93 : IF := ⟨19, .seq (.reg [o 4 (.mov (.cst (.int .i64 0)))])
(.seq (.seq (.reg [o 6 (.mov (t 0)),
  o 7 (.len .row (t 6)),
  o 8 (.mov (.cst (.int .i64 0)))])
(.block 0 (.loop [9, 10, 5, 11, 12, 13, 14, 15, 16, 17, 4, 18] (.seq (.reg [o 9 (.bin .lss (t 8) (t 7))])
  (.seq (.cond (t 9)
   (.skip)
   (.exit 0))
  (.seq (.block 1 (.seq (.reg [o 10 (.mov (t 8)),
     o 5 (.mov (t 10))])
   (.seq (.reg [o 11 (.mov (t 1)),
     o 12 (.mov (t 0)),
     o 13 (.mov (t 5)),
     o 14 (.idxAddr 1 (t 12) (t 13)),
     o 15 (.load none (t 14)),
     o 16 (.call 0 (t 11) [(t 15)])])
   (.cond (t 16)
    (.seq (.reg [o 17 (.mov (t 5)),
      o 4 (.mov (t 17))])
    (.ret))
    (.skip)))))
  (.reg [o 18 (.bin .add (t 8) (.cst (.int .i64 1))),
    o 8 (.mov (t 18))])))))))
(.seq (.reg [o 4 (.mov (.cst (.int .i64 (-1))))])
(.ret))), [.tmp 4]⟩
theorem ir93_tr : trF Tryd.prog ir93 Tryd.f93 = some ir93 := by kernel_rfl

-- unicode/utf8.word[string]
def ir94 : IF := ⟨59, .seq (.reg [o 2 (.mov (.cst (.int .u64 0)))])
(.seq (.cond (.cst (.bool false))
 (.seq (.dreg [o 3 (.mov (t 0)),
   o 4 (.idxStr (t 3) (.cst (.int .i64 0))),
   o 5 (.cvInt .u64 (t 4)),
   o 6 (.mov (t 0)),
   o 7 (.idxStr (t 6) (.cst (.int .i64 1))),
   o 8 (.cvInt .u64 (t 7)),
   o 9 (.bin .shl (t 8) (.cst (.int .u64 8))),
   o 10 (.bin .or (t 5) (t 9)),
   o 11 (.mov (t 0)),
   o 12 (.idxStr (t 11) (.cst (.int .i64 2))),
   o 13 (.cvInt .u64 (t 12)),
   o 14 (.bin .shl (t 13) (.cst (.int .u64 16))),
   o 15 (.bin .or (t 10) (t 14)),
   o 16 (.mov (t 0)),
   o 17 (.idxStr (t 16) (.cst (.int .i64 3))),
   o 18 (.cvInt .u64 (t 17)),
   o 19 (.bin .shl (t 18) (.cst (.int .u64 24))),
   o 20 (.bin .or (t 15) (t 19)),
   o 2 (.mov (t 20))] [[], [0], [0, 1], [], [3], [3, 4], [3, 4, 5], [0, 1, 2, 3, 4, 5, 6], [], [8], [8, 9], [8, 9, 10], [0, 1, 2, 3, 4, 5, 6, 7, 8, 9, 10, 11], [], [13], [13, 14], [13, 14, 15], [0, 1, 2, 3, 4, 5, 6, 7, 8, 9, 10, 11, 12, 13, 14, 15, 16], [0, 1, 2, 3, 4, 5, 6, 7, 8, 9, 10, 11, 12, 13, 14, 15, 16, 17]])
 (.ret))
 (.skip))
(.seq (.dreg [o 21 (.mov (t 0)),
  o 22 (.idxStr (t 21) (.cst (.int .i64 0))),
  o 23 (.cvInt .u64 (t 22)),
  o 24 (.mov (t 0)),
  o 25 (.idxStr (t 24) (.cst (.int .i64 1))),
  o 26 (.cvInt .u64 (t 25)),
  o 27 (.bin .shl (t 26) (.cst (.int .u64 8))),
  o 28 (.bin .or (t 23) (t 27)),
  o 29 (.mov (t 0)),
  o 30 (.idxStr (t 29) (.cst (.int .i64 2))),
  o 31 (.cvInt .u64 (t 30)),
  o 32 (.bin .shl (t 31) (.cst (.int .u64 16))),
  o 33 (.bin .or (t 28) (t 32)),
  o 34 (.mov (t 0)),
  o 35 (.idxStr (t 34) (.cst (.int .i64 3))),
  o 36 (.cvInt .u64 (t 35)),
  o 37 (.bin .shl (t 36) (.cst (.int .u64 24))),
  o 38 (.bin .or (t 33) (t 37)),
  o 39 (.mov (t 0)),
  o 40 (.idxStr (t 39) (.cst (.int .i64 4))),
  o 41 (.cvInt .u64 (t 40)),
  o 42 (.bin .shl (t 41) (.cst (.int .u64 32))),
  o 43 (.bin .or (t 38) (t 42)),
  o 44 (.mov (t 0)),
  o 45 (.idxStr (t 44) (.cst (.int .i64 5))),
  o 46 (.cvInt .u64 (t 45)),
  o 47 (.bin .shl (t 46) (.cst (.int .u64 40))),
  o 48 (.bin .or (t 43) (t 47)),
  o 49 (.mov (t 0)),
  o 50 (.idxStr (t 49) (.cst (.int .i64 6))),
  o 51 (.cvInt .u64 (t 50)),
  o 52 (.bin .shl (t 51) (.cst (.int .u64 48))),
  o 53 (.bin .or (t 48) (t 52)),
  o 54 (.mov (t 0)),
  o 55 (.idxStr (t 54) (.cst (.int .i64 7))),
  o 56 (.cvInt .u64 (t 55)),
  o 57 (.bin .shl (t 56) (.cst (.int .u64 56))),
  o 58 (.bin .or (t 53) (t 57)),
  o 2 (.mov (t 58))] [[], [0], [0, 1], [], [3], [3, 4], [3, 4, 5], [0, 1, 2, 3, 4, 5, 6], [], [8], [8, 9], [8, 9, 10], [0, 1, 2, 3, 4, 5, 6, 7, 8, 9, 10, 11], [], [13], [13, 14], [13, 14, 15], [0, 1, 2, 3, 4, 5, 6, 7, 8, 9, 10, 11, 12, 13, 14, 15, 16], [], [18], [18, 19], [18, 19, 20], [0, 1, 2, 3, 4, 5, 6, 7, 8, 9, 10, 11, 12, 13, 14, 15, 16, 17, 18, 19, 20, 21], [], [23], [23, 24], [23, 24, 25], [0, 1, 2, 3, 4, 5, 6, 7, 8, 9, 10, 11, 12, 13, 14, 15, 16, 17, 18, 19, 20, 21, 22, 23, 24, 25, 26], [], [28], [28, 29], [28, 29, 30], [0, 1, 2, 3, 4, 5, 6, 7, 8, 9, 10, 11, 12, 13, 14, 15, 16, 17, 18, 19, 20, 21, 22, 23, 24, 25, 26, 27, 28, 29, 30, 31], [], [33], [33, 34], [33, 34, 35], [0, 1, 2, 3, 4, 5, 6, 7, 8, 9, 10, 11, 12, 13, 14, 15, 16, 17, 18, 19, 20, 21, 22, 23, 24, 25, 26, 27, 28, 29, 30, 31, 32, 33, 34, 35, 36], [0, 1, 2, 3, 4, 5, 6, 7, 8, 9, 10, 11, 12, 13, 14, 15, 16, 17, 18, 19, 20, 21, 22, 23, 24, 25, 26, 27, 28, 29, 30, 31, 32, 33, 34, 35, 36, 37]])
(.ret))), [.tmp 2]⟩
theorem ir94_tr : trF Tryd.prog ir94 Tryd.f94 = some ir94 := by kernel_rfl

-- unicode/utf8.ValidRune
def ir95 : IF := ⟨17, .seq (.reg [o 2 (.mov (.cst (.bool false)))])
(.seq (.block 0 (.seq (.reg [o 4 (.mov (t 0)),
   o 5 (.bin .leq (.cst (.int .i32 0)) (t 4)),
   o 6 (.mov (t 5)),
   og 7 6 true (.mov (t 0)),
   og 8 6 true (.bin .lss (t 7) (.cst (.int .i32 55296))),
   o 9 (.pick (t 6) (t 8) (.cst (.bool false))),
   o 3 (.mov (t 9))])
 (.gh [.kill [4, 5, 6, 7, 8, 9]] (.cond (t 3)
  (.seq (.reg [o 2 (.mov (.cst (.bool true)))])
  (.ret))
  (.seq (.reg [o 11 (.mov (t 0)),
    o 12 (.bin .lss (.cst (.int .i32 57343)) (t 11)),
    o 13 (.mov (t 12)),
    og 14 13 true (.mov (t 0)),
    og 15 13 true (.bin .leq (t 14) (.cst (.int .i32 1114111))),
    o 16 (.pick (t 13) (t 15) (.cst (.bool false))),
    o 10 (.mov (t 16))])
  (.gh [.kill [11, 12, 13, 14, 15, 16]] (.cond (t 10)
   (.seq (.reg [o 2 (.mov (.cst (.bool true)))])
   (.ret))
   (.skip))))))))
(.seq (.reg [o 2 (.mov (.cst (.bool false)))])
(.ret))), [.tmp 2]⟩
theorem ir95_tr : trF Tryd.prog ir95 Tryd.f95 = some ir95 := by kernel_rfl

-- internal/stringslite.IndexByte
def ir96 : IF := ⟨8, .seq (.reg [o 4 (.mov (.cst (.int .i64 0)))])
(.seq (.reg [o 5 (.mov (t 0)),
  o 6 (.mov (t 1)),
  o 7 (.call 0 (.fn 106) [(t 5), (t 6)]),
  o 4 (.mov (t 7))])
(.ret)), [.tmp 4]⟩
theorem ir96_tr : trF Tryd.prog ir96 Tryd.f96 = some ir96 := by kernel_rfl

-- strings.IndexFunc
def ir97 : IF := ⟨8, .seq (.reg [o 4 (.mov (.cst (.int .i64 0)))])
(.seq (.reg [o 5 (.mov (t 0)),
  o 6 (.mov (t 1)),
  o 7 (.call 0 (.fn 107) [(t 5), (t 6), (.cst (.bool true))]),
  o 4 (.mov (t 7))])
(.ret)), [.tmp 4]⟩
theorem ir97_tr : trF Tryd.prog ir97 Tryd.f97 = some ir97 := by kernel_rfl

-- internal/stringslite.HasSuffix
def ir98 : IF := ⟨21, .seq (.reg [o 4 (.mov (.cst (.bool false)))])
(.seq (.reg [o 5 (.mov (t 0)),
  o 6 (.len .str (t 5)),
  o 7 (.mov (t 1)),
  o 8 (.len .str (t 7)),
  o 9 (.bin .geq (t 6) (t 8)),
  o 10 (.mov (t 9)),
  og 11 10 true (.mov (t 0)),
  og 12 10 true (.mov (t 0)),
  og 13 10 true (.len .str (t 12)),
  og 14 10 true (.mov (t 1)),
  og 15 10 true (.len .str (t 14)),
  og 16 10 true (.bin .sub (t 13) (t 15)),
  og 17 10 true (.slcS (t 11) (some (t 16)) none),
  og 18 10 true (.mov (t 1)),
  og 19 10 true (.bin .eql (t 17) (t 18)),
  o 20 (.pick (t 10) (t 19) (.cst (.bool false))),
  o 4 (.mov (t 20))])
(.ret)), [.tmp 4]⟩
theorem ir98_tr : trF Tryd.prog ir98 Tryd.f98 = some ir98 := by kernel_rfl

-- strings.Index
def ir99 : IF := ⟨8, .seq (.reg [o 4 (.mov (.cst (.int .i64 0)))])
(.seq (.reg [o 5 (.mov (t 0)),
  o 6 (.mov (t 1)),
  o 7 (.call 0 (.fn 108) [(t 5), (t 6)]),
  o 4 (.mov (t 7))])
(.ret)), [.tmp 4]⟩
theorem ir99_tr : trF Tryd.prog ir99 Tryd.f99 = some ir99 := by kernel_rfl

-- strings.CutPrefix
def ir100 : IF := ⟨11, .seq (.reg [o 4 (.mov (.cst (.str []))),
  o 5 (.mov (.cst (.bool false)))])
(.seq (.reg [o 6 (.mov (t 0)),
  o 7 (.mov (t 1)),
  o 8 (.call 0 (.fn 109) [(t 6), (t 7)]),
  o 9 (.extract 0 (t 8)),
  o 10 (.extract 1 (t 8)),
  o 4 (.mov (t 9)),
  o 5 (.mov (t 10))])
(.ret)), [.tmp 4, .tmp 5]⟩
theorem ir100_tr : trF Tryd.prog ir100 Tryd.f100 = some ir100 := by kernel_rfl

-- grille/tag.all
def ir101 : IF := ⟨19, .seq (.reg [o 4 (.mov (.cst (.bool false)))])
(.seq (.reg [o 8 (.mov (t 0)),
  o 9 (.mov (t 1)),
  o 10 (.call 0 (.fn 102) [(t 8), (t 9)]),
  o 7 (.mov (t 10)),
  o 11 (.extract 0 (t 7)),
  o 12 (.extract 1 (t 7)),
  o 5 (.mov (t 11)),
  o 6 (.mov (t 12))])
(.seq (.reg [o 13 (.mov (t 5)),
  o 14 (.bin .eql (t 13) (.cst (.str []))),
  o 15 (.mov (t 14)),
  og 16 15 true (.mov (t 6)),
  og 17 15 true (.bin .gtr (t 16) (.cst (.int .i64 0))),
  o 18 (.pick (t 15) (t 17) (.cst (.bool false))),
  o 4 (.mov (t 18))])
(.ret))), [.tmp 4]⟩
theorem ir101_tr : trF Tryd.prog ir101 Tryd.f101 = some ir101 := by kernel_rfl

-- grille/tag.digits
def ir102 : IF := ⟨24, .seq (.reg [o 4 (.mov (.cst (.str []))),
  o 5 (.mov (.cst (.int .i64 0)))])
(.seq (.block 0 (.loop [17, 6, 7, 8, 9, 10, 11, 12, 13, 14, 15, 16, 18, 19] (.seq (.seq (.reg [o 6 (.mov (t 5)),
    o 7 (.mov (t 0)),
    o 8 (.len .str (t 7)),
    o 9 (.bin .lss (t 6) (t 8)),
    o 10 (.mov (t 9)),
    og 11 10 true (.mov (t 0)),
    og 12 10 true (.mov (t 5)),
    og 13 10 true (.idxStr (t 11) (t 12)),
    og 14 10 true (.call 0 (.fn 110) [(t 13)]),
    og 15 10 true (.mov (t 1)),
    og 16 10 true (.bin .lss (t 14) (t 15)),
    o 17 (.pick (t 10) (t 16) (.cst (.bool false)))])
  (.gh [.kill [6, 7, 8, 9, 10, 11, 12, 13, 14, 15, 16]] (.cond (t 17)
   (.skip)
   (.exit 0))))
  (.block 1 (.reg [o 18 (.mov (t 5)),
     o 19 (.bin .add (t 18) (.cst (.int .i64 1))),
     o 5 (.mov (t 19))])))))
(.seq (.reg [o 20 (.mov (t 0)),
  o 21 (.mov (t 5)),
  o 22 (.slcS (t 20) (some (t 21)) none),
  o 23 (.mov (t 5)),
  o 4 (.mov (t 22)),
  o 5 (.mov (t 23))])
(.ret))), [.tmp 4, .tmp 5]⟩
theorem ir102_tr : trF Tryd.prog ir102 Tryd.f102 = some ir102 := by kernel_rfl

-- grille/tag.own$1
def ir103 : IF := ⟨6, .seq (.reg [o 2 (.mov (.cst (.bool false)))])
(.seq (.reg [o 3 (.mov (t 0)),
  o 4 (.call 0 (.fn 104) [(t 3)]),
  o 5 (.not (t 4)),
  o 2 (.mov (t 5))])
(.ret)), [.tmp 2]⟩
theorem ir103_tr : trF Tryd.prog ir103 Tryd.f103 = some ir103 := by kernel_rfl

-- grille/tag.named
def ir104 : IF := ⟨29, .seq (.reg [o 2 (.mov (.cst (.bool false)))])
(.seq (.reg [o 3 (.mov (t 0)),
  o 4 (.bin .geq (t 3) (.cst (.int .i32 97))),
  o 5 (.mov (t 4)),
  og 6 5 true (.mov (t 0)),
  og 7 5 true (.bin .leq (t 6) (.cst (.int .i32 122))),
  o 8 (.pick (t 5) (t 7) (.cst (.bool false))),
  o 9 (.mov (t 8)),
  og 10 9 false (.mov (t 0)),
  og 11 9 false (.bin .geq (t 10) (.cst (.int .i32 65))),
  og 12 9 false (.mov (t 11)),
  og 13 12 true (.mov (t 0)),
  og 14 12 true (.bin .leq (t 13) (.cst (.int .i32 90))),
  og 15 9 false (.pick (t 12) (t 14) (.cst (.bool false))),
  o 16 (.pick (t 9) (.cst (.bool true)) (t 15)),
  o 17 (.mov (t 16)),
  og 18 17 false (.mov (t 0)),
  og 19 17 false (.bin .geq (t 18) (.cst (.int .i32 48))),
  og 20 17 false (.mov (t 19)),
  og 21 20 true (.mov (t 0)),
  og 22 20 true (.bin .leq (t 21) (.cst (.int .i32 57))),
  og 23 17 false (.pick (t 20) (t 22) (.cst (.bool false))),
  o 24 (.pick (t 17) (.cst (.bool true)) (t 23)),
  o 25 (.mov (t 24)),
  og 26 25 false (.mov (t 0)),
  og 27 25 false (.bin .eql (t 26) (.cst (.int .i32 45))),
  o 28 (.pick (t 25) (.cst (.bool true)) (t 27)),
  o 2 (.mov (t 28))])
(.ret)), [.tmp 2]⟩
theorem ir104_tr : trF Tryd.prog ir104 Tryd.f104 = some ir104 := by kernel_rfl

-- strings.indexFunc
def ir107 : IF := ⟨21, .seq (.reg [o 6 (.mov (.cst (.int .i64 0)))])
(.seq (.seq (.reg [o 9 (.mov (t 0)),
  o 10 (.rangeS (t 9))])
(.block 0 (.loop [11, 12, 13, 14, 7, 8, 15, 16, 17, 18, 19, 20, 6] (.seq (.reg [o 11 (.nextS (t 10)),
    o 12 (.extract 0 (t 11))])
  (.seq (.cond (t 12)
   (.skip)
   (.exit 0))
  (.block 1 (.seq (.reg [o 13 (.extract 1 (t 11)),
     o 14 (.extract 2 (t 11)),
     o 7 (.mov (t 13)),
     o 8 (.mov (t 14))])
   (.seq (.reg [o 15 (.mov (t 1)),
     o 16 (.mov (t 8)),
     o 17 (.call 0 (t 15) [(t 16)]),
     o 18 (.mov (t 2)),
     o 19 (.eqv .bool false (t 17) (t 18))])
   (.cond (t 19)
    (.seq (.reg [o 20 (.mov (t 7)),
      o 6 (.mov (t 20))])
    (.ret))
    (.skip))))))))))
(.seq (.reg [o 6 (.mov (.cst (.int .i64 (-1))))])
(.ret))), [.tmp 6]⟩
theorem ir107_tr : trF Tryd.prog ir107 Tryd.f107 = some ir107 := by kernel_rfl

-- internal/stringslite.CutPrefix
def ir109 : IF := ⟨15, .seq (.reg [o 4 (.mov (.cst (.str []))),
  o 5 (.mov (.cst (.bool false)))])
(.seq (.seq (.reg [o 6 (.mov (t 0)),
  o 7 (.mov (t 1)),
  o 8 (.call 0 (.fn 118) [(t 6), (t 7)]),
  o 9 (.not (t 8))])
(.cond (t 9)
 (.seq (.reg [o 10 (.mov (t 0)),
   o 4 (.mov (t 10)),
   o 5 (.mov (.cst (.bool false)))])
 (.ret))
 (.skip)))
(.seq (.reg [o 11 (.mov (t 0)),
  o 12 (.mov (t 1)),
  o 13 (.len .str (t 12)),
  o 14 (.slcS (t 11) (some (t 13)) none),
  o 4 (.mov (t 14)),
  o 5 (.mov (.cst (.bool true)))])
(.ret))), [.tmp 4, .tmp 5]⟩
theorem ir109_tr : trF Tryd.prog ir109 Tryd.f109 = some ir109 := by kernel_rfl

-- grille/tag.value
def ir110 : IF := ⟨34, .seq (.reg [o 2 (.mov (.cst (.int .i64 0)))])
(.seq (.reg [o 4 (.mov (t 0)),
  o 5 (.cvInt .i64 (t 4)),
  o 3 (.mov (t 5))])
(.seq (.block 0 (.seq (.block 3 (.seq (.block 2 (.seq (.block 1 (.seq (.seq (.seq (.reg [o 7 (.mov (t 0)),
      o 8 (.bin .geq (t 7) (.cst (.int .u8 97))),
      o 9 (.mov (t 8)),
      og 10 9 true (.mov (t 0)),
      og 11 9 true (.bin .leq (t 10) (.cst (.int .u8 102))),
      o 12 (.pick (t 9) (t 11) (.cst (.bool false))),
      o 6 (.mov (t 12))])
    (.gh [.kill [7, 8, 9, 10, 11, 12]] (.cond (t 6)
     (.exit 1)
     (.skip))))
    (.seq (.seq (.reg [o 14 (.mov (t 0)),
      o 15 (.bin .geq (t 14) (.cst (.int .u8 65))),
      o 16 (.mov (t 15)),
      og 17 16 true (.mov (t 0)),
      og 18 16 true (.bin .leq (t 17) (.cst (.int .u8 70))),
      o 19 (.pick (t 16) (t 18) (.cst (.bool false))),
      o 13 (.mov (t 19))])
    (.gh [.kill [14, 15, 16, 17, 18, 19]] (.cond (t 13)
     (.exit 2)
     (.skip))))
    (.seq (.reg [o 21 (.mov (t 0)),
      o 22 (.bin .geq (t 21) (.cst (.int .u8 48))),
      o 23 (.mov (t 22)),
      og 24 23 true (.mov (t 0)),
      og 25 23 true (.bin .leq (t 24) (.cst (.int .u8 57))),
      o 26 (.pick (t 23) (t 25) (.cst (.bool false))),
      o 20 (.mov (t 26))])
    (.gh [.kill [21, 22, 23, 24, 25, 26]] (.cond (t 20)
     (.exit 3)
     (.skip))))))
    (.exit 0)))
   (.reg [o 27 (.mov (t 3)),
     o 28 (.bin .sub (t 27) (.cst (.int .i64 32))),
     o 3 (.mov (t 28))])))
  (.gh [.kill [6, 7, 8, 9, 10, 11, 12, 13, 14, 15, 16, 17, 18, 19, 20, 21, 22, 23, 24, 25, 26, 27, 28]] (.seq (.seq (.reg [o 29 (.mov (t 3)),
    o 30 (.bin .sub (t 29) (.cst (.int .i64 65))),
    o 31 (.bin .add (t 30) (.cst (.int .i64 10))),
    o 2 (.mov (t 31))])
  (.ret))
  (.exit 0)))))
 (.seq (.seq (.reg [o 32 (.mov (t 3)),
   o 33 (.bin .sub (t 32) (.cst (.int .i64 48))),
   o 2 (.mov (t 33))])
 (.ret))
 (.exit 0))))
(.seq (.reg [o 2 (.mov (.cst (.int .i64 16)))])
(.ret)))), [.tmp 2]⟩
theorem ir110_tr : trF Tryd.prog ir110 Tryd.f110 = some ir110 := by kernel_rfl

-- internal/strconv.small
def ir111 : IF := ⟨15, .seq (.reg [o 2 (.mov (.cst (.str [])))])
(.seq (.seq (.reg [o 3 (.mov (t 0)),
  o 4 (.bin .lss (t 3) (.cst (.int .i64 10)))])
(.cond (t 4)
 (.seq (.reg [o 5 (.mov (t 0)),
   o 6 (.mov (t 0)),
   o 7 (.bin .add (t 6) (.cst (.int .i64 1))),
   o 8 (.slcS (.cst (.str [48, 49, 50, 51, 52, 53, 54, 55, 56, 57, 97, 98, 99, 100, 101, 102, 103, 104, 105, 106, 107, 108, 109, 110, 111, 112, 113, 114, 115, 116, 117, 118, 119, 120, 121, 122])) (some (t 5)) (some (t 7))),
   o 2 (.mov (t 8))])
 (.ret))
 (.skip)))
(.seq (.reg [o 9 (.mov (t 0)),
  o 10 (.bin .mul (t 9) (.cst (.int .i64 2))),
  o 11 (.mov (t 0)),
  o 12 (.bin .mul (t 11) (.cst (.int .i64 2))),
  o 13 (.bin .add (t 12) (.cst (.int .i64 2))),
  o 14 (.slcS (.cst (.str [48, 48, 48, 49, 48, 50, 48, 51, 48, 52, 48, 53, 48, 54, 48, 55, 48, 56, 48, 57, 49, 48, 49, 49, 49, 50, 49, 51, 49, 52, 49, 53, 49, 54, 49, 55, 49, 56, 49, 57, 50, 48, 50, 49, 50, 50, 50, 51, 50, 52, 50, 53, 50, 54, 50, 55, 50, 56, 50, 57, 51, 48, 51, 49, 51, 50, 51, 51, 51, 52, 51, 53, 51, 54, 51, 55, 51, 56, 51, 57, 52, 48, 52, 49, 52, 50, 52, 51, 52, 52, 52, 53, 52, 54, 52, 55, 52, 56, 52, 57, 53, 48, 53, 49, 53, 50, 53, 51, 53, 52, 53, 53, 53, 54, 53, 55, 53, 56, 53, 57, 54, 48, 54, 49, 54, 50, 54, 51, 54, 52, 54, 53, 54, 54, 54, 55, 54, 56, 54, 57, 55, 48, 55, 49, 55, 50, 55, 51, 55, 52, 55, 53, 55, 54, 55, 55, 55, 56, 55, 57, 56, 48, 56, 49, 56, 50, 56, 51, 56, 52, 56, 53, 56, 54, 56, 55, 56, 56, 56, 57, 57, 48, 57, 49, 57, 50, 57, 51, 57, 52, 57, 53, 57, 54, 57, 55, 57, 56, 57, 57])) (some (t 10)) (some (t 13))),
  o 2 (.mov (t 14))])
(.ret))), [.tmp 2]⟩
theorem ir111_tr : trF Tryd.prog ir111 Tryd.f111 = some ir111 := by kernel_rfl

-- internal/strconv.formatBase10
def ir113 : IF := ⟨167, .seq (.reg [o 17 (.mov (t 0)),
  o 18 (.len .row (t 17)),
  o 4 (.mov (t 18))])
(.seq (.block 0 (.loop [19, 20, 21, 22, 23, 5, 24, 25, 26, 27, 28, 29, 6, 7, 30, 31, 32, 33, 34, 35, 8, 9, 36, 37, 38, 39, 40, 41, 10, 11, 42, 43, 44, 45, 46, 47, 48, 49, 50, 51, 52, 53, 54, 55, 56, 57, 58, 59, 60, 61, 62, 63, 64, 65, 66, 67, 68, 69, 70, 71, 72, 73, 74, 75, 76, 77, 78, 79, 80, 81, 82, 83, 84, 85, 86, 87, 88, 89, 90, 91, 92, 93, 94, 95] (.seq (.seq (.reg [o 19 (.mov (t 4)),
    o 20 (.bin .geq (t 19) (.cst (.int .i64 8)))])
  (.cond (t 20)
   (.skip)
   (.exit 0)))
  (.block 1 (.seq (.reg [o 21 (.mov (t 1)),
     o 22 (.bin .rem (t 21) (.cst (.int .u64 100000000))),
     o 23 (.cvInt .u32 (t 22)),
     o 5 (.mov (t 23))])
   (.seq (.reg [o 24 (.mov (t 1)),
     o 25 (.bin .quo (t 24) (.cst (.int .u64 100000000))),
     o 1 (.mov (t 25))])
   (.seq (.reg [o 26 (.mov (t 5)),
     o 27 (.bin .quo (t 26) (.cst (.int .u32 10000))),
     o 28 (.mov (t 5)),
     o 29 (.bin .rem (t 28) (.cst (.int .u32 10000))),
     o 6 (.mov (t 27)),
     o 7 (.mov (t 29))])
   (.seq (.reg [o 30 (.mov (t 7)),
     o 31 (.bin .quo (t 30) (.cst (.int .u32 100))),
     o 32 (.bin .mul (t 31) (.cst (.int .u32 2))),
     o 33 (.mov (t 7)),
     o 34 (.bin .rem (t 33) (.cst (.int .u32 100))),
     o 35 (.bin .mul (t 34) (.cst (.int .u32 2))),
     o 8 (.mov (t 32)),
     o 9 (.mov (t 35))])
   (.seq (.reg [o 36 (.mov (t 6)),
     o 37 (.bin .quo (t 36) (.cst (.int .u32 100))),
     o 38 (.bin .mul (t 37) (.cst (.int .u32 2))),
     o 39 (.mov (t 6)),
     o 40 (.bin .rem (t 39) (.cst (.int .u32 100))),
     o 41 (.bin .mul (t 40) (.cst (.int .u32 2))),
     o 10 (.mov (t 38)),
     o 11 (.mov (t 41))])
   (.seq (.dreg [o 42 (.mov (t 0)),
     o 43 (.mov (t 4)),
     o 44 (.bin .sub (t 43) (.cst (.int .i64 1))),
     o 45 (.mov (t 0)),
     o 46 (.mov (t 4)),
     o 47 (.bin .sub (t 46) (.cst (.int .i64 2))),
     o 48 (.mov (t 9)),
     o 49 (.bin .add (t 48) (.cst (.int .u32 1))),
     o 50 (.idxStr (.cst (.str [48, 48, 48, 49, 48, 50, 48, 51, 48, 52, 48, 53, 48, 54, 48, 55, 48, 56, 48, 57, 49, 48, 49, 49, 49, 50, 49, 51, 49, 52, 49, 53, 49, 54, 49, 55, 49, 56, 49, 57, 50, 48, 50, 49, 50, 50, 50, 51, 50, 52, 50, 53, 50, 54, 50, 55, 50, 56, 50, 57, 51, 48, 51, 49, 51, 50, 51, 51, 51, 52, 51, 53, 51, 54, 51, 55, 51, 56, 51, 57, 52, 48, 52, 49, 52, 50, 52, 51, 52, 52, 52, 53, 52, 54, 52, 55, 52, 56, 52, 57, 53, 48, 53, 49, 53, 50, 53, 51, 53, 52, 53, 53, 53, 54, 53, 55, 53, 56, 53, 57, 54, 48, 54, 49, 54, 50, 54, 51, 54, 52, 54, 53, 54, 54, 54, 55, 54, 56, 54, 57, 55, 48, 55, 49, 55, 50, 55, 51, 55, 52, 55, 53, 55, 54, 55, 55, 55, 56, 55, 57, 56, 48, 56, 49, 56, 50, 56, 51, 56, 52, 56, 53, 56, 54, 56, 55, 56, 56, 56, 57, 57, 48, 57, 49, 57, 50, 57, 51, 57, 52, 57, 53, 57, 54, 57, 55, 57, 56, 57, 57])) (t 49)),
     o 51 (.mov (t 9)),
     o 52 (.idxStr (.cst (.str [48, 48, 48, 49, 48, 50, 48, 51, 48, 52, 48, 53, 48, 54, 48, 55, 48, 56, 48, 57, 49, 48, 49, 49, 49, 50, 49, 51, 49, 52, 49, 53, 49, 54, 49, 55, 49, 56, 49, 57, 50, 48, 50, 49, 50, 50, 50, 51, 50, 52, 50, 53, 50, 54, 50, 55, 50, 56, 50, 57, 51, 48, 51, 49, 51, 50, 51, 51, 51, 52, 51, 53, 51, 54, 51, 55, 51, 56, 51, 57, 52, 48, 52, 49, 52, 50, 52, 51, 52, 52, 52, 53, 52, 54, 52, 55, 52, 56, 52, 57, 53, 48, 53, 49, 53, 50, 53, 51, 53, 52, 53, 53, 53, 54, 53, 55, 53, 56, 53, 57, 54, 48, 54, 49, 54, 50, 54, 51, 54, 52, 54, 53, 54, 54, 54, 55, 54, 56, 54, 57, 55, 48, 55, 49, 55, 50, 55, 51, 55, 52, 55, 53, 55, 54, 55, 55, 55, 56, 55, 57, 56, 48, 56, 49, 56, 50, 56, 51, 56, 52, 56, 53, 56, 54, 56, 55, 56, 56, 56, 57, 57, 48, 57, 49, 57, 50, 57, 51, 57, 52, 57, 53, 57, 54, 57, 55, 57, 56, 57, 57])) (t 51)),
     o 53 (.idxAddr 1 (t 42) (t 44)),
     e (.store 1 (t 53) (t 50)),
     o 54 (.idxAddr 1 (t 45) (t 47)),
     e (.store 1 (t 54) (t 52))] [[], [], [1], [], [], [4], [], [6], [6, 7], [], [9], [0, 1, 2, 6, 7, 8], [0, 1, 2, 6, 7, 8, 11], [3, 4, 5, 0, 1, 2, 6, 7, 8, 9, 10, 11, 12], [3, 4, 5, 0, 1, 2, 6, 7, 8, 9, 10, 11, 12, 13]])
   (.seq (.dreg [o 55 (.mov (t 0)),
     o 56 (.mov (t 4)),
     o 57 (.bin .sub (t 56) (.cst (.int .i64 3))),
     o 58 (.mov (t 0)),
     o 59 (.mov (t 4)),
     o 60 (.bin .sub (t 59) (.cst (.int .i64 4))),
     o 61 (.mov (t 8)),
     o 62 (.bin .add (t 61) (.cst (.int .u32 1))),
     o 63 (.idxStr (.cst (.str [48, 48, 48, 49, 48, 50, 48, 51, 48, 52, 48, 53, 48, 54, 48, 55, 48, 56, 48, 57, 49, 48, 49, 49, 49, 50, 49, 51, 49, 52, 49, 53, 49, 54, 49, 55, 49, 56, 49, 57, 50, 48, 50, 49, 50, 50, 50, 51, 50, 52, 50, 53, 50, 54, 50, 55, 50, 56, 50, 57, 51, 48, 51, 49, 51, 50, 51, 51, 51, 52, 51, 53, 51, 54, 51, 55, 51, 56, 51, 57, 52, 48, 52, 49, 52, 50, 52, 51, 52, 52, 52, 53, 52, 54, 52, 55, 52, 56, 52, 57, 53, 48, 53, 49, 53, 50, 53, 51, 53, 52, 53, 53, 53, 54, 53, 55, 53, 56, 53, 57, 54, 48, 54, 49, 54, 50, 54, 51, 54, 52, 54, 53, 54, 54, 54, 55, 54, 56, 54, 57, 55, 48, 55, 49, 55, 50, 55, 51, 55, 52, 55, 53, 55, 54, 55, 55, 55, 56, 55, 57, 56, 48, 56, 49, 56, 50, 56, 51, 56, 52, 56, 53, 56, 54, 56, 55, 56, 56, 56, 57, 57, 48, 57, 49, 57, 50, 57, 51, 57, 52, 57, 53, 57, 54, 57, 55, 57, 56, 57, 57])) (t 62)),
     o 64 (.mov (t 8)),
     o 65 (.idxStr (.cst (.str [48, 48, 48, 49, 48, 50, 48, 51, 48, 52, 48, 53, 48, 54, 48, 55, 48, 56, 48, 57, 49, 48, 49, 49, 49, 50, 49, 51, 49, 52, 49, 53, 49, 54, 49, 55, 49, 56, 49, 57, 50, 48, 50, 49, 50, 50, 50, 51, 50, 52, 50, 53, 50, 54, 50, 55, 50, 56, 50, 57, 51, 48, 51, 49, 51, 50, 51, 51, 51, 52, 51, 53, 51, 54, 51, 55, 51, 56, 51, 57, 52, 48, 52, 49, 52, 50, 52, 51, 52, 52, 52, 53, 52, 54, 52, 55, 52, 56, 52, 57, 53, 48, 53, 49, 53, 50, 53, 51, 53, 52, 53, 53, 53, 54, 53, 55, 53, 56, 53, 57, 54, 48, 54, 49, 54, 50, 54, 51, 54, 52, 54, 53, 54, 54, 54, 55, 54, 56, 54, 57, 55, 48, 55, 49, 55, 50, 55, 51, 55, 52, 55, 53, 55, 54, 55, 55, 55, 56, 55, 57, 56, 48, 56, 49, 56, 50, 56, 51, 56, 52, 56, 53, 56, 54, 56, 55, 56, 56, 56, 57, 57, 48, 57, 49, 57, 50, 57, 51, 57, 52, 57, 53, 57, 54, 57, 55, 57, 56, 57, 57])) (t 64)),
     o 66 (.idxAddr 1 (t 55) (t 57)),
     e (.store 1 (t 66) (t 63)),
     o 67 (.idxAddr 1 (t 58) (t 60)),
     e (.store 1 (t 67) (t 65))] [[], [], [1], [], [], [4], [], [6], [6, 7], [], [9], [0, 1, 2, 6, 7, 8], [0, 1, 2, 6, 7, 8, 11], [3, 4, 5, 0, 1, 2, 6, 7, 8, 9, 10, 11, 12], [3, 4, 5, 0, 1, 2, 6, 7, 8, 9, 10, 11, 12, 13]])
   (.seq (.dreg [o 68 (.mov (t 0)),
     o 69 (.mov (t 4)),
     o 70 (.bin .sub (t 69) (.cst (.int .i64 5))),
     o 71 (.mov (t 0)),
     o 72 (.mov (t 4)),
     o 73 (.bin .sub (t 72) (.cst (.int .i64 6))),
     o 74 (.mov (t 11)),
     o 75 (.bin .add (t 74) (.cst (.int .u32 1))),
     o 76 (.idxStr (.cst (.str [48, 48, 48, 49, 48, 50, 48, 51, 48, 52, 48, 53, 48, 54, 48, 55, 48, 56, 48, 57, 49, 48, 49, 49, 49, 50, 49, 51, 49, 52, 49, 53, 49, 54, 49, 55, 49, 56, 49, 57, 50, 48, 50, 49, 50, 50, 50, 51, 50, 52, 50, 53, 50, 54, 50, 55, 50, 56, 50, 57, 51, 48, 51, 49, 51, 50, 51, 51, 51, 52, 51, 53, 51, 54, 51, 55, 51, 56, 51, 57, 52, 48, 52, 49, 52, 50, 52, 51, 52, 52, 52, 53, 52, 54, 52, 55, 52, 56, 52, 57, 53, 48, 53, 49, 53, 50, 53, 51, 53, 52, 53, 53, 53, 54, 53, 55, 53, 56, 53, 57, 54, 48, 54, 49, 54, 50, 54, 51, 54, 52, 54, 53, 54, 54, 54, 55, 54, 56, 54, 57, 55, 48, 55, 49, 55, 50, 55, 51, 55, 52, 55, 53, 55, 54, 55, 55, 55, 56, 55, 57, 56, 48, 56, 49, 56, 50, 56, 51, 56, 52, 56, 53, 56, 54, 56, 55, 56, 56, 56, 57, 57, 48, 57, 49, 57, 50, 57, 51, 57, 52, 57, 53, 57, 54, 57, 55, 57, 56, 57, 57])) (t 75)),
     o 77 (.mov (t 11)),
     o 78 (.idxStr (.cst (.str [48, 48, 48, 49, 48, 50, 48, 51, 48, 52, 48, 53, 48, 54, 48, 55, 48, 56, 48, 57, 49, 48, 49, 49, 49, 50, 49, 51, 49, 52, 49, 53, 49, 54, 49, 55, 49, 56, 49, 57, 50, 48, 50, 49, 50, 50, 50, 51, 50, 52, 50, 53, 50, 54, 50, 55, 50, 56, 50, 57, 51, 48, 51, 49, 51, 50, 51, 51, 51, 52, 51, 53, 51, 54, 51, 55, 51, 56, 51, 57, 52, 48, 52, 49, 52, 50, 52, 51, 52, 52, 52, 53, 52, 54, 52, 55, 52, 56, 52, 57, 53, 48, 53, 49, 53, 50, 53, 51, 53, 52, 53, 53, 53, 54, 53, 55, 53, 56, 53, 57, 54, 48, 54, 49, 54, 50, 54, 51, 54, 52, 54, 53, 54, 54, 54, 55, 54, 56, 54, 57, 55, 48, 55, 49, 55, 50, 55, 51, 55, 52, 55, 53, 55, 54, 55, 55, 55, 56, 55, 57, 56, 48, 56, 49, 56, 50, 56, 51, 56, 52, 56, 53, 56, 54, 56, 55, 56, 56, 56, 57, 57, 48, 57, 49, 57, 50, 57, 51, 57, 52, 57, 53, 57, 54, 57, 55, 57, 56, 57, 57])) (t 77)),
     o 79 (.idxAddr 1 (t 68) (t 70)),
     e (.store 1 (t 79) (t 76)),
     o 80 (.idxAddr 1 (t 71) (t 73)),
     e (.store 1 (t 80) (t 78))] [[], [], [1], [], [], [4], [], [6], [6, 7], [], [9], [0, 1, 2, 6, 7, 8], [0, 1, 2, 6, 7, 8, 11], [3, 4, 5, 0, 1, 2, 6, 7, 8, 9, 10, 11, 12], [3, 4, 5, 0, 1, 2, 6, 7, 8, 9, 10, 11, 12, 13]])
   (.seq (.dreg [o 81 (.mov (t 0)),
     o 82 (.mov (t 4)),
     o 83 (.bin .sub (t 82) (.cst (.int .i64 7))),
     o 84 (.mov (t 0)),
     o 85 (.mov (t 4)),
     o 86 (.bin .sub (t 85) (.cst (.int .i64 8))),
     o 87 (.mov (t 10)),
     o 88 (.bin .add (t 87) (.cst (.int .u32 1))),
     o 89 (.idxStr (.cst (.str [48, 48, 48, 49, 48, 50, 48, 51, 48, 52, 48, 53, 48, 54, 48, 55, 48, 56, 48, 57, 49, 48, 49, 49, 49, 50, 49, 51, 49, 52, 49, 53, 49, 54, 49, 55, 49, 56, 49, 57, 50, 48, 50, 49, 50, 50, 50, 51, 50, 52, 50, 53, 50, 54, 50, 55, 50, 56, 50, 57, 51, 48, 51, 49, 51, 50, 51, 51, 51, 52, 51, 53, 51, 54, 51, 55, 51, 56, 51, 57, 52, 48, 52, 49, 52, 50, 52, 51, 52, 52, 52, 53, 52, 54, 52, 55, 52, 56, 52, 57, 53, 48, 53, 49, 53, 50, 53, 51, 53, 52, 53, 53, 53, 54, 53, 55, 53, 56, 53, 57, 54, 48, 54, 49, 54, 50, 54, 51, 54, 52, 54, 53, 54, 54, 54, 55, 54, 56, 54, 57, 55, 48, 55, 49, 55, 50, 55, 51, 55, 52, 55, 53, 55, 54, 55, 55, 55, 56, 55, 57, 56, 48, 56, 49, 56, 50, 56, 51, 56, 52, 56, 53, 56, 54, 56, 55, 56, 56, 56, 57, 57, 48, 57, 49, 57, 50, 57, 51, 57, 52, 57, 53, 57, 54, 57, 55, 57, 56, 57, 57])) (t 88)),
     o 90 (.mov (t 10)),
     o 91 (.idxStr (.cst (.str [48, 48, 48, 49, 48, 50, 48, 51, 48, 52, 48, 53, 48, 54, 48, 55, 48, 56, 48, 57, 49, 48, 49, 49, 49, 50, 49, 51, 49, 52, 49, 53, 49, 54, 49, 55, 49, 56, 49, 57, 50, 48, 50, 49, 50, 50, 50, 51, 50, 52, 50, 53, 50, 54, 50, 55, 50, 56, 50, 57, 51, 48, 51, 49, 51, 50, 51, 51, 51, 52, 51, 53, 51, 54, 51, 55, 51, 56, 51, 57, 52, 48, 52, 49, 52, 50, 52, 51, 52, 52, 52, 53, 52, 54, 52, 55, 52, 56, 52, 57, 53, 48, 53, 49, 53, 50, 53, 51, 53, 52, 53, 53, 53, 54, 53, 55, 53, 56, 53, 57, 54, 48, 54, 49, 54, 50, 54, 51, 54, 52, 54, 53, 54, 54, 54, 55, 54, 56, 54, 57, 55, 48, 55, 49, 55, 50, 55, 51, 55, 52, 55, 53, 55, 54, 55, 55, 55, 56, 55, 57, 56, 48, 56, 49, 56, 50, 56, 51, 56, 52, 56, 53, 56, 54, 56, 55, 56, 56, 56, 57, 57, 48, 57, 49, 57, 50, 57, 51, 57, 52, 57, 53, 57, 54, 57, 55, 57, 56, 57, 57])) (t 90)),
     o 92 (.idxAddr 1 (t 81) (t 83)),
     e (.store 1 (t 92) (t 89)),
     o 93 (.idxAddr 1 (t 84) (t 86)),
     e (.store 1 (t 93) (t 91))] [[], [], [1], [], [], [4], [], [6], [6, 7], [], [9], [0, 1, 2, 6, 7, 8], [0, 1, 2, 6, 7, 8, 11], [3, 4, 5, 0, 1, 2, 6, 7, 8, 9, 10, 11, 12], [3, 4, 5, 0, 1, 2, 6, 7, 8, 9, 10, 11, 12, 13]])
   (.reg [o 94 (.mov (t 4)),
     o 95 (.bin .sub (t 94) (.cst (.int .i64 8))),
     o 4 (.mov (t 95))]))))))))))))))
(.seq (.reg [o 96 (.mov (t 1)),
  o 97 (.cvInt .u32 (t 96)),
  o 12 (.mov (t 97))])
(.seq (.seq (.reg [o 98 (.mov (t 4)),
  o 99 (.bin .geq (t 98) (.cst (.int .i64 4)))])
(.cond (t 99)
 (.seq (.reg [o 100 (.mov (t 12)),
   o 101 (.bin .rem (t 100) (.cst (.int .u32 10000))),
   o 13 (.mov (t 101))])
 (.seq (.reg [o 102 (.mov (t 12)),
   o 103 (.bin .quo (t 102) (.cst (.int .u32 10000))),
   o 12 (.mov (t 103))])
 (.seq (.reg [o 104 (.mov (t 13)),
   o 105 (.bin .quo (t 104) (.cst (.int .u32 100))),
   o 106 (.bin .mul (t 105) (.cst (.int .u32 2))),
   o 107 (.mov (t 13)),
   o 108 (.bin .rem (t 107) (.cst (.int .u32 100))),
   o 109 (.bin .mul (t 108) (.cst (.int .u32 2))),
   o 14 (.mov (t 106)),
   o 15 (.mov (t 109))])
 (.seq (.dreg [o 110 (.mov (t 0)),
   o 111 (.mov (t 4)),
   o 112 (.bin .sub (t 111) (.cst (.int .i64 1))),
   o 113 (.mov (t 0)),
   o 114 (.mov (t 4)),
   o 115 (.bin .sub (t 114) (.cst (.int .i64 2))),
   o 116 (.mov (t 15)),
   o 117 (.bin .add (t 116) (.cst (.int .u32 1))),
   o 118 (.idxStr (.cst (.str [48, 48, 48, 49, 48, 50, 48, 51, 48, 52, 48, 53, 48, 54, 48, 55, 48, 56, 48, 57, 49, 48, 49, 49, 49, 50, 49, 51, 49, 52, 49, 53, 49, 54, 49, 55, 49, 56, 49, 57, 50, 48, 50, 49, 50, 50, 50, 51, 50, 52, 50, 53, 50, 54, 50, 55, 50, 56, 50, 57, 51, 48, 51, 49, 51, 50, 51, 51, 51, 52, 51, 53, 51, 54, 51, 55, 51, 56, 51, 57, 52, 48, 52, 49, 52, 50, 52, 51, 52, 52, 52, 53, 52, 54, 52, 55, 52, 56, 52, 57, 53, 48, 53, 49, 53, 50, 53, 51, 53, 52, 53, 53, 53, 54, 53, 55, 53, 56, 53, 57, 54, 48, 54, 49, 54, 50, 54, 51, 54, 52, 54, 53, 54, 54, 54, 55, 54, 56, 54, 57, 55, 48, 55, 49, 55, 50, 55, 51, 55, 52, 55, 53, 55, 54, 55, 55, 55, 56, 55, 57, 56, 48, 56, 49, 56, 50, 56, 51, 56, 52, 56, 53, 56, 54, 56, 55, 56, 56, 56, 57, 57, 48, 57, 49, 57, 50, 57, 51, 57, 52, 57, 53, 57, 54, 57, 55, 57, 56, 57, 57])) (t 117)),
   o 119 (.mov (t 15)),
   o 120 (.idxStr (.cst (.str [48, 48, 48, 49, 48, 50, 48, 51, 48, 52, 48, 53, 48, 54, 48, 55, 48, 56, 48, 57, 49, 48, 49, 49, 49, 50, 49, 51, 49, 52, 49, 53, 49, 54, 49, 55, 49, 56, 49, 57, 50, 48, 50, 49, 50, 50, 50, 51, 50, 52, 50, 53, 50, 54, 50, 55, 50, 56, 50, 57, 51, 48, 51, 49, 51, 50, 51, 51, 51, 52, 51, 53, 51, 54, 51, 55, 51, 56, 51, 57, 52, 48, 52, 49, 52, 50, 52, 51, 52, 52, 52, 53, 52, 54, 52, 55, 52, 56, 52, 57, 53, 48, 53, 49, 53, 50, 53, 51, 53, 52, 53, 53, 53, 54, 53, 55, 53, 56, 53, 57, 54, 48, 54, 49, 54, 50, 54, 51, 54, 52, 54, 53, 54, 54, 54, 55, 54, 56, 54, 57, 55, 48, 55, 49, 55, 50, 55, 51, 55, 52, 55, 53, 55, 54, 55, 55, 55, 56, 55, 57, 56, 48, 56, 49, 56, 50, 56, 51, 56, 52, 56, 53, 56, 54, 56, 55, 56, 56, 56, 57, 57, 48, 57, 49, 57, 50, 57, 51, 57, 52, 57, 53, 57, 54, 57, 55, 57, 56, 57, 57])) (t 119)),
   o 121 (.idxAddr 1 (t 110) (t 112)),
   e (.store 1 (t 121) (t 118)),
   o 122 (.idxAddr 1 (t 113) (t 115)),
   e (.store 1 (t 122) (t 120))] [[], [], [1], [], [], [4], [], [6], [6, 7], [], [9], [0, 1, 2, 6, 7, 8], [0, 1, 2, 6, 7, 8, 11], [3, 4, 5, 0, 1, 2, 6, 7, 8, 9, 10, 11, 12], [3, 4, 5, 0, 1, 2, 6, 7, 8, 9, 10, 11, 12, 13]])
 (.seq (.dreg [o 123 (.mov (t 0)),
   o 124 (.mov (t 4)),
   o 125 (.bin .sub (t 124) (.cst (.int .i64 3))),
   o 126 (.mov (t 0)),
   o 127 (.mov (t 4)),
   o 128 (.bin .sub (t 127) (.cst (.int .i64 4))),
   o 129 (.mov (t 14)),
   o 130 (.bin .add (t 129) (.cst (.int .u32 1))),
   o 131 (.idxStr (.cst (.str [48, 48, 48, 49, 48, 50, 48, 51, 48, 52, 48, 53, 48, 54, 48, 55, 48, 56, 48, 57, 49, 48, 49, 49, 49, 50, 49, 51, 49, 52, 49, 53, 49, 54, 49, 55, 49, 56, 49, 57, 50, 48, 50, 49, 50, 50, 50, 51, 50, 52, 50, 53, 50, 54, 50, 55, 50, 56, 50, 57, 51, 48, 51, 49, 51, 50, 51, 51, 51, 52, 51, 53, 51, 54, 51, 55, 51, 56, 51, 57, 52, 48, 52, 49, 52, 50, 52, 51, 52, 52, 52, 53, 52, 54, 52, 55, 52, 56, 52, 57, 53, 48, 53, 49, 53, 50, 53, 51, 53, 52, 53, 53, 53, 54, 53, 55, 53, 56, 53, 57, 54, 48, 54, 49, 54, 50, 54, 51, 54, 52, 54, 53, 54, 54, 54, 55, 54, 56, 54, 57, 55, 48, 55, 49, 55, 50, 55, 51, 55, 52, 55, 53, 55, 54, 55, 55, 55, 56, 55, 57, 56, 48, 56, 49, 56, 50, 56, 51, 56, 52, 56, 53, 56, 54, 56, 55, 56, 56, 56, 57, 57, 48, 57, 49, 57, 50, 57, 51, 57, 52, 57, 53, 57, 54, 57, 55, 57, 56, 57, 57])) (t 130)),
   o 132 (.mov (t 14)),
   o 133 (.idxStr (.cst (.str [48, 48, 48, 49, 48, 50, 48, 51, 48, 52, 48, 53, 48, 54, 48, 55, 48, 56, 48, 57, 49, 48, 49, 49, 49, 50, 49, 51, 49, 52, 49, 53, 49, 54, 49, 55, 49, 56, 49, 57, 50, 48, 50, 49, 50, 50, 50, 51, 50, 52, 50, 53, 50, 54, 50, 55, 50, 56, 50, 57, 51, 48, 51, 49, 51, 50, 51, 51, 51, 52, 51, 53, 51, 54, 51, 55, 51, 56, 51, 57, 52, 48, 52, 49, 52, 50, 52, 51, 52, 52, 52, 53, 52, 54, 52, 55, 52, 56, 52, 57, 53, 48, 53, 49, 53, 50, 53, 51, 53, 52, 53, 53, 53, 54, 53, 55, 53, 56, 53, 57, 54, 48, 54, 49, 54, 50, 54, 51, 54, 52, 54, 53, 54, 54, 54, 55, 54, 56, 54, 57, 55, 48, 55, 49, 55, 50, 55, 51, 55, 52, 55, 53, 55, 54, 55, 55, 55, 56, 55, 57, 56, 48, 56, 49, 56, 50, 56, 51, 56, 52, 56, 53, 56, 54, 56, 55, 56, 56, 56, 57, 57, 48, 57, 49, 57, 50, 57, 51, 57, 52, 57, 53, 57, 54, 57, 55, 57, 56, 57, 57])) (t 132)),
   o 134 (.idxAddr 1 (t 123) (t 125)),
   e (.store 1 (t 134) (t 131)),
   o 135 (.idxAddr 1 (t 126) (t 128)),
   e (.store 1 (t 135) (t 133))] [[], [], [1], [], [], [4], [], [6], [6, 7], [], [9], [0, 1, 2, 6, 7, 8], [0, 1, 2, 6, 7, 8, 11], [3, 4, 5, 0, 1, 2, 6, 7, 8, 9, 10, 11, 12], [3, 4, 5, 0, 1, 2, 6, 7, 8, 9, 10, 11, 12, 13]])
 (.reg [o 136 (.mov (t 4)),
   o 137 (.bin .sub (t 136) (.cst (.int .i64 4))),
   o 4 (.mov (t 137))]))))))
 (.skip)))
(.gh [.kill [98, 99, 100, 101, 13, 102, 103, 104, 105, 106, 107, 108, 109, 14, 15, 110, 111, 112, 113, 114, 115, 116, 117, 118, 119, 120, 121, 122, 123, 124, 125, 126, 127, 128, 129, 130, 131, 132, 133, 134, 135, 136, 137]] (.seq (.seq (.reg [o 138 (.mov (t 4)),
  o 139 (.bin .geq (t 138) (.cst (.int .i64 2)))])
(.cond (t 139)
 (.seq (.reg [o 140 (.mov (t 12)),
   o 141 (.bin .rem (t 140) (.cst (.int .u32 100))),
   o 142 (.bin .mul (t 141) (.cst (.int .u32 2))),
   o 16 (.mov (t 142))])
 (.seq (.reg [o 143 (.mov (t 12)),
   o 144 (.bin .quo (t 143) (.cst (.int .u32 100))),
   o 12 (.mov (t 144))])
 (.seq (.dreg [o 145 (.mov (t 0)),
   o 146 (.mov (t 4)),
   o 147 (.bin .sub (t 146) (.cst (.int .i64 1))),
   o 148 (.mov (t 0)),
   o 149 (.mov (t 4)),
   o 150 (.bin .sub (t 149) (.cst (.int .i64 2))),
   o 151 (.mov (t 16)),
   o 152 (.bin .add (t 151) (.cst (.int .u32 1))),
   o 153 (.idxStr (.cst (.str [48, 48, 48, 49, 48, 50, 48, 51, 48, 52, 48, 53, 48, 54, 48, 55, 48, 56, 48, 57, 49, 48, 49, 49, 49, 50, 49, 51, 49, 52, 49, 53, 49, 54, 49, 55, 49, 56, 49, 57, 50, 48, 50, 49, 50, 50, 50, 51, 50, 52, 50, 53, 50, 54, 50, 55, 50, 56, 50, 57, 51, 48, 51, 49, 51, 50, 51, 51, 51, 52, 51, 53, 51, 54, 51, 55, 51, 56, 51, 57, 52, 48, 52, 49, 52, 50, 52, 51, 52, 52, 52, 53, 52, 54, 52, 55, 52, 56, 52, 57, 53, 48, 53, 49, 53, 50, 53, 51, 53, 52, 53, 53, 53, 54, 53, 55, 53, 56, 53, 57, 54, 48, 54, 49, 54, 50, 54, 51, 54, 52, 54, 53, 54, 54, 54, 55, 54, 56, 54, 57, 55, 48, 55, 49, 55, 50, 55, 51, 55, 52, 55, 53, 55, 54, 55, 55, 55, 56, 55, 57, 56, 48, 56, 49, 56, 50, 56, 51, 56, 52, 56, 53, 56, 54, 56, 55, 56, 56, 56, 57, 57, 48, 57, 49, 57, 50, 57, 51, 57, 52, 57, 53, 57, 54, 57, 55, 57, 56, 57, 57])) (t 152)),
   o 154 (.mov (t 16)),
   o 155 (.idxStr (.cst (.str [48, 48, 48, 49, 48, 50, 48, 51, 48, 52, 48, 53, 48, 54, 48, 55, 48, 56, 48, 57, 49, 48, 49, 49, 49, 50, 49, 51, 49, 52, 49, 53, 49, 54, 49, 55, 49, 56, 49, 57, 50, 48, 50, 49, 50, 50, 50, 51, 50, 52, 50, 53, 50, 54, 50, 55, 50, 56, 50, 57, 51, 48, 51, 49, 51, 50, 51, 51, 51, 52, 51, 53, 51, 54, 51, 55, 51, 56, 51, 57, 52, 48, 52, 49, 52, 50, 52, 51, 52, 52, 52, 53, 52, 54, 52, 55, 52, 56, 52, 57, 53, 48, 53, 49, 53, 50, 53, 51, 53, 52, 53, 53, 53, 54, 53, 55, 53, 56, 53, 57, 54, 48, 54, 49, 54, 50, 54, 51, 54, 52, 54, 53, 54, 54, 54, 55, 54, 56, 54, 57, 55, 48, 55, 49, 55, 50, 55, 51, 55, 52, 55, 53, 55, 54, 55, 55, 55, 56, 55, 57, 56, 48, 56, 49, 56, 50, 56, 51, 56, 52, 56, 53, 56, 54, 56, 55, 56, 56, 56, 57, 57, 48, 57, 49, 57, 50, 57, 51, 57, 52, 57, 53, 57, 54, 57, 55, 57, 56, 57, 57])) (t 154)),
   o 156 (.idxAddr 1 (t 145) (t 147)),
   e (.store 1 (t 156) (t 153)),
   o 157 (.idxAddr 1 (t 148) (t 150)),
   e (.store 1 (t 157) (t 155))] [[], [], [1], [], [], [4], [], [6], [6, 7], [], [9], [0, 1, 2, 6, 7, 8], [0, 1, 2, 6, 7, 8, 11], [3, 4, 5, 0, 1, 2, 6, 7, 8, 9, 10, 11, 12], [3, 4, 5, 0, 1, 2, 6, 7, 8, 9, 10, 11, 12, 13]])
 (.reg [o 158 (.mov (t 4)),
   o 159 (.bin .sub (t 158) (.cst (.int .i64 2))),
   o 4 (.mov (t 159))]))))
 (.skip)))
(.gh [.kill [138, 139, 140, 141, 142, 16, 143, 144, 145, 146, 147, 148, 149, 150, 151, 152, 153, 154, 155, 156, 157, 158, 159]] (.seq (.reg [o 160 (.mov (t 4)),
  o 161 (.bin .gtr (t 160) (.cst (.int .i64 0)))])
(.cond (t 161)
 (.reg [o 162 (.mov (t 0)),
   o 163 (.mov (t 12)),
   o 164 (.bin .add (.cst (.int .u32 48)) (t 163)),
   o 165 (.cvInt .u8 (t 164)),
   o 166 (.idxAddr 1 (t 162) (.cst (.int .i64 0))),
   e (.store 1 (t 166) (t 165))])
 (.skip))))))))), []⟩
theorem ir113_tr : trF Tryd.prog ir113 Tryd.f113 = some ir113 := by kernel_rfl

-- internal/bytealg.Cutover
def ir116 : IF := ⟨6, .seq (.reg [o 2 (.mov (.cst (.int .i64 0)))])
(.seq (.reg [o 3 (.mov (t 0)),
  o 4 (.bin .add (t 3) (.cst (.int .i64 16))),
  o 5 (.bin .quo (t 4) (.cst (.int .i64 8))),
  o 2 (.mov (t 5))])
(.ret)), [.tmp 2]⟩
theorem ir116_tr : trF Tryd.prog ir116 Tryd.f116 = some ir116 := by kernel_rfl

-- internal/bytealg.IndexRabinKarp[string]
def ir117 : IF := ⟨81, .seq (.reg [o 4 (.mov (.cst (.int .i64 0)))])
(.seq (.reg [o 12 (.mov (t 1)),
  o 13 (.call 0 (.fn 124) [(t 12)]),
  o 11 (.mov (t 13)),
  o 14 (.extract 0 (t 11)),
  o 15 (.extract 1 (t 11)),
  o 5 (.mov (t 14)),
  o 6 (.mov (t 15))])
(.seq (.reg [o 16 (.mov (t 1)),
  o 17 (.len .str (t 16)),
  o 7 (.mov (t 17))])
(.seq (.reg [o 8 (.mov (.cst (.int .u32 0)))])
(.seq (.seq (.reg [o 9 (.mov (.cst (.int .i64 0)))])
(.block 0 (.loop [18, 19, 20, 23, 24, 25, 26, 27, 28, 29, 21, 22] (.seq (.seq (.reg [o 18 (.mov (t 9)),
    o 19 (.mov (t 7)),
    o 20 (.bin .lss (t 18) (t 19))])
  (.cond (t 20)
   (.skip)
   (.exit 0)))
  (.seq (.block 1 (.reg [o 23 (.mov (t 8)),
     o 24 (.bin .mul (t 23) (.cst (.int .u32 16777619))),
     o 25 (.mov (t 0)),
     o 26 (.mov (t 9)),
     o 27 (.idxStr (t 25) (t 26)),
     o 28 (.cvInt .u32 (t 27)),
     o 29 (.bin .add (t 24) (t 28)),
     o 8 (.mov (t 29))]))
  (.reg [o 21 (.mov (t 9)),
    o 22 (.bin .add (t 21) (.cst (.int .i64 1))),
    o 9 (.mov (t 22))]))))))
(.seq (.seq (.reg [o 30 (.mov (t 8)),
  o 31 (.mov (t 5)),
  o 32 (.bin .eql (t 30) (t 31)),
  o 33 (.mov (t 32)),
  og 34 33 true (.mov (t 0)),
  og 35 33 true (.mov (t 7)),
  og 36 33 true (.slcS (t 34) none (some (t 35))),
  og 37 33 true (.mov (t 1)),
  og 38 33 true (.bin .eql (t 36) (t 37)),
  o 39 (.pick (t 33) (t 38) (.cst (.bool false)))])
(.gh [.kill [30, 31, 32, 33, 34, 35, 36, 37, 38]] (.cond (t 39)
 (.seq (.reg [o 4 (.mov (.cst (.int .i64 0)))])
 (.ret))
 (.skip))))
(.seq (.seq (.reg [o 40 (.mov (t 7)),
  o 10 (.mov (t 40))])
(.block 2 (.loop [41, 42, 43, 44, 45, 46, 47, 48, 49, 50, 51, 52, 53, 54, 55, 56, 57, 58, 59, 60, 61, 62, 63, 64, 77, 65, 66, 67, 68, 69, 70, 71, 72, 73, 74, 75, 76, 78, 79, 80, 4] (.seq (.seq (.reg [o 41 (.mov (t 10)),
    o 42 (.mov (t 0)),
    o 43 (.len .str (t 42)),
    o 44 (.bin .lss (t 41) (t 43))])
  (.cond (t 44)
   (.skip)
   (.exit 2)))
  (.block 3 (.seq (.reg [o 45 (.mov (t 8)),
     o 46 (.bin .mul (t 45) (.cst (.int .u32 16777619))),
     o 8 (.mov (t 46))])
   (.seq (.reg [o 47 (.mov (t 8)),
     o 48 (.mov (t 0)),
     o 49 (.mov (t 10)),
     o 50 (.idxStr (t 48) (t 49)),
     o 51 (.cvInt .u32 (t 50)),
     o 52 (.bin .add (t 47) (t 51)),
     o 8 (.mov (t 52))])
   (.seq (.reg [o 53 (.mov (t 8)),
     o 54 (.mov (t 6)),
     o 55 (.mov (t 0)),
     o 56 (.mov (t 10)),
     o 57 (.mov (t 7)),
     o 58 (.bin .sub (t 56) (t 57)),
     o 59 (.idxStr (t 55) (t 58)),
     o 60 (.cvInt .u32 (t 59)),
     o 61 (.bin .mul (t 54) (t 60)),
     o 62 (.bin .sub (t 53) (t 61)),
     o 8 (.mov (t 62))])
   (.seq (.reg [o 63 (.mov (t 10)),
     o 64 (.bin .add (t 63) (.cst (.int .i64 1))),
     o 10 (.mov (t 64))])
   (.seq (.reg [o 65 (.mov (t 8)),
     o 66 (.mov (t 5)),
     o 67 (.bin .eql (t 65) (t 66)),
     o 68 (.mov (t 67)),
     og 69 68 true (.mov (t 0)),
     og 70 68 true (.mov (t 10)),
     og 71 68 true (.mov (t 7)),
     og 72 68 true (.bin .sub (t 70) (t 71)),
     og 73 68 true (.mov (t 10)),
     og 74 68 true (.slcS (t 69) (some (t 72)) (some (t 73))),
     og 75 68 true (.mov (t 1)),
     og 76 68 true (.bin .eql (t 74) (t 75)),
     o 77 (.pick (t 68) (t 76) (.cst (.bool false)))])
   (.gh [.kill [65, 66, 67, 68, 69, 70, 71, 72, 73, 74, 75, 76]] (.cond (t 77)
    (.seq (.reg [o 78 (.mov (t 10)),
      o 79 (.mov (t 7)),
      o 80 (.bin .sub (t 78) (t 79)),
      o 4 (.mov (t 80))])
    (.ret))
    (.skip)))))))))))))
(.seq (.reg [o 4 (.mov (.cst (.int .i64 (-1))))])
(.ret)))))))), [.tmp 4]⟩
theorem ir117_tr : trF Tryd.prog ir117 Tryd.f117 = some ir117 := by kernel_rfl

-- internal/stringslite.HasPrefix
def ir118 : IF := ⟨18, .seq (.reg [o 4 (.mov (.cst (.bool false)))])
(.seq (.reg [o 5 (.mov (t 0)),
  o 6 (.len .str (t 5)),
  o 7 (.mov (t 1)),
  o 8 (.len .str (t 7)),
  o 9 (.bin .geq (t 6) (t 8)),
  o 10 (.mov (t 9)),
  og 11 10 true (.mov (t 0)),
  og 12 10 true (.mov (t 1)),
  og 13 10 true (.len .str (t 12)),
  og 14 10 true (.slcS (t 11) none (some (t 13))),
  og 15 10 true (.mov (t 1)),
  og 16 10 true (.bin .eql (t 14) (t 15)),
  o 17 (.pick (t 10) (t 16) (.cst (.bool false))),
  o 4 (.mov (t 17))])
(.ret)), [.tmp 4]⟩
theorem ir118_tr : trF Tryd.prog ir118 Tryd.f118 = some ir118 := by kernel_rfl

-- internal/strconv.log10Pow2
def ir119 : IF := ⟨6, .seq (.reg [o 2 (.mov (.cst (.int .i64 0)))])
(.seq (.reg [o 3 (.mov (t 0)),
  o 4 (.bin .mul (t 3) (.cst (.int .i64 78913))),
  o 5 (.bin .shr (t 4) (.cst (.int .u64 18))),
  o 2 (.mov (t 5))])
(.ret)), [.tmp 2]⟩
theorem ir119_tr : trF Tryd.prog ir119 Tryd.f119 = some ir119 := by kernel_rfl

-- math/bits.Len64
def ir120 : IF := ⟨25, .seq (.reg [o 2 (.mov (.cst (.int .i64 0)))])
(.seq (.seq (.reg [o 3 (.mov (t 0)),
  o 4 (.bin .geq (t 3) (.cst (.int .u64 4294967296)))])
(.cond (t 4)
 (.seq (.reg [o 5 (.mov (t 0)),
   o 6 (.bin .shr (t 5) (.cst (.int .u64 32))),
   o 0 (.mov (t 6))])
 (.reg [o 2 (.mov (.cst (.int .i64 32)))]))
 (.skip)))
(.gh [.kill [3, 4, 5, 6]] (.seq (.seq (.reg [o 7 (.mov (t 0)),
  o 8 (.bin .geq (t 7) (.cst (.int .u64 65536)))])
(.cond (t 8)
 (.seq (.reg [o 9 (.mov (t 0)),
   o 10 (.bin .shr (t 9) (.cst (.int .u64 16))),
   o 0 (.mov (t 10))])
 (.reg [o 11 (.mov (t 2)),
   o 12 (.bin .add (t 11) (.cst (.int .i64 16))),
   o 2 (.mov (t 12))]))
 (.skip)))
(.gh [.kill [7, 8, 9, 10, 11, 12]] (.seq (.seq (.reg [o 13 (.mov (t 0)),
  o 14 (.bin .geq (t 13) (.cst (.int .u64 256)))])
(.cond (t 14)
 (.seq (.reg [o 15 (.mov (t 0)),
   o 16 (.bin .shr (t 15) (.cst (.int .u64 8))),
   o 0 (.mov (t 16))])
 (.reg [o 17 (.mov (t 2)),
   o 18 (.bin .add (t 17) (.cst (.int .i64 8))),
   o 2 (.mov (t 18))]))
 (.skip)))
(.gh [.kill [13, 14, 15, 16, 17, 18]] (.seq (.reg [o 19 (.mov (t 2)),
  o 20 (.mov (t 0)),
  o 21 (.cvInt .u8 (t 20)),
  o 22 (.idxStr (.cst (.str [0, 1, 2, 2, 3, 3, 3, 3, 4, 4, 4, 4, 4, 4, 4, 4, 5, 5, 5, 5, 5, 5, 5, 5, 5, 5, 5, 5, 5, 5, 5, 5, 6, 6, 6, 6, 6, 6, 6, 6, 6, 6, 6, 6, 6, 6, 6, 6, 6, 6, 6, 6, 6, 6, 6, 6, 6, 6, 6, 6, 6, 6, 6, 6, 7, 7, 7, 7, 7, 7, 7, 7, 7, 7, 7, 7, 7, 7, 7, 7, 7, 7, 7, 7, 7, 7, 7, 7, 7, 7, 7, 7, 7, 7, 7, 7, 7, 7, 7, 7, 7, 7, 7, 7, 7, 7, 7, 7, 7, 7, 7, 7, 7, 7, 7, 7, 7, 7, 7, 7, 7, 7, 7, 7, 7, 7, 7, 7, 8, 8, 8, 8, 8, 8, 8, 8, 8, 8, 8, 8, 8, 8, 8, 8, 8, 8, 8, 8, 8, 8, 8, 8, 8, 8, 8, 8, 8, 8, 8, 8, 8, 8, 8, 8, 8, 8, 8, 8, 8, 8, 8, 8, 8, 8, 8, 8, 8, 8, 8, 8, 8, 8, 8, 8, 8, 8, 8, 8, 8, 8, 8, 8, 8, 8, 8, 8, 8, 8, 8, 8, 8, 8, 8, 8, 8, 8, 8, 8, 8, 8, 8, 8, 8, 8, 8, 8, 8, 8, 8, 8, 8, 8, 8, 8, 8, 8, 8, 8, 8, 8, 8, 8, 8, 8, 8, 8, 8, 8, 8, 8, 8, 8, 8, 8, 8, 8, 8, 8, 8, 8, 8, 8, 8, 8, 8, 8])) (t 21)),
  o 23 (.cvInt .i64 (t 22)),
  o 24 (.bin .add (t 19) (t 23)),
  o 2 (.mov (t 24))])
(.ret)))))))), [.tmp 2]⟩
theorem ir120_tr : trF Tryd.prog ir120 Tryd.f120 = some ir120 := by kernel_rfl

-- internal/strconv.bool2[int]
def ir121 : IF := ⟨4, .seq (.reg [o 2 (.mov (.cst (.int .i64 0)))])
(.seq (.seq (.reg [o 3 (.mov (t 0))])
(.cond (t 3)
 (.seq (.reg [o 2 (.mov (.cst (.int .i64 1)))])
 (.ret))
 (.skip)))
(.seq (.reg [o 2 (.mov (.cst (.int .i64 0)))])
(.ret))), [.tmp 2]⟩
theorem ir121_tr : trF Tryd.prog ir121 Tryd.f121 = some ir121 := by kernel_rfl

-- internal/strconv.isPowerOfTwo
def ir122 : IF := ⟨8, .seq (.reg [o 2 (.mov (.cst (.bool false)))])
(.seq (.reg [o 3 (.mov (t 0)),
  o 4 (.mov (t 0)),
  o 5 (.bin .sub (t 4) (.cst (.int .i64 1))),
  o 6 (.bin .and (t 3) (t 5)),
  o 7 (.bin .eql (t 6) (.cst (.int .i64 0))),
  o 2 (.mov (t 7))])
(.ret)), [.tmp 2]⟩
theorem ir122_tr : trF Tryd.prog ir122 Tryd.f122 = some ir122 := by kernel_rfl

-- math/bits.TrailingZeros
def ir123 : IF := ⟨8, .seq (.reg [o 2 (.mov (.cst (.int .i64 0)))])
(.seq (.cond (.cst (.bool false))
 (.seq (.reg [o 3 (.mov (t 0)),
   o 4 (.cvInt .u32 (t 3)),
   o 5 (.call 0 (.fn 125) [(t 4)]),
   o 2 (.mov (t 5))])
 (.ret))
 (.skip))
(.seq (.reg [o 6 (.mov (t 0)),
  o 7 (.call 0 (.fn 126) [(t 6)]),
  o 2 (.mov (t 7))])
(.ret))), [.tmp 2]⟩
theorem ir123_tr : trF Tryd.prog ir123 Tryd.f123 = some ir123 := by kernel_rfl

-- internal/bytealg.hashStr[string]
def ir124 : IF := ⟨39, .seq (.reg [o 2 (.mov (.cst (.int .u32 0))),
  o 3 (.mov (.cst (.int .u32 0)))])
(.seq (.reg [o 4 (.mov (.cst (.int .u32 0)))])
(.seq (.seq (.reg [o 5 (.mov (.cst (.int .i64 0)))])
(.block 0 (.loop [9, 10, 11, 12, 15, 16, 17, 18, 19, 20, 21, 13, 14] (.seq (.seq (.reg [o 9 (.mov (t 5)),
    o 10 (.mov (t 0)),
    o 11 (.len .str (t 10)),
    o 12 (.bin .lss (t 9) (t 11))])
  (.cond (t 12)
   (.skip)
   (.exit 0)))
  (.seq (.block 1 (.reg [o 15 (.mov (t 4)),
     o 16 (.bin .mul (t 15) (.cst (.int .u32 16777619))),
     o 17 (.mov (t 0)),
     o 18 (.mov (t 5)),
     o 19 (.idxStr (t 17) (t 18)),
     o 20 (.cvInt .u32 (t 19)),
     o 21 (.bin .add (t 16) (t 20)),
     o 4 (.mov (t 21))]))
  (.reg [o 13 (.mov (t 5)),
    o 14 (.bin .add (t 13) (.cst (.int .i64 1))),
    o 5 (.mov (t 14))]))))))
(.seq (.reg [o 6 (.mov (.cst (.int .u32 1))),
  o 7 (.mov (.cst (.int .u32 16777619)))])
(.seq (.seq (.reg [o 22 (.mov (t 0)),
  o 23 (.len .str (t 22)),
  o 8 (.mov (t 23))])
(.block 2 (.loop [24, 25, 28, 29, 30, 31, 32, 33, 34, 35, 36, 26, 27] (.seq (.seq (.reg [o 24 (.mov (t 8)),
    o 25 (.bin .gtr (t 24) (.cst (.int .i64 0)))])
  (.cond (t 25)
   (.skip)
   (.exit 2)))
  (.seq (.block 3 (.seq (.seq (.reg [o 28 (.mov (t 8)),
     o 29 (.bin .and (t 28) (.cst (.int .i64 1))),
     o 30 (.bin .neq (t 29) (.cst (.int .i64 0)))])
   (.cond (t 30)
    (.reg [o 31 (.mov (t 6)),
      o 32 (.mov (t 7)),
      o 33 (.bin .mul (t 31) (t 32)),
      o 6 (.mov (t 33))])
    (.skip)))
   (.gh [.kill [28, 29, 30, 31, 32, 33]] (.reg [o 34 (.mov (t 7)),
     o 35 (.mov (t 7)),
     o 36 (.bin .mul (t 34) (t 35)),
     o 7 (.mov (t 36))]))))
  (.reg [o 26 (.mov (t 8)),
    o 27 (.bin .shr (t 26) (.cst (.int .u64 1))),
    o 8 (.mov (t 27))]))))))
(.seq (.reg [o 37 (.mov (t 4)),
  o 38 (.mov (t 6)),
  o 2 (.mov (t 37)),
  o 3 (.mov (t 38))])
(.ret)))))), [.tmp 2, .tmp 3]⟩
theorem ir124_tr : trF Tryd.prog ir124 Tryd.f124 = some ir124 := by kernel_rfl

def irs : List (Nat × IF) := [(2, ir2), (3, ir3), (4, ir4), (5, ir5), (6, ir6), (7, ir7), (8, ir8), (9, ir9), (10, ir10), (11, ir11), (12, ir12), (13, ir13), (14, ir14), (100014, ir14v1), (15, ir15), (16, ir16), (17, ir17), (18, ir18), (19, ir19), (20, ir20), (21, ir21), (22, ir22), (23, ir23), (24, ir24), (25, ir25), (26, ir26), (27, ir27), (28, ir28), (29, ir29), (30, ir30), (31, ir31), (32, ir32), (33, ir33), (34, ir34), (35, ir35), (36, ir36), (37, ir37), (38, ir38), (39, ir39), (40, ir40), (41, ir41), (42, ir42), (43, ir43), (100043, ir43v1), (44, ir44), (45, ir45), (46, ir46), (47, ir47), (48, ir48), (49, ir49), (50, ir50), (51, ir51), (52, ir52), (53, ir53), (54, ir54), (55, ir55), (56, ir56), (57, ir57), (58, ir58), (59, ir59), (60, ir60), (61, ir61), (62, ir62), (63, ir63), (65, ir65), (66, ir66), (67, ir67), (68, ir68), (69, ir69), (71, ir71), (72, ir72), (73, ir73), (74, ir74), (75, ir75), (76, ir76), (77, ir77), (79, ir79), (80, ir80), (81, ir81), (83, ir83), (84, ir84), (85, ir85), (86, ir86), (87, ir87), (88, ir88), (89, ir89), (90, ir90), (91, ir91), (92, ir92), (93, ir93), (94, ir94), (95, ir95), (96, ir96), (97, ir97), (98, ir98), (99, ir99), (100, ir100), (101, ir101), (102, ir102), (103, ir103), (104, ir104), (107, ir107), (109, ir109), (110, ir110), (111, ir111), (113, ir113), (116, ir116), (117, ir117), (118, ir118), (119, ir119), (120, ir120), (121, ir121), (122, ir122), (123, ir123), (124, ir124)]

theorem irs_ok (T' : Laid) : ∀ p ∈ irs, EntryOk Tryd.prog T' p.1 (.ir p.2) := by
  intro p hp
  simp only [irs, List.mem_cons, List.mem_nil_iff, or_false] at hp
  rcases hp with rfl | rfl | rfl | rfl | rfl | rfl | rfl | rfl | rfl | rfl | rfl | rfl | rfl | rfl | rfl | rfl | rfl | rfl | rfl | rfl | rfl | rfl | rfl | rfl | rfl | rfl | rfl | rfl | rfl | rfl | rfl | rfl | rfl | rfl | rfl | rfl | rfl | rfl | rfl | rfl | rfl | rfl | rfl | rfl | rfl | rfl | rfl | rfl | rfl | rfl | rfl | rfl | rfl | rfl | rfl | rfl | rfl | rfl | rfl | rfl | rfl | rfl | rfl | rfl | rfl | rfl | rfl | rfl | rfl | rfl | rfl | rfl | rfl | rfl | rfl | rfl | rfl | rfl | rfl | rfl | rfl | rfl | rfl | rfl | rfl | rfl | rfl | rfl | rfl | rfl | rfl | rfl | rfl | rfl | rfl | rfl | rfl | rfl | rfl | rfl | rfl | rfl | rfl | rfl | rfl | rfl | rfl | rfl | rfl | rfl | rfl | rfl | rfl | rfl | rfl
  · exact ⟨_, Tryd.func2, ir2_tr⟩
  · exact ⟨_, Tryd.func3, ir3_tr⟩
  · exact ⟨_, Tryd.func4, ir4_tr⟩
  · exact ⟨_, Tryd.func5, ir5_tr⟩
  · exact ⟨_, Tryd.func6, ir6_tr⟩
  · exact ⟨_, Tryd.func7, ir7_tr⟩
  · exact ⟨_, Tryd.func8, ir8_tr⟩
  · exact ⟨_, Tryd.func9, ir9_tr⟩
  · exact ⟨_, Tryd.func10, ir10_tr⟩
  · exact ⟨_, Tryd.func11, ir11_tr⟩
  · exact ⟨_, Tryd.func12, ir12_tr⟩
  · exact ⟨_, Tryd.func13, ir13_tr⟩
  · exact ⟨_, Tryd.func14, ir14_tr⟩
  · exact ⟨_, Tryd.func14, ir14v1_tr⟩
  · exact ⟨_, Tryd.func15, ir15_tr⟩
  · exact ⟨_, Tryd.func16, ir16_tr⟩
  · exact ⟨_, Tryd.func17, ir17_tr⟩
  · exact ⟨_, Tryd.func18, ir18_tr⟩
  · exact ⟨_, Tryd.func19, ir19_tr⟩
  · exact ⟨_, Tryd.func20, ir20_tr⟩
  · exact ⟨_, Tryd.func21, ir21_tr⟩
  · exact ⟨_, Tryd.func22, ir22_tr⟩
  · exact ⟨_, Tryd.func23, ir23_tr⟩
  · exact ⟨_, Tryd.func24, ir24_tr⟩
  · exact ⟨_, Tryd.func25, ir25_tr⟩
  · exact ⟨_, Tryd.func26, ir26_tr⟩
  · exact ⟨_, Tryd.func27, ir27_tr⟩
  · exact ⟨_, Tryd.func28, ir28_tr⟩
  · exact ⟨_, Tryd.func29, ir29_tr⟩
  · exact ⟨_, Tryd.func30, ir30_tr⟩
  · exact ⟨_, Tryd.func31, ir31_tr⟩
  · exact ⟨_, Tryd.func32, ir32_tr⟩
  · exact ⟨_, Tryd.func33, ir33_tr⟩
  · exact ⟨_, Tryd.func34, ir34_tr⟩
  · exact ⟨_, Tryd.func35, ir35_tr⟩
  · exact ⟨_, Tryd.func36, ir36_tr⟩
  · exact ⟨_, Tryd.func37, ir37_tr⟩
  · exact ⟨_, Tryd.func38, ir38_tr⟩
  · exact ⟨_, Tryd.func39, ir39_tr⟩
  · exact ⟨_, Tryd.func40, ir40_tr⟩
  · exact ⟨_, Tryd.func41, ir41_tr⟩
  · exact ⟨_, Tryd.func42, ir42_tr⟩
  · exact ⟨_, Tryd.func43, ir43_tr⟩
  · exact ⟨_, Tryd.func43, ir43v1_tr⟩
  · exact ⟨_, Tryd.func44, ir44_tr⟩
  · exact ⟨_, Tryd.func45, ir45_tr⟩
  · exact ⟨_, Tryd.func46, ir46_tr⟩
  · exact ⟨_, Tryd.func47, ir47_tr⟩
  · exact ⟨_, Tryd.func48, ir48_tr⟩
  · exact ⟨_, Tryd.func49, ir49_tr⟩
  · exact ⟨_, Tryd.func50, ir50_tr⟩
  · exact ⟨_, Tryd.func51, ir51_tr⟩
  · exact ⟨_, Tryd.func52, ir52_tr⟩
  · exact ⟨_, Tryd.func53, ir53_tr⟩
  · exact ⟨_, Tryd.func54, ir54_tr⟩
  · exact ⟨_, Tryd.func55, ir55_tr⟩
  · exact ⟨_, Tryd.func56, ir56_tr⟩
  · exact ⟨_, Tryd.func57, ir57_tr⟩
  · exact ⟨_, Tryd.func58, ir58_tr⟩
  · exact ⟨_, Tryd.func59, ir59_tr⟩
  · exact ⟨_, Tryd.func60, ir60_tr⟩
  · exact ⟨_, Tryd.func61, ir61_tr⟩
  · exact ⟨_, Tryd.func62, ir62_tr⟩
  · exact ⟨_, Tryd.func63, ir63_tr⟩
  · exact ⟨_, Tryd.func65, ir65_tr⟩
  · exact ⟨_, Tryd.func66, ir66_tr⟩
  · exact ⟨_, Tryd.func67, ir67_tr⟩
  · exact ⟨_, Tryd.func68, ir68_tr⟩
  · exact ⟨_, Tryd.func69, ir69_tr⟩
  · exact ⟨_, Tryd.func71, ir71_tr⟩
  · exact ⟨_, Tryd.func72, ir72_tr⟩
  · exact ⟨_, Tryd.func73, ir73_tr⟩
  · exact ⟨_, Tryd.func74, ir74_tr⟩
  · exact ⟨_, Tryd.func75, ir75_tr⟩
  · exact ⟨_, Tryd.func76, ir76_tr⟩
  · exact ⟨_, Tryd.func77, ir77_tr⟩
  · exact ⟨_, Tryd.func79, ir79_tr⟩
  · exact ⟨_, Tryd.func80, ir80_tr⟩
  · exact ⟨_, Tryd.func81, ir81_tr⟩
  · exact ⟨_, Tryd.func83, ir83_tr⟩
  · exact ⟨_, Tryd.func84, ir84_tr⟩
  · exact ⟨_, Tryd.func85, ir85_tr⟩
  · exact ⟨_, Tryd.func86, ir86_tr⟩
  · exact ⟨_, Tryd.func87, ir87_tr⟩
  · exact ⟨_, Tryd.func88, ir88_tr⟩
  · exact ⟨_, Tryd.func89, ir89_tr⟩
  · exact ⟨_, Tryd.func90, ir90_tr⟩
  · exact ⟨_, Tryd.func91, ir91_tr⟩
  · exact ⟨_, Tryd.func92, ir92_tr⟩
  · exact ⟨_, Tryd.func93, ir93_tr⟩
  · exact ⟨_, Tryd.func94, ir94_tr⟩
  · exact ⟨_, Tryd.func95, ir95_tr⟩
  · exact ⟨_, Tryd.func96, ir96_tr⟩
  · exact ⟨_, Tryd.func97, ir97_tr⟩
  · exact ⟨_, Tryd.func98, ir98_tr⟩
  · exact ⟨_, Tryd.func99, ir99_tr⟩
  · exact ⟨_, Tryd.func100, ir100_tr⟩
  · exact ⟨_, Tryd.func101, ir101_tr⟩
  · exact ⟨_, Tryd.func102, ir102_tr⟩
  · exact ⟨_, Tryd.func103, ir103_tr⟩
  · exact ⟨_, Tryd.func104, ir104_tr⟩
  · exact ⟨_, Tryd.func107, ir107_tr⟩
  · exact ⟨_, Tryd.func109, ir109_tr⟩
  · exact ⟨_, Tryd.func110, ir110_tr⟩
  · exact ⟨_, Tryd.func111, ir111_tr⟩
  · exact ⟨_, Tryd.func113, ir113_tr⟩
  · exact ⟨_, Tryd.func116, ir116_tr⟩
  · exact ⟨_, Tryd.func117, ir117_tr⟩
  · exact ⟨_, Tryd.func118, ir118_tr⟩
  · exact ⟨_, Tryd.func119, ir119_tr⟩
  · exact ⟨_, Tryd.func120, ir120_tr⟩
  · exact ⟨_, Tryd.func121, ir121_tr⟩
  · exact ⟨_, Tryd.func122, ir122_tr⟩
  · exact ⟨_, Tryd.func123, ir123_tr⟩
  · exact ⟨_, Tryd.func124, ir124_tr⟩

def irAt (k : Nat) : Option IF := (irs.find? fun p => p.1 == k).map (·.2)

theorem irAt_ok (T' : Laid) {k : Nat} {f : IF} (h : irAt k = some f) : EntryOk Tryd.prog T' k (.ir f) := by
  simp only [irAt, Option.map_eq_some_iff] at h
  obtain ⟨p, hp, rfl⟩ := h
  have hk := List.find?_some hp
  simp only [beq_iff_eq] at hk
  subst hk
  exact irs_ok T' p (List.mem_of_find?_eq_some hp)

/-- A table that holds the program's functions. -/
def Has (T : Nat → Option Entry) : Prop := ∀ k f, irAt k = some f → T k = some (.ir f)

end Go.SV
