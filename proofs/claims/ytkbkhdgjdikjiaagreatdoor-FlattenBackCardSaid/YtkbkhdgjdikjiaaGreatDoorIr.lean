/- The program's functions, translated for the abstract machine; each is checked by the kernel against the program. Printed by a program of the prover's own. -/
import Derived.Test.YtkbkhdgjdikjiaaGreatDoorProg
import Derived.Test.YtkbkhdgjdikjiaaGreatDoorLd
import Derived.KernelRfl
set_option maxRecDepth 100000
namespace Go.SV
open Go.Proofs
abbrev t (n : Nat) : Opd := .tmp n
abbrev o (d : Nat) (x : IOp) : IOper := ⟨some d, x, none⟩
abbrev e (x : IOp) : IOper := ⟨none, x, none⟩
abbrev og (d g : Nat) (b : Bool) (x : IOp) : IOper := ⟨some d, x, some (g, b)⟩
abbrev eg (g : Nat) (b : Bool) (x : IOp) : IOper := ⟨none, x, some (g, b)⟩

-- grille/grillelaw10.FlattenBack
def ir4 : IF := ⟨63, .seq (.reg [o 2 (.mov (.cst (.bool false)))])
(.seq (.seq (.reg [o 10 (.call 0 (.fn 13) []),
  o 11 (.not (t 10))])
(.cond (t 11)
 (.seq (.reg [o 2 (.mov (.cst (.bool false)))])
 (.ret))
 (.skip)))
(.seq (.seq (.reg [o 12 (.mov (t 0)),
  o 13 (.call 0 (.fn 7) [(t 12)])])
(.cond (t 13)
 (.seq (.reg [o 2 (.mov (.cst (.bool true)))])
 (.ret))
 (.skip)))
(.seq (.reg [o 14 (.mov (t 0)),
  o 15 (.call 0 (.fn 8) [(t 14)]),
  o 3 (.mov (t 15))])
(.seq (.reg [o 17 (.mov (t 3)),
  o 18 (.call 0 (.fn 14) [(t 17)]),
  o 16 (.mov (t 18)),
  o 19 (.extract 0 (t 16)),
  o 20 (.extract 1 (t 16)),
  o 4 (.mov (t 19)),
  o 5 (.mov (t 20))])
(.seq (.seq (.reg [o 21 (.mov (t 5)),
  o 22 (.bin .neq (t 21) (.cst (.int .i64 0)))])
(.cond (t 22)
 (.seq (.reg [o 23 (.mov (t 4)),
   o 24 (.len .row (t 23)),
   o 25 (.bin .eql (t 24) (.cst (.int .i64 0))),
   o 2 (.mov (t 25))])
 (.ret))
 (.skip)))
(.seq (.reg [o 27 (.mov (t 4)),
  o 28 (.call 0 (.fn 15) [(t 27)]),
  o 26 (.mov (t 28)),
  o 29 (.extract 0 (t 26)),
  o 30 (.extract 1 (t 26)),
  o 6 (.mov (t 29)),
  o 7 (.mov (t 30))])
(.seq (.seq (.reg [o 31 (.mov (t 7)),
  o 32 (.bin .neq (t 31) (.cst (.int .i64 0))),
  o 33 (.mov (t 32)),
  og 34 33 false (.mov (t 6)),
  og 35 33 false (.len .row (t 34)),
  og 36 33 false (.mov (t 3)),
  og 37 33 false (.len .row (t 36)),
  og 38 33 false (.bin .neq (t 35) (t 37)),
  o 39 (.pick (t 33) (.cst (.bool true)) (t 38)),
  o 40 (.mov (t 39)),
  og 41 40 false (.mov (t 4)),
  og 42 40 false (.call 0 (.fn 16) [(t 41)]),
  og 43 40 false (.not (t 42)),
  o 44 (.pick (t 40) (.cst (.bool true)) (t 43))])
(.gh [.kill [31, 32, 33, 34, 35, 36, 37, 38, 39, 40, 41, 42, 43]] (.cond (t 44)
 (.seq (.reg [o 2 (.mov (.cst (.bool false)))])
 (.ret))
 (.skip))))
(.seq (.seq (.reg [o 45 (.mov (t 6)),
  o 46 (.len .row (t 45)),
  o 47 (.mov (.cst (.int .i64 0)))])
(.block 0 (.loop [48, 49, 50, 51, 8, 9, 52, 53, 54, 55, 56, 57, 58, 59, 60, 61, 2, 62] (.seq (.reg [o 48 (.bin .lss (t 47) (t 46))])
  (.seq (.cond (t 48)
   (.skip)
   (.exit 0))
  (.seq (.block 1 (.seq (.reg [o 49 (.mov (t 47)),
     o 50 (.idxAddr 1 (t 45) (t 47)),
     o 51 (.load none (t 50)),
     o 8 (.mov (t 49)),
     o 9 (.mov (t 51))])
   (.seq (.dreg [o 52 (.mov (t 9)),
     o 53 (.call 0 (.fn 18) [(t 52)]),
     o 54 (.mov (t 3)),
     o 55 (.mov (t 8)),
     o 56 (.idxAddr 1 (t 54) (t 55)),
     o 57 (.load none (t 56)),
     o 58 (.call 0 (.fn 19) [(t 57)]),
     o 59 (.call 0 (.fn 18) [(t 58)]),
     o 60 (.call 0 (.fn 17) [(t 53), (t 59)]),
     o 61 (.not (t 60))] [[], [0], [], [], [2, 3], [2, 3, 4], [2, 3, 4, 5, 0, 1], [2, 3, 4, 5, 0, 1, 6], [0, 1, 2, 3, 4, 5, 6, 7], [0, 1, 2, 3, 4, 5, 6, 7, 8]])
   (.cond (t 61)
    (.seq (.reg [o 2 (.mov (.cst (.bool false)))])
    (.ret))
    (.skip)))))
  (.reg [o 62 (.bin .add (t 47) (.cst (.int .i64 1))),
    o 47 (.mov (t 62))])))))))
(.seq (.reg [o 2 (.mov (.cst (.bool true)))])
(.ret)))))))))), [.tmp 2]⟩
theorem ir4_tr : trF Tryz.prog ir4 Tryz.f4 = some ir4 := by kernel_rfl

-- grille/grillelaw10.Heavy
def ir7 : IF := ⟨17, .seq (.reg [o 2 (.mov (.cst (.bool false)))])
(.seq (.seq (.reg [o 5 (.mov (t 0)),
  o 6 (.len .row (t 5)),
  o 7 (.mov (.cst (.int .i64 0)))])
(.block 0 (.loop [8, 9, 10, 4, 11, 12, 2, 13] (.seq (.reg [o 8 (.bin .lss (t 7) (t 6))])
  (.seq (.cond (t 8)
   (.skip)
   (.exit 0))
  (.seq (.block 1 (.seq (.reg [o 9 (.idxAddr 1 (t 5) (t 7)),
     o 10 (.load none (t 9)),
     o 4 (.mov (t 10))])
   (.seq (.reg [o 11 (.mov (t 4)),
     o 12 (.call 0 (.fn 32) [(t 11)])])
   (.cond (t 12)
    (.seq (.reg [o 2 (.mov (.cst (.bool true)))])
    (.ret))
    (.skip)))))
  (.reg [o 13 (.bin .add (t 7) (.cst (.int .i64 1))),
    o 7 (.mov (t 13))])))))))
(.seq (.reg [o 14 (.mov (t 0)),
  o 15 (.len .row (t 14)),
  o 16 (.bin .gtr (t 15) (.cst (.int .i64 5))),
  o 2 (.mov (t 16))])
(.ret))), [.tmp 2]⟩
theorem ir7_tr : trF Tryz.prog ir7 Tryz.f7 = some ir7 := by kernel_rfl

-- grille/grillelaw10.Theirs
def ir8 : IF := ⟨19, .seq (.reg [o 2 (.mov (.cst .nils))])
(.seq (.reg [o 3 (.mov (.cst .nils))])
(.seq (.seq (.reg [o 6 (.mov (t 0)),
  o 7 (.len .row (t 6)),
  o 8 (.mov (.cst (.int .i64 0)))])
(.block 0 (.loop [9, 10, 11, 5, 12, 13, 14, 15, 16, 17] (.seq (.reg [o 9 (.bin .lss (t 8) (t 7))])
  (.seq (.cond (t 9)
   (.skip)
   (.exit 0))
  (.seq (.block 1 (.seq (.reg [o 10 (.idxAddr 1 (t 6) (t 8)),
     o 11 (.load none (t 10)),
     o 5 (.mov (t 11))])
   (.reg [o 12 (.mov (t 3)),
     o 13 (.mov (t 5)),
     o 14 (.call 0 (.fn 33) [(t 13)]),
     o 15 (.lit .ro 1 [(t 14)]),
     o 16 (.append .tok 1 24 (t 12) (t 15)),
     o 3 (.mov (t 16))])))
  (.reg [o 17 (.bin .add (t 8) (.cst (.int .i64 1))),
    o 8 (.mov (t 17))])))))))
(.seq (.reg [o 18 (.mov (t 3)),
  o 2 (.mov (t 18))])
(.ret)))), [.tmp 2]⟩
theorem ir8_tr : trF Tryz.prog ir8 Tryz.f8 = some ir8 := by kernel_rfl

-- grille/grillelaw10.alive
def ir13 : IF := ⟨46, .seq (.reg [o 0 (.mov (.cst (.bool false)))])
(.seq (.reg [o 5 (.lit .ro 1 [(.cst (.int .i64 0))]),
  o 6 (.build [(.int .i64 0), (.str []), (.str []), .nils] [(0, 1, (.cst (.int .i64 1))), (1, 1, (.cst (.str [115, 101, 113]))), (3, 1, (t 5))]),
  o 7 (.lit .ro 4 [(t 6)]),
  o 8 (.lit .ro 1 [(t 7)]),
  o 9 (.call 0 (.fn 14) [(t 8)]),
  o 4 (.mov (t 9)),
  o 10 (.extract 0 (t 4)),
  o 11 (.extract 1 (t 4)),
  o 1 (.mov (t 10)),
  o 2 (.mov (t 11))])
(.seq (.reg [o 12 (.build [(.int .i64 0), (.str []), (.str []), .nils] [(1, 1, (.cst (.str [115, 116, 114]))), (2, 1, (.cst (.str [53])))]),
  o 13 (.call 0 (.fn 23) [(t 12)]),
  o 3 (.alloc [(.int .i64 0), (.str []), (.str []), (.str []), (.bool false)]),
  e (.store 5 (t 3) (t 13))])
(.seq (.reg [o 14 (.mov (t 1)),
  o 15 (.len .row (t 14)),
  o 16 (.bin .eql (t 15) (.cst (.int .i64 5))),
  o 17 (.mov (t 16)),
  og 18 17 true (.mov (t 1)),
  og 19 17 true (.idxAddr 5 (t 18) (.cst (.int .i64 1))),
  og 20 17 true (.load (some 5) (t 19)),
  og 21 17 true (.build [(.int .i64 0), (.str []), (.str []), (.str []), (.bool false)] [(0, 1, (.cst (.int .i64 2))), (1, 1, (.cst (.str [97, 49])))]),
  og 22 17 true (.eqAgg [.int, .str, .str, .str, .bool] false (t 20) (t 21)),
  o 23 (.pick (t 17) (t 22) (.cst (.bool false))),
  o 24 (.mov (t 23)),
  og 25 24 true (.mov (t 1)),
  og 26 24 true (.idxAddr 5 (t 25) (.cst (.int .i64 2))),
  og 27 24 true (.load (some 5) (t 26)),
  og 28 24 true (.build [(.int .i64 0), (.str []), (.str []), (.str []), (.bool false)] [(0, 1, (.cst (.int .i64 7))), (1, 1, (.cst (.str [97, 49])))]),
  og 29 24 true (.eqAgg [.int, .str, .str, .str, .bool] false (t 27) (t 28)),
  o 30 (.pick (t 24) (t 29) (.cst (.bool false))),
  o 31 (.mov (t 30)),
  og 32 31 true (.mov (t 2)),
  og 33 31 true (.bin .eql (t 32) (.cst (.int .i64 0))),
  o 34 (.pick (t 31) (t 33) (.cst (.bool false))),
  o 35 (.mov (t 34)),
  og 36 35 true (.load (some 5) (t 3)),
  og 37 35 true (.build [(.int .i64 0), (.str []), (.str []), (.str []), (.bool false)] [(0, 1, (.cst (.int .i64 6))), (3, 1, (.cst (.str [53])))]),
  og 38 35 true (.eqAgg [.int, .str, .str, .str, .bool] false (t 36) (t 37)),
  o 39 (.pick (t 35) (t 38) (.cst (.bool false))),
  o 40 (.mov (t 39)),
  og 41 40 true (.build [(.int .i64 0), (.str []), (.str []), .nils] [(0, 1, (.cst (.int .i64 2))), (1, 1, (.cst (.str [109, 97, 112])))]),
  og 42 40 true (.lit .ro 4 [(t 41)]),
  og 43 40 true (.call 0 (.fn 21) [(t 42)]),
  og 44 40 true (.bin .eql (t 43) (.cst (.int .i64 1))),
  o 45 (.pick (t 40) (t 44) (.cst (.bool false))),
  o 0 (.mov (t 45))])
(.ret)))), [.tmp 0]⟩
theorem ir13_tr : trF Tryz.prog ir13 Tryz.f13 = some ir13 := by kernel_rfl

-- grille/flatten.Events
def ir14 : IF := ⟨46, .seq (.reg [o 2 (.mov (.cst .nils)),
  o 3 (.mov (.cst (.int .i64 0)))])
(.seq (.seq (.reg [o 9 (.mov (t 0)),
  o 10 (.len .row (t 9)),
  o 11 (.mov (.cst (.int .i64 0)))])
(.block 0 (.loop [12, 13, 14, 5, 15, 16, 17, 3, 18] (.seq (.reg [o 12 (.bin .lss (t 11) (t 10))])
  (.seq (.cond (t 12)
   (.skip)
   (.exit 0))
  (.seq (.block 1 (.seq (.reg [o 13 (.idxAddr 1 (t 9) (t 11)),
     o 14 (.load none (t 13)),
     o 5 (.mov (t 14))])
   (.seq (.reg [o 15 (.mov (t 5)),
     o 16 (.call 0 (.fn 37) [(t 15)]),
     o 17 (.not (t 16))])
   (.cond (t 17)
    (.seq (.reg [o 2 (.mov (.cst .nils)),
      o 3 (.mov (.cst (.int .i64 5)))])
    (.ret))
    (.skip)))))
  (.reg [o 18 (.bin .add (t 11) (.cst (.int .i64 1))),
    o 11 (.mov (t 18))])))))))
(.seq (.seq (.reg [o 19 (.mov (t 0)),
  o 20 (.len .row (t 19)),
  o 21 (.mov (.cst (.int .i64 0)))])
(.block 2 (.loop [22, 23, 24, 7, 25, 26, 8, 27, 28, 29, 30, 31, 3, 32, 33, 34, 35, 36, 37, 38, 39, 40, 41, 42, 43, 44] (.seq (.reg [o 22 (.bin .lss (t 21) (t 20))])
  (.seq (.cond (t 22)
   (.skip)
   (.exit 2))
  (.seq (.block 3 (.seq (.reg [o 23 (.idxAddr 1 (t 19) (t 21)),
     o 24 (.load none (t 23)),
     o 7 (.mov (t 24))])
   (.seq (.reg [o 25 (.mov (t 7)),
     o 26 (.call 0 (.fn 43) [(t 25)]),
     o 8 (.mov (t 26))])
   (.seq (.seq (.reg [o 27 (.mov (t 8)),
     o 28 (.nilck (t 27)),
     o 29 (.fieldAddr 5 (t 28)),
     o 30 (.load none (t 29)),
     o 31 (.bin .gtr (t 30) (.cst (.int .i64 40)))])
   (.cond (t 31)
    (.seq (.reg [o 2 (.mov (.cst .nils)),
      o 3 (.mov (.cst (.int .i64 13)))])
    (.ret))
    (.skip)))
   (.dreg [o 32 (.mov (t 2)),
     o 33 (.build [(.int .i64 0), (.str []), (.str []), (.str []), (.bool false)] [(0, 1, (.cst (.int .i64 0)))]),
     o 34 (.lit .ro 5 [(t 33)]),
     o 35 (.append .tok 5 64 (t 32) (t 34)),
     o 36 (.mov (t 8)),
     o 37 (.nilck (t 36)),
     o 38 (.fieldAddr 1 (t 37)),
     o 39 (.load none (t 38)),
     o 40 (.append .tok 5 64 (t 35) (t 39)),
     o 41 (.build [(.int .i64 0), (.str []), (.str []), (.str []), (.bool false)] [(0, 1, (.cst (.int .i64 1)))]),
     o 42 (.lit .ro 5 [(t 41)]),
     o 43 (.append .tok 5 64 (t 40) (t 42)),
     o 2 (.mov (t 43))] [[], [], [1], [0, 1, 2], [], [4], [4, 5], [4, 5, 6], [0, 1, 2, 3, 4, 5, 6, 7], [], [9], [0, 1, 2, 3, 4, 5, 6, 7, 8, 9, 10], [0, 1, 2, 3, 4, 5, 6, 7, 8, 9, 10, 11]])))))
  (.reg [o 44 (.bin .add (t 21) (.cst (.int .i64 1))),
    o 21 (.mov (t 44))])))))))
(.seq (.reg [o 45 (.mov (t 2)),
  o 2 (.mov (t 45)),
  o 3 (.mov (.cst (.int .i64 0)))])
(.ret)))), [.tmp 2, .tmp 3]⟩
theorem ir14_tr : trF Tryz.prog ir14 Tryz.f14 = some ir14 := by kernel_rfl

-- grille/compose.Graphs
def ir15 : IF := ⟨39, .seq (.reg [o 2 (.mov (.cst .nils)),
  o 3 (.mov (.cst (.int .i64 0)))])
(.seq (.seq (.reg [o 9 (.mov (t 0)),
  o 10 (.call 0 (.fn 16) [(t 9)]),
  o 11 (.not (t 10))])
(.cond (t 11)
 (.seq (.reg [o 2 (.mov (.cst .nils)),
   o 3 (.mov (.cst (.int .i64 5)))])
 (.ret))
 (.skip)))
(.seq (.reg [o 12 (.build [.nils, .nils, .nilm] []),
  o 13 (.box (t 12)),
  o 4 (.mov (t 13))])
(.seq (.seq (.reg [o 14 (.mov (t 0)),
  o 15 (.len .row (t 14)),
  o 16 (.mov (.cst (.int .i64 0)))])
(.block 0 (.loop [17, 18, 19, 6, 21, 22, 23, 20, 24, 25, 7, 8, 26, 27, 28, 3, 29, 30, 31, 32, 33, 34, 35, 36, 37] (.seq (.reg [o 17 (.bin .lss (t 16) (t 15))])
  (.seq (.cond (t 17)
   (.skip)
   (.exit 0))
  (.seq (.block 1 (.seq (.reg [o 18 (.idxAddr 5 (t 14) (t 16)),
     o 19 (.load (some 5) (t 18)),
     o 6 (.alloc [(.int .i64 0), (.str []), (.str []), (.str []), (.bool false)]),
     e (.store 5 (t 6) (t 19))])
   (.seq (.reg [o 21 (.mov (t 4)),
     o 22 (.load (some 5) (t 6)),
     o 23 (.call 0 (.fn 44) [(t 21), (t 22)]),
     o 20 (.mov (t 23)),
     o 24 (.extract 0 (t 20)),
     o 25 (.extract 1 (t 20)),
     o 7 (.mov (t 24)),
     o 8 (.mov (t 25))])
   (.seq (.seq (.reg [o 26 (.mov (t 8)),
     o 27 (.bin .neq (t 26) (.cst (.int .i64 0)))])
   (.cond (t 27)
    (.seq (.reg [o 28 (.mov (t 8)),
      o 2 (.mov (.cst .nils)),
      o 3 (.mov (t 28))])
    (.ret))
    (.skip)))
   (.seq (.reg [o 29 (.mov (t 7))])
   (.cond (t 29)
    (.reg [o 30 (.mov (t 2)),
      o 31 (.mov (t 4)),
      o 32 (.nilck (t 31)),
      o 33 (.fieldAddr 0 (t 32)),
      o 34 (.load none (t 33)),
      o 35 (.lit .ro 1 [(t 34)]),
      o 36 (.append .tok 1 24 (t 30) (t 35)),
      o 2 (.mov (t 36))])
    (.skip)))))))
  (.gh [.kill [18, 19, 6, 21, 22, 23, 20, 24, 25, 7, 8, 26, 27, 28, 3, 29, 30, 31, 32, 33, 34, 35, 36]] (.reg [o 37 (.bin .add (t 16) (.cst (.int .i64 1))),
    o 16 (.mov (t 37))]))))))))
(.seq (.reg [o 38 (.mov (t 2)),
  o 2 (.mov (t 38)),
  o 3 (.mov (.cst (.int .i64 0)))])
(.ret))))), [.tmp 2, .tmp 3]⟩
theorem ir15_tr : trF Tryz.prog ir15 Tryz.f15 = some ir15 := by kernel_rfl

-- grille/event.Right
def ir16 : IF := ⟨35, .seq (.reg [o 2 (.mov (.cst (.bool false)))])
(.seq (.reg [o 6 (.build [.nils] []),
  o 7 (.box (t 6)),
  o 3 (.mov (t 7))])
(.seq (.seq (.reg [o 8 (.mov (t 0)),
  o 9 (.len .row (t 8)),
  o 10 (.mov (.cst (.int .i64 0)))])
(.block 0 (.loop [11, 12, 13, 5, 22, 14, 15, 16, 17, 18, 19, 20, 21, 2, 23] (.seq (.reg [o 11 (.bin .lss (t 10) (t 9))])
  (.seq (.cond (t 11)
   (.skip)
   (.exit 0))
  (.seq (.block 1 (.seq (.reg [o 12 (.idxAddr 5 (t 8) (t 10)),
     o 13 (.load (some 5) (t 12)),
     o 5 (.alloc [(.int .i64 0), (.str []), (.str []), (.str []), (.bool false)]),
     e (.store 5 (t 5) (t 13))])
   (.seq (.reg [o 14 (.load (some 5) (t 5)),
     o 15 (.call 0 (.fn 45) [(t 14)]),
     o 16 (.not (t 15)),
     o 17 (.mov (t 16)),
     og 18 17 false (.mov (t 3)),
     og 19 17 false (.load (some 5) (t 5)),
     og 20 17 false (.call 0 (.fn 46) [(t 18), (t 19)]),
     og 21 17 false (.not (t 20)),
     o 22 (.pick (t 17) (.cst (.bool true)) (t 21))])
   (.gh [.kill [14, 15, 16, 17, 18, 19, 20, 21]] (.cond (t 22)
    (.seq (.reg [o 2 (.mov (.cst (.bool false)))])
    (.ret))
    (.skip))))))
  (.reg [o 23 (.bin .add (t 10) (.cst (.int .i64 1))),
    o 10 (.mov (t 23))])))))))
(.seq (.reg [o 24 (.mov (t 3)),
  o 25 (.nilck (t 24)),
  o 26 (.fieldAddr 0 (t 25)),
  o 27 (.load none (t 26)),
  o 28 (.len .row (t 27)),
  o 29 (.bin .eql (t 28) (.cst (.int .i64 0))),
  o 30 (.mov (t 29)),
  og 31 30 true (.mov (t 0)),
  og 32 30 true (.call 0 (.fn 47) [(t 31)]),
  og 33 30 true (.bin .leq (t 32) (.cst (.int .i64 40))),
  o 34 (.pick (t 30) (t 33) (.cst (.bool false))),
  o 2 (.mov (t 34))])
(.ret)))), [.tmp 2]⟩
theorem ir16_tr : trF Tryz.prog ir16 Tryz.f16 = some ir16 := by kernel_rfl

-- grille/grilleref08.Equal
def ir17 : IF := ⟨97, .seq (.reg [o 4 (.mov (.cst (.bool false)))])
(.seq (.seq (.reg [o 7 (.mov (t 0)),
  o 8 (.len .row (t 7)),
  o 9 (.mov (t 1)),
  o 10 (.len .row (t 9)),
  o 11 (.bin .neq (t 8) (t 10))])
(.cond (t 11)
 (.seq (.reg [o 4 (.mov (.cst (.bool false)))])
 (.ret))
 (.skip)))
(.seq (.seq (.reg [o 5 (.mov (.cst (.int .i64 0)))])
(.block 0 (.loop [12, 13, 14, 15, 69, 18, 19, 20, 21, 22, 23, 24, 25, 26, 27, 28, 29, 30, 31, 32, 33, 34, 35, 36, 37, 38, 39, 40, 41, 42, 43, 44, 45, 46, 47, 48, 49, 50, 51, 52, 53, 54, 55, 56, 57, 58, 59, 60, 61, 62, 63, 64, 65, 66, 67, 68, 70, 71, 72, 73, 74, 75, 76, 77, 80, 81, 82, 83, 84, 85, 86, 87, 88, 89, 90, 91, 92, 93, 94, 95, 96, 4, 78, 79, 6, 16, 17] (.seq (.seq (.reg [o 12 (.mov (t 5)),
    o 13 (.mov (t 0)),
    o 14 (.len .row (t 13)),
    o 15 (.bin .lss (t 12) (t 14))])
  (.cond (t 15)
   (.skip)
   (.exit 0)))
  (.seq (.block 1 (.seq (.seq (.dreg [o 18 (.mov (t 0)),
     o 19 (.mov (t 5)),
     o 20 (.idxAddr 4 (t 18) (t 19)),
     o 21 (.fieldAddr 0 (t 20)),
     o 22 (.load none (t 21)),
     o 23 (.mov (t 1)),
     o 24 (.mov (t 5)),
     o 25 (.idxAddr 4 (t 23) (t 24)),
     o 26 (.fieldAddr 0 (t 25)),
     o 27 (.load none (t 26)),
     o 28 (.bin .neq (t 22) (t 27)),
     o 29 (.mov (t 28)),
     og 30 29 false (.mov (t 0)),
     og 31 29 false (.mov (t 5)),
     og 32 29 false (.idxAddr 4 (t 30) (t 31)),
     og 33 29 false (.fieldAddr 1 (t 32)),
     og 34 29 false (.load none (t 33)),
     og 35 29 false (.mov (t 1)),
     og 36 29 false (.mov (t 5)),
     og 37 29 false (.idxAddr 4 (t 35) (t 36)),
     og 38 29 false (.fieldAddr 1 (t 37)),
     og 39 29 false (.load none (t 38)),
     og 40 29 false (.bin .neq (t 34) (t 39)),
     o 41 (.pick (t 29) (.cst (.bool true)) (t 40)),
     o 42 (.mov (t 41)),
     og 43 42 false (.mov (t 0)),
     og 44 42 false (.mov (t 5)),
     og 45 42 false (.idxAddr 4 (t 43) (t 44)),
     og 46 42 false (.fieldAddr 2 (t 45)),
     og 47 42 false (.load none (t 46)),
     og 48 42 false (.mov (t 1)),
     og 49 42 false (.mov (t 5)),
     og 50 42 false (.idxAddr 4 (t 48) (t 49)),
     og 51 42 false (.fieldAddr 2 (t 50)),
     og 52 42 false (.load none (t 51)),
     og 53 42 false (.bin .neq (t 47) (t 52)),
     o 54 (.pick (t 42) (.cst (.bool true)) (t 53)),
     o 55 (.mov (t 54)),
     og 56 55 false (.mov (t 0)),
     og 57 55 false (.mov (t 5)),
     og 58 55 false (.idxAddr 4 (t 56) (t 57)),
     og 59 55 false (.fieldAddr 3 (t 58)),
     og 60 55 false (.load none (t 59)),
     og 61 55 false (.len .row (t 60)),
     og 62 55 false (.mov (t 1)),
     og 63 55 false (.mov (t 5)),
     og 64 55 false (.idxAddr 4 (t 62) (t 63)),
     og 65 55 false (.fieldAddr 3 (t 64)),
     og 66 55 false (.load none (t 65)),
     og 67 55 false (.len .row (t 66)),
     og 68 55 false (.bin .neq (t 61) (t 67)),
     o 69 (.pick (t 55) (.cst (.bool true)) (t 68))] [[], [], [0, 1], [0, 1, 2], [0, 1, 2, 3], [], [], [5, 6], [5, 6, 7], [5, 6, 7, 8], [0, 1, 2, 3, 4, 5, 6, 7, 8, 9], [0, 1, 2, 3, 4, 5, 6, 7, 8, 9, 10], [0, 1, 2, 3, 4, 5, 6, 7, 8, 9, 10, 11], [0, 1, 2, 3, 4, 5, 6, 7, 8, 9, 10, 11], [0, 1, 2, 3, 4, 5, 6, 7, 8, 9, 10, 11, 12, 13], [0, 1, 2, 3, 4, 5, 6, 7, 8, 9, 10, 11, 12, 13, 14], [0, 1, 2, 3, 4, 5, 6, 7, 8, 9, 10, 11, 12, 13, 14, 15], [0, 1, 2, 3, 4, 5, 6, 7, 8, 9, 10, 11], [0, 1, 2, 3, 4, 5, 6, 7, 8, 9, 10, 11], [0, 1, 2, 3, 4, 5, 6, 7, 8, 9, 10, 11, 17, 18], [0, 1, 2, 3, 4, 5, 6, 7, 8, 9, 10, 11, 17, 18, 19], [0, 1, 2, 3, 4, 5, 6, 7, 8, 9, 10, 11, 17, 18, 19, 20], [0, 1, 2, 3, 4, 5, 6, 7, 8, 9, 10, 11, 12, 13, 14, 15, 16, 17, 18, 19, 20, 21], [0, 1, 2, 3, 4, 5, 6, 7, 8, 9, 10, 11, 12, 13, 14, 15, 16, 17, 18, 19, 20, 21, 22], [0, 1, 2, 3, 4, 5, 6, 7, 8, 9, 10, 11, 12, 13, 14, 15, 16, 17, 18, 19, 20, 21, 22, 23], [0, 1, 2, 3, 4, 5, 6, 7, 8, 9, 10, 11, 12, 13, 14, 15, 16, 17, 18, 19, 20, 21, 22, 23, 24], [0, 1, 2, 3, 4, 5, 6, 7, 8, 9, 10, 11, 12, 13, 14, 15, 16, 17, 18, 19, 20, 21, 22, 23, 24], [0, 1, 2, 3, 4, 5, 6, 7, 8, 9, 10, 11, 12, 13, 14, 15, 16, 17, 18, 19, 20, 21, 22, 23, 24, 25, 26], [0, 1, 2, 3, 4, 5, 6, 7, 8, 9, 10, 11, 12, 13, 14, 15, 16, 17, 18, 19, 20, 21, 22, 23, 24, 25, 26, 27], [0, 1, 2, 3, 4, 5, 6, 7, 8, 9, 10, 11, 12, 13, 14, 15, 16, 17, 18, 19, 20, 21, 22, 23, 24, 25, 26, 27, 28], [0, 1, 2, 3, 4, 5, 6, 7, 8, 9, 10, 11, 12, 13, 14, 15, 16, 17, 18, 19, 20, 21, 22, 23, 24], [0, 1, 2, 3, 4, 5, 6, 7, 8, 9, 10, 11, 12, 13, 14, 15, 16, 17, 18, 19, 20, 21, 22, 23, 24], [0, 1, 2, 3, 4, 5, 6, 7, 8, 9, 10, 11, 12, 13, 14, 15, 16, 17, 18, 19, 20, 21, 22, 23, 24, 30, 31], [0, 1, 2, 3, 4, 5, 6, 7, 8, 9, 10, 11, 12, 13, 14, 15, 16, 17, 18, 19, 20, 21, 22, 23, 24, 30, 31, 32], [0, 1, 2, 3, 4, 5, 6, 7, 8, 9, 10, 11, 12, 13, 14, 15, 16, 17, 18, 19, 20, 21, 22, 23, 24, 30, 31, 32, 33], [0, 1, 2, 3, 4, 5, 6, 7, 8, 9, 10, 11, 12, 13, 14, 15, 16, 17, 18, 19, 20, 21, 22, 23, 24, 25, 26, 27, 28, 29, 30, 31, 32, 33, 34], [0, 1, 2, 3, 4, 5, 6, 7, 8, 9, 10, 11, 12, 13, 14, 15, 16, 17, 18, 19, 20, 21, 22, 23, 24, 25, 26, 27, 28, 29, 30, 31, 32, 33, 34, 35], [0, 1, 2, 3, 4, 5, 6, 7, 8, 9, 10, 11, 12, 13, 14, 15, 16, 17, 18, 19, 20, 21, 22, 23, 24, 25, 26, 27, 28, 29, 30, 31, 32, 33, 34, 35, 36], [0, 1, 2, 3, 4, 5, 6, 7, 8, 9, 10, 11, 12, 13, 14, 15, 16, 17, 18, 19, 20, 21, 22, 23, 24, 25, 26, 27, 28, 29, 30, 31, 32, 33, 34, 35, 36, 37], [0, 1, 2, 3, 4, 5, 6, 7, 8, 9, 10, 11, 12, 13, 14, 15, 16, 17, 18, 19, 20, 21, 22, 23, 24, 25, 26, 27, 28, 29, 30, 31, 32, 33, 34, 35, 36, 37], [0, 1, 2, 3, 4, 5, 6, 7, 8, 9, 10, 11, 12, 13, 14, 15, 16, 17, 18, 19, 20, 21, 22, 23, 24, 25, 26, 27, 28, 29, 30, 31, 32, 33, 34, 35, 36, 37, 38, 39], [0, 1, 2, 3, 4, 5, 6, 7, 8, 9, 10, 11, 12, 13, 14, 15, 16, 17, 18, 19, 20, 21, 22, 23, 24, 25, 26, 27, 28, 29, 30, 31, 32, 33, 34, 35, 36, 37, 38, 39, 40], [0, 1, 2, 3, 4, 5, 6, 7, 8, 9, 10, 11, 12, 13, 14, 15, 16, 17, 18, 19, 20, 21, 22, 23, 24, 25, 26, 27, 28, 29, 30, 31, 32, 33, 34, 35, 36, 37, 38, 39, 40, 41], [0, 1, 2, 3, 4, 5, 6, 7, 8, 9, 10, 11, 12, 13, 14, 15, 16, 17, 18, 19, 20, 21, 22, 23, 24, 25, 26, 27, 28, 29, 30, 31, 32, 33, 34, 35, 36, 37, 38, 39, 40, 41, 42], [0, 1, 2, 3, 4, 5, 6, 7, 8, 9, 10, 11, 12, 13, 14, 15, 16, 17, 18, 19, 20, 21, 22, 23, 24, 25, 26, 27, 28, 29, 30, 31, 32, 33, 34, 35, 36, 37], [0, 1, 2, 3, 4, 5, 6, 7, 8, 9, 10, 11, 12, 13, 14, 15, 16, 17, 18, 19, 20, 21, 22, 23, 24, 25, 26, 27, 28, 29, 30, 31, 32, 33, 34, 35, 36, 37], [0, 1, 2, 3, 4, 5, 6, 7, 8, 9, 10, 11, 12, 13, 14, 15, 16, 17, 18, 19, 20, 21, 22, 23, 24, 25, 26, 27, 28, 29, 30, 31, 32, 33, 34, 35, 36, 37, 44, 45], [0, 1, 2, 3, 4, 5, 6, 7, 8, 9, 10, 11, 12, 13, 14, 15, 16, 17, 18, 19, 20, 21, 22, 23, 24, 25, 26, 27, 28, 29, 30, 31, 32, 33, 34, 35, 36, 37, 44, 45, 46], [0, 1, 2, 3, 4, 5, 6, 7, 8, 9, 10, 11, 12, 13, 14, 15, 16, 17, 18, 19, 20, 21, 22, 23, 24, 25, 26, 27, 28, 29, 30, 31, 32, 33, 34, 35, 36, 37, 44, 45, 46, 47], [0, 1, 2, 3, 4, 5, 6, 7, 8, 9, 10, 11, 12, 13, 14, 15, 16, 17, 18, 19, 20, 21, 22, 23, 24, 25, 26, 27, 28, 29, 30, 31, 32, 33, 34, 35, 36, 37, 44, 45, 46, 47, 48], [0, 1, 2, 3, 4, 5, 6, 7, 8, 9, 10, 11, 12, 13, 14, 15, 16, 17, 18, 19, 20, 21, 22, 23, 24, 25, 26, 27, 28, 29, 30, 31, 32, 33, 34, 35, 36, 37, 38, 39, 40, 41, 42, 43, 44, 45, 46, 47, 48, 49], [0, 1, 2, 3, 4, 5, 6, 7, 8, 9, 10, 11, 12, 13, 14, 15, 16, 17, 18, 19, 20, 21, 22, 23, 24, 25, 26, 27, 28, 29, 30, 31, 32, 33, 34, 35, 36, 37, 38, 39, 40, 41, 42, 43, 44, 45, 46, 47, 48, 49, 50]])
   (.gh [.kill [18, 19, 20, 21, 22, 23, 24, 25, 26, 27, 28, 29, 30, 31, 32, 33, 34, 35, 36, 37, 38, 39, 40, 41, 42, 43, 44, 45, 46, 47, 48, 49, 50, 51, 52, 53, 54, 55, 56, 57, 58, 59, 60, 61, 62, 63, 64, 65, 66, 67, 68]] (.cond (t 69)
    (.seq (.reg [o 4 (.mov (.cst (.bool false)))])
    (.ret))
    (.skip))))
   (.seq (.reg [o 6 (.mov (.cst (.int .i64 0)))])
   (.block 2 (.loop [70, 71, 72, 73, 74, 75, 76, 77, 80, 81, 82, 83, 84, 85, 86, 87, 88, 89, 90, 91, 92, 93, 94, 95, 96, 4, 78, 79] (.seq (.seq (.reg [o 70 (.mov (t 6)),
       o 71 (.mov (t 0)),
       o 72 (.mov (t 5)),
       o 73 (.idxAddr 4 (t 71) (t 72)),
       o 74 (.fieldAddr 3 (t 73)),
       o 75 (.load none (t 74)),
       o 76 (.len .row (t 75)),
       o 77 (.bin .lss (t 70) (t 76))])
     (.cond (t 77)
      (.skip)
      (.exit 2)))
     (.seq (.block 3 (.seq (.dreg [o 80 (.mov (t 0)),
        o 81 (.mov (t 5)),
        o 82 (.idxAddr 4 (t 80) (t 81)),
        o 83 (.fieldAddr 3 (t 82)),
        o 84 (.load none (t 83)),
        o 85 (.mov (t 6)),
        o 86 (.idxAddr 1 (t 84) (t 85)),
        o 87 (.load none (t 86)),
        o 88 (.mov (t 1)),
        o 89 (.mov (t 5)),
        o 90 (.idxAddr 4 (t 88) (t 89)),
        o 91 (.fieldAddr 3 (t 90)),
        o 92 (.load none (t 91)),
        o 93 (.mov (t 6)),
        o 94 (.idxAddr 1 (t 92) (t 93)),
        o 95 (.load none (t 94)),
        o 96 (.bin .neq (t 87) (t 95))] [[], [], [0, 1], [0, 1, 2], [0, 1, 2, 3], [], [0, 1, 2, 3, 4, 5], [0, 1, 2, 3, 4, 5, 6], [], [], [8, 9], [8, 9, 10], [8, 9, 10, 11], [], [8, 9, 10, 11, 12, 13], [8, 9, 10, 11, 12, 13, 14], [0, 1, 2, 3, 4, 5, 6, 7, 8, 9, 10, 11, 12, 13, 14, 15]])
      (.cond (t 96)
       (.seq (.reg [o 4 (.mov (.cst (.bool false)))])
       (.ret))
       (.skip))))
     (.reg [o 78 (.mov (t 6)),
       o 79 (.bin .add (t 78) (.cst (.int .i64 1))),
       o 6 (.mov (t 79))]))))))))
  (.reg [o 16 (.mov (t 5)),
    o 17 (.bin .add (t 16) (.cst (.int .i64 1))),
    o 5 (.mov (t 17))]))))))
(.seq (.reg [o 4 (.mov (.cst (.bool true)))])
(.ret)))), [.tmp 4]⟩
theorem ir17_tr : trF Tryz.prog ir17 Tryz.f17 = some ir17 := by kernel_rfl

-- grille/grillelaw08.Ours
def ir18 : IF := ⟨27, .seq (.reg [o 2 (.mov (.cst .nils))])
(.seq (.reg [o 3 (.mov (.cst .nils))])
(.seq (.seq (.reg [o 6 (.mov (t 0)),
  o 7 (.len .row (t 6)),
  o 8 (.mov (.cst (.int .i64 0)))])
(.block 0 (.loop [9, 10, 11, 5, 12, 13, 14, 15, 16, 17, 18, 19, 20, 21, 22, 23, 24, 25] (.seq (.reg [o 9 (.bin .lss (t 8) (t 7))])
  (.seq (.cond (t 9)
   (.skip)
   (.exit 0))
  (.seq (.block 1 (.seq (.reg [o 10 (.idxAddr 4 (t 6) (t 8)),
     o 11 (.load (some 4) (t 10)),
     o 5 (.alloc [(.int .i64 0), (.str []), (.str []), .nils]),
     e (.store 4 (t 5) (t 11))])
   (.dreg [o 12 (.mov (t 3)),
     o 13 (.fieldAddr 0 (t 5)),
     o 14 (.load none (t 13)),
     o 15 (.fieldAddr 1 (t 5)),
     o 16 (.load none (t 15)),
     o 17 (.fieldAddr 2 (t 5)),
     o 18 (.load none (t 17)),
     o 19 (.fieldAddr 3 (t 5)),
     o 20 (.load none (t 19)),
     o 21 (.call 0 (.fn 48) [(t 20)]),
     o 22 (.build [(.int .i64 0), (.str []), (.str []), .nils] [(0, 1, (t 14)), (1, 1, (t 16)), (2, 1, (t 18)), (3, 1, (t 21))]),
     o 23 (.lit .ro 4 [(t 22)]),
     o 24 (.append .tok 4 64 (t 12) (t 23)),
     o 3 (.mov (t 24))] [[], [], [1], [], [3], [], [5], [], [7], [7, 8], [1, 2, 3, 4, 5, 6, 7, 8, 9], [1, 2, 3, 4, 5, 6, 7, 8, 9, 10], [0, 1, 2, 3, 4, 5, 6, 7, 8, 9, 10, 11], [0, 1, 2, 3, 4, 5, 6, 7, 8, 9, 10, 11, 12]])))
  (.reg [o 25 (.bin .add (t 8) (.cst (.int .i64 1))),
    o 8 (.mov (t 25))])))))))
(.seq (.reg [o 26 (.mov (t 3)),
  o 2 (.mov (t 26))])
(.ret)))), [.tmp 2]⟩
theorem ir18_tr : trF Tryz.prog ir18 Tryz.f18 = some ir18 := by kernel_rfl

-- grille/arena.Normal
def ir19 : IF := ⟨67, .seq (.reg [o 2 (.mov (.cst .nils))])
(.seq (.reg [o 13 (.mov (t 0)),
  o 14 (.call 0 (.fn 34) [(t 13)]),
  o 3 (.mov (t 14))])
(.seq (.reg [o 15 (.mov (t 0)),
  o 16 (.len .row (t 15)),
  o 17 (.make .ref 1 8 [(.int .i64 0)] (t 16) (t 16)),
  o 4 (.mov (t 17))])
(.seq (.seq (.reg [o 18 (.mov (t 3)),
  o 19 (.len .row (t 18)),
  o 20 (.mov (.cst (.int .i64 0)))])
(.block 0 (.loop [21, 22, 23, 24, 5, 6, 25, 26, 27, 28, 29] (.seq (.reg [o 21 (.bin .lss (t 20) (t 19))])
  (.seq (.cond (t 21)
   (.skip)
   (.exit 0))
  (.seq (.block 1 (.seq (.reg [o 22 (.mov (t 20)),
     o 23 (.idxAddr 1 (t 18) (t 20)),
     o 24 (.load none (t 23)),
     o 5 (.mov (t 22)),
     o 6 (.mov (t 24))])
   (.reg [o 25 (.mov (t 4)),
     o 26 (.mov (t 6)),
     o 27 (.mov (t 5)),
     o 28 (.idxAddr 1 (t 25) (t 26)),
     e (.store 1 (t 28) (t 27))])))
  (.reg [o 29 (.bin .add (t 20) (.cst (.int .i64 1))),
    o 20 (.mov (t 29))])))))))
(.seq (.reg [o 7 (.mov (.cst .nils))])
(.seq (.seq (.reg [o 30 (.mov (t 3)),
  o 31 (.len .row (t 30)),
  o 32 (.mov (.cst (.int .i64 0)))])
(.block 2 (.loop [33, 34, 35, 9, 36, 37, 38, 39, 10, 40, 41, 42, 43, 44, 45, 46, 48, 49, 50, 51, 11, 12, 52, 53, 54, 55, 56, 57, 58, 59, 60, 47, 61, 62, 63, 64, 65] (.seq (.reg [o 33 (.bin .lss (t 32) (t 31))])
  (.seq (.cond (t 33)
   (.skip)
   (.exit 2))
  (.seq (.block 3 (.seq (.reg [o 34 (.idxAddr 1 (t 30) (t 32)),
     o 35 (.load none (t 34)),
     o 9 (.mov (t 35))])
   (.seq (.reg [o 36 (.mov (t 0)),
     o 37 (.mov (t 9)),
     o 38 (.idxAddr 4 (t 36) (t 37)),
     o 39 (.load (some 4) (t 38)),
     o 10 (.alloc [(.int .i64 0), (.str []), (.str []), .nils]),
     e (.store 4 (t 10) (t 39))])
   (.seq (.reg [o 40 (.fieldAddr 3 (t 10)),
     o 41 (.load none (t 40)),
     o 42 (.call 1 (.fn 48) [(t 41)]),
     o 43 (.fieldAddr 3 (t 10)),
     e (.store 1 (t 43) (t 42))])
   (.seq (.seq (.reg [o 44 (.fieldAddr 3 (t 10)),
     o 45 (.load none (t 44)),
     o 46 (.len .row (t 45)),
     o 47 (.mov (.cst (.int .i64 0)))])
   (.block 4 (.loop [48, 49, 50, 51, 11, 12, 52, 53, 54, 55, 56, 57, 58, 59, 60] (.seq (.reg [o 48 (.bin .lss (t 47) (t 46))])
     (.seq (.cond (t 48)
      (.skip)
      (.exit 4))
     (.seq (.block 5 (.seq (.reg [o 49 (.mov (t 47)),
        o 50 (.idxAddr 1 (t 45) (t 47)),
        o 51 (.load none (t 50)),
        o 11 (.mov (t 49)),
        o 12 (.mov (t 51))])
      (.dreg [o 52 (.fieldAddr 3 (t 10)),
        o 53 (.load none (t 52)),
        o 54 (.mov (t 11)),
        o 55 (.mov (t 4)),
        o 56 (.mov (t 12)),
        o 57 (.idxAddr 1 (t 55) (t 56)),
        o 58 (.load none (t 57)),
        o 59 (.idxAddr 1 (t 53) (t 54)),
        e (.store 1 (t 59) (t 58))] [[], [0], [], [], [], [3, 4], [3, 4, 5], [0, 1, 2, 3, 4, 5, 6], [0, 1, 2, 3, 4, 5, 6, 7]])))
     (.reg [o 60 (.bin .add (t 47) (.cst (.int .i64 1))),
       o 47 (.mov (t 60))])))))))
   (.gh [.sealC 10 3] (.reg [o 61 (.mov (t 7)),
     o 62 (.load (some 4) (t 10)),
     o 63 (.lit .ro 4 [(t 62)]),
     o 64 (.append .tok 4 64 (t 61) (t 63)),
     o 7 (.mov (t 64))])))))))
  (.reg [o 65 (.bin .add (t 32) (.cst (.int .i64 1))),
    o 32 (.mov (t 65))])))))))
(.seq (.reg [o 66 (.mov (t 7)),
  o 2 (.mov (t 66))])
(.ret))))))), [.tmp 2]⟩
theorem ir19_tr : trF Tryz.prog ir19 Tryz.f19 = some ir19 := by kernel_rfl

-- grille/flatten.Deep
def ir21 : IF := ⟨11, .seq (.reg [o 2 (.mov (.cst (.int .i64 0)))])
(.seq (.seq (.reg [o 3 (.mov (t 0)),
  o 4 (.call 0 (.fn 37) [(t 3)]),
  o 5 (.not (t 4))])
(.cond (t 5)
 (.seq (.reg [o 2 (.mov (.cst (.int .i64 0)))])
 (.ret))
 (.skip)))
(.seq (.reg [o 6 (.mov (t 0)),
  o 7 (.call 0 (.fn 43) [(t 6)]),
  o 8 (.nilck (t 7)),
  o 9 (.fieldAddr 5 (t 8)),
  o 10 (.load none (t 9)),
  o 2 (.mov (t 10))])
(.ret))), [.tmp 2]⟩
theorem ir21_tr : trF Tryz.prog ir21 Tryz.f21 = some ir21 := by kernel_rfl

-- grille/flatten.Event
def ir23 : IF := ⟨41, .seq (.reg [o 1 (.box (t 0)),
  o 2 (.alloc [(.int .i64 0), (.str []), (.str []), (.str []), (.bool false)])])
(.seq (.seq (.reg [o 4 (.fieldAddr 0 (t 1)),
  o 5 (.load none (t 4))])
(.block 0 (.seq (.reg [o 7 (.bin .eql (t 5) (.cst (.int .i64 1))),
   o 6 (.mov (t 7))])
 (.cond (t 6)
  (.seq (.reg [o 8 (.fieldAddr 1 (t 1)),
    o 9 (.load none (t 8)),
    o 10 (.call 0 (.fn 52) [(t 9), (.cst (.str [115, 101, 113]))]),
    o 11 (.build [(.int .i64 0), (.str []), (.str []), (.str []), (.bool false)] [(0, 1, (.cst (.int .i64 2))), (2, 1, (t 10))]),
    e (.store 5 (t 2) (t 11))])
  (.ret))
  (.seq (.reg [o 13 (.bin .eql (t 5) (.cst (.int .i64 2))),
    o 12 (.mov (t 13))])
  (.cond (t 12)
   (.seq (.reg [o 14 (.fieldAddr 1 (t 1)),
     o 15 (.load none (t 14)),
     o 16 (.call 0 (.fn 52) [(t 15), (.cst (.str [109, 97, 112]))]),
     o 17 (.build [(.int .i64 0), (.str []), (.str []), (.str []), (.bool false)] [(0, 1, (.cst (.int .i64 4))), (2, 1, (t 16))]),
     e (.store 5 (t 2) (t 17))])
   (.ret))
   (.seq (.reg [o 19 (.bin .eql (t 5) (.cst (.int .i64 0))),
     o 18 (.mov (t 19))])
   (.cond (t 18)
    (.seq (.dreg [o 20 (.fieldAddr 1 (t 1)),
      o 21 (.load none (t 20)),
      o 22 (.call 0 (.fn 52) [(t 21), (.cst (.str [115, 116, 114]))]),
      o 23 (.fieldAddr 2 (t 1)),
      o 24 (.load none (t 23)),
      o 25 (.build [(.int .i64 0), (.str []), (.str []), (.str []), (.bool false)] [(0, 1, (.cst (.int .i64 6))), (2, 1, (t 22)), (3, 1, (t 24))]),
      o 3 (.alloc [(.int .i64 0), (.str []), (.str []), (.str []), (.bool false)]),
      e (.store 5 (t 3) (t 25))] [[], [0], [0, 1], [], [3], [0, 1, 2, 3, 4], [], [6, 0, 1, 2, 3, 4, 5]])
    (.seq (.seq (.dreg [o 26 (.fieldAddr 2 (t 1)),
      o 27 (.load none (t 26)),
      o 28 (.call 0 (.fn 53) [(t 27)]),
      o 29 (.mov (t 28)),
      og 30 29 true (.fieldAddr 2 (t 1)),
      og 31 29 true (.load none (t 30)),
      og 32 29 true (.call 0 (.fn 54) [(t 31)]),
      og 33 29 true (.fieldAddr 1 (t 1)),
      og 34 29 true (.load none (t 33)),
      og 35 29 true (.bin .eql (t 32) (t 34)),
      o 36 (.pick (t 29) (t 35) (.cst (.bool false)))] [[], [0], [0, 1], [0, 1, 2], [0, 1, 2, 3], [0, 1, 2, 3, 4], [0, 1, 2, 3, 4, 5], [0, 1, 2, 3], [0, 1, 2, 3, 7], [0, 1, 2, 3, 4, 5, 6, 7, 8], [0, 1, 2, 3, 4, 5, 6, 7, 8, 9]])
    (.gh [.kill [26, 27, 28, 29, 30, 31, 32, 33, 34, 35]] (.cond (t 36)
     (.reg [o 37 (.fieldAddr 2 (t 3)),
       e (.store 1 (t 37) (.cst (.str []))),
       o 38 (.fieldAddr 4 (t 3)),
       e (.store 1 (t 38) (.cst (.bool true)))])
     (.skip))))
    (.gh [.kill [36, 26, 27, 28, 29, 30, 31, 32, 33, 34, 35, 37, 38]] (.seq (.reg [o 39 (.load (some 5) (t 3)),
      e (.store 5 (t 2) (t 39))])
    (.ret)))))
    (.skip)))))))))
(.seq (.reg [o 40 (.build [(.int .i64 0), (.str []), (.str []), (.str []), (.bool false)] []),
  e (.store 5 (t 2) (t 40))])
(.ret))), [.cell 2 (some 5)]⟩
theorem ir23_tr : trF Tryz.prog ir23 Tryz.f23 = some ir23 := by kernel_rfl

-- grille/grillelaw08.Heavy
def ir32 : IF := ⟨31, .seq (.reg [o 2 (.mov (.cst (.bool false)))])
(.seq (.seq (.reg [o 5 (.mov (t 0)),
  o 6 (.len .row (t 5)),
  o 7 (.mov (.cst (.int .i64 0)))])
(.block 0 (.loop [8, 9, 10, 4, 26, 11, 12, 13, 14, 15, 16, 17, 18, 19, 20, 21, 22, 23, 24, 25, 2, 27] (.seq (.reg [o 8 (.bin .lss (t 7) (t 6))])
  (.seq (.cond (t 8)
   (.skip)
   (.exit 0))
  (.seq (.block 1 (.seq (.reg [o 9 (.idxAddr 4 (t 5) (t 7)),
     o 10 (.load (some 4) (t 9)),
     o 4 (.alloc [(.int .i64 0), (.str []), (.str []), .nils]),
     e (.store 4 (t 4) (t 10))])
   (.seq (.reg [o 11 (.fieldAddr 3 (t 4)),
     o 12 (.load none (t 11)),
     o 13 (.len .row (t 12)),
     o 14 (.bin .gtr (t 13) (.cst (.int .i64 200))),
     o 15 (.mov (t 14)),
     og 16 15 false (.fieldAddr 2 (t 4)),
     og 17 15 false (.load none (t 16)),
     og 18 15 false (.len .str (t 17)),
     og 19 15 false (.bin .gtr (t 18) (.cst (.int .i64 2000))),
     o 20 (.pick (t 15) (.cst (.bool true)) (t 19)),
     o 21 (.mov (t 20)),
     og 22 21 false (.fieldAddr 1 (t 4)),
     og 23 21 false (.load none (t 22)),
     og 24 21 false (.len .str (t 23)),
     og 25 21 false (.bin .gtr (t 24) (.cst (.int .i64 2000))),
     o 26 (.pick (t 21) (.cst (.bool true)) (t 25))])
   (.gh [.kill [11, 12, 13, 14, 15, 16, 17, 18, 19, 20, 21, 22, 23, 24, 25]] (.cond (t 26)
    (.seq (.reg [o 2 (.mov (.cst (.bool true)))])
    (.ret))
    (.skip))))))
  (.reg [o 27 (.bin .add (t 7) (.cst (.int .i64 1))),
    o 7 (.mov (t 27))])))))))
(.seq (.reg [o 28 (.mov (t 0)),
  o 29 (.len .row (t 28)),
  o 30 (.bin .gtr (t 29) (.cst (.int .i64 120))),
  o 2 (.mov (t 30))])
(.ret))), [.tmp 2]⟩
theorem ir32_tr : trF Tryz.prog ir32 Tryz.f32 = some ir32 := by kernel_rfl

-- grille/grillelaw08.Theirs
def ir33 : IF := ⟨27, .seq (.reg [o 2 (.mov (.cst .nils))])
(.seq (.reg [o 3 (.mov (.cst .nils))])
(.seq (.seq (.reg [o 6 (.mov (t 0)),
  o 7 (.len .row (t 6)),
  o 8 (.mov (.cst (.int .i64 0)))])
(.block 0 (.loop [9, 10, 11, 5, 12, 13, 14, 15, 16, 17, 18, 19, 20, 21, 22, 23, 24, 25] (.seq (.reg [o 9 (.bin .lss (t 8) (t 7))])
  (.seq (.cond (t 9)
   (.skip)
   (.exit 0))
  (.seq (.block 1 (.seq (.reg [o 10 (.idxAddr 4 (t 6) (t 8)),
     o 11 (.load (some 4) (t 10)),
     o 5 (.alloc [(.int .i64 0), (.str []), (.str []), .nils]),
     e (.store 4 (t 5) (t 11))])
   (.dreg [o 12 (.mov (t 3)),
     o 13 (.fieldAddr 0 (t 5)),
     o 14 (.load none (t 13)),
     o 15 (.fieldAddr 1 (t 5)),
     o 16 (.load none (t 15)),
     o 17 (.fieldAddr 2 (t 5)),
     o 18 (.load none (t 17)),
     o 19 (.fieldAddr 3 (t 5)),
     o 20 (.load none (t 19)),
     o 21 (.call 0 (.fn 48) [(t 20)]),
     o 22 (.build [(.int .i64 0), (.str []), (.str []), .nils] [(0, 1, (t 14)), (1, 1, (t 16)), (2, 1, (t 18)), (3, 1, (t 21))]),
     o 23 (.lit .ro 4 [(t 22)]),
     o 24 (.append .tok 4 64 (t 12) (t 23)),
     o 3 (.mov (t 24))] [[], [], [1], [], [3], [], [5], [], [7], [7, 8], [1, 2, 3, 4, 5, 6, 7, 8, 9], [1, 2, 3, 4, 5, 6, 7, 8, 9, 10], [0, 1, 2, 3, 4, 5, 6, 7, 8, 9, 10, 11], [0, 1, 2, 3, 4, 5, 6, 7, 8, 9, 10, 11, 12]])))
  (.reg [o 25 (.bin .add (t 8) (.cst (.int .i64 1))),
    o 8 (.mov (t 25))])))))))
(.seq (.reg [o 26 (.mov (t 3)),
  o 2 (.mov (t 26))])
(.ret)))), [.tmp 2]⟩
theorem ir33_tr : trF Tryz.prog ir33 Tryz.f33 = some ir33 := by kernel_rfl

-- grille/arena.Order
def ir34 : IF := ⟨15, .seq (.reg [o 1 (.box (t 0)),
  o 2 (.alloc [.nils])])
(.seq (.seq (.reg [o 5 (.load none (t 1)),
  o 6 (.call 0 (.fn 37) [(t 5)]),
  o 7 (.not (t 6))])
(.cond (t 7)
 (.seq (.reg [e (.store 1 (t 2) (.cst .nils))])
 (.ret))
 (.skip)))
(.seq (.reg [o 8 (.load none (t 1)),
  o 9 (.len .row (t 8)),
  o 10 (.make .ref 1 8 [(.int .i64 0)] (t 9) (t 9)),
  o 3 (.alloc [.nils]),
  e (.store 1 (t 3) (t 10))])
(.seq (.reg [o 4 (.alloc [.nilf])])
(.seq (.reg [o 11 (.mkFn (.func 59) [] [(t 3), (t 2), (t 1), (t 4)]),
  e (.store 1 (t 4) (t 11))])
(.seq (.reg [o 12 (.load none (t 4)),
  o 13 (.call 0 (t 12) [(.cst (.int .i64 0))])])
(.seq (.reg [o 14 (.load none (t 2)),
  e (.store 1 (t 2) (t 14))])
(.ret))))))), [.cell 2 none]⟩
theorem ir34_tr : trF Tryz.prog ir34 Tryz.f34 = some ir34 := by kernel_rfl

-- grille/arena.Right
def ir37 : IF := ⟨22, .seq (.reg [o 1 (.box (t 0)),
  o 2 (.mov (.cst (.bool false)))])
(.seq (.seq (.reg [o 4 (.load none (t 1)),
  o 5 (.len .row (t 4)),
  o 6 (.bin .lss (t 5) (.cst (.int .i64 1))),
  o 7 (.mov (t 6)),
  og 8 7 false (.load none (t 1)),
  og 9 7 false (.len .row (t 8)),
  og 10 7 false (.bin .gtr (t 9) (.cst (.int .i64 2000))),
  o 11 (.pick (t 7) (.cst (.bool true)) (t 10))])
(.gh [.kill [4, 5, 6, 7, 8, 9, 10]] (.cond (t 11)
 (.seq (.reg [o 2 (.mov (.cst (.bool false)))])
 (.ret))
 (.skip))))
(.seq (.reg [o 12 (.mkFn (.func 60) [] [(t 1)]),
  o 3 (.mov (t 12))])
(.seq (.reg [o 13 (.load none (t 1)),
  o 14 (.mov (t 3)),
  o 15 (.call 0 (.fn 62) [(t 13), (t 14)]),
  o 16 (.not (t 15)),
  o 17 (.mov (t 16)),
  og 18 17 true (.load none (t 1)),
  og 19 17 true (.call 0 (.fn 63) [(t 18)]),
  og 20 17 true (.not (t 19)),
  o 21 (.pick (t 17) (t 20) (.cst (.bool false))),
  o 2 (.mov (t 21))])
(.ret)))), [.tmp 2]⟩
theorem ir37_tr : trF Tryz.prog ir37 Tryz.f37 = some ir37 := by kernel_rfl

-- grille/flatten.tell
def ir43 : IF := ⟨44, .seq (.reg [o 2 (.mov (.cst .nilp))])
(.seq (.reg [o 7 (.mov (t 0)),
  o 8 (.call 0 (.fn 19) [(t 7)]),
  o 0 (.mov (t 8))])
(.seq (.reg [o 9 (.mov (t 0)),
  o 10 (.mov (t 0)),
  o 11 (.len .row (t 10)),
  o 12 (.make .ref 1 16 [(.str [])] (t 11) (t 11)),
  o 13 (.build [.nils, .nils, .nils, (.int .i64 0), (.int .i64 0), (.int .i64 0)] [(0, 1, (t 9)), (2, 1, (t 12))]),
  o 14 (.box (t 13)),
  o 3 (.mov (t 14))])
(.seq (.reg [o 4 (.mov (.cst (.int .i64 0)))])
(.seq (.seq (.reg [o 15 (.mov (t 0)),
  o 16 (.call 0 (.fn 67) [(t 15)]),
  o 17 (.len .row (t 16)),
  o 18 (.mov (.cst (.int .i64 0)))])
(.block 0 (.loop [19, 20, 21, 22, 5, 6, 23, 24, 25, 26, 27, 28, 29, 30, 31, 32, 33, 34, 35, 36, 37, 38, 39, 40] (.seq (.reg [o 19 (.bin .lss (t 18) (t 17))])
  (.seq (.cond (t 19)
   (.skip)
   (.exit 0))
  (.seq (.block 1 (.seq (.reg [o 20 (.mov (t 18)),
     o 21 (.idxAddr 1 (t 16) (t 18)),
     o 22 (.load none (t 21)),
     o 5 (.mov (t 20)),
     o 6 (.mov (t 22))])
   (.seq (.seq (.reg [o 23 (.mov (t 5)),
     o 24 (.bin .eql (t 23) (.cst (.int .i64 0)))])
   (.cond (t 24)
    (.reg [o 25 (.mov (t 6)),
      o 26 (.bin .add (t 25) (.cst (.int .i64 1))),
      o 6 (.mov (t 26))])
    (.skip)))
   (.gh [.kill [23, 24, 25, 26]] (.seq (.reg [o 27 (.mov (t 6)),
     o 28 (.bin .gtr (t 27) (.cst (.int .i64 1)))])
   (.cond (t 28)
    (.seq (.reg [o 29 (.mov (t 4)),
      o 30 (.bin .add (t 29) (.cst (.int .i64 1))),
      o 4 (.mov (t 30))])
    (.dreg [o 31 (.mov (t 3)),
      o 32 (.nilck (t 31)),
      o 33 (.fieldAddr 2 (t 32)),
      o 34 (.load none (t 33)),
      o 35 (.mov (t 5)),
      o 36 (.mov (t 4)),
      o 37 (.call 0 (.fn 68) [(t 36)]),
      o 38 (.bin .add (.cst (.str [97])) (t 37)),
      o 39 (.idxAddr 1 (t 34) (t 35)),
      e (.store 1 (t 39) (t 38))] [[], [0], [0, 1], [0, 1, 2], [], [], [5], [5, 6], [0, 1, 2, 3, 4, 5, 6, 7], [0, 1, 2, 3, 4, 5, 6, 7, 8]]))
    (.skip)))))))
  (.gh [.kill [20, 21, 22, 5, 6, 23, 24, 25, 26, 27, 28, 29, 30, 31, 32, 33, 34, 35, 36, 37, 38, 39]] (.reg [o 40 (.bin .add (t 18) (.cst (.int .i64 1))),
    o 18 (.mov (t 40))]))))))))
(.seq (.reg [o 41 (.mov (t 3)),
  o 42 (.call 0 (.fn 69) [(t 41), (.cst (.int .i64 0))])])
(.seq (.reg [o 43 (.mov (t 3)),
  o 2 (.mov (t 43))])
(.ret))))))), [.tmp 2]⟩
theorem ir43_tr : trF Tryz.prog ir43 Tryz.f43 = some ir43 := by kernel_rfl

-- (*grille/compose.doc).take
def ir44 : IF := ⟨60, .seq (.reg [o 3 (.box (t 1)),
  o 4 (.mov (.cst (.bool false))),
  o 5 (.mov (.cst (.int .i64 0)))])
(.seq (.seq (.reg [o 8 (.fieldAddr 0 (t 3)),
  o 9 (.load none (t 8))])
(.block 0 (.seq (.reg [o 14 (.bin .eql (t 9) (.cst (.int .i64 0))),
   o 13 (.mov (t 14))])
 (.cond (t 13)
  (.reg [o 15 (.mov (t 0)),
    o 16 (.mkMap),
    o 17 (.build [.nils, .nils, .nilm] [(2, 1, (t 16))]),
    o 18 (.nilck (t 15)),
    e (.store 3 (t 18) (t 17))])
  (.seq (.reg [o 20 (.bin .eql (t 9) (.cst (.int .i64 1))),
    o 19 (.mov (t 20))])
  (.cond (t 19)
   (.seq (.seq (.gh [.sealC 0 0] (.reg [o 21 (.mov (t 0)),
     o 22 (.nilck (t 21)),
     o 23 (.fieldAddr 0 (t 22)),
     o 24 (.load none (t 23)),
     o 25 (.call 0 (.fn 63) [(t 24)])]))
   (.cond (t 25)
    (.seq (.reg [o 4 (.mov (.cst (.bool false))),
      o 5 (.mov (.cst (.int .i64 12)))])
    (.ret))
    (.skip)))
   (.seq (.reg [o 4 (.mov (.cst (.bool true))),
     o 5 (.mov (.cst (.int .i64 0)))])
   (.ret)))
   (.seq (.seq (.reg [o 27 (.bin .eql (t 9) (.cst (.int .i64 3))),
     o 26 (.mov (t 27))])
   (.cond (t 26)
    (.skip)
    (.reg [o 28 (.bin .eql (t 9) (.cst (.int .i64 5))),
      o 26 (.mov (t 28))])))
   (.gh [.kill [27, 28]] (.cond (t 26)
    (.dreg [o 29 (.mov (t 0)),
      o 30 (.mov (t 0)),
      o 31 (.nilck (t 30)),
      o 32 (.fieldAddr 1 (t 31)),
      o 33 (.load none (t 32)),
      o 34 (.mov (t 0)),
      o 35 (.nilck (t 34)),
      o 36 (.fieldAddr 1 (t 35)),
      o 37 (.load none (t 36)),
      o 38 (.len .row (t 37)),
      o 39 (.bin .sub (t 38) (.cst (.int .i64 1))),
      o 40 (.slc 1 (t 33) none (some (t 39))),
      o 41 (.nilck (t 29)),
      o 42 (.fieldAddr 1 (t 41)),
      e (.store 1 (t 42) (t 40))] [[], [], [1], [1, 2], [1, 2, 3], [], [5], [5, 6], [5, 6, 7], [5, 6, 7, 8], [5, 6, 7, 8, 9], [1, 2, 3, 4, 5, 6, 7, 8, 9, 10], [0, 1, 2, 3, 4, 5, 6, 7, 8, 9, 10, 11], [0, 1, 2, 3, 4, 5, 6, 7, 8, 9, 10, 11, 12], [0, 1, 2, 3, 4, 5, 6, 7, 8, 9, 10, 11, 12, 13]])
    (.seq (.reg [o 44 (.bin .eql (t 9) (.cst (.int .i64 7))),
      o 43 (.mov (t 44))])
    (.cond (t 43)
     (.seq (.dreg [o 46 (.mov (t 0)),
       o 47 (.nilck (t 46)),
       o 48 (.fieldAddr 2 (t 47)),
       o 49 (.load none (t 48)),
       o 50 (.fieldAddr 1 (t 3)),
       o 51 (.load none (t 50)),
       o 52 (.lookup (.scal .str) (.int .i64 0) true (t 49) (t 51)),
       o 45 (.mov (t 52)),
       o 53 (.extract 0 (t 45)),
       o 54 (.extract 1 (t 45)),
       o 6 (.mov (t 53)),
       o 7 (.mov (t 54))] [[], [0], [0, 1], [0, 1, 2], [], [4], [0, 1, 2, 3, 4, 5], [0, 1, 2, 3, 4, 5, 6], [0, 1, 2, 3, 4, 5, 6, 7], [0, 1, 2, 3, 4, 5, 6, 7], [0, 1, 2, 3, 4, 5, 6, 7, 8], [0, 1, 2, 3, 4, 5, 6, 7, 9, 8, 10]])
     (.seq (.seq (.reg [o 55 (.mov (t 7)),
       o 56 (.not (t 55))])
     (.cond (t 56)
      (.seq (.reg [o 4 (.mov (.cst (.bool false))),
        o 5 (.mov (.cst (.int .i64 11)))])
      (.ret))
      (.skip)))
     (.seq (.reg [o 57 (.mov (t 0)),
       o 58 (.mov (t 6)),
       o 59 (.call 0 (.fn 70) [(t 57), (t 58)]),
       o 4 (.mov (.cst (.bool false))),
       o 5 (.mov (t 59))])
     (.ret))))
     (.seq (.reg [o 10 (.mov (t 0)),
       o 11 (.load (some 5) (t 3)),
       o 12 (.call 0 (.fn 71) [(t 10), (t 11)]),
       o 4 (.mov (.cst (.bool false))),
       o 5 (.mov (t 12))])
     (.ret)))))))))))))
(.gh [.kill [8, 9, 14, 13, 15, 16, 17, 18, 20, 19, 21, 22, 23, 24, 25, 26, 27, 28, 29, 30, 31, 32, 33, 34, 35, 36, 37, 38, 39, 40, 41, 42, 44, 43, 46, 47, 48, 49, 50, 51, 52, 45, 53, 54, 6, 7, 55, 56, 57, 58, 59, 10, 11, 12, 4, 5]] (.seq (.reg [o 4 (.mov (.cst (.bool false))),
  o 5 (.mov (.cst (.int .i64 0)))])
(.ret)))), [.tmp 4, .tmp 5]⟩
theorem ir44_tr : trF Tryz.prog ir44 Tryz.f44 = some ir44 := by kernel_rfl

-- (grille/event.Event).right
def ir45 : IF := ⟨80, .seq (.reg [o 1 (.box (t 0)),
  o 2 (.mov (.cst (.bool false)))])
(.seq (.block 0 (.seq (.reg [o 4 (.fieldAddr 0 (t 1)),
   o 5 (.load none (t 4)),
   o 6 (.bin .lss (t 5) (.cst (.int .i64 0))),
   o 7 (.mov (t 6)),
   og 8 7 false (.fieldAddr 0 (t 1)),
   og 9 7 false (.load none (t 8)),
   og 10 7 false (.bin .gtr (t 9) (.cst (.int .i64 7))),
   o 11 (.pick (t 7) (.cst (.bool true)) (t 10)),
   o 12 (.mov (t 11)),
   og 13 12 false (.fieldAddr 3 (t 1)),
   og 14 12 false (.load none (t 13)),
   og 15 12 false (.call 0 (.fn 72) [(t 14)]),
   og 16 12 false (.not (t 15)),
   o 17 (.pick (t 12) (.cst (.bool true)) (t 16)),
   o 3 (.mov (t 17))])
 (.gh [.kill [4, 5, 6, 7, 8, 9, 10, 11, 12, 13, 14, 15, 16, 17]] (.cond (t 3)
  (.seq (.reg [o 2 (.mov (.cst (.bool false)))])
  (.ret))
  (.seq (.reg [o 19 (.fieldAddr 0 (t 1)),
    o 20 (.load none (t 19)),
    o 21 (.bin .eql (t 20) (.cst (.int .i64 7))),
    o 18 (.mov (t 21))])
  (.cond (t 18)
   (.seq (.reg [o 22 (.fieldAddr 1 (t 1)),
     o 23 (.load none (t 22)),
     o 24 (.call 0 (.fn 73) [(t 23)]),
     o 25 (.mov (t 24)),
     og 26 25 true (.fieldAddr 2 (t 1)),
     og 27 25 true (.load none (t 26)),
     og 28 25 true (.bin .eql (t 27) (.cst (.str []))),
     o 29 (.pick (t 25) (t 28) (.cst (.bool false))),
     o 30 (.mov (t 29)),
     og 31 30 true (.fieldAddr 3 (t 1)),
     og 32 30 true (.load none (t 31)),
     og 33 30 true (.bin .eql (t 32) (.cst (.str []))),
     o 34 (.pick (t 30) (t 33) (.cst (.bool false))),
     o 35 (.mov (t 34)),
     og 36 35 true (.fieldAddr 4 (t 1)),
     og 37 35 true (.load none (t 36)),
     og 38 35 true (.not (t 37)),
     o 39 (.pick (t 35) (t 38) (.cst (.bool false))),
     o 2 (.mov (t 39))])
   (.ret))
   (.seq (.reg [o 41 (.load (some 5) (t 1)),
     o 42 (.call 0 (.fn 74) [(t 41)]),
     o 43 (.not (t 42)),
     o 40 (.mov (t 43))])
   (.cond (t 40)
    (.seq (.reg [o 44 (.load (some 5) (t 1)),
      o 45 (.fieldAddr 0 (t 1)),
      o 46 (.load none (t 45)),
      o 47 (.build [(.int .i64 0), (.str []), (.str []), (.str []), (.bool false)] [(0, 1, (t 46))]),
      o 48 (.eqAgg [.int, .str, .str, .str, .bool] false (t 44) (t 47)),
      o 2 (.mov (t 48))])
    (.ret))
    (.seq (.reg [o 50 (.fieldAddr 0 (t 1)),
      o 51 (.load none (t 50)),
      o 52 (.bin .neq (t 51) (.cst (.int .i64 6))),
      o 53 (.mov (t 52)),
      og 54 53 true (.fieldAddr 3 (t 1)),
      og 55 53 true (.load none (t 54)),
      og 56 53 true (.bin .neq (t 55) (.cst (.str []))),
      og 57 53 true (.mov (t 56)),
      og 58 57 false (.fieldAddr 4 (t 1)),
      og 59 57 false (.load none (t 58)),
      og 60 53 true (.pick (t 57) (.cst (.bool true)) (t 59)),
      o 61 (.pick (t 53) (t 60) (.cst (.bool false))),
      o 49 (.mov (t 61))])
    (.gh [.kill [50, 51, 52, 53, 54, 55, 56, 57, 58, 59, 60, 61]] (.cond (t 49)
     (.seq (.reg [o 2 (.mov (.cst (.bool false)))])
     (.ret))
     (.skip))))))))))))
(.seq (.reg [o 62 (.fieldAddr 1 (t 1)),
  o 63 (.load none (t 62)),
  o 64 (.bin .eql (t 63) (.cst (.str []))),
  o 65 (.mov (t 64)),
  og 66 65 false (.fieldAddr 1 (t 1)),
  og 67 65 false (.load none (t 66)),
  og 68 65 false (.call 0 (.fn 73) [(t 67)]),
  o 69 (.pick (t 65) (.cst (.bool true)) (t 68)),
  o 70 (.mov (t 69)),
  og 71 70 true (.fieldAddr 2 (t 1)),
  og 72 70 true (.load none (t 71)),
  og 73 70 true (.bin .eql (t 72) (.cst (.str []))),
  og 74 70 true (.mov (t 73)),
  og 75 74 false (.fieldAddr 2 (t 1)),
  og 76 74 false (.load none (t 75)),
  og 77 74 false (.call 0 (.fn 75) [(t 76)]),
  og 78 70 true (.pick (t 74) (.cst (.bool true)) (t 77)),
  o 79 (.pick (t 70) (t 78) (.cst (.bool false))),
  o 2 (.mov (t 79))])
(.ret))), [.tmp 2]⟩
theorem ir45_tr : trF Tryz.prog ir45 Tryz.f45 = some ir45 := by kernel_rfl

-- (*grille/event.nest).take
def ir46 : IF := ⟨53, .seq (.reg [o 3 (.box (t 1)),
  o 4 (.mov (.cst (.bool false)))])
(.seq (.reg [o 6 (.mov (t 0)),
  o 7 (.call 0 (.fn 76) [(t 6)]),
  o 8 (.nilck (t 7)),
  o 9 (.fieldAddr 0 (t 8)),
  o 10 (.load none (t 9)),
  o 11 (.bin .geq (t 10) (.cst (.int .i64 0))),
  o 5 (.mov (t 11))])
(.seq (.seq (.reg [o 12 (.fieldAddr 0 (t 3)),
  o 13 (.load none (t 12))])
(.block 0 (.seq (.reg [o 15 (.bin .eql (t 13) (.cst (.int .i64 0))),
   o 14 (.mov (t 15))])
 (.cond (t 14)
  (.seq (.reg [o 16 (.mov (t 0)),
    o 17 (.call 0 (.fn 77) [(t 16), (.cst (.int .i64 0))])])
  (.seq (.reg [o 18 (.mov (t 5)),
    o 19 (.not (t 18)),
    o 4 (.mov (t 19))])
  (.ret)))
  (.seq (.reg [o 21 (.bin .eql (t 13) (.cst (.int .i64 1))),
    o 20 (.mov (t 21))])
  (.cond (t 20)
   (.seq (.reg [o 22 (.mov (t 0)),
     o 23 (.call 0 (.fn 78) [(t 22), (.cst (.int .i64 0)), (.fn 79)]),
     o 4 (.mov (t 23))])
   (.ret))
   (.seq (.reg [o 25 (.bin .eql (t 13) (.cst (.int .i64 3))),
     o 24 (.mov (t 25))])
   (.cond (t 24)
    (.seq (.reg [o 26 (.mov (t 0)),
      o 27 (.call 0 (.fn 78) [(t 26), (.cst (.int .i64 2)), (.fn 80)]),
      o 4 (.mov (t 27))])
    (.ret))
    (.seq (.reg [o 29 (.bin .eql (t 13) (.cst (.int .i64 5))),
      o 28 (.mov (t 29))])
    (.cond (t 28)
     (.seq (.reg [o 30 (.mov (t 0)),
       o 31 (.call 0 (.fn 78) [(t 30), (.cst (.int .i64 4)), (.fn 81)]),
       o 4 (.mov (t 31))])
     (.ret))
     (.skip)))))))))))
(.seq (.reg [o 32 (.mov (t 0)),
  o 33 (.call 0 (.fn 76) [(t 32)]),
  o 34 (.nilck (t 33)),
  o 35 (.fieldAddr 1 (t 34)),
  o 36 (.load none (t 35)),
  o 37 (.bin .add (t 36) (.cst (.int .i64 1))),
  o 38 (.nilck (t 33)),
  o 39 (.fieldAddr 1 (t 38)),
  e (.store 1 (t 39) (t 37))])
(.seq (.seq (.reg [o 40 (.fieldAddr 0 (t 3)),
  o 41 (.load none (t 40)),
  o 42 (.bin .eql (t 41) (.cst (.int .i64 2))),
  o 43 (.mov (t 42)),
  og 44 43 false (.fieldAddr 0 (t 3)),
  og 45 43 false (.load none (t 44)),
  og 46 43 false (.bin .eql (t 45) (.cst (.int .i64 4))),
  o 47 (.pick (t 43) (.cst (.bool true)) (t 46))])
(.gh [.kill [40, 41, 42, 43, 44, 45, 46]] (.cond (t 47)
 (.reg [o 48 (.mov (t 0)),
   o 49 (.fieldAddr 0 (t 3)),
   o 50 (.load none (t 49)),
   o 51 (.call 0 (.fn 77) [(t 48), (t 50)])])
 (.skip))))
(.gh [.kill [47, 40, 41, 42, 43, 44, 45, 46, 48, 49, 50, 51]] (.seq (.reg [o 52 (.mov (t 5)),
  o 4 (.mov (t 52))])
(.ret))))))), [.tmp 4]⟩
theorem ir46_tr : trF Tryz.prog ir46 Tryz.f46 = some ir46 := by kernel_rfl

-- grille/event.Depth
def ir47 : IF := ⟨29, .seq (.reg [o 2 (.mov (.cst (.int .i64 0)))])
(.seq (.reg [o 3 (.mov (.cst (.int .i64 0)))])
(.seq (.seq (.reg [o 6 (.mov (t 0)),
  o 7 (.len .row (t 6)),
  o 8 (.mov (.cst (.int .i64 0)))])
(.block 0 (.loop [9, 10, 11, 5, 12, 13, 14, 15, 16, 17, 18, 19, 20, 21, 22, 23, 24, 25, 26, 27] (.seq (.reg [o 9 (.bin .lss (t 8) (t 7))])
  (.seq (.cond (t 9)
   (.skip)
   (.exit 0))
  (.seq (.block 1 (.seq (.reg [o 10 (.idxAddr 5 (t 6) (t 8)),
     o 11 (.load (some 5) (t 10)),
     o 5 (.alloc [(.int .i64 0), (.str []), (.str []), (.str []), (.bool false)]),
     e (.store 5 (t 5) (t 11))])
   (.seq (.seq (.reg [o 12 (.fieldAddr 0 (t 5)),
     o 13 (.load none (t 12))])
   (.block 2 (.seq (.seq (.reg [o 15 (.bin .eql (t 13) (.cst (.int .i64 2))),
      o 14 (.mov (t 15))])
    (.cond (t 14)
     (.skip)
     (.reg [o 16 (.bin .eql (t 13) (.cst (.int .i64 4))),
       o 14 (.mov (t 16))])))
    (.gh [.kill [15, 16]] (.cond (t 14)
     (.reg [o 17 (.mov (t 3)),
       o 18 (.bin .add (t 17) (.cst (.int .i64 1))),
       o 3 (.mov (t 18))])
     (.seq (.seq (.reg [o 20 (.bin .eql (t 13) (.cst (.int .i64 3))),
       o 19 (.mov (t 20))])
     (.cond (t 19)
      (.skip)
      (.reg [o 21 (.bin .eql (t 13) (.cst (.int .i64 5))),
        o 19 (.mov (t 21))])))
     (.gh [.kill [20, 21]] (.cond (t 19)
      (.reg [o 22 (.mov (t 3)),
        o 23 (.bin .sub (t 22) (.cst (.int .i64 1))),
        o 3 (.mov (t 23))])
      (.skip)))))))))
   (.gh [.kill [12, 13, 14, 15, 16, 17, 18, 19, 20, 21, 22, 23]] (.reg [o 24 (.mov (t 2)),
     o 25 (.mov (t 3)),
     o 26 (.minmax true (t 24) [(t 25)]),
     o 2 (.mov (t 26))])))))
  (.reg [o 27 (.bin .add (t 8) (.cst (.int .i64 1))),
    o 8 (.mov (t 27))])))))))
(.seq (.reg [o 28 (.mov (t 2)),
  o 2 (.mov (t 28))])
(.ret)))), [.tmp 2]⟩
theorem ir47_tr : trF Tryz.prog ir47 Tryz.f47 = some ir47 := by kernel_rfl

-- slices.Clone[[]int,int]
def ir48 : IF := ⟨8, .seq (.reg [o 2 (.mov (.cst .nils))])
(.seq (.seq (.reg [o 3 (.mov (t 0)),
  o 4 (.eqv .slice false (t 3) (.cst .nils))])
(.cond (t 4)
 (.seq (.reg [o 2 (.mov (.cst .nils))])
 (.ret))
 (.skip)))
(.seq (.reg [o 5 (.lit .tok 1 []),
  o 6 (.mov (t 0)),
  o 7 (.append .tok 1 8 (t 5) (t 6)),
  o 2 (.mov (t 7))])
(.ret))), [.tmp 2]⟩
theorem ir48_tr : trF Tryz.prog ir48 Tryz.f48 = some ir48 := by kernel_rfl

-- slices.Clone[[]int,int]
def ir48v1 : IF := ⟨8, .seq (.reg [o 2 (.mov (.cst .nils))])
(.seq (.seq (.reg [o 3 (.mov (t 0)),
  o 4 (.eqv .slice false (t 3) (.cst .nils))])
(.cond (t 4)
 (.seq (.reg [o 2 (.mov (.cst .nils))])
 (.ret))
 (.skip)))
(.seq (.reg [o 5 (.lit .ref 1 []),
  o 6 (.mov (t 0)),
  o 7 (.append .ref 1 8 (t 5) (t 6)),
  o 2 (.mov (t 7))])
(.ret))), [.tmp 2]⟩
theorem ir48v1_tr : trF Tryz.prog ir48v1 Tryz.f48 = some ir48v1 := by kernel_rfl

-- grille/flatten.unless
def ir52 : IF := ⟨9, .seq (.reg [o 4 (.mov (.cst (.str [])))])
(.seq (.seq (.reg [o 5 (.mov (t 0)),
  o 6 (.mov (t 1)),
  o 7 (.bin .eql (t 5) (t 6))])
(.cond (t 7)
 (.seq (.reg [o 4 (.mov (.cst (.str [])))])
 (.ret))
 (.skip)))
(.seq (.reg [o 8 (.mov (t 0)),
  o 4 (.mov (t 8))])
(.ret))), [.tmp 4]⟩
theorem ir52_tr : trF Tryz.prog ir52 Tryz.f52 = some ir52 := by kernel_rfl

-- grille/scalar.Plain
def ir53 : IF := ⟨49, .seq (.reg [o 2 (.mov (.cst (.bool false)))])
(.seq (.reg [o 3 (.mov (.fn 84))])
(.seq (.block 0 (.seq (.reg [o 5 (.mov (t 0)),
   o 6 (.bin .eql (t 5) (.cst (.str []))),
   o 7 (.mov (t 6)),
   og 8 7 false (.mov (t 0)),
   og 9 7 false (.bin .eql (t 8) (.cst (.str [45, 45, 45]))),
   o 10 (.pick (t 7) (.cst (.bool true)) (t 9)),
   o 11 (.mov (t 10)),
   og 12 11 false (.mov (t 0)),
   og 13 11 false (.bin .eql (t 12) (.cst (.str [46, 46, 46]))),
   o 14 (.pick (t 11) (.cst (.bool true)) (t 13)),
   o 15 (.mov (t 14)),
   og 16 15 false (.mov (t 0)),
   og 17 15 false (.call 0 (.fn 72) [(t 16)]),
   og 18 15 false (.not (t 17)),
   o 19 (.pick (t 15) (.cst (.bool true)) (t 18)),
   o 4 (.mov (t 19))])
 (.gh [.kill [5, 6, 7, 8, 9, 10, 11, 12, 13, 14, 15, 16, 17, 18, 19]] (.cond (t 4)
  (.seq (.reg [o 2 (.mov (.cst (.bool false)))])
  (.ret))
  (.seq (.reg [o 21 (.mov (t 0)),
    o 22 (.idxStr (t 21) (.cst (.int .i64 0))),
    o 23 (.call 0 (.fn 86) [(.cst (.str [45, 63, 58, 44, 91, 93, 123, 125, 35, 38, 42, 33, 124, 62, 39, 34, 37, 64, 96, 32])), (t 22)]),
    o 24 (.bin .geq (t 23) (.cst (.int .i64 0))),
    o 25 (.mov (t 24)),
    og 26 25 false (.mov (t 0)),
    og 27 25 false (.call 0 (.fn 87) [(t 26), (.cst (.str [9, 10, 13, 44, 91, 93, 123, 125]))]),
    o 28 (.pick (t 25) (.cst (.bool true)) (t 27)),
    o 29 (.mov (t 28)),
    og 30 29 false (.mov (t 0)),
    og 31 29 false (.mov (t 3)),
    og 32 29 false (.call 0 (.fn 88) [(t 30), (t 31)]),
    o 33 (.pick (t 29) (.cst (.bool true)) (t 32)),
    o 20 (.mov (t 33))])
  (.gh [.kill [21, 22, 23, 24, 25, 26, 27, 28, 29, 30, 31, 32, 33]] (.cond (t 20)
   (.seq (.reg [o 2 (.mov (.cst (.bool false)))])
   (.ret))
   (.seq (.reg [o 35 (.mov (t 0)),
     o 36 (.call 0 (.fn 89) [(t 35), (.cst (.str [32]))]),
     o 37 (.mov (t 36)),
     og 38 37 false (.mov (t 0)),
     og 39 37 false (.call 0 (.fn 89) [(t 38), (.cst (.str [58]))]),
     o 40 (.pick (t 37) (.cst (.bool true)) (t 39)),
     o 34 (.mov (t 40))])
   (.gh [.kill [35, 36, 37, 38, 39, 40]] (.cond (t 34)
    (.seq (.reg [o 2 (.mov (.cst (.bool false)))])
    (.ret))
    (.skip)))))))))))
(.seq (.reg [o 41 (.mov (t 0)),
  o 42 (.call 0 (.fn 90) [(t 41), (.cst (.str [58, 32]))]),
  o 43 (.not (t 42)),
  o 44 (.mov (t 43)),
  og 45 44 true (.mov (t 0)),
  og 46 44 true (.call 0 (.fn 90) [(t 45), (.cst (.str [32, 35]))]),
  og 47 44 true (.not (t 46)),
  o 48 (.pick (t 44) (t 47) (.cst (.bool false))),
  o 2 (.mov (t 48))])
(.ret)))), [.tmp 2]⟩
theorem ir53_tr : trF Tryz.prog ir53 Tryz.f53 = some ir53 := by kernel_rfl

-- grille/tag.Resolve
def ir54 : IF := ⟨33, .seq (.reg [o 2 (.mov (.cst (.str [])))])
(.seq (.seq (.reg [o 3 (.mov (t 0))])
(.block 0 (.seq (.seq (.reg [o 5 (.bin .eql (t 3) (.cst (.str []))),
   o 4 (.mov (t 5))])
 (.cond (t 4)
  (.skip)
  (.seq (.reg [o 6 (.bin .eql (t 3) (.cst (.str [126]))),
    o 4 (.mov (t 6))])
  (.cond (t 4)
   (.skip)
   (.seq (.reg [o 7 (.bin .eql (t 3) (.cst (.str [110, 117, 108, 108]))),
     o 4 (.mov (t 7))])
   (.cond (t 4)
    (.skip)
    (.seq (.reg [o 8 (.bin .eql (t 3) (.cst (.str [78, 117, 108, 108]))),
      o 4 (.mov (t 8))])
    (.cond (t 4)
     (.skip)
     (.reg [o 9 (.bin .eql (t 3) (.cst (.str [78, 85, 76, 76]))),
       o 4 (.mov (t 9))])))))))))
 (.gh [.kill [5, 6, 7, 8, 9]] (.cond (t 4)
  (.seq (.reg [o 2 (.mov (.cst (.str [110, 117, 108, 108])))])
  (.ret))
  (.seq (.seq (.reg [o 11 (.bin .eql (t 3) (.cst (.str [116, 114, 117, 101]))),
    o 10 (.mov (t 11))])
  (.cond (t 10)
   (.skip)
   (.seq (.reg [o 12 (.bin .eql (t 3) (.cst (.str [84, 114, 117, 101]))),
     o 10 (.mov (t 12))])
   (.cond (t 10)
    (.skip)
    (.seq (.reg [o 13 (.bin .eql (t 3) (.cst (.str [84, 82, 85, 69]))),
      o 10 (.mov (t 13))])
    (.cond (t 10)
     (.skip)
     (.seq (.reg [o 14 (.bin .eql (t 3) (.cst (.str [102, 97, 108, 115, 101]))),
       o 10 (.mov (t 14))])
     (.cond (t 10)
      (.skip)
      (.seq (.reg [o 15 (.bin .eql (t 3) (.cst (.str [70, 97, 108, 115, 101]))),
        o 10 (.mov (t 15))])
      (.cond (t 10)
       (.skip)
       (.reg [o 16 (.bin .eql (t 3) (.cst (.str [70, 65, 76, 83, 69]))),
         o 10 (.mov (t 16))])))))))))))
  (.gh [.kill [11, 12, 13, 14, 15, 16]] (.cond (t 10)
   (.seq (.reg [o 2 (.mov (.cst (.str [98, 111, 111, 108])))])
   (.ret))
   (.seq (.seq (.reg [o 18 (.bin .eql (t 3) (.cst (.str [46, 110, 97, 110]))),
     o 17 (.mov (t 18))])
   (.cond (t 17)
    (.skip)
    (.seq (.reg [o 19 (.bin .eql (t 3) (.cst (.str [46, 78, 97, 78]))),
      o 17 (.mov (t 19))])
    (.cond (t 17)
     (.skip)
     (.reg [o 20 (.bin .eql (t 3) (.cst (.str [46, 78, 65, 78]))),
       o 17 (.mov (t 20))])))))
   (.gh [.kill [18, 19, 20]] (.cond (t 17)
    (.seq (.reg [o 2 (.mov (.cst (.str [102, 108, 111, 97, 116])))])
    (.ret))
    (.skip))))))))))))
(.seq (.seq (.reg [o 21 (.mov (t 0)),
  o 22 (.call 0 (.fn 91) [(t 21)])])
(.block 1 (.seq (.seq (.reg [o 24 (.bin .eql (t 22) (.cst (.str [46, 105, 110, 102]))),
   o 23 (.mov (t 24))])
 (.cond (t 23)
  (.skip)
  (.seq (.reg [o 25 (.bin .eql (t 22) (.cst (.str [46, 73, 110, 102]))),
    o 23 (.mov (t 25))])
  (.cond (t 23)
   (.skip)
   (.reg [o 26 (.bin .eql (t 22) (.cst (.str [46, 73, 78, 70]))),
     o 23 (.mov (t 26))])))))
 (.gh [.kill [24, 25, 26]] (.cond (t 23)
  (.seq (.reg [o 2 (.mov (.cst (.str [102, 108, 111, 97, 116])))])
  (.ret))
  (.skip))))))
(.seq (.block 2 (.seq (.reg [o 28 (.mov (t 0)),
   o 29 (.call 0 (.fn 92) [(t 28)]),
   o 27 (.mov (t 29))])
 (.cond (t 27)
  (.seq (.reg [o 2 (.mov (.cst (.str [105, 110, 116])))])
  (.ret))
  (.seq (.reg [o 31 (.mov (t 0)),
    o 32 (.call 0 (.fn 93) [(t 31)]),
    o 30 (.mov (t 32))])
  (.cond (t 30)
   (.seq (.reg [o 2 (.mov (.cst (.str [102, 108, 111, 97, 116])))])
   (.ret))
   (.skip))))))
(.seq (.reg [o 2 (.mov (.cst (.str [115, 116, 114])))])
(.ret))))), [.tmp 2]⟩
theorem ir54_tr : trF Tryz.prog ir54 Tryz.f54 = some ir54 := by kernel_rfl

-- grille/arena.Order$1
def ir59 : IF := ⟨37, .seq (.seq (.reg [o 8 (.load none (t 1)),
  o 9 (.mov (t 0)),
  o 10 (.idxAddr 1 (t 8) (t 9)),
  o 11 (.load none (t 10)),
  o 12 (.bin .add (t 11) (.cst (.int .i64 1))),
  o 13 (.idxAddr 1 (t 8) (t 9)),
  e (.store 1 (t 13) (t 12))])
(.seq (.reg [o 14 (.load none (t 1)),
  o 15 (.mov (t 0)),
  o 16 (.idxAddr 1 (t 14) (t 15)),
  o 17 (.load none (t 16)),
  o 18 (.bin .gtr (t 17) (.cst (.int .i64 1)))])
(.cond (t 18)
 (.ret)
 (.skip))))
(.seq (.reg [o 19 (.load none (t 2)),
  o 20 (.mov (t 0)),
  o 21 (.lit .ro 1 [(t 20)]),
  o 22 (.append .tok 1 8 (t 19) (t 21)),
  e (.store 1 (t 2) (t 22))])
(.seq (.reg [o 23 (.load none (t 3)),
  o 24 (.mov (t 0)),
  o 25 (.idxAddr 4 (t 23) (t 24)),
  o 26 (.fieldAddr 3 (t 25)),
  o 27 (.load none (t 26)),
  o 28 (.len .row (t 27)),
  o 29 (.mov (.cst (.int .i64 0)))])
(.block 0 (.loop [30, 31, 32, 7, 33, 34, 35, 36] (.seq (.reg [o 30 (.bin .lss (t 29) (t 28))])
  (.seq (.cond (t 30)
   (.skip)
   (.exit 0))
  (.seq (.block 1 (.seq (.reg [o 31 (.idxAddr 1 (t 27) (t 29)),
     o 32 (.load none (t 31)),
     o 7 (.mov (t 32))])
   (.reg [o 33 (.load none (t 4)),
     o 34 (.mov (t 7)),
     o 35 (.call 0 (t 33) [(t 34)])])))
  (.reg [o 36 (.bin .add (t 29) (.cst (.int .i64 1))),
    o 29 (.mov (t 36))])))))))), []⟩
theorem ir59_tr : trF Tryz.prog ir59 Tryz.f59 = some ir59 := by kernel_rfl

-- grille/arena.Right$1
def ir60 : IF := ⟨8, .seq (.reg [o 2 (.box (t 0)),
  o 3 (.mov (.cst (.bool false)))])
(.seq (.reg [o 4 (.load none (t 1)),
  o 5 (.load (some 4) (t 2)),
  o 6 (.call 0 (.fn 61) [(t 4), (t 5)]),
  o 7 (.not (t 6)),
  o 3 (.mov (t 7))])
(.ret)), [.tmp 3]⟩
theorem ir60_tr : trF Tryz.prog ir60 Tryz.f60 = some ir60 := by kernel_rfl

-- (grille/arena.Graph).right
def ir61 : IF := ⟨77, .seq (.reg [o 2 (.box (t 0)),
  o 3 (.box (t 1)),
  o 4 (.mov (.cst (.bool false)))])
(.seq (.reg [o 8 (.mkFn (.func 100) [] [(t 2)]),
  o 5 (.mov (t 8))])
(.seq (.seq (.reg [o 9 (.fieldAddr 3 (t 3)),
  o 10 (.load none (t 9)),
  o 11 (.mov (t 5)),
  o 12 (.call 0 (.fn 102) [(t 10), (t 11)])])
(.cond (t 12)
 (.seq (.reg [o 4 (.mov (.cst (.bool false)))])
 (.ret))
 (.skip)))
(.seq (.seq (.reg [o 13 (.fieldAddr 0 (t 3)),
  o 14 (.load none (t 13)),
  o 15 (.bin .eql (t 14) (.cst (.int .i64 0)))])
(.cond (t 15)
 (.seq (.reg [o 16 (.fieldAddr 3 (t 3)),
   o 17 (.load none (t 16)),
   o 18 (.len .row (t 17)),
   o 19 (.bin .eql (t 18) (.cst (.int .i64 0))),
   o 20 (.mov (t 19)),
   og 21 20 true (.fieldAddr 2 (t 3)),
   og 22 20 true (.load none (t 21)),
   og 23 20 true (.call 0 (.fn 72) [(t 22)]),
   o 24 (.pick (t 20) (t 23) (.cst (.bool false))),
   o 25 (.mov (t 24)),
   og 26 25 true (.fieldAddr 1 (t 3)),
   og 27 25 true (.load none (t 26)),
   og 28 25 true (.fieldAddr 2 (t 3)),
   og 29 25 true (.load none (t 28)),
   og 30 25 true (.call 0 (.fn 103) [(t 27), (t 29)]),
   o 31 (.pick (t 25) (t 30) (.cst (.bool false))),
   o 4 (.mov (t 31))])
 (.ret))
 (.skip)))
(.seq (.reg [o 32 (.fieldAddr 1 (t 3)),
  o 33 (.load none (t 32)),
  o 34 (.call 0 (.fn 75) [(t 33)]),
  o 35 (.mov (t 34)),
  og 36 35 true (.fieldAddr 1 (t 3)),
  og 37 35 true (.load none (t 36)),
  og 38 35 true (.call 0 (.fn 104) [(t 37)]),
  og 39 35 true (.not (t 38)),
  o 40 (.pick (t 35) (t 39) (.cst (.bool false))),
  o 6 (.mov (t 40))])
(.gh [.kill [32, 33, 34, 35, 36, 37, 38, 39, 40]] (.seq (.seq (.reg [o 41 (.fieldAddr 0 (t 3)),
  o 42 (.load none (t 41))])
(.block 0 (.seq (.reg [o 44 (.bin .eql (t 42) (.cst (.int .i64 1))),
   o 43 (.mov (t 44))])
 (.cond (t 43)
  (.reg [o 45 (.mov (t 6)),
    o 46 (.mov (t 45)),
    og 47 46 false (.fieldAddr 1 (t 3)),
    og 48 46 false (.load none (t 47)),
    og 49 46 false (.bin .eql (t 48) (.cst (.str [115, 101, 113]))),
    o 50 (.pick (t 46) (.cst (.bool true)) (t 49)),
    o 6 (.mov (t 50))])
  (.seq (.reg [o 52 (.bin .eql (t 42) (.cst (.int .i64 2))),
    o 51 (.mov (t 52))])
  (.cond (t 51)
   (.seq (.reg [o 53 (.mkFn (.func 105) [] [(t 2)]),
     o 7 (.mov (t 53))])
   (.seq (.seq (.reg [o 54 (.fieldAddr 3 (t 3)),
     o 55 (.load none (t 54)),
     o 56 (.len .row (t 55)),
     o 57 (.bin .rem (t 56) (.cst (.int .i64 2))),
     o 58 (.bin .neq (t 57) (.cst (.int .i64 0))),
     o 59 (.mov (t 58)),
     og 60 59 false (.load (some 4) (t 3)),
     og 61 59 false (.call 0 (.fn 106) [(t 60)]),
     og 62 59 false (.mov (t 7)),
     og 63 59 false (.call 0 (.fn 102) [(t 61), (t 62)]),
     o 64 (.pick (t 59) (.cst (.bool true)) (t 63))])
   (.gh [.kill [54, 55, 56, 57, 58, 59, 60, 61, 62, 63]] (.cond (t 64)
    (.seq (.reg [o 4 (.mov (.cst (.bool false)))])
    (.ret))
    (.skip))))
   (.reg [o 65 (.mov (t 6)),
     o 66 (.mov (t 65)),
     og 67 66 false (.fieldAddr 1 (t 3)),
     og 68 66 false (.load none (t 67)),
     og 69 66 false (.bin .eql (t 68) (.cst (.str [109, 97, 112]))),
     o 70 (.pick (t 66) (.cst (.bool true)) (t 69)),
     o 6 (.mov (t 70))])))
   (.seq (.reg [o 4 (.mov (.cst (.bool false)))])
   (.ret))))))))
(.gh [.kill [41, 42, 44, 43, 45, 46, 47, 48, 49, 50, 52, 51, 53, 7, 64, 54, 55, 56, 57, 58, 59, 60, 61, 62, 63, 65, 66, 67, 68, 69, 70, 4]] (.seq (.reg [o 71 (.mov (t 6)),
  o 72 (.mov (t 71)),
  og 73 72 true (.fieldAddr 2 (t 3)),
  og 74 72 true (.load none (t 73)),
  og 75 72 true (.bin .eql (t 74) (.cst (.str []))),
  o 76 (.pick (t 72) (t 75) (.cst (.bool false))),
  o 4 (.mov (t 76))])
(.ret))))))))), [.tmp 4]⟩
theorem ir61_tr : trF Tryz.prog ir61 Tryz.f61 = some ir61 := by kernel_rfl

-- slices.ContainsFunc[grille/arena.Graph,grille/arena.Node]
def ir62 : IF := ⟨9, .seq (.reg [o 4 (.mov (.cst (.bool false)))])
(.seq (.reg [o 5 (.mov (t 0)),
  o 6 (.mov (t 1)),
  o 7 (.call 0 (.fn 107) [(t 5), (t 6)]),
  o 8 (.bin .geq (t 7) (.cst (.int .i64 0))),
  o 4 (.mov (t 8))])
(.ret)), [.tmp 4]⟩
theorem ir62_tr : trF Tryz.prog ir62 Tryz.f62 = some ir62 := by kernel_rfl

-- grille/arena.Twice
def ir63 : IF := ⟨67, .seq (.reg [o 2 (.mov (.cst (.bool false)))])
(.seq (.seq (.reg [o 10 (.mov (t 0)),
  o 11 (.len .row (t 10)),
  o 12 (.mov (.cst (.int .i64 0)))])
(.block 0 (.loop [13, 14, 15, 4, 16, 17, 18, 19, 20, 5, 6, 21, 22, 23, 25, 26, 27, 8, 28, 29, 30, 31, 32, 33, 34, 35, 36, 37, 38, 39, 40, 41, 42, 43, 9, 44, 45, 46, 47, 48, 49, 50, 51, 52, 53, 54, 55, 56, 57, 58, 59, 60, 61, 62, 63, 64, 2, 65, 24, 66] (.seq (.reg [o 13 (.bin .lss (t 12) (t 11))])
  (.seq (.cond (t 13)
   (.skip)
   (.exit 0))
  (.seq (.block 1 (.seq (.reg [o 14 (.idxAddr 4 (t 10) (t 12)),
     o 15 (.load (some 4) (t 14)),
     o 4 (.alloc [(.int .i64 0), (.str []), (.str []), .nils]),
     e (.store 4 (t 4) (t 15))])
   (.seq (.seq (.reg [o 16 (.fieldAddr 0 (t 4)),
     o 17 (.load none (t 16)),
     o 18 (.bin .neq (t 17) (.cst (.int .i64 2)))])
   (.cond (t 18)
    (.exit 1)
    (.skip)))
   (.seq (.reg [o 19 (.mkMap),
     o 20 (.mkMap),
     o 5 (.mov (t 19)),
     o 6 (.mov (t 20))])
   (.seq (.reg [o 21 (.load (some 4) (t 4)),
     o 22 (.call 0 (.fn 106) [(t 21)]),
     o 23 (.len .row (t 22)),
     o 24 (.mov (.cst (.int .i64 0)))])
   (.block 2 (.loop [25, 26, 27, 8, 28, 29, 30, 31, 32, 33, 34, 35, 36, 37, 38, 39, 40, 41, 42, 43, 9, 44, 45, 46, 47, 48, 49, 50, 51, 52, 53, 54, 55, 56, 57, 58, 59, 60, 61, 62, 63, 64, 2, 65] (.seq (.reg [o 25 (.bin .lss (t 24) (t 23))])
     (.seq (.cond (t 25)
      (.skip)
      (.exit 2))
     (.seq (.block 3 (.seq (.reg [o 26 (.idxAddr 1 (t 22) (t 24)),
        o 27 (.load none (t 26)),
        o 8 (.mov (t 27))])
      (.seq (.seq (.reg [o 28 (.mov (t 0)),
        o 29 (.mov (t 8)),
        o 30 (.call 0 (.fn 101) [(t 28), (t 29)]),
        o 31 (.not (t 30))])
      (.cond (t 31)
       (.exit 3)
       (.skip)))
      (.seq (.seq (.reg [o 32 (.mov (t 5)),
        o 33 (.mov (t 8)),
        o 34 (.lookup (.scal .int) (.int .i64 0) false (t 32) (t 33)),
        o 35 (.bin .add (t 34) (.cst (.int .i64 1))),
        e (.mapUpd (.scal .int) (t 32) (t 33) (t 35))])
      (.seq (.reg [o 36 (.mov (t 5)),
        o 37 (.mov (t 8)),
        o 38 (.lookup (.scal .int) (.int .i64 0) false (t 36) (t 37)),
        o 39 (.bin .gtr (t 38) (.cst (.int .i64 1)))])
      (.cond (t 39)
       (.seq (.reg [o 2 (.mov (.cst (.bool true)))])
       (.ret))
       (.skip))))
      (.seq (.reg [o 40 (.mov (t 0)),
        o 41 (.mov (t 8)),
        o 42 (.idxAddr 4 (t 40) (t 41)),
        o 43 (.load (some 4) (t 42)),
        o 9 (.alloc [(.int .i64 0), (.str []), (.str []), .nils]),
        e (.store 4 (t 9) (t 43))])
      (.seq (.reg [o 44 (.fieldAddr 0 (t 9)),
        o 45 (.load none (t 44)),
        o 46 (.bin .eql (t 45) (.cst (.int .i64 0)))])
      (.cond (t 46)
       (.seq (.dreg [o 47 (.mov (t 6)),
         o 48 (.fieldAddr 1 (t 9)),
         o 49 (.load none (t 48)),
         o 50 (.fieldAddr 2 (t 9)),
         o 51 (.load none (t 50)),
         o 52 (.build [(.str []), (.str [])] [(0, 1, (t 49)), (1, 1, (t 51))]),
         o 53 (.lookup (.struct [.str, .str]) (.int .i64 0) false (t 47) (t 52)),
         o 54 (.bin .add (t 53) (.cst (.int .i64 1))),
         o 55 (.mapEntry (.struct [.str, .str]) (.int .i64 0) (t 47) (t 52)),
         o 56 (.extract 1 (t 55)),
         e (.entrySt (t 47) (t 56) (t 54))] [[], [], [1], [], [3], [1, 2, 3, 4], [0, 1, 2, 3, 4, 5], [0, 1, 2, 3, 4, 5, 6], [0, 1, 2, 3, 4, 5], [0, 1, 2, 3, 4, 5, 8], [0, 1, 2, 3, 4, 5, 8, 9, 6, 7]])
       (.seq (.reg [o 57 (.mov (t 6)),
         o 58 (.fieldAddr 1 (t 9)),
         o 59 (.load none (t 58)),
         o 60 (.fieldAddr 2 (t 9)),
         o 61 (.load none (t 60)),
         o 62 (.build [(.str []), (.str [])] [(0, 1, (t 59)), (1, 1, (t 61))]),
         o 63 (.lookup (.struct [.str, .str]) (.int .i64 0) false (t 57) (t 62)),
         o 64 (.bin .gtr (t 63) (.cst (.int .i64 1)))])
       (.cond (t 64)
        (.seq (.reg [o 2 (.mov (.cst (.bool true)))])
        (.ret))
        (.skip))))
       (.skip))))))))
     (.gh [.kill [26, 27, 8, 28, 29, 30, 31, 32, 33, 34, 35, 36, 37, 38, 39, 40, 41, 42, 43, 9, 44, 45, 46, 47, 48, 49, 50, 51, 52, 53, 54, 55, 56, 57, 58, 59, 60, 61, 62, 63, 64, 2]] (.reg [o 65 (.bin .add (t 24) (.cst (.int .i64 1))),
       o 24 (.mov (t 65))]))))))))))))
  (.gh [.kill [14, 15, 4, 16, 17, 18, 19, 20, 5, 6, 21, 22, 23, 25, 26, 27, 8, 28, 29, 30, 31, 32, 33, 34, 35, 36, 37, 38, 39, 40, 41, 42, 43, 9, 44, 45, 46, 47, 48, 49, 50, 51, 52, 53, 54, 55, 56, 57, 58, 59, 60, 61, 62, 63, 64, 2, 65, 24]] (.reg [o 66 (.bin .add (t 12) (.cst (.int .i64 1))),
    o 12 (.mov (t 66))]))))))))
(.seq (.reg [o 2 (.mov (.cst (.bool false)))])
(.ret))), [.tmp 2]⟩
theorem ir63_tr : trF Tryz.prog ir63 Tryz.f63 = some ir63 := by kernel_rfl

-- grille/arena.Ins
def ir67 : IF := ⟨36, .seq (.reg [o 2 (.mov (.cst .nils))])
(.seq (.seq (.reg [o 8 (.mov (t 0)),
  o 9 (.call 0 (.fn 37) [(t 8)]),
  o 10 (.not (t 9))])
(.cond (t 10)
 (.seq (.reg [o 2 (.mov (.cst .nils))])
 (.ret))
 (.skip)))
(.seq (.reg [o 11 (.mov (t 0)),
  o 12 (.len .row (t 11)),
  o 13 (.make .ref 1 8 [(.int .i64 0)] (t 12) (t 12)),
  o 3 (.mov (t 13))])
(.seq (.seq (.reg [o 14 (.mov (t 0)),
  o 15 (.len .row (t 14)),
  o 16 (.mov (.cst (.int .i64 0)))])
(.block 0 (.loop [17, 18, 19, 5, 20, 21, 22, 24, 25, 26, 7, 27, 28, 29, 30, 31, 32, 33, 23, 34] (.seq (.reg [o 17 (.bin .lss (t 16) (t 15))])
  (.seq (.cond (t 17)
   (.skip)
   (.exit 0))
  (.seq (.block 1 (.seq (.reg [o 18 (.idxAddr 4 (t 14) (t 16)),
     o 19 (.load (some 4) (t 18)),
     o 5 (.alloc [(.int .i64 0), (.str []), (.str []), .nils]),
     e (.store 4 (t 5) (t 19))])
   (.seq (.reg [o 20 (.fieldAddr 3 (t 5)),
     o 21 (.load none (t 20)),
     o 22 (.len .row (t 21)),
     o 23 (.mov (.cst (.int .i64 0)))])
   (.block 2 (.loop [24, 25, 26, 7, 27, 28, 29, 30, 31, 32, 33] (.seq (.reg [o 24 (.bin .lss (t 23) (t 22))])
     (.seq (.cond (t 24)
      (.skip)
      (.exit 2))
     (.seq (.block 3 (.seq (.reg [o 25 (.idxAddr 1 (t 21) (t 23)),
        o 26 (.load none (t 25)),
        o 7 (.mov (t 26))])
      (.reg [o 27 (.mov (t 3)),
        o 28 (.mov (t 7)),
        o 29 (.idxAddr 1 (t 27) (t 28)),
        o 30 (.load none (t 29)),
        o 31 (.bin .add (t 30) (.cst (.int .i64 1))),
        o 32 (.idxAddr 1 (t 27) (t 28)),
        e (.store 1 (t 32) (t 31))])))
     (.reg [o 33 (.bin .add (t 23) (.cst (.int .i64 1))),
       o 23 (.mov (t 33))])))))))))
  (.reg [o 34 (.bin .add (t 16) (.cst (.int .i64 1))),
    o 16 (.mov (t 34))])))))))
(.seq (.gh [.sealT 3] (.reg [o 35 (.mov (t 3)),
  o 2 (.mov (t 35))]))
(.ret))))), [.tmp 2]⟩
theorem ir67_tr : trF Tryz.prog ir67 Tryz.f67 = some ir67 := by kernel_rfl

-- (*grille/flatten.teller).node
def ir69 : IF := ⟨82, .seq (.reg [o 2 (.box (t 0))])
(.seq (.seq (.reg [o 6 (.mov (t 1)),
  o 7 (.load none (t 2)),
  o 8 (.nilck (t 7)),
  o 9 (.fieldAddr 3 (t 8)),
  o 10 (.load none (t 9)),
  o 11 (.bin .lss (t 6) (t 10))])
(.cond (t 11)
 (.seq (.dreg [o 12 (.load none (t 2)),
   o 13 (.load none (t 2)),
   o 14 (.nilck (t 13)),
   o 15 (.fieldAddr 1 (t 14)),
   o 16 (.load none (t 15)),
   o 17 (.load none (t 2)),
   o 18 (.nilck (t 17)),
   o 19 (.fieldAddr 2 (t 18)),
   o 20 (.load none (t 19)),
   o 21 (.mov (t 1)),
   o 22 (.idxAddr 1 (t 20) (t 21)),
   o 23 (.load none (t 22)),
   o 24 (.build [(.int .i64 0), (.str []), (.str []), (.str []), (.bool false)] [(0, 1, (.cst (.int .i64 7))), (1, 1, (t 23))]),
   o 25 (.lit .ro 5 [(t 24)]),
   o 26 (.append .tok 5 64 (t 16) (t 25)),
   o 27 (.nilck (t 12)),
   o 28 (.fieldAddr 1 (t 27)),
   e (.store 1 (t 28) (t 26))] [[], [], [1], [1, 2], [1, 2, 3], [], [5], [5, 6], [5, 6, 7], [], [5, 6, 7, 8, 9], [5, 6, 7, 8, 9, 10], [5, 6, 7, 8, 9, 10, 11], [5, 6, 7, 8, 9, 10, 11, 12], [1, 2, 3, 4, 5, 6, 7, 8, 9, 10, 11, 12, 13], [0, 1, 2, 3, 4, 5, 6, 7, 8, 9, 10, 11, 12, 13, 14], [0, 1, 2, 3, 4, 5, 6, 7, 8, 9, 10, 11, 12, 13, 14, 15], [0, 1, 2, 3, 4, 5, 6, 7, 8, 9, 10, 11, 12, 13, 14, 15, 16]])
 (.ret))
 (.skip)))
(.seq (.reg [o 29 (.load none (t 2)),
  o 30 (.nilck (t 29)),
  o 31 (.fieldAddr 3 (t 30)),
  o 32 (.load none (t 31)),
  o 33 (.bin .add (t 32) (.cst (.int .i64 1))),
  o 34 (.nilck (t 29)),
  o 35 (.fieldAddr 3 (t 34)),
  e (.store 1 (t 35) (t 33))])
(.seq (.reg [o 36 (.load none (t 2)),
  o 37 (.nilck (t 36)),
  o 38 (.fieldAddr 0 (t 37)),
  o 39 (.load none (t 38)),
  o 40 (.mov (t 1)),
  o 41 (.idxAddr 4 (t 39) (t 40)),
  o 42 (.load (some 4) (t 41)),
  o 4 (.alloc [(.int .i64 0), (.str []), (.str []), .nils]),
  e (.store 4 (t 4) (t 42))])
(.seq (.reg [o 43 (.load (some 4) (t 4)),
  o 44 (.call 0 (.fn 23) [(t 43)]),
  o 5 (.alloc [(.int .i64 0), (.str []), (.str []), (.str []), (.bool false)]),
  e (.store 5 (t 5) (t 44))])
(.seq (.reg [o 45 (.load none (t 2)),
  o 46 (.nilck (t 45)),
  o 47 (.fieldAddr 2 (t 46)),
  o 48 (.load none (t 47)),
  o 49 (.mov (t 1)),
  o 50 (.idxAddr 1 (t 48) (t 49)),
  o 51 (.load none (t 50)),
  o 52 (.fieldAddr 1 (t 5)),
  e (.store 1 (t 52) (t 51))])
(.seq (.dreg [o 53 (.load none (t 2)),
  o 54 (.load none (t 2)),
  o 55 (.nilck (t 54)),
  o 56 (.fieldAddr 1 (t 55)),
  o 57 (.load none (t 56)),
  o 58 (.load (some 5) (t 5)),
  o 59 (.lit .ro 5 [(t 58)]),
  o 60 (.append .tok 5 64 (t 57) (t 59)),
  o 61 (.nilck (t 53)),
  o 62 (.fieldAddr 1 (t 61)),
  e (.store 1 (t 62) (t 60))] [[], [], [1], [1, 2], [1, 2, 3], [], [5], [1, 2, 3, 4, 5, 6], [0, 1, 2, 3, 4, 5, 6, 7], [0, 1, 2, 3, 4, 5, 6, 7, 8], [0, 1, 2, 3, 4, 5, 6, 7, 8, 9]])
(.seq (.seq (.reg [o 63 (.fieldAddr 0 (t 4)),
  o 64 (.load none (t 63)),
  o 65 (.bin .eql (t 64) (.cst (.int .i64 0)))])
(.cond (t 65)
 (.ret)
 (.skip)))
(.seq (.reg [o 66 (.load none (t 2)),
  o 67 (.mkFn (.func 114) [] [(t 4), (t 2)]),
  o 68 (.call 0 (.fn 113) [(t 66), (t 67)])])
(.dreg [o 69 (.load none (t 2)),
  o 70 (.load none (t 2)),
  o 71 (.nilck (t 70)),
  o 72 (.fieldAddr 1 (t 71)),
  o 73 (.load none (t 72)),
  o 74 (.fieldAddr 0 (t 5)),
  o 75 (.load none (t 74)),
  o 76 (.bin .add (t 75) (.cst (.int .i64 1))),
  o 77 (.build [(.int .i64 0), (.str []), (.str []), (.str []), (.bool false)] [(0, 1, (t 76))]),
  o 78 (.lit .ro 5 [(t 77)]),
  o 79 (.append .tok 5 64 (t 73) (t 78)),
  o 80 (.nilck (t 69)),
  o 81 (.fieldAddr 1 (t 80)),
  e (.store 1 (t 81) (t 79))] [[], [], [1], [1, 2], [1, 2, 3], [], [5], [5, 6], [5, 6, 7], [5, 6, 7, 8], [1, 2, 3, 4, 5, 6, 7, 8, 9], [0, 1, 2, 3, 4, 5, 6, 7, 8, 9, 10], [0, 1, 2, 3, 4, 5, 6, 7, 8, 9, 10, 11], [0, 1, 2, 3, 4, 5, 6, 7, 8, 9, 10, 11, 12]]))))))))), []⟩
theorem ir69_tr : trF Tryz.prog ir69 Tryz.f69 = some ir69 := by kernel_rfl

-- (*grille/compose.doc).kid
def ir70 : IF := ⟨64, .seq (.reg [o 4 (.mov (.cst (.int .i64 0)))])
(.seq (.seq (.reg [o 6 (.mov (t 0)),
  o 7 (.nilck (t 6)),
  o 8 (.fieldAddr 1 (t 7)),
  o 9 (.load none (t 8)),
  o 10 (.len .row (t 9)),
  o 11 (.bin .eql (t 10) (.cst (.int .i64 0)))])
(.cond (t 11)
 (.seq (.reg [o 4 (.mov (.cst (.int .i64 0)))])
 (.ret))
 (.skip)))
(.seq (.dreg [o 12 (.mov (t 0)),
  o 13 (.nilck (t 12)),
  o 14 (.fieldAddr 0 (t 13)),
  o 15 (.load none (t 14)),
  o 16 (.mov (t 0)),
  o 17 (.nilck (t 16)),
  o 18 (.fieldAddr 1 (t 17)),
  o 19 (.load none (t 18)),
  o 20 (.mov (t 0)),
  o 21 (.nilck (t 20)),
  o 22 (.fieldAddr 1 (t 21)),
  o 23 (.load none (t 22)),
  o 24 (.len .row (t 23)),
  o 25 (.bin .sub (t 24) (.cst (.int .i64 1))),
  o 26 (.idxAddr 1 (t 19) (t 25)),
  o 27 (.load none (t 26)),
  o 28 (.idxAddr 4 (t 15) (t 27)),
  o 5 (.mov (t 28))] [[], [0], [0, 1], [0, 1, 2], [], [4], [4, 5], [4, 5, 6], [], [8], [8, 9], [8, 9, 10], [8, 9, 10, 11], [8, 9, 10, 11, 12], [4, 5, 6, 7, 8, 9, 10, 11, 12, 13], [4, 5, 6, 7, 8, 9, 10, 11, 12, 13, 14], [0, 1, 2, 3, 4, 5, 6, 7, 8, 9, 10, 11, 12, 13, 14, 15], [0, 1, 2, 3, 4, 5, 6, 7, 8, 9, 10, 11, 12, 13, 14, 15, 16]])
(.seq (.seq (.reg [o 29 (.mov (t 5)),
  o 30 (.nilck (t 29)),
  o 31 (.fieldAddr 0 (t 30)),
  o 32 (.load none (t 31)),
  o 33 (.bin .eql (t 32) (.cst (.int .i64 2))),
  o 34 (.mov (t 33)),
  og 35 34 true (.mov (t 5)),
  og 36 34 true (.nilck (t 35)),
  og 37 34 true (.fieldAddr 3 (t 36)),
  og 38 34 true (.load none (t 37)),
  og 39 34 true (.len .row (t 38)),
  og 40 34 true (.bin .rem (t 39) (.cst (.int .i64 2))),
  og 41 34 true (.bin .eql (t 40) (.cst (.int .i64 0))),
  o 42 (.pick (t 34) (t 41) (.cst (.bool false))),
  o 43 (.mov (t 42)),
  og 44 43 true (.mov (t 0)),
  og 45 43 true (.nilck (t 44)),
  og 46 43 true (.fieldAddr 0 (t 45)),
  og 47 43 true (.load none (t 46)),
  og 48 43 true (.mov (t 1)),
  og 49 43 true (.idxAddr 4 (t 47) (t 48)),
  og 50 43 true (.fieldAddr 0 (t 49)),
  og 51 43 true (.load none (t 50)),
  og 52 43 true (.bin .neq (t 51) (.cst (.int .i64 0))),
  o 53 (.pick (t 43) (t 52) (.cst (.bool false)))])
(.gh [.kill [29, 30, 31, 32, 33, 34, 35, 36, 37, 38, 39, 40, 41, 42, 43, 44, 45, 46, 47, 48, 49, 50, 51, 52]] (.cond (t 53)
 (.seq (.reg [o 4 (.mov (.cst (.int .i64 5)))])
 (.ret))
 (.skip))))
(.seq (.reg [o 54 (.mov (t 5)),
  o 55 (.mov (t 5)),
  o 56 (.nilck (t 55)),
  o 57 (.fieldAddr 3 (t 56)),
  o 58 (.load none (t 57)),
  o 59 (.mov (t 1)),
  o 60 (.lit .ro 1 [(t 59)]),
  o 61 (.append .tok 1 8 (t 58) (t 60)),
  o 62 (.nilck (t 54)),
  o 63 (.fieldAddr 3 (t 62)),
  e (.store 1 (t 63) (t 61))])
(.seq (.reg [o 4 (.mov (.cst (.int .i64 0)))])
(.ret)))))), [.tmp 4]⟩
theorem ir70_tr : trF Tryz.prog ir70 Tryz.f70 = some ir70 := by kernel_rfl

-- (*grille/compose.doc).node
def ir71 : IF := ⟨77, .seq (.reg [o 3 (.box (t 1)),
  o 4 (.mov (.cst (.int .i64 0)))])
(.seq (.seq (.reg [o 9 (.mov (t 0)),
  o 10 (.nilck (t 9)),
  o 11 (.fieldAddr 0 (t 10)),
  o 12 (.load none (t 11)),
  o 13 (.len .row (t 12)),
  o 14 (.bin .geq (t 13) (.cst (.int .i64 2000)))])
(.cond (t 14)
 (.seq (.reg [o 4 (.mov (.cst (.int .i64 16)))])
 (.ret))
 (.skip)))
(.seq (.reg [o 16 (.load (some 5) (t 3)),
  o 17 (.call 0 (.fn 115) [(t 16)]),
  o 15 (.mov (t 17)),
  o 18 (.extract 0 (t 15)),
  o 19 (.extract 1 (t 15)),
  o 5 (.mov (t 18)),
  o 6 (.mov (t 19))])
(.seq (.seq (.reg [o 20 (.mov (t 6)),
  o 21 (.bin .neq (t 20) (.cst (.int .i64 0)))])
(.cond (t 21)
 (.seq (.reg [o 22 (.mov (t 6)),
   o 4 (.mov (t 22))])
 (.ret))
 (.skip)))
(.seq (.reg [o 23 (.mov (t 0)),
  o 24 (.nilck (t 23)),
  o 25 (.fieldAddr 0 (t 24)),
  o 26 (.load none (t 25)),
  o 27 (.len .row (t 26)),
  o 7 (.mov (t 27))])
(.seq (.reg [o 28 (.mov (t 5)),
  o 29 (.fieldAddr 3 (t 3)),
  o 30 (.load none (t 29)),
  o 31 (.build [(.int .i64 0), (.str []), (.str []), .nils] [(1, 1, (t 28)), (2, 1, (t 30))]),
  o 8 (.alloc [(.int .i64 0), (.str []), (.str []), .nils]),
  e (.store 4 (t 8) (t 31))])
(.seq (.seq (.reg [o 32 (.fieldAddr 0 (t 3)),
  o 33 (.load none (t 32))])
(.block 0 (.seq (.reg [o 35 (.bin .eql (t 33) (.cst (.int .i64 2))),
   o 34 (.mov (t 35))])
 (.cond (t 34)
  (.reg [o 36 (.fieldAddr 0 (t 8)),
    e (.store 1 (t 36) (.cst (.int .i64 1)))])
  (.seq (.reg [o 38 (.bin .eql (t 33) (.cst (.int .i64 4))),
    o 37 (.mov (t 38))])
  (.cond (t 37)
   (.reg [o 39 (.fieldAddr 0 (t 8)),
     e (.store 1 (t 39) (.cst (.int .i64 2)))])
   (.skip)))))))
(.gh [.kill [32, 33, 35, 34, 36, 38, 37, 39]] (.seq (.dreg [o 40 (.mov (t 0)),
  o 41 (.mov (t 0)),
  o 42 (.nilck (t 41)),
  o 43 (.fieldAddr 0 (t 42)),
  o 44 (.load none (t 43)),
  o 45 (.load (some 4) (t 8)),
  o 46 (.lit .ro 4 [(t 45)]),
  o 47 (.append .ref 4 64 (t 44) (t 46)),
  o 48 (.nilck (t 40)),
  o 49 (.fieldAddr 0 (t 48)),
  e (.store 1 (t 49) (t 47))] [[], [], [1], [1, 2], [1, 2, 3], [], [5], [1, 2, 3, 4, 5, 6], [0, 1, 2, 3, 4, 5, 6, 7], [0, 1, 2, 3, 4, 5, 6, 7, 8], [0, 1, 2, 3, 4, 5, 6, 7, 8, 9]])
(.seq (.seq (.reg [o 50 (.fieldAddr 1 (t 3)),
  o 51 (.load none (t 50)),
  o 52 (.bin .neq (t 51) (.cst (.str [])))])
(.cond (t 52)
 (.dreg [o 53 (.mov (t 0)),
   o 54 (.nilck (t 53)),
   o 55 (.fieldAddr 2 (t 54)),
   o 56 (.load none (t 55)),
   o 57 (.fieldAddr 1 (t 3)),
   o 58 (.load none (t 57)),
   o 59 (.mov (t 7)),
   e (.mapUpd (.scal .str) (t 56) (t 58) (t 59))] [[], [0], [0, 1], [0, 1, 2], [], [4], [], [0, 1, 2, 3, 4, 5, 6]])
 (.skip)))
(.gh [.kill [50, 51, 52, 53, 54, 55, 56, 57, 58, 59]] (.seq (.reg [o 60 (.mov (t 0)),
  o 61 (.mov (t 7)),
  o 62 (.call 0 (.fn 70) [(t 60), (t 61)]),
  o 6 (.mov (t 62))])
(.seq (.seq (.reg [o 63 (.fieldAddr 0 (t 8)),
  o 64 (.load none (t 63)),
  o 65 (.bin .neq (t 64) (.cst (.int .i64 0)))])
(.cond (t 65)
 (.reg [o 66 (.mov (t 0)),
   o 67 (.mov (t 0)),
   o 68 (.nilck (t 67)),
   o 69 (.fieldAddr 1 (t 68)),
   o 70 (.load none (t 69)),
   o 71 (.mov (t 7)),
   o 72 (.lit .ro 1 [(t 71)]),
   o 73 (.append .ref 1 8 (t 70) (t 72)),
   o 74 (.nilck (t 66)),
   o 75 (.fieldAddr 1 (t 74)),
   e (.store 1 (t 75) (t 73))])
 (.skip)))
(.gh [.kill [63, 64, 65, 66, 67, 68, 69, 70, 71, 72, 73, 74, 75]] (.seq (.reg [o 76 (.mov (t 6)),
  o 4 (.mov (t 76))])
(.ret))))))))))))))), [.tmp 4]⟩
theorem ir71_tr : trF Tryz.prog ir71 Tryz.f71 = some ir71 := by kernel_rfl

-- grille/lex.Name
def ir73 : IF := ⟨17, .seq (.reg [o 2 (.mov (.cst (.bool false)))])
(.seq (.reg [o 3 (.mov (.fn 117))])
(.seq (.reg [o 4 (.mov (t 0)),
  o 5 (.bin .neq (t 4) (.cst (.str []))),
  o 6 (.mov (t 5)),
  og 7 6 true (.mov (t 0)),
  og 8 6 true (.len .str (t 7)),
  og 9 6 true (.bin .leq (t 8) (.cst (.int .i64 40))),
  o 10 (.pick (t 6) (t 9) (.cst (.bool false))),
  o 11 (.mov (t 10)),
  og 12 11 true (.mov (t 0)),
  og 13 11 true (.mov (t 3)),
  og 14 11 true (.call 0 (.fn 88) [(t 12), (t 13)]),
  og 15 11 true (.not (t 14)),
  o 16 (.pick (t 11) (t 15) (.cst (.bool false))),
  o 2 (.mov (t 16))])
(.ret))), [.tmp 2]⟩
theorem ir73_tr : trF Tryz.prog ir73 Tryz.f73 = some ir73 := by kernel_rfl

-- (grille/event.Event).node
def ir74 : IF := ⟨16, .seq (.reg [o 1 (.box (t 0)),
  o 2 (.mov (.cst (.bool false)))])
(.seq (.reg [o 3 (.fieldAddr 0 (t 1)),
  o 4 (.load none (t 3)),
  o 5 (.bin .eql (t 4) (.cst (.int .i64 2))),
  o 6 (.mov (t 5)),
  og 7 6 false (.fieldAddr 0 (t 1)),
  og 8 6 false (.load none (t 7)),
  og 9 6 false (.bin .eql (t 8) (.cst (.int .i64 4))),
  o 10 (.pick (t 6) (.cst (.bool true)) (t 9)),
  o 11 (.mov (t 10)),
  og 12 11 false (.fieldAddr 0 (t 1)),
  og 13 11 false (.load none (t 12)),
  og 14 11 false (.bin .eql (t 13) (.cst (.int .i64 6))),
  o 15 (.pick (t 11) (.cst (.bool true)) (t 14)),
  o 2 (.mov (t 15))])
(.ret)), [.tmp 2]⟩
theorem ir74_tr : trF Tryz.prog ir74 Tryz.f74 = some ir74 := by kernel_rfl

-- grille/tag.Right
def ir75 : IF := ⟨9, .seq (.reg [o 2 (.mov (.cst (.bool false)))])
(.seq (.reg [o 3 (.mov (t 0)),
  o 4 (.call 0 (.fn 104) [(t 3)]),
  o 5 (.mov (t 4)),
  og 6 5 false (.mov (t 0)),
  og 7 5 false (.call 0 (.fn 118) [(t 6)]),
  o 8 (.pick (t 5) (.cst (.bool true)) (t 7)),
  o 2 (.mov (t 8))])
(.ret)), [.tmp 2]⟩
theorem ir75_tr : trF Tryz.prog ir75 Tryz.f75 = some ir75 := by kernel_rfl

-- (*grille/event.nest).last
def ir76 : IF := ⟨22, .seq (.reg [o 2 (.mov (.cst .nilp))])
(.seq (.seq (.reg [o 3 (.mov (t 0)),
  o 4 (.nilck (t 3)),
  o 5 (.fieldAddr 0 (t 4)),
  o 6 (.load none (t 5)),
  o 7 (.len .row (t 6)),
  o 8 (.bin .eql (t 7) (.cst (.int .i64 0)))])
(.cond (t 8)
 (.seq (.reg [o 9 (.build [(.int .i64 0), (.int .i64 0)] [(0, 1, (.cst (.int .i64 (-1))))]),
   o 10 (.box (t 9)),
   o 2 (.mov (t 10))])
 (.ret))
 (.skip)))
(.seq (.dreg [o 11 (.mov (t 0)),
  o 12 (.nilck (t 11)),
  o 13 (.fieldAddr 0 (t 12)),
  o 14 (.load none (t 13)),
  o 15 (.mov (t 0)),
  o 16 (.nilck (t 15)),
  o 17 (.fieldAddr 0 (t 16)),
  o 18 (.load none (t 17)),
  o 19 (.len .row (t 18)),
  o 20 (.bin .sub (t 19) (.cst (.int .i64 1))),
  o 21 (.idxAddr 2 (t 14) (t 20)),
  o 2 (.mov (t 21))] [[], [0], [0, 1], [0, 1, 2], [], [4], [4, 5], [4, 5, 6], [4, 5, 6, 7], [4, 5, 6, 7, 8], [0, 1, 2, 3, 4, 5, 6, 7, 8, 9], [0, 1, 2, 3, 4, 5, 6, 7, 8, 9, 10]])
(.ret))), [.tmp 2]⟩
theorem ir76_tr : trF Tryz.prog ir76 Tryz.f76 = some ir76 := by kernel_rfl

-- (*grille/event.nest).push
def ir77 : IF := ⟨15, .reg [o 4 (.mov (t 0)),
  o 5 (.mov (t 0)),
  o 6 (.nilck (t 5)),
  o 7 (.fieldAddr 0 (t 6)),
  o 8 (.load none (t 7)),
  o 9 (.mov (t 1)),
  o 10 (.build [(.int .i64 0), (.int .i64 0)] [(0, 1, (t 9))]),
  o 11 (.lit .ro 2 [(t 10)]),
  o 12 (.append .ref 2 16 (t 8) (t 11)),
  o 13 (.nilck (t 4)),
  o 14 (.fieldAddr 0 (t 13)),
  e (.store 1 (t 14) (t 12))], []⟩
theorem ir77_tr : trF Tryz.prog ir77 Tryz.f77 = some ir77 := by kernel_rfl

-- (*grille/event.nest).pop
def ir78 : IF := ⟨39, .seq (.reg [o 6 (.mov (.cst (.bool false)))])
(.seq (.seq (.reg [o 8 (.mov (t 0)),
  o 9 (.call 0 (.fn 76) [(t 8)]),
  o 7 (.mov (t 9))])
(.seq (.reg [o 10 (.mov (t 7)),
  o 11 (.nilck (t 10)),
  o 12 (.fieldAddr 0 (t 11)),
  o 13 (.load none (t 12)),
  o 14 (.mov (t 1)),
  o 15 (.bin .neq (t 13) (t 14)),
  o 16 (.mov (t 15)),
  og 17 16 false (.mov (t 2)),
  og 18 16 false (.mov (t 7)),
  og 19 16 false (.nilck (t 18)),
  og 20 16 false (.fieldAddr 1 (t 19)),
  og 21 16 false (.load none (t 20)),
  og 22 16 false (.call 0 (t 17) [(t 21)]),
  og 23 16 false (.not (t 22)),
  o 24 (.pick (t 16) (.cst (.bool true)) (t 23))])
(.gh [.kill [10, 11, 12, 13, 14, 15, 16, 17, 18, 19, 20, 21, 22, 23]] (.cond (t 24)
 (.seq (.reg [o 6 (.mov (.cst (.bool false)))])
 (.ret))
 (.skip)))))
(.seq (.dreg [o 25 (.mov (t 0)),
  o 26 (.mov (t 0)),
  o 27 (.nilck (t 26)),
  o 28 (.fieldAddr 0 (t 27)),
  o 29 (.load none (t 28)),
  o 30 (.mov (t 0)),
  o 31 (.nilck (t 30)),
  o 32 (.fieldAddr 0 (t 31)),
  o 33 (.load none (t 32)),
  o 34 (.len .row (t 33)),
  o 35 (.bin .sub (t 34) (.cst (.int .i64 1))),
  o 36 (.slc 2 (t 29) none (some (t 35))),
  o 37 (.nilck (t 25)),
  o 38 (.fieldAddr 0 (t 37)),
  e (.store 1 (t 38) (t 36))] [[], [], [1], [1, 2], [1, 2, 3], [], [5], [5, 6], [5, 6, 7], [5, 6, 7, 8], [5, 6, 7, 8, 9], [1, 2, 3, 4, 5, 6, 7, 8, 9, 10], [0, 1, 2, 3, 4, 5, 6, 7, 8, 9, 10, 11], [0, 1, 2, 3, 4, 5, 6, 7, 8, 9, 10, 11, 12], [0, 1, 2, 3, 4, 5, 6, 7, 8, 9, 10, 11, 12, 13]])
(.seq (.reg [o 6 (.mov (.cst (.bool true)))])
(.ret)))), [.tmp 6]⟩
theorem ir78_tr : trF Tryz.prog ir78 Tryz.f78 = some ir78 := by kernel_rfl

-- (*grille/event.nest).take$1
def ir79 : IF := ⟨5, .seq (.reg [o 2 (.mov (.cst (.bool false)))])
(.seq (.reg [o 3 (.mov (t 0)),
  o 4 (.bin .eql (t 3) (.cst (.int .i64 1))),
  o 2 (.mov (t 4))])
(.ret)), [.tmp 2]⟩
theorem ir79_tr : trF Tryz.prog ir79 Tryz.f79 = some ir79 := by kernel_rfl

-- (*grille/event.nest).take$2
def ir80 : IF := ⟨3, .seq (.reg [o 2 (.mov (.cst (.bool false)))])
(.seq (.reg [o 2 (.mov (.cst (.bool true)))])
(.ret)), [.tmp 2]⟩
theorem ir80_tr : trF Tryz.prog ir80 Tryz.f80 = some ir80 := by kernel_rfl

-- (*grille/event.nest).take$3
def ir81 : IF := ⟨6, .seq (.reg [o 2 (.mov (.cst (.bool false)))])
(.seq (.reg [o 3 (.mov (t 0)),
  o 4 (.bin .rem (t 3) (.cst (.int .i64 2))),
  o 5 (.bin .eql (t 4) (.cst (.int .i64 0))),
  o 2 (.mov (t 5))])
(.ret)), [.tmp 2]⟩
theorem ir81_tr : trF Tryz.prog ir81 Tryz.f81 = some ir81 := by kernel_rfl

-- grille/scalar.Plain$1
def ir84 : IF := ⟨6, .seq (.reg [o 2 (.mov (.cst (.bool false)))])
(.seq (.reg [o 3 (.mov (t 0)),
  o 4 (.call 0 (.fn 85) [(t 3)]),
  o 5 (.not (t 4)),
  o 2 (.mov (t 5))])
(.ret)), [.tmp 2]⟩
theorem ir84_tr : trF Tryz.prog ir84 Tryz.f84 = some ir84 := by kernel_rfl

-- grille/text.May
def ir85 : IF := ⟨43, .seq (.reg [o 2 (.mov (.cst (.bool false)))])
(.seq (.block 0 (.seq (.reg [o 4 (.mov (t 0)),
   o 5 (.bin .eql (t 4) (.cst (.int .i32 9))),
   o 6 (.mov (t 5)),
   og 7 6 false (.mov (t 0)),
   og 8 6 false (.bin .eql (t 7) (.cst (.int .i32 10))),
   o 9 (.pick (t 6) (.cst (.bool true)) (t 8)),
   o 10 (.mov (t 9)),
   og 11 10 false (.mov (t 0)),
   og 12 10 false (.bin .eql (t 11) (.cst (.int .i32 13))),
   o 13 (.pick (t 10) (.cst (.bool true)) (t 12)),
   o 14 (.mov (t 13)),
   og 15 14 false (.mov (t 0)),
   og 16 14 false (.bin .eql (t 15) (.cst (.int .i32 133))),
   o 17 (.pick (t 14) (.cst (.bool true)) (t 16)),
   o 3 (.mov (t 17))])
 (.gh [.kill [4, 5, 6, 7, 8, 9, 10, 11, 12, 13, 14, 15, 16, 17]] (.cond (t 3)
  (.seq (.reg [o 2 (.mov (.cst (.bool true)))])
  (.ret))
  (.seq (.reg [o 19 (.mov (t 0)),
    o 20 (.bin .eql (t 19) (.cst (.int .i32 65279))),
    o 21 (.mov (t 20)),
    og 22 21 false (.mov (t 0)),
    og 23 21 false (.bin .eql (t 22) (.cst (.int .i32 65534))),
    o 24 (.pick (t 21) (.cst (.bool true)) (t 23)),
    o 25 (.mov (t 24)),
    og 26 25 false (.mov (t 0)),
    og 27 25 false (.bin .eql (t 26) (.cst (.int .i32 65535))),
    o 28 (.pick (t 25) (.cst (.bool true)) (t 27)),
    o 18 (.mov (t 28))])
  (.gh [.kill [19, 20, 21, 22, 23, 24, 25, 26, 27, 28]] (.cond (t 18)
   (.seq (.reg [o 2 (.mov (.cst (.bool false)))])
   (.ret))
   (.skip))))))))
(.seq (.reg [o 29 (.mov (t 0)),
  o 30 (.bin .geq (t 29) (.cst (.int .i32 32))),
  o 31 (.mov (t 30)),
  og 32 31 true (.mov (t 0)),
  og 33 31 true (.bin .lss (t 32) (.cst (.int .i32 127))),
  o 34 (.pick (t 31) (t 33) (.cst (.bool false))),
  o 35 (.mov (t 34)),
  og 36 35 false (.mov (t 0)),
  og 37 35 false (.bin .geq (t 36) (.cst (.int .i32 160))),
  og 38 35 false (.mov (t 37)),
  og 39 38 true (.mov (t 0)),
  og 40 38 true (.call 0 (.fn 121) [(t 39)]),
  og 41 35 false (.pick (t 38) (t 40) (.cst (.bool false))),
  o 42 (.pick (t 35) (.cst (.bool true)) (t 41)),
  o 2 (.mov (t 42))])
(.ret))), [.tmp 2]⟩
theorem ir85_tr : trF Tryz.prog ir85 Tryz.f85 = some ir85 := by kernel_rfl

-- grille/scalar.hasAny
def ir87 : IF := ⟨22, .seq (.reg [o 4 (.mov (.cst (.bool false)))])
(.seq (.seq (.reg [o 9 (.mov (t 0)),
  o 10 (.rangeS (t 9))])
(.block 0 (.loop [11, 12, 13, 6, 14, 15, 16, 17, 18, 8, 19, 20, 21, 4] (.seq (.reg [o 11 (.nextS (t 10)),
    o 12 (.extract 0 (t 11))])
  (.seq (.cond (t 12)
   (.skip)
   (.exit 0))
  (.block 1 (.seq (.reg [o 13 (.extract 2 (t 11)),
     o 6 (.mov (t 13))])
   (.seq (.reg [o 14 (.mov (t 1)),
     o 15 (.rangeS (t 14))])
   (.block 2 (.loop [16, 17, 18, 8, 19, 20, 21, 4] (.seq (.reg [o 16 (.nextS (t 15)),
       o 17 (.extract 0 (t 16))])
     (.seq (.cond (t 17)
      (.skip)
      (.exit 2))
     (.block 3 (.seq (.reg [o 18 (.extract 2 (t 16)),
        o 8 (.mov (t 18))])
      (.seq (.reg [o 19 (.mov (t 6)),
        o 20 (.mov (t 8)),
        o 21 (.bin .eql (t 19) (t 20))])
      (.cond (t 21)
       (.seq (.reg [o 4 (.mov (.cst (.bool true)))])
       (.ret))
       (.skip)))))))))))))))))
(.seq (.reg [o 4 (.mov (.cst (.bool false)))])
(.ret))), [.tmp 4]⟩
theorem ir87_tr : trF Tryz.prog ir87 Tryz.f87 = some ir87 := by kernel_rfl

-- strings.ContainsFunc
def ir88 : IF := ⟨9, .seq (.reg [o 4 (.mov (.cst (.bool false)))])
(.seq (.reg [o 5 (.mov (t 0)),
  o 6 (.mov (t 1)),
  o 7 (.call 0 (.fn 123) [(t 5), (t 6)]),
  o 8 (.bin .geq (t 7) (.cst (.int .i64 0))),
  o 4 (.mov (t 8))])
(.ret)), [.tmp 4]⟩
theorem ir88_tr : trF Tryz.prog ir88 Tryz.f88 = some ir88 := by kernel_rfl

-- strings.HasSuffix
def ir89 : IF := ⟨8, .seq (.reg [o 4 (.mov (.cst (.bool false)))])
(.seq (.reg [o 5 (.mov (t 0)),
  o 6 (.mov (t 1)),
  o 7 (.call 0 (.fn 124) [(t 5), (t 6)]),
  o 4 (.mov (t 7))])
(.ret)), [.tmp 4]⟩
theorem ir89_tr : trF Tryz.prog ir89 Tryz.f89 = some ir89 := by kernel_rfl

-- grille/tag.sign
def ir91 : IF := ⟨18, .seq (.reg [o 2 (.mov (.cst (.str [])))])
(.seq (.seq (.reg [o 3 (.mov (t 0)),
  o 4 (.bin .neq (t 3) (.cst (.str []))),
  o 5 (.mov (t 4)),
  og 6 5 true (.mov (t 0)),
  og 7 5 true (.idxStr (t 6) (.cst (.int .i64 0))),
  og 8 5 true (.bin .eql (t 7) (.cst (.int .u8 43))),
  og 9 5 true (.mov (t 8)),
  og 10 9 false (.mov (t 0)),
  og 11 9 false (.idxStr (t 10) (.cst (.int .i64 0))),
  og 12 9 false (.bin .eql (t 11) (.cst (.int .u8 45))),
  og 13 5 true (.pick (t 9) (.cst (.bool true)) (t 12)),
  o 14 (.pick (t 5) (t 13) (.cst (.bool false)))])
(.gh [.kill [3, 4, 5, 6, 7, 8, 9, 10, 11, 12, 13]] (.cond (t 14)
 (.seq (.reg [o 15 (.mov (t 0)),
   o 16 (.slcS (t 15) (some (.cst (.int .i64 1))) none),
   o 2 (.mov (t 16))])
 (.ret))
 (.skip))))
(.seq (.reg [o 17 (.mov (t 0)),
  o 2 (.mov (t 17))])
(.ret))), [.tmp 2]⟩
theorem ir91_tr : trF Tryz.prog ir91 Tryz.f91 = some ir91 := by kernel_rfl

-- grille/tag.whole
def ir92 : IF := ⟨26, .seq (.reg [o 2 (.mov (.cst (.bool false)))])
(.seq (.seq (.reg [o 8 (.mov (t 0)),
  o 9 (.call 0 (.fn 126) [(t 8), (.cst (.str [48, 111]))]),
  o 7 (.mov (t 9)),
  o 10 (.extract 0 (t 7)),
  o 11 (.extract 1 (t 7)),
  o 3 (.mov (t 10)),
  o 4 (.mov (t 11))])
(.seq (.reg [o 12 (.mov (t 4))])
(.cond (t 12)
 (.seq (.reg [o 13 (.mov (t 3)),
   o 14 (.call 0 (.fn 127) [(t 13), (.cst (.int .i64 8))]),
   o 2 (.mov (t 14))])
 (.ret))
 (.skip))))
(.seq (.seq (.reg [o 16 (.mov (t 0)),
  o 17 (.call 0 (.fn 126) [(t 16), (.cst (.str [48, 120]))]),
  o 15 (.mov (t 17)),
  o 18 (.extract 0 (t 15)),
  o 19 (.extract 1 (t 15)),
  o 5 (.mov (t 18)),
  o 6 (.mov (t 19))])
(.seq (.reg [o 20 (.mov (t 6))])
(.cond (t 20)
 (.seq (.reg [o 21 (.mov (t 5)),
   o 22 (.call 0 (.fn 127) [(t 21), (.cst (.int .i64 16))]),
   o 2 (.mov (t 22))])
 (.ret))
 (.skip))))
(.seq (.reg [o 23 (.mov (t 0)),
  o 24 (.call 0 (.fn 91) [(t 23)]),
  o 25 (.call 0 (.fn 127) [(t 24), (.cst (.int .i64 10))]),
  o 2 (.mov (t 25))])
(.ret)))), [.tmp 2]⟩
theorem ir92_tr : trF Tryz.prog ir92 Tryz.f92 = some ir92 := by kernel_rfl

-- grille/tag.real
def ir93 : IF := ⟨45, .seq (.reg [o 2 (.mov (.cst (.bool false)))])
(.seq (.reg [o 9 (.mov (t 0)),
  o 10 (.call 0 (.fn 91) [(t 9)]),
  o 11 (.call 0 (.fn 128) [(t 10), (.cst (.int .i64 10))]),
  o 8 (.mov (t 11)),
  o 12 (.extract 0 (t 8)),
  o 13 (.extract 1 (t 8)),
  o 3 (.mov (t 12)),
  o 4 (.mov (t 13))])
(.seq (.reg [o 5 (.mov (.cst (.int .i64 0)))])
(.seq (.seq (.reg [o 15 (.mov (t 3)),
  o 16 (.call 0 (.fn 126) [(t 15), (.cst (.str [46]))]),
  o 14 (.mov (t 16)),
  o 17 (.extract 0 (t 14)),
  o 18 (.extract 1 (t 14)),
  o 6 (.mov (t 17)),
  o 7 (.mov (t 18))])
(.seq (.reg [o 19 (.mov (t 7))])
(.cond (t 19)
 (.reg [o 21 (.mov (t 6)),
   o 22 (.call 0 (.fn 128) [(t 21), (.cst (.int .i64 10))]),
   o 20 (.mov (t 22)),
   o 23 (.extract 0 (t 20)),
   o 24 (.extract 1 (t 20)),
   o 3 (.mov (t 23)),
   o 5 (.mov (t 24))])
 (.skip))))
(.gh [.kill [15, 16, 14, 17, 18, 6, 7, 19, 21, 22, 20, 23, 24]] (.seq (.seq (.reg [o 25 (.mov (t 4)),
  o 26 (.mov (t 5)),
  o 27 (.bin .add (t 25) (t 26)),
  o 28 (.bin .eql (t 27) (.cst (.int .i64 0)))])
(.cond (t 28)
 (.seq (.reg [o 2 (.mov (.cst (.bool false)))])
 (.ret))
 (.skip)))
(.seq (.seq (.reg [o 29 (.mov (t 3)),
  o 30 (.bin .eql (t 29) (.cst (.str [])))])
(.cond (t 30)
 (.seq (.reg [o 2 (.mov (.cst (.bool true)))])
 (.ret))
 (.skip)))
(.seq (.reg [o 31 (.mov (t 3)),
  o 32 (.idxStr (t 31) (.cst (.int .i64 0))),
  o 33 (.bin .eql (t 32) (.cst (.int .u8 101))),
  o 34 (.mov (t 33)),
  og 35 34 false (.mov (t 3)),
  og 36 34 false (.idxStr (t 35) (.cst (.int .i64 0))),
  og 37 34 false (.bin .eql (t 36) (.cst (.int .u8 69))),
  o 38 (.pick (t 34) (.cst (.bool true)) (t 37)),
  o 39 (.mov (t 38)),
  og 40 39 true (.mov (t 3)),
  og 41 39 true (.slcS (t 40) (some (.cst (.int .i64 1))) none),
  og 42 39 true (.call 0 (.fn 91) [(t 41)]),
  og 43 39 true (.call 0 (.fn 127) [(t 42), (.cst (.int .i64 10))]),
  o 44 (.pick (t 39) (t 43) (.cst (.bool false))),
  o 2 (.mov (t 44))])
(.ret)))))))), [.tmp 2]⟩
theorem ir93_tr : trF Tryz.prog ir93 Tryz.f93 = some ir93 := by kernel_rfl

-- (grille/arena.Graph).right$1
def ir100 : IF := ⟨8, .seq (.reg [o 3 (.mov (.cst (.bool false)))])
(.seq (.reg [o 4 (.load none (t 1)),
  o 5 (.mov (t 0)),
  o 6 (.call 0 (.fn 101) [(t 4), (t 5)]),
  o 7 (.not (t 6)),
  o 3 (.mov (t 7))])
(.ret)), [.tmp 3]⟩
theorem ir100_tr : trF Tryz.prog ir100 Tryz.f100 = some ir100 := by kernel_rfl

-- (grille/arena.Graph).has
def ir101 : IF := ⟨13, .seq (.reg [o 4 (.mov (.cst (.bool false)))])
(.seq (.reg [o 5 (.mov (t 1)),
  o 6 (.bin .geq (t 5) (.cst (.int .i64 0))),
  o 7 (.mov (t 6)),
  og 8 7 true (.mov (t 1)),
  og 9 7 true (.mov (t 0)),
  og 10 7 true (.len .row (t 9)),
  og 11 7 true (.bin .lss (t 8) (t 10)),
  o 12 (.pick (t 7) (t 11) (.cst (.bool false))),
  o 4 (.mov (t 12))])
(.ret)), [.tmp 4]⟩
theorem ir101_tr : trF Tryz.prog ir101 Tryz.f101 = some ir101 := by kernel_rfl

-- slices.ContainsFunc[[]int,int]
def ir102 : IF := ⟨9, .seq (.reg [o 4 (.mov (.cst (.bool false)))])
(.seq (.reg [o 5 (.mov (t 0)),
  o 6 (.mov (t 1)),
  o 7 (.call 0 (.fn 136) [(t 5), (t 6)]),
  o 8 (.bin .geq (t 7) (.cst (.int .i64 0))),
  o 4 (.mov (t 8))])
(.ret)), [.tmp 4]⟩
theorem ir102_tr : trF Tryz.prog ir102 Tryz.f102 = some ir102 := by kernel_rfl

-- grille/tag.Fits
def ir103 : IF := ⟨28, .seq (.reg [o 4 (.mov (.cst (.bool false)))])
(.seq (.seq (.reg [o 6 (.mov (t 0)),
  o 7 (.call 0 (.fn 137) [(t 6)]),
  o 8 (.not (t 7))])
(.cond (t 8)
 (.seq (.reg [o 9 (.mov (t 0)),
   o 10 (.bin .eql (t 9) (.cst (.str [115, 116, 114]))),
   o 11 (.mov (t 10)),
   og 12 11 false (.mov (t 0)),
   og 13 11 false (.call 0 (.fn 118) [(t 12)]),
   o 14 (.pick (t 11) (.cst (.bool true)) (t 13)),
   o 4 (.mov (t 14))])
 (.ret))
 (.skip)))
(.seq (.reg [o 15 (.mov (t 1)),
  o 16 (.call 0 (.fn 54) [(t 15)]),
  o 5 (.mov (t 16))])
(.seq (.reg [o 17 (.mov (t 5)),
  o 18 (.mov (t 0)),
  o 19 (.bin .eql (t 17) (t 18)),
  o 20 (.mov (t 19)),
  og 21 20 false (.mov (t 0)),
  og 22 20 false (.bin .eql (t 21) (.cst (.str [102, 108, 111, 97, 116]))),
  og 23 20 false (.mov (t 22)),
  og 24 23 true (.mov (t 5)),
  og 25 23 true (.bin .eql (t 24) (.cst (.str [105, 110, 116]))),
  og 26 20 false (.pick (t 23) (t 25) (.cst (.bool false))),
  o 27 (.pick (t 20) (.cst (.bool true)) (t 26)),
  o 4 (.mov (t 27))])
(.ret)))), [.tmp 4]⟩
theorem ir103_tr : trF Tryz.prog ir103 Tryz.f103 = some ir103 := by kernel_rfl

-- grille/tag.Core
def ir104 : IF := ⟨10, .seq (.reg [o 2 (.mov (.cst (.bool false)))])
(.seq (.seq (.reg [o 3 (.mov (t 0))])
(.block 0 (.seq (.seq (.reg [o 5 (.bin .eql (t 3) (.cst (.str [115, 101, 113]))),
   o 4 (.mov (t 5))])
 (.cond (t 4)
  (.skip)
  (.seq (.reg [o 6 (.bin .eql (t 3) (.cst (.str [109, 97, 112]))),
    o 4 (.mov (t 6))])
  (.cond (t 4)
   (.skip)
   (.reg [o 7 (.bin .eql (t 3) (.cst (.str [115, 116, 114]))),
     o 4 (.mov (t 7))])))))
 (.gh [.kill [5, 6, 7]] (.cond (t 4)
  (.seq (.reg [o 2 (.mov (.cst (.bool true)))])
  (.ret))
  (.skip))))))
(.seq (.reg [o 8 (.mov (t 0)),
  o 9 (.call 0 (.fn 137) [(t 8)]),
  o 2 (.mov (t 9))])
(.ret))), [.tmp 2]⟩
theorem ir104_tr : trF Tryz.prog ir104 Tryz.f104 = some ir104 := by kernel_rfl

-- (grille/arena.Graph).right$2
def ir105 : IF := ⟨10, .seq (.reg [o 3 (.mov (.cst (.bool false)))])
(.seq (.reg [o 4 (.load none (t 1)),
  o 5 (.mov (t 0)),
  o 6 (.idxAddr 4 (t 4) (t 5)),
  o 7 (.fieldAddr 0 (t 6)),
  o 8 (.load none (t 7)),
  o 9 (.bin .neq (t 8) (.cst (.int .i64 0))),
  o 3 (.mov (t 9))])
(.ret)), [.tmp 3]⟩
theorem ir105_tr : trF Tryz.prog ir105 Tryz.f105 = some ir105 := by kernel_rfl

-- (grille/arena.Node).keys
def ir106 : IF := ⟨20, .seq (.reg [o 1 (.box (t 0)),
  o 2 (.mov (.cst .nils))])
(.seq (.seq (.reg [o 3 (.mov (.cst (.int .i64 0)))])
(.block 0 (.loop [4, 5, 6, 7, 8, 11, 12, 13, 14, 15, 16, 17, 18, 9, 10] (.seq (.seq (.reg [o 4 (.mov (t 3)),
    o 5 (.fieldAddr 3 (t 1)),
    o 6 (.load none (t 5)),
    o 7 (.len .row (t 6)),
    o 8 (.bin .lss (t 4) (t 7))])
  (.cond (t 8)
   (.skip)
   (.exit 0)))
  (.seq (.block 1 (.reg [o 11 (.mov (t 2)),
     o 12 (.fieldAddr 3 (t 1)),
     o 13 (.load none (t 12)),
     o 14 (.mov (t 3)),
     o 15 (.idxAddr 1 (t 13) (t 14)),
     o 16 (.load none (t 15)),
     o 17 (.lit .ro 1 [(t 16)]),
     o 18 (.append .tok 1 8 (t 11) (t 17)),
     o 2 (.mov (t 18))]))
  (.reg [o 9 (.mov (t 3)),
    o 10 (.bin .add (t 9) (.cst (.int .i64 2))),
    o 3 (.mov (t 10))]))))))
(.seq (.reg [o 19 (.mov (t 2)),
  o 2 (.mov (t 19))])
(.ret))), [.tmp 2]⟩
theorem ir106_tr : trF Tryz.prog ir106 Tryz.f106 = some ir106 := by kernel_rfl

-- slices.IndexFunc[grille/arena.Graph,grille/arena.Node]
def ir107 : IF := ⟨19, .seq (.reg [o 4 (.mov (.cst (.int .i64 0)))])
(.seq (.seq (.reg [o 6 (.mov (t 0)),
  o 7 (.len .row (t 6)),
  o 8 (.mov (.cst (.int .i64 0)))])
(.block 0 (.loop [9, 10, 5, 11, 12, 13, 14, 15, 16, 17, 4, 18] (.seq (.reg [o 9 (.bin .lss (t 8) (t 7))])
  (.seq (.cond (t 9)
   (.skip)
   (.exit 0))
  (.seq (.block 1 (.seq (.reg [o 10 (.mov (t 8)),
     o 5 (.mov (t 10))])
   (.seq (.reg [o 11 (.mov (t 1)),
     o 12 (.mov (t 0)),
     o 13 (.mov (t 5)),
     o 14 (.idxAddr 4 (t 12) (t 13)),
     o 15 (.load (some 4) (t 14)),
     o 16 (.call 0 (t 11) [(t 15)])])
   (.cond (t 16)
    (.seq (.reg [o 17 (.mov (t 5)),
      o 4 (.mov (t 17))])
    (.ret))
    (.skip)))))
  (.reg [o 18 (.bin .add (t 8) (.cst (.int .i64 1))),
    o 8 (.mov (t 18))])))))))
(.seq (.reg [o 4 (.mov (.cst (.int .i64 (-1))))])
(.ret))), [.tmp 4]⟩
theorem ir107_tr : trF Tryz.prog ir107 Tryz.f107 = some ir107 := by kernel_rfl

-- (*grille/flatten.teller).inside
def ir113 : IF := ⟨32, .seq (.reg [o 4 (.mov (t 0)),
  o 5 (.nilck (t 4)),
  o 6 (.fieldAddr 4 (t 5)),
  o 7 (.load none (t 6)),
  o 8 (.bin .add (t 7) (.cst (.int .i64 1))),
  o 9 (.nilck (t 4)),
  o 10 (.fieldAddr 4 (t 9)),
  e (.store 1 (t 10) (t 8))])
(.seq (.dreg [o 11 (.mov (t 0)),
  o 12 (.mov (t 0)),
  o 13 (.nilck (t 12)),
  o 14 (.fieldAddr 5 (t 13)),
  o 15 (.load none (t 14)),
  o 16 (.mov (t 0)),
  o 17 (.nilck (t 16)),
  o 18 (.fieldAddr 4 (t 17)),
  o 19 (.load none (t 18)),
  o 20 (.minmax true (t 15) [(t 19)]),
  o 21 (.nilck (t 11)),
  o 22 (.fieldAddr 5 (t 21)),
  e (.store 1 (t 22) (t 20))] [[], [], [1], [1, 2], [1, 2, 3], [], [5], [5, 6], [5, 6, 7], [1, 2, 3, 4, 5, 6, 7, 8], [0, 1, 2, 3, 4, 5, 6, 7, 8, 9], [0, 1, 2, 3, 4, 5, 6, 7, 8, 9, 10], [0, 1, 2, 3, 4, 5, 6, 7, 8, 9, 10, 11]])
(.seq (.reg [o 23 (.mov (t 1)),
  o 24 (.call 0 (t 23) [])])
(.reg [o 25 (.mov (t 0)),
  o 26 (.nilck (t 25)),
  o 27 (.fieldAddr 4 (t 26)),
  o 28 (.load none (t 27)),
  o 29 (.bin .sub (t 28) (.cst (.int .i64 1))),
  o 30 (.nilck (t 25)),
  o 31 (.fieldAddr 4 (t 30)),
  e (.store 1 (t 31) (t 29))]))), []⟩
theorem ir113_tr : trF Tryz.prog ir113 Tryz.f113 = some ir113 := by kernel_rfl

-- (*grille/flatten.teller).node$1
def ir114 : IF := ⟨15, .seq (.reg [o 4 (.fieldAddr 3 (t 0)),
  o 5 (.load none (t 4)),
  o 6 (.len .row (t 5)),
  o 7 (.mov (.cst (.int .i64 0)))])
(.block 0 (.loop [8, 9, 10, 3, 11, 12, 13, 14] (.seq (.reg [o 8 (.bin .lss (t 7) (t 6))])
  (.seq (.cond (t 8)
   (.skip)
   (.exit 0))
  (.seq (.block 1 (.seq (.reg [o 9 (.idxAddr 1 (t 5) (t 7)),
     o 10 (.load none (t 9)),
     o 3 (.mov (t 10))])
   (.reg [o 11 (.load none (t 1)),
     o 12 (.mov (t 3)),
     o 13 (.call 0 (.fn 69) [(t 11), (t 12)])])))
  (.reg [o 14 (.bin .add (t 7) (.cst (.int .i64 1))),
    o 7 (.mov (t 14))])))))), []⟩
theorem ir114_tr : trF Tryz.prog ir114 Tryz.f114 = some ir114 := by kernel_rfl

-- grille/compose.Tag
def ir115 : IF := ⟨45, .seq (.reg [o 1 (.box (t 0)),
  o 2 (.mov (.cst (.str []))),
  o 3 (.mov (.cst (.int .i64 0)))])
(.seq (.seq (.reg [o 4 (.fieldAddr 0 (t 1)),
  o 5 (.load none (t 4))])
(.block 0 (.seq (.reg [o 7 (.bin .eql (t 5) (.cst (.int .i64 2))),
   o 6 (.mov (t 7))])
 (.cond (t 6)
  (.seq (.reg [o 8 (.fieldAddr 2 (t 1)),
    o 9 (.load none (t 8)),
    o 10 (.call 0 (.fn 140) [(t 9), (.cst (.str [115, 101, 113]))]),
    o 11 (.extract 0 (t 10)),
    o 12 (.extract 1 (t 10)),
    o 2 (.mov (t 11)),
    o 3 (.mov (t 12))])
  (.ret))
  (.seq (.reg [o 14 (.bin .eql (t 5) (.cst (.int .i64 4))),
    o 13 (.mov (t 14))])
  (.cond (t 13)
   (.seq (.reg [o 15 (.fieldAddr 2 (t 1)),
     o 16 (.load none (t 15)),
     o 17 (.call 0 (.fn 140) [(t 16), (.cst (.str [109, 97, 112]))]),
     o 18 (.extract 0 (t 17)),
     o 19 (.extract 1 (t 17)),
     o 2 (.mov (t 18)),
     o 3 (.mov (t 19))])
   (.ret))
   (.seq (.reg [o 21 (.bin .eql (t 5) (.cst (.int .i64 6))),
     o 20 (.mov (t 21))])
   (.cond (t 20)
    (.seq (.block 1 (.seq (.reg [o 23 (.fieldAddr 2 (t 1)),
       o 24 (.load none (t 23)),
       o 25 (.bin .eql (t 24) (.cst (.str []))),
       o 26 (.mov (t 25)),
       og 27 26 true (.fieldAddr 4 (t 1)),
       og 28 26 true (.load none (t 27)),
       o 29 (.pick (t 26) (t 28) (.cst (.bool false))),
       o 22 (.mov (t 29))])
     (.gh [.kill [23, 24, 25, 26, 27, 28, 29]] (.cond (t 22)
      (.seq (.reg [o 30 (.fieldAddr 3 (t 1)),
        o 31 (.load none (t 30)),
        o 32 (.call 0 (.fn 54) [(t 31)]),
        o 2 (.mov (t 32)),
        o 3 (.mov (.cst (.int .i64 0)))])
      (.ret))
      (.seq (.reg [o 34 (.fieldAddr 2 (t 1)),
        o 35 (.load none (t 34)),
        o 36 (.bin .eql (t 35) (.cst (.str []))),
        o 33 (.mov (t 36))])
      (.cond (t 33)
       (.seq (.reg [o 2 (.mov (.cst (.str [115, 116, 114]))),
         o 3 (.mov (.cst (.int .i64 0)))])
       (.ret))
       (.seq (.reg [o 38 (.fieldAddr 2 (t 1)),
         o 39 (.load none (t 38)),
         o 40 (.fieldAddr 3 (t 1)),
         o 41 (.load none (t 40)),
         o 42 (.call 0 (.fn 103) [(t 39), (t 41)]),
         o 37 (.mov (t 42))])
       (.cond (t 37)
        (.seq (.reg [o 43 (.fieldAddr 2 (t 1)),
          o 44 (.load none (t 43)),
          o 2 (.mov (t 44)),
          o 3 (.mov (.cst (.int .i64 0)))])
        (.ret))
        (.skip)))))))))
    (.seq (.reg [o 2 (.mov (.cst (.str []))),
      o 3 (.mov (.cst (.int .i64 14)))])
    (.ret)))
    (.skip)))))))))
(.seq (.reg [o 2 (.mov (.cst (.str []))),
  o 3 (.mov (.cst (.int .i64 5)))])
(.ret))), [.tmp 2, .tmp 3]⟩
theorem ir115_tr : trF Tryz.prog ir115 Tryz.f115 = some ir115 := by kernel_rfl

-- grille/lex.Name$1
def ir117 : IF := ⟨33, .seq (.reg [o 2 (.mov (.cst (.bool false)))])
(.seq (.reg [o 3 (.mov (t 0)),
  o 4 (.bin .lss (t 3) (.cst (.int .i32 97))),
  o 5 (.mov (t 4)),
  og 6 5 false (.mov (t 0)),
  og 7 5 false (.bin .gtr (t 6) (.cst (.int .i32 122))),
  o 8 (.pick (t 5) (.cst (.bool true)) (t 7)),
  o 9 (.mov (t 8)),
  og 10 9 true (.mov (t 0)),
  og 11 9 true (.bin .lss (t 10) (.cst (.int .i32 65))),
  og 12 9 true (.mov (t 11)),
  og 13 12 false (.mov (t 0)),
  og 14 12 false (.bin .gtr (t 13) (.cst (.int .i32 90))),
  og 15 9 true (.pick (t 12) (.cst (.bool true)) (t 14)),
  o 16 (.pick (t 9) (t 15) (.cst (.bool false))),
  o 17 (.mov (t 16)),
  og 18 17 true (.mov (t 0)),
  og 19 17 true (.bin .lss (t 18) (.cst (.int .i32 48))),
  og 20 17 true (.mov (t 19)),
  og 21 20 false (.mov (t 0)),
  og 22 20 false (.bin .gtr (t 21) (.cst (.int .i32 57))),
  og 23 17 true (.pick (t 20) (.cst (.bool true)) (t 22)),
  o 24 (.pick (t 17) (t 23) (.cst (.bool false))),
  o 25 (.mov (t 24)),
  og 26 25 true (.mov (t 0)),
  og 27 25 true (.bin .neq (t 26) (.cst (.int .i32 45))),
  o 28 (.pick (t 25) (t 27) (.cst (.bool false))),
  o 29 (.mov (t 28)),
  og 30 29 true (.mov (t 0)),
  og 31 29 true (.bin .neq (t 30) (.cst (.int .i32 95))),
  o 32 (.pick (t 29) (t 31) (.cst (.bool false))),
  o 2 (.mov (t 32))])
(.ret)), [.tmp 2]⟩
theorem ir117_tr : trF Tryz.prog ir117 Tryz.f117 = some ir117 := by kernel_rfl

-- grille/tag.own
def ir118 : IF := ⟨27, .seq (.reg [o 2 (.mov (.cst (.bool false)))])
(.seq (.reg [o 7 (.mov (t 0)),
  o 8 (.call 0 (.fn 126) [(t 7), (.cst (.str [33]))]),
  o 6 (.mov (t 8)),
  o 9 (.extract 0 (t 6)),
  o 10 (.extract 1 (t 6)),
  o 3 (.mov (t 9)),
  o 4 (.mov (t 10))])
(.seq (.reg [o 5 (.mov (.fn 141))])
(.seq (.reg [o 11 (.mov (t 4)),
  o 12 (.mov (t 11)),
  og 13 12 true (.mov (t 3)),
  og 14 12 true (.bin .neq (t 13) (.cst (.str []))),
  o 15 (.pick (t 12) (t 14) (.cst (.bool false))),
  o 16 (.mov (t 15)),
  og 17 16 true (.mov (t 3)),
  og 18 16 true (.len .str (t 17)),
  og 19 16 true (.bin .leq (t 18) (.cst (.int .i64 40))),
  o 20 (.pick (t 16) (t 19) (.cst (.bool false))),
  o 21 (.mov (t 20)),
  og 22 21 true (.mov (t 3)),
  og 23 21 true (.mov (t 5)),
  og 24 21 true (.call 0 (.fn 88) [(t 22), (t 23)]),
  og 25 21 true (.not (t 24)),
  o 26 (.pick (t 21) (t 25) (.cst (.bool false))),
  o 2 (.mov (t 26))])
(.ret)))), [.tmp 2]⟩
theorem ir118_tr : trF Tryz.prog ir118 Tryz.f118 = some ir118 := by kernel_rfl

-- unicode/utf8.ValidRune
def ir121 : IF := ⟨17, .seq (.reg [o 2 (.mov (.cst (.bool false)))])
(.seq (.block 0 (.seq (.reg [o 4 (.mov (t 0)),
   o 5 (.bin .leq (.cst (.int .i32 0)) (t 4)),
   o 6 (.mov (t 5)),
   og 7 6 true (.mov (t 0)),
   og 8 6 true (.bin .lss (t 7) (.cst (.int .i32 55296))),
   o 9 (.pick (t 6) (t 8) (.cst (.bool false))),
   o 3 (.mov (t 9))])
 (.gh [.kill [4, 5, 6, 7, 8, 9]] (.cond (t 3)
  (.seq (.reg [o 2 (.mov (.cst (.bool true)))])
  (.ret))
  (.seq (.reg [o 11 (.mov (t 0)),
    o 12 (.bin .lss (.cst (.int .i32 57343)) (t 11)),
    o 13 (.mov (t 12)),
    og 14 13 true (.mov (t 0)),
    og 15 13 true (.bin .leq (t 14) (.cst (.int .i32 1114111))),
    o 16 (.pick (t 13) (t 15) (.cst (.bool false))),
    o 10 (.mov (t 16))])
  (.gh [.kill [11, 12, 13, 14, 15, 16]] (.cond (t 10)
   (.seq (.reg [o 2 (.mov (.cst (.bool true)))])
   (.ret))
   (.skip))))))))
(.seq (.reg [o 2 (.mov (.cst (.bool false)))])
(.ret))), [.tmp 2]⟩
theorem ir121_tr : trF Tryz.prog ir121 Tryz.f121 = some ir121 := by kernel_rfl

-- strings.IndexFunc
def ir123 : IF := ⟨8, .seq (.reg [o 4 (.mov (.cst (.int .i64 0)))])
(.seq (.reg [o 5 (.mov (t 0)),
  o 6 (.mov (t 1)),
  o 7 (.call 0 (.fn 149) [(t 5), (t 6), (.cst (.bool true))]),
  o 4 (.mov (t 7))])
(.ret)), [.tmp 4]⟩
theorem ir123_tr : trF Tryz.prog ir123 Tryz.f123 = some ir123 := by kernel_rfl

-- internal/stringslite.HasSuffix
def ir124 : IF := ⟨21, .seq (.reg [o 4 (.mov (.cst (.bool false)))])
(.seq (.reg [o 5 (.mov (t 0)),
  o 6 (.len .str (t 5)),
  o 7 (.mov (t 1)),
  o 8 (.len .str (t 7)),
  o 9 (.bin .geq (t 6) (t 8)),
  o 10 (.mov (t 9)),
  og 11 10 true (.mov (t 0)),
  og 12 10 true (.mov (t 0)),
  og 13 10 true (.len .str (t 12)),
  og 14 10 true (.mov (t 1)),
  og 15 10 true (.len .str (t 14)),
  og 16 10 true (.bin .sub (t 13) (t 15)),
  og 17 10 true (.slcS (t 11) (some (t 16)) none),
  og 18 10 true (.mov (t 1)),
  og 19 10 true (.bin .eql (t 17) (t 18)),
  o 20 (.pick (t 10) (t 19) (.cst (.bool false))),
  o 4 (.mov (t 20))])
(.ret)), [.tmp 4]⟩
theorem ir124_tr : trF Tryz.prog ir124 Tryz.f124 = some ir124 := by kernel_rfl

-- strings.CutPrefix
def ir126 : IF := ⟨11, .seq (.reg [o 4 (.mov (.cst (.str []))),
  o 5 (.mov (.cst (.bool false)))])
(.seq (.reg [o 6 (.mov (t 0)),
  o 7 (.mov (t 1)),
  o 8 (.call 0 (.fn 151) [(t 6), (t 7)]),
  o 9 (.extract 0 (t 8)),
  o 10 (.extract 1 (t 8)),
  o 4 (.mov (t 9)),
  o 5 (.mov (t 10))])
(.ret)), [.tmp 4, .tmp 5]⟩
theorem ir126_tr : trF Tryz.prog ir126 Tryz.f126 = some ir126 := by kernel_rfl

-- grille/tag.all
def ir127 : IF := ⟨19, .seq (.reg [o 4 (.mov (.cst (.bool false)))])
(.seq (.reg [o 8 (.mov (t 0)),
  o 9 (.mov (t 1)),
  o 10 (.call 0 (.fn 128) [(t 8), (t 9)]),
  o 7 (.mov (t 10)),
  o 11 (.extract 0 (t 7)),
  o 12 (.extract 1 (t 7)),
  o 5 (.mov (t 11)),
  o 6 (.mov (t 12))])
(.seq (.reg [o 13 (.mov (t 5)),
  o 14 (.bin .eql (t 13) (.cst (.str []))),
  o 15 (.mov (t 14)),
  og 16 15 true (.mov (t 6)),
  og 17 15 true (.bin .gtr (t 16) (.cst (.int .i64 0))),
  o 18 (.pick (t 15) (t 17) (.cst (.bool false))),
  o 4 (.mov (t 18))])
(.ret))), [.tmp 4]⟩
theorem ir127_tr : trF Tryz.prog ir127 Tryz.f127 = some ir127 := by kernel_rfl

-- grille/tag.digits
def ir128 : IF := ⟨24, .seq (.reg [o 4 (.mov (.cst (.str []))),
  o 5 (.mov (.cst (.int .i64 0)))])
(.seq (.block 0 (.loop [17, 6, 7, 8, 9, 10, 11, 12, 13, 14, 15, 16, 18, 19] (.seq (.seq (.reg [o 6 (.mov (t 5)),
    o 7 (.mov (t 0)),
    o 8 (.len .str (t 7)),
    o 9 (.bin .lss (t 6) (t 8)),
    o 10 (.mov (t 9)),
    og 11 10 true (.mov (t 0)),
    og 12 10 true (.mov (t 5)),
    og 13 10 true (.idxStr (t 11) (t 12)),
    og 14 10 true (.call 0 (.fn 152) [(t 13)]),
    og 15 10 true (.mov (t 1)),
    og 16 10 true (.bin .lss (t 14) (t 15)),
    o 17 (.pick (t 10) (t 16) (.cst (.bool false)))])
  (.gh [.kill [6, 7, 8, 9, 10, 11, 12, 13, 14, 15, 16]] (.cond (t 17)
   (.skip)
   (.exit 0))))
  (.block 1 (.reg [o 18 (.mov (t 5)),
     o 19 (.bin .add (t 18) (.cst (.int .i64 1))),
     o 5 (.mov (t 19))])))))
(.seq (.reg [o 20 (.mov (t 0)),
  o 21 (.mov (t 5)),
  o 22 (.slcS (t 20) (some (t 21)) none),
  o 23 (.mov (t 5)),
  o 4 (.mov (t 22)),
  o 5 (.mov (t 23))])
(.ret))), [.tmp 4, .tmp 5]⟩
theorem ir128_tr : trF Tryz.prog ir128 Tryz.f128 = some ir128 := by kernel_rfl

-- slices.IndexFunc[[]int,int]
def ir136 : IF := ⟨19, .seq (.reg [o 4 (.mov (.cst (.int .i64 0)))])
(.seq (.seq (.reg [o 6 (.mov (t 0)),
  o 7 (.len .row (t 6)),
  o 8 (.mov (.cst (.int .i64 0)))])
(.block 0 (.loop [9, 10, 5, 11, 12, 13, 14, 15, 16, 17, 4, 18] (.seq (.reg [o 9 (.bin .lss (t 8) (t 7))])
  (.seq (.cond (t 9)
   (.skip)
   (.exit 0))
  (.seq (.block 1 (.seq (.reg [o 10 (.mov (t 8)),
     o 5 (.mov (t 10))])
   (.seq (.reg [o 11 (.mov (t 1)),
     o 12 (.mov (t 0)),
     o 13 (.mov (t 5)),
     o 14 (.idxAddr 1 (t 12) (t 13)),
     o 15 (.load none (t 14)),
     o 16 (.call 0 (t 11) [(t 15)])])
   (.cond (t 16)
    (.seq (.reg [o 17 (.mov (t 5)),
      o 4 (.mov (t 17))])
    (.ret))
    (.skip)))))
  (.reg [o 18 (.bin .add (t 8) (.cst (.int .i64 1))),
    o 8 (.mov (t 18))])))))))
(.seq (.reg [o 4 (.mov (.cst (.int .i64 (-1))))])
(.ret))), [.tmp 4]⟩
theorem ir136_tr : trF Tryz.prog ir136 Tryz.f136 = some ir136 := by kernel_rfl

-- grille/tag.plain
def ir137 : IF := ⟨17, .seq (.reg [o 2 (.mov (.cst (.bool false)))])
(.seq (.reg [o 3 (.mov (t 0)),
  o 4 (.bin .eql (t 3) (.cst (.str [110, 117, 108, 108]))),
  o 5 (.mov (t 4)),
  og 6 5 false (.mov (t 0)),
  og 7 5 false (.bin .eql (t 6) (.cst (.str [98, 111, 111, 108]))),
  o 8 (.pick (t 5) (.cst (.bool true)) (t 7)),
  o 9 (.mov (t 8)),
  og 10 9 false (.mov (t 0)),
  og 11 9 false (.bin .eql (t 10) (.cst (.str [105, 110, 116]))),
  o 12 (.pick (t 9) (.cst (.bool true)) (t 11)),
  o 13 (.mov (t 12)),
  og 14 13 false (.mov (t 0)),
  og 15 13 false (.bin .eql (t 14) (.cst (.str [102, 108, 111, 97, 116]))),
  o 16 (.pick (t 13) (.cst (.bool true)) (t 15)),
  o 2 (.mov (t 16))])
(.ret)), [.tmp 2]⟩
theorem ir137_tr : trF Tryz.prog ir137 Tryz.f137 = some ir137 := by kernel_rfl

-- grille/compose.named
def ir140 : IF := ⟨24, .seq (.reg [o 4 (.mov (.cst (.str []))),
  o 5 (.mov (.cst (.int .i64 0)))])
(.seq (.block 0 (.seq (.reg [o 7 (.mov (t 0)),
   o 8 (.bin .eql (t 7) (.cst (.str []))),
   o 9 (.mov (t 8)),
   og 10 9 false (.mov (t 0)),
   og 11 9 false (.mov (t 1)),
   og 12 9 false (.bin .eql (t 10) (t 11)),
   o 13 (.pick (t 9) (.cst (.bool true)) (t 12)),
   o 6 (.mov (t 13))])
 (.gh [.kill [7, 8, 9, 10, 11, 12, 13]] (.cond (t 6)
  (.seq (.reg [o 14 (.mov (t 1)),
    o 4 (.mov (t 14)),
    o 5 (.mov (.cst (.int .i64 0)))])
  (.ret))
  (.seq (.reg [o 16 (.mov (t 0)),
    o 17 (.call 0 (.fn 75) [(t 16)]),
    o 18 (.mov (t 17)),
    og 19 18 true (.mov (t 0)),
    og 20 18 true (.call 0 (.fn 104) [(t 19)]),
    og 21 18 true (.not (t 20)),
    o 22 (.pick (t 18) (t 21) (.cst (.bool false))),
    o 15 (.mov (t 22))])
  (.gh [.kill [16, 17, 18, 19, 20, 21, 22]] (.cond (t 15)
   (.seq (.reg [o 23 (.mov (t 0)),
     o 4 (.mov (t 23)),
     o 5 (.mov (.cst (.int .i64 0)))])
   (.ret))
   (.skip))))))))
(.seq (.reg [o 4 (.mov (.cst (.str []))),
  o 5 (.mov (.cst (.int .i64 14)))])
(.ret))), [.tmp 4, .tmp 5]⟩
theorem ir140_tr : trF Tryz.prog ir140 Tryz.f140 = some ir140 := by kernel_rfl

-- grille/tag.own$1
def ir141 : IF := ⟨6, .seq (.reg [o 2 (.mov (.cst (.bool false)))])
(.seq (.reg [o 3 (.mov (t 0)),
  o 4 (.call 0 (.fn 142) [(t 3)]),
  o 5 (.not (t 4)),
  o 2 (.mov (t 5))])
(.ret)), [.tmp 2]⟩
theorem ir141_tr : trF Tryz.prog ir141 Tryz.f141 = some ir141 := by kernel_rfl

-- grille/tag.named
def ir142 : IF := ⟨29, .seq (.reg [o 2 (.mov (.cst (.bool false)))])
(.seq (.reg [o 3 (.mov (t 0)),
  o 4 (.bin .geq (t 3) (.cst (.int .i32 97))),
  o 5 (.mov (t 4)),
  og 6 5 true (.mov (t 0)),
  og 7 5 true (.bin .leq (t 6) (.cst (.int .i32 122))),
  o 8 (.pick (t 5) (t 7) (.cst (.bool false))),
  o 9 (.mov (t 8)),
  og 10 9 false (.mov (t 0)),
  og 11 9 false (.bin .geq (t 10) (.cst (.int .i32 65))),
  og 12 9 false (.mov (t 11)),
  og 13 12 true (.mov (t 0)),
  og 14 12 true (.bin .leq (t 13) (.cst (.int .i32 90))),
  og 15 9 false (.pick (t 12) (t 14) (.cst (.bool false))),
  o 16 (.pick (t 9) (.cst (.bool true)) (t 15)),
  o 17 (.mov (t 16)),
  og 18 17 false (.mov (t 0)),
  og 19 17 false (.bin .geq (t 18) (.cst (.int .i32 48))),
  og 20 17 false (.mov (t 19)),
  og 21 20 true (.mov (t 0)),
  og 22 20 true (.bin .leq (t 21) (.cst (.int .i32 57))),
  og 23 17 false (.pick (t 20) (t 22) (.cst (.bool false))),
  o 24 (.pick (t 17) (.cst (.bool true)) (t 23)),
  o 25 (.mov (t 24)),
  og 26 25 false (.mov (t 0)),
  og 27 25 false (.bin .eql (t 26) (.cst (.int .i32 45))),
  o 28 (.pick (t 25) (.cst (.bool true)) (t 27)),
  o 2 (.mov (t 28))])
(.ret)), [.tmp 2]⟩
theorem ir142_tr : trF Tryz.prog ir142 Tryz.f142 = some ir142 := by kernel_rfl

-- strings.indexFunc
def ir149 : IF := ⟨21, .seq (.reg [o 6 (.mov (.cst (.int .i64 0)))])
(.seq (.seq (.reg [o 9 (.mov (t 0)),
  o 10 (.rangeS (t 9))])
(.block 0 (.loop [11, 12, 13, 14, 7, 8, 15, 16, 17, 18, 19, 20, 6] (.seq (.reg [o 11 (.nextS (t 10)),
    o 12 (.extract 0 (t 11))])
  (.seq (.cond (t 12)
   (.skip)
   (.exit 0))
  (.block 1 (.seq (.reg [o 13 (.extract 1 (t 11)),
     o 14 (.extract 2 (t 11)),
     o 7 (.mov (t 13)),
     o 8 (.mov (t 14))])
   (.seq (.reg [o 15 (.mov (t 1)),
     o 16 (.mov (t 8)),
     o 17 (.call 0 (t 15) [(t 16)]),
     o 18 (.mov (t 2)),
     o 19 (.eqv .bool false (t 17) (t 18))])
   (.cond (t 19)
    (.seq (.reg [o 20 (.mov (t 7)),
      o 6 (.mov (t 20))])
    (.ret))
    (.skip))))))))))
(.seq (.reg [o 6 (.mov (.cst (.int .i64 (-1))))])
(.ret))), [.tmp 6]⟩
theorem ir149_tr : trF Tryz.prog ir149 Tryz.f149 = some ir149 := by kernel_rfl

-- internal/stringslite.CutPrefix
def ir151 : IF := ⟨15, .seq (.reg [o 4 (.mov (.cst (.str []))),
  o 5 (.mov (.cst (.bool false)))])
(.seq (.seq (.reg [o 6 (.mov (t 0)),
  o 7 (.mov (t 1)),
  o 8 (.call 0 (.fn 167) [(t 6), (t 7)]),
  o 9 (.not (t 8))])
(.cond (t 9)
 (.seq (.reg [o 10 (.mov (t 0)),
   o 4 (.mov (t 10)),
   o 5 (.mov (.cst (.bool false)))])
 (.ret))
 (.skip)))
(.seq (.reg [o 11 (.mov (t 0)),
  o 12 (.mov (t 1)),
  o 13 (.len .str (t 12)),
  o 14 (.slcS (t 11) (some (t 13)) none),
  o 4 (.mov (t 14)),
  o 5 (.mov (.cst (.bool true)))])
(.ret))), [.tmp 4, .tmp 5]⟩
theorem ir151_tr : trF Tryz.prog ir151 Tryz.f151 = some ir151 := by kernel_rfl

-- grille/tag.value
def ir152 : IF := ⟨34, .seq (.reg [o 2 (.mov (.cst (.int .i64 0)))])
(.seq (.reg [o 4 (.mov (t 0)),
  o 5 (.cvInt .i64 (t 4)),
  o 3 (.mov (t 5))])
(.seq (.block 0 (.seq (.block 3 (.seq (.block 2 (.seq (.block 1 (.seq (.seq (.seq (.reg [o 7 (.mov (t 0)),
      o 8 (.bin .geq (t 7) (.cst (.int .u8 97))),
      o 9 (.mov (t 8)),
      og 10 9 true (.mov (t 0)),
      og 11 9 true (.bin .leq (t 10) (.cst (.int .u8 102))),
      o 12 (.pick (t 9) (t 11) (.cst (.bool false))),
      o 6 (.mov (t 12))])
    (.gh [.kill [7, 8, 9, 10, 11, 12]] (.cond (t 6)
     (.exit 1)
     (.skip))))
    (.seq (.seq (.reg [o 14 (.mov (t 0)),
      o 15 (.bin .geq (t 14) (.cst (.int .u8 65))),
      o 16 (.mov (t 15)),
      og 17 16 true (.mov (t 0)),
      og 18 16 true (.bin .leq (t 17) (.cst (.int .u8 70))),
      o 19 (.pick (t 16) (t 18) (.cst (.bool false))),
      o 13 (.mov (t 19))])
    (.gh [.kill [14, 15, 16, 17, 18, 19]] (.cond (t 13)
     (.exit 2)
     (.skip))))
    (.seq (.reg [o 21 (.mov (t 0)),
      o 22 (.bin .geq (t 21) (.cst (.int .u8 48))),
      o 23 (.mov (t 22)),
      og 24 23 true (.mov (t 0)),
      og 25 23 true (.bin .leq (t 24) (.cst (.int .u8 57))),
      o 26 (.pick (t 23) (t 25) (.cst (.bool false))),
      o 20 (.mov (t 26))])
    (.gh [.kill [21, 22, 23, 24, 25, 26]] (.cond (t 20)
     (.exit 3)
     (.skip))))))
    (.exit 0)))
   (.reg [o 27 (.mov (t 3)),
     o 28 (.bin .sub (t 27) (.cst (.int .i64 32))),
     o 3 (.mov (t 28))])))
  (.gh [.kill [6, 7, 8, 9, 10, 11, 12, 13, 14, 15, 16, 17, 18, 19, 20, 21, 22, 23, 24, 25, 26, 27, 28]] (.seq (.seq (.reg [o 29 (.mov (t 3)),
    o 30 (.bin .sub (t 29) (.cst (.int .i64 65))),
    o 31 (.bin .add (t 30) (.cst (.int .i64 10))),
    o 2 (.mov (t 31))])
  (.ret))
  (.exit 0)))))
 (.seq (.seq (.reg [o 32 (.mov (t 3)),
   o 33 (.bin .sub (t 32) (.cst (.int .i64 48))),
   o 2 (.mov (t 33))])
 (.ret))
 (.exit 0))))
(.seq (.reg [o 2 (.mov (.cst (.int .i64 16)))])
(.ret)))), [.tmp 2]⟩
theorem ir152_tr : trF Tryz.prog ir152 Tryz.f152 = some ir152 := by kernel_rfl

-- internal/stringslite.HasPrefix
def ir167 : IF := ⟨18, .seq (.reg [o 4 (.mov (.cst (.bool false)))])
(.seq (.reg [o 5 (.mov (t 0)),
  o 6 (.len .str (t 5)),
  o 7 (.mov (t 1)),
  o 8 (.len .str (t 7)),
  o 9 (.bin .geq (t 6) (t 8)),
  o 10 (.mov (t 9)),
  og 11 10 true (.mov (t 0)),
  og 12 10 true (.mov (t 1)),
  og 13 10 true (.len .str (t 12)),
  og 14 10 true (.slcS (t 11) none (some (t 13))),
  og 15 10 true (.mov (t 1)),
  og 16 10 true (.bin .eql (t 14) (t 15)),
  o 17 (.pick (t 10) (t 16) (.cst (.bool false))),
  o 4 (.mov (t 17))])
(.ret)), [.tmp 4]⟩
theorem ir167_tr : trF Tryz.prog ir167 Tryz.f167 = some ir167 := by kernel_rfl

def irs : List (Nat × IF) := [(4, ir4), (7, ir7), (8, ir8), (13, ir13), (14, ir14), (15, ir15), (16, ir16), (17, ir17), (18, ir18), (19, ir19), (21, ir21), (23, ir23), (32, ir32), (33, ir33), (34, ir34), (37, ir37), (43, ir43), (44, ir44), (45, ir45), (46, ir46), (47, ir47), (48, ir48), (100048, ir48v1), (52, ir52), (53, ir53), (54, ir54), (59, ir59), (60, ir60), (61, ir61), (62, ir62), (63, ir63), (67, ir67), (69, ir69), (70, ir70), (71, ir71), (73, ir73), (74, ir74), (75, ir75), (76, ir76), (77, ir77), (78, ir78), (79, ir79), (80, ir80), (81, ir81), (84, ir84), (85, ir85), (87, ir87), (88, ir88), (89, ir89), (91, ir91), (92, ir92), (93, ir93), (100, ir100), (101, ir101), (102, ir102), (103, ir103), (104, ir104), (105, ir105), (106, ir106), (107, ir107), (113, ir113), (114, ir114), (115, ir115), (117, ir117), (118, ir118), (121, ir121), (123, ir123), (124, ir124), (126, ir126), (127, ir127), (128, ir128), (136, ir136), (137, ir137), (140, ir140), (141, ir141), (142, ir142), (149, ir149), (151, ir151), (152, ir152), (167, ir167)]

theorem irs_ok (T' : Laid) : ∀ p ∈ irs, EntryOk Tryz.prog T' p.1 (.ir p.2) := by
  intro p hp
  simp only [irs, List.mem_cons, List.mem_nil_iff, or_false] at hp
  rcases hp with rfl | rfl | rfl | rfl | rfl | rfl | rfl | rfl | rfl | rfl | rfl | rfl | rfl | rfl | rfl | rfl | rfl | rfl | rfl | rfl | rfl | rfl | rfl | rfl | rfl | rfl | rfl | rfl | rfl | rfl | rfl | rfl | rfl | rfl | rfl | rfl | rfl | rfl | rfl | rfl | rfl | rfl | rfl | rfl | rfl | rfl | rfl | rfl | rfl | rfl | rfl | rfl | rfl | rfl | rfl | rfl | rfl | rfl | rfl | rfl | rfl | rfl | rfl | rfl | rfl | rfl | rfl | rfl | rfl | rfl | rfl | rfl | rfl | rfl | rfl | rfl | rfl | rfl | rfl | rfl
  · exact ⟨_, Tryz.func4, ir4_tr⟩
  · exact ⟨_, Tryz.func7, ir7_tr⟩
  · exact ⟨_, Tryz.func8, ir8_tr⟩
  · exact ⟨_, Tryz.func13, ir13_tr⟩
  · exact ⟨_, Tryz.func14, ir14_tr⟩
  · exact ⟨_, Tryz.func15, ir15_tr⟩
  · exact ⟨_, Tryz.func16, ir16_tr⟩
  · exact ⟨_, Tryz.func17, ir17_tr⟩
  · exact ⟨_, Tryz.func18, ir18_tr⟩
  · exact ⟨_, Tryz.func19, ir19_tr⟩
  · exact ⟨_, Tryz.func21, ir21_tr⟩
  · exact ⟨_, Tryz.func23, ir23_tr⟩
  · exact ⟨_, Tryz.func32, ir32_tr⟩
  · exact ⟨_, Tryz.func33, ir33_tr⟩
  · exact ⟨_, Tryz.func34, ir34_tr⟩
  · exact ⟨_, Tryz.func37, ir37_tr⟩
  · exact ⟨_, Tryz.func43, ir43_tr⟩
  · exact ⟨_, Tryz.func44, ir44_tr⟩
  · exact ⟨_, Tryz.func45, ir45_tr⟩
  · exact ⟨_, Tryz.func46, ir46_tr⟩
  · exact ⟨_, Tryz.func47, ir47_tr⟩
  · exact ⟨_, Tryz.func48, ir48_tr⟩
  · exact ⟨_, Tryz.func48, ir48v1_tr⟩
  · exact ⟨_, Tryz.func52, ir52_tr⟩
  · exact ⟨_, Tryz.func53, ir53_tr⟩
  · exact ⟨_, Tryz.func54, ir54_tr⟩
  · exact ⟨_, Tryz.func59, ir59_tr⟩
  · exact ⟨_, Tryz.func60, ir60_tr⟩
  · exact ⟨_, Tryz.func61, ir61_tr⟩
  · exact ⟨_, Tryz.func62, ir62_tr⟩
  · exact ⟨_, Tryz.func63, ir63_tr⟩
  · exact ⟨_, Tryz.func67, ir67_tr⟩
  · exact ⟨_, Tryz.func69, ir69_tr⟩
  · exact ⟨_, Tryz.func70, ir70_tr⟩
  · exact ⟨_, Tryz.func71, ir71_tr⟩
  · exact ⟨_, Tryz.func73, ir73_tr⟩
  · exact ⟨_, Tryz.func74, ir74_tr⟩
  · exact ⟨_, Tryz.func75, ir75_tr⟩
  · exact ⟨_, Tryz.func76, ir76_tr⟩
  · exact ⟨_, Tryz.func77, ir77_tr⟩
  · exact ⟨_, Tryz.func78, ir78_tr⟩
  · exact ⟨_, Tryz.func79, ir79_tr⟩
  · exact ⟨_, Tryz.func80, ir80_tr⟩
  · exact ⟨_, Tryz.func81, ir81_tr⟩
  · exact ⟨_, Tryz.func84, ir84_tr⟩
  · exact ⟨_, Tryz.func85, ir85_tr⟩
  · exact ⟨_, Tryz.func87, ir87_tr⟩
  · exact ⟨_, Tryz.func88, ir88_tr⟩
  · exact ⟨_, Tryz.func89, ir89_tr⟩
  · exact ⟨_, Tryz.func91, ir91_tr⟩
  · exact ⟨_, Tryz.func92, ir92_tr⟩
  · exact ⟨_, Tryz.func93, ir93_tr⟩
  · exact ⟨_, Tryz.func100, ir100_tr⟩
  · exact ⟨_, Tryz.func101, ir101_tr⟩
  · exact ⟨_, Tryz.func102, ir102_tr⟩
  · exact ⟨_, Tryz.func103, ir103_tr⟩
  · exact ⟨_, Tryz.func104, ir104_tr⟩
  · exact ⟨_, Tryz.func105, ir105_tr⟩
  · exact ⟨_, Tryz.func106, ir106_tr⟩
  · exact ⟨_, Tryz.func107, ir107_tr⟩
  · exact ⟨_, Tryz.func113, ir113_tr⟩
  · exact ⟨_, Tryz.func114, ir114_tr⟩
  · exact ⟨_, Tryz.func115, ir115_tr⟩
  · exact ⟨_, Tryz.func117, ir117_tr⟩
  · exact ⟨_, Tryz.func118, ir118_tr⟩
  · exact ⟨_, Tryz.func121, ir121_tr⟩
  · exact ⟨_, Tryz.func123, ir123_tr⟩
  · exact ⟨_, Tryz.func124, ir124_tr⟩
  · exact ⟨_, Tryz.func126, ir126_tr⟩
  · exact ⟨_, Tryz.func127, ir127_tr⟩
  · exact ⟨_, Tryz.func128, ir128_tr⟩
  · exact ⟨_, Tryz.func136, ir136_tr⟩
  · exact ⟨_, Tryz.func137, ir137_tr⟩
  · exact ⟨_, Tryz.func140, ir140_tr⟩
  · exact ⟨_, Tryz.func141, ir141_tr⟩
  · exact ⟨_, Tryz.func142, ir142_tr⟩
  · exact ⟨_, Tryz.func149, ir149_tr⟩
  · exact ⟨_, Tryz.func151, ir151_tr⟩
  · exact ⟨_, Tryz.func152, ir152_tr⟩
  · exact ⟨_, Tryz.func167, ir167_tr⟩

def irAt (k : Nat) : Option IF := (irs.find? fun p => p.1 == k).map (·.2)

theorem irAt_ok (T' : Laid) {k : Nat} {f : IF} (h : irAt k = some f) : EntryOk Tryz.prog T' k (.ir f) := by
  simp only [irAt, Option.map_eq_some_iff] at h
  obtain ⟨p, hp, rfl⟩ := h
  have hk := List.find?_some hp
  simp only [beq_iff_eq] at hk
  subst hk
  exact irs_ok T' p (List.mem_of_find?_eq_some hp)

/-- A table that holds the program's functions. -/
def Has (T : Nat → Option Entry) : Prop := ∀ k f, irAt k = some f → T k = some (.ir f)

end Go.SV
