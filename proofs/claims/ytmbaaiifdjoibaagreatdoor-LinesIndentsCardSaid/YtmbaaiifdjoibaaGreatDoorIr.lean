/- The program's functions, translated for the abstract machine; each is checked by the kernel against the program. Printed by a program of the prover's own. -/
import Derived.Test.YtmbaaiifdjoibaaGreatDoorProg
import Derived.Test.YtmbaaiifdjoibaaGreatDoorLd
import Derived.KernelRfl
set_option maxRecDepth 100000
namespace Go.SV
open Go.Proofs
abbrev t (n : Nat) : Opd := .tmp n
abbrev o (d : Nat) (x : IOp) : IOper := ⟨some d, x, none⟩
abbrev e (x : IOp) : IOper := ⟨none, x, none⟩
abbrev og (d g : Nat) (b : Bool) (x : IOp) : IOper := ⟨some d, x, some (g, b)⟩
-- grille/grillelaw05.LinesIndents
def ir3 : IF := ⟨50, .seq (.reg [o 4 (.mov (.cst (.bool false)))])
(.seq (.seq (.reg [o 7 (.call 0 (.fn 4) []),
  o 8 (.not (t 7))])
(.cond (t 8)
 (.seq (.reg [o 4 (.mov (.cst (.bool false)))])
 (.ret))
 (.skip)))
(.seq (.seq (.reg [o 9 (.mov (t 0)),
  o 10 (.len .str (t 9)),
  o 11 (.bin .gtr (t 10) (.cst (.int .i64 2000)))])
(.cond (t 11)
 (.seq (.reg [o 4 (.mov (.cst (.bool true)))])
 (.ret))
 (.skip)))
(.seq (.reg [o 12 (.mov (t 0)),
  o 13 (.call 0 (.fn 5) [(t 12)]),
  o 5 (.mov (t 13))])
(.seq (.reg [o 14 (.mov (t 1)),
  o 15 (.cvInt .i64 (t 14)),
  o 16 (.bin .rem (t 15) (.cst (.int .i64 40))),
  o 6 (.mov (t 16))])
(.seq (.reg [o 17 (.mov (t 6)),
  o 18 (.call 0 (.fn 6) [(.cst (.str [32])), (t 17)]),
  o 19 (.mov (t 0)),
  o 20 (.bin .add (t 18) (t 19)),
  o 21 (.call 0 (.fn 5) [(t 20)]),
  o 22 (.mov (t 6)),
  o 23 (.mov (t 5)),
  o 24 (.bin .add (t 22) (t 23)),
  o 25 (.bin .eql (t 21) (t 24)),
  o 26 (.mov (t 25)),
  og 27 26 true (.mov (t 0)),
  og 28 26 true (.bin .add (.cst (.str [120])) (t 27)),
  og 29 26 true (.call 0 (.fn 5) [(t 28)]),
  og 30 26 true (.bin .eql (t 29) (.cst (.int .i64 0))),
  o 31 (.pick (t 26) (t 30) (.cst (.bool false))),
  o 32 (.mov (t 31)),
  og 33 32 true (.mov (t 0)),
  og 34 32 true (.bin .add (.cst (.str [9])) (t 33)),
  og 35 32 true (.call 0 (.fn 5) [(t 34)]),
  og 36 32 true (.bin .eql (t 35) (.cst (.int .i64 0))),
  o 37 (.pick (t 32) (t 36) (.cst (.bool false))),
  o 38 (.mov (t 37)),
  og 39 38 true (.mov (t 5)),
  og 40 38 true (.mov (t 0)),
  og 41 38 true (.len .str (t 40)),
  og 42 38 true (.bin .eql (t 39) (t 41)),
  og 43 38 true (.mov (t 42)),
  og 44 43 false (.mov (t 0)),
  og 45 43 false (.mov (t 5)),
  og 46 43 false (.idxStr (t 44) (t 45)),
  og 47 43 false (.bin .neq (t 46) (.cst (.int .u8 32))),
  og 48 38 true (.pick (t 43) (.cst (.bool true)) (t 47)),
  o 49 (.pick (t 38) (t 48) (.cst (.bool false))),
  o 4 (.mov (t 49))])
(.ret)))))), [.tmp 4]⟩
theorem ir3_tr : trF Tryz.prog ir3 Tryz.f3 = some ir3 := by kernel_rfl

-- grille/grillelaw05.alive
def ir4 : IF := ⟨50, .seq (.reg [o 0 (.mov (.cst (.bool false)))])
(.seq (.reg [o 6 (.call 0 (.fn 7) [(.cst (.str [97, 58, 32, 124, 10, 32, 32, 98, 10, 10, 32, 32, 32, 99, 10, 45, 45, 45, 10]))]),
  o 5 (.mov (t 6)),
  o 7 (.extract 0 (t 5)),
  o 8 (.extract 1 (t 5)),
  o 1 (.mov (t 7)),
  o 2 (.mov (t 8))])
(.seq (.reg [o 10 (.call 0 (.fn 7) [(.cst (.str [97, 58, 32, 124, 10, 32, 32, 32, 98, 10, 32, 32, 99, 10]))]),
  o 9 (.mov (t 10)),
  o 11 (.extract 0 (t 9)),
  o 12 (.extract 1 (t 9)),
  o 3 (.mov (t 11)),
  o 4 (.mov (t 12))])
(.seq (.reg [o 13 (.mov (t 1)),
  o 14 (.len .row (t 13)),
  o 15 (.bin .eql (t 14) (.cst (.int .i64 2))),
  o 16 (.mov (t 15)),
  og 17 16 true (.mov (t 1)),
  og 18 16 true (.idxAddr 4 (t 17) (.cst (.int .i64 0))),
  og 19 16 true (.fieldAddr 3 (t 18)),
  og 20 16 true (.load none (t 19)),
  og 21 16 true (.bin .eql (t 20) (.cst (.str [98, 10, 10, 32, 99, 10]))),
  o 22 (.pick (t 16) (t 21) (.cst (.bool false))),
  o 23 (.mov (t 22)),
  og 24 23 true (.mov (t 1)),
  og 25 23 true (.idxAddr 4 (t 24) (.cst (.int .i64 0))),
  og 26 23 true (.fieldAddr 2 (t 25)),
  og 27 23 true (.load none (t 26)),
  og 28 23 true (.len .row (t 27)),
  og 29 23 true (.bin .eql (t 28) (.cst (.int .i64 3))),
  o 30 (.pick (t 23) (t 29) (.cst (.bool false))),
  o 31 (.mov (t 30)),
  og 32 31 true (.mov (t 1)),
  og 33 31 true (.idxAddr 4 (t 32) (.cst (.int .i64 1))),
  og 34 31 true (.fieldAddr 0 (t 33)),
  og 35 31 true (.load none (t 34)),
  og 36 31 true (.bin .eql (t 35) (.cst (.int .i64 1))),
  o 37 (.pick (t 31) (t 36) (.cst (.bool false))),
  o 38 (.mov (t 37)),
  og 39 38 true (.mov (t 2)),
  og 40 38 true (.bin .eql (t 39) (.cst (.int .i64 0))),
  o 41 (.pick (t 38) (t 40) (.cst (.bool false))),
  o 42 (.mov (t 41)),
  og 43 42 true (.mov (t 4)),
  og 44 42 true (.bin .eql (t 43) (.cst (.int .i64 9))),
  o 45 (.pick (t 42) (t 44) (.cst (.bool false))),
  o 46 (.mov (t 45)),
  og 47 46 true (.call 0 (.fn 5) [(.cst (.str [32, 32, 97]))]),
  og 48 46 true (.bin .eql (t 47) (.cst (.int .i64 2))),
  o 49 (.pick (t 46) (t 48) (.cst (.bool false))),
  o 0 (.mov (t 49))])
(.ret)))), [.tmp 0]⟩
theorem ir4_tr : trF Tryz.prog ir4 Tryz.f4 = some ir4 := by kernel_rfl

-- grille/lines.Indent
def ir5 : IF := ⟨9, .seq (.reg [o 2 (.mov (.cst (.int .i64 0)))])
(.seq (.reg [o 3 (.mov (t 0)),
  o 4 (.len .str (t 3)),
  o 5 (.mov (t 0)),
  o 6 (.call 0 (.fn 8) [(t 5), (.cst (.str [32]))]),
  o 7 (.len .str (t 6)),
  o 8 (.bin .sub (t 4) (t 7)),
  o 2 (.mov (t 8))])
(.ret)), [.tmp 2]⟩
theorem ir5_tr : trF Tryz.prog ir5 Tryz.f5 = some ir5 := by kernel_rfl

-- grille/lines.Read
def ir7 : IF := ⟨45, .seq (.reg [o 2 (.mov (.cst .nils)),
  o 3 (.mov (.cst (.int .i64 0)))])
(.seq (.reg [o 8 (.mov (t 0)),
  o 9 (.call 0 (.fn 15) [(t 8), (.cst (.str [10]))]),
  o 10 (.build [.nils, .nils] [(0, 1, (t 9))]),
  o 11 (.box (t 10)),
  o 4 (.mov (t 11))])
(.seq (.block 0 (.loop [12, 13, 14, 15, 16, 17, 18, 19, 5, 20, 21, 6, 22, 23, 24, 25, 26, 27, 28, 29, 30, 31, 32, 33, 34, 35, 36, 37, 7, 38, 39, 40, 2, 3] (.seq (.seq (.reg [o 12 (.mov (t 4)),
    o 13 (.nilck (t 12)),
    o 14 (.fieldAddr 0 (t 13)),
    o 15 (.load none (t 14)),
    o 16 (.len .row (t 15)),
    o 17 (.bin .gtr (t 16) (.cst (.int .i64 0)))])
  (.cond (t 17)
   (.skip)
   (.exit 0)))
  (.block 1 (.seq (.reg [o 18 (.mov (t 4)),
     o 19 (.call 0 (.fn 16) [(t 18)]),
     o 5 (.mov (t 19))])
   (.seq (.seq (.reg [o 20 (.mov (t 5)),
     o 21 (.call 0 (.fn 17) [(t 20)]),
     o 6 (.mov (t 21))])
   (.seq (.reg [o 22 (.mov (t 6)),
     o 23 (.bin .neq (t 22) (.cst (.int .i64 0)))])
   (.cond (t 23)
    (.seq (.reg [o 24 (.mov (t 4)),
      o 25 (.mov (t 4)),
      o 26 (.nilck (t 25)),
      o 27 (.fieldAddr 1 (t 26)),
      o 28 (.load none (t 27)),
      o 29 (.mov (t 6)),
      o 30 (.build [(.int .i64 0), (.int .i64 0), .nils, (.str [])] [(0, 1, (t 29))]),
      o 31 (.lit .ro 4 [(t 30)]),
      o 32 (.append .tok 4 (56, 32) (t 28) (t 31)),
      o 33 (.nilck (t 24)),
      o 34 (.fieldAddr 1 (t 33)),
      e (.store 1 (t 34) (t 32))])
    (.exit 1))
    (.skip))))
   (.seq (.reg [o 35 (.mov (t 4)),
     o 36 (.mov (t 5)),
     o 37 (.call 0 (.fn 18) [(t 35), (t 36)]),
     o 7 (.mov (t 37))])
   (.seq (.reg [o 38 (.mov (t 7)),
     o 39 (.bin .neq (t 38) (.cst (.int .i64 0)))])
   (.cond (t 39)
    (.seq (.reg [o 40 (.mov (t 7)),
      o 2 (.mov (.cst .nils)),
      o 3 (.mov (t 40))])
    (.ret))
    (.skip))))))))))
(.seq (.reg [o 41 (.mov (t 4)),
  o 42 (.nilck (t 41)),
  o 43 (.fieldAddr 1 (t 42)),
  o 44 (.load none (t 43)),
  o 2 (.mov (t 44)),
  o 3 (.mov (.cst (.int .i64 0)))])
(.ret)))), [.tmp 2, .tmp 3]⟩
theorem ir7_tr : trF Tryz.prog ir7 Tryz.f7 = some ir7 := by kernel_rfl

-- strings.HasPrefix
def ir10 : IF := ⟨8, .seq (.reg [o 4 (.mov (.cst (.bool false)))])
(.seq (.reg [o 5 (.mov (t 0)),
  o 6 (.mov (t 1)),
  o 7 (.call 0 (.fn 25) [(t 5), (t 6)]),
  o 4 (.mov (t 7))])
(.ret)), [.tmp 4]⟩
theorem ir10_tr : trF Tryz.prog ir10 Tryz.f10 = some ir10 := by kernel_rfl

-- (*strings.Builder).WriteString
def ir12 : IF := ⟨19, .seq (.reg [o 4 (.mov (.cst (.int .i64 0))),
  o 5 (.mov (.cst .niliface))])
(.seq (.reg [o 6 (.mov (t 0)),
  o 7 (.call 0 (.fn 26) [(t 6)])])
(.seq (.reg [o 8 (.mov (t 0)),
  o 9 (.mov (t 0)),
  o 10 (.nilck (t 9)),
  o 11 (.fieldAddr 1 (t 10)),
  o 12 (.load none (t 11)),
  o 13 (.mov (t 1)),
  o 14 (.append .tok 1 (1, 5) (t 12) (t 13)),
  o 15 (.nilck (t 8)),
  o 16 (.fieldAddr 1 (t 15)),
  e (.store 1 (t 16) (t 14))])
(.seq (.reg [o 17 (.mov (t 1)),
  o 18 (.len .str (t 17)),
  o 4 (.mov (t 18)),
  o 5 (.mov (.cst .niliface))])
(.ret)))), [.tmp 4, .tmp 5]⟩
theorem ir12_tr : trF Tryz.prog ir12 Tryz.f12 = some ir12 := by kernel_rfl

-- strings.Split
def ir15 : IF := ⟨8, .seq (.reg [o 4 (.mov (.cst .nils))])
(.seq (.reg [o 5 (.mov (t 0)),
  o 6 (.mov (t 1)),
  o 7 (.call 0 (.fn 28) [(t 5), (t 6), (.cst (.int .i64 0)), (.cst (.int .i64 (-1)))]),
  o 4 (.mov (t 7))])
(.ret)), [.tmp 4]⟩
theorem ir15_tr : trF Tryz.prog ir15 Tryz.f15 = some ir15 := by kernel_rfl

-- (*grille/lines.reader).next
def ir16 : IF := ⟨19, .seq (.reg [o 2 (.mov (.cst (.str [])))])
(.seq (.reg [o 4 (.mov (t 0)),
  o 5 (.nilck (t 4)),
  o 6 (.fieldAddr 0 (t 5)),
  o 7 (.load none (t 6)),
  o 8 (.idxAddr 1 (t 7) (.cst (.int .i64 0))),
  o 9 (.load none (t 8)),
  o 3 (.mov (t 9))])
(.seq (.reg [o 10 (.mov (t 0)),
  o 11 (.mov (t 0)),
  o 12 (.nilck (t 11)),
  o 13 (.fieldAddr 0 (t 12)),
  o 14 (.load none (t 13)),
  o 15 (.slc 1 (t 14) (some (.cst (.int .i64 1))) none),
  o 16 (.nilck (t 10)),
  o 17 (.fieldAddr 0 (t 16)),
  e (.store 1 (t 17) (t 15))])
(.seq (.reg [o 18 (.mov (t 3)),
  o 2 (.mov (t 18))])
(.ret)))), [.tmp 2]⟩
theorem ir16_tr : trF Tryz.prog ir16 Tryz.f16 = some ir16 := by kernel_rfl

-- grille/lines.mark
def ir17 : IF := ⟨43, .seq (.reg [o 2 (.mov (.cst (.int .i64 0)))])
(.seq (.seq (.reg [o 8 (.build [(.str []), (.str []), (.str [])] [(1, 1, (.cst (.str [45, 45, 45]))), (2, 1, (.cst (.str [46, 46, 46])))]),
  o 9 (.mov (.cst (.int .i64 0)))])
(.block 0 (.loop [10, 11, 12, 3, 4, 14, 15, 16, 13, 17, 18, 5, 6, 24, 19, 20, 21, 22, 23, 25, 26, 7, 40, 27, 28, 29, 30, 31, 32, 33, 34, 35, 36, 37, 38, 39, 41, 2, 42] (.seq (.reg [o 10 (.bin .lss (t 9) (.cst (.int .i64 3)))])
  (.seq (.cond (t 10)
   (.skip)
   (.exit 0))
  (.seq (.block 1 (.seq (.reg [o 11 (.mov (t 9)),
     o 12 (.idxArr 3 1 none (t 8) (t 9)),
     o 3 (.mov (t 11)),
     o 4 (.mov (t 12))])
   (.seq (.reg [o 14 (.mov (t 0)),
     o 15 (.mov (t 4)),
     o 16 (.call 0 (.fn 29) [(t 14), (t 15)]),
     o 13 (.mov (t 16)),
     o 17 (.extract 0 (t 13)),
     o 18 (.extract 1 (t 13)),
     o 5 (.mov (t 17)),
     o 6 (.mov (t 18))])
   (.seq (.seq (.reg [o 19 (.mov (t 6)),
     o 20 (.not (t 19)),
     o 21 (.mov (t 20)),
     og 22 21 false (.mov (t 3)),
     og 23 21 false (.bin .eql (t 22) (.cst (.int .i64 0))),
     o 24 (.pick (t 21) (.cst (.bool true)) (t 23))])
   (.gh [.kill [19, 20, 21, 22, 23]] (.cond (t 24)
    (.exit 1)
    (.skip))))
   (.seq (.reg [o 25 (.mov (t 5)),
     o 26 (.call 0 (.fn 5) [(t 25)]),
     o 7 (.mov (t 26))])
   (.seq (.reg [o 27 (.mov (t 7)),
     o 28 (.mov (t 5)),
     o 29 (.len .str (t 28)),
     o 30 (.bin .eql (t 27) (t 29)),
     o 31 (.mov (t 30)),
     og 32 31 false (.mov (t 7)),
     og 33 31 false (.bin .gtr (t 32) (.cst (.int .i64 0))),
     og 34 31 false (.mov (t 33)),
     og 35 34 true (.mov (t 5)),
     og 36 34 true (.mov (t 7)),
     og 37 34 true (.idxStr (t 35) (t 36)),
     og 38 34 true (.bin .eql (t 37) (.cst (.int .u8 35))),
     og 39 31 false (.pick (t 34) (t 38) (.cst (.bool false))),
     o 40 (.pick (t 31) (.cst (.bool true)) (t 39))])
   (.gh [.kill [27, 28, 29, 30, 31, 32, 33, 34, 35, 36, 37, 38, 39]] (.cond (t 40)
    (.seq (.reg [o 41 (.mov (t 3)),
      o 2 (.mov (t 41))])
    (.ret))
    (.skip)))))))))
  (.gh [.kill [11, 12, 3, 4, 14, 15, 16, 13, 17, 18, 5, 6, 24, 19, 20, 21, 22, 23, 25, 26, 7, 40, 27, 28, 29, 30, 31, 32, 33, 34, 35, 36, 37, 38, 39, 41, 2]] (.reg [o 42 (.bin .add (t 9) (.cst (.int .i64 1))),
    o 9 (.mov (t 42))]))))))))
(.seq (.reg [o 2 (.mov (.cst (.int .i64 0)))])
(.ret))), [.tmp 2]⟩
theorem ir17_tr : trF Tryz.prog ir17 Tryz.f17 = some ir17 := by kernel_rfl

-- (*grille/lines.reader).line
def ir18 : IF := ⟨54, .seq (.reg [o 4 (.mov (.cst (.int .i64 0)))])
(.seq (.reg [o 9 (.mov (t 1)),
  o 10 (.call 0 (.fn 30) [(t 9)]),
  o 8 (.mov (t 10)),
  o 11 (.extract 0 (t 8)),
  o 12 (.extract 1 (t 8)),
  o 5 (.mov (t 11)),
  o 6 (.mov (t 12))])
(.seq (.seq (.reg [o 13 (.mov (t 6)),
  o 14 (.bin .neq (t 13) (.cst (.int .i64 0))),
  o 15 (.mov (t 14)),
  og 16 15 false (.mov (t 5)),
  og 17 15 false (.len .row (t 16)),
  og 18 15 false (.bin .eql (t 17) (.cst (.int .i64 0))),
  o 19 (.pick (t 15) (.cst (.bool true)) (t 18))])
(.gh [.kill [13, 14, 15, 16, 17, 18]] (.cond (t 19)
 (.seq (.reg [o 20 (.mov (t 6)),
   o 4 (.mov (t 20))])
 (.ret))
 (.skip))))
(.seq (.reg [o 21 (.mov (t 1)),
  o 22 (.call 0 (.fn 5) [(t 21)]),
  o 23 (.mov (t 5)),
  o 24 (.build [(.int .i64 0), (.int .i64 0), .nils, (.str [])] [(1, 1, (t 22)), (2, 1, (t 23))]),
  o 7 (.alloc [(.int .i64 0), (.int .i64 0), .nils, (.str [])]),
  e (.store 4 (t 7) (t 24))])
(.seq (.seq (.reg [o 25 (.mov (t 5)),
  o 26 (.mov (t 5)),
  o 27 (.len .row (t 26)),
  o 28 (.bin .sub (t 27) (.cst (.int .i64 1))),
  o 29 (.idxAddr 3 (t 25) (t 28)),
  o 30 (.fieldAddr 0 (t 29)),
  o 31 (.load none (t 30)),
  o 32 (.bin .eql (t 31) (.cst (.int .i64 13)))])
(.cond (t 32)
 (.seq (.reg [o 34 (.mov (t 0)),
   o 35 (.fieldAddr 1 (t 7)),
   o 36 (.load none (t 35)),
   o 37 (.call 0 (.fn 31) [(t 34), (t 36)]),
   o 33 (.mov (t 37)),
   o 38 (.extract 0 (t 33)),
   o 39 (.extract 1 (t 33)),
   o 40 (.fieldAddr 3 (t 7)),
   e (.store 1 (t 40) (t 38)),
   o 6 (.mov (t 39))])
 (.seq (.reg [o 41 (.mov (t 6)),
   o 42 (.bin .neq (t 41) (.cst (.int .i64 0)))])
 (.cond (t 42)
  (.seq (.reg [o 43 (.mov (t 6)),
    o 4 (.mov (t 43))])
  (.ret))
  (.skip))))
 (.skip)))
(.gh [.kill [25, 26, 27, 28, 29, 30, 31, 32, 34, 35, 36, 37, 33, 38, 39, 40, 6, 41, 42, 43, 4]] (.seq (.dreg [o 44 (.mov (t 0)),
  o 45 (.mov (t 0)),
  o 46 (.nilck (t 45)),
  o 47 (.fieldAddr 1 (t 46)),
  o 48 (.load none (t 47)),
  o 49 (.load (some 4) (t 7)),
  o 50 (.lit .ro 4 [(t 49)]),
  o 51 (.append .tok 4 (56, 32) (t 48) (t 50)),
  o 52 (.nilck (t 44)),
  o 53 (.fieldAddr 1 (t 52)),
  e (.store 1 (t 53) (t 51))] [[], [], [1], [1, 2], [1, 2, 3], [], [5], [1, 2, 3, 4, 5, 6], [0, 1, 2, 3, 4, 5, 6, 7], [0, 1, 2, 3, 4, 5, 6, 7, 8], [0, 1, 2, 3, 4, 5, 6, 7, 8, 9]])
(.seq (.reg [o 4 (.mov (.cst (.int .i64 0)))])
(.ret)))))))), [.tmp 4]⟩
theorem ir18_tr : trF Tryz.prog ir18 Tryz.f18 = some ir18 := by kernel_rfl

-- internal/stringslite.HasPrefix
def ir25 : IF := ⟨18, .seq (.reg [o 4 (.mov (.cst (.bool false)))])
(.seq (.reg [o 5 (.mov (t 0)),
  o 6 (.len .str (t 5)),
  o 7 (.mov (t 1)),
  o 8 (.len .str (t 7)),
  o 9 (.bin .geq (t 6) (t 8)),
  o 10 (.mov (t 9)),
  og 11 10 true (.mov (t 0)),
  og 12 10 true (.mov (t 1)),
  og 13 10 true (.len .str (t 12)),
  og 14 10 true (.slcS (t 11) none (some (t 13))),
  og 15 10 true (.mov (t 1)),
  og 16 10 true (.bin .eql (t 14) (t 15)),
  o 17 (.pick (t 10) (t 16) (.cst (.bool false))),
  o 4 (.mov (t 17))])
(.ret)), [.tmp 4]⟩
theorem ir25_tr : trF Tryz.prog ir25 Tryz.f25 = some ir25 := by kernel_rfl

-- strings.genSplit
def ir28 : IF := ⟨66, .seq (.reg [o 8 (.mov (.cst .nils))])
(.seq (.seq (.reg [o 12 (.mov (t 3)),
  o 13 (.bin .eql (t 12) (.cst (.int .i64 0)))])
(.cond (t 13)
 (.seq (.reg [o 8 (.mov (.cst .nils))])
 (.ret))
 (.skip)))
(.seq (.seq (.reg [o 14 (.mov (t 1)),
  o 15 (.bin .eql (t 14) (.cst (.str [])))])
(.cond (t 15)
 (.seq (.reg [o 16 (.mov (t 0)),
   o 17 (.mov (t 3)),
   o 18 (.call 0 (.fn 37) [(t 16), (t 17)]),
   o 8 (.mov (t 18))])
 (.ret))
 (.skip)))
(.seq (.seq (.reg [o 19 (.mov (t 3)),
  o 20 (.bin .lss (t 19) (.cst (.int .i64 0)))])
(.cond (t 20)
 (.reg [o 21 (.mov (t 0)),
   o 22 (.mov (t 1)),
   o 23 (.call 0 (.fn 38) [(t 21), (t 22)]),
   o 24 (.bin .add (t 23) (.cst (.int .i64 1))),
   o 3 (.mov (t 24))])
 (.skip)))
(.gh [.kill [19, 20, 21, 22, 23, 24]] (.seq (.reg [o 25 (.mov (t 3)),
  o 26 (.mov (t 0)),
  o 27 (.len .str (t 26)),
  o 28 (.bin .add (t 27) (.cst (.int .i64 1))),
  o 29 (.minmax false (t 25) [(t 28)]),
  o 3 (.mov (t 29))])
(.seq (.reg [o 30 (.mov (t 3)),
  o 31 (.make .ref 1 16 [(.str [])] (t 30) (t 30)),
  o 9 (.mov (t 31))])
(.seq (.reg [o 32 (.mov (t 3)),
  o 33 (.bin .sub (t 32) (.cst (.int .i64 1))),
  o 3 (.mov (t 33))])
(.seq (.reg [o 10 (.mov (.cst (.int .i64 0)))])
(.seq (.block 0 (.loop [34, 35, 36, 37, 38, 39, 11, 40, 41, 42, 43, 44, 45, 46, 47, 48, 49, 50, 51, 52, 53, 54, 55, 56, 57] (.seq (.seq (.reg [o 34 (.mov (t 10)),
    o 35 (.mov (t 3)),
    o 36 (.bin .lss (t 34) (t 35))])
  (.cond (t 36)
   (.skip)
   (.exit 0)))
  (.block 1 (.seq (.reg [o 37 (.mov (t 0)),
     o 38 (.mov (t 1)),
     o 39 (.call 0 (.fn 39) [(t 37), (t 38)]),
     o 11 (.mov (t 39))])
   (.seq (.seq (.reg [o 40 (.mov (t 11)),
     o 41 (.bin .lss (t 40) (.cst (.int .i64 0)))])
   (.cond (t 41)
    (.exit 0)
    (.skip)))
   (.seq (.reg [o 42 (.mov (t 9)),
     o 43 (.mov (t 10)),
     o 44 (.mov (t 0)),
     o 45 (.mov (t 11)),
     o 46 (.mov (t 2)),
     o 47 (.bin .add (t 45) (t 46)),
     o 48 (.slcS (t 44) none (some (t 47))),
     o 49 (.idxAddr 1 (t 42) (t 43)),
     e (.store 1 (t 49) (t 48))])
   (.seq (.reg [o 50 (.mov (t 0)),
     o 51 (.mov (t 11)),
     o 52 (.mov (t 1)),
     o 53 (.len .str (t 52)),
     o 54 (.bin .add (t 51) (t 53)),
     o 55 (.slcS (t 50) (some (t 54)) none),
     o 0 (.mov (t 55))])
   (.reg [o 56 (.mov (t 10)),
     o 57 (.bin .add (t 56) (.cst (.int .i64 1))),
     o 10 (.mov (t 57))])))))))))
(.gh [.kill [34, 35, 36, 37, 38, 39, 11, 40, 41, 42, 43, 44, 45, 46, 47, 48, 49, 50, 51, 52, 53, 54, 55, 56, 57]] (.seq (.reg [o 58 (.mov (t 9)),
  o 59 (.mov (t 10)),
  o 60 (.mov (t 0)),
  o 61 (.idxAddr 1 (t 58) (t 59)),
  e (.store 1 (t 61) (t 60))])
(.seq (.reg [o 62 (.mov (t 9)),
  o 63 (.mov (t 10)),
  o 64 (.bin .add (t 63) (.cst (.int .i64 1))),
  o 65 (.slc 1 (t 62) none (some (t 64))),
  o 8 (.mov (t 65))])
(.ret))))))))))))), [.tmp 8]⟩
theorem ir28_tr : trF Tryz.prog ir28 Tryz.f28 = some ir28 := by kernel_rfl

-- strings.CutPrefix
def ir29 : IF := ⟨11, .seq (.reg [o 4 (.mov (.cst (.str []))),
  o 5 (.mov (.cst (.bool false)))])
(.seq (.reg [o 6 (.mov (t 0)),
  o 7 (.mov (t 1)),
  o 8 (.call 0 (.fn 40) [(t 6), (t 7)]),
  o 9 (.extract 0 (t 8)),
  o 10 (.extract 1 (t 8)),
  o 4 (.mov (t 9)),
  o 5 (.mov (t 10))])
(.ret)), [.tmp 4, .tmp 5]⟩
theorem ir29_tr : trF Tryz.prog ir29 Tryz.f29 = some ir29 := by kernel_rfl

-- grille/lex.Words
def ir30 : IF := ⟨60, .seq (.reg [o 2 (.mov (.cst .nils)),
  o 3 (.mov (.cst (.int .i64 0)))])
(.seq (.reg [o 4 (.mov (.fn 41))])
(.seq (.seq (.reg [o 7 (.mov (t 0)),
  o 8 (.call 0 (.fn 43) [(t 7)]),
  o 9 (.not (t 8)),
  o 10 (.mov (t 9)),
  og 11 10 false (.mov (t 0)),
  og 12 10 false (.mov (t 4)),
  og 13 10 false (.call 0 (.fn 44) [(t 11), (t 12)]),
  o 14 (.pick (t 10) (.cst (.bool true)) (t 13))])
(.gh [.kill [7, 8, 9, 10, 11, 12, 13]] (.cond (t 14)
 (.seq (.reg [o 2 (.mov (.cst .nils)),
   o 3 (.mov (.cst (.int .i64 5)))])
 (.ret))
 (.skip))))
(.seq (.reg [o 15 (.mov (t 0)),
  o 16 (.build [(.str []), (.int .i64 0), .nils] [(0, 1, (t 15))]),
  o 17 (.box (t 16)),
  o 5 (.mov (t 17))])
(.seq (.block 0 (.loop [18, 19, 20, 21, 22, 23, 24, 31, 32, 33, 34, 35, 36, 37, 30, 38, 39, 40, 41, 42, 43, 44, 46, 47, 48, 49, 50, 51, 45, 52, 53, 54, 55, 25, 26, 6, 27, 28, 29, 2, 3] (.seq (.seq (.reg [o 18 (.mov (t 5)),
    o 19 (.nilck (t 18)),
    o 20 (.fieldAddr 1 (t 19)),
    o 21 (.load none (t 20)),
    o 22 (.mov (t 0)),
    o 23 (.len .str (t 22)),
    o 24 (.bin .lss (t 21) (t 23))])
  (.cond (t 24)
   (.skip)
   (.exit 0)))
  (.block 1 (.block 2 (.seq (.reg [o 31 (.mov (t 0)),
      o 32 (.mov (t 5)),
      o 33 (.nilck (t 32)),
      o 34 (.fieldAddr 1 (t 33)),
      o 35 (.load none (t 34)),
      o 36 (.idxStr (t 31) (t 35)),
      o 37 (.bin .eql (t 36) (.cst (.int .u8 32))),
      o 30 (.mov (t 37))])
    (.cond (t 30)
     (.reg [o 38 (.mov (t 5)),
       o 39 (.nilck (t 38)),
       o 40 (.fieldAddr 1 (t 39)),
       o 41 (.load none (t 40)),
       o 42 (.bin .add (t 41) (.cst (.int .i64 1))),
       o 43 (.nilck (t 38)),
       o 44 (.fieldAddr 1 (t 43)),
       e (.store 1 (t 44) (t 42))])
     (.seq (.reg [o 46 (.mov (t 5)),
       o 47 (.mov (t 5)),
       o 48 (.nilck (t 47)),
       o 49 (.fieldAddr 1 (t 48)),
       o 50 (.load none (t 49)),
       o 51 (.call 0 (.fn 45) [(t 46), (t 50)]),
       o 45 (.mov (t 51))])
     (.cond (t 45)
      (.seq (.reg [o 52 (.mov (t 5)),
        o 53 (.nilck (t 52)),
        o 54 (.fieldAddr 2 (t 53)),
        o 55 (.load none (t 54)),
        o 2 (.mov (t 55)),
        o 3 (.mov (.cst (.int .i64 0)))])
      (.ret))
      (.seq (.reg [o 25 (.mov (t 5)),
        o 26 (.call 0 (.fn 46) [(t 25)]),
        o 6 (.mov (t 26))])
      (.seq (.reg [o 27 (.mov (t 6)),
        o 28 (.bin .neq (t 27) (.cst (.int .i64 0)))])
      (.cond (t 28)
       (.seq (.reg [o 29 (.mov (t 6)),
         o 2 (.mov (.cst .nils)),
         o 3 (.mov (t 29))])
       (.ret))
       (.skip)))))))))))))
(.seq (.reg [o 56 (.mov (t 5)),
  o 57 (.nilck (t 56)),
  o 58 (.fieldAddr 2 (t 57)),
  o 59 (.load none (t 58)),
  o 2 (.mov (t 59)),
  o 3 (.mov (.cst (.int .i64 0)))])
(.ret)))))), [.tmp 2, .tmp 3]⟩
theorem ir30_tr : trF Tryz.prog ir30 Tryz.f30 = some ir30 := by kernel_rfl

-- (*grille/lines.reader).literal
def ir31 : IF := ⟨68, .seq (.reg [o 4 (.mov (.cst (.str []))),
  o 5 (.mov (.cst (.int .i64 0)))])
(.seq (.reg [o 6 (.alloc [.bnil, .nils])])
(.seq (.reg [o 7 (.mov (.cst (.int .i64 (-1)))),
  o 8 (.mov (.cst (.int .i64 0)))])
(.seq (.block 0 (.loop [35, 10, 11, 12, 13, 14, 15, 16, 17, 18, 19, 20, 21, 22, 23, 24, 25, 26, 27, 28, 29, 30, 31, 32, 33, 34, 36, 37, 9, 38, 39, 40, 41, 42, 43, 44, 45, 46, 47, 48, 49, 50, 51, 52, 53, 55, 56, 57, 58, 54, 4, 5, 59, 60, 61, 62, 63, 64, 65, 66] (.seq (.seq (.reg [o 10 (.mov (t 0)),
    o 11 (.nilck (t 10)),
    o 12 (.fieldAddr 0 (t 11)),
    o 13 (.load none (t 12)),
    o 14 (.len .row (t 13)),
    o 15 (.bin .gtr (t 14) (.cst (.int .i64 0))),
    o 16 (.mov (t 15)),
    og 17 16 true (.mov (t 0)),
    og 18 16 true (.nilck (t 17)),
    og 19 16 true (.fieldAddr 0 (t 18)),
    og 20 16 true (.load none (t 19)),
    og 21 16 true (.idxAddr 1 (t 20) (.cst (.int .i64 0))),
    og 22 16 true (.load none (t 21)),
    og 23 16 true (.call 0 (.fn 47) [(t 22)]),
    og 24 16 true (.mov (t 23)),
    og 25 24 false (.mov (t 0)),
    og 26 24 false (.nilck (t 25)),
    og 27 24 false (.fieldAddr 0 (t 26)),
    og 28 24 false (.load none (t 27)),
    og 29 24 false (.idxAddr 1 (t 28) (.cst (.int .i64 0))),
    og 30 24 false (.load none (t 29)),
    og 31 24 false (.call 0 (.fn 5) [(t 30)]),
    og 32 24 false (.mov (t 1)),
    og 33 24 false (.bin .gtr (t 31) (t 32)),
    og 34 16 true (.pick (t 24) (.cst (.bool true)) (t 33)),
    o 35 (.pick (t 16) (t 34) (.cst (.bool false)))])
  (.gh [.kill [10, 11, 12, 13, 14, 15, 16, 17, 18, 19, 20, 21, 22, 23, 24, 25, 26, 27, 28, 29, 30, 31, 32, 33, 34]] (.cond (t 35)
   (.skip)
   (.exit 0))))
  (.block 1 (.seq (.reg [o 36 (.mov (t 0)),
     o 37 (.call 0 (.fn 16) [(t 36)]),
     o 9 (.mov (t 37))])
   (.seq (.seq (.reg [o 38 (.mov (t 9)),
     o 39 (.call 0 (.fn 47) [(t 38)])])
   (.cond (t 39)
    (.seq (.reg [o 40 (.mov (t 8)),
      o 41 (.bin .add (t 40) (.cst (.int .i64 1))),
      o 8 (.mov (t 41))])
    (.exit 1))
    (.skip)))
   (.seq (.seq (.reg [o 42 (.mov (t 7)),
     o 43 (.bin .lss (t 42) (.cst (.int .i64 0)))])
   (.cond (t 43)
    (.reg [o 44 (.mov (t 9)),
      o 45 (.call 0 (.fn 5) [(t 44)]),
      o 7 (.mov (t 45))])
    (.skip)))
   (.gh [.kill [42, 43, 44, 45]] (.seq (.block 2 (.seq (.reg [o 47 (.mov (t 9)),
      o 48 (.call 0 (.fn 43) [(t 47)]),
      o 49 (.not (t 48)),
      o 50 (.mov (t 49)),
      og 51 50 false (.mov (t 9)),
      og 52 50 false (.call 0 (.fn 44) [(t 51), (.fn 48)]),
      o 53 (.pick (t 50) (.cst (.bool true)) (t 52)),
      o 46 (.mov (t 53))])
    (.gh [.kill [47, 48, 49, 50, 51, 52, 53]] (.cond (t 46)
     (.seq (.reg [o 4 (.mov (.cst (.str []))),
       o 5 (.mov (.cst (.int .i64 5)))])
     (.ret))
     (.seq (.reg [o 55 (.mov (t 9)),
       o 56 (.call 0 (.fn 5) [(t 55)]),
       o 57 (.mov (t 7)),
       o 58 (.bin .lss (t 56) (t 57)),
       o 54 (.mov (t 58))])
     (.cond (t 54)
      (.seq (.reg [o 4 (.mov (.cst (.str []))),
        o 5 (.mov (.cst (.int .i64 9)))])
      (.ret))
      (.skip)))))))
   (.seq (.dreg [o 59 (.mov (t 8)),
     o 60 (.call 0 (.fn 6) [(.cst (.str [10])), (t 59)]),
     o 61 (.mov (t 9)),
     o 62 (.mov (t 7)),
     o 63 (.slcS (t 61) (some (t 62)) none),
     o 64 (.bin .add (t 60) (t 63)),
     o 65 (.bin .add (t 64) (.cst (.str [10]))),
     o 66 (.call 0 (.fn 12) [(t 6), (t 65)])] [[], [0], [], [], [2, 3], [0, 1, 2, 3, 4], [0, 1, 2, 3, 4, 5], [0, 1, 2, 3, 4, 5, 6]])
   (.reg [o 8 (.mov (.cst (.int .i64 0)))])))))))))))
(.seq (.reg [o 67 (.call 0 (.fn 14) [(t 6)]),
  o 4 (.mov (t 67)),
  o 5 (.mov (.cst (.int .i64 0)))])
(.ret))))), [.tmp 4, .tmp 5]⟩
theorem ir31_tr : trF Tryz.prog ir31 Tryz.f31 = some ir31 := by kernel_rfl

-- unicode/utf8.DecodeRuneInString
def ir33 : IF := ⟨19, .seq (.reg [o 2 (.mov (.cst (.int .i32 0))),
  o 3 (.mov (.cst (.int .i64 0)))])
(.seq (.seq (.reg [o 4 (.mov (t 0)),
  o 5 (.bin .neq (t 4) (.cst (.str []))),
  o 6 (.mov (t 5)),
  og 7 6 true (.mov (t 0)),
  og 8 6 true (.idxStr (t 7) (.cst (.int .i64 0))),
  og 9 6 true (.bin .lss (t 8) (.cst (.int .u8 128))),
  o 10 (.pick (t 6) (t 9) (.cst (.bool false)))])
(.gh [.kill [4, 5, 6, 7, 8, 9]] (.cond (t 10)
 (.seq (.reg [o 11 (.mov (t 0)),
   o 12 (.idxStr (t 11) (.cst (.int .i64 0))),
   o 13 (.cvInt .i32 (t 12)),
   o 2 (.mov (t 13)),
   o 3 (.mov (.cst (.int .i64 1)))])
 (.ret))
 (.reg [o 15 (.mov (t 0)),
   o 16 (.call 0 (.fn 49) [(t 15)]),
   o 14 (.mov (t 16)),
   o 17 (.extract 0 (t 14)),
   o 18 (.extract 1 (t 14)),
   o 2 (.mov (t 17)),
   o 3 (.mov (t 18))]))))
(.ret)), [.tmp 2, .tmp 3]⟩
theorem ir33_tr : trF Tryz.prog ir33 Tryz.f33 = some ir33 := by kernel_rfl

-- strings.explode
def ir37 : IF := ⟨50, .seq (.reg [o 4 (.mov (.cst .nils))])
(.seq (.reg [o 10 (.mov (t 0)),
  o 11 (.call 0 (.fn 51) [(t 10)]),
  o 5 (.mov (t 11))])
(.seq (.seq (.reg [o 12 (.mov (t 1)),
  o 13 (.bin .lss (t 12) (.cst (.int .i64 0))),
  o 14 (.mov (t 13)),
  og 15 14 false (.mov (t 1)),
  og 16 14 false (.mov (t 5)),
  og 17 14 false (.bin .gtr (t 15) (t 16)),
  o 18 (.pick (t 14) (.cst (.bool true)) (t 17))])
(.gh [.kill [12, 13, 14, 15, 16, 17]] (.cond (t 18)
 (.reg [o 19 (.mov (t 5)),
   o 1 (.mov (t 19))])
 (.skip))))
(.gh [.kill [18, 12, 13, 14, 15, 16, 17, 19]] (.seq (.reg [o 20 (.mov (t 1)),
  o 21 (.make .ro 1 16 [(.str [])] (t 20) (t 20)),
  o 6 (.mov (t 21))])
(.seq (.seq (.reg [o 7 (.mov (.cst (.int .i64 0)))])
(.block 0 (.loop [22, 23, 24, 25, 29, 30, 28, 31, 32, 8, 9, 33, 34, 35, 36, 37, 38, 39, 40, 41, 26, 27] (.seq (.seq (.reg [o 22 (.mov (t 7)),
    o 23 (.mov (t 1)),
    o 24 (.bin .sub (t 23) (.cst (.int .i64 1))),
    o 25 (.bin .lss (t 22) (t 24))])
  (.cond (t 25)
   (.skip)
   (.exit 0)))
  (.seq (.block 1 (.seq (.reg [o 29 (.mov (t 0)),
     o 30 (.call 0 (.fn 33) [(t 29)]),
     o 28 (.mov (t 30)),
     o 31 (.extract 0 (t 28)),
     o 32 (.extract 1 (t 28)),
     o 8 (.mov (t 31)),
     o 9 (.mov (t 32))])
   (.seq (.reg [o 33 (.mov (t 6)),
     o 34 (.mov (t 7)),
     o 35 (.mov (t 0)),
     o 36 (.mov (t 9)),
     o 37 (.slcS (t 35) none (some (t 36))),
     o 38 (.idxAddr 1 (t 33) (t 34)),
     e (.store 1 (t 38) (t 37))])
   (.reg [o 39 (.mov (t 0)),
     o 40 (.mov (t 9)),
     o 41 (.slcS (t 39) (some (t 40)) none),
     o 0 (.mov (t 41))]))))
  (.reg [o 26 (.mov (t 7)),
    o 27 (.bin .add (t 26) (.cst (.int .i64 1))),
    o 7 (.mov (t 27))]))))))
(.seq (.seq (.reg [o 42 (.mov (t 1)),
  o 43 (.bin .gtr (t 42) (.cst (.int .i64 0)))])
(.cond (t 43)
 (.reg [o 44 (.mov (t 6)),
   o 45 (.mov (t 1)),
   o 46 (.bin .sub (t 45) (.cst (.int .i64 1))),
   o 47 (.mov (t 0)),
   o 48 (.idxAddr 1 (t 44) (t 46)),
   e (.store 1 (t 48) (t 47))])
 (.skip)))
(.gh [.kill [42, 43, 44, 45, 46, 47, 48]] (.seq (.reg [o 49 (.mov (t 6)),
  o 4 (.mov (t 49))])
(.ret))))))))), [.tmp 4]⟩
theorem ir37_tr : trF Tryz.prog ir37 Tryz.f37 = some ir37 := by kernel_rfl

-- internal/stringslite.CutPrefix
def ir40 : IF := ⟨15, .seq (.reg [o 4 (.mov (.cst (.str []))),
  o 5 (.mov (.cst (.bool false)))])
(.seq (.seq (.reg [o 6 (.mov (t 0)),
  o 7 (.mov (t 1)),
  o 8 (.call 0 (.fn 25) [(t 6), (t 7)]),
  o 9 (.not (t 8))])
(.cond (t 9)
 (.seq (.reg [o 10 (.mov (t 0)),
   o 4 (.mov (t 10)),
   o 5 (.mov (.cst (.bool false)))])
 (.ret))
 (.skip)))
(.seq (.reg [o 11 (.mov (t 0)),
  o 12 (.mov (t 1)),
  o 13 (.len .str (t 12)),
  o 14 (.slcS (t 11) (some (t 13)) none),
  o 4 (.mov (t 14)),
  o 5 (.mov (.cst (.bool true)))])
(.ret))), [.tmp 4, .tmp 5]⟩
theorem ir40_tr : trF Tryz.prog ir40 Tryz.f40 = some ir40 := by kernel_rfl

-- grille/lex.Words$1
def ir41 : IF := ⟨10, .seq (.reg [o 2 (.mov (.cst (.bool false)))])
(.seq (.reg [o 3 (.mov (t 0)),
  o 4 (.call 0 (.fn 42) [(t 3)]),
  o 5 (.not (t 4)),
  o 6 (.mov (t 5)),
  og 7 6 false (.mov (t 0)),
  og 8 6 false (.bin .eql (t 7) (.cst (.int .i32 10))),
  o 9 (.pick (t 6) (.cst (.bool true)) (t 8)),
  o 2 (.mov (t 9))])
(.ret)), [.tmp 2]⟩
theorem ir41_tr : trF Tryz.prog ir41 Tryz.f41 = some ir41 := by kernel_rfl

-- grille/text.May
def ir42 : IF := ⟨43, .seq (.reg [o 2 (.mov (.cst (.bool false)))])
(.seq (.block 0 (.seq (.reg [o 4 (.mov (t 0)),
   o 5 (.bin .eql (t 4) (.cst (.int .i32 9))),
   o 6 (.mov (t 5)),
   og 7 6 false (.mov (t 0)),
   og 8 6 false (.bin .eql (t 7) (.cst (.int .i32 10))),
   o 9 (.pick (t 6) (.cst (.bool true)) (t 8)),
   o 10 (.mov (t 9)),
   og 11 10 false (.mov (t 0)),
   og 12 10 false (.bin .eql (t 11) (.cst (.int .i32 13))),
   o 13 (.pick (t 10) (.cst (.bool true)) (t 12)),
   o 14 (.mov (t 13)),
   og 15 14 false (.mov (t 0)),
   og 16 14 false (.bin .eql (t 15) (.cst (.int .i32 133))),
   o 17 (.pick (t 14) (.cst (.bool true)) (t 16)),
   o 3 (.mov (t 17))])
 (.gh [.kill [4, 5, 6, 7, 8, 9, 10, 11, 12, 13, 14, 15, 16, 17]] (.cond (t 3)
  (.seq (.reg [o 2 (.mov (.cst (.bool true)))])
  (.ret))
  (.seq (.reg [o 19 (.mov (t 0)),
    o 20 (.bin .eql (t 19) (.cst (.int .i32 65279))),
    o 21 (.mov (t 20)),
    og 22 21 false (.mov (t 0)),
    og 23 21 false (.bin .eql (t 22) (.cst (.int .i32 65534))),
    o 24 (.pick (t 21) (.cst (.bool true)) (t 23)),
    o 25 (.mov (t 24)),
    og 26 25 false (.mov (t 0)),
    og 27 25 false (.bin .eql (t 26) (.cst (.int .i32 65535))),
    o 28 (.pick (t 25) (.cst (.bool true)) (t 27)),
    o 18 (.mov (t 28))])
  (.gh [.kill [19, 20, 21, 22, 23, 24, 25, 26, 27, 28]] (.cond (t 18)
   (.seq (.reg [o 2 (.mov (.cst (.bool false)))])
   (.ret))
   (.skip))))))))
(.seq (.reg [o 29 (.mov (t 0)),
  o 30 (.bin .geq (t 29) (.cst (.int .i32 32))),
  o 31 (.mov (t 30)),
  og 32 31 true (.mov (t 0)),
  og 33 31 true (.bin .lss (t 32) (.cst (.int .i32 127))),
  o 34 (.pick (t 31) (t 33) (.cst (.bool false))),
  o 35 (.mov (t 34)),
  og 36 35 false (.mov (t 0)),
  og 37 35 false (.bin .geq (t 36) (.cst (.int .i32 160))),
  og 38 35 false (.mov (t 37)),
  og 39 38 true (.mov (t 0)),
  og 40 38 true (.call 0 (.fn 54) [(t 39)]),
  og 41 35 false (.pick (t 38) (t 40) (.cst (.bool false))),
  o 42 (.pick (t 35) (.cst (.bool true)) (t 41)),
  o 2 (.mov (t 42))])
(.ret))), [.tmp 2]⟩
theorem ir42_tr : trF Tryz.prog ir42 Tryz.f42 = some ir42 := by kernel_rfl

-- strings.ContainsFunc
def ir44 : IF := ⟨9, .seq (.reg [o 4 (.mov (.cst (.bool false)))])
(.seq (.reg [o 5 (.mov (t 0)),
  o 6 (.mov (t 1)),
  o 7 (.call 0 (.fn 56) [(t 5), (t 6)]),
  o 8 (.bin .geq (t 7) (.cst (.int .i64 0))),
  o 4 (.mov (t 8))])
(.ret)), [.tmp 4]⟩
theorem ir44_tr : trF Tryz.prog ir44 Tryz.f44 = some ir44 := by kernel_rfl

-- (*grille/lex.line).remark
def ir45 : IF := ⟨26, .seq (.reg [o 4 (.mov (.cst (.bool false)))])
(.seq (.reg [o 5 (.mov (t 0)),
  o 6 (.nilck (t 5)),
  o 7 (.fieldAddr 0 (t 6)),
  o 8 (.load none (t 7)),
  o 9 (.mov (t 1)),
  o 10 (.idxStr (t 8) (t 9)),
  o 11 (.bin .eql (t 10) (.cst (.int .u8 35))),
  o 12 (.mov (t 11)),
  og 13 12 true (.mov (t 1)),
  og 14 12 true (.bin .eql (t 13) (.cst (.int .i64 0))),
  og 15 12 true (.mov (t 14)),
  og 16 15 false (.mov (t 0)),
  og 17 15 false (.nilck (t 16)),
  og 18 15 false (.fieldAddr 0 (t 17)),
  og 19 15 false (.load none (t 18)),
  og 20 15 false (.mov (t 1)),
  og 21 15 false (.bin .sub (t 20) (.cst (.int .i64 1))),
  og 22 15 false (.idxStr (t 19) (t 21)),
  og 23 15 false (.bin .eql (t 22) (.cst (.int .u8 32))),
  og 24 12 true (.pick (t 15) (.cst (.bool true)) (t 23)),
  o 25 (.pick (t 12) (t 24) (.cst (.bool false))),
  o 4 (.mov (t 25))])
(.ret)), [.tmp 4]⟩
theorem ir45_tr : trF Tryz.prog ir45 Tryz.f45 = some ir45 := by kernel_rfl

-- (*grille/lex.line).next
def ir46 : IF := ⟨74, .seq (.reg [o 2 (.mov (.cst (.int .i64 0)))])
(.seq (.reg [o 7 (.mov (t 0)),
  o 8 (.call 0 (.fn 57) [(t 7)]),
  o 3 (.mov (t 8))])
(.seq (.reg [o 4 (.mov (.cst (.int .i64 (-1))))])
(.seq (.seq (.reg [o 9 (.mov (t 3)),
  o 10 (.idxStr (t 9) (.cst (.int .i64 0))),
  o 5 (.mov (t 10))])
(.seq (.reg [o 11 (.mov (t 5))])
(.block 0 (.seq (.reg [o 19 (.bin .eql (t 11) (.cst (.int .u8 9))),
   o 18 (.mov (t 19))])
 (.cond (t 18)
  (.seq (.reg [o 2 (.mov (.cst (.int .i64 8)))])
  (.ret))
  (.seq (.reg [o 21 (.bin .eql (t 11) (.cst (.int .u8 34))),
    o 20 (.mov (t 21))])
  (.cond (t 20)
   (.seq (.reg [o 22 (.mov (t 0)),
     o 23 (.call 0 (.fn 58) [(t 22), (.cst (.int .i64 2)), (.fn 59)]),
     o 2 (.mov (t 23))])
   (.ret))
   (.seq (.reg [o 25 (.bin .eql (t 11) (.cst (.int .u8 39))),
     o 24 (.mov (t 25))])
   (.cond (t 24)
    (.seq (.reg [o 26 (.mov (t 0)),
      o 27 (.call 0 (.fn 58) [(t 26), (.cst (.int .i64 1)), (.fn 60)]),
      o 2 (.mov (t 27))])
    (.ret))
    (.seq (.reg [o 29 (.bin .eql (t 11) (.cst (.int .u8 38))),
      o 28 (.mov (t 29))])
    (.cond (t 28)
     (.seq (.reg [o 30 (.mov (t 0)),
       o 31 (.call 0 (.fn 61) [(t 30), (.cst (.int .i64 3))]),
       o 2 (.mov (t 31))])
     (.ret))
     (.seq (.reg [o 33 (.bin .eql (t 11) (.cst (.int .u8 42))),
       o 32 (.mov (t 33))])
     (.cond (t 32)
      (.seq (.reg [o 34 (.mov (t 0)),
        o 35 (.call 0 (.fn 61) [(t 34), (.cst (.int .i64 4))]),
        o 2 (.mov (t 35))])
      (.ret))
      (.seq (.reg [o 37 (.bin .eql (t 11) (.cst (.int .u8 33))),
        o 36 (.mov (t 37))])
      (.cond (t 36)
       (.seq (.reg [o 38 (.mov (t 0)),
         o 39 (.call 0 (.fn 61) [(t 38), (.cst (.int .i64 5))]),
         o 2 (.mov (t 39))])
       (.ret))
       (.seq (.reg [o 41 (.bin .eql (t 11) (.cst (.int .u8 45))),
         o 40 (.mov (t 41))])
       (.cond (t 40)
        (.seq (.reg [o 42 (.mov (t 0)),
          o 43 (.call 0 (.fn 62) [(t 42)]),
          o 44 (.mov (t 43)),
          og 45 44 true (.mov (t 3)),
          og 46 44 true (.len .str (t 45)),
          og 47 44 true (.bin .eql (t 46) (.cst (.int .i64 1))),
          og 48 44 true (.mov (t 47)),
          og 49 48 false (.mov (t 3)),
          og 50 48 false (.idxStr (t 49) (.cst (.int .i64 1))),
          og 51 48 false (.bin .eql (t 50) (.cst (.int .u8 32))),
          og 52 44 true (.pick (t 48) (.cst (.bool true)) (t 51)),
          o 53 (.pick (t 44) (t 52) (.cst (.bool false)))])
        (.gh [.kill [42, 43, 44, 45, 46, 47, 48, 49, 50, 51, 52]] (.cond (t 53)
         (.reg [o 4 (.mov (.cst (.int .i64 12)))])
         (.skip))))
        (.seq (.reg [o 55 (.bin .eql (t 11) (.cst (.int .u8 124))),
          o 54 (.mov (t 55))])
        (.cond (t 54)
         (.seq (.reg [o 56 (.mov (t 0)),
           o 57 (.call 0 (.fn 63) [(t 56)])])
         (.cond (t 57)
          (.reg [o 4 (.mov (.cst (.int .i64 13)))])
          (.skip)))
         (.seq (.reg [o 59 (.bin .eql (t 11) (.cst (.int .u8 58))),
           o 58 (.mov (t 59))])
         (.cond (t 58)
          (.seq (.reg [o 60 (.mov (t 3)),
            o 61 (.call 0 (.fn 64) [(t 60)])])
          (.cond (t 61)
           (.reg [o 4 (.mov (.cst (.int .i64 11)))])
           (.skip)))
          (.seq (.reg [o 12 (.mov (t 5)),
            o 13 (.call 0 (.fn 65) [(.cst (.str [91, 93, 123, 125, 44])), (t 12)]),
            o 6 (.mov (t 13))])
          (.seq (.reg [o 14 (.mov (t 6)),
            o 15 (.bin .geq (t 14) (.cst (.int .i64 0)))])
          (.cond (t 15)
           (.reg [o 16 (.mov (t 6)),
             o 17 (.bin .add (.cst (.int .i64 6)) (t 16)),
             o 4 (.mov (t 17))])
           (.skip)))))))))))))))))))))))))
(.gh [.kill [9, 10, 5, 11, 19, 18, 21, 20, 22, 23, 25, 24, 26, 27, 29, 28, 30, 31, 33, 32, 34, 35, 37, 36, 38, 39, 2, 41, 40, 53, 42, 43, 44, 45, 46, 47, 48, 49, 50, 51, 52, 55, 54, 56, 57, 59, 58, 60, 61, 12, 13, 6, 14, 15, 16, 17]] (.seq (.seq (.reg [o 62 (.mov (t 4)),
  o 63 (.bin .lss (t 62) (.cst (.int .i64 0)))])
(.cond (t 63)
 (.seq (.reg [o 64 (.mov (t 0)),
   o 65 (.call 0 (.fn 66) [(t 64)]),
   o 2 (.mov (t 65))])
 (.ret))
 (.skip)))
(.seq (.reg [o 66 (.mov (t 0)),
  o 67 (.mov (t 4)),
  o 68 (.mov (t 0)),
  o 69 (.nilck (t 68)),
  o 70 (.fieldAddr 1 (t 69)),
  o 71 (.load none (t 70)),
  o 72 (.bin .add (t 71) (.cst (.int .i64 1))),
  o 73 (.call 0 (.fn 67) [(t 66), (t 67), (.cst (.str [])), (t 72)])])
(.seq (.reg [o 2 (.mov (.cst (.int .i64 0)))])
(.ret)))))))), [.tmp 2]⟩
theorem ir46_tr : trF Tryz.prog ir46 Tryz.f46 = some ir46 := by kernel_rfl

-- grille/lines.blank
def ir47 : IF := ⟨8, .seq (.reg [o 2 (.mov (.cst (.bool false)))])
(.seq (.reg [o 3 (.mov (t 0)),
  o 4 (.call 0 (.fn 5) [(t 3)]),
  o 5 (.mov (t 0)),
  o 6 (.len .str (t 5)),
  o 7 (.bin .eql (t 4) (t 6)),
  o 2 (.mov (t 7))])
(.ret)), [.tmp 2]⟩
theorem ir47_tr : trF Tryz.prog ir47 Tryz.f47 = some ir47 := by kernel_rfl

-- grille/lines.strange
def ir48 : IF := ⟨6, .seq (.reg [o 2 (.mov (.cst (.bool false)))])
(.seq (.reg [o 3 (.mov (t 0)),
  o 4 (.call 0 (.fn 42) [(t 3)]),
  o 5 (.not (t 4)),
  o 2 (.mov (t 5))])
(.ret)), [.tmp 2]⟩
theorem ir48_tr : trF Tryz.prog ir48 Tryz.f48 = some ir48 := by kernel_rfl

-- unicode/utf8.RuneCountInString
def ir51 : IF := ⟨10, .seq (.reg [o 2 (.mov (.cst (.int .i64 0)))])
(.seq (.seq (.reg [o 3 (.mov (t 0)),
  o 4 (.rangeS (t 3))])
(.block 0 (.loop [5, 6, 7, 8] (.seq (.reg [o 5 (.nextS (t 4)),
    o 6 (.extract 0 (t 5))])
  (.seq (.cond (t 6)
   (.skip)
   (.exit 0))
  (.block 1 (.reg [o 7 (.mov (t 2)),
     o 8 (.bin .add (t 7) (.cst (.int .i64 1))),
     o 2 (.mov (t 8))])))))))
(.seq (.reg [o 9 (.mov (t 2)),
  o 2 (.mov (t 9))])
(.ret))), [.tmp 2]⟩
theorem ir51_tr : trF Tryz.prog ir51 Tryz.f51 = some ir51 := by kernel_rfl

-- unicode/utf8.ValidRune
def ir54 : IF := ⟨17, .seq (.reg [o 2 (.mov (.cst (.bool false)))])
(.seq (.block 0 (.seq (.reg [o 4 (.mov (t 0)),
   o 5 (.bin .leq (.cst (.int .i32 0)) (t 4)),
   o 6 (.mov (t 5)),
   og 7 6 true (.mov (t 0)),
   og 8 6 true (.bin .lss (t 7) (.cst (.int .i32 55296))),
   o 9 (.pick (t 6) (t 8) (.cst (.bool false))),
   o 3 (.mov (t 9))])
 (.gh [.kill [4, 5, 6, 7, 8, 9]] (.cond (t 3)
  (.seq (.reg [o 2 (.mov (.cst (.bool true)))])
  (.ret))
  (.seq (.reg [o 11 (.mov (t 0)),
    o 12 (.bin .lss (.cst (.int .i32 57343)) (t 11)),
    o 13 (.mov (t 12)),
    og 14 13 true (.mov (t 0)),
    og 15 13 true (.bin .leq (t 14) (.cst (.int .i32 1114111))),
    o 16 (.pick (t 13) (t 15) (.cst (.bool false))),
    o 10 (.mov (t 16))])
  (.gh [.kill [11, 12, 13, 14, 15, 16]] (.cond (t 10)
   (.seq (.reg [o 2 (.mov (.cst (.bool true)))])
   (.ret))
   (.skip))))))))
(.seq (.reg [o 2 (.mov (.cst (.bool false)))])
(.ret))), [.tmp 2]⟩
theorem ir54_tr : trF Tryz.prog ir54 Tryz.f54 = some ir54 := by kernel_rfl

-- strings.IndexFunc
def ir56 : IF := ⟨8, .seq (.reg [o 4 (.mov (.cst (.int .i64 0)))])
(.seq (.reg [o 5 (.mov (t 0)),
  o 6 (.mov (t 1)),
  o 7 (.call 0 (.fn 72) [(t 5), (t 6), (.cst (.bool true))]),
  o 4 (.mov (t 7))])
(.ret)), [.tmp 4]⟩
theorem ir56_tr : trF Tryz.prog ir56 Tryz.f56 = some ir56 := by kernel_rfl

-- (*grille/lex.line).rest
def ir57 : IF := ⟨12, .seq (.reg [o 2 (.mov (.cst (.str [])))])
(.seq (.dreg [o 3 (.mov (t 0)),
  o 4 (.nilck (t 3)),
  o 5 (.fieldAddr 0 (t 4)),
  o 6 (.load none (t 5)),
  o 7 (.mov (t 0)),
  o 8 (.nilck (t 7)),
  o 9 (.fieldAddr 1 (t 8)),
  o 10 (.load none (t 9)),
  o 11 (.slcS (t 6) (some (t 10)) none),
  o 2 (.mov (t 11))] [[], [0], [0, 1], [0, 1, 2], [], [4], [4, 5], [4, 5, 6], [0, 1, 2, 3, 4, 5, 6, 7], [0, 1, 2, 3, 4, 5, 6, 7, 8]])
(.ret)), [.tmp 2]⟩
theorem ir57_tr : trF Tryz.prog ir57 Tryz.f57 = some ir57 := by kernel_rfl

-- (*grille/lex.line).quoted
def ir58 : IF := ⟨41, .seq (.reg [o 6 (.mov (.cst (.int .i64 0)))])
(.seq (.reg [o 11 (.mov (t 0)),
  o 12 (.call 0 (.fn 57) [(t 11)]),
  o 13 (.call 0 (.fn 73) [(t 12)]),
  o 10 (.mov (t 13)),
  o 14 (.extract 0 (t 10)),
  o 15 (.extract 1 (t 10)),
  o 7 (.mov (t 14)),
  o 8 (.mov (t 15))])
(.seq (.seq (.reg [o 16 (.mov (t 8)),
  o 17 (.bin .neq (t 16) (.cst (.int .i64 0)))])
(.cond (t 17)
 (.seq (.reg [o 18 (.mov (t 8)),
   o 6 (.mov (t 18))])
 (.ret))
 (.skip)))
(.seq (.reg [o 20 (.mov (t 2)),
  o 21 (.mov (t 0)),
  o 22 (.call 0 (.fn 57) [(t 21)]),
  o 23 (.mov (t 7)),
  o 24 (.slcS (t 22) none (some (t 23))),
  o 25 (.call 0 (t 20) [(t 24)]),
  o 19 (.mov (t 25)),
  o 26 (.extract 0 (t 19)),
  o 27 (.extract 1 (t 19)),
  o 9 (.mov (t 26)),
  o 8 (.mov (t 27))])
(.seq (.seq (.reg [o 28 (.mov (t 8)),
  o 29 (.bin .eql (t 28) (.cst (.int .i64 0)))])
(.cond (t 29)
 (.reg [o 30 (.mov (t 0)),
   o 31 (.mov (t 1)),
   o 32 (.mov (t 9)),
   o 33 (.mov (t 0)),
   o 34 (.nilck (t 33)),
   o 35 (.fieldAddr 1 (t 34)),
   o 36 (.load none (t 35)),
   o 37 (.mov (t 7)),
   o 38 (.bin .add (t 36) (t 37)),
   o 39 (.call 0 (.fn 67) [(t 30), (t 31), (t 32), (t 38)])])
 (.skip)))
(.gh [.kill [28, 29, 30, 31, 32, 33, 34, 35, 36, 37, 38, 39]] (.seq (.reg [o 40 (.mov (t 8)),
  o 6 (.mov (t 40))])
(.ret))))))), [.tmp 6]⟩
theorem ir58_tr : trF Tryz.prog ir58 Tryz.f58 = some ir58 := by kernel_rfl

-- grille/scalar.Unquote
def ir59 : IF := ⟨65, .seq (.reg [o 2 (.mov (.cst (.str []))),
  o 3 (.mov (.cst (.int .i64 0)))])
(.seq (.reg [o 10 (.mov (t 0)),
  o 11 (.len .str (t 10)),
  o 4 (.mov (t 11))])
(.seq (.seq (.reg [o 12 (.mov (t 0)),
  o 13 (.call 0 (.fn 43) [(t 12)]),
  o 14 (.not (t 13)),
  o 15 (.mov (t 14)),
  og 16 15 false (.mov (t 4)),
  og 17 15 false (.bin .lss (t 16) (.cst (.int .i64 2))),
  o 18 (.pick (t 15) (.cst (.bool true)) (t 17)),
  o 19 (.mov (t 18)),
  og 20 19 false (.mov (t 0)),
  og 21 19 false (.idxStr (t 20) (.cst (.int .i64 0))),
  og 22 19 false (.bin .neq (t 21) (.cst (.int .u8 34))),
  o 23 (.pick (t 19) (.cst (.bool true)) (t 22)),
  o 24 (.mov (t 23)),
  og 25 24 false (.mov (t 0)),
  og 26 24 false (.mov (t 4)),
  og 27 24 false (.bin .sub (t 26) (.cst (.int .i64 1))),
  og 28 24 false (.idxStr (t 25) (t 27)),
  og 29 24 false (.bin .neq (t 28) (.cst (.int .u8 34))),
  o 30 (.pick (t 24) (.cst (.bool true)) (t 29))])
(.gh [.kill [12, 13, 14, 15, 16, 17, 18, 19, 20, 21, 22, 23, 24, 25, 26, 27, 28, 29]] (.cond (t 30)
 (.seq (.reg [o 2 (.mov (.cst (.str []))),
   o 3 (.mov (.cst (.int .i64 10)))])
 (.ret))
 (.skip))))
(.seq (.reg [o 5 (.alloc [.bnil, .nils])])
(.seq (.seq (.reg [o 31 (.mov (t 0)),
  o 32 (.mov (t 4)),
  o 33 (.bin .sub (t 32) (.cst (.int .i64 1))),
  o 34 (.slcS (t 31) (some (.cst (.int .i64 1))) (some (t 33))),
  o 6 (.mov (t 34))])
(.block 0 (.loop [35, 36, 37, 38, 44, 45, 46, 48, 47, 50, 51, 52, 49, 53, 54, 55, 7, 8, 9, 56, 57, 2, 3, 58, 59, 60, 61, 62, 63, 39, 40, 41, 42, 43] (.seq (.seq (.reg [o 35 (.mov (t 6)),
    o 36 (.bin .neq (t 35) (.cst (.str [])))])
  (.cond (t 36)
   (.skip)
   (.exit 0)))
  (.block 1 (.seq (.reg [o 37 (.mov (t 6)),
     o 38 (.idxStr (t 37) (.cst (.int .i64 0)))])
   (.block 2 (.seq (.seq (.reg [o 45 (.bin .eql (t 38) (.cst (.int .u8 34))),
      o 44 (.mov (t 45))])
    (.cond (t 44)
     (.skip)
     (.reg [o 46 (.bin .eql (t 38) (.cst (.int .u8 10))),
       o 44 (.mov (t 46))])))
    (.gh [.kill [45, 46]] (.cond (t 44)
     (.seq (.reg [o 2 (.mov (.cst (.str []))),
       o 3 (.mov (.cst (.int .i64 10)))])
     (.ret))
     (.seq (.reg [o 48 (.bin .eql (t 38) (.cst (.int .u8 92))),
       o 47 (.mov (t 48))])
     (.cond (t 47)
      (.seq (.reg [o 50 (.mov (t 6)),
        o 51 (.slcS (t 50) (some (.cst (.int .i64 1))) none),
        o 52 (.call 0 (.fn 74) [(t 51)]),
        o 49 (.mov (t 52)),
        o 53 (.extract 0 (t 49)),
        o 54 (.extract 1 (t 49)),
        o 55 (.extract 2 (t 49)),
        o 7 (.mov (t 53)),
        o 8 (.mov (t 54)),
        o 9 (.mov (t 55))])
      (.seq (.seq (.reg [o 56 (.mov (t 9)),
        o 57 (.not (t 56))])
      (.cond (t 57)
       (.seq (.reg [o 2 (.mov (.cst (.str []))),
         o 3 (.mov (.cst (.int .i64 10)))])
       (.ret))
       (.skip)))
      (.seq (.reg [o 58 (.mov (t 7)),
        o 59 (.call 0 (.fn 75) [(t 5), (t 58)])])
      (.reg [o 60 (.mov (t 6)),
        o 61 (.mov (t 8)),
        o 62 (.bin .add (.cst (.int .i64 1)) (t 61)),
        o 63 (.slcS (t 60) (some (t 62)) none),
        o 6 (.mov (t 63))]))))
      (.seq (.reg [o 39 (.mov (t 6)),
        o 40 (.idxStr (t 39) (.cst (.int .i64 0))),
        o 41 (.call 0 (.fn 76) [(t 5), (t 40)])])
      (.reg [o 42 (.mov (t 6)),
        o 43 (.slcS (t 42) (some (.cst (.int .i64 1))) none),
        o 6 (.mov (t 43))]))))))))))))))
(.seq (.reg [o 64 (.call 0 (.fn 14) [(t 5)]),
  o 2 (.mov (t 64)),
  o 3 (.mov (.cst (.int .i64 0)))])
(.ret)))))), [.tmp 2, .tmp 3]⟩
theorem ir59_tr : trF Tryz.prog ir59 Tryz.f59 = some ir59 := by kernel_rfl

-- grille/scalar.Unsingle
def ir60 : IF := ⟨29, .seq (.reg [o 2 (.mov (.cst (.str []))),
  o 3 (.mov (.cst (.int .i64 0)))])
(.seq (.seq (.reg [o 7 (.mov (t 0)),
  o 8 (.len .str (t 7)),
  o 9 (.bin .lss (t 8) (.cst (.int .i64 2)))])
(.cond (t 9)
 (.seq (.reg [o 2 (.mov (.cst (.str []))),
   o 3 (.mov (.cst (.int .i64 10)))])
 (.ret))
 (.skip)))
(.seq (.reg [o 10 (.mov (t 0)),
  o 11 (.mov (t 0)),
  o 12 (.len .str (t 11)),
  o 13 (.bin .sub (t 12) (.cst (.int .i64 1))),
  o 14 (.slcS (t 10) (some (.cst (.int .i64 1))) (some (t 13))),
  o 15 (.call 0 (.fn 77) [(t 14), (.cst (.str [39, 39])), (.cst (.str [39]))]),
  o 4 (.mov (t 15))])
(.seq (.seq (.reg [o 17 (.mov (t 4)),
  o 18 (.call 0 (.fn 78) [(t 17)]),
  o 16 (.mov (t 18)),
  o 19 (.extract 0 (t 16)),
  o 20 (.extract 1 (t 16)),
  o 5 (.mov (t 19)),
  o 6 (.mov (t 20))])
(.seq (.reg [o 21 (.mov (t 6)),
  o 22 (.bin .neq (t 21) (.cst (.int .i64 0))),
  o 23 (.mov (t 22)),
  og 24 23 false (.mov (t 5)),
  og 25 23 false (.mov (t 0)),
  og 26 23 false (.bin .neq (t 24) (t 25)),
  o 27 (.pick (t 23) (.cst (.bool true)) (t 26))])
(.gh [.kill [21, 22, 23, 24, 25, 26]] (.cond (t 27)
 (.seq (.reg [o 2 (.mov (.cst (.str []))),
   o 3 (.mov (.cst (.int .i64 10)))])
 (.ret))
 (.skip)))))
(.seq (.reg [o 28 (.mov (t 4)),
  o 2 (.mov (t 28)),
  o 3 (.mov (.cst (.int .i64 0)))])
(.ret))))), [.tmp 2, .tmp 3]⟩
theorem ir60_tr : trF Tryz.prog ir60 Tryz.f60 = some ir60 := by kernel_rfl

-- (*grille/lex.line).named
def ir61 : IF := ⟨40, .seq (.reg [o 2 (.box (t 0)),
  o 4 (.mov (.cst (.int .i64 0)))])
(.seq (.reg [o 7 (.load none (t 2)),
  o 8 (.mkFn (.func 80) [] [(t 2)]),
  o 9 (.call 0 (.fn 79) [(t 7), (t 8)]),
  o 5 (.mov (t 9))])
(.seq (.dreg [o 10 (.load none (t 2)),
  o 11 (.nilck (t 10)),
  o 12 (.fieldAddr 0 (t 11)),
  o 13 (.load none (t 12)),
  o 14 (.load none (t 2)),
  o 15 (.nilck (t 14)),
  o 16 (.fieldAddr 1 (t 15)),
  o 17 (.load none (t 16)),
  o 18 (.mov (t 5)),
  o 19 (.slcS (t 13) (some (t 17)) (some (t 18))),
  o 6 (.mov (t 19))] [[], [0], [0, 1], [0, 1, 2], [], [4], [4, 5], [4, 5, 6], [], [0, 1, 2, 3, 4, 5, 6, 7, 8], [0, 1, 2, 3, 4, 5, 6, 7, 8, 9]])
(.seq (.seq (.reg [o 20 (.mov (t 1)),
  o 21 (.bin .eql (t 20) (.cst (.int .i64 5)))])
(.cond (t 21)
 (.reg [o 23 (.mov (t 6)),
   o 24 (.call 0 (.fn 82) [(t 23)]),
   o 22 (.mov (t 24)),
   o 25 (.extract 0 (t 22)),
   o 26 (.extract 1 (t 22)),
   o 6 (.mov (t 25)),
   o 4 (.mov (t 26))])
 (.seq (.reg [o 27 (.mov (t 6)),
   o 28 (.slcS (t 27) (some (.cst (.int .i64 1))) none),
   o 6 (.mov (t 28))])
 (.seq (.reg [o 29 (.mov (t 6)),
   o 30 (.call 0 (.fn 83) [(t 29)]),
   o 31 (.not (t 30))])
 (.cond (t 31)
  (.reg [o 4 (.mov (.cst (.int .i64 5)))])
  (.skip))))))
(.gh [.kill [20, 21, 23, 24, 22, 25, 26, 27, 28, 29, 30, 31]] (.seq (.seq (.reg [o 32 (.mov (t 4)),
  o 33 (.bin .eql (t 32) (.cst (.int .i64 0)))])
(.cond (t 33)
 (.reg [o 34 (.load none (t 2)),
   o 35 (.mov (t 1)),
   o 36 (.mov (t 6)),
   o 37 (.mov (t 5)),
   o 38 (.call 0 (.fn 67) [(t 34), (t 35), (t 36), (t 37)])])
 (.skip)))
(.gh [.kill [32, 33, 34, 35, 36, 37, 38]] (.seq (.reg [o 39 (.mov (t 4)),
  o 4 (.mov (t 39))])
(.ret)))))))), [.tmp 4]⟩
theorem ir61_tr : trF Tryz.prog ir61 Tryz.f61 = some ir61 := by kernel_rfl

-- (*grille/lex.line).dashes
def ir62 : IF := ⟨25, .seq (.reg [o 2 (.mov (.cst (.bool false)))])
(.seq (.dreg [o 3 (.mov (t 0)),
  o 4 (.nilck (t 3)),
  o 5 (.fieldAddr 2 (t 4)),
  o 6 (.load none (t 5)),
  o 7 (.len .row (t 6)),
  o 8 (.bin .eql (t 7) (.cst (.int .i64 0))),
  o 9 (.mov (t 8)),
  og 10 9 false (.mov (t 0)),
  og 11 9 false (.nilck (t 10)),
  og 12 9 false (.fieldAddr 2 (t 11)),
  og 13 9 false (.load none (t 12)),
  og 14 9 false (.mov (t 0)),
  og 15 9 false (.nilck (t 14)),
  og 16 9 false (.fieldAddr 2 (t 15)),
  og 17 9 false (.load none (t 16)),
  og 18 9 false (.len .row (t 17)),
  og 19 9 false (.bin .sub (t 18) (.cst (.int .i64 1))),
  og 20 9 false (.idxAddr 3 (t 13) (t 19)),
  og 21 9 false (.fieldAddr 0 (t 20)),
  og 22 9 false (.load none (t 21)),
  og 23 9 false (.bin .eql (t 22) (.cst (.int .i64 12))),
  o 24 (.pick (t 9) (.cst (.bool true)) (t 23)),
  o 2 (.mov (t 24))] [[], [0], [0, 1], [0, 1, 2], [0, 1, 2, 3], [0, 1, 2, 3, 4], [0, 1, 2, 3, 4, 5], [0, 1, 2, 3, 4, 5, 6], [0, 1, 2, 3, 4, 5, 6, 7], [0, 1, 2, 3, 4, 5, 6, 7, 8], [0, 1, 2, 3, 4, 5, 6, 7, 8, 9], [0, 1, 2, 3, 4, 5, 6], [0, 1, 2, 3, 4, 5, 6, 11], [0, 1, 2, 3, 4, 5, 6, 11, 12], [0, 1, 2, 3, 4, 5, 6, 11, 12, 13], [0, 1, 2, 3, 4, 5, 6, 11, 12, 13, 14], [0, 1, 2, 3, 4, 5, 6, 11, 12, 13, 14, 15], [0, 1, 2, 3, 4, 5, 6, 7, 8, 9, 10, 11, 12, 13, 14, 15, 16], [0, 1, 2, 3, 4, 5, 6, 7, 8, 9, 10, 11, 12, 13, 14, 15, 16, 17], [0, 1, 2, 3, 4, 5, 6, 7, 8, 9, 10, 11, 12, 13, 14, 15, 16, 17, 18], [0, 1, 2, 3, 4, 5, 6, 7, 8, 9, 10, 11, 12, 13, 14, 15, 16, 17, 18, 19], [0, 1, 2, 3, 4, 5, 6, 7, 8, 9, 10, 11, 12, 13, 14, 15, 16, 17, 18, 19, 20], [0, 1, 2, 3, 4, 5, 6, 7, 8, 9, 10, 11, 12, 13, 14, 15, 16, 17, 18, 19, 20, 21]])
(.ret)), [.tmp 2]⟩
theorem ir62_tr : trF Tryz.prog ir62 Tryz.f62 = some ir62 := by kernel_rfl

-- (*grille/lex.line).bar
def ir63 : IF := ⟨19, .seq (.reg [o 1 (.box (t 0)),
  o 2 (.mov (.cst (.bool false)))])
(.seq (.reg [o 4 (.load none (t 1)),
  o 5 (.mkFn (.func 84) [] [(t 1)]),
  o 6 (.call 0 (.fn 79) [(t 4), (t 5)]),
  o 3 (.mov (t 6))])
(.seq (.reg [o 7 (.mov (t 3)),
  o 8 (.load none (t 1)),
  o 9 (.nilck (t 8)),
  o 10 (.fieldAddr 0 (t 9)),
  o 11 (.load none (t 10)),
  o 12 (.len .str (t 11)),
  o 13 (.bin .eql (t 7) (t 12)),
  o 14 (.mov (t 13)),
  og 15 14 false (.load none (t 1)),
  og 16 14 false (.mov (t 3)),
  og 17 14 false (.call 0 (.fn 45) [(t 15), (t 16)]),
  o 18 (.pick (t 14) (.cst (.bool true)) (t 17)),
  o 2 (.mov (t 18))])
(.ret))), [.tmp 2]⟩
theorem ir63_tr : trF Tryz.prog ir63 Tryz.f63 = some ir63 := by kernel_rfl

-- grille/lex.colon
def ir64 : IF := ⟨10, .seq (.reg [o 2 (.mov (.cst (.bool false)))])
(.seq (.reg [o 3 (.mov (t 0)),
  o 4 (.call 0 (.fn 10) [(t 3), (.cst (.str [58]))]),
  o 5 (.mov (t 4)),
  og 6 5 true (.mov (t 0)),
  og 7 5 true (.slcS (t 6) (some (.cst (.int .i64 1))) none),
  og 8 5 true (.call 0 (.fn 81) [(t 7)]),
  o 9 (.pick (t 5) (t 8) (.cst (.bool false))),
  o 2 (.mov (t 9))])
(.ret)), [.tmp 2]⟩
theorem ir64_tr : trF Tryz.prog ir64 Tryz.f64 = some ir64 := by kernel_rfl

-- (*grille/lex.line).plain
def ir66 : IF := ⟨26, .seq (.reg [o 1 (.box (t 0)),
  o 2 (.mov (.cst (.int .i64 0)))])
(.seq (.reg [o 5 (.load none (t 1)),
  o 6 (.mkFn (.func 85) [] [(t 1)]),
  o 7 (.call 0 (.fn 79) [(t 5), (t 6)]),
  o 3 (.mov (t 7))])
(.seq (.dreg [o 8 (.load none (t 1)),
  o 9 (.nilck (t 8)),
  o 10 (.fieldAddr 0 (t 9)),
  o 11 (.load none (t 10)),
  o 12 (.load none (t 1)),
  o 13 (.nilck (t 12)),
  o 14 (.fieldAddr 1 (t 13)),
  o 15 (.load none (t 14)),
  o 16 (.mov (t 3)),
  o 17 (.slcS (t 11) (some (t 15)) (some (t 16))),
  o 18 (.call 0 (.fn 86) [(t 17), (.cst (.str [32]))]),
  o 4 (.mov (t 18))] [[], [0], [0, 1], [0, 1, 2], [], [4], [4, 5], [4, 5, 6], [], [0, 1, 2, 3, 4, 5, 6, 7, 8], [0, 1, 2, 3, 4, 5, 6, 7, 8, 9], [0, 1, 2, 3, 4, 5, 6, 7, 8, 9, 10]])
(.seq (.seq (.reg [o 19 (.mov (t 4)),
  o 20 (.call 0 (.fn 87) [(t 19)]),
  o 21 (.not (t 20))])
(.cond (t 21)
 (.seq (.reg [o 2 (.mov (.cst (.int .i64 5)))])
 (.ret))
 (.skip)))
(.seq (.reg [o 22 (.load none (t 1)),
  o 23 (.mov (t 4)),
  o 24 (.mov (t 3)),
  o 25 (.call 0 (.fn 67) [(t 22), (.cst (.int .i64 0)), (t 23), (t 24)])])
(.seq (.reg [o 2 (.mov (.cst (.int .i64 0)))])
(.ret)))))), [.tmp 2]⟩
theorem ir66_tr : trF Tryz.prog ir66 Tryz.f66 = some ir66 := by kernel_rfl

-- (*grille/lex.line).take
def ir67 : IF := ⟨28, .seq (.dreg [o 8 (.mov (t 0)),
  o 9 (.mov (t 0)),
  o 10 (.nilck (t 9)),
  o 11 (.fieldAddr 2 (t 10)),
  o 12 (.load none (t 11)),
  o 13 (.mov (t 1)),
  o 14 (.mov (t 2)),
  o 15 (.mov (t 0)),
  o 16 (.nilck (t 15)),
  o 17 (.fieldAddr 1 (t 16)),
  o 18 (.load none (t 17)),
  o 19 (.build [(.int .i64 0), (.str []), (.int .i64 0)] [(0, 1, (t 13)), (1, 1, (t 14)), (2, 1, (t 18))]),
  o 20 (.lit .ro 3 [(t 19)]),
  o 21 (.append .tok 3 (32, 76) (t 12) (t 20)),
  o 22 (.nilck (t 8)),
  o 23 (.fieldAddr 2 (t 22)),
  e (.store 1 (t 23) (t 21))] [[], [], [1], [1, 2], [1, 2, 3], [], [], [], [7], [7, 8], [7, 8, 9], [5, 6, 7, 8, 9, 10], [5, 6, 7, 8, 9, 10, 11], [1, 2, 3, 4, 5, 6, 7, 8, 9, 10, 11, 12], [0, 1, 2, 3, 4, 5, 6, 7, 8, 9, 10, 11, 12, 13], [0, 1, 2, 3, 4, 5, 6, 7, 8, 9, 10, 11, 12, 13, 14], [0, 1, 2, 3, 4, 5, 6, 7, 8, 9, 10, 11, 12, 13, 14, 15]])
(.reg [o 24 (.mov (t 0)),
  o 25 (.mov (t 3)),
  o 26 (.nilck (t 24)),
  o 27 (.fieldAddr 1 (t 26)),
  e (.store 1 (t 27) (t 25))]), []⟩
theorem ir67_tr : trF Tryz.prog ir67 Tryz.f67 = some ir67 := by kernel_rfl

-- strings.indexFunc
def ir72 : IF := ⟨21, .seq (.reg [o 6 (.mov (.cst (.int .i64 0)))])
(.seq (.seq (.reg [o 9 (.mov (t 0)),
  o 10 (.rangeS (t 9))])
(.block 0 (.loop [11, 12, 13, 14, 7, 8, 15, 16, 17, 18, 19, 20, 6] (.seq (.reg [o 11 (.nextS (t 10)),
    o 12 (.extract 0 (t 11))])
  (.seq (.cond (t 12)
   (.skip)
   (.exit 0))
  (.block 1 (.seq (.reg [o 13 (.extract 1 (t 11)),
     o 14 (.extract 2 (t 11)),
     o 7 (.mov (t 13)),
     o 8 (.mov (t 14))])
   (.seq (.reg [o 15 (.mov (t 1)),
     o 16 (.mov (t 8)),
     o 17 (.call 0 (t 15) [(t 16)]),
     o 18 (.mov (t 2)),
     o 19 (.eqv .bool false (t 17) (t 18))])
   (.cond (t 19)
    (.seq (.reg [o 20 (.mov (t 7)),
      o 6 (.mov (t 20))])
    (.ret))
    (.skip))))))))))
(.seq (.reg [o 6 (.mov (.cst (.int .i64 (-1))))])
(.ret))), [.tmp 6]⟩
theorem ir72_tr : trF Tryz.prog ir72 Tryz.f72 = some ir72 := by kernel_rfl

-- grille/scalar.End
def ir73 : IF := ⟨57, .seq (.reg [o 2 (.mov (.cst (.int .i64 0))),
  o 3 (.mov (.cst (.int .i64 0)))])
(.seq (.seq (.reg [o 6 (.mov (t 0)),
  o 7 (.bin .eql (t 6) (.cst (.str []))),
  o 8 (.mov (t 7)),
  og 9 8 false (.mov (t 0)),
  og 10 8 false (.idxStr (t 9) (.cst (.int .i64 0))),
  og 11 8 false (.bin .neq (t 10) (.cst (.int .u8 34))),
  og 12 8 false (.mov (t 11)),
  og 13 12 true (.mov (t 0)),
  og 14 12 true (.idxStr (t 13) (.cst (.int .i64 0))),
  og 15 12 true (.bin .neq (t 14) (.cst (.int .u8 39))),
  og 16 8 false (.pick (t 12) (t 15) (.cst (.bool false))),
  o 17 (.pick (t 8) (.cst (.bool true)) (t 16))])
(.gh [.kill [6, 7, 8, 9, 10, 11, 12, 13, 14, 15, 16]] (.cond (t 17)
 (.seq (.reg [o 2 (.mov (.cst (.int .i64 0))),
   o 3 (.mov (.cst (.int .i64 10)))])
 (.ret))
 (.skip))))
(.seq (.seq (.reg [o 4 (.mov (.cst (.int .i64 1)))])
(.block 0 (.loop [18, 19, 20, 21, 24, 25, 26, 5, 27, 28, 29, 30, 31, 32, 33, 34, 35, 36, 37, 38, 39, 40, 41, 42, 43, 44, 45, 46, 47, 49, 50, 51, 52, 53, 54, 48, 55, 56, 2, 3, 22, 23] (.seq (.seq (.reg [o 18 (.mov (t 4)),
    o 19 (.mov (t 0)),
    o 20 (.len .str (t 19)),
    o 21 (.bin .lss (t 18) (t 20))])
  (.cond (t 21)
   (.skip)
   (.exit 0)))
  (.seq (.block 1 (.seq (.reg [o 24 (.mov (t 0)),
     o 25 (.idxStr (t 24) (.cst (.int .i64 0))),
     o 26 (.bin .eql (t 25) (.cst (.int .u8 34))),
     o 5 (.mov (t 26))])
   (.block 2 (.seq (.reg [o 28 (.mov (t 5)),
      o 29 (.mov (t 28)),
      og 30 29 true (.mov (t 0)),
      og 31 29 true (.mov (t 4)),
      og 32 29 true (.idxStr (t 30) (t 31)),
      og 33 29 true (.bin .eql (t 32) (.cst (.int .u8 92))),
      o 34 (.pick (t 29) (t 33) (.cst (.bool false))),
      o 27 (.mov (t 34))])
    (.gh [.kill [28, 29, 30, 31, 32, 33, 34]] (.cond (t 27)
     (.reg [o 35 (.mov (t 4)),
       o 36 (.bin .add (t 35) (.cst (.int .i64 1))),
       o 4 (.mov (t 36))])
     (.seq (.reg [o 38 (.mov (t 5)),
       o 39 (.not (t 38)),
       o 40 (.mov (t 39)),
       og 41 40 true (.mov (t 0)),
       og 42 40 true (.mov (t 4)),
       og 43 40 true (.slcS (t 41) (some (t 42)) none),
       og 44 40 true (.call 0 (.fn 10) [(t 43), (.cst (.str [39, 39]))]),
       o 45 (.pick (t 40) (t 44) (.cst (.bool false))),
       o 37 (.mov (t 45))])
     (.gh [.kill [38, 39, 40, 41, 42, 43, 44, 45]] (.cond (t 37)
      (.reg [o 46 (.mov (t 4)),
        o 47 (.bin .add (t 46) (.cst (.int .i64 1))),
        o 4 (.mov (t 47))])
      (.seq (.dreg [o 49 (.mov (t 0)),
        o 50 (.mov (t 4)),
        o 51 (.idxStr (t 49) (t 50)),
        o 52 (.mov (t 0)),
        o 53 (.idxStr (t 52) (.cst (.int .i64 0))),
        o 54 (.bin .eql (t 51) (t 53)),
        o 48 (.mov (t 54))] [[], [], [0, 1], [], [3], [0, 1, 2, 3, 4], [0, 1, 2, 3, 4, 5]])
      (.cond (t 48)
       (.seq (.reg [o 55 (.mov (t 4)),
         o 56 (.bin .add (t 55) (.cst (.int .i64 1))),
         o 2 (.mov (t 56)),
         o 3 (.mov (.cst (.int .i64 0)))])
       (.ret))
       (.skip))))))))))))
  (.gh [.kill [24, 25, 26, 5, 27, 28, 29, 30, 31, 32, 33, 34, 35, 36, 37, 38, 39, 40, 41, 42, 43, 44, 45, 46, 47, 49, 50, 51, 52, 53, 54, 48, 55, 56, 2, 3]] (.reg [o 22 (.mov (t 4)),
    o 23 (.bin .add (t 22) (.cst (.int .i64 1))),
    o 4 (.mov (t 23))])))))))
(.seq (.reg [o 2 (.mov (.cst (.int .i64 0))),
  o 3 (.mov (.cst (.int .i64 10)))])
(.ret)))), [.tmp 2, .tmp 3]⟩
theorem ir73_tr : trF Tryz.prog ir73 Tryz.f73 = some ir73 := by kernel_rfl

-- grille/scalar.escape
def ir74 : IF := ⟨43, .seq (.reg [o 2 (.mov (.cst (.int .i32 0))),
  o 3 (.mov (.cst (.int .i64 0))),
  o 4 (.mov (.cst (.bool false)))])
(.seq (.seq (.reg [o 6 (.mov (t 0)),
  o 7 (.bin .eql (t 6) (.cst (.str [])))])
(.cond (t 7)
 (.seq (.reg [o 2 (.mov (.cst (.int .i32 0))),
   o 3 (.mov (.cst (.int .i64 0))),
   o 4 (.mov (.cst (.bool false)))])
 (.ret))
 (.skip)))
(.seq (.reg [o 5 (.mov (.cst (.int .i64 0)))])
(.seq (.seq (.reg [o 8 (.mov (t 0)),
  o 9 (.idxStr (t 8) (.cst (.int .i64 0)))])
(.block 0 (.seq (.block 5 (.seq (.block 4 (.seq (.block 3 (.seq (.block 2 (.seq (.block 1 (.seq (.seq (.seq (.reg [o 11 (.bin .eql (t 9) (.cst (.int .u8 85))),
        o 10 (.mov (t 11))])
      (.cond (t 10)
       (.exit 1)
       (.skip)))
      (.seq (.seq (.reg [o 13 (.bin .eql (t 9) (.cst (.int .u8 117))),
        o 12 (.mov (t 13))])
      (.cond (t 12)
       (.exit 2)
       (.skip)))
      (.seq (.seq (.reg [o 15 (.bin .eql (t 9) (.cst (.int .u8 120))),
        o 14 (.mov (t 15))])
      (.cond (t 14)
       (.exit 3)
       (.skip)))
      (.seq (.reg [o 17 (.bin .eql (t 9) (.cst (.int .u8 47))),
        o 16 (.mov (t 17))])
      (.cond (t 16)
       (.exit 4)
       (.skip))))))
      (.exit 5)))
     (.reg [o 18 (.mov (t 5)),
       o 19 (.bin .add (t 18) (.cst (.int .i64 4))),
       o 5 (.mov (t 19))])))
    (.gh [.kill [11, 10, 13, 12, 15, 14, 17, 16, 18, 19]] (.reg [o 20 (.mov (t 5)),
      o 21 (.bin .add (t 20) (.cst (.int .i64 2))),
      o 5 (.mov (t 21))]))))
   (.gh [.kill [11, 10, 13, 12, 15, 14, 17, 16, 18, 19, 20, 21]] (.seq (.reg [o 22 (.mov (t 5)),
     o 23 (.bin .add (t 22) (.cst (.int .i64 2))),
     o 5 (.mov (t 23))])
   (.exit 0)))))
  (.seq (.seq (.reg [o 2 (.mov (.cst (.int .i32 47))),
    o 3 (.mov (.cst (.int .i64 1))),
    o 4 (.mov (.cst (.bool true)))])
  (.ret))
  (.exit 0))))
 (.seq (.seq (.reg [o 25 (.mov (t 0)),
   o 26 (.idxStr (t 25) (.cst (.int .i64 0))),
   o 27 (.call 0 (.fn 90) [(t 26)]),
   o 24 (.mov (t 27)),
   o 28 (.extract 0 (t 24)),
   o 29 (.extract 1 (t 24)),
   o 2 (.mov (t 28)),
   o 4 (.mov (t 29))])
 (.seq (.reg [o 30 (.mov (t 2)),
   o 31 (.mov (t 4)),
   o 2 (.mov (t 30)),
   o 3 (.mov (.cst (.int .i64 1))),
   o 4 (.mov (t 31))])
 (.ret)))
 (.exit 0)))))
(.gh [.kill [8, 9, 11, 10, 13, 12, 15, 14, 17, 16, 18, 19, 20, 21, 22, 23, 25, 26, 27, 24, 28, 29, 30, 31, 2, 3, 4]] (.seq (.reg [o 33 (.mov (t 0)),
  o 34 (.slcS (t 33) (some (.cst (.int .i64 1))) none),
  o 35 (.mov (t 5)),
  o 36 (.call 0 (.fn 91) [(t 34), (t 35)]),
  o 32 (.mov (t 36)),
  o 37 (.extract 0 (t 32)),
  o 38 (.extract 1 (t 32)),
  o 2 (.mov (t 37)),
  o 4 (.mov (t 38))])
(.seq (.reg [o 39 (.mov (t 2)),
  o 40 (.mov (t 5)),
  o 41 (.bin .add (.cst (.int .i64 1)) (t 40)),
  o 42 (.mov (t 4)),
  o 2 (.mov (t 39)),
  o 3 (.mov (t 41)),
  o 4 (.mov (t 42))])
(.ret))))))), [.tmp 2, .tmp 3, .tmp 4]⟩
theorem ir74_tr : trF Tryz.prog ir74 Tryz.f74 = some ir74 := by kernel_rfl

-- (*strings.Builder).WriteRune
def ir75 : IF := ⟨30, .seq (.reg [o 4 (.mov (.cst (.int .i64 0))),
  o 5 (.mov (.cst .niliface))])
(.seq (.reg [o 7 (.mov (t 0)),
  o 8 (.call 0 (.fn 26) [(t 7)])])
(.seq (.reg [o 9 (.mov (t 0)),
  o 10 (.nilck (t 9)),
  o 11 (.fieldAddr 1 (t 10)),
  o 12 (.load none (t 11)),
  o 13 (.len .row (t 12)),
  o 6 (.mov (t 13))])
(.seq (.reg [o 14 (.mov (t 0)),
  o 15 (.mov (t 0)),
  o 16 (.nilck (t 15)),
  o 17 (.fieldAddr 1 (t 16)),
  o 18 (.load none (t 17)),
  o 19 (.mov (t 1)),
  o 20 (.call 0 (.fn 92) [(t 18), (t 19)]),
  o 21 (.nilck (t 14)),
  o 22 (.fieldAddr 1 (t 21)),
  e (.store 1 (t 22) (t 20))])
(.seq (.reg [o 23 (.mov (t 0)),
  o 24 (.nilck (t 23)),
  o 25 (.fieldAddr 1 (t 24)),
  o 26 (.load none (t 25)),
  o 27 (.len .row (t 26)),
  o 28 (.mov (t 6)),
  o 29 (.bin .sub (t 27) (t 28)),
  o 4 (.mov (t 29)),
  o 5 (.mov (.cst .niliface))])
(.ret))))), [.tmp 4, .tmp 5]⟩
theorem ir75_tr : trF Tryz.prog ir75 Tryz.f75 = some ir75 := by kernel_rfl

-- (*strings.Builder).WriteByte
def ir76 : IF := ⟨17, .seq (.reg [o 4 (.mov (.cst .niliface))])
(.seq (.reg [o 5 (.mov (t 0)),
  o 6 (.call 0 (.fn 26) [(t 5)])])
(.seq (.reg [o 7 (.mov (t 0)),
  o 8 (.mov (t 0)),
  o 9 (.nilck (t 8)),
  o 10 (.fieldAddr 1 (t 9)),
  o 11 (.load none (t 10)),
  o 12 (.mov (t 1)),
  o 13 (.lit .ro 1 [(t 12)]),
  o 14 (.append .tok 1 (1, 5) (t 11) (t 13)),
  o 15 (.nilck (t 7)),
  o 16 (.fieldAddr 1 (t 15)),
  e (.store 1 (t 16) (t 14))])
(.seq (.reg [o 4 (.mov (.cst .niliface))])
(.ret)))), [.tmp 4]⟩
theorem ir76_tr : trF Tryz.prog ir76 Tryz.f76 = some ir76 := by kernel_rfl

-- grille/scalar.Single
def ir78 : IF := ⟨17, .seq (.reg [o 2 (.mov (.cst (.str []))),
  o 3 (.mov (.cst (.int .i64 0)))])
(.seq (.reg [o 4 (.mov (.fn 94))])
(.seq (.seq (.reg [o 5 (.mov (t 0)),
  o 6 (.call 0 (.fn 43) [(t 5)]),
  o 7 (.not (t 6)),
  o 8 (.mov (t 7)),
  og 9 8 false (.mov (t 0)),
  og 10 8 false (.mov (t 4)),
  og 11 8 false (.call 0 (.fn 44) [(t 9), (t 10)]),
  o 12 (.pick (t 8) (.cst (.bool true)) (t 11))])
(.gh [.kill [5, 6, 7, 8, 9, 10, 11]] (.cond (t 12)
 (.seq (.reg [o 2 (.mov (.cst (.str []))),
   o 3 (.mov (.cst (.int .i64 10)))])
 (.ret))
 (.skip))))
(.seq (.reg [o 13 (.mov (t 0)),
  o 14 (.call 0 (.fn 77) [(t 13), (.cst (.str [39])), (.cst (.str [39, 39]))]),
  o 15 (.bin .add (.cst (.str [39])) (t 14)),
  o 16 (.bin .add (t 15) (.cst (.str [39]))),
  o 2 (.mov (t 16)),
  o 3 (.mov (.cst (.int .i64 0)))])
(.ret)))), [.tmp 2, .tmp 3]⟩
theorem ir78_tr : trF Tryz.prog ir78 Tryz.f78 = some ir78 := by kernel_rfl

-- (*grille/lex.line).up
def ir79 : IF := ⟨27, .seq (.reg [o 4 (.mov (.cst (.int .i64 0)))])
(.seq (.reg [o 6 (.mov (t 0)),
  o 7 (.nilck (t 6)),
  o 8 (.fieldAddr 1 (t 7)),
  o 9 (.load none (t 8)),
  o 10 (.bin .add (t 9) (.cst (.int .i64 1))),
  o 5 (.mov (t 10))])
(.seq (.block 0 (.loop [23, 11, 12, 13, 14, 15, 16, 17, 18, 19, 20, 21, 22, 24, 25] (.seq (.seq (.reg [o 11 (.mov (t 5)),
    o 12 (.mov (t 0)),
    o 13 (.nilck (t 12)),
    o 14 (.fieldAddr 0 (t 13)),
    o 15 (.load none (t 14)),
    o 16 (.len .str (t 15)),
    o 17 (.bin .lss (t 11) (t 16)),
    o 18 (.mov (t 17)),
    og 19 18 true (.mov (t 1)),
    og 20 18 true (.mov (t 5)),
    og 21 18 true (.call 0 (t 19) [(t 20)]),
    og 22 18 true (.not (t 21)),
    o 23 (.pick (t 18) (t 22) (.cst (.bool false)))])
  (.gh [.kill [11, 12, 13, 14, 15, 16, 17, 18, 19, 20, 21, 22]] (.cond (t 23)
   (.skip)
   (.exit 0))))
  (.block 1 (.reg [o 24 (.mov (t 5)),
     o 25 (.bin .add (t 24) (.cst (.int .i64 1))),
     o 5 (.mov (t 25))])))))
(.seq (.reg [o 26 (.mov (t 5)),
  o 4 (.mov (t 26))])
(.ret)))), [.tmp 4]⟩
theorem ir79_tr : trF Tryz.prog ir79 Tryz.f79 = some ir79 := by kernel_rfl

-- (*grille/lex.line).named$1
def ir80 : IF := ⟨20, .seq (.reg [o 3 (.mov (.cst (.bool false)))])
(.seq (.reg [o 4 (.load none (t 1)),
  o 5 (.nilck (t 4)),
  o 6 (.fieldAddr 0 (t 5)),
  o 7 (.load none (t 6)),
  o 8 (.mov (t 0)),
  o 9 (.slcS (t 7) (some (t 8)) none),
  o 10 (.call 0 (.fn 81) [(t 9)]),
  o 11 (.mov (t 10)),
  og 12 11 false (.load none (t 1)),
  og 13 11 false (.nilck (t 12)),
  og 14 11 false (.fieldAddr 0 (t 13)),
  og 15 11 false (.load none (t 14)),
  og 16 11 false (.mov (t 0)),
  og 17 11 false (.slcS (t 15) (some (t 16)) none),
  og 18 11 false (.call 0 (.fn 64) [(t 17)]),
  o 19 (.pick (t 11) (.cst (.bool true)) (t 18)),
  o 3 (.mov (t 19))])
(.ret)), [.tmp 3]⟩
theorem ir80_tr : trF Tryz.prog ir80 Tryz.f80 = some ir80 := by kernel_rfl

-- grille/lex.stops
def ir81 : IF := ⟨16, .seq (.reg [o 2 (.mov (.cst (.bool false)))])
(.seq (.reg [o 3 (.mov (t 0)),
  o 4 (.bin .eql (t 3) (.cst (.str []))),
  o 5 (.mov (t 4)),
  og 6 5 false (.mov (t 0)),
  og 7 5 false (.idxStr (t 6) (.cst (.int .i64 0))),
  og 8 5 false (.bin .eql (t 7) (.cst (.int .u8 32))),
  o 9 (.pick (t 5) (.cst (.bool true)) (t 8)),
  o 10 (.mov (t 9)),
  og 11 10 false (.mov (t 0)),
  og 12 10 false (.idxStr (t 11) (.cst (.int .i64 0))),
  og 13 10 false (.call 0 (.fn 65) [(.cst (.str [91, 93, 123, 125, 44])), (t 12)]),
  og 14 10 false (.bin .geq (t 13) (.cst (.int .i64 0))),
  o 15 (.pick (t 10) (.cst (.bool true)) (t 14)),
  o 2 (.mov (t 15))])
(.ret)), [.tmp 2]⟩
theorem ir81_tr : trF Tryz.prog ir81 Tryz.f81 = some ir81 := by kernel_rfl

-- grille/tag.Read
def ir82 : IF := ⟨27, .seq (.reg [o 2 (.mov (.cst (.str []))),
  o 3 (.mov (.cst (.int .i64 0)))])
(.seq (.reg [o 7 (.mov (t 0)),
  o 8 (.call 0 (.fn 29) [(t 7), (.cst (.str [33, 33]))]),
  o 6 (.mov (t 8)),
  o 9 (.extract 0 (t 6)),
  o 10 (.extract 1 (t 6)),
  o 4 (.mov (t 9)),
  o 5 (.mov (t 10))])
(.seq (.seq (.reg [o 11 (.mov (t 5)),
  o 12 (.mov (t 11)),
  og 13 12 true (.mov (t 4)),
  og 14 12 true (.call 0 (.fn 95) [(t 13)]),
  og 15 12 true (.not (t 14)),
  o 16 (.pick (t 12) (t 15) (.cst (.bool false))),
  o 17 (.mov (t 16)),
  og 18 17 false (.mov (t 5)),
  og 19 17 false (.not (t 18)),
  og 20 17 false (.mov (t 19)),
  og 21 20 true (.mov (t 4)),
  og 22 20 true (.call 0 (.fn 96) [(t 21)]),
  og 23 20 true (.not (t 22)),
  og 24 17 false (.pick (t 20) (t 23) (.cst (.bool false))),
  o 25 (.pick (t 17) (.cst (.bool true)) (t 24))])
(.gh [.kill [11, 12, 13, 14, 15, 16, 17, 18, 19, 20, 21, 22, 23, 24]] (.cond (t 25)
 (.seq (.reg [o 2 (.mov (.cst (.str []))),
   o 3 (.mov (.cst (.int .i64 14)))])
 (.ret))
 (.skip))))
(.seq (.reg [o 26 (.mov (t 4)),
  o 2 (.mov (t 26)),
  o 3 (.mov (.cst (.int .i64 0)))])
(.ret)))), [.tmp 2, .tmp 3]⟩
theorem ir82_tr : trF Tryz.prog ir82 Tryz.f82 = some ir82 := by kernel_rfl

-- grille/lex.Name
def ir83 : IF := ⟨17, .seq (.reg [o 2 (.mov (.cst (.bool false)))])
(.seq (.reg [o 3 (.mov (.fn 97))])
(.seq (.reg [o 4 (.mov (t 0)),
  o 5 (.bin .neq (t 4) (.cst (.str []))),
  o 6 (.mov (t 5)),
  og 7 6 true (.mov (t 0)),
  og 8 6 true (.len .str (t 7)),
  og 9 6 true (.bin .leq (t 8) (.cst (.int .i64 40))),
  o 10 (.pick (t 6) (t 9) (.cst (.bool false))),
  o 11 (.mov (t 10)),
  og 12 11 true (.mov (t 0)),
  og 13 11 true (.mov (t 3)),
  og 14 11 true (.call 0 (.fn 44) [(t 12), (t 13)]),
  og 15 11 true (.not (t 14)),
  o 16 (.pick (t 11) (t 15) (.cst (.bool false))),
  o 2 (.mov (t 16))])
(.ret))), [.tmp 2]⟩
theorem ir83_tr : trF Tryz.prog ir83 Tryz.f83 = some ir83 := by kernel_rfl

-- (*grille/lex.line).bar$1
def ir84 : IF := ⟨11, .seq (.reg [o 3 (.mov (.cst (.bool false)))])
(.seq (.reg [o 4 (.load none (t 1)),
  o 5 (.nilck (t 4)),
  o 6 (.fieldAddr 0 (t 5)),
  o 7 (.load none (t 6)),
  o 8 (.mov (t 0)),
  o 9 (.idxStr (t 7) (t 8)),
  o 10 (.bin .neq (t 9) (.cst (.int .u8 32))),
  o 3 (.mov (t 10))])
(.ret)), [.tmp 3]⟩
theorem ir84_tr : trF Tryz.prog ir84 Tryz.f84 = some ir84 := by kernel_rfl

-- (*grille/lex.line).plain$1
def ir85 : IF := ⟨26, .seq (.reg [o 3 (.mov (.cst (.bool false)))])
(.seq (.reg [o 4 (.load none (t 1)),
  o 5 (.nilck (t 4)),
  o 6 (.fieldAddr 0 (t 5)),
  o 7 (.load none (t 6)),
  o 8 (.mov (t 0)),
  o 9 (.idxStr (t 7) (t 8)),
  o 10 (.call 0 (.fn 65) [(.cst (.str [91, 93, 123, 125, 44])), (t 9)]),
  o 11 (.bin .geq (t 10) (.cst (.int .i64 0))),
  o 12 (.mov (t 11)),
  og 13 12 false (.load none (t 1)),
  og 14 12 false (.nilck (t 13)),
  og 15 12 false (.fieldAddr 0 (t 14)),
  og 16 12 false (.load none (t 15)),
  og 17 12 false (.mov (t 0)),
  og 18 12 false (.slcS (t 16) (some (t 17)) none),
  og 19 12 false (.call 0 (.fn 64) [(t 18)]),
  o 20 (.pick (t 12) (.cst (.bool true)) (t 19)),
  o 21 (.mov (t 20)),
  og 22 21 false (.load none (t 1)),
  og 23 21 false (.mov (t 0)),
  og 24 21 false (.call 0 (.fn 45) [(t 22), (t 23)]),
  o 25 (.pick (t 21) (.cst (.bool true)) (t 24)),
  o 3 (.mov (t 25))])
(.ret)), [.tmp 3]⟩
theorem ir85_tr : trF Tryz.prog ir85 Tryz.f85 = some ir85 := by kernel_rfl

-- grille/scalar.Plain
def ir87 : IF := ⟨49, .seq (.reg [o 2 (.mov (.cst (.bool false)))])
(.seq (.reg [o 3 (.mov (.fn 101))])
(.seq (.block 0 (.seq (.reg [o 5 (.mov (t 0)),
   o 6 (.bin .eql (t 5) (.cst (.str []))),
   o 7 (.mov (t 6)),
   og 8 7 false (.mov (t 0)),
   og 9 7 false (.bin .eql (t 8) (.cst (.str [45, 45, 45]))),
   o 10 (.pick (t 7) (.cst (.bool true)) (t 9)),
   o 11 (.mov (t 10)),
   og 12 11 false (.mov (t 0)),
   og 13 11 false (.bin .eql (t 12) (.cst (.str [46, 46, 46]))),
   o 14 (.pick (t 11) (.cst (.bool true)) (t 13)),
   o 15 (.mov (t 14)),
   og 16 15 false (.mov (t 0)),
   og 17 15 false (.call 0 (.fn 43) [(t 16)]),
   og 18 15 false (.not (t 17)),
   o 19 (.pick (t 15) (.cst (.bool true)) (t 18)),
   o 4 (.mov (t 19))])
 (.gh [.kill [5, 6, 7, 8, 9, 10, 11, 12, 13, 14, 15, 16, 17, 18, 19]] (.cond (t 4)
  (.seq (.reg [o 2 (.mov (.cst (.bool false)))])
  (.ret))
  (.seq (.reg [o 21 (.mov (t 0)),
    o 22 (.idxStr (t 21) (.cst (.int .i64 0))),
    o 23 (.call 0 (.fn 65) [(.cst (.str [45, 63, 58, 44, 91, 93, 123, 125, 35, 38, 42, 33, 124, 62, 39, 34, 37, 64, 96, 32])), (t 22)]),
    o 24 (.bin .geq (t 23) (.cst (.int .i64 0))),
    o 25 (.mov (t 24)),
    og 26 25 false (.mov (t 0)),
    og 27 25 false (.call 0 (.fn 102) [(t 26), (.cst (.str [9, 10, 13, 44, 91, 93, 123, 125]))]),
    o 28 (.pick (t 25) (.cst (.bool true)) (t 27)),
    o 29 (.mov (t 28)),
    og 30 29 false (.mov (t 0)),
    og 31 29 false (.mov (t 3)),
    og 32 29 false (.call 0 (.fn 44) [(t 30), (t 31)]),
    o 33 (.pick (t 29) (.cst (.bool true)) (t 32)),
    o 20 (.mov (t 33))])
  (.gh [.kill [21, 22, 23, 24, 25, 26, 27, 28, 29, 30, 31, 32, 33]] (.cond (t 20)
   (.seq (.reg [o 2 (.mov (.cst (.bool false)))])
   (.ret))
   (.seq (.reg [o 35 (.mov (t 0)),
     o 36 (.call 0 (.fn 103) [(t 35), (.cst (.str [32]))]),
     o 37 (.mov (t 36)),
     og 38 37 false (.mov (t 0)),
     og 39 37 false (.call 0 (.fn 103) [(t 38), (.cst (.str [58]))]),
     o 40 (.pick (t 37) (.cst (.bool true)) (t 39)),
     o 34 (.mov (t 40))])
   (.gh [.kill [35, 36, 37, 38, 39, 40]] (.cond (t 34)
    (.seq (.reg [o 2 (.mov (.cst (.bool false)))])
    (.ret))
    (.skip)))))))))))
(.seq (.reg [o 41 (.mov (t 0)),
  o 42 (.call 0 (.fn 104) [(t 41), (.cst (.str [58, 32]))]),
  o 43 (.not (t 42)),
  o 44 (.mov (t 43)),
  og 45 44 true (.mov (t 0)),
  og 46 44 true (.call 0 (.fn 104) [(t 45), (.cst (.str [32, 35]))]),
  og 47 44 true (.not (t 46)),
  o 48 (.pick (t 44) (t 47) (.cst (.bool false))),
  o 2 (.mov (t 48))])
(.ret)))), [.tmp 2]⟩
theorem ir87_tr : trF Tryz.prog ir87 Tryz.f87 = some ir87 := by kernel_rfl

-- grille/scalar.means
def ir90 : IF := ⟨18, .seq (.reg [o 2 (.mov (.cst (.int .i32 0))),
  o 3 (.mov (.cst (.bool false)))])
(.seq (.reg [o 7 (.mov (t 0)),
  o 8 (.call 0 (.fn 65) [(.cst (.str [48, 97, 98, 116, 110, 118, 102, 114, 101, 34, 92, 78, 95, 76, 80])), (t 7)]),
  o 4 (.mov (t 8))])
(.seq (.seq (.reg [o 9 (.rangeS (.cst (.str [0, 7, 8, 9, 10, 11, 12, 13, 27, 34, 92, 194, 133, 194, 160, 226, 128, 168, 226, 128, 169])))])
(.block 0 (.loop [10, 11, 12, 6, 13, 14, 15, 2, 3, 16, 17] (.seq (.reg [o 10 (.nextS (t 9)),
    o 11 (.extract 0 (t 10))])
  (.seq (.cond (t 11)
   (.skip)
   (.exit 0))
  (.block 1 (.seq (.reg [o 12 (.extract 2 (t 10)),
     o 6 (.mov (t 12))])
   (.seq (.seq (.reg [o 13 (.mov (t 4)),
     o 14 (.bin .eql (t 13) (.cst (.int .i64 0)))])
   (.cond (t 14)
    (.seq (.reg [o 15 (.mov (t 6)),
      o 2 (.mov (t 15)),
      o 3 (.mov (.cst (.bool true)))])
    (.ret))
    (.skip)))
   (.reg [o 16 (.mov (t 4)),
     o 17 (.bin .sub (t 16) (.cst (.int .i64 1))),
     o 4 (.mov (t 17))])))))))))
(.seq (.reg [o 2 (.mov (.cst (.int .i32 0))),
  o 3 (.mov (.cst (.bool false)))])
(.ret)))), [.tmp 2, .tmp 3]⟩
theorem ir90_tr : trF Tryz.prog ir90 Tryz.f90 = some ir90 := by kernel_rfl

-- grille/scalar.number
def ir91 : IF := ⟨39, .seq (.reg [o 4 (.mov (.cst (.int .i32 0))),
  o 5 (.mov (.cst (.bool false)))])
(.seq (.seq (.reg [o 8 (.mov (t 0)),
  o 9 (.len .str (t 8)),
  o 10 (.mov (t 1)),
  o 11 (.bin .lss (t 9) (t 10))])
(.cond (t 11)
 (.seq (.reg [o 4 (.mov (.cst (.int .i32 0))),
   o 5 (.mov (.cst (.bool false)))])
 (.ret))
 (.skip)))
(.seq (.reg [o 13 (.mov (t 0)),
  o 14 (.mov (t 1)),
  o 15 (.slcS (t 13) none (some (t 14))),
  o 16 (.call 0 (.fn 105) [(t 15), (.cst (.int .i64 16)), (.cst (.int .i64 32))]),
  o 12 (.mov (t 16)),
  o 17 (.extract 0 (t 12)),
  o 18 (.extract 1 (t 12)),
  o 6 (.mov (t 17)),
  o 7 (.mov (t 18))])
(.seq (.seq (.reg [o 19 (.mov (t 7)),
  o 20 (.eqv .ifn true (t 19) (.cst .niliface)),
  o 21 (.mov (t 20)),
  og 22 21 false (.mov (t 0)),
  og 23 21 false (.mov (t 1)),
  og 24 21 false (.slcS (t 22) none (some (t 23))),
  og 25 21 false (.call 0 (.fn 106) [(t 24), (.cst (.str [43, 45, 95]))]),
  o 26 (.pick (t 21) (.cst (.bool true)) (t 25)),
  o 27 (.mov (t 26)),
  og 28 27 false (.mov (t 6)),
  og 29 27 false (.bin .gtr (t 28) (.cst (.int .u64 1114111))),
  o 30 (.pick (t 27) (.cst (.bool true)) (t 29)),
  o 31 (.mov (t 30)),
  og 32 31 false (.mov (t 6)),
  og 33 31 false (.cvInt .i32 (t 32)),
  og 34 31 false (.call 0 (.fn 54) [(t 33)]),
  og 35 31 false (.not (t 34)),
  o 36 (.pick (t 31) (.cst (.bool true)) (t 35))])
(.gh [.kill [19, 20, 21, 22, 23, 24, 25, 26, 27, 28, 29, 30, 31, 32, 33, 34, 35]] (.cond (t 36)
 (.seq (.reg [o 4 (.mov (.cst (.int .i32 0))),
   o 5 (.mov (.cst (.bool false)))])
 (.ret))
 (.skip))))
(.seq (.reg [o 37 (.mov (t 6)),
  o 38 (.cvInt .i32 (t 37)),
  o 4 (.mov (t 38)),
  o 5 (.mov (.cst (.bool true)))])
(.ret))))), [.tmp 4, .tmp 5]⟩
theorem ir91_tr : trF Tryz.prog ir91 Tryz.f91 = some ir91 := by kernel_rfl

-- unicode/utf8.AppendRune
def ir92 : IF := ⟨16, .seq (.reg [o 4 (.mov (.cst .nils))])
(.seq (.seq (.reg [o 5 (.mov (t 1)),
  o 6 (.cvInt .u32 (t 5)),
  o 7 (.bin .leq (t 6) (.cst (.int .u32 127)))])
(.cond (t 7)
 (.seq (.reg [o 8 (.mov (t 0)),
   o 9 (.mov (t 1)),
   o 10 (.cvInt .u8 (t 9)),
   o 11 (.lit .ro 1 [(t 10)]),
   o 12 (.append .tok 1 (1, 5) (t 8) (t 11)),
   o 4 (.mov (t 12))])
 (.ret))
 (.skip)))
(.seq (.reg [o 13 (.mov (t 0)),
  o 14 (.mov (t 1)),
  o 15 (.call 0 (.fn 107) [(t 13), (t 14)]),
  o 4 (.mov (t 15))])
(.ret))), [.tmp 4]⟩
theorem ir92_tr : trF Tryz.prog ir92 Tryz.f92 = some ir92 := by kernel_rfl

-- grille/scalar.Single$1
def ir94 : IF := ⟨14, .seq (.reg [o 2 (.mov (.cst (.bool false)))])
(.seq (.reg [o 3 (.mov (t 0)),
  o 4 (.call 0 (.fn 42) [(t 3)]),
  o 5 (.not (t 4)),
  o 6 (.mov (t 5)),
  og 7 6 false (.mov (t 0)),
  og 8 6 false (.bin .eql (t 7) (.cst (.int .i32 10))),
  o 9 (.pick (t 6) (.cst (.bool true)) (t 8)),
  o 10 (.mov (t 9)),
  og 11 10 false (.mov (t 0)),
  og 12 10 false (.bin .eql (t 11) (.cst (.int .i32 13))),
  o 13 (.pick (t 10) (.cst (.bool true)) (t 12)),
  o 2 (.mov (t 13))])
(.ret)), [.tmp 2]⟩
theorem ir94_tr : trF Tryz.prog ir94 Tryz.f94 = some ir94 := by kernel_rfl

-- grille/tag.Core
def ir95 : IF := ⟨10, .seq (.reg [o 2 (.mov (.cst (.bool false)))])
(.seq (.seq (.reg [o 3 (.mov (t 0))])
(.block 0 (.seq (.seq (.reg [o 5 (.bin .eql (t 3) (.cst (.str [115, 101, 113]))),
   o 4 (.mov (t 5))])
 (.cond (t 4)
  (.skip)
  (.seq (.reg [o 6 (.bin .eql (t 3) (.cst (.str [109, 97, 112]))),
    o 4 (.mov (t 6))])
  (.cond (t 4)
   (.skip)
   (.reg [o 7 (.bin .eql (t 3) (.cst (.str [115, 116, 114]))),
     o 4 (.mov (t 7))])))))
 (.gh [.kill [5, 6, 7]] (.cond (t 4)
  (.seq (.reg [o 2 (.mov (.cst (.bool true)))])
  (.ret))
  (.skip))))))
(.seq (.reg [o 8 (.mov (t 0)),
  o 9 (.call 0 (.fn 108) [(t 8)]),
  o 2 (.mov (t 9))])
(.ret))), [.tmp 2]⟩
theorem ir95_tr : trF Tryz.prog ir95 Tryz.f95 = some ir95 := by kernel_rfl

-- grille/tag.own
def ir96 : IF := ⟨27, .seq (.reg [o 2 (.mov (.cst (.bool false)))])
(.seq (.reg [o 7 (.mov (t 0)),
  o 8 (.call 0 (.fn 29) [(t 7), (.cst (.str [33]))]),
  o 6 (.mov (t 8)),
  o 9 (.extract 0 (t 6)),
  o 10 (.extract 1 (t 6)),
  o 3 (.mov (t 9)),
  o 4 (.mov (t 10))])
(.seq (.reg [o 5 (.mov (.fn 109))])
(.seq (.reg [o 11 (.mov (t 4)),
  o 12 (.mov (t 11)),
  og 13 12 true (.mov (t 3)),
  og 14 12 true (.bin .neq (t 13) (.cst (.str []))),
  o 15 (.pick (t 12) (t 14) (.cst (.bool false))),
  o 16 (.mov (t 15)),
  og 17 16 true (.mov (t 3)),
  og 18 16 true (.len .str (t 17)),
  og 19 16 true (.bin .leq (t 18) (.cst (.int .i64 40))),
  o 20 (.pick (t 16) (t 19) (.cst (.bool false))),
  o 21 (.mov (t 20)),
  og 22 21 true (.mov (t 3)),
  og 23 21 true (.mov (t 5)),
  og 24 21 true (.call 0 (.fn 44) [(t 22), (t 23)]),
  og 25 21 true (.not (t 24)),
  o 26 (.pick (t 21) (t 25) (.cst (.bool false))),
  o 2 (.mov (t 26))])
(.ret)))), [.tmp 2]⟩
theorem ir96_tr : trF Tryz.prog ir96 Tryz.f96 = some ir96 := by kernel_rfl

-- grille/lex.Name$1
def ir97 : IF := ⟨33, .seq (.reg [o 2 (.mov (.cst (.bool false)))])
(.seq (.reg [o 3 (.mov (t 0)),
  o 4 (.bin .lss (t 3) (.cst (.int .i32 97))),
  o 5 (.mov (t 4)),
  og 6 5 false (.mov (t 0)),
  og 7 5 false (.bin .gtr (t 6) (.cst (.int .i32 122))),
  o 8 (.pick (t 5) (.cst (.bool true)) (t 7)),
  o 9 (.mov (t 8)),
  og 10 9 true (.mov (t 0)),
  og 11 9 true (.bin .lss (t 10) (.cst (.int .i32 65))),
  og 12 9 true (.mov (t 11)),
  og 13 12 false (.mov (t 0)),
  og 14 12 false (.bin .gtr (t 13) (.cst (.int .i32 90))),
  og 15 9 true (.pick (t 12) (.cst (.bool true)) (t 14)),
  o 16 (.pick (t 9) (t 15) (.cst (.bool false))),
  o 17 (.mov (t 16)),
  og 18 17 true (.mov (t 0)),
  og 19 17 true (.bin .lss (t 18) (.cst (.int .i32 48))),
  og 20 17 true (.mov (t 19)),
  og 21 20 false (.mov (t 0)),
  og 22 20 false (.bin .gtr (t 21) (.cst (.int .i32 57))),
  og 23 17 true (.pick (t 20) (.cst (.bool true)) (t 22)),
  o 24 (.pick (t 17) (t 23) (.cst (.bool false))),
  o 25 (.mov (t 24)),
  og 26 25 true (.mov (t 0)),
  og 27 25 true (.bin .neq (t 26) (.cst (.int .i32 45))),
  o 28 (.pick (t 25) (t 27) (.cst (.bool false))),
  o 29 (.mov (t 28)),
  og 30 29 true (.mov (t 0)),
  og 31 29 true (.bin .neq (t 30) (.cst (.int .i32 95))),
  o 32 (.pick (t 29) (t 31) (.cst (.bool false))),
  o 2 (.mov (t 32))])
(.ret)), [.tmp 2]⟩
theorem ir97_tr : trF Tryz.prog ir97 Tryz.f97 = some ir97 := by kernel_rfl

-- grille/scalar.Plain$1
def ir101 : IF := ⟨6, .seq (.reg [o 2 (.mov (.cst (.bool false)))])
(.seq (.reg [o 3 (.mov (t 0)),
  o 4 (.call 0 (.fn 42) [(t 3)]),
  o 5 (.not (t 4)),
  o 2 (.mov (t 5))])
(.ret)), [.tmp 2]⟩
theorem ir101_tr : trF Tryz.prog ir101 Tryz.f101 = some ir101 := by kernel_rfl

-- grille/scalar.hasAny
def ir102 : IF := ⟨22, .seq (.reg [o 4 (.mov (.cst (.bool false)))])
(.seq (.seq (.reg [o 9 (.mov (t 0)),
  o 10 (.rangeS (t 9))])
(.block 0 (.loop [11, 12, 13, 6, 14, 15, 16, 17, 18, 8, 19, 20, 21, 4] (.seq (.reg [o 11 (.nextS (t 10)),
    o 12 (.extract 0 (t 11))])
  (.seq (.cond (t 12)
   (.skip)
   (.exit 0))
  (.block 1 (.seq (.reg [o 13 (.extract 2 (t 11)),
     o 6 (.mov (t 13))])
   (.seq (.reg [o 14 (.mov (t 1)),
     o 15 (.rangeS (t 14))])
   (.block 2 (.loop [16, 17, 18, 8, 19, 20, 21, 4] (.seq (.reg [o 16 (.nextS (t 15)),
       o 17 (.extract 0 (t 16))])
     (.seq (.cond (t 17)
      (.skip)
      (.exit 2))
     (.block 3 (.seq (.reg [o 18 (.extract 2 (t 16)),
        o 8 (.mov (t 18))])
      (.seq (.reg [o 19 (.mov (t 6)),
        o 20 (.mov (t 8)),
        o 21 (.bin .eql (t 19) (t 20))])
      (.cond (t 21)
       (.seq (.reg [o 4 (.mov (.cst (.bool true)))])
       (.ret))
       (.skip)))))))))))))))))
(.seq (.reg [o 4 (.mov (.cst (.bool false)))])
(.ret))), [.tmp 4]⟩
theorem ir102_tr : trF Tryz.prog ir102 Tryz.f102 = some ir102 := by kernel_rfl

-- strings.HasSuffix
def ir103 : IF := ⟨8, .seq (.reg [o 4 (.mov (.cst (.bool false)))])
(.seq (.reg [o 5 (.mov (t 0)),
  o 6 (.mov (t 1)),
  o 7 (.call 0 (.fn 112) [(t 5), (t 6)]),
  o 4 (.mov (t 7))])
(.ret)), [.tmp 4]⟩
theorem ir103_tr : trF Tryz.prog ir103 Tryz.f103 = some ir103 := by kernel_rfl

-- strconv.ParseUint
def ir105 : IF := ⟨26, .seq (.reg [o 6 (.mov (.cst (.int .u64 0))),
  o 7 (.mov (.cst .niliface))])
(.seq (.reg [o 11 (.mov (t 0)),
  o 12 (.mov (t 1)),
  o 13 (.mov (t 2)),
  o 14 (.call 0 (.fn 113) [(t 11), (t 12), (t 13)]),
  o 10 (.mov (t 14)),
  o 15 (.extract 0 (t 10)),
  o 16 (.extract 1 (t 10)),
  o 8 (.mov (t 15)),
  o 9 (.mov (t 16))])
(.seq (.seq (.reg [o 17 (.mov (t 9)),
  o 18 (.eqv .ifn true (t 17) (.cst .niliface))])
(.cond (t 18)
 (.seq (.reg [o 19 (.mov (t 8)),
   o 20 (.mov (t 0)),
   o 21 (.mov (t 1)),
   o 22 (.mov (t 2)),
   o 23 (.mov (t 9)),
   o 24 (.call 0 (.fn 114) [(.cst (.str [80, 97, 114, 115, 101, 85, 105, 110, 116])), (t 20), (t 21), (t 22), (t 23)]),
   o 6 (.mov (t 19)),
   o 7 (.mov (t 24))])
 (.ret))
 (.skip)))
(.seq (.reg [o 25 (.mov (t 8)),
  o 6 (.mov (t 25)),
  o 7 (.mov (.cst .niliface))])
(.ret)))), [.tmp 6, .tmp 7]⟩
theorem ir105_tr : trF Tryz.prog ir105 Tryz.f105 = some ir105 := by kernel_rfl

-- unicode/utf8.appendRuneNonASCII
def ir107 : IF := ⟨78, .seq (.reg [o 4 (.mov (.cst .nils))])
(.seq (.reg [o 6 (.mov (t 1)),
  o 7 (.cvInt .u32 (t 6)),
  o 5 (.mov (t 7))])
(.block 0 (.seq (.reg [o 12 (.mov (t 5)),
   o 13 (.bin .leq (t 12) (.cst (.int .u32 2047))),
   o 11 (.mov (t 13))])
 (.cond (t 11)
  (.seq (.reg [o 14 (.mov (t 0)),
    o 15 (.mov (t 1)),
    o 16 (.bin .shr (t 15) (.cst (.int .u64 6))),
    o 17 (.cvInt .u8 (t 16)),
    o 18 (.bin .or (.cst (.int .u8 192)) (t 17)),
    o 19 (.mov (t 1)),
    o 20 (.cvInt .u8 (t 19)),
    o 21 (.bin .and (t 20) (.cst (.int .u8 63))),
    o 22 (.bin .or (.cst (.int .u8 128)) (t 21)),
    o 23 (.lit .ro 1 [(t 18), (t 22)]),
    o 24 (.append .tok 1 (1, 5) (t 14) (t 23)),
    o 4 (.mov (t 24))])
  (.ret))
  (.seq (.seq (.reg [o 26 (.mov (t 5)),
    o 27 (.bin .lss (t 26) (.cst (.int .u32 55296))),
    o 25 (.mov (t 27))])
  (.cond (t 25)
   (.skip)
   (.reg [o 28 (.mov (t 5)),
     o 29 (.bin .lss (.cst (.int .u32 57343)) (t 28)),
     o 30 (.mov (t 29)),
     og 31 30 true (.mov (t 5)),
     og 32 30 true (.bin .leq (t 31) (.cst (.int .u32 65535))),
     o 33 (.pick (t 30) (t 32) (.cst (.bool false))),
     o 25 (.mov (t 33))])))
  (.gh [.kill [26, 27, 28, 29, 30, 31, 32, 33]] (.cond (t 25)
   (.seq (.reg [o 34 (.mov (t 0)),
     o 35 (.mov (t 1)),
     o 36 (.bin .shr (t 35) (.cst (.int .u64 12))),
     o 37 (.cvInt .u8 (t 36)),
     o 38 (.bin .or (.cst (.int .u8 224)) (t 37)),
     o 39 (.mov (t 1)),
     o 40 (.bin .shr (t 39) (.cst (.int .u64 6))),
     o 41 (.cvInt .u8 (t 40)),
     o 42 (.bin .and (t 41) (.cst (.int .u8 63))),
     o 43 (.bin .or (.cst (.int .u8 128)) (t 42)),
     o 44 (.mov (t 1)),
     o 45 (.cvInt .u8 (t 44)),
     o 46 (.bin .and (t 45) (.cst (.int .u8 63))),
     o 47 (.bin .or (.cst (.int .u8 128)) (t 46)),
     o 48 (.lit .ro 1 [(t 38), (t 43), (t 47)]),
     o 49 (.append .tok 1 (1, 5) (t 34) (t 48)),
     o 4 (.mov (t 49))])
   (.ret))
   (.seq (.reg [o 51 (.mov (t 5)),
     o 52 (.bin .gtr (t 51) (.cst (.int .u32 65535))),
     o 53 (.mov (t 52)),
     og 54 53 true (.mov (t 5)),
     og 55 53 true (.bin .leq (t 54) (.cst (.int .u32 1114111))),
     o 56 (.pick (t 53) (t 55) (.cst (.bool false))),
     o 50 (.mov (t 56))])
   (.gh [.kill [51, 52, 53, 54, 55, 56]] (.cond (t 50)
    (.seq (.reg [o 57 (.mov (t 0)),
      o 58 (.mov (t 1)),
      o 59 (.bin .shr (t 58) (.cst (.int .u64 18))),
      o 60 (.cvInt .u8 (t 59)),
      o 61 (.bin .or (.cst (.int .u8 240)) (t 60)),
      o 62 (.mov (t 1)),
      o 63 (.bin .shr (t 62) (.cst (.int .u64 12))),
      o 64 (.cvInt .u8 (t 63)),
      o 65 (.bin .and (t 64) (.cst (.int .u8 63))),
      o 66 (.bin .or (.cst (.int .u8 128)) (t 65)),
      o 67 (.mov (t 1)),
      o 68 (.bin .shr (t 67) (.cst (.int .u64 6))),
      o 69 (.cvInt .u8 (t 68)),
      o 70 (.bin .and (t 69) (.cst (.int .u8 63))),
      o 71 (.bin .or (.cst (.int .u8 128)) (t 70)),
      o 72 (.mov (t 1)),
      o 73 (.cvInt .u8 (t 72)),
      o 74 (.bin .and (t 73) (.cst (.int .u8 63))),
      o 75 (.bin .or (.cst (.int .u8 128)) (t 74)),
      o 76 (.lit .ro 1 [(t 61), (t 66), (t 71), (t 75)]),
      o 77 (.append .tok 1 (1, 5) (t 57) (t 76)),
      o 4 (.mov (t 77))])
    (.ret))
    (.seq (.reg [o 8 (.mov (t 0)),
      o 9 (.lit .ro 1 [(.cst (.int .u8 239)), (.cst (.int .u8 191)), (.cst (.int .u8 189))]),
      o 10 (.append .tok 1 (1, 5) (t 8) (t 9)),
      o 4 (.mov (t 10))])
    (.ret)))))))))))), [.tmp 4]⟩
theorem ir107_tr : trF Tryz.prog ir107 Tryz.f107 = some ir107 := by kernel_rfl

-- grille/tag.plain
def ir108 : IF := ⟨17, .seq (.reg [o 2 (.mov (.cst (.bool false)))])
(.seq (.reg [o 3 (.mov (t 0)),
  o 4 (.bin .eql (t 3) (.cst (.str [110, 117, 108, 108]))),
  o 5 (.mov (t 4)),
  og 6 5 false (.mov (t 0)),
  og 7 5 false (.bin .eql (t 6) (.cst (.str [98, 111, 111, 108]))),
  o 8 (.pick (t 5) (.cst (.bool true)) (t 7)),
  o 9 (.mov (t 8)),
  og 10 9 false (.mov (t 0)),
  og 11 9 false (.bin .eql (t 10) (.cst (.str [105, 110, 116]))),
  o 12 (.pick (t 9) (.cst (.bool true)) (t 11)),
  o 13 (.mov (t 12)),
  og 14 13 false (.mov (t 0)),
  og 15 13 false (.bin .eql (t 14) (.cst (.str [102, 108, 111, 97, 116]))),
  o 16 (.pick (t 13) (.cst (.bool true)) (t 15)),
  o 2 (.mov (t 16))])
(.ret)), [.tmp 2]⟩
theorem ir108_tr : trF Tryz.prog ir108 Tryz.f108 = some ir108 := by kernel_rfl

-- grille/tag.own$1
def ir109 : IF := ⟨6, .seq (.reg [o 2 (.mov (.cst (.bool false)))])
(.seq (.reg [o 3 (.mov (t 0)),
  o 4 (.call 0 (.fn 110) [(t 3)]),
  o 5 (.not (t 4)),
  o 2 (.mov (t 5))])
(.ret)), [.tmp 2]⟩
theorem ir109_tr : trF Tryz.prog ir109 Tryz.f109 = some ir109 := by kernel_rfl

-- grille/tag.named
def ir110 : IF := ⟨29, .seq (.reg [o 2 (.mov (.cst (.bool false)))])
(.seq (.reg [o 3 (.mov (t 0)),
  o 4 (.bin .geq (t 3) (.cst (.int .i32 97))),
  o 5 (.mov (t 4)),
  og 6 5 true (.mov (t 0)),
  og 7 5 true (.bin .leq (t 6) (.cst (.int .i32 122))),
  o 8 (.pick (t 5) (t 7) (.cst (.bool false))),
  o 9 (.mov (t 8)),
  og 10 9 false (.mov (t 0)),
  og 11 9 false (.bin .geq (t 10) (.cst (.int .i32 65))),
  og 12 9 false (.mov (t 11)),
  og 13 12 true (.mov (t 0)),
  og 14 12 true (.bin .leq (t 13) (.cst (.int .i32 90))),
  og 15 9 false (.pick (t 12) (t 14) (.cst (.bool false))),
  o 16 (.pick (t 9) (.cst (.bool true)) (t 15)),
  o 17 (.mov (t 16)),
  og 18 17 false (.mov (t 0)),
  og 19 17 false (.bin .geq (t 18) (.cst (.int .i32 48))),
  og 20 17 false (.mov (t 19)),
  og 21 20 true (.mov (t 0)),
  og 22 20 true (.bin .leq (t 21) (.cst (.int .i32 57))),
  og 23 17 false (.pick (t 20) (t 22) (.cst (.bool false))),
  o 24 (.pick (t 17) (.cst (.bool true)) (t 23)),
  o 25 (.mov (t 24)),
  og 26 25 false (.mov (t 0)),
  og 27 25 false (.bin .eql (t 26) (.cst (.int .i32 45))),
  o 28 (.pick (t 25) (.cst (.bool true)) (t 27)),
  o 2 (.mov (t 28))])
(.ret)), [.tmp 2]⟩
theorem ir110_tr : trF Tryz.prog ir110 Tryz.f110 = some ir110 := by kernel_rfl

-- internal/stringslite.HasSuffix
def ir112 : IF := ⟨21, .seq (.reg [o 4 (.mov (.cst (.bool false)))])
(.seq (.reg [o 5 (.mov (t 0)),
  o 6 (.len .str (t 5)),
  o 7 (.mov (t 1)),
  o 8 (.len .str (t 7)),
  o 9 (.bin .geq (t 6) (t 8)),
  o 10 (.mov (t 9)),
  og 11 10 true (.mov (t 0)),
  og 12 10 true (.mov (t 0)),
  og 13 10 true (.len .str (t 12)),
  og 14 10 true (.mov (t 1)),
  og 15 10 true (.len .str (t 14)),
  og 16 10 true (.bin .sub (t 13) (t 15)),
  og 17 10 true (.slcS (t 11) (some (t 16)) none),
  og 18 10 true (.mov (t 1)),
  og 19 10 true (.bin .eql (t 17) (t 18)),
  o 20 (.pick (t 10) (t 19) (.cst (.bool false))),
  o 4 (.mov (t 20))])
(.ret)), [.tmp 4]⟩
theorem ir112_tr : trF Tryz.prog ir112 Tryz.f112 = some ir112 := by kernel_rfl

-- internal/strconv.ParseUint
def ir113 : IF := ⟨172, .seq (.reg [o 6 (.mov (.cst (.int .u64 0))),
  o 7 (.mov (.cst .niliface))])
(.seq (.seq (.reg [o 18 (.mov (t 0)),
  o 19 (.bin .eql (t 18) (.cst (.str [])))])
(.cond (t 19)
 (.seq (.reg [o 20 (.mkIface 127 (.cst (.int .i64 2))),
   o 6 (.mov (.cst (.int .u64 0))),
   o 7 (.mov (t 20))])
 (.ret))
 (.skip)))
(.seq (.reg [o 21 (.mov (t 1)),
  o 22 (.bin .eql (t 21) (.cst (.int .i64 0))),
  o 8 (.mov (t 22))])
(.seq (.reg [o 23 (.mov (t 0)),
  o 9 (.mov (t 23))])
(.seq (.block 0 (.seq (.reg [o 26 (.mov (t 1)),
   o 27 (.bin .leq (.cst (.int .i64 2)) (t 26)),
   o 28 (.mov (t 27)),
   og 29 28 true (.mov (t 1)),
   og 30 28 true (.bin .leq (t 29) (.cst (.int .i64 36))),
   o 31 (.pick (t 28) (t 30) (.cst (.bool false))),
   o 25 (.mov (t 31))])
 (.gh [.kill [26, 27, 28, 29, 30, 31]] (.cond (t 25)
  (.skip)
  (.seq (.reg [o 33 (.mov (t 1)),
    o 34 (.bin .eql (t 33) (.cst (.int .i64 0))),
    o 32 (.mov (t 34))])
  (.cond (t 32)
   (.seq (.reg [o 1 (.mov (.cst (.int .i64 10)))])
   (.seq (.reg [o 35 (.mov (t 0)),
     o 36 (.idxStr (t 35) (.cst (.int .i64 0))),
     o 37 (.bin .eql (t 36) (.cst (.int .u8 48)))])
   (.cond (t 37)
    (.block 1 (.seq (.reg [o 41 (.mov (t 0)),
       o 42 (.len .str (t 41)),
       o 43 (.bin .geq (t 42) (.cst (.int .i64 3))),
       o 44 (.mov (t 43)),
       og 45 44 true (.mov (t 0)),
       og 46 44 true (.idxStr (t 45) (.cst (.int .i64 1))),
       og 47 44 true (.call 0 (.fn 117) [(t 46)]),
       og 48 44 true (.bin .eql (t 47) (.cst (.int .u8 98))),
       o 49 (.pick (t 44) (t 48) (.cst (.bool false))),
       o 40 (.mov (t 49))])
     (.gh [.kill [41, 42, 43, 44, 45, 46, 47, 48, 49]] (.cond (t 40)
      (.seq (.reg [o 1 (.mov (.cst (.int .i64 2)))])
      (.reg [o 50 (.mov (t 0)),
        o 51 (.slcS (t 50) (some (.cst (.int .i64 2))) none),
        o 0 (.mov (t 51))]))
      (.seq (.reg [o 53 (.mov (t 0)),
        o 54 (.len .str (t 53)),
        o 55 (.bin .geq (t 54) (.cst (.int .i64 3))),
        o 56 (.mov (t 55)),
        og 57 56 true (.mov (t 0)),
        og 58 56 true (.idxStr (t 57) (.cst (.int .i64 1))),
        og 59 56 true (.call 0 (.fn 117) [(t 58)]),
        og 60 56 true (.bin .eql (t 59) (.cst (.int .u8 111))),
        o 61 (.pick (t 56) (t 60) (.cst (.bool false))),
        o 52 (.mov (t 61))])
      (.gh [.kill [53, 54, 55, 56, 57, 58, 59, 60, 61]] (.cond (t 52)
       (.seq (.reg [o 1 (.mov (.cst (.int .i64 8)))])
       (.reg [o 62 (.mov (t 0)),
         o 63 (.slcS (t 62) (some (.cst (.int .i64 2))) none),
         o 0 (.mov (t 63))]))
       (.seq (.reg [o 65 (.mov (t 0)),
         o 66 (.len .str (t 65)),
         o 67 (.bin .geq (t 66) (.cst (.int .i64 3))),
         o 68 (.mov (t 67)),
         og 69 68 true (.mov (t 0)),
         og 70 68 true (.idxStr (t 69) (.cst (.int .i64 1))),
         og 71 68 true (.call 0 (.fn 117) [(t 70)]),
         og 72 68 true (.bin .eql (t 71) (.cst (.int .u8 120))),
         o 73 (.pick (t 68) (t 72) (.cst (.bool false))),
         o 64 (.mov (t 73))])
       (.gh [.kill [65, 66, 67, 68, 69, 70, 71, 72, 73]] (.cond (t 64)
        (.seq (.reg [o 1 (.mov (.cst (.int .i64 16)))])
        (.reg [o 74 (.mov (t 0)),
          o 75 (.slcS (t 74) (some (.cst (.int .i64 2))) none),
          o 0 (.mov (t 75))]))
        (.seq (.reg [o 1 (.mov (.cst (.int .i64 8)))])
        (.reg [o 38 (.mov (t 0)),
          o 39 (.slcS (t 38) (some (.cst (.int .i64 1))) none),
          o 0 (.mov (t 39))]))))))))))))
    (.skip))))
   (.seq (.reg [o 24 (.mkIface 127 (.cst (.int .i64 3))),
     o 6 (.mov (.cst (.int .u64 0))),
     o 7 (.mov (t 24))])
   (.ret))))))))
(.gh [.kill [25, 26, 27, 28, 29, 30, 31, 33, 34, 32, 35, 36, 37, 40, 41, 42, 43, 44, 45, 46, 47, 48, 49, 50, 51, 52, 53, 54, 55, 56, 57, 58, 59, 60, 61, 62, 63, 64, 65, 66, 67, 68, 69, 70, 71, 72, 73, 74, 75, 38, 39, 24, 6, 7]] (.seq (.seq (.reg [o 76 (.mov (t 2)),
  o 77 (.bin .eql (t 76) (.cst (.int .i64 0)))])
(.cond (t 77)
 (.reg [o 2 (.mov (.cst (.int .i64 64)))])
 (.seq (.reg [o 78 (.mov (t 2)),
   o 79 (.bin .lss (t 78) (.cst (.int .i64 0))),
   o 80 (.mov (t 79)),
   og 81 80 false (.mov (t 2)),
   og 82 80 false (.bin .gtr (t 81) (.cst (.int .i64 64))),
   o 83 (.pick (t 80) (.cst (.bool true)) (t 82))])
 (.gh [.kill [78, 79, 80, 81, 82]] (.cond (t 83)
  (.seq (.reg [o 84 (.mkIface 127 (.cst (.int .i64 4))),
    o 6 (.mov (.cst (.int .u64 0))),
    o 7 (.mov (t 84))])
  (.ret))
  (.skip))))))
(.gh [.kill [76, 77, 83, 78, 79, 80, 81, 82, 84, 6, 7]] (.seq (.reg [o 10 (.mov (.cst (.int .u64 0)))])
(.seq (.seq (.reg [o 85 (.mov (t 1))])
(.block 2 (.seq (.reg [o 91 (.bin .eql (t 85) (.cst (.int .i64 10))),
   o 90 (.mov (t 91))])
 (.cond (t 90)
  (.reg [o 10 (.mov (.cst (.int .u64 1844674407370955162)))])
  (.seq (.reg [o 93 (.bin .eql (t 85) (.cst (.int .i64 16))),
    o 92 (.mov (t 93))])
  (.cond (t 92)
   (.reg [o 10 (.mov (.cst (.int .u64 1152921504606846976)))])
   (.reg [o 86 (.mov (t 1)),
     o 87 (.cvInt .u64 (t 86)),
     o 88 (.bin .quo (.cst (.int .u64 18446744073709551615)) (t 87)),
     o 89 (.bin .add (t 88) (.cst (.int .u64 1))),
     o 10 (.mov (t 89))])))))))
(.gh [.kill [85, 91, 90, 93, 92, 86, 87, 88, 89]] (.seq (.reg [o 94 (.mov (t 2)),
  o 95 (.cvInt .u64 (t 94)),
  o 96 (.bin .shl (.cst (.int .u64 1)) (t 95)),
  o 97 (.bin .sub (t 96) (.cst (.int .u64 1))),
  o 11 (.mov (t 97))])
(.seq (.reg [o 12 (.mov (.cst (.bool false)))])
(.seq (.reg [o 13 (.mov (.cst (.int .u64 0)))])
(.seq (.seq (.reg [o 98 (.mov (t 0)),
  o 99 (.cvBytes (t 98)),
  o 100 (.len .row (t 99)),
  o 101 (.mov (.cst (.int .i64 0)))])
(.block 3 (.loop [102, 103, 104, 15, 16, 106, 107, 108, 109, 110, 111, 112, 113, 114, 115, 116, 117, 118, 119, 120, 121, 122, 123, 124, 125, 126, 127, 128, 129, 130, 131, 132, 133, 105, 134, 135, 136, 137, 138, 139, 140, 141, 142, 143, 144, 145, 146, 147, 148, 149, 150, 151, 17, 159, 152, 153, 154, 155, 156, 157, 158, 160, 161, 6, 7, 162, 163] (.seq (.reg [o 102 (.bin .lss (t 101) (t 100))])
  (.seq (.cond (t 102)
   (.skip)
   (.exit 3))
  (.seq (.block 4 (.seq (.reg [o 103 (.idxAddr 1 (t 99) (t 101)),
     o 104 (.load none (t 103)),
     o 15 (.mov (t 104))])
   (.seq (.reg [o 16 (.mov (.cst (.int .u8 0)))])
   (.seq (.block 5 (.seq (.reg [o 107 (.mov (t 15)),
      o 108 (.bin .eql (t 107) (.cst (.int .u8 95))),
      o 109 (.mov (t 108)),
      og 110 109 true (.mov (t 8)),
      o 111 (.pick (t 109) (t 110) (.cst (.bool false))),
      o 106 (.mov (t 111))])
    (.gh [.kill [107, 108, 109, 110, 111]] (.cond (t 106)
     (.seq (.reg [o 12 (.mov (.cst (.bool true)))])
     (.exit 4))
     (.seq (.reg [o 113 (.mov (t 15)),
       o 114 (.bin .leq (.cst (.int .u8 48)) (t 113)),
       o 115 (.mov (t 114)),
       og 116 115 true (.mov (t 15)),
       og 117 115 true (.bin .leq (t 116) (.cst (.int .u8 57))),
       o 118 (.pick (t 115) (t 117) (.cst (.bool false))),
       o 112 (.mov (t 118))])
     (.gh [.kill [113, 114, 115, 116, 117, 118]] (.cond (t 112)
      (.reg [o 119 (.mov (t 15)),
        o 120 (.bin .sub (t 119) (.cst (.int .u8 48))),
        o 16 (.mov (t 120))])
      (.seq (.reg [o 122 (.mov (t 15)),
        o 123 (.call 0 (.fn 117) [(t 122)]),
        o 124 (.bin .leq (.cst (.int .u8 97)) (t 123)),
        o 125 (.mov (t 124)),
        og 126 125 true (.mov (t 15)),
        og 127 125 true (.call 0 (.fn 117) [(t 126)]),
        og 128 125 true (.bin .leq (t 127) (.cst (.int .u8 122))),
        o 129 (.pick (t 125) (t 128) (.cst (.bool false))),
        o 121 (.mov (t 129))])
      (.gh [.kill [122, 123, 124, 125, 126, 127, 128, 129]] (.cond (t 121)
       (.reg [o 130 (.mov (t 15)),
         o 131 (.call 0 (.fn 117) [(t 130)]),
         o 132 (.bin .sub (t 131) (.cst (.int .u8 97))),
         o 133 (.bin .add (t 132) (.cst (.int .u8 10))),
         o 16 (.mov (t 133))])
       (.seq (.reg [o 105 (.mkIface 127 (.cst (.int .i64 2))),
         o 6 (.mov (.cst (.int .u64 0))),
         o 7 (.mov (t 105))])
       (.ret))))))))))))
   (.gh [.kill [106, 107, 108, 109, 110, 111, 112, 113, 114, 115, 116, 117, 118, 119, 120, 121, 122, 123, 124, 125, 126, 127, 128, 129, 130, 131, 132, 133, 105, 6, 7]] (.seq (.seq (.reg [o 134 (.mov (t 16)),
     o 135 (.mov (t 1)),
     o 136 (.cvInt .u8 (t 135)),
     o 137 (.bin .geq (t 134) (t 136))])
   (.cond (t 137)
    (.seq (.reg [o 138 (.mkIface 127 (.cst (.int .i64 2))),
      o 6 (.mov (.cst (.int .u64 0))),
      o 7 (.mov (t 138))])
    (.ret))
    (.skip)))
   (.seq (.seq (.reg [o 139 (.mov (t 13)),
     o 140 (.mov (t 10)),
     o 141 (.bin .geq (t 139) (t 140))])
   (.cond (t 141)
    (.seq (.reg [o 142 (.mov (t 11)),
      o 143 (.mkIface 127 (.cst (.int .i64 1))),
      o 6 (.mov (t 142)),
      o 7 (.mov (t 143))])
    (.ret))
    (.skip)))
   (.seq (.reg [o 144 (.mov (t 13)),
     o 145 (.mov (t 1)),
     o 146 (.cvInt .u64 (t 145)),
     o 147 (.bin .mul (t 144) (t 146)),
     o 13 (.mov (t 147))])
   (.seq (.reg [o 148 (.mov (t 13)),
     o 149 (.mov (t 16)),
     o 150 (.cvInt .u64 (t 149)),
     o 151 (.bin .add (t 148) (t 150)),
     o 17 (.mov (t 151))])
   (.seq (.seq (.reg [o 152 (.mov (t 17)),
     o 153 (.mov (t 13)),
     o 154 (.bin .lss (t 152) (t 153)),
     o 155 (.mov (t 154)),
     og 156 155 false (.mov (t 17)),
     og 157 155 false (.mov (t 11)),
     og 158 155 false (.bin .gtr (t 156) (t 157)),
     o 159 (.pick (t 155) (.cst (.bool true)) (t 158))])
   (.gh [.kill [152, 153, 154, 155, 156, 157, 158]] (.cond (t 159)
    (.seq (.reg [o 160 (.mov (t 11)),
      o 161 (.mkIface 127 (.cst (.int .i64 1))),
      o 6 (.mov (t 160)),
      o 7 (.mov (t 161))])
    (.ret))
    (.skip))))
   (.reg [o 162 (.mov (t 17)),
     o 13 (.mov (t 162))])))))))))))
  (.gh [.kill [103, 104, 15, 16, 106, 107, 108, 109, 110, 111, 112, 113, 114, 115, 116, 117, 118, 119, 120, 121, 122, 123, 124, 125, 126, 127, 128, 129, 130, 131, 132, 133, 105, 134, 135, 136, 137, 138, 139, 140, 141, 142, 143, 144, 145, 146, 147, 148, 149, 150, 151, 17, 159, 152, 153, 154, 155, 156, 157, 158, 160, 161, 6, 7, 162]] (.reg [o 163 (.bin .add (t 101) (.cst (.int .i64 1))),
    o 101 (.mov (t 163))]))))))))
(.seq (.seq (.reg [o 164 (.mov (t 12)),
  o 165 (.mov (t 164)),
  og 166 165 true (.mov (t 9)),
  og 167 165 true (.call 0 (.fn 118) [(t 166)]),
  og 168 165 true (.not (t 167)),
  o 169 (.pick (t 165) (t 168) (.cst (.bool false)))])
(.gh [.kill [164, 165, 166, 167, 168]] (.cond (t 169)
 (.seq (.reg [o 170 (.mkIface 127 (.cst (.int .i64 2))),
   o 6 (.mov (.cst (.int .u64 0))),
   o 7 (.mov (t 170))])
 (.ret))
 (.skip))))
(.seq (.reg [o 171 (.mov (t 13)),
  o 6 (.mov (t 171)),
  o 7 (.mov (.cst .niliface))])
(.ret))))))))))))))))), [.tmp 6, .tmp 7]⟩
theorem ir113_tr : trF Tryz.prog ir113 Tryz.f113 = some ir113 := by kernel_rfl

-- internal/strconv.lower
def ir117 : IF := ⟨5, .seq (.reg [o 2 (.mov (.cst (.int .u8 0)))])
(.seq (.reg [o 3 (.mov (t 0)),
  o 4 (.bin .or (t 3) (.cst (.int .u8 32))),
  o 2 (.mov (t 4))])
(.ret)), [.tmp 2]⟩
theorem ir117_tr : trF Tryz.prog ir117 Tryz.f117 = some ir117 := by kernel_rfl

-- internal/strconv.underscoreOK
def ir118 : IF := ⟨94, .seq (.reg [o 2 (.mov (.cst (.bool false)))])
(.seq (.reg [o 3 (.mov (.cst (.int .i32 94)))])
(.seq (.reg [o 4 (.mov (.cst (.int .i64 0)))])
(.seq (.seq (.reg [o 6 (.mov (t 0)),
  o 7 (.len .str (t 6)),
  o 8 (.bin .geq (t 7) (.cst (.int .i64 1))),
  o 9 (.mov (t 8)),
  og 10 9 true (.mov (t 0)),
  og 11 9 true (.idxStr (t 10) (.cst (.int .i64 0))),
  og 12 9 true (.bin .eql (t 11) (.cst (.int .u8 45))),
  og 13 9 true (.mov (t 12)),
  og 14 13 false (.mov (t 0)),
  og 15 13 false (.idxStr (t 14) (.cst (.int .i64 0))),
  og 16 13 false (.bin .eql (t 15) (.cst (.int .u8 43))),
  og 17 9 true (.pick (t 13) (.cst (.bool true)) (t 16)),
  o 18 (.pick (t 9) (t 17) (.cst (.bool false)))])
(.gh [.kill [6, 7, 8, 9, 10, 11, 12, 13, 14, 15, 16, 17]] (.cond (t 18)
 (.reg [o 19 (.mov (t 0)),
   o 20 (.slcS (t 19) (some (.cst (.int .i64 1))) none),
   o 0 (.mov (t 20))])
 (.skip))))
(.gh [.kill [18, 6, 7, 8, 9, 10, 11, 12, 13, 14, 15, 16, 17, 19, 20]] (.seq (.reg [o 5 (.mov (.cst (.bool false)))])
(.seq (.seq (.reg [o 21 (.mov (t 0)),
  o 22 (.len .str (t 21)),
  o 23 (.bin .geq (t 22) (.cst (.int .i64 2))),
  o 24 (.mov (t 23)),
  og 25 24 true (.mov (t 0)),
  og 26 24 true (.idxStr (t 25) (.cst (.int .i64 0))),
  og 27 24 true (.bin .eql (t 26) (.cst (.int .u8 48))),
  o 28 (.pick (t 24) (t 27) (.cst (.bool false))),
  o 29 (.mov (t 28)),
  og 30 29 true (.mov (t 0)),
  og 31 29 true (.idxStr (t 30) (.cst (.int .i64 1))),
  og 32 29 true (.call 0 (.fn 117) [(t 31)]),
  og 33 29 true (.bin .eql (t 32) (.cst (.int .u8 98))),
  og 34 29 true (.mov (t 33)),
  og 35 34 false (.mov (t 0)),
  og 36 34 false (.idxStr (t 35) (.cst (.int .i64 1))),
  og 37 34 false (.call 0 (.fn 117) [(t 36)]),
  og 38 34 false (.bin .eql (t 37) (.cst (.int .u8 111))),
  og 39 29 true (.pick (t 34) (.cst (.bool true)) (t 38)),
  og 40 29 true (.mov (t 39)),
  og 41 40 false (.mov (t 0)),
  og 42 40 false (.idxStr (t 41) (.cst (.int .i64 1))),
  og 43 40 false (.call 0 (.fn 117) [(t 42)]),
  og 44 40 false (.bin .eql (t 43) (.cst (.int .u8 120))),
  og 45 29 true (.pick (t 40) (.cst (.bool true)) (t 44)),
  o 46 (.pick (t 29) (t 45) (.cst (.bool false)))])
(.gh [.kill [21, 22, 23, 24, 25, 26, 27, 28, 29, 30, 31, 32, 33, 34, 35, 36, 37, 38, 39, 40, 41, 42, 43, 44, 45]] (.cond (t 46)
 (.seq (.reg [o 4 (.mov (.cst (.int .i64 2)))])
 (.seq (.reg [o 3 (.mov (.cst (.int .i32 48)))])
 (.reg [o 47 (.mov (t 0)),
   o 48 (.idxStr (t 47) (.cst (.int .i64 1))),
   o 49 (.call 0 (.fn 117) [(t 48)]),
   o 50 (.bin .eql (t 49) (.cst (.int .u8 120))),
   o 5 (.mov (t 50))])))
 (.skip))))
(.gh [.kill [46, 21, 22, 23, 24, 25, 26, 27, 28, 29, 30, 31, 32, 33, 34, 35, 36, 37, 38, 39, 40, 41, 42, 43, 44, 45, 47, 48, 49, 50]] (.seq (.block 0 (.loop [51, 52, 53, 54, 83, 57, 58, 59, 60, 61, 62, 63, 64, 65, 66, 67, 68, 69, 70, 71, 72, 73, 74, 75, 76, 77, 78, 79, 80, 81, 82, 84, 85, 86, 87, 88, 89, 90, 91, 2, 55, 56] (.seq (.seq (.reg [o 51 (.mov (t 4)),
    o 52 (.mov (t 0)),
    o 53 (.len .str (t 52)),
    o 54 (.bin .lss (t 51) (t 53))])
  (.cond (t 54)
   (.skip)
   (.exit 0)))
  (.seq (.block 1 (.seq (.seq (.reg [o 57 (.mov (t 0)),
     o 58 (.mov (t 4)),
     o 59 (.idxStr (t 57) (t 58)),
     o 60 (.bin .leq (.cst (.int .u8 48)) (t 59)),
     o 61 (.mov (t 60)),
     og 62 61 true (.mov (t 0)),
     og 63 61 true (.mov (t 4)),
     og 64 61 true (.idxStr (t 62) (t 63)),
     og 65 61 true (.bin .leq (t 64) (.cst (.int .u8 57))),
     o 66 (.pick (t 61) (t 65) (.cst (.bool false))),
     o 67 (.mov (t 66)),
     og 68 67 false (.mov (t 5)),
     og 69 67 false (.mov (t 68)),
     og 70 69 true (.mov (t 0)),
     og 71 69 true (.mov (t 4)),
     og 72 69 true (.idxStr (t 70) (t 71)),
     og 73 69 true (.call 0 (.fn 117) [(t 72)]),
     og 74 69 true (.bin .leq (.cst (.int .u8 97)) (t 73)),
     og 75 67 false (.pick (t 69) (t 74) (.cst (.bool false))),
     og 76 67 false (.mov (t 75)),
     og 77 76 true (.mov (t 0)),
     og 78 76 true (.mov (t 4)),
     og 79 76 true (.idxStr (t 77) (t 78)),
     og 80 76 true (.call 0 (.fn 117) [(t 79)]),
     og 81 76 true (.bin .leq (t 80) (.cst (.int .u8 102))),
     og 82 67 false (.pick (t 76) (t 81) (.cst (.bool false))),
     o 83 (.pick (t 67) (.cst (.bool true)) (t 82))])
   (.gh [.kill [57, 58, 59, 60, 61, 62, 63, 64, 65, 66, 67, 68, 69, 70, 71, 72, 73, 74, 75, 76, 77, 78, 79, 80, 81, 82]] (.cond (t 83)
    (.seq (.reg [o 3 (.mov (.cst (.int .i32 48)))])
    (.exit 1))
    (.skip))))
   (.seq (.seq (.reg [o 84 (.mov (t 0)),
     o 85 (.mov (t 4)),
     o 86 (.idxStr (t 84) (t 85)),
     o 87 (.bin .eql (t 86) (.cst (.int .u8 95)))])
   (.cond (t 87)
    (.seq (.seq (.reg [o 88 (.mov (t 3)),
      o 89 (.bin .neq (t 88) (.cst (.int .i32 48)))])
    (.cond (t 89)
     (.seq (.reg [o 2 (.mov (.cst (.bool false)))])
     (.ret))
     (.skip)))
    (.seq (.reg [o 3 (.mov (.cst (.int .i32 95)))])
    (.exit 1)))
    (.skip)))
   (.seq (.seq (.reg [o 90 (.mov (t 3)),
     o 91 (.bin .eql (t 90) (.cst (.int .i32 95)))])
   (.cond (t 91)
    (.seq (.reg [o 2 (.mov (.cst (.bool false)))])
    (.ret))
    (.skip)))
   (.reg [o 3 (.mov (.cst (.int .i32 33)))])))))
  (.gh [.kill [83, 57, 58, 59, 60, 61, 62, 63, 64, 65, 66, 67, 68, 69, 70, 71, 72, 73, 74, 75, 76, 77, 78, 79, 80, 81, 82, 84, 85, 86, 87, 88, 89, 90, 91, 2]] (.reg [o 55 (.mov (t 4)),
    o 56 (.bin .add (t 55) (.cst (.int .i64 1))),
    o 4 (.mov (t 56))]))))))
(.seq (.reg [o 92 (.mov (t 3)),
  o 93 (.bin .neq (t 92) (.cst (.int .i32 95))),
  o 2 (.mov (t 93))])
(.ret)))))))))), [.tmp 2]⟩
theorem ir118_tr : trF Tryz.prog ir118 Tryz.f118 = some ir118 := by kernel_rfl

def irs : List (Nat × IF) := [(3, ir3), (4, ir4), (5, ir5), (7, ir7), (10, ir10), (12, ir12), (15, ir15), (16, ir16), (17, ir17), (18, ir18), (25, ir25), (28, ir28), (29, ir29), (30, ir30), (31, ir31), (33, ir33), (37, ir37), (40, ir40), (41, ir41), (42, ir42), (44, ir44), (45, ir45), (46, ir46), (47, ir47), (48, ir48), (51, ir51), (54, ir54), (56, ir56), (57, ir57), (58, ir58), (59, ir59), (60, ir60), (61, ir61), (62, ir62), (63, ir63), (64, ir64), (66, ir66), (67, ir67), (72, ir72), (73, ir73), (74, ir74), (75, ir75), (76, ir76), (78, ir78), (79, ir79), (80, ir80), (81, ir81), (82, ir82), (83, ir83), (84, ir84), (85, ir85), (87, ir87), (90, ir90), (91, ir91), (92, ir92), (94, ir94), (95, ir95), (96, ir96), (97, ir97), (101, ir101), (102, ir102), (103, ir103), (105, ir105), (107, ir107), (108, ir108), (109, ir109), (110, ir110), (112, ir112), (113, ir113), (117, ir117), (118, ir118)]

theorem irs_ok (T' : Laid) : ∀ p ∈ irs, EntryOk Tryz.prog T' p.1 (.ir p.2) := by
  intro p hp
  simp only [irs, List.mem_cons, List.mem_nil_iff, or_false] at hp
  rcases hp with rfl | rfl | rfl | rfl | rfl | rfl | rfl | rfl | rfl | rfl | rfl | rfl | rfl | rfl | rfl | rfl | rfl | rfl | rfl | rfl | rfl | rfl | rfl | rfl | rfl | rfl | rfl | rfl | rfl | rfl | rfl | rfl | rfl | rfl | rfl | rfl | rfl | rfl | rfl | rfl | rfl | rfl | rfl | rfl | rfl | rfl | rfl | rfl | rfl | rfl | rfl | rfl | rfl | rfl | rfl | rfl | rfl | rfl | rfl | rfl | rfl | rfl | rfl | rfl | rfl | rfl | rfl | rfl | rfl | rfl | rfl
  · exact ⟨_, Tryz.func3, ir3_tr⟩
  · exact ⟨_, Tryz.func4, ir4_tr⟩
  · exact ⟨_, Tryz.func5, ir5_tr⟩
  · exact ⟨_, Tryz.func7, ir7_tr⟩
  · exact ⟨_, Tryz.func10, ir10_tr⟩
  · exact ⟨_, Tryz.func12, ir12_tr⟩
  · exact ⟨_, Tryz.func15, ir15_tr⟩
  · exact ⟨_, Tryz.func16, ir16_tr⟩
  · exact ⟨_, Tryz.func17, ir17_tr⟩
  · exact ⟨_, Tryz.func18, ir18_tr⟩
  · exact ⟨_, Tryz.func25, ir25_tr⟩
  · exact ⟨_, Tryz.func28, ir28_tr⟩
  · exact ⟨_, Tryz.func29, ir29_tr⟩
  · exact ⟨_, Tryz.func30, ir30_tr⟩
  · exact ⟨_, Tryz.func31, ir31_tr⟩
  · exact ⟨_, Tryz.func33, ir33_tr⟩
  · exact ⟨_, Tryz.func37, ir37_tr⟩
  · exact ⟨_, Tryz.func40, ir40_tr⟩
  · exact ⟨_, Tryz.func41, ir41_tr⟩
  · exact ⟨_, Tryz.func42, ir42_tr⟩
  · exact ⟨_, Tryz.func44, ir44_tr⟩
  · exact ⟨_, Tryz.func45, ir45_tr⟩
  · exact ⟨_, Tryz.func46, ir46_tr⟩
  · exact ⟨_, Tryz.func47, ir47_tr⟩
  · exact ⟨_, Tryz.func48, ir48_tr⟩
  · exact ⟨_, Tryz.func51, ir51_tr⟩
  · exact ⟨_, Tryz.func54, ir54_tr⟩
  · exact ⟨_, Tryz.func56, ir56_tr⟩
  · exact ⟨_, Tryz.func57, ir57_tr⟩
  · exact ⟨_, Tryz.func58, ir58_tr⟩
  · exact ⟨_, Tryz.func59, ir59_tr⟩
  · exact ⟨_, Tryz.func60, ir60_tr⟩
  · exact ⟨_, Tryz.func61, ir61_tr⟩
  · exact ⟨_, Tryz.func62, ir62_tr⟩
  · exact ⟨_, Tryz.func63, ir63_tr⟩
  · exact ⟨_, Tryz.func64, ir64_tr⟩
  · exact ⟨_, Tryz.func66, ir66_tr⟩
  · exact ⟨_, Tryz.func67, ir67_tr⟩
  · exact ⟨_, Tryz.func72, ir72_tr⟩
  · exact ⟨_, Tryz.func73, ir73_tr⟩
  · exact ⟨_, Tryz.func74, ir74_tr⟩
  · exact ⟨_, Tryz.func75, ir75_tr⟩
  · exact ⟨_, Tryz.func76, ir76_tr⟩
  · exact ⟨_, Tryz.func78, ir78_tr⟩
  · exact ⟨_, Tryz.func79, ir79_tr⟩
  · exact ⟨_, Tryz.func80, ir80_tr⟩
  · exact ⟨_, Tryz.func81, ir81_tr⟩
  · exact ⟨_, Tryz.func82, ir82_tr⟩
  · exact ⟨_, Tryz.func83, ir83_tr⟩
  · exact ⟨_, Tryz.func84, ir84_tr⟩
  · exact ⟨_, Tryz.func85, ir85_tr⟩
  · exact ⟨_, Tryz.func87, ir87_tr⟩
  · exact ⟨_, Tryz.func90, ir90_tr⟩
  · exact ⟨_, Tryz.func91, ir91_tr⟩
  · exact ⟨_, Tryz.func92, ir92_tr⟩
  · exact ⟨_, Tryz.func94, ir94_tr⟩
  · exact ⟨_, Tryz.func95, ir95_tr⟩
  · exact ⟨_, Tryz.func96, ir96_tr⟩
  · exact ⟨_, Tryz.func97, ir97_tr⟩
  · exact ⟨_, Tryz.func101, ir101_tr⟩
  · exact ⟨_, Tryz.func102, ir102_tr⟩
  · exact ⟨_, Tryz.func103, ir103_tr⟩
  · exact ⟨_, Tryz.func105, ir105_tr⟩
  · exact ⟨_, Tryz.func107, ir107_tr⟩
  · exact ⟨_, Tryz.func108, ir108_tr⟩
  · exact ⟨_, Tryz.func109, ir109_tr⟩
  · exact ⟨_, Tryz.func110, ir110_tr⟩
  · exact ⟨_, Tryz.func112, ir112_tr⟩
  · exact ⟨_, Tryz.func113, ir113_tr⟩
  · exact ⟨_, Tryz.func117, ir117_tr⟩
  · exact ⟨_, Tryz.func118, ir118_tr⟩

def irAt (k : Nat) : Option IF := (irs.find? fun p => p.1 == k).map (·.2)

theorem irAt_ok (T' : Laid) {k : Nat} {f : IF} (h : irAt k = some f) : EntryOk Tryz.prog T' k (.ir f) := by
  simp only [irAt, Option.map_eq_some_iff] at h
  obtain ⟨p, hp, rfl⟩ := h
  have hk := List.find?_some hp
  simp only [beq_iff_eq] at hk
  subst hk
  exact irs_ok T' p (List.mem_of_find?_eq_some hp)

/-- A table that holds the program's functions. -/
def Has (T : Nat → Option Entry) : Prop := ∀ k f, irAt k = some f → T k = some (.ir f)

end Go.SV
