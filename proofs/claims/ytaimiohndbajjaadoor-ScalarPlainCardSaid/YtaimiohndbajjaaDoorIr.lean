/- The program's functions, translated for the abstract machine; each is checked by the kernel against the program. Printed by a program of the prover's own. -/
import Derived.Test.YtaimiohndbajjaaDoorProg
import Derived.Test.YtaimiohndbajjaaDoorLd
import Derived.KernelRfl
set_option maxRecDepth 100000
namespace Go.SV
open Go.Proofs
abbrev t (n : Nat) : Opd := .tmp n
abbrev o (d : Nat) (x : IOp) : IOper := ⟨some d, x, none⟩
abbrev e (x : IOp) : IOper := ⟨none, x, none⟩
abbrev og (d g : Nat) (b : Bool) (x : IOp) : IOper := ⟨some d, x, some (g, b)⟩
-- grille/grillelaw02.ScalarPlain
def ir5 : IF := ⟨82, .seq (.reg [o 2 (.mov (.cst (.bool false)))])
(.seq (.seq (.reg [o 3 (.call 0 (.fn 8) []),
  o 4 (.not (t 3))])
(.cond (t 4)
 (.seq (.reg [o 2 (.mov (.cst (.bool false)))])
 (.ret))
 (.skip)))
(.seq (.seq (.reg [o 5 (.mov (t 0)),
  o 6 (.len .str (t 5)),
  o 7 (.bin .gtr (t 6) (.cst (.int .i64 1000))),
  o 8 (.mov (t 7)),
  og 9 8 false (.mov (t 0)),
  og 10 8 false (.call 0 (.fn 16) [(t 9)]),
  og 11 8 false (.not (t 10)),
  o 12 (.pick (t 8) (.cst (.bool true)) (t 11))])
(.gh [.kill [5, 6, 7, 8, 9, 10, 11]] (.cond (t 12)
 (.seq (.reg [o 2 (.mov (.cst (.bool true)))])
 (.ret))
 (.skip))))
(.seq (.seq (.reg [o 13 (.mov (t 0)),
  o 14 (.call 0 (.fn 17) [(t 13), (.cst (.str [10, 13, 9, 44, 91, 93, 123, 125]))]),
  o 15 (.mov (t 14)),
  og 16 15 false (.mov (t 0)),
  og 17 15 false (.idxStr (t 16) (.cst (.int .i64 0))),
  og 18 15 false (.bin .eql (t 17) (.cst (.int .u8 32))),
  o 19 (.pick (t 15) (.cst (.bool true)) (t 18)),
  o 20 (.mov (t 19)),
  og 21 20 false (.mov (t 0)),
  og 22 20 false (.mov (t 0)),
  og 23 20 false (.len .str (t 22)),
  og 24 20 false (.bin .sub (t 23) (.cst (.int .i64 1))),
  og 25 20 false (.idxStr (t 21) (t 24)),
  og 26 20 false (.bin .eql (t 25) (.cst (.int .u8 32))),
  o 27 (.pick (t 20) (.cst (.bool true)) (t 26)),
  o 28 (.mov (t 27)),
  og 29 28 false (.mov (t 0)),
  og 30 28 false (.call 0 (.fn 15) [(t 29), (.cst (.str [58, 32]))]),
  o 31 (.pick (t 28) (.cst (.bool true)) (t 30)),
  o 32 (.mov (t 31)),
  og 33 32 false (.mov (t 0)),
  og 34 32 false (.call 0 (.fn 15) [(t 33), (.cst (.str [32, 35]))]),
  o 35 (.pick (t 32) (.cst (.bool true)) (t 34)),
  o 36 (.mov (t 35)),
  og 37 36 false (.mov (t 0)),
  og 38 36 false (.mov (t 0)),
  og 39 36 false (.len .str (t 38)),
  og 40 36 false (.bin .sub (t 39) (.cst (.int .i64 1))),
  og 41 36 false (.idxStr (t 37) (t 40)),
  og 42 36 false (.bin .eql (t 41) (.cst (.int .u8 58))),
  o 43 (.pick (t 36) (.cst (.bool true)) (t 42))])
(.gh [.kill [13, 14, 15, 16, 17, 18, 19, 20, 21, 22, 23, 24, 25, 26, 27, 28, 29, 30, 31, 32, 33, 34, 35, 36, 37, 38, 39, 40, 41, 42]] (.cond (t 43)
 (.seq (.reg [o 2 (.mov (.cst (.bool false)))])
 (.ret))
 (.skip))))
(.seq (.reg [o 44 (.mov (t 0)),
  o 45 (.bin .add (t 44) (.cst (.str [58]))),
  o 46 (.call 0 (.fn 16) [(t 45)]),
  o 47 (.not (t 46)),
  o 48 (.mov (t 47)),
  og 49 48 true (.mov (t 0)),
  og 50 48 true (.bin .add (t 49) (.cst (.str [32]))),
  og 51 48 true (.call 0 (.fn 16) [(t 50)]),
  og 52 48 true (.not (t 51)),
  o 53 (.pick (t 48) (t 52) (.cst (.bool false))),
  o 54 (.mov (t 53)),
  og 55 54 true (.mov (t 0)),
  og 56 54 true (.bin .add (.cst (.str [32])) (t 55)),
  og 57 54 true (.call 0 (.fn 16) [(t 56)]),
  og 58 54 true (.not (t 57)),
  o 59 (.pick (t 54) (t 58) (.cst (.bool false))),
  o 60 (.mov (t 59)),
  og 61 60 true (.mov (t 0)),
  og 62 60 true (.bin .add (t 61) (.cst (.str [32, 35]))),
  og 63 60 true (.call 0 (.fn 16) [(t 62)]),
  og 64 60 true (.not (t 63)),
  o 65 (.pick (t 60) (t 64) (.cst (.bool false))),
  o 66 (.mov (t 65)),
  og 67 66 true (.mov (t 0)),
  og 68 66 true (.bin .add (t 67) (.cst (.str [44]))),
  og 69 66 true (.call 0 (.fn 16) [(t 68)]),
  og 70 66 true (.not (t 69)),
  o 71 (.pick (t 66) (t 70) (.cst (.bool false))),
  o 72 (.mov (t 71)),
  og 73 72 true (.mov (t 0)),
  og 74 72 true (.bin .add (t 73) (.cst (.str [120]))),
  og 75 72 true (.call 0 (.fn 16) [(t 74)]),
  o 76 (.pick (t 72) (t 75) (.cst (.bool false))),
  o 77 (.mov (t 76)),
  og 78 77 true (.mov (t 0)),
  og 79 77 true (.bin .add (t 78) (.cst (.str [32, 120]))),
  og 80 77 true (.call 0 (.fn 16) [(t 79)]),
  o 81 (.pick (t 77) (t 80) (.cst (.bool false))),
  o 2 (.mov (t 81))])
(.ret))))), [.tmp 2]⟩
theorem ir5_tr : trF Tryd.prog ir5 Tryd.f5 = some ir5 := by kernel_rfl

-- grille/grillelaw02.alive
def ir8 : IF := ⟨77, .seq (.reg [o 0 (.mov (.cst (.bool false)))])
(.seq (.reg [o 12 (.call 0 (.fn 11) [(.cst (.str [34, 97, 92, 110, 92, 120, 52, 49, 34]))]),
  o 11 (.mov (t 12)),
  o 13 (.extract 0 (t 11)),
  o 14 (.extract 1 (t 11)),
  o 1 (.mov (t 13)),
  o 2 (.mov (t 14))])
(.seq (.reg [o 16 (.call 0 (.fn 13) [(.cst (.str [105, 116, 39, 115]))]),
  o 15 (.mov (t 16)),
  o 17 (.extract 0 (t 15)),
  o 18 (.extract 1 (t 15)),
  o 3 (.mov (t 17)),
  o 4 (.mov (t 18))])
(.seq (.reg [o 20 (.mov (t 3)),
  o 21 (.call 0 (.fn 14) [(t 20)]),
  o 19 (.mov (t 21)),
  o 22 (.extract 0 (t 19)),
  o 23 (.extract 1 (t 19)),
  o 5 (.mov (t 22)),
  o 6 (.mov (t 23))])
(.seq (.reg [o 25 (.call 0 (.fn 12) [(.cst (.str [39, 97, 39, 39, 98, 39, 32, 99]))]),
  o 24 (.mov (t 25)),
  o 26 (.extract 0 (t 24)),
  o 27 (.extract 1 (t 24)),
  o 7 (.mov (t 26)),
  o 8 (.mov (t 27))])
(.seq (.reg [o 29 (.call 0 (.fn 11) [(.cst (.str [34, 92, 113, 34]))]),
  o 28 (.mov (t 29)),
  o 30 (.extract 0 (t 28)),
  o 31 (.extract 1 (t 28)),
  o 9 (.mov (t 30)),
  o 10 (.mov (t 31))])
(.seq (.reg [o 32 (.call 0 (.fn 10) [(.cst (.str [97, 10]))]),
  o 33 (.bin .eql (t 32) (.cst (.str [34, 97, 92, 110, 34]))),
  o 34 (.mov (t 33)),
  og 35 34 true (.mov (t 1)),
  og 36 34 true (.bin .eql (t 35) (.cst (.str [97, 10, 65]))),
  o 37 (.pick (t 34) (t 36) (.cst (.bool false))),
  o 38 (.mov (t 37)),
  og 39 38 true (.mov (t 2)),
  og 40 38 true (.bin .eql (t 39) (.cst (.int .i64 0))),
  o 41 (.pick (t 38) (t 40) (.cst (.bool false))),
  o 42 (.mov (t 41)),
  og 43 42 true (.mov (t 3)),
  og 44 42 true (.bin .eql (t 43) (.cst (.str [39, 105, 116, 39, 39, 115, 39]))),
  o 45 (.pick (t 42) (t 44) (.cst (.bool false))),
  o 46 (.mov (t 45)),
  og 47 46 true (.mov (t 4)),
  og 48 46 true (.bin .eql (t 47) (.cst (.int .i64 0))),
  o 49 (.pick (t 46) (t 48) (.cst (.bool false))),
  o 50 (.mov (t 49)),
  og 51 50 true (.mov (t 5)),
  og 52 50 true (.bin .eql (t 51) (.cst (.str [105, 116, 39, 115]))),
  o 53 (.pick (t 50) (t 52) (.cst (.bool false))),
  o 54 (.mov (t 53)),
  og 55 54 true (.mov (t 6)),
  og 56 54 true (.bin .eql (t 55) (.cst (.int .i64 0))),
  o 57 (.pick (t 54) (t 56) (.cst (.bool false))),
  o 58 (.mov (t 57)),
  og 59 58 true (.mov (t 7)),
  og 60 58 true (.bin .eql (t 59) (.cst (.int .i64 6))),
  o 61 (.pick (t 58) (t 60) (.cst (.bool false))),
  o 62 (.mov (t 61)),
  og 63 62 true (.mov (t 8)),
  og 64 62 true (.bin .eql (t 63) (.cst (.int .i64 0))),
  o 65 (.pick (t 62) (t 64) (.cst (.bool false))),
  o 66 (.mov (t 65)),
  og 67 66 true (.mov (t 10)),
  og 68 66 true (.bin .eql (t 67) (.cst (.int .i64 10))),
  o 69 (.pick (t 66) (t 68) (.cst (.bool false))),
  o 70 (.mov (t 69)),
  og 71 70 true (.call 0 (.fn 16) [(.cst (.str [97, 32, 98]))]),
  o 72 (.pick (t 70) (t 71) (.cst (.bool false))),
  o 73 (.mov (t 72)),
  og 74 73 true (.call 0 (.fn 16) [(.cst (.str [97, 58, 32, 98]))]),
  og 75 73 true (.not (t 74)),
  o 76 (.pick (t 73) (t 75) (.cst (.bool false))),
  o 0 (.mov (t 76))])
(.ret))))))), [.tmp 0]⟩
theorem ir8_tr : trF Tryd.prog ir8 Tryd.f8 = some ir8 := by kernel_rfl

-- grille/scalar.Quote
def ir10 : IF := ⟨43, .seq (.reg [o 2 (.mov (.cst (.str [])))])
(.seq (.seq (.reg [o 7 (.mov (t 0)),
  o 8 (.call 0 (.fn 21) [(t 7)]),
  o 9 (.not (t 8))])
(.cond (t 9)
 (.seq (.reg [o 2 (.mov (.cst (.str [])))])
 (.ret))
 (.skip)))
(.seq (.reg [o 3 (.alloc [.bnil, .nils])])
(.seq (.reg [o 10 (.call 0 (.fn 22) [(t 3), (.cst (.int .u8 34))])])
(.seq (.seq (.reg [o 11 (.mov (t 0)),
  o 12 (.rangeS (t 11))])
(.block 0 (.loop [13, 14, 15, 5, 16, 17, 6, 21, 22, 20, 23, 24, 25, 27, 28, 26, 29, 30, 32, 33, 31, 34, 35, 37, 38, 36, 39, 40, 18, 19] (.seq (.reg [o 13 (.nextS (t 12)),
    o 14 (.extract 0 (t 13))])
  (.seq (.cond (t 14)
   (.skip)
   (.exit 0))
  (.block 1 (.seq (.reg [o 15 (.extract 2 (t 13)),
     o 5 (.mov (t 15))])
   (.seq (.reg [o 16 (.mov (t 5)),
     o 17 (.call 0 (.fn 23) [(t 16)]),
     o 6 (.mov (t 17))])
   (.block 2 (.seq (.reg [o 21 (.mov (t 6)),
      o 22 (.bin .neq (t 21) (.cst (.int .u8 0))),
      o 20 (.mov (t 22))])
    (.cond (t 20)
     (.seq (.reg [o 23 (.call 0 (.fn 22) [(t 3), (.cst (.int .u8 92))])])
     (.reg [o 24 (.mov (t 6)),
       o 25 (.call 0 (.fn 22) [(t 3), (t 24)])]))
     (.seq (.reg [o 27 (.mov (t 5)),
       o 28 (.call 0 (.fn 18) [(t 27)]),
       o 26 (.mov (t 28))])
     (.cond (t 26)
      (.reg [o 29 (.mov (t 5)),
        o 30 (.call 0 (.fn 24) [(t 3), (t 29)])])
      (.seq (.reg [o 32 (.mov (t 5)),
        o 33 (.bin .lss (t 32) (.cst (.int .i32 256))),
        o 31 (.mov (t 33))])
      (.cond (t 31)
       (.reg [o 34 (.mov (t 5)),
         o 35 (.call 0 (.fn 25) [(t 3), (.cst (.int .u8 120)), (t 34), (.cst (.int .i64 2))])])
       (.seq (.reg [o 37 (.mov (t 5)),
         o 38 (.bin .lss (t 37) (.cst (.int .i32 65536))),
         o 36 (.mov (t 38))])
       (.cond (t 36)
        (.reg [o 39 (.mov (t 5)),
          o 40 (.call 0 (.fn 25) [(t 3), (.cst (.int .u8 117)), (t 39), (.cst (.int .i64 4))])])
        (.reg [o 18 (.mov (t 5)),
          o 19 (.call 0 (.fn 25) [(t 3), (.cst (.int .u8 85)), (t 18), (.cst (.int .i64 8))])]))))))))))))))))))
(.seq (.reg [o 41 (.call 0 (.fn 22) [(t 3), (.cst (.int .u8 34))])])
(.seq (.reg [o 42 (.call 0 (.fn 26) [(t 3)]),
  o 2 (.mov (t 42))])
(.ret))))))), [.tmp 2]⟩
theorem ir10_tr : trF Tryd.prog ir10 Tryd.f10 = some ir10 := by kernel_rfl

-- grille/scalar.Unquote
def ir11 : IF := ⟨65, .seq (.reg [o 2 (.mov (.cst (.str []))),
  o 3 (.mov (.cst (.int .i64 0)))])
(.seq (.reg [o 10 (.mov (t 0)),
  o 11 (.len .str (t 10)),
  o 4 (.mov (t 11))])
(.seq (.seq (.reg [o 12 (.mov (t 0)),
  o 13 (.call 0 (.fn 21) [(t 12)]),
  o 14 (.not (t 13)),
  o 15 (.mov (t 14)),
  og 16 15 false (.mov (t 4)),
  og 17 15 false (.bin .lss (t 16) (.cst (.int .i64 2))),
  o 18 (.pick (t 15) (.cst (.bool true)) (t 17)),
  o 19 (.mov (t 18)),
  og 20 19 false (.mov (t 0)),
  og 21 19 false (.idxStr (t 20) (.cst (.int .i64 0))),
  og 22 19 false (.bin .neq (t 21) (.cst (.int .u8 34))),
  o 23 (.pick (t 19) (.cst (.bool true)) (t 22)),
  o 24 (.mov (t 23)),
  og 25 24 false (.mov (t 0)),
  og 26 24 false (.mov (t 4)),
  og 27 24 false (.bin .sub (t 26) (.cst (.int .i64 1))),
  og 28 24 false (.idxStr (t 25) (t 27)),
  og 29 24 false (.bin .neq (t 28) (.cst (.int .u8 34))),
  o 30 (.pick (t 24) (.cst (.bool true)) (t 29))])
(.gh [.kill [12, 13, 14, 15, 16, 17, 18, 19, 20, 21, 22, 23, 24, 25, 26, 27, 28, 29]] (.cond (t 30)
 (.seq (.reg [o 2 (.mov (.cst (.str []))),
   o 3 (.mov (.cst (.int .i64 10)))])
 (.ret))
 (.skip))))
(.seq (.reg [o 5 (.alloc [.bnil, .nils])])
(.seq (.seq (.reg [o 31 (.mov (t 0)),
  o 32 (.mov (t 4)),
  o 33 (.bin .sub (t 32) (.cst (.int .i64 1))),
  o 34 (.slcS (t 31) (some (.cst (.int .i64 1))) (some (t 33))),
  o 6 (.mov (t 34))])
(.block 0 (.loop [35, 36, 37, 38, 44, 45, 46, 48, 47, 50, 51, 52, 49, 53, 54, 55, 7, 8, 9, 56, 57, 2, 3, 58, 59, 60, 61, 62, 63, 39, 40, 41, 42, 43] (.seq (.seq (.reg [o 35 (.mov (t 6)),
    o 36 (.bin .neq (t 35) (.cst (.str [])))])
  (.cond (t 36)
   (.skip)
   (.exit 0)))
  (.block 1 (.seq (.reg [o 37 (.mov (t 6)),
     o 38 (.idxStr (t 37) (.cst (.int .i64 0)))])
   (.block 2 (.seq (.seq (.reg [o 45 (.bin .eql (t 38) (.cst (.int .u8 34))),
      o 44 (.mov (t 45))])
    (.cond (t 44)
     (.skip)
     (.reg [o 46 (.bin .eql (t 38) (.cst (.int .u8 10))),
       o 44 (.mov (t 46))])))
    (.gh [.kill [45, 46]] (.cond (t 44)
     (.seq (.reg [o 2 (.mov (.cst (.str []))),
       o 3 (.mov (.cst (.int .i64 10)))])
     (.ret))
     (.seq (.reg [o 48 (.bin .eql (t 38) (.cst (.int .u8 92))),
       o 47 (.mov (t 48))])
     (.cond (t 47)
      (.seq (.reg [o 50 (.mov (t 6)),
        o 51 (.slcS (t 50) (some (.cst (.int .i64 1))) none),
        o 52 (.call 0 (.fn 27) [(t 51)]),
        o 49 (.mov (t 52)),
        o 53 (.extract 0 (t 49)),
        o 54 (.extract 1 (t 49)),
        o 55 (.extract 2 (t 49)),
        o 7 (.mov (t 53)),
        o 8 (.mov (t 54)),
        o 9 (.mov (t 55))])
      (.seq (.seq (.reg [o 56 (.mov (t 9)),
        o 57 (.not (t 56))])
      (.cond (t 57)
       (.seq (.reg [o 2 (.mov (.cst (.str []))),
         o 3 (.mov (.cst (.int .i64 10)))])
       (.ret))
       (.skip)))
      (.seq (.reg [o 58 (.mov (t 7)),
        o 59 (.call 0 (.fn 24) [(t 5), (t 58)])])
      (.reg [o 60 (.mov (t 6)),
        o 61 (.mov (t 8)),
        o 62 (.bin .add (.cst (.int .i64 1)) (t 61)),
        o 63 (.slcS (t 60) (some (t 62)) none),
        o 6 (.mov (t 63))]))))
      (.seq (.reg [o 39 (.mov (t 6)),
        o 40 (.idxStr (t 39) (.cst (.int .i64 0))),
        o 41 (.call 0 (.fn 22) [(t 5), (t 40)])])
      (.reg [o 42 (.mov (t 6)),
        o 43 (.slcS (t 42) (some (.cst (.int .i64 1))) none),
        o 6 (.mov (t 43))]))))))))))))))
(.seq (.reg [o 64 (.call 0 (.fn 26) [(t 5)]),
  o 2 (.mov (t 64)),
  o 3 (.mov (.cst (.int .i64 0)))])
(.ret)))))), [.tmp 2, .tmp 3]⟩
theorem ir11_tr : trF Tryd.prog ir11 Tryd.f11 = some ir11 := by kernel_rfl

-- grille/scalar.End
def ir12 : IF := ⟨57, .seq (.reg [o 2 (.mov (.cst (.int .i64 0))),
  o 3 (.mov (.cst (.int .i64 0)))])
(.seq (.seq (.reg [o 6 (.mov (t 0)),
  o 7 (.bin .eql (t 6) (.cst (.str []))),
  o 8 (.mov (t 7)),
  og 9 8 false (.mov (t 0)),
  og 10 8 false (.idxStr (t 9) (.cst (.int .i64 0))),
  og 11 8 false (.bin .neq (t 10) (.cst (.int .u8 34))),
  og 12 8 false (.mov (t 11)),
  og 13 12 true (.mov (t 0)),
  og 14 12 true (.idxStr (t 13) (.cst (.int .i64 0))),
  og 15 12 true (.bin .neq (t 14) (.cst (.int .u8 39))),
  og 16 8 false (.pick (t 12) (t 15) (.cst (.bool false))),
  o 17 (.pick (t 8) (.cst (.bool true)) (t 16))])
(.gh [.kill [6, 7, 8, 9, 10, 11, 12, 13, 14, 15, 16]] (.cond (t 17)
 (.seq (.reg [o 2 (.mov (.cst (.int .i64 0))),
   o 3 (.mov (.cst (.int .i64 10)))])
 (.ret))
 (.skip))))
(.seq (.seq (.reg [o 4 (.mov (.cst (.int .i64 1)))])
(.block 0 (.loop [18, 19, 20, 21, 24, 25, 26, 5, 27, 28, 29, 30, 31, 32, 33, 34, 35, 36, 37, 38, 39, 40, 41, 42, 43, 44, 45, 46, 47, 49, 50, 51, 52, 53, 54, 48, 55, 56, 2, 3, 22, 23] (.seq (.seq (.reg [o 18 (.mov (t 4)),
    o 19 (.mov (t 0)),
    o 20 (.len .str (t 19)),
    o 21 (.bin .lss (t 18) (t 20))])
  (.cond (t 21)
   (.skip)
   (.exit 0)))
  (.seq (.block 1 (.seq (.reg [o 24 (.mov (t 0)),
     o 25 (.idxStr (t 24) (.cst (.int .i64 0))),
     o 26 (.bin .eql (t 25) (.cst (.int .u8 34))),
     o 5 (.mov (t 26))])
   (.block 2 (.seq (.reg [o 28 (.mov (t 5)),
      o 29 (.mov (t 28)),
      og 30 29 true (.mov (t 0)),
      og 31 29 true (.mov (t 4)),
      og 32 29 true (.idxStr (t 30) (t 31)),
      og 33 29 true (.bin .eql (t 32) (.cst (.int .u8 92))),
      o 34 (.pick (t 29) (t 33) (.cst (.bool false))),
      o 27 (.mov (t 34))])
    (.gh [.kill [28, 29, 30, 31, 32, 33, 34]] (.cond (t 27)
     (.reg [o 35 (.mov (t 4)),
       o 36 (.bin .add (t 35) (.cst (.int .i64 1))),
       o 4 (.mov (t 36))])
     (.seq (.reg [o 38 (.mov (t 5)),
       o 39 (.not (t 38)),
       o 40 (.mov (t 39)),
       og 41 40 true (.mov (t 0)),
       og 42 40 true (.mov (t 4)),
       og 43 40 true (.slcS (t 41) (some (t 42)) none),
       og 44 40 true (.call 0 (.fn 28) [(t 43), (.cst (.str [39, 39]))]),
       o 45 (.pick (t 40) (t 44) (.cst (.bool false))),
       o 37 (.mov (t 45))])
     (.gh [.kill [38, 39, 40, 41, 42, 43, 44, 45]] (.cond (t 37)
      (.reg [o 46 (.mov (t 4)),
        o 47 (.bin .add (t 46) (.cst (.int .i64 1))),
        o 4 (.mov (t 47))])
      (.seq (.dreg [o 49 (.mov (t 0)),
        o 50 (.mov (t 4)),
        o 51 (.idxStr (t 49) (t 50)),
        o 52 (.mov (t 0)),
        o 53 (.idxStr (t 52) (.cst (.int .i64 0))),
        o 54 (.bin .eql (t 51) (t 53)),
        o 48 (.mov (t 54))] [[], [], [0, 1], [], [3], [0, 1, 2, 3, 4], [0, 1, 2, 3, 4, 5]])
      (.cond (t 48)
       (.seq (.reg [o 55 (.mov (t 4)),
         o 56 (.bin .add (t 55) (.cst (.int .i64 1))),
         o 2 (.mov (t 56)),
         o 3 (.mov (.cst (.int .i64 0)))])
       (.ret))
       (.skip))))))))))))
  (.gh [.kill [24, 25, 26, 5, 27, 28, 29, 30, 31, 32, 33, 34, 35, 36, 37, 38, 39, 40, 41, 42, 43, 44, 45, 46, 47, 49, 50, 51, 52, 53, 54, 48, 55, 56, 2, 3]] (.reg [o 22 (.mov (t 4)),
    o 23 (.bin .add (t 22) (.cst (.int .i64 1))),
    o 4 (.mov (t 23))])))))))
(.seq (.reg [o 2 (.mov (.cst (.int .i64 0))),
  o 3 (.mov (.cst (.int .i64 10)))])
(.ret)))), [.tmp 2, .tmp 3]⟩
theorem ir12_tr : trF Tryd.prog ir12 Tryd.f12 = some ir12 := by kernel_rfl

-- grille/scalar.Single
def ir13 : IF := ⟨17, .seq (.reg [o 2 (.mov (.cst (.str []))),
  o 3 (.mov (.cst (.int .i64 0)))])
(.seq (.reg [o 4 (.mov (.fn 29))])
(.seq (.seq (.reg [o 5 (.mov (t 0)),
  o 6 (.call 0 (.fn 21) [(t 5)]),
  o 7 (.not (t 6)),
  o 8 (.mov (t 7)),
  og 9 8 false (.mov (t 0)),
  og 10 8 false (.mov (t 4)),
  og 11 8 false (.call 0 (.fn 30) [(t 9), (t 10)]),
  o 12 (.pick (t 8) (.cst (.bool true)) (t 11))])
(.gh [.kill [5, 6, 7, 8, 9, 10, 11]] (.cond (t 12)
 (.seq (.reg [o 2 (.mov (.cst (.str []))),
   o 3 (.mov (.cst (.int .i64 10)))])
 (.ret))
 (.skip))))
(.seq (.reg [o 13 (.mov (t 0)),
  o 14 (.call 0 (.fn 31) [(t 13), (.cst (.str [39])), (.cst (.str [39, 39]))]),
  o 15 (.bin .add (.cst (.str [39])) (t 14)),
  o 16 (.bin .add (t 15) (.cst (.str [39]))),
  o 2 (.mov (t 16)),
  o 3 (.mov (.cst (.int .i64 0)))])
(.ret)))), [.tmp 2, .tmp 3]⟩
theorem ir13_tr : trF Tryd.prog ir13 Tryd.f13 = some ir13 := by kernel_rfl

-- grille/scalar.Unsingle
def ir14 : IF := ⟨29, .seq (.reg [o 2 (.mov (.cst (.str []))),
  o 3 (.mov (.cst (.int .i64 0)))])
(.seq (.seq (.reg [o 7 (.mov (t 0)),
  o 8 (.len .str (t 7)),
  o 9 (.bin .lss (t 8) (.cst (.int .i64 2)))])
(.cond (t 9)
 (.seq (.reg [o 2 (.mov (.cst (.str []))),
   o 3 (.mov (.cst (.int .i64 10)))])
 (.ret))
 (.skip)))
(.seq (.reg [o 10 (.mov (t 0)),
  o 11 (.mov (t 0)),
  o 12 (.len .str (t 11)),
  o 13 (.bin .sub (t 12) (.cst (.int .i64 1))),
  o 14 (.slcS (t 10) (some (.cst (.int .i64 1))) (some (t 13))),
  o 15 (.call 0 (.fn 31) [(t 14), (.cst (.str [39, 39])), (.cst (.str [39]))]),
  o 4 (.mov (t 15))])
(.seq (.seq (.reg [o 17 (.mov (t 4)),
  o 18 (.call 0 (.fn 13) [(t 17)]),
  o 16 (.mov (t 18)),
  o 19 (.extract 0 (t 16)),
  o 20 (.extract 1 (t 16)),
  o 5 (.mov (t 19)),
  o 6 (.mov (t 20))])
(.seq (.reg [o 21 (.mov (t 6)),
  o 22 (.bin .neq (t 21) (.cst (.int .i64 0))),
  o 23 (.mov (t 22)),
  og 24 23 false (.mov (t 5)),
  og 25 23 false (.mov (t 0)),
  og 26 23 false (.bin .neq (t 24) (t 25)),
  o 27 (.pick (t 23) (.cst (.bool true)) (t 26))])
(.gh [.kill [21, 22, 23, 24, 25, 26]] (.cond (t 27)
 (.seq (.reg [o 2 (.mov (.cst (.str []))),
   o 3 (.mov (.cst (.int .i64 10)))])
 (.ret))
 (.skip)))))
(.seq (.reg [o 28 (.mov (t 4)),
  o 2 (.mov (t 28)),
  o 3 (.mov (.cst (.int .i64 0)))])
(.ret))))), [.tmp 2, .tmp 3]⟩
theorem ir14_tr : trF Tryd.prog ir14 Tryd.f14 = some ir14 := by kernel_rfl

-- grille/scalar.Plain
def ir16 : IF := ⟨49, .seq (.reg [o 2 (.mov (.cst (.bool false)))])
(.seq (.reg [o 3 (.mov (.fn 33))])
(.seq (.block 0 (.seq (.reg [o 5 (.mov (t 0)),
   o 6 (.bin .eql (t 5) (.cst (.str []))),
   o 7 (.mov (t 6)),
   og 8 7 false (.mov (t 0)),
   og 9 7 false (.bin .eql (t 8) (.cst (.str [45, 45, 45]))),
   o 10 (.pick (t 7) (.cst (.bool true)) (t 9)),
   o 11 (.mov (t 10)),
   og 12 11 false (.mov (t 0)),
   og 13 11 false (.bin .eql (t 12) (.cst (.str [46, 46, 46]))),
   o 14 (.pick (t 11) (.cst (.bool true)) (t 13)),
   o 15 (.mov (t 14)),
   og 16 15 false (.mov (t 0)),
   og 17 15 false (.call 0 (.fn 21) [(t 16)]),
   og 18 15 false (.not (t 17)),
   o 19 (.pick (t 15) (.cst (.bool true)) (t 18)),
   o 4 (.mov (t 19))])
 (.gh [.kill [5, 6, 7, 8, 9, 10, 11, 12, 13, 14, 15, 16, 17, 18, 19]] (.cond (t 4)
  (.seq (.reg [o 2 (.mov (.cst (.bool false)))])
  (.ret))
  (.seq (.reg [o 21 (.mov (t 0)),
    o 22 (.idxStr (t 21) (.cst (.int .i64 0))),
    o 23 (.call 0 (.fn 34) [(.cst (.str [45, 63, 58, 44, 91, 93, 123, 125, 35, 38, 42, 33, 124, 62, 39, 34, 37, 64, 96, 32])), (t 22)]),
    o 24 (.bin .geq (t 23) (.cst (.int .i64 0))),
    o 25 (.mov (t 24)),
    og 26 25 false (.mov (t 0)),
    og 27 25 false (.call 0 (.fn 35) [(t 26), (.cst (.str [9, 10, 13, 44, 91, 93, 123, 125]))]),
    o 28 (.pick (t 25) (.cst (.bool true)) (t 27)),
    o 29 (.mov (t 28)),
    og 30 29 false (.mov (t 0)),
    og 31 29 false (.mov (t 3)),
    og 32 29 false (.call 0 (.fn 30) [(t 30), (t 31)]),
    o 33 (.pick (t 29) (.cst (.bool true)) (t 32)),
    o 20 (.mov (t 33))])
  (.gh [.kill [21, 22, 23, 24, 25, 26, 27, 28, 29, 30, 31, 32, 33]] (.cond (t 20)
   (.seq (.reg [o 2 (.mov (.cst (.bool false)))])
   (.ret))
   (.seq (.reg [o 35 (.mov (t 0)),
     o 36 (.call 0 (.fn 36) [(t 35), (.cst (.str [32]))]),
     o 37 (.mov (t 36)),
     og 38 37 false (.mov (t 0)),
     og 39 37 false (.call 0 (.fn 36) [(t 38), (.cst (.str [58]))]),
     o 40 (.pick (t 37) (.cst (.bool true)) (t 39)),
     o 34 (.mov (t 40))])
   (.gh [.kill [35, 36, 37, 38, 39, 40]] (.cond (t 34)
    (.seq (.reg [o 2 (.mov (.cst (.bool false)))])
    (.ret))
    (.skip)))))))))))
(.seq (.reg [o 41 (.mov (t 0)),
  o 42 (.call 0 (.fn 15) [(t 41), (.cst (.str [58, 32]))]),
  o 43 (.not (t 42)),
  o 44 (.mov (t 43)),
  og 45 44 true (.mov (t 0)),
  og 46 44 true (.call 0 (.fn 15) [(t 45), (.cst (.str [32, 35]))]),
  og 47 44 true (.not (t 46)),
  o 48 (.pick (t 44) (t 47) (.cst (.bool false))),
  o 2 (.mov (t 48))])
(.ret)))), [.tmp 2]⟩
theorem ir16_tr : trF Tryd.prog ir16 Tryd.f16 = some ir16 := by kernel_rfl

-- grille/text.May
def ir18 : IF := ⟨43, .seq (.reg [o 2 (.mov (.cst (.bool false)))])
(.seq (.block 0 (.seq (.reg [o 4 (.mov (t 0)),
   o 5 (.bin .eql (t 4) (.cst (.int .i32 9))),
   o 6 (.mov (t 5)),
   og 7 6 false (.mov (t 0)),
   og 8 6 false (.bin .eql (t 7) (.cst (.int .i32 10))),
   o 9 (.pick (t 6) (.cst (.bool true)) (t 8)),
   o 10 (.mov (t 9)),
   og 11 10 false (.mov (t 0)),
   og 12 10 false (.bin .eql (t 11) (.cst (.int .i32 13))),
   o 13 (.pick (t 10) (.cst (.bool true)) (t 12)),
   o 14 (.mov (t 13)),
   og 15 14 false (.mov (t 0)),
   og 16 14 false (.bin .eql (t 15) (.cst (.int .i32 133))),
   o 17 (.pick (t 14) (.cst (.bool true)) (t 16)),
   o 3 (.mov (t 17))])
 (.gh [.kill [4, 5, 6, 7, 8, 9, 10, 11, 12, 13, 14, 15, 16, 17]] (.cond (t 3)
  (.seq (.reg [o 2 (.mov (.cst (.bool true)))])
  (.ret))
  (.seq (.reg [o 19 (.mov (t 0)),
    o 20 (.bin .eql (t 19) (.cst (.int .i32 65279))),
    o 21 (.mov (t 20)),
    og 22 21 false (.mov (t 0)),
    og 23 21 false (.bin .eql (t 22) (.cst (.int .i32 65534))),
    o 24 (.pick (t 21) (.cst (.bool true)) (t 23)),
    o 25 (.mov (t 24)),
    og 26 25 false (.mov (t 0)),
    og 27 25 false (.bin .eql (t 26) (.cst (.int .i32 65535))),
    o 28 (.pick (t 25) (.cst (.bool true)) (t 27)),
    o 18 (.mov (t 28))])
  (.gh [.kill [19, 20, 21, 22, 23, 24, 25, 26, 27, 28]] (.cond (t 18)
   (.seq (.reg [o 2 (.mov (.cst (.bool false)))])
   (.ret))
   (.skip))))))))
(.seq (.reg [o 29 (.mov (t 0)),
  o 30 (.bin .geq (t 29) (.cst (.int .i32 32))),
  o 31 (.mov (t 30)),
  og 32 31 true (.mov (t 0)),
  og 33 31 true (.bin .lss (t 32) (.cst (.int .i32 127))),
  o 34 (.pick (t 31) (t 33) (.cst (.bool false))),
  o 35 (.mov (t 34)),
  og 36 35 false (.mov (t 0)),
  og 37 35 false (.bin .geq (t 36) (.cst (.int .i32 160))),
  og 38 35 false (.mov (t 37)),
  og 39 38 true (.mov (t 0)),
  og 40 38 true (.call 0 (.fn 38) [(t 39)]),
  og 41 35 false (.pick (t 38) (t 40) (.cst (.bool false))),
  o 42 (.pick (t 35) (.cst (.bool true)) (t 41)),
  o 2 (.mov (t 42))])
(.ret))), [.tmp 2]⟩
theorem ir18_tr : trF Tryd.prog ir18 Tryd.f18 = some ir18 := by kernel_rfl

-- (*strings.Builder).WriteByte
def ir22 : IF := ⟨17, .seq (.reg [o 4 (.mov (.cst .niliface))])
(.seq (.reg [o 5 (.mov (t 0)),
  o 6 (.call 0 (.fn 47) [(t 5)])])
(.seq (.reg [o 7 (.mov (t 0)),
  o 8 (.mov (t 0)),
  o 9 (.nilck (t 8)),
  o 10 (.fieldAddr 1 (t 9)),
  o 11 (.load none (t 10)),
  o 12 (.mov (t 1)),
  o 13 (.lit .ro 1 [(t 12)]),
  o 14 (.append .tok 1 (1, 5) (t 11) (t 13)),
  o 15 (.nilck (t 7)),
  o 16 (.fieldAddr 1 (t 15)),
  e (.store 1 (t 16) (t 14))])
(.seq (.reg [o 4 (.mov (.cst .niliface))])
(.ret)))), [.tmp 4]⟩
theorem ir22_tr : trF Tryd.prog ir22 Tryd.f22 = some ir22 := by kernel_rfl

-- grille/scalar.letter
def ir23 : IF := ⟨17, .seq (.reg [o 2 (.mov (.cst (.int .u8 0)))])
(.seq (.reg [o 3 (.mov (.cst (.int .i64 0)))])
(.seq (.seq (.reg [o 6 (.rangeS (.cst (.str [0, 7, 8, 9, 10, 11, 12, 13, 27, 34, 92, 194, 133, 194, 160, 226, 128, 168, 226, 128, 169])))])
(.block 0 (.loop [7, 8, 9, 5, 10, 11, 12, 13, 14, 2, 15, 16] (.seq (.reg [o 7 (.nextS (t 6)),
    o 8 (.extract 0 (t 7))])
  (.seq (.cond (t 8)
   (.skip)
   (.exit 0))
  (.block 1 (.seq (.reg [o 9 (.extract 2 (t 7)),
     o 5 (.mov (t 9))])
   (.seq (.seq (.reg [o 10 (.mov (t 5)),
     o 11 (.mov (t 0)),
     o 12 (.bin .eql (t 10) (t 11))])
   (.cond (t 12)
    (.seq (.reg [o 13 (.mov (t 3)),
      o 14 (.idxStr (.cst (.str [48, 97, 98, 116, 110, 118, 102, 114, 101, 34, 92, 78, 95, 76, 80])) (t 13)),
      o 2 (.mov (t 14))])
    (.ret))
    (.skip)))
   (.reg [o 15 (.mov (t 3)),
     o 16 (.bin .add (t 15) (.cst (.int .i64 1))),
     o 3 (.mov (t 16))])))))))))
(.seq (.reg [o 2 (.mov (.cst (.int .u8 0)))])
(.ret)))), [.tmp 2]⟩
theorem ir23_tr : trF Tryd.prog ir23 Tryd.f23 = some ir23 := by kernel_rfl

-- (*strings.Builder).WriteRune
def ir24 : IF := ⟨30, .seq (.reg [o 4 (.mov (.cst (.int .i64 0))),
  o 5 (.mov (.cst .niliface))])
(.seq (.reg [o 7 (.mov (t 0)),
  o 8 (.call 0 (.fn 47) [(t 7)])])
(.seq (.reg [o 9 (.mov (t 0)),
  o 10 (.nilck (t 9)),
  o 11 (.fieldAddr 1 (t 10)),
  o 12 (.load none (t 11)),
  o 13 (.len .row (t 12)),
  o 6 (.mov (t 13))])
(.seq (.reg [o 14 (.mov (t 0)),
  o 15 (.mov (t 0)),
  o 16 (.nilck (t 15)),
  o 17 (.fieldAddr 1 (t 16)),
  o 18 (.load none (t 17)),
  o 19 (.mov (t 1)),
  o 20 (.call 0 (.fn 48) [(t 18), (t 19)]),
  o 21 (.nilck (t 14)),
  o 22 (.fieldAddr 1 (t 21)),
  e (.store 1 (t 22) (t 20))])
(.seq (.reg [o 23 (.mov (t 0)),
  o 24 (.nilck (t 23)),
  o 25 (.fieldAddr 1 (t 24)),
  o 26 (.load none (t 25)),
  o 27 (.len .row (t 26)),
  o 28 (.mov (t 6)),
  o 29 (.bin .sub (t 27) (t 28)),
  o 4 (.mov (t 29)),
  o 5 (.mov (.cst .niliface))])
(.ret))))), [.tmp 4, .tmp 5]⟩
theorem ir24_tr : trF Tryd.prog ir24 Tryd.f24 = some ir24 := by kernel_rfl

-- grille/scalar.digits
def ir25 : IF := ⟨28, .seq (.reg [o 9 (.mov (t 0)),
  o 10 (.call 0 (.fn 22) [(t 9), (.cst (.int .u8 92))])])
(.seq (.reg [o 11 (.mov (t 0)),
  o 12 (.mov (t 1)),
  o 13 (.call 0 (.fn 22) [(t 11), (t 12)])])
(.seq (.reg [o 14 (.mov (t 3)),
  o 15 (.bin .sub (t 14) (.cst (.int .i64 1))),
  o 8 (.mov (t 15))])
(.block 0 (.loop [16, 17, 20, 21, 22, 23, 24, 25, 26, 27, 18, 19] (.seq (.seq (.reg [o 16 (.mov (t 8)),
    o 17 (.bin .geq (t 16) (.cst (.int .i64 0)))])
  (.cond (t 17)
   (.skip)
   (.exit 0)))
  (.seq (.block 1 (.reg [o 20 (.mov (t 0)),
     o 21 (.mov (t 2)),
     o 22 (.mov (t 8)),
     o 23 (.bin .mul (.cst (.int .i64 4)) (t 22)),
     o 24 (.bin .shr (t 21) (t 23)),
     o 25 (.bin .and (t 24) (.cst (.int .i32 15))),
     o 26 (.idxStr (.cst (.str [48, 49, 50, 51, 52, 53, 54, 55, 56, 57, 97, 98, 99, 100, 101, 102])) (t 25)),
     o 27 (.call 0 (.fn 22) [(t 20), (t 26)])]))
  (.reg [o 18 (.mov (t 8)),
    o 19 (.bin .sub (t 18) (.cst (.int .i64 1))),
    o 8 (.mov (t 19))]))))))), []⟩
theorem ir25_tr : trF Tryd.prog ir25 Tryd.f25 = some ir25 := by kernel_rfl

-- grille/scalar.escape
def ir27 : IF := ⟨43, .seq (.reg [o 2 (.mov (.cst (.int .i32 0))),
  o 3 (.mov (.cst (.int .i64 0))),
  o 4 (.mov (.cst (.bool false)))])
(.seq (.seq (.reg [o 6 (.mov (t 0)),
  o 7 (.bin .eql (t 6) (.cst (.str [])))])
(.cond (t 7)
 (.seq (.reg [o 2 (.mov (.cst (.int .i32 0))),
   o 3 (.mov (.cst (.int .i64 0))),
   o 4 (.mov (.cst (.bool false)))])
 (.ret))
 (.skip)))
(.seq (.reg [o 5 (.mov (.cst (.int .i64 0)))])
(.seq (.seq (.reg [o 8 (.mov (t 0)),
  o 9 (.idxStr (t 8) (.cst (.int .i64 0)))])
(.block 0 (.seq (.block 5 (.seq (.block 4 (.seq (.block 3 (.seq (.block 2 (.seq (.block 1 (.seq (.seq (.seq (.reg [o 11 (.bin .eql (t 9) (.cst (.int .u8 85))),
        o 10 (.mov (t 11))])
      (.cond (t 10)
       (.exit 1)
       (.skip)))
      (.seq (.seq (.reg [o 13 (.bin .eql (t 9) (.cst (.int .u8 117))),
        o 12 (.mov (t 13))])
      (.cond (t 12)
       (.exit 2)
       (.skip)))
      (.seq (.seq (.reg [o 15 (.bin .eql (t 9) (.cst (.int .u8 120))),
        o 14 (.mov (t 15))])
      (.cond (t 14)
       (.exit 3)
       (.skip)))
      (.seq (.reg [o 17 (.bin .eql (t 9) (.cst (.int .u8 47))),
        o 16 (.mov (t 17))])
      (.cond (t 16)
       (.exit 4)
       (.skip))))))
      (.exit 5)))
     (.reg [o 18 (.mov (t 5)),
       o 19 (.bin .add (t 18) (.cst (.int .i64 4))),
       o 5 (.mov (t 19))])))
    (.gh [.kill [11, 10, 13, 12, 15, 14, 17, 16, 18, 19]] (.reg [o 20 (.mov (t 5)),
      o 21 (.bin .add (t 20) (.cst (.int .i64 2))),
      o 5 (.mov (t 21))]))))
   (.gh [.kill [11, 10, 13, 12, 15, 14, 17, 16, 18, 19, 20, 21]] (.seq (.reg [o 22 (.mov (t 5)),
     o 23 (.bin .add (t 22) (.cst (.int .i64 2))),
     o 5 (.mov (t 23))])
   (.exit 0)))))
  (.seq (.seq (.reg [o 2 (.mov (.cst (.int .i32 47))),
    o 3 (.mov (.cst (.int .i64 1))),
    o 4 (.mov (.cst (.bool true)))])
  (.ret))
  (.exit 0))))
 (.seq (.seq (.reg [o 25 (.mov (t 0)),
   o 26 (.idxStr (t 25) (.cst (.int .i64 0))),
   o 27 (.call 0 (.fn 49) [(t 26)]),
   o 24 (.mov (t 27)),
   o 28 (.extract 0 (t 24)),
   o 29 (.extract 1 (t 24)),
   o 2 (.mov (t 28)),
   o 4 (.mov (t 29))])
 (.seq (.reg [o 30 (.mov (t 2)),
   o 31 (.mov (t 4)),
   o 2 (.mov (t 30)),
   o 3 (.mov (.cst (.int .i64 1))),
   o 4 (.mov (t 31))])
 (.ret)))
 (.exit 0)))))
(.gh [.kill [8, 9, 11, 10, 13, 12, 15, 14, 17, 16, 18, 19, 20, 21, 22, 23, 25, 26, 27, 24, 28, 29, 30, 31, 2, 3, 4]] (.seq (.reg [o 33 (.mov (t 0)),
  o 34 (.slcS (t 33) (some (.cst (.int .i64 1))) none),
  o 35 (.mov (t 5)),
  o 36 (.call 0 (.fn 50) [(t 34), (t 35)]),
  o 32 (.mov (t 36)),
  o 37 (.extract 0 (t 32)),
  o 38 (.extract 1 (t 32)),
  o 2 (.mov (t 37)),
  o 4 (.mov (t 38))])
(.seq (.reg [o 39 (.mov (t 2)),
  o 40 (.mov (t 5)),
  o 41 (.bin .add (.cst (.int .i64 1)) (t 40)),
  o 42 (.mov (t 4)),
  o 2 (.mov (t 39)),
  o 3 (.mov (t 41)),
  o 4 (.mov (t 42))])
(.ret))))))), [.tmp 2, .tmp 3, .tmp 4]⟩
theorem ir27_tr : trF Tryd.prog ir27 Tryd.f27 = some ir27 := by kernel_rfl

-- strings.HasPrefix
def ir28 : IF := ⟨8, .seq (.reg [o 4 (.mov (.cst (.bool false)))])
(.seq (.reg [o 5 (.mov (t 0)),
  o 6 (.mov (t 1)),
  o 7 (.call 0 (.fn 51) [(t 5), (t 6)]),
  o 4 (.mov (t 7))])
(.ret)), [.tmp 4]⟩
theorem ir28_tr : trF Tryd.prog ir28 Tryd.f28 = some ir28 := by kernel_rfl

-- grille/scalar.Single$1
def ir29 : IF := ⟨14, .seq (.reg [o 2 (.mov (.cst (.bool false)))])
(.seq (.reg [o 3 (.mov (t 0)),
  o 4 (.call 0 (.fn 18) [(t 3)]),
  o 5 (.not (t 4)),
  o 6 (.mov (t 5)),
  og 7 6 false (.mov (t 0)),
  og 8 6 false (.bin .eql (t 7) (.cst (.int .i32 10))),
  o 9 (.pick (t 6) (.cst (.bool true)) (t 8)),
  o 10 (.mov (t 9)),
  og 11 10 false (.mov (t 0)),
  og 12 10 false (.bin .eql (t 11) (.cst (.int .i32 13))),
  o 13 (.pick (t 10) (.cst (.bool true)) (t 12)),
  o 2 (.mov (t 13))])
(.ret)), [.tmp 2]⟩
theorem ir29_tr : trF Tryd.prog ir29 Tryd.f29 = some ir29 := by kernel_rfl

-- strings.ContainsFunc
def ir30 : IF := ⟨9, .seq (.reg [o 4 (.mov (.cst (.bool false)))])
(.seq (.reg [o 5 (.mov (t 0)),
  o 6 (.mov (t 1)),
  o 7 (.call 0 (.fn 52) [(t 5), (t 6)]),
  o 8 (.bin .geq (t 7) (.cst (.int .i64 0))),
  o 4 (.mov (t 8))])
(.ret)), [.tmp 4]⟩
theorem ir30_tr : trF Tryd.prog ir30 Tryd.f30 = some ir30 := by kernel_rfl

-- grille/scalar.Plain$1
def ir33 : IF := ⟨6, .seq (.reg [o 2 (.mov (.cst (.bool false)))])
(.seq (.reg [o 3 (.mov (t 0)),
  o 4 (.call 0 (.fn 18) [(t 3)]),
  o 5 (.not (t 4)),
  o 2 (.mov (t 5))])
(.ret)), [.tmp 2]⟩
theorem ir33_tr : trF Tryd.prog ir33 Tryd.f33 = some ir33 := by kernel_rfl

-- grille/scalar.hasAny
def ir35 : IF := ⟨22, .seq (.reg [o 4 (.mov (.cst (.bool false)))])
(.seq (.seq (.reg [o 9 (.mov (t 0)),
  o 10 (.rangeS (t 9))])
(.block 0 (.loop [11, 12, 13, 6, 14, 15, 16, 17, 18, 8, 19, 20, 21, 4] (.seq (.reg [o 11 (.nextS (t 10)),
    o 12 (.extract 0 (t 11))])
  (.seq (.cond (t 12)
   (.skip)
   (.exit 0))
  (.block 1 (.seq (.reg [o 13 (.extract 2 (t 11)),
     o 6 (.mov (t 13))])
   (.seq (.reg [o 14 (.mov (t 1)),
     o 15 (.rangeS (t 14))])
   (.block 2 (.loop [16, 17, 18, 8, 19, 20, 21, 4] (.seq (.reg [o 16 (.nextS (t 15)),
       o 17 (.extract 0 (t 16))])
     (.seq (.cond (t 17)
      (.skip)
      (.exit 2))
     (.block 3 (.seq (.reg [o 18 (.extract 2 (t 16)),
        o 8 (.mov (t 18))])
      (.seq (.reg [o 19 (.mov (t 6)),
        o 20 (.mov (t 8)),
        o 21 (.bin .eql (t 19) (t 20))])
      (.cond (t 21)
       (.seq (.reg [o 4 (.mov (.cst (.bool true)))])
       (.ret))
       (.skip)))))))))))))))))
(.seq (.reg [o 4 (.mov (.cst (.bool false)))])
(.ret))), [.tmp 4]⟩
theorem ir35_tr : trF Tryd.prog ir35 Tryd.f35 = some ir35 := by kernel_rfl

-- strings.HasSuffix
def ir36 : IF := ⟨8, .seq (.reg [o 4 (.mov (.cst (.bool false)))])
(.seq (.reg [o 5 (.mov (t 0)),
  o 6 (.mov (t 1)),
  o 7 (.call 0 (.fn 56) [(t 5), (t 6)]),
  o 4 (.mov (t 7))])
(.ret)), [.tmp 4]⟩
theorem ir36_tr : trF Tryd.prog ir36 Tryd.f36 = some ir36 := by kernel_rfl

-- unicode/utf8.ValidRune
def ir38 : IF := ⟨17, .seq (.reg [o 2 (.mov (.cst (.bool false)))])
(.seq (.block 0 (.seq (.reg [o 4 (.mov (t 0)),
   o 5 (.bin .leq (.cst (.int .i32 0)) (t 4)),
   o 6 (.mov (t 5)),
   og 7 6 true (.mov (t 0)),
   og 8 6 true (.bin .lss (t 7) (.cst (.int .i32 55296))),
   o 9 (.pick (t 6) (t 8) (.cst (.bool false))),
   o 3 (.mov (t 9))])
 (.gh [.kill [4, 5, 6, 7, 8, 9]] (.cond (t 3)
  (.seq (.reg [o 2 (.mov (.cst (.bool true)))])
  (.ret))
  (.seq (.reg [o 11 (.mov (t 0)),
    o 12 (.bin .lss (.cst (.int .i32 57343)) (t 11)),
    o 13 (.mov (t 12)),
    og 14 13 true (.mov (t 0)),
    og 15 13 true (.bin .leq (t 14) (.cst (.int .i32 1114111))),
    o 16 (.pick (t 13) (t 15) (.cst (.bool false))),
    o 10 (.mov (t 16))])
  (.gh [.kill [11, 12, 13, 14, 15, 16]] (.cond (t 10)
   (.seq (.reg [o 2 (.mov (.cst (.bool true)))])
   (.ret))
   (.skip))))))))
(.seq (.reg [o 2 (.mov (.cst (.bool false)))])
(.ret))), [.tmp 2]⟩
theorem ir38_tr : trF Tryd.prog ir38 Tryd.f38 = some ir38 := by kernel_rfl

-- unicode/utf8.AppendRune
def ir48 : IF := ⟨16, .seq (.reg [o 4 (.mov (.cst .nils))])
(.seq (.seq (.reg [o 5 (.mov (t 1)),
  o 6 (.cvInt .u32 (t 5)),
  o 7 (.bin .leq (t 6) (.cst (.int .u32 127)))])
(.cond (t 7)
 (.seq (.reg [o 8 (.mov (t 0)),
   o 9 (.mov (t 1)),
   o 10 (.cvInt .u8 (t 9)),
   o 11 (.lit .ro 1 [(t 10)]),
   o 12 (.append .tok 1 (1, 5) (t 8) (t 11)),
   o 4 (.mov (t 12))])
 (.ret))
 (.skip)))
(.seq (.reg [o 13 (.mov (t 0)),
  o 14 (.mov (t 1)),
  o 15 (.call 0 (.fn 65) [(t 13), (t 14)]),
  o 4 (.mov (t 15))])
(.ret))), [.tmp 4]⟩
theorem ir48_tr : trF Tryd.prog ir48 Tryd.f48 = some ir48 := by kernel_rfl

-- grille/scalar.means
def ir49 : IF := ⟨18, .seq (.reg [o 2 (.mov (.cst (.int .i32 0))),
  o 3 (.mov (.cst (.bool false)))])
(.seq (.reg [o 7 (.mov (t 0)),
  o 8 (.call 0 (.fn 34) [(.cst (.str [48, 97, 98, 116, 110, 118, 102, 114, 101, 34, 92, 78, 95, 76, 80])), (t 7)]),
  o 4 (.mov (t 8))])
(.seq (.seq (.reg [o 9 (.rangeS (.cst (.str [0, 7, 8, 9, 10, 11, 12, 13, 27, 34, 92, 194, 133, 194, 160, 226, 128, 168, 226, 128, 169])))])
(.block 0 (.loop [10, 11, 12, 6, 13, 14, 15, 2, 3, 16, 17] (.seq (.reg [o 10 (.nextS (t 9)),
    o 11 (.extract 0 (t 10))])
  (.seq (.cond (t 11)
   (.skip)
   (.exit 0))
  (.block 1 (.seq (.reg [o 12 (.extract 2 (t 10)),
     o 6 (.mov (t 12))])
   (.seq (.seq (.reg [o 13 (.mov (t 4)),
     o 14 (.bin .eql (t 13) (.cst (.int .i64 0)))])
   (.cond (t 14)
    (.seq (.reg [o 15 (.mov (t 6)),
      o 2 (.mov (t 15)),
      o 3 (.mov (.cst (.bool true)))])
    (.ret))
    (.skip)))
   (.reg [o 16 (.mov (t 4)),
     o 17 (.bin .sub (t 16) (.cst (.int .i64 1))),
     o 4 (.mov (t 17))])))))))))
(.seq (.reg [o 2 (.mov (.cst (.int .i32 0))),
  o 3 (.mov (.cst (.bool false)))])
(.ret)))), [.tmp 2, .tmp 3]⟩
theorem ir49_tr : trF Tryd.prog ir49 Tryd.f49 = some ir49 := by kernel_rfl

-- grille/scalar.number
def ir50 : IF := ⟨39, .seq (.reg [o 4 (.mov (.cst (.int .i32 0))),
  o 5 (.mov (.cst (.bool false)))])
(.seq (.seq (.reg [o 8 (.mov (t 0)),
  o 9 (.len .str (t 8)),
  o 10 (.mov (t 1)),
  o 11 (.bin .lss (t 9) (t 10))])
(.cond (t 11)
 (.seq (.reg [o 4 (.mov (.cst (.int .i32 0))),
   o 5 (.mov (.cst (.bool false)))])
 (.ret))
 (.skip)))
(.seq (.reg [o 13 (.mov (t 0)),
  o 14 (.mov (t 1)),
  o 15 (.slcS (t 13) none (some (t 14))),
  o 16 (.call 0 (.fn 66) [(t 15), (.cst (.int .i64 16)), (.cst (.int .i64 32))]),
  o 12 (.mov (t 16)),
  o 17 (.extract 0 (t 12)),
  o 18 (.extract 1 (t 12)),
  o 6 (.mov (t 17)),
  o 7 (.mov (t 18))])
(.seq (.seq (.reg [o 19 (.mov (t 7)),
  o 20 (.eqv .ifn true (t 19) (.cst .niliface)),
  o 21 (.mov (t 20)),
  og 22 21 false (.mov (t 0)),
  og 23 21 false (.mov (t 1)),
  og 24 21 false (.slcS (t 22) none (some (t 23))),
  og 25 21 false (.call 0 (.fn 17) [(t 24), (.cst (.str [43, 45, 95]))]),
  o 26 (.pick (t 21) (.cst (.bool true)) (t 25)),
  o 27 (.mov (t 26)),
  og 28 27 false (.mov (t 6)),
  og 29 27 false (.bin .gtr (t 28) (.cst (.int .u64 1114111))),
  o 30 (.pick (t 27) (.cst (.bool true)) (t 29)),
  o 31 (.mov (t 30)),
  og 32 31 false (.mov (t 6)),
  og 33 31 false (.cvInt .i32 (t 32)),
  og 34 31 false (.call 0 (.fn 38) [(t 33)]),
  og 35 31 false (.not (t 34)),
  o 36 (.pick (t 31) (.cst (.bool true)) (t 35))])
(.gh [.kill [19, 20, 21, 22, 23, 24, 25, 26, 27, 28, 29, 30, 31, 32, 33, 34, 35]] (.cond (t 36)
 (.seq (.reg [o 4 (.mov (.cst (.int .i32 0))),
   o 5 (.mov (.cst (.bool false)))])
 (.ret))
 (.skip))))
(.seq (.reg [o 37 (.mov (t 6)),
  o 38 (.cvInt .i32 (t 37)),
  o 4 (.mov (t 38)),
  o 5 (.mov (.cst (.bool true)))])
(.ret))))), [.tmp 4, .tmp 5]⟩
theorem ir50_tr : trF Tryd.prog ir50 Tryd.f50 = some ir50 := by kernel_rfl

-- internal/stringslite.HasPrefix
def ir51 : IF := ⟨18, .seq (.reg [o 4 (.mov (.cst (.bool false)))])
(.seq (.reg [o 5 (.mov (t 0)),
  o 6 (.len .str (t 5)),
  o 7 (.mov (t 1)),
  o 8 (.len .str (t 7)),
  o 9 (.bin .geq (t 6) (t 8)),
  o 10 (.mov (t 9)),
  og 11 10 true (.mov (t 0)),
  og 12 10 true (.mov (t 1)),
  og 13 10 true (.len .str (t 12)),
  og 14 10 true (.slcS (t 11) none (some (t 13))),
  og 15 10 true (.mov (t 1)),
  og 16 10 true (.bin .eql (t 14) (t 15)),
  o 17 (.pick (t 10) (t 16) (.cst (.bool false))),
  o 4 (.mov (t 17))])
(.ret)), [.tmp 4]⟩
theorem ir51_tr : trF Tryd.prog ir51 Tryd.f51 = some ir51 := by kernel_rfl

-- strings.IndexFunc
def ir52 : IF := ⟨8, .seq (.reg [o 4 (.mov (.cst (.int .i64 0)))])
(.seq (.reg [o 5 (.mov (t 0)),
  o 6 (.mov (t 1)),
  o 7 (.call 0 (.fn 67) [(t 5), (t 6), (.cst (.bool true))]),
  o 4 (.mov (t 7))])
(.ret)), [.tmp 4]⟩
theorem ir52_tr : trF Tryd.prog ir52 Tryd.f52 = some ir52 := by kernel_rfl

-- internal/stringslite.HasSuffix
def ir56 : IF := ⟨21, .seq (.reg [o 4 (.mov (.cst (.bool false)))])
(.seq (.reg [o 5 (.mov (t 0)),
  o 6 (.len .str (t 5)),
  o 7 (.mov (t 1)),
  o 8 (.len .str (t 7)),
  o 9 (.bin .geq (t 6) (t 8)),
  o 10 (.mov (t 9)),
  og 11 10 true (.mov (t 0)),
  og 12 10 true (.mov (t 0)),
  og 13 10 true (.len .str (t 12)),
  og 14 10 true (.mov (t 1)),
  og 15 10 true (.len .str (t 14)),
  og 16 10 true (.bin .sub (t 13) (t 15)),
  og 17 10 true (.slcS (t 11) (some (t 16)) none),
  og 18 10 true (.mov (t 1)),
  og 19 10 true (.bin .eql (t 17) (t 18)),
  o 20 (.pick (t 10) (t 19) (.cst (.bool false))),
  o 4 (.mov (t 20))])
(.ret)), [.tmp 4]⟩
theorem ir56_tr : trF Tryd.prog ir56 Tryd.f56 = some ir56 := by kernel_rfl

-- unicode/utf8.appendRuneNonASCII
def ir65 : IF := ⟨78, .seq (.reg [o 4 (.mov (.cst .nils))])
(.seq (.reg [o 6 (.mov (t 1)),
  o 7 (.cvInt .u32 (t 6)),
  o 5 (.mov (t 7))])
(.block 0 (.seq (.reg [o 12 (.mov (t 5)),
   o 13 (.bin .leq (t 12) (.cst (.int .u32 2047))),
   o 11 (.mov (t 13))])
 (.cond (t 11)
  (.seq (.reg [o 14 (.mov (t 0)),
    o 15 (.mov (t 1)),
    o 16 (.bin .shr (t 15) (.cst (.int .u64 6))),
    o 17 (.cvInt .u8 (t 16)),
    o 18 (.bin .or (.cst (.int .u8 192)) (t 17)),
    o 19 (.mov (t 1)),
    o 20 (.cvInt .u8 (t 19)),
    o 21 (.bin .and (t 20) (.cst (.int .u8 63))),
    o 22 (.bin .or (.cst (.int .u8 128)) (t 21)),
    o 23 (.lit .ro 1 [(t 18), (t 22)]),
    o 24 (.append .tok 1 (1, 5) (t 14) (t 23)),
    o 4 (.mov (t 24))])
  (.ret))
  (.seq (.seq (.reg [o 26 (.mov (t 5)),
    o 27 (.bin .lss (t 26) (.cst (.int .u32 55296))),
    o 25 (.mov (t 27))])
  (.cond (t 25)
   (.skip)
   (.reg [o 28 (.mov (t 5)),
     o 29 (.bin .lss (.cst (.int .u32 57343)) (t 28)),
     o 30 (.mov (t 29)),
     og 31 30 true (.mov (t 5)),
     og 32 30 true (.bin .leq (t 31) (.cst (.int .u32 65535))),
     o 33 (.pick (t 30) (t 32) (.cst (.bool false))),
     o 25 (.mov (t 33))])))
  (.gh [.kill [26, 27, 28, 29, 30, 31, 32, 33]] (.cond (t 25)
   (.seq (.reg [o 34 (.mov (t 0)),
     o 35 (.mov (t 1)),
     o 36 (.bin .shr (t 35) (.cst (.int .u64 12))),
     o 37 (.cvInt .u8 (t 36)),
     o 38 (.bin .or (.cst (.int .u8 224)) (t 37)),
     o 39 (.mov (t 1)),
     o 40 (.bin .shr (t 39) (.cst (.int .u64 6))),
     o 41 (.cvInt .u8 (t 40)),
     o 42 (.bin .and (t 41) (.cst (.int .u8 63))),
     o 43 (.bin .or (.cst (.int .u8 128)) (t 42)),
     o 44 (.mov (t 1)),
     o 45 (.cvInt .u8 (t 44)),
     o 46 (.bin .and (t 45) (.cst (.int .u8 63))),
     o 47 (.bin .or (.cst (.int .u8 128)) (t 46)),
     o 48 (.lit .ro 1 [(t 38), (t 43), (t 47)]),
     o 49 (.append .tok 1 (1, 5) (t 34) (t 48)),
     o 4 (.mov (t 49))])
   (.ret))
   (.seq (.reg [o 51 (.mov (t 5)),
     o 52 (.bin .gtr (t 51) (.cst (.int .u32 65535))),
     o 53 (.mov (t 52)),
     og 54 53 true (.mov (t 5)),
     og 55 53 true (.bin .leq (t 54) (.cst (.int .u32 1114111))),
     o 56 (.pick (t 53) (t 55) (.cst (.bool false))),
     o 50 (.mov (t 56))])
   (.gh [.kill [51, 52, 53, 54, 55, 56]] (.cond (t 50)
    (.seq (.reg [o 57 (.mov (t 0)),
      o 58 (.mov (t 1)),
      o 59 (.bin .shr (t 58) (.cst (.int .u64 18))),
      o 60 (.cvInt .u8 (t 59)),
      o 61 (.bin .or (.cst (.int .u8 240)) (t 60)),
      o 62 (.mov (t 1)),
      o 63 (.bin .shr (t 62) (.cst (.int .u64 12))),
      o 64 (.cvInt .u8 (t 63)),
      o 65 (.bin .and (t 64) (.cst (.int .u8 63))),
      o 66 (.bin .or (.cst (.int .u8 128)) (t 65)),
      o 67 (.mov (t 1)),
      o 68 (.bin .shr (t 67) (.cst (.int .u64 6))),
      o 69 (.cvInt .u8 (t 68)),
      o 70 (.bin .and (t 69) (.cst (.int .u8 63))),
      o 71 (.bin .or (.cst (.int .u8 128)) (t 70)),
      o 72 (.mov (t 1)),
      o 73 (.cvInt .u8 (t 72)),
      o 74 (.bin .and (t 73) (.cst (.int .u8 63))),
      o 75 (.bin .or (.cst (.int .u8 128)) (t 74)),
      o 76 (.lit .ro 1 [(t 61), (t 66), (t 71), (t 75)]),
      o 77 (.append .tok 1 (1, 5) (t 57) (t 76)),
      o 4 (.mov (t 77))])
    (.ret))
    (.seq (.reg [o 8 (.mov (t 0)),
      o 9 (.lit .ro 1 [(.cst (.int .u8 239)), (.cst (.int .u8 191)), (.cst (.int .u8 189))]),
      o 10 (.append .tok 1 (1, 5) (t 8) (t 9)),
      o 4 (.mov (t 10))])
    (.ret)))))))))))), [.tmp 4]⟩
theorem ir65_tr : trF Tryd.prog ir65 Tryd.f65 = some ir65 := by kernel_rfl

-- strconv.ParseUint
def ir66 : IF := ⟨26, .seq (.reg [o 6 (.mov (.cst (.int .u64 0))),
  o 7 (.mov (.cst .niliface))])
(.seq (.reg [o 11 (.mov (t 0)),
  o 12 (.mov (t 1)),
  o 13 (.mov (t 2)),
  o 14 (.call 0 (.fn 75) [(t 11), (t 12), (t 13)]),
  o 10 (.mov (t 14)),
  o 15 (.extract 0 (t 10)),
  o 16 (.extract 1 (t 10)),
  o 8 (.mov (t 15)),
  o 9 (.mov (t 16))])
(.seq (.seq (.reg [o 17 (.mov (t 9)),
  o 18 (.eqv .ifn true (t 17) (.cst .niliface))])
(.cond (t 18)
 (.seq (.reg [o 19 (.mov (t 8)),
   o 20 (.mov (t 0)),
   o 21 (.mov (t 1)),
   o 22 (.mov (t 2)),
   o 23 (.mov (t 9)),
   o 24 (.call 0 (.fn 76) [(.cst (.str [80, 97, 114, 115, 101, 85, 105, 110, 116])), (t 20), (t 21), (t 22), (t 23)]),
   o 6 (.mov (t 19)),
   o 7 (.mov (t 24))])
 (.ret))
 (.skip)))
(.seq (.reg [o 25 (.mov (t 8)),
  o 6 (.mov (t 25)),
  o 7 (.mov (.cst .niliface))])
(.ret)))), [.tmp 6, .tmp 7]⟩
theorem ir66_tr : trF Tryd.prog ir66 Tryd.f66 = some ir66 := by kernel_rfl

-- strings.indexFunc
def ir67 : IF := ⟨21, .seq (.reg [o 6 (.mov (.cst (.int .i64 0)))])
(.seq (.seq (.reg [o 9 (.mov (t 0)),
  o 10 (.rangeS (t 9))])
(.block 0 (.loop [11, 12, 13, 14, 7, 8, 15, 16, 17, 18, 19, 20, 6] (.seq (.reg [o 11 (.nextS (t 10)),
    o 12 (.extract 0 (t 11))])
  (.seq (.cond (t 12)
   (.skip)
   (.exit 0))
  (.block 1 (.seq (.reg [o 13 (.extract 1 (t 11)),
     o 14 (.extract 2 (t 11)),
     o 7 (.mov (t 13)),
     o 8 (.mov (t 14))])
   (.seq (.reg [o 15 (.mov (t 1)),
     o 16 (.mov (t 8)),
     o 17 (.call 0 (t 15) [(t 16)]),
     o 18 (.mov (t 2)),
     o 19 (.eqv .bool false (t 17) (t 18))])
   (.cond (t 19)
    (.seq (.reg [o 20 (.mov (t 7)),
      o 6 (.mov (t 20))])
    (.ret))
    (.skip))))))))))
(.seq (.reg [o 6 (.mov (.cst (.int .i64 (-1))))])
(.ret))), [.tmp 6]⟩
theorem ir67_tr : trF Tryd.prog ir67 Tryd.f67 = some ir67 := by kernel_rfl

-- internal/strconv.ParseUint
def ir75 : IF := ⟨172, .seq (.reg [o 6 (.mov (.cst (.int .u64 0))),
  o 7 (.mov (.cst .niliface))])
(.seq (.seq (.reg [o 18 (.mov (t 0)),
  o 19 (.bin .eql (t 18) (.cst (.str [])))])
(.cond (t 19)
 (.seq (.reg [o 20 (.mkIface 100 (.cst (.int .i64 2))),
   o 6 (.mov (.cst (.int .u64 0))),
   o 7 (.mov (t 20))])
 (.ret))
 (.skip)))
(.seq (.reg [o 21 (.mov (t 1)),
  o 22 (.bin .eql (t 21) (.cst (.int .i64 0))),
  o 8 (.mov (t 22))])
(.seq (.reg [o 23 (.mov (t 0)),
  o 9 (.mov (t 23))])
(.seq (.block 0 (.seq (.reg [o 26 (.mov (t 1)),
   o 27 (.bin .leq (.cst (.int .i64 2)) (t 26)),
   o 28 (.mov (t 27)),
   og 29 28 true (.mov (t 1)),
   og 30 28 true (.bin .leq (t 29) (.cst (.int .i64 36))),
   o 31 (.pick (t 28) (t 30) (.cst (.bool false))),
   o 25 (.mov (t 31))])
 (.gh [.kill [26, 27, 28, 29, 30, 31]] (.cond (t 25)
  (.skip)
  (.seq (.reg [o 33 (.mov (t 1)),
    o 34 (.bin .eql (t 33) (.cst (.int .i64 0))),
    o 32 (.mov (t 34))])
  (.cond (t 32)
   (.seq (.reg [o 1 (.mov (.cst (.int .i64 10)))])
   (.seq (.reg [o 35 (.mov (t 0)),
     o 36 (.idxStr (t 35) (.cst (.int .i64 0))),
     o 37 (.bin .eql (t 36) (.cst (.int .u8 48)))])
   (.cond (t 37)
    (.block 1 (.seq (.reg [o 41 (.mov (t 0)),
       o 42 (.len .str (t 41)),
       o 43 (.bin .geq (t 42) (.cst (.int .i64 3))),
       o 44 (.mov (t 43)),
       og 45 44 true (.mov (t 0)),
       og 46 44 true (.idxStr (t 45) (.cst (.int .i64 1))),
       og 47 44 true (.call 0 (.fn 80) [(t 46)]),
       og 48 44 true (.bin .eql (t 47) (.cst (.int .u8 98))),
       o 49 (.pick (t 44) (t 48) (.cst (.bool false))),
       o 40 (.mov (t 49))])
     (.gh [.kill [41, 42, 43, 44, 45, 46, 47, 48, 49]] (.cond (t 40)
      (.seq (.reg [o 1 (.mov (.cst (.int .i64 2)))])
      (.reg [o 50 (.mov (t 0)),
        o 51 (.slcS (t 50) (some (.cst (.int .i64 2))) none),
        o 0 (.mov (t 51))]))
      (.seq (.reg [o 53 (.mov (t 0)),
        o 54 (.len .str (t 53)),
        o 55 (.bin .geq (t 54) (.cst (.int .i64 3))),
        o 56 (.mov (t 55)),
        og 57 56 true (.mov (t 0)),
        og 58 56 true (.idxStr (t 57) (.cst (.int .i64 1))),
        og 59 56 true (.call 0 (.fn 80) [(t 58)]),
        og 60 56 true (.bin .eql (t 59) (.cst (.int .u8 111))),
        o 61 (.pick (t 56) (t 60) (.cst (.bool false))),
        o 52 (.mov (t 61))])
      (.gh [.kill [53, 54, 55, 56, 57, 58, 59, 60, 61]] (.cond (t 52)
       (.seq (.reg [o 1 (.mov (.cst (.int .i64 8)))])
       (.reg [o 62 (.mov (t 0)),
         o 63 (.slcS (t 62) (some (.cst (.int .i64 2))) none),
         o 0 (.mov (t 63))]))
       (.seq (.reg [o 65 (.mov (t 0)),
         o 66 (.len .str (t 65)),
         o 67 (.bin .geq (t 66) (.cst (.int .i64 3))),
         o 68 (.mov (t 67)),
         og 69 68 true (.mov (t 0)),
         og 70 68 true (.idxStr (t 69) (.cst (.int .i64 1))),
         og 71 68 true (.call 0 (.fn 80) [(t 70)]),
         og 72 68 true (.bin .eql (t 71) (.cst (.int .u8 120))),
         o 73 (.pick (t 68) (t 72) (.cst (.bool false))),
         o 64 (.mov (t 73))])
       (.gh [.kill [65, 66, 67, 68, 69, 70, 71, 72, 73]] (.cond (t 64)
        (.seq (.reg [o 1 (.mov (.cst (.int .i64 16)))])
        (.reg [o 74 (.mov (t 0)),
          o 75 (.slcS (t 74) (some (.cst (.int .i64 2))) none),
          o 0 (.mov (t 75))]))
        (.seq (.reg [o 1 (.mov (.cst (.int .i64 8)))])
        (.reg [o 38 (.mov (t 0)),
          o 39 (.slcS (t 38) (some (.cst (.int .i64 1))) none),
          o 0 (.mov (t 39))]))))))))))))
    (.skip))))
   (.seq (.reg [o 24 (.mkIface 100 (.cst (.int .i64 3))),
     o 6 (.mov (.cst (.int .u64 0))),
     o 7 (.mov (t 24))])
   (.ret))))))))
(.gh [.kill [25, 26, 27, 28, 29, 30, 31, 33, 34, 32, 35, 36, 37, 40, 41, 42, 43, 44, 45, 46, 47, 48, 49, 50, 51, 52, 53, 54, 55, 56, 57, 58, 59, 60, 61, 62, 63, 64, 65, 66, 67, 68, 69, 70, 71, 72, 73, 74, 75, 38, 39, 24, 6, 7]] (.seq (.seq (.reg [o 76 (.mov (t 2)),
  o 77 (.bin .eql (t 76) (.cst (.int .i64 0)))])
(.cond (t 77)
 (.reg [o 2 (.mov (.cst (.int .i64 64)))])
 (.seq (.reg [o 78 (.mov (t 2)),
   o 79 (.bin .lss (t 78) (.cst (.int .i64 0))),
   o 80 (.mov (t 79)),
   og 81 80 false (.mov (t 2)),
   og 82 80 false (.bin .gtr (t 81) (.cst (.int .i64 64))),
   o 83 (.pick (t 80) (.cst (.bool true)) (t 82))])
 (.gh [.kill [78, 79, 80, 81, 82]] (.cond (t 83)
  (.seq (.reg [o 84 (.mkIface 100 (.cst (.int .i64 4))),
    o 6 (.mov (.cst (.int .u64 0))),
    o 7 (.mov (t 84))])
  (.ret))
  (.skip))))))
(.gh [.kill [76, 77, 83, 78, 79, 80, 81, 82, 84, 6, 7]] (.seq (.reg [o 10 (.mov (.cst (.int .u64 0)))])
(.seq (.seq (.reg [o 85 (.mov (t 1))])
(.block 2 (.seq (.reg [o 91 (.bin .eql (t 85) (.cst (.int .i64 10))),
   o 90 (.mov (t 91))])
 (.cond (t 90)
  (.reg [o 10 (.mov (.cst (.int .u64 1844674407370955162)))])
  (.seq (.reg [o 93 (.bin .eql (t 85) (.cst (.int .i64 16))),
    o 92 (.mov (t 93))])
  (.cond (t 92)
   (.reg [o 10 (.mov (.cst (.int .u64 1152921504606846976)))])
   (.reg [o 86 (.mov (t 1)),
     o 87 (.cvInt .u64 (t 86)),
     o 88 (.bin .quo (.cst (.int .u64 18446744073709551615)) (t 87)),
     o 89 (.bin .add (t 88) (.cst (.int .u64 1))),
     o 10 (.mov (t 89))])))))))
(.gh [.kill [85, 91, 90, 93, 92, 86, 87, 88, 89]] (.seq (.reg [o 94 (.mov (t 2)),
  o 95 (.cvInt .u64 (t 94)),
  o 96 (.bin .shl (.cst (.int .u64 1)) (t 95)),
  o 97 (.bin .sub (t 96) (.cst (.int .u64 1))),
  o 11 (.mov (t 97))])
(.seq (.reg [o 12 (.mov (.cst (.bool false)))])
(.seq (.reg [o 13 (.mov (.cst (.int .u64 0)))])
(.seq (.seq (.reg [o 98 (.mov (t 0)),
  o 99 (.cvBytes (t 98)),
  o 100 (.len .row (t 99)),
  o 101 (.mov (.cst (.int .i64 0)))])
(.block 3 (.loop [102, 103, 104, 15, 16, 106, 107, 108, 109, 110, 111, 112, 113, 114, 115, 116, 117, 118, 119, 120, 121, 122, 123, 124, 125, 126, 127, 128, 129, 130, 131, 132, 133, 105, 134, 135, 136, 137, 138, 139, 140, 141, 142, 143, 144, 145, 146, 147, 148, 149, 150, 151, 17, 159, 152, 153, 154, 155, 156, 157, 158, 160, 161, 6, 7, 162, 163] (.seq (.reg [o 102 (.bin .lss (t 101) (t 100))])
  (.seq (.cond (t 102)
   (.skip)
   (.exit 3))
  (.seq (.block 4 (.seq (.reg [o 103 (.idxAddr 1 (t 99) (t 101)),
     o 104 (.load none (t 103)),
     o 15 (.mov (t 104))])
   (.seq (.reg [o 16 (.mov (.cst (.int .u8 0)))])
   (.seq (.block 5 (.seq (.reg [o 107 (.mov (t 15)),
      o 108 (.bin .eql (t 107) (.cst (.int .u8 95))),
      o 109 (.mov (t 108)),
      og 110 109 true (.mov (t 8)),
      o 111 (.pick (t 109) (t 110) (.cst (.bool false))),
      o 106 (.mov (t 111))])
    (.gh [.kill [107, 108, 109, 110, 111]] (.cond (t 106)
     (.seq (.reg [o 12 (.mov (.cst (.bool true)))])
     (.exit 4))
     (.seq (.reg [o 113 (.mov (t 15)),
       o 114 (.bin .leq (.cst (.int .u8 48)) (t 113)),
       o 115 (.mov (t 114)),
       og 116 115 true (.mov (t 15)),
       og 117 115 true (.bin .leq (t 116) (.cst (.int .u8 57))),
       o 118 (.pick (t 115) (t 117) (.cst (.bool false))),
       o 112 (.mov (t 118))])
     (.gh [.kill [113, 114, 115, 116, 117, 118]] (.cond (t 112)
      (.reg [o 119 (.mov (t 15)),
        o 120 (.bin .sub (t 119) (.cst (.int .u8 48))),
        o 16 (.mov (t 120))])
      (.seq (.reg [o 122 (.mov (t 15)),
        o 123 (.call 0 (.fn 80) [(t 122)]),
        o 124 (.bin .leq (.cst (.int .u8 97)) (t 123)),
        o 125 (.mov (t 124)),
        og 126 125 true (.mov (t 15)),
        og 127 125 true (.call 0 (.fn 80) [(t 126)]),
        og 128 125 true (.bin .leq (t 127) (.cst (.int .u8 122))),
        o 129 (.pick (t 125) (t 128) (.cst (.bool false))),
        o 121 (.mov (t 129))])
      (.gh [.kill [122, 123, 124, 125, 126, 127, 128, 129]] (.cond (t 121)
       (.reg [o 130 (.mov (t 15)),
         o 131 (.call 0 (.fn 80) [(t 130)]),
         o 132 (.bin .sub (t 131) (.cst (.int .u8 97))),
         o 133 (.bin .add (t 132) (.cst (.int .u8 10))),
         o 16 (.mov (t 133))])
       (.seq (.reg [o 105 (.mkIface 100 (.cst (.int .i64 2))),
         o 6 (.mov (.cst (.int .u64 0))),
         o 7 (.mov (t 105))])
       (.ret))))))))))))
   (.gh [.kill [106, 107, 108, 109, 110, 111, 112, 113, 114, 115, 116, 117, 118, 119, 120, 121, 122, 123, 124, 125, 126, 127, 128, 129, 130, 131, 132, 133, 105, 6, 7]] (.seq (.seq (.reg [o 134 (.mov (t 16)),
     o 135 (.mov (t 1)),
     o 136 (.cvInt .u8 (t 135)),
     o 137 (.bin .geq (t 134) (t 136))])
   (.cond (t 137)
    (.seq (.reg [o 138 (.mkIface 100 (.cst (.int .i64 2))),
      o 6 (.mov (.cst (.int .u64 0))),
      o 7 (.mov (t 138))])
    (.ret))
    (.skip)))
   (.seq (.seq (.reg [o 139 (.mov (t 13)),
     o 140 (.mov (t 10)),
     o 141 (.bin .geq (t 139) (t 140))])
   (.cond (t 141)
    (.seq (.reg [o 142 (.mov (t 11)),
      o 143 (.mkIface 100 (.cst (.int .i64 1))),
      o 6 (.mov (t 142)),
      o 7 (.mov (t 143))])
    (.ret))
    (.skip)))
   (.seq (.reg [o 144 (.mov (t 13)),
     o 145 (.mov (t 1)),
     o 146 (.cvInt .u64 (t 145)),
     o 147 (.bin .mul (t 144) (t 146)),
     o 13 (.mov (t 147))])
   (.seq (.reg [o 148 (.mov (t 13)),
     o 149 (.mov (t 16)),
     o 150 (.cvInt .u64 (t 149)),
     o 151 (.bin .add (t 148) (t 150)),
     o 17 (.mov (t 151))])
   (.seq (.seq (.reg [o 152 (.mov (t 17)),
     o 153 (.mov (t 13)),
     o 154 (.bin .lss (t 152) (t 153)),
     o 155 (.mov (t 154)),
     og 156 155 false (.mov (t 17)),
     og 157 155 false (.mov (t 11)),
     og 158 155 false (.bin .gtr (t 156) (t 157)),
     o 159 (.pick (t 155) (.cst (.bool true)) (t 158))])
   (.gh [.kill [152, 153, 154, 155, 156, 157, 158]] (.cond (t 159)
    (.seq (.reg [o 160 (.mov (t 11)),
      o 161 (.mkIface 100 (.cst (.int .i64 1))),
      o 6 (.mov (t 160)),
      o 7 (.mov (t 161))])
    (.ret))
    (.skip))))
   (.reg [o 162 (.mov (t 17)),
     o 13 (.mov (t 162))])))))))))))
  (.gh [.kill [103, 104, 15, 16, 106, 107, 108, 109, 110, 111, 112, 113, 114, 115, 116, 117, 118, 119, 120, 121, 122, 123, 124, 125, 126, 127, 128, 129, 130, 131, 132, 133, 105, 134, 135, 136, 137, 138, 139, 140, 141, 142, 143, 144, 145, 146, 147, 148, 149, 150, 151, 17, 159, 152, 153, 154, 155, 156, 157, 158, 160, 161, 6, 7, 162]] (.reg [o 163 (.bin .add (t 101) (.cst (.int .i64 1))),
    o 101 (.mov (t 163))]))))))))
(.seq (.seq (.reg [o 164 (.mov (t 12)),
  o 165 (.mov (t 164)),
  og 166 165 true (.mov (t 9)),
  og 167 165 true (.call 0 (.fn 81) [(t 166)]),
  og 168 165 true (.not (t 167)),
  o 169 (.pick (t 165) (t 168) (.cst (.bool false)))])
(.gh [.kill [164, 165, 166, 167, 168]] (.cond (t 169)
 (.seq (.reg [o 170 (.mkIface 100 (.cst (.int .i64 2))),
   o 6 (.mov (.cst (.int .u64 0))),
   o 7 (.mov (t 170))])
 (.ret))
 (.skip))))
(.seq (.reg [o 171 (.mov (t 13)),
  o 6 (.mov (t 171)),
  o 7 (.mov (.cst .niliface))])
(.ret))))))))))))))))), [.tmp 6, .tmp 7]⟩
theorem ir75_tr : trF Tryd.prog ir75 Tryd.f75 = some ir75 := by kernel_rfl

-- internal/strconv.lower
def ir80 : IF := ⟨5, .seq (.reg [o 2 (.mov (.cst (.int .u8 0)))])
(.seq (.reg [o 3 (.mov (t 0)),
  o 4 (.bin .or (t 3) (.cst (.int .u8 32))),
  o 2 (.mov (t 4))])
(.ret)), [.tmp 2]⟩
theorem ir80_tr : trF Tryd.prog ir80 Tryd.f80 = some ir80 := by kernel_rfl

-- internal/strconv.underscoreOK
def ir81 : IF := ⟨94, .seq (.reg [o 2 (.mov (.cst (.bool false)))])
(.seq (.reg [o 3 (.mov (.cst (.int .i32 94)))])
(.seq (.reg [o 4 (.mov (.cst (.int .i64 0)))])
(.seq (.seq (.reg [o 6 (.mov (t 0)),
  o 7 (.len .str (t 6)),
  o 8 (.bin .geq (t 7) (.cst (.int .i64 1))),
  o 9 (.mov (t 8)),
  og 10 9 true (.mov (t 0)),
  og 11 9 true (.idxStr (t 10) (.cst (.int .i64 0))),
  og 12 9 true (.bin .eql (t 11) (.cst (.int .u8 45))),
  og 13 9 true (.mov (t 12)),
  og 14 13 false (.mov (t 0)),
  og 15 13 false (.idxStr (t 14) (.cst (.int .i64 0))),
  og 16 13 false (.bin .eql (t 15) (.cst (.int .u8 43))),
  og 17 9 true (.pick (t 13) (.cst (.bool true)) (t 16)),
  o 18 (.pick (t 9) (t 17) (.cst (.bool false)))])
(.gh [.kill [6, 7, 8, 9, 10, 11, 12, 13, 14, 15, 16, 17]] (.cond (t 18)
 (.reg [o 19 (.mov (t 0)),
   o 20 (.slcS (t 19) (some (.cst (.int .i64 1))) none),
   o 0 (.mov (t 20))])
 (.skip))))
(.gh [.kill [18, 6, 7, 8, 9, 10, 11, 12, 13, 14, 15, 16, 17, 19, 20]] (.seq (.reg [o 5 (.mov (.cst (.bool false)))])
(.seq (.seq (.reg [o 21 (.mov (t 0)),
  o 22 (.len .str (t 21)),
  o 23 (.bin .geq (t 22) (.cst (.int .i64 2))),
  o 24 (.mov (t 23)),
  og 25 24 true (.mov (t 0)),
  og 26 24 true (.idxStr (t 25) (.cst (.int .i64 0))),
  og 27 24 true (.bin .eql (t 26) (.cst (.int .u8 48))),
  o 28 (.pick (t 24) (t 27) (.cst (.bool false))),
  o 29 (.mov (t 28)),
  og 30 29 true (.mov (t 0)),
  og 31 29 true (.idxStr (t 30) (.cst (.int .i64 1))),
  og 32 29 true (.call 0 (.fn 80) [(t 31)]),
  og 33 29 true (.bin .eql (t 32) (.cst (.int .u8 98))),
  og 34 29 true (.mov (t 33)),
  og 35 34 false (.mov (t 0)),
  og 36 34 false (.idxStr (t 35) (.cst (.int .i64 1))),
  og 37 34 false (.call 0 (.fn 80) [(t 36)]),
  og 38 34 false (.bin .eql (t 37) (.cst (.int .u8 111))),
  og 39 29 true (.pick (t 34) (.cst (.bool true)) (t 38)),
  og 40 29 true (.mov (t 39)),
  og 41 40 false (.mov (t 0)),
  og 42 40 false (.idxStr (t 41) (.cst (.int .i64 1))),
  og 43 40 false (.call 0 (.fn 80) [(t 42)]),
  og 44 40 false (.bin .eql (t 43) (.cst (.int .u8 120))),
  og 45 29 true (.pick (t 40) (.cst (.bool true)) (t 44)),
  o 46 (.pick (t 29) (t 45) (.cst (.bool false)))])
(.gh [.kill [21, 22, 23, 24, 25, 26, 27, 28, 29, 30, 31, 32, 33, 34, 35, 36, 37, 38, 39, 40, 41, 42, 43, 44, 45]] (.cond (t 46)
 (.seq (.reg [o 4 (.mov (.cst (.int .i64 2)))])
 (.seq (.reg [o 3 (.mov (.cst (.int .i32 48)))])
 (.reg [o 47 (.mov (t 0)),
   o 48 (.idxStr (t 47) (.cst (.int .i64 1))),
   o 49 (.call 0 (.fn 80) [(t 48)]),
   o 50 (.bin .eql (t 49) (.cst (.int .u8 120))),
   o 5 (.mov (t 50))])))
 (.skip))))
(.gh [.kill [46, 21, 22, 23, 24, 25, 26, 27, 28, 29, 30, 31, 32, 33, 34, 35, 36, 37, 38, 39, 40, 41, 42, 43, 44, 45, 47, 48, 49, 50]] (.seq (.block 0 (.loop [51, 52, 53, 54, 83, 57, 58, 59, 60, 61, 62, 63, 64, 65, 66, 67, 68, 69, 70, 71, 72, 73, 74, 75, 76, 77, 78, 79, 80, 81, 82, 84, 85, 86, 87, 88, 89, 90, 91, 2, 55, 56] (.seq (.seq (.reg [o 51 (.mov (t 4)),
    o 52 (.mov (t 0)),
    o 53 (.len .str (t 52)),
    o 54 (.bin .lss (t 51) (t 53))])
  (.cond (t 54)
   (.skip)
   (.exit 0)))
  (.seq (.block 1 (.seq (.seq (.reg [o 57 (.mov (t 0)),
     o 58 (.mov (t 4)),
     o 59 (.idxStr (t 57) (t 58)),
     o 60 (.bin .leq (.cst (.int .u8 48)) (t 59)),
     o 61 (.mov (t 60)),
     og 62 61 true (.mov (t 0)),
     og 63 61 true (.mov (t 4)),
     og 64 61 true (.idxStr (t 62) (t 63)),
     og 65 61 true (.bin .leq (t 64) (.cst (.int .u8 57))),
     o 66 (.pick (t 61) (t 65) (.cst (.bool false))),
     o 67 (.mov (t 66)),
     og 68 67 false (.mov (t 5)),
     og 69 67 false (.mov (t 68)),
     og 70 69 true (.mov (t 0)),
     og 71 69 true (.mov (t 4)),
     og 72 69 true (.idxStr (t 70) (t 71)),
     og 73 69 true (.call 0 (.fn 80) [(t 72)]),
     og 74 69 true (.bin .leq (.cst (.int .u8 97)) (t 73)),
     og 75 67 false (.pick (t 69) (t 74) (.cst (.bool false))),
     og 76 67 false (.mov (t 75)),
     og 77 76 true (.mov (t 0)),
     og 78 76 true (.mov (t 4)),
     og 79 76 true (.idxStr (t 77) (t 78)),
     og 80 76 true (.call 0 (.fn 80) [(t 79)]),
     og 81 76 true (.bin .leq (t 80) (.cst (.int .u8 102))),
     og 82 67 false (.pick (t 76) (t 81) (.cst (.bool false))),
     o 83 (.pick (t 67) (.cst (.bool true)) (t 82))])
   (.gh [.kill [57, 58, 59, 60, 61, 62, 63, 64, 65, 66, 67, 68, 69, 70, 71, 72, 73, 74, 75, 76, 77, 78, 79, 80, 81, 82]] (.cond (t 83)
    (.seq (.reg [o 3 (.mov (.cst (.int .i32 48)))])
    (.exit 1))
    (.skip))))
   (.seq (.seq (.reg [o 84 (.mov (t 0)),
     o 85 (.mov (t 4)),
     o 86 (.idxStr (t 84) (t 85)),
     o 87 (.bin .eql (t 86) (.cst (.int .u8 95)))])
   (.cond (t 87)
    (.seq (.seq (.reg [o 88 (.mov (t 3)),
      o 89 (.bin .neq (t 88) (.cst (.int .i32 48)))])
    (.cond (t 89)
     (.seq (.reg [o 2 (.mov (.cst (.bool false)))])
     (.ret))
     (.skip)))
    (.seq (.reg [o 3 (.mov (.cst (.int .i32 95)))])
    (.exit 1)))
    (.skip)))
   (.seq (.seq (.reg [o 90 (.mov (t 3)),
     o 91 (.bin .eql (t 90) (.cst (.int .i32 95)))])
   (.cond (t 91)
    (.seq (.reg [o 2 (.mov (.cst (.bool false)))])
    (.ret))
    (.skip)))
   (.reg [o 3 (.mov (.cst (.int .i32 33)))])))))
  (.gh [.kill [83, 57, 58, 59, 60, 61, 62, 63, 64, 65, 66, 67, 68, 69, 70, 71, 72, 73, 74, 75, 76, 77, 78, 79, 80, 81, 82, 84, 85, 86, 87, 88, 89, 90, 91, 2]] (.reg [o 55 (.mov (t 4)),
    o 56 (.bin .add (t 55) (.cst (.int .i64 1))),
    o 4 (.mov (t 56))]))))))
(.seq (.reg [o 92 (.mov (t 3)),
  o 93 (.bin .neq (t 92) (.cst (.int .i32 95))),
  o 2 (.mov (t 93))])
(.ret)))))))))), [.tmp 2]⟩
theorem ir81_tr : trF Tryd.prog ir81 Tryd.f81 = some ir81 := by kernel_rfl

def irs : List (Nat × IF) := [(5, ir5), (8, ir8), (10, ir10), (11, ir11), (12, ir12), (13, ir13), (14, ir14), (16, ir16), (18, ir18), (22, ir22), (23, ir23), (24, ir24), (25, ir25), (27, ir27), (28, ir28), (29, ir29), (30, ir30), (33, ir33), (35, ir35), (36, ir36), (38, ir38), (48, ir48), (49, ir49), (50, ir50), (51, ir51), (52, ir52), (56, ir56), (65, ir65), (66, ir66), (67, ir67), (75, ir75), (80, ir80), (81, ir81)]

theorem irs_ok (T' : Laid) : ∀ p ∈ irs, EntryOk Tryd.prog T' p.1 (.ir p.2) := by
  intro p hp
  simp only [irs, List.mem_cons, List.mem_nil_iff, or_false] at hp
  rcases hp with rfl | rfl | rfl | rfl | rfl | rfl | rfl | rfl | rfl | rfl | rfl | rfl | rfl | rfl | rfl | rfl | rfl | rfl | rfl | rfl | rfl | rfl | rfl | rfl | rfl | rfl | rfl | rfl | rfl | rfl | rfl | rfl | rfl
  · exact ⟨_, Tryd.func5, ir5_tr⟩
  · exact ⟨_, Tryd.func8, ir8_tr⟩
  · exact ⟨_, Tryd.func10, ir10_tr⟩
  · exact ⟨_, Tryd.func11, ir11_tr⟩
  · exact ⟨_, Tryd.func12, ir12_tr⟩
  · exact ⟨_, Tryd.func13, ir13_tr⟩
  · exact ⟨_, Tryd.func14, ir14_tr⟩
  · exact ⟨_, Tryd.func16, ir16_tr⟩
  · exact ⟨_, Tryd.func18, ir18_tr⟩
  · exact ⟨_, Tryd.func22, ir22_tr⟩
  · exact ⟨_, Tryd.func23, ir23_tr⟩
  · exact ⟨_, Tryd.func24, ir24_tr⟩
  · exact ⟨_, Tryd.func25, ir25_tr⟩
  · exact ⟨_, Tryd.func27, ir27_tr⟩
  · exact ⟨_, Tryd.func28, ir28_tr⟩
  · exact ⟨_, Tryd.func29, ir29_tr⟩
  · exact ⟨_, Tryd.func30, ir30_tr⟩
  · exact ⟨_, Tryd.func33, ir33_tr⟩
  · exact ⟨_, Tryd.func35, ir35_tr⟩
  · exact ⟨_, Tryd.func36, ir36_tr⟩
  · exact ⟨_, Tryd.func38, ir38_tr⟩
  · exact ⟨_, Tryd.func48, ir48_tr⟩
  · exact ⟨_, Tryd.func49, ir49_tr⟩
  · exact ⟨_, Tryd.func50, ir50_tr⟩
  · exact ⟨_, Tryd.func51, ir51_tr⟩
  · exact ⟨_, Tryd.func52, ir52_tr⟩
  · exact ⟨_, Tryd.func56, ir56_tr⟩
  · exact ⟨_, Tryd.func65, ir65_tr⟩
  · exact ⟨_, Tryd.func66, ir66_tr⟩
  · exact ⟨_, Tryd.func67, ir67_tr⟩
  · exact ⟨_, Tryd.func75, ir75_tr⟩
  · exact ⟨_, Tryd.func80, ir80_tr⟩
  · exact ⟨_, Tryd.func81, ir81_tr⟩

def irAt (k : Nat) : Option IF := (irs.find? fun p => p.1 == k).map (·.2)

theorem irAt_ok (T' : Laid) {k : Nat} {f : IF} (h : irAt k = some f) : EntryOk Tryd.prog T' k (.ir f) := by
  simp only [irAt, Option.map_eq_some_iff] at h
  obtain ⟨p, hp, rfl⟩ := h
  have hk := List.find?_some hp
  simp only [beq_iff_eq] at hk
  subst hk
  exact irs_ok T' p (List.mem_of_find?_eq_some hp)

/-- A table that holds the program's functions. -/
def Has (T : Nat → Option Entry) : Prop := ∀ k f, irAt k = some f → T k = some (.ir f)

end Go.SV
