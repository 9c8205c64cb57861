/- Contracts: characters, plain texts, beginnings and ends. Own text of the prover; nothing is assumed. -/
import Derived.Test.YtmbaaiifdjoibaaGreatDoorWp
import Derived.Test.YtmbaaiifdjoibaaGreatDoorLe
import Derived.Lib.ItoaNum
import Derived.Lib.IndexMore
import Derived.Lib.ValidU
set_option maxRecDepth 100000
namespace Go.SV

variable {T : Nat → Option Entry}

def u8v (b : UInt8) : AV := .int .u8 b.toNat

def pre (p s : List UInt8) : Bool := s.take p.length == p
def vRune (r : Int) : Bool := decide (0 ≤ r ∧ r < 55296 ∨ 57343 < r ∧ r ≤ 1114111)
def may (r : Int) : Bool :=
  if r = 9 ∨ r = 10 ∨ r = 13 ∨ r = 133 then true
  else if r = 65279 ∨ r = 65534 ∨ r = 65535 then false
  else decide (32 ≤ r ∧ r < 127) || (decide (160 ≤ r) && vRune r)
def first : List UInt8 := [45, 63, 58, 44, 91, 93, 123, 125, 35, 38, 42, 33, 124, 62, 39, 34, 37, 64, 96, 32]
end Go.SV
