/- Proved here: fields, printed and parsed (taken from layer 07's texts). -/
import Derived.Test.YtccgkcejfpbdpaaDoorPureA
namespace Go.Proofs.YtccgkcejfpbdpaaDoor.Pure
open Go Go.RowKit Go.Proofs.Vx Go.Proofs.YtccgkcejfpbdpaaDoor.Sh

def pcs (c : UInt8) : Str → List Str
  | [] => [[]]
  | b :: r => if b = c then [] :: pcs c r else match pcs c r with | [] => [[b]] | h :: t => (b :: h) :: t
def wds (v : Str) : List Str := if v = [] then [] else pcs 32 v
def wok (v : Str) : Bool := (wds v).all (alp vis)
def brk (any : Bool) (n : Nat) (w : Str) : Bool := any && decide (76 < n + 1 + w.length)
def nl (any : Bool) (n : Nat) (w : Str) : Nat := (if brk any n w = true then 0 else n) + 1 + w.length
def crl (any : Bool) (n : Nat) (w : Str) : Str := if brk any n w = true then [13, 10] else []
def fl : Bool → Nat → List Str → Option Str
  | _, _, [] => some []
  | any, n, w :: ws => if 998 < nl any n w then none else (fl true (nl any n w) ws).map (crl any n w ++ 32 :: w ++ ·)
end Go.Proofs.YtccgkcejfpbdpaaDoor.Pure
