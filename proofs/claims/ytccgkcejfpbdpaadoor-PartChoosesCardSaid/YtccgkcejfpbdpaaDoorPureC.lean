/- Proved here: fields, printed and parsed (taken from layer 07's texts). -/
import Derived.Test.YtccgkcejfpbdpaaDoorPureB
namespace Go.Proofs.YtccgkcejfpbdpaaDoor.Pure
open Go Go.RowKit Go.Proofs.Vx Go.Proofs.YtccgkcejfpbdpaaDoor.Sh

def pl : Bool → Nat → Str → List Str → List Str
  | _, _, cur, [] => [cur]
  | any, n, cur, w :: ws => if brk any n w = true then cur :: pl true (nl any n w) (32 :: w) ws else pl true (nl any n w) (cur ++ 32 :: w) ws
structure Good (f : T_api_Field) : Prop where
  named : named f.Name = true
  wok : wok f.Value = true
  fl : ∃ t, fl false (f.Name.length + 1) (wds f.Value) = some t
end Go.Proofs.YtccgkcejfpbdpaaDoor.Pure
