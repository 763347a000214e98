import Derived.Test.YtapbckofgcmgmaaGreatDoorVxM
namespace Go.Proofs.Vx
open Go Go.RowKit
set_option linter.unusedSectionVars false
variable [Glo]
inductive Plain:List D→List Value→Prop
 | nil:Plain [] []
 | cons {d:D} {x:Value} {ds:List D} {xs:List Value} (h:d=.v x) (hr:Plain ds xs):Plain (d :: ds) (x :: xs)
theorem Plain.length {ds:List D} {xs:List Value} (h:Plain ds xs):xs.length=ds.length:=by
 induction h with
 | nil => rfl
 | cons _ _ ih => simp [ih]
theorem Plain.get {ds:List D} {xs:List Value} (h:Plain ds xs):∀ (k:Nat) d x,ds[k]? =some d→xs[k]? =some x→d=.v x:=by
 induction h with
 | nil => intro k d x h; simp at h
 | cons e _ ih =>
  intro k d x hd hx
  cases k with
  | zero => simp at hd hx; subst hd; subst hx; exact e
  | succ k => exact ih k d x (by simpa using hd) (by simpa using hx)
theorem valS (a:ByteArray):S a.data.toList=.v (.string a):=by
 cases a; simp [S,ba]
end Go.Proofs.Vx
