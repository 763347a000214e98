/- From the executor's contract to the walk that a row asks for. -/
import Derived.Test.YtkmifmkdloeeeaaVxM
namespace Go.Proofs.Vx
open Go Go.RowKit

/-- Values handed over, each as it stands. -/
inductive Plain : List D → List Value → Prop
  | nil : Plain [] []
  | cons {d : D} {x : Value} {ds : List D} {xs : List Value} (h : d = .v x) (hr : Plain ds xs) : Plain (d :: ds) (x :: xs)
theorem Plain.length {ds : List D} {xs : List Value} (h : Plain ds xs) : xs.length = ds.length := by
  induction h with
  | nil => rfl
  | cons _ _ ih => simp [ih]
theorem Plain.get {ds : List D} {xs : List Value} (h : Plain ds xs) : ∀ (k : Nat) d x, ds[k]? = some d → xs[k]? = some x → d = .v x := by
  induction h with
  | nil => intro k d x h; simp at h
  | cons e _ ih =>
    intro k d x hd hx
    cases k with
    | zero => simp at hd hx; subst hd; subst hx; exact e
    | succ k => exact ih k d x (by simpa using hd) (by simpa using hx)
theorem valS (a : ByteArray) : S a.data.toList = .v (.string a) := by
  cases a; simp [S, ba]
theorem Fn.walk0 {P : Program} {f : Nat} {ds : List D} {r : Value} (h : Fn P f ds [] (.v r) []) (vs : Array Value) (hv : Plain ds vs.toList) (w : World) :
    Calls P f vs w fun e w' => e = .returned r ∧ Below w.heap.size w w' := by
  refine (h w (fun _ _ => False) (fun _ => undef) vs ⟨rfl, rfl, rfl, Nat.le_refl _, fun _ _ _ => rfl, fun _ _ h => h, fun _ _ h => .inl h, fun _ _ h => h.elim, fun _ => trivial, fun _ _ _ => .inl rfl, fun _ _ _ _ _ _ => .inl rfl⟩ (by simpa using hv.length) (fun k d x hd hx => ?_)).mono ?_
  · rw [hv.get k d x hd (by simpa using hx)]; exact .v x
  · rintro e w' ⟨v, ι', β', rfl, hi, hr⟩
    refine ⟨by rw [hr.v_inv], hi.os, hi.tape, hi.output, hi.size, fun k hk => hi.kept k hk fun ⟨t, ht, _⟩ => ht rfl⟩
end Go.Proofs.Vx
