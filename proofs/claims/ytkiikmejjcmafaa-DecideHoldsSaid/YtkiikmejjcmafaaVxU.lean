/- Stores into rows that may yet change; results that are rows of the caller's own. -/
import Derived.Test.YtkiikmejjcmafaaVxT
namespace Go.Proofs.Vx
open Go Go.RowKit
section
variable {P : Program} {n : Nat} {o : Oper} {σ : St}
theorem rho_setR {β : Nat → Value} {T : List (Nat × Ob)} {t : Nat} {e e' : Bool} {ety sz : Nat} {rows rows' : List (List D)} (hl : rows'.length = rows.length) (hb : getT T t = .rows e ety sz rows) {d : D} {x : Value} (h : rho β T d x) : rho β ((t, .rows e' ety sz rows') :: T) d x := by
  cases d with
  | bref u off =>
    simp only [rho] at h ⊢
    by_cases hu : u = t
    · subst hu; rw [hb] at h; exact h.elim
    · rw [getT_cons_other hu]; exact h
  | sref u =>
    simp only [rho] at h ⊢
    by_cases hu : u = t
    · subst hu; rw [getT_cons_same]; rw [hb] at h; exact h
    · rw [getT_cons_other hu]; exact h
  | eref u i off =>
    simp only [rho] at h ⊢
    by_cases hu : u = t
    · subst hu; rw [getT_cons_same]; rw [hb] at h; simp only at h ⊢; rw [hl]; exact h
    · rw [getT_cons_other hu]; exact h
  | mref u =>
    simp only [rho] at h ⊢
    by_cases hu : u = t
    · subst hu; rw [hb] at h; exact h.elim
    · rw [getT_cons_other hu]; exact h
  | _ => exact h
end
end Go.Proofs.Vx
namespace Go.Proofs.Vx
open Go Go.RowKit
section
variable {P : Program} {n : Nat} {o : Oper} {σ : St}
end
end Go.Proofs.Vx
namespace Go.Proofs.Vx
open Go Go.RowKit
section
variable {P : Program} {n : Nat} {o : Oper} {σ : St}
end
end Go.Proofs.Vx
namespace Go.Proofs.Vx
open Go Go.RowKit
end Go.Proofs.Vx
namespace Go.Proofs.Vx
open Go Go.RowKit
end Go.Proofs.Vx
