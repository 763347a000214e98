/- Proved here: at the last version nothing is told any more; a copy goes its own way. -/
import Derived.Test.YtkmifmkdloeeeaaPureA
namespace Go.Proofs.Ytkmifmkdloeeeaa.Pure
open Go Go.RowKit Go.Proofs.Vx Go.Proofs.Ytkmifmkdloeeeaa.Sh

theorem rsE_self (l : List T_api_Row) : rsE l l = true := (rsE_iff l l).2 rfl
theorem same_self (k : Nat) (b : T_api_Body) (h : b.Rows.length < 400000) (hk : 400000 ≤ k) : watchbillref26_Same k b b = some true := by
  unfold watchbillref26_Same
  simp only [beq_self_eq_true, Bool.and_self, if_true, rows_eq k _ _ h hk, Option.bind_some, rsE_self]
theorem nx_rows (s : T_subs_Sub) (rows : List T_api_Row) (full : Bool) (hr : rows.length < 5000) (hs : s.Rows_.length < 5000) : (nx s rows full).1.Rows.length < 400000 ∧ (nx s rows full).2.2.2.Rows_.length < 5000 := by
  unfold nx
  split
  · exact ⟨by simp, hs⟩
  · split
    · exact ⟨by simp, hs⟩
    · refine ⟨?_, hr⟩
      have := chS_len s.Rows_ rows
      simp only
      split <;> omega
end Go.Proofs.Ytkmifmkdloeeeaa.Pure
