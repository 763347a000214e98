/- Lists that grow under a new name (in regions that draw), names changed, new objects handed back, nil taken for a list of one's own, pointers held against nil. -/
import Derived.Test.YthiopccchgkjcaaVxV
namespace Go.Proofs.Vx
open Go Go.RowKit
set_option linter.unusedSectionVars false
variable [Glo]

theorem rho_move {β : Nat → Value} {T : List (Nat × Ob)} {t u : Nat} (htu : t ≠ u) {y : Value} {ob : Ob} {d : D} {x : Value} (hd : d.names1 u = false) (h : rho β T d x) : rho (upd β u y) ((u, ob) :: (t, .none) :: T) d x := by
  have hTt : getT ((u, ob) :: (t, Ob.none) :: T) t = .none := by rw [getT_cons_other htu, getT_cons_same]
  have same : ∀ v, Nat.beq v u = false → v ≠ t → getT ((u, ob) :: (t, Ob.none) :: T) v = getT T v ∧ upd β u y v = β v := fun v h1 h2 => by
    have := Nat.ne_of_beq_eq_false h1
    rw [getT_cons_other this, getT_cons_other h2, upd_other this]; exact ⟨rfl, rfl⟩
  cases d with
  | bref v off =>
    simp only [rho] at h ⊢
    by_cases hv : v = t
    · subst hv; rw [hTt]; trivial
    · obtain ⟨e1, e2⟩ := same v hd hv; rw [e1, e2]; exact h
  | sref v =>
    simp only [rho] at h ⊢
    by_cases hv : v = t
    · subst hv; rw [hTt]; trivial
    · obtain ⟨e1, e2⟩ := same v hd hv; rw [e1, e2]; exact h
  | eref v i off =>
    simp only [rho] at h ⊢
    by_cases hv : v = t
    · subst hv; rw [hTt]; trivial
    · obtain ⟨e1, e2⟩ := same v hd hv; rw [e1, e2]; exact h
  | mref v =>
    simp only [rho] at h ⊢
    by_cases hv : v = t
    · subst hv; rw [hTt]; trivial
    · obtain ⟨e1, e2⟩ := same v hd hv; rw [e1, e2]; exact h
  | _ => exact h
theorem Inv.move {cx ι β T w} (h : Inv cx ι β T w) {w' ι' tb} (t u : Nat) (htu : t ≠ u) (hg : Goes ι w ι' w' tb) {x : Value} {ob : Ob}
    (htb : ∀ k, tb = some k → blockOf (β t) = some k ∧ getT T t ≠ .none)
    (hob : ObOk ι' w' (rho (upd β u x) ((u, ob) :: (t, .none) :: killT u T)) x ob)
    (hmine : ∀ b, blockOf x = some b → w.heap.size ≤ b ∨ (blockOf (β t) = some b ∧ getT T t ≠ .none)) : Inv cx ι' (upd β u x) ((u, ob) :: (t, .none) :: killT u T) w' := by
  have alive : getT T t ≠ .none → getT (killT u T) t ≠ .none := fun hn he => by
    rw [getT_kill] at he
    split at he
    · cases he
    · exact hn he
  have hT : ∀ v, v ≠ u → v ≠ t → getT ((u, ob) :: (t, .none) :: killT u T) v = getT (killT u T) v := fun v h1 h2 => by rw [getT_cons_other h1, getT_cons_other h2]
  have hTt : getT ((u, ob) :: (t, Ob.none) :: killT u T) t = .none := by rw [getT_cons_other htu, getT_cons_same]
  refine (h.le (Le.kill u ⟨[], T⟩).2).multi (fun v => v = t ∨ v = u) (fun b => blockOf (β t) = some b ∧ getT T t ≠ .none) (fun b hb => ⟨t, .inl rfl, alive hb.2, hb.1⟩) hg.os hg.tape hg.output hg.size
    (fun k hk hW => hg.kept k hk (fun e => hW (htb k e.symm))) hg.sub (fun b o hb => (hg.new b o hb).imp id (.imp id (fun e => htb b e.symm))) hg.cell (fun v hv => upd_other (fun e => hv (.inr e))) (fun v hv => .inr (hT v (fun e => hv (.inr e)) (fun e => hv (.inl e)))) ?_ ?_ ?_ ?_
  · intro v e cells hv hc _ d hd y hy
    exact hy.keep1 (killT_clean u hc d hd) hg.sub hg.cell (fun d x hd h => rho_move htu hd h)
  · rintro v (rfl | rfl)
    · rw [hTt]; trivial
    · rw [upd_same, getT_cons_same]; exact hob
  · rintro v b (rfl | rfl) hb
    · exact .inl hTt
    · rw [upd_same] at hb; exact .inr (hmine b hb)
  · rintro v v' b (rfl | rfl) (rfl | rfl) hvv hb hb'
    · exact absurd rfl hvv
    · exact .inl hTt
    · exact .inr hTt
    · exact absurd rfl hvv
section
variable {P : Program} {n : Nat} {o : Oper} {σ : St}
end
section
variable {P : Program} {n : Nat} {all : Array Oper} {o : Oper} {fr : List (Nat × D)} {rd : List (Nat × Ob)}
end
theorem SLe.trans {σ1 σ2 σ3 : St} (h : SLe σ1 σ2) (h' : SLe σ2 σ3) : SLe σ1 σ3 := fun cx n a w hs => h cx n a w (h' cx n a w hs)
end Go.Proofs.Vx
