/- A list of texts of one's own, sorted, and made compact, by the library's own contracts. -/
import Derived.Test.YtannhioamkkdnaaVxZ
import Derived.Sort.OwnSorted
import Derived.Lib.SlicesCompact
namespace Go.Proofs.Vx
open Go Go.RowKit Go.Sort

section
variable {P : Program} {n : Nat} {o : Oper} {σ : St}
theorem rho_gone {β : Nat → Value} {T : List (Nat × Ob)} {t : Nat} {d : D} {x : Value} (h : rho β T d x) : rho β ((t, .none) :: T) d x := by
  have same : ∀ v, v ≠ t → getT ((t, Ob.none) :: T) v = getT T v := fun v h2 => getT_cons_other h2
  cases d with
  | bref v off => simp only [rho] at h ⊢; by_cases hv : v = t; (subst hv; rw [getT_cons_same]; trivial); rw [same v hv]; exact h
  | sref v => simp only [rho] at h ⊢; by_cases hv : v = t; (subst hv; rw [getT_cons_same]; trivial); rw [same v hv]; exact h
  | eref v i off => simp only [rho] at h ⊢; by_cases hv : v = t; (subst hv; rw [getT_cons_same]; trivial); rw [same v hv]; exact h
  | mref v => simp only [rho] at h ⊢; by_cases hv : v = t; (subst hv; rw [getT_cons_same]; trivial); rw [same v hv]; exact h
  | _ => exact h
theorem OpOk.appendF {s x : Operand} {ty ety sz by_ t : Nat} {rs rows : List (List D)} (ho : o.op = .call { callee := .builtin .append, args := #[s, x], argTypes := #[ty, ty] }) (ht : P.underlying ty = some (.slice ety)) (he : Elt P ety sz by_)
    (hs : DLe (.sref t) (σ.ev s)) (hb : getT σ.T t = .rows true ety sz rs) (hx : DLe (.list sz rows) (σ.ev x)) (hl : (rs.length + rows.length) * by_ ≤ 140737488355328) (hn : dstB n o.dst = true) :
    OpOk P n o σ (St.put ⟨σ.fr, (t, .none) :: σ.T⟩ o.dst (.list sz (rs ++ rows))) := by
  refine .step hn fun cx ι β a w hi hr => ?_
  have hss : R ι w (rho β σ.T) (.sref t) (a.eval s) := hs.r (hr s)
  have hxx : R ι w (rho β σ.T) (.list sz rows) (a.eval x) := hx.r (hr x)
  obtain ⟨v, w', ι', y, tb, h1, h2, h3, h4, h5, h6⟩ := append_ex (P := P) (σ := ⟨[(0, .sref t), (1, .list sz rows)], σ.T⟩) (o := { o with op := .call { callee := .builtin .append, args := #[.tmp 0, .tmp 1], argTypes := #[ty, ty] } }) (s := .tmp 0) (x := .tmp 1) (rows := rows) rfl ht he rfl hb hl
    (list_ex rfl) (a := ⟨#[a.eval s, a.eval x], []⟩) hi (fun q => by
      cases q with
      | tmp q =>
        match q with
        | 0 => exact hss
        | 1 => exact hxx
        | q + 2 => exact .junk _
      | const v => exact .v v
      | func f => exact .pu (.clo f [] #[] rfl (fun k d x h => by simp at h))
      | global g => exact .junk _)
  have hvy : v = y := by
    have := h6.ref_inv rfl
    simp only [rho, getT_cons_same, upd_same] at this
    exact this
  have hone := h6.ref_one rfl
  subst hvy
  obtain ⟨xs, hown, hrs, hx1, hxR, hfree⟩ := h4
  have sub : ∀ b o, ι b o → ι' b o ∨ (blockOf v = some b ∧ o < (rs ++ rows).length * sz) := fun b o h => .inl (h2.sub b o h)
  refine ⟨v, w', fun b o => ι' b o ∨ (blockOf v = some b ∧ o < (rs ++ rows).length * sz), β, ?_, ?_, fun s y hy => hy.mono sub h2.cell (fun d x h => rho_gone h), .pu ?_⟩
  · have e0 : Act.eval ⟨#[a.eval s, a.eval x], []⟩ (.tmp 0) = a.eval s := rfl
    have e1 : Act.eval ⟨#[a.eval s, a.eval x], []⟩ (.tmp 1) = a.eval x := rfl
    simp [execOp, resolve, e0, e1] at h1
    simp [execOp, ho, resolve]
    exact h1
  · refine hi.multi (fun u => u = t) (fun b => blockOf (β t) = some b ∧ getT σ.T t ≠ .none) (fun b hb => ⟨t, rfl, hb.2, hb.1⟩) h2.os h2.tape h2.output h2.size
      (fun k hk hW => h2.kept k hk (fun e => hW (h3 k e.symm))) sub (fun b o hb => ?_) h2.cell (fun v _ => rfl) (fun v hv => .inr (getT_cons_other hv)) (fun v e cs _ _ _ d _ y hd => hd.mono sub h2.cell (fun d x h => rho_gone h)) ?_ ?_ ?_
    · rcases hb with hb | hb
      · exact (h2.new b o hb).imp id (.imp id (fun e => h3 b e.symm))
      · rcases h5 b hb.1 with h | h
        · refine .inr (.inl ⟨h, ?_⟩)
          exact (hown.lt b (by
            have h := hb.1
            rcases hown.2 with ⟨h', _⟩ | ⟨gb, cap, cur, h', _⟩
            · rw [h'] at h; cases h
            · rw [h'] at h ⊢; exact h)).2
        · exact .inr (.inr h)
    · rintro u rfl; rw [getT_cons_same]; trivial
    · rintro u b rfl _; exact .inl (getT_cons_same ..)
    · rintro u v b rfl rfl hne; exact absurd rfl hne
  · rcases hown.2 with ⟨h, h0⟩ | ⟨gb, cap, cur, h, _, hg, hnc, _⟩
    · rw [h]
      have : rs ++ rows = [] := List.eq_nil_of_length_eq_zero h0
      rw [this]
      exact .listNil _ none 0 (fun _ => rfl)
    · rw [h]
      refine .list sz (rs ++ rows) gb 0 cap (fun k => (xs[k]?).getD undef) hnc hrs (fun k hk => ?_) (fun k d hd => ?_)
      · have hk' : xs[k]? = some (xs[k]'(by rw [hown.1]; exact hk)) := List.getElem?_eq_getElem _
        have hc := hown.cells (g := gb) (by rw [h]; rfl) _ _ hk'
        rw [Addr.add_lit] at hc
        exact ⟨by rw [hc, hk']; rfl, by rw [hk']; exact hx1 _ (List.mem_of_getElem? hk'), .inr ⟨rfl, by omega⟩⟩
      · have hk : k < xs.length := by rw [hown.1, ← flatten_len hrs]; exact (List.getElem?_eq_some_iff.1 hd).1
        have hk' : xs[k]? = some (xs[k]'hk) := List.getElem?_eq_getElem _
        rw [hk']
        exact (hxR _ _ _ hd hk').mono (fun _ _ h => .inl h) (fun _ _ _ => rfl)
theorem It2.appendF {α : Type} {all : Array Oper} {fr : List (Nat × D)} {rd : List (Nat × Ob)} {s x : Operand} {ty ety sz by_ t : Nat} {e : α → List D} {xs ys : List α} (hg : o.guard = none) (ho : o.op = .call { callee := .builtin .append, args := #[s, x], argTypes := #[ty, ty] }) (ht : P.underlying ty = some (.slice ety)) (he : Elt P ety sz by_)
    (hs : St.ev ⟨fr, []⟩ s = .sref t) (hb : getT rd t = .rows true ety sz (xs.map e)) (hrd : rd.any (fun p => Nat.beq p.1 t) = true) (hx : St.ev ⟨fr, []⟩ x = L sz e ys) (hl : (xs.length + ys.length) * by_ ≤ 140737488355328) (hn : dstB n o.dst = true) :
    ItOk P n all o ⟨true, fr, rd, L sz e (xs ++ ys), [(t, .none)], false, []⟩ :=
  ⟨hn, by simp only [gd2, hg], fun _ σ h1 h2 _ => by
    have hb' : getT σ.T t = .rows true ety sz (xs.map e) := by
      rw [← hb]; exact rd_get h2 hrd
    have hx' : DLe (.list sz (ys.map e)) (σ.ev x) := by have h := ev_le (T := []) h1 x; rw [hx] at h; exact h
    have := OpOk.appendF (P := P) (n := n) (σ := σ) ho ht he (hs ▸ ev_le (T := []) h1 s) hb' hx' (by simpa using hl) hn
    rwa [← List.map_append] at this, fun h => by cases h⟩
end
end Go.Proofs.Vx
