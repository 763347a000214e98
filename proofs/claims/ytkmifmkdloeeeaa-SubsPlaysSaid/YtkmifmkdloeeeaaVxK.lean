/- Texts and bytes; calls that only look at a list that may yet change. -/
import Derived.Test.YtkmifmkdloeeeaaVxJ
import Derived.Laws.BytesArg
import Derived.Lib.ConvBytes
namespace Go.Proofs.Vx
open Go Go.RowKit
set_option linter.unusedSectionVars false
variable [Glo]

section
variable {P : Program} {n : Nat} {o : Oper} {σ : St}
def D.look (T : List (Nat × Ob)) : D → D
  | .sref t => match getT T t with | .rows _ _ sz rs => .list sz rs | _ => .junk
  | d => d
def D.plainB : D → Bool
  | .v _ => true
  | .tup ds => ds.all fun d => match d with | .v _ => true | _ => false
  | _ => false
theorem plainB_R {ι ι' : Nat → Nat → Prop} {w w' : World} {ρ ρ' : D → Value → Prop} {d : D} {x : Value} (h : R ι w ρ d x) (hp : d.plainB = true) : R ι' w' ρ' d x := by
  cases d with
  | v y => rw [h.v_inv]; exact .v _
  | tup ds =>
    obtain ⟨vs, rfl, hl, hg⟩ := h.tup_inv
    refine .tup ds vs hl (fun k d y hd hy => ?_)
    simp only [D.plainB, List.all_eq_true] at hp
    have := hp d (List.mem_of_getElem? hd)
    cases d with
    | v z => rw [(hg k _ y hd hy).v_inv]; exact .v _
    | _ => cases this
  | _ => cases hp
theorem GOk.callV {x : Operand} {args : Array Operand} {ts : Array TypeId} {f : Nat} {caps ds : List D} {r : D} (ho : o.op = .call { callee := .value x, args := args, argTypes := ts }) (hx : σ.ev x = .clo f caps)
    (hc : callable P f = true) (hds : ((args.toList.map σ.ev) ++ caps).map (D.look σ.T) = ds) (hf : Fn P f ds [] r []) (hr : r.plainB = true) : GOk P o σ r := by
  intro cx ι β a w next Q hi hev hk
  have hxx := hev x
  rw [hx] at hxx
  obtain ⟨vs, hv, hl, hg⟩ := hxx.clo_inv
  have hrun : (execOp a.eval o).run P w = .ok (.enter f (args.map a.eval ++ vs)) w := by
    simp [execOp, ho, resolve, hv, Deferred.ofValue, invoke, run_callFunc hc]
  unfold Oper.wp
  rw [hrun, Oper.upon_enter]
  subst hds
  -- for this call the cells of the lists that may yet change never change
  let ι1 : Nat → Nat → Prop := fun b o => ι b o ∨ b < w.heap.size
  have hW : ∀ b, ¬ Wof β ([] : List (Nat × Ob)) b := fun b ⟨t, h, _⟩ => h rfl
  have hinv : Inv ⟨w, Wof β [], ι1⟩ ι1 β [] w := ⟨hi.gl0 (fun _ => rfl), rfl, rfl, rfl, Nat.le_refl _, fun _ _ _ => rfl, fun _ _ h => h, fun _ _ h => .inl h, fun b o h => h.elim (hi.lt b o) id, fun _ => trivial, fun _ _ _ => .inl rfl, fun _ _ _ _ _ _ => .inl rfl⟩
  have hρ : ∀ d x, rho β σ.T d x → rho β [] d x := rho_mono fun t => .inl rfl
  have seen : ∀ {d : D} {y : Value}, R ι w (rho β σ.T) d y → R ι1 w (rho β []) (d.look σ.T) y := by
    intro d y h
    have h1 : R ι1 w (rho β []) d y := h.mono (fun _ _ h => .inl h) (fun _ _ _ => rfl) hρ
    cases d with
    | sref t =>
      simp only [D.look]
      have hrho := h.ref_inv rfl
      simp only [rho] at hrho
      split at hrho
      · rename_i e ety sz rs hb
        rw [hb]
        subst hrho
        obtain ⟨xs, hown, hrs, hx1, hxR, _⟩ := rows_at hi hb
        rcases hown.2 with ⟨h, h0⟩ | ⟨gb, cap, cur, h, _, hgb, hnc, _⟩
        · rw [h]
          have : rs = [] := List.eq_nil_of_length_eq_zero h0
          subst this
          exact .pu (.listNil _ none 0 (fun _ => rfl))
        · rw [h]
          refine .pu (.list sz rs gb 0 cap (fun k => (xs[k]?).getD undef) hnc hrs (fun k hk => ?_) (fun k d hd => ?_))
          · have hk' : xs[k]? = some (xs[k]'(by rw [hown.1]; exact hk)) := List.getElem?_eq_getElem _
            have hc := hown.cells (g := gb) (by rw [h]; rfl) _ _ hk'
            rw [Addr.add_lit] at hc
            exact ⟨by rw [hc, hk']; rfl, by rw [hk']; exact hx1 _ (List.mem_of_getElem? hk'), .inr (Array.getElem?_eq_some_iff.1 hgb).1⟩
          · have hk : k < xs.length := by rw [hown.1, ← flatten_len hrs]; exact (List.getElem?_eq_some_iff.1 hd).1
            have hk' : xs[k]? = some (xs[k]'hk) := List.getElem?_eq_getElem _
            rw [hk']
            exact (hxR _ _ _ hd hk').mono (fun _ _ h => .inl h) (fun _ _ _ => rfl)
      · rename_i hb; rw [hb]; exact .junk _
      · rename_i hb; rw [hb]; exact .junk _
      · exact hrho.elim
    | _ => exact h1
  refine (hf w ι1 β _ hinv (by simp [hl]) (fun k d y hd hy => ?_)).mono ?_
  · rw [List.getElem?_map, Option.map_eq_some_iff] at hd
    obtain ⟨d0, hd, rfl⟩ := hd
    by_cases hk : k < args.size
    · rw [List.getElem?_append_left (by simpa using hk), List.getElem?_map] at hd
      rw [Array.getElem?_append_left (by simpa using hk)] at hy
      simp [hk] at hd hy
      subst hd; subst hy
      exact seen (hev _)
    · rw [List.getElem?_append_right (by simpa using Nat.le_of_not_lt hk)] at hd
      rw [Array.getElem?_append_right (by simpa using Nat.le_of_not_lt hk)] at hy
      simp at hd hy
      exact seen (hg _ _ _ hd hy)
  · rintro e w' ⟨v, ι', β', rfl, hi', hres⟩
    have hi2 : Inv cx ι β σ.T w' := hi.grow hi'.os hi'.tape hi'.output hi'.size (fun k hk => hi'.kept k hk (hW k)) (fun _ _ h => h) (fun _ _ h => .inl h)
    exact hk v w' ι hi2 (fun _ _ h => h) (fun b o hb => World.cell?_of_block (w := w) (hi'.kept b (hi.lt b o hb) (hW b))) (plainB_R hres hr)
end
end Go.Proofs.Vx
