/- Scopes: jumps to labels that lie further on. -/
import Derived.Test.YtkiikmejjcmafaaVxY
import Derived.ScopeJumps
namespace Go.Proofs.Vx
open Go Go.RowKit

/-! Each entry as it stands. -/
theorem leFr.rf {fr : List (Nat × D)} : ∀ {fr' : List (Nat × D)}, (fr'.map fun p => get fr p.1) = fr'.map (·.2) → leFr fr' fr
  | [], _ => trivial
  | p :: r, h => by
    simp only [List.map_cons, List.cons.injEq] at h
    exact ⟨h.1 ▸ .same _, leFr.rf h.2⟩
theorem leT.rf {T : List (Nat × Ob)} : ∀ {T' : List (Nat × Ob)}, (T'.map fun p => getT T p.1) = T'.map (·.2) → leT T' T
  | [], _ => trivial
  | p :: r, h => by
    simp only [List.map_cons, List.cons.injEq] at h
    exact ⟨h.1 ▸ .same _, leT.rf h.2⟩
theorem Le.rf {fr fr' : List (Nat × D)} {T T' : List (Nat × Ob)} (h : (fr'.map fun p => get fr p.1) = fr'.map (·.2)) (hT : (T'.map fun p => getT T p.1) = T'.map (·.2)) : Le ⟨fr', T'⟩ ⟨fr, T⟩ := .mk (.rf h) (.rf hT)

/-- One slot says no more than this. -/
theorem Le.one {fr : List (Nat × D)} {T : List (Nat × Ob)} {x : Nat} {w : D} (h : DLe w (get fr x)) : Le ⟨(x, w) :: fr, T⟩ ⟨fr, T⟩ := ⟨fun s => by
    show DLe (match Nat.beq x s with | true => w | false => get fr s) _
    cases hb : Nat.beq x s with
    | true => cases Nat.eq_of_beq_eq_true hb; exact h
    | false => exact .same _, fun _ => .same _⟩
/-- A plain step of a region. -/
theorem OpsOk.cv {P : Program} {n : Nat} {ops : Array Oper} {l : List Oper} {σ σ' : St} {o : Oper} {d : D} (h : VOk P o σ d) (hg : o.guard = none) (hn : dstB n o.dst = true) (hl : OpsOk P n ops l (σ.put o.dst d) σ') : OpsOk P n ops (o :: l) σ σ' := .cons hg (.v h hn) hl
theorem OpsOk.cg {P : Program} {n : Nat} {ops : Array Oper} {l : List Oper} {σ σ' : St} {o : Oper} {d : D} (h : GOk P o σ d) (hg : o.guard = none) (hn : dstB n o.dst = true) (hl : OpsOk P n ops l (σ.put o.dst d) σ') : OpsOk P n ops (o :: l) σ σ' := .cons hg (.g h hn) hl

/-- An empty literal that is to grow, in a region that draws. -/
theorem It2.litT0 {P : Program} {n : Nat} {all : Array Oper} {o : Oper} {fr : List (Nat × D)} {rd : List (Nat × Ob)} {ty ety sz : Nat} (t : Nat) (hg : o.guard = none) (ho : o.op = .buildSlice ty 0 #[]) (ht : P.underlying ty = some (.slice ety)) (hs : szOf P ety = some sz)
    (hz : (zeroOf P ety).map (fun z => z.cells.size) = some sz) (hn : dstB n o.dst = true) : ItOk P n all o ⟨true, fr, rd, .sref t, [(t, .rows true ety sz [])], true, []⟩ :=
  ⟨hn, by simp only [gd2, hg], fun _ σ _ _ _ => OpOk.litT (σ := σ) t rfl ho ht hs hz (by simp [seqB, Nat.ble]) rfl rfl rfl hn, fun h => by cases h⟩

end Go.Proofs.Vx
