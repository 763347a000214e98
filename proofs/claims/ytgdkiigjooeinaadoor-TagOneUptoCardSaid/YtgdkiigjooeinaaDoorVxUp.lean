/- An argument that is a list of texts, with the bound of the second form of a statement: what a measure of its reading says of its texts. -/
import Derived.Test.YtgdkiigjooeinaaDoorVxO
import Derived.Deep.DeepHandedRow
import Derived.LaidLaws
namespace Go.Proofs.Vx
open Go Go.RowKit
set_option linter.unusedSectionVars false
variable [Glo]

theorem Opn.strs {P : Program} {t e : TypeId} (ht : P.underlying t = some (.slice e)) (he : P.underlying e = some .string) (hc : P.cellsOf e = 1) {H : Type} {enc : TypeId × Value → H} {w : World} {v : Value} {d : DataW H} {ps : List MemPlace} (hd : DataW.Trod enc P w 0 (fun _ => true) true t v d ps) (hv : v.cells.toList = [v]) :
    ∃ y : List (List UInt8), (∀ x, eL 1 eS y = [x] → Pu (io w) w x v) ∧ shL (eL 1 eS y) = true ∧
      ∀ (B : DataW H → Nat), (∀ s, s.length ≤ B (.lit (.string s))) → (∀ elems spare, ∀ x ∈ elems, B x ≤ B (.slice elems spare)) → ∀ s ∈ y, s.length ≤ B d := by
  obtain ⟨y, hy, hs⟩ := Opn.arg (fun n => Opn.slice (sz := 1) ht hc (by decide) (fun k _ => Opn.str he k)) hd hv
  refine ⟨y, hy, hs, fun B b1 b2 s hsm => ?_⟩
  have hp : Pu (io w) w (.list 1 (y.map eS)) v := hy _ rfl
  obtain ⟨n, hn⟩ := hd
  rw [hv] at hn
  obtain ⟨i, hi⟩ := List.getElem?_of_mem hsm
  have hil := (List.getElem?_eq_some_iff.1 hi).1
  generalize hrw : y.map eS = rows at hp
  cases hp with
  | listNil sz A cap h =>
    have : y = [] := List.map_eq_nil_iff.1 hrw
    subst this
    cases hsm
  | list sz rows b off cap f hnn hsz hcc hr =>
    have hlen : rows.length = y.length := by rw [← hrw, List.length_map]
    rcases DataW.trod_slice ht hn with ⟨h1, _⟩ | ⟨a, len, cap', elems, rest, m, rfl, h1, hx, _, _, _, hel, hcs, _, _⟩
    · simp at h1
    · simp only [List.cons.injEq, Value.slice.injEq, Option.some.injEq, and_true] at h1
      obtain ⟨rfl, rfl, rfl⟩ := h1
      have hie : i < elems.length := by omega
      have h2 := hcs i (by omega)
      rw [List.getElem?_eq_getElem hie, hc, Option.bind_eq_some_iff] at h2
      obtain ⟨cs', h3, h4⟩ := h2
      obtain ⟨s', rfl, hx', _⟩ := DataW.trod_string he h4
      have h5 : w.cell? ⟨b, off + i, none⟩ = some (.string s') := by
        simp only [World.cells?, Nat.zero_le, if_true] at h3
        have := mapM_some_get h3 0 0 (by simp)
        rw [Addr.add_lit, Addr.add_lit, Nat.mul_one, Nat.add_zero] at this
        rw [this]; rfl
      have h6 := (hcc i (by omega)).1
      rw [h5] at h6
      have h7 : rows.flatten[i]? = some (S s) := by
        have hrow : rows[i]? = some (eS s) := by rw [← hrw, List.getElem?_map, hi]; rfl
        have := flatten_at (sz := 1) hsz i _ hrow 0 (by decide)
        simpa [eS] using this
      have h8 := hr i _ h7
      have h9 : f i = .string (ba s) := by
        have : Pu (io w) w (.v (.string (ba s))) (f i) := h8
        generalize f i = z at this
        cases this
        rfl
      rw [h9] at h6
      have hss : s' = ba s := by simpa using h6
      have hd2 : d = .slice (elems.map (·.1)) (rest.map (·.1)) := by
        have := congrArg Prod.fst hx
        exact this
      rw [hd2]
      refine Nat.le_trans (b1 s) (b2 _ _ _ (List.mem_map.2 ⟨elems[i], List.getElem_mem hie, ?_⟩))
      rw [hx', hss]
      rfl
theorem row_witness {H : Type} {enc : TypeId × Value → H} {C : Checked} {os : Os} {f : FuncId} {fn : Func} {s : OpenSpec} {conds : List PathCond} {apart : Bool} {laid : List (String × DataW Unit)} (modest : Bool) (w0 : World) (args : Array Value) (hos : w0.os = os)
    (hsh : (w0.forCall (fun _ _ => 0) ⟨#[], args, []⟩).Shaped C.prog)
    (hok : Input.okWideB C.prog (w0.forCall (fun _ _ => 0) ⟨#[], args, []⟩) f ⟨#[], args, []⟩ = true)
    (hrow : s.preRow enc C.prog fn conds apart laid (w0.forCall (fun _ _ => 0) ⟨#[], args, []⟩).memory args) :
    ∃ (w : World) (tape : Tape) (i : Input), w.os = os ∧ (w.forCall tape i).Shaped C.prog ∧ i.vars = [] ∧ Input.okWide C.prog (w.forCall tape i) .any w.heap.size f i ∧
      s.preRow enc C.prog fn conds apart laid (w.forCall tape i).memory i.args ∧ ({ modest := modest } : Assume).holds C.prog (lone (Frame.enter C.prog f i.args .normal) [] (w.forCall tape i)) :=
  ⟨w0, fun _ _ => 0, ⟨#[], args, []⟩, hos, hsh, (Input.okWide_of_okWideB (base := 0) hok).1, (Input.okWide_of_okWideB hok).2, hrow, by
    simp only [Assume.holds]
    exact ⟨by simp, by simp, fun _ => Modest.zero, by simp, by simp⟩⟩
end Go.Proofs.Vx
