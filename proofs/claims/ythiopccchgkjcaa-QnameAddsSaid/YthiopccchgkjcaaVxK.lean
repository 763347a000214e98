/- Texts and bytes; calls that only look at a list that may yet change. -/
import Derived.Test.YthiopccchgkjcaaVxJ
import Derived.Laws.BytesArg
import Derived.Lib.ConvBytes
namespace Go.Proofs.Vx
open Go Go.RowKit
set_option linter.unusedSectionVars false
variable [Glo]

def eByte (n : Int) : List D := [.v (.int .u8 n)]
def bytesOfStr (s : List UInt8) : List Int := s.map fun c => (c.toNat : Int)
def strOfBytes (l : List Int) : List UInt8 := l.map fun n => UInt8.ofNat n.toNat
theorem pu_v {ι w} {x y : Value} (h : Pu ι w (.v x) y) : y = x := (R.pu (ρ := fun _ _ => False) h).v_inv
theorem eByte_flat (xs : List Int) : (xs.map eByte).flatten = xs.map fun n => D.v (.int .u8 n) := by
  induction xs with
  | nil => rfl
  | cons x xs ih => simp [eByte, ih]

section
variable {P : Program} {n : Nat} {o : Oper} {σ : St}
theorem VOk.bytesStr {src dst e : TypeId} {x : Operand} {xs : List Int} (ho : o.op = .convert src dst x) (hs : P.underlying src = some (.slice e)) (he : P.underlying e = some (.int .u8)) (hd : P.underlying dst = some .string) (hx : σ.ev x = L 1 eByte xs) : VOk P o σ (S (strOfBytes xs)) :=
  fun _ _ _ a w _ hr => by
    have hxx := hr x
    rw [hx] at hxx
    obtain ⟨A, cap, hv, hcap, hA, hsp, hsz, f, hc, hf⟩ := hxx.list_inv
    rw [List.length_map] at hv hc
    refine ⟨.string (ba (strOfBytes xs)), ?_, .v _⟩
    cases A with
    | none =>
      have h0 := hA rfl
      have : xs = [] := List.eq_nil_of_length_eq_zero (by rw [List.length_map] at hcap; omega)
      subst this
      simp [execOp, ho, hv, run_convert_bytes_nil w src e hs he _ _ dst hd]
      rfl
    | some ad =>
      by_cases hn : xs = []
      · subst hn
        have hl : (loadCells ad 0).run P w = .ok #[] w := by
          simpa using run_loadCells_list (P := P) w ad [] (fun j v h => by simp at h)
        simp only [execOp, ho, hv, Sem.run_bind, List.length_nil, run_convert_bytes_string w src dst e _ 0 cap hs he hd, run_bytesToString w _ 0 cap [] hl, Result.andThen_ok, Sem.run_pure]
        rfl
      obtain ⟨b, off, spot⟩ := ad
      obtain rfl : spot = none := hsp _ rfl (by simpa using hn)
      have := run_convert_bytes_arg (P := P) w src e hs he b off xs.length cap xs rfl (fun i hi => by
        rw [(hc _ rfl i (by omega)).1]
        have h1 : (xs.map eByte).flatten[i]? = some (.v (.int .u8 (xs.getD i 0))) := by rw [eByte_flat]; simp [hi]
        rw [pu_v (hf i _ h1)]) dst hd
      simp only [execOp, ho, hv, Sem.run_bind, this, Result.andThen_ok, Sem.run_pure]
      rfl
theorem GOk.strBytes {src dst e : TypeId} {x : Operand} {s : List UInt8} (ho : o.op = .convert src dst x) (hs : P.underlying src = some .string) (hd : P.underlying dst = some (.slice e)) (he : P.underlying e = some (.int .u8)) (hx : σ.ev x = S s) : GOk P o σ (L 1 eByte (bytesOfStr s)) := by
  intro cx ι β a w next Q hi hr hk
  have hv : a.eval x = .string (ba s) := by have := hr x; rw [hx] at this; exact this.v_inv
  have hrun := Lib.run_convert_string_bytes (P := P) w src dst e (ba s) hs hd he
  have hrun' : (execOp a.eval o).run P w = .ok (.value (.slice (some ⟨w.heap.size, 0, none⟩) (ba s).size (grownCap w (ba s).size 0 e))) (Lib.bytesWorld w e (ba s)) := by
    simp only [execOp, ho, hv, Sem.run_bind, hrun, Result.andThen_ok, Sem.run_pure]
  unfold Oper.wp
  rw [hrun']
  have hcell : ∀ b o, ι b o → (Lib.bytesWorld w e (ba s)).cell? ⟨b, o, none⟩ = w.cell? ⟨b, o, none⟩ := fun b o hb => Lib.bytesWorld_old w e _ _ (hi.lt b o hb)
  refine hk _ (Lib.bytesWorld w e (ba s)) (fun b o => ι b o ∨ (b = w.heap.size ∧ o < s.length)) (hi.grow rfl rfl rfl (by rw [Lib.bytesWorld_size]; omega) (fun k hk => Lib.bytesWorld_at_old w e _ k hk) (fun _ _ h => .inl h) (fun b o h => h.imp id (fun h => by rw [Lib.bytesWorld_size]; omega))) (fun _ _ h => .inl h) hcell (.pu ?_)
  have hlen : ((bytesOfStr s).map eByte).length = s.length := by simp [bytesOfStr]
  have := Pu.list (ι := fun b o => ι b o ∨ (b = w.heap.size ∧ o < s.length)) (w := Lib.bytesWorld w e (ba s)) 1 ((bytesOfStr s).map eByte) w.heap.size 0 (grownCap w (ba s).size 0 e) (fun k => .int .u8 ((s.getD k 0).toNat : Int))
    (by rw [hlen]; have := grownCap_ge w (ba s).size 0 e; simpa using this) (fun r hr => by obtain ⟨m, _, rfl⟩ := List.mem_map.1 hr; rfl) (fun k hk => by
      rw [hlen] at hk
      refine ⟨?_, rfl, .inr ⟨rfl, by omega⟩⟩
      rw [Nat.zero_add, Lib.bytesWorld_cell w e (ba s) k (by simp; omega)]; rfl) (fun k d hd => by
      rw [eByte_flat] at hd
      simp only [bytesOfStr, List.map_map, List.getElem?_map, Option.map_eq_some_iff] at hd
      obtain ⟨c, hc, rfl⟩ := hd
      have : s.getD k 0 = c := by simp [List.getD, hc]
      rw [this]; exact .v _)
  rw [hlen] at this
  simpa [L] using this

end
end Go.Proofs.Vx
