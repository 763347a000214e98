/- Texts and bytes; calls that only look at a list that may yet change. -/
import Derived.Test.YtgdkiigjooeinaaDoorVxJ
import Derived.Laws.BytesArg
import Derived.Lib.ConvBytes
namespace Go.Proofs.Vx
open Go Go.RowKit
set_option linter.unusedSectionVars false
variable [Glo]

def eByte (n : Int) : List D := [.v (.int .u8 n)]
def strOfBytes (l : List Int) : List UInt8 := l.map fun n => UInt8.ofNat n.toNat
theorem pu_v {ι w} {x y : Value} (h : Pu ι w (.v x) y) : y = x := (R.pu (ρ := fun _ _ => False) h).v_inv
theorem eByte_flat (xs : List Int) : (xs.map eByte).flatten = xs.map fun n => D.v (.int .u8 n) := by
  induction xs with
  | nil => rfl
  | cons x xs ih => simp [eByte, ih]

section
variable {P : Program} {n : Nat} {o : Oper} {σ : St}
theorem VOk.bytesStr {src dst e : TypeId} {x : Operand} {xs : List Int} (ho : o.op = .convert src dst x) (hs : P.underlying src = some (.slice e)) (he : P.underlying e = some (.int .u8)) (hd : P.underlying dst = some .string) (hx : σ.ev x = L 1 eByte xs) : VOk P o σ (S (strOfBytes xs)) :=
  fun _ _ _ a w _ hr => by
    have hxx := hr x
    rw [hx] at hxx
    obtain ⟨A, cap, hv, hcap, hA, hsp, hsz, f, hc, hf⟩ := hxx.list_inv
    rw [List.length_map] at hv hc
    refine ⟨.string (ba (strOfBytes xs)), ?_, .v _⟩
    cases A with
    | none =>
      have h0 := hA rfl
      have : xs = [] := List.eq_nil_of_length_eq_zero (by rw [List.length_map] at hcap; omega)
      subst this
      simp [execOp, ho, hv, run_convert_bytes_nil w src e hs he _ _ dst hd]
      rfl
    | some ad =>
      by_cases hn : xs = []
      · subst hn
        have hl : (loadCells ad 0).run P w = .ok #[] w := by
          simpa using run_loadCells_list (P := P) w ad [] (fun j v h => by simp at h)
        simp only [execOp, ho, hv, Sem.run_bind, List.length_nil, run_convert_bytes_string w src dst e _ 0 cap hs he hd, run_bytesToString w _ 0 cap [] hl, Result.andThen_ok, Sem.run_pure]
        rfl
      obtain ⟨b, off, spot⟩ := ad
      obtain rfl : spot = none := hsp _ rfl (by simpa using hn)
      have := run_convert_bytes_arg (P := P) w src e hs he b off xs.length cap xs rfl (fun i hi => by
        rw [(hc _ rfl i (by omega)).1]
        have h1 : (xs.map eByte).flatten[i]? = some (.v (.int .u8 (xs.getD i 0))) := by rw [eByte_flat]; simp [hi]
        rw [pu_v (hf i _ h1)]) dst hd
      simp only [execOp, ho, hv, Sem.run_bind, this, Result.andThen_ok, Sem.run_pure]
      rfl
end
end Go.Proofs.Vx
