/- Proved here: documents of services are decoded as the document says. -/
import Derived.Test.YtannhioamkkdnaaPureF
namespace Go.Proofs.Ytannhioamkkdnaa.Pure
open Go Go.RowKit Go.Proofs.Vx Go.Proofs.Ytannhioamkkdnaa.Sh
set_option linter.unusedSimpArgs false
set_option linter.unusedVariables false

def dstS : List Str → List T_api_Service → Bool
  | _, [] => true
  | seen, x :: l => !(seen.contains x.URI) && dstS (seen ++ [x.URI]) l
theorem keq9_iff (a b : Str) : keq9 a b = true ↔ a = b := by simp [keq9]
theorem dst_l (k : Nat) (l : List T_api_Service) (h9 : l.length ≤ 2000000000) : ∀ (m i : Nat) (y : List (Str × Bool)) (seen : List Str), i ≤ l.length → l.length < i + m → (∀ p, lkm keq9 false y p = seen.contains p) →
    services_distinct.l0 k l m y (i : Int) = some (dstS seen (l.drop i)) := by
  intro m
  induction m with
  | zero => intro i y seen h1 h2; omega
  | succ m ih =>
    intro i y seen h1 h2 h3
    unfold services_distinct.l0
    by_cases hi : i < l.length
    · have ih1 := ih (i + 1) (upm keq9 y (rd l (i : Int)).URI true) (seen ++ [(rd l (i : Int)).URI]) (by omega) (by omega) (fun p => by
        rw [lkm_upm keq9_iff, h3]
        by_cases hp : p = (rd l (i : Int)).URI
        · rw [if_pos ((keq9_iff _ _).2 hp), hp]; simp
        · rw [if_neg (fun h => hp ((keq9_iff _ _).1 h)), Bool.eq_iff_iff]; simp [hp])
      rw [if_pos (by simp; omega), if_pos (by omega), h3, wi (by omega), ih1, rd_drop hi, dstS]
      cases seen.contains (rd l (i : Int)).URI <;> simp
    · rw [if_neg (by simp; omega), List.drop_of_length_le (by omega)]; simp [dstS]
theorem dst_eq (k : Nat) (hk : 3000000000 ≤ k) (l : List T_api_Service) (h9 : l.length ≤ 2000000000) : services_distinct k l = some (dstS [] l) := by
  have := dst_l k l h9 k 0 [] [] (by omega) (by omega) (fun p => by simp [lkm])
  simpa [services_distinct] using this
def findS (l : List T_api_Service) (u : Str) : T_api_Service × Bool := match l.find? fun x => x.URI == u with | some x => (x, true) | none => (noV, false)
theorem find_l (k : Nat) (l : List T_api_Service) (u : Str) (h9 : l.length ≤ 2000000000) (z0 : Str) (z1 : List T_api_Entry) (z2 : Bool) (z3 : Str) (z4 : List Str) : ∀ (m i : Nat), i ≤ l.length → l.length < i + m → services_Find.l0 k l u m z0 z1 z2 z3 z4 (i : Int) = some (findS (l.drop i) u) := by
  intro m
  induction m with
  | zero => intro i h1 h2; omega
  | succ m ih =>
    intro i h1 h2
    unfold services_Find.l0
    by_cases hi : i < l.length
    · rw [if_pos (by simp; omega), if_pos (by omega), wi (by omega), ih (i + 1) (by omega) (by omega), rd_drop hi]
      unfold findS
      rw [List.find?_cons]
      cases (rd l (i : Int)).URI == u <;> simp
    · rw [if_neg (by simp; omega), List.drop_of_length_le (by omega)]; rfl
theorem find_eq (k : Nat) (hk : 3000000000 ≤ k) (l : List T_api_Service) (u : Str) (h9 : l.length ≤ 2000000000) : services_Find k l u = some (findS l u) := by
  have := find_l k l u h9 [] [] false [] [] k 0 (by omega) (by omega)
  simpa [services_Find] using this
theorem awake : watchbilllaw17_awake 9000000000 = some true := by kernel_rfl
end Go.Proofs.Ytannhioamkkdnaa.Pure
