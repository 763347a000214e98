/- Proved here: fields printed, by the program and by the document: the law FieldPrints. -/
import Derived.Test.YtpdhjbjkakpejaaDoorPureA
namespace Go.Proofs.YtpdhjbjkakpejaaDoor.Pure
open Go Go.RowKit Go.Proofs.Vx Go.Proofs.YtpdhjbjkakpejaaDoor.Sh

def pcs (c : UInt8) : Str → List Str
  | [] => [[]]
  | b :: r => if b = c then [] :: pcs c r else match pcs c r with | [] => [[b]] | h :: t => (b :: h) :: t
theorem cut_at (c : UInt8) (s : Str) : c ∉ s ∨ ∃ p q, s = p ++ c :: q ∧ c ∉ p := by
  by_cases h : c ∈ s
  · right
    induction s with
    | nil => simp at h
    | cons b s ih =>
      by_cases hb : b = c
      · subst hb; exact ⟨[], s, rfl, by simp⟩
      · obtain ⟨p, q, e, hp⟩ := ih (by simpa [Ne.symm hb] using h)
        exact ⟨b :: p, q, by rw [e]; rfl, by simp [Ne.symm hb, hp]⟩
  · exact .inl h
def wds (v : Str) : List Str := if v = [] then [] else pcs 32 v
def wok (v : Str) : Bool := (wds v).all (alp vis)
def brk (any : Bool) (n : Nat) (w : Str) : Bool := any && decide (76 < n + 1 + w.length)
def nl (any : Bool) (n : Nat) (w : Str) : Nat := (if brk any n w = true then 0 else n) + 1 + w.length
def crl (any : Bool) (n : Nat) (w : Str) : Str := if brk any n w = true then [13, 10] else []
def fl : Bool → Nat → List Str → Option Str
  | _, _, [] => some []
  | any, n, w :: ws => if 998 < nl any n w then none else (fl true (nl any n w) ws).map (crl any n w ++ 32 :: w ++ ·)
theorem awake : watchbilllaw07_awake 2100000 = some true := by kernel_rfl
end Go.Proofs.YtpdhjbjkakpejaaDoor.Pure
