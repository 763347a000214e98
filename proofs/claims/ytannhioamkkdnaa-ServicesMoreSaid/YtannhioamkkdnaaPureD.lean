/- Proved here: lists told; what must be unique. -/
import Derived.Test.YtannhioamkkdnaaPureC
namespace Go.Proofs.Ytannhioamkkdnaa.Pure
open Go Go.RowKit Go.Proofs.Vx Go.Proofs.Ytannhioamkkdnaa.Sh
set_option linter.unusedSimpArgs false
set_option linter.unusedVariables false

def keyE (x : T_api_Entry) : Int × Str := (x.Kind, if x.Kind = 2 then x.Name else x.URI)
mutual
def uqE : T_api_Entry → Bool
  | .mk _ _ _ l => uqF [] l
def uqF : List (Int × Str) → List T_api_Entry → Bool
  | _, [] => true
  | seen, x :: l => !(seen.contains (keyE x)) && (uqE x && uqF (seen ++ [keyE x]) l)
end
theorem uqE_eq (x : T_api_Entry) : uqE x = uqF [] x.List_ := by cases x; rw [uqE]
mutual
def wE : T_api_Entry → Nat
  | .mk _ _ _ l => 1 + wEL l
def wEL : List T_api_Entry → Nat
  | [] => 0
  | x :: l => wE x + wEL l
end
theorem wE_eq (x : T_api_Entry) : wE x = 1 + wEL x.List_ := by cases x; rw [wE]
theorem wE_pos (x : T_api_Entry) : 1 ≤ wE x := by rw [wE_eq]; omega
theorem wEL_len : ∀ l : List T_api_Entry, l.length ≤ wEL l
  | [] => by simp [wEL]
  | x :: l => by have := wEL_len l; have := wE_pos x; rw [wEL]; simp; omega
theorem wEL_mem {l : List T_api_Entry} {x : T_api_Entry} (h : x ∈ l) : wE x ≤ wEL l := by
  induction l with
  | nil => cases h
  | cons m l ih =>
    rw [wEL]
    rcases List.mem_cons.1 h with rfl | h
    · omega
    · have := ih h; omega
theorem wEL_list {l : List T_api_Entry} {x : T_api_Entry} (h : x ∈ l) : wEL x.List_ < wEL l := by have := wEL_mem h; rw [wE_eq] at this; omega
theorem lkm_upm {α β : Type} {keq : α → α → Bool} (hq : ∀ a b, keq a b = true ↔ a = b) (z : β) (m : List (α × β)) (k : α) (v : β) (n : α) : lkm keq z (upm keq m k v) n = if keq n k = true then v else lkm keq z m n := by
  induction m with
  | nil => simp [upm, lkm]
  | cons p m ih =>
    simp only [upm]
    by_cases h : keq k p.1 = true
    · rw [if_pos h]
      have e := (hq _ _).1 h
      simp only [lkm]
      by_cases h2 : keq n k = true
      · simp [h2]
      · rw [if_neg h2, if_neg h2, if_neg (by rw [← e]; exact h2)]
    · rw [if_neg h]
      simp only [lkm]
      by_cases h2 : keq n p.1 = true
      · rw [if_pos h2, if_pos h2]
        have e := (hq _ _).1 h2
        have : keq n k ≠ true := fun h3 => h (by rw [← e, ← (hq _ _).1 h3]; exact (hq _ _).2 rfl)
        rw [if_neg this]
      · rw [if_neg h2, if_neg h2]; exact ih
theorem keq_iff (a b : T_lists_key) : keq104 a b = true ↔ a = b := by cases a; cases b; simp [keq104]
def kOf (p : Int × Str) : T_lists_key := ⟨p.1, p.2⟩
theorem luq_loop (k : Nat) (self : List T_api_Entry → Option Bool) (l : List T_api_Entry) (hl : ∀ x ∈ l, self x.List_ = some (uqF [] x.List_)) (h9 : l.length ≤ 2000000000) : ∀ (m i : Nat) (y : List (T_lists_key × Bool)) (seen : List (Int × Str)), i ≤ l.length → l.length < i + m → (∀ p, lkm keq104 false y (kOf p) = seen.contains p) →
    lists_unique.l0 k self l m y (i : Int) = some (uqF seen (l.drop i)) := by
  intro m
  induction m with
  | zero => intro i y seen h1 h2; omega
  | succ m ih =>
    intro i y seen h1 h2 h3
    unfold lists_unique.l0
    by_cases hi : i < l.length
    · have hs := hl _ (rd_mem hi)
      rw [if_pos (by simp; omega), if_pos (by omega), rd_drop hi, uqF, uqE_eq]
      have hj : ∀ s, s = (keyE (rd l (i : Int))).2 → lists_unique.j1 self (lists_unique.l0 k self l m) l y (i : Int) s = some (!(seen.contains (keyE (rd l (i : Int)))) && (uqF [] (rd l (i : Int)).List_ && uqF (seen ++ [keyE (rd l (i : Int))]) (l.drop (i + 1)))) := by
        intro s hse
        unfold lists_unique.j1
        have hk : (T_lists_key.mk ((T_lists_key.mk ((rd l (i : Int)).Kind) ((rd l (i : Int)).URI)).Kind_) s) = kOf (keyE (rd l (i : Int))) := by rw [hse]; rfl
        rw [hk, h3, wi (by omega), hs]
        have ih1 := ih (i + 1) (upm keq104 y (kOf (keyE (rd l (i : Int)))) true) (seen ++ [keyE (rd l (i : Int))]) (by omega) (by omega) (fun p => by
          rw [lkm_upm keq_iff, h3]
          have hkk : (keq104 (kOf p) (kOf (keyE (rd l (i : Int)))) = true) ↔ p = keyE (rd l (i : Int)) := by
            rw [keq_iff]
            constructor
            · intro h
              cases p
              generalize keyE (rd l (i : Int)) = q at *
              cases q
              simp [kOf] at h
              simp [h]
            · intro h; rw [h]
          by_cases hp : p = keyE (rd l (i : Int))
          · rw [if_pos (hkk.2 hp), hp]; simp
          · rw [if_neg (fun h => hp (hkk.1 h))]
            rw [Bool.eq_iff_iff]
            simp [hp])
        rw [ih1]
        cases seen.contains (keyE (rd l (i : Int))) <;> cases uqF [] (rd l (i : Int)).List_ <;> simp
      by_cases h2k : (rd l (i : Int)).Kind = 2
      · rw [if_pos (by simpa using h2k)]; exact hj _ (by unfold keyE; simp [h2k])
      · rw [if_neg (by simpa using h2k)]; exact hj _ (by unfold keyE; simp [h2k])
    · rw [if_neg (by simp; omega), List.drop_of_length_le (by omega)]; simp [uqF]
theorem luq_eq : ∀ (d k : Nat) (l : List T_api_Entry), wEL l < d → wEL l ≤ 2000000000 → wEL l + 3000000010 ≤ k → lists_unique k l = some (uqF [] l) := by
  intro d
  induction d with
  | zero => intro k l h1; omega
  | succ d ih =>
    intro k l h1 h2 h3
    obtain ⟨k, rfl⟩ : ∃ z, k = z + 1 := ⟨k - 1, by omega⟩
    have hlen := wEL_len l
    have := luq_loop k (lists_unique k) l (fun x hx => by
      have := wEL_list hx
      exact ih k x.List_ (by omega) (by omega) (by omega)) (by omega) k 0 [] [] (by omega) (by omega) (fun p => by simp [lkm])
    rw [lists_unique]
    exact this
end Go.Proofs.Ytannhioamkkdnaa.Pure
