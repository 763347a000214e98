/- Proved here: splitting, finding, resolving, adding, over the functions as plain Lean (without the laws). -/
import Derived.Test.YthiopccchgkjcaaPureName
namespace Go.Proofs.Ythiopccchgkjcaa.Pure
open Go Go.RowKit Go.Proofs.Vx Go.Proofs.Ythiopccchgkjcaa.Sh
theorem awake : watchbilllaw02_awake 9000 = some true := by kernel_rfl

def nm (k : Nat) (s : Str) : Bool := (utf_Name k s).getD false
theorem nm_eq (k : Nat) (hk : 70 ≤ k) (s : Str) (h9 : s.length ≤ 9000000000000000) : utf_Name k s = some (nm k s) := by
  obtain ⟨b, hb⟩ := name_some k hk s h9
  unfold nm; rw [hb]; rfl
theorem few_l (k : Nat) (l : List T_api_Bind) (h9 : l.length ≤ 9000000000000) : ∀ (m i : Nat) (n : Int), 0 ≤ n → n ≤ 9000 → i ≤ l.length → l.length < i + m → ∃ b, watchbilllaw02_Few.l0 k l m n (i : Int) = some b := by
  intro m
  induction m with
  | zero => intro i n _ _ h1 h2; omega
  | succ m ih =>
    intro i n h0 hn h1 h2
    unfold watchbilllaw02_Few.l0
    by_cases hi : i < l.length ∧ n < 3000
    · rw [if_pos (by simp; omega), if_pos (by omega), if_pos (by omega)]
      have hw : IntKind.i64.wrap ((i : Int) + 1) = ((i + 1 : Nat) : Int) := by rw [w64 (by omega) (by omega)]; omega
      rw [hw]
      have cap : ∀ a : Nat, 0 ≤ (if 3000 < (a : Int) then (3000 : Int) else (a : Int)) ∧ (if 3000 < (a : Int) then (3000 : Int) else (a : Int)) ≤ 3000 := fun a => by split <;> omega
      have ha := cap (rd l (i : Int)).Prefix.length
      have hb := cap (rd l (i : Int)).Space.length
      generalize (if 3000 < ((rd l (i : Int)).Prefix.length : Int) then (3000 : Int) else ((rd l (i : Int)).Prefix.length : Int)) = a at *
      generalize (if 3000 < ((rd l (i : Int)).Space.length : Int) then (3000 : Int) else ((rd l (i : Int)).Space.length : Int)) = b at *
      rw [w64 (x := n + a) (by omega) (by omega), w64 (x := n + a + b) (by omega) (by omega)]
      exact ih (i + 1) _ (by omega) (by omega) (by omega) (by omega)
    · rw [if_neg (by simp; omega)]; exact ⟨_, rfl⟩
theorem few_eq (k : Nat) (hk : 3001 ≤ k) (l : List T_api_Bind) (h9 : l.length ≤ 9000000000000) : ∃ b, watchbilllaw02_Few k l = some b ∧ (b = true → l.length < 3000) := by
  unfold watchbilllaw02_Few
  by_cases h : l.length < 3000
  · rw [if_neg (by omega)]
    obtain ⟨b, hb⟩ := few_l k l h9 k 0 l.length (by omega) (by omega) (by omega) (by omega)
    exact ⟨b, hb, fun _ => h⟩
  · obtain ⟨k, rfl⟩ : ∃ q, k = q + 1 := ⟨k - 1, by omega⟩
    refine ⟨false, ?_, fun h => by cases h⟩
    have e : (if 3000 < (l.length : Int) then (3000 : Int) else (l.length : Int)) = 3000 := by split <;> omega
    rw [e]
    unfold watchbilllaw02_Few.l0
    rw [if_neg (by simp)]; rfl
def fin_ (l : List T_api_Bind) (p : Str) (a : Str × Bool) : Str × Bool := l.foldl (fun a x => if x.Prefix == p then (x.Space, true) else a) a
def fnd (l : List T_api_Bind) (p : Str) : Str × Bool := if (p == ([120, 109, 108] : Str)) = true then ([104, 116, 116, 112, 58, 47, 47, 119, 119, 119, 46, 119, 51, 46, 111, 114, 103, 47, 88, 77, 76, 47, 49, 57, 57, 56, 47, 110, 97, 109, 101, 115, 112, 97, 99, 101], true) else fin_ l p ([], p == ([] : Str))
theorem find_l (k : Nat) (l : List T_api_Bind) (p : Str) (h9 : l.length ≤ 9000000000000) : ∀ (i m : Nat), i ≤ l.length → i < m → qname_Find.l0 k l p m ((i : Int) - 1) = some (fin_ (l.take i) p ([], p == ([] : Str))) := by
  intro i
  induction i with
  | zero =>
    intro m _ hm
    obtain ⟨m, rfl⟩ : ∃ q, m = q + 1 := ⟨m - 1, by omega⟩
    unfold qname_Find.l0
    rw [if_neg (by simp)]; rfl
  | succ i ih =>
    intro m h1 hm
    obtain ⟨m, rfl⟩ : ∃ q, m = q + 1 := ⟨m - 1, by omega⟩
    unfold qname_Find.l0
    have e : ((i + 1 : Nat) : Int) - 1 = (i : Int) := by omega
    have hr : rd l (i : Int) = l[i]'(by omega) := by simp [rd, show i < l.length by omega]
    have ht : l.take (i + 1) = l.take i ++ [l[i]'(by omega)] := by rw [List.take_succ_eq_append_getElem]
    rw [e, if_pos (by simp), if_pos (by omega), hr, ht]
    unfold fin_
    rw [List.foldl_append]
    simp only [List.foldl_cons, List.foldl_nil]
    by_cases hp : ((l[i]'(by omega)).Prefix == p) = true
    · rw [if_pos hp, if_pos (by omega), if_pos hp]
    · rw [if_neg hp, if_neg hp, w64 (x := (i : Int) - 1) (by omega) (by omega)]
      exact ih m (by omega) (by omega)
theorem find_eq (k : Nat) (l : List T_api_Bind) (p : Str) (hk : l.length < k) (h9 : l.length ≤ 9000000000000) : qname_Find k l p = some (fnd l p) := by
  unfold qname_Find fnd
  split
  · rfl
  · rw [w64 (x := (l.length : Int) - 1) (by omega) (by omega), find_l k l p h9 l.length k (Nat.le_refl _) hk, List.take_length]
theorem rfind_l (k : Nat) (l : List T_api_Bind) (p : Str) (h9 : l.length ≤ 9000000000000) : ∀ (m i : Nat) (a : Str × Bool), i ≤ l.length → l.length < i + m → watchbillref02_Find.l0 k l p m a.1 a.2 (i : Int) = some (fin_ (l.drop i) p a) := by
  intro m
  induction m with
  | zero => intro i a h1 h2; omega
  | succ m ih =>
    intro i a h1 h2
    unfold watchbillref02_Find.l0
    by_cases hi : i < l.length
    · have hw : IntKind.i64.wrap ((i : Int) + 1) = ((i + 1 : Nat) : Int) := by rw [w64 (by omega) (by omega)]; omega
      rw [if_pos (by simp; omega), if_pos (by omega), hw, rd_drop hi]
      unfold fin_
      rw [List.foldl_cons]
      by_cases hp : ((rd l (i : Int)).Prefix == p) = true
      · rw [if_pos hp, if_pos (by omega), if_pos hp]
        exact ih (i + 1) ((rd l (i : Int)).Space, true) (by omega) (by omega)
      · rw [if_neg hp, if_neg hp]
        exact ih (i + 1) a (by omega) (by omega)
    · rw [if_neg (by simp; omega), List.drop_of_length_le (by omega)]; rfl
theorem rfind_eq (k : Nat) (l : List T_api_Bind) (p : Str) (hk : l.length < k) (h9 : l.length ≤ 9000000000000) : watchbillref02_Find k l p = some (fnd l p) := by
  unfold watchbillref02_Find fnd
  split
  · rfl
  · have := rfind_l k l p h9 k 0 ([], p == ([] : Str)) (by omega) (by omega)
    simpa using this
theorem few_long (k : Nat) (hk : 1 ≤ k) (l : List T_api_Bind) (h : 3000 ≤ l.length) : watchbilllaw02_Few k l = some false := by
  obtain ⟨k, rfl⟩ : ∃ q, k = q + 1 := ⟨k - 1, by omega⟩
  unfold watchbilllaw02_Few
  have e : (if 3000 < (l.length : Int) then (3000 : Int) else (l.length : Int)) = 3000 := by split <;> omega
  rw [e]
  unfold watchbilllaw02_Few.l0
  rw [if_neg (by simp)]; rfl
end Go.Proofs.Ythiopccchgkjcaa.Pure
