/- Proved here: splitting, finding, resolving, adding, over the functions as plain Lean (without the laws). -/
import Derived.Test.YthiopccchgkjcaaPureName
namespace Go.Proofs.Ythiopccchgkjcaa.Pure
open Go Go.RowKit Go.Proofs.Vx Go.Proofs.Ythiopccchgkjcaa.Sh
theorem awake : watchbilllaw02_awake 9000 = some true := by kernel_rfl

theorem ix (l : List UInt8) (c : UInt8) : (Lib.indexByte l c = -1 ∧ ∀ b ∈ l, b ≠ c) ∨ ∃ i : Nat, Lib.indexByte l c = i ∧ i < l.length ∧ l[i]? = some c ∧ ∀ j b, j < i → l[j]? = some b → b ≠ c := by
  induction l with
  | nil => exact .inl ⟨rfl, fun b h => by cases h⟩
  | cons b l ih =>
    unfold Lib.indexByte
    by_cases hb : b = c
    · right; exact ⟨0, by simp [hb], by simp, by simp [hb], fun j b h => by omega⟩
    · have hb' : (b == c) = false := by simpa using hb
      rw [hb']
      rcases ih with ⟨h1, h2⟩ | ⟨i, h1, h2, h3, h4⟩
      · left
        refine ⟨by simp [h1], fun d hd => ?_⟩
        rcases List.mem_cons.1 hd with rfl | hd
        · exact hb
        · exact h2 d hd
      · right
        refine ⟨i + 1, ?_, by simpa using h2, by simpa using h3, fun j d hj hd => ?_⟩
        · have : ((i : Int) == -1) = false := by simp
          simp [h1, this]
        · cases j with
          | zero => simp at hd; subst hd; exact hb
          | succ j => exact h4 j d (by omega) (by simpa using hd)
/-- Is it a name? -/
def nm (k : Nat) (s : Str) : Bool := (utf_Name k s).getD false
theorem nm_eq (k : Nat) (hk : 70 ≤ k) (s : Str) (h9 : s.length ≤ 9000000000000000) : utf_Name k s = some (nm k s) := by
  obtain ⟨b, hb⟩ := name_some k hk s h9
  unfold nm; rw [hb]; rfl
def spl (k : Nat) (s : Str) : Str × Str × Bool :=
  if Lib.indexByte s 58 = -1 then (if nm k s then ([], s, true) else ([], [], false))
  else if nm k (sl s 0 (Lib.indexByte s 58)) && nm k (sl s (Lib.indexByte s 58 + 1) s.length) then (sl s 0 (Lib.indexByte s 58), sl s (Lib.indexByte s 58 + 1) s.length, true) else ([], [], false)
theorem sl_len (s : Str) (l h : Int) : (sl s l h).length ≤ s.length := by simp [sl]; omega
theorem one_colon (s : Str) : ((([58] : Str) == s)) = true → s = [58] := by intro h; exact (by simpa using h : ([58] : Str) = s).symm
theorem index_eq (s : Str) : stringslite_Index s [58] = some (Lib.indexByte s 58) := by
  unfold stringslite_Index stringslite_IndexByte
  by_cases h : ([58] : Str) == s
  · have := one_colon s h
    subst this
    rfl
  · have h' : (([58] : Str) == s) = false := by simpa using h
    rw [h']
    rfl
theorem cut_eq (s : Str) (h9 : s.length ≤ 9000000000000000) : strings_Cut s [58] = some (if Lib.indexByte s 58 = -1 then (s, [], false) else (sl s 0 (Lib.indexByte s 58), sl s (Lib.indexByte s 58 + 1) s.length, true)) := by
  unfold strings_Cut stringslite_Cut
  rw [index_eq, Option.bind_some]
  rcases ix s 58 with ⟨h1, _⟩ | ⟨i, h1, h2, _⟩
  · rw [h1]; simp
  · rw [h1]
    have e : IntKind.i64.wrap ((i : Int) + (([58] : Str).length : Int)) = (i : Int) + 1 := w64 (x := (i : Int) + 1) (by omega) (by omega)
    rw [e, if_neg (show ¬ (i : Int) = -1 by omega), if_pos (by simp), if_pos (by omega), if_pos (by omega)]
    rfl
theorem split_eq (k : Nat) (hk : 70 ≤ k) (s : Str) (h9 : s.length ≤ 9000000000000000) : qname_Split k s = some (spl k s) := by
  unfold qname_Split spl
  rw [cut_eq s h9, Option.bind_some]
  by_cases h : Lib.indexByte s 58 = -1
  · rw [if_pos h, if_pos h]
    simp only [Bool.not_false, if_true]
    unfold qname_Split.j0
    rw [nm_eq k hk s h9, Option.bind_some]
    cases nm k s <;> simp
  · rw [if_neg h, if_neg h]
    simp only [Bool.not_true, Bool.false_eq_true, if_false]
    unfold qname_Split.j0
    rw [nm_eq k hk _ (Nat.le_trans (sl_len s _ _) h9), nm_eq k hk _ (Nat.le_trans (sl_len s _ _) h9), Option.bind_some]
    cases nm k (sl s (Lib.indexByte s 58 + 1) s.length) <;> cases nm k (sl s 0 (Lib.indexByte s 58)) <;> simp
theorem bt_get {s : Str} {i : Nat} {b : UInt8} (h : s[i]? = some b) : bt s (i : Int) = (b.toNat : Int) := by
  unfold bt; rw [Int.toNat_natCast]; simp [List.getD, h]
theorem rsplit_l (k : Nat) (hk : 70 ≤ k) (s : Str) (h9 : s.length ≤ 9000000000000000) : ∀ (m i : Nat), i ≤ s.length → s.length < i + m → (∀ j b, j < i → s[j]? = some b → b ≠ 58) → watchbillref02_Split.l0 k s m (i : Int) = some (spl k s) := by
  intro m
  induction m with
  | zero => intro i h1 h2; omega
  | succ m ih =>
    intro i h1 h2 h3
    unfold watchbillref02_Split.l0
    by_cases hi : i < s.length
    · have hg : s[i]? = some s[i] := List.getElem?_eq_getElem hi
      rw [if_pos (by simp; omega), if_pos (by omega), bt_get hg]
      by_cases hb : s[i] = 58
      · have e : Lib.indexByte s 58 = i := by
          rcases ix s 58 with ⟨_, h5⟩ | ⟨i', h5, h6, h7, h8⟩
          · exact absurd hb (h5 _ (List.getElem_mem hi))
          · rcases Nat.lt_trichotomy i i' with hlt | rfl | hgt
            · exact absurd hb (h8 i _ hlt hg)
            · exact h5
            · exact absurd rfl (h3 i' 58 hgt h7)
        have hw : IntKind.i64.wrap ((i : Int) + 1) = (i : Int) + 1 := w64 (by omega) (by omega)
        rw [hb, hw, if_pos (by rfl), if_pos (by omega), if_pos (by omega), rename_eq k hk _ (Nat.le_trans (sl_len s _ _) h9), rename_eq k hk _ (Nat.le_trans (sl_len s _ _) h9), nm_eq k hk _ (Nat.le_trans (sl_len s _ _) h9), nm_eq k hk _ (Nat.le_trans (sl_len s _ _) h9), Option.bind_some]
        have hs : spl k s = if nm k (sl s 0 i) && nm k (sl s ((i : Int) + 1) s.length) then (sl s 0 i, sl s ((i : Int) + 1) s.length, true) else ([], [], false) := by
          unfold spl
          rw [e, if_neg (show ¬ (i : Int) = -1 by omega)]
        rw [hs]
        cases nm k (sl s 0 i) <;> cases nm k (sl s ((i : Int) + 1) s.length) <;> simp
      · have hne : ((s[i].toNat : Int) == 58) = false := by
          rw [beq_eq_false_iff_ne]; intro h; apply hb
          have : s[i].toNat = 58 := by omega
          exact UInt8.toNat_inj.1 this
        rw [hne, if_neg (by simp), w64 (x := (i : Int) + 1) (by omega) (by omega)]
        have := ih (i + 1) (by omega) (by omega) (fun j b hj hjb => by
          by_cases hji : j = i
          · subst hji; rw [hg] at hjb; cases hjb; exact hb
          · exact h3 j b (by omega) hjb)
        rw [show ((i + 1 : Nat) : Int) = (i : Int) + 1 by omega] at this
        exact this
    · rw [if_neg (by simp; omega), rename_eq k hk s h9, nm_eq k hk s h9, Option.bind_some]
      have e : Lib.indexByte s 58 = -1 := by
        rcases ix s 58 with ⟨h5, _⟩ | ⟨i', h5, h6, h7, _⟩
        · exact h5
        · exact absurd rfl (h3 i' 58 (by omega) h7)
      unfold spl
      rw [if_pos e]
      cases nm k s <;> simp
theorem rsplit_eq (k : Nat) (hk : 70 ≤ k) (s : Str) (hl : s.length < k) (h9 : s.length ≤ 9000000000000000) : watchbillref02_Split k s = some (spl k s) :=
  rsplit_l k hk s h9 k 0 (by omega) (by omega) (fun j b h => by omega)
theorem glue (s : Str) (i : Nat) (h : s[i]? = some 58) : (sl s 0 (i : Int) ++ ([58] : Str)) ++ sl s ((i : Int) + 1) s.length = s := by
  have hi := (List.getElem?_eq_some_iff.1 h).1
  unfold sl
  simp only [Int.toNat_zero, List.drop_zero, Int.toNat_natCast, Nat.sub_zero, show ((i : Int) + 1).toNat = i + 1 by omega]
  rw [List.take_of_length_le (by simp : (s.drop (i + 1)).length ≤ s.length - (i + 1))]
  conv => rhs; rw [← List.take_append_drop i s, List.drop_eq_getElem_cons hi]
  have h2 : s[i] = 58 := by rw [List.getElem?_eq_getElem hi] at h; exact Option.some.inj h
  rw [h2]
  simp
theorem few_l (k : Nat) (l : List T_api_Bind) (h9 : l.length ≤ 9000000000000) : ∀ (m i : Nat) (n : Int), 0 ≤ n → n ≤ 9000 → i ≤ l.length → l.length < i + m → ∃ b, watchbilllaw02_Few.l0 k l m n (i : Int) = some b := by
  intro m
  induction m with
  | zero => intro i n _ _ h1 h2; omega
  | succ m ih =>
    intro i n h0 hn h1 h2
    unfold watchbilllaw02_Few.l0
    by_cases hi : i < l.length ∧ n < 3000
    · rw [if_pos (by simp; omega), if_pos (by omega), if_pos (by omega)]
      have hw : IntKind.i64.wrap ((i : Int) + 1) = ((i + 1 : Nat) : Int) := by rw [w64 (by omega) (by omega)]; omega
      rw [hw]
      have cap : ∀ a : Nat, 0 ≤ (if 3000 < (a : Int) then (3000 : Int) else (a : Int)) ∧ (if 3000 < (a : Int) then (3000 : Int) else (a : Int)) ≤ 3000 := fun a => by split <;> omega
      have ha := cap (rd l (i : Int)).Prefix.length
      have hb := cap (rd l (i : Int)).Space.length
      generalize (if 3000 < ((rd l (i : Int)).Prefix.length : Int) then (3000 : Int) else ((rd l (i : Int)).Prefix.length : Int)) = a at *
      generalize (if 3000 < ((rd l (i : Int)).Space.length : Int) then (3000 : Int) else ((rd l (i : Int)).Space.length : Int)) = b at *
      rw [w64 (x := n + a) (by omega) (by omega), w64 (x := n + a + b) (by omega) (by omega)]
      exact ih (i + 1) _ (by omega) (by omega) (by omega) (by omega)
    · rw [if_neg (by simp; omega)]; exact ⟨_, rfl⟩
theorem few_eq (k : Nat) (hk : 3001 ≤ k) (l : List T_api_Bind) (h9 : l.length ≤ 9000000000000) : ∃ b, watchbilllaw02_Few k l = some b ∧ (b = true → l.length < 3000) := by
  unfold watchbilllaw02_Few
  by_cases h : l.length < 3000
  · rw [if_neg (by omega)]
    obtain ⟨b, hb⟩ := few_l k l h9 k 0 l.length (by omega) (by omega) (by omega) (by omega)
    exact ⟨b, hb, fun _ => h⟩
  · obtain ⟨k, rfl⟩ : ∃ q, k = q + 1 := ⟨k - 1, by omega⟩
    refine ⟨false, ?_, fun h => by cases h⟩
    have e : (if 3000 < (l.length : Int) then (3000 : Int) else (l.length : Int)) = 3000 := by split <;> omega
    rw [e]
    unfold watchbilllaw02_Few.l0
    rw [if_neg (by simp)]; rfl
/-- The binding that counts. -/
def fin_ (l : List T_api_Bind) (p : Str) (a : Str × Bool) : Str × Bool := l.foldl (fun a x => if x.Prefix == p then (x.Space, true) else a) a
def fnd (l : List T_api_Bind) (p : Str) : Str × Bool := if (p == ([120, 109, 108] : Str)) = true then ([104, 116, 116, 112, 58, 47, 47, 119, 119, 119, 46, 119, 51, 46, 111, 114, 103, 47, 88, 77, 76, 47, 49, 57, 57, 56, 47, 110, 97, 109, 101, 115, 112, 97, 99, 101], true) else fin_ l p ([], p == ([] : Str))
theorem find_l (k : Nat) (l : List T_api_Bind) (p : Str) (h9 : l.length ≤ 9000000000000) : ∀ (i m : Nat), i ≤ l.length → i < m → qname_Find.l0 k l p m ((i : Int) - 1) = some (fin_ (l.take i) p ([], p == ([] : Str))) := by
  intro i
  induction i with
  | zero =>
    intro m _ hm
    obtain ⟨m, rfl⟩ : ∃ q, m = q + 1 := ⟨m - 1, by omega⟩
    unfold qname_Find.l0
    rw [if_neg (by simp)]; rfl
  | succ i ih =>
    intro m h1 hm
    obtain ⟨m, rfl⟩ : ∃ q, m = q + 1 := ⟨m - 1, by omega⟩
    unfold qname_Find.l0
    have e : ((i + 1 : Nat) : Int) - 1 = (i : Int) := by omega
    have hr : rd l (i : Int) = l[i]'(by omega) := by simp [rd, show i < l.length by omega]
    have ht : l.take (i + 1) = l.take i ++ [l[i]'(by omega)] := by rw [List.take_succ_eq_append_getElem]
    rw [e, if_pos (by simp), if_pos (by omega), hr, ht]
    unfold fin_
    rw [List.foldl_append]
    simp only [List.foldl_cons, List.foldl_nil]
    by_cases hp : ((l[i]'(by omega)).Prefix == p) = true
    · rw [if_pos hp, if_pos (by omega), if_pos hp]
    · rw [if_neg hp, if_neg hp, w64 (x := (i : Int) - 1) (by omega) (by omega)]
      exact ih m (by omega) (by omega)
theorem find_eq (k : Nat) (l : List T_api_Bind) (p : Str) (hk : l.length < k) (h9 : l.length ≤ 9000000000000) : qname_Find k l p = some (fnd l p) := by
  unfold qname_Find fnd
  split
  · rfl
  · rw [w64 (x := (l.length : Int) - 1) (by omega) (by omega), find_l k l p h9 l.length k (Nat.le_refl _) hk, List.take_length]
theorem rfind_l (k : Nat) (l : List T_api_Bind) (p : Str) (h9 : l.length ≤ 9000000000000) : ∀ (m i : Nat) (a : Str × Bool), i ≤ l.length → l.length < i + m → watchbillref02_Find.l0 k l p m a.1 a.2 (i : Int) = some (fin_ (l.drop i) p a) := by
  intro m
  induction m with
  | zero => intro i a h1 h2; omega
  | succ m ih =>
    intro i a h1 h2
    unfold watchbillref02_Find.l0
    by_cases hi : i < l.length
    · have hw : IntKind.i64.wrap ((i : Int) + 1) = ((i + 1 : Nat) : Int) := by rw [w64 (by omega) (by omega)]; omega
      rw [if_pos (by simp; omega), if_pos (by omega), hw, rd_drop hi]
      unfold fin_
      rw [List.foldl_cons]
      by_cases hp : ((rd l (i : Int)).Prefix == p) = true
      · rw [if_pos hp, if_pos (by omega), if_pos hp]
        exact ih (i + 1) ((rd l (i : Int)).Space, true) (by omega) (by omega)
      · rw [if_neg hp, if_neg hp]
        exact ih (i + 1) a (by omega) (by omega)
    · rw [if_neg (by simp; omega), List.drop_of_length_le (by omega)]; rfl
theorem rfind_eq (k : Nat) (l : List T_api_Bind) (p : Str) (hk : l.length < k) (h9 : l.length ≤ 9000000000000) : watchbillref02_Find k l p = some (fnd l p) := by
  unfold watchbillref02_Find fnd
  split
  · rfl
  · have := rfind_l k l p h9 k 0 ([], p == ([] : Str)) (by omega) (by omega)
    simpa using this
def res_ (k : Nat) (l : List T_api_Bind) (q : Str) (at_ : Bool) : T_api_Name × Int :=
  if (!(spl k q).2.2) = true then (T_api_Name.mk [] [], 12) else if (at_ && ((spl k q).1 == ([] : Str))) = true then (T_api_Name.mk [] (spl k q).2.1, 0)
  else if ((!(fnd l (spl k q).1).2) || ((spl k q).1 == ([120, 109, 108, 110, 115] : Str))) = true then (T_api_Name.mk [] [], 13) else (T_api_Name.mk (fnd l (spl k q).1).1 (spl k q).2.1, 0)
theorem resolve_eq (k : Nat) (hk : 70 ≤ k) (l : List T_api_Bind) (q : Str) (b : Bool) (hl : l.length < k) (h9 : l.length ≤ 9000000000000) (hq : q.length ≤ 9000000000000000) : qname_Resolve k l q b = some (res_ k l q b) := by
  unfold qname_Resolve res_
  rw [split_eq k hk q hq, Option.bind_some, find_eq k l _ hl h9, Option.bind_some]
  split
  · rfl
  split
  · rfl
  split <;> rfl
theorem rresolve_eq (k : Nat) (hk : 70 ≤ k) (l : List T_api_Bind) (q : Str) (b : Bool) (hl : l.length < k) (h9 : l.length ≤ 9000000000000) (hq : q.length < k) (h9q : q.length ≤ 9000000000000000) : watchbillref02_Resolve k l q b = some (res_ k l q b) := by
  unfold watchbillref02_Resolve res_
  rw [rsplit_eq k hk q hq h9q, Option.bind_some, rfind_eq k l _ hl h9, Option.bind_some, Bool.and_comm]
  split
  · rfl
  split
  · rfl
  split <;> rfl
/-- Longer lists than there may be play no part. -/
theorem few_long (k : Nat) (hk : 1 ≤ k) (l : List T_api_Bind) (h : 3000 ≤ l.length) : watchbilllaw02_Few k l = some false := by
  obtain ⟨k, rfl⟩ : ∃ q, k = q + 1 := ⟨k - 1, by omega⟩
  unfold watchbilllaw02_Few
  have e : (if 3000 < (l.length : Int) then (3000 : Int) else (l.length : Int)) = 3000 := by split <;> omega
  rw [e]
  unfold watchbilllaw02_Few.l0
  rw [if_neg (by simp)]; rfl
theorem add_eq (k : Nat) (hk : 70 ≤ k) (l : List T_api_Bind) (p q : Str) (hl : l.length < 4000) (hp : p.length ≤ 9000000000000000) : ∃ r, qname_Add k l p q = some r ∧ ((r.2 ≠ 0 ∧ r.1 = []) ∨ (r = (l ++ [T_api_Bind.mk p q], 0) ∧ qname_may p q = some true)) := by
  have hm : ∃ m, qname_may p q = some m := by
    unfold qname_may; split
    · exact ⟨_, rfl⟩
    split <;> exact ⟨_, rfl⟩
  obtain ⟨m, hm⟩ := hm
  unfold qname_Add
  rw [nm_eq k hk p hp, hm]
  have h1 : slices_Clone_32 l = some l := by unfold slices_Clone_32; rw [if_pos (by simp; omega)]; rfl
  have h2 : slices_Clip_31 l = some l := by unfold slices_Clip_31; rw [if_pos (by omega)]; simp [sl]
  simp only [Option.bind_some, h1, h2]
  rw [if_pos (show (l.length + [T_api_Bind.mk p q].length) * 32 ≤ 140737488355328 by simp; omega)]
  by_cases hp0 : p = []
  · subst hp0
    cases m
    · exact ⟨_, rfl, .inl ⟨by simp, rfl⟩⟩
    · exact ⟨_, rfl, .inr ⟨rfl, rfl⟩⟩
  · have : (p == ([] : Str)) = false := by simpa using hp0
    rw [this]
    simp only [Bool.not_false, beq_self_eq_true, if_true, Option.bind_some, Bool.true_and]
    cases nm k p
    · exact ⟨_, rfl, .inl ⟨by simp, rfl⟩⟩
    cases m
    · exact ⟨_, rfl, .inl ⟨by simp, rfl⟩⟩
    · exact ⟨_, rfl, .inr ⟨rfl, rfl⟩⟩
end Go.Proofs.Ythiopccchgkjcaa.Pure
