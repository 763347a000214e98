/- Proved here: who a rule is for; texts sorted and made compact against a rising list; rules few enough. -/
import Derived.Test.YtkiikmejjcmafaaSh
import Derived.Test.YtkiikmejjcmafaaVxP
import Derived.Lib.RowBridge
import Derived.Sort.Walk0
namespace Go.Proofs.Ytkiikmejjcmafaa.Pure
open Go Go.RowKit Go.Proofs.Vx Go.Proofs.Ytkiikmejjcmafaa.Sh

theorem wi {i : Nat} (h : i ≤ 9000000000000) : IntKind.i64.wrap ((i : Int) + 1) = ((i + 1 : Nat) : Int) := by rw [w64 (by omega) (by omega)]; omega
theorem awake : watchbilllaw22_awake 400000 = some true := by kernel_rfl

/-! ### Rules that are few -/
theorem weigh_l (k : Nat) (l : List Str) : ∀ (m i : Nat) (n : Int), i ≤ l.length → (i : Int) ≤ n → n ≤ 10001 → 5001 - n < m → 0 < m → ∃ r, watchbilllaw18_weigh.l0 k l 5000 m n (i : Int) = some r ∧ n ≤ r ∧ r ≤ 10001 ∧ (r ≤ 5000 → (l.length : Int) - i ≤ r - n) := by
  intro m
  induction m with
  | zero => intro i n h1 h2 h3 h4 h5; omega
  | succ m ih =>
    intro i n h1 h2 h3 h4 h5
    unfold watchbilllaw18_weigh.l0
    by_cases hi : i < l.length
    · by_cases hn : n ≤ 5000
      · rw [if_pos (by simp; omega), if_pos (by omega), wi (by omega)]
        have hx : (0 : Int) ≤ (if (5000 : Int) < ((rd l (i : Int)).length : Int) then 5000 else ((rd l (i : Int)).length : Int)) ∧ (if (5000 : Int) < ((rd l (i : Int)).length : Int) then 5000 else ((rd l (i : Int)).length : Int)) ≤ 5000 := by split <;> omega
        generalize (if (5000 : Int) < ((rd l (i : Int)).length : Int) then 5000 else ((rd l (i : Int)).length : Int)) = x at hx
        rw [w64 (x := n + 1) (by omega) (by omega), w64 (by omega) (by omega)]
        obtain ⟨r, e, g1, g2, g3⟩ := ih (i + 1) (n + 1 + x) (by omega) (by omega) (by omega) (by omega) (by omega)
        exact ⟨r, e, by omega, g2, fun h => by have := g3 h; omega⟩
      · rw [if_neg (by simp; omega)]
        exact ⟨n, rfl, by omega, h3, fun h => by omega⟩
    · rw [if_neg (by simp; omega)]
      exact ⟨n, rfl, by omega, h3, fun h => by omega⟩
theorem weigh_eq (k : Nat) (hk : 400000 ≤ k) (l : List Str) : ∃ r, watchbilllaw18_weigh k l 5000 = some r ∧ 0 ≤ r ∧ r ≤ 10001 ∧ (r ≤ 5000 → (l.length : Int) ≤ r) := by
  obtain ⟨r, e, g1, g2, g3⟩ := weigh_l k l k 0 0 (by omega) (by omega) (by omega) (by omega) (by omega)
  exact ⟨r, e, g1, g2, fun h => by have := g3 h; omega⟩
/-- A rule whose lists are short. -/
def shortR (x : T_api_Rule) : Prop := x.Ones.length ≤ 5000 ∧ x.Domains.length ≤ 5000 ∧ x.Except.length ≤ 5000 ∧ x.Class.length ≤ 5000
def fewR (l : List T_api_Rule) : Prop := l.length ≤ 40 ∧ ∀ x ∈ l, shortR x
theorem Few_l (k : Nat) (hk : 400000 ≤ k) (l : List T_api_Rule) : ∀ (m i : Nat) (n : Int), i ≤ l.length → i ≤ 40 → 40 < i + m → 0 ≤ n → n ≤ 5000 → ∃ b, watchbilllaw18_Few.l0 k l m n (i : Int) = some b ∧ (b = true → l.length ≤ 40 ∧ ∀ x ∈ l.drop i, shortR x) := by
  intro m
  induction m with
  | zero => intro i n h1 h2 h3; omega
  | succ m ih =>
    intro i n h1 h2 h3 h4 h5
    unfold watchbilllaw18_Few.l0
    by_cases hi : i < l.length
    · rw [if_pos (by simp; omega)]
      by_cases h40 : i < 40
      · rw [if_neg (by simp; omega), if_pos (by omega)]
        obtain ⟨r1, e1, a1, b1, c1⟩ := weigh_eq k hk (rd l (i : Int)).Ones
        obtain ⟨r2, e2, a2, b2, c2⟩ := weigh_eq k hk (rd l (i : Int)).Domains
        obtain ⟨r3, e3, a3, b3, c3⟩ := weigh_eq k hk (rd l (i : Int)).Except
        obtain ⟨r4, e4, a4, b4, c4⟩ := weigh_eq k hk (rd l (i : Int)).Class
        have hx : (0 : Int) ≤ (if (5000 : Int) < ((rd l (i : Int)).ID.length : Int) then 5000 else ((rd l (i : Int)).ID.length : Int)) ∧ (if (5000 : Int) < ((rd l (i : Int)).ID.length : Int) then 5000 else ((rd l (i : Int)).ID.length : Int)) ≤ 5000 := by split <;> omega
        generalize (if (5000 : Int) < ((rd l (i : Int)).ID.length : Int) then 5000 else ((rd l (i : Int)).ID.length : Int)) = x at hx
        simp only [e1, e2, e3, e4, Option.bind_some]
        rw [w64 (x := n + x) (by omega) (by omega), w64 (x := n + x + r1) (by omega) (by omega), w64 (x := n + x + r1 + r2) (by omega) (by omega), w64 (x := n + x + r1 + r2 + r3) (by omega) (by omega), w64 (x := n + x + r1 + r2 + r3 + r4) (by omega) (by omega)]
        by_cases h5k : n + x + r1 + r2 + r3 + r4 > 5000
        · rw [if_pos (by simpa using h5k)]; exact ⟨false, rfl, fun h => by cases h⟩
        · rw [if_neg (by simpa using h5k), wi (by omega)]
          obtain ⟨b, e, g⟩ := ih (i + 1) (n + x + r1 + r2 + r3 + r4) (by omega) (by omega) (by omega) (by omega) (by omega)
          refine ⟨b, e, fun h => ⟨(g h).1, fun y hy => ?_⟩⟩
          rw [rd_drop hi] at hy
          rcases List.mem_cons.1 hy with rfl | hy
          · have := c1 (by omega); have := c2 (by omega); have := c3 (by omega); have := c4 (by omega)
            exact ⟨by omega, by omega, by omega, by omega⟩
          · exact (g h).2 y hy
      · rw [if_pos (by simp; omega)]; exact ⟨false, rfl, fun h => by cases h⟩
    · rw [if_neg (by simp; omega)]
      exact ⟨true, rfl, fun _ => ⟨by omega, by rw [List.drop_of_length_le (by omega)]; simp⟩⟩
theorem Few_eq (k : Nat) (hk : 400000 ≤ k) (l : List T_api_Rule) : ∃ b, watchbilllaw18_Few k l = some b ∧ (b = true → fewR l) := by
  obtain ⟨b, e, h⟩ := Few_l k hk l k 0 0 (by omega) (by omega) (by omega) (by omega) (by omega)
  exact ⟨b, by simpa [watchbilllaw18_Few] using e, by simpa [fewR] using h⟩

/-! ### Who a rule is for -/
def hasS (l : List Str) (s : Str) : Bool := l.any fun x => x == s
theorem index_l (k : Nat) (l : List Str) (s : Str) (h9 : l.length ≤ 9000000000000) : ∀ (m i : Nat), i ≤ l.length → l.length < i + m → ∃ r, slices_Index_27.l0 k l s m (i : Int) = some r ∧ decide (r ≥ 0) = hasS (l.drop i) s := by
  intro m
  induction m with
  | zero => intro i h1 h2; omega
  | succ m ih =>
    intro i h1 h2
    unfold slices_Index_27.l0
    by_cases hi : i < l.length
    · rw [if_pos (by simp; omega), if_pos (by omega), wi (by omega), rd_drop hi]
      by_cases hq : rd l (i : Int) = s
      · rw [if_pos (by simp [hq])]
        refine ⟨_, rfl, ?_⟩
        simp [hasS, hq]
      · rw [if_neg (by simpa using fun e => hq e.symm)]
        obtain ⟨r, e, g⟩ := ih (i + 1) (by omega) (by omega)
        refine ⟨r, e, g.trans ?_⟩
        simp [hasS, hq]
    · rw [if_neg (by simp; omega), List.drop_of_length_le (by omega)]
      exact ⟨-1, rfl, rfl⟩
theorem contains_eq (k : Nat) (hk : 400000 ≤ k) (l : List Str) (s : Str) (h : l.length ≤ 5000) : slices_Contains_19 k l s = some (hasS l s) := by
  obtain ⟨r, e, g⟩ := index_l k l s (by omega) k 0 (by omega) (by omega)
  unfold slices_Contains_19 slices_Index_27
  rw [show ((0 : Nat) : Int) = 0 from rfl] at e
  rw [e]
  simp only [List.drop_zero] at g
  rw [Option.bind_some, g]
theorem has_l (k : Nat) (l : List Str) (s : Str) (h9 : l.length ≤ 9000000000000) : ∀ (m i : Nat), i ≤ l.length → l.length < i + m → watchbillref22_has.l0 k l s m (i : Int) = some (hasS (l.drop i) s) := by
  intro m
  induction m with
  | zero => intro i h1 h2; omega
  | succ m ih =>
    intro i h1 h2
    unfold watchbillref22_has.l0
    by_cases hi : i < l.length
    · rw [if_pos (by simp; omega), if_pos (by omega), wi (by omega), rd_drop hi, ih (i + 1) (by omega) (by omega)]
      by_cases hq : rd l (i : Int) = s
      · rw [if_pos (by simp [hq])]; simp [hasS, hq]
      · rw [if_neg (by simpa using hq)]; simp [hasS, hq]
    · rw [if_neg (by simp; omega), List.drop_of_length_le (by omega)]; rfl
theorem has_eq (k : Nat) (hk : 400000 ≤ k) (l : List Str) (s : Str) (h : l.length ≤ 5000) : watchbillref22_has k l s = some (hasS l s) := by
  have := has_l k l s (by omega) k 0 (by omega) (by omega)
  simpa [watchbillref22_has] using this

def domS (a : Str) : Str := if Lib.lastIndexByte (ba a) 64 < 0 then [] else sl a (Lib.lastIndexByte (ba a) 64 + 1) (a.length : Int)
theorem li_bounds (a : Str) : -1 ≤ Lib.lastIndexByte (ba a) 64 ∧ Lib.lastIndexByte (ba a) 64 < (a.length : Int) := by
  rcases Lib.lastIndexByte_spec (ba a) 64 with ⟨e, _⟩ | ⟨i, hi, e, _⟩
  · rw [e]; omega
  · rw [ba_size] at hi; rw [e]; omega
theorem domain_eq (a : Str) (h : a.length ≤ 2000) : decide_domain a = some (domS a) := by
  have hb := li_bounds a
  unfold decide_domain domS
  rw [if_pos (by omega)]
  by_cases hn : Lib.lastIndexByte (ba a) 64 < 0
  · rw [if_pos (by simpa using hn), if_pos hn]
  · rw [if_neg (by simpa using hn), if_neg hn, w64 (by omega) (by omega), if_pos (by omega)]
theorem byte_at (a : Str) (j : Nat) (h : j < a.length) : (((ba a).data[j]!).toNat : Int) = bt a (j : Int) := by
  simp [ba, bt, h]
theorem domain_l (k : Nat) (a : Str) (h : a.length ≤ 2000) : ∀ (j m : Nat), j ≤ a.length → j < m → watchbillref22_domain.l0 k a m ((j : Int) - 1) = some (if Lib.lastIdx (ba a) 64 j < 0 then [] else sl a (Lib.lastIdx (ba a) 64 j + 1) (a.length : Int)) := by
  intro j
  induction j with
  | zero =>
    intro m h1 h2
    obtain ⟨m, rfl⟩ : ∃ m', m = m' + 1 := ⟨m - 1, by omega⟩
    unfold watchbillref22_domain.l0
    rw [if_neg (by simp)]; rfl
  | succ j ih =>
    intro m h1 h2
    obtain ⟨m, rfl⟩ : ∃ m', m = m' + 1 := ⟨m - 1, by omega⟩
    unfold watchbillref22_domain.l0
    have e1 : ((j + 1 : Nat) : Int) - 1 = (j : Int) := by omega
    rw [e1, if_pos (by simp), if_pos (by omega)]
    have hb := byte_at a j (by omega)
    by_cases hq : bt a (j : Int) = 64
    · rw [if_pos (by simpa using hq), wi (by omega), if_pos (by omega), Lib.lastIdx_hit _ _ _ (hb.trans hq), if_neg (by omega)]
      rfl
    · rw [if_neg (by simpa using hq), w64 (by omega) (by omega), ih m (by omega) (by omega), Lib.lastIdx_miss _ _ _ (fun e => hq (hb.symm.trans e))]
theorem rdomain_eq (k : Nat) (hk : 400000 ≤ k) (a : Str) (h : a.length ≤ 2000) : watchbillref22_domain k a = some (domS a) := by
  unfold watchbillref22_domain
  rw [w64 (by omega) (by omega), domain_l k a h a.length k (by omega) (by omega)]
  unfold domS Lib.lastIndexByte
  rw [ba_size]

def whoS (x : T_api_Rule) (w : Str) : Bool := hasS x.Ones w || ((x.Any || (!(domS w == []) && hasS x.Domains (domS w))) && !hasS x.Except w)
def mtS (x : T_api_Rule) (w : Str) (now : Int) : Bool := whoS x w && ((x.Until == 0) || (decide (x.From ≤ now) && decide (now < x.Until)))
theorem matches_eq (k : Nat) (hk : 400000 ≤ k) (x : T_api_Rule) (w : Str) (now : Int) (hx : shortR x) (hw : w.length ≤ 2000) : decide_Matches k x w now = some (mtS x w now) := by
  obtain ⟨h1, h2, h3, h4⟩ := hx
  unfold decide_Matches mtS whoS
  rw [domain_eq w hw]
  simp only [Option.bind_some, contains_eq k hk _ _ h1, contains_eq k hk _ _ h2, contains_eq k hk _ _ h3]
  cases x.Any <;> cases domS w == ([] : Str) <;> cases hasS x.Domains (domS w) <;> cases hasS x.Ones w <;> cases hasS x.Except w <;> simp
theorem rmatches_eq (k : Nat) (hk : 400000 ≤ k) (x : T_api_Rule) (w : Str) (now : Int) (hx : shortR x) (hw : w.length ≤ 2000) : watchbillref22_Matches k x w now = some (mtS x w now) := by
  obtain ⟨h1, h2, h3, h4⟩ := hx
  unfold watchbillref22_Matches mtS whoS
  rw [rdomain_eq k hk w hw]
  simp only [Option.bind_some, has_eq k hk _ _ h1, has_eq k hk _ _ h2, has_eq k hk _ _ h3]
  have ht : ((x.Until != 0) && ((decide (now < x.From)) || (decide (now ≥ x.Until)))) = !((x.Until == 0) || (decide (x.From ≤ now) && decide (now < x.Until))) := by
    rw [Bool.eq_iff_iff]; simp
  rw [ht]
  generalize ((x.Until == 0) || (decide (x.From ≤ now) && decide (now < x.Until))) = t
  cases t <;> cases x.Any <;> cases domS w == ([] : Str) <;> cases hasS x.Domains (domS w) <;> cases hasS x.Ones w <;> cases hasS x.Except w <;> simp
end Go.Proofs.Ytkiikmejjcmafaa.Pure
