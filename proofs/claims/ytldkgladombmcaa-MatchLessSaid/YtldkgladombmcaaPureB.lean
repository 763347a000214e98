/- Proved here: what fits, what is small enough, what places there are, what is found. -/
import Derived.Test.YtldkgladombmcaaPureA
namespace Go.Proofs.Ytldkgladombmcaa.Pure
open Go Go.RowKit Go.Proofs.Vx Go.Proofs.Ytldkgladombmcaa.Sh

/-! ### Fits -/
theorem idx_l (k : Nat) (l : List Int) (a : Int) (h9 : l.length ≤ 60000) : ∀ (m i : Nat), i ≤ l.length → l.length < i + m → ∃ r, slices_Index_41.l0 k l a m (i : Int) = some r ∧ decide (r ≥ 0) = (l.drop i).any fun x => a == x := by
  intro m
  induction m with
  | zero => intro i h1 h2; omega
  | succ m ih =>
    intro i h1 h2
    unfold slices_Index_41.l0
    by_cases hi : i < l.length
    · rw [if_pos (by simp; omega), if_pos (by omega), wi (by omega), rd_drop hi, List.any_cons]
      cases hc : (a == rd l (i : Int)) with
      | true => rw [if_pos rfl]; exact ⟨_, rfl, by simp⟩
      | false => rw [if_neg (by simp)]; simpa using ih (i + 1) (by omega) (by omega)
    · rw [if_neg (by simp; omega), List.drop_of_length_le (by omega)]; exact ⟨_, rfl, rfl⟩
theorem contains_eq (k : Nat) (l : List Int) (a : Int) (h9 : l.length ≤ 60000) (hk : l.length < k) : slices_Contains_30 k l a = some (l.any fun x => a == x) := by
  obtain ⟨r, hr, hd⟩ := idx_l k l a h9 k 0 (by omega) (by omega)
  unfold slices_Contains_30 slices_Index_41
  rw [show ((0 : Nat) : Int) = 0 from rfl] at hr
  rw [hr, Option.bind_some, hd, List.drop_zero]
theorem idxf_l (k : Nat) (l : List T_api_Step) (h9 : l.length ≤ 60000) : ∀ (m i : Nat), i ≤ l.length → l.length < i + m → ∃ r, slices_IndexFunc_46.l0 k l m (i : Int) = some r ∧ decide (r ≥ 0) = (l.drop i).any fun s => s.Kind != 1 := by
  intro m
  induction m with
  | zero => intro i h1 h2; omega
  | succ m ih =>
    intro i h1 h2
    unfold slices_IndexFunc_46.l0
    by_cases hi : i < l.length
    · rw [if_pos (by simp; omega), if_pos (by omega), wi (by omega), rd_drop hi, List.any_cons]
      unfold match_names_1
      rw [Option.bind_some]
      cases hc : ((rd l (i : Int)).Kind != 1) with
      | true => rw [if_pos rfl]; exact ⟨_, rfl, by simp⟩
      | false => rw [if_neg (by simp)]; simpa using ih (i + 1) (by omega) (by omega)
    · rw [if_neg (by simp; omega), List.drop_of_length_le (by omega)]; exact ⟨_, rfl, rfl⟩
theorem names_eq (k : Nat) (l : List T_api_Step) (h9 : l.length ≤ 60000) (hk : l.length < k) : match_names k l = some (!(l.any fun s => s.Kind != 1)) := by
  obtain ⟨r, hr, hd⟩ := idxf_l k l h9 k 0 (by omega) (by omega)
  unfold match_names slices_ContainsFunc_39 slices_IndexFunc_46
  rw [show ((0 : Nat) : Int) = 0 from rfl] at hr
  rw [hr, Option.bind_some, Option.bind_some, hd, List.drop_zero]
def cntN (l : List T_api_Node) (s : T_api_Step) : Nat := l.countP fun n => named n s
def fitS (kids : List T_api_Node) (s : T_api_Step) (i : Int) : Bool := (s.Kind == 1) && ((decide (0 ≤ i) && decide (i < (kids.length : Int))) && fit (rd kids i) s (cntN (kids.take i.toNat) s))
theorem fit_named {n : T_api_Node} {s : T_api_Step} {p : Nat} (h : fit n s p = true) : named n s = true := by unfold fit at h; simp only [Bool.and_eq_true] at h; exact h.1
theorem not_named {n : T_api_Node} {s : T_api_Step} {p : Nat} (h : named n s = false) : fit n s p = false := by unfold fit; rw [h]; rfl
/-- Among the numbers stands just what fits. -/
theorem nums_any : ∀ (l pre : List T_api_Node) (s : T_api_Step) (a : Int), (nums l s pre.length (cntN pre s)).any (fun x => a == x) = ((decide ((pre.length : Int) ≤ a) && decide (a < ((pre ++ l).length : Int))) && fit (rd (pre ++ l) a) s (cntN ((pre ++ l).take a.toNat) s))
  | [], pre, s, a => by
    have : (decide ((pre.length : Int) ≤ a) && decide (a < (((pre ++ []) : List T_api_Node).length : Int))) = false := by simp
    rw [this]; simp [nums]
  | n :: l, pre, s, a => by
    have ih := nums_any l (pre ++ [n]) s a
    have e1 : cntN (pre ++ [n]) s = cntN pre s + (if named n s then 1 else 0) := by unfold cntN; rw [List.countP_append, List.countP_singleton]
    have e2 : (pre ++ [n]) ++ l = pre ++ n :: l := by simp
    have e3 : (pre ++ [n]).length = pre.length + 1 := by simp
    rw [e1, e2, e3] at ih
    by_cases ha : a = (pre.length : Int)
    · subst ha
      have hr : rd (pre ++ n :: l) (pre.length : Int) = n := by simp [rd]
      have ht : (pre ++ n :: l).take ((pre.length : Int).toNat) = pre := by simp
      rw [hr, ht]
      have hin : (decide ((pre.length : Int) ≤ (pre.length : Int)) && decide ((pre.length : Int) < ((pre ++ n :: l).length : Int))) = true := by simp; omega
      rw [hin, Bool.true_and, nums]
      have hout : (decide (((pre.length + 1 : Nat) : Int) ≤ (pre.length : Int)) && decide ((pre.length : Int) < ((pre ++ n :: l).length : Int))) = false := by simp; omega
      rw [hout, Bool.false_and] at ih
      cases hn : named n s with
      | false => rw [hn] at ih; simp only [Bool.false_eq_true, if_false, Nat.add_zero] at ih ⊢; rw [ih, not_named hn]
      | true =>
        rw [hn] at ih
        simp only [if_true] at ih ⊢
        cases hf : fit n s (cntN pre s) with
        | true => simp
        | false => simp only [Bool.false_eq_true, if_false]; exact ih
    · have hne : ∀ c : Bool, (decide (((pre.length + 1 : Nat) : Int) ≤ a) && c) = (decide ((pre.length : Int) ≤ a) && c) := fun c => by
        have : (decide (((pre.length + 1 : Nat) : Int) ≤ a)) = decide ((pre.length : Int) ≤ a) := by rw [Bool.eq_iff_iff]; simp; omega
        rw [this]
      rw [hne] at ih
      rw [← ih, nums]
      cases hn : named n s with
      | false => simp
      | true =>
        simp only [if_true]
        split
        · rw [List.any_cons]
          have : (a == (pre.length : Int)) = false := by simpa using ha
          rw [this, Bool.false_or]
        · rfl
theorem fits_eq (k : Nat) (hk : 90000 < k) (n : T_api_Node) (i : Int) (s : T_api_Step) (hb : bnd n.Kids) : match_Fits k n i s = some (fitS n.Kids s i) := by
  have hb1 := hb.1
  unfold match_Fits fitS
  rw [names_eq k [s] (by simp) (by simp; omega), numbers_eq k hk _ _ hb, Option.bind_some]
  have h := nums_any n.Kids [] s i
  simp only [List.length_nil, List.nil_append, cntN, List.countP_nil] at h
  cases hs : (s.Kind == 1) with
  | false =>
    have : ([s].any fun s => s.Kind != 1) = true := by simpa using hs
    rw [this]; simp
  | true =>
    have : ([s].any fun s => s.Kind != 1) = false := by simpa using hs
    rw [this]
    have hl := nums_len n.Kids s 0 0
    simp only [Bool.not_false, beq_self_eq_true, if_true, Option.bind_some, Bool.true_and]
    rw [contains_eq k _ i (by omega) (by omega), Option.bind_some, h]
    simp [cntN]
theorem rfits_l (k : Nat) (a b c f : _) (ats : List T_api_Attr) (kids : List T_api_Node) (s : T_api_Step) (hk : 90000 < k) (hb : bnd kids) (j : Nat) (hj : j < kids.length) : ∀ (m x : Nat), x ≤ j + 1 → j + 1 < x + m →
    watchbillref12_Fits.l0 k (j : Int) m a b c ats kids f s.Kind s.Any s.Name.Space s.Name.Local s.Pos s.By s.Attr.Space s.Attr.Local s.Value (cntN (kids.take x) s) (x : Int) = some (fit (rd kids (j : Int)) s (cntN (kids.take j) s)) := by
  have hb1 := hb.1
  intro m
  induction m with
  | zero => intro x h1 h2; omega
  | succ m ih =>
    intro x h1 h2
    unfold watchbillref12_Fits.l0
    by_cases hx : x ≤ j
    · have hxl : x < kids.length := by omega
      have hr : rd kids (x : Int) = kids[x] := by simp [rd, hxl]
      have ht : cntN (kids.take (x + 1)) s = cntN (kids.take x) s + (if named (rd kids (x : Int)) s then 1 else 0) := by
        rw [List.take_succ_eq_append_getElem hxl, hr]; unfold cntN; rw [List.countP_append, List.countP_singleton]
      have hcl : cntN (kids.take x) s ≤ x := by unfold cntN; exact Nat.le_trans List.countP_le_length (by simp; omega)
      rw [if_pos (by simp; omega), if_pos (by omega), if_pos (fun _ => by omega), wi (i := x) (by omega), wi (by omega)]
      have hn : ((((rd kids (x : Int)).Kind) == 1) && (s.Any || (((rd kids (x : Int)).Name).Space == (T_api_Name.mk s.Name.Space s.Name.Local).Space && (((rd kids (x : Int)).Name).Local == (T_api_Name.mk s.Name.Space s.Name.Local).Local && true)))) = named (rd kids (x : Int)) s := rfl
      rw [hn]
      have := ih (x + 1) (by omega) (by omega)
      rw [ht] at this
      cases hnn : named (rd kids (x : Int)) s with
      | true => rw [hnn] at this; rw [if_pos rfl]; exact this
      | false => rw [hnn] at this; rw [if_neg (by simp)]; exact this
    · have hxe : x = j + 1 := by omega
      subst hxe
      have hr : rd kids (j : Int) = kids[j] := by simp [rd, hj]
      have ht : cntN (kids.take (j + 1)) s = cntN (kids.take j) s + (if named (rd kids (j : Int)) s then 1 else 0) := by
        rw [List.take_succ_eq_append_getElem hj, hr]; unfold cntN; rw [List.countP_append, List.countP_singleton]
      have hmem : rd kids (j : Int) ∈ kids := by rw [hr]; exact List.getElem_mem hj
      rw [if_neg (by simp; omega), if_pos (by omega), rget_eq k _ _ (by have := hb.2 _ hmem; omega) (by have := hb.2 _ hmem; omega), Option.bind_some]
      rw [ht]
      unfold fit tested named
      generalize rd kids (j : Int) = n
      generalize cntN (kids.take j) s = q
      cases h1 : (n.Kind == 1) with
      | false =>
        have : (n.Kind != 1) = true := by simpa [bne] using h1
        rw [this]; simp
      | true =>
        have : (n.Kind != 1) = false := by simpa [bne] using h1
        rw [this]
        have e : (s.Any || (n.Name.Space == s.Name.Space && (n.Name.Local == s.Name.Local && true))) = !((!s.Any) && (!(n.Name.Space == (T_api_Name.mk s.Name.Space s.Name.Local).Space && (n.Name.Local == (T_api_Name.mk s.Name.Space s.Name.Local).Local && true)))) := by
          cases s.Any <;> simp
        rw [e]
        generalize ((!s.Any) && (!(n.Name.Space == (T_api_Name.mk s.Name.Space s.Name.Local).Space && (n.Name.Local == (T_api_Name.mk s.Name.Space s.Name.Local).Local && true)))) = z
        cases z with
        | true => simp
        | false =>
          simp only [Bool.not_false, Bool.and_self, if_true, Bool.or_false, Bool.false_or, Bool.true_and]
          have e2 : ((s.Pos != 0) && (s.Pos != ((q + 1 : Nat) : Int))) = !((s.Pos == 0) || (s.Pos == ((q + 1 : Nat) : Int))) := by simp [bne]
          rw [e2]
          cases ((s.Pos == 0) || (s.Pos == ((q + 1 : Nat) : Int))) <;> simp
theorem rfits_eq (k : Nat) (hk : 90000 < k) (n : T_api_Node) (i : Int) (s : T_api_Step) (hb : bnd n.Kids) : watchbillref12_Fits k n i s = some (fitS n.Kids s i) := by
  have hb1 := hb.1
  unfold watchbillref12_Fits fitS
  cases hs : (s.Kind == 1) with
  | false =>
    have : (s.Kind != 1) = true := by simpa [bne] using hs
    rw [this]; simp
  | true =>
    have : (s.Kind != 1) = false := by simpa [bne] using hs
    rw [this]
    by_cases hi : 0 ≤ i ∧ i < (n.Kids.length : Int)
    · obtain ⟨j, rfl⟩ := Int.eq_ofNat_of_zero_le hi.1
      rw [if_neg (by simp; omega)]
      have := rfits_l k n.Kind n.Name.Space n.Name.Local n.Text n.Attrs n.Kids s hk hb j (by omega) k 0 (by omega) (by omega)
      have e : cntN (n.Kids.take 0) s = 0 := rfl
      rw [e] at this
      refine this.trans ?_
      simp [hi.2]
    · rw [if_pos (by simp; omega)]
      have : (decide (0 ≤ i) && decide (i < (n.Kids.length : Int))) = false := by simp; omega
      rw [this]; rfl
end Go.Proofs.Ytldkgladombmcaa.Pure
