/- Proved here: the program's own walk down finds the same; the law MatchFinds. -/
import Derived.Test.YtldkgladombmcaaPureD
namespace Go.Proofs.Ytldkgladombmcaa.Pure
open Go Go.RowKit Go.Proofs.Vx Go.Proofs.Ytldkgladombmcaa.Sh

theorem nums_in {kids : List T_api_Node} {s : T_api_Step} {a : Int} (h : a ∈ nums kids s 0 0) : 0 ≤ a ∧ a < (kids.length : Int) ∧ rd kids a ∈ kids := by
  have h1 := nums_any kids [] s a
  simp only [List.length_nil, List.nil_append, cntN, List.countP_nil] at h1
  have h2 : (nums kids s 0 0).any (fun x => a == x) = true := List.any_eq_true.2 ⟨a, h, by simp⟩
  rw [h1] at h2
  simp only [Bool.and_eq_true, decide_eq_true_eq] at h2
  have hi := h2.1
  refine ⟨by omega, hi.2, ?_⟩
  have : a.toNat < kids.length := by omega
  simp [rd, this]
theorem sl_tail {α : Type} (l : List α) : sl l 1 (l.length : Int) = l.tail := by
  unfold sl
  rw [show (1 : Int).toNat = 1 from rfl, Int.toNat_natCast, List.drop_one]
  apply List.take_of_length_le; simp
theorem find1_1 (k : Nat) (c0 : List (List Int) → Int → Option (List (List Int))) (kids : List T_api_Node) (l : List T_api_Step) (t2 : List Int) (x : Nat) (hx : x ≤ 90000) (t : List (List Int)) (ht : t.length ≤ 90000) (hp : ∀ p ∈ t, p.length ≤ 90000) : ∀ (m i : Nat) (y : List (List Int)), i ≤ t.length → t.length < i + m → y.length ≤ 90000 + i →
    match_find_1.l1 k c0 kids l t2 (x : Int) t m y (i : Int) = c0 (y ++ (t.drop i).map (fun p => rd t2 (x : Int) :: p)) ((x + 1 : Nat) : Int) := by
  intro m
  induction m with
  | zero => intro i y h1 h2; omega
  | succ m ih =>
    intro i y h1 h2 h3
    unfold match_find_1.l1
    by_cases hi : i < t.length
    · have hm : rd t (i : Int) ∈ t := by simp [rd, hi]
      have := hp _ hm
      rw [if_pos (by simp; omega), if_pos (by omega), if_pos (by simp; omega), if_pos (by simp; omega), wi (by omega), ih (i + 1) _ (by omega) (by omega) (by simp; omega), rd_drop hi]
      simp
    · rw [if_neg (by simp; omega), List.drop_of_length_le (by omega), wi (by omega)]; simp
theorem o1 (k : Nat) (c0 : List (List Int) → Int → Option (List (List Int))) (kids : List T_api_Node) (l : List T_api_Step) (t2 : List Int) (x : Int) (t : List (List Int)) : ∀ (m : Nat) (y : List (List Int)) (i : Int), match_find_o.l1 k c0 kids l t2 x t m y i = match_find_1.l1 k c0 kids l t2 x t m y i := by
  intro m
  induction m with
  | zero => intro y i; rfl
  | succ m ih => intro y i; rw [match_find_o.l1, match_find_1.l1]; simp only [ih]
theorem o0 (k : Nat) (kids : List T_api_Node) (l : List T_api_Step) (t2 : List Int) : ∀ (m : Nat), match_find_o.l0 k kids l t2 m = match_find_1.l0 k (match_find_1 k) kids l t2 m := by
  intro m
  induction m with
  | zero => rfl
  | succ m ih => funext y i; rw [match_find_o.l0, match_find_1.l0]; simp only [ih, o1]
theorem o_eq (k : Nat) (kids : List T_api_Node) (l : List T_api_Step) : match_find_o k kids l = match_find_1 (k + 1) kids l := by
  rw [match_find_o, match_find_1]; simp only [o0]
theorem find1_0 (k : Nat) (hk : 100000 < k) (self : List T_api_Node → List T_api_Step → Option (List (List Int))) (kids : List T_api_Node) (s : T_api_Step) (l : List T_api_Step) (hkind : ∀ q ∈ l, q.Kind = 1) (hl : l.length ≤ 60000) (hs : small kids)
    (hself : l ≠ [] → ∀ n ∈ kids, self n.Kids l = some (findS l n.Kids)) : ∀ (m i : Nat) (y : List (List Int)), i ≤ (nums kids s 0 0).length → (nums kids s 0 0).length < i + m →
      y.length + (((nums kids s 0 0).drop i).flatMap fun i => if l.length = 0 then [[i]] else (findS l (rd kids i).Kids).map fun p => i :: p).length ≤ 90000 →
      match_find_1.l0 k self kids (s :: l) (nums kids s 0 0) m y (i : Int) = some (y ++ ((nums kids s 0 0).drop i).flatMap fun i => if l.length = 0 then [[i]] else (findS l (rd kids i).Kids).map fun p => i :: p) := by
  have hn := nums_len kids s 0 0
  have hb := (small_bnd hs).1
  intro m
  induction m with
  | zero => intro i y h1 h2; omega
  | succ m ih =>
    intro i y h1 h2 h3
    unfold match_find_1.l0
    by_cases hi : i < (nums kids s 0 0).length
    · have hm : rd (nums kids s 0 0) (i : Int) ∈ nums kids s 0 0 := by simp [rd, hi]
      obtain ⟨g1, g2, g3⟩ := nums_in hm
      rw [rd_drop hi, List.flatMap_cons] at h3 ⊢
      rw [if_pos (by simp; omega), if_pos (by omega), wi (by omega)]
      by_cases hl0 : l.length = 0
      · rw [if_pos hl0] at h3 ⊢
        simp at h3
        rw [if_pos (by simp; omega), if_pos (by simp; omega), ih (i + 1) _ (by omega) (by omega) (by simp; omega)]
        simp
      · have hne : l ≠ [] := by intro e; apply hl0; rw [e]; rfl
        obtain ⟨f1, f2⟩ := find_bnd l (rd kids (rd (nums kids s 0 0) (i : Int))).Kids hne hkind
        have hw := small_kids hs g3
        unfold small at hw
        rw [if_neg hl0] at h3 ⊢
        simp only [List.length_append, List.length_map] at h3
        have e1 : sl (s :: l) 1 ((s :: l).length : Int) = l := sl_tail (s :: l)
        have h1' := find1_1 k (match_find_1.l0 k self kids (s :: l) (nums kids s 0 0) m) kids (s :: l) (nums kids s 0 0) i (by omega) (findS l (rd kids (rd (nums kids s 0 0) (i : Int))).Kids) (by omega) (fun p hp => by rw [f2 p hp]; omega) k 0 y (by omega) (by omega) (by omega)
        rw [show ((0 : Nat) : Int) = 0 from rfl, List.drop_zero] at h1'
        rw [if_neg (by simp; omega), if_pos ⟨g1, g2⟩, if_pos (by simp; omega), e1, hself hne _ g3, Option.bind_some, h1', ih (i + 1) _ (by omega) (by omega) (by rw [List.length_append, List.length_map]; omega)]
        simp
    · rw [if_neg (by simp; omega), List.drop_of_length_le (by omega)]; simp
theorem find1_eq : ∀ (l : List T_api_Step) (k : Nat) (kids : List T_api_Node), l ≠ [] → (∀ q ∈ l, q.Kind = 1) → l.length ≤ 60000 → l.length + 100010 ≤ k → small kids → match_find_1 k kids l = some (findS l kids)
  | [], _, _, h, _, _, _, _ => absurd rfl h
  | s :: l, k, kids, _, hkind, hl, hk, hs => by
    obtain ⟨k, rfl⟩ : ∃ z, k = z + 1 := ⟨k - 1, by omega⟩
    have hlen : (s :: l).length = l.length + 1 := rfl
    have ih := fun (n : T_api_Node) (hn : n ∈ kids) (hne : l ≠ []) => find1_eq l k n.Kids hne (fun q hq => hkind q (by simp [hq])) (by omega) (by omega) (small_kids hs hn)
    have hb := find_bnd (s :: l) kids (by simp) hkind
    unfold small at hs
    have hnl := nums_len kids s 0 0
    have hbl := (small_bnd hs).1
    rw [match_find_1, if_pos (by simp)]
    have e : rd (s :: l) 0 = s := rfl
    rw [e, numbers_eq k (by omega) kids s (small_bnd hs), Option.bind_some]
    have := find1_0 k (by omega) (match_find_1 k) kids s l (fun q hq => hkind q (by simp [hq])) (by omega) hs (fun hne n hn => ih n hn hne) k 0 [] (by omega) (by omega) (by
      have h1 := hb.1; rw [findS] at h1; simp only [List.drop_zero, List.length_nil]; omega)
    rw [show ((0 : Nat) : Int) = 0 from rfl, List.drop_zero, List.nil_append] at this
    rw [this, findS]
theorem tails_l (k : Nat) (t : List (List Int)) (h9 : t.length ≤ 90000) (hp : ∀ p ∈ t, 1 ≤ p.length) : ∀ (m i : Nat), i ≤ t.length → t.length < i + m → match_Find.l0 k t m ((t.take i).map List.tail ++ t.drop i) (i : Int) = some (t.map List.tail) := by
  intro m
  induction m with
  | zero => intro i h1 h2; omega
  | succ m ih =>
    intro i h1 h2
    unfold match_Find.l0
    by_cases hi : i < t.length
    · have hA : ((t.take i).map List.tail).length = i := by simp; omega
      have hr : rd ((t.take i).map List.tail ++ t.drop i) (i : Int) = t[i] := by
        unfold rd
        rw [Int.toNat_natCast, List.getD_eq_getElem?_getD, List.getElem?_append_right (by omega), hA, Nat.sub_self, List.drop_eq_getElem_cons hi]; rfl
      have hpos := hp _ (List.getElem_mem hi)
      have hln : (((t.take i).map List.tail ++ t.drop i).length : Int) = t.length := by simp; omega
      rw [if_pos (by simp; omega), hln, if_pos (by omega), hr, if_pos (by omega), if_pos (by omega), sl_tail, wi (by omega), Int.toNat_natCast]
      have hs : ((t.take i).map List.tail ++ t.drop i).set i (t[i]).tail = (t.take (i + 1)).map List.tail ++ t.drop (i + 1) := by
        rw [List.set_append_right _ _ (by omega), hA, Nat.sub_self, List.drop_eq_getElem_cons hi, List.set_cons_zero, List.take_succ_eq_append_getElem hi, List.map_append, List.append_assoc]; rfl
      rw [hs]
      exact ih (i + 1) (by omega) (by omega)
    · have : i = t.length := by omega
      rw [if_neg (by simp; omega), this, List.take_length, List.drop_length, List.append_nil]
def FS (n : T_api_Node) (l : List T_api_Step) : List (List Int) := (plc n).filter fun p => selS [n] l (0 :: p)
theorem mFind_eq (n : T_api_Node) (l : List T_api_Step) (hl : l.length ≤ 60000) (hw : wt n ≤ 30000) : match_Find 400000 n l = some (FS n l) := by
  unfold match_Find
  rw [names_eq 400000 l hl (by omega)]
  have hsm : small [n] := by unfold small; rw [wtL, wtL]; omega
  by_cases h0 : l = []
  · subst h0
    have : FS n [] = [] := by unfold FS; rw [List.filter_eq_nil_iff]; intro p _; simp [selS]
    rw [this]; simp
  · have hpos : 0 < l.length := List.length_pos_iff.2 h0
    have e0 : ((l.length : Int) == 0) = false := by simpa using h0
    rw [e0]
    simp only [beq_self_eq_true, if_true, Option.bind_some, Bool.false_or, Bool.not_not]
    cases hk : (l.any fun s => s.Kind != 1) with
    | true =>
      rw [if_pos rfl]
      have : FS n l = [] := by
        unfold FS; rw [List.filter_eq_nil_iff]
        intro p _ hc
        have h2 := (selS_len l _ _ hc).2
        obtain ⟨s, hs, hsk⟩ := List.any_eq_true.1 hk
        simp [h2 s hs] at hsk
      rw [this]
    | false =>
      rw [if_neg (by simp), o_eq]
      have hkind : ∀ s ∈ l, s.Kind = 1 := fun s hs => by
        have := List.any_eq_false.1 hk s hs
        simpa using this
      have hb := find_bnd l [n] h0 hkind
      have hbw : wtL [n] = wt n := by rw [wtL, wtL]; omega
      rw [find1_eq l 400001 [n] h0 hkind hl (by omega) hsm, Option.bind_some]
      have := tails_l 400000 (findS l [n]) (by omega) (fun p hp => by rw [hb.2 p hp]; omega) 400000 0 (by omega) (by omega)
      rw [List.take_zero, List.map_nil, List.drop_zero, List.nil_append, show ((0 : Nat) : Int) = 0 from rfl] at this
      rw [this, find_main l [n] h0 hkind]
      congr 1
      have e1 : plcL [n] 0 = (plc n).map fun p => (0 : Int) :: p := by rw [plcL, plcL, List.append_nil]; rfl
      rw [e1, List.filter_map, List.map_map]
      unfold FS
      have e2 : (List.tail ∘ fun p => (0 : Int) :: p) = id := by funext p; rfl
      rw [e2, List.map_id]; rfl
theorem same_l (k : Nat) (p : List Int) (h9 : p.length ≤ 90000) : ∀ (m i : Nat), i ≤ p.length → p.length < i + m → watchbillref06_Same.l0 k p p m (i : Int) = some true := by
  intro m
  induction m with
  | zero => intro i h1 h2; omega
  | succ m ih =>
    intro i h1 h2
    unfold watchbillref06_Same.l0
    by_cases hi : i < p.length
    · rw [if_pos (by simp; omega), if_pos (by omega), if_pos (by omega), if_neg (by simp), wi (by omega)]
      exact ih (i + 1) (by omega) (by omega)
    · rw [if_neg (by simp; omega)]
theorem same_eq (k : Nat) (p : List Int) (h9 : p.length ≤ 90000) (hk : 90000 < k) : watchbillref06_Same k p p = some true := by
  unfold watchbillref06_Same
  rw [if_neg (by simp)]
  exact same_l k p h9 k 0 (by omega) (by omega)
theorem sames (t : List (List Int)) (h9 : t.length ≤ 90000) (hp : ∀ p ∈ t, p.length ≤ 90000) : ∀ (m i : Nat), i ≤ t.length → t.length < i + m → watchbilllaw12_MatchFinds.l0 400000 t t m (i : Int) = some true := by
  intro m
  induction m with
  | zero => intro i h1 h2; omega
  | succ m ih =>
    intro i h1 h2
    unfold watchbilllaw12_MatchFinds.l0
    by_cases hi : i < t.length
    · have hm : rd t (i : Int) ∈ t := by simp [rd, hi]
      rw [if_pos (by simp; omega), if_pos (by omega), if_pos (by omega), same_eq 400000 _ (hp _ hm) (by omega), Option.bind_some, if_neg (by simp), wi (by omega)]
      exact ih (i + 1) (by omega) (by omega)
    · rw [if_neg (by simp; omega)]
theorem FS_bnd (n : T_api_Node) (l : List T_api_Step) (hw : wt n ≤ 30000) : (FS n l).length ≤ 30000 ∧ ∀ p ∈ FS n l, p ∈ plc n ∧ p.length ≤ 30000 := by
  have hb := plc_bnd n
  unfold FS
  refine ⟨Nat.le_trans (List.length_filter_le _ _) (by omega), fun p hp => ?_⟩
  have := (List.mem_filter.1 hp).1
  exact ⟨this, by have := hb.2 p this; omega⟩
theorem MatchFinds (a0 : T_api_Node) (a1 : List T_api_Step) (a2 : Int) (a3 : T_api_Step) (w2 : (Lit.int .i64 a2).wf = true) : ∃ k, watchbilllaw12_MatchFinds k a0 a1 a2 a3 = some true := by
  refine ⟨400000, ?_⟩
  unfold watchbilllaw12_MatchFinds
  rw [awake, Option.bind_some, if_neg (by simp)]
  obtain ⟨b, hb, hbw⟩ := few_eq a0
  obtain ⟨c, hc, _⟩ := few10_eq a1
  rw [hb, hc, Option.bind_some]
  cases b with
  | false => simp
  | true =>
    have hw := hbw rfl
    simp only [Bool.not_true, beq_self_eq_true, if_true, Option.bind_some, Bool.false_or]
    by_cases h30 : c = false ∨ a1.length > 30
    · rw [if_pos (by rcases h30 with rfl | h; rfl; simp; right; omega)]
    · rw [if_neg (by simp at h30 ⊢; exact ⟨h30.1, by omega⟩), if_pos (by simp; simp at h30; omega), List.nil_append]
      have h30' : a1.length ≤ 30 := by simp at h30; exact h30.2
      have hbn : bnd a0.Kids := by
        have h1 := wt_eq a0
        have h2 := wtL_len a0.Kids
        refine ⟨by omega, fun n hn => ?_⟩
        have := wtL_mem hn; have := wt_eq n; omega
      rw [mFind_eq a0 a1 (by omega) hw, rfind_eq a0 a1 (by omega) hw, fits_eq 400000 (by omega) a0 a2 a3 hbn, rfits_eq 400000 (by omega) a0 a2 a3 hbn]
      have hB := FS_bnd a0 a1 hw
      have := sames (FS a0 a1) (by omega) (fun p hp => by have := (hB.2 p hp).2; omega) 400000 0 (by omega) (by omega)
      rw [show ((0 : Nat) : Int) = 0 from rfl] at this
      have e : (plc a0).filter (fun p => selS [a0] a1 (0 :: p)) = FS a0 a1 := rfl
      rw [e]
      simp [this]
end Go.Proofs.Ytldkgladombmcaa.Pure
