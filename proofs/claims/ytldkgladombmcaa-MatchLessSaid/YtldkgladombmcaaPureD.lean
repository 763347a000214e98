/- Proved here: what steps select, by walking down and by looking at each place; the law MatchFinds. -/
import Derived.Test.YtldkgladombmcaaPureC
namespace Go.Proofs.Ytldkgladombmcaa.Pure
open Go Go.RowKit Go.Proofs.Vx Go.Proofs.Ytldkgladombmcaa.Sh

def selS : List T_api_Node → List T_api_Step → List Int → Bool
  | kids, s :: l, i :: p => fitS kids s i && selS (rd kids i).Kids l p
  | _, [], [] => true
  | _, _, _ => false
theorem selS_len : ∀ (l : List T_api_Step) (kids : List T_api_Node) (p : List Int), selS kids l p = true → l.length = p.length ∧ ∀ s ∈ l, s.Kind = 1
  | [], _, [], _ => ⟨rfl, fun s h => by cases h⟩
  | [], _, _ :: _, h => by simp [selS] at h
  | _ :: _, _, [], h => by simp [selS] at h
  | s :: l, kids, i :: p, h => by
    simp only [selS, Bool.and_eq_true] at h
    obtain ⟨h1, h2⟩ := selS_len l _ p h.2
    refine ⟨by simp [h1], fun q hq => ?_⟩
    rcases List.mem_cons.1 hq with rfl | hq
    · have := h.1; simp only [fitS, Bool.and_eq_true, beq_iff_eq] at this; exact this.1
    · exact h2 q hq
def small (l : List T_api_Node) : Prop := wtL l ≤ 40000
theorem small_bnd {l : List T_api_Node} (h : small l) : bnd l := by
  unfold small at h
  refine ⟨by have := wtL_len l; omega, fun n hn => ?_⟩
  have := wtL_mem hn; have := wt_eq n; omega
theorem small_kids {l : List T_api_Node} (h : small l) {n : T_api_Node} (hn : n ∈ l) : small n.Kids := by
  unfold small at *
  have := wtL_mem hn; have := wt_eq n; omega
theorem fitS_in {kids : List T_api_Node} {s : T_api_Step} {i : Int} (h : fitS kids s i = true) : 0 ≤ i ∧ i < (kids.length : Int) ∧ rd kids i ∈ kids := by
  simp only [fitS, Bool.and_eq_true, decide_eq_true_eq] at h
  have hi := h.2.1
  refine ⟨hi.1, hi.2, ?_⟩
  have : i.toNat < kids.length := by omega
  simp [rd, this]
/-- The document's own test of a place. -/
theorem sel_l (k : Nat) (hk : 90000 < k) (l : List T_api_Step) (p : List Int) (hl : l.length = p.length + 1) (h9 : l.length ≤ 60000) : ∀ (m i : Nat) (n : T_api_Node), small n.Kids → i ≤ l.length → l.length < i + m →
    watchbillref12_Selects.l0 k l p m n.Kind n.Name.Space n.Name.Local n.Attrs n.Kids n.Text (i : Int) = some (selS n.Kids (l.drop i) ((([0] : List Int) ++ p).drop i)) := by
  intro m
  induction m with
  | zero => intro i n _ h1 h2; omega
  | succ m ih =>
    intro i n hs h1 h2
    unfold watchbillref12_Selects.l0
    have hfl : (([0] : List Int) ++ p).length = l.length := by simp; omega
    by_cases hi : i < l.length
    · have hn : (T_api_Node.mk n.Kind (T_api_Name.mk n.Name.Space n.Name.Local) n.Attrs n.Kids n.Text) = n := by cases n; rfl
      have hd1 : l.drop i = rd l (i : Int) :: l.drop (i + 1) := rd_drop hi
      have hd2 : (([0] : List Int) ++ p).drop i = rd (([0] : List Int) ++ p) (i : Int) :: (([0] : List Int) ++ p).drop (i + 1) := rd_drop (by omega)
      rw [if_pos (by simp; omega), if_pos (by rw [hfl]; omega), if_pos (by omega), hn, rfits_eq k hk n _ _ (small_bnd hs), Option.bind_some, hd1, hd2]
      simp only [selS]
      cases hf : fitS n.Kids (rd l (i : Int)) (rd (([0] : List Int) ++ p) (i : Int)) with
      | false => simp
      | true =>
        obtain ⟨g1, g2, g3⟩ := fitS_in hf
        rw [if_neg (by simp), if_pos (by rw [hfl]; omega), if_pos ⟨g1, g2⟩, wi (by omega), Bool.true_and]
        exact ih (i + 1) (rd n.Kids (rd (([0] : List Int) ++ p) (i : Int))) (small_kids hs g3) (by omega) (by omega)
    · rw [if_neg (by simp; omega), List.drop_of_length_le (by omega), List.drop_of_length_le (by omega)]; simp [selS]
theorem sel_eq (k : Nat) (hk : 90000 < k) (root : T_api_Node) (l : List T_api_Step) (p : List Int) (h9 : l.length ≤ 60000) (hp : p.length ≤ 90000) (hs : small [root]) : watchbillref12_Selects k root l p = some (selS [root] l (0 :: p)) := by
  unfold watchbillref12_Selects
  rw [wi (i := p.length) (by omega)]
  by_cases hl : l.length = p.length + 1
  · rw [if_neg (by simp; omega), if_pos (by simp; omega)]
    have := sel_l k hk l p hl h9 k 0 (T_api_Node.mk 1 (T_api_Name.mk ([] : Str) ([] : Str)) ([] : List T_api_Attr) ([root] : List T_api_Node) ([] : Str)) hs (by omega) (by omega)
    exact this
  · rw [if_pos (by simp; omega)]
    cases h : selS [root] l (0 :: p) with
    | false => rfl
    | true => have := (selS_len l _ _ h).1; simp at this; omega
theorem rfind_l (k : Nat) (hk : 90000 < k) (n : T_api_Node) (l : List T_api_Step) (t : List (List Int)) (h9 : l.length ≤ 60000) (hs : small [n]) (ht : t.length ≤ 60000) (hp : ∀ p ∈ t, p.length ≤ 90000) : ∀ (m i : Nat) (y : List (List Int)), i ≤ t.length → t.length < i + m → y.length ≤ i →
    watchbillref12_Find.l0 k l t m n.Kind n.Name.Space n.Name.Local n.Attrs n.Kids n.Text y (i : Int) = some (y ++ (t.drop i).filter fun p => selS [n] l (0 :: p)) := by
  intro m
  induction m with
  | zero => intro i y h1 h2; omega
  | succ m ih =>
    intro i y h1 h2 h3
    unfold watchbillref12_Find.l0
    by_cases hi : i < t.length
    · have hn : (T_api_Node.mk n.Kind (T_api_Name.mk n.Name.Space n.Name.Local) n.Attrs n.Kids n.Text) = n := by cases n; rfl
      have hm : rd t (i : Int) ∈ t := by simp [rd, hi]
      rw [if_pos (by simp; omega), if_pos (by omega), hn, sel_eq k hk n l _ h9 (hp _ hm) hs, Option.bind_some, rd_drop hi, List.filter_cons, wi (by omega)]
      cases hc : selS [n] l (0 :: rd t (i : Int)) with
      | true =>
        rw [if_pos rfl, if_pos (by omega), if_pos (by simp; omega), if_pos rfl, ih (i + 1) _ (by omega) (by omega) (by simp; omega)]
        simp
      | false =>
        rw [if_neg (by simp), if_neg (by simp)]
        exact ih (i + 1) y (by omega) (by omega) (by omega)
    · rw [if_neg (by simp; omega), List.drop_of_length_le (by omega)]; simp
theorem rfind_eq (n : T_api_Node) (l : List T_api_Step) (h9 : l.length ≤ 60000) (hw : wt n ≤ 30000) : watchbillref12_Find 400000 n l = some ((plc n).filter fun p => selS [n] l (0 :: p)) := by
  have hb := plc_bnd n
  unfold watchbillref12_Find
  rw [rplaces_eq 40000 400000 n (by omega) (by omega) (by omega), Option.bind_some]
  have := rfind_l 400000 (by omega) n l (plc n) h9 (by unfold small; rw [wtL, wtL]; omega) (by omega) (fun p hp => by have := hb.2 p hp; omega) 400000 0 [] (by omega) (by omega) (by simp)
  simpa using this

/-! ### Walking down -/
def findS : List T_api_Step → List T_api_Node → List (List Int)
  | [], _ => []
  | s :: l, kids => (nums kids s 0 0).flatMap fun i => if l.length = 0 then [[i]] else (findS l (rd kids i).Kids).map fun p => i :: p
theorem plcL_cons : ∀ (l : List T_api_Node) (i : Nat) (p : List Int), p ∈ plcL l i → ∃ j q, p = j :: q
  | [], i, p, h => by rw [plcL] at h; cases h
  | n :: l, i, p, h => by
    rw [plcL] at h
    rcases List.mem_append.1 h with h | h
    · obtain ⟨q, _, rfl⟩ := List.mem_map.1 h; exact ⟨_, _, rfl⟩
    · exact plcL_cons l (i + 1) p h
theorem find_main : ∀ (l : List T_api_Step) (kids : List T_api_Node), l ≠ [] → (∀ s ∈ l, s.Kind = 1) → findS l kids = (plcL kids 0).filter (selS kids l)
  | [], _, h, _ => absurd rfl h
  | s :: l, kids, _, hk => by
    have hks : (s.Kind == 1) = true := by simpa using hk s (by simp)
    have ih := fun (kids : List T_api_Node) (hl : l ≠ []) => find_main l kids hl (fun q hq => hk q (by simp [hq]))
    have suf : ∀ (suf pre : List T_api_Node), kids = pre ++ suf → (plcL suf pre.length).filter (selS kids (s :: l)) = (nums suf s pre.length (cntN pre s)).flatMap fun i => if l.length = 0 then [[i]] else (findS l (rd kids i).Kids).map fun p => i :: p := by
      intro suf
      induction suf with
      | nil => intro pre _; rw [plcL, nums]; rfl
      | cons n suf ihs =>
        intro pre hpre
        have ih2 := ihs (pre ++ [n]) (by rw [hpre]; simp)
        have e1 : cntN (pre ++ [n]) s = cntN pre s + (if named n s then 1 else 0) := by unfold cntN; rw [List.countP_append, List.countP_singleton]
        have e3 : (pre ++ [n]).length = pre.length + 1 := by simp
        rw [e1, e3] at ih2
        have hr : rd kids (pre.length : Int) = n := by rw [hpre]; simp [rd]
        have ht : kids.take ((pre.length : Int).toNat) = pre := by rw [hpre]; simp
        have hfit : fitS kids s (pre.length : Int) = fit n s (cntN pre s) := by
          unfold fitS
          rw [hks, hr, ht]
          have : (decide (0 ≤ (pre.length : Int)) && decide ((pre.length : Int) < (kids.length : Int))) = true := by rw [hpre]; simp; omega
          rw [this, Bool.true_and, Bool.true_and]
        rw [plcL, List.filter_append, ih2, nums]
        have hhead : ((plc n).map fun p => (pre.length : Int) :: p).filter (selS kids (s :: l)) = if fit n s (cntN pre s) = true then (if l.length = 0 then [[(pre.length : Int)]] else (findS l n.Kids).map fun p => (pre.length : Int) :: p) else [] := by
          rw [List.filter_map]
          have ef : (selS kids (s :: l) ∘ fun p => (pre.length : Int) :: p) = fun p => fit n s (cntN pre s) && selS n.Kids l p := by
            funext p; simp only [Function.comp, selS, hfit, hr]
          rw [ef]
          cases hf : fit n s (cntN pre s) with
          | false => simp
          | true =>
            have hnm := fit_named hf
            have hkind : (n.Kind == 1) = true := by unfold named at hnm; simp only [Bool.and_eq_true] at hnm; exact hnm.1
            rw [if_pos rfl, plc_eq, if_pos hkind]
            simp only [Bool.true_and]
            cases l with
            | nil =>
              have : (plcL n.Kids 0).filter (fun p => selS n.Kids [] p) = [] := by
                rw [List.filter_eq_nil_iff]
                intro p hp
                obtain ⟨j, q, rfl⟩ := plcL_cons _ _ _ hp
                simp [selS]
              rw [List.filter_cons, this]; simp [selS]
            | cons s2 l2 =>
              rw [List.filter_cons, if_neg (by simp [selS]), if_neg (by simp), ih n.Kids (by simp)]
        rw [hhead]
        cases hn : named n s with
        | false => rw [not_named hn]; simp
        | true =>
          simp only [if_true]
          cases hf : fit n s (cntN pre s) with
          | false => simp
          | true => simp only [if_true, List.flatMap_cons, hr]
    have := suf kids [] rfl
    simp only [List.length_nil, cntN, List.countP_nil] at this
    rw [this, findS]
theorem find_bnd (l : List T_api_Step) (kids : List T_api_Node) (hl : l ≠ []) (hk : ∀ s ∈ l, s.Kind = 1) : (findS l kids).length ≤ wtL kids ∧ ∀ p ∈ findS l kids, p.length = l.length := by
  rw [find_main l kids hl hk]
  refine ⟨Nat.le_trans (List.length_filter_le _ _) (plcL_bnd kids 0).1, fun p hp => ?_⟩
  exact (selS_len l kids p (List.mem_filter.1 hp).2).1.symm
end Go.Proofs.Ytldkgladombmcaa.Pure
