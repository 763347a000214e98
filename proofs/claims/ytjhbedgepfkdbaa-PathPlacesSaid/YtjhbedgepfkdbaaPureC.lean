/- Proved here: PathPlaces: places held against one another, elements on the way, awake. -/
import Derived.Test.YtjhbedgepfkdbaaPureB
namespace Go.Proofs.Ytjhbedgepfkdbaa.Pure
open Go Go.RowKit Go.Proofs.Vx Go.Proofs.Ytjhbedgepfkdbaa.Sh
theorem psame_l (k : Nat) (a b : List Int) (hab : a.length = b.length) (h9 : a.length ≤ 2000000000) : ∀ (m j : Nat), j ≤ a.length → a.length < j + m → watchbillref06_Same.l0 k a b m (j : Int) = some (decide (a.drop j = b.drop j)) := by
  intro m
  induction m with
  | zero => intro j h1 h2; omega
  | succ m ih =>
    intro j h1 h2
    unfold watchbillref06_Same.l0
    by_cases hj : j < a.length
    · rw [if_pos (by simp; omega), if_pos (by omega), if_pos (by omega), rd_drop hj, rd_drop (p := b) (by omega)]
      by_cases he : rd a (j : Int) = rd b (j : Int)
      · rw [if_neg (by simp [he]), wi (by omega), ih (j + 1) (by omega) (by omega), he]
        simp
      · rw [if_pos (by simpa using he)]
        simp [he]
    · rw [if_neg (by simp; omega), List.drop_of_length_le (by omega), List.drop_of_length_le (by omega)]
      rfl
theorem psame_eq (k : Nat) (a b : List Int) (h9 : a.length ≤ 2000000000) (hk : a.length < k) : watchbillref06_Same k a b = some (decide (a = b)) := by
  unfold watchbillref06_Same
  by_cases hab : a.length = b.length
  · have := psame_l k a b hab h9 k 0 (by omega) (by omega)
    rw [List.drop_zero, List.drop_zero] at this
    rw [if_neg (by simp; omega)]
    exact this
  · rw [if_pos (by simp; omega)]
    have : a ≠ b := fun h => hab (by rw [h])
    simp [this]
def good (p : List Int) (n : T_api_Node) : Bool := (atS p n).2 && ((atS p n).1.Kind == 1)
def allG (p : List Int) (n : T_api_Node) : Nat → Nat → Bool
  | _, 0 => true
  | j, c + 1 => good (p.take j) n && allG p n (j + 1) c
theorem elements_l (k : Nat) (hk : 4000000010 ≤ k) (p : List Int) (h9 : p.length ≤ 1000000000) (n : T_api_Node) : ∀ (m j c : Nat), j + c = p.length + 1 → c < m →
    watchbilllaw06_elements.l0 k p m n.Kind n.Name.Space n.Name.Local n.Attrs n.Kids n.Text (j : Int) = some (allG p n j c) := by
  intro m
  induction m with
  | zero => intro j c h1 h2; omega
  | succ m ih =>
    intro j c h1 h2
    unfold watchbilllaw06_elements.l0
    cases c with
    | zero => rw [if_neg (by simp; omega)]; rfl
    | succ c =>
      have hs : sl p 0 (j : Int) = p.take j := by simp [sl]
      rw [if_pos (by simp; omega), if_pos (by omega), show T_api_Node.mk n.Kind (T_api_Name.mk n.Name.Space n.Name.Local) n.Attrs n.Kids n.Text = n from by cases n; rfl, hs, rat_eq _ k n (by simp; omega), Option.bind_some]
      unfold allG
      by_cases hg : good (p.take j) n = true
      · have hg' := hg
        unfold good at hg'
        rw [Bool.and_eq_true] at hg'
        rw [if_neg (by simp [hg'.1]; simpa using hg'.2), wi (by omega), ih (j + 1) c (by omega) (by omega), hg, Bool.true_and]
      · have hf : good (p.take j) n = false := by simpa using hg
        have hg' := hf
        unfold good at hg'
        rw [if_pos (by cases h1 : (atS (p.take j) n).2 <;> simp [h1] at hg' ⊢; exact hg'), hf, Bool.false_and]
theorem elements_eq (k : Nat) (hk : 4000000010 ≤ k) (p : List Int) (h9 : p.length ≤ 1000000000) (n : T_api_Node) : watchbilllaw06_elements k n p = some (allG p n 0 (p.length + 1)) := by
  have := elements_l k hk p h9 n k 0 (p.length + 1) (by omega) (by omega)
  exact this
theorem good_cons (i : Int) (q : List Int) (n : T_api_Node) : good (i :: q) n = (decide (0 ≤ i ∧ i < (n.Kids.length : Int)) && good q (rd n.Kids i)) := by
  unfold good
  rw [atS]
  by_cases hi : 0 ≤ i ∧ i < (n.Kids.length : Int)
  · rw [if_pos hi, decide_eq_true hi, Bool.true_and]
  · rw [if_neg hi, decide_eq_false hi, Bool.false_and]; rfl
theorem allG_cons (i : Int) (q : List Int) (n : T_api_Node) : ∀ (c j : Nat), allG (i :: q) n (j + 1) c = (Nat.beq c 0 || (decide (0 ≤ i ∧ i < (n.Kids.length : Int)) && allG q (rd n.Kids i) j c))
  | 0, j => rfl
  | c + 1, j => by
    rw [allG, List.take_succ_cons, good_cons, allG_cons i q n c (j + 1), allG]
    cases decide (0 ≤ i ∧ i < (n.Kids.length : Int)) with
    | false => simp [Nat.beq]
    | true =>
      simp only [Bool.true_and]
      cases c with
      | zero => simp [allG, Nat.beq]
      | succ c => simp [Nat.beq]
theorem mem_plcL (P : T_api_Node → List (List Int)) (p : List Int) : ∀ (l : List T_api_Node) (s : Nat), p ∈ plcL P l s ↔ ∃ (j : Nat) (q : List Int), j < l.length ∧ p = ((s + j : Nat) : Int) :: q ∧ q ∈ P (rd l (j : Int))
  | [], s => by simp [plcL]
  | n :: l, s => by
    rw [plcL, List.mem_append, mem_plcL P p l (s + 1), List.mem_map]
    constructor
    · rintro (⟨q, hq, rfl⟩ | ⟨j, q, hj, rfl, hq⟩)
      · exact ⟨0, q, by simp, by simp, by simpa [rd] using hq⟩
      · exact ⟨j + 1, q, by simpa using hj, by congr 2; omega, by simpa [rd] using hq⟩
    · rintro ⟨j, q, hj, rfl, hq⟩
      cases j with
      | zero => exact .inl ⟨q, by simpa [rd] using hq, by simp⟩
      | succ j => exact .inr ⟨j, q, by simpa using hj, by congr 2; omega, by simpa [rd] using hq⟩
theorem mem_plc : ∀ (p : List Int) (n : T_api_Node), decide (p ∈ plc n) = allG p n 0 (p.length + 1)
  | [], n => by
    rw [plc_eq]
    show _ = (good [] n && true)
    have hg : good [] n = (n.Kind == 1) := by unfold good; rw [atS, Bool.true_and]
    rw [hg, Bool.and_true]
    by_cases hk : n.Kind = 1
    · simp [hk]
    · simp [hk]
  | i :: q, n => by
    rw [plc_eq, allG, List.take_zero, allG_cons, List.length_cons]
    have hg : good [] n = (n.Kind == 1) := by unfold good; rw [atS, Bool.true_and]
    rw [hg]
    by_cases hk : n.Kind = 1
    · rw [if_pos hk, ← mem_plc q (rd n.Kids i)]
      have hm : (i :: q ∈ ([] : List Int) :: plcL plc n.Kids 0) ↔ (0 ≤ i ∧ i < (n.Kids.length : Int)) ∧ q ∈ plc (rd n.Kids i) := by
        rw [List.mem_cons, mem_plcL]
        constructor
        · rintro (h | ⟨j, r, hj, he, hr⟩)
          · cases h
          · rw [Nat.zero_add] at he
            cases he
            exact ⟨⟨by omega, by omega⟩, hr⟩
        · rintro ⟨hi, hq⟩
          refine .inr ⟨i.toNat, q, by omega, ?_, ?_⟩
          · rw [Nat.zero_add]; congr 1; omega
          · rw [show ((i.toNat : Nat) : Int) = i by omega]; exact hq
      rw [show decide (i :: q ∈ ([] : List Int) :: plcL plc n.Kids 0) = decide ((0 ≤ i ∧ i < (n.Kids.length : Int)) ∧ q ∈ plc (rd n.Kids i)) from decide_eq_decide.2 hm]
      simp [hk, Nat.beq]
    · rw [if_neg hk]
      simp [hk]
theorem allG_good (p : List Int) (n : T_api_Node) : ∀ (c j : Nat), j + c = p.length → allG p n j (c + 1) = true → good p n = true
  | 0, j, h, ha => by
    rw [allG, allG, Bool.and_true, show p.take j = p from List.take_of_length_le (by omega)] at ha
    exact ha
  | c + 1, j, h, ha => by
    rw [allG, Bool.and_eq_true] at ha
    exact allG_good p n c (j + 1) (by omega) ha.2
theorem pp_l (k : Nat) (hk : 4000000010 ≤ k) (n : T_api_Node) (hw : wt n ≤ 1000000000) (p : List Int) (h9 : p.length ≤ 1000000000) : ∀ (m j : Nat) (x : Bool), j ≤ (plc n).length → (plc n).length < j + m →
    watchbilllaw06_PathPlaces.l0 k p (atS p n) (plc n) (plc n) m n.Kind n.Name.Space n.Name.Local n.Attrs n.Kids n.Text (atS p n).1.Kind (atS p n).1.Name.Space (atS p n).1.Name.Local (atS p n).1.Attrs (atS p n).1.Kids (atS p n).1.Text x (j : Int) =
      some ((x || decide (p ∈ (plc n).drop j)) == allG p n 0 (p.length + 1)) := by
  obtain ⟨b1, b2⟩ := plc_bound _ n (Nat.le_refl _)
  intro m
  induction m with
  | zero => intro j x h1 h2; omega
  | succ m ih =>
    intro j x h1 h2
    unfold watchbilllaw06_PathPlaces.l0
    by_cases hj : j < (plc n).length
    · have hm : rd (plc n) (j : Int) ∈ plc n := by simp [rd, hj]
      have hb := b2 _ hm
      rw [if_pos (by simp; omega), if_pos (by omega), if_pos (by omega), psame_eq k _ _ (by omega) (by omega), Option.bind_some, if_neg (by simp), if_pos (by intro _; omega), rd_dropL hj, wi (by omega)]
      cases x with
      | true =>
        rw [if_neg (by simp), Option.bind_some, ih (j + 1) _ (by omega) (by omega)]
        simp
      | false =>
        rw [if_pos (by simp), psame_eq k _ _ (by omega) (by omega), Option.bind_some, ih (j + 1) _ (by omega) (by omega)]
        congr 2
        by_cases he : rd (plc n) (j : Int) = p
        · simp [he]
        · have he' : ¬ p = rd (plc n) (j : Int) := fun h => he h.symm
          simp [he, he']
    · rw [if_neg (by simp; omega), List.drop_of_length_le (by omega)]
      by_cases hg : good p n = true
      · have hg' := hg
        unfold good at hg'
        rw [hg', if_pos (by rfl), show T_api_Node.mk n.Kind (T_api_Name.mk n.Name.Space n.Name.Local) n.Attrs n.Kids n.Text = n from by cases n; rfl, elements_eq k hk p h9 n, Option.bind_some]
        simp
      · have hf : good p n = false := by simpa using hg
        have hg' := hf
        unfold good at hg'
        have ha : allG p n 0 (p.length + 1) = false := by
          cases h : allG p n 0 (p.length + 1) with
          | false => rfl
          | true => exact absurd (allG_good p n p.length 0 (by omega) h) hg
        rw [hg', if_neg (by simp), Option.bind_some, ha]
        simp
theorem atS_wt : ∀ (p : List Int) (n : T_api_Node), wt n ≤ 1000000000 → wt (atS p n).1 ≤ 1000000000
  | [], n, h => h
  | i :: q, n, h => by
    rw [atS]
    split
    · rename_i hi; exact atS_wt q _ (kidw hi h)
    · exact Nat.le_of_ble_eq_true (by kernel_rfl)
theorem joined_awake : path_joined 9000000000 [(T_api_Node.mk 2 (T_api_Name.mk ([] : Str) ([] : Str)) ([] : List T_api_Attr) ([] : List T_api_Node) ([120] : Str)), (T_api_Node.mk 2 (T_api_Name.mk ([] : Str) ([] : Str)) ([] : List T_api_Attr) ([] : List T_api_Node) ([121] : Str))] = some [(T_api_Node.mk 2 (T_api_Name.mk ([] : Str) ([] : Str)) ([] : List T_api_Attr) ([] : List T_api_Node) ([120, 121] : Str))] := by kernel_rfl
def oA : T_api_Node := T_api_Node.mk 1 (T_api_Name.mk ([] : Str) ([97] : Str)) ([] : List T_api_Attr) ([] : List T_api_Node) ([] : Str)
def oX (t : Str) : T_api_Node := T_api_Node.mk 2 (T_api_Name.mk ([] : Str) ([] : Str)) ([] : List T_api_Attr) ([] : List T_api_Node) t
def oT (l : List T_api_Node) : T_api_Node := T_api_Node.mk 1 (T_api_Name.mk ([] : Str) ([97] : Str)) ([] : List T_api_Attr) l ([] : Str)
theorem joined_awake2 : path_joined 9000000000 [oA, oX [120], oA, oX [121]] = some [oA, oX [120], oA, oX [121]] := by kernel_rfl
theorem wt_t3 : wt (oT [oX [120], oA, oX [121]]) ≤ 1000000000 := Nat.le_of_ble_eq_true (by kernel_rfl)
theorem wt_oA : wt oA ≤ 1000000000 := Nat.le_of_ble_eq_true (by kernel_rfl)
theorem rem_awake (k : Nat) : path_Remove k (oT [oX [120], oA, oX [121]]) [1] = some (oT [oX [120, 121]], true) := by
  unfold path_Remove
  rw [if_pos ⟨wt_t3, by simp⟩, if_neg (by simp)]
  show kidsG (remF 1) (oT [oX [120], oA, oX [121]]) = _
  unfold kidsG
  rw [show remF 1 (oT [oX [120], oA, oX [121]]).Kids = some [oX [120], oX [121]] from rfl]
  simp only
  rw [if_pos (show (oT [oX [120], oA, oX [121]]).Kind = 1 from rfl), show path_joined 9000000000 [oX [120], oX [121]] = some [oX [120, 121]] from joined_awake]
  rfl
theorem ins_awake (k : Nat) : path_Insert k (oT [oX [120], oA, oX [121]]) oA 0 [] = some (oT [oA, oX [120], oA, oX [121]], true) := by
  unfold path_Insert
  rw [if_pos ⟨wt_t3, wt_oA⟩]
  show kidsG (insF 0 oA) (oT [oX [120], oA, oX [121]]) = _
  unfold kidsG
  rw [show insF 0 oA (oT [oX [120], oA, oX [121]]).Kids = some [oA, oX [120], oA, oX [121]] from rfl]
  simp only
  rw [if_pos (show (oT [oX [120], oA, oX [121]]).Kind = 1 from rfl), joined_awake2]
  rfl
set_option maxRecDepth 100000 in
theorem awake_k (k : Nat) (hk : 9000000000 ≤ k) : watchbilllaw06_awake k = some true := by
  have hpl : ∀ n, wt n ≤ 1000000000 → path_Places k n = some (plc n) := fun n h => places_eq (wt n) k n (Nat.le_refl _) h (by omega)
  have hw := wt_t3
  unfold watchbilllaw06_awake
  rw [show watchbilllaw06_one [] = some oA from rfl, Option.bind_some]
  rw [show watchbilllaw06_one [T_api_Node.mk 2 (T_api_Name.mk ([] : Str) ([] : Str)) ([] : List T_api_Attr) ([] : List T_api_Node) ([120] : Str), oA, T_api_Node.mk 2 (T_api_Name.mk ([] : Str) ([] : Str)) ([] : List T_api_Attr) ([] : List T_api_Node) ([121] : Str)] = some (oT [oX [120], oA, oX [121]]) from rfl, Option.bind_some,
    rem_awake, Option.bind_some, Option.bind_some, ins_awake, Option.bind_some, at_eq k (by omega) [3] (by simp) _ hw, Option.bind_some]
  rw [show atS [3] (oT [oX [120], oA, oX [121]]) = (zeroN, false) from rfl, hpl _ hw]
  generalize hq : plc (oT [oX [120], oA, oX [121]]) = q
  have hq2 : plc (oT [oX [120], oA, oX [121]]) = [[], [1]] := by kernel_rfl
  rw [hq2] at hq
  subst hq
  simp [oT, oX, zeroN, rd]
theorem few_k (k : Nat) (hk : 300000 ≤ k) (n : T_api_Node) : ∃ b, watchbilllaw04_Few k n = some b ∧ (b = true → wt n ≤ 30000) := by
  obtain ⟨w, hw, _, _, h⟩ := weigh_eq 30000 30000 k n (by omega) (by omega) (by omega)
  refine ⟨decide ((w : Int) ≤ 30000), ?_, fun hb => ?_⟩
  · unfold watchbilllaw04_Few
    rw [show ((30000 : Nat) : Int) = 30000 from rfl] at hw
    rw [hw, Option.bind_some]
  · have : (w : Int) ≤ 30000 := by simpa using hb
    have := h (by omega)
    omega
theorem PathPlaces_k (k : Nat) (hk : 9000000000 ≤ k) (n : T_api_Node) (p : List Int) : watchbilllaw06_PathPlaces k n p = some true := by
  unfold watchbilllaw06_PathPlaces
  obtain ⟨b, hb, hw⟩ := few_k k (by omega) n
  rw [awake_k k hk, Option.bind_some, if_neg (by simp), hb, Option.bind_some]
  by_cases hc : b = true ∧ p.length ≤ 1000
  · obtain ⟨hb1, hp⟩ := hc
    have hw := hw hb1
    subst hb1
    have hpw : wt (atS p n).1 ≤ 1000000000 := atS_wt p n (by omega)
    obtain ⟨b1, b2⟩ := plc_bound _ n (Nat.le_refl _)
    have hsame : watchbilllaw06_same k (atS p n).1 (atS p n).1 (atS p n).2 (atS p n).2 = some true := by
      unfold watchbilllaw06_same
      rw [if_pos (by simp), teq_eq _ k _ (Nat.le_refl _) hpw (by omega), Option.bind_some]
      simp
    rw [if_neg (by simp; omega), if_pos (by simp; omega), List.nil_append, at_eq k (by omega) p (by omega) n (by omega), Option.bind_some, rat_eq p k n (by omega), Option.bind_some, places_eq _ k n (Nat.le_refl _) (by omega) (by omega), Option.bind_some,
      rplaces_eq _ k n (Nat.le_refl _) (by omega) (by omega), Option.bind_some, hsame, Option.bind_some, if_neg (by simp)]
    have := pp_l k (by omega) n (by omega) p (by omega) k 0 false (by omega) (by omega)
    rw [show ((0 : Nat) : Int) = 0 from rfl] at this
    rw [this, List.drop_zero, Bool.false_or, mem_plc p n]
    simp
  · rw [if_pos (by
      cases b with
      | false => simp
      | true => simp; have := hc; simp at this; omega)]
theorem PathPlaces (n : T_api_Node) (p : List Int) : ∃ k, watchbilllaw06_PathPlaces k n p = some true := ⟨9000000000, PathPlaces_k _ (Nat.le_refl _) n p⟩
end Go.Proofs.Ytjhbedgepfkdbaa.Pure
