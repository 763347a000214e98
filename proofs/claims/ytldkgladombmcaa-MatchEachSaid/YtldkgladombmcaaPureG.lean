/- Proved here: the law MatchEach. -/
import Derived.Test.YtldkgladombmcaaPureF
namespace Go.Proofs.Ytldkgladombmcaa.Pure
open Go Go.RowKit Go.Proofs.Vx Go.Proofs.Ytldkgladombmcaa.Sh

/-! ### The program's own places, copies, and nodes at places -/
theorem places_1 (k : Nat) (c0 : List (List Int) → Int → Option (List (List Int))) (n : T_api_Node) (x : Nat) (hx : x ≤ 90000) (t : List (List Int)) (ht : t.length ≤ 90000) (hp : ∀ p ∈ t, p.length ≤ 90000) : ∀ (m i : Nat) (y : List (List Int)), i ≤ t.length → t.length < i + m → y.length ≤ 90000 + i →
    path_Places.l1 k c0 n (x : Int) t m y (i : Int) = c0 (y ++ (t.drop i).map (fun p => (x : Int) :: p)) ((x + 1 : Nat) : Int) := by
  intro m
  induction m with
  | zero => intro i y h1 h2; omega
  | succ m ih =>
    intro i y h1 h2 h3
    unfold path_Places.l1
    by_cases hi : i < t.length
    · have hm : rd t (i : Int) ∈ t := by simp [rd, hi]
      have := hp _ hm
      rw [if_pos (by simp; omega), if_pos (by omega), if_pos (by simp; omega), if_pos (by simp; omega), wi (by omega), ih (i + 1) _ (by omega) (by omega) (by simp; omega), rd_drop hi]
      simp
    · rw [if_neg (by simp; omega), List.drop_of_length_le (by omega), wi (by omega)]; simp
theorem places_0 (k : Nat) (hk : 100000 < k) (self : T_api_Node → Option (List (List Int))) (n : T_api_Node) (hb : wtL n.Kids ≤ 40000) (hself : ∀ q ∈ n.Kids, self q = some (plc q)) : ∀ (m i : Nat) (y : List (List Int)), i ≤ n.Kids.length → n.Kids.length < i + m → y.length + (plcL (n.Kids.drop i) i).length ≤ 90000 →
    path_Places.l0 k self n m y (i : Int) = some (y ++ plcL (n.Kids.drop i) i) := by
  have hl := wtL_len n.Kids
  intro m
  induction m with
  | zero => intro i y h1 h2; omega
  | succ m ih =>
    intro i y h1 h2 h3
    unfold path_Places.l0
    by_cases hi : i < n.Kids.length
    · have hm : rd n.Kids (i : Int) ∈ n.Kids := by simp [rd, hi]
      have hw := wtL_mem hm
      have hp := plc_bnd (rd n.Kids (i : Int))
      rw [rd_drop hi, plcL] at h3 ⊢
      simp at h3
      have h1' := places_1 k (path_Places.l0 k self n m) n i (by omega) (plc (rd n.Kids (i : Int))) (by omega) (fun p hpp => by have := hp.2 p hpp; omega) k 0 y (by omega) (by omega) (by omega)
      rw [show ((0 : Nat) : Int) = 0 from rfl, List.drop_zero] at h1'
      rw [if_pos (by simp; omega), if_pos (by omega), hself _ hm, Option.bind_some, h1', ih (i + 1) _ (by omega) (by omega) (by simp; omega)]
      simp
    · rw [if_neg (by simp; omega), List.drop_of_length_le (by omega), plcL, List.append_nil]
theorem places_eq : ∀ (d k : Nat) (n : T_api_Node), wt n ≤ d → wt n ≤ 40000 → wt n + 100010 ≤ k → path_Places k n = some (plc n) := by
  intro d
  induction d with
  | zero => intro k n h1 h2; have := wt_pos n; omega
  | succ d ih =>
    intro k n h1 h2 h3
    obtain ⟨k, rfl⟩ : ∃ z, k = z + 1 := ⟨k - 1, by omega⟩
    rw [path_Places, plc_eq]
    cases hk : (n.Kind == 1) with
    | false =>
      have : (n.Kind != 1) = true := by simpa [bne] using hk
      rw [this]; simp
    | true =>
      have hne : (n.Kind != 1) = false := by simpa [bne] using hk
      have hw := wt_eq n
      have hb := plcL_bnd n.Kids 0
      rw [hne, if_neg (by simp)]
      have := places_0 k (by omega) (path_Places k) n (by omega) (fun m hm => ih k m (by have := kid_lt hm; omega) (by have := kid_lt hm; omega) (by have := kid_lt hm; omega)) k 0 [[]] (by omega) (by have := wtL_len n.Kids; omega) (by simp; omega)
      rw [show ((0 : Nat) : Int) = 0 from rfl, List.drop_zero] at this
      rw [this]; rfl
theorem copy_0 (k : Nat) (self : T_api_Node → Option T_api_Node) (ks : List T_api_Node) (h9 : ks.length ≤ 60000) (hself : ∀ q ∈ ks, self q = some q) (a b c d f : _) : ∀ (m i : Nat) (a1 : Int) (b1 c1 : Str) (d1 : List T_api_Attr) (e1 : List T_api_Node) (f1 : Str), i ≤ ks.length → ks.length < i + m →
    tree_Copy.l0 k self ks m a b c d f a1 b1 c1 d1 e1 f1 ks (i : Int) = some (T_api_Node.mk a (T_api_Name.mk b c) d ks f) := by
  intro m
  induction m with
  | zero => intro i a1 b1 c1 d1 e1 f1 h1 h2; omega
  | succ m ih =>
    intro i a1 b1 c1 d1 e1 f1 h1 h2
    unfold tree_Copy.l0
    by_cases hi : i < ks.length
    · have hm : rd ks (i : Int) ∈ ks := by simp [rd, hi]
      have hset : ks.set i (rd ks (i : Int)) = ks := by
        have : rd ks (i : Int) = ks[i] := by simp [rd, hi]
        rw [this, List.set_getElem_self]
      rw [if_pos (by simp; omega), if_pos (by omega), hself _ hm, Option.bind_some, if_pos (by omega), Int.toNat_natCast, hset, wi (by omega)]
      exact ih (i + 1) a1 b1 c1 d1 e1 f1 (by omega) (by omega)
    · rw [if_neg (by simp; omega)]
theorem copy_eq : ∀ (d k : Nat) (n : T_api_Node), wt n ≤ d → wt n ≤ 40000 → wt n + 100010 ≤ k → tree_Copy k n = some n := by
  intro d
  induction d with
  | zero => intro k n h1 h2; have := wt_pos n; omega
  | succ d ih =>
    intro k n h1 h2 h3
    obtain ⟨k, rfl⟩ : ∃ z, k = z + 1 := ⟨k - 1, by omega⟩
    have hw := wt_eq n
    have hl := wtL_len n.Kids
    have c1 : slices_Clone_44 n.Attrs = some n.Attrs := by
      have : (([] : List T_api_Attr).length + n.Attrs.length) * 48 ≤ 140737488355328 := by rw [List.length_nil]; omega
      unfold slices_Clone_44; rw [if_pos this, List.nil_append]
    have c2 : slices_Clone_45_o n.Kids = some n.Kids := by
      have : (([] : List T_api_Node).length + n.Kids.length) * 104 ≤ 140737488355328 := by rw [List.length_nil]; omega
      unfold slices_Clone_45_o; rw [if_pos this, List.nil_append]
    rw [tree_Copy, c1, c2, Option.bind_some, Option.bind_some]
    have := copy_0 k (tree_Copy k) n.Kids (by omega) (fun q hq => ih k q (by have := kid_lt hq; omega) (by have := kid_lt hq; omega) (by have := kid_lt hq; omega)) n.Kind n.Name.Space n.Name.Local n.Attrs n.Text k 0 0 ([] : Str) ([] : Str) ([] : List T_api_Attr) ([] : List T_api_Node) ([] : Str) (by omega) (by omega)
    rw [show ((0 : Nat) : Int) = 0 from rfl] at this
    rw [this]
    cases n; rfl
theorem pat_l (p : List Int) (h9 : p.length ≤ 60000) : ∀ (m i : Nat) (n : T_api_Node), i ≤ p.length → p.length < i + m → p.drop i ∈ plc n → wt n ≤ 40000 →
    ∀ (a : Int) (b c : Str) (d : List T_api_Attr) (e : List T_api_Node) (f : Str), path_At.l0 400000 p m n.Kind n.Name.Space n.Name.Local n.Attrs n.Kids n.Text a b c d e f (i : Int) = some (atS n (p.drop i), true) := by
  intro m
  induction m with
  | zero => intro i n h1 h2; omega
  | succ m ih =>
    intro i n h1 h2 h3 hw a b c d e f
    unfold path_At.l0
    have hn : (T_api_Node.mk n.Kind (T_api_Name.mk n.Name.Space n.Name.Local) n.Attrs n.Kids n.Text) = n := by cases n; rfl
    by_cases hi : i < p.length
    · rw [rd_drop hi] at h3 ⊢
      rcases (plc_mem h3).2 with h0 | ⟨j, q, g1, g2, g3, g4⟩
      · cases h0
      · injection g1 with e1 e2
        subst e2
        have hkid : path_kid n (j : Int) = some true := by unfold path_kid; congr 1; simp; omega
        have := kid_lt g4
        rw [if_pos (by simp; omega), if_pos (by omega), hn, e1, hkid, Option.bind_some, if_neg (by simp), if_pos (by omega), wi (by omega), atS]
        exact ih (i + 1) (rd n.Kids (j : Int)) (by omega) (by omega) g3 (by omega) a b c d e f
    · rw [if_neg (by simp; omega), List.drop_of_length_le (by omega), hn, copy_eq 40000 400000 n (by omega) hw (by omega)]; rfl
theorem pat_eq (n : T_api_Node) (p : List Int) (h9 : p.length ≤ 60000) (hp : p ∈ plc n) (hw : wt n ≤ 40000) : path_At 400000 n p = some (atS n p, true) := by
  have := pat_l p h9 400000 0 n (by omega) (by omega) (by simpa using hp) hw 0 ([] : Str) ([] : Str) ([] : List T_api_Attr) ([] : List T_api_Node) ([] : Str)
  rw [List.drop_zero, show ((0 : Nat) : Int) = 0 from rfl] at this
  exact this

/-! ### The row's steps -/
def like (nm : T_api_Name) (x : T_api_Node) : Bool := (x.Kind == 1) && (x.Name.Space == nm.Space && (x.Name.Local == nm.Local && true))
def stepOf (kids : List T_api_Node) (i : Nat) : T_api_Step := T_api_Step.mk 1 false (T_api_Name.mk (rd kids (i : Int)).Name.Space (rd kids (i : Int)).Name.Local) (((kids.take (i + 1)).countP (like (rd kids (i : Int)).Name) : Nat) : Int) false (T_api_Name.mk [] []) []
theorem named_like (kids : List T_api_Node) (i : Nat) (x : T_api_Node) : named x (stepOf kids i) = like (rd kids (i : Int)).Name x := by unfold named stepOf like; simp
theorem nums_inc : ∀ (l : List T_api_Node) (s : T_api_Step) (i pos : Nat), (nums l s i pos).Pairwise (· < ·) ∧ ∀ a ∈ nums l s i pos, (i : Int) ≤ a
  | [], s, i, pos => by rw [nums]; exact ⟨.nil, fun a h => by cases h⟩
  | n :: l, s, i, pos => by
    have h1 := nums_inc l s (i + 1) (pos + 1)
    have h2 := nums_inc l s (i + 1) pos
    have lift : ∀ t : List Int, (t.Pairwise (· < ·) ∧ ∀ a ∈ t, ((i + 1 : Nat) : Int) ≤ a) → (t.Pairwise (· < ·) ∧ ∀ a ∈ t, (i : Int) ≤ a) := fun t h => ⟨h.1, fun a ha => by have := h.2 a ha; omega⟩
    rw [nums]
    split
    · split
      · refine ⟨List.pairwise_cons.2 ⟨fun a ha => by have := h1.2 a ha; omega, h1.1⟩, fun a ha => ?_⟩
        rcases List.mem_cons.1 ha with rfl | ha
        · exact Int.le_refl _
        · have := h1.2 a ha; omega
      · exact lift _ h1
    · exact lift _ h2
theorem single {l : List Int} {a : Int} (hp : l.Pairwise (· < ·)) (h : ∀ x, x ∈ l ↔ x = a) : l = [a] := by
  cases l with
  | nil => exact absurd ((h a).2 rfl) (by simp)
  | cons x l =>
    have hx : x = a := (h x).1 (by simp)
    subst hx
    cases l with
    | nil => rfl
    | cons y l =>
      have hy : y = x := (h y).1 (by simp)
      have := (List.pairwise_cons.1 hp).1 y (by simp)
      omega
theorem nums_one (kids : List T_api_Node) (i : Nat) (hi : i < kids.length) (hk : (rd kids (i : Int)).Kind = 1) : nums kids (stepOf kids i) 0 0 = [(i : Int)] := by
  refine single (nums_inc kids _ 0 0).1 fun a => ?_
  have hany := nums_any kids [] (stepOf kids i) a
  simp only [List.length_nil, List.nil_append, cntN, List.countP_nil] at hany
  have hmem : a ∈ nums kids (stepOf kids i) 0 0 ↔ (nums kids (stepOf kids i) 0 0).any (fun x => a == x) = true := by
    rw [List.any_eq_true]
    constructor
    · intro h; exact ⟨a, h, by simp⟩
    · rintro ⟨x, hx, hax⟩; rw [eq_of_beq hax]; exact hx
  rw [hmem, hany]
  have hcnt : ∀ l : List T_api_Node, (l.countP fun n => named n (stepOf kids i)) = l.countP (like (rd kids (i : Int)).Name) := fun l => by
    have : (fun n => named n (stepOf kids i)) = like (rd kids (i : Int)).Name := funext fun x => named_like kids i x
    rw [this]
  rw [hcnt]
  have hr : ∀ j (hj : j < kids.length), rd kids (j : Int) = kids[j] := fun j hj => by simp [rd, hj]
  have hsucc : ∀ j (hj : j < kids.length), (kids.take (j + 1)).countP (like (rd kids (i : Int)).Name) = (kids.take j).countP (like (rd kids (i : Int)).Name) + (if like (rd kids (i : Int)).Name (rd kids (j : Int)) then 1 else 0) := fun j hj => by
    rw [List.take_succ_eq_append_getElem hj, List.countP_append, List.countP_singleton, hr j hj]
  have mono : ∀ j q : Nat, j ≤ q → (kids.take j).countP (like (rd kids (i : Int)).Name) ≤ (kids.take q).countP (like (rd kids (i : Int)).Name) := fun j q hjq => by
    have : kids.take j = (kids.take q).take j := by rw [List.take_take, Nat.min_eq_left hjq]
    rw [this]
    exact List.Sublist.countP_le (List.take_sublist _ _)
  have hii : like (rd kids (i : Int)).Name (rd kids (i : Int)) = true := by unfold like; simp [hk]
  have hci := hsucc i hi
  rw [hii, if_pos rfl] at hci
  constructor
  · intro h
    simp only [Bool.and_eq_true, decide_eq_true_eq] at h
    obtain ⟨⟨h0, h1⟩, hf⟩ := h
    obtain ⟨j, rfl⟩ := Int.eq_ofNat_of_zero_le (show 0 ≤ a by omega)
    have hj : j < kids.length := by omega
    rw [Int.toNat_natCast] at hf
    have hn := fit_named hf
    rw [named_like] at hn
    have hcj := hsucc j hj
    rw [hn, if_pos rfl] at hcj
    have hpos : ((stepOf kids i).Pos == 0) = false ∧ (((stepOf kids i).Pos == (((kids.take j).countP (like (rd kids (i : Int)).Name) + 1 : Nat) : Int)) = true) := by
      have e0 : ((stepOf kids i).Pos == 0) = false := by
        rw [beq_eq_false_iff_ne]; show (((kids.take (i + 1)).countP (like (rd kids (i : Int)).Name) : Nat) : Int) ≠ 0; omega
      refine ⟨e0, ?_⟩
      unfold fit at hf
      rw [e0] at hf
      simp only [Bool.and_eq_true, Bool.false_or] at hf
      exact hf.2.1
    have heq : (((kids.take (i + 1)).countP (like (rd kids (i : Int)).Name) : Nat) : Int) = (((kids.take j).countP (like (rd kids (i : Int)).Name) + 1 : Nat) : Int) := eq_of_beq hpos.2
    rcases Nat.lt_trichotomy i j with hlt | rfl | hgt
    · have := mono (i + 1) j (by omega); omega
    · rfl
    · have := mono (j + 1) i (by omega); omega
  · rintro rfl
    rw [Int.toNat_natCast]
    have h1 : (decide (((0 : Nat) : Int) ≤ (i : Int)) && decide ((i : Int) < (kids.length : Int))) = true := by simp; omega
    rw [h1, Bool.true_and]
    unfold fit
    rw [named_like, hii]
    have e : ((stepOf kids i).Pos == (((kids.take i).countP (like (rd kids (i : Int)).Name) + 1 : Nat) : Int)) = true := by
      show ((((kids.take (i + 1)).countP (like (rd kids (i : Int)).Name) : Nat) : Int) == _) = true
      rw [beq_iff_eq]; omega
    rw [e]
    have ht : tested (rd kids (i : Int)) (stepOf kids i) = true := rfl
    rw [ht]; simp
def exK : List T_api_Node → List Int → List T_api_Step
  | _, [] => []
  | kids, i :: p => stepOf kids i.toNat :: exK (rd kids i).Kids p
theorem exK_kind : ∀ (p : List Int) (kids : List T_api_Node), (∀ s ∈ exK kids p, s.Kind = 1) ∧ (exK kids p).length = p.length
  | [], _ => ⟨fun s h => (by cases h), rfl⟩
  | i :: p, kids => by
    have ih := exK_kind p (rd kids i).Kids
    rw [exK]
    refine ⟨fun s hs => ?_, by simp [ih.2]⟩
    rcases List.mem_cons.1 hs with rfl | hs
    · rfl
    · exact ih.1 s hs
theorem findS_one : ∀ (p : List Int) (kids : List T_api_Node), p ∈ plcL kids 0 → findS (exK kids p) kids = [p]
  | [], kids, h => by obtain ⟨j, q, h1⟩ := plcL_cons _ _ _ h; cases h1
  | i :: p, kids, h => by
    obtain ⟨j, q, h1, h2, h3⟩ := plcL_mem _ _ _ h
    injection h1 with e1 e2
    subst e2
    rw [Nat.zero_add] at e1
    subst e1
    have hk := (plc_mem h3).1
    rw [exK, findS, Int.toNat_natCast, nums_one kids j h2 hk, (exK_kind p _).2]
    simp only [List.flatMap_cons, List.flatMap_nil, List.append_nil]
    cases p with
    | nil => rfl
    | cons x p =>
      rw [if_neg (by simp)]
      have hm : (x :: p) ∈ plcL (rd kids (j : Int)).Kids 0 := by
        rw [plc_eq] at h3
        have : ((rd kids (j : Int)).Kind == 1) = true := by simpa using hk
        rw [if_pos this] at h3
        rcases List.mem_cons.1 h3 with h3 | h3
        · cases h3
        · exact h3
      rw [findS_one (x :: p) _ hm]; rfl
theorem split_names (l : List T_api_Step) (h : l.length ≤ 60000) (hk : ∀ s ∈ l, s.Kind = 1) : ∃ z, match_Split l = some (l, z) ∧ z.Kind = 0 := by
  unfold match_Split
  by_cases h0 : l.length = 0
  · have e : decide ((l.length : Int) > 0) = false := decide_eq_false (by omega)
    rw [e]
    simp only [Bool.false_and, Bool.false_eq_true, false_implies, if_true, if_false, show (false == true) = false from rfl]
    rw [clone_eq l h]
    exact ⟨_, rfl, rfl⟩
  · have e : IntKind.i64.wrap ((l.length : Int) - 1) = ((l.length - 1 : Nat) : Int) := by rw [w64 (by omega) (by omega)]; omega
    have hm : rd l ((l.length - 1 : Nat) : Int) ∈ l := by
      have : l.length - 1 < l.length := by omega
      simp [rd, this]
    have hk1 := hk _ hm
    rw [e, if_pos (fun _ => by omega), if_pos (fun _ => by omega), hk1, if_neg (by simp), clone_eq l h]
    exact ⟨_, rfl, rfl⟩
/-- The element at a place is found by its row's steps, and no other one. -/
theorem select_row (n : T_api_Node) (p : List Int) (hp : p ∈ plc n) (hw : wt n ≤ 30000) : match_Select 400000 n (exK [n] (0 :: p)) = some (p, 0) := by
  have hb := (plc_bnd n).2 p hp
  obtain ⟨hk, hl⟩ := exK_kind (0 :: p) [n]
  simp only [List.length_cons] at hl
  obtain ⟨z, hz, hz0⟩ := split_names (exK [n] (0 :: p)) (by omega) hk
  have hne : exK [n] (0 :: p) ≠ [] := by rw [exK]; simp
  have hFS : FS n (exK [n] (0 :: p)) = [p] := by
    have h1 := find_main (exK [n] (0 :: p)) [n] hne hk
    have e1 : plcL [n] 0 = (plc n).map fun p => (0 : Int) :: p := by rw [plcL, plcL, List.append_nil]; rfl
    rw [findS_one (0 :: p) [n] (by rw [e1]; exact List.mem_map.2 ⟨p, hp, rfl⟩), e1, List.filter_map] at h1
    have h2 := congrArg (List.map List.tail) h1
    rw [List.map_map] at h2
    have e2 : (List.tail ∘ fun p => (0 : Int) :: p) = id := by funext p; rfl
    rw [e2, List.map_id] at h2
    exact h2.symm
  unfold match_Select match_Select.j0
  have hF := mFind_eq n (exK [n] (0 :: p)) (by omega) hw
  rw [hz, Option.bind_some, hF, hFS, Option.bind_some]
  simp [hz0, rd]
theorem like_flat (x nm : T_api_Node) : ((x.Kind == 1) && ((x.Name).Space == (T_api_Name.mk nm.Name.Space nm.Name.Local).Space && ((x.Name).Local == (T_api_Name.mk nm.Name.Space nm.Name.Local).Local && true))) = like nm.Name x := rfl
theorem exact_1 (k : Nat) (c0 : Int → Str → Str → List T_api_Attr → List T_api_Node → Str → List T_api_Step → Int → Option (List T_api_Step)) (p : List Int) (i : Nat) (hi : i < p.length) (h9 : p.length ≤ 60000) (n q : T_api_Node) (j : Nat) (hpj : rd p (i : Int) = (j : Int)) (hj : j < n.Kids.length) (hL : n.Kids.length ≤ 60000) (y : List T_api_Step) (hy : y.length ≤ 90000) : ∀ (m x : Nat), x ≤ j + 1 → j + 1 < x + m →
    watchbilllaw12_exact.l1 k c0 p (i : Int) m n.Kind n.Name.Space n.Name.Local n.Attrs n.Kids n.Text q.Kind q.Name.Space q.Name.Local q.Attrs q.Kids q.Text y (((n.Kids.take x).countP (like q.Name) : Nat) : Int) (x : Int) =
      c0 q.Kind q.Name.Space q.Name.Local q.Attrs q.Kids q.Text (y ++ [T_api_Step.mk 1 false (T_api_Name.mk q.Name.Space q.Name.Local) (((n.Kids.take (j + 1)).countP (like q.Name) : Nat) : Int) false (T_api_Name.mk [] []) []]) ((i + 1 : Nat) : Int) := by
  intro m
  induction m with
  | zero => intro x h1 h2; omega
  | succ m ih =>
    intro x h1 h2
    unfold watchbilllaw12_exact.l1
    rw [if_pos (by omega), hpj]
    by_cases hx : x ≤ j
    · have hxl : x < n.Kids.length := by omega
      have hr : rd n.Kids (x : Int) = n.Kids[x] := by simp [rd, hxl]
      have hc : (n.Kids.take (x + 1)).countP (like q.Name) = (n.Kids.take x).countP (like q.Name) + (if like q.Name (rd n.Kids (x : Int)) then 1 else 0) := by
        rw [List.take_succ_eq_append_getElem hxl, List.countP_append, List.countP_singleton, hr]
      have hcl : (n.Kids.take x).countP (like q.Name) ≤ x := Nat.le_trans List.countP_le_length (by simp; omega)
      have hxj : decide ((x : Int) ≤ (j : Int)) = true := decide_eq_true (by omega)
      rw [hxj, if_pos rfl, if_pos (by omega), if_pos (fun _ => by omega), wi (i := (n.Kids.take x).countP (like q.Name)) (by omega), wi (i := x) (by omega), like_flat]
      have := ih (x + 1) (by omega) (by omega)
      rw [hc] at this
      cases hl : like q.Name (rd n.Kids (x : Int)) with
      | true => rw [hl] at this; rw [if_pos rfl]; exact this
      | false => rw [hl] at this; rw [if_neg (by simp)]; exact this
    · have hxe : x = j + 1 := by omega
      subst hxe
      have hxj : decide (((j + 1 : Nat) : Int) ≤ (j : Int)) = false := decide_eq_false (by omega)
      rw [hxj, if_neg (by simp), if_pos (by simp; omega), wi (by omega)]
theorem exact_0 (p : List Int) (h9 : p.length ≤ 60000) : ∀ (m i : Nat) (n : T_api_Node) (y : List T_api_Step), i ≤ p.length → p.length < i + m → p.drop i ∈ plc n → wt n ≤ 40000 → y.length ≤ i + 1 →
    watchbilllaw12_exact.l0 400000 p m n.Kind n.Name.Space n.Name.Local n.Attrs n.Kids n.Text y (i : Int) = some (y ++ exK n.Kids (p.drop i)) := by
  intro m
  induction m with
  | zero => intro i n y h1 h2; omega
  | succ m ih =>
    intro i n y h1 h2 h3 hw hy
    unfold watchbilllaw12_exact.l0
    by_cases hi : i < p.length
    · rw [rd_drop hi] at h3 ⊢
      rcases (plc_mem h3).2 with h0 | ⟨j, q, g1, g2, g3, g4⟩
      · cases h0
      · injection g1 with e1 e2
        subst e2
        have hkl := kid_lt g4
        have hwn := wt_eq n
        have hl := wtL_len n.Kids
        have h1' := exact_1 400000 (watchbilllaw12_exact.l0 400000 p m) p i hi h9 n (rd n.Kids (j : Int)) j e1 g2 (by omega) y (by omega) 400000 0 (by omega) (by omega)
        rw [List.take_zero, List.countP_nil, show ((0 : Nat) : Int) = 0 from rfl] at h1'
        rw [if_pos (by simp; omega), if_pos (by omega), e1, if_pos (by omega), h1', ih (i + 1) (rd n.Kids (j : Int)) _ (by omega) (by omega) g3 (by omega) (by simp; omega), exK, Int.toNat_natCast]
        rw [List.append_assoc]; rfl
    · rw [if_neg (by simp; omega), List.drop_of_length_le (by omega), exK, List.append_nil]
theorem exact_eq (n : T_api_Node) (p : List Int) (h9 : p.length ≤ 60000) (hp : p ∈ plc n) (hw : wt n ≤ 40000) : watchbilllaw12_exact 400000 n p = some (exK [n] (0 :: p)) := by
  have hk := (plc_mem hp).1
  have := exact_0 p h9 400000 0 n [T_api_Step.mk 1 false (T_api_Name.mk n.Name.Space n.Name.Local) 1 false (T_api_Name.mk ([] : Str) ([] : Str)) ([] : Str)] (by omega) (by omega) (by simpa using hp) hw (by simp)
  rw [List.drop_zero, show ((0 : Nat) : Int) = 0 from rfl] at this
  refine this.trans ?_
  rw [exK]
  have hs : stepOf [n] (0 : Int).toNat = T_api_Step.mk 1 false (T_api_Name.mk n.Name.Space n.Name.Local) 1 false (T_api_Name.mk ([] : Str) ([] : Str)) ([] : Str) := by
    have hl : like n.Name n = true := by unfold like; simp [hk]
    have hr : rd [n] ((0 : Nat) : Int) = n := rfl
    unfold stepOf
    rw [show (0 : Int).toNat = 0 from rfl, hr]
    have : ([n].take (0 + 1)).countP (like n.Name) = 1 := by simp [hl]
    rw [this]; rfl
  rw [hs]; rfl
theorem each_l (n : T_api_Node) (hw : wt n ≤ 30000) (t : List (List Int)) (ht : t.length ≤ 30000) (hp : ∀ p ∈ t, p ∈ plc n) : ∀ (m i : Nat), i ≤ t.length → t.length < i + m → watchbilllaw12_MatchEach.l0 400000 t m n.Kind n.Name.Space n.Name.Local n.Attrs n.Kids n.Text (i : Int) = some true := by
  have hb := plc_bnd n
  have hn : (T_api_Node.mk n.Kind (T_api_Name.mk n.Name.Space n.Name.Local) n.Attrs n.Kids n.Text) = n := by cases n; rfl
  intro m
  induction m with
  | zero => intro i h1 h2; omega
  | succ m ih =>
    intro i h1 h2
    unfold watchbilllaw12_MatchEach.l0
    by_cases hi : i < t.length
    · have hm : rd t (i : Int) ∈ t := by simp [rd, hi]
      have hq := hp _ hm
      have hql := hb.2 _ hq
      have hk := (atS_wt _ n hq).2
      rw [if_pos (by simp; omega), if_pos (by omega), hn, pat_eq n _ (by omega) hq (by omega), Option.bind_some, if_neg (by simp [hk]), if_pos (by omega), exact_eq n _ (by omega) hq (by omega), Option.bind_some, select_row n _ hq hw, Option.bind_some, if_pos (fun _ => by omega)]
      have hsame := same_eq 400000 (rd t (i : Int)) (by omega) (by omega)
      rw [wi (by omega)]
      simp only [hsame]
      simp only [bne_self_eq_false, beq_self_eq_true, if_true, Option.bind_some, Bool.not_true, Bool.or_self, Bool.false_eq_true, if_false]
      exact ih (i + 1) (by omega) (by omega)
    · rw [if_neg (by simp; omega)]
theorem MatchEach (a0 : T_api_Node) : ∃ k, watchbilllaw12_MatchEach k a0 = some true := by
  refine ⟨400000, ?_⟩
  unfold watchbilllaw12_MatchEach
  rw [awake, Option.bind_some, if_neg (by simp)]
  obtain ⟨b, hb, hbw⟩ := few_eq a0
  rw [hb, Option.bind_some]
  cases b with
  | false => simp
  | true =>
    have hw := hbw rfl
    have hbn := plc_bnd a0
    rw [if_neg (by simp), places_eq 40000 400000 a0 (by omega) (by omega) (by omega), Option.bind_some]
    split
    · rfl
    · have := each_l a0 hw (plc a0) (by omega) (fun p hp => hp) 400000 0 (by omega) (by omega)
      rw [show ((0 : Nat) : Int) = 0 from rfl] at this
      exact this
end Go.Proofs.Ytldkgladombmcaa.Pure
