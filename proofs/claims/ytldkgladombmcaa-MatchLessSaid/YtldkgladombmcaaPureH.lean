/- Proved here: the law MatchLess. -/
import Derived.Test.YtldkgladombmcaaPureE
namespace Go.Proofs.Ytldkgladombmcaa.Pure
open Go Go.RowKit Go.Proofs.Vx Go.Proofs.Ytldkgladombmcaa.Sh

theorem plcL_mem : ∀ (l : List T_api_Node) (i : Nat) (p : List Int), p ∈ plcL l i → ∃ (j : Nat) (q : List Int), p = ((i + j : Nat) : Int) :: q ∧ j < l.length ∧ q ∈ plc (rd l (j : Int))
  | [], i, p, h => by rw [plcL] at h; cases h
  | n :: l, i, p, h => by
    rw [plcL] at h
    rcases List.mem_append.1 h with h | h
    · obtain ⟨q, hq, rfl⟩ := List.mem_map.1 h
      exact ⟨0, q, by simp, by simp, hq⟩
    · obtain ⟨j, q, h1, h2, h3⟩ := plcL_mem l (i + 1) p h
      refine ⟨j + 1, q, by rw [h1]; congr 2; omega, by simp; omega, ?_⟩
      have : rd (n :: l) ((j + 1 : Nat) : Int) = rd l (j : Int) := by simp [rd]
      rw [this]; exact h3
theorem plc_mem {n : T_api_Node} {p : List Int} (h : p ∈ plc n) : n.Kind = 1 ∧ (p = [] ∨ ∃ (j : Nat) (q : List Int), p = (j : Int) :: q ∧ j < n.Kids.length ∧ q ∈ plc (rd n.Kids (j : Int)) ∧ rd n.Kids (j : Int) ∈ n.Kids) := by
  rw [plc_eq] at h
  split at h
  · rename_i hk
    refine ⟨by simpa using hk, ?_⟩
    rcases List.mem_cons.1 h with h | h
    · exact .inl h
    · obtain ⟨j, q, h1, h2, h3⟩ := plcL_mem _ _ _ h
      right
      refine ⟨j, q, by rw [h1]; congr 2; omega, h2, h3, ?_⟩
      simp [rd, h2]
  · cases h
def atS : T_api_Node → List Int → T_api_Node
  | n, [] => n
  | n, i :: p => atS (rd n.Kids i) p
theorem atS_wt : ∀ (p : List Int) (n : T_api_Node), p ∈ plc n → wt (atS n p) ≤ wt n ∧ (atS n p).Kind = 1
  | [], n, h => ⟨Nat.le_refl _, (plc_mem h).1⟩
  | i :: p, n, h => by
    rcases (plc_mem h).2 with h0 | ⟨j, q, h1, h2, h3, h4⟩
    · cases h0
    · injection h1 with e1 e2
      subst e1; subst e2
      have hi := atS_wt p _ h3
      have := kid_lt h4
      exact ⟨by rw [atS]; omega, by rw [atS]; exact hi.2⟩
theorem copy_0 (k : Nat) (self : T_api_Node → Option T_api_Node) (ks : List T_api_Node) (h9 : ks.length ≤ 60000) (hself : ∀ q ∈ ks, self q = some q) (a b c d f : _) : ∀ (m i : Nat) (a1 : Int) (b1 c1 : Str) (d1 : List T_api_Attr) (e1 : List T_api_Node) (f1 : Str), i ≤ ks.length → ks.length < i + m →
    tree_Copy.l0 k self ks m a b c d f a1 b1 c1 d1 e1 f1 ks (i : Int) = some (T_api_Node.mk a (T_api_Name.mk b c) d ks f) := by
  intro m
  induction m with
  | zero => intro i a1 b1 c1 d1 e1 f1 h1 h2; omega
  | succ m ih =>
    intro i a1 b1 c1 d1 e1 f1 h1 h2
    unfold tree_Copy.l0
    by_cases hi : i < ks.length
    · have hm : rd ks (i : Int) ∈ ks := by simp [rd, hi]
      have hset : ks.set i (rd ks (i : Int)) = ks := by
        have : rd ks (i : Int) = ks[i] := by simp [rd, hi]
        rw [this, List.set_getElem_self]
      rw [if_pos (by simp; omega), if_pos (by omega), hself _ hm, Option.bind_some, if_pos (by omega), Int.toNat_natCast, hset, wi (by omega)]
      exact ih (i + 1) a1 b1 c1 d1 e1 f1 (by omega) (by omega)
    · rw [if_neg (by simp; omega)]
theorem copy_eq : ∀ (d k : Nat) (n : T_api_Node), wt n ≤ d → wt n ≤ 40000 → wt n + 100010 ≤ k → tree_Copy k n = some n := by
  intro d
  induction d with
  | zero => intro k n h1 h2; have := wt_pos n; omega
  | succ d ih =>
    intro k n h1 h2 h3
    obtain ⟨k, rfl⟩ : ∃ z, k = z + 1 := ⟨k - 1, by omega⟩
    have hw := wt_eq n
    have hl := wtL_len n.Kids
    have c1 : slices_Clone_44 n.Attrs = some n.Attrs := by
      have : (([] : List T_api_Attr).length + n.Attrs.length) * 48 ≤ 140737488355328 := by rw [List.length_nil]; omega
      unfold slices_Clone_44; rw [if_pos this, List.nil_append]
    have c2 : slices_Clone_45_o n.Kids = some n.Kids := by
      have : (([] : List T_api_Node).length + n.Kids.length) * 104 ≤ 140737488355328 := by rw [List.length_nil]; omega
      unfold slices_Clone_45_o; rw [if_pos this, List.nil_append]
    rw [tree_Copy, c1, c2, Option.bind_some, Option.bind_some]
    have := copy_0 k (tree_Copy k) n.Kids (by omega) (fun q hq => ih k q (by have := kid_lt hq; omega) (by have := kid_lt hq; omega) (by have := kid_lt hq; omega)) n.Kind n.Name.Space n.Name.Local n.Attrs n.Text k 0 0 ([] : Str) ([] : Str) ([] : List T_api_Attr) ([] : List T_api_Node) ([] : Str) (by omega) (by omega)
    rw [show ((0 : Nat) : Int) = 0 from rfl] at this
    rw [this]
    cases n; rfl
theorem pat_l (p : List Int) (h9 : p.length ≤ 60000) : ∀ (m i : Nat) (n : T_api_Node), i ≤ p.length → p.length < i + m → p.drop i ∈ plc n → wt n ≤ 40000 →
    ∀ (a : Int) (b c : Str) (d : List T_api_Attr) (e : List T_api_Node) (f : Str), path_At.l0 400000 p m n.Kind n.Name.Space n.Name.Local n.Attrs n.Kids n.Text a b c d e f (i : Int) = some (atS n (p.drop i), true) := by
  intro m
  induction m with
  | zero => intro i n h1 h2; omega
  | succ m ih =>
    intro i n h1 h2 h3 hw a b c d e f
    unfold path_At.l0
    have hn : (T_api_Node.mk n.Kind (T_api_Name.mk n.Name.Space n.Name.Local) n.Attrs n.Kids n.Text) = n := by cases n; rfl
    by_cases hi : i < p.length
    · rw [rd_drop hi] at h3 ⊢
      rcases (plc_mem h3).2 with h0 | ⟨j, q, g1, g2, g3, g4⟩
      · cases h0
      · injection g1 with e1 e2
        subst e2
        have hkid : path_kid n (j : Int) = some true := by unfold path_kid; congr 1; simp; omega
        have := kid_lt g4
        rw [if_pos (by simp; omega), if_pos (by omega), hn, e1, hkid, Option.bind_some, if_neg (by simp), if_pos (by omega), wi (by omega), atS]
        exact ih (i + 1) (rd n.Kids (j : Int)) (by omega) (by omega) g3 (by omega) a b c d e f
    · rw [if_neg (by simp; omega), List.drop_of_length_le (by omega), hn, copy_eq 40000 400000 n (by omega) hw (by omega)]; rfl
theorem pat_eq (n : T_api_Node) (p : List Int) (h9 : p.length ≤ 60000) (hp : p ∈ plc n) (hw : wt n ≤ 40000) : path_At 400000 n p = some (atS n p, true) := by
  have := pat_l p h9 400000 0 n (by omega) (by omega) (by simpa using hp) hw 0 ([] : Str) ([] : Str) ([] : List T_api_Attr) ([] : List T_api_Node) ([] : Str)
  rw [List.drop_zero, show ((0 : Nat) : Int) = 0 from rfl] at this
  exact this


/-! ### A step that asks more selects no more -/
theorem selS_set : ∀ (l : List T_api_Step) (i : Nat) (hi : i < l.length) (t : T_api_Step), (∀ kids a, fitS kids t a = true → fitS kids l[i] a = true) → ∀ kids p, selS kids (l.set i t) p = true → selS kids l p = true
  | [], i, hi, t, h, kids, p, hp => absurd hi (by simp)
  | s :: l, 0, hi, t, h, kids, [], hp => by simp [selS] at hp
  | s :: l, 0, hi, t, h, kids, a :: p, hp => by
    simp only [List.set_cons_zero, selS, Bool.and_eq_true] at hp ⊢
    exact ⟨h kids a hp.1, hp.2⟩
  | s :: l, i + 1, hi, t, h, kids, [], hp => by simp [selS] at hp
  | s :: l, i + 1, hi, t, h, kids, a :: p, hp => by
    simp only [List.set_cons_succ, selS, Bool.and_eq_true] at hp ⊢
    exact ⟨hp.1, selS_set l i (by simpa using hi) t (by simpa using h) _ p hp.2⟩
theorem FS_set (n : T_api_Node) (l : List T_api_Step) (i : Nat) (hi : i < l.length) (t : T_api_Step) (h : ∀ kids a, fitS kids t a = true → fitS kids l[i] a = true) : ∀ p ∈ FS n (l.set i t), p ∈ FS n l := by
  intro p hp
  unfold FS at hp ⊢
  rw [List.mem_filter] at hp ⊢
  exact ⟨hp.1, selS_set l i hi t h _ _ hp.2⟩
/-- A position besides. -/
theorem less0 (s : T_api_Step) (pos : Int) (h0 : s.Pos = 0) (kids : List T_api_Node) (a : Int) (h : fitS kids (T_api_Step.mk s.Kind s.Any (T_api_Name.mk s.Name.Space s.Name.Local) pos s.By (T_api_Name.mk s.Attr.Space s.Attr.Local) s.Value) a = true) : fitS kids s a = true := by
  unfold fitS fit named tested at h ⊢
  simp only [Bool.and_eq_true] at h ⊢
  refine ⟨h.1, h.2.1, h.2.2.1, ?_, h.2.2.2.2⟩
  simp [h0]
/-- An attribute besides. -/
theorem less1 (s : T_api_Step) (at' : T_api_Name) (v : Str) (h0 : s.By = false) (kids : List T_api_Node) (a : Int) (h : fitS kids (T_api_Step.mk s.Kind s.Any (T_api_Name.mk s.Name.Space s.Name.Local) s.Pos true at' v) a = true) : fitS kids s a = true := by
  unfold fitS fit named tested at h ⊢
  simp only [Bool.and_eq_true] at h ⊢
  exact ⟨h.1, h.2.1, h.2.2.1, h.2.2.2.1, by simp [h0]⟩
/-- A name instead of any. -/
theorem less2 (s : T_api_Step) (nm : T_api_Name) (h1 : s.Any = true) (h0 : s.Pos = 0) (kids : List T_api_Node) (a : Int) (h : fitS kids (T_api_Step.mk s.Kind false nm s.Pos s.By (T_api_Name.mk s.Attr.Space s.Attr.Local) s.Value) a = true) : fitS kids s a = true := by
  unfold fitS fit named tested at h ⊢
  simp only [Bool.and_eq_true] at h ⊢
  exact ⟨h.1, h.2.1, ⟨h.2.2.1.1, by simp [h1]⟩, by simp [h0], h.2.2.2.2⟩

/-! ### The law's loops -/
theorem same_some_l (k : Nat) (p q : List Int) (h9 : p.length ≤ 90000) (hq : p.length = q.length) : ∀ (m i : Nat), i ≤ p.length → p.length < i + m → ∃ b, watchbillref06_Same.l0 k p q m (i : Int) = some b := by
  intro m
  induction m with
  | zero => intro i h1 h2; omega
  | succ m ih =>
    intro i h1 h2
    unfold watchbillref06_Same.l0
    by_cases hi : i < p.length
    · rw [if_pos (by simp; omega), if_pos (by omega), if_pos (by omega), wi (by omega)]
      split
      · exact ⟨_, rfl⟩
      · exact ih (i + 1) (by omega) (by omega)
    · rw [if_neg (by simp; omega)]; exact ⟨_, rfl⟩
theorem same_some (k : Nat) (p q : List Int) (h9 : p.length ≤ 90000) (hk : 90000 < k) : ∃ b, watchbillref06_Same k p q = some b := by
  unfold watchbillref06_Same
  by_cases hl : p.length = q.length
  · rw [if_neg (by simp; omega)]
    exact same_some_l k p q h9 hl k 0 (by omega) (by omega)
  · rw [if_pos (by simp; omega)]; exact ⟨_, rfl⟩
variable (c2 : Int → Str → Str → List T_api_Attr → List T_api_Node → Str → Int → Bool → Str → Str → Int → Bool → Str → Str → Str → Int → Option Bool)
theorem less_3 (a1 : List T_api_Step) (a2 : Int) (t : List (List Int)) (x1 : Int) (f : List (List Int)) (x : Nat) (hx : x < f.length) (hf : f.length ≤ 90000) (hp : (rd f (x : Int)).length ≤ 90000) (ht : t.length ≤ 90000) (y0 : Int) (y1 y2 : Str) (y3 : List T_api_Attr) (y4 : List T_api_Node) (y5 : Str) (z0 : Int) (z1 : Bool) (z2 z3 : Str) (z4 : Int) (z5 : Bool) (z6 z7 z8 : Str) : ∀ (m i : Nat) (b : Bool), i ≤ t.length → t.length < i + m → (b = true ∨ rd f (x : Int) ∈ t.drop i) →
    watchbilllaw12_MatchLess.l3 400000 c2 a1 a2 t x1 f (x : Int) m y0 y1 y2 y3 y4 y5 z0 z1 z2 z3 z4 z5 z6 z7 z8 b (i : Int) = c2 y0 y1 y2 y3 y4 y5 z0 z1 z2 z3 z4 z5 z6 z7 z8 ((x + 1 : Nat) : Int) := by
  intro m
  induction m with
  | zero => intro i b h1 h2; omega
  | succ m ih =>
    intro i b h1 h2 h3
    unfold watchbilllaw12_MatchLess.l3
    by_cases hi : i < t.length
    · rw [if_pos (by simp; omega), if_pos (fun _ => by omega), if_pos (fun _ => by omega), wi (i := i) (by omega)]
      rw [rd_drop hi] at h3
      cases b with
      | true =>
        rw [if_neg (by simp), Option.bind_some]
        exact ih (i + 1) _ (by omega) (by omega) (.inl rfl)
      | false =>
        rw [if_pos (show (false == false) = true from rfl)]
        rcases h3 with h3 | h3
        · cases h3
        · obtain ⟨b, hb⟩ := same_some 400000 (rd f (x : Int)) (rd t (i : Int)) hp (by omega)
          rw [hb, Option.bind_some]
          refine ih (i + 1) _ (by omega) (by omega) ?_
          rcases List.mem_cons.1 h3 with h3 | h3
          · rw [h3, same_eq 400000 _ (by rw [← h3]; exact hp) (by omega)] at hb
            cases hb; exact .inl rfl
          · exact .inr h3
    · have hb : b = true := by
        rcases h3 with h3 | h3
        · exact h3
        · rw [List.drop_of_length_le (by omega)] at h3; cases h3
      rw [if_neg (by simp; omega), hb, if_neg (by simp), wi (by omega)]
theorem less_2 (a1 : List T_api_Step) (a2 : Int) (t : List (List Int)) (x1 : Nat) (hx1 : x1 ≤ 10) (f : List (List Int)) (hf : f.length ≤ 90000) (hp : ∀ p ∈ f, p.length ≤ 90000) (ht : t.length ≤ 90000) (hsub : ∀ p ∈ f, p ∈ t) (y0 : Int) (y1 y2 : Str) (y3 : List T_api_Attr) (y4 : List T_api_Node) (y5 : Str) (z0 : Int) (z1 : Bool) (z2 z3 : Str) (z4 : Int) (z5 : Bool) (z6 z7 z8 : Str) : ∀ (m i : Nat), i ≤ f.length → f.length < i + m →
    watchbilllaw12_MatchLess.l2 400000 c2 a1 a2 t (x1 : Int) f m y0 y1 y2 y3 y4 y5 z0 z1 z2 z3 z4 z5 z6 z7 z8 (i : Int) = c2 y0 y1 y2 y3 y4 y5 z0 z1 z2 z3 z4 z5 z6 z7 z8 ((x1 + 1 : Nat) : Int) := by
  intro m
  induction m with
  | zero => intro i h1 h2; omega
  | succ m ih =>
    intro i h1 h2
    unfold watchbilllaw12_MatchLess.l2
    by_cases hi : i < f.length
    · have hm : rd f (i : Int) ∈ f := by simp [rd, hi]
      have := less_3 (watchbilllaw12_MatchLess.l2 400000 c2 a1 a2 t (x1 : Int) f m) a1 a2 t (x1 : Int) f i hi hf (hp _ hm) ht y0 y1 y2 y3 y4 y5 z0 z1 z2 z3 z4 z5 z6 z7 z8 400000 0 false (by omega) (by omega) (.inr (by simpa using hsub _ hm))
      rw [show ((0 : Nat) : Int) = 0 from rfl] at this
      rw [if_pos (by simp; omega), this]
      exact ih (i + 1) (by omega) (by omega)
    · rw [if_neg (by simp; omega), wi (by omega)]
theorem less_j (n : T_api_Node) (hw : wt n ≤ 30000) (a1 m1 : List T_api_Step) (hm : m1.length ≤ 60000) (hsub : ∀ p ∈ FS n m1, p ∈ FS n a1) (a2 : Int) (x1 : Nat) (hx1 : x1 ≤ 10) (z0 : Int) (z1 : Bool) (z2 z3 : Str) (z4 : Int) (z5 : Bool) (z6 z7 z8 : Str) :
    watchbilllaw12_MatchLess.j4 400000 c2 a1 a2 (FS n a1) n.Kind n.Name.Space n.Name.Local n.Attrs n.Kids n.Text z0 z1 z2 z3 z4 z5 z6 z7 z8 (x1 : Int) m1 = c2 n.Kind n.Name.Space n.Name.Local n.Attrs n.Kids n.Text z0 z1 z2 z3 z4 z5 z6 z7 z8 ((x1 + 1 : Nat) : Int) := by
  have hn : (T_api_Node.mk n.Kind (T_api_Name.mk n.Name.Space n.Name.Local) n.Attrs n.Kids n.Text) = n := by cases n; rfl
  unfold watchbilllaw12_MatchLess.j4
  have hB := FS_bnd n m1 hw
  have hA := FS_bnd n a1 hw
  rw [hn, mFind_eq n m1 hm hw, Option.bind_some]
  exact less_2 c2 a1 a2 (FS n a1) x1 hx1 (FS n m1) (by omega) (fun p hp => by have := (hB.2 p hp).2; omega) (by omega) hsub n.Kind n.Name.Space n.Name.Local n.Attrs n.Kids n.Text z0 z1 z2 z3 z4 z5 z6 z7 z8 400000 0 (by omega) (by omega)
theorem rd_set (l : List T_api_Step) (i : Nat) (hi : i < l.length) (t : T_api_Step) : rd (l.set i t) (i : Int) = t := by simp [rd, hi]
theorem less_1 (n : T_api_Node) (hw : wt n ≤ 30000) (a1 : List T_api_Step) (h30 : a1.length ≤ 30) (a : Nat) (ha : a < a1.length) (z0 : Int) (z1 : Bool) (z2 z3 : Str) (z4 : Int) (z5 : Bool) (z6 z7 z8 : Str) : ∀ (m i : Nat), i ≤ 3 → 3 < i + m →
    watchbilllaw12_MatchLess.l1 400000 a1 (a : Int) (FS n a1) m n.Kind n.Name.Space n.Name.Local n.Attrs n.Kids n.Text z0 z1 z2 z3 z4 z5 z6 z7 z8 (i : Int) = some true := by
  have hra : rd a1 (a : Int) = a1[a] := by simp [rd, ha]
  intro m
  induction m with
  | zero => intro i h1 h2; omega
  | succ m ih =>
    intro i h1 h2
    unfold watchbilllaw12_MatchLess.l1
    by_cases hi : i < 3
    · have hA : (0 : Int) ≤ (a : Int) ∧ (a : Int) < (a1.length : Int) := by omega
      rw [if_pos (by simp; omega), List.nil_append, if_pos (by rw [List.length_nil]; omega), if_pos (fun _ => by omega)]
      simp only [Option.bind_some, List.length_set, Int.toNat_natCast, rd_set _ _ ha, List.set_set]
      simp only [if_pos hA]
      by_cases c0 : (((i : Int) == 0) && ((rd a1 (a : Int)).Pos == 0) && decide (z4 > 0)) = true
      · rw [if_pos c0]
        simp only [Bool.and_eq_true, beq_iff_eq] at c0
        rw [less_j _ n hw a1 _ (by rw [List.length_set]; omega) (FS_set n a1 a ha _ (fun kids x hx => less0 a1[a] z4 (by rw [← hra]; exact c0.1.2) kids x (by rw [hra] at hx; exact hx))) (a : Int) i (by omega)]
        exact ih (i + 1) (by omega) (by omega)
      · rw [if_neg c0, if_pos (fun _ => by omega)]
        by_cases c1 : (((i : Int) == 1) && (!(rd a1 (a : Int)).By)) = true
        · rw [if_pos c1]
          simp only [Bool.and_eq_true, Bool.not_eq_true'] at c1
          rw [less_j _ n hw a1 _ (by rw [List.length_set]; omega) (FS_set n a1 a ha _ (fun kids x hx => less1 a1[a] (T_api_Name.mk z6 z7) z8 (by rw [← hra]; exact c1.2) kids x (by rw [hra] at hx; exact hx))) (a : Int) i (by omega)]
          exact ih (i + 1) (by omega) (by omega)
        · rw [if_neg c1, if_pos (fun _ => by omega), if_pos (fun _ => by omega)]
          by_cases cc : (((i : Int) == 2) && (rd a1 (a : Int)).Any && ((rd a1 (a : Int)).Pos == 0)) = true
          · rw [if_pos cc]
            simp only [Bool.and_eq_true, beq_iff_eq] at cc
            rw [less_j _ n hw a1 _ (by rw [List.length_set]; omega) (FS_set n a1 a ha _ (fun kids x hx => less2 a1[a] (T_api_Name.mk z2 z3) (by rw [← hra]; exact cc.1.2) (by rw [← hra]; exact cc.2) kids x (by rw [hra] at hx; exact hx))) (a : Int) i (by omega)]
            exact ih (i + 1) (by omega) (by omega)
          · rw [if_neg cc]
            rw [less_j _ n hw a1 a1 (by omega) (fun p hp => hp) (a : Int) i (by omega)]
            exact ih (i + 1) (by omega) (by omega)
    · rw [if_neg (by simp; omega)]
theorem less_0 (n : T_api_Node) (hw : wt n ≤ 30000) (a1 : List T_api_Step) (h30 : a1.length ≤ 30) (a : Nat) (ha : a < a1.length) (z0 : Int) (z1 : Bool) (z2 z3 : Str) (z4 : Int) (z5 : Bool) (z6 z7 z8 : Str) : ∀ (m i : Nat), i ≤ (FS n a1).length → (FS n a1).length < i + m →
    watchbilllaw12_MatchLess.l0 400000 a1 (a : Int) (FS n a1) m n.Kind n.Name.Space n.Name.Local n.Attrs n.Kids n.Text z0 z1 z2 z3 z4 z5 z6 z7 z8 (i : Int) = some true := by
  have hB := FS_bnd n a1 hw
  have hn : (T_api_Node.mk n.Kind (T_api_Name.mk n.Name.Space n.Name.Local) n.Attrs n.Kids n.Text) = n := by cases n; rfl
  intro m
  induction m with
  | zero => intro i h1 h2; omega
  | succ m ih =>
    intro i h1 h2
    unfold watchbilllaw12_MatchLess.l0
    by_cases hi : i < (FS n a1).length
    · have hm : rd (FS n a1) (i : Int) ∈ FS n a1 := by simp [rd, hi]
      obtain ⟨g1, g2⟩ := hB.2 _ hm
      have g3 := (atS_wt _ n g1).2
      have g4 := (selS_len a1 _ _ (List.mem_filter.1 hm).2).1
      rw [List.length_cons] at g4
      have g5 : IntKind.i64.wrap ((a1.length : Int) - 1) = ((rd (FS n a1) (i : Int)).length : Int) := by rw [w64 (by omega) (by omega)]; omega
      rw [if_pos (by simp; omega), if_pos (by omega), hn, pat_eq n _ (by omega) g1 (by omega), Option.bind_some, if_pos (fun _ => by omega), g5, wi (by omega)]
      rw [if_neg (by simp [g3])]
      exact ih (i + 1) (by omega) (by omega)
    · rw [if_neg (by simp; omega)]
      have := less_1 n hw a1 h30 a ha z0 z1 z2 z3 z4 z5 z6 z7 z8 400000 0 (by omega) (by omega)
      exact this
theorem MatchLess (a0 : T_api_Node) (a1 : List T_api_Step) (a2 : Int) (a3 : T_api_Step) (w2 : (Lit.int .i64 a2).wf = true) : ∃ k, watchbilllaw12_MatchLess k a0 a1 a2 a3 = some true := by
  refine ⟨400000, ?_⟩
  unfold watchbilllaw12_MatchLess
  rw [awake, Option.bind_some, if_neg (by simp)]
  obtain ⟨b, hb, hbw⟩ := few_eq a0
  obtain ⟨c, hc, _⟩ := few10_eq a1
  rw [hb, hc, Option.bind_some]
  cases b with
  | false => simp
  | true =>
    have hw := hbw rfl
    simp only [Bool.not_true, beq_self_eq_true, if_true, Option.bind_some, Bool.false_or]
    by_cases hG : c = false ∨ a1.length > 30 ∨ a2 < 0 ∨ a2 ≥ (a1.length : Int)
    · have e : ((!c || decide ((a1.length : Int) > 30)) || decide (a2 < 0) || decide (a2 ≥ (a1.length : Int))) = true := by
        rcases hG with rfl | h | h | h
        · rfl
        · simp; omega
        · simp [h]
        · simp [h]
      rw [e]; simp
    · have hc' : c = true := by cases c <;> simp_all
      have h30 : a1.length ≤ 30 := by omega
      have h2 : 0 ≤ a2 := by omega
      have h3 : a2 < (a1.length : Int) := by omega
      have e : ((!c || decide ((a1.length : Int) > 30)) || decide (a2 < 0) || decide (a2 ≥ (a1.length : Int))) = false := by
        rw [hc']; simp; omega
      rw [e, if_pos (fun _ => ⟨h2, h3⟩)]
      split
      · rfl
      · rw [mFind_eq a0 a1 (by omega) hw, Option.bind_some]
        obtain ⟨a, rfl⟩ : ∃ a : Nat, a2 = (a : Int) := ⟨a2.toNat, by omega⟩
        have hB := FS_bnd a0 a1 hw
        exact less_0 a0 hw a1 h30 a (by omega) _ _ _ _ _ _ _ _ _ 400000 0 (by omega) (by omega)
end Go.Proofs.Ytldkgladombmcaa.Pure
