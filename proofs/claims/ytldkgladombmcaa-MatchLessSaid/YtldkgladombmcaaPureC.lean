/- Proved here: which trees are gone through; their places; what is selected. -/
import Derived.Test.YtldkgladombmcaaPureB
namespace Go.Proofs.Ytldkgladombmcaa.Pure
open Go Go.RowKit Go.Proofs.Vx Go.Proofs.Ytldkgladombmcaa.Sh

/-! ### How much a tree is -/
theorem weighA (k : Nat) (self : T_api_Node → Int → Option Int) (q : Nat) (hq : q ≤ 30000) (a b c f : _) (ats : List T_api_Attr) (ks : List T_api_Node) (hat : ats.length ≤ q) : ∀ (m i w : Nat), i ≤ ats.length → ats.length < i + m → 1 ≤ w → w ≤ 4 * q + 1 →
    ∃ w', w ≤ w' ∧ w' ≤ 4 * q + 1 ∧ (w' ≤ q → w' = w + wtA (ats.drop i)) ∧ watchbilllaw04_weigh.l0 k self (q : Int) m a b c ats ks f (w : Int) (i : Int) = watchbilllaw04_weigh.l1 k self (q : Int) k a b c ats ks f (w' : Int) 0 := by
  intro m
  induction m with
  | zero => intro i w h1 h2; omega
  | succ m ih =>
    intro i w h1 h2 h0 h3
    unfold watchbilllaw04_weigh.l0
    by_cases hi : i < ats.length ∧ w ≤ q
    · rw [if_pos (by simp; omega), if_pos (by omega), if_pos (by omega), if_pos (by omega), wi (by omega)]
      have hd := rd_drop hi.1
      have c1 := mcap q ((rd ats (i : Int)).Name.Space.length : Int) (by omega) (by omega)
      have c2 := mcap q ((rd ats (i : Int)).Name.Local.length : Int) (by omega) (by omega)
      have c3 := mcap q ((rd ats (i : Int)).Value.length : Int) (by omega) (by omega)
      have hw : wtA (ats.drop i) = (rd ats (i : Int)).Name.Space.length + (rd ats (i : Int)).Name.Local.length + (rd ats (i : Int)).Value.length + wtA (ats.drop (i + 1)) := by rw [hd, wtA]
      generalize (rd ats (i : Int)).Name.Space.length = l1 at *
      generalize (rd ats (i : Int)).Name.Local.length = l2 at *
      generalize (rd ats (i : Int)).Value.length = l3 at *
      generalize (if (q : Int) < (l1 : Int) then (q : Int) else (l1 : Int)) = x1 at *
      generalize (if (q : Int) < (l2 : Int) then (q : Int) else (l2 : Int)) = x2 at *
      generalize (if (q : Int) < (l3 : Int) then (q : Int) else (l3 : Int)) = x3 at *
      rw [w64 (x := (w : Int) + x1) (by omega) (by omega), w64 (x := (w : Int) + x1 + x2) (by omega) (by omega), w64 (x := (w : Int) + x1 + x2 + x3) (by omega) (by omega)]
      obtain ⟨v, hv⟩ := Int.eq_ofNat_of_zero_le (show 0 ≤ (w : Int) + x1 + x2 + x3 by omega)
      rw [hv]
      obtain ⟨w', g1, g2, g3, g4⟩ := ih (i + 1) v (by omega) (by omega) (by omega) (by omega)
      refine ⟨w', by omega, g2, fun h => ?_, g4⟩
      have := g3 h
      omega
    · rw [if_neg (by simp; omega)]
      refine ⟨w, Nat.le_refl _, h3, fun h => ?_, rfl⟩
      have : i = ats.length := by omega
      rw [this, List.drop_length]; rfl
theorem weighK (k : Nat) (self : T_api_Node → Int → Option Int) (q : Nat) (hq : q ≤ 30000) (a b c f : _) (ats : List T_api_Attr) (ks : List T_api_Node)
    (hself : ∀ (n : T_api_Node) (p : Nat), p < q → ∃ w : Nat, self n (p : Int) = some (w : Int) ∧ 1 ≤ w ∧ w ≤ 8 * p + 1 ∧ (w ≤ p → wt n ≤ w)) : ∀ (m i w : Nat), 8 * q + 3 ≤ w + m → i ≤ ks.length → 1 ≤ w → w ≤ 8 * q + 1 → i ≤ w →
    ∃ w', w ≤ w' ∧ w' ≤ 8 * q + 1 ∧ (w' ≤ q → w + wtL (ks.drop i) ≤ w') ∧ watchbilllaw04_weigh.l1 k self (q : Int) m a b c ats ks f (w : Int) (i : Int) = some (w' : Int) := by
  intro m
  induction m with
  | zero =>
    intro i w h1 h2 h3 h4
    omega
  | succ m ih =>
    intro i w h1 h2 h3 h4 h5
    unfold watchbilllaw04_weigh.l1
    by_cases hi : i < ks.length ∧ w ≤ q
    · rw [if_pos (by simp; omega), if_pos (by omega), wi (by omega)]
      have e : IntKind.i64.wrap ((q : Int) - (w : Int)) = ((q - w : Nat) : Int) := by rw [w64 (by omega) (by omega)]; omega
      obtain ⟨t, ht, t1, t2, t3⟩ := hself (rd ks (i : Int)) (q - w) (by omega)
      have e2 : IntKind.i64.wrap ((w : Int) + (t : Int)) = ((w + t : Nat) : Int) := by rw [w64 (by omega) (by omega)]; omega
      rw [e, ht, Option.bind_some, e2]
      obtain ⟨w', g1, g2, g3, g4⟩ := ih (i + 1) (w + t) (by omega) (by omega) (by omega) (by omega) (by omega)
      refine ⟨w', by omega, g2, fun h => ?_, g4⟩
      have := g3 h
      have := t3 (by omega)
      rw [rd_drop hi.1, wtL]
      omega
    · rw [if_neg (by simp; omega)]
      refine ⟨w, Nat.le_refl _, h4, fun h => ?_, rfl⟩
      have : i = ks.length := by omega
      rw [this, List.drop_length, wtL]; omega
theorem weigh_eq : ∀ (d q k : Nat) (n : T_api_Node), q ≤ d → q ≤ 30000 → q + 240010 ≤ k → ∃ w : Nat, watchbilllaw04_weigh k n (q : Int) = some (w : Int) ∧ 1 ≤ w ∧ w ≤ 8 * q + 1 ∧ (w ≤ q → wt n ≤ w) := by
  have main : ∀ (q k : Nat) (n : T_api_Node), q ≤ 30000 → q + 240010 ≤ k + 1 → (∀ (n : T_api_Node) (p : Nat), p < q → ∃ w : Nat, watchbilllaw04_weigh k n (p : Int) = some (w : Int) ∧ 1 ≤ w ∧ w ≤ 8 * p + 1 ∧ (w ≤ p → wt n ≤ w)) →
      ∃ w : Nat, watchbilllaw04_weigh (k + 1) n (q : Int) = some (w : Int) ∧ 1 ≤ w ∧ w ≤ 8 * q + 1 ∧ (w ≤ q → wt n ≤ w) := by
    intro q k n hq hk hself
    rw [watchbilllaw04_weigh, wt_eq]
    have c1 := mcap q (n.Text.length : Int) (by omega) (by omega)
    have c2 := mcap q (n.Name.Space.length : Int) (by omega) (by omega)
    have c3 := mcap q (n.Name.Local.length : Int) (by omega) (by omega)
    have c4 := mcap q (n.Attrs.length : Int) (by omega) (by omega)
    generalize (if (q : Int) < (n.Text.length : Int) then (q : Int) else (n.Text.length : Int)) = x1 at *
    generalize (if (q : Int) < (n.Name.Space.length : Int) then (q : Int) else (n.Name.Space.length : Int)) = x2 at *
    generalize (if (q : Int) < (n.Name.Local.length : Int) then (q : Int) else (n.Name.Local.length : Int)) = x3 at *
    generalize (if (q : Int) < (n.Attrs.length : Int) then (q : Int) else (n.Attrs.length : Int)) = x4 at *
    rw [w64 (x := 1 + x1) (by omega) (by omega), w64 (x := 1 + x1 + x2) (by omega) (by omega), w64 (x := 1 + x1 + x2 + x3) (by omega) (by omega), w64 (x := 1 + x1 + x2 + x3 + x4) (by omega) (by omega)]
    obtain ⟨v, hv⟩ := Int.eq_ofNat_of_zero_le (show 0 ≤ 1 + x1 + x2 + x3 + x4 by omega)
    rw [hv]
    by_cases hat : n.Attrs.length ≤ q
    · obtain ⟨w1, a1, a2, a3, a4⟩ := weighA k (watchbilllaw04_weigh k) q hq n.Kind n.Name.Space n.Name.Local n.Text n.Attrs n.Kids hat k 0 v (by omega) (by omega) (by omega) (by omega)
      obtain ⟨w2, b1, b2, b3, b4⟩ := weighK k (watchbilllaw04_weigh k) q hq n.Kind n.Name.Space n.Name.Local n.Text n.Attrs n.Kids hself k 0 w1 (by omega) (by omega) (by omega) (by omega) (by omega)
      refine ⟨w2, a4.trans b4, by omega, b2, fun h => ?_⟩
      have := b3 h
      have := a3 (by omega)
      simp only [List.drop_zero] at *
      omega
    · obtain ⟨k, rfl⟩ : ∃ z, k = z + 1 := ⟨k - 1, by omega⟩
      refine ⟨v, ?_, by omega, by omega, fun h => by omega⟩
      unfold watchbilllaw04_weigh.l0
      rw [if_neg (by simp; omega)]
      unfold watchbilllaw04_weigh.l1
      rw [if_neg (by simp; omega)]
  intro d
  induction d with
  | zero =>
    intro q k n hq hd hk
    obtain ⟨k, rfl⟩ : ∃ z, k = z + 1 := ⟨k - 1, by omega⟩
    exact main q k n hd hk (fun n p hp => by omega)
  | succ d ih =>
    intro q k n hq hd hk
    obtain ⟨k, rfl⟩ : ∃ z, k = z + 1 := ⟨k - 1, by omega⟩
    exact main q k n hd hk (fun n p hp => ih p k n (by omega) (by omega) (by omega))
theorem few_eq (n : T_api_Node) : ∃ b, watchbilllaw04_Few 400000 n = some b ∧ (b = true → wt n ≤ 30000) := by
  obtain ⟨w, hw, _, _, h⟩ := weigh_eq 30000 30000 400000 n (by omega) (by omega) (by omega)
  refine ⟨decide ((w : Int) ≤ 30000), ?_, fun hb => ?_⟩
  · unfold watchbilllaw04_Few
    rw [show ((30000 : Nat) : Int) = 30000 from rfl] at hw
    rw [hw, Option.bind_some]
  · have : (w : Int) ≤ 30000 := by simpa using hb
    have := h (by omega)
    omega
theorem few10_l (k : Nat) (l : List T_api_Step) (h9 : l.length ≤ 6000) : ∀ (m i : Nat) (n : Int), 0 ≤ n → n ≤ 60000 → i ≤ l.length → l.length < i + m → ∃ b, watchbilllaw10_Few.l0 k l m n (i : Int) = some b := by
  intro m
  induction m with
  | zero => intro i n _ _ h1 h2; omega
  | succ m ih =>
    intro i n h0 hn h1 h2
    unfold watchbilllaw10_Few.l0
    by_cases hi : i < l.length ∧ n < 5000
    · rw [if_pos (by simp; omega), if_pos (by omega), wi (by omega)]
      have c1 := mcap 5000 ((rd l (i : Int)).Name.Space.length : Int) (by omega) (by omega)
      have c2 := mcap 5000 ((rd l (i : Int)).Name.Local.length : Int) (by omega) (by omega)
      have c3 := mcap 5000 ((rd l (i : Int)).Attr.Space.length : Int) (by omega) (by omega)
      have c4 := mcap 5000 ((rd l (i : Int)).Attr.Local.length : Int) (by omega) (by omega)
      have c5 := mcap 5000 ((rd l (i : Int)).Value.length : Int) (by omega) (by omega)
      generalize (if 5000 < ((rd l (i : Int)).Name.Space.length : Int) then (5000 : Int) else ((rd l (i : Int)).Name.Space.length : Int)) = x1 at *
      generalize (if 5000 < ((rd l (i : Int)).Name.Local.length : Int) then (5000 : Int) else ((rd l (i : Int)).Name.Local.length : Int)) = x2 at *
      generalize (if 5000 < ((rd l (i : Int)).Attr.Space.length : Int) then (5000 : Int) else ((rd l (i : Int)).Attr.Space.length : Int)) = x3 at *
      generalize (if 5000 < ((rd l (i : Int)).Attr.Local.length : Int) then (5000 : Int) else ((rd l (i : Int)).Attr.Local.length : Int)) = x4 at *
      generalize (if 5000 < ((rd l (i : Int)).Value.length : Int) then (5000 : Int) else ((rd l (i : Int)).Value.length : Int)) = x5 at *
      rw [w64 (x := n + x1) (by omega) (by omega), w64 (x := n + x1 + x2) (by omega) (by omega), w64 (x := n + x1 + x2 + x3) (by omega) (by omega), w64 (x := n + x1 + x2 + x3 + x4) (by omega) (by omega), w64 (x := n + x1 + x2 + x3 + x4 + x5) (by omega) (by omega)]
      exact ih (i + 1) _ (by omega) (by omega) (by omega) (by omega)
    · rw [if_neg (by simp; omega)]; exact ⟨_, rfl⟩
theorem few10_eq (l : List T_api_Step) : ∃ b, watchbilllaw10_Few 400000 l = some b ∧ (b = true → l.length ≤ 5000) := by
  unfold watchbilllaw10_Few
  by_cases h : l.length < 5000
  · rw [if_neg (by omega)]
    obtain ⟨b, hb⟩ := few10_l 400000 l (by omega) 400000 0 l.length (by omega) (by omega) (by omega) (by omega)
    exact ⟨b, hb, fun _ => by omega⟩
  · refine ⟨false, ?_, fun h => by cases h⟩
    have e : (if 5000 < (l.length : Int) then (5000 : Int) else (l.length : Int)) = 5000 := by split <;> omega
    rw [e]
    unfold watchbilllaw10_Few.l0
    rw [if_neg (by simp)]; rfl
/-! ### Places -/
mutual
def plc : T_api_Node → List (List Int)
  | .mk kind _ _ ks _ => if kind == 1 then [] :: plcL ks 0 else []
def plcL : List T_api_Node → Nat → List (List Int)
  | [], _ => []
  | n :: l, i => (plc n).map (fun p => (i : Int) :: p) ++ plcL l (i + 1)
end
theorem plc_eq (n : T_api_Node) : plc n = if n.Kind == 1 then [] :: plcL n.Kids 0 else [] := by cases n; rw [plc]
mutual
theorem plc_bnd : ∀ n : T_api_Node, (plc n).length ≤ wt n ∧ ∀ p ∈ plc n, p.length ≤ wt n
  | .mk kind nm ats ks tx => by
    have h := plcL_bnd ks 0
    rw [plc, wt]
    split
    · refine ⟨by simp; omega, fun p hp => ?_⟩
      rcases List.mem_cons.1 hp with rfl | hp
      · simp
      · have := h.2 p hp; omega
    · exact ⟨by simp, fun p hp => by cases hp⟩
theorem plcL_bnd : ∀ (l : List T_api_Node) (i : Nat), (plcL l i).length ≤ wtL l ∧ ∀ p ∈ plcL l i, p.length ≤ wtL l + 1
  | [], i => by rw [plcL]; exact ⟨by simp, fun p hp => by cases hp⟩
  | n :: l, i => by
    have h1 := plc_bnd n
    have h2 := plcL_bnd l (i + 1)
    rw [plcL, wtL]
    refine ⟨by simp; omega, fun p hp => ?_⟩
    rcases List.mem_append.1 hp with hp | hp
    · obtain ⟨q, hq, rfl⟩ := List.mem_map.1 hp
      have := h1.2 q hq; simp; omega
    · have := h2.2 p hp; omega
end
theorem wi1 {i : Nat} (h : i ≤ 9000000000000) : IntKind.i64.wrap ((i : Int) + 1) = ((i + 1 : Nat) : Int) := wi h
theorem rplaces_1 (k : Nat) (c0 : Int → Str → Str → List T_api_Attr → List T_api_Node → Str → List (List Int) → Int → Option (List (List Int))) (x : Nat) (hx : x ≤ 90000) (t : List (List Int)) (ht : t.length ≤ 90000) (hp : ∀ p ∈ t, p.length ≤ 90000) (a b c d e f : _) : ∀ (m i : Nat) (y : List (List Int)), i ≤ t.length → t.length < i + m → y.length ≤ 90000 + i →
    watchbillref06_Places.l1 k c0 (x : Int) t m a b c d e f y (i : Int) = c0 a b c d e f (y ++ (t.drop i).map (fun p => (x : Int) :: p)) ((x + 1 : Nat) : Int) := by
  intro m
  induction m with
  | zero => intro i y h1 h2; omega
  | succ m ih =>
    intro i y h1 h2 h3
    unfold watchbillref06_Places.l1
    by_cases hi : i < t.length
    · have hm : rd t (i : Int) ∈ t := by simp [rd, hi]
      have := hp _ hm
      rw [if_pos (by simp; omega), if_pos (by omega), if_pos (by simp; omega), if_pos (by simp; omega), wi (by omega), ih (i + 1) _ (by omega) (by omega) (by simp; omega), rd_drop hi]
      simp
    · rw [if_neg (by simp; omega), List.drop_of_length_le (by omega), wi (by omega)]; simp
theorem rplaces_0 (k : Nat) (hk : 100000 < k) (self : T_api_Node → Option (List (List Int))) (ks : List T_api_Node) (hb : wtL ks ≤ 40000) (hself : ∀ n ∈ ks, self n = some (plc n)) (a b c d f : _) : ∀ (m i : Nat) (y : List (List Int)), i ≤ ks.length → ks.length < i + m → y.length + (plcL (ks.drop i) i).length ≤ 90000 →
    watchbillref06_Places.l0 k self m a b c d ks f y (i : Int) = some (y ++ plcL (ks.drop i) i) := by
  have hl := wtL_len ks
  intro m
  induction m with
  | zero => intro i y h1 h2; omega
  | succ m ih =>
    intro i y h1 h2 h3
    unfold watchbillref06_Places.l0
    by_cases hi : i < ks.length
    · have hm : rd ks (i : Int) ∈ ks := by simp [rd, hi]
      have hw := wtL_mem hm
      have hp := plc_bnd (rd ks (i : Int))
      rw [rd_drop hi, plcL] at h3 ⊢
      simp at h3
      have h1' := rplaces_1 k (watchbillref06_Places.l0 k self m) i (by omega) (plc (rd ks (i : Int))) (by omega) (fun p hpp => by have := hp.2 p hpp; omega) a b c d ks f k 0 y (by omega) (by omega) (by omega)
      rw [show ((0 : Nat) : Int) = 0 from rfl, List.drop_zero] at h1'
      rw [if_pos (by simp; omega), if_pos (by omega), hself _ hm, Option.bind_some, h1', ih (i + 1) _ (by omega) (by omega) (by simp; omega)]
      simp
    · rw [if_neg (by simp; omega), List.drop_of_length_le (by omega), plcL, List.append_nil]
theorem rplaces_eq : ∀ (d k : Nat) (n : T_api_Node), wt n ≤ d → wt n ≤ 40000 → wt n + 100010 ≤ k → watchbillref06_Places k n = some (plc n) := by
  intro d
  induction d with
  | zero => intro k n h1 h2; have := wt_pos n; omega
  | succ d ih =>
    intro k n h1 h2 h3
    obtain ⟨k, rfl⟩ : ∃ z, k = z + 1 := ⟨k - 1, by omega⟩
    rw [watchbillref06_Places, plc_eq]
    cases hk : (n.Kind == 1) with
    | false => simp
    | true =>
      have hw := wt_eq n
      have hb := plcL_bnd n.Kids 0
      rw [if_pos rfl, if_pos (by simp)]
      have := rplaces_0 k (by omega) (watchbillref06_Places k) n.Kids (by omega) (fun m hm => ih k m (by have := kid_lt hm; omega) (by have := kid_lt hm; omega) (by have := kid_lt hm; omega)) n.Kind n.Name.Space n.Name.Local n.Attrs n.Text k 0 [[]] (by omega) (by have := wtL_len n.Kids; omega) (by simp; omega)
      rw [show ((0 : Nat) : Int) = 0 from rfl] at this
      rw [List.nil_append, this]
      simp
end Go.Proofs.Ytldkgladombmcaa.Pure
