/- Proved here: services that are few; their elements, as the program makes them. -/
import Derived.Test.YtannhioamkkdnaaPureG
namespace Go.Proofs.Ytannhioamkkdnaa.Pure
open Go Go.RowKit Go.Proofs.Vx Go.Proofs.Ytannhioamkkdnaa.Sh
set_option linter.unusedSimpArgs false
set_option linter.unusedVariables false

mutual
def wN : T_api_Entry → Nat
  | .mk _ u n l => 1 + u.length + n.length + wNL l
def wNL : List T_api_Entry → Nat
  | [] => 0
  | x :: l => wN x + wNL l
end
theorem wN_eq (x : T_api_Entry) : wN x = 1 + x.URI.length + x.Name.length + wNL x.List_ := by cases x; rw [wN]
mutual
def wT : T_api_Entry → Nat
  | .mk kd _ n l => 1 + (if kd = 1 then n.length else 0) + wTL l
def wTL : List T_api_Entry → Nat
  | [] => 0
  | x :: l => wT x + wTL l
end
theorem wT_eq (x : T_api_Entry) : wT x = 1 + (if x.Kind = 1 then x.Name.length else 0) + wTL x.List_ := by cases x; rw [wT]
mutual
theorem wE_le : ∀ x : T_api_Entry, wE x ≤ wT x
  | .mk kd u n l => by rw [wE, wT]; have := wEL_le l; omega
theorem wEL_le : ∀ l : List T_api_Entry, wEL l ≤ wTL l
  | [] => by rw [wEL, wTL]; exact Nat.le_refl _
  | x :: l => by rw [wEL, wTL]; have := wE_le x; have := wEL_le l; omega
end
mutual
theorem wT_le : ∀ x : T_api_Entry, wT x ≤ wN x
  | .mk kd u n l => by rw [wT, wN]; have := wTL_le l; split <;> omega
theorem wTL_le : ∀ l : List T_api_Entry, wTL l ≤ wNL l
  | [] => by rw [wTL, wNL]; exact Nat.le_refl _
  | x :: l => by rw [wTL, wNL]; have := wT_le x; have := wTL_le l; omega
end
theorem weigh16_l (k : Nat) (self : List T_api_Entry → Int → Option Int) (q : Nat) (hq : q ≤ 5000) (l : List T_api_Entry)
    (hself : ∀ (l : List T_api_Entry) (p : Nat), p < q → ∃ w : Nat, self l (p : Int) = some (w : Int) ∧ w ≤ 4 * p + 1 ∧ (w ≤ p → wNL l ≤ w)) : ∀ (m i n : Nat), q + 2 ≤ n + m → i ≤ l.length → i ≤ n → n ≤ 4 * q + 1 → 0 < m →
    ∃ w : Nat, watchbilllaw16_weigh.l0 k self l (q : Int) m (n : Int) (i : Int) = some (w : Int) ∧ n ≤ w ∧ w ≤ 4 * q + 1 ∧ (w ≤ q → n + wNL (l.drop i) ≤ w) := by
  intro m
  induction m with
  | zero => intro i n h1 h2 h3 h4 h5; omega
  | succ m ih =>
    intro i n h1 h2 h3 h4 h5
    unfold watchbilllaw16_weigh.l0
    by_cases hi : i < l.length ∧ n ≤ q
    · rw [if_pos (by simp; omega), if_pos (by omega), if_pos (by omega)]
      have c1 := mcap q ((rd l (i : Int)).URI.length : Int) (by omega) (by omega)
      have c2 := mcap q ((rd l (i : Int)).Name.length : Int) (by omega) (by omega)
      have hw : wNL (l.drop i) = 1 + (rd l (i : Int)).URI.length + (rd l (i : Int)).Name.length + wNL (rd l (i : Int)).List_ + wNL (l.drop (i + 1)) := by rw [rd_drop hi.1, wNL, wN_eq]
      generalize (rd l (i : Int)).URI.length = l1 at *
      generalize (rd l (i : Int)).Name.length = l2 at *
      generalize (if (q : Int) < (l1 : Int) then (q : Int) else (l1 : Int)) = x1 at *
      generalize (if (q : Int) < (l2 : Int) then (q : Int) else (l2 : Int)) = x2 at *
      rw [w64 (x := (n : Int) + 1) (by omega) (by omega), w64 (x := (n : Int) + 1 + x1) (by omega) (by omega), w64 (x := (n : Int) + 1 + x1 + x2) (by omega) (by omega)]
      obtain ⟨v, hv⟩ := Int.eq_ofNat_of_zero_le (show 0 ≤ (n : Int) + 1 + x1 + x2 by omega)
      rw [hv, wi (by omega)]
      by_cases hvq : v ≤ q
      · have e : IntKind.i64.wrap ((q : Int) - (v : Int)) = ((q - v : Nat) : Int) := by rw [w64 (by omega) (by omega)]; omega
        obtain ⟨t, ht, t2, t3⟩ := hself (rd l (i : Int)).List_ (q - v) (by omega)
        have e2 : IntKind.i64.wrap ((v : Int) + (t : Int)) = ((v + t : Nat) : Int) := by rw [w64 (by omega) (by omega)]; omega
        rw [if_pos (by simp; omega), if_pos (by omega), e, ht, Option.bind_some, e2]
        obtain ⟨w, g1, g2, g3, g4⟩ := ih (i + 1) (v + t) (by omega) (by omega) (by omega) (by omega) (by omega)
        refine ⟨w, g1, by omega, g3, fun h => ?_⟩
        have := g4 h
        have := t3 (by omega)
        omega
      · rw [if_neg (by simp; omega)]
        by_cases hm : 0 < m
        · obtain ⟨w, g1, g2, g3, g4⟩ := ih (i + 1) v (by omega) (by omega) (by omega) (by omega) hm
          exact ⟨w, g1, by omega, g3, fun h => by omega⟩
        · omega
    · rw [if_neg (by simp; omega)]
      refine ⟨n, rfl, Nat.le_refl _, h4, fun h => ?_⟩
      have : i = l.length := by omega
      rw [this, List.drop_length, wNL]; omega
theorem weigh16_eq : ∀ (d q k : Nat) (l : List T_api_Entry), q ≤ d → q ≤ 5000 → q + 60010 ≤ k → ∃ w : Nat, watchbilllaw16_weigh k l (q : Int) = some (w : Int) ∧ w ≤ 4 * q + 1 ∧ (w ≤ q → wNL l ≤ w) := by
  have main : ∀ (q k : Nat) (l : List T_api_Entry), q ≤ 5000 → q + 60010 ≤ k + 1 → (∀ (l : List T_api_Entry) (p : Nat), p < q → ∃ w : Nat, watchbilllaw16_weigh k l (p : Int) = some (w : Int) ∧ w ≤ 4 * p + 1 ∧ (w ≤ p → wNL l ≤ w)) →
      ∃ w : Nat, watchbilllaw16_weigh (k + 1) l (q : Int) = some (w : Int) ∧ w ≤ 4 * q + 1 ∧ (w ≤ q → wNL l ≤ w) := by
    intro q k l hq hk hself
    rw [watchbilllaw16_weigh]
    obtain ⟨w, g1, g2, g3, g4⟩ := weigh16_l k (watchbilllaw16_weigh k) q hq l hself k 0 0 (by omega) (by omega) (by omega) (by omega) (by omega)
    exact ⟨w, g1, g3, fun h => by have := g4 h; simpa using this⟩
  intro d
  induction d with
  | zero =>
    intro q k l h1 h2 h3
    obtain ⟨k, rfl⟩ : ∃ z, k = z + 1 := ⟨k - 1, by omega⟩
    exact main q k l h2 h3 (fun l p hp => by omega)
  | succ d ih =>
    intro q k l h1 h2 h3
    obtain ⟨k, rfl⟩ : ∃ z, k = z + 1 := ⟨k - 1, by omega⟩
    exact main q k l h2 h3 (fun l p hp => ih p k l (by omega) (by omega) (by omega))
theorem few16_eq (k : Nat) (hk : 400000 ≤ k) (l : List T_api_Entry) : ∃ b, watchbilllaw16_Few k l = some b ∧ (b = true → wNL l ≤ 5000) := by
  obtain ⟨w, hw, _, h⟩ := weigh16_eq 5000 5000 k l (by omega) (by omega) (by omega)
  refine ⟨decide ((w : Int) ≤ 5000), ?_, fun hb => ?_⟩
  · unfold watchbilllaw16_Few
    rw [show ((5000 : Nat) : Int) = 5000 from rfl] at hw
    rw [hw, Option.bind_some]
  · have : (w : Int) ≤ 5000 := by simpa using hb
    have := h (by omega)
    omega

def cap5 (n : Nat) : Nat := min n 5000
def wP : List Str → Nat
  | [] => 0
  | p :: l => cap5 p.length + wP l
theorem cap_eq (n : Nat) : (if (5000 : Int) < (n : Int) then (5000 : Int) else (n : Int)) = ((cap5 n : Nat) : Int) := by unfold cap5; split <;> omega
theorem cap_le (n : Nat) : cap5 n ≤ 5000 := by unfold cap5; omega
def fewX (x : T_api_Service) : Prop := wNL x.List_ ≤ 5000 ∧ x.Packages.length ≤ 100 ∧ cap5 x.URI.length + cap5 x.Ref.length + wP x.Packages ≤ 5000
def fewV (l : List T_api_Service) : Prop := l.length ≤ 100 ∧ ∀ x ∈ l, fewX x
def capX (x : T_api_Service) : Nat := cap5 x.URI.length + cap5 x.Ref.length + wP x.Packages
def capL : List T_api_Service → Nat
  | [] => 0
  | x :: l => capX x + capL l
theorem few17_l1 (k : Nat) (c0 : Int → Int → Option Bool) (l : List T_api_Service) (x4 : Int) (u : Str) (L : List T_api_Entry) (inl : Bool) (ref : Str) (ps : List Str) (h9 : ps.length ≤ 100) : ∀ (m i n : Nat), i ≤ ps.length → ps.length < i + m → n ≤ 15000 + 5000 * i →
    watchbilllaw17_Few.l1 k c0 l x4 m u L inl ref ps (n : Int) (i : Int) = if n + wP (ps.drop i) > 5000 then some false else c0 ((n + wP (ps.drop i) : Nat) : Int) (IntKind.i64.wrap (x4 + 1)) := by
  intro m
  induction m with
  | zero => intro i n h1 h2; omega
  | succ m ih =>
    intro i n h1 h2 h3
    unfold watchbilllaw17_Few.l1
    by_cases hi : i < ps.length
    · have hc := cap_le (rd ps (i : Int)).length
      rw [if_pos (by simp; omega), if_pos (by omega), cap_eq, wi (by omega)]
      have e : IntKind.i64.wrap ((n : Int) + ((cap5 (rd ps (i : Int)).length : Nat) : Int)) = ((n + cap5 (rd ps (i : Int)).length : Nat) : Int) := by rw [w64 (by omega) (by omega)]; omega
      rw [e, ih (i + 1) _ (by omega) (by omega) (by omega), rd_drop hi, wP, Nat.add_assoc]
    · rw [if_neg (by simp; omega), List.drop_of_length_le (by omega)]
      rw [show n + wP [] = n from rfl]
      by_cases hn : n > 5000
      · rw [if_pos hn, if_pos (by simp; omega)]
      · rw [if_neg hn, if_neg (by simp; omega)]
theorem few17_l0 (k : Nat) (hk : 400000 ≤ k) (l : List T_api_Service) : ∀ (m i n : Nat), i ≤ l.length → i ≤ 100 → 100 < i + m → n ≤ 5000 → ∃ b, watchbilllaw17_Few.l0 k l m (n : Int) (i : Int) = some b ∧ (b = true → l.length ≤ 100 ∧ (∀ x ∈ l.drop i, fewX x) ∧ n + capL (l.drop i) ≤ 5000) := by
  intro m
  induction m with
  | zero => intro i n h1 h2; omega
  | succ m ih =>
    intro i n h1 h2 h3 h4
    unfold watchbilllaw17_Few.l0
    by_cases hi : i < l.length
    · rw [if_pos (by simp; omega), if_pos (by omega)]
      by_cases h100 : i < 100
      · obtain ⟨b, hb, hb2⟩ := few16_eq k hk (rd l (i : Int)).List_
        have hd : decide ((i : Int) ≥ 100) = false := by simp; omega
        rw [hd, if_pos (by simp), hb, Option.bind_some]
        cases b with
        | false => rw [if_pos (by simp)]; exact ⟨false, rfl, fun h => by cases h⟩
        | true =>
          by_cases hp : (rd l (i : Int)).Packages.length ≤ 100
          · have c1 := cap_le (rd l (i : Int)).URI.length
            have c2 := cap_le (rd l (i : Int)).Ref.length
            rw [if_neg (by simp; omega), cap_eq, cap_eq]
            have e : IntKind.i64.wrap (IntKind.i64.wrap ((n : Int) + ((cap5 (rd l (i : Int)).URI.length : Nat) : Int)) + ((cap5 (rd l (i : Int)).Ref.length : Nat) : Int)) = ((n + cap5 (rd l (i : Int)).URI.length + cap5 (rd l (i : Int)).Ref.length : Nat) : Int) := by
              rw [w64 (x := (n : Int) + _) (by omega) (by omega), w64 (by omega) (by omega)]; omega
            have h1 := few17_l1 k (watchbilllaw17_Few.l0 k l m) l (i : Int) (rd l (i : Int)).URI (rd l (i : Int)).List_ (rd l (i : Int)).Inline (rd l (i : Int)).Ref (rd l (i : Int)).Packages hp k 0 (n + cap5 (rd l (i : Int)).URI.length + cap5 (rd l (i : Int)).Ref.length) (by omega) (by omega) (by omega)
            rw [e]
            have h1' : watchbilllaw17_Few.l1 k (watchbilllaw17_Few.l0 k l m) l (i : Int) k (rd l (i : Int)).URI (rd l (i : Int)).List_ (rd l (i : Int)).Inline (rd l (i : Int)).Ref (rd l (i : Int)).Packages ((n + cap5 (rd l (i : Int)).URI.length + cap5 (rd l (i : Int)).Ref.length : Nat) : Int) 0 = _ := h1
            rw [h1', List.drop_zero]
            by_cases hn : n + cap5 (rd l (i : Int)).URI.length + cap5 (rd l (i : Int)).Ref.length + wP (rd l (i : Int)).Packages > 5000
            · rw [if_pos hn]; exact ⟨false, rfl, fun h => by cases h⟩
            · rw [if_neg hn, wi (by omega)]
              obtain ⟨b, g1, g2⟩ := ih (i + 1) (n + cap5 (rd l (i : Int)).URI.length + cap5 (rd l (i : Int)).Ref.length + wP (rd l (i : Int)).Packages) (by omega) (by omega) (by omega) (by omega)
              refine ⟨b, g1, fun h => ⟨(g2 h).1, fun y hy => ?_, ?_⟩⟩
              · rw [rd_drop hi] at hy
                rcases List.mem_cons.1 hy with rfl | hy
                · exact ⟨hb2 rfl, hp, by omega⟩
                · exact (g2 h).2.1 y hy
              · have := (g2 h).2.2
                rw [rd_drop hi, capL]; unfold capX; omega
          · rw [if_pos (by simp; omega)]; exact ⟨false, rfl, fun h => by cases h⟩
      · have hd : decide ((i : Int) ≥ 100) = true := by simp; omega
        rw [hd]
        exact ⟨false, rfl, fun h => by cases h⟩
    · rw [if_neg (by simp; omega)]
      exact ⟨true, rfl, fun _ => ⟨by omega, by rw [List.drop_of_length_le (by omega)]; simp, by rw [List.drop_of_length_le (by omega), capL]; omega⟩⟩
theorem few17_eq (k : Nat) (hk : 400000 ≤ k) (l : List T_api_Service) : ∃ b, watchbilllaw17_Few k l = some b ∧ (b = true → fewV l ∧ capL l ≤ 5000) := by
  obtain ⟨b, g1, g2⟩ := few17_l0 k hk l k 0 0 (by omega) (by omega) (by omega) (by omega)
  refine ⟨b, by simpa [watchbilllaw17_Few] using g1, fun h => ?_⟩
  obtain ⟨q1, q2, q3⟩ := g2 h
  rw [List.drop_zero] at q2 q3
  exact ⟨⟨q1, q2⟩, by omega⟩

def elS (sp lo nm v : Str) (ks : List T_api_Node) : T_api_Node := ⟨1, ⟨sp, lo⟩, if v = [] then [] else [⟨⟨[], nm⟩, v⟩], ks, []⟩
def txtN (s : Str) : T_api_Node := ⟨2, ⟨[], []⟩, [], [], s⟩
def noN : T_api_Node := ⟨0, ⟨[], []⟩, [], [], []⟩
mutual
def mayE : T_api_Entry → Bool
  | .mk kd u n l => if kd = 2 then mayL l && (u == []) else if kd = 1 then (!(u == []) && l.isEmpty) && (trimS n == n) else if kd = 3 ∨ kd = 4 then (!(u == []) && l.isEmpty) && (n == []) else false
def mayL : List T_api_Entry → Bool
  | [] => true
  | x :: l => mayE x && mayL l
end
mutual
def encE : T_api_Entry → T_api_Node
  | .mk kd u n l => if kd = 3 then elS SPl wExt wAnchor u [] else if kd = 4 then elS SPl wRef wRf u [] else if kd = 1 then elS SPl wEntry wUri u (if n = [] then [] else [elS SPl wDisp [] [] [txtN n]]) else elS SPl wList wName n (encL l)
def encL : List T_api_Entry → List T_api_Node
  | [] => []
  | x :: l => encE x :: encL l
end
theorem mayE_eq (x : T_api_Entry) : mayE x = if x.Kind = 2 then mayL x.List_ && (x.URI == []) else if x.Kind = 1 then (!(x.URI == []) && x.List_.isEmpty) && (trimS x.Name == x.Name) else if x.Kind = 3 ∨ x.Kind = 4 then (!(x.URI == []) && x.List_.isEmpty) && (x.Name == []) else false := by cases x; rw [mayE]
theorem encE_eq (x : T_api_Entry) : encE x = if x.Kind = 3 then elS SPl wExt wAnchor x.URI [] else if x.Kind = 4 then elS SPl wRef wRf x.URI [] else if x.Kind = 1 then elS SPl wEntry wUri x.URI (if x.Name = [] then [] else [elS SPl wDisp [] [] [txtN x.Name]]) else elS SPl wList wName x.Name (encL x.List_) := by cases x; rw [encE]
theorem encL_map : ∀ l : List T_api_Entry, encL l = l.map encE
  | [] => rfl
  | x :: l => by rw [encL, encL_map l]; rfl
theorem wTL_mem {l : List T_api_Entry} {x : T_api_Entry} (h : x ∈ l) : wT x ≤ wTL l := by
  induction l with
  | nil => cases h
  | cons m l ih =>
    rw [wTL]
    rcases List.mem_cons.1 h with rfl | h
    · omega
    · have := ih h; omega
theorem wTL_len : ∀ l : List T_api_Entry, l.length ≤ wTL l := fun l => Nat.le_trans (wEL_len l) (wEL_le l)
theorem lmay_l (k : Nat) (self : T_api_Entry → Option Bool) (x : T_api_Entry) (hl : ∀ y ∈ x.List_, self y = some (mayE y)) (h9 : x.List_.length ≤ 2000000000) (z0 : Int) (u z2 : Str) (z3 : List T_api_Entry) : ∀ (m i : Nat), i ≤ x.List_.length → x.List_.length < i + m →
    lists_may.l0 k self x m z0 u z2 z3 (i : Int) = some (mayL (x.List_.drop i) && (u == [])) := by
  intro m
  induction m with
  | zero => intro i h1 h2; omega
  | succ m ih =>
    intro i h1 h2
    unfold lists_may.l0
    by_cases hi : i < x.List_.length
    · rw [if_pos (by simp; omega), if_pos (by omega), hl _ (rd_mem hi), Option.bind_some, wi (by omega), ih (i + 1) (by omega) (by omega), rd_drop hi, mayL]
      cases mayE (rd x.List_ (i : Int)) <;> simp
    · rw [if_neg (by simp; omega), List.drop_of_length_le (by omega)]; simp [mayL]
theorem lmay_eq : ∀ (d k : Nat) (x : T_api_Entry), wT x ≤ d → wT x ≤ 2000000000 → wT x + 3000000010 ≤ k → lists_may k x = some (mayE x) := by
  intro d
  induction d with
  | zero => intro k x h1; rw [wT_eq] at h1; omega
  | succ d ih =>
    intro k x h1 h2 h3
    obtain ⟨k, rfl⟩ : ∃ z, k = z + 1 := ⟨k - 1, by omega⟩
    have he := wT_eq x
    have hlen := wTL_len x.List_
    have h0 := lmay_l k (lists_may k) x (fun y hy => by have := wTL_mem hy; exact ih k y (by omega) (by omega) (by omega)) (by omega) x.Kind x.URI x.Name x.List_ k 0 (by omega) (by omega)
    rw [lists_may, mayE_eq]
    have hem : ((x.List_.length : Int) == 0) = x.List_.isEmpty := by cases x.List_ <;> simp; omega
    by_cases h2k : x.Kind = 2
    · rw [if_pos (by simpa using h2k), if_pos h2k]
      simpa using h0
    · rw [if_neg (by simpa using h2k), if_neg h2k, hem]
      by_cases h1k : x.Kind = 1
      · have htr := tr_eq k (by omega) x.Name (by rw [if_pos h1k] at he; omega)
        rw [if_pos (by simpa using h1k), if_pos h1k, htr]
        cases x.URI == [] <;> cases x.List_.isEmpty <;> simp
      · rw [if_neg (by simpa using h1k), if_neg h1k]
        unfold lists_may.j1
        rw [hem]
        by_cases h3k : x.Kind = 3
        · simp [h3k]
        · by_cases h4k : x.Kind = 4 <;> simp [h3k, h4k]
theorem lelem_eq (lo nm v : Str) : lists_element lo nm v = some (elS SPl lo nm v []) := by
  unfold lists_element elS
  rw [lown, Option.bind_some]
  by_cases h : v = [] <;> simp [h]
theorem lenc_l (k : Nat) (self : T_api_Entry → Option T_api_Node) (x : T_api_Entry) (hl : ∀ y ∈ x.List_, self y = some (encE y)) (h9 : x.List_.length ≤ 2000000000) (z0 : Int) (z1 z2 : Str) (z3 : List T_api_Attr) (z4 : List T_api_Node) (z5 : Str) (kd : Int) (sp lo : Str) (ats : List T_api_Attr) (tx : Str) : ∀ (m i : Nat) (y : List T_api_Node), i ≤ x.List_.length → x.List_.length < i + m → y.length ≤ i →
    lists_encode.l0 k self x m z0 z1 z2 z3 z4 z5 kd sp lo ats tx y (i : Int) = some ⟨kd, ⟨sp, lo⟩, ats, y ++ encL (x.List_.drop i), tx⟩ := by
  intro m
  induction m with
  | zero => intro i y h1 h2; omega
  | succ m ih =>
    intro i y h1 h2 h3
    unfold lists_encode.l0
    by_cases hi : i < x.List_.length
    · rw [if_pos (by simp; omega), if_pos (by omega), hl _ (rd_mem hi), Option.bind_some, if_pos (by simp; omega), wi (by omega), ih (i + 1) _ (by omega) (by omega) (by simp; omega), rd_drop hi, encL]
      simp
    · rw [if_neg (by simp; omega), List.drop_of_length_le (by omega)]; simp [encL]
theorem lenc_eq : ∀ (d k : Nat) (x : T_api_Entry), wE x ≤ d → wE x ≤ 2000000000 → wE x + 3000000010 ≤ k → lists_encode k x = some (encE x) := by
  intro d
  induction d with
  | zero => intro k x h1; rw [wE_eq] at h1; omega
  | succ d ih =>
    intro k x h1 h2 h3
    obtain ⟨k, rfl⟩ : ∃ z, k = z + 1 := ⟨k - 1, by omega⟩
    have he := wE_eq x
    have hlen := wEL_len x.List_
    have e1 : lists_element [101, 120, 116, 101, 114, 110, 97, 108] [97, 110, 99, 104, 111, 114] x.URI = some (elS SPl wExt wAnchor x.URI []) := lelem_eq _ _ _
    have e2 : lists_element [101, 110, 116, 114, 121, 45, 114, 101, 102] [114, 101, 102] x.URI = some (elS SPl wRef wRf x.URI []) := lelem_eq _ _ _
    have e3 : lists_element [101, 110, 116, 114, 121] [117, 114, 105] x.URI = some (elS SPl wEntry wUri x.URI []) := lelem_eq _ _ _
    have e4 : lists_element [100, 105, 115, 112, 108, 97, 121, 45, 110, 97, 109, 101] [] [] = some (elS SPl wDisp [] [] []) := lelem_eq _ _ _
    have e5 : lists_element [108, 105, 115, 116] [110, 97, 109, 101] x.Name = some (elS SPl wList wName x.Name []) := lelem_eq _ _ _
    rw [lists_encode, encE_eq, e1, e2, e3, e4, e5]
    by_cases h3k : x.Kind = 3
    · rw [if_pos (by simpa using h3k), if_pos h3k]; rfl
    · rw [if_neg (by simpa using h3k), if_neg h3k]
      by_cases h4k : x.Kind = 4
      · rw [if_pos (by simpa using h4k), if_pos h4k]; rfl
      · rw [if_neg (by simpa using h4k), if_neg h4k]
        by_cases h1k : x.Kind = 1
        · rw [if_pos (by simpa using h1k), if_pos h1k, Option.bind_some]
          by_cases hn : x.Name = []
          · rw [if_neg (by simp [hn]), if_pos hn]; rfl
          · rw [if_pos (by simpa using hn), if_neg hn]; rfl
        · rw [if_neg (by simpa using h1k), if_neg h1k, Option.bind_some]
          have h0 := lenc_l k (lists_encode k) x (fun y hy => by have := wEL_mem hy; exact ih k y (by omega) (by omega) (by omega)) (by omega) 0 [] [] [] [] [] 1 SPl wList (elS SPl wList wName x.Name []).Attrs [] k 0 [] (by omega) (by omega) (by simp)
          refine Eq.trans h0 ?_
          rw [List.drop_zero]
          rfl
theorem lEnc_eq (k : Nat) (hk : 9000000000 ≤ k) (l : List T_api_Entry) (h : wTL l ≤ 100000000) : lists_EncodeList k ⟨2, [], [], l⟩ = some (if mayL l = true then (if uqF [] l = true then (encE ⟨2, [], [], l⟩, 0) else (noN, 41)) else (noN, 4)) := by
  have hle := wEL_le l
  have hw := wT_eq ⟨2, [], [], l⟩
  have hw2 := wE_eq ⟨2, [], [], l⟩
  simp only [show ¬ ((2 : Int) = 1) by decide, if_false] at hw hw2
  unfold lists_EncodeList
  have hm : mayE ⟨2, [], [], l⟩ = mayL l := by rw [mayE_eq]; simp
  rw [lmay_eq (wT ⟨2, [], [], l⟩) k _ (Nat.le_refl _) (by omega) (by omega), hm, lenc_eq (wE ⟨2, [], [], l⟩) k _ (Nat.le_refl _) (by omega) (by omega), luq_eq (wEL l + 1) k l (by omega) (by omega) (by omega)]
  cases mayL l <;> cases uqF [] l <;> simp [noN]

def wordN (lo s : Str) : T_api_Node := elS SPs lo [] [] [txtN s]
def trmd (s : Str) : Bool := !(s == []) && (trimS s == s)
def mayV (x : T_api_Service) : Bool := !(x.URI == []) && ((if x.Inline = true then (x.Ref == []) && mayL x.List_ else trmd x.Ref && x.List_.isEmpty) && x.Packages.all trmd)
def firstN (x : T_api_Service) : T_api_Node := if x.Inline = true then encE ⟨2, [], [], x.List_⟩ else wordN wRL x.Ref
def pkgsN (ps : List Str) : List T_api_Node := if ps = [] then [] else [elS SPs wPkgs [] [] (ps.map (wordN wPkg))]
def madeV (x : T_api_Service) : T_api_Node := elS SPs wSvc wUri x.URI (firstN x :: pkgsN x.Packages)
theorem stext_eq (lo s : Str) : services_text lo s = some (wordN lo s) := by unfold services_text; rw [sown]; rfl
theorem strm_eq (k : Nat) (hk : 3000000000 ≤ k) (s : Str) (h : s.length ≤ 2000000000) : services_trimmed k s = some (trmd s) := by
  unfold services_trimmed trmd
  rw [tr_eq k hk s h]
  cases s == [] <;> simp
theorem senc_l (k : Nat) (hk : 3000000000 ≤ k) (x : T_api_Service) (e : Int) (hp : ∀ p ∈ x.Packages, p.length ≤ 2000000000) (h9 : x.Packages.length ≤ 2000000000) (z0 : Int) (z1 z2 : Str) (z3 : List T_api_Attr) (z4 : List T_api_Node) (z5 : Str) (kd : Int) (sp lo : Str) (ats : List T_api_Attr) (tx : Str) (first : T_api_Node) : ∀ (m i : Nat) (y : List T_api_Node), i ≤ x.Packages.length → x.Packages.length < i + m → y.length = i →
    services_encode.l0 k x e m z0 z1 z2 z3 z4 z5 kd sp lo ats tx 1 SPs wPkgs [] [] [first] y (i : Int) = some (if (x.Packages.drop i).all trmd = true then (⟨kd, ⟨sp, lo⟩, ats, first :: (if y ++ (x.Packages.drop i).map (wordN wPkg) = [] then [] else [elS SPs wPkgs [] [] (y ++ (x.Packages.drop i).map (wordN wPkg))]), tx⟩, e) else (noN, 4)) := by
  intro m
  induction m with
  | zero => intro i y h1 h2; omega
  | succ m ih =>
    intro i y h1 h2 h3
    unfold services_encode.l0
    by_cases hi : i < x.Packages.length
    · have ht : services_text [112, 97, 99, 107, 97, 103, 101] (rd x.Packages (i : Int)) = some (wordN wPkg (rd x.Packages (i : Int))) := stext_eq _ _
      rw [if_pos (by simp; omega), if_pos (by omega), strm_eq k hk _ (hp _ (rd_mem hi)), Option.bind_some, ht, Option.bind_some, if_pos (show (y.length + [wordN wPkg (rd x.Packages (i : Int))].length) * 104 ≤ 140737488355328 by simp; omega), wi (by omega), ih (i + 1) _ (by omega) (by omega) (by simp; omega), rd_drop hi, List.all_cons]
      cases trmd (rd x.Packages (i : Int)) with
      | false => rfl
      | true => simp
    · rw [if_neg (by simp; omega), List.drop_of_length_le (by omega)]
      simp only [List.all_nil, if_true, List.map_nil, List.append_nil]
      cases y with
      | nil => rw [if_neg (by simp)]; rfl
      | cons a r =>
        have hd : decide (((a :: r).length : Int) > 0) = true := by rw [decide_eq_true_iff]; simp only [List.length_cons]; omega
        rw [if_pos hd, if_pos (by simp)]
        rfl
def encV (x : T_api_Service) : T_api_Node × Int := if mayV x = true then (if x.Inline = true ∧ uqF [] x.List_ = false then (elS SPs wSvc wUri x.URI (noN :: pkgsN x.Packages), 41) else (madeV x, 0)) else (noN, 4)
def shortV (x : T_api_Service) : Prop := wTL x.List_ ≤ 100000000 ∧ x.Packages.length ≤ 100000000 ∧ (x.URI ≠ [] → x.Ref.length ≤ 100000000 ∧ ∀ p ∈ x.Packages, p.length ≤ 100000000)
theorem wP_mem {ps : List Str} {p : Str} (h : p ∈ ps) : cap5 p.length ≤ wP ps := by
  induction ps with
  | nil => cases h
  | cons q l ih =>
    rw [wP]
    rcases List.mem_cons.1 h with rfl | h
    · omega
    · have := ih h; omega
theorem few_bnd {x : T_api_Service} (h : fewX x) (hu : x.URI ≠ []) : x.Ref.length ≤ 5000 ∧ ∀ p ∈ x.Packages, p.length ≤ 5000 := by
  have h3 := h.2.2
  have hul : 1 ≤ x.URI.length := by cases hx : x.URI with | nil => exact absurd hx hu | cons a l => simp
  have hc : 1 ≤ cap5 x.URI.length := by unfold cap5; omega
  refine ⟨?_, fun p hp => ?_⟩
  · have : cap5 x.Ref.length ≤ 4999 := by omega
    unfold cap5 at this; omega
  · have := wP_mem hp
    have : cap5 p.length ≤ 4999 := by omega
    unfold cap5 at this; omega
theorem few_short {x : T_api_Service} (h : fewX x) : shortV x := by
  have h1 := wTL_le x.List_
  have h2 := h.1
  have h3 := h.2.1
  refine ⟨by omega, by omega, fun hu => ?_⟩
  obtain ⟨g1, g2⟩ := few_bnd h hu
  exact ⟨by omega, fun p hp => by have := g2 p hp; omega⟩
theorem senc_j (k : Nat) (hk : 9000000000 ≤ k) (x : T_api_Service) (hx : shortV x) (e : Int) (first : T_api_Node) (hU : x.URI ≠ []) : services_encode.j2 k x ⟨SPs, wSvc⟩ e first.Kind first.Name.Space first.Name.Local first.Attrs first.Kids first.Text =
    some (if (!(e == 4) && ((if x.Inline = true then x.Ref == [] else trmd x.Ref && x.List_.isEmpty) && x.Packages.all trmd)) = true then (elS SPs wSvc wUri x.URI (first :: pkgsN x.Packages), e) else (noN, 4)) := by
  obtain ⟨h1, h2, h3⟩ := hx
  obtain ⟨h4, h5⟩ := h3 hU
  unfold services_encode.j2
  have hu : (x.URI == []) = false := by simpa using hU
  have ho : services_own [112, 97, 99, 107, 97, 103, 101, 115] = some ⟨SPs, wPkgs⟩ := sown _
  have hem : decide ((x.List_.length : Int) > 0) = !x.List_.isEmpty := by cases x.List_ <;> simp
  have hl := senc_l k (by omega) x e (fun p hp => by have := h5 p hp; omega) (by omega) 0 [] [] [] [] [] 1 SPs wSvc [⟨⟨[], wUri⟩, x.URI⟩] [] first k 0 [] (by omega) (by omega) rfl
  rw [nd_eta, hu, strm_eq k (by omega) x.Ref (by omega), hem, ho]
  have hl' : services_encode.l0 k x e k 0 [] [] [] [] [] 1 SPs wSvc [⟨⟨[], [117, 114, 105]⟩, x.URI⟩] [] 1 SPs wPkgs [] [] ([] ++ [first]) [] 0 = some (if x.Packages.all trmd = true then (elS SPs wSvc wUri x.URI (first :: pkgsN x.Packages), e) else (noN, 4)) := by
    refine Eq.trans hl ?_
    rw [List.drop_zero]
    have hp : (([] : List T_api_Node) ++ x.Packages.map (wordN wPkg) = []) ↔ x.Packages = [] := by simp
    have e1 : (if ([] : List T_api_Node) ++ x.Packages.map (wordN wPkg) = [] then [] else [elS SPs wPkgs [] [] ([] ++ x.Packages.map (wordN wPkg))]) = pkgsN x.Packages := by
      unfold pkgsN
      by_cases hq : x.Packages = []
      · rw [if_pos (hp.2 hq), if_pos hq]
      · rw [if_neg (fun z => hq (hp.1 z)), if_neg hq]; rfl
    have e2 : elS SPs wSvc wUri x.URI (first :: pkgsN x.Packages) = ⟨1, ⟨SPs, wSvc⟩, [⟨⟨[], wUri⟩, x.URI⟩], first :: pkgsN x.Packages, []⟩ := by unfold elS; rw [if_neg hU]
    rw [e1, e2]
  by_cases h4e : e = 4
  · simp [h4e, noN]
  · have hb : (e == 4) = false := by simpa using h4e
    rw [hb]
    cases hin : x.Inline with
    | true =>
      cases hr : x.Ref == [] with
      | false => simp [noN]
      | true =>
        rw [if_neg (by simp), Option.bind_some, if_neg (by simp), if_pos (by simp), Option.bind_some]
        refine Eq.trans hl' ?_
        simp
    | false =>
      rw [if_pos (by simp), Option.bind_some]
      cases trmd x.Ref with
      | false => simp [noN]
      | true =>
        cases x.List_.isEmpty with
        | false => simp [noN]
        | true =>
          rw [if_neg (by simp), if_pos (by simp), Option.bind_some]
          refine Eq.trans hl' ?_
          simp
theorem sencode_eq (k : Nat) (hk : 9000000000 ≤ k) (x : T_api_Service) (hx : shortV x) : services_encode k x = some (encV x) := by
  unfold services_encode encV
  have ho : services_own [115, 101, 114, 118, 105, 99, 101] = some ⟨SPs, wSvc⟩ := sown _
  have ht : services_text [114, 101, 115, 111, 117, 114, 99, 101, 45, 108, 105, 115, 116] x.Ref = some (wordN wRL x.Ref) := stext_eq _ _
  have hE := lEnc_eq k hk x.List_ (by have := hx.1; omega)
  rw [ho, Option.bind_some, ht, hE, Option.bind_some, Option.bind_some]
  by_cases hU : x.URI = []
  · have hj : ∀ e a b c d f g, services_encode.j2 k x ⟨SPs, wSvc⟩ e a b c d f g = some (noN, 4) := by
      intro e a b c d f g
      unfold services_encode.j2
      simp [hU, noN]
    rw [hj, hj]
    have : mayV x = false := by unfold mayV; simp [hU]
    rw [this]; simp
  · have hu : (x.URI == []) = false := by simpa using hU
    rw [senc_j k hk x hx _ _ hU, senc_j k hk x hx _ _ hU]
    unfold mayV madeV firstN
    rw [hu]
    cases hin : x.Inline with
    | true =>
      cases mayL x.List_ with
      | false => cases x.Ref == [] <;> simp [noN]
      | true =>
        cases uqF [] x.List_ <;> cases x.Ref == [] <;> cases x.Packages.all trmd <;> simp
    | false => cases trmd x.Ref <;> cases x.List_.isEmpty <;> cases x.Packages.all trmd <;> simp

def encS (l : List T_api_Service) : T_api_Node × Int := if l.all mayV = true then (if (l.all fun x => uqF [] x.List_) = true ∧ dstS [] l = true then (elS SPs wRls [] [] (l.map madeV), 0) else (noN, 41)) else (noN, 4)
theorem may_uq {x : T_api_Service} (h : mayV x = true) (hi : x.Inline = false) : uqF [] x.List_ = true := by
  unfold mayV at h
  simp only [Bool.and_eq_true, hi, Bool.false_eq_true, if_false, List.isEmpty_iff] at h
  rw [h.2.1.2]; rfl
theorem sEnc_l (k : Nat) (hk : 9000000000 ≤ k) (l : List T_api_Service) (hl : ∀ x ∈ l, shortV x) (h9 : l.length ≤ 2000000000) (z0 : Int) (z1 z2 : Str) (z3 : List T_api_Attr) (z4 : List T_api_Node) (z5 : Str) : ∀ (m i : Nat) (y : List T_api_Node) (all : Bool), i ≤ l.length → l.length < i + m → y.length ≤ i →
    ∃ ks, services_Encode.l0 k l m z0 z1 z2 z3 z4 z5 1 SPs wRls [] [] y (i : Int) all = some (if (l.drop i).all mayV = true then (if (all && ((l.drop i).all fun x => uqF [] x.List_)) = true then (⟨1, ⟨SPs, wRls⟩, [], y ++ ks, []⟩, 0) else (noN, 41)) else (noN, 4)) ∧ (((l.drop i).all mayV && ((l.drop i).all fun x => uqF [] x.List_)) = true → ks = (l.drop i).map madeV) := by
  intro m
  induction m with
  | zero => intro i y all h1 h2; omega
  | succ m ih =>
    intro i y all h1 h2 h3
    unfold services_Encode.l0
    by_cases hi : i < l.length
    · rw [if_pos (by simp; omega), if_pos (by omega), sencode_eq k hk _ (hl _ (rd_mem hi)), Option.bind_some, rd_drop hi, List.all_cons, List.all_cons]
      unfold encV
      cases hm : mayV (rd l (i : Int)) with
      | false => exact ⟨[], by simp [noN], fun h => by simp at h⟩
      | true =>
        by_cases hu : (rd l (i : Int)).Inline = true ∧ uqF [] (rd l (i : Int)).List_ = false
        · rw [if_pos rfl, if_pos hu]
          obtain ⟨ks, g1, g2⟩ := ih (i + 1) (y ++ [elS SPs wSvc wUri (rd l (i : Int)).URI (noN :: pkgsN (rd l (i : Int)).Packages)]) (all && ((41 : Int) == 0)) (by omega) (by omega) (by simp; omega)
          refine ⟨ks, ?_, fun h => by rw [hu.2] at h; simp at h⟩
          rw [if_neg (by simp), if_pos (by simp; omega), wi (by omega), g1, hu.2]
          have e0 : (all && ((41 : Int) == 0)) = false := by cases all <;> rfl
          rw [e0]
          simp
        · rw [if_pos rfl, if_neg hu]
          have hu2 : uqF [] (rd l (i : Int)).List_ = true := by
            cases hin : (rd l (i : Int)).Inline with
            | false => exact may_uq hm hin
            | true => cases hq : uqF [] (rd l (i : Int)).List_ with | true => rfl | false => exact absurd ⟨hin, hq⟩ hu
          obtain ⟨ks, g1, g2⟩ := ih (i + 1) (y ++ [madeV (rd l (i : Int))]) (all && ((0 : Int) == 0)) (by omega) (by omega) (by simp; omega)
          refine ⟨madeV (rd l (i : Int)) :: ks, ?_, fun h => ?_⟩
          · rw [if_neg (by simp), if_pos (by simp; omega), wi (by omega), g1, hu2]
            have e0 : (all && ((0 : Int) == 0)) = all := by cases all <;> rfl
            rw [e0]
            simp
          · rw [hu2] at h
            rw [g2 (by simpa using h), List.map_cons]
    · rw [if_neg (by simp; omega), List.drop_of_length_le (by omega)]
      refine ⟨[], ?_, fun _ => rfl⟩
      cases all <;> simp [noN]
theorem sEnc_eq (k : Nat) (hk : 9000000000 ≤ k) (l : List T_api_Service) (hl : ∀ x ∈ l, shortV x) (h9 : l.length ≤ 2000000000) : services_Encode k l = some (encS l) := by
  unfold services_Encode encS
  have ho : services_own [114, 108, 115, 45, 115, 101, 114, 118, 105, 99, 101, 115] = some ⟨SPs, wRls⟩ := sown _
  obtain ⟨ks, g1, g2⟩ := sEnc_l k hk l hl h9 0 [] [] [] [] [] k 0 [] (dstS [] l) (by omega) (by omega) (by simp)
  rw [ho, Option.bind_some, dst_eq k (by omega) l (by omega), Option.bind_some]
  refine Eq.trans g1 ?_
  rw [List.drop_zero] at *
  cases hm : l.all mayV with
  | false => simp
  | true =>
    rw [hm, Bool.true_and] at g2
    cases hu : l.all fun x => uqF [] x.List_ with
    | false => simp
    | true =>
      rw [g2 hu]
      cases dstS [] l <;> simp [elS]
end Go.Proofs.Ytannhioamkkdnaa.Pure
