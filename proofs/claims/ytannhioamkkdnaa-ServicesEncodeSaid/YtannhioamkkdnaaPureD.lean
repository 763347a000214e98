/- Proved here: lists told; what must be unique. -/
import Derived.Test.YtannhioamkkdnaaPureC
namespace Go.Proofs.Ytannhioamkkdnaa.Pure
open Go Go.RowKit Go.Proofs.Vx Go.Proofs.Ytannhioamkkdnaa.Sh
set_option linter.unusedSimpArgs false
set_option linter.unusedVariables false

theorem told_plain {q : T_api_Node} {e : T_api_Entry} (h : plainS q = some e) : (isE q SPl wEntry = true ∧ e = ⟨1, attrS q wUri, if ((kidsS q SPl).length : Int) = 1 then trimS (valS (rd (kidsS q SPl) 0)) else [], []⟩) ∨ (isE q SPl wExt = true ∧ e = ⟨3, attrS q wAnchor, [], []⟩) ∨ (isE q SPl wRef = true ∧ e = ⟨4, attrS q wRf, [], []⟩) := by
  unfold plainS at h
  split at h
  · cases h
  · rename_i hn
    have hk0 : (attrK q).2 ≠ 0 := fun e => hn (.inl e)
    unfold attrK at h hk0
    cases h1 : isE q SPl wEntry with
    | true =>
      simp only [h1, if_true] at h
      refine .inl ⟨rfl, ?_⟩
      cases hkk : kidsS q SPl with
      | nil => rw [hkk] at h; simp at h; simp [← h]
      | cons d r =>
        rw [hkk] at h
        cases r with
        | cons d2 r2 => simp at h
        | nil =>
          have e1 : rd [d] 0 = d := rfl
          simp only at h
          split at h
          · cases h; simp [e1]
          · cases h
    | false =>
      cases h2 : isE q SPl wExt with
      | true =>
        simp only [h1, h2, if_true, Bool.false_eq_true, if_false] at h
        refine .inr (.inl ⟨rfl, ?_⟩)
        cases hkk : kidsS q SPl with
        | nil => rw [hkk] at h; simp at h; simp [← h]
        | cons d r =>
          rw [hkk] at h
          cases r with
          | cons d2 r2 => simp at h
          | nil =>
            simp only at h
            split at h
            · cases h; simp
            · cases h
      | false =>
        cases h3 : isE q SPl wRef with
        | true =>
          simp only [h1, h2, h3, if_true, Bool.false_eq_true, if_false] at h
          refine .inr (.inr ⟨rfl, ?_⟩)
          cases hkk : kidsS q SPl with
          | nil => rw [hkk] at h; simp at h; simp [← h]
          | cons d r =>
            rw [hkk] at h
            cases r with
            | cons d2 r2 => simp at h
            | nil =>
              simp only at h
              split at h
              · cases h; simp
              · cases h
        | false => simp [h1, h2, h3] at hk0
def keyE (x : T_api_Entry) : Int × Str := (x.Kind, if x.Kind = 2 then x.Name else x.URI)
mutual
def uqE : T_api_Entry → Bool
  | .mk _ _ _ l => uqF [] l
def uqF : List (Int × Str) → List T_api_Entry → Bool
  | _, [] => true
  | seen, x :: l => !(seen.contains (keyE x)) && (uqE x && uqF (seen ++ [keyE x]) l)
end
theorem uqE_eq (x : T_api_Entry) : uqE x = uqF [] x.List_ := by cases x; rw [uqE]
mutual
def wE : T_api_Entry → Nat
  | .mk _ _ _ l => 1 + wEL l
def wEL : List T_api_Entry → Nat
  | [] => 0
  | x :: l => wE x + wEL l
end
theorem wE_eq (x : T_api_Entry) : wE x = 1 + wEL x.List_ := by cases x; rw [wE]
theorem wE_pos (x : T_api_Entry) : 1 ≤ wE x := by rw [wE_eq]; omega
theorem wEL_len : ∀ l : List T_api_Entry, l.length ≤ wEL l
  | [] => by simp [wEL]
  | x :: l => by have := wEL_len l; have := wE_pos x; rw [wEL]; simp; omega
theorem wEL_mem {l : List T_api_Entry} {x : T_api_Entry} (h : x ∈ l) : wE x ≤ wEL l := by
  induction l with
  | nil => cases h
  | cons m l ih =>
    rw [wEL]
    rcases List.mem_cons.1 h with rfl | h
    · omega
    · have := ih h; omega
theorem wEL_list {l : List T_api_Entry} {x : T_api_Entry} (h : x ∈ l) : wEL x.List_ < wEL l := by have := wEL_mem h; rw [wE_eq] at this; omega
theorem lkm_upm {α β : Type} {keq : α → α → Bool} (hq : ∀ a b, keq a b = true ↔ a = b) (z : β) (m : List (α × β)) (k : α) (v : β) (n : α) : lkm keq z (upm keq m k v) n = if keq n k = true then v else lkm keq z m n := by
  induction m with
  | nil => simp [upm, lkm]
  | cons p m ih =>
    simp only [upm]
    by_cases h : keq k p.1 = true
    · rw [if_pos h]
      have e := (hq _ _).1 h
      simp only [lkm]
      by_cases h2 : keq n k = true
      · simp [h2]
      · rw [if_neg h2, if_neg h2, if_neg (by rw [← e]; exact h2)]
    · rw [if_neg h]
      simp only [lkm]
      by_cases h2 : keq n p.1 = true
      · rw [if_pos h2, if_pos h2]
        have e := (hq _ _).1 h2
        have : keq n k ≠ true := fun h3 => h (by rw [← e, ← (hq _ _).1 h3]; exact (hq _ _).2 rfl)
        rw [if_neg this]
      · rw [if_neg h2, if_neg h2]; exact ih
theorem keq_iff (a b : T_lists_key) : keq104 a b = true ↔ a = b := by cases a; cases b; simp [keq104]
def kOf (p : Int × Str) : T_lists_key := ⟨p.1, p.2⟩
theorem luq_loop (k : Nat) (self : List T_api_Entry → Option Bool) (l : List T_api_Entry) (hl : ∀ x ∈ l, self x.List_ = some (uqF [] x.List_)) (h9 : l.length ≤ 2000000000) : ∀ (m i : Nat) (y : List (T_lists_key × Bool)) (seen : List (Int × Str)), i ≤ l.length → l.length < i + m → (∀ p, lkm keq104 false y (kOf p) = seen.contains p) →
    lists_unique.l0 k self l m y (i : Int) = some (uqF seen (l.drop i)) := by
  intro m
  induction m with
  | zero => intro i y seen h1 h2; omega
  | succ m ih =>
    intro i y seen h1 h2 h3
    unfold lists_unique.l0
    by_cases hi : i < l.length
    · have hs := hl _ (rd_mem hi)
      rw [if_pos (by simp; omega), if_pos (by omega), rd_drop hi, uqF, uqE_eq]
      have hj : ∀ s, s = (keyE (rd l (i : Int))).2 → lists_unique.j1 self (lists_unique.l0 k self l m) l y (i : Int) s = some (!(seen.contains (keyE (rd l (i : Int)))) && (uqF [] (rd l (i : Int)).List_ && uqF (seen ++ [keyE (rd l (i : Int))]) (l.drop (i + 1)))) := by
        intro s hse
        unfold lists_unique.j1
        have hk : (T_lists_key.mk ((T_lists_key.mk ((rd l (i : Int)).Kind) ((rd l (i : Int)).URI)).Kind_) s) = kOf (keyE (rd l (i : Int))) := by rw [hse]; rfl
        rw [hk, h3, wi (by omega), hs]
        have ih1 := ih (i + 1) (upm keq104 y (kOf (keyE (rd l (i : Int)))) true) (seen ++ [keyE (rd l (i : Int))]) (by omega) (by omega) (fun p => by
          rw [lkm_upm keq_iff, h3]
          have hkk : (keq104 (kOf p) (kOf (keyE (rd l (i : Int)))) = true) ↔ p = keyE (rd l (i : Int)) := by
            rw [keq_iff]
            constructor
            · intro h
              cases p
              generalize keyE (rd l (i : Int)) = q at *
              cases q
              simp [kOf] at h
              simp [h]
            · intro h; rw [h]
          by_cases hp : p = keyE (rd l (i : Int))
          · rw [if_pos (hkk.2 hp), hp]; simp
          · rw [if_neg (fun h => hp (hkk.1 h))]
            rw [Bool.eq_iff_iff]
            simp [hp])
        rw [ih1]
        cases seen.contains (keyE (rd l (i : Int))) <;> cases uqF [] (rd l (i : Int)).List_ <;> simp
      by_cases h2k : (rd l (i : Int)).Kind = 2
      · rw [if_pos (by simpa using h2k)]; exact hj _ (by unfold keyE; simp [h2k])
      · rw [if_neg (by simpa using h2k)]; exact hj _ (by unfold keyE; simp [h2k])
    · rw [if_neg (by simp; omega), List.drop_of_length_le (by omega)]; simp [uqF]
theorem luq_eq : ∀ (d k : Nat) (l : List T_api_Entry), wEL l < d → wEL l ≤ 2000000000 → wEL l + 3000000010 ≤ k → lists_unique k l = some (uqF [] l) := by
  intro d
  induction d with
  | zero => intro k l h1; omega
  | succ d ih =>
    intro k l h1 h2 h3
    obtain ⟨k, rfl⟩ : ∃ z, k = z + 1 := ⟨k - 1, by omega⟩
    have hlen := wEL_len l
    have := luq_loop k (lists_unique k) l (fun x hx => by
      have := wEL_list hx
      exact ih k x.List_ (by omega) (by omega) (by omega)) (by omega) k 0 [] [] (by omega) (by omega) (fun p => by simp [lkm])
    rw [lists_unique]
    exact this
theorem ruq_l1 (k : Nat) (c0 : Int → Option Bool) (l : List T_api_Entry) (i : Nat) (hi : i < l.length) (h9 : l.length ≤ 2000000000) : ∀ (m j : Nat), j ≤ i → i < j + m →
    watchbillref16_Unique.l1 k c0 l (i : Int) m (j : Int) = if (((l.take i).drop j).map keyE).contains (keyE (rd l (i : Int))) = true then some false else c0 ((i + 1 : Nat) : Int) := by
  intro m
  induction m with
  | zero => intro j h1 h2; omega
  | succ m ih =>
    intro j h1 h2
    unfold watchbillref16_Unique.l1
    by_cases hj : j < i
    · have ht : (l.take i).drop j = rd l (j : Int) :: (l.take i).drop (j + 1) := by
        rw [rd_drop (xs := l.take i) (i := j) (by simp; omega)]
        congr 1
        simp [rd, hj, show j < l.length by omega, List.getElem?_take]
      rw [if_pos (by simp; omega), if_pos (by omega), if_pos (by omega), ht, List.map_cons, wi (by omega), ih (j + 1) (by omega) (by omega)]
      generalize rd l (i : Int) = a at *
      generalize rd l (j : Int) = b at *
      unfold keyE
      by_cases hk : a.Kind = b.Kind
      · rw [if_neg (by simpa using hk), if_pos (by omega), if_pos (fun _ => by omega), if_pos (fun _ => by omega), if_pos (fun _ => by omega), if_pos (fun _ => by omega), if_pos (fun _ => by omega)]
        by_cases h2 : a.Kind = 2
        · rw [← hk]
          by_cases hn : a.Name = b.Name <;> simp [h2, hn]
        · rw [← hk]
          by_cases hn : a.URI = b.URI <;> simp [h2, hn]
      · rw [if_pos (by simpa using hk)]
        simp [hk]
    · rw [if_neg (by simp; omega), wi (by omega)]
      have : (l.take i).drop j = [] := List.drop_of_length_le (by simp; omega)
      rw [this]; simp
theorem ruq_loop (k : Nat) (hk : 3000000000 ≤ k) (self : List T_api_Entry → Option Bool) (l : List T_api_Entry) (hl : ∀ x ∈ l, self x.List_ = some (uqF [] x.List_)) (h9 : l.length ≤ 2000000000) : ∀ (m i : Nat), i ≤ l.length → l.length < i + m →
    watchbillref16_Unique.l0 k self l m (i : Int) = some (uqF ((l.take i).map keyE) (l.drop i)) := by
  intro m
  induction m with
  | zero => intro i h1 h2; omega
  | succ m ih =>
    intro i h1 h2
    unfold watchbillref16_Unique.l0
    by_cases hi : i < l.length
    · have hs := hl _ (rd_mem hi)
      have ht : l.take (i + 1) = l.take i ++ [rd l (i : Int)] := by
        rw [show rd l (i : Int) = l[i] by simp [rd, hi]]; exact (List.take_append_getElem hi).symm
      have h0 := ruq_l1 k (watchbillref16_Unique.l0 k self l m) l i hi h9 k 0 (by omega) (by omega)
      rw [if_pos (by simp; omega), if_pos (by omega), hs, Option.bind_some, rd_drop hi, uqF, uqE_eq]
      have h0' : watchbillref16_Unique.l1 k (watchbillref16_Unique.l0 k self l m) l (i : Int) k 0 = _ := h0
      rw [h0', ih (i + 1) (by omega) (by omega), ht, List.map_append, List.map_singleton, List.drop_zero]
      cases ((l.take i).map keyE).contains (keyE (rd l (i : Int))) <;> cases uqF [] (rd l (i : Int)).List_ <;> simp
    · rw [if_neg (by simp; omega), List.drop_of_length_le (by omega)]; simp [uqF]
theorem ruq_eq : ∀ (d k : Nat) (l : List T_api_Entry), wEL l < d → wEL l ≤ 2000000000 → wEL l + 3000000010 ≤ k → watchbillref16_Unique k l = some (uqF [] l) := by
  intro d
  induction d with
  | zero => intro k l h1; omega
  | succ d ih =>
    intro k l h1 h2 h3
    obtain ⟨k, rfl⟩ : ∃ z, k = z + 1 := ⟨k - 1, by omega⟩
    have hlen := wEL_len l
    have := ruq_loop k (by omega) (watchbillref16_Unique k) l (fun x hx => by
      have := wEL_list hx
      exact ih k x.List_ (by omega) (by omega) (by omega)) (by omega) k 0 (by omega) (by omega)
    rw [watchbillref16_Unique]
    exact this

theorem plain_wt {n : T_api_Node} {e : T_api_Entry} (h : plainS n = some e) : wE e ≤ wt n := by
  have h0 := wt_pos n
  rcases told_plain h with ⟨_, rfl⟩ | ⟨_, rfl⟩ | ⟨_, rfl⟩ <;> rw [wE_eq] <;> simp only [wEL] <;> omega
mutual
theorem list_wt : ∀ (n : T_api_Node) (e : T_api_Entry), listS n = some e → wE e ≤ wt n
  | .mk kd nm ats ks tx, e, h => by
    rw [listS] at h
    split at h
    · obtain ⟨r, hr, rfl⟩ := Option.map_eq_some_iff.1 h
      have h1 := items_wt ks true r hr
      rw [wE_eq, wt_eq]
      simp only [List.length_nil] at *
      omega
    · cases h
theorem items_wt : ∀ (ks : List T_api_Node) (f : Bool) (r : List T_api_Entry), itemsS ks f = some r → wEL r ≤ wtL ks
  | [], f, r, h => by rw [itemsS] at h; cases h; simp [wEL]
  | q :: ks, f, r, h => by
    rw [itemsS] at h
    rw [wtL]
    split at h
    · split at h
      · have := items_wt ks false r h; omega
      · obtain ⟨e, he, h⟩ := Option.bind_eq_some_iff.1 h
        obtain ⟨r', hr', rfl⟩ := Option.map_eq_some_iff.1 h
        have h1 := items_wt ks false r' hr'
        rw [wEL]
        split at he
        · have := list_wt q e he; omega
        · have := plain_wt he; omega
    · have := items_wt ks f r h; omega
end
end Go.Proofs.Ytannhioamkkdnaa.Pure
