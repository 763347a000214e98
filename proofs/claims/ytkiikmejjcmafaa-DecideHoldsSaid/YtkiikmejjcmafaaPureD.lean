/- Proved here: rules' grants up to the next second, whatever their order, and with a rule more. -/
import Derived.Test.YtkiikmejjcmafaaPureC
namespace Go.Proofs.Ytkiikmejjcmafaa.Pure
open Go Go.RowKit Go.Proofs.Vx Go.Proofs.Ytkiikmejjcmafaa.Sh

/-! ### Up to the next second -/
theorem stp_fold (now : Int) : ∀ (l : List Int) (p : Int × Bool), (p.2 = true → p.1 > now) →
    ((l.foldl (stp now) p).2 = true → (l.foldl (stp now) p).1 > now) ∧ (p.2 = true → (l.foldl (stp now) p).2 = true ∧ (l.foldl (stp now) p).1 ≤ p.1) ∧ ∀ a ∈ l, a > now → (l.foldl (stp now) p).2 = true ∧ (l.foldl (stp now) p).1 ≤ a
  | [], p, h => ⟨h, fun e => ⟨e, Int.le_refl _⟩, fun a ha => by cases ha⟩
  | b :: l, p, h => by
    have hq : (stp now p b).2 = true → (stp now p b).1 > now := by
      unfold stp
      split
      · rename_i hc
        intro _
        simp only [Bool.and_eq_true, decide_eq_true_eq] at hc
        exact hc.1
      · exact h
    have hp : p.2 = true → (stp now p b).2 = true ∧ (stp now p b).1 ≤ p.1 := by
      intro e
      unfold stp
      split
      · rename_i hc
        simp only [Bool.and_eq_true, decide_eq_true_eq, e, Bool.not_true, Bool.false_or] at hc
        exact ⟨rfl, by omega⟩
      · exact ⟨e, Int.le_refl _⟩
    have hb : b > now → (stp now p b).2 = true ∧ (stp now p b).1 ≤ b := by
      intro e
      unfold stp
      split
      · exact ⟨rfl, Int.le_refl _⟩
      · rename_i hc
        simp only [Bool.and_eq_true, decide_eq_true_eq, Bool.or_eq_true, Bool.not_eq_true', not_and, not_or] at hc
        have := hc e
        exact ⟨by simpa using this.1, by omega⟩
    obtain ⟨g1, g2, g3⟩ := stp_fold now l (stp now p b) hq
    refine ⟨g1, fun e => ?_, fun a ha hn => ?_⟩
    · have h1 := hp e
      have h2 := g2 h1.1
      exact ⟨h2.1, Int.le_trans h2.2 h1.2⟩
    · rcases List.mem_cons.1 ha with rfl | ha
      · have h1 := hb hn
        have h2 := g2 h1.1
        exact ⟨h2.1, Int.le_trans h2.2 h1.2⟩
      · exact g3 a ha hn
theorem mem_bnd {l : List T_api_Rule} {x : T_api_Rule} (hx : x ∈ l) (hu : x.Until ≠ 0) : x.From ∈ bnd l ∧ x.Until ∈ bnd l := by
  unfold bnd
  constructor <;> refine List.mem_flatMap.2 ⟨x, hx, ?_⟩ <;> rw [if_neg (by simpa using hu)] <;> simp
theorem holds_mt {l : List T_api_Rule} {w : Str} {now later : Int} (hle : now ≤ later) (hn : (nxS l now).2 = true → later < (nxS l now).1) {x : T_api_Rule} (hx : x ∈ l) : mtS x w now = mtS x w later := by
  unfold mtS
  congr 1
  by_cases hu : x.Until = 0
  · simp [hu]
  · obtain ⟨m1, m2⟩ := mem_bnd hx hu
    have hf := (stp_fold now (bnd l) (0, false) (fun h => by cases h)).2.2
    have h1 : x.From > now → later < x.From := fun h => by have := hf _ m1 h; have := hn this.1; have := (hf _ m1 h).2; unfold nxS at *; omega
    have h2 : x.Until > now → later < x.Until := fun h => by have := hf _ m2 h; have := hn this.1; have := (hf _ m2 h).2; unfold nxS at *; omega
    rw [Bool.eq_iff_iff]
    simp only [Bool.or_eq_true, Bool.and_eq_true, decide_eq_true_eq, beq_iff_eq, hu, false_or]
    constructor
    · rintro ⟨a, b⟩; exact ⟨by omega, h2 b⟩
    · rintro ⟨a, b⟩
      refine ⟨?_, by omega⟩
      by_cases hq : x.From > now
      · have := h1 hq; omega
      · omega
theorem holds_dec {l : List T_api_Rule} {w : Str} {now later : Int} (hle : now ≤ later) (hn : (nxS l now).2 = true → later < (nxS l now).1) : decS l w now = decS l w later := by
  have : mlS l w now = mlS l w later := List.filter_congr fun x hx => holds_mt hle hn hx
  unfold decS; rw [this]
theorem DecideHolds_k (k : Nat) (hk : 400000 ≤ k) (hA : watchbilllaw22_awake k = some true) (l : List T_api_Rule) (w : Str) (now later : Int) : watchbilllaw22_DecideHolds k l w now later = some true := by
  unfold watchbilllaw22_DecideHolds
  rw [hA, Option.bind_some, if_neg (by simp)]
  obtain ⟨b, e, h⟩ := Few_eq k hk l
  rw [e, Option.bind_some]
  cases b with
  | false => simp
  | true =>
    by_cases hw : w.length ≤ 2000
    · by_cases hle : now ≤ later
      · rw [if_neg (by simp; omega)]
        have hl := h rfl
        have h40 := hl.1
        rw [next_eq k hk l (by omega) now, Option.bind_some]
        by_cases hc : (nxS l now).2 = true ∧ ((nxS l now).1 ≤ now ∨ later ≥ (nxS l now).1)
        · rw [if_pos (by simpa using hc)]
          have : (nxS l now).1 > now := (stp_fold now (bnd l) (0, false) (fun h => by cases h)).1 hc.1
          simpa using this
        · rw [if_neg (by simpa using hc), decide_eq k hk l (few_mid hl) w hw now, Option.bind_some, decide_eq k hk l (few_mid hl) w hw later, Option.bind_some]
          have hd : decS l w now = decS l w later := holds_dec hle fun h2 => by
            have hq := not_or.1 fun q => hc ⟨h2, q⟩
            omega
          have hlen := dec_len l hl.2 w now
          rw [← hd, same_eq k hk _ (by omega)]; rfl
      · rw [if_pos (by simp; omega)]
    · rw [if_pos (by simp; omega)]

/-! ### Whatever their order -/
theorem hd_spec : ∀ (ml : List T_api_Rule) (H : Int), H ≤ hdS ml H ∧ (∀ x ∈ ml, x.Handling ≤ 3 → x.Handling ≤ hdS ml H) ∧ (hdS ml H = H ∨ ∃ x ∈ ml, x.Handling ≤ 3 ∧ hdS ml H = x.Handling)
  | [], H => ⟨Int.le_refl _, fun x h => (by cases h), .inl rfl⟩
  | y :: ml, H => by
    obtain ⟨h1, h2, h3⟩ := hd_spec ml (mdS y H)
    have e : hdS (y :: ml) H = hdS ml (mdS y H) := rfl
    rw [e]
    have hm : H ≤ mdS y H ∧ (y.Handling ≤ 3 → y.Handling ≤ mdS y H) ∧ (mdS y H = H ∨ (y.Handling ≤ 3 ∧ mdS y H = y.Handling)) := by
      unfold mdS
      split
      · split
        · exact ⟨by omega, fun _ => Int.le_refl _, .inr ⟨by assumption, rfl⟩⟩
        · exact ⟨Int.le_refl _, fun _ => by omega, .inl rfl⟩
      · exact ⟨Int.le_refl _, fun h => absurd h (by assumption), .inl rfl⟩
    refine ⟨by omega, fun x hx hx3 => ?_, ?_⟩
    · rcases List.mem_cons.1 hx with rfl | hx
      · have := hm.2.1 hx3; omega
      · exact h2 x hx hx3
    · rcases h3 with h3 | ⟨x, hx, hx3, e3⟩
      · rcases hm.2.2 with h4 | h4
        · exact .inl (h3.trans h4)
        · exact .inr ⟨y, .head _, h4.1, h3.trans h4.2⟩
      · exact .inr ⟨x, .tail _ hx, hx3, e3⟩
theorem hd_le {a b : List T_api_Rule} (h : ∀ x ∈ a, x ∈ b) : hdS a 0 ≤ hdS b 0 := by
  obtain ⟨a1, a2, a3⟩ := hd_spec a 0
  obtain ⟨b1, b2, b3⟩ := hd_spec b 0
  rcases a3 with e | ⟨x, hx, hx3, e⟩
  · omega
  · have := b2 x (h x hx) hx3; omega
theorem any_le {a b : List T_api_Rule} (h : ∀ x ∈ a, x ∈ b) (p : T_api_Rule → Bool) (ha : a.any p = true) : b.any p = true := by
  obtain ⟨x, hx, hp⟩ := List.any_eq_true.1 ha
  exact List.any_eq_true.2 ⟨x, h x hx, hp⟩
theorem any_eq {a b : List T_api_Rule} (h : ∀ x, x ∈ a ↔ x ∈ b) (p : T_api_Rule → Bool) : a.any p = b.any p := by
  rw [Bool.eq_iff_iff]
  exact ⟨any_le (fun x => (h x).1) p, any_le (fun x => (h x).2) p⟩
theorem cl_mem {a b : List T_api_Rule} (h : ∀ x ∈ a, x ∈ b) (s : Str) (hs : s ∈ clS a) : s ∈ clS b := by
  obtain ⟨x, hx, hs⟩ := List.mem_flatMap.1 hs
  exact List.mem_flatMap.2 ⟨x, h x hx, hs⟩
theorem fin_eq {a b : List T_api_Rule} (h : ∀ x, x ∈ a ↔ x ∈ b) : finS a 0 false false false [] = finS b 0 false false false [] := by
  have e1 : hdS a 0 = hdS b 0 := Int.le_antisymm (hd_le fun x => (h x).1) (hd_le fun x => (h x).2)
  have e2 : upS ([] ++ clS a) = upS ([] ++ clS b) := by
    obtain ⟨u1, u2⟩ := up_spec ([] ++ clS a)
    obtain ⟨v1, v2⟩ := up_spec ([] ++ clS b)
    refine rise_eq u1 v1 fun s => ?_
    rw [u2, v2, List.nil_append, List.nil_append]
    exact ⟨cl_mem (fun x => (h x).1) s, cl_mem (fun x => (h x).2) s⟩
  unfold finS
  rw [e1, e2, any_eq h (·.All), any_eq h (·.Notes), any_eq h (·.Contact)]
theorem dec_mem {l l' : List T_api_Rule} (h : ∀ x, x ∈ l ↔ x ∈ l') (w : Str) (now : Int) : decS l w now = decS l' w now := by
  refine fin_eq fun x => ?_
  unfold mlS
  rw [List.mem_filter, List.mem_filter, h x]
theorem order_l (k : Nat) (hk : 400000 ≤ k) (l : List T_api_Rule) (hl : fewR l) (w : Str) (hw : w.length ≤ 2000) (now : Int) : ∀ (j m : Nat) (y : List T_api_Rule), j ≤ l.length → j < m → y.length + 2 * j ≤ 80 → (∀ x, x ∈ l ↔ x ∈ y ∨ x ∈ l.take j) →
    watchbilllaw22_DecideOrder.l0 k l w now m y ((j : Int) - 1) = some true := by
  intro j
  induction j with
  | zero =>
    intro m y h1 h2 h3 h4
    obtain ⟨m, rfl⟩ : ∃ m', m = m' + 1 := ⟨m - 1, by omega⟩
    unfold watchbilllaw22_DecideOrder.l0
    have hm : ∀ x, x ∈ l ↔ x ∈ y := fun x => by have := h4 x; simpa using this
    rw [if_neg (by simp), decide_eq k hk l (few_mid hl) w hw now, Option.bind_some, decide_eq k hk y ⟨by omega, fun x hx => hl.2 x ((hm x).2 hx)⟩ w hw now, Option.bind_some, ← dec_mem hm]
    have hlen := dec_len l hl.2 w now
    have := hl.1
    rw [same_eq k hk _ (by omega)]; rfl
  | succ j ih =>
    intro m y h1 h2 h3 h4
    obtain ⟨m, rfl⟩ : ∃ m', m = m' + 1 := ⟨m - 1, by omega⟩
    unfold watchbilllaw22_DecideOrder.l0
    have e1 : ((j + 1 : Nat) : Int) - 1 = (j : Int) := by omega
    rw [e1, if_pos (by simp), if_pos (by omega), if_pos (by omega), if_pos (by simp; omega), w64 (by omega) (by omega)]
    refine ih m _ (by omega) (by omega) (by simp; omega) fun x => ?_
    have hr : rd l (j : Int) = l[j] := by simp [rd, show j < l.length by omega]
    have ht : l.take (j + 1) = l.take j ++ [l[j]] := (List.take_append_getElem (by omega)).symm
    rw [h4 x, ht, hr]
    simp only [List.mem_append, List.mem_cons, List.not_mem_nil, or_false]
    constructor
    · rintro (h | h | h)
      · exact .inl (.inl h)
      · exact .inr h
      · exact .inl (.inr (.inl h))
    · rintro ((h | h | h) | h)
      · exact .inl h
      · exact .inr (.inr h)
      · exact .inr (.inr h)
      · exact .inr (.inl h)
theorem DecideOrder_k (k : Nat) (hk : 400000 ≤ k) (hA : watchbilllaw22_awake k = some true) (l : List T_api_Rule) (w : Str) (now : Int) : watchbilllaw22_DecideOrder k l w now = some true := by
  unfold watchbilllaw22_DecideOrder
  rw [hA, Option.bind_some, if_neg (by simp)]
  obtain ⟨b, e, h⟩ := Few_eq k hk l
  rw [e, Option.bind_some]
  cases b with
  | false => simp
  | true =>
    by_cases hw : w.length ≤ 2000
    · rw [if_neg (by simp; omega)]
      have hl := h rfl
      have h40 := hl.1
      rw [w64 (by omega) (by omega)]
      exact order_l k hk l hl w hw now l.length k [] (by omega) (by omega) (by simp; omega) fun x => by simp
    · rw [if_pos (by simp; omega)]

/-! ### With a rule more -/
theorem below_l1 (k : Nat) (c0 : Int → Bool → List Str → Bool → Bool → Int → Bool → List Str → Bool → Bool → Int → Option Bool) (x5 : Int) (a0 : Int) (a1 : Bool) (a2 : List Str) (a3 a4 : Bool) (b0 : Int) (b1 : Bool) (b2 : List Str) (b3 b4 : Bool) (h9 : b2.length ≤ 390000) (h5 : 0 ≤ x5 ∧ x5 < a2.length) : ∀ (m i : Nat) (f : Bool), i ≤ b2.length → b2.length < i + m → (f || hasS (b2.drop i) (rd a2 x5)) = true →
    watchbilllaw22_below.l1 k c0 x5 m a0 a1 a2 a3 a4 b0 b1 b2 b3 b4 f (i : Int) = c0 a0 a1 a2 a3 a4 b0 b1 b2 b3 b4 (IntKind.i64.wrap (x5 + 1)) := by
  intro m
  induction m with
  | zero => intro i f h1 h2; omega
  | succ m ih =>
    intro i f h1 h2 h3
    unfold watchbilllaw22_below.l1
    by_cases hi : i < b2.length
    · rw [if_pos (by simp; omega), if_pos (fun _ => by omega), if_pos (fun _ => h5), wi (by omega)]
      refine ih (i + 1) _ (by omega) (by omega) ?_
      rw [rd_drop hi] at h3
      unfold hasS at h3 ⊢
      rw [List.any_cons] at h3
      rw [Bool.or_assoc]; exact h3
    · rw [List.drop_of_length_le (by omega)] at h3
      simp only [hasS, List.any_nil, Bool.or_false] at h3
      rw [if_neg (by simp; omega), h3, if_neg (by simp)]
theorem below_l0 (k : Nat) (hk : 400000 ≤ k) (a0 : Int) (a1 : Bool) (a2 : List Str) (a3 a4 : Bool) (b0 : Int) (b1 : Bool) (b2 : List Str) (b3 b4 : Bool) (h9 : b2.length ≤ 390000) (h8 : a2.length ≤ 390000) (hm : b1 = false → ∀ s ∈ a2, s ∈ b2) : ∀ (m i : Nat), i ≤ a2.length → a2.length < i + m →
    watchbilllaw22_below.l0 k m a0 a1 a2 a3 a4 b0 b1 b2 b3 b4 (i : Int) = some true := by
  intro m
  induction m with
  | zero => intro i h1 h2; omega
  | succ m ih =>
    intro i h1 h2
    unfold watchbilllaw22_below.l0
    by_cases hi : i < a2.length ∧ b1 = false
    · rw [if_pos (by simp [hi.2]; omega)]
      have hs : hasS b2 (rd a2 (i : Int)) = true := List.any_eq_true.2 ⟨_, hm hi.2 _ (rd_mem hi.1), by simp⟩
      have := below_l1 k (watchbilllaw22_below.l0 k m) (i : Int) a0 a1 a2 a3 a4 b0 b1 b2 b3 b4 h9 (by omega) k 0 false (by omega) (by omega) (by simpa using hs)
      refine Eq.trans this ?_
      rw [wi (by omega)]
      exact ih (i + 1) (by omega) (by omega)
    · rw [if_neg ?_]
      cases b1 with
      | true => simp
      | false => simp at hi; simp; omega
theorem below_eq (k : Nat) (hk : 400000 ≤ k) (a b : T_api_Grant) (h1 : a.Handling ≤ b.Handling) (h2 : a.All = true → b.All = true) (h3 : a.Notes = true → b.Notes = true) (h4 : a.Contact = true → b.Contact = true) (h9 : b.Class.length ≤ 390000) (h8 : a.Class.length ≤ 390000) (hm : b.All = false → ∀ s ∈ a.Class, s ∈ b.Class) : watchbilllaw22_below k a b = some true := by
  unfold watchbilllaw22_below
  rw [if_neg ?_]
  · exact below_l0 k hk _ _ _ _ _ _ _ _ _ _ h9 h8 hm k 0 (by omega) (by omega)
  · simp only [Bool.or_eq_true, Bool.and_eq_true, decide_eq_true_eq, Bool.not_eq_true', not_or]
    refine ⟨⟨⟨by omega, fun h => ?_⟩, fun h => ?_⟩, fun h => ?_⟩
    · rw [h2 h.1] at h; exact absurd h.2 (by simp)
    · rw [h3 h.1] at h; exact absurd h.2 (by simp)
    · rw [h4 h.1] at h; exact absurd h.2 (by simp)
theorem below_dec (k : Nat) (hk : 400000 ≤ k) {l l' : List T_api_Rule} (hl : ∀ x ∈ l, shortR x) (hl' : ∀ x ∈ l', shortR x) (n1 : l.length ≤ 60) (n2 : l'.length ≤ 60) (h : ∀ x ∈ l, x ∈ l') (w : Str) (now : Int) : watchbilllaw22_below k (decS l w now) (decS l' w now) = some true := by
  have hsub : ∀ x ∈ mlS l w now, x ∈ mlS l' w now := fun x hx => by
    have := List.mem_filter.1 hx
    exact List.mem_filter.2 ⟨h x this.1, this.2⟩
  have l1 := dec_len l hl w now
  have l2 := dec_len l' hl' w now
  refine below_eq k hk _ _ (hd_le hsub) ?_ ?_ ?_ (by omega) (by omega) ?_
  · show (false || _) = true → (false || _) = true
    simp only [Bool.false_or]; exact any_le hsub _
  · show (false || _) = true → (false || _) = true
    simp only [Bool.false_or]; exact any_le hsub _
  · show (false || _) = true → (false || _) = true
    simp only [Bool.false_or]; exact any_le hsub _
  · intro hb s hs
    have hb' : (false || (mlS l' w now).any (·.All)) = false := hb
    have ha' : (false || (mlS l w now).any (·.All)) = false := by
      simp only [Bool.false_or] at hb' ⊢
      cases hq : (mlS l w now).any (·.All) with
      | false => rfl
      | true => rw [any_le hsub _ hq] at hb'; cases hb'
    unfold decS finS at hs ⊢
    simp only [ha', hb', Bool.false_eq_true, if_false, List.nil_append] at hs ⊢
    exact ((up_spec _).2 s).2 (cl_mem hsub s (((up_spec _).2 s).1 hs))
theorem more_l (k : Nat) (hk : 400000 ≤ k) (l : List T_api_Rule) (hl : fewR l) (x : T_api_Rule) (hx : shortR x) (w : Str) (hw : w.length ≤ 2000) (now : Int) : ∀ (m i : Nat) (f : Bool), i ≤ l.length → l.length < i + m → f = (l.take i).any (fun x => mtS x w now) →
    watchbilllaw22_DecideMore.l0 k l w now m (decS (l ++ [x]) w now).Handling (decS (l ++ [x]) w now).All (decS (l ++ [x]) w now).Class (decS (l ++ [x]) w now).Notes (decS (l ++ [x]) w now).Contact x.ID x.Any x.Notes x.Contact x.Ones x.Domains x.Except x.From x.Until x.Handling x.All x.Class (decS l w now).Handling (decS l w now).All (decS l w now).Class (decS l w now).Notes (decS l w now).Contact f (i : Int) = some true := by
  intro m
  induction m with
  | zero => intro i f h1 h2; omega
  | succ m ih =>
    intro i f h1 h2 h3
    have h40 := hl.1
    unfold watchbilllaw22_DecideMore.l0
    by_cases hi : i < l.length
    · have hs := hl.2 _ (rd_mem hi)
      have hr : rd l (i : Int) = l[i] := by simp [rd, hi]
      have ht : l.take (i + 1) = l.take i ++ [l[i]] := (List.take_append_getElem (by omega)).symm
      rw [if_pos (by simp; omega), if_pos (fun _ => by omega), wi (by omega), matches_eq k hk _ w now hs hw]
      have hnew : (f || mtS (rd l (i : Int)) w now) = (l.take (i + 1)).any (fun x => mtS x w now) := by rw [ht, hr, h3]; simp only [List.any_append, List.any_cons, List.any_nil, Bool.or_false]
      cases hf : f with
      | true =>
        rw [if_neg (by simp), Option.bind_some]
        refine ih (i + 1) _ (by omega) (by omega) ?_
        rw [← hnew, hf]; simp
      | false =>
        rw [if_pos (by simp), Option.bind_some]
        refine ih (i + 1) _ (by omega) (by omega) ?_
        rw [← hnew, hf]
    · have hfull : f = l.any (fun x => mtS x w now) := by rw [h3, List.take_of_length_le (by omega)]
      have hl1 := dec_len l hl.2 w now
      have hshort : ∀ y ∈ l ++ [x], shortR y := fun y hy => by
        rcases List.mem_append.1 hy with h | h
        · exact hl.2 y h
        · rw [List.mem_singleton] at h; subst h; exact hx
      have hbel := below_dec k hk (l' := l ++ [x]) hl.2 hshort (by omega) (by simp; omega) (fun y hy => List.mem_append_left _ hy) w now
      have hH : 0 ≤ (decS l w now).Handling ∧ (decS l w now).Handling ≤ 3 := by
        obtain ⟨q1, q2, q3⟩ := hd_spec (mlS l w now) 0
        have e : (decS l w now).Handling = hdS (mlS l w now) 0 := rfl
        rw [e]
        refine ⟨q1, ?_⟩
        rcases q3 with q | ⟨y, _, hy3, q⟩ <;> omega
      have hzero : f = false → decS l w now = ⟨0, false, [], false, false⟩ := fun e => by
        have : mlS l w now = [] := by
          unfold mlS
          rw [List.filter_eq_nil_iff]
          intro y hy
          rw [hfull] at e
          have := List.any_eq_false.1 e y hy
          exact this
        unfold decS
        rw [this]
        simp [finS, hdS, clS, upS, Lib.compact, Lib.compactUpTo]
      have hno : mtS x w now = false → decS (l ++ [x]) w now = decS l w now := fun e => by
        unfold decS mlS
        rw [List.filter_append]
        simp [e]
      rw [if_neg (by simp; omega)]
      have hsame1 : (if ((!f) == true) = true then watchbillref22_Same k (decS l w now) (T_api_Grant.mk 0 false [] false false) else some default) = some (!f) := by
        cases hf : f with
        | true => rfl
        | false => rw [if_pos (by simp), hzero hf, same_eq k hk _ (by simp)]; rfl
      have hm := matches_eq k hk x w now hx hw
      have hsame2 : (if ((!(mtS x w now)) == true) = true then watchbillref22_Same k (decS l w now) (decS (l ++ [x]) w now) else some default) = some (!(mtS x w now)) := by
        cases hf : mtS x w now with
        | true => rfl
        | false => rw [if_pos (by simp), hno hf, same_eq k hk _ (by omega)]; rfl
      refine Eq.trans (congrArg (fun o => Option.bind o _) hsame1) ?_
      rw [Option.bind_some, if_neg (by simp)]
      refine Eq.trans (congrArg (fun o => Option.bind o _) hm) ?_
      rw [Option.bind_some]
      refine Eq.trans (congrArg (fun o => Option.bind o _) hsame2) ?_
      rw [Option.bind_some, if_neg (by simp)]
      refine Eq.trans (congrArg (fun o => Option.bind o _) hbel) ?_
      simp [hH.1, hH.2]
theorem DecideMore_k (k : Nat) (hk : 400000 ≤ k) (hA : watchbilllaw22_awake k = some true) (l : List T_api_Rule) (x : T_api_Rule) (w : Str) (now : Int) : watchbilllaw22_DecideMore k l x w now = some true := by
  unfold watchbilllaw22_DecideMore
  rw [hA, Option.bind_some, if_neg (by simp)]
  obtain ⟨b, e, h⟩ := Few_eq k hk l
  obtain ⟨b', e', h'⟩ := Few_eq k hk [x]
  rw [e, Option.bind_some]
  cases b with
  | false => simp
  | true =>
    rw [if_pos (by simp), e', Option.bind_some]
    cases b' with
    | false => simp
    | true =>
      by_cases hw : w.length ≤ 2000
      · rw [if_neg (by simp; omega)]
        have hl := h rfl
        have hx := (h' rfl).2 x (by simp)
        have h40 := hl.1
        have hmid : midR (l ++ [x]) := ⟨by simp; omega, fun y hy => by
          rcases List.mem_append.1 hy with h | h
          · exact hl.2 y h
          · rw [List.mem_singleton] at h; subst h; exact hx⟩
        rw [decide_eq k hk l (few_mid hl) w hw now, Option.bind_some, if_pos (by simp; omega), if_pos (by simp; omega), List.nil_append, decide_eq k hk _ hmid w hw now, Option.bind_some]
        exact more_l k hk l hl x hx w hw now k 0 false (by omega) (by omega) (by simp)
      · rw [if_pos (by simp; omega)]

theorem DecideDecides (l : List T_api_Rule) (w : Str) (now : Int) (_ : w.length ≤ 140737488351232) (_ : (Lit.int .u64 now).wf = true) : ∃ k, watchbilllaw22_DecideDecides k l w now = some true := ⟨400000, DecideDecides_k 400000 (Nat.le_refl _) awake l w now⟩
theorem DecideMore (l : List T_api_Rule) (x : T_api_Rule) (w : Str) (now : Int) (_ : w.length ≤ 140737488351232) (_ : (Lit.int .u64 now).wf = true) : ∃ k, watchbilllaw22_DecideMore k l x w now = some true := ⟨400000, DecideMore_k 400000 (Nat.le_refl _) awake l x w now⟩
theorem DecideOrder (l : List T_api_Rule) (w : Str) (now : Int) (_ : w.length ≤ 140737488351232) (_ : (Lit.int .u64 now).wf = true) : ∃ k, watchbilllaw22_DecideOrder k l w now = some true := ⟨400000, DecideOrder_k 400000 (Nat.le_refl _) awake l w now⟩
theorem DecideHolds (l : List T_api_Rule) (w : Str) (now later : Int) (_ : w.length ≤ 140737488351232) (_ : (Lit.int .u64 now).wf = true) (_ : (Lit.int .u64 later).wf = true) : ∃ k, watchbilllaw22_DecideHolds k l w now later = some true := ⟨400000, DecideHolds_k 400000 (Nat.le_refl _) awake l w now later⟩
end Go.Proofs.Ytkiikmejjcmafaa.Pure
