/- Proved here: texts sorted and made compact are the rising list of them; what rules come to. -/
import Derived.Test.YtkiikmejjcmafaaPureA
namespace Go.Proofs.Ytkiikmejjcmafaa.Pure
open Go Go.RowKit Go.Proofs.Vx Go.Proofs.Ytkiikmejjcmafaa.Sh

/-! ### Rising lists -/
def Rise (l : List Str) : Prop := l.Pairwise (· < ·)
theorem str_irrefl (a : Str) : ¬ a < a := List.lt_irrefl a
theorem str_trans {a b c : Str} (h : a < b) (h2 : b < c) : a < c := List.lt_trans h h2
theorem str_tri (a b : Str) : a < b ∨ a = b ∨ b < a := by
  by_cases h : a < b
  · exact .inl h
  · by_cases h2 : b < a
    · exact .inr (.inr h2)
    · exact .inr (.inl (List.le_antisymm (List.not_lt.1 h2) (List.not_lt.1 h)))
theorem rise_eq : ∀ {l m : List Str}, Rise l → Rise m → (∀ s, s ∈ l ↔ s ∈ m) → l = m
  | [], [], _, _, _ => rfl
  | [], b :: m, _, _, h => by have := (h b).2 (.head _); cases this
  | a :: l, [], _, _, h => by have := (h a).1 (.head _); cases this
  | a :: l, b :: m, h1, h2, h => by
    have h1' := List.pairwise_cons.1 h1
    have h2' := List.pairwise_cons.1 h2
    have hab : a = b := by
      rcases List.mem_cons.1 ((h a).1 (.head _)) with e | e
      · exact e
      · rcases List.mem_cons.1 ((h b).2 (.head _)) with e' | e'
        · exact e'.symm
        · exact absurd (str_trans (h2'.1 a e) (h1'.1 b e')) (str_irrefl _)
    subst hab
    rw [rise_eq h1'.2 h2'.2 fun s => ?_]
    constructor
    · intro hs
      rcases List.mem_cons.1 ((h s).1 (.tail _ hs)) with rfl | e
      · exact absurd (h1'.1 s hs) (str_irrefl _)
      · exact e
    · intro hs
      rcases List.mem_cons.1 ((h s).2 (.tail _ hs)) with rfl | e
      · exact absurd (h2'.1 s hs) (str_irrefl _)
      · exact e
/-- What is sorted and made compact rises, and holds just the same texts. -/
theorem upTo_rise (d : Array Str) (hd : ∀ i j, i < j → j < d.size → d[i]! ≤ d[j]!) : ∀ m, m ≤ d.size → Rise (Lib.compactUpTo d m) ∧ (∀ s, s ∈ Lib.compactUpTo d m ↔ ∃ j, j < m ∧ d[j]! = s) := by
  intro m
  induction m with
  | zero =>
    intro _
    refine ⟨List.Pairwise.nil, fun s => ⟨fun h => (by cases h), fun h => ?_⟩⟩
    obtain ⟨j, h, _⟩ := h
    omega
  | succ m ih =>
    intro hm
    obtain ⟨h1, h2⟩ := ih (by omega)
    rw [Lib.compactUpTo_succ]
    by_cases hk : Lib.keeps d m = true
    · rw [if_pos hk]
      constructor
      · refine List.pairwise_append.2 ⟨h1, List.pairwise_singleton _ _, fun a ha b hb => ?_⟩
        rw [List.mem_singleton] at hb
        subst hb
        obtain ⟨j, hj, rfl⟩ := (h2 a).1 ha
        have hne : d[m]! ≠ d[m - 1]! := by
          unfold Lib.keeps at hk
          have := of_decide_eq_true hk
          exact this.resolve_left (by omega)
        have hle : d[j]! ≤ d[m - 1]! := by
          by_cases hjm : j = m - 1
          · rw [hjm]; exact List.le_refl _
          · exact hd j (m - 1) (by omega) (by omega)
        have hlt : d[m - 1]! < d[m]! := by
          rcases str_tri (d[m - 1]!) (d[m]!) with h | h | h
          · exact h
          · exact absurd h.symm hne
          · exact absurd h (List.not_lt.2 (hd (m - 1) m (by omega) (by omega)))
        rcases str_tri (d[j]!) (d[m - 1]!) with h | h | h
        · exact str_trans h hlt
        · rw [h]; exact hlt
        · exact absurd h (List.not_lt.2 hle)
      · intro s
        rw [List.mem_append, h2 s, List.mem_singleton]
        constructor
        · rintro (⟨j, hj, e⟩ | e)
          · exact ⟨j, by omega, e⟩
          · exact ⟨m, by omega, e.symm⟩
        · rintro ⟨j, hj, e⟩
          by_cases hjm : j = m
          · subst hjm; exact .inr e.symm
          · exact .inl ⟨j, by omega, e⟩
    · rw [if_neg hk, List.append_nil]
      refine ⟨h1, fun s => ?_⟩
      rw [h2 s]
      have hm0 : m ≠ 0 ∧ d[m]! = d[m - 1]! := by
        unfold Lib.keeps at hk
        simp only [decide_eq_true_eq, not_or, Decidable.not_not, ne_eq] at hk
        exact hk
      constructor
      · rintro ⟨j, hj, e⟩; exact ⟨j, by omega, e⟩
      · rintro ⟨j, hj, e⟩
        by_cases hjm : j = m
        · subst hjm; exact ⟨j - 1, by omega, hm0.2.symm.trans e⟩
        · exact ⟨j, by omega, e⟩
def upS (cs : List Str) : List Str := Lib.compact (cs.mergeSort leS)
theorem leS_iff (a b : Str) : leS a b = true ↔ a ≤ b := by unfold leS; simp
theorem sorted_le (cs : List Str) : (cs.mergeSort leS).Pairwise (· ≤ ·) := by
  have := List.pairwise_mergeSort (le := leS) (fun a b c h1 h2 => (leS_iff a c).2 (List.le_trans ((leS_iff a b).1 h1) ((leS_iff b c).1 h2))) (fun a b => by
    rcases List.le_total a b with h | h
    · simp [(leS_iff a b).2 h]
    · simp [(leS_iff b a).2 h]) cs
  exact this.imp fun h => (leS_iff _ _).1 h
theorem up_spec (cs : List Str) : Rise (upS cs) ∧ ∀ s, s ∈ upS cs ↔ s ∈ cs := by
  have hs := sorted_le cs
  have hd : ∀ i j, i < j → j < (cs.mergeSort leS).toArray.size → (cs.mergeSort leS).toArray[i]! ≤ (cs.mergeSort leS).toArray[j]! := by
    intro i j hij hj
    have hj' : j < (cs.mergeSort leS).length := by simpa using hj
    have := (List.pairwise_iff_getElem.1 hs) i j (by omega) hj' hij
    rw [getElem!_pos _ i (by simpa using (by omega : i < (cs.mergeSort leS).length)), getElem!_pos _ j (by simpa using hj')]
    simpa using this
  obtain ⟨h1, h2⟩ := upTo_rise _ hd (cs.mergeSort leS).length (by simp)
  refine ⟨h1, fun s => ?_⟩
  unfold upS Lib.compact
  rw [h2 s]
  rw [← List.mem_mergeSort (le := leS)]
  constructor
  · rintro ⟨j, hj, rfl⟩
    rw [getElem!_pos _ j (by simpa using hj)]
    simp
  · intro hm
    obtain ⟨j, hj, e⟩ := List.mem_iff_getElem.1 hm
    refine ⟨j, hj, ?_⟩
    rw [getElem!_pos _ j (by simpa using hj)]
    simpa using e

/-! ### The document's rising list -/
def addS : List Str → Str → List Str
  | [], s => [s]
  | x :: l, s => if x < s then x :: addS l s else if x = s then x :: l else s :: x :: l
theorem add_mem : ∀ (l : List Str) (s t : Str), t ∈ addS l s ↔ t ∈ l ∨ t = s
  | [], s, t => by simp [addS]
  | x :: l, s, t => by
    rw [addS]
    split
    · rw [List.mem_cons, add_mem l s t, List.mem_cons]; constructor
      · rintro (h | h | h)
        · exact .inl (.inl h)
        · exact .inl (.inr h)
        · exact .inr h
      · rintro ((h | h) | h)
        · exact .inl h
        · exact .inr (.inl h)
        · exact .inr (.inr h)
    · split
      · rename_i h; subst h; constructor
        · exact .inl
        · rintro (h | rfl)
          · exact h
          · exact .head _
      · rw [List.mem_cons]; constructor
        · rintro (h | h)
          · exact .inr h
          · exact .inl h
        · rintro (h | h)
          · exact .inr h
          · exact .inl h
theorem add_rise : ∀ (l : List Str) (s : Str), Rise l → Rise (addS l s)
  | [], s, _ => List.pairwise_singleton _ _
  | x :: l, s, h => by
    have h' := List.pairwise_cons.1 h
    rw [addS]
    split
    · rename_i hx
      refine List.pairwise_cons.2 ⟨fun t ht => ?_, add_rise l s h'.2⟩
      rcases (add_mem l s t).1 ht with ht | rfl
      · exact h'.1 t ht
      · exact hx
    · split
      · exact h
      · rename_i h1 h2
        have hsx : s < x := by
          rcases str_tri x s with h | h | h
          · exact absurd h h1
          · exact absurd h h2
          · exact h
        refine List.pairwise_cons.2 ⟨fun t ht => ?_, h⟩
        rcases List.mem_cons.1 ht with rfl | ht
        · exact hsx
        · exact str_trans hsx (h'.1 t ht)
theorem add_len (l : List Str) (s : Str) : (addS l s).length ≤ l.length + 1 := by
  induction l with
  | nil => simp [addS]
  | cons x l ih => rw [addS]; split; · simp; omega
                   split <;> simp
theorem add_l (k : Nat) (l : List Str) (s : Str) (h9 : l.length ≤ 390000) : ∀ (m i : Nat), i ≤ l.length → l.length < i + m → watchbillref22_add.l0 k l s m (i : Int) = some (l.take i ++ addS (l.drop i) s) := by
  intro m
  induction m with
  | zero => intro i h1 h2; omega
  | succ m ih =>
    intro i h1 h2
    unfold watchbillref22_add.l0
    have s1 : sl l 0 (i : Int) = l.take i := by simp [sl]
    have s2 : sl l (i : Int) (l.length : Int) = l.drop i := by simp [sl]; exact List.take_of_length_le (by simp)
    by_cases hi : i < l.length
    · have hd : decide ((i : Int) < (l.length : Int)) = true := by simp; omega
      rw [if_pos (fun _ => by omega), hd, Bool.true_and, bytesLess_eq, rd_drop hi, addS]
      by_cases h1 : rd l (i : Int) < s
      · rw [if_pos (by simpa using h1), if_pos h1, wi (by omega), ih (i + 1) (by omega) (by omega)]
        have hr : rd l (i : Int) = l[i] := by simp [rd, hi]
        have ht : l.take (i + 1) = l.take i ++ [l[i]] := (List.take_append_getElem hi).symm
        rw [hr, ht, List.append_assoc]
        rfl
      · rw [if_neg (by simpa using h1), if_neg h1, if_pos (fun _ => by omega), Bool.true_and]
        by_cases h2 : rd l (i : Int) = s
        · rw [if_pos (by simpa using h2), if_pos h2, ← rd_drop hi, List.take_append_drop]
        · rw [if_neg (by simpa using h2), if_neg h2, if_pos (by omega), s1, s2]
          rw [if_pos (by simp; omega), if_pos (by simp; omega), if_pos (by omega), if_pos (by simp; omega), ← rd_drop hi]
          simp
    · have hd : decide ((i : Int) < (l.length : Int)) = false := by simp; omega
      have hil : i = l.length := by omega
      rw [if_pos (fun h => by rw [hd] at h; simp at h), hd, Bool.false_and, if_neg (by simp), if_pos (fun h => by simp at h), Bool.false_and, if_neg (by simp), if_pos (by omega), s1, s2]
      rw [if_pos (by simp; omega), if_pos (by simp; omega), if_pos (by omega), if_pos (by simp; omega)]
      rw [List.drop_of_length_le (by omega), addS]
      simp
theorem add_eq (k : Nat) (hk : 400000 ≤ k) (l : List Str) (s : Str) (h : l.length ≤ 390000) : watchbillref22_add k l s = some (addS l s) := by
  have := add_l k l s h k 0 (by omega) (by omega)
  simpa [watchbillref22_add] using this
def addAll (l cs : List Str) : List Str := cs.foldl addS l
theorem addAll_spec : ∀ (cs l : List Str), Rise l → Rise (addAll l cs) ∧ (∀ s, s ∈ addAll l cs ↔ s ∈ l ∨ s ∈ cs) ∧ (addAll l cs).length ≤ l.length + cs.length
  | [], l, h => ⟨h, fun s => by simp [addAll], by simp [addAll]⟩
  | c :: cs, l, h => by
    obtain ⟨h1, h2, h3⟩ := addAll_spec cs (addS l c) (add_rise l c h)
    refine ⟨h1, fun s => ?_, ?_⟩
    · show s ∈ addAll (addS l c) cs ↔ _
      rw [h2 s, add_mem, List.mem_cons, or_assoc]
    · show (addAll (addS l c) cs).length ≤ _
      have := add_len l c
      simp only [List.length_cons]; omega
theorem up_add (cs : List Str) : upS cs = addAll [] cs := by
  obtain ⟨h1, h2⟩ := up_spec cs
  obtain ⟨g1, g2, _⟩ := addAll_spec cs [] List.Pairwise.nil
  exact rise_eq h1 g1 fun s => by rw [h2, g2]; simp
theorem addAll_app (l a b : List Str) : addAll (addAll l a) b = addAll l (a ++ b) := by simp [addAll]
end Go.Proofs.Ytkiikmejjcmafaa.Pure
