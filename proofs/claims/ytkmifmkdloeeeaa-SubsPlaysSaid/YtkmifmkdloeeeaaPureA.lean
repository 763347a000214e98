/- Proved here: what a subscription tells, what its rows' bounds are, as plain Lean. -/
import Derived.Test.YtkmifmkdloeeeaaSh
import Derived.Test.YtkmifmkdloeeeaaVxP
namespace Go.Proofs.Ytkmifmkdloeeeaa.Pure
open Go Go.RowKit Go.Proofs.Vx Go.Proofs.Ytkmifmkdloeeeaa.Sh

theorem awake : watchbilllaw27_awake 400000 = some true := by kernel_rfl
theorem wi {i : Nat} (h : i ≤ 9000000000000) : IntKind.i64.wrap ((i : Int) + 1) = ((i + 1 : Nat) : Int) := by rw [w64 (by omega) (by omega)]; omega

def rE (a b : T_api_Row) : Bool := a.URI == b.URI && (a.Name == b.Name && (a.State == b.State && (a.Body == b.Body && true)))
theorem rE_iff (a b : T_api_Row) : rE a b = true ↔ a = b := by cases a; cases b; simp [rE]
def rsE : List T_api_Row → List T_api_Row → Bool
  | [], [] => true
  | a :: l, b :: m => rE a b && rsE l m
  | _, _ => false
theorem rsE_iff : ∀ l m : List T_api_Row, rsE l m = true ↔ l = m
  | [], [] => by simp [rsE]
  | [], _ :: _ => by simp [rsE]
  | _ :: _, [] => by simp [rsE]
  | a :: l, b :: m => by simp [rsE, rE_iff, rsE_iff l m]
theorem rsE_len {l m : List T_api_Row} (h : l.length ≠ m.length) : rsE l m = false := by
  cases hb : rsE l m with
  | false => rfl
  | true => exact absurd (congrArg List.length ((rsE_iff l m).1 hb)) h
theorem equal_l (k : Nat) (a b : List T_api_Row) (h : a.length = b.length) (h9 : a.length ≤ 9000000000000) : ∀ (m i : Nat), i ≤ a.length → a.length < i + m → slices_Equal_23.l0 k a b m (i : Int) = some (rsE (a.drop i) (b.drop i)) := by
  intro m
  induction m with
  | zero => intro i h1 h2; omega
  | succ m ih =>
    intro i h1 h2
    unfold slices_Equal_23.l0
    by_cases hi : i < a.length
    · rw [if_pos (by simp; omega), if_pos (by omega), if_pos (by omega), wi (by omega), ih (i + 1) (by omega) (by omega), rd_drop hi, rd_drop (xs := b) (i := i) (by omega)]
      show (if (!rE (rd a (i : Int)) (rd b (i : Int))) = true then _ else _) = some (rE _ _ && _)
      cases rE (rd a (i : Int)) (rd b (i : Int)) <;> simp
    · rw [if_neg (by simp; omega), List.drop_of_length_le (by omega), List.drop_of_length_le (by omega)]; rfl
theorem equal_eq (k : Nat) (a b : List T_api_Row) (h9 : a.length < 400000) (hk : 400000 ≤ k) : slices_Equal_23 k a b = some (rsE a b) := by
  unfold slices_Equal_23
  by_cases h : a.length = b.length
  · rw [if_neg (by simp; omega)]
    have := equal_l k a b h (by omega) k 0 (by omega) (by omega)
    simpa using this
  · rw [if_pos (by simp; omega), rsE_len h]
theorem rows_l (k : Nat) (a b : List T_api_Row) (h : a.length = b.length) (h9 : a.length ≤ 9000000000000) : ∀ (m i : Nat), i ≤ a.length → a.length < i + m → watchbillref24_Rows.l0 k a b m (i : Int) = some (rsE (a.drop i) (b.drop i)) := by
  intro m
  induction m with
  | zero => intro i h1 h2; omega
  | succ m ih =>
    intro i h1 h2
    unfold watchbillref24_Rows.l0
    by_cases hi : i < a.length
    · rw [if_pos (by simp; omega), if_pos (by omega), if_pos (by omega), wi (by omega), ih (i + 1) (by omega) (by omega), rd_drop hi, rd_drop (xs := b) (i := i) (by omega)]
      show (if (!rE (rd a (i : Int)) (rd b (i : Int))) = true then _ else _) = some (rE _ _ && _)
      cases rE (rd a (i : Int)) (rd b (i : Int)) <;> simp
    · rw [if_neg (by simp; omega), List.drop_of_length_le (by omega), List.drop_of_length_le (by omega)]; rfl
theorem rows_eq (k : Nat) (a b : List T_api_Row) (h9 : a.length < 400000) (hk : 400000 ≤ k) : watchbillref24_Rows k a b = some (rsE a b) := by
  unfold watchbillref24_Rows
  by_cases h : a.length = b.length
  · rw [if_neg (by simp; omega)]
    have := rows_l k a b h (by omega) k 0 (by omega) (by omega)
    simpa using this
  · rw [if_pos (by simp; omega), rsE_len h]
theorem clone_eq (a : List T_api_Row) (h : a.length < 400000) : slices_Clone_25 a = some a := by
  unfold slices_Clone_25; rw [if_pos (by simp; omega), List.nil_append]
theorem uris_l (k : Nat) (a : List T_api_Row) (h9 : a.length < 400000) : ∀ (m i : Nat) (y : List Str), i ≤ a.length → a.length < i + m → y.length ≤ i → subs_uris.l0 k a m y (i : Int) = some (y ++ (a.drop i).map (·.URI)) := by
  intro m
  induction m with
  | zero => intro i y h1 h2; omega
  | succ m ih =>
    intro i y h1 h2 h3
    unfold subs_uris.l0
    by_cases hi : i < a.length
    · rw [if_pos (by simp; omega), if_pos (by omega), if_pos (by simp; omega), wi (by omega), ih (i + 1) _ (by omega) (by omega) (by simp; omega), rd_drop hi]
      simp
    · rw [if_neg (by simp; omega), List.drop_of_length_le (by omega)]; simp
theorem uris_eq (k : Nat) (a : List T_api_Row) (h9 : a.length < 400000) (hk : 400000 ≤ k) : subs_uris k a = some (a.map (·.URI)) := by
  have := uris_l k a h9 k 0 [] (by omega) (by omega) (by simp)
  simpa [subs_uris] using this
theorem streq_l (k : Nat) (a b : List Str) (h : a.length = b.length) (h9 : a.length ≤ 9000000000000) : ∀ (m i : Nat), i ≤ a.length → a.length < i + m → slices_Equal_31.l0 k a b m (i : Int) = some (a.drop i == b.drop i) := by
  intro m
  induction m with
  | zero => intro i h1 h2; omega
  | succ m ih =>
    intro i h1 h2
    unfold slices_Equal_31.l0
    by_cases hi : i < a.length
    · rw [if_pos (by simp; omega), if_pos (by omega), if_pos (by omega), wi (by omega), ih (i + 1) (by omega) (by omega), rd_drop hi, rd_drop (xs := b) (i := i) (by omega)]
      rw [List.cons_beq_cons]
      cases (rd a (i : Int)) == (rd b (i : Int)) <;> simp
    · rw [if_neg (by simp; omega), List.drop_of_length_le (by omega), List.drop_of_length_le (by omega)]; rfl
theorem streq_eq (k : Nat) (a b : List Str) (h9 : a.length < 400000) (hk : 400000 ≤ k) : slices_Equal_31 k a b = some (a == b) := by
  unfold slices_Equal_31
  by_cases h : a.length = b.length
  · rw [if_neg (by simp; omega)]
    have := streq_l k a b h (by omega) k 0 (by omega) (by omega)
    simpa using this
  · rw [if_pos (by simp; omega)]
    cases hb : a == b with
    | false => rfl
    | true => exact absurd (congrArg List.length (eq_of_beq hb)) h
def goS (old rows : List T_api_Row) : Bool := decide (old.length ≤ rows.length) && (old.map (·.URI) == (rows.take old.length).map (·.URI))
theorem goes_eq (k : Nat) (a b : List T_api_Row) (ha : a.length < 400000) (hb : b.length < 400000) (hk : 400000 ≤ k) : subs_goes k a b = some (goS a b) := by
  unfold subs_goes goS
  by_cases h : a.length ≤ b.length
  · have hd : decide ((a.length : Int) ≤ (b.length : Int)) = true := by simp; omega
    have hs : sl b 0 (a.length : Int) = b.take a.length := by simp [sl]
    rw [hd]
    simp only [beq_self_eq_true, if_true, Bool.true_and, uris_eq k a ha hk, Option.bind_some]
    rw [if_pos (fun _ => by omega), hs, uris_eq k _ (by simp; omega) hk]
    simp only [Option.bind_some]
    rw [streq_eq k _ _ (by simp; omega) hk]
    simp [h]
  · have hd : decide ((a.length : Int) ≤ (b.length : Int)) = false := by simp; omega
    rw [hd]
    simp [h]

def chS : List T_api_Row → List T_api_Row → List T_api_Row
  | _, [] => []
  | [], x :: l => x :: chS [] l
  | o :: old, x :: l => if rE o x then chS old l else x :: chS old l
theorem chS_nil : ∀ l, chS [] l = l
  | [] => rfl
  | x :: l => by rw [chS, chS_nil l]
theorem chS_len : ∀ (old l : List T_api_Row), (chS old l).length ≤ l.length
  | _, [] => by simp [chS]
  | [], x :: l => by rw [chS_nil]; exact Nat.le_refl _
  | o :: old, x :: l => by
    have := chS_len old l
    rw [chS]; split <;> simp <;> omega
theorem changed_l (k : Nat) (a b : List T_api_Row) (h9 : b.length < 400000) : ∀ (m i : Nat) (y : List T_api_Row), i ≤ b.length → b.length < i + m → y.length ≤ i → subs_changed.l0 k a b m y (i : Int) = some (y ++ chS (a.drop i) (b.drop i)) := by
  intro m
  induction m with
  | zero => intro i y h1 h2; omega
  | succ m ih =>
    intro i y h1 h2 h3
    unfold subs_changed.l0
    by_cases hi : i < b.length
    · rw [if_pos (by simp; omega), if_pos (by omega), wi (by omega)]
      by_cases hj : i < a.length
      · have hd : decide ((i : Int) ≥ (a.length : Int)) = false := by simp; omega
        rw [if_pos (fun _ => by omega), hd, Bool.false_or, rd_drop hi, rd_drop hj, chS]
        show (if (!rE (rd a (i : Int)) (rd b (i : Int))) = true then _ else _) = _
        cases rE (rd a (i : Int)) (rd b (i : Int)) with
        | true => simp only [Bool.not_true, if_true, Bool.false_eq_true, if_false]; exact ih (i + 1) y (by omega) (by omega) (by omega)
        | false =>
          simp only [Bool.not_false, if_true, Bool.false_eq_true, if_false]
          rw [if_pos (by simp; omega), ih (i + 1) _ (by omega) (by omega) (by simp; omega)]
          simp
      · have hd : decide ((i : Int) ≥ (a.length : Int)) = true := by simp; omega
        rw [if_pos (fun h => by rw [hd] at h; cases h), hd, Bool.true_or, if_pos rfl, if_pos (by simp; omega), ih (i + 1) _ (by omega) (by omega) (by simp; omega), rd_drop hi, List.drop_of_length_le (l := a) (i := i + 1) (by omega), List.drop_of_length_le (l := a) (i := i) (by omega), chS_nil, chS_nil]
        simp
    · rw [if_neg (by simp; omega), List.drop_of_length_le (l := b) (by omega)]
      cases a.drop i <;> simp [chS]
theorem changed_eq (k : Nat) (a b : List T_api_Row) (hb : b.length < 400000) (hk : 400000 ≤ k) : subs_changed k a b = some (chS a b) := by
  have := changed_l k a b hb k 0 [] (by omega) (by omega) (by simp)
  simpa [subs_changed] using this

def nxFull (s : T_subs_Sub) (rows : List T_api_Row) (full : Bool) : Bool := (!s.Begun_ || full) || !goS s.Rows_ rows
def nx (s : T_subs_Sub) (rows : List T_api_Row) (full : Bool) : T_api_Body × Bool × Int × T_subs_Sub :=
  if ((s.Begun_ && !full) && rsE s.Rows_ rows) = true then (⟨[], 0, false, []⟩, false, 0, s)
  else if (s.Next_ == 4294967295) = true then (⟨[], 0, false, []⟩, false, 49, s)
  else (⟨s.List_, s.Next_, nxFull s rows full, if nxFull s rows full then rows else chS s.Rows_ rows⟩, true, 0, ⟨s.List_, IntKind.u32.wrap (s.Next_ + 1), true, rows⟩)
theorem next_eq (k : Nat) (s : T_subs_Sub) (rows : List T_api_Row) (full : Bool) (hs : s.Rows_.length < 400000) (hr : rows.length < 400000) (hk : 400000 ≤ k) : subs_Sub_Next k s rows full = some (nx s rows full) := by
  unfold subs_Sub_Next
  have e1 : ((if ((s.Begun_ && (!full)) == true) = true then slices_Equal_23 k s.Rows_ rows else some default)) = some (if (s.Begun_ && !full) = true then rsE s.Rows_ rows else default) := by
    rw [equal_eq k _ _ hs hk]; cases s.Begun_ && !full <;> rfl
  rw [e1, Option.bind_some]
  have e2 : (s.Begun_ && !full && (if (s.Begun_ && !full) = true then rsE s.Rows_ rows else default)) = ((s.Begun_ && !full) && rsE s.Rows_ rows) := by cases s.Begun_ && !full <;> rfl
  rw [e2]
  unfold nx
  by_cases h1 : ((s.Begun_ && !full) && rsE s.Rows_ rows) = true
  · rw [if_pos h1, if_pos h1]
  · rw [if_neg h1, if_neg h1]
    by_cases h2 : (s.Next_ == 4294967295) = true
    · rw [if_pos h2, if_pos h2]
    · rw [if_neg h2, if_neg h2]
      have e3 : ((if (((!s.Begun_) || full) == false) = true then subs_goes k s.Rows_ rows else some default)) = some (if ((!s.Begun_) || full) = true then default else goS s.Rows_ rows) := by
        rw [goes_eq k _ _ hs hr hk]; cases (!s.Begun_) || full <;> rfl
      rw [e3, Option.bind_some, clone_eq rows hr, Option.bind_some]
      have e4 : (((!s.Begun_) || full) || !(if ((!s.Begun_) || full) = true then default else goS s.Rows_ rows)) = nxFull s rows full := by
        unfold nxFull; cases (!s.Begun_) || full <;> rfl
      simp only [subs_Sub_Next.j0, clone_eq rows hr, Option.bind_some, e4, changed_eq k _ _ hr hk]
      cases nxFull s rows full <;> rfl

theorem few_l (k : Nat) (l : List T_api_Row) (h9 : l.length < 5000) : ∀ (m i : Nat) (n : Int), i ≤ l.length → l.length < i + m → 0 ≤ n → n ≤ 100000 → ∃ b, watchbilllaw27_few.l0 k l m n (i : Int) = some b := by
  intro m
  induction m with
  | zero => intro i n h1 h2; omega
  | succ m ih =>
    intro i n h1 h2 h3 h4
    unfold watchbilllaw27_few.l0
    by_cases hi : i < l.length ∧ n < 5000
    · rw [if_pos (by simp; omega), if_pos (by omega), if_pos (by omega), if_pos (by omega), wi (by omega)]
      refine ih (i + 1) _ (by omega) (by omega) ?_ ?_
      all_goals
        rw [w64 (x := n + _) (by split <;> omega) (by split <;> omega), w64 (x := n + _ + _) (by split <;> split <;> omega) (by split <;> split <;> omega), w64 (by split <;> split <;> split <;> omega) (by split <;> split <;> split <;> omega)]
        split <;> split <;> split <;> omega
    · rw [if_neg (by simp; omega)]; exact ⟨_, rfl⟩
theorem few_eq (k : Nat) (l : List T_api_Row) (hk : 400000 ≤ k) : ∃ b, watchbilllaw27_few k l = some b ∧ (b = true → l.length < 5000) := by
  unfold watchbilllaw27_few
  by_cases h : l.length < 5000
  · obtain ⟨b, hb⟩ := few_l k l h k 0 (if 5000 < (l.length : Int) then 5000 else (l.length : Int)) (by omega) (by omega) (by split <;> omega) (by split <;> omega)
    exact ⟨b, by simpa using hb, fun _ => h⟩
  · obtain ⟨k, rfl⟩ : ∃ j, k = j + 1 := ⟨k - 1, by omega⟩
    have e : (if 5000 < (l.length : Int) then 5000 else (l.length : Int)) = 5000 := by split <;> omega
    rw [e]
    unfold watchbilllaw27_few.l0
    rw [if_neg (by simp)]
    exact ⟨_, rfl, fun h => by simp at h⟩
theorem Few_l (k : Nat) (hk : 400000 ≤ k) (l : List T_watchbilllaw27_Step) : ∀ (m i : Nat), i ≤ l.length → i ≤ 60 → 60 < i + m → ∃ b, watchbilllaw27_Few.l0 k l m (i : Int) = some b ∧ (b = true → l.length ≤ 60 ∧ ∀ s ∈ l.drop i, s.Rows.length < 5000) := by
  intro m
  induction m with
  | zero => intro i h1 h2; omega
  | succ m ih =>
    intro i h1 h2 h3
    unfold watchbilllaw27_Few.l0
    by_cases hi : i < l.length
    · rw [if_pos (by simp; omega), if_pos (fun _ => by omega), wi (by omega)]
      by_cases h6 : i < 60
      · have hd : decide ((i : Int) ≥ 60) = false := by simp; omega
        obtain ⟨b, e, hb⟩ := few_eq k (rd l (i : Int)).Rows hk
        simp only [hd, beq_self_eq_true, if_true, e, Option.bind_some, Bool.false_or]
        cases b with
        | false => exact ⟨false, rfl, fun h => by cases h⟩
        | true =>
          obtain ⟨b, e, hb2⟩ := ih (i + 1) (by omega) (by omega) (by omega)
          refine ⟨b, by simpa using e, fun h => ⟨(hb2 h).1, ?_⟩⟩
          rw [rd_drop hi]
          intro s hs
          rcases List.mem_cons.1 hs with rfl | hs
          · exact hb rfl
          · exact (hb2 h).2 s hs
      · have hd : decide ((i : Int) ≥ 60) = true := by simp; omega
        simp only [hd]
        exact ⟨false, rfl, fun h => by cases h⟩
    · rw [if_neg (by simp; omega)]
      exact ⟨true, rfl, fun _ => ⟨by omega, by rw [List.drop_of_length_le (by omega)]; simp⟩⟩
theorem Few_eq (k : Nat) (hk : 400000 ≤ k) (l : List T_watchbilllaw27_Step) : ∃ b, watchbilllaw27_Few k l = some b ∧ (b = true → l.length ≤ 60 ∧ ∀ s ∈ l, s.Rows.length < 5000) := by
  obtain ⟨b, e, h⟩ := Few_l k hk l k 0 (by omega) (by omega) (by omega)
  exact ⟨b, by simpa [watchbilllaw27_Few] using e, by simpa using h⟩
end Go.Proofs.Ytkmifmkdloeeeaa.Pure
