/- Proved here: bodies are taken by a client just as the document says. -/
import Derived.Test.YtkmifmkdloeeeaaPureD
namespace Go.Proofs.Ytkmifmkdloeeeaa.Pure
open Go Go.RowKit Go.Proofs.Vx Go.Proofs.Ytkmifmkdloeeeaa.Sh

section
variable (k : Nat) (a0 : Bool) (a1 : Int) (a2 : List T_api_Row) (b0 : Str) (b1 : Int) (b2 : Bool) (rows : List T_api_Row) (z0 : Bool) (z1 : Int) (z2 : List T_api_Row)
theorem rt_l1 (c0 : Bool → Int → List T_api_Row → Str → Int → Bool → List T_api_Row → Bool → Int → List T_api_Row → Int → Option (T_watchbillref27_Client × Int)) (i : Nat) (hi : i < rows.length) (h9 : rows.length < 400000) : ∀ (m j : Nat), j ≤ i → i < j + m →
    watchbillref27_Take.l1 k c0 (i : Int) m a0 a1 a2 b0 b1 b2 rows z0 z1 z2 (j : Int) = if (rd rows (i : Int)).URI ∈ ((rows.take i).drop j).map (·.URI) then some (⟨a0, a1, a2⟩, 35) else c0 a0 a1 a2 b0 b1 b2 rows z0 z1 z2 ((i + 1 : Nat) : Int) := by
  intro m
  induction m with
  | zero => intro j h1 h2; omega
  | succ m ih =>
    intro j h1 h2
    unfold watchbillref27_Take.l1
    by_cases hj : j < i
    · have e : (rows.take i).drop j = rd rows (j : Int) :: (rows.take i).drop (j + 1) := by
        rw [rd_drop (xs := rows.take i) (i := j) (by simp; omega)]
        simp [rd, List.getElem?_take, hj]
      rw [if_pos (by simp; omega), if_pos (by omega), if_pos (by omega), wi (i := j) (by omega), ih (j + 1) (by omega) (by omega), e, List.map_cons]
      by_cases he : (rd rows (i : Int)).URI = (rd rows (j : Int)).URI
      · rw [if_pos (by simpa using he), if_pos (by rw [he]; simp)]
      · rw [if_neg (by simpa using he)]
        simp [he]
    · rw [if_neg (by simp; omega), wi (by omega), List.drop_of_length_le (by simp; omega)]
      simp
theorem rt_l3 (c2 : Str → Int → Bool → List T_api_Row → Bool → Int → Bool → Int → List T_api_Row → List T_api_Row → Int → Option (T_watchbillref27_Client × Int)) (w0 : Bool) (w1 : Int) (i : Nat) (hi : i < rows.length) (y : List T_api_Row) (h9 : y.length < 400000) (hn : nd y) : ∀ (m j : Nat) (t : Int), j ≤ y.length → y.length < j + m →
    watchbillref27_Take.l3 k c2 (i : Int) m b0 b1 b2 rows z0 z1 w0 w1 z2 y t (j : Int) = watchbillref27_Take.l3 k c2 (i : Int) 1 b0 b1 b2 rows z0 z1 w0 w1 z2 y (match idxU (y.drop j) (rd rows (i : Int)).URI with | some d => ((j + d : Nat) : Int) | none => t) (y.length : Int) := by
  intro m
  induction m with
  | zero => intro j t h1 h2; omega
  | succ m ih =>
    intro j t h1 h2
    by_cases hj : j < y.length
    · rw [watchbillref27_Take.l3]
      rw [if_pos (by simp; omega), if_pos (by omega), if_pos (by omega), wi (by omega), ih (j + 1) _ (by omega) (by omega), ih (j + 1) _ (by omega) (by omega), rd_drop hj, idxU]
      by_cases he : ((rd y (j : Int)).URI == (rd rows (i : Int)).URI) = true
      · rw [if_pos he, if_pos he]
        have hnone : idxU (y.drop (j + 1)) (rd rows (i : Int)).URI = none := by
          refine idxU_none fun r hr hru => ?_
          have hd : nd (y.drop j) := by unfold nd at *; rw [List.map_drop]; exact hn.sublist (List.drop_sublist _ _)
          rw [rd_drop hj] at hd
          unfold nd at hd
          rw [List.map_cons, List.nodup_cons] at hd
          exact hd.1 (by rw [eq_of_beq he, ← hru]; exact List.mem_map_of_mem hr)
        rw [hnone]; rfl
      · rw [if_neg he, if_neg he]
        cases idxU (y.drop (j + 1)) (rd rows (i : Int)).URI with
        | none => rfl
        | some d =>
          show watchbillref27_Take.l3 k c2 (i : Int) 1 b0 b1 b2 rows z0 z1 w0 w1 z2 y (((j + 1 + d : Nat)) : Int) (y.length : Int) = watchbillref27_Take.l3 k c2 (i : Int) 1 b0 b1 b2 rows z0 z1 w0 w1 z2 y (((j + (d + 1) : Nat)) : Int) (y.length : Int)
          rw [show j + 1 + d = j + (d + 1) by omega]
    · have e : j = y.length := by omega
      subst e
      rw [List.drop_of_length_le (by omega)]
      show _ = watchbillref27_Take.l3 k c2 (i : Int) 1 b0 b1 b2 rows z0 z1 w0 w1 z2 y t (y.length : Int)
      rw [watchbillref27_Take.l3]
      conv => rhs; rw [watchbillref27_Take.l3]
      simp only [Int.lt_irrefl, decide_false, Bool.false_eq_true, if_false]
theorem rt_l2 (hk : 400000 ≤ k) (w0 : Bool) (w1 : Int) (h9 : rows.length < 400000) : ∀ (m i : Nat) (y : List T_api_Row), i ≤ rows.length → rows.length < i + m → y.length + (rows.length - i) < 400000 → nd y → watchbillref27_Take.l2 k m b0 b1 b2 rows z0 z1 w0 w1 z2 y (i : Int) = some (⟨w0, w1, (rows.drop i).foldl up1 y⟩, 0) := by
  intro m
  induction m with
  | zero => intro i y h1 h2; omega
  | succ m ih =>
    intro i y h1 h2 h3 hn
    unfold watchbillref27_Take.l2
    by_cases hi : i < rows.length
    · rw [if_pos (by simp; omega)]
      have := rt_l3 k b0 b1 b2 rows z0 z1 z2 (watchbillref27_Take.l2 k m) w0 w1 i hi y (by omega) hn k 0 (-1) (by omega) (by omega)
      rw [show ((0 : Nat) : Int) = 0 from rfl] at this
      rw [this, List.drop_zero, watchbillref27_Take.l3, if_neg (by simp), rd_drop hi, List.foldl_cons]
      have hup := up1_len y (rd rows (i : Int))
      have IH := ih (i + 1) (up1 y (rd rows (i : Int))) (by omega) (by omega) (by omega) (nd_up1 hn _)
      rw [up1_idx] at IH ⊢
      cases hx : idxU y (rd rows (i : Int)).URI with
      | none =>
        rw [hx] at IH
        simp only at IH ⊢
        rw [if_pos (by simp), if_pos (by omega), if_pos (by simp; omega), wi (by omega)]
        exact IH
      | some d =>
        rw [hx] at IH
        have := idxU_lt hx
        simp only [Nat.zero_add] at IH ⊢
        rw [if_neg (by simp), if_pos (by omega), if_pos (by omega), wi (by omega)]
        exact IH
    · rw [if_neg (by simp; omega), List.drop_of_length_le (by omega)]; rfl
theorem rt_l0 (hk : 400000 ≤ k) (h9 : rows.length + a2.length < 400000) (hn2 : nd a2) : ∀ (m i : Nat), i ≤ rows.length → rows.length < i + m → nd (rows.take i) → watchbillref27_Take.l0 k m a0 a1 a2 b0 b1 b2 rows z0 z1 z2 (i : Int) =
    if nd rows then some (⟨true, IntKind.u64.wrap (a1 + 1), if b2 = true then rows else rows.foldl up1 a2⟩, 0) else some (⟨a0, a1, a2⟩, 35) := by
  intro m
  induction m with
  | zero => intro i h1 h2; omega
  | succ m ih =>
    intro i h1 h2 hn
    unfold watchbillref27_Take.l0
    by_cases hi : i < rows.length
    · rw [if_pos (by simp; omega)]
      have := rt_l1 k a0 a1 a2 b0 b1 b2 rows z0 z1 z2 (watchbillref27_Take.l0 k m) i hi (by omega) k 0 (by omega) (by omega)
      rw [show ((0 : Nat) : Int) = 0 from rfl, List.drop_zero] at this
      rw [this]
      by_cases hm : (rd rows (i : Int)).URI ∈ (rows.take i).map (·.URI)
      · rw [if_pos hm, if_neg fun h => (nd_take_succ hi hn).1 (nd_take h (i + 1)) hm]
      · rw [if_neg hm, ih (i + 1) (by omega) (by omega) ((nd_take_succ hi hn).2 hm)]
    · rw [if_neg (by simp; omega)]
      rw [List.take_of_length_le (by omega)] at hn
      rw [if_pos hn]
      unfold watchbillref27_Take.j4
      cases b2 with
      | true =>
        rw [if_neg (by simp)]
        have := rt_l2 k b0 b1 true rows z0 z1 z2 hk true (IntKind.u64.wrap (a1 + 1)) (by omega) k 0 [] (by omega) (by omega) (by simp; omega) (by simp [nd])
        rw [show ((0 : Nat) : Int) = 0 from rfl, List.drop_zero, fold_nil rows hn] at this
        simpa using this
      | false =>
        rw [if_pos (by rfl), if_pos (by simp; omega), List.nil_append]
        have := rt_l2 k b0 b1 false rows z0 z1 z2 hk true (IntKind.u64.wrap (a1 + 1)) (by omega) k 0 a2 (by omega) (by omega) (by omega) hn2
        rw [show ((0 : Nat) : Int) = 0 from rfl, List.drop_zero] at this
        simpa using this
end
def toC (c : T_subs_Client) : T_watchbillref27_Client := ⟨c.Begun_, c.Next_, c.Rows_⟩
theorem rtake_eq (k : Nat) (hk : 400000 ≤ k) (c : T_subs_Client) (b : T_api_Body) (h9 : b.Rows.length + c.Rows_.length < 400000) (hn : nd c.Rows_) : watchbillref27_Take k (toC c) b = some (toC (tk c b).2, (tk c b).1) := by
  unfold watchbillref27_Take tk toC
  simp only
  by_cases h1 : (IntKind.u64.wrap b.Version != c.Next_) = true
  · rw [if_pos h1, if_pos h1]
  · rw [if_neg h1, if_neg h1]
    by_cases h2 : (!c.Begun_ && !b.Full) = true
    · rw [if_pos h2, if_pos h2]
    · rw [if_neg h2, if_neg h2]
      have := rt_l0 k c.Begun_ c.Next_ c.Rows_ b.List_ b.Version b.Full b.Rows false 0 [] hk h9 hn k 0 (by omega) (by omega) (by simp [nd])
      rw [show ((0 : Nat) : Int) = 0 from rfl] at this
      rw [this]
      by_cases h : nd b.Rows
      · simp only [h, if_true, decide_true, Bool.not_true, Bool.false_eq_true, if_false]
      · simp only [h, if_true, decide_false, Bool.not_false, if_false]
theorem tk_rows (c : T_subs_Client) (b : T_api_Body) (h : nd c.Rows_) : nd (tk c b).2.Rows_ ∧ (tk c b).2.Rows_.length ≤ c.Rows_.length + b.Rows.length := by
  unfold tk
  split
  · exact ⟨h, by simp⟩
  · split
    · exact ⟨h, by simp⟩
    · split
      · exact ⟨h, by simp⟩
      · rename_i hn
        simp at hn
        simp only
        split
        · exact ⟨hn, by omega⟩
        · exact ⟨nd_fold _ _ h, fold_len _ _⟩
theorem takes_l (k : Nat) (hk : 400000 ≤ k) (l : List T_api_Body) (hl : l.length ≤ 60) :
    ∀ (m i : Nat) (c : T_subs_Client), i ≤ l.length → l.length < i + m → nd c.Rows_ → c.Rows_.length ≤ 5000 * i → watchbilllaw27_SubsTakes.l0 k l m c.Next_ c.Begun_ (toC c).Begun (toC c).Next (toC c).Rows c.Rows_ (i : Int) = some true := by
  intro m
  induction m with
  | zero => intro i c h1 h2; omega
  | succ m ih =>
    intro i c h1 h2 h3 h4
    unfold watchbilllaw27_SubsTakes.l0
    by_cases hi : i < l.length
    · rw [if_pos (by simp; omega), if_pos (by omega)]
      obtain ⟨b, e, hb⟩ := few_eq k (rd l (i : Int)).Rows hk
      rw [e, Option.bind_some]
      cases b with
      | false => rfl
      | true =>
        have hrl := hb rfl
        rw [if_neg (by simp), if_pos (by omega), show T_subs_Client.mk c.Next_ c.Begun_ c.Rows_ = c from rfl, take_eq k hk _ _ (by omega), Option.bind_some, if_pos (by omega), show T_watchbillref27_Client.mk (toC c).Begun (toC c).Next (toC c).Rows = toC c from rfl, rtake_eq k hk c _ (by omega) h3, Option.bind_some]
        obtain ⟨g1, g2⟩ := tk_rows c (rd l (i : Int)) h3
        simp only [bne_self_eq_false, beq_self_eq_true, if_true]
        rw [crows_eq _ (by omega), Option.bind_some, rows_eq k _ _ (by omega) hk, Option.bind_some, if_neg (by simp [toC, rsE_self]), wi (by omega)]
        exact ih (i + 1) (tk c (rd l (i : Int))).2 (by omega) (by omega) g1 (by omega)
    · rw [if_neg (by simp; omega)]
theorem takes_top (k : Nat) (hk : 400000 ≤ k) (ha : watchbilllaw27_awake k = some true) (a0 : Int) (a1 : List T_api_Body) : watchbilllaw27_SubsTakes k a0 a1 = some true := by
  unfold watchbilllaw27_SubsTakes
  rw [ha]
  simp only [Option.bind_some, Bool.not_true, Bool.false_eq_true, if_false]
  by_cases h : a1.length ≤ 60
  · rw [if_neg (by simp; omega)]
    simp only [subs_NewClient, Option.bind_some]
    exact takes_l k hk a1 h k 0 ⟨IntKind.u64.wrap a0, false, []⟩ (by omega) (by omega) (by simp [nd]) (by simp)
  · rw [if_pos (by simp; omega)]
theorem SubsTakes (a0 : Int) (a1 : List T_api_Body) (_ : (Lit.int .u32 a0).wf = true) : ∃ k, watchbilllaw27_SubsTakes k a0 a1 = some true := ⟨400000, takes_top 400000 (Nat.le_refl _) awake a0 a1⟩
end Go.Proofs.Ytkmifmkdloeeeaa.Pure
