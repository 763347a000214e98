/- Proved here: what a client takes, and that it is what the document says; a client that takes all knows just the last rows. -/
import Derived.Test.YtkmifmkdloeeeaaPureC
namespace Go.Proofs.Ytkmifmkdloeeeaa.Pure
open Go Go.RowKit Go.Proofs.Vx Go.Proofs.Ytkmifmkdloeeeaa.Sh

/-! ### The place of a URI -/
def idxU : List T_api_Row → Str → Option Nat
  | [], _ => none
  | r :: l, u => if (r.URI == u) = true then some 0 else (idxU l u).map (· + 1)
def up1 : List T_api_Row → T_api_Row → List T_api_Row
  | [], x => [x]
  | r :: l, x => if (r.URI == x.URI) = true then x :: l else r :: up1 l x
theorem up1_idx : ∀ (l : List T_api_Row) (x : T_api_Row), up1 l x = match idxU l x.URI with | some j => l.set j x | none => l ++ [x]
  | [], _ => rfl
  | r :: l, x => by
    rw [up1, idxU]
    split
    · rfl
    · rw [up1_idx l x]
      cases idxU l x.URI <;> rfl
theorem idxU_lt : ∀ {l : List T_api_Row} {u : Str} {j : Nat}, idxU l u = some j → j < l.length
  | [], _, _, h => by cases h
  | r :: l, u, j, h => by
    rw [idxU] at h
    split at h
    · cases h; simp
    · rw [Option.map_eq_some_iff] at h
      obtain ⟨i, h, rfl⟩ := h
      have := idxU_lt h
      simp; omega
theorem idxU_none : ∀ {l : List T_api_Row} {u : Str}, (∀ r ∈ l, r.URI ≠ u) → idxU l u = none
  | [], _, _ => rfl
  | r :: l, u, h => by
    rw [idxU, if_neg (by simpa using h r (by simp)), idxU_none fun r hr => h r (by simp [hr])]; rfl
theorem idxU_ne : ∀ {l : List T_api_Row} {u : Str}, idxU l u = none → ∀ r ∈ l, r.URI ≠ u
  | [], _, _ => by simp
  | r :: l, u, h => by
    rw [idxU] at h
    split at h
    · cases h
    · rename_i he
      rw [Option.map_eq_none_iff] at h
      intro q hq
      rcases List.mem_cons.1 hq with rfl | hq
      · simpa using he
      · exact idxU_ne h q hq
theorem up1_pre : ∀ (p l : List T_api_Row) (x : T_api_Row), (∀ r ∈ p, r.URI ≠ x.URI) → up1 (p ++ l) x = p ++ up1 l x
  | [], _, _, _ => rfl
  | r :: p, l, x, h => by
    rw [List.cons_append, up1, if_neg (by simpa using h r (by simp)), up1_pre p l x fun r hr => h r (by simp [hr])]; rfl
theorem up1_len (l : List T_api_Row) (x : T_api_Row) : (up1 l x).length ≤ l.length + 1 := by
  rw [up1_idx]; split <;> simp
theorem up1_uris (l : List T_api_Row) (x : T_api_Row) : (up1 l x).map (·.URI) = if idxU l x.URI = none then l.map (·.URI) ++ [x.URI] else l.map (·.URI) := by
  induction l with
  | nil => rfl
  | cons r l ih =>
    rw [up1, idxU]
    by_cases h : (r.URI == x.URI) = true
    · rw [if_pos h, if_pos h, if_neg (by simp)]; simp [← eq_of_beq h]
    · rw [if_neg h, if_neg h, List.map_cons, ih]
      cases idxU l x.URI <;> simp
theorem nd_up1 {l : List T_api_Row} (h : nd l) (x : T_api_Row) : nd (up1 l x) := by
  unfold nd at *
  rw [up1_uris]
  split
  · rename_i hn
    rw [List.nodup_append]
    refine ⟨h, by simp, fun a ha b hb => ?_⟩
    rw [List.mem_singleton] at hb
    subst hb
    obtain ⟨r, hr, rfl⟩ := List.mem_map.1 ha
    exact idxU_ne hn r hr
  · exact h
theorem fold_len : ∀ (ch l : List T_api_Row), (ch.foldl up1 l).length ≤ l.length + ch.length
  | [], l => by simp
  | x :: ch, l => by
    have h1 := fold_len ch (up1 l x)
    have h2 := up1_len l x
    simp only [List.foldl_cons, List.length_cons]; omega
theorem nd_fold : ∀ (ch l : List T_api_Row), nd l → nd (ch.foldl up1 l)
  | [], _, h => h
  | x :: ch, _, h => nd_fold ch _ (nd_up1 h x)
theorem fold_ch : ∀ (old rows p : List T_api_Row), old.length ≤ rows.length → old.map (·.URI) = (rows.take old.length).map (·.URI) → nd (p ++ rows) → (chS old rows).foldl up1 (p ++ old) = p ++ rows
  | [], [], p, _, _, _ => by simp [chS]
  | _ :: _, [], _, h, _, _ => by simp at h
  | [], x :: l, p, _, _, h => by
    have hp : ∀ r ∈ p, r.URI ≠ x.URI := by
      intro r hr he
      unfold nd at h
      rw [List.map_append, List.nodup_append] at h
      exact h.2.2 r.URI (List.mem_map_of_mem hr) x.URI (by simp) he
    rw [chS, List.foldl_cons, up1_pre p [] x hp]
    have := fold_ch [] l (p ++ [x]) (by simp) (by simp) (by simpa using h)
    simpa [up1] using this
  | o :: old, x :: l, p, h1, h2, h => by
    have hp : ∀ r ∈ p, r.URI ≠ x.URI := by
      intro r hr he
      unfold nd at h
      rw [List.map_append, List.nodup_append] at h
      exact h.2.2 r.URI (List.mem_map_of_mem hr) x.URI (by simp) he
    simp only [List.map_cons, List.length_cons, List.take_succ_cons, List.cons.injEq] at h2
    have ih := fold_ch old l (p ++ [x]) (by simpa using h1) h2.2 (by simpa using h)
    rw [chS]
    by_cases he : rE o x = true
    · rw [if_pos he, (rE_iff o x).1 he]; simpa using ih
    · rw [if_neg he, List.foldl_cons, up1_pre p (o :: old) x hp, up1, if_pos (by simp [h2.1])]; simpa using ih
theorem fold_nil (l : List T_api_Row) (h : nd l) : l.foldl up1 [] = l := by
  have := fold_ch [] l [] (by simp) (by simp) (by simpa using h)
  simpa [chS_nil] using this

/-! ### Twice, by a map -/
theorem lkm_upm {α β : Type} {keq : α → α → Bool} (hq : ∀ a b, keq a b = true ↔ a = b) (z : β) (m : List (α × β)) (k : α) (v : β) (n : α) : lkm keq z (upm keq m k v) n = if keq n k = true then v else lkm keq z m n := by
  induction m with
  | nil => simp [upm, lkm]
  | cons p m ih =>
    simp only [upm]
    by_cases h : keq k p.1 = true
    · rw [if_pos h]
      have e := (hq _ _).1 h
      subst e
      simp only [lkm]
      split <;> rfl
    · rw [if_neg h]
      simp only [lkm, ih]
      by_cases h2 : keq n p.1 = true
      · rw [if_pos h2, if_pos h2]
        by_cases h3 : keq n k = true
        · have e1 := (hq _ _).1 h2
          have e2 := (hq _ _).1 h3
          exfalso; apply h; rw [hq]; rw [← e1, ← e2]
        · rw [if_neg h3]
      · rw [if_neg h2, if_neg h2]
theorem keq9_iff (a b : Str) : keq9 a b = true ↔ a = b := by unfold keq9; simp
theorem take_succ_uri {l : List T_api_Row} {i : Nat} (h : i < l.length) : (l.take (i + 1)).map (·.URI) = (l.take i).map (·.URI) ++ [(rd l (i : Int)).URI] := by
  rw [List.take_succ_eq_append_getElem h, List.map_append]
  simp [rd, h]
theorem nd_take_succ {l : List T_api_Row} {i : Nat} (h : i < l.length) (hn : nd (l.take i)) : nd (l.take (i + 1)) ↔ (rd l (i : Int)).URI ∉ (l.take i).map (·.URI) := by
  unfold nd at *
  rw [take_succ_uri h, List.nodup_append]
  constructor
  · intro h1 h2; exact h1.2.2 _ h2 _ (by simp) rfl
  · intro h1
    refine ⟨hn, by simp, fun a ha b hb => ?_⟩
    rw [List.mem_singleton] at hb
    subst hb
    intro e; subst e; exact h1 ha
theorem nd_take {l : List T_api_Row} (h : nd l) (i : Nat) : nd (l.take i) := by
  unfold nd at *
  rw [List.map_take]
  exact h.sublist (List.take_sublist _ _)
instance (l : List T_api_Row) : Decidable (nd l) := by unfold nd; infer_instance
theorem stwice_l (k : Nat) (l : List T_api_Row) (h9 : l.length < 400000) : ∀ (m i : Nat) (M : List (Str × Bool)), i ≤ l.length → l.length < i + m → (∀ u, lkm keq9 false M u = decide (u ∈ (l.take i).map (·.URI))) → nd (l.take i) → subs_twice.l0 k l m M (i : Int) = some (!decide (nd l)) := by
  intro m
  induction m with
  | zero => intro i M h1 h2; omega
  | succ m ih =>
    intro i M h1 h2 hM hn
    unfold subs_twice.l0
    by_cases hi : i < l.length
    · rw [if_pos (by simp; omega), if_pos (by omega), hM, wi (by omega)]
      by_cases hm : (rd l (i : Int)).URI ∈ (l.take i).map (·.URI)
      · rw [if_pos (by simpa using hm)]
        have : ¬ nd l := fun h => (nd_take_succ hi hn).1 (nd_take h (i + 1)) hm
        simp [this]
      · rw [if_neg (by simpa using hm)]
        refine ih (i + 1) _ (by omega) (by omega) (fun u => ?_) ((nd_take_succ hi hn).2 hm)
        rw [lkm_upm keq9_iff, hM, take_succ_uri hi]
        by_cases hu : u = (rd l (i : Int)).URI
        · rw [if_pos ((keq9_iff _ _).2 hu)]; simp [hu]
        · rw [if_neg fun h => hu ((keq9_iff _ _).1 h)]
          simp [hu]
    · rw [if_neg (by simp; omega)]
      rw [List.take_of_length_le (by omega)] at hn
      simp [hn]
theorem stwice_eq (k : Nat) (l : List T_api_Row) (h9 : l.length < 400000) (hk : 400000 ≤ k) : subs_twice k l = some (!decide (nd l)) := by
  have := stwice_l k l h9 k 0 [] (by omega) (by omega) (fun u => by simp [lkm]) (by simp [nd])
  simpa [subs_twice] using this

/-! ### A client takes -/
theorem idx_l (k : Nat) (l : List T_api_Row) (u n : Str) (s : Int) (b : Str) (h9 : l.length < 400000) : ∀ (m i : Nat), i ≤ l.length → l.length < i + m → slices_IndexFunc_29.l0 k l u n s b m (i : Int) = some (match idxU (l.drop i) u with | some j => ((i + j : Nat) : Int) | none => -1) := by
  intro m
  induction m with
  | zero => intro i h1 h2; omega
  | succ m ih =>
    intro i h1 h2
    unfold slices_IndexFunc_29.l0
    by_cases hi : i < l.length
    · rw [if_pos (by simp; omega), if_pos (by omega), wi (by omega), ih (i + 1) (by omega) (by omega), rd_drop hi, idxU, subs_Client_Take_1, Option.bind_some]
      by_cases h : ((rd l (i : Int)).URI == u) = true
      · rw [if_pos h, if_pos h]; rfl
      · rw [if_neg h, if_neg h]
        cases idxU (l.drop (i + 1)) u with
        | none => rfl
        | some j =>
          show some (((i + 1 + j : Nat)) : Int) = some (((i + (j + 1) : Nat)) : Int)
          rw [show i + 1 + j = i + (j + 1) by omega]
    · rw [if_neg (by simp; omega), List.drop_of_length_le (by omega)]; rfl
theorem idx_eq (k : Nat) (l : List T_api_Row) (u n : Str) (s : Int) (b : Str) (h9 : l.length < 400000) (hk : 400000 ≤ k) : slices_IndexFunc_29 k l u n s b = some (match idxU l u with | some j => (j : Int) | none => -1) := by
  have := idx_l k l u n s b h9 k 0 (by omega) (by omega)
  simpa [slices_IndexFunc_29] using this
theorem take_l (k : Nat) (hk : 400000 ≤ k) (b : T_api_Body) (z : Int) (g : Bool) (hb : b.Rows.length < 400000) : ∀ (m i : Nat) (y : List T_api_Row), i ≤ b.Rows.length → b.Rows.length < i + m → y.length + (b.Rows.length - i) < 400000 → subs_Client_Take.l0 k b m z g y (i : Int) = some (0, ⟨z, g, (b.Rows.drop i).foldl up1 y⟩) := by
  intro m
  induction m with
  | zero => intro i y h1 h2; omega
  | succ m ih =>
    intro i y h1 h2 h3
    unfold subs_Client_Take.l0
    by_cases hi : i < b.Rows.length
    · rw [if_pos (by simp; omega), if_pos (by omega), idx_eq k y _ _ _ _ (by omega) hk, Option.bind_some, wi (by omega), rd_drop hi, List.foldl_cons, up1_idx]
      cases hx : idxU y (rd b.Rows (i : Int)).URI with
      | none =>
        simp only
        rw [if_pos (by simp), if_pos (by simp; omega)]
        exact ih (i + 1) _ (by omega) (by omega) (by simp; omega)
      | some j =>
        have := idxU_lt hx
        simp only
        rw [if_neg (by simp), if_pos (by omega)]
        exact ih (i + 1) _ (by omega) (by omega) (by simp; omega)
    · rw [if_neg (by simp; omega), List.drop_of_length_le (by omega)]; rfl
def tk (c : T_subs_Client) (b : T_api_Body) : Int × T_subs_Client :=
  if ((IntKind.u64.wrap b.Version) != c.Next_) = true then (49, c) else if ((!c.Begun_) && (!b.Full)) = true then (8, c) else if (!decide (nd b.Rows)) = true then (35, c)
  else (0, ⟨IntKind.u64.wrap (c.Next_ + 1), true, if b.Full = true then b.Rows else b.Rows.foldl up1 c.Rows_⟩)
theorem take_eq (k : Nat) (hk : 400000 ≤ k) (c : T_subs_Client) (b : T_api_Body) (h : c.Rows_.length + b.Rows.length < 400000) : subs_Client_Take k c b = some (tk c b) := by
  unfold subs_Client_Take tk
  split
  · rfl
  · split
    · rfl
    · rw [stwice_eq k _ (by omega) hk, Option.bind_some]
      split
      · rfl
      · cases hf : b.Full with
        | true => rw [if_pos rfl, clone_o _ (by omega)]; rfl
        | false =>
          have := take_l k hk b (IntKind.u64.wrap (c.Next_ + 1)) true (by omega) k 0 c.Rows_ (by omega) (by omega) (by omega)
          simpa using this
theorem crows_eq (c : T_subs_Client) (h : c.Rows_.length < 400000) : subs_Client_Rows_o c = some c.Rows_ := by
  unfold subs_Client_Rows_o; rw [clone_o _ h]; rfl

/-! ### A client that takes all -/
theorem ch_sub : ∀ (old rows : List T_api_Row), (chS old rows).Sublist rows
  | _, [] => by simp [chS]
  | [], x :: l => by rw [chS_nil]; exact .refl _
  | o :: old, x :: l => by
    rw [chS]; split
    · exact (ch_sub old l).cons _
    · exact (ch_sub old l).cons_cons _
theorem nd_ch {old rows : List T_api_Row} (h : nd rows) : nd (chS old rows) := by
  unfold nd at *
  exact h.sublist ((ch_sub old rows).map _)
theorem fold_l (k : Nat) (hk : 400000 ≤ k) (a0 : Str) (l : List T_watchbilllaw27_Step) (hl : l.length ≤ 60) (hr : ∀ s ∈ l, s.Rows.length < 5000) :
    ∀ (m i : Nat) (n : Int) (g : Bool) (rs : List T_api_Row), i ≤ l.length → l.length < i + m → 0 ≤ n → n ≤ 4294967295 → rs.length < 5000 → watchbilllaw27_SubsFold.l0 k a0 l m a0 n g rs n g rs (i : Int) n = some true := by
  intro m
  induction m with
  | zero => intro i n g rs h1 h2; omega
  | succ m ih =>
    intro i n g rs h1 h2 h3 h4 h6
    unfold watchbilllaw27_SubsFold.l0
    by_cases hi : i < l.length
    · have hmem : rd l (i : Int) ∈ l := by simp [rd, hi]
      have hrl := hr _ hmem
      generalize hst : rd l (i : Int) = st at hmem hrl
      rw [if_pos (by simp; omega), if_pos (by omega)]
      obtain ⟨b, e, hb⟩ := twice_eq k hk st.Rows (by omega)
      rw [e, Option.bind_some]
      cases b with
      | true => rfl
      | false =>
        have hnd := hb rfl
        rw [if_neg (by simp), if_pos (by omega), if_pos (by omega), next_eq k _ _ _ (by simp; omega) (by omega) hk]
        simp only [Option.bind_some]
        have hw : IntKind.u32.wrap n = n := by
          show n % 4294967296 = _
          omega
        have hw64 : IntKind.u64.wrap n = n := by
          show n % 18446744073709551616 = _
          omega
        have hw65 : IntKind.u64.wrap (n + 1) = n + 1 := by
          show (n + 1) % 18446744073709551616 = _
          omega
        have last : ∀ (t33 : T_api_Body × Bool × Int × T_subs_Sub) (n' : Int) (g' : Bool), t33.2.2.2 = ⟨a0, n', g', st.Rows⟩ → 0 ≤ n' → n' ≤ 4294967295 → watchbilllaw27_SubsFold.j1 k (watchbilllaw27_SubsFold.l0 k a0 l m) a0 l (i : Int) t33 n' n' g' st.Rows = some true := by
          intro t33 n' g' ht g1 g2
          unfold watchbilllaw27_SubsFold.j1
          rw [crows_eq _ (by simp; omega)]
          simp only [Option.bind_some, hst]
          rw [if_pos (by omega), rows_eq k _ _ (by omega) hk]
          simp only [Option.bind_some, rsE_self, Bool.not_true, Bool.false_eq_true, if_false, ht]
          rw [wi (by omega)]
          exact ih (i + 1) n' g' st.Rows (by omega) (by omega) g1 g2 hrl
        unfold nx
        by_cases hq : (((T_subs_Sub.mk a0 n g rs).Begun_ && !st.Full) && rsE (T_subs_Sub.mk a0 n g rs).Rows_ st.Rows) = true
        · rw [if_pos hq]
          simp only [Bool.and_eq_true] at hq
          have hsame : rs = st.Rows := (rsE_iff _ _).1 hq.2
          subst hsame
          exact last _ n g rfl h3 h4
        · rw [if_neg hq]
          by_cases hm : ((T_subs_Sub.mk a0 n g rs).Next_ == 4294967295) = true
          · rw [if_pos hm]
            simp only at hm
            have hm' := eq_of_beq hm
            subst hm'
            rfl
          · rw [if_neg hm]
            simp only [beq_iff_eq] at hm
            have hw32 : IntKind.u32.wrap (n + 1) = n + 1 := by
              show (n + 1) % 4294967296 = _
              omega
            simp only [bne_self_eq_false, Bool.false_eq_true, if_false, if_true, hw64, beq_self_eq_true, Bool.not_true, Bool.or_self]
            rw [take_eq k hk _ _ (by
              have := chS_len rs st.Rows
              simp only
              split <;> omega)]
            simp only [Option.bind_some]
            have ht : tk ⟨n, g, rs⟩ ⟨a0, n, nxFull ⟨a0, n, g, rs⟩ st.Rows st.Full, if nxFull ⟨a0, n, g, rs⟩ st.Rows st.Full = true then st.Rows else chS rs st.Rows⟩ = (0, ⟨n + 1, true, st.Rows⟩) := by
              unfold tk
              simp only [hw64, hw65]
              rw [if_neg (by simp)]
              cases hf : nxFull ⟨a0, n, g, rs⟩ st.Rows st.Full with
              | true =>
                rw [if_neg (by simp)]
                simp [hnd]
              | false =>
                unfold nxFull at hf
                simp only [Bool.or_eq_false_iff, Bool.not_eq_false'] at hf
                obtain ⟨⟨f1, f2⟩, f3⟩ := hf
                have hgo := f3
                unfold goS at hgo
                simp only [Bool.and_eq_true, decide_eq_true_eq, beq_iff_eq] at hgo
                have := fold_ch rs st.Rows [] hgo.1 hgo.2 (by simpa using hnd)
                simp only [List.nil_append] at this
                rw [if_neg (by simp [f1])]
                simp [nd_ch hnd, this]
            rw [ht]
            simp only [bne_self_eq_false, Bool.false_eq_true, if_false, hw65]
            exact last _ (n + 1) true (by simp only [hw32]) (by omega) (by omega)
    · rw [if_neg (by simp; omega)]
theorem SubsFold (a0 : Str) (a1 : Int) (a2 : List T_watchbilllaw27_Step) (_ : a0.length ≤ 140737488351232) (w1 : (Lit.int .u32 a1).wf = true) : ∃ k, watchbilllaw27_SubsFold k a0 a1 a2 = some true := by
  refine ⟨400000, ?_⟩
  have h1 : 0 ≤ a1 ∧ a1 ≤ 4294967295 := by
    simpa [Lit.wf, IntKind.min, IntKind.max, IntKind.bits, IntKind.signed] using w1
  unfold watchbilllaw27_SubsFold
  rw [awake]
  simp only [Option.bind_some, Bool.not_true, Bool.false_eq_true, if_false]
  obtain ⟨b, e, hb⟩ := Few_eq 400000 (by omega) a2
  rw [e]
  simp only [Option.bind_some]
  cases b with
  | false => rfl
  | true =>
    obtain ⟨hl, hr⟩ := hb rfl
    have hw64 : IntKind.u64.wrap a1 = a1 := by
      show a1 % 18446744073709551616 = _
      omega
    simp only [Bool.not_true, Bool.false_eq_true, if_false, subs_New, subs_NewClient, Option.bind_some, hw64]
    exact fold_l 400000 (by omega) a0 a2 hl hr 400000 0 a1 false [] (by omega) (by omega) h1.1 h1.2 (by simp)
end Go.Proofs.Ytkmifmkdloeeeaa.Pure
