/- Proved here: each row of steps is told by just the document's bodies (SubsPlays). -/
import Derived.Test.YtkmifmkdloeeeaaPureB
import Derived.Test.YtkmifmkdloeeeaaPureW
namespace Go.Proofs.Ytkmifmkdloeeeaa.Pure
open Go Go.RowKit Go.Proofs.Vx Go.Proofs.Ytkmifmkdloeeeaa.Sh

theorem rE_comm (a b : T_api_Row) : rE a b = rE b a := by
  have h1 := rE_iff a b
  have h2 := rE_iff b a
  cases ha : rE a b <;> cases hb : rE b a <;> simp_all
theorem rgoes_l (k : Nat) (a b : List T_api_Row) (h : a.length ≤ b.length) (h9 : a.length ≤ 9000000000000) : ∀ (m i : Nat), i ≤ a.length → a.length < i + m →
    watchbillref27_goes.l0 k a b m (i : Int) = some ((a.drop i).map (·.URI) == ((b.drop i).take (a.length - i)).map (·.URI)) := by
  intro m
  induction m with
  | zero => intro i h1 h2; omega
  | succ m ih =>
    intro i h1 h2
    unfold watchbillref27_goes.l0
    by_cases hi : i < a.length
    · have e : a.length - i = (a.length - (i + 1)) + 1 := by omega
      rw [if_pos (by simp; omega), if_pos (by omega), if_pos (by omega), wi (by omega), ih (i + 1) (by omega) (by omega), rd_drop hi, rd_drop (xs := b) (i := i) (by omega), e, List.take_succ_cons, List.map_cons, List.map_cons, List.cons_beq_cons]
      cases (rd a (i : Int)).URI == (rd b (i : Int)).URI <;> simp
    · have e : a.length - i = 0 := by omega
      rw [if_neg (by simp; omega), List.drop_of_length_le (by omega), e]; rfl
theorem rgoes_eq (k : Nat) (a b : List T_api_Row) (h9 : a.length < 400000) (hk : 400000 ≤ k) : watchbillref27_goes k a b = some (goS a b) := by
  unfold watchbillref27_goes goS
  by_cases h : a.length ≤ b.length
  · rw [if_neg (by simp; omega)]
    have := rgoes_l k a b h (by omega) k 0 (by omega) (by omega)
    simp only [List.drop_zero, Nat.sub_zero] at this
    have hd : decide (a.length ≤ b.length) = true := by simpa using h
    rw [hd, Bool.true_and]
    exact this
  · rw [if_pos (by simp; omega)]
    have hd : decide (a.length ≤ b.length) = false := by simpa using h
    rw [hd]; rfl
def toR (s : T_subs_Sub) : T_watchbillref27_Sub := ⟨s.List_, s.Next_, s.Begun_, s.Rows_⟩
theorem rnext_l (k : Nat) (a b : List T_api_Row) (g : Bool) (p q : Str) (v w : Int) (z : Bool) (u0 : Str) (u1 : Int) (u2 : Bool) (u3 : List T_api_Row) (v0 : Str) (v1 : Int) (v2 : Bool) (v3 : List T_api_Row) (hb : b.length < 400000) :
    ∀ (m i : Nat) (y : List T_api_Row), i ≤ b.length → b.length < i + m → y.length ≤ i →
    watchbillref27_Next.l0 k b m p v g q w z a u0 u1 u2 u3 v0 v1 v2 v3 y (i : Int) = some (⟨q, IntKind.u32.wrap (w + 1), true, b⟩, ⟨p, v, g, y ++ (if g then b.drop i else chS (a.drop i) (b.drop i))⟩, true, 0) := by
  intro m
  induction m with
  | zero => intro i y h1 h2; omega
  | succ m ih =>
    intro i y h1 h2 h3
    unfold watchbillref27_Next.l0
    by_cases hi : i < b.length
    · rw [if_pos (by simp; omega), if_pos (fun _ => by omega), wi (by omega)]
      by_cases hj : g = true ∨ a.length ≤ i
      · have hd : (g || decide ((i : Int) ≥ (a.length : Int))) = true := by
          rcases hj with h | h
          · rw [h]; rfl
          · simp; omega
        rw [if_pos (fun h => by rw [hd] at h; cases h), hd, Bool.true_or, if_pos rfl, if_pos (by omega), if_pos (by simp; omega), ih (i + 1) _ (by omega) (by omega) (by simp; omega)]
        have : y ++ [rd b (i : Int)] ++ (if g then b.drop (i + 1) else chS (a.drop (i + 1)) (b.drop (i + 1))) = y ++ (if g then b.drop i else chS (a.drop i) (b.drop i)) := by
          cases g with
          | true => simp only [if_true]; rw [rd_drop hi]; simp
          | false =>
            have h4 : a.length ≤ i := hj.resolve_left (by decide)
            simp only [Bool.false_eq_true, if_false]
            rw [rd_drop hi, List.drop_of_length_le (l := a) (i := i + 1) (by omega), List.drop_of_length_le (l := a) (i := i) (by omega), chS_nil, chS_nil]; simp
        rw [this]
      · have hg : g = false := by cases g <;> simp_all
        have hj2 : i < a.length := by
          rcases Nat.lt_or_ge i a.length with h | h
          · exact h
          · exact absurd (.inr h) hj
        subst hg
        have hd : (false || decide ((i : Int) ≥ (a.length : Int))) = false := by simp; omega
        rw [if_pos (fun _ => by omega), hd, Bool.false_or]
        show (if (!rE (rd b (i : Int)) (rd a (i : Int))) = true then _ else _) = _
        rw [rE_comm, rd_drop hi, rd_drop hj2, chS]
        cases rE (rd a (i : Int)) (rd b (i : Int)) with
        | true => simp only [Bool.not_true, if_true, Bool.false_eq_true, if_false]; have := ih (i + 1) y (by omega) (by omega) (by omega); simpa using this
        | false =>
          simp only [Bool.not_false, if_true, Bool.false_eq_true, if_false]
          rw [if_pos (by omega), if_pos (by simp; omega), ih (i + 1) _ (by omega) (by omega) (by simp; omega)]
          simp
    · rw [if_neg (by simp; omega), if_pos (by simp; omega), List.drop_of_length_le (l := b) (by omega)]
      cases g with
      | true => simp
      | false => cases a.drop i <;> simp [chS]
def toS (t : T_watchbillref27_Sub) : T_subs_Sub := ⟨t.List_, t.Next, t.Begun, t.Rows⟩
theorem rnext_eq (k : Nat) (t : T_watchbillref27_Sub) (rows : List T_api_Row) (full : Bool) (hs : t.Rows.length < 400000) (hr : rows.length < 400000) (hk : 400000 ≤ k) :
    watchbillref27_Next k t rows full = some (toR (nx (toS t) rows full).2.2.2, (nx (toS t) rows full).1, (nx (toS t) rows full).2.1, (nx (toS t) rows full).2.2.1) := by
  unfold watchbillref27_Next
  have e1 : ((if ((t.Begun && (!full)) == true) = true then watchbillref24_Rows k t.Rows rows else some default)) = some (if (t.Begun && !full) = true then rsE t.Rows rows else default) := by
    rw [rows_eq k _ _ hs hk]; cases t.Begun && !full <;> rfl
  rw [e1, Option.bind_some]
  have e2 : (t.Begun && !full && (if (t.Begun && !full) = true then rsE t.Rows rows else default)) = ((t.Begun && !full) && rsE t.Rows rows) := by cases t.Begun && !full <;> rfl
  rw [e2]
  unfold nx
  by_cases h1 : ((t.Begun && !full) && rsE t.Rows rows) = true
  · rw [if_pos h1, if_pos (show (((toS t).Begun_ && !full) && rsE (toS t).Rows_ rows) = true from h1)]; rfl
  · rw [if_neg h1, if_neg (show ¬ (((toS t).Begun_ && !full) && rsE (toS t).Rows_ rows) = true from h1)]
    by_cases h2 : (t.Next == 4294967295) = true
    · rw [if_pos h2, if_pos (show ((toS t).Next_ == 4294967295) = true from h2)]; rfl
    · rw [if_neg h2, if_neg (show ¬ ((toS t).Next_ == 4294967295) = true from h2)]
      have e3 : ((if ((full || (!t.Begun)) == false) = true then watchbillref27_goes k t.Rows rows else some default)) = some (if ((!t.Begun) || full) = true then default else goS t.Rows rows) := by
        rw [rgoes_eq k _ _ hs hk, Bool.or_comm]; cases (!t.Begun) || full <;> rfl
      rw [e3, Option.bind_some]
      have e4 : ((full || (!t.Begun)) || !(if ((!t.Begun) || full) = true then default else goS t.Rows rows)) = nxFull (toS t) rows full := by
        unfold nxFull toS; rw [Bool.or_comm full]; cases (!t.Begun) || full <;> rfl
      rw [e4, show (0 : Int) = ((0 : Nat) : Int) from rfl, rnext_l k t.Rows rows _ _ _ _ _ _ _ _ _ _ _ _ _ _ hr k 0 [] (by omega) (by omega) (by simp)]
      simp only [List.drop_zero, List.nil_append]; rfl

theorem plays_l2 (k : Nat) (c0 : Str → Int → Bool → Str → Int → Bool → List T_api_Row → List T_api_Row → Int → Option Bool) (a2 : List T_watchbilllaw27_Step) (x : Int) (b0 : Str) (b1 : Int) (b2 : Bool) (s0 : Str) (s1 : Int) (s2 : Bool) (r0 : Str) (r1 : Int) (r2 : Bool) (r3 s3 : List T_api_Row) :
    ∀ (m i : Nat) (l : List T_api_Row), i ≤ l.length → l.length < i + m → l.length < 400000 → watchbilllaw27_SubsPlays.l2 k c0 a2 x m b0 b1 b2 s0 s1 s2 r0 r1 r2 r3 l s3 (i : Int) = c0 s0 s1 s2 r0 r1 r2 r3 s3 (IntKind.i64.wrap (x + 1)) := by
  intro m
  induction m with
  | zero => intro i l h1 h2; omega
  | succ m ih =>
    intro i l h1 h2 h9
    unfold watchbilllaw27_SubsPlays.l2
    by_cases hi : i < l.length
    · rw [if_pos (by simp; omega), if_pos (by omega), wi (by omega)]
      exact ih (i + 1) _ (by simp; omega) (by simp; omega) (by simpa using h9)
    · rw [if_neg (by simp; omega)]
theorem plays_l1 (k : Nat) (hk : 400000 ≤ k) (c0 : Str → Int → Bool → Str → Int → Bool → List T_api_Row → List T_api_Row → Int → Option Bool) (a2 : List T_watchbilllaw27_Step) (x : Int) (b0 : Str) (b1 : Int) (b2 : Bool) (s0 : Str) (s1 : Int) (s2 : Bool) (r0 : Str) (r1 : Int) (r2 : Bool) (r3 b3 s3 : List T_api_Row) (hb : b3.length < 400000) :
    ∀ (m i : Nat) (l : List T_api_Row), i ≤ l.length → l.length < i + m → l.length < 400000 → watchbilllaw27_SubsPlays.l1 k c0 a2 x m b0 b1 b2 s0 s1 s2 r0 r1 r2 r3 b3 s3 l (i : Int) = c0 s0 s1 s2 r0 r1 r2 r3 s3 (IntKind.i64.wrap (x + 1)) := by
  intro m
  induction m with
  | zero => intro i l h1 h2; omega
  | succ m ih =>
    intro i l h1 h2 h9
    unfold watchbilllaw27_SubsPlays.l1
    by_cases hi : i < l.length
    · rw [if_pos (by simp; omega), if_pos (by omega), wi (by omega)]
      exact ih (i + 1) _ (by simp; omega) (by simp; omega) (by simpa using h9)
    · rw [if_neg (by simp; omega)]
      exact plays_l2 k c0 a2 x b0 b1 b2 s0 s1 s2 r0 r1 r2 r3 s3 k 0 b3 (by omega) (by omega) hb
theorem plays_l (k : Nat) (hk : 400000 ≤ k) (l : List T_watchbilllaw27_Step) (hl : l.length ≤ 60) (hr : ∀ s ∈ l, s.Rows.length < 5000) :
    ∀ (m i : Nat) (s : T_subs_Sub), i ≤ l.length → l.length < i + m → s.Rows_.length < 5000 → watchbilllaw27_SubsPlays.l0 k l m s.List_ s.Next_ s.Begun_ s.List_ s.Next_ s.Begun_ s.Rows_ s.Rows_ (i : Int) = some true := by
  intro m
  induction m with
  | zero => intro i s h1 h2; omega
  | succ m ih =>
    intro i s h1 h2 h3
    unfold watchbilllaw27_SubsPlays.l0
    by_cases hi : i < l.length
    · have hrow : (rd l (i : Int)).Rows.length < 5000 := hr _ (by
        have : rd l (i : Int) = l[i] := by simp [rd, hi]
        rw [this]; exact List.getElem_mem hi)
      have hn := next_eq k s (rd l (i : Int)).Rows (rd l (i : Int)).Full (by omega) (by omega) hk
      have hrn := rnext_eq k (toR s) (rd l (i : Int)).Rows (rd l (i : Int)).Full (by show s.Rows_.length < 400000; omega) (by omega) hk
      have hnr := nx_rows s (rd l (i : Int)).Rows (rd l (i : Int)).Full hrow h3
      have hsm := same_self k (nx s (rd l (i : Int)).Rows (rd l (i : Int)).Full).1 hnr.1 hk
      rw [if_pos (by simp; omega), if_pos (by omega), if_pos (by simp; omega), if_pos (by omega), List.nil_append]
      rw [show (T_subs_Sub.mk s.List_ s.Next_ s.Begun_ s.Rows_) = s from rfl, hn, Option.bind_some, if_pos (by omega), if_pos (by omega)]
      rw [show (T_watchbillref27_Sub.mk s.List_ s.Next_ s.Begun_ s.Rows_) = toR s from rfl, hrn, Option.bind_some]
      rw [show toS (toR s) = s from rfl]
      generalize nx s (rd l (i : Int)).Rows (rd l (i : Int)).Full = z at *
      obtain ⟨zb, zt, ze, zs⟩ := z
      simp only at hnr hsm ⊢
      rw [show (T_api_Body.mk zb.List_ zb.Version zb.Full zb.Rows) = zb from rfl, hsm, Option.bind_some]
      simp only [subs_Sub_Version, beq_self_eq_true, Bool.not_true, Bool.false_or, bne_self_eq_false, if_true, Option.bind_some, toR, Bool.false_eq_true, if_false]
      rw [show (0 : Int) = ((0 : Nat) : Int) from rfl, plays_l1 k hk _ l _ _ _ _ _ _ _ _ _ _ _ _ _ hnr.1 k 0 (rd l (i : Int)).Rows (by omega) (by omega) (by omega), wi (by omega)]
      exact ih (i + 1) zs (by omega) (by omega) hnr.2
    · rw [if_neg (by simp; omega)]
theorem SubsPlays (a0 : Str) (a1 : Int) (a2 : List T_watchbilllaw27_Step) (_ : a0.length ≤ 140737488351232) (_ : (Lit.int .u32 a1).wf = true) : ∃ k, watchbilllaw27_SubsPlays k a0 a1 a2 = some true := by
  refine ⟨400000, ?_⟩
  unfold watchbilllaw27_SubsPlays
  rw [awake]
  simp only [Option.bind_some, Bool.not_true, Bool.false_eq_true, if_false]
  obtain ⟨b, e, hb⟩ := Few_eq 400000 (by omega) a2
  rw [e]
  simp only [Option.bind_some]
  cases b with
  | false => rfl
  | true =>
    obtain ⟨hl, hr⟩ := hb rfl
    simp only [Bool.not_true, Bool.false_eq_true, if_false, subs_New, Option.bind_some]
    exact plays_l 400000 (by omega) a2 hl hr 400000 0 ⟨a0, a1, false, []⟩ (by omega) (by omega) (by simp)
end Go.Proofs.Ytkmifmkdloeeeaa.Pure
