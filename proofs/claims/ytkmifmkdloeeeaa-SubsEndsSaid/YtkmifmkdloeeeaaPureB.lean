/- Proved here: at the last version nothing is told any more; a copy goes its own way. -/
import Derived.Test.YtkmifmkdloeeeaaPureA
namespace Go.Proofs.Ytkmifmkdloeeeaa.Pure
open Go Go.RowKit Go.Proofs.Vx Go.Proofs.Ytkmifmkdloeeeaa.Sh

theorem rsE_self (l : List T_api_Row) : rsE l l = true := (rsE_iff l l).2 rfl
theorem copy_eq (s : T_subs_Sub) (h : s.Rows_.length < 400000) : subs_Sub_Copy s = some (s, s) := by
  unfold subs_Sub_Copy; rw [clone_eq _ h]; rfl
theorem same_self (k : Nat) (b : T_api_Body) (h : b.Rows.length < 400000) (hk : 400000 ≤ k) : watchbillref26_Same k b b = some true := by
  unfold watchbillref26_Same
  simp only [beq_self_eq_true, Bool.and_self, if_true, rows_eq k _ _ h hk, Option.bind_some, rsE_self]
theorem nx_rows (s : T_subs_Sub) (rows : List T_api_Row) (full : Bool) (hr : rows.length < 5000) (hs : s.Rows_.length < 5000) : (nx s rows full).1.Rows.length < 400000 ∧ (nx s rows full).2.2.2.Rows_.length < 5000 := by
  unfold nx
  split
  · exact ⟨by simp, hs⟩
  · split
    · exact ⟨by simp, hs⟩
    · refine ⟨?_, hr⟩
      have := chS_len s.Rows_ rows
      simp only
      split <;> omega
theorem ends_l (k : Nat) (hk : 400000 ≤ k) (a1 : Int) (l : List T_watchbilllaw27_Step) (n : Nat) (hn : n < 8) (h1 : a1.tmod 8 = (n : Int)) (hl : l.length ≤ 60) (hr : ∀ s ∈ l, s.Rows.length < 5000) :
    ∀ (m i c : Nat) (s : T_subs_Sub), i ≤ l.length → l.length < i + m → c ≤ n → s.Next_ = 4294967295 - (n : Int) + c → s.Rows_.length < 5000 → watchbilllaw27_SubsEnds.l0 k a1 l m s.List_ s.Next_ s.Begun_ s.Rows_ (c : Int) (i : Int) = some true := by
  intro m
  induction m with
  | zero => intro i c s h1 h2; omega
  | succ m ih =>
    intro i c s h2 h3 h4 h5 h6
    unfold watchbilllaw27_SubsEnds.l0
    by_cases hi : i < l.length
    · have hmem : rd l (i : Int) ∈ l := by simp [rd, hi]
      have hrl := hr _ hmem
      rw [if_pos (by simp; omega), copy_eq _ (by simp; omega)]
      simp only [Option.bind_some]
      rw [if_pos (by omega), if_pos (by omega), show T_subs_Sub.mk s.List_ s.Next_ s.Begun_ s.Rows_ = s from rfl, next_eq k _ _ _ (by omega) (by omega) hk]
      simp only [Option.bind_some]
      rw [if_pos (by omega), if_pos (by omega)]
      have hb := nx_rows s (rd l (i : Int)).Rows (rd l (i : Int)).Full hrl h6
      rw [same_self k _ hb.1 hk]
      simp only [Option.bind_some, beq_self_eq_true, Bool.not_true, Bool.false_or, bne_self_eq_false, Bool.false_eq_true, if_false]
      have e8 : IntKind.i64.wrap (a1.tmod 8) = (n : Int) := by rw [h1, w64 (by omega) (by omega)]
      have go : ∀ c' : Nat, c' ≤ n → (nx s (rd l (i : Int)).Rows (rd l (i : Int)).Full).2.2.2.Next_ = 4294967295 - (n : Int) + c' → ((nx s (rd l (i : Int)).Rows (rd l (i : Int)).Full).2.1 = true → (nx s (rd l (i : Int)).Rows (rd l (i : Int)).Full).2.2.1 = 0) → ((nx s (rd l (i : Int)).Rows (rd l (i : Int)).Full).2.2.1 ≠ 0 → c' = n) →
          watchbilllaw27_SubsEnds.j1 (watchbilllaw27_SubsEnds.l0 k a1 l m) a1 l (i : Int) (nx s (rd l (i : Int)).Rows (rd l (i : Int)).Full) (c' : Int) = some true := by
        intro c' hc' hx ht he
        unfold watchbilllaw27_SubsEnds.j1
        rw [e8, if_neg, wi (by omega)]
        · exact ih (i + 1) c' _ (by omega) (by omega) hc' hx hb.2
        · intro h
          simp only [Bool.or_eq_true, Bool.and_eq_true, beq_iff_eq, decide_eq_true_eq, bne_iff_ne] at h
          rcases h with ((⟨h7, h8⟩ | h7) | ⟨h7, h8⟩)
          · rw [h8] at h7
            have := ht h8
            rw [this] at h7
            exact absurd h7 (by decide)
          · omega
          · exact h8 (by rw [he h7])
      have hc0 : IntKind.i64.wrap ((c : Int) + 1) = ((c + 1 : Nat) : Int) := wi (by omega)
      rw [hc0]
      generalize hN : nx s (rd l (i : Int)).Rows (rd l (i : Int)).Full = N at go hb
      unfold nx at hN
      split at hN
      · subst hN; exact go c h4 h5 (fun h => by cases h) (fun h => absurd rfl h)
      · split at hN
        · rename_i h7
          simp only [beq_iff_eq] at h7
          subst hN; exact go c h4 h5 (fun h => by cases h) (fun _ => by omega)
        · rename_i h7
          simp only [beq_iff_eq] at h7
          have hw : IntKind.u32.wrap (s.Next_ + 1) = s.Next_ + 1 := by
            show (s.Next_ + 1) % 4294967296 = _
            omega
          subst hN
          refine go (c + 1) (by omega) ?_ (fun _ => rfl) (fun h => absurd rfl h)
          simp only [hw]; omega
    · rw [if_neg (by simp; omega)]
theorem SubsEnds (a0 : Str) (a1 : Int) (a2 : List T_watchbilllaw27_Step) (_ : a0.length ≤ 140737488351232) (w1 : (Lit.int .u8 a1).wf = true) : ∃ k, watchbilllaw27_SubsEnds k a0 a1 a2 = some true := by
  refine ⟨400000, ?_⟩
  have h1 := wf8 w1
  unfold watchbilllaw27_SubsEnds
  rw [awake]
  simp only [Option.bind_some, Bool.not_true, Bool.false_eq_true, if_false]
  obtain ⟨b, e, hb⟩ := Few_eq 400000 (by omega) a2
  rw [e]
  simp only [Option.bind_some]
  cases b with
  | false => rfl
  | true =>
    obtain ⟨hl, hr⟩ := hb rfl
    simp only [Bool.not_true, Bool.false_eq_true, if_false, subs_New, Option.bind_some]
    obtain ⟨n, hn⟩ : ∃ n : Nat, a1.tmod 8 = (n : Int) ∧ n < 8 := by
      rw [Int.tmod_eq_emod_of_nonneg h1.1]
      exact ⟨(a1 % 8).toNat, by omega, by omega⟩
    have e1 : IntKind.u32.wrap (4294967295 - IntKind.u32.wrap (a1.tmod 8)) = 4294967295 - (n : Int) := by
      rw [hn.1]
      show (4294967295 - ((n : Int) % 4294967296)) % 4294967296 = _
      omega
    rw [e1]
    exact ends_l 400000 (by omega) a1 a2 n hn.2 hn.1 hl hr 400000 0 0 ⟨a0, 4294967295 - (n : Int), false, []⟩ (by omega) (by omega) (by omega) (by simp) (by simp)
end Go.Proofs.Ytkmifmkdloeeeaa.Pure
