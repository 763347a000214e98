/- Proved here: the law QnameAdds. -/
import Derived.Test.YthiopccchgkjcaaPureR
namespace Go.Proofs.Ythiopccchgkjcaa.Pure
open Go Go.RowKit Go.Proofs.Vx Go.Proofs.Ythiopccchgkjcaa.Sh
def mayS (p q : Str) : Bool := (qname_may p q).getD false
theorem may_eq (p q : Str) : qname_may p q = some (mayS p q) := by
  unfold mayS qname_may; split
  · rfl
  split <;> rfl
theorem may_ref (p q : Str) : (((p == ([120, 109, 108, 110, 115] : Str)) || (!((p == ([120, 109, 108] : Str)) == (q == ([104, 116, 116, 112, 58, 47, 47, 119, 119, 119, 46, 119, 51, 46, 111, 114, 103, 47, 88, 77, 76, 47, 49, 57, 57, 56, 47, 110, 97, 109, 101, 115, 112, 97, 99, 101] : Str))))) || (q == ([104, 116, 116, 112, 58, 47, 47, 119, 119, 119, 46, 119, 51, 46, 111, 114, 103, 47, 50, 48, 48, 48, 47, 120, 109, 108, 110, 115, 47] : Str)) || ((q == ([] : Str)) && (!(p == ([] : Str))))) = !mayS p q := by
  unfold mayS qname_may
  by_cases h1 : p = ([120, 109, 108, 110, 115] : Str)
  · subst h1; rfl
  · have e1 : (p == ([120, 109, 108, 110, 115] : Str)) = false := by simpa using h1
    rw [e1, if_neg (by simp)]
    by_cases h2 : p = ([120, 109, 108] : Str)
    · subst h2
      rw [if_pos (by rfl)]
      by_cases h3 : q = ([104, 116, 116, 112, 58, 47, 47, 119, 119, 119, 46, 119, 51, 46, 111, 114, 103, 47, 88, 77, 76, 47, 49, 57, 57, 56, 47, 110, 97, 109, 101, 115, 112, 97, 99, 101] : Str)
      · subst h3; rfl
      · have e3 : (q == ([104, 116, 116, 112, 58, 47, 47, 119, 119, 119, 46, 119, 51, 46, 111, 114, 103, 47, 88, 77, 76, 47, 49, 57, 57, 56, 47, 110, 97, 109, 101, 115, 112, 97, 99, 101] : Str)) = false := by simpa using h3
        rw [e3]; simp
    · have e2 : (p == ([120, 109, 108] : Str)) = false := by simpa using h2
      rw [e2, if_neg (by simp)]
      simp only [Option.getD_some]
      generalize (q == ([104, 116, 116, 112, 58, 47, 47, 119, 119, 119, 46, 119, 51, 46, 111, 114, 103, 47, 88, 77, 76, 47, 49, 57, 57, 56, 47, 110, 97, 109, 101, 115, 112, 97, 99, 101] : Str)) = b1
      generalize (q == ([104, 116, 116, 112, 58, 47, 47, 119, 119, 119, 46, 119, 51, 46, 111, 114, 103, 47, 50, 48, 48, 48, 47, 120, 109, 108, 110, 115, 47] : Str)) = b2
      generalize (q == ([] : Str)) = b3
      generalize (p == ([] : Str)) = b4
      cases b1 <;> cases b2 <;> cases b3 <;> cases b4 <;> rfl
def addS (k : Nat) (sc : List T_api_Bind) (p q : Str) : List T_api_Bind × Int := if ((!(p == ([] : Str))) && (!nm k p)) = true then ([], 12) else if (!mayS p q) = true then ([], 13) else (sc ++ [T_api_Bind.mk p q], 0)
theorem addS_eq (k : Nat) (hk : 70 ≤ k) (l : List T_api_Bind) (p q : Str) (hl : l.length < 40000) (hp : p.length ≤ 9000000000000000) : qname_Add k l p q = some (addS k l p q) := by
  unfold qname_Add addS
  rw [nm_eq k hk p hp, may_eq]
  have h1 : slices_Clone_32 l = some l := by unfold slices_Clone_32; rw [if_pos (by simp; omega)]; rfl
  have h2 : slices_Clip_31 l = some l := by unfold slices_Clip_31; rw [if_pos (by omega)]; simp [sl]
  simp only [Option.bind_some, h1, h2]
  rw [if_pos (show (l.length + [T_api_Bind.mk p q].length) * 32 ≤ 140737488355328 by simp; omega)]
  cases (p == ([] : Str)) <;> cases nm k p <;> cases mayS p q <;> rfl
theorem raddS_eq (k : Nat) (hk : 70 ≤ k) (l : List T_api_Bind) (p q : Str) (hl : l.length < 40000) (hp : p.length ≤ 9000000000000000) : watchbillref02_Add k l p q = some (addS k l p q) := by
  unfold watchbillref02_Add addS
  rw [rename_eq k hk p hp, nm_eq k hk p hp, may_ref, if_pos (show (([] : List T_api_Bind).length + l.length) * 32 ≤ 140737488355328 by simp; omega), if_pos (show ((([] : List T_api_Bind) ++ l).length + ([(T_api_Bind.mk p q)] : List T_api_Bind).length) * 32 ≤ 140737488355328 by simp; omega)]
  cases (p == ([] : Str)) <;> cases nm k p <;> cases mayS p q <;> rfl
theorem binds_same (k : Nat) (l : List T_api_Bind) (h9 : l.length ≤ 90000) (hk : l.length < k) : watchbillref02_Binds k l l = some true := by
  have go : ∀ (m i : Nat), i ≤ l.length → l.length < i + m → watchbillref02_Binds.l0 k l l m (i : Int) = some true := by
    intro m
    induction m with
    | zero => intro i h1 h2; omega
    | succ m ih =>
      intro i h1 h2
      unfold watchbillref02_Binds.l0
      by_cases hi : i < l.length
      · rw [if_pos (by simp; omega), if_pos (by omega), if_pos (by omega), if_neg (by simp), w64 (by omega) (by omega)]
        exact ih (i + 1) (by omega) (by omega)
      · rw [if_neg (by simp; omega)]
  unfold watchbillref02_Binds
  rw [if_neg (by simp)]
  exact go k 0 (by omega) (by omega)
theorem few_all (l : List T_api_Bind) : ∃ b, watchbilllaw02_Few 9000 l = some b ∧ (b = true → l.length < 3000) := by
  by_cases hl : l.length < 3000
  · obtain ⟨b, hb, _⟩ := few_eq 9000 (by omega) l (by omega); exact ⟨b, hb, fun _ => hl⟩
  · exact ⟨false, few_long 9000 (by omega) l (by omega), fun h => by cases h⟩
theorem QnameAdds (a0 : List T_api_Bind) (a1 a2 a3 : Str) (w1 : a1.length ≤ 140737488351232) (w2 : a2.length ≤ 140737488351232) (w3 : a3.length ≤ 140737488351232) : ∃ k, watchbilllaw02_QnameAdds k a0 a1 a2 a3 = some true := by
  refine ⟨9000, ?_⟩
  obtain ⟨b, hb, hbl⟩ := few_all a0
  unfold watchbilllaw02_QnameAdds
  rw [awake, Option.bind_some, if_neg (by decide), hb, Option.bind_some]
  split
  · rfl
  · rename_i hg
    simp only [Bool.or_eq_true, Bool.not_eq_true', decide_eq_true_eq, not_or, Bool.not_eq_false] at hg
    obtain ⟨⟨⟨h0, h1⟩, h2⟩, h3⟩ := hg
    have hl := hbl h0
    have hw : IntKind.i64.wrap ((a0.length : Int) + 2) = (a0.length : Int) + 2 := w64 (by omega) (by omega)
    have hn : Int.toNat ((a0.length : Int) + 2) - a0.length = 2 := by omega
    rw [hw, hn, if_pos (by omega), addS_eq 9000 (by omega) a0 a1 a2 (by omega) (by omega), raddS_eq 9000 (by omega) a0 a1 a2 (by omega) (by omega), Option.bind_some, Option.bind_some]
    have hal : (addS 9000 a0 a1 a2).1.length ≤ a0.length + 1 := by
      unfold addS; split
      · simp
      · split <;> simp
    rw [binds_same 9000 _ (by omega) (by omega), Option.bind_some]
    have hne : ((addS 9000 a0 a1 a2).2 != (addS 9000 a0 a1 a2).2) = false := by simp
    rw [hne, binds_same 9000 a0 (by omega) (by omega)]
    have hrd : rd (a0 ++ List.replicate 2 (T_api_Bind.mk ([] : Str) ([] : Str))) (a0.length : Int) = T_api_Bind.mk [] [] := by
      unfold rd
      rw [Int.toNat_natCast, List.getD_eq_getElem?_getD, List.getElem?_append_right (Nat.le_refl _), Nat.sub_self]; rfl
    have hlen : ((a0 ++ List.replicate 2 (T_api_Bind.mk ([] : Str) ([] : Str))).length : Int) = (a0.length : Int) + 2 := by simp
    rw [if_pos (by decide), Option.bind_some, if_pos (fun _ => ⟨by omega, by rw [hlen]; omega⟩), hrd, if_neg (by decide), find_eq 9000 a0 a3 (by omega) (by omega), rfind_eq 9000 a0 a3 (by omega) (by omega)]
    simp
end Go.Proofs.Ythiopccchgkjcaa.Pure
