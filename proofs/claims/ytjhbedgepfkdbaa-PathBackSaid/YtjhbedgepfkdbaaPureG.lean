/- Proved here: PathBack. -/
import Derived.Test.YtjhbedgepfkdbaaPureF
namespace Go.Proofs.Ytjhbedgepfkdbaa.Pure
open Go Go.RowKit Go.Proofs.Vx Go.Proofs.Ytjhbedgepfkdbaa.Sh
theorem teq1 (k : Nat) (hk : 9000000000 ≤ k) (n : T_api_Node) (hw : wt n ≤ 1000000000) : watchbillref04_Equal k n n = some true := teq_eq _ k n (Nat.le_refl _) hw (by omega)
theorem j0_eq (k : Nat) (hk : 9000000000 ≤ k) (n x : T_api_Node) (a : T_api_Attr) (p : List Int) (hw : wt n ≤ 30000) (hx : wt x ≤ 30000) (h9 : p.length ≤ 1000) (hR : RtN n) (hx1 : x.Kind = 1) :
    watchbilllaw06_PathBack.j0 k n x a p = some true := by
  unfold watchbilllaw06_PathBack.j0
  rw [at_eq k (by omega) p (by omega) n (by omega), Option.bind_some]
  by_cases hv : valid p n
  · rw [atS_T p n hv]
    have hwo : wt (atN p n) ≤ 30000 := Nat.le_trans (atN_wt p n hv) hw
    by_cases ho : (atN p n).Kind = 1
    · obtain ⟨e1, e2⟩ := replace_two k n x p (by omega) (by omega) (by omega) hR hx1 hv ho
      rw [if_pos (by simp [ho]), e1, Option.bind_some]
      simp only
      rw [e2, Option.bind_some, if_pos (by simp), teq1 k hk n (by omega), Option.bind_some, if_neg (by simp)]
      have ha := wt_attrs (atN p n)
      rw [get_eq k _ _ (by omega) (by omega), Option.bind_some]
      by_cases hg : (getS (atN p n).Attrs a.Name.Space a.Name.Local).2 = true
      · rw [if_neg (by simp [hg])]
      · have hg' : (getS (atN p n).Attrs a.Name.Space a.Name.Local).2 = false := by simpa using hg
        have hno := getS_no hg'
        rw [if_pos (by simp [hg']), setattr_eq k n a p (by omega) hv ho hno, Option.bind_some]
        simp only
        have hwp := wt_put (withA (atN p n) ((atN p n).Attrs ++ [a])) p n hv
        rw [wt_withA] at hwp
        have hvm := valid_put (withA (atN p n) ((atN p n).Attrs ++ [a])) p n hv
        have ham := atN_put (withA (atN p n) ((atN p n).Attrs ++ [a])) p n hv
        have hdrop := dropattr_eq k (put (withA (atN p n) ((atN p n).Attrs ++ [a])) p n) a (atN p n).Attrs p (by omega) hvm (by rw [ham]; exact ho) (by rw [ham]; rfl) hno
        have hself : withA (withA (atN p n) ((atN p n).Attrs ++ [a])) (atN p n).Attrs = atN p n := by cases atN p n; rfl
        rw [ham, hself, put_put _ _ p n hv, put_self p n hv] at hdrop
        rw [hdrop, Option.bind_some, at_eq k (by omega) p (by omega) _ (by omega), Option.bind_some, atS_T p _ hvm, ham]
        simp only
        have hal : (withA (atN p n) ((atN p n).Attrs ++ [a])).Attrs = (atN p n).Attrs ++ [a] := rfl
        rw [get_eq k _ _ (by rw [hal]; simp; omega) (by rw [hal]; simp; omega), Option.bind_some, hal, getS_last hno (by unfold isA; simp)]
        simp only
        rw [if_pos (by simp), teq1 k hk n (by omega), Option.bind_some]
        simp
    · rw [if_neg (by simp [ho])]
  · rw [atS_F p n hv, if_neg (by simp)]
theorem j1_eq (k : Nat) (hk : 9000000000 ≤ k) (n x : T_api_Node) (a : T_api_Attr) (p : List Int) (hw : wt n ≤ 30000) (hx : wt x ≤ 30000) (h9 : p.length ≤ 1000) (hR : RtN n) (hx1 : x.Kind = 1) (c : Bool) :
    watchbilllaw06_PathBack.j1 k n x a p (x, true) (n, true) c = some true := by
  unfold watchbilllaw06_PathBack.j1
  rw [if_pos (by simp)]
  simp only
  rw [teq1 k hk x (by omega), Option.bind_some]
  cases c with
  | true =>
    rw [if_neg (by simp), Option.bind_some, if_neg (by simp)]
    exact j0_eq k hk n x a p hw hx h9 hR hx1
  | false =>
    rw [if_pos (by simp), teq1 k hk n (by omega), Option.bind_some, if_neg (by simp)]
    exact j0_eq k hk n x a p hw hx h9 hR hx1
theorem PathBack_k (k : Nat) (hk : 9000000000 ≤ k) (n x : T_api_Node) (b : Int) (a : T_api_Attr) (p : List Int) : watchbilllaw06_PathBack k n x b a p = some true := by
  unfold watchbilllaw06_PathBack
  obtain ⟨f1, e1, h1⟩ := few_k k (by omega) n
  obtain ⟨f2, e2, h2⟩ := few_k k (by omega) x
  rw [awake_k k hk, Option.bind_some, if_neg (by simp), e1, Option.bind_some]
  cases f1 with
  | false => rw [if_neg (by simp), Option.bind_some, if_neg (by simp), Option.bind_some, if_pos (by simp)]
  | true =>
    rw [if_pos (by simp), e2, Option.bind_some]
    cases f2 with
    | false => rw [if_neg (by simp), Option.bind_some, if_pos (by simp)]
    | true =>
      obtain ⟨hw, hf⟩ := h1 rfl
      obtain ⟨hx, _⟩ := h2 rfl
      rw [if_pos (by simp), Right_eq k n (by omega) (by omega), Option.bind_some]
      by_cases hc : (n.Kind == 1 && (decide (cnt n ≤ 2000) && shp n 1 false)) = true ∧ x.Kind = 1 ∧ p.length ≤ 100
      · obtain ⟨hr, hx1, hp⟩ := hc
        rw [hr, if_neg (by simp [hx1]; omega)]
        rw [Bool.and_eq_true, Bool.and_eq_true] at hr
        have hR : RtN n := fun q hq => by
          obtain ⟨d, c, h⟩ := shp_at q n 1 false hr.2.2 hq
          exact shp_nj h
        rcases insert_eq k n x b p (by omega) (by omega) hR hx1 with ⟨z, hz⟩ | ⟨hv, hb, hko, hz⟩
        · rw [hz, Option.bind_some]
          simp only
          rw [if_neg (by simp)]
          exact j0_eq k hk n x a p hw hx (by omega) hR hx1
        · rw [hz, Option.bind_some]
          simp only
          rw [if_pos trivial, if_pos (by simp; omega), if_pos (by simp; omega)]
          simp only [List.nil_append]
          generalize ho : atN p n = o at *
          have hwo : wt o ≤ 30000 := by rw [← ho]; exact Nat.le_trans (atN_wt p n hv) hw
          have hbl : b.toNat ≤ o.Kids.length := by omega
          have hbn : ((b.toNat : Nat) : Int) = b := by omega
          have hl' := wtL_ins (l := o.Kids) (x := x) (i := b.toNat)
          have hwk : wt (withK o (o.Kids.take b.toNat ++ x :: o.Kids.drop b.toNat)) = wt o + wt x := by
            rw [wt_eq, wt_eq o]
            simp only [withK]
            omega
          have hwp := wt_put (withK o (o.Kids.take b.toNat ++ x :: o.Kids.drop b.toNat)) p n hv
          have hvm := valid_put (withK o (o.Kids.take b.toNat ++ x :: o.Kids.drop b.toNat)) p n hv
          have ham := atN_put (withK o (o.Kids.take b.toNat ++ x :: o.Kids.drop b.toNat)) p n hv
          generalize hm : put (withK o (o.Kids.take b.toNat ++ x :: o.Kids.drop b.toNat)) p n = m at *
          have hlen : (o.Kids.take b.toNat ++ x :: o.Kids.drop b.toNat).length = o.Kids.length + 1 := by simp; omega
          have hkids : (atN p m).Kids = o.Kids.take b.toNat ++ x :: o.Kids.drop b.toNat := by rw [ham]; rfl
          have hva : valid (p ++ [b]) m := (valid_app p [b] m).2 ⟨hvm, ⟨by rw [hkids, hlen]; omega, trivial⟩⟩
          have hat : atN (p ++ [b]) m = x := by
            rw [atN_app]
            show rd (atN p m).Kids b = x
            rw [hkids]
            have := rd_ins (l := o.Kids) (x := x) hbl
            rw [hbn] at this
            exact this
          have hnj : nj o.Kids = true := by have := (hR p hv).1; rw [ho] at this; exact this
          have htd := take_drop_ins (x := x) hbl
          have hrem := remove_eq k m b p (by omega) (by omega) hvm (by rw [hkids, hlen]; omega) (by rw [ham]; exact hko) (by rw [hkids, htd]; exact hnj)
          rw [hkids, htd, ham] at hrem
          have hself : withK (withK o (o.Kids.take b.toNat ++ x :: o.Kids.drop b.toNat)) o.Kids = o := withK_self o
          rw [hself, ← hm, put_put _ _ p n hv, hm, ← ho, put_self p n hv] at hrem
          rw [at_eq k (by omega) _ (by simp; omega) m (by omega), Option.bind_some, atS_T _ m hva, hat, hrem, Option.bind_some, at_eq k (by omega) p (by omega) n (by omega), Option.bind_some, atS_T p n hv, ho]
          simp only
          by_cases hi : ((decide (b > 0)) && (decide (b < (o.Kids.length : Int)))) = true
          · have hi2 := hi
            rw [Bool.and_eq_true, decide_eq_true_eq, decide_eq_true_eq] at hi2
            have := wt_kids o
            rw [if_pos hi, w64 (x := b - 1) (by omega) (by omega), if_pos (by omega), if_pos (by intro _; omega)]
            exact j1_eq k hk n x a p hw hx (by omega) hR hx1 _
          · rw [if_neg hi]
            exact j1_eq k hk n x a p hw hx (by omega) hR hx1 _
      · rw [if_pos (by
          by_cases hr : (n.Kind == 1 && (decide (cnt n ≤ 2000) && shp n 1 false)) = true
          · rw [hr]
            by_cases h1 : x.Kind = 1
            · have : ¬ p.length ≤ 100 := fun h => hc ⟨hr, h1, h⟩
              simp; omega
            · simp [h1]
          · have : (n.Kind == 1 && (decide (cnt n ≤ 2000) && shp n 1 false)) = false := by simpa using hr
            rw [this]; simp)]
theorem PathBack (n x : T_api_Node) (b : Int) (a : T_api_Attr) (p : List Int) (_ : (Lit.int .i64 b).wf = true) : ∃ k, watchbilllaw06_PathBack k n x b a p = some true := ⟨9000000000, PathBack_k _ (Nat.le_refl _) n x b a p⟩
end Go.Proofs.Ytjhbedgepfkdbaa.Pure
