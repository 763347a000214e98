/- Proved here: fields, printed and parsed (taken from layer 07's texts). -/
import Derived.Test.YtccgkcejfpbdpaaDoorPureB
namespace Go.Proofs.YtccgkcejfpbdpaaDoor.Pure
open Go Go.RowKit Go.Proofs.Vx Go.Proofs.YtccgkcejfpbdpaaDoor.Sh

theorem idx_at (c : UInt8) (t r : Str) (ht : t.isPrefixOf r = true) : ∀ a : Str, c ∉ a → Lib.index (a ++ c :: r) (c :: t) = (a.length : Int)
  | [], _ => by
    show Lib.index (c :: r) (c :: t) = _
    unfold Lib.index
    rw [if_pos (by simp [List.isPrefixOf, ht])]; rfl
  | b :: a, h => by
    have hb : ¬ c = b := fun e => h (by simp [e])
    have ih := idx_at c t r ht a (fun e => h (List.mem_cons_of_mem _ e))
    show Lib.index (b :: (a ++ c :: r)) (c :: t) = _
    unfold Lib.index
    rw [if_neg (by simp [List.isPrefixOf, hb]), ih, if_neg (by simp)]
    simp
theorem idx_no (c : UInt8) (t : Str) : ∀ a : Str, c ∉ a → Lib.index a (c :: t) = -1
  | [], _ => rfl
  | b :: a, h => by
    have hb : ¬ c = b := fun e => h (by simp [e])
    have ih := idx_no c t a (fun e => h (List.mem_cons_of_mem _ e))
    unfold Lib.index
    rw [if_neg (by simp [List.isPrefixOf, hb]), ih]; rfl
theorem cut_hit (c : UInt8) (t r a : Str) (ht : t.isPrefixOf r = true) (h : c ∉ a) : Lib.cut (a ++ c :: r) (c :: t) = (a, r.drop t.length, true) := by
  have e := idx_at c t r ht a h
  unfold Lib.cut
  rw [e, if_pos (by omega)]
  have h1 : (a ++ c :: r).take (a.length : Int).toNat = a := by simp
  have h2 : (a ++ c :: r).drop ((a.length : Int).toNat + (c :: t).length) = r.drop t.length := by
    rw [List.drop_append]
    simp
  rw [h1, h2]
theorem cut_miss {s : Str} {sep : Str} (h : Lib.index s sep = -1) : Lib.cut s sep = (s, [], false) := by
  unfold Lib.cut; rw [h]; rfl
theorem cut_one (c : UInt8) (a r : Str) (h : c ∉ a) : Lib.cut (a ++ c :: r) [c] = (a, r, true) := cut_hit c [] r a rfl h

theorem bt_cons0 (c : UInt8) (r : Str) : bt (c :: r) 0 = (c.toNat : Int) := by
  have := bt_get (a := c :: r) (i := 0) (by simp)
  simpa using this
def pl : Bool → Nat → Str → List Str → List Str
  | _, _, cur, [] => [cur]
  | any, n, cur, w :: ws => if brk any n w = true then cur :: pl true (nl any n w) (32 :: w) ws else pl true (nl any n w) (cur ++ 32 :: w) ws
structure Good (f : T_api_Field) : Prop where
  named : named f.Name = true
  wok : wok f.Value = true
  fl : ∃ t, fl false (f.Name.length + 1) (wds f.Value) = some t
theorem cutP_no {s : Str} (h : ¬ ∃ r, s = 13 :: 10 :: r) : strings_CutPrefix s [13, 10] = some (s, false) := by
  rw [strings_CutPrefix, stringslite_CutPrefix, stringslite_HasPrefix, if_pos (by simp), Option.bind_some]
  have : (decide ((s.length : Int) ≥ (([13, 10] : Str).length : Int)) && (sl s 0 (([13, 10] : Str).length : Int) == ([13, 10] : Str))) = false := by
    have h2 : sl s 0 (([13, 10] : Str).length : Int) = s.take 2 := sl_nat0 s 2
    rw [h2]
    match s, h with
    | [], _ => rfl
    | [c], _ => simp
    | c :: d :: r, h =>
      simp
      intro _ hc hd
      exact h ⟨r, by rw [hc, hd]⟩
  rw [this, if_pos (by simp)]
  rfl
theorem cutP_yes (r : Str) : strings_CutPrefix (13 :: 10 :: r) [13, 10] = some (r, true) := by
  rw [strings_CutPrefix, stringslite_CutPrefix, stringslite_HasPrefix, if_pos (by simp), Option.bind_some]
  have : (decide (((13 :: 10 :: r : Str).length : Int) ≥ (([13, 10] : Str).length : Int)) && (sl (13 :: 10 :: r) 0 (([13, 10] : Str).length : Int) == ([13, 10] : Str))) = true := by
    have h2 : sl (13 :: 10 :: r) 0 (([13, 10] : Str).length : Int) = (13 :: 10 :: r).take 2 := sl_nat0 _ 2
    rw [h2]
    simp
    omega
  rw [this, if_neg (by simp), if_pos (by simp; omega), Option.bind_some]
  have h3 : sl (13 :: 10 :: r) (([13, 10] : Str).length : Int) ((13 :: 10 :: r : Str).length : Int) = r := sl_end _ 2
  rw [h3]
end Go.Proofs.YtccgkcejfpbdpaaDoor.Pure
