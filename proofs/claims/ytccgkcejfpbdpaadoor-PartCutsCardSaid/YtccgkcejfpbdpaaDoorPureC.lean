/- Proved here: fields, printed and parsed (taken from layer 07's texts). -/
import Derived.Test.YtccgkcejfpbdpaaDoorPureB
namespace Go.Proofs.YtccgkcejfpbdpaaDoor.Pure
open Go Go.RowKit Go.Proofs.Vx Go.Proofs.YtccgkcejfpbdpaaDoor.Sh

theorem idx_at (c : UInt8) (t r : Str) (ht : t.isPrefixOf r = true) : ∀ a : Str, c ∉ a → Lib.index (a ++ c :: r) (c :: t) = (a.length : Int)
  | [], _ => by
    show Lib.index (c :: r) (c :: t) = _
    unfold Lib.index
    rw [if_pos (by simp [List.isPrefixOf, ht])]; rfl
  | b :: a, h => by
    have hb : ¬ c = b := fun e => h (by simp [e])
    have ih := idx_at c t r ht a (fun e => h (List.mem_cons_of_mem _ e))
    show Lib.index (b :: (a ++ c :: r)) (c :: t) = _
    unfold Lib.index
    rw [if_neg (by simp [List.isPrefixOf, hb]), ih, if_neg (by simp)]
    simp
theorem idx_no (c : UInt8) (t : Str) : ∀ a : Str, c ∉ a → Lib.index a (c :: t) = -1
  | [], _ => rfl
  | b :: a, h => by
    have hb : ¬ c = b := fun e => h (by simp [e])
    have ih := idx_no c t a (fun e => h (List.mem_cons_of_mem _ e))
    unfold Lib.index
    rw [if_neg (by simp [List.isPrefixOf, hb]), ih]; rfl
theorem cut_hit (c : UInt8) (t r a : Str) (ht : t.isPrefixOf r = true) (h : c ∉ a) : Lib.cut (a ++ c :: r) (c :: t) = (a, r.drop t.length, true) := by
  have e := idx_at c t r ht a h
  unfold Lib.cut
  rw [e, if_pos (by omega)]
  have h1 : (a ++ c :: r).take (a.length : Int).toNat = a := by simp
  have h2 : (a ++ c :: r).drop ((a.length : Int).toNat + (c :: t).length) = r.drop t.length := by
    rw [List.drop_append]
    simp
  rw [h1, h2]
theorem cut_miss {s : Str} {sep : Str} (h : Lib.index s sep = -1) : Lib.cut s sep = (s, [], false) := by
  unfold Lib.cut; rw [h]; rfl
theorem cut_one (c : UInt8) (a r : Str) (h : c ∉ a) : Lib.cut (a ++ c :: r) [c] = (a, r, true) := cut_hit c [] r a rfl h

def joinE (ps : List Str) : Str := ps.flatMap (· ++ [13, 10])
theorem joinE_cons (p : Str) (ps : List Str) : joinE (p :: ps) = p ++ 13 :: 10 :: joinE ps := by simp [joinE]
def free13 (ps : List Str) : Prop := ∀ p ∈ ps, (13 : UInt8) ∉ p
def hd32 (p : Str) : Prop := ∃ r, p = 32 :: r
theorem bt_cons0 (c : UInt8) (r : Str) : bt (c :: r) 0 = (c.toNat : Int) := by
  have := bt_get (a := c :: r) (i := 0) (by simp)
  simpa using this
theorem vis_nb {c : UInt8} (h : vis c = true) : bl c = false ∧ c ≠ 13 ∧ c ≠ 10 ∧ c ≠ 32 := by
  have key : ∀ n : Fin 256, vis (UInt8.ofNat n.val) = true → bl (UInt8.ofNat n.val) = false ∧ UInt8.ofNat n.val ≠ 13 ∧ UInt8.ofNat n.val ≠ 10 ∧ UInt8.ofNat n.val ≠ 32 := by decide +kernel
  have := key ⟨c.toNat, UInt8.toNat_lt _⟩
  simp only [UInt8.ofNat_toNat] at this
  exact this h
theorem nam_vis {c : UInt8} (h : nam c = true) : vis c = true ∧ c ≠ 58 := by
  unfold nam at h
  simp at h
  exact h
theorem named_parts {n : Str} (h : named n = true) : n.length ≤ 64 ∧ (∀ c ∈ n, vis c = true ∧ c ≠ 58) ∧ n ≠ [] := by
  unfold named alp at h
  simp only [Bool.and_eq_true, decide_eq_true_eq, List.all_eq_true] at h
  exact ⟨h.1, fun c hc => nam_vis (h.2.1 c hc), by simpa using h.2.2⟩
def pl : Bool → Nat → Str → List Str → List Str
  | _, _, cur, [] => [cur]
  | any, n, cur, w :: ws => if brk any n w = true then cur :: pl true (nl any n w) (32 :: w) ws else pl true (nl any n w) (cur ++ 32 :: w) ws
theorem pl_ne : ∀ (ws : List Str) (any : Bool) (n : Nat) (cur : Str), ∃ p ps, pl any n cur ws = p :: ps ∧ (∃ t, p = cur ++ t) ∧ ∀ q ∈ ps, hd32 q
  | [], any, n, cur => ⟨cur, [], rfl, ⟨[], by simp⟩, by simp⟩
  | w :: ws, any, n, cur => by
    unfold pl
    split
    · obtain ⟨p, ps, e, ⟨t, ht⟩, h⟩ := pl_ne ws true (nl any n w) (32 :: w)
      refine ⟨cur, _, rfl, ⟨[], by simp⟩, ?_⟩
      rw [e]
      intro q hq
      rcases List.mem_cons.1 hq with rfl | hq
      · exact ⟨w ++ t, by rw [ht]; rfl⟩
      · exact h q hq
    · obtain ⟨p, ps, e, ⟨t, ht⟩, h⟩ := pl_ne ws true (nl any n w) (cur ++ 32 :: w)
      exact ⟨p, ps, e, ⟨32 :: w ++ t, by rw [ht]; simp⟩, h⟩
theorem pl_join : ∀ (ws : List Str) (any : Bool) (n : Nat) (cur t : Str), fl any n ws = some t → joinE (pl any n cur ws) = (cur ++ t) ++ [13, 10]
  | [], any, n, cur, t, h => by simp [fl] at h; subst h; simp [pl, joinE]
  | w :: ws, any, n, cur, t, h => by
    unfold fl at h
    split at h
    · simp at h
    · cases hf : fl true (nl any n w) ws with
      | none => rw [hf] at h; simp at h
      | some t0 =>
        rw [hf] at h
        simp at h
        subst h
        unfold pl crl
        split
        · rw [joinE_cons, pl_join ws _ _ _ t0 hf]; simp
        · rw [pl_join ws _ _ _ t0 hf]; simp
theorem pl_len : ∀ (ws : List Str) (any : Bool) (n : Nat) (cur t : Str), fl any n ws = some t → cur.length ≤ 998 → n = cur.length → ∀ q ∈ pl any n cur ws, q.length ≤ 998
  | [], any, n, cur, t, h, hc, hn => by simp [pl]; exact hc
  | w :: ws, any, n, cur, t, h, hc, hn => by
    unfold fl at h
    split at h
    · simp at h
    · rename_i hbig
      cases hf : fl true (nl any n w) ws with
      | none => rw [hf] at h; simp at h
      | some t0 =>
        unfold pl
        split
        · rename_i hb
          have e : nl any n w = (32 :: w : Str).length := by unfold nl; rw [if_pos hb]; simp; omega
          intro q hq
          rcases List.mem_cons.1 hq with rfl | hq
          · exact hc
          · exact pl_len ws _ _ _ t0 hf (by rw [← e]; omega) e q hq
        · rename_i hb
          have e : nl any n w = (cur ++ 32 :: w : Str).length := by unfold nl; rw [if_neg hb]; simp; omega
          exact pl_len ws _ _ _ t0 hf (by rw [← e]; omega) e
theorem pl_mem : ∀ (ws : List Str) (any : Bool) (n : Nat) (cur : Str), ∀ q ∈ pl any n cur ws, ∀ c ∈ q, c ∈ cur ∨ c = 32 ∨ ∃ w ∈ ws, c ∈ w
  | [], any, n, cur, q, hq, c, hc => by simp [pl] at hq; subst hq; exact .inl hc
  | w :: ws, any, n, cur, q, hq, c, hc => by
    unfold pl at hq
    split at hq
    · rcases List.mem_cons.1 hq with rfl | hq
      · exact .inl hc
      · rcases pl_mem ws _ _ _ q hq c hc with h | h | ⟨w', h1, h2⟩
        · rcases List.mem_cons.1 h with h | h
          · exact .inr (.inl h)
          · exact .inr (.inr ⟨w, by simp, h⟩)
        · exact .inr (.inl h)
        · exact .inr (.inr ⟨w', by simp [h1], h2⟩)
    · rcases pl_mem ws _ _ _ q hq c hc with h | h | ⟨w', h1, h2⟩
      · rcases List.mem_append.1 h with h | h
        · exact .inl h
        · rcases List.mem_cons.1 h with h | h
          · exact .inr (.inl h)
          · exact .inr (.inr ⟨w, by simp, h⟩)
      · exact .inr (.inl h)
      · exact .inr (.inr ⟨w', by simp [h1], h2⟩)
def pcsF (f : T_api_Field) : List Str := pl false (f.Name.length + 1) (f.Name ++ [58]) (wds f.Value)
structure Good (f : T_api_Field) : Prop where
  named : named f.Name = true
  wok : wok f.Value = true
  fl : ∃ t, fl false (f.Name.length + 1) (wds f.Value) = some t
theorem wds_vis {v : Str} (h : wok v = true) : ∀ w ∈ wds v, ∀ c ∈ w, vis c = true := fun w hw c hc => by
  unfold wok at h
  have := List.all_eq_true.1 h w hw
  unfold alp at this
  simp only [Bool.and_eq_true, List.all_eq_true] at this
  exact this.1 c hc
theorem foldF_good {f : T_api_Field} (h : (foldF f).2 = 0) : Good f ∧ (foldF f).1 = joinE (pcsF f) := by
  unfold foldF at h ⊢
  split at h
  · simp at h
  · rename_i h1
    split at h
    · simp at h
    · rename_i h2
      split at h
      · simp at h
      · rename_i t ht
        refine ⟨⟨by simpa using h1, by simpa using h2, t, ht⟩, ?_⟩
        rw [if_neg h1, if_neg h2]
        dsimp only
        unfold pcsF
        rw [pl_join _ _ _ _ t ht]
theorem pcsF_parts {f : T_api_Field} (g : Good f) : ∃ p ps, pcsF f = p :: ps ∧ (∃ t, p = f.Name ++ 58 :: t) ∧ (∀ q ∈ ps, hd32 q) ∧ (∀ q ∈ p :: ps, q.length ≤ 998) ∧ (∀ q ∈ p :: ps, ∀ c ∈ q, c = 32 ∨ vis c = true) := by
  obtain ⟨p, ps, e, ⟨t, ht⟩, h⟩ := pl_ne (wds f.Value) false (f.Name.length + 1) (f.Name ++ [58])
  obtain ⟨t0, hf⟩ := g.fl
  obtain ⟨h64, hvis, hne⟩ := named_parts g.named
  refine ⟨p, ps, e, ⟨t, by rw [ht]; simp⟩, h, ?_, ?_⟩
  · rw [← e]
    exact pl_len _ _ _ _ t0 hf (by simp; omega) (by simp)
  · rw [← e]
    intro q hq c hc
    rcases pl_mem _ _ _ _ q hq c hc with h | h | ⟨w, h1, h2⟩
    · rcases List.mem_append.1 h with h | h
      · exact .inr (hvis c h).1
      · simp at h; subst h; exact .inr (by decide)
    · exact .inl h
    · exact .inr (wds_vis g.wok w h1 c h2)
theorem free_of {ps : List Str} (h : ∀ q ∈ ps, ∀ c ∈ q, c = 32 ∨ vis c = true) : free13 ps := fun q hq hc => by
  rcases h q hq 13 hc with h | h
  · revert h; decide
  · exact (vis_nb h).2.1 rfl
def txt (l : List T_api_Field) : Str := l.flatMap (fun f => joinE (pcsF f)) ++ [13, 10]
theorem txt_cons (f : T_api_Field) (l : List T_api_Field) : txt (f :: l) = joinE (pcsF f) ++ txt l := by simp [txt]
theorem printL_txt : ∀ {l : List T_api_Field}, (printL l).2 = 0 → (∀ f ∈ l, Good f) ∧ (printL l).1 = txt l
  | [], _ => ⟨by simp, rfl⟩
  | f :: r, h => by
    unfold printL at h ⊢
    split at h
    · rename_i h1; simp at h1; exact absurd h h1
    · rename_i h1
      simp at h1
      obtain ⟨g, e⟩ := foldF_good h1
      split at h
      · rename_i h2; simp at h2; exact absurd h h2
      · rename_i h2
        have h3 : (printL r).2 = 0 := by simpa using h2
        obtain ⟨g2, e2⟩ := printL_txt h3
        refine ⟨fun x hx => ?_, ?_⟩
        · rcases List.mem_cons.1 hx with rfl | hx
          · exact g
          · exact g2 x hx
        · rw [if_neg (by simp [h1]), if_neg (by simp [h3]), txt_cons, e, e2]
theorem cutP_no {s : Str} (h : ¬ ∃ r, s = 13 :: 10 :: r) : strings_CutPrefix s [13, 10] = some (s, false) := by
  rw [strings_CutPrefix, stringslite_CutPrefix, stringslite_HasPrefix, if_pos (by simp), Option.bind_some]
  have : (decide ((s.length : Int) ≥ (([13, 10] : Str).length : Int)) && (sl s 0 (([13, 10] : Str).length : Int) == ([13, 10] : Str))) = false := by
    have h2 : sl s 0 (([13, 10] : Str).length : Int) = s.take 2 := sl_nat0 s 2
    rw [h2]
    match s, h with
    | [], _ => rfl
    | [c], _ => simp
    | c :: d :: r, h =>
      simp
      intro _ hc hd
      exact h ⟨r, by rw [hc, hd]⟩
  rw [this, if_pos (by simp)]
  rfl
theorem cutP_yes (r : Str) : strings_CutPrefix (13 :: 10 :: r) [13, 10] = some (r, true) := by
  rw [strings_CutPrefix, stringslite_CutPrefix, stringslite_HasPrefix, if_pos (by simp), Option.bind_some]
  have : (decide (((13 :: 10 :: r : Str).length : Int) ≥ (([13, 10] : Str).length : Int)) && (sl (13 :: 10 :: r) 0 (([13, 10] : Str).length : Int) == ([13, 10] : Str))) = true := by
    have h2 : sl (13 :: 10 :: r) 0 (([13, 10] : Str).length : Int) = (13 :: 10 :: r).take 2 := sl_nat0 _ 2
    rw [h2]
    simp
    omega
  rw [this, if_neg (by simp), if_pos (by simp; omega), Option.bind_some]
  have h3 : sl (13 :: 10 :: r) (([13, 10] : Str).length : Int) ((13 :: 10 :: r : Str).length : Int) = r := sl_end _ 2
  rw [h3]
end Go.Proofs.YtccgkcejfpbdpaaDoor.Pure
