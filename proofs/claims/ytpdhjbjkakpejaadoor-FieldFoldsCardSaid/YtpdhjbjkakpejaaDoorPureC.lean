/- Proved here: what was printed is parsed as it was, wherever lines are folded: the laws FieldBack and FieldFolds. -/
import Derived.Test.YtpdhjbjkakpejaaDoorPureB
namespace Go.Proofs.YtpdhjbjkakpejaaDoor.Pure
open Go Go.RowKit Go.Proofs.Vx Go.Proofs.YtpdhjbjkakpejaaDoor.Sh

theorem idx_at (c : UInt8) (t r : Str) (ht : t.isPrefixOf r = true) : ∀ a : Str, c ∉ a → Lib.index (a ++ c :: r) (c :: t) = (a.length : Int)
  | [], _ => by
    show Lib.index (c :: r) (c :: t) = _
    unfold Lib.index
    rw [if_pos (by simp [List.isPrefixOf, ht])]; rfl
  | b :: a, h => by
    have hb : ¬ c = b := fun e => h (by simp [e])
    have ih := idx_at c t r ht a (fun e => h (List.mem_cons_of_mem _ e))
    show Lib.index (b :: (a ++ c :: r)) (c :: t) = _
    unfold Lib.index
    rw [if_neg (by simp [List.isPrefixOf, hb]), ih, if_neg (by simp)]
    simp
theorem idx_no (c : UInt8) (t : Str) : ∀ a : Str, c ∉ a → Lib.index a (c :: t) = -1
  | [], _ => rfl
  | b :: a, h => by
    have hb : ¬ c = b := fun e => h (by simp [e])
    have ih := idx_no c t a (fun e => h (List.mem_cons_of_mem _ e))
    unfold Lib.index
    rw [if_neg (by simp [List.isPrefixOf, hb]), ih]; rfl
theorem idx_no1 : ∀ a : Str, (13 : UInt8) ∉ a → Lib.index (a ++ [13]) [13, 10] = -1
  | [], _ => rfl
  | b :: a, h => by
    have hb : ¬ (13 : UInt8) = b := fun e => h (by simp [e])
    have ih := idx_no1 a (fun e => h (List.mem_cons_of_mem _ e))
    show Lib.index (b :: (a ++ [13])) [13, 10] = _
    unfold Lib.index
    rw [if_neg (by simp [List.isPrefixOf, hb]), ih]; rfl
theorem cut_hit (c : UInt8) (t r a : Str) (ht : t.isPrefixOf r = true) (h : c ∉ a) : Lib.cut (a ++ c :: r) (c :: t) = (a, r.drop t.length, true) := by
  have e := idx_at c t r ht a h
  unfold Lib.cut
  rw [e, if_pos (by omega)]
  have h1 : (a ++ c :: r).take (a.length : Int).toNat = a := by simp
  have h2 : (a ++ c :: r).drop ((a.length : Int).toNat + (c :: t).length) = r.drop t.length := by
    rw [List.drop_append]
    simp
  rw [h1, h2]
theorem cut_miss {s : Str} {sep : Str} (h : Lib.index s sep = -1) : Lib.cut s sep = (s, [], false) := by
  unfold Lib.cut; rw [h]; rfl
theorem cut_crlf (a r : Str) (h : (13 : UInt8) ∉ a) : Lib.cut (a ++ 13 :: 10 :: r) [13, 10] = (a, r, true) := cut_hit 13 [10] (10 :: r) a rfl h
theorem cut_one (c : UInt8) (a r : Str) (h : c ∉ a) : Lib.cut (a ++ c :: r) [c] = (a, r, true) := cut_hit c [] r a rfl h

def joinE (ps : List Str) : Str := ps.flatMap (· ++ [13, 10])
theorem joinE_cons (p : Str) (ps : List Str) : joinE (p :: ps) = p ++ 13 :: 10 :: joinE ps := by simp [joinE]
def free13 (ps : List Str) : Prop := ∀ p ∈ ps, (13 : UInt8) ∉ p
def hd32 (p : Str) : Prop := ∃ r, p = 32 :: r
def nb (s : Str) : Prop := ∀ c r, s = c :: r → bl c = false
theorem bt_cons0 (c : UInt8) (r : Str) : bt (c :: r) 0 = (c.toNat : Int) := by
  have := bt_get (a := c :: r) (i := 0) (by simp)
  simpa using this
theorem lines_l (k : Nat) : ∀ (ps : List Str) (p : Str) (m : Nat) (line more : Str), ps.length < m → free13 (p :: ps) → (∀ q ∈ ps, hd32 q) → (∀ q ∈ p :: ps, q.length ≤ 998) → nb more → (joinE (p :: ps) ++ more).length ≤ 2000000 →
    (line.length + (joinE (p :: ps)).length ≤ 4000000) →
    field_lines.l0 k m (joinE (p :: ps) ++ more) line false = some (line ++ (p :: ps).flatten, more, false, true) := by
  intro ps
  induction ps with
  | nil =>
    intro p m line more h1 hf h32 hl hn hlen hsum
    obtain ⟨m, rfl⟩ : ∃ q, m = q + 1 := ⟨m - 1, by omega⟩
    have hp13 := hf p (by simp)
    have hp := hl p (by simp)
    have hcut : Lib.cut (joinE [p] ++ more) [13, 10] = (p, more, true) := by
      rw [joinE_cons]
      have := cut_crlf p more hp13
      simpa [joinE] using this
    rw [field_lines.l0, hcut, if_pos (by omega)]
    dsimp only
    rw [if_neg (by simp), if_pos (by omega), show decide ((p.length : Int) > 998) = false by simp; omega]
    cases more with
    | nil => simp
    | cons c r =>
      rw [if_pos (by intro _; simp), if_pos (by simp), bt_cons0, bl_ok, Option.bind_some, if_pos (by rw [hn c r rfl]; simp)]
      simp
  | cons q ps ih =>
    intro p m line more h1 hf h32 hl hn hlen hsum
    obtain ⟨m, rfl⟩ : ∃ q, m = q + 1 := ⟨m - 1, by simp at h1; omega⟩
    have hp13 := hf p (by simp)
    have hp := hl p (by simp)
    have hcut : Lib.cut (joinE (p :: q :: ps) ++ more) [13, 10] = (p, joinE (q :: ps) ++ more, true) := by
      rw [joinE_cons]
      have := cut_crlf p (joinE (q :: ps) ++ more) hp13
      simpa using this
    obtain ⟨r, hr⟩ := h32 q (by simp)
    have hhd : joinE (q :: ps) ++ more = 32 :: (r ++ 13 :: 10 :: joinE ps ++ more) := by rw [joinE_cons, hr]; simp
    have hjl : (joinE (p :: q :: ps)).length = p.length + 2 + (joinE (q :: ps)).length := by rw [joinE_cons]; simp; omega
    rw [List.length_append, hjl] at hlen
    rw [field_lines.l0, hcut, if_pos (by rw [List.length_append, hjl]; omega)]
    dsimp only
    rw [if_neg (by simp), if_pos (by omega), show decide ((p.length : Int) > 998) = false by simp; omega]
    have hb : bt (joinE (q :: ps) ++ more) 0 = ((32 : UInt8).toNat : Int) := by rw [hhd, bt_cons0]
    have hne : (joinE (q :: ps) ++ more == ([] : Str)) = false := by rw [hhd]; rfl
    have hpos : 0 < (joinE (q :: ps) ++ more).length := by rw [hhd]; simp
    rw [hne, if_pos (by intro _; omega), if_pos (by decide), hb, bl_ok, Option.bind_some, if_neg (by decide), Bool.or_self]
    rw [ih q m (line ++ p) more (by simp at h1; omega) (fun x hx => hf x (by simp [hx])) (fun x hx => h32 x (by simp [hx])) (fun x hx => hl x (by simp [hx])) hn (by rw [List.length_append]; omega) (by rw [List.length_append]; omega)]
    simp
theorem lines_cut (k : Nat) : ∀ (ps : List Str) (p : Str) (m : Nat) (line x z : Str), ps.length < m → free13 (p :: ps) → (∀ q ∈ ps, hd32 q) → (∀ q ∈ p :: ps, q.length ≤ 998) → joinE (p :: ps) = x ++ z → z ≠ [] → (joinE (p :: ps)).length ≤ 2000000 →
    line.length + (joinE (p :: ps)).length ≤ 4000000 →
    field_lines.l0 k m x line false = some ([], [], false, false) ∨ ∃ i, field_lines.l0 k m x line false = some (line ++ ((p :: ps).take (i + 1)).flatten, [], false, true) := by
  intro ps
  induction ps with
  | nil =>
    intro p m line x z h1 hf h32 hl hx hz hlen hsum
    obtain ⟨m, rfl⟩ : ∃ q, m = q + 1 := ⟨m - 1, by omega⟩
    have hp13 := hf p (by simp)
    left
    -- no line end in it
    have hno : Lib.index x [13, 10] = -1 := by
      have hx' : p ++ [13, 10] = x ++ z := by rw [← hx]; simp [joinE]
      have hxl : x.length ≤ p.length + 1 := by
        have := congrArg List.length hx'
        have := List.length_pos_iff.2 hz
        simp at *; omega
      by_cases hc : x.length ≤ p.length
      · have : x = p.take x.length := by
          have := congrArg (List.take x.length) hx'
          rw [List.take_append_of_le_length hc, List.take_left] at this
          exact this.symm
        rw [this]
        exact idx_no 13 [10] _ fun h => hp13 (List.mem_of_mem_take h)
      · have : x = p ++ [13] := by
          have := congrArg (List.take x.length) hx'
          rw [List.take_left, List.take_append, List.take_of_length_le (by omega), show x.length - p.length = 1 by omega] at this
          exact this.symm
        rw [this]
        exact idx_no1 p hp13
    have hxl : x.length ≤ 2000000 := by have := congrArg List.length hx; simp at this; omega
    rw [field_lines.l0, cut_miss hno, if_pos (by omega), if_pos (by simp)]
  | cons q ps ih =>
    intro p m line x z h1 hf h32 hl hx hz hlen hsum
    obtain ⟨m, rfl⟩ : ∃ q, m = q + 1 := ⟨m - 1, by simp at h1; omega⟩
    have hp13 := hf p (by simp)
    have hp := hl p (by simp)
    have hxl : x.length ≤ 2000000 := by have := congrArg List.length hx; simp at this; omega
    have hjl : (joinE (p :: q :: ps)).length = p.length + 2 + (joinE (q :: ps)).length := by rw [joinE_cons]; simp; omega
    by_cases hc : x.length < p.length + 2
    · left
      have hno : Lib.index x [13, 10] = -1 := by
        have hx' : p ++ 13 :: 10 :: joinE (q :: ps) = x ++ z := by rw [← hx, joinE_cons p]
        by_cases hc2 : x.length ≤ p.length
        · have : x = p.take x.length := by
            have := congrArg (List.take x.length) hx'
            rw [List.take_append_of_le_length hc2, List.take_left] at this
            exact this.symm
          rw [this]
          exact idx_no 13 [10] _ fun h => hp13 (List.mem_of_mem_take h)
        · have : x = p ++ [13] := by
            have := congrArg (List.take x.length) hx'
            rw [List.take_left, List.take_append, List.take_of_length_le (by omega), show x.length - p.length = 1 by omega] at this
            exact this.symm
          rw [this]
          exact idx_no1 p hp13
      rw [field_lines.l0, cut_miss hno, if_pos (by omega), if_pos (by simp)]
    · obtain ⟨x', hx', hz'⟩ : ∃ x', x = p ++ 13 :: 10 :: x' ∧ joinE (q :: ps) = x' ++ z := by
        have h0 : p ++ 13 :: 10 :: joinE (q :: ps) = x ++ z := by rw [← hx, joinE_cons p]
        refine ⟨x.drop (p.length + 2), ?_, ?_⟩
        · have h2 := congrArg (List.take (p.length + 2)) h0
          rw [List.take_append_of_le_length (l₁ := x) (by omega)] at h2
          have h3 : (p ++ 13 :: 10 :: joinE (q :: ps)).take (p.length + 2) = p ++ [13, 10] := by
            rw [List.take_append, List.take_of_length_le (by omega)]; simp
          rw [h3] at h2
          conv => lhs; rw [← List.take_append_drop (p.length + 2) x, ← h2]
          simp
        · have h2 := congrArg (List.drop (p.length + 2)) h0
          rw [List.drop_append_of_le_length (l₁ := x) (by omega)] at h2
          rw [← h2, List.drop_append]
          simp
      have hcut : Lib.cut x [13, 10] = (p, x', true) := by rw [hx']; exact cut_crlf p x' hp13
      rw [field_lines.l0, hcut, if_pos (by omega)]
      dsimp only
      rw [if_neg (by simp), if_pos (by omega), show decide ((p.length : Int) > 998) = false by simp; omega]
      obtain ⟨r, hr⟩ := h32 q (by simp)
      cases hx2 : x' with
      | nil =>
        right
        exact ⟨0, by simp⟩
      | cons c y =>
        have hc32 : c = 32 := by
          rw [joinE_cons, hr, hx2] at hz'
          simp at hz'
          exact hz'.1.symm
        rw [if_pos (by intro _; simp), if_pos (by simp), bt_cons0, hc32, bl_ok, Option.bind_some, if_neg (by show ¬ ((false || !bl 32) = true); decide), Bool.or_self, ← hc32, ← hx2]
        rcases ih q m (line ++ p) x' z (by simp at h1; omega) (fun x hx => hf x (by simp [hx])) (fun x hx => h32 x (by simp [hx])) (fun x hx => hl x (by simp [hx])) hz' hz (by omega) (by rw [List.length_append]; omega) with h | ⟨i, h⟩
        · left; exact h
        · right
          refine ⟨i + 1, ?_⟩
          rw [h]; simp
theorem vis_nb {c : UInt8} (h : vis c = true) : bl c = false ∧ c ≠ 13 ∧ c ≠ 10 ∧ c ≠ 32 := by
  have key : ∀ n : Fin 256, vis (UInt8.ofNat n.val) = true → bl (UInt8.ofNat n.val) = false ∧ UInt8.ofNat n.val ≠ 13 ∧ UInt8.ofNat n.val ≠ 10 ∧ UInt8.ofNat n.val ≠ 32 := by decide +kernel
  have := key ⟨c.toNat, UInt8.toNat_lt _⟩
  simp only [UInt8.ofNat_toNat] at this
  exact this h
theorem nam_vis {c : UInt8} (h : nam c = true) : vis c = true ∧ c ≠ 58 := by
  unfold nam at h
  simp at h
  exact h
theorem named_parts {n : Str} (h : named n = true) : n.length ≤ 64 ∧ (∀ c ∈ n, vis c = true ∧ c ≠ 58) ∧ n ≠ [] := by
  unfold named alp at h
  simp only [Bool.and_eq_true, decide_eq_true_eq, List.all_eq_true] at h
  exact ⟨h.1, fun c hc => nam_vis (h.2.1 c hc), by simpa using h.2.2⟩
theorem trimS_self {v : Str} (h : prt true v = true) : Lib.trimS (32 :: v) [32, 9] = v := by
  have hcon : ∀ c : UInt8, ([32, 9] : Str).contains c = bl c := fun c => by simp [bl]; rfl
  cases v with
  | nil => rfl
  | cons c r =>
    have hc : vis c = true := by
      unfold prt at h
      split at h
      · simp at h
      · simp at h; exact h.1
    have hlast : ∀ (v : Str) (p : Bool) (d : UInt8), prt p v = true → v.getLast? = some d → vis d = true := by
      intro v
      induction v with
      | nil => intro p d _ h; simp at h
      | cons a s ih =>
        intro p d hp hd
        unfold prt at hp
        cases s with
        | nil =>
          simp at hd
          subst hd
          split at hp
          · simp at hp
          · simp at hp; exact hp.1
        | cons b t =>
          rw [List.getLast?_cons_cons] at hd
          split at hp
          · simp at hp; exact ih true d hp.2 hd
          · simp at hp; exact ih false d hp.2 hd
    unfold Lib.trimS Lib.trimRightS Lib.trimLeftS
    have hrev : ((32 :: c :: r : Str).reverse.dropWhile (([32, 9] : Str).contains ·)) = (32 :: c :: r : Str).reverse := by
      obtain ⟨d, hd⟩ : ∃ d, (c :: r).getLast? = some d := ⟨_, List.getLast?_eq_some_getLast (by simp)⟩
      have hv := hlast (c :: r) true d h hd
      cases hr : (32 :: c :: r : Str).reverse with
      | nil => rfl
      | cons e s =>
        have : e = d := by
          have h1 : (32 :: c :: r : Str).getLast? = some e := by rw [List.getLast?_eq_head?_reverse, hr]; rfl
          rw [List.getLast?_cons_cons, hd] at h1
          exact (Option.some.inj h1).symm
        rw [this, List.dropWhile_cons, if_neg (by rw [hcon, (vis_nb hv).1]; simp)]
    rw [hrev, List.reverse_reverse, List.dropWhile_cons, if_pos (by rw [hcon]; rfl), List.dropWhile_cons, if_neg (by rw [hcon, (vis_nb hc).1]; simp)]
theorem one_ok (k : Nat) (n v : Str) (hn : named n = true) (hv : v.all pln = true) (hl : v.length ≤ 1000000) (hk : 2000000 < k) :
    field_one k (n ++ 58 :: v) = some (⟨n, Lib.trimS v [32, 9]⟩, 0) := by
  obtain ⟨h64, hvis, hne⟩ := named_parts hn
  have h58 : (58 : UInt8) ∉ n := fun h => (hvis 58 h).2 rfl
  have hcut : Lib.cut (n ++ 58 :: v) [58] = (n, v, true) := cut_one 58 n v h58
  have hlen : (n ++ 58 :: v).length = n.length + 1 + v.length := by simp; omega
  obtain ⟨c, r, hcr⟩ : ∃ c r, n = c :: r := by
    cases n with
    | nil => exact absurd rfl hne
    | cons c r => exact ⟨c, r, rfl⟩
  have hbt : bt (n ++ 58 :: v) 0 = (c.toNat : Int) := by rw [hcr, List.cons_append, bt_cons0]
  have hcv := hvis c (by rw [hcr]; simp)
  rw [field_one, hcut, hlen, if_pos (by omega), if_pos (by simp; omega), hbt, bl_ok, Option.bind_some]
  dsimp only
  rw [if_neg (by rw [(vis_nb hcv.1).1]; simp), named_ok k n (by omega), Option.bind_some, if_neg (by rw [hn]; simp)]
  have hall : (((if ((!(v == ([] : Str))) == true) = true then field_all_2 k v else some default)).bind fun (t10 : Bool) => (if ((!(v == ([] : Str))) && (!t10)) = true then some ((T_api_Field.mk ([] : Str) ([] : Str)), (4 : Int)) else (if v.length ≤ 9223372036854775807 then (if ([32, 9] : Str).length < 4294967281 ∧ (([32, 9] : Str).all fun c => decide (c.toNat < 128)) = true then some ((T_api_Field.mk n (Lib.trimS v ([32, 9] : Str))), 0) else none) else none))) = some (⟨n, Lib.trimS v [32, 9]⟩, 0) := by
    rw [field_all_2_ok k v (by omega) (by omega)]
    by_cases h : v = []
    · subst h; rfl
    · have hb : (v == ([] : Str)) = false := by simpa using h
      rw [hb, if_pos (by decide), Option.bind_some, if_neg (by unfold alp; rw [hv, hb]; simp), if_pos (by omega), if_pos (by decide)]
  exact hall

def pl : Bool → Nat → Str → List Str → List Str
  | _, _, cur, [] => [cur]
  | any, n, cur, w :: ws => if brk any n w = true then cur :: pl true (nl any n w) (32 :: w) ws else pl true (nl any n w) (cur ++ 32 :: w) ws
theorem pl_ne : ∀ (ws : List Str) (any : Bool) (n : Nat) (cur : Str), ∃ p ps, pl any n cur ws = p :: ps ∧ (∃ t, p = cur ++ t) ∧ ∀ q ∈ ps, hd32 q
  | [], any, n, cur => ⟨cur, [], rfl, ⟨[], by simp⟩, by simp⟩
  | w :: ws, any, n, cur => by
    unfold pl
    split
    · obtain ⟨p, ps, e, ⟨t, ht⟩, h⟩ := pl_ne ws true (nl any n w) (32 :: w)
      refine ⟨cur, _, rfl, ⟨[], by simp⟩, ?_⟩
      rw [e]
      intro q hq
      rcases List.mem_cons.1 hq with rfl | hq
      · exact ⟨w ++ t, by rw [ht]; rfl⟩
      · exact h q hq
    · obtain ⟨p, ps, e, ⟨t, ht⟩, h⟩ := pl_ne ws true (nl any n w) (cur ++ 32 :: w)
      exact ⟨p, ps, e, ⟨32 :: w ++ t, by rw [ht]; simp⟩, h⟩
theorem pl_join : ∀ (ws : List Str) (any : Bool) (n : Nat) (cur t : Str), fl any n ws = some t → joinE (pl any n cur ws) = (cur ++ t) ++ [13, 10]
  | [], any, n, cur, t, h => by simp [fl] at h; subst h; simp [pl, joinE]
  | w :: ws, any, n, cur, t, h => by
    unfold fl at h
    split at h
    · simp at h
    · cases hf : fl true (nl any n w) ws with
      | none => rw [hf] at h; simp at h
      | some t0 =>
        rw [hf] at h
        simp at h
        subst h
        unfold pl crl
        split
        · rw [joinE_cons, pl_join ws _ _ _ t0 hf]; simp
        · rw [pl_join ws _ _ _ t0 hf]; simp
theorem pl_flat : ∀ (ws : List Str) (any : Bool) (n : Nat) (cur : Str), (pl any n cur ws).flatten = cur ++ ws.flatMap (32 :: ·)
  | [], any, n, cur => by simp [pl]
  | w :: ws, any, n, cur => by
    unfold pl
    split
    · rw [List.flatten_cons, pl_flat ws]; simp
    · rw [pl_flat ws]; simp
theorem pl_len : ∀ (ws : List Str) (any : Bool) (n : Nat) (cur t : Str), fl any n ws = some t → cur.length ≤ 998 → n = cur.length → ∀ q ∈ pl any n cur ws, q.length ≤ 998
  | [], any, n, cur, t, h, hc, hn => by simp [pl]; exact hc
  | w :: ws, any, n, cur, t, h, hc, hn => by
    unfold fl at h
    split at h
    · simp at h
    · rename_i hbig
      cases hf : fl true (nl any n w) ws with
      | none => rw [hf] at h; simp at h
      | some t0 =>
        unfold pl
        split
        · rename_i hb
          have e : nl any n w = (32 :: w : Str).length := by unfold nl; rw [if_pos hb]; simp; omega
          intro q hq
          rcases List.mem_cons.1 hq with rfl | hq
          · exact hc
          · exact pl_len ws _ _ _ t0 hf (by rw [← e]; omega) e q hq
        · rename_i hb
          have e : nl any n w = (cur ++ 32 :: w : Str).length := by unfold nl; rw [if_neg hb]; simp; omega
          exact pl_len ws _ _ _ t0 hf (by rw [← e]; omega) e
theorem pl_mem : ∀ (ws : List Str) (any : Bool) (n : Nat) (cur : Str), ∀ q ∈ pl any n cur ws, ∀ c ∈ q, c ∈ cur ∨ c = 32 ∨ ∃ w ∈ ws, c ∈ w
  | [], any, n, cur, q, hq, c, hc => by simp [pl] at hq; subst hq; exact .inl hc
  | w :: ws, any, n, cur, q, hq, c, hc => by
    unfold pl at hq
    split at hq
    · rcases List.mem_cons.1 hq with rfl | hq
      · exact .inl hc
      · rcases pl_mem ws _ _ _ q hq c hc with h | h | ⟨w', h1, h2⟩
        · rcases List.mem_cons.1 h with h | h
          · exact .inr (.inl h)
          · exact .inr (.inr ⟨w, by simp, h⟩)
        · exact .inr (.inl h)
        · exact .inr (.inr ⟨w', by simp [h1], h2⟩)
    · rcases pl_mem ws _ _ _ q hq c hc with h | h | ⟨w', h1, h2⟩
      · rcases List.mem_append.1 h with h | h
        · exact .inl h
        · rcases List.mem_cons.1 h with h | h
          · exact .inr (.inl h)
          · exact .inr (.inr ⟨w, by simp, h⟩)
      · exact .inr (.inl h)
      · exact .inr (.inr ⟨w', by simp [h1], h2⟩)
def pcsF (f : T_api_Field) : List Str := pl false (f.Name.length + 1) (f.Name ++ [58]) (wds f.Value)
structure Good (f : T_api_Field) : Prop where
  named : named f.Name = true
  wok : wok f.Value = true
  fl : ∃ t, fl false (f.Name.length + 1) (wds f.Value) = some t
theorem wds_vis {v : Str} (h : wok v = true) : ∀ w ∈ wds v, ∀ c ∈ w, vis c = true := fun w hw c hc => by
  unfold wok at h
  have := List.all_eq_true.1 h w hw
  unfold alp at this
  simp only [Bool.and_eq_true, List.all_eq_true] at this
  exact this.1 c hc
theorem foldF_good {f : T_api_Field} (h : (foldF f).2 = 0) : Good f ∧ (foldF f).1 = joinE (pcsF f) := by
  unfold foldF at h ⊢
  split at h
  · simp at h
  · rename_i h1
    split at h
    · simp at h
    · rename_i h2
      split at h
      · simp at h
      · rename_i t ht
        refine ⟨⟨by simpa using h1, by simpa using h2, t, ht⟩, ?_⟩
        rw [if_neg h1, if_neg h2]
        dsimp only
        unfold pcsF
        rw [pl_join _ _ _ _ t ht]
theorem pcsF_parts {f : T_api_Field} (g : Good f) : ∃ p ps, pcsF f = p :: ps ∧ (∃ t, p = f.Name ++ 58 :: t) ∧ (∀ q ∈ ps, hd32 q) ∧ (∀ q ∈ p :: ps, q.length ≤ 998) ∧ (∀ q ∈ p :: ps, ∀ c ∈ q, c = 32 ∨ vis c = true) := by
  obtain ⟨p, ps, e, ⟨t, ht⟩, h⟩ := pl_ne (wds f.Value) false (f.Name.length + 1) (f.Name ++ [58])
  obtain ⟨t0, hf⟩ := g.fl
  obtain ⟨h64, hvis, hne⟩ := named_parts g.named
  refine ⟨p, ps, e, ⟨t, by rw [ht]; simp⟩, h, ?_, ?_⟩
  · rw [← e]
    exact pl_len _ _ _ _ t0 hf (by simp; omega) (by simp)
  · rw [← e]
    intro q hq c hc
    rcases pl_mem _ _ _ _ q hq c hc with h | h | ⟨w, h1, h2⟩
    · rcases List.mem_append.1 h with h | h
      · exact .inr (hvis c h).1
      · simp at h; subst h; exact .inr (by decide)
    · exact .inl h
    · exact .inr (wds_vis g.wok w h1 c h2)
theorem free_of {ps : List Str} (h : ∀ q ∈ ps, ∀ c ∈ q, c = 32 ∨ vis c = true) : free13 ps := fun q hq hc => by
  rcases h q hq 13 hc with h | h
  · revert h; decide
  · exact (vis_nb h).2.1 rfl
theorem words_join {v : Str} : (wds v).flatMap (32 :: ·) = if v = [] then [] else 32 :: v := by
  unfold wds
  split
  · rfl
  · obtain ⟨h, t, e⟩ := pcs_ne 32 v
    have := pcs_join 32 v h t e
    rw [e, List.flatMap_cons, List.cons_append, this]
theorem pln_of {s : Str} (h : ∀ c ∈ s, c = 32 ∨ vis c = true) : s.all pln = true := List.all_eq_true.2 fun c hc => by
  unfold pln
  rcases h c hc with rfl | h
  · rfl
  · rw [h]; rfl
def txt (l : List T_api_Field) : Str := l.flatMap (fun f => joinE (pcsF f)) ++ [13, 10]
theorem txt_cons (f : T_api_Field) (l : List T_api_Field) : txt (f :: l) = joinE (pcsF f) ++ txt l := by simp [txt]
theorem printL_txt : ∀ {l : List T_api_Field}, (printL l).2 = 0 → (∀ f ∈ l, Good f) ∧ (printL l).1 = txt l
  | [], _ => ⟨by simp, rfl⟩
  | f :: r, h => by
    unfold printL at h ⊢
    split at h
    · rename_i h1; simp at h1; exact absurd h h1
    · rename_i h1
      simp at h1
      obtain ⟨g, e⟩ := foldF_good h1
      split at h
      · rename_i h2; simp at h2; exact absurd h h2
      · rename_i h2
        have h3 : (printL r).2 = 0 := by simpa using h2
        obtain ⟨g2, e2⟩ := printL_txt h3
        refine ⟨fun x hx => ?_, ?_⟩
        · rcases List.mem_cons.1 hx with rfl | hx
          · exact g
          · exact g2 x hx
        · rw [if_neg (by simp [h1]), if_neg (by simp [h3]), txt_cons, e, e2]
theorem joinE_head {p : Str} {ps : List Str} {n t : Str} (h : p = n ++ t) (hn : n ≠ []) : ∃ c r, n = c :: r ∧ ∃ s, joinE (p :: ps) = c :: s := by
  cases n with
  | nil => exact absurd rfl hn
  | cons c r => exact ⟨c, r, rfl, _, by rw [joinE_cons, h]; rfl⟩
theorem nb_txt {l : List T_api_Field} (hg : ∀ f ∈ l, Good f) (b : Str) : nb (txt l ++ b) ∧ txt l ++ b ≠ [] := by
  cases l with
  | nil =>
    refine ⟨fun c r h => ?_, by simp [txt]⟩
    simp [txt] at h
    rw [← h.1]; rfl
  | cons f l =>
    obtain ⟨p, ps, e, ⟨t, ht⟩, _⟩ := pcsF_parts (hg f (by simp))
    obtain ⟨_, hvis, hne⟩ := named_parts (hg f (by simp)).named
    obtain ⟨c, r, hc, s, hs⟩ := joinE_head (ps := ps) ht hne
    rw [txt_cons, e, hs]
    refine ⟨fun c' r' h => ?_, by simp⟩
    simp at h
    rw [← h.1]
    exact (vis_nb (hvis c (by rw [hc]; simp)).1).1
theorem cutP_no {s : Str} (h : ¬ ∃ r, s = 13 :: 10 :: r) : strings_CutPrefix s [13, 10] = some (s, false) := by
  rw [strings_CutPrefix, stringslite_CutPrefix, stringslite_HasPrefix, if_pos (by simp), Option.bind_some]
  have : (decide ((s.length : Int) ≥ (([13, 10] : Str).length : Int)) && (sl s 0 (([13, 10] : Str).length : Int) == ([13, 10] : Str))) = false := by
    have h2 : sl s 0 (([13, 10] : Str).length : Int) = s.take 2 := sl_nat0 s 2
    rw [h2]
    match s, h with
    | [], _ => rfl
    | [c], _ => simp
    | c :: d :: r, h =>
      simp
      intro _ hc hd
      exact h ⟨r, by rw [hc, hd]⟩
  rw [this, if_pos (by simp)]
  rfl
theorem cutP_yes (r : Str) : strings_CutPrefix (13 :: 10 :: r) [13, 10] = some (r, true) := by
  rw [strings_CutPrefix, stringslite_CutPrefix, stringslite_HasPrefix, if_pos (by simp), Option.bind_some]
  have : (decide (((13 :: 10 :: r : Str).length : Int) ≥ (([13, 10] : Str).length : Int)) && (sl (13 :: 10 :: r) 0 (([13, 10] : Str).length : Int) == ([13, 10] : Str))) = true := by
    have h2 : sl (13 :: 10 :: r) 0 (([13, 10] : Str).length : Int) = (13 :: 10 :: r).take 2 := sl_nat0 _ 2
    rw [h2]
    simp
    omega
  rw [this, if_neg (by simp), if_pos (by simp; omega), Option.bind_some]
  have h3 : sl (13 :: 10 :: r) (([13, 10] : Str).length : Int) ((13 :: 10 :: r : Str).length : Int) = r := sl_end _ 2
  rw [h3]
theorem flat_le : ∀ (qs : List Str) (j : Nat), (qs.take j).flatten.length ≤ (joinE qs).length
  | [], j => by simp
  | q :: qs, 0 => by simp
  | q :: qs, j + 1 => by
    have := flat_le qs j
    rw [List.take_succ_cons, joinE_cons, List.flatten_cons]
    simp only [List.length_append, List.length_cons]
    omega
theorem len_le (qs : List Str) : qs.length ≤ (joinE qs).length := by
  induction qs with
  | nil => simp
  | cons q qs ih => rw [joinE_cons]; simp; omega
theorem parse_l (k : Nat) (hk : 2000000 < k) (b : Str) : ∀ (l : List T_api_Field) (m : Nat) (y : List T_api_Field), l.length < m → y.length + l.length ≤ 8 → (∀ f ∈ l, Good f) → (txt l ++ b).length ≤ 1000000 →
    field_Parse.l0 k m y (txt l ++ b) = some (y ++ l, b, 0) := by
  intro l
  induction l with
  | nil =>
    intro m y h1 h2 hg hlen
    obtain ⟨m, rfl⟩ : ∃ q, m = q + 1 := ⟨m - 1, by omega⟩
    rw [field_Parse.l0, show txt [] ++ b = 13 :: 10 :: b from rfl, cutP_yes, Option.bind_some, if_pos rfl]
    simp
  | cons f l ih =>
    intro m y h1 h2 hg hlen
    obtain ⟨m, rfl⟩ : ∃ q, m = q + 1 := ⟨m - 1, by simp at h1; omega⟩
    have g := hg f (by simp)
    obtain ⟨p, ps, e, ⟨t, ht⟩, h32, h998, hch⟩ := pcsF_parts g
    obtain ⟨h64, hvis, hne⟩ := named_parts g.named
    obtain ⟨c, r, hc, s, hs⟩ := joinE_head (ps := ps) ht hne
    obtain ⟨hnb, _⟩ := nb_txt (l := l) (fun x hx => hg x (by simp [hx])) b
    have hcv := vis_nb (hvis c (by rw [hc]; simp)).1
    have htx : txt (f :: l) ++ b = joinE (p :: ps) ++ (txt l ++ b) := by rw [txt_cons, e]; simp
    have hjl : (joinE (p :: ps)).length + (txt l ++ b).length ≤ 1000000 := by rw [htx, List.length_append] at hlen; exact hlen
    have hps : ps.length ≤ (joinE (p :: ps)).length := by
      have := len_le (p :: ps); simp at this; omega
    rw [htx, field_Parse.l0, cutP_no (by
      rintro ⟨z, hz⟩
      rw [hs] at hz
      simp at hz
      exact hcv.2.1 hz.1), Option.bind_some, if_neg (by simp), field_lines, lines_l k ps p k [] (txt l ++ b) (by omega) (free_of hch) h32 h998 hnb (by rw [List.length_append]; omega) (by simp; omega), Option.bind_some]
    dsimp only
    rw [if_neg (by simp), if_neg (by simp at h2; simp; omega)]
    have hflat : ([] : Str) ++ (p :: ps).flatten = f.Name ++ 58 :: (if f.Value = [] then [] else 32 :: f.Value) := by
      rw [← e, pcsF, pl_flat, words_join]; simp
    have hvl : (if f.Value = [] then [] else 32 :: f.Value : Str).length ≤ 1000000 := by
      have h5 := congrArg List.length hflat
      have h6 : (p :: ps).flatten.length ≤ (joinE (p :: ps)).length := by
        have := flat_le (p :: ps) (p :: ps).length
        rwa [List.take_length] at this
      rw [List.nil_append, List.length_append, List.length_cons] at h5
      omega
    have hpl : (if f.Value = [] then [] else 32 :: f.Value : Str).all pln = true := by
      refine pln_of fun c hc => ?_
      rw [← words_join] at hc
      obtain ⟨w, hw, hcw⟩ := List.mem_flatMap.1 hc
      rcases List.mem_cons.1 hcw with h | h
      · exact .inl h
      · exact .inr (wds_vis g.wok w hw c h)
    have htr : Lib.trimS (if f.Value = [] then [] else 32 :: f.Value) [32, 9] = f.Value := by
      by_cases hv : f.Value = []
      · rw [if_pos hv, hv]; rfl
      · rw [if_neg hv]; exact trimS_self (by rw [← wok_prt]; exact g.wok)
    rw [hflat, one_ok k _ _ g.named hpl hvl hk, Option.bind_some, htr]
    dsimp only
    rw [if_neg (by simp), if_pos (by simp at h2; simp; omega)]
    rw [ih m _ (by simp at h1; omega) (by simp at h2 ⊢; omega) (fun x hx => hg x (by simp [hx])) (by omega)]
    simp
theorem parse_nil (k : Nat) (hk : 2000000 < k) (m : Nat) (y : List T_api_Field) (x : Str) (hx : x = [] ∨ x = [13]) : field_Parse.l0 k (m + 1) y x = some ([], [], 2) := by
  obtain ⟨k, rfl⟩ : ∃ q, k = q + 1 := ⟨k - 1, by omega⟩
  rw [field_Parse.l0, cutP_no (by rintro ⟨r, h⟩; rcases hx with rfl | rfl <;> simp at h), Option.bind_some, if_neg (by simp), field_lines, field_lines.l0, cut_miss (by rcases hx with rfl | rfl <;> rfl), if_pos (by rcases hx with rfl | rfl <;> simp), if_pos (by simp), Option.bind_some, if_pos (by simp)]
theorem parse_cut (k : Nat) (hk : 2000000 < k) : ∀ (l : List T_api_Field) (m : Nat) (y : List T_api_Field) (x z : Str), l.length + 1 < m → y.length + l.length ≤ 8 → (∀ f ∈ l, Good f) → txt l = x ++ z → z ≠ [] → (txt l).length ≤ 1000000 →
    field_Parse.l0 k m y x = some ([], [], 2) := by
  intro l
  induction l with
  | nil =>
    intro m y x z h1 h2 hg hx hz hlen
    obtain ⟨m, rfl⟩ : ∃ q, m = q + 1 := ⟨m - 1, by omega⟩
    refine parse_nil k hk m y x ?_
    match x, hx with
    | [], _ => exact .inl rfl
    | [c], hx => simp [txt] at hx; exact .inr (by rw [hx.1])
    | c :: d :: r, hx =>
      have h3 : (txt []).length = 2 := rfl
      have h4 := congrArg List.length hx
      have h5 := List.length_pos_iff.2 hz
      rw [h3, List.length_append, List.length_cons, List.length_cons] at h4
      omega
  | cons f l ih =>
    intro m y x z h1 h2 hg hx hz hlen
    obtain ⟨m, rfl⟩ : ∃ q, m = q + 2 := ⟨m - 2, by simp at h1; omega⟩
    have g := hg f (by simp)
    obtain ⟨p, ps, e, ⟨t, ht⟩, h32, h998, hch⟩ := pcsF_parts g
    obtain ⟨h64, hvis, hne⟩ := named_parts g.named
    obtain ⟨c, r, hc, s, hs⟩ := joinE_head (ps := ps) ht hne
    have hcv := vis_nb (hvis c (by rw [hc]; simp)).1
    have htx : txt (f :: l) = joinE (p :: ps) ++ txt l := by rw [txt_cons, e]
    have hjl : (joinE (p :: ps)).length + (txt l).length ≤ 1000000 := by rw [htx, List.length_append] at hlen; exact hlen
    have hps : ps.length ≤ (joinE (p :: ps)).length := by
      have := len_le (p :: ps); simp at this; omega
    rw [htx] at hx
    have hxh : ¬ ∃ r, x = 13 :: 10 :: r := by
      rintro ⟨r', hr⟩
      rw [hr, hs] at hx
      simp at hx
      exact hcv.2.1 hx.1
    -- the field of the line, or of the line's beginning
    have hone : ∀ i, ∃ v, field_one k (([] : Str) ++ ((p :: ps).take (i + 1)).flatten) = some (⟨f.Name, v⟩, 0) := fun i => by
      have e1 : ([] : Str) ++ ((p :: ps).take (i + 1)).flatten = f.Name ++ 58 :: (t ++ (ps.take i).flatten) := by
        rw [List.take_succ_cons, List.flatten_cons, ht]; simp
      have hmem : ∀ c ∈ t ++ (ps.take i).flatten, c = 32 ∨ vis c = true := fun c hc => by
        rcases List.mem_append.1 hc with h | h
        · exact hch p (by simp) c (by rw [ht]; simp [h])
        · obtain ⟨q, hq, hcq⟩ := List.mem_flatten.1 h
          exact hch q (by simp [List.mem_of_mem_take hq]) c hcq
      have hl6 : (t ++ (ps.take i).flatten).length ≤ 1000000 := by
        have h5 := congrArg List.length e1
        have h6 : ((p :: ps).take (i + 1)).flatten.length ≤ (joinE (p :: ps)).length := flat_le _ _
        rw [List.nil_append, List.length_append, List.length_cons] at h5
        omega
      exact ⟨_, by rw [e1]; exact one_ok k _ _ g.named (pln_of hmem) hl6 hk⟩
    by_cases hcase : x.length < (joinE (p :: ps)).length
    · -- within this field
      obtain ⟨z', hz1, hz2⟩ : ∃ z', joinE (p :: ps) = x ++ z' ∧ z' ≠ [] := by
        refine ⟨(joinE (p :: ps)).drop x.length, ?_, ?_⟩
        · have := congrArg (List.take x.length) hx
          rw [List.take_append_of_le_length (by omega), List.take_left] at this
          conv => lhs; rw [← List.take_append_drop x.length (joinE (p :: ps)), this]
        · simp; omega
      rw [field_Parse.l0, cutP_no hxh, Option.bind_some, if_neg (by simp), field_lines]
      rcases lines_cut k ps p k [] x z' (by omega) (free_of hch) h32 h998 hz1 hz2 (by omega) (by simp; omega) with h | ⟨i, h⟩
      · rw [h, Option.bind_some, if_pos (by simp)]
      · obtain ⟨v, hv⟩ := hone i
        rw [h, Option.bind_some]
        dsimp only
        rw [if_neg (by simp), if_neg (by simp at h2; simp; omega), hv, Option.bind_some]
        dsimp only
        rw [if_neg (by simp), if_pos (by simp at h2; simp; omega)]
        exact parse_nil k hk m _ [] (.inl rfl)
    · -- behind it
      obtain ⟨x', hx1, hx2⟩ : ∃ x', x = joinE (p :: ps) ++ x' ∧ txt l = x' ++ z := by
        refine ⟨x.drop (joinE (p :: ps)).length, ?_, ?_⟩
        · have := congrArg (List.take (joinE (p :: ps)).length) hx
          rw [List.take_left, List.take_append_of_le_length (by omega)] at this
          conv => lhs; rw [← List.take_append_drop (joinE (p :: ps)).length x, ← this]
        · have := congrArg (List.drop (joinE (p :: ps)).length) hx
          rw [List.drop_left, List.drop_append_of_le_length (by omega)] at this
          exact this
      have hnb' : nb x' := fun c' r' h => by
        have := (nb_txt (l := l) (fun y hy => hg y (by simp [hy])) []).1 c' (r' ++ z) (by rw [List.append_nil, hx2, h]; rfl)
        exact this
      have hx'l : x'.length ≤ (txt l).length := by rw [hx2]; simp
      obtain ⟨v, hv⟩ := hone ps.length
      rw [List.take_of_length_le (by simp)] at hv
      rw [field_Parse.l0, cutP_no hxh, Option.bind_some, if_neg (by simp), field_lines, hx1, lines_l k ps p k [] x' (by omega) (free_of hch) h32 h998 hnb' (by rw [List.length_append]; omega) (by simp; omega), Option.bind_some]
      dsimp only
      rw [if_neg (by simp), if_neg (by simp at h2; simp; omega), hv, Option.bind_some]
      dsimp only
      rw [if_neg (by simp), if_pos (by simp at h2; simp; omega)]
      exact ih (m + 1) _ x' z (by simp at h1; omega) (by simp at h2 ⊢; omega) (fun y hy => hg y (by simp [hy])) hx2 hz (by omega)
end Go.Proofs.YtpdhjbjkakpejaaDoor.Pure
