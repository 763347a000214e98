import Derived.Test.YtapbckofgcmgmaaGreatDoorPureN
namespace Go.Proofs.YtapbckofgcmgmaaGreatDoor.Pure
open Go Go.RowKit Go.Proofs.Vx Go.Proofs.YtapbckofgcmgmaaGreatDoor.Sh
set_option linter.unusedSimpArgs false
set_option linter.unusedVariables false
def listsF:List T_api_Node→Option (List T_api_Entry)
 | [] => some []
 | n :: r => match listS n with
  | none => none
  | some e => (listsF r).map fun l => e :: l
def decD (y:List T_api_Entry):List T_api_Entry × Int:=if uqF [] y=true then (y,0) else ([],41)
def decS (n:T_api_Node):List T_api_Entry × Int:=if (blankS n && isE n SPl wRLs)=true then (match listsF (kidsS n SPl) with | some r => decD r | none => ([],40)) else ([],40)
theorem wEL_app:∀ a b:List T_api_Entry,wEL (a ++ b)=wEL a + wEL b
 | [],b => by simp [wEL]
 | x :: a,b => by rw [List.cons_append,wEL,wEL,wEL_app a b]; omega
theorem wtL_drop {l:List T_api_Node} {i:Nat} (hi:i < l.length):wtL (l.drop i)=wt (rd l (i:Int)) + wtL (l.drop (i + 1)):=by rw [rd_drop hi,wtL]
theorem decode_l (k:Nat) (hk:36000000000 ≤ k) (l:List T_api_Node) (b:Bool) (hl:∀ q ∈ l,wt q ≤ 4000000000) (h9:l.length ≤ 4000000000):∀ (m i:Nat) (y:List T_api_Entry),i ≤ l.length→l.length < i + m→y.length ≤ i→wEL y + wtL (l.drop i) ≤ 4000000000→
  lists_Decode.l0 k (l,b) m y (i:Int)=some (match listsF (l.drop i) with | some r => decD (y ++ r) | none => ([],40)):=by
 intro m
 induction m with
 | zero => intro i y h1 h2; omega
 | succ m ih =>
  intro i y h1 h2 h3 h4
  unfold lists_Decode.l0
  dsimp only
  by_cases hi:i < l.length
  ·rw [if_pos (by simp; omega),if_pos (by omega)]
   have hq:=hl _ (rd_mem hi)
   have hd:=wtL_drop hi
   rw [list_eq (wt (rd l (i:Int))) k _ (Nat.le_refl _) hq (by omega),Option.bind_some,rd_drop hi,listsF]
   cases h:listS (rd l (i:Int)) with
   | none => simp [optE]
   | some e =>
    have he:=list_wt _ e h
    simp only [optE,Bool.not_true,Bool.false_eq_true,if_false]
    rw [if_pos (by simp; omega),wi (by omega),ih (i + 1) _ (by omega) (by omega) (by simp; omega) (by rw [wEL_app,wEL,wEL]; omega)]
    cases listsF (l.drop (i + 1)) <;> simp
  ·rw [if_neg (by simp; omega),List.drop_of_length_le (by omega),luq_eq (wEL y + 1) k y (by omega) (by omega) (by omega),Option.bind_some,listsF]
   simp only [List.append_nil,decD]
   cases uqF [] y <;> simp
theorem wtL_filter (p:T_api_Node→Bool):∀ l:List T_api_Node,wtL (l.filter p) ≤ wtL l
 | [] => Nat.le_refl _
 | q :: l => by
  have:=wtL_filter p l
  rw [List.filter_cons]
  split
  ·rw [wtL,wtL]; omega
  ·rw [wtL]; omega
theorem decode_eq (k:Nat) (hk:36000000000 ≤ k) (n:T_api_Node) (hw:wt n ≤ 4000000000):lists_Decode k n=some (decS n):=by
 unfold lists_Decode decS
 have hf:wtL (kidsS n SPl) ≤ wt n:=by have:=wtL_filter (inS SPl) n.Kids; have:=wt_eq n; unfold kidsS; omega
 have hlen:=wtL_len (kidsS n SPl)
 rw [lkids_eq k (by omega) n hw,Option.bind_some]
 cases hb:blankS n with
 | false => simp
 | true =>
  have his:=is_eq n wRLs
  unfold wRLs at his ⊢
  simp only [if_true,Bool.not_true,Bool.true_and]
  rw [if_pos (by decide),his,Option.bind_some]
  cases isE n SPl [114,101,115,111,117,114,99,101,45,108,105,115,116,115] with
  | false => simp
  | true =>
   rw [if_neg (by decide)]
   have:=decode_l k hk (kidsS n SPl) true (fun q hq => by have:=kids_wt hq; omega) (by omega) k 0 [] (by omega) (by omega) (by simp) (by rw [wEL,List.drop_zero]; omega)
   rw [List.drop_zero] at this
   simpa using this
theorem lists_may:∀ (l:List T_api_Node) (r:List T_api_Entry),listsF l=some r→r.all okX=true
 | [],r,h => by cases h; rfl
 | n :: l,r,h => by
  rw [listsF] at h
  cases hn:listS n with
  | none => rw [hn] at h; cases h
  | some e =>
   rw [hn] at h
   simp only at h
   cases hr:listsF l with
   | none => rw [hr] at h; cases h
   | some r' =>
    rw [hr] at h
    cases h
    have h1:=list_may n e hn
    have h2:=lists_may l r' hr
    simp [okX,h1.1,h1.2.1] at h2 ⊢
    exact h2
theorem lists_wT:∀ (l:List T_api_Node) (r:List T_api_Entry),listsF l=some r→wTL r ≤ wtL l
 | [],r,h => by cases h; simp [wTL]
 | n :: l,r,h => by
  rw [listsF] at h
  cases hn:listS n with
  | none => rw [hn] at h; cases h
  | some e =>
   rw [hn] at h
   simp only at h
   cases hr:listsF l with
   | none => rw [hr] at h; cases h
   | some r' =>
    rw [hr] at h
    cases h
    have h1:=list_wT n e hn
    have h2:=lists_wT l r' hr
    rw [wTL,wtL]; omega
end Go.Proofs.YtapbckofgcmgmaaGreatDoor.Pure
