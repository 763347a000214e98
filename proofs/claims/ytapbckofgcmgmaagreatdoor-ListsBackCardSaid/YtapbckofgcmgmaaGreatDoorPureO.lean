import Derived.Test.YtapbckofgcmgmaaGreatDoorPureN
namespace Go.Proofs.YtapbckofgcmgmaaGreatDoor.Pure
open Go Go.RowKit Go.Proofs.Vx Go.Proofs.YtapbckofgcmgmaaGreatDoor.Sh
set_option linter.unusedSimpArgs false
set_option linter.unusedVariables false
def listsF:List T_api_Node→Option (List T_api_Entry)
 | [] => some []
 | n :: r => match listS n with
  | none => none
  | some e => (listsF r).map fun l => e :: l
def decD (y:List T_api_Entry):List T_api_Entry × Int:=if uqF [] y=true then (y,0) else ([],41)
def decS (n:T_api_Node):List T_api_Entry × Int:=if (blankS n && isE n SPl wRLs)=true then (match listsF (kidsS n SPl) with | some r => decD r | none => ([],40)) else ([],40)
theorem wEL_app:∀ a b:List T_api_Entry,wEL (a ++ b)=wEL a + wEL b
 | [],b => by simp [wEL]
 | x :: a,b => by rw [List.cons_append,wEL,wEL,wEL_app a b]; omega
theorem wtL_drop {l:List T_api_Node} {i:Nat} (hi:i < l.length):wtL (l.drop i)=wt (rd l (i:Int)) + wtL (l.drop (i + 1)):=by rw [rd_drop hi,wtL]
theorem decode_l (k:Nat) (hk:36000000000 ≤ k) (l:List T_api_Node) (b:Bool) (hl:∀ q ∈ l,wt q ≤ 4000000000) (h9:l.length ≤ 4000000000):∀ (m i:Nat) (y:List T_api_Entry),i ≤ l.length→l.length < i + m→y.length ≤ i→wEL y + wtL (l.drop i) ≤ 4000000000→
  lists_Decode.l0 k (l,b) m y (i:Int)=some (match listsF (l.drop i) with | some r => decD (y ++ r) | none => ([],40)):=by
 intro m
 induction m with
 | zero => intro i y h1 h2; omega
 | succ m ih =>
  intro i y h1 h2 h3 h4
  unfold lists_Decode.l0
  dsimp only
  by_cases hi:i < l.length
  ·rw [if_pos (by simp; omega),if_pos (by omega)]
   have hq:=hl _ (rd_mem hi)
   have hd:=wtL_drop hi
   rw [list_eq (wt (rd l (i:Int))) k _ (Nat.le_refl _) hq (by omega),Option.bind_some,rd_drop hi,listsF]
   cases h:listS (rd l (i:Int)) with
   | none => simp [optE]
   | some e =>
    have he:=list_wt _ e h
    simp only [optE,Bool.not_true,Bool.false_eq_true,if_false]
    rw [if_pos (by simp; omega),wi (by omega),ih (i + 1) _ (by omega) (by omega) (by simp; omega) (by rw [wEL_app,wEL,wEL]; omega)]
    cases listsF (l.drop (i + 1)) <;> simp
  ·rw [if_neg (by simp; omega),List.drop_of_length_le (by omega),luq_eq (wEL y + 1) k y (by omega) (by omega) (by omega),Option.bind_some,listsF]
   simp only [List.append_nil,decD]
   cases uqF [] y <;> simp
theorem wtL_filter (p:T_api_Node→Bool):∀ l:List T_api_Node,wtL (l.filter p) ≤ wtL l
 | [] => Nat.le_refl _
 | q :: l => by
  have:=wtL_filter p l
  rw [List.filter_cons]
  split
  ·rw [wtL,wtL]; omega
  ·rw [wtL]; omega
theorem decode_eq (k:Nat) (hk:36000000000 ≤ k) (n:T_api_Node) (hw:wt n ≤ 4000000000):lists_Decode k n=some (decS n):=by
 unfold lists_Decode decS
 have hf:wtL (kidsS n SPl) ≤ wt n:=by have:=wtL_filter (inS SPl) n.Kids; have:=wt_eq n; unfold kidsS; omega
 have hlen:=wtL_len (kidsS n SPl)
 rw [lkids_eq k (by omega) n hw,Option.bind_some]
 cases hb:blankS n with
 | false => simp
 | true =>
  have his:=is_eq n wRLs
  unfold wRLs at his ⊢
  simp only [if_true,Bool.not_true,Bool.true_and]
  rw [if_pos (by decide),his,Option.bind_some]
  cases isE n SPl [114,101,115,111,117,114,99,101,45,108,105,115,116,115] with
  | false => simp
  | true =>
   rw [if_neg (by decide)]
   have:=decode_l k hk (kidsS n SPl) true (fun q hq => by have:=kids_wt hq; omega) (by omega) k 0 [] (by omega) (by omega) (by simp) (by rw [wEL,List.drop_zero]; omega)
   rw [List.drop_zero] at this
   simpa using this
theorem lists_enc:∀ l:List T_api_Entry,l.all okX=true→listsF (encL l)=some l
 | [],_ => by rw [encL]; rfl
 | x :: l,h => by
  simp only [List.all_cons,Bool.and_eq_true,okX,beq_iff_eq] at h
  have:=list_enc x h.1.2 h.1.1
  rw [encL,listsF,this]
  simp only
  rw [lists_enc l (by simpa [okX] using h.2)]; rfl
theorem back {l:List T_api_Entry} (h:(encS l).2=0):decS (encS l).1=(l,0) ∧ l.all okX=true ∧ uqF [] l=true:=by
 unfold encS at h ⊢
 cases h1:l.all okX with
 | false => rw [h1,if_neg (by decide)] at h; cases h
 | true =>
  cases h2:uqF [] l with
  | false => rw [h1,h2,if_pos rfl,if_neg (by decide)] at h; cases h
  | true =>
   refine⟨?_,rfl,rfl⟩
   rw [if_pos rfl,if_pos rfl]
   have e1:=elem_in (encL_elem l)
   have e2:=elem_bad (encL_elem l)
   unfold decS
   rw [el_isE,el_kids,e1,lists_enc l h1]
   have hb:blankS (elS SPl wRLs [] [] (encL l))=true:=by unfold blankS; rw [show (elS SPl wRLs [] [] (encL l)).Kids=encL l from rfl,e2]; rfl
   rw [hb]
   simp [decD,h2]
theorem lists_may:∀ (l:List T_api_Node) (r:List T_api_Entry),listsF l=some r→r.all okX=true
 | [],r,h => by cases h; rfl
 | n :: l,r,h => by
  rw [listsF] at h
  cases hn:listS n with
  | none => rw [hn] at h; cases h
  | some e =>
   rw [hn] at h
   simp only at h
   cases hr:listsF l with
   | none => rw [hr] at h; cases h
   | some r' =>
    rw [hr] at h
    cases h
    have h1:=list_may n e hn
    have h2:=lists_may l r' hr
    simp [okX,h1.1,h1.2.1] at h2 ⊢
    exact h2
theorem lists_wT:∀ (l:List T_api_Node) (r:List T_api_Entry),listsF l=some r→wTL r ≤ wtL l
 | [],r,h => by cases h; simp [wTL]
 | n :: l,r,h => by
  rw [listsF] at h
  cases hn:listS n with
  | none => rw [hn] at h; cases h
  | some e =>
   rw [hn] at h
   simp only at h
   cases hr:listsF l with
   | none => rw [hr] at h; cases h
   | some r' =>
    rw [hr] at h
    cases h
    have h1:=list_wT n e hn
    have h2:=lists_wT l r' hr
    rw [wTL,wtL]; omega
theorem dec_enc {n:T_api_Node} (h:(decS n).2=0):(encS (decS n).1).2=0 ∧ wTL (decS n).1 ≤ wt n:=by
 unfold decS at h ⊢
 cases hb:blankS n && isE n SPl wRLs with
 | false => rw [hb,if_neg (by decide)] at h; cases h
 | true =>
  rw [hb,if_pos rfl] at h
  rw [if_pos rfl]
  cases hr:listsF (kidsS n SPl) with
  | none => rw [hr] at h; cases h
  | some r =>
   rw [hr] at h
   simp only [decD] at h ⊢
   cases hu:uqF [] r with
   | false => rw [hu,if_neg (by decide)] at h; cases h
   | true =>
    rw [if_pos rfl]
    have h1:=lists_may _ r hr
    have h2:=lists_wT _ r hr
    have h3:wtL (kidsS n SPl) ≤ wt n:=by have:=wtL_filter (inS SPl) n.Kids; have:=wt_eq n; unfold kidsS; omega
    refine⟨?_,show wTL r ≤ wt n by omega⟩
    show (encS r).2=0
    unfold encS
    rw [if_pos h1,if_pos hu]
theorem enc_no {l:List T_api_Entry} (h:(encS l).2 ≠ 0):(encS l).1=noN:=by
 unfold encS at h ⊢
 split
 ·split
  ·rename_i h1 h2; rw [if_pos h1,if_pos h2] at h; exact absurd rfl h
  ·rfl
 ·rfl
theorem check_eq (k:Nat) (hk:36000000000 ≤ k) (n:T_api_Node) (hw:wt n ≤ 4000000000):lists_Check k n=some (decS n).2:=by
 unfold lists_Check; rw [decode_eq k hk n hw]; rfl
theorem back_j (k:Nat) (hk:36000000000 ≤ k) (c0:Int→Str→Str→List T_api_Attr→List T_api_Node→Str→List T_api_Entry→Int→Option Bool) (a:Int) (b c:Str) (d:List T_api_Attr) (e:List T_api_Node) (f:Str) (x:Int) (l:List T_api_Entry) (hw:wTL l ≤ 100000000)
  (h:x=1→(encS l).2=0) (hc:c0 a b c d e f l (IntKind.i64.wrap (x + 1))=some true):watchbilllaw16_ListsBack.j1 k c0 a b c d e f x l=some true:=by
 unfold watchbilllaw16_ListsBack.j1
 have hwt:=wt_encS l
 have hle:=wEL_le l
 rw [lencode_eq k hk l hw,Option.bind_some]
 by_cases h0:(encS l).2=0
 ·obtain⟨hb,_,_⟩:=back h0
  rw [if_neg (by simp [h0]),decode_eq k hk _ (by omega),Option.bind_some,hb]
  simp only
  rw [if_pos (by decide),same16_eq (wEL l + 1) k l (by omega) (by omega) (by omega),Option.bind_some,if_pos (by decide),check_eq k hk _ (by omega),Option.bind_some,hb]
  rw [if_neg (by simp)]
  exact hc
 ·rw [if_pos (by simpa using h0),enc_no h0]
  have hx:x ≠ 1:=fun e => h0 (h e)
  rw [if_neg (by simp [hx,noN])]
  exact hc
theorem ListsBack_k (k:Nat) (hk:36000000000 ≤ k) (hA:watchbilllaw16_awake k=some true) (l:List T_api_Entry) (n:T_api_Node):watchbilllaw16_ListsBack k l n=some true:=by
 unfold watchbilllaw16_ListsBack
 obtain⟨b,hb,hbw⟩:=few16_eq k (by omega) l
 obtain⟨c,hc,hcw⟩:=few_eq k (by omega) n
 rw [hA,Option.bind_some,if_neg (by decide),hb,Option.bind_some]
 cases b with
 | false => rw [if_neg (by simp),Option.bind_some,if_pos (by simp)]
 | true =>
  rw [if_pos (by simp),hc,Option.bind_some]
  cases c with
  | false => rw [if_pos (by simp)]
  | true =>
   have h1:=hbw rfl
   have h2:=hcw rfl
   have h3:=wTL_le l
   rw [if_neg (by simp)]
   obtain⟨m,rfl⟩:∃ m,k=m + 3:=⟨k - 3,by omega⟩
   unfold watchbilllaw16_ListsBack.l0
   rw [if_pos (by decide),if_neg (by decide)]
   refine back_j (m + 3) hk _ _ _ _ _ _ _ _ _ (by omega) (fun h => by cases h) ?_
   rw [show IntKind.i64.wrap (0 + 1)=1 by decide]
   unfold watchbilllaw16_ListsBack.l0
   rw [if_pos (by decide),if_pos (by decide),nd_eta,decode_eq (m + 3) hk n (by omega),Option.bind_some]
   by_cases h0:(decS n).2=0
   ·rw [if_neg (by simp [h0])]
    obtain⟨e1,e2⟩:=dec_enc h0
    refine back_j (m + 3) hk _ _ _ _ _ _ _ _ _ (by omega) (fun _ => e1) ?_
    rw [show IntKind.i64.wrap (1 + 1)=2 by decide]
    unfold watchbilllaw16_ListsBack.l0
    rw [if_neg (by decide)]
   ·rw [if_pos (by simpa using h0)]
theorem ListsBack (l:List T_api_Entry) (n:T_api_Node):∃ k,watchbilllaw16_ListsBack k l n=some true:=⟨36000000000,ListsBack_k 36000000000 (Nat.le_refl _) awake l n⟩
end Go.Proofs.YtapbckofgcmgmaaGreatDoor.Pure
