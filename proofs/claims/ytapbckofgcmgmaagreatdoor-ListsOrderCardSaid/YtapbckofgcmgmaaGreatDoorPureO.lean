import Derived.Test.YtapbckofgcmgmaaGreatDoorPureN
namespace Go.Proofs.YtapbckofgcmgmaaGreatDoor.Pure
open Go Go.RowKit Go.Proofs.Vx Go.Proofs.YtapbckofgcmgmaaGreatDoor.Sh
set_option linter.unusedSimpArgs false
set_option linter.unusedVariables false
def listsF:List T_api_Node→Option (List T_api_Entry)
 | [] => some []
 | n :: r => match listS n with
  | none => none
  | some e => (listsF r).map fun l => e :: l
def decD (y:List T_api_Entry):List T_api_Entry × Int:=if uqF [] y=true then (y,0) else ([],41)
def decS (n:T_api_Node):List T_api_Entry × Int:=if (blankS n && isE n SPl wRLs)=true then (match listsF (kidsS n SPl) with | some r => decD r | none => ([],40)) else ([],40)
theorem wEL_app:∀ a b:List T_api_Entry,wEL (a ++ b)=wEL a + wEL b
 | [],b => by simp [wEL]
 | x :: a,b => by rw [List.cons_append,wEL,wEL,wEL_app a b]; omega
theorem wtL_drop {l:List T_api_Node} {i:Nat} (hi:i < l.length):wtL (l.drop i)=wt (rd l (i:Int)) + wtL (l.drop (i + 1)):=by rw [rd_drop hi,wtL]
theorem decode_l (k:Nat) (hk:36000000000 ≤ k) (l:List T_api_Node) (b:Bool) (hl:∀ q ∈ l,wt q ≤ 4000000000) (h9:l.length ≤ 4000000000):∀ (m i:Nat) (y:List T_api_Entry),i ≤ l.length→l.length < i + m→y.length ≤ i→wEL y + wtL (l.drop i) ≤ 4000000000→
  lists_Decode.l0 k (l,b) m y (i:Int)=some (match listsF (l.drop i) with | some r => decD (y ++ r) | none => ([],40)):=by
 intro m
 induction m with
 | zero => intro i y h1 h2; omega
 | succ m ih =>
  intro i y h1 h2 h3 h4
  unfold lists_Decode.l0
  dsimp only
  by_cases hi:i < l.length
  ·rw [if_pos (by simp; omega),if_pos (by omega)]
   have hq:=hl _ (rd_mem hi)
   have hd:=wtL_drop hi
   rw [list_eq (wt (rd l (i:Int))) k _ (Nat.le_refl _) hq (by omega),Option.bind_some,rd_drop hi,listsF]
   cases h:listS (rd l (i:Int)) with
   | none => simp [optE]
   | some e =>
    have he:=list_wt _ e h
    simp only [optE,Bool.not_true,Bool.false_eq_true,if_false]
    rw [if_pos (by simp; omega),wi (by omega),ih (i + 1) _ (by omega) (by omega) (by simp; omega) (by rw [wEL_app,wEL,wEL]; omega)]
    cases listsF (l.drop (i + 1)) <;> simp
  ·rw [if_neg (by simp; omega),List.drop_of_length_le (by omega),luq_eq (wEL y + 1) k y (by omega) (by omega) (by omega),Option.bind_some,listsF]
   simp only [List.append_nil,decD]
   cases uqF [] y <;> simp
theorem wtL_filter (p:T_api_Node→Bool):∀ l:List T_api_Node,wtL (l.filter p) ≤ wtL l
 | [] => Nat.le_refl _
 | q :: l => by
  have:=wtL_filter p l
  rw [List.filter_cons]
  split
  ·rw [wtL,wtL]; omega
  ·rw [wtL]; omega
theorem decode_eq (k:Nat) (hk:36000000000 ≤ k) (n:T_api_Node) (hw:wt n ≤ 4000000000):lists_Decode k n=some (decS n):=by
 unfold lists_Decode decS
 have hf:wtL (kidsS n SPl) ≤ wt n:=by have:=wtL_filter (inS SPl) n.Kids; have:=wt_eq n; unfold kidsS; omega
 have hlen:=wtL_len (kidsS n SPl)
 rw [lkids_eq k (by omega) n hw,Option.bind_some]
 cases hb:blankS n with
 | false => simp
 | true =>
  have his:=is_eq n wRLs
  unfold wRLs at his ⊢
  simp only [if_true,Bool.not_true,Bool.true_and]
  rw [if_pos (by decide),his,Option.bind_some]
  cases isE n SPl [114,101,115,111,117,114,99,101,45,108,105,115,116,115] with
  | false => simp
  | true =>
   rw [if_neg (by decide)]
   have:=decode_l k hk (kidsS n SPl) true (fun q hq => by have:=kids_wt hq; omega) (by omega) k 0 [] (by omega) (by omega) (by simp) (by rw [wEL,List.drop_zero]; omega)
   rw [List.drop_zero] at this
   simpa using this
theorem lists_enc:∀ l:List T_api_Entry,l.all okX=true→listsF (encL l)=some l
 | [],_ => by rw [encL]; rfl
 | x :: l,h => by
  simp only [List.all_cons,Bool.and_eq_true,okX,beq_iff_eq] at h
  have:=list_enc x h.1.2 h.1.1
  rw [encL,listsF,this]
  simp only
  rw [lists_enc l (by simpa [okX] using h.2)]; rfl
theorem back {l:List T_api_Entry} (h:(encS l).2=0):decS (encS l).1=(l,0) ∧ l.all okX=true ∧ uqF [] l=true:=by
 unfold encS at h ⊢
 cases h1:l.all okX with
 | false => rw [h1,if_neg (by decide)] at h; cases h
 | true =>
  cases h2:uqF [] l with
  | false => rw [h1,h2,if_pos rfl,if_neg (by decide)] at h; cases h
  | true =>
   refine⟨?_,rfl,rfl⟩
   rw [if_pos rfl,if_pos rfl]
   have e1:=elem_in (encL_elem l)
   have e2:=elem_bad (encL_elem l)
   unfold decS
   rw [el_isE,el_kids,e1,lists_enc l h1]
   have hb:blankS (elS SPl wRLs [] [] (encL l))=true:=by unfold blankS; rw [show (elS SPl wRLs [] [] (encL l)).Kids=encL l from rfl,e2]; rfl
   rw [hb]
   simp [decD,h2]
theorem lists_may:∀ (l:List T_api_Node) (r:List T_api_Entry),listsF l=some r→r.all okX=true
 | [],r,h => by cases h; rfl
 | n :: l,r,h => by
  rw [listsF] at h
  cases hn:listS n with
  | none => rw [hn] at h; cases h
  | some e =>
   rw [hn] at h
   simp only at h
   cases hr:listsF l with
   | none => rw [hr] at h; cases h
   | some r' =>
    rw [hr] at h
    cases h
    have h1:=list_may n e hn
    have h2:=lists_may l r' hr
    simp [okX,h1.1,h1.2.1] at h2 ⊢
    exact h2
theorem uqF_iff:∀ (l:List T_api_Entry) (seen:List (Int × Str)),uqF seen l=true ↔ (∀ x ∈ l,uqE x=true) ∧ (l.map keyE).Nodup ∧ ∀ x ∈ l,keyE x ∉ seen
 | [],seen => by rw [uqF]; simp
 | x :: l,seen => by
  rw [uqF,Bool.and_eq_true,Bool.and_eq_true,uqF_iff l,List.map_cons,List.nodup_cons]
  simp only [Bool.not_eq_true',List.contains_eq_mem,decide_eq_false_iff_not,List.mem_cons,forall_eq_or_imp,List.mem_append,List.mem_singleton,List.mem_map,not_or,not_exists,not_and]
  constructor
  ·rintro ⟨h1,h2,h3,h4,h5⟩
   exact⟨⟨h2,h3⟩,⟨fun y hy => (h5 y hy).2.1,h4⟩,h1,fun y hy => (h5 y hy).1⟩
  ·rintro ⟨⟨h2,h3⟩,⟨h5,h4⟩,h1,h6⟩
   exact⟨h1,h2,h3,h4,fun y hy =>⟨h6 y hy,h5 y hy,by simp⟩⟩
theorem nodup_rev {α:Type} (l:List α):l.reverse.Nodup ↔ l.Nodup:=by
 unfold List.Nodup
 rw [List.pairwise_reverse]
 exact⟨fun h => h.imp Ne.symm,fun h => h.imp Ne.symm⟩
theorem uqF_rev (l:List T_api_Entry):uqF [] l.reverse=uqF [] l:=by
 have h:=uqF_iff l []
 have h2:=uqF_iff l.reverse []
 rw [List.map_reverse,nodup_rev] at h2
 simp only [List.mem_reverse] at h2
 exact Bool.eq_iff_iff.2 (h2.trans h.symm)
theorem enc_rev (l:List T_api_Entry):(encS l.reverse).2=(encS l).2:=by
 unfold encS
 rw [List.all_reverse,uqF_rev]
 split
 ·split <;> rfl
 ·rfl
theorem wTL_app:∀ a b:List T_api_Entry,wTL (a ++ b)=wTL a + wTL b
 | [],b => by simp [wTL]
 | x :: a,b => by rw [List.cons_append,wTL,wTL,wTL_app a b]; omega
theorem wTL_rev:∀ l:List T_api_Entry,wTL l.reverse=wTL l
 | [] => rfl
 | x :: l => by rw [List.reverse_cons,wTL_app,wTL_rev l,wTL,wTL,wTL]; omega
theorem one1_eq (k:Nat) (x:T_api_Entry) (hx:wEL x.List_ ≤ 2000000000) (hk:36000000000 ≤ k):watchbillref16_One_1 k x x=some true:=by
 unfold watchbillref16_One_1
 rw [if_pos (by simp),same16_eq (wEL x.List_ + 1) k x.List_ (by omega) (by omega) (by omega)]
 simp
theorem order_l1 (k:Nat) (hk:36000000000 ≤ k) (l:List T_api_Entry) (hw:wEL l ≤ 2000000000) (a b:Int):∀ (m i:Nat),i ≤ l.length→l.length < i + m→watchbilllaw16_ListsOrder.l1 k (l,a) (l.reverse,b) m (i:Int)=some true:=by
 have hlen:=wEL_len l
 intro m
 induction m with
 | zero => intro i h1 h2; omega
 | succ m ih =>
  intro i h1 h2
  unfold watchbilllaw16_ListsOrder.l1
  by_cases hi:i < l.length
  ·have hrl:(l.reverse.length:Int)=(l.length:Int):=by simp
   have e:IntKind.i64.wrap (IntKind.i64.wrap ((l.reverse.length:Int) - 1) - (i:Int))=((l.length - 1 - i:Nat):Int):=by rw [hrl,w64 (x:=(l.length:Int) - 1) (by omega) (by omega),w64 (x:=(l.length:Int) - 1 - (i:Int)) (by omega) (by omega)]; omega
   simp only [e]
   rw [if_pos (by simp; omega),if_pos (by omega),if_pos (by rw [hrl]; omega)]
   have hr:rd l.reverse ((l.length - 1 - i:Nat):Int)=rd l (i:Int):=by
    simp only [rd,Int.toNat_natCast,List.getD_eq_getElem?_getD]
    rw [List.getElem?_reverse (by omega),show l.length - 1 - (l.length - 1 - i)=i by omega]
   have hx:=wEL_list (rd_mem hi)
   rw [hr,one1_eq k _ (by omega) hk,Option.bind_some,if_neg (by decide),wi (by omega)]
   exact ih (i + 1) (by omega) (by omega)
  ·rw [if_neg (by simp; omega)]
theorem take_rev {l:List T_api_Entry} {i:Nat} (hi:i < l.length):(l.drop (i + 1)).reverse ++ [rd l (i:Int)]=(l.drop i).reverse:=by
 rw [rd_drop hi]; simp
theorem order_l0 (k:Nat) (hk:36000000000 ≤ k) (l:List T_api_Entry) (hw:wTL l ≤ 100000000):∀ (m i:Nat),i ≤ l.length→i < m→watchbilllaw16_ListsOrder.l0 k l m (l.drop i).reverse ((i:Int) - 1)=some true:=by
 have hlen:=wTL_len l
 have hle:=wEL_le l
 intro m
 induction m with
 | zero => intro i h1 h2; omega
 | succ m ih =>
  intro i h1 h2
  unfold watchbilllaw16_ListsOrder.l0
  cases i with
  | succ i =>
   have e:((i + 1:Nat):Int) - 1=(i:Int):=by omega
   rw [e,if_pos (by simp),if_pos (by omega),if_pos (by simp; omega),take_rev (by omega),w64 (by omega) (by omega)]
   exact ih i (by omega) (by omega)
  | zero =>
   rw [if_neg (by simp),List.drop_zero,lencode_eq k hk l hw,Option.bind_some,lencode_eq k hk l.reverse (by rw [wTL_rev]; exact hw),Option.bind_some,enc_rev]
   by_cases h0:(encS l).2=0
   ·have h1:=wt_encS l
    have h2:=wt_encS l.reverse
    rw [wTL_rev] at h2
    obtain⟨b1,_,_⟩:=back h0
    obtain⟨b2,_,_⟩:=back (l:=l.reverse) (by rw [enc_rev]; exact h0)
    rw [if_neg (by simp [h0]),decode_eq k hk _ (by omega),Option.bind_some,decode_eq k hk _ (by omega),Option.bind_some,b1,b2]
    rw [if_neg (by simp)]
    exact order_l1 k hk l (by omega) 0 0 k 0 (by omega) (by omega)
   ·rw [if_pos (by simp [h0])]; simp
theorem ListsOrder_k (k:Nat) (hk:36000000000 ≤ k) (hA:watchbilllaw16_awake k=some true) (l:List T_api_Entry):watchbilllaw16_ListsOrder k l=some true:=by
 unfold watchbilllaw16_ListsOrder
 obtain⟨b,hb,hbw⟩:=few16_eq k (by omega) l
 rw [hA,Option.bind_some,if_neg (by decide),hb,Option.bind_some]
 cases b with
 | false => rw [if_pos (by simp)]
 | true =>
  have h1:=hbw rfl
  have h3:=wTL_le l
  have hlen:=wTL_len l
  rw [if_neg (by simp),w64 (by omega) (by omega)]
  have:=order_l0 k hk l (by omega) k l.length (Nat.le_refl _) (by omega)
  rw [List.drop_length] at this
  exact this
theorem ListsOrder (l:List T_api_Entry):∃ k,watchbilllaw16_ListsOrder k l=some true:=⟨36000000000,ListsOrder_k 36000000000 (Nat.le_refl _) awake l⟩
end Go.Proofs.YtapbckofgcmgmaaGreatDoor.Pure
