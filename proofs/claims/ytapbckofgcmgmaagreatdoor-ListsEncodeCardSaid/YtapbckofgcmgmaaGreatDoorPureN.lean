import Derived.Test.YtapbckofgcmgmaaGreatDoorPureA
namespace Go.Proofs.YtapbckofgcmgmaaGreatDoor.Pure
open Go Go.RowKit Go.Proofs.Vx Go.Proofs.YtapbckofgcmgmaaGreatDoor.Sh
set_option linter.unusedSimpArgs false
set_option linter.unusedVariables false
def wRLs:Str:=[114,101,115,111,117,114,99,101,45,108,105,115,116,115]
def okX (x:T_api_Entry):Bool:=(x.Kind == 2) && mayE x
def encS (l:List T_api_Entry):T_api_Node × Int:=if l.all okX=true then (if uqF [] l=true then (elS SPl wRLs [] [] (encL l),0) else (noN,41)) else (noN,4)
def encO (x:T_api_Entry):T_api_Node × Int:=if okX x=true then (if uqF [] x.List_=true then (encE x,0) else (noN,41)) else (noN,4)
theorem lencode_l (k:Nat) (hk:9000000000 ≤ k) (l:List T_api_Entry) (hw:wTL l ≤ 100000000) (z0:Int) (z1 z2:Str) (z3:List T_api_Attr) (z4:List T_api_Node) (z5:Str):∀ (m i:Nat) (y:List T_api_Node),i ≤ l.length→l.length < i + m→y.length ≤ i→
  lists_Encode.l0 k l m z0 z1 z2 z3 z4 z5 1 SPl wRLs [] [] y (i:Int)=some (if (l.drop i).all okX=true then (if uqF [] l=true then (⟨1,⟨SPl,wRLs⟩,[],y ++ encL (l.drop i),[]⟩,0) else (noN,41)) else (noN,4)):=by
 have hlen:=wTL_len l
 have hle:=wEL_le l
 intro m
 induction m with
 | zero => intro i y h1 h2; omega
 | succ m ih =>
  intro i y h1 h2 h3
  unfold lists_Encode.l0
  by_cases hi:i < l.length
  ·have hx:=wTL_mem (rd_mem hi)
   have hxe:=wE_le (rd l (i:Int))
   rw [if_pos (by simp; omega),if_pos (by omega),rd_drop hi,List.all_cons]
   by_cases h2k:(rd l (i:Int)).Kind=2
   ·rw [if_pos (by simp [h2k]),lmay_eq (wT (rd l (i:Int))) k _ (Nat.le_refl _) (by omega) (by omega),Option.bind_some]
    cases hm:mayE (rd l (i:Int)) with
    | false => rw [if_pos (by simp)]; simp [okX,hm,noN]
    | true =>
     rw [if_neg (by simp [h2k]),lenc_eq (wE (rd l (i:Int))) k _ (Nat.le_refl _) (by omega) (by omega),Option.bind_some,if_pos (by simp; omega),wi (by omega),ih (i + 1) _ (by omega) (by omega) (by simp; omega),encL]
     simp [okX,hm,h2k]
   ·rw [if_neg (by simp [h2k]),Option.bind_some,if_pos (by simp [h2k])]
    simp [okX,h2k,noN]
  ·rw [if_neg (by simp; omega),List.drop_of_length_le (by omega),luq_eq (wEL l + 1) k l (by omega) (by omega) (by omega),Option.bind_some]
   cases uqF [] l <;> simp [encL,noN]
theorem lencode_eq (k:Nat) (hk:9000000000 ≤ k) (l:List T_api_Entry) (hw:wTL l ≤ 100000000):lists_Encode k l=some (encS l):=by
 unfold lists_Encode
 have hlen:=wTL_len l
 rw [lelem_eq,Option.bind_some]
 have h:=lencode_l k hk l hw 0 [] [] [] [] [] k 0 [] (by omega) (by omega) (by simp)
 rw [List.drop_zero] at h
 exact h
theorem lencO_eq (k:Nat) (hk:9000000000 ≤ k) (x:T_api_Entry) (hw:wT x ≤ 100000000):lists_EncodeList k x=some (encO x):=by
 have hle:=wE_le x
 have hl:wEL x.List_ ≤ wE x:=by rw [wE_eq]; omega
 unfold lists_EncodeList encO
 by_cases h2k:x.Kind=2
 ·rw [if_pos (by simp [h2k]),lmay_eq (wT x) k _ (Nat.le_refl _) (by omega) (by omega),Option.bind_some,lenc_eq (wE x) k _ (Nat.le_refl _) (by omega) (by omega),luq_eq (wEL x.List_ + 1) k _ (by omega) (by omega) (by omega)]
  cases hm:mayE x <;> cases hu:uqF [] x.List_ <;> simp [noN,okX,hm,h2k,hu]
 ·rw [if_neg (by simp [h2k]),Option.bind_some,if_pos (by simp [h2k])]
  simp [okX,h2k,noN]
theorem rencode_l (k:Nat) (hk:9000000000 ≤ k) (l:List T_api_Entry) (hw:wTL l ≤ 100000000) (z0:Int) (z1 z2:Str) (z3:List T_api_Attr) (z4:List T_api_Node) (z5:Str):∀ (m i:Nat) (y:List T_api_Node),i ≤ l.length→l.length < i + m→y.length ≤ i→
  watchbillref16_Encode.l0 k l m z0 z1 z2 z3 z4 z5 y (i:Int)=some (if (l.drop i).all okX=true then (if uqF [] l=true then (elS SPl wRLs [] [] (y ++ encL (l.drop i)),0) else (noN,41)) else (noN,4)):=by
 have hlen:=wTL_len l
 have hle:=wEL_le l
 intro m
 induction m with
 | zero => intro i y h1 h2; omega
 | succ m ih =>
  intro i y h1 h2 h3
  unfold watchbillref16_Encode.l0
  by_cases hi:i < l.length
  ·have hx:=wTL_mem (rd_mem hi)
   have hxe:=wE_le (rd l (i:Int))
   rw [if_pos (by simp; omega),if_pos (by omega),if_pos (fun _ => by omega),rd_drop hi,List.all_cons]
   by_cases h2k:(rd l (i:Int)).Kind=2
   ·rw [if_pos (by simp [h2k]),rmay_eq (wT (rd l (i:Int))) k _ (Nat.le_refl _) (by omega) (by omega),Option.bind_some]
    cases hm:mayE (rd l (i:Int)) with
    | false => rw [if_pos (by simp)]; simp [okX,hm,noN]
    | true =>
     rw [if_neg (by simp [h2k]),if_pos (by omega),rmade_eq (wE (rd l (i:Int))) k _ (Nat.le_refl _) (by omega) (by omega),Option.bind_some,if_pos (by simp; omega),wi (by omega),ih (i + 1) _ (by omega) (by omega) (by simp; omega),encL]
     simp [okX,hm,h2k]
   ·rw [if_neg (by simp [h2k]),Option.bind_some,if_pos (by simp [h2k])]
    simp [okX,h2k,noN]
  ·rw [if_neg (by simp; omega),List.drop_of_length_le (by omega),ruq_eq (wEL l + 1) k l (by omega) (by omega) (by omega),Option.bind_some]
   have hel:=rel_eq SPl wRLs [] [] y
   unfold SPl wRLs at hel ⊢
   rw [hel]
   cases uqF [] l <;> simp [encL,noN]
theorem rencode_eq (k:Nat) (hk:9000000000 ≤ k) (l:List T_api_Entry) (hw:wTL l ≤ 100000000):watchbillref16_Encode k l=some (encS l):=by
 unfold watchbillref16_Encode
 have hlen:=wTL_len l
 have h:=rencode_l k hk l hw 0 [] [] [] [] [] k 0 [] (by omega) (by omega) (by simp)
 rw [List.drop_zero] at h
 exact h
theorem rencO_eq (k:Nat) (hk:9000000000 ≤ k) (x:T_api_Entry) (hw:wT x ≤ 100000000):watchbillref16_EncodeList k x=some (encO x):=by
 have hle:=wE_le x
 have hl:wEL x.List_ ≤ wE x:=by rw [wE_eq]; omega
 unfold watchbillref16_EncodeList encO
 by_cases h2k:x.Kind=2
 ·rw [if_pos (by simp [h2k]),rmay_eq (wT x) k _ (Nat.le_refl _) (by omega) (by omega),Option.bind_some,rmade_eq (wE x) k _ (Nat.le_refl _) (by omega) (by omega),ruq_eq (wEL x.List_ + 1) k _ (by omega) (by omega) (by omega)]
  cases hm:mayE x <;> cases hu:uqF [] x.List_ <;> simp [noN,okX,hm,h2k,hu]
 ·rw [if_neg (by simp [h2k]),Option.bind_some,if_pos (by simp [h2k])]
  simp [okX,h2k,noN]
theorem wt_noN:wt noN=1:=by rw [wt_eq]; rfl
theorem wt_encS (l:List T_api_Entry):wt (encS l).1 ≤ 2 + 6 * wTL l:=by
 have h1:=wtL_enc l
 have h2:=wt_el SPl wRLs [] [] (encL l)
 have h3:=wt_noN
 unfold encS
 split
 ·split
  ·show wt (elS SPl wRLs [] [] (encL l)) ≤ _; omega
  ·show wt noN ≤ _; omega
 ·show wt noN ≤ _; omega
theorem wt_encO (x:T_api_Entry):wt (encO x).1 ≤ 1 + 6 * wT x:=by
 have h1:=wt_enc x
 have h3:=wt_noN
 unfold encO
 split
 ·split
  ·show wt (encE x) ≤ _; omega
  ·show wt noN ≤ _; omega
 ·show wt noN ≤ _; omega
theorem awake:watchbilllaw16_awake 9000000000=some true:=by kernel_rfl
theorem ListsEncode_k (k:Nat) (hk:9000000000 ≤ k) (hA:watchbilllaw16_awake k=some true) (l:List T_api_Entry) (x:T_api_Entry):watchbilllaw16_ListsEncode k l x=some true:=by
 unfold watchbilllaw16_ListsEncode
 obtain⟨b,hb,hbw⟩:=few16_eq k (by omega) l
 obtain⟨c,hc,hcw⟩:=few16_eq k (by omega) [x]
 rw [hA,Option.bind_some,if_neg (by decide),hb,Option.bind_some]
 cases b with
 | false => rw [if_neg (by simp),Option.bind_some,if_pos (by simp)]
 | true =>
  rw [if_pos (by simp),hc,Option.bind_some]
  cases c with
  | false => rw [if_pos (by simp)]
  | true =>
   have h1:=hbw rfl
   have h2:=hcw rfl
   rw [wNL,wNL] at h2
   have h3:=wTL_le l
   have h4:=wT_le x
   have hlen:=wTL_len l
   have h5:=wt_encS l
   have h6:=wt_encO x
   rw [if_neg (by simp),if_pos (by simp; omega),List.nil_append,lencode_eq k hk l (by omega),Option.bind_some,rencode_eq k hk l (by omega),Option.bind_some,lencO_eq k hk x (by omega),Option.bind_some,rencO_eq k hk x (by omega),Option.bind_some,
    teq_eq (wt (encS l).1) k _ (Nat.le_refl _) (by omega) (by omega),Option.bind_some,if_pos (by simp),teq_eq (wt (encO x).1) k _ (Nat.le_refl _) (by omega) (by omega)]
   simp
theorem ListsEncode (l:List T_api_Entry) (x:T_api_Entry):∃ k,watchbilllaw16_ListsEncode k l x=some true:=⟨9000000000,ListsEncode_k 9000000000 (Nat.le_refl _) awake l x⟩
end Go.Proofs.YtapbckofgcmgmaaGreatDoor.Pure
