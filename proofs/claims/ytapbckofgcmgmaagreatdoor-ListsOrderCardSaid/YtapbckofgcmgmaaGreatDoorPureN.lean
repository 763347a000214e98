import Derived.Test.YtapbckofgcmgmaaGreatDoorPureA
namespace Go.Proofs.YtapbckofgcmgmaaGreatDoor.Pure
open Go Go.RowKit Go.Proofs.Vx Go.Proofs.YtapbckofgcmgmaaGreatDoor.Sh
set_option linter.unusedSimpArgs false
set_option linter.unusedVariables false
def wRLs:Str:=[114,101,115,111,117,114,99,101,45,108,105,115,116,115]
def okX (x:T_api_Entry):Bool:=(x.Kind == 2) && mayE x
def encS (l:List T_api_Entry):T_api_Node × Int:=if l.all okX=true then (if uqF [] l=true then (elS SPl wRLs [] [] (encL l),0) else (noN,41)) else (noN,4)
theorem lencode_l (k:Nat) (hk:36000000000 ≤ k) (l:List T_api_Entry) (hw:wTL l ≤ 100000000) (z0:Int) (z1 z2:Str) (z3:List T_api_Attr) (z4:List T_api_Node) (z5:Str):∀ (m i:Nat) (y:List T_api_Node),i ≤ l.length→l.length < i + m→y.length ≤ i→
  lists_Encode.l0 k l m z0 z1 z2 z3 z4 z5 1 SPl wRLs [] [] y (i:Int)=some (if (l.drop i).all okX=true then (if uqF [] l=true then (⟨1,⟨SPl,wRLs⟩,[],y ++ encL (l.drop i),[]⟩,0) else (noN,41)) else (noN,4)):=by
 have hlen:=wTL_len l
 have hle:=wEL_le l
 intro m
 induction m with
 | zero => intro i y h1 h2; omega
 | succ m ih =>
  intro i y h1 h2 h3
  unfold lists_Encode.l0
  by_cases hi:i < l.length
  ·have hx:=wTL_mem (rd_mem hi)
   have hxe:=wE_le (rd l (i:Int))
   rw [if_pos (by simp; omega),if_pos (by omega),rd_drop hi,List.all_cons]
   by_cases h2k:(rd l (i:Int)).Kind=2
   ·rw [if_pos (by simp [h2k]),lmay_eq (wT (rd l (i:Int))) k _ (Nat.le_refl _) (by omega) (by omega),Option.bind_some]
    cases hm:mayE (rd l (i:Int)) with
    | false => rw [if_pos (by simp)]; simp [okX,hm,noN]
    | true =>
     rw [if_neg (by simp [h2k]),lenc_eq (wE (rd l (i:Int))) k _ (Nat.le_refl _) (by omega) (by omega),Option.bind_some,if_pos (by simp; omega),wi (by omega),ih (i + 1) _ (by omega) (by omega) (by simp; omega),encL]
     simp [okX,hm,h2k]
   ·rw [if_neg (by simp [h2k]),Option.bind_some,if_pos (by simp [h2k])]
    simp [okX,h2k,noN]
  ·rw [if_neg (by simp; omega),List.drop_of_length_le (by omega),luq_eq (wEL l + 1) k l (by omega) (by omega) (by omega),Option.bind_some]
   cases uqF [] l <;> simp [encL,noN]
theorem lencode_eq (k:Nat) (hk:36000000000 ≤ k) (l:List T_api_Entry) (hw:wTL l ≤ 100000000):lists_Encode k l=some (encS l):=by
 unfold lists_Encode
 have hlen:=wTL_len l
 rw [lelem_eq,Option.bind_some]
 have h:=lencode_l k hk l hw 0 [] [] [] [] [] k 0 [] (by omega) (by omega) (by simp)
 rw [List.drop_zero] at h
 exact h
theorem wt_noN:wt noN=1:=by rw [wt_eq]; rfl
theorem wt_encS (l:List T_api_Entry):wt (encS l).1 ≤ 2 + 6 * wTL l:=by
 have h1:=wtL_enc l
 have h2:=wt_el SPl wRLs [] [] (encL l)
 have h3:=wt_noN
 unfold encS
 split
 ·split
  ·show wt (elS SPl wRLs [] [] (encL l)) ≤ _; omega
  ·show wt noN ≤ _; omega
 ·show wt noN ≤ _; omega
theorem awake:watchbilllaw16_awake 36000000000=some true:=by kernel_rfl
end Go.Proofs.YtapbckofgcmgmaaGreatDoor.Pure
