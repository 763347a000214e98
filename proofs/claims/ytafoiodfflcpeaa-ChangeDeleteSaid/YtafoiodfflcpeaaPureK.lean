import Derived.Test.YtafoiodfflcpeaaPureJ
namespace Go.Proofs.Ytafoiodfflcpeaa.Pure
open Go Go.RowKit Go.Proofs.Vx Go.Proofs.Ytafoiodfflcpeaa.Sh
set_option maxRecDepth 100000
theorem siblings_l (k:Nat) (n:T_api_Node) (h9:n.Kids.length ≤ 600000) (y0:Int) (y1:Bool) (y2 y3:Str) (y4:Int) (y5:Bool) (y6 y7 y8:Str):∀ (m i:Nat) (y:List Int),i ≤ n.Kids.length→n.Kids.length < i + m→y.length ≤ i→∃ z,change_siblings.l0 k n m y0 y1 y2 y3 y4 y5 y6 y7 y8 y (i:Int)=some z ∧ z.length ≤ n.Kids.length:=by
 intro m
 induction m with
 | zero => intro i y h1 h2; omega
 | succ m ih =>
  intro i y h1 h2 h3
  unfold change_siblings.l0
  by_cases hi:i < n.Kids.length
  ·rw [if_pos (by simp; omega),if_pos (by omega),wi (by omega)]
   generalize ((((rd n.Kids (i:Int)).Kind) == 1) && (y1 || (((rd n.Kids (i:Int)).Name).Space == (T_api_Name.mk y2 y3).Space && (((rd n.Kids (i:Int)).Name).Local == (T_api_Name.mk y2 y3).Local && true))))=c
   cases c with
   | true => rw [if_pos rfl,if_pos (by simp; omega)]; exact ih (i + 1) _ (by omega) (by omega) (by simp; omega)
   | false => rw [if_neg (by simp)]; exact ih (i + 1) y (by omega) (by omega) (by omega)
  ·rw [if_neg (by simp; omega)]
   exact⟨y,rfl,by omega⟩
theorem place_some (k:Nat) (n:T_api_Node) (s:T_api_Step) (h9:n.Kids.length ≤ 600000) (hk:600000 < k):∃ r,change_place k n s=some r:=by
 unfold change_place change_siblings
 obtain⟨z,e,hz⟩:=siblings_l k n h9 s.Kind s.Any s.Name.Space s.Name.Local s.Pos s.By s.Attr.Space s.Attr.Local s.Value k 0 [] (by omega) (by omega) (by simp)
 rw [show ((0:Nat):Int)=0 from rfl] at e
 rw [e,Option.bind_some]
 have hj:∀ x,∃ r,change_place.j0 s z x=some r:=fun x => by
  unfold change_place.j0
  split
  ·exact⟨_,rfl⟩
  ·split
   ·rename_i h
    rw [Bool.and_eq_true,decide_eq_true_eq,decide_eq_true_eq] at h
    rw [w64 (by omega) (by omega),if_pos (by omega)]
    exact⟨_,rfl⟩
   ·exact⟨_,rfl⟩
 split
 ·rename_i h
  have h:(z.length:Int) > 0:=by simpa using h
  rw [w64 (x:=(z.length:Int) - 1) (by omega) (by omega),if_pos (by omega)]
  exact hj _
 ·exact hj _
theorem insert_cases (k:Nat) (n x:T_api_Node) (b:Int) (p:List Int) (hw:wt n ≤ 100000000) (hx:wt x ≤ 100000000) (hR:RtN n) (hx1:x.Kind=1) :
  (path_Insert k n x b p=some (zeroN,false)) ∨ (valid p n ∧ (0 ≤ b ∧ b ≤ ((atN p n).Kids.length:Int)) ∧ (atN p n).Kind=1 ∧ path_Insert k n x b p=some (put (withK (atN p n) ((atN p n).Kids.take b.toNat ++ x :: (atN p n).Kids.drop b.toNat)) p n,true)):=by
 unfold path_Insert
 rw [if_pos ⟨by omega,by omega⟩]
 by_cases hv:valid p n
 ·by_cases hb:0 ≤ b ∧ b ≤ ((atN p n).Kids.length:Int)
  ·have hF:insF b x (atN p n).Kids=some ((atN p n).Kids.take b.toNat ++ x :: (atN p n).Kids.drop b.toNat):=by unfold insF; rw [if_pos hb]
   by_cases hk:(atN p n).Kind=1
   ·refine .inr ⟨hv,hb,hk,chg_T _ p n _ hv ?_⟩
    have hlen:=wt_kids (atN p n)
    have hww:=atN_wt p n hv
    refine kidsG_T hF hk (by simp; omega) (nj_ins _ (hR p hv).1 hx1)
   ·exact .inl (chg_Z _ p n hv (kidsG_K hF hk))
  ·have hF:insF b x (atN p n).Kids=none:=by unfold insF; rw [if_neg hb]
   exact .inl (chg_Z _ p n hv (kidsG_N hF))
 ·exact .inl (chg_not _ p n hv)
theorem cinsert_some (k:Nat) (hk:9000000000 ≤ k) (root n:T_api_Node) (l:List T_api_Step) (hr:wf root ≤ 30000) (hn:wf n ≤ 30000) (hl:l.length ≤ 30) (hnm:namesB l=true) :
  ∃ r,change_insert k root n l=some r ∧ wf r.1 ≤ 60000 ∧ r.2.1.length ≤ 400000 ∧ (r.2.2=0→∃ (w:List Int) (i:Int) (b:Bool),r.2.1=w ++ [i] ∧ w.length ≤ 300000 ∧ path_Insert k root n i w=some (r.1,b)):=by
 have hwt:=wt_wf root
 have hpos:=wf_pos root
 obtain⟨hl0,_⟩:=namesB_last hnm
 unfold change_insert
 rw [zero_mk]
 by_cases h1:l.length=1
 ·rw [if_pos (by simp [h1])]
  exact⟨_,rfl,by show wf zeroN ≤ _; rw [wf_zero]; omega,by simp,fun h => by cases h⟩
 ·have ew:IntKind.i64.wrap ((l.length:Int) - 1)=((l.length - 1:Nat):Int):=by rw [w64 (by omega) (by omega)]; omega
  rw [if_neg (by simp; omega),ew,if_pos (by omega),sl_drop,select_eq k hk root _ (by simp; omega) (by omega),Option.bind_some]
  have hlen:=sel_len (n:=root) (l:=l.dropLast) (by omega)
  by_cases h0:(sel root l.dropLast).2=0
  ·obtain⟨g1,g2,g3⟩:=sel_place h0
   rw [if_neg (by simp [h0])]
   generalize (sel root l.dropLast).1=w at *
   have hkk:=wt_kids (atN w root)
   have hkw:=atN_wt w root g1
   rw [at_eq k (by omega) w (by omega) root (by omega),Option.bind_some,atS_T w root g1,if_pos (by omega)]
   simp only
   obtain⟨pl,hp⟩:=place_some k (atN w root) (rd l ((l.length - 1:Nat):Int)) (by omega) (by omega)
   rw [hp,Option.bind_some]
   by_cases hb:pl.2=true
   ·rw [if_neg (by simp [hb])]
    obtain⟨r,e,he⟩:=insert_any k root n pl.1 w (by omega) (by omega)
    have hc:slices_Clone_39_o w=some w:=by
     have:(([]:List Int).length + w.length) * 8 ≤ 140737488355328:=by rw [List.length_nil]; omega
     unfold slices_Clone_39_o; rw [if_pos this,List.nil_append]
    rw [e,Option.bind_some,hc,Option.bind_some,if_pos (by simp; omega)]
    exact⟨_,rfl,by show wf r.1 ≤ _; omega,by simp; omega,fun _ =>⟨w,pl.1,r.2,rfl,by omega,e⟩⟩
   ·rw [if_pos (by simpa using hb)]
    exact⟨_,rfl,by show wf zeroN ≤ _; rw [wf_zero]; omega,by simp,fun h => by cases h⟩
  ·rw [if_pos (by simpa using h0)]
   exact⟨_,rfl,by show wf zeroN ≤ _; rw [wf_zero]; omega,by simp,fun h => by cases h⟩
theorem putj_eq (k:Nat) (hk:9000000000 ≤ k) (m:T_api_Node) (l:List T_api_Step) (t5:List Int × Int) (w:List Int) (hw:wf m ≤ 300000) (hl:l.length ≤ 30):change_PutElement.j0 k l t5 w m.Kind m.Name.Space m.Name.Local m.Attrs m.Kids m.Text=some (if chk m l w ≠ 0 then (zeroN,false,chk m l w) else (m,(t5.2 == 5),0)):=by
 unfold change_PutElement.j0
 rw [eta,checked_eq k hk m l w (by omega) hw,Option.bind_some]
 by_cases h:chk m l w=0
 ·rw [if_neg (by simp [h]),if_neg (by simp [h])]
 ·rw [if_pos (by simpa using h),if_pos h,zero_mk]
theorem put_some (k:Nat) (hk:9000000000 ≤ k) (root n:T_api_Node) (l:List T_api_Step) (hr:wf root ≤ 30000) (hn:wf n ≤ 30000) (hl:l.length ≤ 30) :
  ∃ r,change_PutElement k root n l=some r ∧ wf r.1 ≤ 60000 ∧ (r.2.2=0→r.2.1=true→namesB l=true ∧ n.Kind=1 ∧ (sel root l).2=5 ∧ ∃ (w:List Int) (i:Int) (b:Bool),w.length ≤ 300000 ∧ path_Insert k root n i w=some (r.1,b) ∧ sel r.1 l=(w ++ [i],0)):=by
 have hwt:=wt_wf root
 have hz:wf zeroN ≤ 60000:=by rw [wf_zero]; omega
 unfold change_PutElement
 rw [zero_mk,cnames_eq k l (by omega) (by omega),Option.bind_some]
 by_cases hc:namesB l=true ∧ n.Kind=1
 ·obtain⟨hnm,hk1⟩:=hc
  rw [if_neg (by simp [hnm,hk1]),select_eq k hk root l (by omega) (by omega),Option.bind_some]
  by_cases h35:(sel root l).2=35
  ·rw [if_pos (by simp [h35])]
   exact⟨_,rfl,hz,fun h => by simp only [h35] at h; cases h⟩
  ·rw [if_neg (by simpa using h35)]
   by_cases h5:(sel root l).2=5
   ·rw [if_pos (by simp [h5])]
    obtain⟨r,e,hw,hlw,hp⟩:=cinsert_some k hk root n l hr hn hl hnm
    rw [e,Option.bind_some]
    by_cases h0:r.2.2=0
    ·rw [if_neg (by simp [h0]),putj_eq k hk r.1 l _ r.2.1 (by omega) hl]
     by_cases hch:chk r.1 l r.2.1=0
     ·rw [if_neg (by simp [hch])]
      obtain⟨w,i,b,e1,e2,e3⟩:=hp h0
      obtain⟨c1,_⟩:=chk_ok hch
      exact⟨_,rfl,hw,fun _ _ =>⟨hnm,hk1,h5,w,i,b,e2,e3,by rw [← e1]; exact c1⟩⟩
     ·rw [if_pos hch]
      exact⟨_,rfl,hz,fun h => absurd h hch⟩
    ·rw [if_pos (by simpa using h0)]
     exact⟨_,rfl,hz,fun h => absurd h h0⟩
   ·rw [if_neg (by simpa using h5)]
    have hlen:=sel_len (n:=root) (l:=l) (by omega)
    obtain⟨r,e,hw⟩:=replace_any k root n (sel root l).1 (by omega) (by omega) (by omega)
    rw [e,Option.bind_some,putj_eq k hk r.1 l _ _ (by omega) hl]
    by_cases hch:chk r.1 l (sel root l).1=0
    ·rw [if_neg (by simp [hch])]
     exact⟨_,rfl,by show wf r.1 ≤ _; omega,fun _ h => by
      have:((sel root l).2 == 5)=true:=h
      exact absurd (by simpa using this) h5⟩
    ·rw [if_pos hch]
     exact⟨_,rfl,hz,fun h => absurd h hch⟩
 ·rw [if_pos (by
   cases hnm:namesB l with
   | false => simp
   | true =>
    have:n.Kind ≠ 1:=fun h => hc ⟨hnm,h⟩
    simpa using this)]
  exact⟨_,rfl,hz,fun h => by cases h⟩
theorem RB_RtN {n:T_api_Node} (h:RB n=true):RtN n:=fun q hq => by
 unfold RB at h
 rw [Bool.and_eq_true,Bool.and_eq_true] at h
 obtain⟨d,c,h⟩:=shp_at q n 1 false h.2.2 hq
 exact shp_nj h
theorem delj_eq (k:Nat) (hk:9000000000 ≤ k) (root n:T_api_Node) (l:List T_api_Step) (hr:wf root ≤ 30000) (hn:wf n ≤ 30000) (hl:l.length ≤ 30):watchbilllaw13_ChangeDelete.j0 k root n l=some true:=by
 have hwt:=wt_wf root
 have hwn:=wt_wf n
 unfold watchbilllaw13_ChangeDelete.j0
 obtain⟨r,e,hw,hp⟩:=put_some k hk root n l hr hn hl
 rw [e,Option.bind_some]
 by_cases hc:r.2.2=0 ∧ r.2.1=true
 ·obtain⟨h0,h1⟩:=hc
  rw [if_pos (by simp [h0,h1]),Right_eq k root (by omega) (by omega),Option.bind_some]
  show (if (((r.2.2 != 0) || (!r.2.1)) || (!(RB root)))=true then some true else _)=some true
  cases hR:RB root with
  | false => rw [if_pos (by simp)]
  | true =>
   rw [if_neg (by simp [h0,h1])]
   obtain⟨hnm,hk1,h5,w,i,b,hwl,hins,hsel⟩:=hp h0 h1
   have hRt:=RB_RtN hR
   rcases insert_cases k root n i w (by omega) (by omega) hRt hk1 with hz |⟨hv,hb,hko,hz⟩
   ·rw [hz] at hins
    have e1:r.1=zeroN:=by injection hins with hh; injection hh with h1 h2; exact h1.symm
    rw [e1] at hsel
    have hs0:(sel zeroN l).2=0:=by rw [hsel]
    obtain⟨_,_,g3⟩:=sel_place hs0
    have:valid (w ++ [i]) zeroN:=by have:=(sel_place hs0).1; rw [hsel] at this; exact this
    cases w with
    | nil => have:=this.1; simp [zeroN] at this; omega
    | cons a w => have:=this.1; simp [zeroN] at this; omega
   ·rw [hz] at hins
    have e1:r.1=put (withK (atN w root) ((atN w root).Kids.take i.toNat ++ n :: (atN w root).Kids.drop i.toNat)) w root:=by injection hins with hh; injection hh with h1 h2; exact h1.symm
    generalize ho:atN w root=o at *
    generalize hm:r.1=m at *
    have hbl:i.toNat ≤ o.Kids.length:=by omega
    have hvm:valid w m:=by rw [e1]; exact valid_put _ w root hv
    have ham:atN w m=withK o (o.Kids.take i.toNat ++ n :: o.Kids.drop i.toNat):=by rw [e1]; exact atN_put _ w root hv
    have hlen:(o.Kids.take i.toNat ++ n :: o.Kids.drop i.toNat).length=o.Kids.length + 1:=by simp; omega
    have hkids:(atN w m).Kids=o.Kids.take i.toNat ++ n :: o.Kids.drop i.toNat:=by rw [ham]; rfl
    have hnj:nj o.Kids=true:=by have:=(hRt w hv).1; rw [ho] at this; exact this
    have htd:=take_drop_ins (x:=n) hbl
    have hwm:=wt_wf m
    have hrem:=remove_eq k m i w (by omega) (by omega) hvm (by rw [hkids,hlen]; omega) (by rw [ham]; exact hko) (by rw [hkids,htd]; exact hnj)
    rw [hkids,htd,ham] at hrem
    have hself:withK (withK o (o.Kids.take i.toNat ++ n :: o.Kids.drop i.toNat)) o.Kids=o:=withK_self o
    rw [hself,e1,put_put _ _ w root hv,← e1,← ho,put_self w root hv] at hrem
    have hdel:change_Delete k m l=some (root,0):=by
     rw [delete_unf k hk m l hl,hnm,names_not_attr hnm,if_pos (by simp)]
     unfold dt
     rw [select_eq k hk m l (by omega) (by omega),Option.bind_some,hsel]
     simp only
     rw [if_neg (by simp),if_neg (by simp),hrem,Option.bind_some]
     simp only
     rw [if_neg (by simp),dj_eq k hk root l hl (by omega)]
     unfold dj
     rw [if_neg (by simp [h5])]
    rw [hdel,Option.bind_some,if_pos (by simp),teq1 k hk root (by omega),Option.bind_some]
    simp
 ·have hcb:((r.2.2 != 0) || (!r.2.1))=true:=by
   by_cases h0:r.2.2=0
   ·have:r.2.1 ≠ true:=fun h => hc ⟨h0,h⟩
    simp [h0]; simpa using this
   ·simp [h0]
  rw [hcb,if_neg (by simp),Option.bind_some,if_pos (by simp)]
theorem ChangeDelete_k (k:Nat) (hk:9000000000 ≤ k) (ha9:watchbilllaw13_awake k=some true) (root n:T_api_Node) (l:List T_api_Step):watchbilllaw13_ChangeDelete k root n l=some true:=by
 unfold watchbilllaw13_ChangeDelete
 obtain⟨f,e,hf⟩:=few13 k hk root n l
 rw [ha9,Option.bind_some,if_neg (by simp),e,Option.bind_some]
 cases f with
 | false => rw [if_pos (by simp)]
 | true =>
  obtain⟨hr,hn,hl,_⟩:=hf rfl
  rw [if_neg (by simp)]
  obtain⟨d,e1,hd⟩:=delete_some k hk root l hl (by omega)
  rw [e1,Option.bind_some]
  by_cases h0:d.2=0
  ·obtain⟨g1,g2,g3⟩:=hd h0
   have hwd:=wt_wf d.1
   rw [if_pos (by simp [h0]),select_eq k hk d.1 l (by omega) (by omega),Option.bind_some,delete_none k hk d.1 l hl (by omega) g1 g2,Option.bind_some,if_neg (by simp [g2,zeroN])]
   exact delj_eq k hk root n l hr hn hl
  ·rw [if_neg (by simpa using h0)]
   exact delj_eq k hk root n l hr hn hl
theorem ChangeDelete (root n:T_api_Node) (l:List T_api_Step):∃ k,watchbilllaw13_ChangeDelete k root n l=some true:=⟨9000000000,ChangeDelete_k _ (Nat.le_refl _) awake9 root n l⟩
end Go.Proofs.Ytafoiodfflcpeaa.Pure
