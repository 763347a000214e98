import Derived.Test.YtjhbedgepfkdbaaPureD
import Derived.Test.YtjhbedgepfkdbaaPureN
namespace Go.Proofs.Ytjhbedgepfkdbaa.Pure
open Go Go.RowKit Go.Proofs.Vx Go.Proofs.Ytjhbedgepfkdbaa.Sh
theorem char_some (v:Int):∃ b,∀ k,70 ≤ k→utf_Char k v=some b:=by
 refine⟨(utf_Char 70 v).getD false,fun k hk => ?_⟩
 unfold utf_Char
 rw [within k v _ (by simp) (by simp; omega),within 70 v _ (by simp) (by simp)]
 rfl
theorem signs_some (s:Str) (h9:s.length ≤ 1000000000):∀ (r i:Nat),i + r=s.length→∃ b,∀ k m,70 ≤ k→r < m→tree_signs.l0 k s m (i:Int)=some b:=by
 intro r
 induction r using Nat.strongRecOn with
 | _ r ih =>
  intro i hi
  by_cases hr:r=0
  ·refine⟨true,fun k m hk hm => ?_⟩
   obtain⟨m,rfl⟩:∃ z,m=z + 1:=⟨m - 1,by omega⟩
   unfold tree_signs.l0
   rw [if_neg (by simp; omega)]
  ·generalize hd:dec (bytesOfStr (s.drop i))=d
   have hrun:∀ k,70 ≤ k→utf_Rune k s (i:Int)=some d:=fun k hk => by
    rw [rune_eq k (by omega) s _ (by omega),if_neg (by omega),Int.toNat_natCast,hd]
   by_cases h0:d.2=0
   ·refine⟨false,fun k m hk hm => ?_⟩
    obtain⟨m,rfl⟩:∃ z,m=z + 1:=⟨m - 1,by omega⟩
    unfold tree_signs.l0
    rw [if_pos (by simp; omega),hrun k hk,Option.bind_some,if_neg (by simp [h0]),Option.bind_some,if_pos (by simp [h0])]
   ·obtain⟨c,hc⟩:=char_some d.1
    cases c with
    | false =>
     refine⟨false,fun k m hk hm => ?_⟩
     obtain⟨m,rfl⟩:∃ z,m=z + 1:=⟨m - 1,by omega⟩
     unfold tree_signs.l0
     rw [if_pos (by simp; omega),hrun k hk,Option.bind_some,if_pos (by simp [h0]),hc k hk,Option.bind_some,if_pos (by simp)]
    | true =>
     rw [← hd] at h0
     obtain⟨n,hn,h1,h4,hl,_⟩:=dec_take _ h0
     rw [hd] at hn h0
     have hl:n ≤ s.length - i:=by simpa [bytesOfStr] using hl
     obtain⟨b,hb⟩:=ih (r - n) (by omega) (i + n) (by omega)
     refine⟨b,fun k m hk hm => ?_⟩
     obtain⟨m,rfl⟩:∃ z,m=z + 1:=⟨m - 1,by omega⟩
     unfold tree_signs.l0
     rw [if_pos (by simp; omega),hrun k hk,Option.bind_some,if_pos (by simp [h0]),hc k hk,Option.bind_some,if_neg (by simp [h0]),hn,w64 (by omega) (by omega),show (i:Int) + (n:Int)=((i + n:Nat):Int) by omega]
     exact hb k m hk (by omega)
def sgB (s:Str):Bool:=(tree_signs 2000000000 s).getD false
theorem signs_eq (k:Nat) (s:Str) (h9:s.length ≤ 1000000000) (hk:2000000000 ≤ k):tree_signs k s=some (sgB s):=by
 obtain⟨b,hb⟩:=signs_some s h9 s.length 0 (by omega)
 have h1:∀ k,2000000000 ≤ k→tree_signs k s=some b:=fun k hk => hb k k (by omega) (by omega)
 unfold sgB
 rw [h1 k hk,h1 2000000000 (by omega)]; rfl
theorem name_some2 (s:Str) (h9:s.length ≤ 1000000000):∃ b,∀ k,70 ≤ k→utf_Name k s=some b:=by
 obtain⟨A,B,hb,hA,hB⟩:=decomp _ (bytesOfStr s) (Nat.le_refl _)
 obtain⟨rs,hr⟩:=hA.rs
 exact⟨_,fun k hk => name_at k hk s (by omega) hb hr hB⟩
def nmB (n:T_api_Name):Bool:=(tree_named 2000000000 n).getD false
theorem named_eq (k:Nat) (n:T_api_Name) (h1:n.Space.length ≤ 1000000000) (h2:n.Local.length ≤ 1000000000) (hk:2000000000 ≤ k):tree_named k n=some (nmB n):=by
 obtain⟨b,hb⟩:=name_some2 n.Local h2
 have key:∃ c,∀ k,2000000000 ≤ k→tree_named k n=some c:=by
  cases b with
  | false =>
   refine⟨false,fun k hk => ?_⟩
   unfold tree_named
   rw [hb k (by omega),Option.bind_some,if_neg (by simp),Option.bind_some]; rfl
  | true =>
   refine⟨(tree_named 2000000000 n).getD false,fun k hk => ?_⟩
   unfold tree_named
   rw [hb k (by omega),hb 2000000000 (by omega),Option.bind_some,Option.bind_some,if_pos (by simp),if_pos (by simp),signs_eq k _ h1 hk,signs_eq 2000000000 _ h1 (by omega)]
   rfl
 obtain⟨c,hc⟩:=key
 unfold nmB
 rw [hc k hk,hc 2000000000 (by omega)]; rfl
theorem rd_dropA {l:List T_api_Attr} {j:Nat} (h:j < l.length):l.drop j=rd l (j:Int) :: l.drop (j + 1):=by
 have:rd l (j:Int)=l[j]:=by simp [rd,h]
 rw [this]; exact List.drop_eq_getElem_cons h
theorem wtA_mem {l:List T_api_Attr} {a:T_api_Attr} (h:a ∈ l):a.Name.Space.length + a.Name.Local.length + a.Value.length ≤ wtA l:=by
 induction l with
 | nil => cases h
 | cons b l ih =>
  rw [wtA]
  rcases List.mem_cons.1 h with rfl | h
  ·omega
  ·have:=ih h; omega
theorem attrs_some (l:List T_api_Attr) (h9:l.length ≤ 1000000000) (hw:wtA l ≤ 1000000000):∀ (r i:Nat) (y:List (T_api_Name × Bool)),i + r=l.length→∃ b,∀ k m,2000000000 ≤ k→r < m→tree_attrs.l0 k l m y (i:Int)=some b:=by
 intro r
 induction r with
 | zero =>
  intro i y hi
  refine⟨decide ((l.length:Int) ≤ 32),fun k m hk hm => ?_⟩
  obtain⟨m,rfl⟩:∃ z,m=z + 1:=⟨m - 1,by omega⟩
  unfold tree_attrs.l0
  rw [if_neg (by simp; omega)]
 | succ r ih =>
  intro i y hi
  have hm:rd l (i:Int) ∈ l:=by
   have h:i < l.length:=by omega
   have:rd l (i:Int)=l[i]:=by simp [rd,h]
   rw [this]; exact List.getElem_mem h
  have hb:=wtA_mem hm
  obtain⟨b,hb2⟩:=ih (i + 1) (upm keq23 y ((rd l (i:Int)).Name) true) (by omega)
  have hn:∀ k,2000000000 ≤ k→tree_named k (rd l (i:Int)).Name=some (nmB (rd l (i:Int)).Name):=fun k hk => named_eq k _ (by omega) (by omega) hk
  have hs:∀ k,2000000000 ≤ k→tree_signs k (rd l (i:Int)).Value=some (sgB (rd l (i:Int)).Value):=fun k hk => signs_eq k _ (by omega) hk
  generalize nmB (rd l (i:Int)).Name=u at hn
  generalize sgB (rd l (i:Int)).Value=v at hs
  cases u with
  | false =>
   refine⟨false,fun k m hk hm => ?_⟩
   obtain⟨m,rfl⟩:∃ z,m=z + 1:=⟨m - 1,by omega⟩
   unfold tree_attrs.l0
   rw [if_pos (by simp; omega),if_pos (by omega),hn k hk,Option.bind_some,if_neg (by simp),Option.bind_some,if_pos (by simp)]
  | true =>
   by_cases hc:((((!true) || (!v)) || (((rd l (i:Int)).Name).Space == (T_api_Name.mk ([]:Str) ([120,109,108,110,115]:Str)).Space && (((rd l (i:Int)).Name).Local == (T_api_Name.mk ([]:Str) ([120,109,108,110,115]:Str)).Local && true))) || (lkm keq23 false y ((rd l (i:Int)).Name)))=true
   ·refine⟨false,fun k m hk hm => ?_⟩
    obtain⟨m,rfl⟩:∃ z,m=z + 1:=⟨m - 1,by omega⟩
    unfold tree_attrs.l0
    rw [if_pos (by simp; omega),if_pos (by omega),hn k hk,Option.bind_some,if_pos (by rfl),hs k hk,Option.bind_some,if_pos hc]
   ·refine⟨b,fun k m hk hm => ?_⟩
    obtain⟨m,rfl⟩:∃ z,m=z + 1:=⟨m - 1,by omega⟩
    unfold tree_attrs.l0
    rw [if_pos (by simp; omega),if_pos (by omega),hn k hk,Option.bind_some,if_pos (by rfl),hs k hk,Option.bind_some,if_neg hc,wi (by omega)]
    exact hb2 k m hk (by omega)
def atB (l:List T_api_Attr):Bool:=(tree_attrs 2000000000 l).getD false
theorem attrs_eq (k:Nat) (l:List T_api_Attr) (h9:l.length ≤ 1000000000) (hw:wtA l ≤ 1000000000) (hk:2000000000 ≤ k):tree_attrs k l=some (atB l):=by
 obtain⟨b,hb⟩:=attrs_some l h9 hw l.length 0 [] (by omega)
 have h1:∀ k,2000000000 ≤ k→tree_attrs k l=some b:=fun k hk => hb k k hk (by omega)
 unfold atB
 rw [h1 k hk,h1 2000000000 (by omega)]; rfl
theorem no_kids {n:T_api_Node} (h:((n.Attrs.length:Int) + (n.Kids.length:Int) == 0)=true):n.Kids=[]:=by
 have h2:(n.Attrs.length:Int) + (n.Kids.length:Int)=0:=by simpa using h
 exact List.length_eq_zero_iff.1 (by omega)
def txB (n:T_api_Node):Bool:=!(n.Text == ([]:Str)) && sgB n.Text && (n.Name.Space == ([]:Str) && (n.Name.Local == ([]:Str) && true)) && ((n.Attrs.length:Int) + (n.Kids.length:Int) == 0)
def elB (n:T_api_Node):Bool:=n.Kind == 1 && (n.Text == ([]:Str)) && nmB n.Name && atB n.Attrs
mutual
def shp:T_api_Node→Int→Bool→Bool
 | .mk kd nm ats ks tx,dp,b => if kd=2 then !b && txB (.mk kd nm ats ks tx) else elB (.mk kd nm ats ks tx) && decide (dp ≤ 24) && shpL ks (dp + 1) false
def shpL:List T_api_Node→Int→Bool→Bool
 | [],_,_ => true
 | n :: l,dp,b => shp n dp b && shpL l dp (n.Kind == 2)
end
theorem shp_eq (n:T_api_Node) (dp:Int) (b:Bool):shp n dp b=if n.Kind=2 then !b && txB n else elB n && decide (dp ≤ 24) && shpL n.Kids (dp + 1) false:=by cases n; rw [shp]
mutual
def cnt:T_api_Node→Nat
 | .mk _ _ _ ks _ => 1 + cntL ks
def cntL:List T_api_Node→Nat
 | [] => 0
 | n :: l => cnt n + cntL l
end
theorem cnt_eq (n:T_api_Node):cnt n=1 + cntL n.Kids:=by cases n; rw [cnt]
theorem right_l (k:Nat) (self:T_api_Node→Int→Bool→Int→Option (Bool × Int)) (n:T_api_Node) (dp:Int) (hd:0 ≤ dp ∧ dp ≤ 24) (h9:n.Kids.length ≤ 1000000000)
  (hs:∀ q ∈ n.Kids,∀ (b:Bool) (left:Int),0 ≤ left→left ≤ 1000000→∃ l',self q (dp + 1) b left=some (decide ((cnt q:Int) ≤ left) && shp q (dp + 1) b,l') ∧ ((decide ((cnt q:Int) ≤ left) && shp q (dp + 1) b)=true→l'=left - cnt q)) :
  ∀ (m j:Nat) (left:Int) (b:Bool),j ≤ n.Kids.length→n.Kids.length < j + m→0 ≤ left→left ≤ 1000000→∃ l',tree_right.l0 k self n dp m left (j:Int) b=some (decide ((cntL (n.Kids.drop j):Int) ≤ left) && shpL (n.Kids.drop j) (dp + 1) b,l') ∧ ((decide ((cntL (n.Kids.drop j):Int) ≤ left) && shpL (n.Kids.drop j) (dp + 1) b)=true→l'=left - cntL (n.Kids.drop j)):=by
 intro m
 induction m with
 | zero => intro j _ _ h1 h2; omega
 | succ m ih =>
  intro j left b h1 h2 h3 h4
  unfold tree_right.l0
  by_cases hj:j < n.Kids.length
  ·obtain⟨l1,e1,g1⟩:=hs _ (rd_mem hj) b left h3 h4
   rw [if_pos (by simp; omega),if_pos (by omega),w64 (x:=dp + 1) (by omega) (by omega),e1,Option.bind_some,rd_dropN hj,cntL,shpL]
   by_cases hb:(decide ((cnt (rd n.Kids (j:Int)):Int) ≤ left) && shp (rd n.Kids (j:Int)) (dp + 1) b)=true
   ·have hl:=g1 hb
    rw [Bool.and_eq_true,decide_eq_true_eq] at hb
    obtain⟨l2,e2,g2⟩:=ih (j + 1) l1 ((rd n.Kids (j:Int)).Kind == 2) (by omega) (by omega) (by omega) (by omega)
    simp only
    rw [decide_eq_true hb.1,hb.2,if_neg (by simp),wi (by omega),e2,hl]
    refine⟨l2,?_,?_⟩
    ·congr 2
     rw [Bool.true_and]
     congr 1
     exact decide_eq_decide.2 (by omega)
    ·intro h
     rw [Bool.true_and,Bool.and_eq_true,decide_eq_true_eq] at h
     rw [g2 (by rw [Bool.and_eq_true,decide_eq_true_eq]; exact⟨by omega,h.2⟩)]
     omega
   ·have hb':(decide ((cnt (rd n.Kids (j:Int)):Int) ≤ left) && shp (rd n.Kids (j:Int)) (dp + 1) b)=false:=by simpa using hb
    rw [hb',if_pos (by simp)]
    have hf:(decide (((cnt (rd n.Kids (j:Int)) + cntL (n.Kids.drop (j + 1)):Nat):Int) ≤ left) && (shp (rd n.Kids (j:Int)) (dp + 1) b && shpL (n.Kids.drop (j + 1)) (dp + 1) ((rd n.Kids (j:Int)).Kind == 2)))=false:=by
     rw [Bool.and_eq_false_iff] at hb'
     rcases hb' with h | h
     ·rw [decide_eq_false_iff_not] at h
      rw [decide_eq_false (by omega),Bool.false_and]
     ·rw [h,Bool.false_and,Bool.and_false]
    exact⟨l1,by rw [hf],fun h => by rw [hf] at h; cases h⟩
  ·rw [if_neg (by simp; omega),List.drop_of_length_le (by omega),cntL,shpL]
   exact⟨left,by simp; omega,fun _ => by simp⟩
theorem right_eq:∀ (d k:Nat) (n:T_api_Node) (dp:Int) (b:Bool) (left:Int),wf n ≤ d→wf n ≤ 1000000000→wf n + 2000000010 ≤ k→0 ≤ dp→dp ≤ 25→0 ≤ left→left ≤ 1000000→
  ∃ l',tree_right k n dp b left=some (decide ((cnt n:Int) ≤ left) && shp n dp b,l') ∧ ((decide ((cnt n:Int) ≤ left) && shp n dp b)=true→l'=left - cnt n):=by
 intro d
 induction d with
 | zero => intro k n _ _ _ h; have:=wf_pos n; omega
 | succ d ih =>
  intro k n dp b left h1 h2 h3 h4 h5 h6 h7
  obtain⟨k,rfl⟩:∃ z,k=z + 1:=⟨k - 1,by omega⟩
  have hc:=cnt_eq n
  have hw:=wf_eq n
  have hlen:=Nat.le_trans (wt_kids n) (wt_wf n)
  rw [tree_right,w64 (x:=left - 1) (by omega) (by omega)]
  by_cases hl:left - 1 < 0
  ·rw [if_pos (by simpa using hl),decide_eq_false (by omega)]
   exact⟨_,rfl,fun h => by cases h⟩
  ·rw [if_neg (by simpa using hl),shp_eq]
   by_cases hk2:n.Kind=2
   ·rw [if_pos (by simp [hk2]),if_pos hk2]
    refine⟨left - 1,?_,fun h => ?_⟩
    ·rw [w64 (x:=(n.Attrs.length:Int) + (n.Kids.length:Int)) (by omega) (by omega)]
     by_cases hg:(((!b) && (!(n.Text == ([]:Str)))) == true)=true
     ·rw [if_pos hg,signs_eq k _ (by omega) (by omega),Option.bind_some]
      have hg':((!b) && (!(n.Text == ([]:Str))))=true:=by simpa using hg
      rw [Bool.and_eq_true] at hg'
      unfold txB
      rw [hg'.1,hg'.2]
      simp only [Bool.true_and]
      congr 2
      by_cases hz:((n.Attrs.length:Int) + (n.Kids.length:Int) == 0)=true
      ·have:n.Kids=[]:=no_kids hz
       rw [this] at hc
       rw [decide_eq_true (by rw [hc,cntL]; omega),Bool.true_and]
      ·have hz':((n.Attrs.length:Int) + (n.Kids.length:Int) == 0)=false:=by simpa using hz
       rw [hz']; simp
     ·rw [if_neg hg,Option.bind_some]
      have hg':((!b) && (!(n.Text == ([]:Str))))=false:=by simpa using hg
      congr 2
      unfold txB
      rw [hg']
      cases b with
      | true => simp
      | false =>
       rw [Bool.not_false,Bool.true_and] at hg'
       rw [hg']
       simp
    ·rw [Bool.and_eq_true,decide_eq_true_eq] at h
     have hx:=h.2
     unfold txB at hx
     simp only [Bool.and_eq_true] at hx
     have:n.Kids=[]:=no_kids hx.2.2
     rw [hc,this,cntL]; omega
   ·rw [if_neg (by simpa using hk2),if_neg hk2]
    by_cases hg:((((n.Kind != 1) || (decide (dp > 24))) || (!(n.Text == ([]:Str)))) == false)=true
    ·have hg':(((n.Kind != 1) || (decide (dp > 24))) || (!(n.Text == ([]:Str))))=false:=by simpa using hg
     rw [if_pos hg,named_eq k _ (by omega) (by omega) (by omega),Option.bind_some]
     have hp:n.Kind=1 ∧ dp ≤ 24 ∧ n.Text=[]:=by
      rw [Bool.or_eq_false_iff,Bool.or_eq_false_iff] at hg'
      exact⟨by simpa using hg'.1.1,by simpa using hg'.1.2,by simpa using hg'.2⟩
     have hel:elB n=(nmB n.Name && atB n.Attrs):=by unfold elB; rw [hp.1,hp.2.2]; simp
     rw [hg',hel]
     cases hn:nmB n.Name with
     | false =>
      rw [if_neg (by simp),Option.bind_some,if_pos (by simp)]
      exact⟨left - 1,by simp,fun h => by simp at h⟩
     | true =>
      rw [if_pos (by simp),attrs_eq k _ (by omega) (by omega) (by omega),Option.bind_some]
      cases ha:atB n.Attrs with
      | false =>
       rw [if_pos (by simp)]
       exact⟨left - 1,by simp,fun h => by simp at h⟩
      | true =>
       rw [if_neg (by simp)]
       obtain⟨l',e,g⟩:=right_l k (tree_right k) n dp ⟨h4,hp.2.1⟩ (by omega) (fun q hq b left h h' => by have:=kid_ltf hq; exact ih k q (dp + 1) b left (by omega) (by omega) (by omega) (by omega) (by omega) h h') k 0 (left - 1) false (by omega) (by omega) (by omega) (by omega)
       rw [show ((0:Nat):Int)=0 from rfl,List.drop_zero] at e
       rw [List.drop_zero] at g
       rw [e,decide_eq_true hp.2.1,hc]
       simp only [Bool.true_and,Bool.and_true]
       have hd:decide (((1 + cntL n.Kids:Nat):Int) ≤ left)=decide ((cntL n.Kids:Int) ≤ left - 1):=decide_eq_decide.2 (by omega)
       rw [hd]
       exact⟨l',rfl,fun h => by rw [g h]; omega⟩
    ·rw [if_neg hg,Option.bind_some]
     have hg':(((n.Kind != 1) || (decide (dp > 24))) || (!(n.Text == ([]:Str))))=true:=by
      cases h:(((n.Kind != 1) || (decide (dp > 24))) || (!(n.Text == ([]:Str)))) with
      | true => rfl
      | false => exact absurd (by rw [h]; rfl) hg
     rw [hg',if_neg (by simp),Option.bind_some,if_pos (by simp)]
     have hf:(elB n && decide (dp ≤ 24))=false:=by
      unfold elB
      simp only [Bool.or_eq_true] at hg'
      rcases hg' with (h | h) | h
      ·have:(n.Kind == 1)=false:=by simpa using h
       rw [this]; simp
      ·have:decide (dp ≤ 24)=false:=by simpa using h
       rw [this]; simp
      ·have:(n.Text == ([]:Str))=false:=by simpa using h
       rw [this]; simp
     rw [hf]
     exact⟨left - 1,by simp,fun h => by simp at h⟩
theorem Right_eq (k:Nat) (n:T_api_Node) (hw:wf n ≤ 1000000000) (hk:4000000000 ≤ k):tree_Right k n=some (n.Kind == 1 && (decide (cnt n ≤ 2000) && shp n 1 false)):=by
 unfold tree_Right
 by_cases h1:n.Kind=1
 ·obtain⟨l',e,_⟩:=right_eq _ k n 1 false 2000 (Nat.le_refl _) hw (by omega) (by omega) (by omega) (by omega) (by omega)
  rw [if_pos (by simp [h1]),e,Option.bind_some]
  simp only [h1]
  congr 1
  rw [show decide ((cnt n:Int) ≤ 2000)=decide (cnt n ≤ 2000) from decide_eq_decide.2 (by omega)]
  simp
 ·rw [if_neg (by simpa using h1)]
  have:(n.Kind == 1)=false:=by simpa using h1
  rw [this]; rfl
theorem shpL_nj:∀ (l:List T_api_Node) (dp:Int) (b:Bool),shpL l dp b=true→njB (b :: l.map isT)=true
 | [],_,_,_ => rfl
 | n :: l,dp,b,h => by
  rw [shpL,Bool.and_eq_true,shp_eq] at h
  have h2:=shpL_nj l dp _ h.2
  rw [List.map_cons,njB]
  rw [Bool.and_eq_true]
  refine⟨?_,h2⟩
  by_cases hk:n.Kind=2
  ·rw [if_pos hk] at h
   have:=h.1
   rw [Bool.and_eq_true] at this
   have hb:b=false:=by simpa using this.1
   rw [hb]; rfl
  ·have:isT n=false:=by simp [isT,hk]
   rw [this]; simp
theorem shp_nj {n:T_api_Node} {dp:Int} {b:Bool} (h:shp n dp b=true):nj n.Kids=true ∧ (n.Kids ≠ []→n.Kind=1):=by
 rw [shp_eq] at h
 by_cases hk:n.Kind=2
 ·rw [if_pos hk,Bool.and_eq_true] at h
  have hx:=h.2
  unfold txB at hx
  simp only [Bool.and_eq_true] at hx
  have:n.Kids=[]:=no_kids hx.2
  rw [this]
  exact⟨rfl,fun h => absurd rfl h⟩
 ·rw [if_neg hk,Bool.and_eq_true,Bool.and_eq_true] at h
  refine⟨njB_cons (shpL_nj _ _ _ h.2),fun _ => ?_⟩
  have hx:=h.1.1
  unfold elB at hx
  simp only [Bool.and_eq_true] at hx
  simpa using hx.1.1.1
theorem shpL_mem:∀ (l:List T_api_Node) (dp:Int) (b:Bool),shpL l dp b=true→∀ q ∈ l,∃ c,shp q dp c=true
 | [],_,_,_,q,hq => by cases hq
 | n :: l,dp,b,h,q,hq => by
  rw [shpL,Bool.and_eq_true] at h
  rcases List.mem_cons.1 hq with rfl | hq
  ·exact⟨b,h.1⟩
  ·exact shpL_mem l dp _ h.2 q hq
theorem shp_at:∀ (p:List Int) (n:T_api_Node) (dp:Int) (b:Bool),shp n dp b=true→valid p n→∃ dp' c,shp (atN p n) dp' c=true
 | [],n,dp,b,h,_ =>⟨dp,b,h⟩
 | i :: q,n,dp,b,h,hv => by
  have hk:n.Kind ≠ 2:=fun hk => by
   have:=(shp_nj h).2 (fun h0 => by have:=hv.1; rw [h0] at this; simp at this; omega)
   omega
  rw [shp_eq,if_neg hk,Bool.and_eq_true] at h
  obtain⟨c,hc⟩:=shpL_mem _ _ _ h.2 _ (rd_memI hv.1)
  exact shp_at q _ _ c hc hv.2
end Go.Proofs.Ytjhbedgepfkdbaa.Pure
