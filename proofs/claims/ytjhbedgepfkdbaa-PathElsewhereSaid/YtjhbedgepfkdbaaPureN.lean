import Derived.Test.YtjhbedgepfkdbaaSh
import Derived.Test.YtjhbedgepfkdbaaVxP
namespace Go.Proofs.Ytjhbedgepfkdbaa.Pure
open Go Go.RowKit Go.Proofs.Vx Go.Proofs.Ytjhbedgepfkdbaa.Sh
theorem and8 (n:Nat) (hn:n < 8) {a:Int} (h:0 ≤ a) (h2:a ≤ 255):bitAnd .u8 a ((2 ^ n - 1:Nat):Int)=a % (2 ^ n:Nat):=by
 obtain⟨x,rfl⟩:=Int.eq_ofNat_of_zero_le h
 have hp:2 ^ n ≤ 2 ^ 7:=Nat.pow_le_pow_right (by omega) (by omega)
 have hp1:0 < 2 ^ n:=Nat.pow_pos (by omega)
 have hm:=Nat.mod_lt x hp1
 rw [bitAnd_nat (by simp [IntKind.bits]; omega) (by simp [IntKind.bits]; omega),and_mod,w8 (by omega) (by omega)]
 rfl
theorem and31 {a:Int} (h:0 ≤ a) (h2:a ≤ 255):bitAnd .u8 a 31=a % 32:=and8 5 (by omega) h h2
theorem and15 {a:Int} (h:0 ≤ a) (h2:a ≤ 255):bitAnd .u8 a 15=a % 16:=and8 4 (by omega) h h2
theorem and7 {a:Int} (h:0 ≤ a) (h2:a ≤ 255):bitAnd .u8 a 7=a % 8:=and8 3 (by omega) h h2
theorem and63 {a:Int} (h:0 ≤ a) (h2:a ≤ 255):bitAnd .u8 a 63=a % 64:=and8 6 (by omega) h h2
theorem or64 {r x:Int} (h:0 ≤ r) (h2:r < 16777216) (g:0 ≤ x) (g2:x < 64):bitOr .i32 (r * 64) x=r * 64 + x:=by
 obtain⟨y,rfl⟩:=Int.eq_ofNat_of_zero_le h
 obtain⟨z,rfl⟩:=Int.eq_ofNat_of_zero_le g
 have e:((y:Int) * 64)=((2 ^ 6 * y:Nat):Int):=by omega
 rw [e,bitOr_nat (by simp [IntKind.bits]; omega) (by simp [IntKind.bits]; omega),or_add (by omega),w32 (by omega) (by omega)]
 omega
def cont:List Int→Int→Option Int
 | [],r => some r
 | b :: bs,r => if b.fdiv (2 ^ min (Int.toNat 6) (IntKind.bits .u8)) != 2 then none else cont bs (bitOr .i32 (IntKind.i32.wrap (r * 2 ^ min (Int.toNat 6) (IntKind.bits .i32))) (IntKind.i32.wrap (bitAnd .u8 b 63)))
def fin (r n:Int):Option (Int × Int):=(utf_least n).bind fun t => (if (decide (r < t) == false)=true then utf_scalar r else some default).bind fun s => if (decide (r < t) || !s)=true then some (0,0) else some (r,n)
theorem rune_l (k:Nat) (a0:Str) (a1:Int) (t4:Int × Int) (bs:List Int) (hb:bytesOfStr (sl a0 (IntKind.i64.wrap (a1 + 1)) (IntKind.i64.wrap (a1 + t4.1)))=bs) (hl:bs.length < 1000) (n:Int) :
  ∀ (m i:Nat) (r:Int),bs.length < i + m→i ≤ bs.length→utf_Rune.l0 k a0 a1 t4 m r (i:Int) n=match cont (bs.drop i) r with | none => some (0,0) | some r => fin r n:=by
 intro m
 induction m with
 | zero => intro i r h h2; omega
 | succ m ih =>
  intro i r h h2
  unfold utf_Rune.l0
  rw [hb]
  by_cases hi:i < bs.length
  ·rw [if_pos (by simp; omega),if_pos (by omega),rd_drop hi,w64 (x:=(i:Int) + 1) (by omega) (by omega)]
   unfold cont
   split
   ·rfl
   ·have:=ih (i + 1) (bitOr .i32 (IntKind.i32.wrap (r * 2 ^ min (Int.toNat 6) (IntKind.bits .i32))) (IntKind.i32.wrap (bitAnd .u8 (rd bs (i:Int)) 63))) (by omega) (by omega)
    rw [show ((i + 1:Nat):Int)=(i:Int) + 1 by omega] at this
    exact this
  ·rw [if_neg (by simp; omega),List.drop_of_length_le (by omega)]
   rfl
theorem p6:(2:Int) ^ min (Int.toNat 6) (IntKind.bits .u8)=64:=by decide
theorem p6r:(2:Int) ^ min (Int.toNat 6) (IntKind.bits .i32)=64:=by decide
theorem cont_cons {b r:Int} (bs:List Int) (h:0 ≤ b ∧ b ≤ 255) (g:0 ≤ r ∧ r < 16777216):cont (b :: bs) r=if 128 ≤ b ∧ b < 192 then cont bs (r * 64 + (b - 128)) else none:=by
 rw [cont,p6,p6r,fdiv_div (by omega),and63 h.1 h.2,w32 (by omega) (by omega),w32 (by omega) (by omega),or64 g.1 g.2 (by omega) (by omega)]
 by_cases hb:128 ≤ b ∧ b < 192
 ·rw [if_pos hb,if_neg (by simp; omega),show b % 64=b - 128 by omega]
 ·rw [if_neg hb,if_pos (by simp; omega)]
def isC (b:Int):Bool:=decide (128 ≤ b) && decide (b < 192)
def scal (v:Int):Bool:=(decide (0 ≤ v) && decide (v < 55296)) || (decide (57344 ≤ v) && decide (v ≤ 1114111))
def dec:List Int→Int × Int
 | [] => (0,0)
 | b0 :: r => if b0 < 128 then (b0,1)
  else if b0 < 192 then (0,0)
  else if b0 < 224 then match r with
   | b1 :: _ => if isC b1 && decide (128 ≤ (b0 - 192) * 64 + (b1 - 128)) then ((b0 - 192) * 64 + (b1 - 128),2) else (0,0)
   | _ => (0,0)
  else if b0 < 240 then match r with
   | b1 :: b2 :: _ => if isC b1 && isC b2 && decide (2048 ≤ ((b0 - 224) * 64 + (b1 - 128)) * 64 + (b2 - 128)) && scal (((b0 - 224) * 64 + (b1 - 128)) * 64 + (b2 - 128)) then (((b0 - 224) * 64 + (b1 - 128)) * 64 + (b2 - 128),3) else (0,0)
   | _ => (0,0)
  else if b0 < 248 then match r with
   | b1 :: b2 :: b3 :: _ => if isC b1 && isC b2 && isC b3 && decide (65536 ≤ (((b0 - 240) * 64 + (b1 - 128)) * 64 + (b2 - 128)) * 64 + (b3 - 128)) && scal ((((b0 - 240) * 64 + (b1 - 128)) * 64 + (b2 - 128)) * 64 + (b3 - 128)) then ((((b0 - 240) * 64 + (b1 - 128)) * 64 + (b2 - 128)) * 64 + (b3 - 128),4) else (0,0)
   | _ => (0,0)
  else (0,0)
theorem shape_eq {b:Int} (h:0 ≤ b) (h2:b ≤ 255):utf_shape b=some (if b < 128 then (1,b) else if b < 192 then (0,0) else if b < 224 then (2,b - 192) else if b < 240 then (3,b - 224) else if b < 248 then (4,b - 240) else (0,0)):=by
 unfold utf_shape
 have p5:(2:Int) ^ min (Int.toNat 5) (IntKind.bits .u8)=32:=by decide
 have p4:(2:Int) ^ min (Int.toNat 4) (IntKind.bits .u8)=16:=by decide
 have p3:(2:Int) ^ min (Int.toNat 3) (IntKind.bits .u8)=8:=by decide
 rw [p5,p4,p3,fdiv_div (by omega),fdiv_div (by omega),fdiv_div (by omega),and31 h h2,and15 h h2,and7 h h2,w32 (by omega) (by omega),w32 (by omega) (by omega),w32 (by omega) (by omega),w32 (by omega) (by omega)]
 simp only [decide_eq_true_eq,beq_iff_eq]
 by_cases c1:b < 128
 ·simp [c1]
 by_cases c2:b < 192
 ·simp [c1,c2]; repeat rw [if_neg (by omega)]
 by_cases c3:b < 224
 ·rw [if_neg c1,if_pos (by omega)]; simp [c1,c2,c3]; omega
 by_cases c4:b < 240
 ·rw [if_neg c1,if_neg (by omega),if_pos (by omega)]; simp [c1,c2,c3,c4]; omega
 by_cases c5:b < 248
 ·rw [if_neg c1,if_neg (by omega),if_neg (by omega),if_pos (by omega)]; simp [c1,c2,c3,c4,c5]; omega
 ·rw [if_neg c1,if_neg (by omega),if_neg (by omega),if_neg (by omega)]; simp [c1,c2,c3,c4,c5]
theorem fin_eq (r n:Int):fin r n=some (if (if n=2 then 128 else if n=3 then 2048 else if n=4 then 65536 else 0) ≤ r ∧ scal r=true then (r,n) else (0,0)):=by
 have hl:utf_least n=some (if n=2 then 128 else if n=3 then 2048 else if n=4 then 65536 else 0):=by
  unfold utf_least; simp only [beq_iff_eq]; split <;> (try rfl); split <;> (try rfl); split <;> rfl
 have hs:utf_scalar r=some (scal r):=by
  unfold utf_scalar scal; simp
 unfold fin
 rw [hl,hs,Option.bind_some]
 generalize (if n=2 then (128:Int) else if n=3 then 2048 else if n=4 then 65536 else 0)=q
 by_cases c:r < q
 ·simp [c]; omega
 ·simp [c]; cases scal r <;> simp <;> omega
theorem bytes_range {s:Str} {b:Int} (h:b ∈ bytesOfStr s):0 ≤ b ∧ b ≤ 255:=by
 unfold bytesOfStr at h
 obtain⟨c,_,rfl⟩:=List.mem_map.1 h
 have:=c.toNat_lt
 omega
theorem bytes_sl (s:Str) (i n:Nat):bytesOfStr (sl s ((i:Int) + 1) ((i:Int) + n))=(bytesOfStr (s.drop i)).tail.take (n - 1):=by
 unfold sl bytesOfStr
 rw [show ((i:Int) + 1).toNat=i + 1 by omega,show ((i:Int) + n).toNat - (i + 1)=n - 1 by omega,List.map_take,← List.map_tail,List.tail_drop]
theorem rune_eq (k:Nat) (hk:5 ≤ k) (a0:Str) (a1:Int) (hl:a0.length ≤ 9000000000000000000) :
  utf_Rune k a0 a1=some (if a1 < 0 ∨ (a0.length:Int) ≤ a1 then (0,0) else dec (bytesOfStr (a0.drop a1.toNat))):=by
 unfold utf_Rune
 by_cases ho:a1 < 0 ∨ (a0.length:Int) ≤ a1
 ·rw [if_pos (by simp; omega),if_pos ho]
 rw [if_neg (by simp; omega),if_neg ho,if_pos (by omega)]
 obtain⟨i,rfl⟩:=Int.eq_ofNat_of_zero_le (show 0 ≤ a1 by omega)
 have hi:i < a0.length:=by omega
 have hr:=bt_range a0 i
 rw [shape_eq hr.1 hr.2,Option.bind_some,Int.toNat_natCast]
 obtain⟨b0,r,hL⟩:∃ b0 r,bytesOfStr (a0.drop i)=b0 :: r:=⟨_,_,by rw [List.drop_eq_getElem_cons hi]; rfl⟩
 have hlen:r.length + 1=a0.length - i:=by
  have:=congrArg List.length hL; simp [bytesOfStr] at this; omega
 have hb0:bt a0 i=b0:=by
  have:(bytesOfStr (a0.drop i)).head? =some b0:=by rw [hL]; rfl
  unfold bytesOfStr at this
  rw [List.drop_eq_getElem_cons hi] at this
  simp at this
  obtain⟨c,hc,e⟩:=this
  rw [← e]; unfold bt; rw [Int.toNat_natCast]; simp [List.getD,hc]
 have hin:∀ b ∈ b0 :: r,0 ≤ b ∧ b ≤ 255:=fun b hb => bytes_range (by rw [hL]; exact hb)
 rw [hb0,hL]
 have e1:IntKind.i64.wrap ((a0.length:Int) - (i:Int))=(r.length:Int) + 1:=by rw [w64 (by omega) (by omega)]; omega
 have e2:IntKind.i64.wrap ((i:Int) + 1)=(i:Int) + 1:=w64 (by omega) (by omega)
 have e3:∀ n:Nat,n ≤ 4→IntKind.i64.wrap ((i:Int) + n)=(i:Int) + n:=fun n h => w64 (by omega) (by omega)
 have go:∀ (n:Nat) (x:Int),1 ≤ n→n ≤ 4→n ≤ r.length + 1→utf_Rune.l0 k a0 i ((n:Int),x) k x 0 n=match cont (r.take (n - 1)) x with | none => some (0,0) | some r => fin r n:=by
  intro n x h1 h4 h
  have:=rune_l k a0 i ((n:Int),x) (r.take (n - 1)) (by rw [e2,e3 n h4,bytes_sl,hL]; rfl) (by simp; omega) n k 0 x (by simp; omega) (by omega)
  simpa using this
 have g1:=hin b0 (by simp)
 rw [e1]
 by_cases c1:b0 < 128
 ·rw [if_pos c1]
  have:=go 1 b0 (by omega) (by omega) (by omega)
  simp only [dec,if_pos c1]
  rw [if_neg (by simp; omega),if_pos (by rw [e2]; omega)]
  refine this.trans ?_
  simp [cont,fin_eq,scal]; omega
 have z:IntKind.i64.wrap ((i:Int) + 2)=(i:Int) + 2:=e3 2 (by omega)
 have z3:IntKind.i64.wrap ((i:Int) + 3)=(i:Int) + 3:=e3 3 (by omega)
 have z4:IntKind.i64.wrap ((i:Int) + 4)=(i:Int) + 4:=e3 4 (by omega)
 by_cases c2:b0 < 192
 ·simp only [dec,if_neg c1,if_pos c2]; rw [if_pos (by simp)]
 by_cases c3:b0 < 224
 ·simp only [dec,if_neg c1,if_neg c2,if_pos c3]
  match r,hlen,hin,go with
  | [],_,_,_ => simp
  | b1 :: r,hlen,hin,go =>
   have g2:=hin b1 (by simp)
   have:=go 2 (b0 - 192) (by omega) (by omega) (by simp)
   rw [if_neg (by simp; omega),if_pos (by rw [e2,z]; simp at hlen; omega)]
   refine this.trans ?_
   simp only [List.take_succ_cons,Nat.reduceSub,List.take_zero]
   rw [cont_cons _ g2 (by omega)]
   by_cases d1:128 ≤ b1 ∧ b1 < 192
   ·have hs:scal ((b0 - 192) * 64 + (b1 - 128))=true:=by simp [scal]; omega
    rw [if_pos d1]; simp only [cont,fin_eq]; simp [isC,d1.1,d1.2,hs]
   ·rw [if_neg d1]; simp [isC]; omega
 by_cases c4:b0 < 240
 ·simp only [dec,if_neg c1,if_neg c2,if_neg c3,if_pos c4]
  match r,hlen,hin,go with
  | [],_,_,_ => simp
  | [b1],_,_,_ => simp
  | b1 :: b2 :: r,hlen,hin,go =>
   have g2:=hin b1 (by simp)
   have g3:=hin b2 (by simp)
   have:=go 3 (b0 - 224) (by omega) (by omega) (by simp)
   rw [if_neg (by simp; omega),if_pos (by rw [e2,z3]; simp at hlen; omega)]
   refine this.trans ?_
   simp only [List.take_succ_cons,Nat.reduceSub,List.take_zero]
   rw [cont_cons _ g2 (by omega)]
   by_cases d1:128 ≤ b1 ∧ b1 < 192
   ·rw [if_pos d1,cont_cons _ g3 (by omega)]
    by_cases d2:128 ≤ b2 ∧ b2 < 192
    ·rw [if_pos d2]; simp only [cont,fin_eq]; simp [isC,d1.1,d1.2,d2.1,d2.2]
    ·rw [if_neg d2]; simp [isC]; omega
   ·rw [if_neg d1]; simp [isC]; omega
 by_cases c5:b0 < 248
 ·simp only [dec,if_neg c1,if_neg c2,if_neg c3,if_neg c4,if_pos c5]
  match r,hlen,hin,go with
  | [],_,_,_ => simp
  | [b1],_,_,_ => simp
  | [b1,b2],_,_,_ => simp
  | b1 :: b2 :: b3 :: r,hlen,hin,go =>
   have g2:=hin b1 (by simp)
   have g3:=hin b2 (by simp)
   have g4:=hin b3 (by simp)
   have:=go 4 (b0 - 240) (by omega) (by omega) (by simp)
   rw [if_neg (by simp; omega),if_pos (by rw [e2,z4]; simp at hlen; omega)]
   refine this.trans ?_
   simp only [List.take_succ_cons,Nat.reduceSub,List.take_zero]
   rw [cont_cons _ g2 (by omega)]
   by_cases d1:128 ≤ b1 ∧ b1 < 192
   ·rw [if_pos d1,cont_cons _ g3 (by omega)]
    by_cases d2:128 ≤ b2 ∧ b2 < 192
    ·rw [if_pos d2,cont_cons _ g4 (by omega)]
     by_cases d3:128 ≤ b3 ∧ b3 < 192
     ·rw [if_pos d3]; simp only [cont,fin_eq]; simp [isC,d1.1,d1.2,d2.1,d2.2,d3.1,d3.2]
     ·rw [if_neg d3]; simp [isC]; omega
    ·rw [if_neg d2]; simp [isC]; omega
   ·rw [if_neg d1]; simp [isC]; omega
 ·simp only [dec,if_neg c1,if_neg c2,if_neg c3,if_neg c4,if_neg c5]; rw [if_pos (by simp)]
theorem dec_take (L:List Int) (h:(dec L).2 ≠ 0):∃ n:Nat,(dec L).2=n ∧ 1 ≤ n ∧ n ≤ 4 ∧ n ≤ L.length ∧ ∀ M,dec (L.take n ++ M)=dec L:=by
 match L with
 | [] => simp [dec] at h
 | b0 :: r =>
  simp only [dec] at h ⊢
  by_cases c1:b0 < 128
  ·rw [if_pos c1]; exact⟨1,rfl,by omega,by omega,by simp,fun M => by simp [dec,c1]⟩
  rw [if_neg c1] at h ⊢
  by_cases c2:b0 < 192
  ·rw [if_pos c2] at h; simp at h
  rw [if_neg c2] at h ⊢
  by_cases c3:b0 < 224
  ·rw [if_pos c3] at h ⊢
   match r with
   | [] => simp at h
   | b1 :: r =>
    simp only at h ⊢
    split at h
    ·rename_i q
     rw [if_pos q]
     exact⟨2,rfl,by omega,by omega,by simp,fun M => by simp only [List.take_succ_cons,List.take_zero,List.cons_append,List.nil_append,dec]; rw [if_neg c1,if_neg c2,if_pos c3,if_pos q]⟩
    ·simp at h
  rw [if_neg c3] at h ⊢
  by_cases c4:b0 < 240
  ·rw [if_pos c4] at h ⊢
   match r with
   | [] => simp at h
   | [_] => simp at h
   | b1 :: b2 :: r =>
    simp only at h ⊢
    split at h
    ·rename_i q
     rw [if_pos q]
     exact⟨3,rfl,by omega,by omega,by simp,fun M => by simp only [List.take_succ_cons,List.take_zero,List.cons_append,List.nil_append,dec]; rw [if_neg c1,if_neg c2,if_neg c3,if_pos c4,if_pos q]⟩
    ·simp at h
  rw [if_neg c4] at h ⊢
  by_cases c5:b0 < 248
  ·rw [if_pos c5] at h ⊢
   match r with
   | [] => simp at h
   | [_] => simp at h
   | [_,_] => simp at h
   | b1 :: b2 :: b3 :: r =>
    simp only at h ⊢
    split at h
    ·rename_i q
     rw [if_pos q]
     exact⟨4,rfl,by omega,by omega,by simp,fun M => by simp only [List.take_succ_cons,List.take_zero,List.cons_append,List.nil_append,dec]; rw [if_neg c1,if_neg c2,if_neg c3,if_neg c4,if_pos c5,if_pos q]⟩
    ·simp at h
  ·rw [if_neg c5] at h; simp at h
inductive Val:List Int→Prop
 | nil:Val []
 | cons (L:List Int) (n:Nat) (h:(dec L).2=n) (h1:1 ≤ n) (hr:Val (L.drop n)):Val L
theorem dec_app {L:List Int} {n:Nat} (h:(dec L).2=n) (h1:1 ≤ n):n ≤ L.length ∧ n ≤ 4 ∧ ∀ M,dec (L ++ M)=dec L:=by
 obtain⟨m,e,m1,m4,ml,hM⟩:=dec_take L (by omega)
 have:m=n:=by omega
 subst this
 refine⟨ml,m4,fun M => ?_⟩
 have:=hM (L.drop m ++ M)
 rwa [← List.append_assoc,List.take_append_drop] at this
theorem decomp:∀ (k:Nat) (L:List Int),L.length ≤ k→∃ A B,L=A ++ B ∧ Val A ∧ (B=[] ∨ (dec B).2=0):=by
 intro k
 induction k with
 | zero => intro L h; exact⟨[],[],List.eq_nil_of_length_eq_zero (by omega),.nil,.inl rfl⟩
 | succ k ih =>
  intro L h
  by_cases hd:(dec L).2=0
  ·exact⟨[],L,rfl,.nil,.inr hd⟩
  ·obtain⟨n,e,n1,n4,nl,hM⟩:=dec_take L hd
   obtain⟨A,B,hAB,hA,hB⟩:=ih (L.drop n) (by simp; omega)
   have hL:L=(L.take n ++ A) ++ B:=by rw [List.append_assoc,← hAB,List.take_append_drop]
   refine⟨L.take n ++ A,B,hL,.cons _ n ?_ n1 ?_,hB⟩
   ·rw [hM]; exact e
   ·rw [List.drop_append_of_le_length (by simp; omega)]; simpa using hA
theorem within_l (k:Nat) (a:Int) (l:List T_utf_span) (hl:l.length < 1000):∀ (m i:Nat),l.length < i + m→i ≤ l.length→utf_within.l0 k a l m (i:Int)=some ((l.drop i).any fun s => decide (a ≥ s.From_) && decide (a ≤ s.To_)):=by
 intro m
 induction m with
 | zero => intro i h h2; omega
 | succ m ih =>
  intro i h h2
  unfold utf_within.l0
  by_cases hi:i < l.length
  ·rw [if_pos (by simp; omega),if_pos (by omega),w64 (by omega) (by omega),rd_drop hi,List.any_cons]
   have:=ih (i + 1) (by omega) (by omega)
   rw [show ((i + 1:Nat):Int)=(i:Int) + 1 by omega] at this
   rw [this]
   cases (decide (a ≥ (rd l (i:Int)).From_) && decide (a ≤ (rd l (i:Int)).To_)) <;> simp
  ·rw [if_neg (by simp; omega),List.drop_of_length_le (by omega)]; rfl
theorem within (k:Nat) (a:Int) (l:List T_utf_span) (hl:l.length < 1000) (hk:l.length < k):utf_within k a l=some (l.any fun s => decide (a ≥ s.From_) && decide (a ≤ s.To_)):=by
 have:=within_l k a l hl k 0 (by omega) (by omega)
 simpa [utf_within] using this
def starts:List (Int × Int):=[(65,90),(97,122),(95,95),(192,214),(216,246),(248,767),(880,893),(895,8191),(8204,8205),(8304,8591),(11264,12271),(12289,55295),(63744,64975),(65008,65533),(65536,983039)]
def parts:List (Int × Int):=[(45,46),(48,57),(183,183),(768,879),(8255,8256)]
def inSp (l:List (Int × Int)) (a:Int):Bool:=l.any fun s => decide (a ≥ s.1) && decide (a ≤ s.2)
def startB (a:Int):Bool:=inSp starts a
def partB (a:Int):Bool:=startB a || inSp parts a
theorem start_eq (k:Nat) (hk:70 ≤ k) (a:Int):utf_Start k a=some (startB a):=by
 unfold utf_Start
 rw [within k a _ (by simp) (by simp; omega)]
 rfl
theorem part_eq (k:Nat) (hk:70 ≤ k) (a:Int):utf_Part k a=some (partB a):=by
 unfold utf_Part
 rw [start_eq k hk,within k a _ (by simp) (by simp; omega),Option.bind_some]
 unfold partB
 cases startB a
 ·simp only [beq_self_eq_true,if_true,Option.bind_some,Bool.false_or]; rfl
 ·simp
inductive Rs:List Int→List Int→Prop
 | nil:Rs [] []
 | cons (L:List Int) (n:Nat) (r:Int) (rs:List Int) (h:dec L=(r,(n:Int))) (h1:1 ≤ n) (hr:Rs (L.drop n) rs):Rs L (r :: rs)
theorem Val.rs {A:List Int} (h:Val A):∃ rs,Rs A rs:=by
 induction h with
 | nil => exact⟨[],.nil⟩
 | cons L n h h1 _ ih =>
  obtain⟨rs,hr⟩:=ih
  exact⟨_,.cons L n (dec L).1 rs (by rw [← h]) h1 hr⟩
def okN (st:Nat):List Int→Bool
 | [] => true
 | r :: rs => (if st=66 then startB r else partB r) && rs.all partB
theorem okN19 (rs:List Int):okN 67 rs=rs.all partB:=by
 cases rs <;> simp [okN]
theorem name_l (k:Nat) (hk:70 ≤ k) (s:Str) (hl:s.length ≤ 9000000000000000) {A rs:List Int} (hA:Rs A rs):∀ (B:List Int) (i m st:Nat),(st=66 ∨ st=67)→i ≤ s.length→bytesOfStr (s.drop i)=A ++ B→(B=[] ∨ (dec B).2=0)→A.length < m→
  utf_Name.l0 k s m st (i:Int)=some (okN st rs && B.isEmpty):=by
 have hlen:∀ i,(bytesOfStr (s.drop i)).length=s.length - i:=fun i => by simp [bytesOfStr]
 induction hA with
 | nil =>
  intro B i m st hst hi hb hB hm
  obtain⟨m,rfl⟩:∃ q,m=q + 1:=⟨m - 1,by simp at hm; omega⟩
  unfold utf_Name.l0
  have hq:=hlen i
  rw [hb] at hq
  by_cases hn:B=[]
  ·subst hn; simp at hq; rw [if_neg (by simp; omega)]; rfl
  ·have:0 < B.length:=List.length_pos_iff.2 hn
   have hB:(dec B).2=0:=hB.resolve_left hn
   simp at hq
   rw [if_pos (by simp; omega),rune_eq k (by omega) s i (by omega),if_neg (by omega),Int.toNat_natCast,hb,Option.bind_some]
   simp [hB,hn]
 | cons L n r rs h h1 _ ih =>
  intro B i m st hst hi hb hB hm
  obtain⟨hn,h4,hM⟩:=dec_app (L:=L) (n:=n) (by rw [h]) h1
  obtain⟨m,rfl⟩:∃ q,m=q + 1:=⟨m - 1,by omega⟩
  unfold utf_Name.l0
  have hq:=hlen i
  rw [hb] at hq
  simp at hq
  rw [if_pos (by simp; omega),rune_eq k (by omega) s i (by omega),if_neg (by omega),Int.toNat_natCast,hb,Option.bind_some,hM,h]
  have hz:(((n:Int) == 0) == false)=true:=by simp; omega
  have hz2:((n:Int) == 0)=false:=by simp; omega
  have:=ih B (i + n) m 67 (.inr rfl) (by omega) (by
   have e:bytesOfStr (s.drop (i + n))=(bytesOfStr (s.drop i)).drop n:=by unfold bytesOfStr; rw [← List.drop_drop,List.map_drop]
   rw [e,hb,List.drop_append_of_le_length hn]) hB (by simp; omega)
  rw [show ((i + n:Nat):Int)=(i:Int) + n by omega] at this
  rw [w64 (by omega) (by omega),this,if_pos hz,start_eq k hk,part_eq k hk,okN19]
  simp only [hz2,Bool.false_or,okN]
  rcases hst with rfl | rfl
  ·simp only [if_true,Option.bind_some]
   cases startB r <;> simp
  ·simp only [show ¬ (67:Nat)=66 by omega,if_false,if_true,Option.bind_some]
   cases partB r <;> simp
theorem name_at (k:Nat) (hk:70 ≤ k) (s:Str) (h9:s.length ≤ 9000000000000000) {A B rs:List Int} (hb:bytesOfStr s=A ++ B) (hA:Rs A rs) (hB:B=[] ∨ (dec B).2=0):utf_Name k s=some (decide (1 ≤ s.length ∧ s.length ≤ 64) && (okN 66 rs && B.isEmpty)):=by
 have hlen:A.length ≤ s.length:=by have:=congrArg List.length hb; simp [bytesOfStr] at this; omega
 unfold utf_Name
 by_cases h:1 ≤ s.length ∧ s.length ≤ 64
 ·rw [if_neg (by simp; exact⟨fun e => by subst e; simp at h,by omega⟩),decide_eq_true h]
  have:=name_l k hk s h9 hA B 0 k 66 (.inl rfl) (by omega) (by simpa using hb) hB (by omega)
  simpa using this
 ·rw [if_pos (by simp; by_cases e:s=[]; exact .inl e; right; have:=List.length_pos_iff.2 e; omega),decide_eq_false h]
  rfl
end Go.Proofs.Ytjhbedgepfkdbaa.Pure
