import Derived.Test.YtjhbedgepfkdbaaVxKl
import Derived.Laws.ComplexArith
namespace Go.Proofs.Vx
open Go Go.RowKit
set_option linter.unusedSectionVars false
variable [Glo] {P:Program} {o:Oper} {σ:St}
theorem VOk.toF {src dst:TypeId} {x:Operand} {k:IntKind} {a:Int} (ho:o.op=.convert src dst x) (hs:(P.underlying src).isSome=true) (hd:P.underlying dst=some (.float .f64)) (hx:σ.ev x=.v (.int k a)):VOk P o σ (.v (.float .f64 (floatOfInt .f64 a))):=
 .plain fun _ _ _ ac w _ hr => by
  simp [execOp,ho,ev_v hr hx,run_convert_int_float w src dst k .f64 a hs hd]
theorem VOk.cx {x y:Operand} {ts:Array TypeId} {a b:Nat} (ho:o.op=.call { callee:=.builtin .complex,args:=#[x,y],argTypes:=ts }) (hx:σ.ev x=.v (.float .f64 a)) (hy:σ.ev y=.v (.float .f64 b)):VOk P o σ (.v (.complex .f64 a b)):=
 .plain fun _ _ _ ac w _ hr => by simp [execOp,ho,ev_v hr hx,ev_v hr hy,resolve,invoke,builtin,run_complex]
theorem VOk.re {x:Operand} {ts:Array TypeId} {a b:Nat} (ho:o.op=.call { callee:=.builtin .real,args:=#[x],argTypes:=ts }) (hx:σ.ev x=.v (.complex .f64 a b)):VOk P o σ (.v (.float .f64 a)):=
 .plain fun _ _ _ ac w _ hr => by simp [execOp,ho,ev_v hr hx,resolve,invoke,builtin,run_real]
def cadd (x y:Nat × Nat):Nat × Nat:=(cSumBits .add .f64 x.1 x.2 y.1 y.2).getD (0,0)
theorem VOk.cxAdd {ty ty2:TypeId} {x y:Operand} {a b:Nat × Nat} (ho:o.op=.binOp .add ty x y ty2) (hx:σ.ev x=.v (.complex .f64 a.1 a.2)) (hy:σ.ev y=.v (.complex .f64 b.1 b.2)) (hc:(cSumBits .add .f64 a.1 a.2 b.1 b.2).isSome=true):VOk P o σ (.v (.complex .f64 (cadd a b).1 (cadd a b).2)):=
 .plain fun _ _ _ ac w _ hr => by
  obtain⟨⟨re,im⟩,h⟩:=Option.isSome_iff_exists.1 hc
  simp [execOp,ho,ev_v hr hx,ev_v hr hy,eqGuard,cadd,h,run_complex_sum w .add (.inl rfl) ty .f64 a.1 a.2 b.1 b.2 re im h]
def fcmp (op:BinOp) (a b:Nat):Bool:=match op with
 | .leq => FloatKind.f64.format.order a b == some .lt || FloatKind.f64.format.order a b == some .eq
 | .lss => FloatKind.f64.format.order a b == some .lt
 | .gtr => FloatKind.f64.format.order a b == some .gt
 | .geq => FloatKind.f64.format.order a b == some .gt || FloatKind.f64.format.order a b == some .eq
 | .eql => FloatKind.f64.format.order a b == some .eq
 | _ => FloatKind.f64.format.order a b != some .eq
theorem VOk.fcmp {op:BinOp} {ty ty2:TypeId} {x y:Operand} {a b:Nat} (ho:o.op=.binOp op ty x y ty2) (hop:op=.leq ∨ op=.lss ∨ op=.gtr ∨ op=.geq ∨ op=.eql ∨ op=.neq) (hx:σ.ev x=.v (.float .f64 a)) (hy:σ.ev y=.v (.float .f64 b)):VOk P o σ (.v (.bool (Vx.fcmp op a b))):=
 .plain fun _ _ _ ac w _ hr => by
  rcases hop with rfl | rfl | rfl | rfl | rfl | rfl <;> simp [execOp,ho,ev_v hr hx,ev_v hr hy,eqGuard,Vx.fcmp,binOp,Op.floatCmp]
open Ieee
def N64 (n:Nat):Nat:=floatOfInt .f64 (n:Int)
theorem N64_eq (n:Nat):N64 n=double.nearest false n 0:=by
 have:decide ((n:Int) < 0)=false:=by simp
 show double.write (.number (decide ((n:Int) < 0)) (n:Int).natAbs 0)=_
 rw [this]; rfl
theorem log2_mul (n k:Nat) (hn:n ≠ 0):(n * 2 ^ k).log2=n.log2 + k:=by
 have h0:n * 2 ^ k ≠ 0:=Nat.mul_ne_zero hn (Nat.pos_iff_ne_zero.1 (Nat.two_pow_pos k))
 refine Nat.le_antisymm ?_ ((Nat.le_log2 h0).2 ?_)
 ·refine Nat.le_of_lt_succ ((Nat.log2_lt h0).2 ?_)
  have:=Nat.lt_log2_self (n:=n)
  rw [show (n.log2 + k).succ=(n.log2 + 1) + k by omega,Nat.pow_add]
  exact Nat.mul_lt_mul_of_pos_right this (Nat.two_pow_pos k)
 ·rw [Nat.pow_add]
  exact Nat.mul_le_mul_right _ (Nat.log2_self_le hn)
theorem cut_exact (x d:Nat) (h:d ≤ (x * 2 ^ d).log2 + 2):Toward.even.cut false (x * 2 ^ d) d=x:=by
 unfold Toward.cut
 simp only [Nat.min_eq_left h,Nat.one_shiftLeft,Nat.mul_div_cancel _ (Nat.two_pow_pos d),Nat.mul_mod_left,Nat.mul_zero]
 have:(2 ^ d == 0)=false:=by have:=Nat.two_pow_pos d; simp
 simp [this]
theorem dB:double.binade=2 ^ 52:=rfl
theorem dI:double.infRung=2047 * 2 ^ 52:=by decide
theorem dW (r:Nat):double.word false r=r:=rfl
theorem dF:((double.fractionBits:Nat):Int)=52:=rfl
theorem dP:double.leastPlace=-1074:=by decide
theorem dS:double.signWeight=2 ^ 63:=rfl
theorem near_eq (n k:Nat) (h0:n ≠ 0) (hn:n < 2 ^ 53):double.nearest false (n * 2 ^ k) (-(k:Int))=(n.log2 + 1022) * 2 ^ 52 + n * 2 ^ (52 - n.log2):=by
 have hL:n.log2 ≤ 52:=Nat.le_of_lt_succ ((Nat.log2_lt h0).2 hn)
 have hm:n * 2 ^ k ≠ 0:=Nat.mul_ne_zero h0 (Nat.pos_iff_ne_zero.1 (Nat.two_pow_pos k))
 have hX:n * 2 ^ (52 - n.log2) < 2 ^ 53:=by
  have:=Nat.mul_lt_mul_of_pos_right (Nat.lt_log2_self (n:=n)) (Nat.two_pow_pos (52 - n.log2))
  rw [← Nat.pow_add,show n.log2 + 1 + (52 - n.log2)=53 by omega] at this
  exact this
 unfold Format.nearest
 rw [if_neg hm,log2_mul n k h0]
 have hl:max (-(k:Int) + ((n.log2 + k:Nat):Int) - ((double.fractionBits:Nat):Int)) double.leastPlace=(n.log2:Int) - 52:=by
  rw [dF,dP]
  omega
 simp only [hl]
 have hk:Toward.even.cut false ((n * 2 ^ k) <<< (-(k:Int) - ((n.log2:Int) - 52)).toNat) ((n.log2:Int) - 52 - -(k:Int)).toNat=n * 2 ^ (52 - n.log2):=by
  by_cases hc:k ≤ 52 - n.log2
  ·rw [show (-(k:Int) - ((n.log2:Int) - 52)).toNat=52 - n.log2 - k by omega,show ((n.log2:Int) - 52 - -(k:Int)).toNat=0 by omega,Nat.shiftLeft_eq,Nat.mul_assoc,← Nat.pow_add,show k + (52 - n.log2 - k)=52 - n.log2 by omega]
   have:=cut_exact (n * 2 ^ (52 - n.log2)) 0 (by omega)
   rwa [Nat.pow_zero,Nat.mul_one] at this
  ·rw [show (-(k:Int) - ((n.log2:Int) - 52)).toNat=0 by omega,show ((n.log2:Int) - 52 - -(k:Int)).toNat=k - (52 - n.log2) by omega,Nat.shiftLeft_zero]
   have e:n * 2 ^ k=n * 2 ^ (52 - n.log2) * 2 ^ (k - (52 - n.log2)):=by rw [Nat.mul_assoc,← Nat.pow_add,show 52 - n.log2 + (k - (52 - n.log2))=k by omega]
   rw [e]
   refine cut_exact _ _ ?_
   rw [← e,log2_mul n k h0]; omega
 rw [hk]
 have hw:((n.log2:Int) - 52 - double.leastPlace).toNat=n.log2 + 1022:=by
  rw [dP]
  omega
 rw [hw,dW,dB,dI]
 refine Nat.min_eq_left ?_
 have:(n.log2 + 1022) * 2 ^ 52 ≤ 1074 * 2 ^ 52:=Nat.mul_le_mul_right _ (by omega)
 exact Nat.le_trans (Nat.add_le_add this (Nat.le_of_lt hX)) (by decide)
theorem near_zero (k:Int):double.nearest false 0 k=0:=rfl
theorem near_N (n k:Nat) (hn:n < 2 ^ 53):double.nearest false (n * 2 ^ k) (-(k:Int))=N64 n:=by
 rw [N64_eq]
 by_cases h0:n=0
 ·subst h0; rw [Nat.zero_mul,near_zero,near_zero]
 ·have:=near_eq n 0 h0 hn
  rw [Nat.pow_zero,Nat.mul_one] at this
  rw [near_eq n k h0 hn]
  exact this.symm
theorem read_N (n:Nat) (hn:n < 2 ^ 53):∃ j:Nat,double.read (N64 n)=.number false (n * 2 ^ j) (-(j:Int)):=by
 by_cases h0:n=0
 ·subst h0
  obtain⟨z,hz⟩:∃ z:Nat,z=1074:=⟨_,rfl⟩
  exact⟨z,by rw [N64_eq,near_zero,Nat.zero_mul,hz]; kernel_rfl⟩
 ·have hL:n.log2 ≤ 52:=Nat.le_of_lt_succ ((Nat.log2_lt h0).2 hn)
  have e:N64 n=(n.log2 + 1022) * 2 ^ 52 + n * 2 ^ (52 - n.log2):=by rw [← near_N n 0 hn]; exact near_eq n 0 h0 hn
  have hX:n * 2 ^ (52 - n.log2) < 2 ^ 53:=by
   have:=Nat.mul_lt_mul_of_pos_right (Nat.lt_log2_self (n:=n)) (Nat.two_pow_pos (52 - n.log2))
   rw [← Nat.pow_add,show n.log2 + 1 + (52 - n.log2)=53 by omega] at this
   exact this
  have hY:2 ^ 52 ≤ n * 2 ^ (52 - n.log2):=by
   have:=Nat.mul_le_mul_right (2 ^ (52 - n.log2)) (Nat.log2_self_le h0)
   rw [← Nat.pow_add,show n.log2 + (52 - n.log2)=52 by omega] at this
   exact this
  refine⟨52 - n.log2,?_⟩
  generalize n * 2 ^ (52 - n.log2)=X at *
  generalize n.log2=L at *
  have hr:N64 n=(L + 1023) * 2 ^ 52 + (X - 2 ^ 52):=by rw [e]; omega
  have hs:N64 n < 2 ^ 63:=by rw [e]; omega
  unfold Format.read
  have a1:N64 n / double.signWeight=0:=by rw [dS]; exact Nat.div_eq_of_lt hs
  have a2:N64 n % double.signWeight=N64 n:=by rw [dS]; exact Nat.mod_eq_of_lt hs
  have a3:N64 n / double.binade=L + 1023:=by
   rw [hr,dB]
   omega
  have a4:N64 n % double.binade=X - 2 ^ 52:=by
   rw [hr,dB]
   omega
  have b1:¬ N64 n < double.binade:=by rw [hr,dB]; omega
  have b2:N64 n < double.infRung:=by rw [hr,dI]; omega
  simp only [a1,a2,a3,a4]
  rw [if_neg b1,if_pos b2]
  have c1:double.binade + (X - 2 ^ 52)=X:=by rw [dB]; omega
  have c2:double.leastPlace + ((L + 1023 - 1:Nat):Int)=-((52 - L:Nat):Int):=by rw [dP]; omega
  rw [c1,c2]; rfl
theorem signed_N (a j b:Nat) (h:j ≤ b):signed false (a * 2 ^ j) (-(j:Int) - -(b:Int)).toNat=((a * 2 ^ b:Nat):Int):=by
 unfold signed
 rw [show (-(j:Int) - -(b:Int)).toNat=b - j by omega,Nat.shiftLeft_eq,Nat.mul_assoc,← Nat.pow_add,show j + (b - j)=b by omega]
 simp
theorem add_N (a b:Nat) (h:a + b < 2 ^ 53):floatBits .add .f64 (N64 a) (N64 b)=some (N64 (a + b)):=by
 obtain⟨i,hi⟩:=read_N a (by omega)
 obtain⟨j,hj⟩:=read_N b (by omega)
 show ((double.read (N64 a)).sum (double.read (N64 b))).map double.write=_
 rw [hi,hj]
 have hb:min (-(i:Int)) (-(j:Int))=-((max i j:Nat):Int):=by omega
 unfold Datum.sum
 simp only [hb]
 rw [signed_N a i _ (Nat.le_max_left ..),signed_N b j _ (Nat.le_max_right ..)]
 have ht:((a * 2 ^ max i j:Nat):Int) + ((b * 2 ^ max i j:Nat):Int)=(((a + b) * 2 ^ max i j:Nat):Int):=by rw [Nat.add_mul]; omega
 rw [ht]
 have hs:(if ((((a + b) * 2 ^ max i j:Nat):Int))=0 then (false && false) else decide ((((a + b) * 2 ^ max i j:Nat):Int) < 0))=false:=by
  split
  ·rfl
  ·exact decide_eq_false (by omega)
 rw [hs,Int.natAbs_natCast]
 exact congrArg some (near_N (a + b) (max i j) h)
theorem icmp (x y:Int):compare x y=if x < y then .lt else if x=y then .eq else .gt:=rfl
theorem order_N (a b:Nat) (ha:a < 2 ^ 53) (hb:b < 2 ^ 53):FloatKind.f64.format.order (N64 a) (N64 b)=some (compare a b):=by
 obtain⟨i,hi⟩:=read_N a ha
 obtain⟨j,hj⟩:=read_N b hb
 show (double.read (N64 a)).order (double.read (N64 b))=_
 rw [hi,hj]
 have hm:min (-(i:Int)) (-(j:Int))=-((max i j:Nat):Int):=by omega
 unfold Datum.order
 simp only [hm]
 rw [signed_N a i _ (Nat.le_max_left ..),signed_N b j _ (Nat.le_max_right ..)]
 have hp:=Nat.two_pow_pos (max i j)
 generalize 2 ^ max i j=q at *
 congr 1
 rcases Nat.lt_trichotomy a b with h | h | h
 ·rw [Nat.compare_eq_lt.2 h]
  have:=Nat.mul_lt_mul_of_pos_right h hp
  rw [icmp,if_pos (by omega)]
 ·subst h; rw [Nat.compare_eq_eq.2 rfl,icmp,if_neg (by omega),if_pos rfl]
 ·rw [Nat.compare_eq_gt.2 h]
  have:=Nat.mul_lt_mul_of_pos_right h hp
  rw [icmp,if_neg (by omega),if_neg (by omega)]
theorem csum_N (a b c d:Nat) (h1:a + c < 2 ^ 53) (h2:b + d < 2 ^ 53):cSumBits .add .f64 (N64 a) (N64 b) (N64 c) (N64 d)=some (N64 (a + c),N64 (b + d)):=by
 unfold cSumBits
 rw [add_N a c h1,add_N b d h2]; rfl
theorem leq_N (a b:Nat) (ha:a < 2 ^ 53) (hb:b < 2 ^ 53):fcmp .leq (N64 a) (N64 b)=decide (a ≤ b):=by
 unfold Vx.fcmp
 simp only [order_N a b ha hb]
 rcases Nat.lt_trichotomy a b with h | h | h
 ·rw [Nat.compare_eq_lt.2 h,decide_eq_true (by omega)]; rfl
 ·rw [Nat.compare_eq_eq.2 h,decide_eq_true (by omega)]; rfl
 ·rw [Nat.compare_eq_gt.2 h,decide_eq_false (by omega)]; rfl
end Go.Proofs.Vx
