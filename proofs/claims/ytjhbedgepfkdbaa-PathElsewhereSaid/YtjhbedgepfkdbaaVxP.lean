import Derived.Test.YtjhbedgepfkdbaaVxN
namespace Go.Proofs.Vx
open Go Go.RowKit
set_option linter.unusedSectionVars false
variable [Glo]
theorem w64 {x:Int} (h:-9223372036854775808 ≤ x) (h2:x ≤ 9223372036854775807):IntKind.i64.wrap x=x:=by
 simp [IntKind.wrap,IntKind.bits,IntKind.signed]; omega
theorem w32 {x:Int} (h:-2147483648 ≤ x) (h2:x ≤ 2147483647):IntKind.i32.wrap x=x:=by
 simp [IntKind.wrap,IntKind.bits,IntKind.signed]; omega
theorem w8 {x:Int} (h:0 ≤ x) (h2:x ≤ 255):IntKind.u8.wrap x=x:=by
 simp only [IntKind.wrap,IntKind.bits,IntKind.signed,Bool.false_and]; simp; omega
theorem rd_drop {α:Type} [Inhabited α] {xs:List α} {i:Nat} (h:i < xs.length):xs.drop i=rd xs (i:Int) :: xs.drop (i + 1):=by
 rw [List.drop_eq_getElem_cons h]; simp [rd,h]
theorem ofInt_nat (n a:Nat) (h:a < 2 ^ n):(BitVec.ofInt n (a:Int)).toNat=a:=by
 rw [show BitVec.ofInt n (a:Int)=BitVec.ofNat n a by simp]
 simp [Nat.mod_eq_of_lt h]
theorem bitAnd_nat {k:IntKind} {a b:Nat} (ha:a < 2 ^ k.bits) (hb:b < 2 ^ k.bits):bitAnd k (a:Int) (b:Int)=k.wrap ((a &&& b:Nat):Int):=by
 unfold bitAnd; rw [BitVec.toNat_and,ofInt_nat _ _ ha,ofInt_nat _ _ hb]
theorem bitOr_nat {k:IntKind} {a b:Nat} (ha:a < 2 ^ k.bits) (hb:b < 2 ^ k.bits):bitOr k (a:Int) (b:Int)=k.wrap ((a ||| b:Nat):Int):=by
 unfold bitOr; rw [BitVec.toNat_or,ofInt_nat _ _ ha,ofInt_nat _ _ hb]
theorem or_add {a b n:Nat} (h:b < 2 ^ n):(2 ^ n * a) ||| b=2 ^ n * a + b:=(Nat.two_pow_add_eq_or_of_lt h a).symm
theorem and_mod (a n:Nat):a &&& (2 ^ n - 1)=a % 2 ^ n:=Nat.and_two_pow_sub_one_eq_mod a n
theorem fdiv_div {a b:Int} (h:0 ≤ b):a.fdiv b=a / b:=Int.fdiv_eq_ediv_of_nonneg a h
theorem bt_range (s:Str) (i:Int):0 ≤ bt s i ∧ bt s i ≤ 255:=by
 unfold bt
 have:=(s.getD i.toNat 0).toNat_lt
 omega
end Go.Proofs.Vx
