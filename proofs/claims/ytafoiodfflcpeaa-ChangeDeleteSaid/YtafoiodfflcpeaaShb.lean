import Derived.Test.YtafoiodfflcpeaaProg
import Derived.Test.YtafoiodfflcpeaaSha
namespace Go.Proofs.Ytafoiodfflcpeaa.Sh
open Go Go.RowKit Go.Proofs.Vx
set_option linter.unusedVariables false
set_option maxRecDepth 100000
set_option maxHeartbeats 1000000
def utf_shape (a0:Int):Option (Int × Int):=(if (decide (a0 < 128))=true then some (1,(IntKind.i32.wrap a0)) else (if (((a0).fdiv (2 ^ min (Int.toNat 5) (IntKind.bits .u8))) == 6)=true then some (2,(IntKind.i32.wrap (bitAnd .u8 a0 31))) else (if (((a0).fdiv (2 ^ min (Int.toNat 4) (IntKind.bits .u8))) == 14)=true then some (3,(IntKind.i32.wrap (bitAnd .u8 a0 15))) else (if (((a0).fdiv (2 ^ min (Int.toNat 3) (IntKind.bits .u8))) == 30)=true then some (4,(IntKind.i32.wrap (bitAnd .u8 a0 7))) else some (0,0)))))
theorem utf_shape.ok {a0:Int} {r:Int × Int} (H:utf_shape a0=some r):Vx.Fn Try.prog 79 [(.v (.int .u8 a0))] [] (.tup [(.v (.int .i64 r.1)),(.v (.int .i32 r.2))]) []:=by
 unfold utf_shape at H
 refine Vx.Fn.of_okR Try.func79 rfl (Nat.le_of_ble_eq_true rfl) ?_
 refine Ok.seq ?_
 refine .rg [(0,(.v (.int .u8 a0)))] [] ?_
 refine Ok.seq ?_
 refine Ok.block ?_
 refine Ok.seq ?_
 refine .rg [(0,(.v (.int .u8 a0))),(4,(.v (.bool (decide (a0 < 128)))))] [] ?_
 refine Ok.test (b:=(decide (a0 < 128))) rfl (fun hb4 => ?_) (fun hb4 => ?_)
 ·replace H:=ifT H hb4
  refine Ok.seq ?_
  refine .rg [(2,(.v (.int .i64 1))),(3,(.v (.int .i32 (IntKind.i32.wrap a0))))] [] ?_
  refine Ok.ret ?_
  obtain rfl:=Option.some.inj H
  exact⟨.inl rfl,⟨_,(.cons (.tmp rfl) (.cons (.tmp rfl) .nil)),rfl⟩,trivial⟩
 ·replace H:=ifF H hb4
  refine Ok.seq ?_
  refine Ok.region (σ':=⟨[(0,(.v (.int .u8 a0))),(9,(.v (.bool (((a0).fdiv (2 ^ min (Int.toNat 5) (IntKind.bits .u8))) == 6))))],[]⟩) ?_ ?_
  ·refine .rn 1 ?_
   refine .cv (VOk.shr (a:=a0) (b:=5) rfl rfl rfl (by decide)) rfl rfl ?_
   refine .rn 2 ?_
   exact .dn
  refine Ok.test (b:=(((a0).fdiv (2 ^ min (Int.toNat 5) (IntKind.bits .u8))) == 6)) rfl (fun hb3 => ?_) (fun hb3 => ?_)
  ·replace H:=ifT H hb3
   refine Ok.seq ?_
   refine .rg [(2,(.v (.int .i64 2))),(3,(.v (.int .i32 (IntKind.i32.wrap (bitAnd .u8 a0 31)))))] [] ?_
   refine Ok.ret ?_
   obtain rfl:=Option.some.inj H
   exact⟨.inl rfl,⟨_,(.cons (.tmp rfl) (.cons (.tmp rfl) .nil)),rfl⟩,trivial⟩
  ·replace H:=ifF H hb3
   refine Ok.seq ?_
   refine Ok.region (σ':=⟨[(0,(.v (.int .u8 a0))),(16,(.v (.bool (((a0).fdiv (2 ^ min (Int.toNat 4) (IntKind.bits .u8))) == 14))))],[]⟩) ?_ ?_
   ·refine .rn 1 ?_
    refine .cv (VOk.shr (a:=a0) (b:=4) rfl rfl rfl (by decide)) rfl rfl ?_
    refine .rn 2 ?_
    exact .dn
   refine Ok.test (b:=(((a0).fdiv (2 ^ min (Int.toNat 4) (IntKind.bits .u8))) == 14)) rfl (fun hb2 => ?_) (fun hb2 => ?_)
   ·replace H:=ifT H hb2
    refine Ok.seq ?_
    refine .rg [(2,(.v (.int .i64 3))),(3,(.v (.int .i32 (IntKind.i32.wrap (bitAnd .u8 a0 15)))))] [] ?_
    refine Ok.ret ?_
    obtain rfl:=Option.some.inj H
    exact⟨.inl rfl,⟨_,(.cons (.tmp rfl) (.cons (.tmp rfl) .nil)),rfl⟩,trivial⟩
   ·replace H:=ifF H hb2
    refine Ok.seq ?_
    refine Ok.region (σ':=⟨[(0,(.v (.int .u8 a0))),(23,(.v (.bool (((a0).fdiv (2 ^ min (Int.toNat 3) (IntKind.bits .u8))) == 30))))],[]⟩) ?_ ?_
    ·refine .rn 1 ?_
     refine .cv (VOk.shr (a:=a0) (b:=3) rfl rfl rfl (by decide)) rfl rfl ?_
     refine .rn 2 ?_
     exact .dn
    refine Ok.test (b:=(((a0).fdiv (2 ^ min (Int.toNat 3) (IntKind.bits .u8))) == 30)) rfl (fun hb1 => ?_) (fun hb1 => ?_)
    ·replace H:=ifT H hb1
     refine Ok.seq ?_
     refine .rg [(2,(.v (.int .i64 4))),(3,(.v (.int .i32 (IntKind.i32.wrap (bitAnd .u8 a0 7)))))] [] ?_
     refine Ok.ret ?_
     obtain rfl:=Option.some.inj H
     exact⟨.inl rfl,⟨_,(.cons (.tmp rfl) (.cons (.tmp rfl) .nil)),rfl⟩,trivial⟩
    ·replace H:=ifF H hb1
     refine Ok.skip ?_
     refine Ok.seq ?_
     refine .rg [(2,(.v (.int .i64 0))),(3,(.v (.int .i32 0)))] [] ?_
     refine Ok.ret ?_
     obtain rfl:=Option.some.inj H
     exact⟨.inl rfl,⟨_,(.cons (.tmp rfl) (.cons (.tmp rfl) .nil)),rfl⟩,trivial⟩
def utf_least (a0:Int):Option Int:=(if (a0 == 2)=true then some 128 else (if (a0 == 3)=true then some 2048 else (if (a0 == 4)=true then some 65536 else some 0)))
theorem utf_least.ok {a0:Int} {r:Int} (H:utf_least a0=some r):Vx.Fn Try.prog 80 [(.v (.int .i64 a0))] [] (.v (.int .i32 r)) []:=by
 unfold utf_least at H
 refine Vx.Fn.of_okR Try.func80 rfl (Nat.le_of_ble_eq_true rfl) ?_
 refine Ok.seq ?_
 refine .rg [(0,(.v (.int .i64 a0)))] [] ?_
 refine Ok.seq ?_
 refine Ok.seq ?_
 refine .rg [(3,(.v (.int .i64 a0)))] [] ?_
 refine Ok.block ?_
 refine Ok.seq ?_
 refine .rg [(3,(.v (.int .i64 a0))),(4,(.v (.bool (a0 == 2))))] [] ?_
 refine Ok.test (b:=(a0 == 2)) rfl (fun hb3 => ?_) (fun hb3 => ?_)
 ·replace H:=ifT H hb3
  refine Ok.seq ?_
  refine .rg [(2,(.v (.int .i32 128)))] [] ?_
  refine Ok.ret ?_
  obtain rfl:=Option.some.inj H
  exact⟨.inl rfl,⟨_,(.cons (.tmp rfl) .nil),rfl⟩,trivial⟩
 ·replace H:=ifF H hb3
  refine Ok.seq ?_
  refine .rg [(3,(.v (.int .i64 a0))),(6,(.v (.bool (a0 == 3))))] [] ?_
  refine Ok.test (b:=(a0 == 3)) rfl (fun hb2 => ?_) (fun hb2 => ?_)
  ·replace H:=ifT H hb2
   refine Ok.seq ?_
   refine .rg [(2,(.v (.int .i32 2048)))] [] ?_
   refine Ok.ret ?_
   obtain rfl:=Option.some.inj H
   exact⟨.inl rfl,⟨_,(.cons (.tmp rfl) .nil),rfl⟩,trivial⟩
  ·replace H:=ifF H hb2
   refine Ok.seq ?_
   refine .rg [(8,(.v (.bool (a0 == 4))))] [] ?_
   refine Ok.test (b:=(a0 == 4)) rfl (fun hb1 => ?_) (fun hb1 => ?_)
   ·replace H:=ifT H hb1
    refine Ok.seq ?_
    refine .rg [(2,(.v (.int .i32 65536)))] [] ?_
    refine Ok.ret ?_
    obtain rfl:=Option.some.inj H
    exact⟨.inl rfl,⟨_,(.cons (.tmp rfl) .nil),rfl⟩,trivial⟩
   ·replace H:=ifF H hb1
    refine Ok.skip ?_
    refine Ok.seq ?_
    refine .rg [(2,(.v (.int .i32 0)))] [] ?_
    refine Ok.ret ?_
    obtain rfl:=Option.some.inj H
    exact⟨.inl rfl,⟨_,(.cons (.tmp rfl) .nil),rfl⟩,trivial⟩
def utf_scalar (a0:Int):Option Bool:=some (((decide (a0 ≥ 0)) && (decide (a0 < 55296))) || ((decide (a0 ≥ 57344)) && (decide (a0 ≤ 1114111))))
theorem utf_scalar.ok {a0:Int} {r:Bool} (H:utf_scalar a0=some r):Vx.Fn Try.prog 81 [(.v (.int .i32 a0))] [] (.v (.bool r)) []:=by
 unfold utf_scalar at H
 refine Vx.Fn.of_okR Try.func81 rfl (Nat.le_of_ble_eq_true rfl) ?_
 refine Ok.seq ?_
 refine .rg [(0,(.v (.int .i32 a0)))] [] ?_
 refine Ok.seq ?_
 refine Ok.region (σ':=⟨[(2,(.v (.bool (((decide (a0 ≥ 0)) && (decide (a0 < 55296))) || ((decide (a0 ≥ 57344)) && (decide (a0 ≤ 1114111)))))))],[]⟩) ?_ ?_
 ·refine .rn 3 ?_
  refine OpsOk.consI rfl rfl rfl (.one rfl) rfl (fun hw1 => (VOk.g (VOk.mv (d:=(.v (.int .i32 a0))) rfl rfl))) ?_
  refine OpsOk.consI rfl rfl rfl (.one rfl) rfl (fun hw1 => (GOk.fr (fr':=[(6,(.v (.int .i32 a0)))]) ⟨DLe.of_eq (cT hw1).symm,trivial⟩ (VOk.g (VOk.arith (op:=.lss) (k:=.i32) (a:=a0) (b:=55296) rfl rfl rfl rfl)))) ?_
  refine .cv (VOk.to (VOk.pickI (b:=(decide (a0 ≥ 0))) (p:=(decide (a0 < 55296))) (q:=false) rfl rfl (fun hp2 => (cT (t_beq hp2))) (fun hp2 => rfl)) (pickAnd (decide (a0 ≥ 0)) (decide (a0 < 55296)))) rfl rfl ?_
  refine .rn 1 ?_
  refine OpsOk.consI rfl rfl rfl (.one rfl) rfl (fun hw3 => (VOk.g (VOk.mv (d:=(.v (.int .i32 a0))) rfl rfl))) ?_
  refine OpsOk.consI rfl rfl rfl (.one rfl) rfl (fun hw3 => (GOk.fr (fr':=[(10,(.v (.int .i32 a0)))]) ⟨DLe.of_eq (cT hw3).symm,trivial⟩ (VOk.g (VOk.arith (op:=.geq) (k:=.i32) (a:=a0) (b:=57344) rfl rfl rfl rfl)))) ?_
  refine OpsOk.consI rfl rfl rfl (.one rfl) rfl (fun hw3 => (GOk.fr (fr':=[(11,(.v (.bool (decide (a0 ≥ 57344)))))]) ⟨DLe.of_eq (cT hw3).symm,trivial⟩ (VOk.g (VOk.mv (d:=(.v (.bool (decide (a0 ≥ 57344))))) rfl rfl)))) ?_
  refine OpsOk.consI rfl rfl rfl (.two rfl) rfl (fun hw4 => (VOk.g (VOk.mv (d:=(.v (.int .i32 a0))) rfl rfl))) ?_
  refine OpsOk.consI rfl rfl rfl (.two rfl) rfl (fun hw4 => (GOk.fr (fr':=[(13,(.v (.int .i32 a0)))]) ⟨DLe.of_eq (cT hw4).symm,trivial⟩ (VOk.g (VOk.arith (op:=.leq) (k:=.i32) (a:=a0) (b:=1114111) rfl rfl rfl rfl)))) ?_
  refine OpsOk.consI rfl rfl rfl (.one rfl) rfl (fun hw3 => (VOk.g (VOk.to (VOk.pickI (b:=(decide (a0 ≥ 57344))) (p:=(decide (a0 ≤ 1114111))) (q:=false) rfl (cT hw3) (fun hp5 => (cT (and_i hw3 (t_beq hp5)))) (fun hp5 => rfl)) (pickAnd (decide (a0 ≥ 57344)) (decide (a0 ≤ 1114111)))))) ?_
  refine .cv (VOk.to (VOk.pickI (b:=((decide (a0 ≥ 0)) && (decide (a0 < 55296)))) (p:=true) (q:=((decide (a0 ≥ 57344)) && (decide (a0 ≤ 1114111)))) rfl rfl (fun hp6 => rfl) (fun hp6 => (cT (f_beq hp6)))) (pickOr ((decide (a0 ≥ 0)) && (decide (a0 < 55296))) ((decide (a0 ≥ 57344)) && (decide (a0 ≤ 1114111))))) rfl rfl ?_
  refine .rn 1 ?_
  exact .dn
 refine Ok.ret ?_
 obtain rfl:=Option.some.inj H
 exact⟨.inl rfl,⟨_,(.cons (.tmp rfl) .nil),rfl⟩,trivial⟩
def utf_Rune.l0 (k:Nat) (a0:Str) (a1:Int) (t4:Int × Int):Nat→Int→Int→Int→Option (Int × Int)
 | 0,_,_,_ => none
 | m15 + 1,x4_9,x42_11,x5_10 => (if (decide (x42_11 < ((bytesOfStr (sl a0 (IntKind.i64.wrap (a1 + 1)) (IntKind.i64.wrap (a1 + t4.1)))).length:Int)))=true then (if (0:Int) ≤ x42_11 ∧ x42_11 < ((bytesOfStr (sl a0 (IntKind.i64.wrap (a1 + 1)) (IntKind.i64.wrap (a1 + t4.1)))).length:Int) then (if ((((rd (bytesOfStr (sl a0 (IntKind.i64.wrap (a1 + 1)) (IntKind.i64.wrap (a1 + t4.1)))) x42_11)).fdiv (2 ^ min (Int.toNat 6) (IntKind.bits .u8))) != 2)=true then some (0,0) else utf_Rune.l0 k a0 a1 t4 m15 (bitOr .i32 (IntKind.i32.wrap (x4_9 * 2 ^ min (Int.toNat 6) (IntKind.bits .i32))) (IntKind.i32.wrap (bitAnd .u8 (rd (bytesOfStr (sl a0 (IntKind.i64.wrap (a1 + 1)) (IntKind.i64.wrap (a1 + t4.1)))) x42_11) 63))) (IntKind.i64.wrap (x42_11 + 1)) x5_10) else none) else ((utf_least x5_10).bind fun (t18:Int) => (((if ((decide (x4_9 < t18)) == false)=true then utf_scalar x4_9 else some default)).bind fun (t21:Bool) => (if ((decide (x4_9 < t18)) || (!t21))=true then some (0,0) else some (x4_9,x5_10)))))
def utf_Rune (k:Nat) (a0:Str) (a1:Int):Option (Int × Int):=(if ((decide (a1 < 0)) || (decide (a1 ≥ (a0.length:Int))))=true then some (0,0) else (if (0:Int) ≤ a1 ∧ a1 < (a0.length:Int) then ((utf_shape (bt a0 a1)).bind fun (t4:Int × Int) => (if ((t4.1 == 0) || (decide (t4.1 > (IntKind.i64.wrap ((a0.length:Int) - a1)))))=true then some (0,0) else (if (0:Int) ≤ (IntKind.i64.wrap (a1 + 1)) ∧ (IntKind.i64.wrap (a1 + 1)) ≤ (IntKind.i64.wrap (a1 + t4.1)) ∧ (IntKind.i64.wrap (a1 + t4.1)) ≤ (a0.length:Int) then utf_Rune.l0 k a0 a1 t4 k t4.2 0 t4.1 else none))) else none))
theorem utf_Rune.ok {k:Nat} {a0:Str} {a1:Int} {r:Int × Int} (H:utf_Rune k a0 a1=some r):Vx.Fn Try.prog 68 [(S a0),(.v (.int .i64 a1))] [] (.tup [(.v (.int .i32 r.1)),(.v (.int .i64 r.2))]) []:=by
 unfold utf_Rune at H
 refine Vx.Fn.of_okR Try.func68 rfl (Nat.le_of_ble_eq_true rfl) ?_
 refine Ok.seq ?_
 refine .rg [(0,(S a0)),(1,(.v (.int .i64 a1)))] [] ?_
 refine Ok.seq ?_
 refine Ok.seq ?_
 refine Ok.region (σ':=⟨[(0,(S a0)),(1,(.v (.int .i64 a1))),(15,(.v (.bool ((decide (a1 < 0)) || (decide (a1 ≥ (a0.length:Int)))))))],[]⟩) ?_ ?_
 ·refine .rn 3 ?_
  refine OpsOk.consI rfl rfl rfl (.one rfl) rfl (fun hw1 => (VOk.g (VOk.mv (d:=(.v (.int .i64 a1))) rfl rfl))) ?_
  refine OpsOk.consI rfl rfl rfl (.one rfl) rfl (fun hw1 => (VOk.g (VOk.mv (d:=(S a0)) rfl rfl))) ?_
  refine OpsOk.consI rfl rfl rfl (.one rfl) rfl (fun hw1 => (GOk.fr (fr':=[(12,(S a0))]) ⟨DLe.of_eq (cT hw1).symm,trivial⟩ (VOk.g (VOk.lenStr (s:=a0) rfl Try.underlying9 rfl)))) ?_
  refine OpsOk.consI rfl rfl rfl (.one rfl) rfl (fun hw1 => (GOk.fr (fr':=[(11,(.v (.int .i64 a1))),(13,(.v (.int .i64 (a0.length:Int))))]) ⟨DLe.of_eq (cT hw1).symm,DLe.of_eq (cT hw1).symm,trivial⟩ (VOk.g (VOk.arith (op:=.geq) (k:=.i64) (a:=a1) (b:=(a0.length:Int)) rfl rfl rfl rfl)))) ?_
  refine .cv (VOk.to (VOk.pickI (b:=(decide (a1 < 0))) (p:=true) (q:=(decide (a1 ≥ (a0.length:Int)))) rfl rfl (fun hp2 => rfl) (fun hp2 => (cT (f_beq hp2)))) (pickOr (decide (a1 < 0)) (decide (a1 ≥ (a0.length:Int))))) rfl rfl ?_
  exact .dn
 refine Ok.test (b:=((decide (a1 < 0)) || (decide (a1 ≥ (a0.length:Int))))) rfl (fun hb27 => ?_) (fun hb27 => ?_)
 ·replace H:=ifT H hb27
  refine Ok.seq ?_
  refine .rg [(4,(.v (.int .i32 0))),(5,(.v (.int .i64 0)))] [] ?_
  refine Ok.ret ?_
  obtain rfl:=Option.some.inj H
  exact⟨.inl rfl,⟨_,(.cons (.tmp rfl) (.cons (.tmp rfl) .nil)),rfl⟩,trivial⟩
 ·replace H:=ifF H hb27
  refine Ok.skip ?_
  refine Ok.seq ?_
  obtain⟨c3,H⟩:=assertE H
  obtain⟨t4,h5,H⟩:=bindE H
  refine Ok.region (σ':=⟨[(0,(S a0)),(1,(.v (.int .i64 a1))),(4,(.v (.int .i32 t4.2))),(5,(.v (.int .i64 t4.1)))],[]⟩) ?_ ?_
  ·refine .rn 2 ?_
   refine .cv (VOk.indexStr (s:=a0) (i:=a1) rfl Try.underlying9 rfl rfl c3) rfl rfl ?_
   refine .cg (GOk.call rfl rfl cl79 rfl (utf_shape.ok h5) rfl) rfl rfl ?_
   refine .rn 5 ?_
   exact .dn
  refine Ok.seq ?_
  refine Ok.seq ?_
  refine Ok.region (σ':=⟨[(0,(S a0)),(1,(.v (.int .i64 a1))),(4,(.v (.int .i32 t4.2))),(5,(.v (.int .i64 t4.1))),(32,(.v (.bool ((t4.1 == 0) || (decide (t4.1 > (IntKind.i64.wrap ((a0.length:Int) - a1))))))))],[]⟩) ?_ ?_
  ·refine .rn 3 ?_
   refine OpsOk.consI rfl rfl rfl (.one rfl) rfl (fun hw6 => (VOk.g (VOk.mv (d:=(.v (.int .i64 t4.1))) rfl rfl))) ?_
   refine OpsOk.consI rfl rfl rfl (.one rfl) rfl (fun hw6 => (VOk.g (VOk.mv (d:=(S a0)) rfl rfl))) ?_
   refine OpsOk.consI rfl rfl rfl (.one rfl) rfl (fun hw6 => (GOk.fr (fr':=[(27,(S a0))]) ⟨DLe.of_eq (cT hw6).symm,trivial⟩ (VOk.g (VOk.lenStr (s:=a0) rfl Try.underlying9 rfl)))) ?_
   refine OpsOk.consI rfl rfl rfl (.one rfl) rfl (fun hw6 => (VOk.g (VOk.mv (d:=(.v (.int .i64 a1))) rfl rfl))) ?_
   refine OpsOk.consI rfl rfl rfl (.one rfl) rfl (fun hw6 => (GOk.fr (fr':=[(28,(.v (.int .i64 (a0.length:Int)))),(29,(.v (.int .i64 a1)))]) ⟨DLe.of_eq (cT hw6).symm,DLe.of_eq (cT hw6).symm,trivial⟩ (VOk.g (VOk.arith (op:=.sub) (k:=.i64) (a:=(a0.length:Int)) (b:=a1) rfl rfl rfl rfl)))) ?_
   refine OpsOk.consI rfl rfl rfl (.one rfl) rfl (fun hw6 => (GOk.fr (fr':=[(26,(.v (.int .i64 t4.1))),(30,(.v (.int .i64 (IntKind.i64.wrap ((a0.length:Int) - a1)))))]) ⟨DLe.of_eq (cT hw6).symm,DLe.of_eq (cT hw6).symm,trivial⟩ (VOk.g (VOk.arith (op:=.gtr) (k:=.i64) (a:=t4.1) (b:=(IntKind.i64.wrap ((a0.length:Int) - a1))) rfl rfl rfl rfl)))) ?_
   refine .cv (VOk.to (VOk.pickI (b:=(t4.1 == 0)) (p:=true) (q:=(decide (t4.1 > (IntKind.i64.wrap ((a0.length:Int) - a1))))) rfl rfl (fun hp7 => rfl) (fun hp7 => (cT (f_beq hp7)))) (pickOr (t4.1 == 0) (decide (t4.1 > (IntKind.i64.wrap ((a0.length:Int) - a1)))))) rfl rfl ?_
   exact .dn
  refine Ok.test (b:=((t4.1 == 0) || (decide (t4.1 > (IntKind.i64.wrap ((a0.length:Int) - a1)))))) rfl (fun hb26 => ?_) (fun hb26 => ?_)
  ·replace H:=ifT H hb26
   refine Ok.seq ?_
   refine .rg [(4,(.v (.int .i32 0))),(5,(.v (.int .i64 0)))] [] ?_
   refine Ok.ret ?_
   obtain rfl:=Option.some.inj H
   exact⟨.inl rfl,⟨_,(.cons (.tmp rfl) (.cons (.tmp rfl) .nil)),rfl⟩,trivial⟩
  ·replace H:=ifF H hb26
   refine Ok.skip ?_
   refine Ok.seq ?_
   refine Ok.seq ?_
   obtain⟨c8,H⟩:=assertE H
   refine Ok.region (σ':=⟨[(4,(.v (.int .i32 t4.2))),(5,(.v (.int .i64 t4.1))),(40,(L 1 (eI .u8) (bytesOfStr (sl a0 (IntKind.i64.wrap (a1 + 1)) (IntKind.i64.wrap (a1 + t4.1)))))),(41,(.v (.int .i64 ((bytesOfStr (sl a0 (IntKind.i64.wrap (a1 + 1)) (IntKind.i64.wrap (a1 + t4.1)))).length:Int)))),(42,(.v (.int .i64 0)))],[]⟩) ?_ ?_
   ·refine .rn 6 ?_
    refine .cv (VOk.sliceStr (s:=a0) (l:=(IntKind.i64.wrap (a1 + 1))) (h:=(IntKind.i64.wrap (a1 + t4.1))) rfl Try.underlying9 rfl rfl rfl c8) rfl rfl ?_
    refine .cg (GOk.strBytes (s:=(sl a0 (IntKind.i64.wrap (a1 + 1)) (IntKind.i64.wrap (a1 + t4.1)))) rfl Try.underlying9 Try.underlying112 Try.underlying5 rfl) rfl rfl ?_
    refine .cv (VOk.lenL (e:=(eI .u8)) (xs:=(bytesOfStr (sl a0 (IntKind.i64.wrap (a1 + 1)) (IntKind.i64.wrap (a1 + t4.1))))) rfl Try.underlying112 rfl) rfl rfl ?_
    refine .rn 1 ?_
    exact .dn
   refine Ok.block ?_
   refine Ok.loop (fun m15 σ => ∃ (x4_9:Int) (x42_11:Int) (x5_10:Int),σ=⟨[(4,(.v (.int .i32 x4_9))),(5,(.v (.int .i64 x5_10))),(40,(L 1 (eI .u8) (bytesOfStr (sl a0 (IntKind.i64.wrap (a1 + 1)) (IntKind.i64.wrap (a1 + t4.1)))))),(41,(.v (.int .i64 ((bytesOfStr (sl a0 (IntKind.i64.wrap (a1 + 1)) (IntKind.i64.wrap (a1 + t4.1)))).length:Int)))),(42,(.v (.int .i64 x42_11)))],[]⟩ ∧ utf_Rune.l0 k a0 a1 t4 m15 x4_9 x42_11 x5_10=some r) k ⟨t4.2,0,t4.1,rfl,H⟩ ?_
   rintro m15 σ ⟨x4_9,x42_11,x5_10,rfl,H⟩
   cases m15 with
   | zero => exact absurd H (by simp [utf_Rune.l0])
   | succ m15 =>
    unfold utf_Rune.l0 at H
    refine Ok.seq ?_
    refine .rg [(4,(.v (.int .i32 x4_9))),(5,(.v (.int .i64 x5_10))),(40,(L 1 (eI .u8) (bytesOfStr (sl a0 (IntKind.i64.wrap (a1 + 1)) (IntKind.i64.wrap (a1 + t4.1)))))),(41,(.v (.int .i64 ((bytesOfStr (sl a0 (IntKind.i64.wrap (a1 + 1)) (IntKind.i64.wrap (a1 + t4.1)))).length:Int)))),(42,(.v (.int .i64 x42_11))),(43,(.v (.bool (decide (x42_11 < ((bytesOfStr (sl a0 (IntKind.i64.wrap (a1 + 1)) (IntKind.i64.wrap (a1 + t4.1)))).length:Int))))))] [] ?_
    refine Ok.seq ?_
    refine Ok.test (b:=(decide (x42_11 < ((bytesOfStr (sl a0 (IntKind.i64.wrap (a1 + 1)) (IntKind.i64.wrap (a1 + t4.1)))).length:Int)))) rfl (fun hb25 => ?_) (fun hb25 => ?_)
    ·replace H:=ifT H hb25
     refine Ok.skip ?_
     refine Ok.seq ?_
     refine Ok.block ?_
     refine Ok.seq ?_
     obtain⟨c16,H⟩:=assertE H
     refine Ok.region (σ':=⟨[(4,(.v (.int .i32 x4_9))),(5,(.v (.int .i64 x5_10))),(7,(.v (.int .u8 (rd (bytesOfStr (sl a0 (IntKind.i64.wrap (a1 + 1)) (IntKind.i64.wrap (a1 + t4.1)))) x42_11)))),(40,(L 1 (eI .u8) (bytesOfStr (sl a0 (IntKind.i64.wrap (a1 + 1)) (IntKind.i64.wrap (a1 + t4.1)))))),(41,(.v (.int .i64 ((bytesOfStr (sl a0 (IntKind.i64.wrap (a1 + 1)) (IntKind.i64.wrap (a1 + t4.1)))).length:Int)))),(42,(.v (.int .i64 x42_11)))],[]⟩) ?_ ?_
     ·refine .cv (VOk.indexL (sz:=1) (e:=(eI .u8)) (xs:=(bytesOfStr (sl a0 (IntKind.i64.wrap (a1 + 1)) (IntKind.i64.wrap (a1 + t4.1))))) (i:=x42_11) rfl Try.underlying112 sz5 rfl rfl c16) rfl rfl ?_
      refine .rn 2 ?_
      exact .dn
     refine Ok.seq ?_
     refine Ok.seq ?_
     refine Ok.region (σ':=⟨[(4,(.v (.int .i32 x4_9))),(5,(.v (.int .i64 x5_10))),(7,(.v (.int .u8 (rd (bytesOfStr (sl a0 (IntKind.i64.wrap (a1 + 1)) (IntKind.i64.wrap (a1 + t4.1)))) x42_11)))),(40,(L 1 (eI .u8) (bytesOfStr (sl a0 (IntKind.i64.wrap (a1 + 1)) (IntKind.i64.wrap (a1 + t4.1)))))),(41,(.v (.int .i64 ((bytesOfStr (sl a0 (IntKind.i64.wrap (a1 + 1)) (IntKind.i64.wrap (a1 + t4.1)))).length:Int)))),(42,(.v (.int .i64 x42_11))),(48,(.v (.bool ((((rd (bytesOfStr (sl a0 (IntKind.i64.wrap (a1 + 1)) (IntKind.i64.wrap (a1 + t4.1)))) x42_11)).fdiv (2 ^ min (Int.toNat 6) (IntKind.bits .u8))) != 2))))],[]⟩) ?_ ?_
     ·refine .rn 1 ?_
      refine .cv (VOk.shr (a:=(rd (bytesOfStr (sl a0 (IntKind.i64.wrap (a1 + 1)) (IntKind.i64.wrap (a1 + t4.1)))) x42_11)) (b:=6) rfl rfl rfl (by decide)) rfl rfl ?_
      refine .rn 1 ?_
      exact .dn
     refine Ok.test (b:=((((rd (bytesOfStr (sl a0 (IntKind.i64.wrap (a1 + 1)) (IntKind.i64.wrap (a1 + t4.1)))) x42_11)).fdiv (2 ^ min (Int.toNat 6) (IntKind.bits .u8))) != 2)) rfl (fun hb17 => ?_) (fun hb17 => ?_)
     ·replace H:=ifT H hb17
      refine Ok.seq ?_
      refine .rg [(4,(.v (.int .i32 0))),(5,(.v (.int .i64 0)))] [] ?_
      refine Ok.ret ?_
      obtain rfl:=Option.some.inj H
      exact⟨.inl rfl,⟨_,(.cons (.tmp rfl) (.cons (.tmp rfl) .nil)),rfl⟩,trivial⟩
     ·replace H:=ifF H hb17
      refine Ok.skip ?_
      refine Ok.region (σ':=⟨[(4,(.v (.int .i32 (bitOr .i32 (IntKind.i32.wrap (x4_9 * 2 ^ min (Int.toNat 6) (IntKind.bits .i32))) (IntKind.i32.wrap (bitAnd .u8 (rd (bytesOfStr (sl a0 (IntKind.i64.wrap (a1 + 1)) (IntKind.i64.wrap (a1 + t4.1)))) x42_11) 63)))))),(5,(.v (.int .i64 x5_10))),(40,(L 1 (eI .u8) (bytesOfStr (sl a0 (IntKind.i64.wrap (a1 + 1)) (IntKind.i64.wrap (a1 + t4.1)))))),(41,(.v (.int .i64 ((bytesOfStr (sl a0 (IntKind.i64.wrap (a1 + 1)) (IntKind.i64.wrap (a1 + t4.1)))).length:Int)))),(42,(.v (.int .i64 x42_11)))],[]⟩) ?_ ?_
      ·refine .rn 1 ?_
       refine .cv (VOk.shl (a:=x4_9) (b:=6) rfl rfl rfl (by decide)) rfl rfl ?_
       refine .rn 5 ?_
       exact .dn
      refine .rg [(4,(.v (.int .i32 (bitOr .i32 (IntKind.i32.wrap (x4_9 * 2 ^ min (Int.toNat 6) (IntKind.bits .i32))) (IntKind.i32.wrap (bitAnd .u8 (rd (bytesOfStr (sl a0 (IntKind.i64.wrap (a1 + 1)) (IntKind.i64.wrap (a1 + t4.1)))) x42_11) 63)))))),(5,(.v (.int .i64 x5_10))),(40,(L 1 (eI .u8) (bytesOfStr (sl a0 (IntKind.i64.wrap (a1 + 1)) (IntKind.i64.wrap (a1 + t4.1)))))),(41,(.v (.int .i64 ((bytesOfStr (sl a0 (IntKind.i64.wrap (a1 + 1)) (IntKind.i64.wrap (a1 + t4.1)))).length:Int)))),(42,(.v (.int .i64 (IntKind.i64.wrap (x42_11 + 1)))))] [] ?_
      exact⟨m15,Nat.lt_succ_self m15,(bitOr .i32 (IntKind.i32.wrap (x4_9 * 2 ^ min (Int.toNat 6) (IntKind.bits .i32))) (IntKind.i32.wrap (bitAnd .u8 (rd (bytesOfStr (sl a0 (IntKind.i64.wrap (a1 + 1)) (IntKind.i64.wrap (a1 + t4.1)))) x42_11) 63))),(IntKind.i64.wrap (x42_11 + 1)),x5_10,rfl,H⟩
    ·replace H:=ifF H hb25
     refine Ok.exit ?_
     refine Ok.seq ?_
     refine Ok.seq ?_
     obtain⟨t18,h19,H⟩:=bindE H
     obtain⟨t21,h22,H⟩:=bindE H
     refine Ok.region (σ':=⟨[(4,(.v (.int .i32 x4_9))),(5,(.v (.int .i64 x5_10))),(64,(.v (.bool ((decide (x4_9 < t18)) || (!t21)))))],[]⟩) ?_ ?_
     ·refine .rn 2 ?_
      refine .cg (GOk.call rfl rfl cl80 rfl (utf_least.ok h19) rfl) rfl rfl ?_
      refine .rn 2 ?_
      refine OpsOk.consI rfl rfl rfl (.one rfl) rfl (fun hw20 => (VOk.g (VOk.mv (d:=(.v (.int .i32 x4_9))) rfl rfl))) ?_
      refine OpsOk.consI rfl rfl rfl (.one rfl) rfl (fun hw20 => (GOk.fr (fr':=[(61,(.v (.int .i32 x4_9)))]) ⟨DLe.of_eq (cT hw20).symm,trivial⟩ (GOk.call rfl rfl cl81 rfl (utf_scalar.ok (ifT h22 hw20)) rfl))) ?_
      refine OpsOk.consI rfl rfl rfl (.one rfl) rfl (fun hw20 => (GOk.fr (fr':=[(62,(.v (.bool t21)))]) ⟨DLe.of_eq (cT hw20).symm,trivial⟩ (VOk.g (VOk.not (b:=t21) rfl rfl)))) ?_
      refine .cv (VOk.to (VOk.pickI (b:=(decide (x4_9 < t18))) (p:=true) (q:=(!t21)) rfl rfl (fun hp23 => rfl) (fun hp23 => (cT (f_beq hp23)))) (pickOr (decide (x4_9 < t18)) (!t21))) rfl rfl ?_
      exact .dn
     refine Ok.test (b:=((decide (x4_9 < t18)) || (!t21))) rfl (fun hb24 => ?_) (fun hb24 => ?_)
     ·replace H:=ifT H hb24
      refine Ok.seq ?_
      refine .rg [(4,(.v (.int .i32 0))),(5,(.v (.int .i64 0)))] [] ?_
      refine Ok.ret ?_
      obtain rfl:=Option.some.inj H
      exact⟨.inl rfl,⟨_,(.cons (.tmp rfl) (.cons (.tmp rfl) .nil)),rfl⟩,trivial⟩
     ·replace H:=ifF H hb24
      refine Ok.skip ?_
      refine Ok.seq ?_
      refine .rg [(4,(.v (.int .i32 x4_9))),(5,(.v (.int .i64 x5_10)))] [] ?_
      refine Ok.ret ?_
      obtain rfl:=Option.some.inj H
      exact⟨.inl rfl,⟨_,(.cons (.tmp rfl) (.cons (.tmp rfl) .nil)),rfl⟩,trivial⟩
def utf_within.l0 (k:Nat) (a0:Int) (a1:List T_utf_span):Nat→Int→Option Bool
 | 0,_ => none
 | m3 + 1,x9_1 => (if (decide (x9_1 < (a1.length:Int)))=true then (if (0:Int) ≤ x9_1 ∧ x9_1 < (a1.length:Int) then (if ((decide (a0 ≥ ((rd a1 x9_1).From_))) && (decide (a0 ≤ ((rd a1 x9_1).To_))))=true then some true else utf_within.l0 k a0 a1 m3 (IntKind.i64.wrap (x9_1 + 1))) else none) else some false)
def utf_within (k:Nat) (a0:Int) (a1:List T_utf_span):Option Bool:=utf_within.l0 k a0 a1 k 0
theorem utf_within.ok {k:Nat} {a0:Int} {a1:List T_utf_span} {r:Bool} (H:utf_within k a0 a1=some r):Vx.Fn Try.prog 82 [(.v (.int .i32 a0)),(L 2 e_utf_span a1)] [] (.v (.bool r)) []:=by
 unfold utf_within at H
 refine Vx.Fn.of_okR Try.func82 rfl (Nat.le_of_ble_eq_true rfl) ?_
 refine Ok.seq ?_
 refine .rg [(0,(.v (.int .i32 a0))),(1,(L 2 e_utf_span a1))] [] ?_
 refine Ok.seq ?_
 refine Ok.seq ?_
 refine Ok.region (σ':=⟨[(0,(.v (.int .i32 a0))),(7,(L 2 e_utf_span a1)),(8,(.v (.int .i64 (a1.length:Int)))),(9,(.v (.int .i64 0)))],[]⟩) ?_ ?_
 ·refine .rn 1 ?_
  refine .cv (VOk.lenL (e:=e_utf_span) (xs:=a1) rfl Try.underlying118 rfl) rfl rfl ?_
  refine .rn 1 ?_
  exact .dn
 refine Ok.block ?_
 refine Ok.loop (fun m3 σ => ∃ (x9_1:Int),σ=⟨[(0,(.v (.int .i32 a0))),(7,(L 2 e_utf_span a1)),(8,(.v (.int .i64 (a1.length:Int)))),(9,(.v (.int .i64 x9_1)))],[]⟩ ∧ utf_within.l0 k a0 a1 m3 x9_1=some r) k ⟨0,rfl,H⟩ ?_
 rintro m3 σ ⟨x9_1,rfl,H⟩
 cases m3 with
 | zero => exact absurd H (by simp [utf_within.l0])
 | succ m3 =>
  unfold utf_within.l0 at H
  refine Ok.seq ?_
  refine .rg [(0,(.v (.int .i32 a0))),(7,(L 2 e_utf_span a1)),(8,(.v (.int .i64 (a1.length:Int)))),(9,(.v (.int .i64 x9_1))),(10,(.v (.bool (decide (x9_1 < (a1.length:Int))))))] [] ?_
  refine Ok.seq ?_
  refine Ok.test (b:=(decide (x9_1 < (a1.length:Int)))) rfl (fun hb8 => ?_) (fun hb8 => ?_)
  ·replace H:=ifT H hb8
   refine Ok.skip ?_
   refine Ok.seq ?_
   refine Ok.block ?_
   refine Ok.seq ?_
   obtain⟨c4,H⟩:=assertE H
   refine Ok.region (σ':=⟨[(0,(.v (.int .i32 a0))),(6,(.bref 6 0)),(7,(L 2 e_utf_span a1)),(8,(.v (.int .i64 (a1.length:Int)))),(9,(.v (.int .i64 x9_1)))],[(6,(.box .ex [(.v (.int .i32 ((rd a1 x9_1).From_))),(.v (.int .i32 ((rd a1 x9_1).To_)))]))]⟩) ?_ ?_
   ·refine .cv (VOk.indexL (sz:=2) (e:=e_utf_span) (xs:=a1) (i:=x9_1) rfl Try.underlying118 sz117 rfl rfl c4) rfl rfl ?_
    refine .rn 3 ?_
    exact .dn
   refine Ok.seq ?_
   refine Ok.region (σ':=⟨[(0,(.v (.int .i32 a0))),(7,(L 2 e_utf_span a1)),(8,(.v (.int .i64 (a1.length:Int)))),(9,(.v (.int .i64 x9_1))),(22,(.v (.bool ((decide (a0 ≥ ((rd a1 x9_1).From_))) && (decide (a0 ≤ ((rd a1 x9_1).To_)))))))],[]⟩) ?_ ?_
   ·refine .rn 5 ?_
    refine OpsOk.consI rfl rfl rfl (.one rfl) rfl (fun hw5 => (VOk.g (VOk.mv (d:=(.v (.int .i32 a0))) rfl rfl))) ?_
    refine OpsOk.consI rfl rfl rfl (.one rfl) rfl (fun hw5 => (VOk.g (VOk.to (VOk.fieldB rfl Try.underlying117 rfl sz21 rfl rfl) rfl))) ?_
    refine OpsOk.consI rfl rfl rfl (.one rfl) rfl (fun hw5 => (GOk.fr (fr':=[(19,(.bref 6 1))]) ⟨DLe.of_eq (cT hw5).symm,trivial⟩ (VOk.g (VOk.loadB (d:=(.v (.int .i32 ((rd a1 x9_1).To_)))) rfl Try.underlying21 rfl rfl rfl rfl)))) ?_
    refine OpsOk.consI rfl rfl rfl (.one rfl) rfl (fun hw5 => (GOk.fr (fr':=[(18,(.v (.int .i32 a0))),(20,(.v (.int .i32 ((rd a1 x9_1).To_))))]) ⟨DLe.of_eq (cT hw5).symm,DLe.of_eq (cT hw5).symm,trivial⟩ (VOk.g (VOk.arith (op:=.leq) (k:=.i32) (a:=a0) (b:=(rd a1 x9_1).To_) rfl rfl rfl rfl)))) ?_
    refine .cv (VOk.to (VOk.pickI (b:=(decide (a0 ≥ ((rd a1 x9_1).From_)))) (p:=(decide (a0 ≤ ((rd a1 x9_1).To_)))) (q:=false) rfl rfl (fun hp6 => (cT (t_beq hp6))) (fun hp6 => rfl)) (pickAnd (decide (a0 ≥ ((rd a1 x9_1).From_))) (decide (a0 ≤ ((rd a1 x9_1).To_))))) rfl rfl ?_
    exact .dn
   refine Ok.test (b:=((decide (a0 ≥ ((rd a1 x9_1).From_))) && (decide (a0 ≤ ((rd a1 x9_1).To_))))) rfl (fun hb7 => ?_) (fun hb7 => ?_)
   ·replace H:=ifT H hb7
    refine Ok.seq ?_
    refine .rg [(4,(.v (.bool true)))] [] ?_
    refine Ok.ret ?_
    obtain rfl:=Option.some.inj H
    exact⟨.inl rfl,⟨_,(.cons (.tmp rfl) .nil),rfl⟩,trivial⟩
   ·replace H:=ifF H hb7
    refine Ok.skip ?_
    refine .rg [(0,(.v (.int .i32 a0))),(7,(L 2 e_utf_span a1)),(8,(.v (.int .i64 (a1.length:Int)))),(9,(.v (.int .i64 (IntKind.i64.wrap (x9_1 + 1)))))] [] ?_
    exact⟨m3,Nat.lt_succ_self m3,(IntKind.i64.wrap (x9_1 + 1)),rfl,H⟩
  ·replace H:=ifF H hb8
   refine Ok.exit ?_
   refine Ok.seq ?_
   refine .rg [(4,(.v (.bool false)))] [] ?_
   refine Ok.ret ?_
   obtain rfl:=Option.some.inj H
   exact⟨.inl rfl,⟨_,(.cons (.tmp rfl) .nil),rfl⟩,trivial⟩
def utf_Char (k:Nat) (a0:Int):Option Bool:=((utf_within k a0 ([(T_utf_span.mk 9 10),(T_utf_span.mk 13 13),(T_utf_span.mk 32 55295),(T_utf_span.mk 57344 65533),(T_utf_span.mk 65536 1114111)]:List T_utf_span)).bind fun (t1:Bool) => some t1)
theorem utf_Char.ok {k:Nat} {a0:Int} {r:Bool} (H:utf_Char k a0=some r):Vx.Fn Try.prog 69 [(.v (.int .i32 a0))] [] (.v (.bool r)) []:=by
 unfold utf_Char at H
 refine Vx.Fn.of_okR Try.func69 rfl (Nat.le_of_ble_eq_true rfl) ?_
 refine Ok.seq ?_
 refine .rg [(0,(.v (.int .i32 a0)))] [] ?_
 refine Ok.seq ?_
 obtain⟨t1,h2,H⟩:=bindE H
 refine Ok.region (σ':=⟨[(2,(.v (.bool t1)))],[]⟩) ?_ ?_
 ·refine .rn 1 ?_
  refine .cv (VOk.to (d':=(.agg (e_utf_span (T_utf_span.mk 9 10)))) (.build [none,none] [(0,1),(1,1)] rfl Try.underlying117 (fa117 Try.underlying117) zo117 rfl rfl) rfl) rfl rfl ?_
  refine .cv (VOk.to (d':=(.agg (e_utf_span (T_utf_span.mk 13 13)))) (.build [none,none] [(0,1),(1,1)] rfl Try.underlying117 (fa117 Try.underlying117) zo117 rfl rfl) rfl) rfl rfl ?_
  refine .cv (VOk.to (d':=(.agg (e_utf_span (T_utf_span.mk 32 55295)))) (.build [none,none] [(0,1),(1,1)] rfl Try.underlying117 (fa117 Try.underlying117) zo117 rfl rfl) rfl) rfl rfl ?_
  refine .cv (VOk.to (d':=(.agg (e_utf_span (T_utf_span.mk 57344 65533)))) (.build [none,none] [(0,1),(1,1)] rfl Try.underlying117 (fa117 Try.underlying117) zo117 rfl rfl) rfl) rfl rfl ?_
  refine .cv (VOk.to (d':=(.agg (e_utf_span (T_utf_span.mk 65536 1114111)))) (.build [none,none] [(0,1),(1,1)] rfl Try.underlying117 (fa117 Try.underlying117) zo117 rfl rfl) rfl) rfl rfl ?_
  refine .cg (GOk.to (d':=(L 2 e_utf_span ([(T_utf_span.mk 9 10),(T_utf_span.mk 13 13),(T_utf_span.mk 32 55295),(T_utf_span.mk 57344 65533),(T_utf_span.mk 65536 1114111)]:List T_utf_span))) (GOk.lit rfl Try.underlying118 sz117 zs117 rfl rfl rfl rfl) rfl) rfl rfl ?_
  refine .cg (GOk.call rfl rfl cl82 rfl (utf_within.ok h2) rfl) rfl rfl ?_
  refine .rn 1 ?_
  exact .dn
 refine Ok.ret ?_
 obtain rfl:=Option.some.inj H
 exact⟨.inl rfl,⟨_,(.cons (.tmp rfl) .nil),rfl⟩,trivial⟩
def tree_signs.l0 (k:Nat) (a0:Str):Nat→Int→Option Bool
 | 0,_ => none
 | m3 + 1,x3_1 => (if (decide (x3_1 < (a0.length:Int)))=true then ((utf_Rune k a0 x3_1).bind fun (t4:Int × Int) => (((if ((t4.2 == 0) == false)=true then utf_Char k t4.1 else some default)).bind fun (t7:Bool) => (if ((t4.2 == 0) || (!t7))=true then some false else tree_signs.l0 k a0 m3 (IntKind.i64.wrap (x3_1 + t4.2))))) else some true)
def tree_signs (k:Nat) (a0:Str):Option Bool:=tree_signs.l0 k a0 k 0
theorem tree_signs.ok {k:Nat} {a0:Str} {r:Bool} (H:tree_signs k a0=some r):Vx.Fn Try.prog 48 [(S a0)] [] (.v (.bool r)) []:=by
 unfold tree_signs at H
 refine Vx.Fn.of_okR Try.func48 rfl (Nat.le_of_ble_eq_true rfl) ?_
 refine Ok.seq ?_
 refine .rg [(0,(S a0))] [] ?_
 refine Ok.seq ?_
 refine Ok.seq ?_
 refine .rg [(0,(S a0)),(3,(.v (.int .i64 0)))] [] ?_
 refine Ok.block ?_
 refine Ok.loop (fun m3 σ => ∃ (x3_1:Int),σ=⟨[(0,(S a0)),(3,(.v (.int .i64 x3_1)))],[]⟩ ∧ tree_signs.l0 k a0 m3 x3_1=some r) k ⟨0,rfl,H⟩ ?_
 rintro m3 σ ⟨x3_1,rfl,H⟩
 cases m3 with
 | zero => exact absurd H (by simp [tree_signs.l0])
 | succ m3 =>
  unfold tree_signs.l0 at H
  refine Ok.seq ?_
  refine Ok.seq ?_
  refine .rg [(0,(S a0)),(3,(.v (.int .i64 x3_1))),(9,(.v (.bool (decide (x3_1 < (a0.length:Int))))))] [] ?_
  refine Ok.test (b:=(decide (x3_1 < (a0.length:Int)))) rfl (fun hb11 => ?_) (fun hb11 => ?_)
  ·replace H:=ifT H hb11
   refine Ok.skip ?_
   refine Ok.block ?_
   refine Ok.seq ?_
   obtain⟨t4,h5,H⟩:=bindE H
   refine Ok.region (σ':=⟨[(0,(S a0)),(3,(.v (.int .i64 x3_1))),(4,(.v (.int .i32 t4.1))),(5,(.v (.int .i64 t4.2)))],[]⟩) ?_ ?_
   ·refine .rn 2 ?_
    refine .cg (GOk.call rfl rfl cl68 rfl (utf_Rune.ok h5) rfl) rfl rfl ?_
    refine .rn 5 ?_
    exact .dn
   refine Ok.seq ?_
   refine Ok.seq ?_
   obtain⟨t7,h8,H⟩:=bindE H
   refine Ok.region (σ':=⟨[(0,(S a0)),(3,(.v (.int .i64 x3_1))),(5,(.v (.int .i64 t4.2))),(22,(.v (.bool ((t4.2 == 0) || (!t7)))))],[]⟩) ?_ ?_
   ·refine .rn 3 ?_
    refine OpsOk.consI rfl rfl rfl (.one rfl) rfl (fun hw6 => (VOk.g (VOk.mv (d:=(.v (.int .i32 t4.1))) rfl rfl))) ?_
    refine OpsOk.consI rfl rfl rfl (.one rfl) rfl (fun hw6 => (GOk.fr (fr':=[(19,(.v (.int .i32 t4.1)))]) ⟨DLe.of_eq (cT hw6).symm,trivial⟩ (GOk.call rfl rfl cl69 rfl (utf_Char.ok (ifT h8 hw6)) rfl))) ?_
    refine OpsOk.consI rfl rfl rfl (.one rfl) rfl (fun hw6 => (GOk.fr (fr':=[(20,(.v (.bool t7)))]) ⟨DLe.of_eq (cT hw6).symm,trivial⟩ (VOk.g (VOk.not (b:=t7) rfl rfl)))) ?_
    refine .cv (VOk.to (VOk.pickI (b:=(t4.2 == 0)) (p:=true) (q:=(!t7)) rfl rfl (fun hp9 => rfl) (fun hp9 => (cT (f_beq hp9)))) (pickOr (t4.2 == 0) (!t7))) rfl rfl ?_
    exact .dn
   refine Ok.test (b:=((t4.2 == 0) || (!t7))) rfl (fun hb10 => ?_) (fun hb10 => ?_)
   ·replace H:=ifT H hb10
    refine Ok.seq ?_
    refine .rg [(2,(.v (.bool false)))] [] ?_
    refine Ok.ret ?_
    obtain rfl:=Option.some.inj H
    exact⟨.inl rfl,⟨_,(.cons (.tmp rfl) .nil),rfl⟩,trivial⟩
   ·replace H:=ifF H hb10
    refine Ok.skip ?_
    refine .rg [(0,(S a0)),(3,(.v (.int .i64 (IntKind.i64.wrap (x3_1 + t4.2)))))] [] ?_
    exact⟨m3,Nat.lt_succ_self m3,(IntKind.i64.wrap (x3_1 + t4.2)),rfl,H⟩
  ·replace H:=ifF H hb11
   refine Ok.exit ?_
   refine Ok.seq ?_
   refine .rg [(2,(.v (.bool true)))] [] ?_
   refine Ok.ret ?_
   obtain rfl:=Option.some.inj H
   exact⟨.inl rfl,⟨_,(.cons (.tmp rfl) .nil),rfl⟩,trivial⟩
def utf_Start (k:Nat) (a0:Int):Option Bool:=((utf_within k a0 ([(T_utf_span.mk 65 90),(T_utf_span.mk 97 122),(T_utf_span.mk 95 95),(T_utf_span.mk 192 214),(T_utf_span.mk 216 246),(T_utf_span.mk 248 767),(T_utf_span.mk 880 893),(T_utf_span.mk 895 8191),(T_utf_span.mk 8204 8205),(T_utf_span.mk 8304 8591),(T_utf_span.mk 11264 12271),(T_utf_span.mk 12289 55295),(T_utf_span.mk 63744 64975),(T_utf_span.mk 65008 65533),(T_utf_span.mk 65536 983039)]:List T_utf_span)).bind fun (t1:Bool) => some t1)
theorem utf_Start.ok {k:Nat} {a0:Int} {r:Bool} (H:utf_Start k a0=some r):Vx.Fn Try.prog 83 [(.v (.int .i32 a0))] [] (.v (.bool r)) []:=by
 unfold utf_Start at H
 refine Vx.Fn.of_okR Try.func83 rfl (Nat.le_of_ble_eq_true rfl) ?_
 refine Ok.seq ?_
 refine .rg [(0,(.v (.int .i32 a0)))] [] ?_
 refine Ok.seq ?_
 obtain⟨t1,h2,H⟩:=bindE H
 refine Ok.region (σ':=⟨[(2,(.v (.bool t1)))],[]⟩) ?_ ?_
 ·refine .rn 1 ?_
  refine .cv (VOk.to (d':=(.agg (e_utf_span (T_utf_span.mk 65 90)))) (.build [none,none] [(0,1),(1,1)] rfl Try.underlying117 (fa117 Try.underlying117) zo117 rfl rfl) rfl) rfl rfl ?_
  refine .cv (VOk.to (d':=(.agg (e_utf_span (T_utf_span.mk 97 122)))) (.build [none,none] [(0,1),(1,1)] rfl Try.underlying117 (fa117 Try.underlying117) zo117 rfl rfl) rfl) rfl rfl ?_
  refine .cv (VOk.to (d':=(.agg (e_utf_span (T_utf_span.mk 95 95)))) (.build [none,none] [(0,1),(1,1)] rfl Try.underlying117 (fa117 Try.underlying117) zo117 rfl rfl) rfl) rfl rfl ?_
  refine .cv (VOk.to (d':=(.agg (e_utf_span (T_utf_span.mk 192 214)))) (.build [none,none] [(0,1),(1,1)] rfl Try.underlying117 (fa117 Try.underlying117) zo117 rfl rfl) rfl) rfl rfl ?_
  refine .cv (VOk.to (d':=(.agg (e_utf_span (T_utf_span.mk 216 246)))) (.build [none,none] [(0,1),(1,1)] rfl Try.underlying117 (fa117 Try.underlying117) zo117 rfl rfl) rfl) rfl rfl ?_
  refine .cv (VOk.to (d':=(.agg (e_utf_span (T_utf_span.mk 248 767)))) (.build [none,none] [(0,1),(1,1)] rfl Try.underlying117 (fa117 Try.underlying117) zo117 rfl rfl) rfl) rfl rfl ?_
  refine .cv (VOk.to (d':=(.agg (e_utf_span (T_utf_span.mk 880 893)))) (.build [none,none] [(0,1),(1,1)] rfl Try.underlying117 (fa117 Try.underlying117) zo117 rfl rfl) rfl) rfl rfl ?_
  refine .cv (VOk.to (d':=(.agg (e_utf_span (T_utf_span.mk 895 8191)))) (.build [none,none] [(0,1),(1,1)] rfl Try.underlying117 (fa117 Try.underlying117) zo117 rfl rfl) rfl) rfl rfl ?_
  refine .cv (VOk.to (d':=(.agg (e_utf_span (T_utf_span.mk 8204 8205)))) (.build [none,none] [(0,1),(1,1)] rfl Try.underlying117 (fa117 Try.underlying117) zo117 rfl rfl) rfl) rfl rfl ?_
  refine .cv (VOk.to (d':=(.agg (e_utf_span (T_utf_span.mk 8304 8591)))) (.build [none,none] [(0,1),(1,1)] rfl Try.underlying117 (fa117 Try.underlying117) zo117 rfl rfl) rfl) rfl rfl ?_
  refine .cv (VOk.to (d':=(.agg (e_utf_span (T_utf_span.mk 11264 12271)))) (.build [none,none] [(0,1),(1,1)] rfl Try.underlying117 (fa117 Try.underlying117) zo117 rfl rfl) rfl) rfl rfl ?_
  refine .cv (VOk.to (d':=(.agg (e_utf_span (T_utf_span.mk 12289 55295)))) (.build [none,none] [(0,1),(1,1)] rfl Try.underlying117 (fa117 Try.underlying117) zo117 rfl rfl) rfl) rfl rfl ?_
  refine .cv (VOk.to (d':=(.agg (e_utf_span (T_utf_span.mk 63744 64975)))) (.build [none,none] [(0,1),(1,1)] rfl Try.underlying117 (fa117 Try.underlying117) zo117 rfl rfl) rfl) rfl rfl ?_
  refine .cv (VOk.to (d':=(.agg (e_utf_span (T_utf_span.mk 65008 65533)))) (.build [none,none] [(0,1),(1,1)] rfl Try.underlying117 (fa117 Try.underlying117) zo117 rfl rfl) rfl) rfl rfl ?_
  refine .cv (VOk.to (d':=(.agg (e_utf_span (T_utf_span.mk 65536 983039)))) (.build [none,none] [(0,1),(1,1)] rfl Try.underlying117 (fa117 Try.underlying117) zo117 rfl rfl) rfl) rfl rfl ?_
  refine .cg (GOk.to (d':=(L 2 e_utf_span ([(T_utf_span.mk 65 90),(T_utf_span.mk 97 122),(T_utf_span.mk 95 95),(T_utf_span.mk 192 214),(T_utf_span.mk 216 246),(T_utf_span.mk 248 767),(T_utf_span.mk 880 893),(T_utf_span.mk 895 8191),(T_utf_span.mk 8204 8205),(T_utf_span.mk 8304 8591),(T_utf_span.mk 11264 12271),(T_utf_span.mk 12289 55295),(T_utf_span.mk 63744 64975),(T_utf_span.mk 65008 65533),(T_utf_span.mk 65536 983039)]:List T_utf_span))) (GOk.lit rfl Try.underlying118 sz117 zs117 rfl rfl rfl rfl) rfl) rfl rfl ?_
  refine .cg (GOk.call rfl rfl cl82 rfl (utf_within.ok h2) rfl) rfl rfl ?_
  refine .rn 1 ?_
  exact .dn
 refine Ok.ret ?_
 obtain rfl:=Option.some.inj H
 exact⟨.inl rfl,⟨_,(.cons (.tmp rfl) .nil),rfl⟩,trivial⟩
def utf_Part (k:Nat) (a0:Int):Option Bool:=((utf_Start k a0).bind fun (t1:Bool) => (((if (t1 == false)=true then utf_within k a0 ([(T_utf_span.mk 45 46),(T_utf_span.mk 48 57),(T_utf_span.mk 183 183),(T_utf_span.mk 768 879),(T_utf_span.mk 8255 8256)]:List T_utf_span) else some default)).bind fun (t4:Bool) => some (t1 || t4)))
theorem utf_Part.ok {k:Nat} {a0:Int} {r:Bool} (H:utf_Part k a0=some r):Vx.Fn Try.prog 84 [(.v (.int .i32 a0))] [] (.v (.bool r)) []:=by
 unfold utf_Part at H
 refine Vx.Fn.of_okR Try.func84 rfl (Nat.le_of_ble_eq_true rfl) ?_
 refine Ok.seq ?_
 refine .rg [(0,(.v (.int .i32 a0)))] [] ?_
 refine Ok.seq ?_
 obtain⟨t1,h2,H⟩:=bindE H
 obtain⟨t4,h5,H⟩:=bindE H
 refine Ok.region (σ':=⟨[(2,(.v (.bool (t1 || t4))))],[]⟩) ?_ ?_
 ·refine .rn 1 ?_
  refine .cg (GOk.call rfl rfl cl83 rfl (utf_Start.ok h2) rfl) rfl rfl ?_
  refine .rn 1 ?_
  refine OpsOk.consI rfl rfl rfl (.one rfl) rfl (fun hw3 => (VOk.g (VOk.mv (d:=(.v (.int .i32 a0))) rfl rfl))) ?_
  refine OpsOk.consI rfl rfl rfl (.one rfl) rfl (fun hw3 => (VOk.g (VOk.to (d':=(.agg (e_utf_span (T_utf_span.mk 45 46)))) (.build [none,none] [(0,1),(1,1)] rfl Try.underlying117 (fa117 Try.underlying117) zo117 rfl rfl) rfl))) ?_
  refine OpsOk.consI rfl rfl rfl (.one rfl) rfl (fun hw3 => (VOk.g (VOk.to (d':=(.agg (e_utf_span (T_utf_span.mk 48 57)))) (.build [none,none] [(0,1),(1,1)] rfl Try.underlying117 (fa117 Try.underlying117) zo117 rfl rfl) rfl))) ?_
  refine OpsOk.consI rfl rfl rfl (.one rfl) rfl (fun hw3 => (VOk.g (VOk.to (d':=(.agg (e_utf_span (T_utf_span.mk 183 183)))) (.build [none,none] [(0,1),(1,1)] rfl Try.underlying117 (fa117 Try.underlying117) zo117 rfl rfl) rfl))) ?_
  refine OpsOk.consI rfl rfl rfl (.one rfl) rfl (fun hw3 => (VOk.g (VOk.to (d':=(.agg (e_utf_span (T_utf_span.mk 768 879)))) (.build [none,none] [(0,1),(1,1)] rfl Try.underlying117 (fa117 Try.underlying117) zo117 rfl rfl) rfl))) ?_
  refine OpsOk.consI rfl rfl rfl (.one rfl) rfl (fun hw3 => (VOk.g (VOk.to (d':=(.agg (e_utf_span (T_utf_span.mk 8255 8256)))) (.build [none,none] [(0,1),(1,1)] rfl Try.underlying117 (fa117 Try.underlying117) zo117 rfl rfl) rfl))) ?_
  refine OpsOk.consI rfl rfl rfl (.one rfl) rfl (fun hw3 => (GOk.fr (fr':=[(7,(.agg (e_utf_span (T_utf_span.mk 45 46)))),(8,(.agg (e_utf_span (T_utf_span.mk 48 57)))),(9,(.agg (e_utf_span (T_utf_span.mk 183 183)))),(10,(.agg (e_utf_span (T_utf_span.mk 768 879)))),(11,(.agg (e_utf_span (T_utf_span.mk 8255 8256))))]) ⟨DLe.of_eq (cT hw3).symm,DLe.of_eq (cT hw3).symm,DLe.of_eq (cT hw3).symm,DLe.of_eq (cT hw3).symm,DLe.of_eq (cT hw3).symm,trivial⟩ (GOk.to (d':=(L 2 e_utf_span ([(T_utf_span.mk 45 46),(T_utf_span.mk 48 57),(T_utf_span.mk 183 183),(T_utf_span.mk 768 879),(T_utf_span.mk 8255 8256)]:List T_utf_span))) (GOk.lit rfl Try.underlying118 sz117 zs117 rfl rfl rfl rfl) rfl))) ?_
  refine OpsOk.consI rfl rfl rfl (.one rfl) rfl (fun hw3 => (GOk.fr (fr':=[(6,(.v (.int .i32 a0))),(12,(L 2 e_utf_span ([(T_utf_span.mk 45 46),(T_utf_span.mk 48 57),(T_utf_span.mk 183 183),(T_utf_span.mk 768 879),(T_utf_span.mk 8255 8256)]:List T_utf_span)))]) ⟨DLe.of_eq (cT hw3).symm,DLe.of_eq (cT hw3).symm,trivial⟩ (GOk.call rfl rfl cl82 rfl (utf_within.ok (ifT h5 hw3)) rfl))) ?_
  refine .cv (VOk.to (VOk.pickI (b:=t1) (p:=true) (q:=t4) rfl rfl (fun hp6 => rfl) (fun hp6 => (cT (f_beq hp6)))) (pickOr t1 t4)) rfl rfl ?_
  refine .rn 1 ?_
  exact .dn
 refine Ok.ret ?_
 obtain rfl:=Option.some.inj H
 exact⟨.inl rfl,⟨_,(.cons (.tmp rfl) .nil),rfl⟩,trivial⟩
def utf_Name.l0 (k:Nat) (a0:Str):Nat→Nat→Int→Option Bool
 | 0,_,_ => none
 | m10 + 1,x3_6,x4_7 => (if (decide (x4_7 < (a0.length:Int)))=true then ((utf_Rune k a0 x4_7).bind fun (t11:Int × Int) => (((if ((t11.2 == 0) == false)=true then (if x3_6=83 then utf_Start k t11.1 else (if x3_6=84 then utf_Part k t11.1 else none)) else some default)).bind fun (t14:Bool) => (if ((t11.2 == 0) || (!t14))=true then some false else utf_Name.l0 k a0 m10 84 (IntKind.i64.wrap (x4_7 + t11.2))))) else some true)
def utf_Name (k:Nat) (a0:Str):Option Bool:=(if ((a0 == ([]:Str)) || (decide ((a0.length:Int) > 64)))=true then some false else utf_Name.l0 k a0 k 83 0)
theorem utf_Name.ok {k:Nat} {a0:Str} {r:Bool} (H:utf_Name k a0=some r):Vx.Fn Try.prog 70 [(S a0)] [] (.v (.bool r)) []:=by
 unfold utf_Name at H
 refine Vx.Fn.of_okR Try.func70 rfl (Nat.le_of_ble_eq_true rfl) ?_
 refine Ok.seq ?_
 refine .rg [(0,(S a0))] [] ?_
 refine Ok.seq ?_
 refine Ok.seq ?_
 refine Ok.region (σ':=⟨[(0,(S a0)),(13,(.v (.bool ((a0 == ([]:Str)) || (decide ((a0.length:Int) > 64))))))],[]⟩) ?_ ?_
 ·refine .rn 3 ?_
  refine OpsOk.consI rfl rfl rfl (.one rfl) rfl (fun hw1 => (VOk.g (VOk.mv (d:=(S a0)) rfl rfl))) ?_
  refine OpsOk.consI rfl rfl rfl (.one rfl) rfl (fun hw1 => (GOk.fr (fr':=[(10,(S a0))]) ⟨DLe.of_eq (cT hw1).symm,trivial⟩ (VOk.g (VOk.lenStr (s:=a0) rfl Try.underlying9 rfl)))) ?_
  refine OpsOk.consI rfl rfl rfl (.one rfl) rfl (fun hw1 => (GOk.fr (fr':=[(11,(.v (.int .i64 (a0.length:Int))))]) ⟨DLe.of_eq (cT hw1).symm,trivial⟩ (VOk.g (VOk.arith (op:=.gtr) (k:=.i64) (a:=(a0.length:Int)) (b:=64) rfl rfl rfl rfl)))) ?_
  refine .cv (VOk.to (VOk.pickI (b:=(a0 == ([]:Str))) (p:=true) (q:=(decide ((a0.length:Int) > 64))) rfl rfl (fun hp2 => rfl) (fun hp2 => (cT (f_beq hp2)))) (pickOr (a0 == ([]:Str)) (decide ((a0.length:Int) > 64)))) rfl rfl ?_
  exact .dn
 refine Ok.test (b:=((a0 == ([]:Str)) || (decide ((a0.length:Int) > 64)))) rfl (fun hb19 => ?_) (fun hb19 => ?_)
 ·replace H:=ifT H hb19
  refine Ok.seq ?_
  refine .rg [(2,(.v (.bool false)))] [] ?_
  refine Ok.ret ?_
  obtain rfl:=Option.some.inj H
  exact⟨.inl rfl,⟨_,(.cons (.tmp rfl) .nil),rfl⟩,trivial⟩
 ·replace H:=ifF H hb19
  refine Ok.skip ?_
  refine Ok.seq ?_
  refine .rg [(0,(S a0)),(3,(.clo 83 []))] [] ?_
  refine Ok.seq ?_
  refine Ok.seq ?_
  refine .rg [(0,(S a0)),(3,(.clo 83 [])),(4,(.v (.int .i64 0)))] [] ?_
  refine Ok.block ?_
  refine Ok.loop (fun m10 σ => ∃ (x3_6:Nat) (x4_7:Int),σ=⟨[(0,(S a0)),(3,(.clo x3_6 [])),(4,(.v (.int .i64 x4_7)))],[]⟩ ∧ utf_Name.l0 k a0 m10 x3_6 x4_7=some r) k ⟨83,0,rfl,H⟩ ?_
  rintro m10 σ ⟨x3_6,x4_7,rfl,H⟩
  cases m10 with
  | zero => exact absurd H (by simp [utf_Name.l0])
  | succ m10 =>
   unfold utf_Name.l0 at H
   refine Ok.seq ?_
   refine Ok.seq ?_
   refine .rg [(0,(S a0)),(3,(.clo x3_6 [])),(4,(.v (.int .i64 x4_7))),(17,(.v (.bool (decide (x4_7 < (a0.length:Int))))))] [] ?_
   refine Ok.test (b:=(decide (x4_7 < (a0.length:Int)))) rfl (fun hb18 => ?_) (fun hb18 => ?_)
   ·replace H:=ifT H hb18
    refine Ok.skip ?_
    refine Ok.seq ?_
    refine Ok.block ?_
    refine Ok.seq ?_
    obtain⟨t11,h12,H⟩:=bindE H
    refine Ok.region (σ':=⟨[(0,(S a0)),(3,(.clo x3_6 [])),(4,(.v (.int .i64 x4_7))),(5,(.v (.int .i32 t11.1))),(6,(.v (.int .i64 t11.2)))],[]⟩) ?_ ?_
    ·refine .rn 2 ?_
     refine .cg (GOk.call rfl rfl cl68 rfl (utf_Rune.ok h12) rfl) rfl rfl ?_
     refine .rn 5 ?_
     exact .dn
    refine Ok.seq ?_
    refine Ok.seq ?_
    obtain⟨t14,h15,H⟩:=bindE H
    refine Ok.region (σ':=⟨[(0,(S a0)),(4,(.v (.int .i64 x4_7))),(6,(.v (.int .i64 t11.2))),(31,(.v (.bool ((t11.2 == 0) || (!t14)))))],[]⟩) ?_ ?_
    ·refine .rn 3 ?_
     refine OpsOk.consI rfl rfl rfl (.one rfl) rfl (fun hw13 => (VOk.g (VOk.mv (d:=(.clo x3_6 [])) rfl rfl))) ?_
     refine OpsOk.consI rfl rfl rfl (.one rfl) rfl (fun hw13 => (VOk.g (VOk.mv (d:=(.v (.int .i32 t11.1))) rfl rfl))) ?_
     refine OpsOk.consI rfl rfl rfl (.one rfl) rfl (fun hw13 => (GOk.fr (fr':=[(27,(.clo x3_6 [])),(28,(.v (.int .i32 t11.1)))]) ⟨DLe.of_eq (cT hw13).symm,DLe.of_eq (cT hw13).symm,trivial⟩ (have q:callable Try.prog x3_6=true ∧ Vx.Fn Try.prog x3_6 [(.v (.int .i32 t11.1))] [] (.v (.bool t14)) []:=(fun h => selF h (fun e h => by rw [e]; exact⟨cl83,(utf_Start.ok h)⟩) (fun h => selF h (fun e h => by rw [e]; exact⟨cl84,(utf_Part.ok h)⟩) (fun h => nomatch h))) (ifT h15 hw13); GOk.call rfl rfl q.1 rfl q.2 rfl))) ?_
     refine OpsOk.consI rfl rfl rfl (.one rfl) rfl (fun hw13 => (GOk.fr (fr':=[(29,(.v (.bool t14)))]) ⟨DLe.of_eq (cT hw13).symm,trivial⟩ (VOk.g (VOk.not (b:=t14) rfl rfl)))) ?_
     refine .cv (VOk.to (VOk.pickI (b:=(t11.2 == 0)) (p:=true) (q:=(!t14)) rfl rfl (fun hp16 => rfl) (fun hp16 => (cT (f_beq hp16)))) (pickOr (t11.2 == 0) (!t14))) rfl rfl ?_
     exact .dn
    refine Ok.test (b:=((t11.2 == 0) || (!t14))) rfl (fun hb17 => ?_) (fun hb17 => ?_)
    ·replace H:=ifT H hb17
     refine Ok.seq ?_
     refine .rg [(2,(.v (.bool false)))] [] ?_
     refine Ok.ret ?_
     obtain rfl:=Option.some.inj H
     exact⟨.inl rfl,⟨_,(.cons (.tmp rfl) .nil),rfl⟩,trivial⟩
    ·replace H:=ifF H hb17
     refine Ok.skip ?_
     refine .rg [(0,(S a0)),(4,(.v (.int .i64 (IntKind.i64.wrap (x4_7 + t11.2)))))] [] ?_
     refine .rg [(0,(S a0)),(3,(.clo 84 [])),(4,(.v (.int .i64 (IntKind.i64.wrap (x4_7 + t11.2)))))] [] ?_
     exact⟨m10,Nat.lt_succ_self m10,84,(IntKind.i64.wrap (x4_7 + t11.2)),rfl,H⟩
   ·replace H:=ifF H hb18
    refine Ok.exit ?_
    refine Ok.seq ?_
    refine .rg [(2,(.v (.bool true)))] [] ?_
    refine Ok.ret ?_
    obtain rfl:=Option.some.inj H
    exact⟨.inl rfl,⟨_,(.cons (.tmp rfl) .nil),rfl⟩,trivial⟩
def tree_named (k:Nat) (a0:T_api_Name):Option Bool:=((utf_Name k a0.Local).bind fun (t1:Bool) => (((if (t1 == true)=true then tree_signs k a0.Space else some default)).bind fun (t4:Bool) => some ((t1 && t4) && (!(a0.Space == ([104,116,116,112,58,47,47,119,119,119,46,119,51,46,111,114,103,47,50,48,48,48,47,120,109,108,110,115,47]:Str))))))
theorem tree_named.ok {k:Nat} {a0:T_api_Name} {r:Bool} (H:tree_named k a0=some r):Vx.Fn Try.prog 49 [(.agg (e_api_Name a0))] [] (.v (.bool r)) []:=by
 unfold tree_named at H
 refine Vx.Fn.of_okR Try.func49 rfl (Nat.le_of_ble_eq_true rfl) ?_
 refine Ok.seq ?_
 refine .rg [(1,(.bref 1 0))] [(1,(.box .ex [(S a0.Space),(S a0.Local)]))] ?_
 refine Ok.seq ?_
 obtain⟨t1,h2,H⟩:=bindE H
 obtain⟨t4,h5,H⟩:=bindE H
 refine Ok.region (σ':=⟨[(2,(.v (.bool ((t1 && t4) && (!(a0.Space == ([104,116,116,112,58,47,47,119,119,119,46,119,51,46,111,114,103,47,50,48,48,48,47,120,109,108,110,115,47]:Str)))))))],[]⟩) ?_ ?_
 ·refine .rn 2 ?_
  refine .cg (GOk.call rfl rfl cl70 rfl (utf_Name.ok h2) rfl) rfl rfl ?_
  refine .rn 1 ?_
  refine OpsOk.consI rfl rfl rfl (.one rfl) rfl (fun hw3 => (VOk.g (VOk.to (VOk.fieldB rfl Try.underlying23 rfl sz9 rfl rfl) rfl))) ?_
  refine OpsOk.consI rfl rfl rfl (.one rfl) rfl (fun hw3 => (GOk.fr (fr':=[(7,(.bref 1 0))]) ⟨DLe.of_eq (cT hw3).symm,trivial⟩ (VOk.g (VOk.loadB (d:=(S a0.Space)) rfl Try.underlying9 rfl rfl rfl rfl)))) ?_
  refine OpsOk.consI rfl rfl rfl (.one rfl) rfl (fun hw3 => (GOk.fr (fr':=[(8,(S a0.Space))]) ⟨DLe.of_eq (cT hw3).symm,trivial⟩ (GOk.call rfl rfl cl48 rfl (tree_signs.ok (ifT h5 hw3)) rfl))) ?_
  refine .cv (VOk.to (VOk.pickI (b:=t1) (p:=t4) (q:=false) rfl rfl (fun hp6 => (cT (t_beq hp6))) (fun hp6 => rfl)) (pickAnd t1 t4)) rfl rfl ?_
  refine .rn 1 ?_
  refine OpsOk.consI rfl rfl rfl (.one rfl) rfl (fun hw7 => (VOk.g (VOk.to (VOk.fieldB rfl Try.underlying23 rfl sz9 rfl rfl) rfl))) ?_
  refine OpsOk.consI rfl rfl rfl (.one rfl) rfl (fun hw7 => (GOk.fr (fr':=[(12,(.bref 1 0))]) ⟨DLe.of_eq (cT hw7).symm,trivial⟩ (VOk.g (VOk.loadB (d:=(S a0.Space)) rfl Try.underlying9 rfl rfl rfl rfl)))) ?_
  refine OpsOk.consI rfl rfl rfl (.one rfl) rfl (fun hw7 => (GOk.fr (fr':=[(13,(S a0.Space))]) ⟨DLe.of_eq (cT hw7).symm,trivial⟩ (VOk.g (VOk.strOp (op:=.neq) (a:=a0.Space) (b:=([104,116,116,112,58,47,47,119,119,119,46,119,51,46,111,114,103,47,50,48,48,48,47,120,109,108,110,115,47]:Str)) rfl rfl rfl rfl)))) ?_
  refine .cv (VOk.to (VOk.pickI (b:=(t1 && t4)) (p:=(!(a0.Space == ([104,116,116,112,58,47,47,119,119,119,46,119,51,46,111,114,103,47,50,48,48,48,47,120,109,108,110,115,47]:Str)))) (q:=false) rfl rfl (fun hp8 => (cT (t_beq hp8))) (fun hp8 => rfl)) (pickAnd (t1 && t4) (!(a0.Space == ([104,116,116,112,58,47,47,119,119,119,46,119,51,46,111,114,103,47,50,48,48,48,47,120,109,108,110,115,47]:Str))))) rfl rfl ?_
  refine .rn 1 ?_
  exact .dn
 refine Ok.ret ?_
 obtain rfl:=Option.some.inj H
 exact⟨.inl rfl,⟨_,(.cons (.tmp rfl) .nil),rfl⟩,trivial⟩
def tree_attrs.l0 (k:Nat) (a0:List T_api_Attr):Nat→List (T_api_Name × Bool)→Int→Option Bool
 | 0,_,_ => none
 | m5 + 1,y6_2,x9_1 => (if (decide (x9_1 < (a0.length:Int)))=true then (if (0:Int) ≤ x9_1 ∧ x9_1 < (a0.length:Int) then ((tree_named k ((rd a0 x9_1).Name)).bind fun (t7:Bool) => (((if ((!t7) == false)=true then tree_signs k ((rd a0 x9_1).Value) else some default)).bind fun (t10:Bool) => (if ((((!t7) || (!t10)) || (((rd a0 x9_1).Name).Space == (T_api_Name.mk ([]:Str) ([120,109,108,110,115]:Str)).Space && (((rd a0 x9_1).Name).Local == (T_api_Name.mk ([]:Str) ([120,109,108,110,115]:Str)).Local && true))) || (lkm keq23 false y6_2 ((rd a0 x9_1).Name)))=true then some false else tree_attrs.l0 k a0 m5 (upm keq23 y6_2 ((rd a0 x9_1).Name) true) (IntKind.i64.wrap (x9_1 + 1))))) else none) else some (decide ((a0.length:Int) ≤ 32)))
def tree_attrs (k:Nat) (a0:List T_api_Attr):Option Bool:=tree_attrs.l0 k a0 k ([]:List (T_api_Name × Bool)) 0
theorem tree_attrs.ok {k:Nat} {a0:List T_api_Attr} {r:Bool} (H:tree_attrs k a0=some r):Vx.Fn Try.prog 50 [(L 3 e_api_Attr a0)] [] (.v (.bool r)) []:=by
 unfold tree_attrs at H
 refine Vx.Fn.of_okR Try.func50 rfl (Nat.le_of_ble_eq_true rfl) ?_
 refine Ok.seq ?_
 refine .rg [(0,(L 3 e_api_Attr a0))] [] ?_
 refine Ok.seq ?_
 refine Ok.region (σ':=⟨[(0,(L 3 e_api_Attr a0)),(3,(.mref 6))],[(6,(.map (List.map (fun p => ((fun a => D.agg (e_api_Name a)) p.1,D.v (Value.bool p.2))) ([]:List (T_api_Name × Bool)))))]⟩) ?_ ?_
 ·refine OpsOk.cons rfl (OpOk.mapNew 6 rfl rfl) ?_
  refine .rn 1 ?_
  exact .dn
 refine Ok.seq ?_
 refine Ok.seq ?_
 refine Ok.region (σ':=⟨[(0,(L 3 e_api_Attr a0)),(3,(.mref 6)),(7,(L 3 e_api_Attr a0)),(8,(.v (.int .i64 (a0.length:Int)))),(9,(.v (.int .i64 0)))],[(6,(.map (List.map (fun p => ((fun a => D.agg (e_api_Name a)) p.1,D.v (Value.bool p.2))) ([]:List (T_api_Name × Bool)))))]⟩) ?_ ?_
 ·refine .rn 1 ?_
  refine .cv (VOk.lenL (e:=e_api_Attr) (xs:=a0) rfl Try.underlying24 rfl) rfl rfl ?_
  refine .rn 1 ?_
  exact .dn
 refine Ok.block ?_
 refine Ok.loop (fun m5 σ => ∃ (y6_2:List (T_api_Name × Bool)) (x9_1:Int),σ=⟨[(0,(L 3 e_api_Attr a0)),(3,(.mref 6)),(7,(L 3 e_api_Attr a0)),(8,(.v (.int .i64 (a0.length:Int)))),(9,(.v (.int .i64 x9_1)))],[(6,(.map (List.map (fun p => ((fun a => D.agg (e_api_Name a)) p.1,D.v (Value.bool p.2))) y6_2)))]⟩ ∧ tree_attrs.l0 k a0 m5 y6_2 x9_1=some r) k ⟨([]:List (T_api_Name × Bool)),0,rfl,H⟩ ?_
 rintro m5 σ ⟨y6_2,x9_1,rfl,H⟩
 cases m5 with
 | zero => exact absurd H (by simp [tree_attrs.l0])
 | succ m5 =>
  unfold tree_attrs.l0 at H
  refine Ok.seq ?_
  refine .rg [(0,(L 3 e_api_Attr a0)),(3,(.mref 6)),(7,(L 3 e_api_Attr a0)),(8,(.v (.int .i64 (a0.length:Int)))),(9,(.v (.int .i64 x9_1))),(10,(.v (.bool (decide (x9_1 < (a0.length:Int))))))] [(6,(.map (List.map (fun p => ((fun a => D.agg (e_api_Name a)) p.1,D.v (Value.bool p.2))) y6_2)))] ?_
  refine Ok.seq ?_
  refine Ok.test (b:=(decide (x9_1 < (a0.length:Int)))) rfl (fun hb18 => ?_) (fun hb18 => ?_)
  ·replace H:=ifT H hb18
   refine Ok.skip ?_
   refine Ok.seq ?_
   refine Ok.block ?_
   refine Ok.seq ?_
   obtain⟨c6,H⟩:=assertE H
   refine Ok.region (σ':=⟨[(0,(L 3 e_api_Attr a0)),(3,(.mref 6)),(5,(.bref 5 0)),(7,(L 3 e_api_Attr a0)),(8,(.v (.int .i64 (a0.length:Int)))),(9,(.v (.int .i64 x9_1)))],[(5,(.box .ex (c_api_Attr (rd a0 x9_1)))),(6,(.map (List.map (fun p => ((fun a => D.agg (e_api_Name a)) p.1,D.v (Value.bool p.2))) y6_2)))]⟩) ?_ ?_
   ·refine .cv (VOk.indexL (sz:=3) (e:=e_api_Attr) (xs:=a0) (i:=x9_1) rfl Try.underlying24 sz68 rfl rfl c6) rfl rfl ?_
    refine .rn 3 ?_
    exact .dn
   refine Ok.seq ?_
   refine Ok.seq ?_
   obtain⟨t7,h8,H⟩:=bindE H
   obtain⟨t10,h11,H⟩:=bindE H
   refine Ok.region (σ':=⟨[(0,(L 3 e_api_Attr a0)),(3,(.mref 6)),(5,(.bref 5 0)),(7,(L 3 e_api_Attr a0)),(8,(.v (.int .i64 (a0.length:Int)))),(9,(.v (.int .i64 x9_1))),(34,(.v (.bool ((((!t7) || (!t10)) || (((rd a0 x9_1).Name).Space == (T_api_Name.mk ([]:Str) ([120,109,108,110,115]:Str)).Space && (((rd a0 x9_1).Name).Local == (T_api_Name.mk ([]:Str) ([120,109,108,110,115]:Str)).Local && true))) || (lkm keq23 false y6_2 ((rd a0 x9_1).Name))))))],[(5,(.box .ex (c_api_Attr (rd a0 x9_1)))),(6,(.map (List.map (fun p => ((fun a => D.agg (e_api_Name a)) p.1,D.v (Value.bool p.2))) y6_2)))]⟩) ?_ ?_
   ·refine .rn 2 ?_
    refine .cg (GOk.call rfl rfl cl49 rfl (tree_named.ok h8) rfl) rfl rfl ?_
    refine .rn 2 ?_
    refine OpsOk.consI rfl rfl rfl (.one rfl) rfl (fun hw9 => (VOk.g (VOk.to (VOk.fieldB rfl Try.underlying68 rfl sz9 rfl rfl) rfl))) ?_
    refine OpsOk.consI rfl rfl rfl (.one rfl) rfl (fun hw9 => (GOk.fr (fr':=[(18,(.bref 5 2))]) ⟨DLe.of_eq (cT hw9).symm,trivial⟩ (VOk.g (VOk.loadB (d:=(S ((rd a0 x9_1).Value))) rfl Try.underlying9 rfl rfl rfl rfl)))) ?_
    refine OpsOk.consI rfl rfl rfl (.one rfl) rfl (fun hw9 => (GOk.fr (fr':=[(19,(S ((rd a0 x9_1).Value)))]) ⟨DLe.of_eq (cT hw9).symm,trivial⟩ (GOk.call rfl rfl cl48 rfl (tree_signs.ok (ifT h11 hw9)) rfl))) ?_
    refine OpsOk.consI rfl rfl rfl (.one rfl) rfl (fun hw9 => (GOk.fr (fr':=[(20,(.v (.bool t10)))]) ⟨DLe.of_eq (cT hw9).symm,trivial⟩ (VOk.g (VOk.not (b:=t10) rfl rfl)))) ?_
    refine .cv (VOk.to (VOk.pickI (b:=(!t7)) (p:=true) (q:=(!t10)) rfl rfl (fun hp12 => rfl) (fun hp12 => (cT (f_beq hp12)))) (pickOr (!t7) (!t10))) rfl rfl ?_
    refine .rn 1 ?_
    refine OpsOk.consI rfl rfl rfl (.one rfl) rfl (fun hw13 => (VOk.g (VOk.to (VOk.fieldB rfl Try.underlying68 rfl sz23 rfl rfl) rfl))) ?_
    refine OpsOk.consI rfl rfl rfl (.one rfl) rfl (fun hw13 => (GOk.fr (fr':=[(24,(.bref 5 0))]) ⟨DLe.of_eq (cT hw13).symm,trivial⟩ (VOk.g (VOk.to (d':=(.agg (e_api_Name ((rd a0 x9_1).Name)))) (.loadBAgg rfl Try.underlying23 rfl sz23 rfl rfl rfl) rfl)))) ?_
    refine OpsOk.consI rfl rfl rfl (.one rfl) rfl (fun hw13 => (VOk.g (VOk.to (d':=(.agg (e_api_Name (T_api_Name.mk ([]:Str) ([120,109,108,110,115]:Str))))) (.build [none,none] [(0,1),(1,1)] rfl Try.underlying23 (fa23 Try.underlying23) zo23 rfl rfl) rfl))) ?_
    refine OpsOk.consI rfl rfl rfl (.one rfl) rfl (fun hw13 => (GOk.fr (fr':=[(25,(.agg (e_api_Name ((rd a0 x9_1).Name)))),(26,(.agg (e_api_Name (T_api_Name.mk ([]:Str) ([120,109,108,110,115]:Str)))))]) ⟨DLe.of_eq (cT hw13).symm,DLe.of_eq (cT hw13).symm,trivial⟩ (VOk.g (VOk.eqS' (op:=.eql) (d:=(.v (.bool (((rd a0 x9_1).Name).Space == (T_api_Name.mk ([]:Str) ([120,109,108,110,115]:Str)).Space && (((rd a0 x9_1).Name).Local == (T_api_Name.mk ([]:Str) ([120,109,108,110,115]:Str)).Local && true))))) rfl (.inl rfl) (eqt23 9998) ag23 eg23 rfl rfl rfl rfl)))) ?_
    refine .cv (VOk.to (VOk.pickI (b:=((!t7) || (!t10))) (p:=true) (q:=(((rd a0 x9_1).Name).Space == (T_api_Name.mk ([]:Str) ([120,109,108,110,115]:Str)).Space && (((rd a0 x9_1).Name).Local == (T_api_Name.mk ([]:Str) ([120,109,108,110,115]:Str)).Local && true))) rfl rfl (fun hp14 => rfl) (fun hp14 => (cT (f_beq hp14)))) (pickOr ((!t7) || (!t10)) (((rd a0 x9_1).Name).Space == (T_api_Name.mk ([]:Str) ([120,109,108,110,115]:Str)).Space && (((rd a0 x9_1).Name).Local == (T_api_Name.mk ([]:Str) ([120,109,108,110,115]:Str)).Local && true)))) rfl rfl ?_
    refine .rn 1 ?_
    refine OpsOk.consI rfl rfl rfl (.one rfl) rfl (fun hw15 => (VOk.g (VOk.mv (d:=(.mref 6)) rfl rfl))) ?_
    refine OpsOk.consI rfl rfl rfl (.one rfl) rfl (fun hw15 => (VOk.g (VOk.to (VOk.fieldB rfl Try.underlying68 rfl sz23 rfl rfl) rfl))) ?_
    refine OpsOk.consI rfl rfl rfl (.one rfl) rfl (fun hw15 => (GOk.fr (fr':=[(31,(.bref 5 0))]) ⟨DLe.of_eq (cT hw15).symm,trivial⟩ (VOk.g (VOk.to (d':=(.agg (e_api_Name ((rd a0 x9_1).Name)))) (.loadBAgg rfl Try.underlying23 rfl sz23 rfl rfl rfl) rfl)))) ?_
    refine OpsOk.consI rfl rfl rfl (.one rfl) rfl (fun hw15 => (GOk.fr (fr':=[(30,(.mref 6)),(32,(.agg (e_api_Name ((rd a0 x9_1).Name))))]) ⟨DLe.of_eq (cT hw15).symm,DLe.of_eq (cT hw15).symm,trivial⟩ (VOk.g (VOk.mapGet (vv:=Value.bool) (m:=y6_2) (k:=(rd a0 x9_1).Name) false rfl Try.underlying102 kt23 zo4 rfl rfl rfl)))) ?_
    refine .cv (VOk.to (VOk.pickI (b:=(((!t7) || (!t10)) || (((rd a0 x9_1).Name).Space == (T_api_Name.mk ([]:Str) ([120,109,108,110,115]:Str)).Space && (((rd a0 x9_1).Name).Local == (T_api_Name.mk ([]:Str) ([120,109,108,110,115]:Str)).Local && true)))) (p:=true) (q:=(lkm keq23 false y6_2 ((rd a0 x9_1).Name))) rfl rfl (fun hp16 => rfl) (fun hp16 => (cT (f_beq hp16)))) (pickOr (((!t7) || (!t10)) || (((rd a0 x9_1).Name).Space == (T_api_Name.mk ([]:Str) ([120,109,108,110,115]:Str)).Space && (((rd a0 x9_1).Name).Local == (T_api_Name.mk ([]:Str) ([120,109,108,110,115]:Str)).Local && true))) (lkm keq23 false y6_2 ((rd a0 x9_1).Name)))) rfl rfl ?_
    exact .dn
   refine Ok.test (b:=((((!t7) || (!t10)) || (((rd a0 x9_1).Name).Space == (T_api_Name.mk ([]:Str) ([120,109,108,110,115]:Str)).Space && (((rd a0 x9_1).Name).Local == (T_api_Name.mk ([]:Str) ([120,109,108,110,115]:Str)).Local && true))) || (lkm keq23 false y6_2 ((rd a0 x9_1).Name)))) rfl (fun hb17 => ?_) (fun hb17 => ?_)
   ·replace H:=ifT H hb17
    refine Ok.seq ?_
    refine .rg [(2,(.v (.bool false)))] [] ?_
    refine Ok.ret ?_
    obtain rfl:=Option.some.inj H
    exact⟨.inl rfl,⟨_,(.cons (.tmp rfl) .nil),rfl⟩,trivial⟩
   ·replace H:=ifF H hb17
    refine Ok.skip ?_
    refine Ok.region (σ':=⟨[(0,(L 3 e_api_Attr a0)),(3,(.mref 6)),(7,(L 3 e_api_Attr a0)),(8,(.v (.int .i64 (a0.length:Int)))),(9,(.v (.int .i64 x9_1)))],[(6,(.map (List.map (fun p => ((fun a => D.agg (e_api_Name a)) p.1,D.v (Value.bool p.2))) (upm keq23 y6_2 ((rd a0 x9_1).Name) true))))]⟩) ?_ ?_
    ·refine .rn 3 ?_
     refine OpsOk.cons rfl (OpOk.mapSet (vv:=Value.bool) (m:=y6_2) (k:=(rd a0 x9_1).Name) (v:=true) rfl Try.underlying102 kt23 (.same _) rfl (.same _) (.same _) rfl) ?_
     exact .dn
    refine .rg [(0,(L 3 e_api_Attr a0)),(3,(.mref 6)),(7,(L 3 e_api_Attr a0)),(8,(.v (.int .i64 (a0.length:Int)))),(9,(.v (.int .i64 (IntKind.i64.wrap (x9_1 + 1)))))] [(6,(.map (List.map (fun p => ((fun a => D.agg (e_api_Name a)) p.1,D.v (Value.bool p.2))) (upm keq23 y6_2 ((rd a0 x9_1).Name) true))))] ?_
    exact⟨m5,Nat.lt_succ_self m5,(upm keq23 y6_2 ((rd a0 x9_1).Name) true),(IntKind.i64.wrap (x9_1 + 1)),rfl,H⟩
  ·replace H:=ifF H hb18
   refine Ok.exit ?_
   refine Ok.seq ?_
   refine Ok.region (σ':=⟨[(2,(.v (.bool (decide ((a0.length:Int) ≤ 32)))))],[]⟩) ?_ ?_
   ·refine .rn 1 ?_
    refine .cv (VOk.lenL (e:=e_api_Attr) (xs:=a0) rfl Try.underlying24 rfl) rfl rfl ?_
    refine .rn 2 ?_
    exact .dn
   refine Ok.ret ?_
   obtain rfl:=Option.some.inj H
   exact⟨.inl rfl,⟨_,(.cons (.tmp rfl) .nil),rfl⟩,trivial⟩
def tree_right.l0 (k:Nat) (self:T_api_Node→Int→Bool→Int→Option (Bool × Int)) (a0:T_api_Node) (a1:Int):Nat→Int→Int→Bool→Option (Bool × Int)
 | 0,_,_,_ => none
 | m29 + 1,y3_0_25,x82_24,x9_23 => (if (decide (x82_24 < (a0.Kids.length:Int)))=true then (if (0:Int) ≤ x82_24 ∧ x82_24 < (a0.Kids.length:Int) then ((self (rd a0.Kids x82_24) (IntKind.i64.wrap (a1 + 1)) x9_23 y3_0_25).bind fun (t31:Bool × Int) => (if (!t31.1)=true then some (false,t31.2) else tree_right.l0 k self a0 a1 m29 t31.2 (IntKind.i64.wrap (x82_24 + 1)) (((rd a0.Kids x82_24).Kind) == 2))) else none) else some (true,y3_0_25))
def tree_right:Nat→T_api_Node→Int→Bool→Int→Option (Bool × Int)
 | 0,_,_,_,_ => none
 | k + 1,a0,a1,a2,a3 => (if (decide ((IntKind.i64.wrap (a3 - 1)) < 0))=true then some (false,(IntKind.i64.wrap (a3 - 1))) else (if (a0.Kind == 2)=true then (((if (((!a2) && (!(a0.Text == ([]:Str)))) == true)=true then tree_signs k a0.Text else some default)).bind fun (t4:Bool) => some ((((((!a2) && (!(a0.Text == ([]:Str)))) && t4) && (a0.Name.Space == (T_api_Name.mk ([]:Str) ([]:Str)).Space && (a0.Name.Local == (T_api_Name.mk ([]:Str) ([]:Str)).Local && true))) && ((IntKind.i64.wrap ((a0.Attrs.length:Int) + (a0.Kids.length:Int))) == 0)),(IntKind.i64.wrap (a3 - 1)))) else (((if ((((a0.Kind != 1) || (decide (a1 > 24))) || (!(a0.Text == ([]:Str)))) == false)=true then tree_named k a0.Name else some default)).bind fun (t16:Bool) => (((if (((((a0.Kind != 1) || (decide (a1 > 24))) || (!(a0.Text == ([]:Str)))) || (!t16)) == false)=true then tree_attrs k a0.Attrs else some default)).bind fun (t20:Bool) => (if (((((a0.Kind != 1) || (decide (a1 > 24))) || (!(a0.Text == ([]:Str)))) || (!t16)) || (!t20))=true then some (false,(IntKind.i64.wrap (a3 - 1))) else tree_right.l0 k (tree_right k) a0 a1 k (IntKind.i64.wrap (a3 - 1)) 0 false)))))
theorem tree_right.ok {k:Nat} {a0:T_api_Node} {a1:Int} {a2:Bool} {a3:Int} {r:Bool × Int} (H:tree_right k a0 a1 a2 a3=some r) (b:Nat):Vx.Fn Try.prog 31 [(.agg (e_api_Node a0)),(.v (.int .i64 a1)),(.v (.bool a2)),(.bref 3 0)] [(3,(.box (.at b) [(.v (.int .i64 a3))]))] (.v (.bool r.1)) [(3,(.box (.at b) [(.v (.int .i64 r.2))]))]:=by
 induction k generalizing a0 a1 a2 a3 r b with
 | zero => exact absurd H (by simp [tree_right])
 | succ k ih =>
  unfold tree_right at H
  refine Vx.Fn.of_okR Try.func31 rfl (Nat.le_of_ble_eq_true rfl) ?_
  refine Ok.seq ?_
  refine Ok.region (σ':=⟨[(1,(.v (.int .i64 a1))),(2,(.v (.bool a2))),(3,(.bref 3 0)),(4,(.bref 4 0))],[(3,(.box (.at b) [(.v (.int .i64 a3))])),(4,(bxN a0))]⟩) ?_ ?_
  ·refine OpsOk.cut1 0 (.agg (c_api_Node a0)) (DLe.of_eq (congrArg D.agg (e_api_Node_c _).symm)) ?_
   refine .rn 2 ?_
   exact .dn
  refine Ok.seq ?_
  refine .rg [(1,(.v (.int .i64 a1))),(2,(.v (.bool a2))),(3,(.bref 3 0)),(4,(.bref 4 0))] [(3,(.box (.at b) [(.v (.int .i64 (IntKind.i64.wrap (a3 - 1))))])),(4,(bxN a0))] ?_
  refine Ok.seq ?_
  refine Ok.block ?_
  refine Ok.seq ?_
  refine .rg [(1,(.v (.int .i64 a1))),(2,(.v (.bool a2))),(3,(.bref 3 0)),(4,(.bref 4 0)),(17,(.v (.bool (decide ((IntKind.i64.wrap (a3 - 1)) < 0)))))] [(3,(.box (.at b) [(.v (.int .i64 (IntKind.i64.wrap (a3 - 1))))])),(4,(bxN a0))] ?_
  refine Ok.test (b:=(decide ((IntKind.i64.wrap (a3 - 1)) < 0))) rfl (fun hb37 => ?_) (fun hb37 => ?_)
  ·replace H:=ifT H hb37
   refine Ok.seq ?_
   refine .rg [(8,(.v (.bool false)))] [(3,(.box (.at b) [(.v (.int .i64 (IntKind.i64.wrap (a3 - 1))))]))] ?_
   refine Ok.ret ?_
   obtain rfl:=Option.some.inj H
   exact⟨.inl rfl,⟨_,(.cons (.tmp rfl) .nil),rfl⟩,⟨.same _,trivial⟩⟩
  ·replace H:=ifF H hb37
   refine Ok.seq ?_
   refine .rg [(1,(.v (.int .i64 a1))),(2,(.v (.bool a2))),(3,(.bref 3 0)),(4,(.bref 4 0)),(22,(.v (.bool (a0.Kind == 2))))] [(3,(.box (.at b) [(.v (.int .i64 (IntKind.i64.wrap (a3 - 1))))])),(4,(bxN a0))] ?_
   refine Ok.test (b:=(a0.Kind == 2)) rfl (fun hb36 => ?_) (fun hb36 => ?_)
   ·replace H:=ifT H hb36
    refine Ok.seq ?_
    obtain⟨t4,h5,H⟩:=bindE H
    refine Ok.region (σ':=⟨[(8,(.v (.bool (((((!a2) && (!(a0.Text == ([]:Str)))) && t4) && (a0.Name.Space == (T_api_Name.mk ([]:Str) ([]:Str)).Space && (a0.Name.Local == (T_api_Name.mk ([]:Str) ([]:Str)).Local && true))) && ((IntKind.i64.wrap ((a0.Attrs.length:Int) + (a0.Kids.length:Int))) == 0)))))],[(3,(.box (.at b) [(.v (.int .i64 (IntKind.i64.wrap (a3 - 1))))]))]⟩) ?_ ?_
    ·refine .rn 3 ?_
     refine OpsOk.consI rfl rfl rfl (.one rfl) rfl (fun hw1 => (VOk.g (VOk.to (VOk.fieldB rfl Try.underlying27 rfl sz9 rfl rfl) rfl))) ?_
     refine OpsOk.consI rfl rfl rfl (.one rfl) rfl (fun hw1 => (GOk.fr (fr':=[(29,(.bref 4 5))]) ⟨DLe.of_eq (cT hw1).symm,trivial⟩ (VOk.g (VOk.loadB (d:=(S a0.Text)) rfl Try.underlying9 rfl rfl rfl rfl)))) ?_
     refine OpsOk.consI rfl rfl rfl (.one rfl) rfl (fun hw1 => (GOk.fr (fr':=[(30,(S a0.Text))]) ⟨DLe.of_eq (cT hw1).symm,trivial⟩ (VOk.g (VOk.strOp (op:=.neq) (a:=a0.Text) (b:=([]:Str)) rfl rfl rfl rfl)))) ?_
     refine .cv (VOk.to (VOk.pickI (b:=(!a2)) (p:=(!(a0.Text == ([]:Str)))) (q:=false) rfl rfl (fun hp2 => (cT (t_beq hp2))) (fun hp2 => rfl)) (pickAnd (!a2) (!(a0.Text == ([]:Str))))) rfl rfl ?_
     refine .rn 1 ?_
     refine OpsOk.consI rfl rfl rfl (.one rfl) rfl (fun hw3 => (VOk.g (VOk.to (VOk.fieldB rfl Try.underlying27 rfl sz9 rfl rfl) rfl))) ?_
     refine OpsOk.consI rfl rfl rfl (.one rfl) rfl (fun hw3 => (GOk.fr (fr':=[(34,(.bref 4 5))]) ⟨DLe.of_eq (cT hw3).symm,trivial⟩ (VOk.g (VOk.loadB (d:=(S a0.Text)) rfl Try.underlying9 rfl rfl rfl rfl)))) ?_
     refine OpsOk.consI rfl rfl rfl (.one rfl) rfl (fun hw3 => (GOk.fr (fr':=[(35,(S a0.Text))]) ⟨DLe.of_eq (cT hw3).symm,trivial⟩ (GOk.call rfl rfl cl48 rfl (tree_signs.ok (ifT h5 hw3)) rfl))) ?_
     refine .cv (VOk.to (VOk.pickI (b:=((!a2) && (!(a0.Text == ([]:Str))))) (p:=t4) (q:=false) rfl rfl (fun hp6 => (cT (t_beq hp6))) (fun hp6 => rfl)) (pickAnd ((!a2) && (!(a0.Text == ([]:Str)))) t4)) rfl rfl ?_
     refine .rn 1 ?_
     refine OpsOk.consI rfl rfl rfl (.one rfl) rfl (fun hw7 => (VOk.g (VOk.to (VOk.fieldB rfl Try.underlying27 rfl sz23 rfl rfl) rfl))) ?_
     refine OpsOk.consI rfl rfl rfl (.one rfl) rfl (fun hw7 => (GOk.fr (fr':=[(39,(.bref 4 1))]) ⟨DLe.of_eq (cT hw7).symm,trivial⟩ (VOk.g (VOk.to (d':=(.agg (e_api_Name a0.Name))) (.loadBAgg rfl Try.underlying23 rfl sz23 rfl rfl rfl) rfl)))) ?_
     refine OpsOk.consI rfl rfl rfl (.one rfl) rfl (fun hw7 => (VOk.g (VOk.to (d':=(.agg (e_api_Name (T_api_Name.mk ([]:Str) ([]:Str))))) (.build [none,none] [(0,1),(1,1)] rfl Try.underlying23 (fa23 Try.underlying23) zo23 rfl rfl) rfl))) ?_
     refine OpsOk.consI rfl rfl rfl (.one rfl) rfl (fun hw7 => (GOk.fr (fr':=[(40,(.agg (e_api_Name a0.Name))),(41,(.agg (e_api_Name (T_api_Name.mk ([]:Str) ([]:Str)))))]) ⟨DLe.of_eq (cT hw7).symm,DLe.of_eq (cT hw7).symm,trivial⟩ (VOk.g (VOk.eqS' (op:=.eql) (d:=(.v (.bool (a0.Name.Space == (T_api_Name.mk ([]:Str) ([]:Str)).Space && (a0.Name.Local == (T_api_Name.mk ([]:Str) ([]:Str)).Local && true))))) rfl (.inl rfl) (eqt23 9998) ag23 eg23 rfl rfl rfl rfl)))) ?_
     refine .cv (VOk.to (VOk.pickI (b:=(((!a2) && (!(a0.Text == ([]:Str)))) && t4)) (p:=(a0.Name.Space == (T_api_Name.mk ([]:Str) ([]:Str)).Space && (a0.Name.Local == (T_api_Name.mk ([]:Str) ([]:Str)).Local && true))) (q:=false) rfl rfl (fun hp8 => (cT (t_beq hp8))) (fun hp8 => rfl)) (pickAnd (((!a2) && (!(a0.Text == ([]:Str)))) && t4) (a0.Name.Space == (T_api_Name.mk ([]:Str) ([]:Str)).Space && (a0.Name.Local == (T_api_Name.mk ([]:Str) ([]:Str)).Local && true)))) rfl rfl ?_
     refine .rn 1 ?_
     refine OpsOk.consI rfl rfl rfl (.one rfl) rfl (fun hw9 => (VOk.g (VOk.to (VOk.fieldB rfl Try.underlying27 rfl sz24 rfl rfl) rfl))) ?_
     refine OpsOk.consI rfl rfl rfl (.one rfl) rfl (fun hw9 => (GOk.fr (fr':=[(45,(.bref 4 3))]) ⟨DLe.of_eq (cT hw9).symm,trivial⟩ (VOk.g (VOk.loadB (d:=(L 3 e_api_Attr a0.Attrs)) rfl Try.underlying24 rfl rfl rfl rfl)))) ?_
     refine OpsOk.consI rfl rfl rfl (.one rfl) rfl (fun hw9 => (GOk.fr (fr':=[(46,(L 3 e_api_Attr a0.Attrs))]) ⟨DLe.of_eq (cT hw9).symm,trivial⟩ (VOk.g (VOk.lenL (e:=e_api_Attr) (xs:=a0.Attrs) rfl Try.underlying24 rfl)))) ?_
     refine OpsOk.consI rfl rfl rfl (.one rfl) rfl (fun hw9 => (VOk.g (VOk.to (VOk.fieldB rfl Try.underlying27 rfl sz25 rfl rfl) rfl))) ?_
     refine OpsOk.consI rfl rfl rfl (.one rfl) rfl (fun hw9 => (GOk.fr (fr':=[(48,(.bref 4 4))]) ⟨DLe.of_eq (cT hw9).symm,trivial⟩ (VOk.g (VOk.loadB (d:=(L 6 e_api_Node a0.Kids)) rfl Try.underlying25 rfl rfl rfl rfl)))) ?_
     refine OpsOk.consI rfl rfl rfl (.one rfl) rfl (fun hw9 => (GOk.fr (fr':=[(49,(L 6 e_api_Node a0.Kids))]) ⟨DLe.of_eq (cT hw9).symm,trivial⟩ (VOk.g (VOk.lenL (e:=e_api_Node) (xs:=a0.Kids) rfl Try.underlying25 rfl)))) ?_
     refine OpsOk.consI rfl rfl rfl (.one rfl) rfl (fun hw9 => (GOk.fr (fr':=[(47,(.v (.int .i64 (a0.Attrs.length:Int)))),(50,(.v (.int .i64 (a0.Kids.length:Int))))]) ⟨DLe.of_eq (cT hw9).symm,DLe.of_eq (cT hw9).symm,trivial⟩ (VOk.g (VOk.arith (op:=.add) (k:=.i64) (a:=(a0.Attrs.length:Int)) (b:=(a0.Kids.length:Int)) rfl rfl rfl rfl)))) ?_
     refine OpsOk.consI rfl rfl rfl (.one rfl) rfl (fun hw9 => (GOk.fr (fr':=[(51,(.v (.int .i64 (IntKind.i64.wrap ((a0.Attrs.length:Int) + (a0.Kids.length:Int))))))]) ⟨DLe.of_eq (cT hw9).symm,trivial⟩ (VOk.g (VOk.arith (op:=.eql) (k:=.i64) (a:=(IntKind.i64.wrap ((a0.Attrs.length:Int) + (a0.Kids.length:Int)))) (b:=0) rfl rfl rfl rfl)))) ?_
     refine .cv (VOk.to (VOk.pickI (b:=((((!a2) && (!(a0.Text == ([]:Str)))) && t4) && (a0.Name.Space == (T_api_Name.mk ([]:Str) ([]:Str)).Space && (a0.Name.Local == (T_api_Name.mk ([]:Str) ([]:Str)).Local && true)))) (p:=((IntKind.i64.wrap ((a0.Attrs.length:Int) + (a0.Kids.length:Int))) == 0)) (q:=false) rfl rfl (fun hp10 => (cT (t_beq hp10))) (fun hp10 => rfl)) (pickAnd ((((!a2) && (!(a0.Text == ([]:Str)))) && t4) && (a0.Name.Space == (T_api_Name.mk ([]:Str) ([]:Str)).Space && (a0.Name.Local == (T_api_Name.mk ([]:Str) ([]:Str)).Local && true))) ((IntKind.i64.wrap ((a0.Attrs.length:Int) + (a0.Kids.length:Int))) == 0))) rfl rfl ?_
     refine .rn 1 ?_
     exact .dn
    refine Ok.ret ?_
    obtain rfl:=Option.some.inj H
    exact⟨.inl rfl,⟨_,(.cons (.tmp rfl) .nil),rfl⟩,⟨.same _,trivial⟩⟩
   ·replace H:=ifF H hb36
    refine Ok.seq ?_
    obtain⟨t16,h17,H⟩:=bindE H
    obtain⟨t20,h21,H⟩:=bindE H
    refine Ok.region (σ':=⟨[(1,(.v (.int .i64 a1))),(3,(.bref 3 0)),(4,(.bref 4 0)),(54,(.v (.bool (((((a0.Kind != 1) || (decide (a1 > 24))) || (!(a0.Text == ([]:Str)))) || (!t16)) || (!t20)))))],[(3,(.box (.at b) [(.v (.int .i64 (IntKind.i64.wrap (a3 - 1))))])),(4,(bxN a0))]⟩) ?_ ?_
    ·refine .rn 4 ?_
     refine OpsOk.consI rfl rfl rfl (.one rfl) rfl (fun hw11 => (VOk.g (VOk.mv (d:=(.v (.int .i64 a1))) rfl rfl))) ?_
     refine OpsOk.consI rfl rfl rfl (.one rfl) rfl (fun hw11 => (GOk.fr (fr':=[(59,(.v (.int .i64 a1)))]) ⟨DLe.of_eq (cT hw11).symm,trivial⟩ (VOk.g (VOk.arith (op:=.gtr) (k:=.i64) (a:=a1) (b:=24) rfl rfl rfl rfl)))) ?_
     refine .cv (VOk.to (VOk.pickI (b:=(a0.Kind != 1)) (p:=true) (q:=(decide (a1 > 24))) rfl rfl (fun hp12 => rfl) (fun hp12 => (cT (f_beq hp12)))) (pickOr (a0.Kind != 1) (decide (a1 > 24)))) rfl rfl ?_
     refine .rn 1 ?_
     refine OpsOk.consI rfl rfl rfl (.one rfl) rfl (fun hw13 => (VOk.g (VOk.to (VOk.fieldB rfl Try.underlying27 rfl sz9 rfl rfl) rfl))) ?_
     refine OpsOk.consI rfl rfl rfl (.one rfl) rfl (fun hw13 => (GOk.fr (fr':=[(63,(.bref 4 5))]) ⟨DLe.of_eq (cT hw13).symm,trivial⟩ (VOk.g (VOk.loadB (d:=(S a0.Text)) rfl Try.underlying9 rfl rfl rfl rfl)))) ?_
     refine OpsOk.consI rfl rfl rfl (.one rfl) rfl (fun hw13 => (GOk.fr (fr':=[(64,(S a0.Text))]) ⟨DLe.of_eq (cT hw13).symm,trivial⟩ (VOk.g (VOk.strOp (op:=.neq) (a:=a0.Text) (b:=([]:Str)) rfl rfl rfl rfl)))) ?_
     refine .cv (VOk.to (VOk.pickI (b:=((a0.Kind != 1) || (decide (a1 > 24)))) (p:=true) (q:=(!(a0.Text == ([]:Str)))) rfl rfl (fun hp14 => rfl) (fun hp14 => (cT (f_beq hp14)))) (pickOr ((a0.Kind != 1) || (decide (a1 > 24))) (!(a0.Text == ([]:Str))))) rfl rfl ?_
     refine .rn 1 ?_
     refine OpsOk.consI rfl rfl rfl (.one rfl) rfl (fun hw15 => (VOk.g (VOk.to (VOk.fieldB rfl Try.underlying27 rfl sz23 rfl rfl) rfl))) ?_
     refine OpsOk.consI rfl rfl rfl (.one rfl) rfl (fun hw15 => (GOk.fr (fr':=[(68,(.bref 4 1))]) ⟨DLe.of_eq (cT hw15).symm,trivial⟩ (VOk.g (VOk.to (d':=(.agg (e_api_Name a0.Name))) (.loadBAgg rfl Try.underlying23 rfl sz23 rfl rfl rfl) rfl)))) ?_
     refine OpsOk.consI rfl rfl rfl (.one rfl) rfl (fun hw15 => (GOk.fr (fr':=[(69,(.agg (e_api_Name a0.Name)))]) ⟨DLe.of_eq (cT hw15).symm,trivial⟩ (GOk.call rfl rfl cl49 rfl (tree_named.ok (ifT h17 hw15)) rfl))) ?_
     refine OpsOk.consI rfl rfl rfl (.one rfl) rfl (fun hw15 => (GOk.fr (fr':=[(70,(.v (.bool t16)))]) ⟨DLe.of_eq (cT hw15).symm,trivial⟩ (VOk.g (VOk.not (b:=t16) rfl rfl)))) ?_
     refine .cv (VOk.to (VOk.pickI (b:=(((a0.Kind != 1) || (decide (a1 > 24))) || (!(a0.Text == ([]:Str))))) (p:=true) (q:=(!t16)) rfl rfl (fun hp18 => rfl) (fun hp18 => (cT (f_beq hp18)))) (pickOr (((a0.Kind != 1) || (decide (a1 > 24))) || (!(a0.Text == ([]:Str)))) (!t16))) rfl rfl ?_
     refine .rn 1 ?_
     refine OpsOk.consI rfl rfl rfl (.one rfl) rfl (fun hw19 => (VOk.g (VOk.to (VOk.fieldB rfl Try.underlying27 rfl sz24 rfl rfl) rfl))) ?_
     refine OpsOk.consI rfl rfl rfl (.one rfl) rfl (fun hw19 => (GOk.fr (fr':=[(74,(.bref 4 3))]) ⟨DLe.of_eq (cT hw19).symm,trivial⟩ (VOk.g (VOk.loadB (d:=(L 3 e_api_Attr a0.Attrs)) rfl Try.underlying24 rfl rfl rfl rfl)))) ?_
     refine OpsOk.consI rfl rfl rfl (.one rfl) rfl (fun hw19 => (GOk.fr (fr':=[(75,(L 3 e_api_Attr a0.Attrs))]) ⟨DLe.of_eq (cT hw19).symm,trivial⟩ (GOk.call rfl rfl cl50 rfl (tree_attrs.ok (ifT h21 hw19)) rfl))) ?_
     refine OpsOk.consI rfl rfl rfl (.one rfl) rfl (fun hw19 => (GOk.fr (fr':=[(76,(.v (.bool t20)))]) ⟨DLe.of_eq (cT hw19).symm,trivial⟩ (VOk.g (VOk.not (b:=t20) rfl rfl)))) ?_
     refine .cv (VOk.to (VOk.pickI (b:=((((a0.Kind != 1) || (decide (a1 > 24))) || (!(a0.Text == ([]:Str)))) || (!t16))) (p:=true) (q:=(!t20)) rfl rfl (fun hp22 => rfl) (fun hp22 => (cT (f_beq hp22)))) (pickOr ((((a0.Kind != 1) || (decide (a1 > 24))) || (!(a0.Text == ([]:Str)))) || (!t16)) (!t20))) rfl rfl ?_
     refine .rn 1 ?_
     exact .dn
    refine Ok.test (b:=(((((a0.Kind != 1) || (decide (a1 > 24))) || (!(a0.Text == ([]:Str)))) || (!t16)) || (!t20))) rfl (fun hb35 => ?_) (fun hb35 => ?_)
    ·replace H:=ifT H hb35
     refine Ok.seq ?_
     refine .rg [(8,(.v (.bool false)))] [(3,(.box (.at b) [(.v (.int .i64 (IntKind.i64.wrap (a3 - 1))))]))] ?_
     refine Ok.ret ?_
     obtain rfl:=Option.some.inj H
     exact⟨.inl rfl,⟨_,(.cons (.tmp rfl) .nil),rfl⟩,⟨.same _,trivial⟩⟩
    ·replace H:=ifF H hb35
     refine Ok.skip ?_
     refine Ok.seq ?_
     refine .rg [(1,(.v (.int .i64 a1))),(3,(.bref 3 0)),(4,(.bref 4 0)),(9,(.v (.bool false)))] [(3,(.box (.at b) [(.v (.int .i64 (IntKind.i64.wrap (a3 - 1))))])),(4,(bxN a0))] ?_
     refine Ok.seq ?_
     refine Ok.seq ?_
     refine Ok.region (σ':=⟨[(1,(.v (.int .i64 a1))),(3,(.bref 3 0)),(9,(.v (.bool false))),(80,(L 6 e_api_Node a0.Kids)),(81,(.v (.int .i64 (a0.Kids.length:Int)))),(82,(.v (.int .i64 0)))],[(3,(.box (.at b) [(.v (.int .i64 (IntKind.i64.wrap (a3 - 1))))]))]⟩) ?_ ?_
     ·refine .rn 2 ?_
      refine .cv (VOk.lenL (e:=e_api_Node) (xs:=a0.Kids) rfl Try.underlying25 rfl) rfl rfl ?_
      refine .rn 1 ?_
      exact .dn
     refine Ok.block ?_
     refine Ok.loop (fun m29 σ => ∃ (y3_0_25:Int) (x82_24:Int) (x9_23:Bool),σ=⟨[(1,(.v (.int .i64 a1))),(3,(.bref 3 0)),(9,(.v (.bool x9_23))),(80,(L 6 e_api_Node a0.Kids)),(81,(.v (.int .i64 (a0.Kids.length:Int)))),(82,(.v (.int .i64 x82_24)))],[(3,(.box (.at b) [(.v (.int .i64 y3_0_25))]))]⟩ ∧ tree_right.l0 k (tree_right k) a0 a1 m29 y3_0_25 x82_24 x9_23=some r) k ⟨(IntKind.i64.wrap (a3 - 1)),0,false,rfl,H⟩ ?_
     rintro m29 σ ⟨y3_0_25,x82_24,x9_23,rfl,H⟩
     cases m29 with
     | zero => exact absurd H (by simp [tree_right.l0])
     | succ m29 =>
      unfold tree_right.l0 at H
      refine Ok.seq ?_
      refine .rg [(1,(.v (.int .i64 a1))),(3,(.bref 3 0)),(9,(.v (.bool x9_23))),(80,(L 6 e_api_Node a0.Kids)),(81,(.v (.int .i64 (a0.Kids.length:Int)))),(82,(.v (.int .i64 x82_24))),(83,(.v (.bool (decide (x82_24 < (a0.Kids.length:Int))))))] [(3,(.box (.at b) [(.v (.int .i64 y3_0_25))]))] ?_
      refine Ok.seq ?_
      refine Ok.test (b:=(decide (x82_24 < (a0.Kids.length:Int)))) rfl (fun hb34 => ?_) (fun hb34 => ?_)
      ·replace H:=ifT H hb34
       refine Ok.skip ?_
       refine Ok.seq ?_
       refine Ok.block ?_
       refine Ok.seq ?_
       obtain⟨c30,H⟩:=assertE H
       refine Ok.region (σ':=⟨[(1,(.v (.int .i64 a1))),(3,(.bref 3 0)),(9,(.v (.bool x9_23))),(11,(.bref 11 0)),(80,(L 6 e_api_Node a0.Kids)),(81,(.v (.int .i64 (a0.Kids.length:Int)))),(82,(.v (.int .i64 x82_24)))],[(3,(.box (.at b) [(.v (.int .i64 y3_0_25))])),(11,(.box .ex (c_api_Node (rd a0.Kids x82_24))))]⟩) ?_ ?_
       ·refine .cv (VOk.indexL (sz:=6) (e:=e_api_Node) (xs:=a0.Kids) (i:=x82_24) rfl Try.underlying25 sz27 rfl rfl c30) rfl rfl ?_
        refine .rn 2 ?_
        refine OpsOk.cut1 85 (.agg [(.v (.int .i64 ((rd a0.Kids x82_24).Kind))),(S ((rd a0.Kids x82_24).Name.Space)),(S ((rd a0.Kids x82_24).Name.Local)),(L 3 e_api_Attr ((rd a0.Kids x82_24).Attrs)),(L 6 e_api_Node ((rd a0.Kids x82_24).Kids)),(S ((rd a0.Kids x82_24).Text))]) (DLe.of_eq (congrArg D.agg (e_api_Node_c _).symm)) ?_
        refine .rn 1 ?_
        exact .dn
       refine Ok.seq ?_
       refine Ok.seq ?_
       obtain⟨t31,h32,H⟩:=bindE H
       refine Ok.region (σ':=⟨[(1,(.v (.int .i64 a1))),(3,(.bref 3 0)),(11,(.bref 11 0)),(80,(L 6 e_api_Node a0.Kids)),(81,(.v (.int .i64 (a0.Kids.length:Int)))),(82,(.v (.int .i64 x82_24))),(92,(.v (.bool (!t31.1))))],[(3,(.box (.at b) [(.v (.int .i64 t31.2))])),(11,(.box .ex (c_api_Node (rd a0.Kids x82_24))))]⟩) ?_ ?_
       ·refine .cv (VOk.to (d':=(.agg (e_api_Node (rd a0.Kids x82_24)))) (.loadBAgg rfl Try.underlying27 rfl sz27 rfl rfl rfl) (congrArg D.agg (e_api_Node_c (rd a0.Kids x82_24)).symm)) rfl rfl ?_
        refine .rn 4 ?_
        refine OpsOk.cons rfl (OpOk.callB (e:=(.at b)) (ds0:=[(.agg (e_api_Node (rd a0.Kids x82_24))),(.v (.int .i64 (IntKind.i64.wrap (a1 + 1)))),(.v (.bool x9_23)),(.bref 3 0)]) 3 rfl (.same _) cl31 (fun b => ((@ih _ _ _ _ _ h32) b)) rfl ⟨.same _,.same _,.same _,.same _,trivial⟩ rfl rfl rfl rfl rfl) ?_
        refine .rn 1 ?_
        exact .dn
       refine Ok.test (b:=(!t31.1)) rfl (fun hb33 => ?_) (fun hb33 => ?_)
       ·replace H:=ifT H hb33
        refine Ok.seq ?_
        refine .rg [(8,(.v (.bool false)))] [(3,(.box (.at b) [(.v (.int .i64 t31.2))]))] ?_
        refine Ok.ret ?_
        obtain rfl:=Option.some.inj H
        exact⟨.inl rfl,⟨_,(.cons (.tmp rfl) .nil),rfl⟩,⟨.same _,trivial⟩⟩
       ·replace H:=ifF H hb33
        refine Ok.skip ?_
        refine .rg [(1,(.v (.int .i64 a1))),(3,(.bref 3 0)),(9,(.v (.bool (((rd a0.Kids x82_24).Kind) == 2)))),(80,(L 6 e_api_Node a0.Kids)),(81,(.v (.int .i64 (a0.Kids.length:Int)))),(82,(.v (.int .i64 x82_24)))] [(3,(.box (.at b) [(.v (.int .i64 t31.2))]))] ?_
        refine .rg [(1,(.v (.int .i64 a1))),(3,(.bref 3 0)),(9,(.v (.bool (((rd a0.Kids x82_24).Kind) == 2)))),(80,(L 6 e_api_Node a0.Kids)),(81,(.v (.int .i64 (a0.Kids.length:Int)))),(82,(.v (.int .i64 (IntKind.i64.wrap (x82_24 + 1)))))] [(3,(.box (.at b) [(.v (.int .i64 t31.2))]))] ?_
        exact⟨m29,Nat.lt_succ_self m29,t31.2,(IntKind.i64.wrap (x82_24 + 1)),(((rd a0.Kids x82_24).Kind) == 2),rfl,H⟩
      ·replace H:=ifF H hb34
       refine Ok.exit ?_
       refine Ok.seq ?_
       refine .rg [(8,(.v (.bool true)))] [(3,(.box (.at b) [(.v (.int .i64 y3_0_25))]))] ?_
       refine Ok.ret ?_
       obtain rfl:=Option.some.inj H
       exact⟨.inl rfl,⟨_,(.cons (.tmp rfl) .nil),rfl⟩,⟨.same _,trivial⟩⟩
def tree_Right (k:Nat) (a0:T_api_Node):Option Bool:=(if (a0.Kind == 1)=true then ((tree_right k a0 1 false 2000).bind fun (t4:Bool × Int) => some t4.1) else some false)
theorem tree_Right.ok {k:Nat} {a0:T_api_Node} {r:Bool} (H:tree_Right k a0=some r):Vx.Fn Try.prog 12 [(.agg (e_api_Node a0))] [] (.v (.bool r)) []:=by
 unfold tree_Right at H
 refine Vx.Fn.of_okR Try.func12 rfl (Nat.le_of_ble_eq_true rfl) ?_
 refine Ok.seq ?_
 refine Ok.region (σ':=⟨[(1,(.bref 1 0))],[(1,(bxN a0))]⟩) ?_ ?_
 ·refine OpsOk.cut1 0 (.agg (c_api_Node a0)) (DLe.of_eq (congrArg D.agg (e_api_Node_c _).symm)) ?_
  refine .rn 2 ?_
  exact .dn
 refine Ok.seq ?_
 refine .rg [(1,(.bref 1 0)),(3,(.bref 3 0))] [(1,(bxN a0)),(3,(.box .ex [(.v (.int .i64 2000))]))] ?_
 refine Ok.seq ?_
 refine Ok.regionC ?_
 refine OpsC.cons rfl (.v (VOk.to (VOk.fieldB rfl Try.underlying27 rfl sz3 rfl rfl) rfl) rfl) ?_
 refine OpsC.cons rfl (.v (VOk.loadB (d:=(.v (.int .i64 a0.Kind))) rfl Try.underlying3 rfl rfl rfl rfl) rfl) ?_
 refine OpsC.cons rfl (.v (VOk.arith (op:=.eql) (k:=.i64) (a:=a0.Kind) (b:=1) rfl rfl rfl rfl) rfl) ?_
 refine OpsC.cons rfl (.v (VOk.mv (d:=(.v (.bool (a0.Kind == 1)))) rfl rfl) rfl) ?_
 refine OpsC.consI rfl rfl rfl (.one rfl) rfl (fun hw1 => (VOk.g (VOk.to (d':=(.agg (e_api_Node a0))) (.loadBAgg rfl Try.underlying27 rfl sz27 rfl rfl rfl) (congrArg D.agg (e_api_Node_c a0).symm)))) ?_
 refine OpsC.split ((a0.Kind == 1)) (fun hT2 => ?_) (fun hF3 => ?_)
 ·replace H:=ifT H hT2
  obtain⟨t4,h5,H⟩:=bindE H
  refine OpsC.cut (σ:=⟨[(3,(.bref 3 0)),(7,(.v (.bool (a0.Kind == 1)))),(8,(.agg (e_api_Node a0)))],[(3,(.box .ex [(.v (.int .i64 2000))]))]⟩) (.mk ⟨.same _,.same _,DLe.of_eq (cT (t_beq hT2)).symm,trivial⟩ ⟨.same _,trivial⟩) ?_
  refine OpsC.consG rfl rfl rfl rfl hT2 (OpOk.callB (e:=.ex) (ds0:=[(.agg (e_api_Node a0)),(.v (.int .i64 1)),(.v (.bool false)),(.bref 3 0)]) 3 rfl (.same _) cl31 (fun b => ((tree_right.ok h5) b)) rfl ⟨.same _,.same _,.same _,.same _,trivial⟩ rfl rfl rfl rfl rfl) ?_
  refine OpsC.cons rfl (.v (VOk.pickT (d:=(.v (.bool t4.1))) rfl rfl hT2 rfl) rfl) ?_
  refine OpsC.cons rfl (.v (VOk.asg (d:=(.v (.bool t4.1))) rfl rfl) rfl) ?_
  refine OpsC.done (σ':=⟨[(2,(.v (.bool t4.1)))],[]⟩) (.rf rfl rfl) ?_
  refine Ok.ret ?_
  obtain rfl:=Option.some.inj H
  exact⟨.inl rfl,⟨_,(.cons (.tmp rfl) .nil),rfl⟩,trivial⟩
 ·replace H:=ifF H hF3
  refine OpsC.cut (σ:=⟨[(3,(.bref 3 0)),(7,(.v (.bool (a0.Kind == 1))))],[(3,(.box .ex [(.v (.int .i64 2000))]))]⟩) (.mk ⟨.same _,.same _,trivial⟩ ⟨.same _,trivial⟩) ?_
  refine OpsC.consN rfl rfl rfl rfl hF3 rfl ?_
  refine OpsC.cons rfl (.v (VOk.pickF (d:=(.v (.bool false))) rfl rfl hF3 rfl) rfl) ?_
  refine OpsC.cons rfl (.v (VOk.asg (d:=(.v (.bool false))) rfl rfl) rfl) ?_
  refine OpsC.done (σ':=⟨[(2,(.v (.bool false)))],[]⟩) (.rf rfl rfl) ?_
  refine Ok.ret ?_
  obtain rfl:=Option.some.inj H
  exact⟨.inl rfl,⟨_,(.cons (.tmp rfl) .nil),rfl⟩,trivial⟩
def change_checked (k:Nat) (a0:T_api_Node) (a1:List T_api_Step) (a2:List Int):Option Int:=((change_selects k a0 a1 a2).bind fun (t1:Bool) => (if (!t1)=true then some 42 else ((tree_Right k a0).bind fun (t3:Bool) => (if (!t3)=true then some 45 else some 0))))
theorem change_checked.ok {k:Nat} {a0:T_api_Node} {a1:List T_api_Step} {a2:List Int} {r:Int} (H:change_checked k a0 a1 a2=some r):Vx.Fn Try.prog 23 [(.agg (e_api_Node a0)),(L 9 e_api_Step a1),(L 1 (eI .i64) a2)] [] (.v (.int .i64 r)) []:=by
 unfold change_checked at H
 refine Vx.Fn.of_okR Try.func23 rfl (Nat.le_of_ble_eq_true rfl) ?_
 refine Ok.seq ?_
 refine Ok.region (σ':=⟨[(1,(L 9 e_api_Step a1)),(2,(L 1 (eI .i64) a2)),(3,(.bref 3 0))],[(3,(bxN a0))]⟩) ?_ ?_
 ·refine OpsOk.cut1 0 (.agg (c_api_Node a0)) (DLe.of_eq (congrArg D.agg (e_api_Node_c _).symm)) ?_
  refine .rn 2 ?_
  exact .dn
 refine Ok.seq ?_
 refine Ok.block ?_
 refine Ok.seq ?_
 obtain⟨t1,h2,H⟩:=bindE H
 refine Ok.region (σ':=⟨[(3,(.bref 3 0)),(7,(.v (.bool (!t1))))],[(3,(bxN a0))]⟩) ?_ ?_
 ·refine .cv (VOk.to (d':=(.agg (e_api_Node a0))) (.loadBAgg rfl Try.underlying27 rfl sz27 rfl rfl rfl) (congrArg D.agg (e_api_Node_c a0).symm)) rfl rfl ?_
  refine .rn 2 ?_
  refine .cg (GOk.call rfl rfl cl42 rfl (change_selects.ok h2) rfl) rfl rfl ?_
  refine .rn 2 ?_
  exact .dn
 refine Ok.test (b:=(!t1)) rfl (fun hb6 => ?_) (fun hb6 => ?_)
 ·replace H:=ifT H hb6
  refine Ok.seq ?_
  refine .rg [(6,(.v (.int .i64 42)))] [] ?_
  refine Ok.ret ?_
  obtain rfl:=Option.some.inj H
  exact⟨.inl rfl,⟨_,(.cons (.tmp rfl) .nil),rfl⟩,trivial⟩
 ·replace H:=ifF H hb6
  refine Ok.seq ?_
  obtain⟨t3,h4,H⟩:=bindE H
  refine Ok.region (σ':=⟨[(13,(.v (.bool (!t3))))],[]⟩) ?_ ?_
  ·refine .cv (VOk.to (d':=(.agg (e_api_Node a0))) (.loadBAgg rfl Try.underlying27 rfl sz27 rfl rfl rfl) (congrArg D.agg (e_api_Node_c a0).symm)) rfl rfl ?_
   refine .cg (GOk.call rfl rfl cl12 rfl (tree_Right.ok h4) rfl) rfl rfl ?_
   refine .rn 2 ?_
   exact .dn
  refine Ok.test (b:=(!t3)) rfl (fun hb5 => ?_) (fun hb5 => ?_)
  ·replace H:=ifT H hb5
   refine Ok.seq ?_
   refine .rg [(6,(.v (.int .i64 45)))] [] ?_
   refine Ok.ret ?_
   obtain rfl:=Option.some.inj H
   exact⟨.inl rfl,⟨_,(.cons (.tmp rfl) .nil),rfl⟩,trivial⟩
  ·replace H:=ifF H hb5
   refine Ok.skip ?_
   refine Ok.seq ?_
   refine .rg [(6,(.v (.int .i64 0)))] [] ?_
   refine Ok.ret ?_
   obtain rfl:=Option.some.inj H
   exact⟨.inl rfl,⟨_,(.cons (.tmp rfl) .nil),rfl⟩,trivial⟩
def change_attr (k:Nat) (a0:List T_api_Step):Option Bool:=(if (((decide ((IntKind.i64.wrap ((a0.length:Int) - 1)) > 0)) == true)=true→(0:Int) ≤ (IntKind.i64.wrap ((a0.length:Int) - 1)) ∧ (IntKind.i64.wrap ((a0.length:Int) - 1)) < (a0.length:Int)) then (if ((((decide ((IntKind.i64.wrap ((a0.length:Int) - 1)) > 0)) && (((rd a0 (IntKind.i64.wrap ((a0.length:Int) - 1))).Kind) == 2)) == true)=true→(0:Int) ≤ 0 ∧ (0:Int) ≤ (IntKind.i64.wrap ((a0.length:Int) - 1)) ∧ (IntKind.i64.wrap ((a0.length:Int) - 1)) ≤ (a0.length:Int)) then (((if (((decide ((IntKind.i64.wrap ((a0.length:Int) - 1)) > 0)) && (((rd a0 (IntKind.i64.wrap ((a0.length:Int) - 1))).Kind) == 2)) == true)=true then change_names k (sl a0 0 (IntKind.i64.wrap ((a0.length:Int) - 1))) else some default)).bind fun (t6:Bool) => some (((decide ((IntKind.i64.wrap ((a0.length:Int) - 1)) > 0)) && (((rd a0 (IntKind.i64.wrap ((a0.length:Int) - 1))).Kind) == 2)) && t6)) else none) else none)
theorem change_attr.ok {k:Nat} {a0:List T_api_Step} {r:Bool} (H:change_attr k a0=some r):Vx.Fn Try.prog 32 [(L 9 e_api_Step a0)] [] (.v (.bool r)) []:=by
 unfold change_attr at H
 refine Vx.Fn.of_okR Try.func32 rfl (Nat.le_of_ble_eq_true rfl) ?_
 refine Ok.seq ?_
 refine .rg [(0,(L 9 e_api_Step a0))] [] ?_
 refine Ok.seq ?_
 refine Ok.region (σ':=⟨[(0,(L 9 e_api_Step a0)),(3,(.v (.int .i64 (IntKind.i64.wrap ((a0.length:Int) - 1)))))],[]⟩) ?_ ?_
 ·refine .rn 1 ?_
  refine .cv (VOk.lenL (e:=e_api_Step) (xs:=a0) rfl Try.underlying28 rfl) rfl rfl ?_
  refine .rn 2 ?_
  exact .dn
 refine Ok.seq ?_
 obtain⟨c2,H⟩:=assertE H
 obtain⟨c5,H⟩:=assertE H
 obtain⟨t6,h7,H⟩:=bindE H
 refine Ok.region (σ':=⟨[(2,(.v (.bool (((decide ((IntKind.i64.wrap ((a0.length:Int) - 1)) > 0)) && (((rd a0 (IntKind.i64.wrap ((a0.length:Int) - 1))).Kind) == 2)) && t6))))],[]⟩) ?_ ?_
 ·refine .rn 3 ?_
  refine OpsOk.consI rfl rfl rfl (.one rfl) rfl (fun hw1 => (VOk.g (VOk.mv (d:=(L 9 e_api_Step a0)) rfl rfl))) ?_
  refine OpsOk.consI rfl rfl rfl (.one rfl) rfl (fun hw1 => (VOk.g (VOk.mv (d:=(.v (.int .i64 (IntKind.i64.wrap ((a0.length:Int) - 1))))) rfl rfl))) ?_
  refine OpsOk.consI rfl rfl rfl (.one rfl) rfl (fun hw1 => (GOk.fr (fr':=[(10,(L 9 e_api_Step a0)),(11,(.v (.int .i64 (IntKind.i64.wrap ((a0.length:Int) - 1)))))]) ⟨DLe.of_eq (cT hw1).symm,DLe.of_eq (cT hw1).symm,trivial⟩ (VOk.g (VOk.indexL (sz:=9) (e:=e_api_Step) (xs:=a0) (i:=(IntKind.i64.wrap ((a0.length:Int) - 1))) rfl Try.underlying28 sz45 rfl rfl (c2 hw1))))) ?_
  refine OpsOk.consI rfl rfl rfl (.one rfl) rfl (fun hw1 => (GOk.fr (fr':=[(12,(.fp (e_api_Step (rd a0 (IntKind.i64.wrap ((a0.length:Int) - 1)))) 0))]) ⟨DLe.of_eq (cT hw1).symm,trivial⟩ (VOk.g (VOk.to (VOk.fieldFp rfl Try.underlying45 rfl sz3 rfl) rfl)))) ?_
  refine OpsOk.consI rfl rfl rfl (.one rfl) rfl (fun hw1 => (GOk.fr (fr':=[(13,(.fp (e_api_Step (rd a0 (IntKind.i64.wrap ((a0.length:Int) - 1)))) 0))]) ⟨DLe.of_eq (cT hw1).symm,trivial⟩ (VOk.g (VOk.loadFp (d:=(.v (.int .i64 ((rd a0 (IntKind.i64.wrap ((a0.length:Int) - 1))).Kind)))) rfl Try.underlying3 rfl rfl rfl)))) ?_
  refine OpsOk.consI rfl rfl rfl (.one rfl) rfl (fun hw1 => (GOk.fr (fr':=[(14,(.v (.int .i64 ((rd a0 (IntKind.i64.wrap ((a0.length:Int) - 1))).Kind))))]) ⟨DLe.of_eq (cT hw1).symm,trivial⟩ (VOk.g (VOk.arith (op:=.eql) (k:=.i64) (a:=(rd a0 (IntKind.i64.wrap ((a0.length:Int) - 1))).Kind) (b:=2) rfl rfl rfl rfl)))) ?_
  refine .cv (VOk.to (VOk.pickI (b:=(decide ((IntKind.i64.wrap ((a0.length:Int) - 1)) > 0))) (p:=(((rd a0 (IntKind.i64.wrap ((a0.length:Int) - 1))).Kind) == 2)) (q:=false) rfl rfl (fun hp3 => (cT (t_beq hp3))) (fun hp3 => rfl)) (pickAnd (decide ((IntKind.i64.wrap ((a0.length:Int) - 1)) > 0)) (((rd a0 (IntKind.i64.wrap ((a0.length:Int) - 1))).Kind) == 2))) rfl rfl ?_
  refine .rn 1 ?_
  refine OpsOk.consI rfl rfl rfl (.one rfl) rfl (fun hw4 => (VOk.g (VOk.mv (d:=(L 9 e_api_Step a0)) rfl rfl))) ?_
  refine OpsOk.consI rfl rfl rfl (.one rfl) rfl (fun hw4 => (VOk.g (VOk.mv (d:=(.v (.int .i64 (IntKind.i64.wrap ((a0.length:Int) - 1))))) rfl rfl))) ?_
  refine OpsOk.consI rfl rfl rfl (.one rfl) rfl (fun hw4 => (GOk.fr (fr':=[(18,(L 9 e_api_Step a0)),(19,(.v (.int .i64 (IntKind.i64.wrap ((a0.length:Int) - 1)))))]) ⟨DLe.of_eq (cT hw4).symm,DLe.of_eq (cT hw4).symm,trivial⟩ (VOk.g (VOk.sliceL (e:=e_api_Step) (xs:=a0) (l:=0) (h:=(IntKind.i64.wrap ((a0.length:Int) - 1))) rfl Try.underlying28 sz45 rfl rfl rfl (c5 hw4))))) ?_
  refine OpsOk.consI rfl rfl rfl (.one rfl) rfl (fun hw4 => (GOk.fr (fr':=[(20,(L 9 e_api_Step (sl a0 0 (IntKind.i64.wrap ((a0.length:Int) - 1)))))]) ⟨DLe.of_eq (cT hw4).symm,trivial⟩ (GOk.call rfl rfl cl20 rfl (change_names.ok (ifT h7 hw4)) rfl))) ?_
  refine .cv (VOk.to (VOk.pickI (b:=((decide ((IntKind.i64.wrap ((a0.length:Int) - 1)) > 0)) && (((rd a0 (IntKind.i64.wrap ((a0.length:Int) - 1))).Kind) == 2))) (p:=t6) (q:=false) rfl rfl (fun hp8 => (cT (t_beq hp8))) (fun hp8 => rfl)) (pickAnd ((decide ((IntKind.i64.wrap ((a0.length:Int) - 1)) > 0)) && (((rd a0 (IntKind.i64.wrap ((a0.length:Int) - 1))).Kind) == 2)) t6)) rfl rfl ?_
  refine .rn 1 ?_
  exact .dn
 refine Ok.ret ?_
 obtain rfl:=Option.some.inj H
 exact⟨.inl rfl,⟨_,(.cons (.tmp rfl) .nil),rfl⟩,trivial⟩
def watchbilllaw04_weigh.l1 (k:Nat) (self:T_api_Node→Int→Option Int) (a1:Int):Nat→Int→Str→Str→List T_api_Attr→List T_api_Node→Str→Int→Int→Option Int
 | 0,_,_,_,_,_,_,_,_ => none
 | m39 + 1,y2_0_25,y2_1_26,y2_2_27,y2_3_28,y2_4_29,y2_5_30,x5_23,x7_24 => (if ((decide (x7_24 < (y2_4_29.length:Int))) && (decide (x5_23 ≤ a1)))=true then (if (0:Int) ≤ x7_24 ∧ x7_24 < (y2_4_29.length:Int) then ((self (rd y2_4_29 x7_24) (IntKind.i64.wrap (a1 - x5_23))).bind fun (t43:Int) => watchbilllaw04_weigh.l1 k self a1 m39 y2_0_25 y2_1_26 y2_2_27 y2_3_28 y2_4_29 y2_5_30 (IntKind.i64.wrap (x5_23 + t43)) (IntKind.i64.wrap (x7_24 + 1))) else none) else some x5_23)
def watchbilllaw04_weigh.l0 (k:Nat) (self:T_api_Node→Int→Option Int) (a1:Int):Nat→Int→Str→Str→List T_api_Attr→List T_api_Node→Str→Int→Int→Option Int
 | 0,_,_,_,_,_,_,_,_ => none
 | m17 + 1,y2_0_3,y2_1_4,y2_2_5,y2_3_6,y2_4_7,y2_5_8,x5_1,x6_2 => (if ((decide (x6_2 < (y2_3_6.length:Int))) && (decide (x5_1 ≤ a1)))=true then (if (0:Int) ≤ x6_2 ∧ x6_2 < (y2_3_6.length:Int) then (if (0:Int) ≤ x6_2 ∧ x6_2 < (y2_3_6.length:Int) then (if (0:Int) ≤ x6_2 ∧ x6_2 < (y2_3_6.length:Int) then watchbilllaw04_weigh.l0 k self a1 m17 y2_0_3 y2_1_4 y2_2_5 y2_3_6 y2_4_7 y2_5_8 (IntKind.i64.wrap ((IntKind.i64.wrap ((IntKind.i64.wrap (x5_1 + (if a1 < ((((rd y2_3_6 x6_2).Name).Space).length:Int) then a1 else ((((rd y2_3_6 x6_2).Name).Space).length:Int)))) + (if a1 < ((((rd y2_3_6 x6_2).Name).Local).length:Int) then a1 else ((((rd y2_3_6 x6_2).Name).Local).length:Int)))) + (if a1 < (((rd y2_3_6 x6_2).Value).length:Int) then a1 else (((rd y2_3_6 x6_2).Value).length:Int)))) (IntKind.i64.wrap (x6_2 + 1)) else none) else none) else none) else watchbilllaw04_weigh.l1 k self a1 k y2_0_3 y2_1_4 y2_2_5 y2_3_6 y2_4_7 y2_5_8 x5_1 0)
def watchbilllaw04_weigh:Nat→T_api_Node→Int→Option Int
 | 0,_,_ => none
 | k + 1,a0,a1 => watchbilllaw04_weigh.l0 k (watchbilllaw04_weigh k) a1 k a0.Kind a0.Name.Space a0.Name.Local a0.Attrs a0.Kids a0.Text (IntKind.i64.wrap ((IntKind.i64.wrap ((IntKind.i64.wrap ((IntKind.i64.wrap (1 + (if a1 < (a0.Text.length:Int) then a1 else (a0.Text.length:Int)))) + (if a1 < (a0.Name.Space.length:Int) then a1 else (a0.Name.Space.length:Int)))) + (if a1 < (a0.Name.Local.length:Int) then a1 else (a0.Name.Local.length:Int)))) + (if a1 < (a0.Attrs.length:Int) then a1 else (a0.Attrs.length:Int)))) 0
theorem watchbilllaw04_weigh.ok {k:Nat} {a0:T_api_Node} {a1:Int} {r:Int} (H:watchbilllaw04_weigh k a0 a1=some r):Vx.Fn Try.prog 36 [(.agg (e_api_Node a0)),(.v (.int .i64 a1))] [] (.v (.int .i64 r)) []:=by
 induction k generalizing a0 a1 r with
 | zero => exact absurd H (by simp [watchbilllaw04_weigh])
 | succ k ih =>
  unfold watchbilllaw04_weigh at H
  refine Vx.Fn.of_okR Try.func36 rfl (Nat.le_of_ble_eq_true rfl) ?_
  refine Ok.seq ?_
  refine Ok.region (σ':=⟨[(1,(.v (.int .i64 a1))),(2,(.bref 2 0))],[(2,(bxN a0))]⟩) ?_ ?_
  ·refine OpsOk.cut1 0 (.agg (c_api_Node a0)) (DLe.of_eq (congrArg D.agg (e_api_Node_c _).symm)) ?_
   refine .rn 2 ?_
   exact .dn
  refine Ok.seq ?_
  refine Ok.region (σ':=⟨[(1,(.v (.int .i64 a1))),(2,(.bref 2 0)),(5,(.v (.int .i64 (IntKind.i64.wrap ((IntKind.i64.wrap ((IntKind.i64.wrap ((IntKind.i64.wrap (1 + (if a1 < (a0.Text.length:Int) then a1 else (a0.Text.length:Int)))) + (if a1 < (a0.Name.Space.length:Int) then a1 else (a0.Name.Space.length:Int)))) + (if a1 < (a0.Name.Local.length:Int) then a1 else (a0.Name.Local.length:Int)))) + (if a1 < (a0.Attrs.length:Int) then a1 else (a0.Attrs.length:Int)))))))],[(2,(bxN a0))]⟩) ?_ ?_
  ·refine .rn 4 ?_
   refine .cv (VOk.min2 (a:=(a0.Text.length:Int)) (b:=a1) rfl rfl rfl) rfl rfl ?_
   refine .rn 6 ?_
   refine .cv (VOk.min2 (a:=(a0.Name.Space.length:Int)) (b:=a1) rfl rfl rfl) rfl rfl ?_
   refine .rn 6 ?_
   refine .cv (VOk.min2 (a:=(a0.Name.Local.length:Int)) (b:=a1) rfl rfl rfl) rfl rfl ?_
   refine .rn 3 ?_
   refine .cv (VOk.lenL (e:=e_api_Attr) (xs:=a0.Attrs) rfl Try.underlying24 rfl) rfl rfl ?_
   refine .rn 1 ?_
   refine .cv (VOk.min2 (a:=(a0.Attrs.length:Int)) (b:=a1) rfl rfl rfl) rfl rfl ?_
   refine .rn 2 ?_
   exact .dn
  refine Ok.seq ?_
  refine Ok.seq ?_
  refine .rg [(1,(.v (.int .i64 a1))),(2,(.bref 2 0)),(5,(.v (.int .i64 (IntKind.i64.wrap ((IntKind.i64.wrap ((IntKind.i64.wrap ((IntKind.i64.wrap (1 + (if a1 < (a0.Text.length:Int) then a1 else (a0.Text.length:Int)))) + (if a1 < (a0.Name.Space.length:Int) then a1 else (a0.Name.Space.length:Int)))) + (if a1 < (a0.Name.Local.length:Int) then a1 else (a0.Name.Local.length:Int)))) + (if a1 < (a0.Attrs.length:Int) then a1 else (a0.Attrs.length:Int))))))),(6,(.v (.int .i64 0)))] [(2,(bxN a0))] ?_
  refine Ok.block ?_
  refine Ok.loop (fun m17 σ => ∃ (y2_0_3:Int) (y2_1_4:Str) (y2_2_5:Str) (y2_3_6:List T_api_Attr) (y2_4_7:List T_api_Node) (y2_5_8:Str) (x5_1:Int) (x6_2:Int),σ=⟨[(1,(.v (.int .i64 a1))),(2,(.bref 2 0)),(5,(.v (.int .i64 x5_1))),(6,(.v (.int .i64 x6_2)))],[(2,(.box .ex [(.v (.int .i64 y2_0_3)),(S y2_1_4),(S y2_2_5),(L 3 e_api_Attr y2_3_6),(L 6 e_api_Node y2_4_7),(S y2_5_8)]))]⟩ ∧ watchbilllaw04_weigh.l0 k (watchbilllaw04_weigh k) a1 m17 y2_0_3 y2_1_4 y2_2_5 y2_3_6 y2_4_7 y2_5_8 x5_1 x6_2=some r) k ⟨a0.Kind,a0.Name.Space,a0.Name.Local,a0.Attrs,a0.Kids,a0.Text,(IntKind.i64.wrap ((IntKind.i64.wrap ((IntKind.i64.wrap ((IntKind.i64.wrap (1 + (if a1 < (a0.Text.length:Int) then a1 else (a0.Text.length:Int)))) + (if a1 < (a0.Name.Space.length:Int) then a1 else (a0.Name.Space.length:Int)))) + (if a1 < (a0.Name.Local.length:Int) then a1 else (a0.Name.Local.length:Int)))) + (if a1 < (a0.Attrs.length:Int) then a1 else (a0.Attrs.length:Int)))),0,rfl,H⟩ ?_
  rintro m17 σ ⟨y2_0_3,y2_1_4,y2_2_5,y2_3_6,y2_4_7,y2_5_8,x5_1,x6_2,rfl,H⟩
  cases m17 with
  | zero => exact absurd H (by simp [watchbilllaw04_weigh.l0])
  | succ m17 =>
   unfold watchbilllaw04_weigh.l0 at H
   refine Ok.seq ?_
   refine Ok.seq ?_
   refine Ok.region (σ':=⟨[(1,(.v (.int .i64 a1))),(2,(.bref 2 0)),(5,(.v (.int .i64 x5_1))),(6,(.v (.int .i64 x6_2))),(43,(.v (.bool ((decide (x6_2 < (y2_3_6.length:Int))) && (decide (x5_1 ≤ a1))))))],[(2,(.box .ex [(.v (.int .i64 y2_0_3)),(S y2_1_4),(S y2_2_5),(L 3 e_api_Attr y2_3_6),(L 6 e_api_Node y2_4_7),(S y2_5_8)]))]⟩) ?_ ?_
   ·refine .rn 3 ?_
    refine .cv (VOk.lenL (e:=e_api_Attr) (xs:=y2_3_6) rfl Try.underlying24 rfl) rfl rfl ?_
    refine .rn 2 ?_
    refine OpsOk.consI rfl rfl rfl (.one rfl) rfl (fun hw18 => (VOk.g (VOk.mv (d:=(.v (.int .i64 x5_1))) rfl rfl))) ?_
    refine OpsOk.consI rfl rfl rfl (.one rfl) rfl (fun hw18 => (VOk.g (VOk.mv (d:=(.v (.int .i64 a1))) rfl rfl))) ?_
    refine OpsOk.consI rfl rfl rfl (.one rfl) rfl (fun hw18 => (GOk.fr (fr':=[(40,(.v (.int .i64 x5_1))),(41,(.v (.int .i64 a1)))]) ⟨DLe.of_eq (cT hw18).symm,DLe.of_eq (cT hw18).symm,trivial⟩ (VOk.g (VOk.arith (op:=.leq) (k:=.i64) (a:=x5_1) (b:=a1) rfl rfl rfl rfl)))) ?_
    refine .cv (VOk.to (VOk.pickI (b:=(decide (x6_2 < (y2_3_6.length:Int)))) (p:=(decide (x5_1 ≤ a1))) (q:=false) rfl rfl (fun hp19 => (cT (t_beq hp19))) (fun hp19 => rfl)) (pickAnd (decide (x6_2 < (y2_3_6.length:Int))) (decide (x5_1 ≤ a1)))) rfl rfl ?_
    exact .dn
   refine Ok.test (b:=((decide (x6_2 < (y2_3_6.length:Int))) && (decide (x5_1 ≤ a1)))) rfl (fun hb46 => ?_) (fun hb46 => ?_)
   ·replace H:=ifT H hb46
    refine Ok.skip ?_
    refine Ok.seq ?_
    refine Ok.block ?_
    obtain⟨c20,H⟩:=assertE H
    obtain⟨c21,H⟩:=assertE H
    obtain⟨c22,H⟩:=assertE H
    refine .dA [(1,(.v (.int .i64 a1))),(2,(.bref 2 0)),(5,(.v (.int .i64 (IntKind.i64.wrap ((IntKind.i64.wrap ((IntKind.i64.wrap (x5_1 + (if a1 < ((((rd y2_3_6 x6_2).Name).Space).length:Int) then a1 else ((((rd y2_3_6 x6_2).Name).Space).length:Int)))) + (if a1 < ((((rd y2_3_6 x6_2).Name).Local).length:Int) then a1 else ((((rd y2_3_6 x6_2).Name).Local).length:Int)))) + (if a1 < (((rd y2_3_6 x6_2).Value).length:Int) then a1 else (((rd y2_3_6 x6_2).Value).length:Int))))))),(6,(.v (.int .i64 x6_2)))] [(2,(.box .ex [(.v (.int .i64 y2_0_3)),(S y2_1_4),(S y2_2_5),(L 3 e_api_Attr y2_3_6),(L 6 e_api_Node y2_4_7),(S y2_5_8)]))] [[],[],[1],[],[2,3],[4],[5],[6],[7],[],[8,9],[0,10],[],[12],[],[13,14],[15],[16],[17],[18],[],[19,20],[11,21],[],[23],[],[24,25],[26],[27],[28],[],[29,30],[22,31],[0,32]] mixed ?_ ?_
    ·refine .tn 4 ?_
     refine .tc (VOk.g (VOk.indexL (sz:=3) (e:=e_api_Attr) (xs:=y2_3_6) (i:=x6_2) rfl Try.underlying24 sz68 rfl rfl c20)) ?_
     refine .tn 3 ?_
     refine .tc (VOk.g (VOk.lenStr (s:=((rd y2_3_6 x6_2).Name).Space) rfl Try.underlying9 rfl)) ?_
     refine .tn 1 ?_
     refine .tc (VOk.g (VOk.min2 (a:=((((rd y2_3_6 x6_2).Name).Space).length:Int)) (b:=a1) rfl rfl rfl)) ?_
     refine .tn 4 ?_
     refine .tc (VOk.g (VOk.indexL (sz:=3) (e:=e_api_Attr) (xs:=y2_3_6) (i:=x6_2) rfl Try.underlying24 sz68 rfl rfl c21)) ?_
     refine .tn 3 ?_
     refine .tc (VOk.g (VOk.lenStr (s:=((rd y2_3_6 x6_2).Name).Local) rfl Try.underlying9 rfl)) ?_
     refine .tn 1 ?_
     refine .tc (VOk.g (VOk.min2 (a:=((((rd y2_3_6 x6_2).Name).Local).length:Int)) (b:=a1) rfl rfl rfl)) ?_
     refine .tn 4 ?_
     refine .tc (VOk.g (VOk.indexL (sz:=3) (e:=e_api_Attr) (xs:=y2_3_6) (i:=x6_2) rfl Try.underlying24 sz68 rfl rfl c22)) ?_
     refine .tn 2 ?_
     refine .tc (VOk.g (VOk.lenStr (s:=(rd y2_3_6 x6_2).Value) rfl Try.underlying9 rfl)) ?_
     refine .tn 1 ?_
     refine .tc (VOk.g (VOk.min2 (a:=(((rd y2_3_6 x6_2).Value).length:Int)) (b:=a1) rfl rfl rfl)) ?_
     refine .tn 2 ?_
     exact .dn
    refine .rg [(1,(.v (.int .i64 a1))),(2,(.bref 2 0)),(5,(.v (.int .i64 (IntKind.i64.wrap ((IntKind.i64.wrap ((IntKind.i64.wrap (x5_1 + (if a1 < ((((rd y2_3_6 x6_2).Name).Space).length:Int) then a1 else ((((rd y2_3_6 x6_2).Name).Space).length:Int)))) + (if a1 < ((((rd y2_3_6 x6_2).Name).Local).length:Int) then a1 else ((((rd y2_3_6 x6_2).Name).Local).length:Int)))) + (if a1 < (((rd y2_3_6 x6_2).Value).length:Int) then a1 else (((rd y2_3_6 x6_2).Value).length:Int))))))),(6,(.v (.int .i64 (IntKind.i64.wrap (x6_2 + 1)))))] [(2,(.box .ex [(.v (.int .i64 y2_0_3)),(S y2_1_4),(S y2_2_5),(L 3 e_api_Attr y2_3_6),(L 6 e_api_Node y2_4_7),(S y2_5_8)]))] ?_
    exact⟨m17,Nat.lt_succ_self m17,y2_0_3,y2_1_4,y2_2_5,y2_3_6,y2_4_7,y2_5_8,(IntKind.i64.wrap ((IntKind.i64.wrap ((IntKind.i64.wrap (x5_1 + (if a1 < ((((rd y2_3_6 x6_2).Name).Space).length:Int) then a1 else ((((rd y2_3_6 x6_2).Name).Space).length:Int)))) + (if a1 < ((((rd y2_3_6 x6_2).Name).Local).length:Int) then a1 else ((((rd y2_3_6 x6_2).Name).Local).length:Int)))) + (if a1 < (((rd y2_3_6 x6_2).Value).length:Int) then a1 else (((rd y2_3_6 x6_2).Value).length:Int)))),(IntKind.i64.wrap (x6_2 + 1)),rfl,H⟩
   ·replace H:=ifF H hb46
    refine Ok.exit ?_
    refine Ok.seq ?_
    refine Ok.seq ?_
    refine .rg [(1,(.v (.int .i64 a1))),(2,(.bref 2 0)),(5,(.v (.int .i64 x5_1))),(7,(.v (.int .i64 0)))] [(2,(.box .ex [(.v (.int .i64 y2_0_3)),(S y2_1_4),(S y2_2_5),(L 3 e_api_Attr y2_3_6),(L 6 e_api_Node y2_4_7),(S y2_5_8)]))] ?_
    refine Ok.block ?_
    refine Ok.loop (fun m39 σ => ∃ (y2_0_25:Int) (y2_1_26:Str) (y2_2_27:Str) (y2_3_28:List T_api_Attr) (y2_4_29:List T_api_Node) (y2_5_30:Str) (x5_23:Int) (x7_24:Int),σ=⟨[(1,(.v (.int .i64 a1))),(2,(.bref 2 0)),(5,(.v (.int .i64 x5_23))),(7,(.v (.int .i64 x7_24)))],[(2,(.box .ex [(.v (.int .i64 y2_0_25)),(S y2_1_26),(S y2_2_27),(L 3 e_api_Attr y2_3_28),(L 6 e_api_Node y2_4_29),(S y2_5_30)]))]⟩ ∧ watchbilllaw04_weigh.l1 k (watchbilllaw04_weigh k) a1 m39 y2_0_25 y2_1_26 y2_2_27 y2_3_28 y2_4_29 y2_5_30 x5_23 x7_24=some r) k ⟨y2_0_3,y2_1_4,y2_2_5,y2_3_6,y2_4_7,y2_5_8,x5_1,0,rfl,H⟩ ?_
    rintro m39 σ ⟨y2_0_25,y2_1_26,y2_2_27,y2_3_28,y2_4_29,y2_5_30,x5_23,x7_24,rfl,H⟩
    cases m39 with
    | zero => exact absurd H (by simp [watchbilllaw04_weigh.l1])
    | succ m39 =>
     unfold watchbilllaw04_weigh.l1 at H
     refine Ok.seq ?_
     refine Ok.seq ?_
     refine Ok.region (σ':=⟨[(1,(.v (.int .i64 a1))),(2,(.bref 2 0)),(5,(.v (.int .i64 x5_23))),(7,(.v (.int .i64 x7_24))),(88,(.v (.bool ((decide (x7_24 < (y2_4_29.length:Int))) && (decide (x5_23 ≤ a1))))))],[(2,(.box .ex [(.v (.int .i64 y2_0_25)),(S y2_1_26),(S y2_2_27),(L 3 e_api_Attr y2_3_28),(L 6 e_api_Node y2_4_29),(S y2_5_30)]))]⟩) ?_ ?_
     ·refine .rn 3 ?_
      refine .cv (VOk.lenL (e:=e_api_Node) (xs:=y2_4_29) rfl Try.underlying25 rfl) rfl rfl ?_
      refine .rn 2 ?_
      refine OpsOk.consI rfl rfl rfl (.one rfl) rfl (fun hw40 => (VOk.g (VOk.mv (d:=(.v (.int .i64 x5_23))) rfl rfl))) ?_
      refine OpsOk.consI rfl rfl rfl (.one rfl) rfl (fun hw40 => (VOk.g (VOk.mv (d:=(.v (.int .i64 a1))) rfl rfl))) ?_
      refine OpsOk.consI rfl rfl rfl (.one rfl) rfl (fun hw40 => (GOk.fr (fr':=[(85,(.v (.int .i64 x5_23))),(86,(.v (.int .i64 a1)))]) ⟨DLe.of_eq (cT hw40).symm,DLe.of_eq (cT hw40).symm,trivial⟩ (VOk.g (VOk.arith (op:=.leq) (k:=.i64) (a:=x5_23) (b:=a1) rfl rfl rfl rfl)))) ?_
      refine .cv (VOk.to (VOk.pickI (b:=(decide (x7_24 < (y2_4_29.length:Int)))) (p:=(decide (x5_23 ≤ a1))) (q:=false) rfl rfl (fun hp41 => (cT (t_beq hp41))) (fun hp41 => rfl)) (pickAnd (decide (x7_24 < (y2_4_29.length:Int))) (decide (x5_23 ≤ a1)))) rfl rfl ?_
      exact .dn
     refine Ok.test (b:=((decide (x7_24 < (y2_4_29.length:Int))) && (decide (x5_23 ≤ a1)))) rfl (fun hb45 => ?_) (fun hb45 => ?_)
     ·replace H:=ifT H hb45
      refine Ok.skip ?_
      refine Ok.seq ?_
      refine Ok.block ?_
      obtain⟨c42,H⟩:=assertE H
      obtain⟨t43,h44,H⟩:=bindE H
      refine Ok.region (σ':=⟨[(1,(.v (.int .i64 a1))),(2,(.bref 2 0)),(5,(.v (.int .i64 (IntKind.i64.wrap (x5_23 + t43))))),(7,(.v (.int .i64 x7_24)))],[(2,(.box .ex [(.v (.int .i64 y2_0_25)),(S y2_1_26),(S y2_2_27),(L 3 e_api_Attr y2_3_28),(L 6 e_api_Node y2_4_29),(S y2_5_30)]))]⟩) ?_ ?_
      ·refine .rn 4 ?_
       refine .cv (VOk.indexL (sz:=6) (e:=e_api_Node) (xs:=y2_4_29) (i:=x7_24) rfl Try.underlying25 sz27 rfl rfl c42) rfl rfl ?_
       refine .rn 4 ?_
       refine .cg (GOk.call rfl rfl cl36 rfl (@ih _ _ _ h44) rfl) rfl rfl ?_
       refine .rn 2 ?_
       exact .dn
      refine .rg [(1,(.v (.int .i64 a1))),(2,(.bref 2 0)),(5,(.v (.int .i64 (IntKind.i64.wrap (x5_23 + t43))))),(7,(.v (.int .i64 (IntKind.i64.wrap (x7_24 + 1)))))] [(2,(.box .ex [(.v (.int .i64 y2_0_25)),(S y2_1_26),(S y2_2_27),(L 3 e_api_Attr y2_3_28),(L 6 e_api_Node y2_4_29),(S y2_5_30)]))] ?_
      exact⟨m39,Nat.lt_succ_self m39,y2_0_25,y2_1_26,y2_2_27,y2_3_28,y2_4_29,y2_5_30,(IntKind.i64.wrap (x5_23 + t43)),(IntKind.i64.wrap (x7_24 + 1)),rfl,H⟩
     ·replace H:=ifF H hb45
      refine Ok.exit ?_
      refine Ok.seq ?_
      refine .rg [(4,(.v (.int .i64 x5_23)))] [] ?_
      refine Ok.ret ?_
      obtain rfl:=Option.some.inj H
      exact⟨.inl rfl,⟨_,(.cons (.tmp rfl) .nil),rfl⟩,trivial⟩
def watchbilllaw04_Few (k:Nat) (a0:T_api_Node):Option Bool:=((watchbilllaw04_weigh k a0 30000).bind fun (t1:Int) => some (decide (t1 ≤ 30000)))
theorem watchbilllaw04_Few.ok {k:Nat} {a0:T_api_Node} {r:Bool} (H:watchbilllaw04_Few k a0=some r):Vx.Fn Try.prog 18 [(.agg (e_api_Node a0))] [] (.v (.bool r)) []:=by
 unfold watchbilllaw04_Few at H
 refine Vx.Fn.of_okR Try.func18 rfl (Nat.le_of_ble_eq_true rfl) ?_
 refine Ok.seq ?_
 refine Ok.region (σ':=⟨[(1,(.bref 1 0))],[(1,(bxN a0))]⟩) ?_ ?_
 ·refine OpsOk.cut1 0 (.agg (c_api_Node a0)) (DLe.of_eq (congrArg D.agg (e_api_Node_c _).symm)) ?_
  refine .rn 2 ?_
  exact .dn
 refine Ok.seq ?_
 obtain⟨t1,h2,H⟩:=bindE H
 refine Ok.region (σ':=⟨[(2,(.v (.bool (decide (t1 ≤ 30000)))))],[]⟩) ?_ ?_
 ·refine .cv (VOk.to (d':=(.agg (e_api_Node a0))) (.loadBAgg rfl Try.underlying27 rfl sz27 rfl rfl rfl) (congrArg D.agg (e_api_Node_c a0).symm)) rfl rfl ?_
  refine .cg (GOk.call rfl rfl cl36 rfl (watchbilllaw04_weigh.ok h2) rfl) rfl rfl ?_
  refine .rn 2 ?_
  exact .dn
 refine Ok.ret ?_
 obtain rfl:=Option.some.inj H
 exact⟨.inl rfl,⟨_,(.cons (.tmp rfl) .nil),rfl⟩,trivial⟩
def watchbilllaw10_Few.l0 (k:Nat) (a0:List T_api_Step):Nat→Int→Int→Option Bool
 | 0,_,_ => none
 | m5 + 1,x3_1,x4_2 => (if ((decide (x4_2 < (a0.length:Int))) && (decide (x3_1 < 5000)))=true then (if (0:Int) ≤ x4_2 ∧ x4_2 < (a0.length:Int) then watchbilllaw10_Few.l0 k a0 m5 (IntKind.i64.wrap ((IntKind.i64.wrap ((IntKind.i64.wrap ((IntKind.i64.wrap ((IntKind.i64.wrap (x3_1 + (if 5000 < (((rd a0 x4_2).Name.Space).length:Int) then 5000 else (((rd a0 x4_2).Name.Space).length:Int)))) + (if 5000 < (((rd a0 x4_2).Name.Local).length:Int) then 5000 else (((rd a0 x4_2).Name.Local).length:Int)))) + (if 5000 < (((rd a0 x4_2).Attr.Space).length:Int) then 5000 else (((rd a0 x4_2).Attr.Space).length:Int)))) + (if 5000 < (((rd a0 x4_2).Attr.Local).length:Int) then 5000 else (((rd a0 x4_2).Attr.Local).length:Int)))) + (if 5000 < (((rd a0 x4_2).Value).length:Int) then 5000 else (((rd a0 x4_2).Value).length:Int)))) (IntKind.i64.wrap (x4_2 + 1)) else none) else some (decide (x3_1 < 5000)))
def watchbilllaw10_Few (k:Nat) (a0:List T_api_Step):Option Bool:=watchbilllaw10_Few.l0 k a0 k (if 5000 < (a0.length:Int) then 5000 else (a0.length:Int)) 0
theorem watchbilllaw10_Few.ok {k:Nat} {a0:List T_api_Step} {r:Bool} (H:watchbilllaw10_Few k a0=some r):Vx.Fn Try.prog 19 [(L 9 e_api_Step a0)] [] (.v (.bool r)) []:=by
 unfold watchbilllaw10_Few at H
 refine Vx.Fn.of_okR Try.func19 rfl (Nat.le_of_ble_eq_true rfl) ?_
 refine Ok.seq ?_
 refine .rg [(0,(L 9 e_api_Step a0))] [] ?_
 refine Ok.seq ?_
 refine Ok.region (σ':=⟨[(0,(L 9 e_api_Step a0)),(3,(.v (.int .i64 (if 5000 < (a0.length:Int) then 5000 else (a0.length:Int)))))],[]⟩) ?_ ?_
 ·refine .rn 1 ?_
  refine .cv (VOk.lenL (e:=e_api_Step) (xs:=a0) rfl Try.underlying28 rfl) rfl rfl ?_
  refine .cv (VOk.min2 (a:=(a0.length:Int)) (b:=5000) rfl rfl rfl) rfl rfl ?_
  refine .rn 1 ?_
  exact .dn
 refine Ok.seq ?_
 refine Ok.seq ?_
 refine .rg [(0,(L 9 e_api_Step a0)),(3,(.v (.int .i64 (if 5000 < (a0.length:Int) then 5000 else (a0.length:Int))))),(4,(.v (.int .i64 0)))] [] ?_
 refine Ok.block ?_
 refine Ok.loop (fun m5 σ => ∃ (x3_1:Int) (x4_2:Int),σ=⟨[(0,(L 9 e_api_Step a0)),(3,(.v (.int .i64 x3_1))),(4,(.v (.int .i64 x4_2)))],[]⟩ ∧ watchbilllaw10_Few.l0 k a0 m5 x3_1 x4_2=some r) k ⟨(if 5000 < (a0.length:Int) then 5000 else (a0.length:Int)),0,rfl,H⟩ ?_
 rintro m5 σ ⟨x3_1,x4_2,rfl,H⟩
 cases m5 with
 | zero => exact absurd H (by simp [watchbilllaw10_Few.l0])
 | succ m5 =>
  unfold watchbilllaw10_Few.l0 at H
  refine Ok.seq ?_
  refine Ok.seq ?_
  refine Ok.region (σ':=⟨[(0,(L 9 e_api_Step a0)),(3,(.v (.int .i64 x3_1))),(4,(.v (.int .i64 x4_2))),(16,(.v (.bool ((decide (x4_2 < (a0.length:Int))) && (decide (x3_1 < 5000))))))],[]⟩) ?_ ?_
  ·refine .rn 2 ?_
   refine .cv (VOk.lenL (e:=e_api_Step) (xs:=a0) rfl Try.underlying28 rfl) rfl rfl ?_
   refine .rn 2 ?_
   refine OpsOk.consI rfl rfl rfl (.one rfl) rfl (fun hw6 => (VOk.g (VOk.mv (d:=(.v (.int .i64 x3_1))) rfl rfl))) ?_
   refine OpsOk.consI rfl rfl rfl (.one rfl) rfl (fun hw6 => (GOk.fr (fr':=[(14,(.v (.int .i64 x3_1)))]) ⟨DLe.of_eq (cT hw6).symm,trivial⟩ (VOk.g (VOk.arith (op:=.lss) (k:=.i64) (a:=x3_1) (b:=5000) rfl rfl rfl rfl)))) ?_
   refine .cv (VOk.to (VOk.pickI (b:=(decide (x4_2 < (a0.length:Int)))) (p:=(decide (x3_1 < 5000))) (q:=false) rfl rfl (fun hp7 => (cT (t_beq hp7))) (fun hp7 => rfl)) (pickAnd (decide (x4_2 < (a0.length:Int))) (decide (x3_1 < 5000)))) rfl rfl ?_
   exact .dn
  refine Ok.test (b:=((decide (x4_2 < (a0.length:Int))) && (decide (x3_1 < 5000)))) rfl (fun hb9 => ?_) (fun hb9 => ?_)
  ·replace H:=ifT H hb9
   refine Ok.skip ?_
   refine Ok.seq ?_
   refine Ok.block ?_
   refine Ok.seq ?_
   obtain⟨c8,H⟩:=assertE H
   refine Ok.region (σ':=⟨[(0,(L 9 e_api_Step a0)),(3,(.v (.int .i64 x3_1))),(4,(.v (.int .i64 x4_2))),(5,(.bref 5 0))],[(5,(.box .ex (c_api_Step (rd a0 x4_2))))]⟩) ?_ ?_
   ·refine .rn 2 ?_
    refine .cv (VOk.indexL (sz:=9) (e:=e_api_Step) (xs:=a0) (i:=x4_2) rfl Try.underlying28 sz45 rfl rfl c8) rfl rfl ?_
    refine .rn 3 ?_
    exact .dn
   refine Ok.region (σ':=⟨[(0,(L 9 e_api_Step a0)),(3,(.v (.int .i64 (IntKind.i64.wrap ((IntKind.i64.wrap ((IntKind.i64.wrap ((IntKind.i64.wrap ((IntKind.i64.wrap (x3_1 + (if 5000 < (((rd a0 x4_2).Name.Space).length:Int) then 5000 else (((rd a0 x4_2).Name.Space).length:Int)))) + (if 5000 < (((rd a0 x4_2).Name.Local).length:Int) then 5000 else (((rd a0 x4_2).Name.Local).length:Int)))) + (if 5000 < (((rd a0 x4_2).Attr.Space).length:Int) then 5000 else (((rd a0 x4_2).Attr.Space).length:Int)))) + (if 5000 < (((rd a0 x4_2).Attr.Local).length:Int) then 5000 else (((rd a0 x4_2).Attr.Local).length:Int)))) + (if 5000 < (((rd a0 x4_2).Value).length:Int) then 5000 else (((rd a0 x4_2).Value).length:Int))))))),(4,(.v (.int .i64 x4_2)))],[]⟩) ?_ ?_
   ·refine .rn 5 ?_
    refine .cv (VOk.min2 (a:=(((rd a0 x4_2).Name.Space).length:Int)) (b:=5000) rfl rfl rfl) rfl rfl ?_
    refine .rn 5 ?_
    refine .cv (VOk.min2 (a:=(((rd a0 x4_2).Name.Local).length:Int)) (b:=5000) rfl rfl rfl) rfl rfl ?_
    refine .rn 5 ?_
    refine .cv (VOk.min2 (a:=(((rd a0 x4_2).Attr.Space).length:Int)) (b:=5000) rfl rfl rfl) rfl rfl ?_
    refine .rn 5 ?_
    refine .cv (VOk.min2 (a:=(((rd a0 x4_2).Attr.Local).length:Int)) (b:=5000) rfl rfl rfl) rfl rfl ?_
    refine .rn 4 ?_
    refine .cv (VOk.min2 (a:=(((rd a0 x4_2).Value).length:Int)) (b:=5000) rfl rfl rfl) rfl rfl ?_
    refine .rn 2 ?_
    exact .dn
   refine .rg [(0,(L 9 e_api_Step a0)),(3,(.v (.int .i64 (IntKind.i64.wrap ((IntKind.i64.wrap ((IntKind.i64.wrap ((IntKind.i64.wrap ((IntKind.i64.wrap (x3_1 + (if 5000 < (((rd a0 x4_2).Name.Space).length:Int) then 5000 else (((rd a0 x4_2).Name.Space).length:Int)))) + (if 5000 < (((rd a0 x4_2).Name.Local).length:Int) then 5000 else (((rd a0 x4_2).Name.Local).length:Int)))) + (if 5000 < (((rd a0 x4_2).Attr.Space).length:Int) then 5000 else (((rd a0 x4_2).Attr.Space).length:Int)))) + (if 5000 < (((rd a0 x4_2).Attr.Local).length:Int) then 5000 else (((rd a0 x4_2).Attr.Local).length:Int)))) + (if 5000 < (((rd a0 x4_2).Value).length:Int) then 5000 else (((rd a0 x4_2).Value).length:Int))))))),(4,(.v (.int .i64 (IntKind.i64.wrap (x4_2 + 1)))))] [] ?_
   exact⟨m5,Nat.lt_succ_self m5,(IntKind.i64.wrap ((IntKind.i64.wrap ((IntKind.i64.wrap ((IntKind.i64.wrap ((IntKind.i64.wrap (x3_1 + (if 5000 < (((rd a0 x4_2).Name.Space).length:Int) then 5000 else (((rd a0 x4_2).Name.Space).length:Int)))) + (if 5000 < (((rd a0 x4_2).Name.Local).length:Int) then 5000 else (((rd a0 x4_2).Name.Local).length:Int)))) + (if 5000 < (((rd a0 x4_2).Attr.Space).length:Int) then 5000 else (((rd a0 x4_2).Attr.Space).length:Int)))) + (if 5000 < (((rd a0 x4_2).Attr.Local).length:Int) then 5000 else (((rd a0 x4_2).Attr.Local).length:Int)))) + (if 5000 < (((rd a0 x4_2).Value).length:Int) then 5000 else (((rd a0 x4_2).Value).length:Int)))),(IntKind.i64.wrap (x4_2 + 1)),rfl,H⟩
  ·replace H:=ifF H hb9
   refine Ok.exit ?_
   refine Ok.seq ?_
   refine .rg [(2,(.v (.bool (decide (x3_1 < 5000)))))] [] ?_
   refine Ok.ret ?_
   obtain rfl:=Option.some.inj H
   exact⟨.inl rfl,⟨_,(.cons (.tmp rfl) .nil),rfl⟩,trivial⟩
def watchbilllaw13_few (k:Nat) (a0:T_api_Node) (a1:T_api_Node) (a2:List T_api_Step):Option Bool:=((watchbilllaw04_Few k a0).bind fun (t1:Bool) => (((if (t1 == true)=true then watchbilllaw04_Few k a1 else some default)).bind fun (t4:Bool) => (((if ((t1 && t4) == true)=true then watchbilllaw10_Few k a2 else some default)).bind fun (t8:Bool) => some (((t1 && t4) && t8) && (decide ((a2.length:Int) ≤ 30))))))
theorem watchbilllaw13_few.ok {k:Nat} {a0:T_api_Node} {a1:T_api_Node} {a2:List T_api_Step} {r:Bool} (H:watchbilllaw13_few k a0 a1 a2=some r):Vx.Fn Try.prog 7 [(.agg (e_api_Node a0)),(.agg (e_api_Node a1)),(L 9 e_api_Step a2)] [] (.v (.bool r)) []:=by
 unfold watchbilllaw13_few at H
 refine Vx.Fn.of_okR Try.func7 rfl (Nat.le_of_ble_eq_true rfl) ?_
 refine Ok.seq ?_
 refine Ok.region (σ':=⟨[(2,(L 9 e_api_Step a2)),(3,(.bref 3 0)),(4,(.bref 4 0))],[(3,(bxN a0)),(4,(bxN a1))]⟩) ?_ ?_
 ·refine OpsOk.cut1 0 (.agg (c_api_Node a0)) (DLe.of_eq (congrArg D.agg (e_api_Node_c _).symm)) ?_
  refine .rn 1 ?_
  refine OpsOk.cut1 1 (.agg (c_api_Node a1)) (DLe.of_eq (congrArg D.agg (e_api_Node_c _).symm)) ?_
  refine .rn 2 ?_
  exact .dn
 refine Ok.seq ?_
 obtain⟨t1,h2,H⟩:=bindE H
 obtain⟨t4,h5,H⟩:=bindE H
 obtain⟨t8,h9,H⟩:=bindE H
 refine Ok.region (σ':=⟨[(6,(.v (.bool (((t1 && t4) && t8) && (decide ((a2.length:Int) ≤ 30))))))],[]⟩) ?_ ?_
 ·refine .cv (VOk.to (d':=(.agg (e_api_Node a0))) (.loadBAgg rfl Try.underlying27 rfl sz27 rfl rfl rfl) (congrArg D.agg (e_api_Node_c a0).symm)) rfl rfl ?_
  refine .cg (GOk.call rfl rfl cl18 rfl (watchbilllaw04_Few.ok h2) rfl) rfl rfl ?_
  refine .rn 1 ?_
  refine OpsOk.consI rfl rfl rfl (.one rfl) rfl (fun hw3 => (VOk.g (VOk.to (d':=(.agg (e_api_Node a1))) (.loadBAgg rfl Try.underlying27 rfl sz27 rfl rfl rfl) (congrArg D.agg (e_api_Node_c a1).symm)))) ?_
  refine OpsOk.consI rfl rfl rfl (.one rfl) rfl (fun hw3 => (GOk.fr (fr':=[(10,(.agg (e_api_Node a1)))]) ⟨DLe.of_eq (cT hw3).symm,trivial⟩ (GOk.call rfl rfl cl18 rfl (watchbilllaw04_Few.ok (ifT h5 hw3)) rfl))) ?_
  refine .cv (VOk.to (VOk.pickI (b:=t1) (p:=t4) (q:=false) rfl rfl (fun hp6 => (cT (t_beq hp6))) (fun hp6 => rfl)) (pickAnd t1 t4)) rfl rfl ?_
  refine .rn 1 ?_
  refine OpsOk.consI rfl rfl rfl (.one rfl) rfl (fun hw7 => (VOk.g (VOk.mv (d:=(L 9 e_api_Step a2)) rfl rfl))) ?_
  refine OpsOk.consI rfl rfl rfl (.one rfl) rfl (fun hw7 => (GOk.fr (fr':=[(14,(L 9 e_api_Step a2))]) ⟨DLe.of_eq (cT hw7).symm,trivial⟩ (GOk.call rfl rfl cl19 rfl (watchbilllaw10_Few.ok (ifT h9 hw7)) rfl))) ?_
  refine .cv (VOk.to (VOk.pickI (b:=(t1 && t4)) (p:=t8) (q:=false) rfl rfl (fun hp10 => (cT (t_beq hp10))) (fun hp10 => rfl)) (pickAnd (t1 && t4) t8)) rfl rfl ?_
  refine .rn 1 ?_
  refine OpsOk.consI rfl rfl rfl (.one rfl) rfl (fun hw11 => (VOk.g (VOk.mv (d:=(L 9 e_api_Step a2)) rfl rfl))) ?_
  refine OpsOk.consI rfl rfl rfl (.one rfl) rfl (fun hw11 => (GOk.fr (fr':=[(18,(L 9 e_api_Step a2))]) ⟨DLe.of_eq (cT hw11).symm,trivial⟩ (VOk.g (VOk.lenL (e:=e_api_Step) (xs:=a2) rfl Try.underlying28 rfl)))) ?_
  refine OpsOk.consI rfl rfl rfl (.one rfl) rfl (fun hw11 => (GOk.fr (fr':=[(19,(.v (.int .i64 (a2.length:Int))))]) ⟨DLe.of_eq (cT hw11).symm,trivial⟩ (VOk.g (VOk.arith (op:=.leq) (k:=.i64) (a:=(a2.length:Int)) (b:=30) rfl rfl rfl rfl)))) ?_
  refine .cv (VOk.to (VOk.pickI (b:=((t1 && t4) && t8)) (p:=(decide ((a2.length:Int) ≤ 30))) (q:=false) rfl rfl (fun hp12 => (cT (t_beq hp12))) (fun hp12 => rfl)) (pickAnd ((t1 && t4) && t8) (decide ((a2.length:Int) ≤ 30)))) rfl rfl ?_
  refine .rn 1 ?_
  exact .dn
 refine Ok.ret ?_
 obtain rfl:=Option.some.inj H
 exact⟨.inl rfl,⟨_,(.cons (.tmp rfl) .nil),rfl⟩,trivial⟩
def watchbillref04_Same.j2 (c1:Int→Str→Str→List T_api_Attr→List T_api_Node→Str→Int→Str→Str→List T_api_Attr→List T_api_Node→Str→Int→Int→Int→Option Bool) (x5_9:Int) (y2_0_39:Int) (y2_1_40:Str) (y2_2_41:Str) (y2_3_42:List T_api_Attr) (y2_4_43:List T_api_Node) (y2_5_44:Str) (y3_0_45:Int) (y3_1_46:Str) (y3_2_47:Str) (y3_3_48:List T_api_Attr) (y3_4_49:List T_api_Node) (y3_5_50:Str) (x7_37:Int) (x8_38:Int) (x6_67:Int):Option Bool:=(if (0:Int) ≤ x8_38 ∧ x8_38 < (y3_3_48.length:Int) then (if (0:Int) ≤ x5_9 ∧ x5_9 < (y2_3_42.length:Int) then (if ((rd y3_3_48 x8_38).Name.Space == (rd y2_3_42 x5_9).Name.Space && ((rd y3_3_48 x8_38).Name.Local == (rd y2_3_42 x5_9).Name.Local && ((rd y3_3_48 x8_38).Value == (rd y2_3_42 x5_9).Value && true)))=true then c1 y2_0_39 y2_1_40 y2_2_41 y2_3_42 y2_4_43 y2_5_44 y3_0_45 y3_1_46 y3_2_47 y3_3_48 y3_4_49 y3_5_50 x6_67 (IntKind.i64.wrap (x7_37 + 1)) (IntKind.i64.wrap (x8_38 + 1)) else c1 y2_0_39 y2_1_40 y2_2_41 y2_3_42 y2_4_43 y2_5_44 y3_0_45 y3_1_46 y3_2_47 y3_3_48 y3_4_49 y3_5_50 x6_67 x7_37 (IntKind.i64.wrap (x8_38 + 1))) else none) else none)
def watchbillref04_Same.l1 (k:Nat) (c0:Int→Str→Str→List T_api_Attr→List T_api_Node→Str→Int→Str→Str→List T_api_Attr→List T_api_Node→Str→Int→Option Bool) (x5_9:Int):Nat→Int→Str→Str→List T_api_Attr→List T_api_Node→Str→Int→Str→Str→List T_api_Attr→List T_api_Node→Str→Int→Int→Int→Option Bool
 | 0,_,_,_,_,_,_,_,_,_,_,_,_,_,_,_ => none
 | m66 + 1,y2_0_39,y2_1_40,y2_2_41,y2_3_42,y2_4_43,y2_5_44,y3_0_45,y3_1_46,y3_2_47,y3_3_48,y3_4_49,y3_5_50,x6_36,x7_37,x8_38 => (if (decide (x8_38 < (y2_3_42.length:Int)))=true then (if (0:Int) ≤ x8_38 ∧ x8_38 < (y2_3_42.length:Int) then (if (0:Int) ≤ x5_9 ∧ x5_9 < (y2_3_42.length:Int) then (if ((rd y2_3_42 x8_38).Name.Space == (rd y2_3_42 x5_9).Name.Space && ((rd y2_3_42 x8_38).Name.Local == (rd y2_3_42 x5_9).Name.Local && ((rd y2_3_42 x8_38).Value == (rd y2_3_42 x5_9).Value && true)))=true then watchbillref04_Same.j2 (watchbillref04_Same.l1 k c0 x5_9 m66) x5_9 y2_0_39 y2_1_40 y2_2_41 y2_3_42 y2_4_43 y2_5_44 y3_0_45 y3_1_46 y3_2_47 y3_3_48 y3_4_49 y3_5_50 x7_37 x8_38 (IntKind.i64.wrap (x6_36 + 1)) else watchbillref04_Same.j2 (watchbillref04_Same.l1 k c0 x5_9 m66) x5_9 y2_0_39 y2_1_40 y2_2_41 y2_3_42 y2_4_43 y2_5_44 y3_0_45 y3_1_46 y3_2_47 y3_3_48 y3_4_49 y3_5_50 x7_37 x8_38 x6_36) else none) else none) else (if (x6_36 != x7_37)=true then some false else c0 y2_0_39 y2_1_40 y2_2_41 y2_3_42 y2_4_43 y2_5_44 y3_0_45 y3_1_46 y3_2_47 y3_3_48 y3_4_49 y3_5_50 (IntKind.i64.wrap (x5_9 + 1))))
def watchbillref04_Same.l3 (k:Nat) (self:T_api_Node→T_api_Node→Option Bool):Nat→Int→Str→Str→List T_api_Attr→List T_api_Node→Str→Int→Str→Str→List T_api_Attr→List T_api_Node→Str→Int→Option Bool
 | 0,_,_,_,_,_,_,_,_,_,_,_,_,_ => none
 | m102 + 1,y2_0_77,y2_1_78,y2_2_79,y2_3_80,y2_4_81,y2_5_82,y3_0_83,y3_1_84,y3_2_85,y3_3_86,y3_4_87,y3_5_88,x9_76 => (if (decide (x9_76 < (y2_4_81.length:Int)))=true then (if (0:Int) ≤ x9_76 ∧ x9_76 < (y2_4_81.length:Int) then (if (0:Int) ≤ x9_76 ∧ x9_76 < (y3_4_87.length:Int) then ((self (rd y2_4_81 x9_76) (rd y3_4_87 x9_76)).bind fun (t105:Bool) => (if (!t105)=true then some false else watchbillref04_Same.l3 k self m102 y2_0_77 y2_1_78 y2_2_79 y2_3_80 y2_4_81 y2_5_82 y3_0_83 y3_1_84 y3_2_85 y3_3_86 y3_4_87 y3_5_88 (IntKind.i64.wrap (x9_76 + 1)))) else none) else none) else some true)
def watchbillref04_Same.l0 (k:Nat) (self:T_api_Node→T_api_Node→Option Bool):Nat→Int→Str→Str→List T_api_Attr→List T_api_Node→Str→Int→Str→Str→List T_api_Attr→List T_api_Node→Str→Int→Option Bool
 | 0,_,_,_,_,_,_,_,_,_,_,_,_,_ => none
 | m35 + 1,y2_0_10,y2_1_11,y2_2_12,y2_3_13,y2_4_14,y2_5_15,y3_0_16,y3_1_17,y3_2_18,y3_3_19,y3_4_20,y3_5_21,x5_9 => (if (decide (x5_9 < (y2_3_13.length:Int)))=true then watchbillref04_Same.l1 k (watchbillref04_Same.l0 k self m35) x5_9 k y2_0_10 y2_1_11 y2_2_12 y2_3_13 y2_4_14 y2_5_15 y3_0_16 y3_1_17 y3_2_18 y3_3_19 y3_4_20 y3_5_21 0 0 0 else watchbillref04_Same.l3 k self k y2_0_10 y2_1_11 y2_2_12 y2_3_13 y2_4_14 y2_5_15 y3_0_16 y3_1_17 y3_2_18 y3_3_19 y3_4_20 y3_5_21 0)
def watchbillref04_Same:Nat→T_api_Node→T_api_Node→Option Bool
 | 0,_,_ => none
 | k + 1,a0,a1 => (if (((((a0.Kind != a1.Kind) || (!(a0.Name.Space == a1.Name.Space && (a0.Name.Local == a1.Name.Local && true)))) || (!(a0.Text == a1.Text))) || ((a0.Attrs.length:Int) != (a1.Attrs.length:Int))) || ((a0.Kids.length:Int) != (a1.Kids.length:Int)))=true then some false else watchbillref04_Same.l0 k (watchbillref04_Same k) k a0.Kind a0.Name.Space a0.Name.Local a0.Attrs a0.Kids a0.Text a1.Kind a1.Name.Space a1.Name.Local a1.Attrs a1.Kids a1.Text 0)
theorem watchbillref04_Same.ok {k:Nat} {a0:T_api_Node} {a1:T_api_Node} {r:Bool} (H:watchbillref04_Same k a0 a1=some r):Vx.Fn Try.prog 29 [(.agg (e_api_Node a0)),(.agg (e_api_Node a1))] [] (.v (.bool r)) []:=by
 induction k generalizing a0 a1 r with
 | zero => exact absurd H (by simp [watchbillref04_Same])
 | succ k ih =>
  unfold watchbillref04_Same at H
  refine Vx.Fn.of_okR Try.func29 rfl (Nat.le_of_ble_eq_true rfl) ?_
  refine Ok.seq ?_
  refine Ok.region (σ':=⟨[(2,(.bref 2 0)),(3,(.bref 3 0))],[(2,(bxN a0)),(3,(bxN a1))]⟩) ?_ ?_
  ·refine OpsOk.cut1 0 (.agg (c_api_Node a0)) (DLe.of_eq (congrArg D.agg (e_api_Node_c _).symm)) ?_
   refine .rn 1 ?_
   refine OpsOk.cut1 1 (.agg (c_api_Node a1)) (DLe.of_eq (congrArg D.agg (e_api_Node_c _).symm)) ?_
   refine .rn 2 ?_
   exact .dn
  refine Ok.seq ?_
  refine Ok.seq ?_
  refine Ok.region (σ':=⟨[(2,(.bref 2 0)),(3,(.bref 3 0)),(46,(.v (.bool (((((a0.Kind != a1.Kind) || (!(a0.Name.Space == a1.Name.Space && (a0.Name.Local == a1.Name.Local && true)))) || (!(a0.Text == a1.Text))) || ((a0.Attrs.length:Int) != (a1.Attrs.length:Int))) || ((a0.Kids.length:Int) != (a1.Kids.length:Int))))))],[(2,(bxN a0)),(3,(bxN a1))]⟩) ?_ ?_
  ·refine .rn 6 ?_
   refine OpsOk.consI rfl rfl rfl (.one rfl) rfl (fun hw1 => (VOk.g (VOk.to (VOk.fieldB rfl Try.underlying27 rfl sz23 rfl rfl) rfl))) ?_
   refine OpsOk.consI rfl rfl rfl (.one rfl) rfl (fun hw1 => (GOk.fr (fr':=[(16,(.bref 2 1))]) ⟨DLe.of_eq (cT hw1).symm,trivial⟩ (VOk.g (VOk.to (d':=(.agg (e_api_Name a0.Name))) (.loadBAgg rfl Try.underlying23 rfl sz23 rfl rfl rfl) rfl)))) ?_
   refine OpsOk.consI rfl rfl rfl (.one rfl) rfl (fun hw1 => (VOk.g (VOk.to (VOk.fieldB rfl Try.underlying27 rfl sz23 rfl rfl) rfl))) ?_
   refine OpsOk.consI rfl rfl rfl (.one rfl) rfl (fun hw1 => (GOk.fr (fr':=[(18,(.bref 3 1))]) ⟨DLe.of_eq (cT hw1).symm,trivial⟩ (VOk.g (VOk.to (d':=(.agg (e_api_Name a1.Name))) (.loadBAgg rfl Try.underlying23 rfl sz23 rfl rfl rfl) rfl)))) ?_
   refine OpsOk.consI rfl rfl rfl (.one rfl) rfl (fun hw1 => (GOk.fr (fr':=[(17,(.agg (e_api_Name a0.Name))),(19,(.agg (e_api_Name a1.Name)))]) ⟨DLe.of_eq (cT hw1).symm,DLe.of_eq (cT hw1).symm,trivial⟩ (VOk.g (VOk.eqS' (op:=.neq) (d:=(.v (.bool (!(a0.Name.Space == a1.Name.Space && (a0.Name.Local == a1.Name.Local && true)))))) rfl (.inr rfl) (eqt23 9998) ag23 eg23 rfl rfl rfl rfl)))) ?_
   refine .cv (VOk.to (VOk.pickI (b:=(a0.Kind != a1.Kind)) (p:=true) (q:=(!(a0.Name.Space == a1.Name.Space && (a0.Name.Local == a1.Name.Local && true)))) rfl rfl (fun hp2 => rfl) (fun hp2 => (cT (f_beq hp2)))) (pickOr (a0.Kind != a1.Kind) (!(a0.Name.Space == a1.Name.Space && (a0.Name.Local == a1.Name.Local && true))))) rfl rfl ?_
   refine .rn 1 ?_
   refine OpsOk.consI rfl rfl rfl (.one rfl) rfl (fun hw3 => (VOk.g (VOk.to (VOk.fieldB rfl Try.underlying27 rfl sz9 rfl rfl) rfl))) ?_
   refine OpsOk.consI rfl rfl rfl (.one rfl) rfl (fun hw3 => (GOk.fr (fr':=[(23,(.bref 2 5))]) ⟨DLe.of_eq (cT hw3).symm,trivial⟩ (VOk.g (VOk.loadB (d:=(S a0.Text)) rfl Try.underlying9 rfl rfl rfl rfl)))) ?_
   refine OpsOk.consI rfl rfl rfl (.one rfl) rfl (fun hw3 => (VOk.g (VOk.to (VOk.fieldB rfl Try.underlying27 rfl sz9 rfl rfl) rfl))) ?_
   refine OpsOk.consI rfl rfl rfl (.one rfl) rfl (fun hw3 => (GOk.fr (fr':=[(25,(.bref 3 5))]) ⟨DLe.of_eq (cT hw3).symm,trivial⟩ (VOk.g (VOk.loadB (d:=(S a1.Text)) rfl Try.underlying9 rfl rfl rfl rfl)))) ?_
   refine OpsOk.consI rfl rfl rfl (.one rfl) rfl (fun hw3 => (GOk.fr (fr':=[(24,(S a0.Text)),(26,(S a1.Text))]) ⟨DLe.of_eq (cT hw3).symm,DLe.of_eq (cT hw3).symm,trivial⟩ (VOk.g (VOk.strOp (op:=.neq) (a:=a0.Text) (b:=a1.Text) rfl rfl rfl rfl)))) ?_
   refine .cv (VOk.to (VOk.pickI (b:=((a0.Kind != a1.Kind) || (!(a0.Name.Space == a1.Name.Space && (a0.Name.Local == a1.Name.Local && true))))) (p:=true) (q:=(!(a0.Text == a1.Text))) rfl rfl (fun hp4 => rfl) (fun hp4 => (cT (f_beq hp4)))) (pickOr ((a0.Kind != a1.Kind) || (!(a0.Name.Space == a1.Name.Space && (a0.Name.Local == a1.Name.Local && true)))) (!(a0.Text == a1.Text)))) rfl rfl ?_
   refine .rn 1 ?_
   refine OpsOk.consI rfl rfl rfl (.one rfl) rfl (fun hw5 => (VOk.g (VOk.to (VOk.fieldB rfl Try.underlying27 rfl sz24 rfl rfl) rfl))) ?_
   refine OpsOk.consI rfl rfl rfl (.one rfl) rfl (fun hw5 => (GOk.fr (fr':=[(30,(.bref 2 3))]) ⟨DLe.of_eq (cT hw5).symm,trivial⟩ (VOk.g (VOk.loadB (d:=(L 3 e_api_Attr a0.Attrs)) rfl Try.underlying24 rfl rfl rfl rfl)))) ?_
   refine OpsOk.consI rfl rfl rfl (.one rfl) rfl (fun hw5 => (GOk.fr (fr':=[(31,(L 3 e_api_Attr a0.Attrs))]) ⟨DLe.of_eq (cT hw5).symm,trivial⟩ (VOk.g (VOk.lenL (e:=e_api_Attr) (xs:=a0.Attrs) rfl Try.underlying24 rfl)))) ?_
   refine OpsOk.consI rfl rfl rfl (.one rfl) rfl (fun hw5 => (VOk.g (VOk.to (VOk.fieldB rfl Try.underlying27 rfl sz24 rfl rfl) rfl))) ?_
   refine OpsOk.consI rfl rfl rfl (.one rfl) rfl (fun hw5 => (GOk.fr (fr':=[(33,(.bref 3 3))]) ⟨DLe.of_eq (cT hw5).symm,trivial⟩ (VOk.g (VOk.loadB (d:=(L 3 e_api_Attr a1.Attrs)) rfl Try.underlying24 rfl rfl rfl rfl)))) ?_
   refine OpsOk.consI rfl rfl rfl (.one rfl) rfl (fun hw5 => (GOk.fr (fr':=[(34,(L 3 e_api_Attr a1.Attrs))]) ⟨DLe.of_eq (cT hw5).symm,trivial⟩ (VOk.g (VOk.lenL (e:=e_api_Attr) (xs:=a1.Attrs) rfl Try.underlying24 rfl)))) ?_
   refine OpsOk.consI rfl rfl rfl (.one rfl) rfl (fun hw5 => (GOk.fr (fr':=[(32,(.v (.int .i64 (a0.Attrs.length:Int)))),(35,(.v (.int .i64 (a1.Attrs.length:Int))))]) ⟨DLe.of_eq (cT hw5).symm,DLe.of_eq (cT hw5).symm,trivial⟩ (VOk.g (VOk.arith (op:=.neq) (k:=.i64) (a:=(a0.Attrs.length:Int)) (b:=(a1.Attrs.length:Int)) rfl rfl rfl rfl)))) ?_
   refine .cv (VOk.to (VOk.pickI (b:=(((a0.Kind != a1.Kind) || (!(a0.Name.Space == a1.Name.Space && (a0.Name.Local == a1.Name.Local && true)))) || (!(a0.Text == a1.Text)))) (p:=true) (q:=((a0.Attrs.length:Int) != (a1.Attrs.length:Int))) rfl rfl (fun hp6 => rfl) (fun hp6 => (cT (f_beq hp6)))) (pickOr (((a0.Kind != a1.Kind) || (!(a0.Name.Space == a1.Name.Space && (a0.Name.Local == a1.Name.Local && true)))) || (!(a0.Text == a1.Text))) ((a0.Attrs.length:Int) != (a1.Attrs.length:Int)))) rfl rfl ?_
   refine .rn 1 ?_
   refine OpsOk.consI rfl rfl rfl (.one rfl) rfl (fun hw7 => (VOk.g (VOk.to (VOk.fieldB rfl Try.underlying27 rfl sz25 rfl rfl) rfl))) ?_
   refine OpsOk.consI rfl rfl rfl (.one rfl) rfl (fun hw7 => (GOk.fr (fr':=[(39,(.bref 2 4))]) ⟨DLe.of_eq (cT hw7).symm,trivial⟩ (VOk.g (VOk.loadB (d:=(L 6 e_api_Node a0.Kids)) rfl Try.underlying25 rfl rfl rfl rfl)))) ?_
   refine OpsOk.consI rfl rfl rfl (.one rfl) rfl (fun hw7 => (GOk.fr (fr':=[(40,(L 6 e_api_Node a0.Kids))]) ⟨DLe.of_eq (cT hw7).symm,trivial⟩ (VOk.g (VOk.lenL (e:=e_api_Node) (xs:=a0.Kids) rfl Try.underlying25 rfl)))) ?_
   refine OpsOk.consI rfl rfl rfl (.one rfl) rfl (fun hw7 => (VOk.g (VOk.to (VOk.fieldB rfl Try.underlying27 rfl sz25 rfl rfl) rfl))) ?_
   refine OpsOk.consI rfl rfl rfl (.one rfl) rfl (fun hw7 => (GOk.fr (fr':=[(42,(.bref 3 4))]) ⟨DLe.of_eq (cT hw7).symm,trivial⟩ (VOk.g (VOk.loadB (d:=(L 6 e_api_Node a1.Kids)) rfl Try.underlying25 rfl rfl rfl rfl)))) ?_
   refine OpsOk.consI rfl rfl rfl (.one rfl) rfl (fun hw7 => (GOk.fr (fr':=[(43,(L 6 e_api_Node a1.Kids))]) ⟨DLe.of_eq (cT hw7).symm,trivial⟩ (VOk.g (VOk.lenL (e:=e_api_Node) (xs:=a1.Kids) rfl Try.underlying25 rfl)))) ?_
   refine OpsOk.consI rfl rfl rfl (.one rfl) rfl (fun hw7 => (GOk.fr (fr':=[(41,(.v (.int .i64 (a0.Kids.length:Int)))),(44,(.v (.int .i64 (a1.Kids.length:Int))))]) ⟨DLe.of_eq (cT hw7).symm,DLe.of_eq (cT hw7).symm,trivial⟩ (VOk.g (VOk.arith (op:=.neq) (k:=.i64) (a:=(a0.Kids.length:Int)) (b:=(a1.Kids.length:Int)) rfl rfl rfl rfl)))) ?_
   refine .cv (VOk.to (VOk.pickI (b:=((((a0.Kind != a1.Kind) || (!(a0.Name.Space == a1.Name.Space && (a0.Name.Local == a1.Name.Local && true)))) || (!(a0.Text == a1.Text))) || ((a0.Attrs.length:Int) != (a1.Attrs.length:Int)))) (p:=true) (q:=((a0.Kids.length:Int) != (a1.Kids.length:Int))) rfl rfl (fun hp8 => rfl) (fun hp8 => (cT (f_beq hp8)))) (pickOr ((((a0.Kind != a1.Kind) || (!(a0.Name.Space == a1.Name.Space && (a0.Name.Local == a1.Name.Local && true)))) || (!(a0.Text == a1.Text))) || ((a0.Attrs.length:Int) != (a1.Attrs.length:Int))) ((a0.Kids.length:Int) != (a1.Kids.length:Int)))) rfl rfl ?_
   exact .dn
  refine Ok.test (b:=(((((a0.Kind != a1.Kind) || (!(a0.Name.Space == a1.Name.Space && (a0.Name.Local == a1.Name.Local && true)))) || (!(a0.Text == a1.Text))) || ((a0.Attrs.length:Int) != (a1.Attrs.length:Int))) || ((a0.Kids.length:Int) != (a1.Kids.length:Int)))) rfl (fun hb110 => ?_) (fun hb110 => ?_)
  ·replace H:=ifT H hb110
   refine Ok.seq ?_
   refine .rg [(4,(.v (.bool false)))] [] ?_
   refine Ok.ret ?_
   obtain rfl:=Option.some.inj H
   exact⟨.inl rfl,⟨_,(.cons (.tmp rfl) .nil),rfl⟩,trivial⟩
  ·replace H:=ifF H hb110
   refine Ok.skip ?_
   refine Ok.seq ?_
   refine Ok.seq ?_
   refine .rg [(2,(.bref 2 0)),(3,(.bref 3 0)),(5,(.v (.int .i64 0)))] [(2,(bxN a0)),(3,(bxN a1))] ?_
   refine Ok.block ?_
   refine Ok.loop (fun m35 σ => ∃ (y2_0_10:Int) (y2_1_11:Str) (y2_2_12:Str) (y2_3_13:List T_api_Attr) (y2_4_14:List T_api_Node) (y2_5_15:Str) (y3_0_16:Int) (y3_1_17:Str) (y3_2_18:Str) (y3_3_19:List T_api_Attr) (y3_4_20:List T_api_Node) (y3_5_21:Str) (x5_9:Int),σ=⟨[(2,(.bref 2 0)),(3,(.bref 3 0)),(5,(.v (.int .i64 x5_9)))],[(2,(.box .ex [(.v (.int .i64 y2_0_10)),(S y2_1_11),(S y2_2_12),(L 3 e_api_Attr y2_3_13),(L 6 e_api_Node y2_4_14),(S y2_5_15)])),(3,(.box .ex [(.v (.int .i64 y3_0_16)),(S y3_1_17),(S y3_2_18),(L 3 e_api_Attr y3_3_19),(L 6 e_api_Node y3_4_20),(S y3_5_21)]))]⟩ ∧ watchbillref04_Same.l0 k (watchbillref04_Same k) m35 y2_0_10 y2_1_11 y2_2_12 y2_3_13 y2_4_14 y2_5_15 y3_0_16 y3_1_17 y3_2_18 y3_3_19 y3_4_20 y3_5_21 x5_9=some r) k ⟨a0.Kind,a0.Name.Space,a0.Name.Local,a0.Attrs,a0.Kids,a0.Text,a1.Kind,a1.Name.Space,a1.Name.Local,a1.Attrs,a1.Kids,a1.Text,0,rfl,H⟩ ?_
   rintro m35 σ ⟨y2_0_10,y2_1_11,y2_2_12,y2_3_13,y2_4_14,y2_5_15,y3_0_16,y3_1_17,y3_2_18,y3_3_19,y3_4_20,y3_5_21,x5_9,rfl,H⟩
   cases m35 with
   | zero => exact absurd H (by simp [watchbillref04_Same.l0])
   | succ m35 =>
    unfold watchbillref04_Same.l0 at H
    refine Ok.seq ?_
    refine Ok.seq ?_
    refine Ok.region (σ':=⟨[(2,(.bref 2 0)),(3,(.bref 3 0)),(5,(.v (.int .i64 x5_9))),(51,(.v (.bool (decide (x5_9 < (y2_3_13.length:Int))))))],[(2,(.box .ex [(.v (.int .i64 y2_0_10)),(S y2_1_11),(S y2_2_12),(L 3 e_api_Attr y2_3_13),(L 6 e_api_Node y2_4_14),(S y2_5_15)])),(3,(.box .ex [(.v (.int .i64 y3_0_16)),(S y3_1_17),(S y3_2_18),(L 3 e_api_Attr y3_3_19),(L 6 e_api_Node y3_4_20),(S y3_5_21)]))]⟩) ?_ ?_
    ·refine .rn 3 ?_
     refine .cv (VOk.lenL (e:=e_api_Attr) (xs:=y2_3_13) rfl Try.underlying24 rfl) rfl rfl ?_
     refine .rn 1 ?_
     exact .dn
    refine Ok.test (b:=(decide (x5_9 < (y2_3_13.length:Int)))) rfl (fun hb109 => ?_) (fun hb109 => ?_)
    ·replace H:=ifT H hb109
     refine Ok.skip ?_
     refine Ok.seq ?_
     refine Ok.block ?_
     refine Ok.seq ?_
     refine .rg [(2,(.bref 2 0)),(3,(.bref 3 0)),(5,(.v (.int .i64 x5_9))),(6,(.v (.int .i64 0))),(7,(.v (.int .i64 0)))] [(2,(.box .ex [(.v (.int .i64 y2_0_10)),(S y2_1_11),(S y2_2_12),(L 3 e_api_Attr y2_3_13),(L 6 e_api_Node y2_4_14),(S y2_5_15)])),(3,(.box .ex [(.v (.int .i64 y3_0_16)),(S y3_1_17),(S y3_2_18),(L 3 e_api_Attr y3_3_19),(L 6 e_api_Node y3_4_20),(S y3_5_21)]))] ?_
     refine Ok.seq ?_
     refine Ok.seq ?_
     refine .rg [(2,(.bref 2 0)),(3,(.bref 3 0)),(5,(.v (.int .i64 x5_9))),(6,(.v (.int .i64 0))),(7,(.v (.int .i64 0))),(8,(.v (.int .i64 0)))] [(2,(.box .ex [(.v (.int .i64 y2_0_10)),(S y2_1_11),(S y2_2_12),(L 3 e_api_Attr y2_3_13),(L 6 e_api_Node y2_4_14),(S y2_5_15)])),(3,(.box .ex [(.v (.int .i64 y3_0_16)),(S y3_1_17),(S y3_2_18),(L 3 e_api_Attr y3_3_19),(L 6 e_api_Node y3_4_20),(S y3_5_21)]))] ?_
     refine Ok.block ?_
     refine Ok.loop (fun m66 σ => ∃ (y2_0_39:Int) (y2_1_40:Str) (y2_2_41:Str) (y2_3_42:List T_api_Attr) (y2_4_43:List T_api_Node) (y2_5_44:Str) (y3_0_45:Int) (y3_1_46:Str) (y3_2_47:Str) (y3_3_48:List T_api_Attr) (y3_4_49:List T_api_Node) (y3_5_50:Str) (x6_36:Int) (x7_37:Int) (x8_38:Int),σ=⟨[(2,(.bref 2 0)),(3,(.bref 3 0)),(5,(.v (.int .i64 x5_9))),(6,(.v (.int .i64 x6_36))),(7,(.v (.int .i64 x7_37))),(8,(.v (.int .i64 x8_38)))],[(2,(.box .ex [(.v (.int .i64 y2_0_39)),(S y2_1_40),(S y2_2_41),(L 3 e_api_Attr y2_3_42),(L 6 e_api_Node y2_4_43),(S y2_5_44)])),(3,(.box .ex [(.v (.int .i64 y3_0_45)),(S y3_1_46),(S y3_2_47),(L 3 e_api_Attr y3_3_48),(L 6 e_api_Node y3_4_49),(S y3_5_50)]))]⟩ ∧ watchbillref04_Same.l1 k (watchbillref04_Same.l0 k (watchbillref04_Same k) m35) x5_9 m66 y2_0_39 y2_1_40 y2_2_41 y2_3_42 y2_4_43 y2_5_44 y3_0_45 y3_1_46 y3_2_47 y3_3_48 y3_4_49 y3_5_50 x6_36 x7_37 x8_38=some r) k ⟨y2_0_10,y2_1_11,y2_2_12,y2_3_13,y2_4_14,y2_5_15,y3_0_16,y3_1_17,y3_2_18,y3_3_19,y3_4_20,y3_5_21,0,0,0,rfl,H⟩ ?_
     rintro m66 σ ⟨y2_0_39,y2_1_40,y2_2_41,y2_3_42,y2_4_43,y2_5_44,y3_0_45,y3_1_46,y3_2_47,y3_3_48,y3_4_49,y3_5_50,x6_36,x7_37,x8_38,rfl,H⟩
     cases m66 with
     | zero => exact absurd H (by simp [watchbillref04_Same.l1])
     | succ m66 =>
      unfold watchbillref04_Same.l1 at H
      refine Ok.seq ?_
      refine Ok.seq ?_
      refine Ok.region (σ':=⟨[(2,(.bref 2 0)),(3,(.bref 3 0)),(5,(.v (.int .i64 x5_9))),(6,(.v (.int .i64 x6_36))),(7,(.v (.int .i64 x7_37))),(8,(.v (.int .i64 x8_38))),(58,(.v (.bool (decide (x8_38 < (y2_3_42.length:Int))))))],[(2,(.box .ex [(.v (.int .i64 y2_0_39)),(S y2_1_40),(S y2_2_41),(L 3 e_api_Attr y2_3_42),(L 6 e_api_Node y2_4_43),(S y2_5_44)])),(3,(.box .ex [(.v (.int .i64 y3_0_45)),(S y3_1_46),(S y3_2_47),(L 3 e_api_Attr y3_3_48),(L 6 e_api_Node y3_4_49),(S y3_5_50)]))]⟩) ?_ ?_
      ·refine .rn 3 ?_
       refine .cv (VOk.lenL (e:=e_api_Attr) (xs:=y2_3_42) rfl Try.underlying24 rfl) rfl rfl ?_
       refine .rn 1 ?_
       exact .dn
      refine Ok.test (b:=(decide (x8_38 < (y2_3_42.length:Int)))) rfl (fun hb75 => ?_) (fun hb75 => ?_)
      ·replace H:=ifT H hb75
       refine Ok.skip ?_
       refine Ok.seq ?_
       refine Ok.block ?_
       refine Ok.meet (fun σ => ∃ (x6_67:Int),σ=⟨[(2,(.bref 2 0)),(3,(.bref 3 0)),(5,(.v (.int .i64 x5_9))),(6,(.v (.int .i64 x6_67))),(7,(.v (.int .i64 x7_37))),(8,(.v (.int .i64 x8_38)))],[(2,(.box .ex [(.v (.int .i64 y2_0_39)),(S y2_1_40),(S y2_2_41),(L 3 e_api_Attr y2_3_42),(L 6 e_api_Node y2_4_43),(S y2_5_44)])),(3,(.box .ex [(.v (.int .i64 y3_0_45)),(S y3_1_46),(S y3_2_47),(L 3 e_api_Attr y3_3_48),(L 6 e_api_Node y3_4_49),(S y3_5_50)]))]⟩ ∧ watchbillref04_Same.j2 (watchbillref04_Same.l1 k (watchbillref04_Same.l0 k (watchbillref04_Same k) m35) x5_9 m66) x5_9 y2_0_39 y2_1_40 y2_2_41 y2_3_42 y2_4_43 y2_5_44 y3_0_45 y3_1_46 y3_2_47 y3_3_48 y3_4_49 y3_5_50 x7_37 x8_38 x6_67=some r) ?_ ?_
       ·refine Ok.seq ?_
        obtain⟨c71,H⟩:=assertE H
        obtain⟨c72,H⟩:=assertE H
        refine .dA [(2,(.bref 2 0)),(3,(.bref 3 0)),(5,(.v (.int .i64 x5_9))),(6,(.v (.int .i64 x6_36))),(7,(.v (.int .i64 x7_37))),(8,(.v (.int .i64 x8_38))),(71,(.v (.bool ((rd y2_3_42 x8_38).Name.Space == (rd y2_3_42 x5_9).Name.Space && ((rd y2_3_42 x8_38).Name.Local == (rd y2_3_42 x5_9).Name.Local && ((rd y2_3_42 x8_38).Value == (rd y2_3_42 x5_9).Value && true))))))] [(2,(.box .ex [(.v (.int .i64 y2_0_39)),(S y2_1_40),(S y2_2_41),(L 3 e_api_Attr y2_3_42),(L 6 e_api_Node y2_4_43),(S y2_5_44)])),(3,(.box .ex [(.v (.int .i64 y3_0_45)),(S y3_1_46),(S y3_2_47),(L 3 e_api_Attr y3_3_48),(L 6 e_api_Node y3_4_49),(S y3_5_50)]))] [[],[0],[],[1,2],[3],[],[5],[],[6,7],[8],[4,9]] mixed ?_ ?_
        ·refine .tn 3 ?_
         refine .tc (VOk.g (VOk.indexL (sz:=3) (e:=e_api_Attr) (xs:=y2_3_42) (i:=x8_38) rfl Try.underlying24 sz68 rfl rfl c71)) ?_
         refine .tn 4 ?_
         refine .tc (VOk.g (VOk.indexL (sz:=3) (e:=e_api_Attr) (xs:=y2_3_42) (i:=x5_9) rfl Try.underlying24 sz68 rfl rfl c72)) ?_
         refine .tn 1 ?_
         refine .tc (VOk.g (VOk.eqS' (op:=.eql) (d:=(.v (.bool ((rd y2_3_42 x8_38).Name.Space == (rd y2_3_42 x5_9).Name.Space && ((rd y2_3_42 x8_38).Name.Local == (rd y2_3_42 x5_9).Name.Local && ((rd y2_3_42 x8_38).Value == (rd y2_3_42 x5_9).Value && true)))))) rfl (.inl rfl) (eqt68 9997) ag68 eg68 rfl rfl rfl rfl)) ?_
         exact .dn
        refine Ok.test (b:=((rd y2_3_42 x8_38).Name.Space == (rd y2_3_42 x5_9).Name.Space && ((rd y2_3_42 x8_38).Name.Local == (rd y2_3_42 x5_9).Name.Local && ((rd y2_3_42 x8_38).Value == (rd y2_3_42 x5_9).Value && true)))) rfl (fun hb73 => ?_) (fun hb73 => ?_)
        ·replace H:=ifT H hb73
         refine .rg [(2,(.bref 2 0)),(3,(.bref 3 0)),(5,(.v (.int .i64 x5_9))),(6,(.v (.int .i64 (IntKind.i64.wrap (x6_36 + 1))))),(7,(.v (.int .i64 x7_37))),(8,(.v (.int .i64 x8_38)))] [(2,(.box .ex [(.v (.int .i64 y2_0_39)),(S y2_1_40),(S y2_2_41),(L 3 e_api_Attr y2_3_42),(L 6 e_api_Node y2_4_43),(S y2_5_44)])),(3,(.box .ex [(.v (.int .i64 y3_0_45)),(S y3_1_46),(S y3_2_47),(L 3 e_api_Attr y3_3_48),(L 6 e_api_Node y3_4_49),(S y3_5_50)]))] ?_
         exact⟨(IntKind.i64.wrap (x6_36 + 1)),rfl,H⟩
        ·replace H:=ifF H hb73
         refine Ok.le (σ':=⟨[(2,(.bref 2 0)),(3,(.bref 3 0)),(5,(.v (.int .i64 x5_9))),(6,(.v (.int .i64 x6_36))),(7,(.v (.int .i64 x7_37))),(8,(.v (.int .i64 x8_38)))],[(2,(.box .ex [(.v (.int .i64 y2_0_39)),(S y2_1_40),(S y2_2_41),(L 3 e_api_Attr y2_3_42),(L 6 e_api_Node y2_4_43),(S y2_5_44)])),(3,(.box .ex [(.v (.int .i64 y3_0_45)),(S y3_1_46),(S y3_2_47),(L 3 e_api_Attr y3_3_48),(L 6 e_api_Node y3_4_49),(S y3_5_50)]))]⟩) (.rf rfl rfl) ?_
         refine Ok.skip ?_
         exact⟨x6_36,rfl,H⟩
       ·rintro σ ⟨x6_67,rfl,H⟩
        unfold watchbillref04_Same.j2 at H
        refine Ok.seq ?_
        obtain⟨c68,H⟩:=assertE H
        obtain⟨c69,H⟩:=assertE H
        refine .dA [(2,(.bref 2 0)),(3,(.bref 3 0)),(5,(.v (.int .i64 x5_9))),(6,(.v (.int .i64 x6_67))),(7,(.v (.int .i64 x7_37))),(8,(.v (.int .i64 x8_38))),(84,(.v (.bool ((rd y3_3_48 x8_38).Name.Space == (rd y2_3_42 x5_9).Name.Space && ((rd y3_3_48 x8_38).Name.Local == (rd y2_3_42 x5_9).Name.Local && ((rd y3_3_48 x8_38).Value == (rd y2_3_42 x5_9).Value && true))))))] [(2,(.box .ex [(.v (.int .i64 y2_0_39)),(S y2_1_40),(S y2_2_41),(L 3 e_api_Attr y2_3_42),(L 6 e_api_Node y2_4_43),(S y2_5_44)])),(3,(.box .ex [(.v (.int .i64 y3_0_45)),(S y3_1_46),(S y3_2_47),(L 3 e_api_Attr y3_3_48),(L 6 e_api_Node y3_4_49),(S y3_5_50)]))] [[],[0],[],[1,2],[3],[],[5],[],[6,7],[8],[4,9]] mixed ?_ ?_
        ·refine .tn 3 ?_
         refine .tc (VOk.g (VOk.indexL (sz:=3) (e:=e_api_Attr) (xs:=y3_3_48) (i:=x8_38) rfl Try.underlying24 sz68 rfl rfl c68)) ?_
         refine .tn 4 ?_
         refine .tc (VOk.g (VOk.indexL (sz:=3) (e:=e_api_Attr) (xs:=y2_3_42) (i:=x5_9) rfl Try.underlying24 sz68 rfl rfl c69)) ?_
         refine .tn 1 ?_
         refine .tc (VOk.g (VOk.eqS' (op:=.eql) (d:=(.v (.bool ((rd y3_3_48 x8_38).Name.Space == (rd y2_3_42 x5_9).Name.Space && ((rd y3_3_48 x8_38).Name.Local == (rd y2_3_42 x5_9).Name.Local && ((rd y3_3_48 x8_38).Value == (rd y2_3_42 x5_9).Value && true)))))) rfl (.inl rfl) (eqt68 9997) ag68 eg68 rfl rfl rfl rfl)) ?_
         exact .dn
        refine Ok.test (b:=((rd y3_3_48 x8_38).Name.Space == (rd y2_3_42 x5_9).Name.Space && ((rd y3_3_48 x8_38).Name.Local == (rd y2_3_42 x5_9).Name.Local && ((rd y3_3_48 x8_38).Value == (rd y2_3_42 x5_9).Value && true)))) rfl (fun hb70 => ?_) (fun hb70 => ?_)
        ·replace H:=ifT H hb70
         refine .rg [(2,(.bref 2 0)),(3,(.bref 3 0)),(5,(.v (.int .i64 x5_9))),(6,(.v (.int .i64 x6_67))),(7,(.v (.int .i64 (IntKind.i64.wrap (x7_37 + 1))))),(8,(.v (.int .i64 x8_38)))] [(2,(.box .ex [(.v (.int .i64 y2_0_39)),(S y2_1_40),(S y2_2_41),(L 3 e_api_Attr y2_3_42),(L 6 e_api_Node y2_4_43),(S y2_5_44)])),(3,(.box .ex [(.v (.int .i64 y3_0_45)),(S y3_1_46),(S y3_2_47),(L 3 e_api_Attr y3_3_48),(L 6 e_api_Node y3_4_49),(S y3_5_50)]))] ?_
         refine .rg [(2,(.bref 2 0)),(3,(.bref 3 0)),(5,(.v (.int .i64 x5_9))),(6,(.v (.int .i64 x6_67))),(7,(.v (.int .i64 (IntKind.i64.wrap (x7_37 + 1))))),(8,(.v (.int .i64 (IntKind.i64.wrap (x8_38 + 1)))))] [(2,(.box .ex [(.v (.int .i64 y2_0_39)),(S y2_1_40),(S y2_2_41),(L 3 e_api_Attr y2_3_42),(L 6 e_api_Node y2_4_43),(S y2_5_44)])),(3,(.box .ex [(.v (.int .i64 y3_0_45)),(S y3_1_46),(S y3_2_47),(L 3 e_api_Attr y3_3_48),(L 6 e_api_Node y3_4_49),(S y3_5_50)]))] ?_
         exact⟨m66,Nat.lt_succ_self m66,y2_0_39,y2_1_40,y2_2_41,y2_3_42,y2_4_43,y2_5_44,y3_0_45,y3_1_46,y3_2_47,y3_3_48,y3_4_49,y3_5_50,x6_67,(IntKind.i64.wrap (x7_37 + 1)),(IntKind.i64.wrap (x8_38 + 1)),rfl,H⟩
        ·replace H:=ifF H hb70
         refine Ok.skip ?_
         refine .rg [(2,(.bref 2 0)),(3,(.bref 3 0)),(5,(.v (.int .i64 x5_9))),(6,(.v (.int .i64 x6_67))),(7,(.v (.int .i64 x7_37))),(8,(.v (.int .i64 (IntKind.i64.wrap (x8_38 + 1)))))] [(2,(.box .ex [(.v (.int .i64 y2_0_39)),(S y2_1_40),(S y2_2_41),(L 3 e_api_Attr y2_3_42),(L 6 e_api_Node y2_4_43),(S y2_5_44)])),(3,(.box .ex [(.v (.int .i64 y3_0_45)),(S y3_1_46),(S y3_2_47),(L 3 e_api_Attr y3_3_48),(L 6 e_api_Node y3_4_49),(S y3_5_50)]))] ?_
         exact⟨m66,Nat.lt_succ_self m66,y2_0_39,y2_1_40,y2_2_41,y2_3_42,y2_4_43,y2_5_44,y3_0_45,y3_1_46,y3_2_47,y3_3_48,y3_4_49,y3_5_50,x6_67,x7_37,(IntKind.i64.wrap (x8_38 + 1)),rfl,H⟩
      ·replace H:=ifF H hb75
       refine Ok.exit ?_
       refine Ok.seq ?_
       refine .rg [(2,(.bref 2 0)),(3,(.bref 3 0)),(5,(.v (.int .i64 x5_9))),(89,(.v (.bool (x6_36 != x7_37))))] [(2,(.box .ex [(.v (.int .i64 y2_0_39)),(S y2_1_40),(S y2_2_41),(L 3 e_api_Attr y2_3_42),(L 6 e_api_Node y2_4_43),(S y2_5_44)])),(3,(.box .ex [(.v (.int .i64 y3_0_45)),(S y3_1_46),(S y3_2_47),(L 3 e_api_Attr y3_3_48),(L 6 e_api_Node y3_4_49),(S y3_5_50)]))] ?_
       refine Ok.test (b:=(x6_36 != x7_37)) rfl (fun hb74 => ?_) (fun hb74 => ?_)
       ·replace H:=ifT H hb74
        refine Ok.seq ?_
        refine .rg [(4,(.v (.bool false)))] [] ?_
        refine Ok.ret ?_
        obtain rfl:=Option.some.inj H
        exact⟨.inl rfl,⟨_,(.cons (.tmp rfl) .nil),rfl⟩,trivial⟩
       ·replace H:=ifF H hb74
        refine Ok.skip ?_
        refine .rg [(2,(.bref 2 0)),(3,(.bref 3 0)),(5,(.v (.int .i64 (IntKind.i64.wrap (x5_9 + 1)))))] [(2,(.box .ex [(.v (.int .i64 y2_0_39)),(S y2_1_40),(S y2_2_41),(L 3 e_api_Attr y2_3_42),(L 6 e_api_Node y2_4_43),(S y2_5_44)])),(3,(.box .ex [(.v (.int .i64 y3_0_45)),(S y3_1_46),(S y3_2_47),(L 3 e_api_Attr y3_3_48),(L 6 e_api_Node y3_4_49),(S y3_5_50)]))] ?_
        exact⟨m35,Nat.lt_succ_self m35,y2_0_39,y2_1_40,y2_2_41,y2_3_42,y2_4_43,y2_5_44,y3_0_45,y3_1_46,y3_2_47,y3_3_48,y3_4_49,y3_5_50,(IntKind.i64.wrap (x5_9 + 1)),rfl,H⟩
    ·replace H:=ifF H hb109
     refine Ok.exit ?_
     refine Ok.seq ?_
     refine Ok.seq ?_
     refine .rg [(2,(.bref 2 0)),(3,(.bref 3 0)),(9,(.v (.int .i64 0)))] [(2,(.box .ex [(.v (.int .i64 y2_0_10)),(S y2_1_11),(S y2_2_12),(L 3 e_api_Attr y2_3_13),(L 6 e_api_Node y2_4_14),(S y2_5_15)])),(3,(.box .ex [(.v (.int .i64 y3_0_16)),(S y3_1_17),(S y3_2_18),(L 3 e_api_Attr y3_3_19),(L 6 e_api_Node y3_4_20),(S y3_5_21)]))] ?_
     refine Ok.block ?_
     refine Ok.loop (fun m102 σ => ∃ (y2_0_77:Int) (y2_1_78:Str) (y2_2_79:Str) (y2_3_80:List T_api_Attr) (y2_4_81:List T_api_Node) (y2_5_82:Str) (y3_0_83:Int) (y3_1_84:Str) (y3_2_85:Str) (y3_3_86:List T_api_Attr) (y3_4_87:List T_api_Node) (y3_5_88:Str) (x9_76:Int),σ=⟨[(2,(.bref 2 0)),(3,(.bref 3 0)),(9,(.v (.int .i64 x9_76)))],[(2,(.box .ex [(.v (.int .i64 y2_0_77)),(S y2_1_78),(S y2_2_79),(L 3 e_api_Attr y2_3_80),(L 6 e_api_Node y2_4_81),(S y2_5_82)])),(3,(.box .ex [(.v (.int .i64 y3_0_83)),(S y3_1_84),(S y3_2_85),(L 3 e_api_Attr y3_3_86),(L 6 e_api_Node y3_4_87),(S y3_5_88)]))]⟩ ∧ watchbillref04_Same.l3 k (watchbillref04_Same k) m102 y2_0_77 y2_1_78 y2_2_79 y2_3_80 y2_4_81 y2_5_82 y3_0_83 y3_1_84 y3_2_85 y3_3_86 y3_4_87 y3_5_88 x9_76=some r) k ⟨y2_0_10,y2_1_11,y2_2_12,y2_3_13,y2_4_14,y2_5_15,y3_0_16,y3_1_17,y3_2_18,y3_3_19,y3_4_20,y3_5_21,0,rfl,H⟩ ?_
     rintro m102 σ ⟨y2_0_77,y2_1_78,y2_2_79,y2_3_80,y2_4_81,y2_5_82,y3_0_83,y3_1_84,y3_2_85,y3_3_86,y3_4_87,y3_5_88,x9_76,rfl,H⟩
     cases m102 with
     | zero => exact absurd H (by simp [watchbillref04_Same.l3])
     | succ m102 =>
      unfold watchbillref04_Same.l3 at H
      refine Ok.seq ?_
      refine Ok.seq ?_
      refine Ok.region (σ':=⟨[(2,(.bref 2 0)),(3,(.bref 3 0)),(9,(.v (.int .i64 x9_76))),(94,(.v (.bool (decide (x9_76 < (y2_4_81.length:Int))))))],[(2,(.box .ex [(.v (.int .i64 y2_0_77)),(S y2_1_78),(S y2_2_79),(L 3 e_api_Attr y2_3_80),(L 6 e_api_Node y2_4_81),(S y2_5_82)])),(3,(.box .ex [(.v (.int .i64 y3_0_83)),(S y3_1_84),(S y3_2_85),(L 3 e_api_Attr y3_3_86),(L 6 e_api_Node y3_4_87),(S y3_5_88)]))]⟩) ?_ ?_
      ·refine .rn 3 ?_
       refine .cv (VOk.lenL (e:=e_api_Node) (xs:=y2_4_81) rfl Try.underlying25 rfl) rfl rfl ?_
       refine .rn 1 ?_
       exact .dn
      refine Ok.test (b:=(decide (x9_76 < (y2_4_81.length:Int)))) rfl (fun hb108 => ?_) (fun hb108 => ?_)
      ·replace H:=ifT H hb108
       refine Ok.skip ?_
       refine Ok.seq ?_
       refine Ok.block ?_
       refine Ok.seq ?_
       obtain⟨c103,H⟩:=assertE H
       obtain⟨c104,H⟩:=assertE H
       obtain⟨t105,h106,H⟩:=bindE H
       refine .dA [(2,(.bref 2 0)),(3,(.bref 3 0)),(9,(.v (.int .i64 x9_76))),(108,(.v (.bool (!t105))))] [(2,(.box .ex [(.v (.int .i64 y2_0_77)),(S y2_1_78),(S y2_2_79),(L 3 e_api_Attr y2_3_80),(L 6 e_api_Node y2_4_81),(S y2_5_82)])),(3,(.box .ex [(.v (.int .i64 y3_0_83)),(S y3_1_84),(S y3_2_85),(L 3 e_api_Attr y3_3_86),(L 6 e_api_Node y3_4_87),(S y3_5_88)]))] [[],[0],[],[1,2],[3],[],[5],[],[6,7],[8],[4,9],[10]] mixed ?_ ?_
       ·refine .tn 3 ?_
        refine .tc (VOk.g (VOk.indexL (sz:=6) (e:=e_api_Node) (xs:=y2_4_81) (i:=x9_76) rfl Try.underlying25 sz27 rfl rfl c103)) ?_
        refine .tn 4 ?_
        refine .tc (VOk.g (VOk.indexL (sz:=6) (e:=e_api_Node) (xs:=y3_4_87) (i:=x9_76) rfl Try.underlying25 sz27 rfl rfl c104)) ?_
        refine .tn 1 ?_
        refine .tc (GOk.call rfl rfl cl29 rfl (@ih _ _ _ h106) rfl) ?_
        refine .tn 1 ?_
        exact .dn
       refine Ok.test (b:=(!t105)) rfl (fun hb107 => ?_) (fun hb107 => ?_)
       ·replace H:=ifT H hb107
        refine Ok.seq ?_
        refine .rg [(4,(.v (.bool false)))] [] ?_
        refine Ok.ret ?_
        obtain rfl:=Option.some.inj H
        exact⟨.inl rfl,⟨_,(.cons (.tmp rfl) .nil),rfl⟩,trivial⟩
       ·replace H:=ifF H hb107
        refine Ok.skip ?_
        refine .rg [(2,(.bref 2 0)),(3,(.bref 3 0)),(9,(.v (.int .i64 (IntKind.i64.wrap (x9_76 + 1)))))] [(2,(.box .ex [(.v (.int .i64 y2_0_77)),(S y2_1_78),(S y2_2_79),(L 3 e_api_Attr y2_3_80),(L 6 e_api_Node y2_4_81),(S y2_5_82)])),(3,(.box .ex [(.v (.int .i64 y3_0_83)),(S y3_1_84),(S y3_2_85),(L 3 e_api_Attr y3_3_86),(L 6 e_api_Node y3_4_87),(S y3_5_88)]))] ?_
        exact⟨m102,Nat.lt_succ_self m102,y2_0_77,y2_1_78,y2_2_79,y2_3_80,y2_4_81,y2_5_82,y3_0_83,y3_1_84,y3_2_85,y3_3_86,y3_4_87,y3_5_88,(IntKind.i64.wrap (x9_76 + 1)),rfl,H⟩
      ·replace H:=ifF H hb108
       refine Ok.exit ?_
       refine Ok.seq ?_
       refine .rg [(4,(.v (.bool true)))] [] ?_
       refine Ok.ret ?_
       obtain rfl:=Option.some.inj H
       exact⟨.inl rfl,⟨_,(.cons (.tmp rfl) .nil),rfl⟩,trivial⟩
def watchbillref02_Same.l0 (k:Nat) (a0:List T_api_Attr) (a1:List T_api_Attr):Nat→Int→Option Bool
 | 0,_ => none
 | m3 + 1,x5_1 => (if (decide (x5_1 < (a0.length:Int)))=true then (if (0:Int) ≤ x5_1 ∧ x5_1 < (a0.length:Int) then (if (0:Int) ≤ x5_1 ∧ x5_1 < (a1.length:Int) then (if (!((rd a0 x5_1).Name.Space == (rd a1 x5_1).Name.Space && ((rd a0 x5_1).Name.Local == (rd a1 x5_1).Name.Local && ((rd a0 x5_1).Value == (rd a1 x5_1).Value && true))))=true then some false else watchbillref02_Same.l0 k a0 a1 m3 (IntKind.i64.wrap (x5_1 + 1))) else none) else none) else some true)
def watchbillref02_Same (k:Nat) (a0:List T_api_Attr) (a1:List T_api_Attr):Option Bool:=(if ((a0.length:Int) != (a1.length:Int))=true then some false else watchbillref02_Same.l0 k a0 a1 k 0)
theorem watchbillref02_Same.ok {k:Nat} {a0:List T_api_Attr} {a1:List T_api_Attr} {r:Bool} (H:watchbillref02_Same k a0 a1=some r):Vx.Fn Try.prog 30 [(L 3 e_api_Attr a0),(L 3 e_api_Attr a1)] [] (.v (.bool r)) []:=by
 unfold watchbillref02_Same at H
 refine Vx.Fn.of_okR Try.func30 rfl (Nat.le_of_ble_eq_true rfl) ?_
 refine Ok.seq ?_
 refine .rg [(0,(L 3 e_api_Attr a0)),(1,(L 3 e_api_Attr a1))] [] ?_
 refine Ok.seq ?_
 refine Ok.seq ?_
 refine Ok.region (σ':=⟨[(0,(L 3 e_api_Attr a0)),(1,(L 3 e_api_Attr a1)),(10,(.v (.bool ((a0.length:Int) != (a1.length:Int)))))],[]⟩) ?_ ?_
 ·refine .rn 1 ?_
  refine .cv (VOk.lenL (e:=e_api_Attr) (xs:=a0) rfl Try.underlying24 rfl) rfl rfl ?_
  refine .rn 1 ?_
  refine .cv (VOk.lenL (e:=e_api_Attr) (xs:=a1) rfl Try.underlying24 rfl) rfl rfl ?_
  refine .rn 1 ?_
  exact .dn
 refine Ok.test (b:=((a0.length:Int) != (a1.length:Int))) rfl (fun hb8 => ?_) (fun hb8 => ?_)
 ·replace H:=ifT H hb8
  refine Ok.seq ?_
  refine .rg [(4,(.v (.bool false)))] [] ?_
  refine Ok.ret ?_
  obtain rfl:=Option.some.inj H
  exact⟨.inl rfl,⟨_,(.cons (.tmp rfl) .nil),rfl⟩,trivial⟩
 ·replace H:=ifF H hb8
  refine Ok.skip ?_
  refine Ok.seq ?_
  refine Ok.seq ?_
  refine .rg [(0,(L 3 e_api_Attr a0)),(1,(L 3 e_api_Attr a1)),(5,(.v (.int .i64 0)))] [] ?_
  refine Ok.block ?_
  refine Ok.loop (fun m3 σ => ∃ (x5_1:Int),σ=⟨[(0,(L 3 e_api_Attr a0)),(1,(L 3 e_api_Attr a1)),(5,(.v (.int .i64 x5_1)))],[]⟩ ∧ watchbillref02_Same.l0 k a0 a1 m3 x5_1=some r) k ⟨0,rfl,H⟩ ?_
  rintro m3 σ ⟨x5_1,rfl,H⟩
  cases m3 with
  | zero => exact absurd H (by simp [watchbillref02_Same.l0])
  | succ m3 =>
   unfold watchbillref02_Same.l0 at H
   refine Ok.seq ?_
   refine Ok.seq ?_
   refine Ok.region (σ':=⟨[(0,(L 3 e_api_Attr a0)),(1,(L 3 e_api_Attr a1)),(5,(.v (.int .i64 x5_1))),(14,(.v (.bool (decide (x5_1 < (a0.length:Int))))))],[]⟩) ?_ ?_
   ·refine .rn 2 ?_
    refine .cv (VOk.lenL (e:=e_api_Attr) (xs:=a0) rfl Try.underlying24 rfl) rfl rfl ?_
    refine .rn 1 ?_
    exact .dn
   refine Ok.test (b:=(decide (x5_1 < (a0.length:Int)))) rfl (fun hb7 => ?_) (fun hb7 => ?_)
   ·replace H:=ifT H hb7
    refine Ok.skip ?_
    refine Ok.seq ?_
    refine Ok.block ?_
    refine Ok.seq ?_
    obtain⟨c4,H⟩:=assertE H
    obtain⟨c5,H⟩:=assertE H
    refine .dA [(0,(L 3 e_api_Attr a0)),(1,(L 3 e_api_Attr a1)),(5,(.v (.int .i64 x5_1))),(25,(.v (.bool (!((rd a0 x5_1).Name.Space == (rd a1 x5_1).Name.Space && ((rd a0 x5_1).Name.Local == (rd a1 x5_1).Name.Local && ((rd a0 x5_1).Value == (rd a1 x5_1).Value && true)))))))] [] [[],[],[0,1],[2],[],[],[4,5],[6],[3,7]] mixed ?_ ?_
    ·refine .tn 2 ?_
     refine .tc (VOk.g (VOk.indexL (sz:=3) (e:=e_api_Attr) (xs:=a0) (i:=x5_1) rfl Try.underlying24 sz68 rfl rfl c4)) ?_
     refine .tn 3 ?_
     refine .tc (VOk.g (VOk.indexL (sz:=3) (e:=e_api_Attr) (xs:=a1) (i:=x5_1) rfl Try.underlying24 sz68 rfl rfl c5)) ?_
     refine .tn 1 ?_
     refine .tc (VOk.g (VOk.eqS' (op:=.neq) (d:=(.v (.bool (!((rd a0 x5_1).Name.Space == (rd a1 x5_1).Name.Space && ((rd a0 x5_1).Name.Local == (rd a1 x5_1).Name.Local && ((rd a0 x5_1).Value == (rd a1 x5_1).Value && true))))))) rfl (.inr rfl) (eqt68 9997) ag68 eg68 rfl rfl rfl rfl)) ?_
     exact .dn
    refine Ok.test (b:=(!((rd a0 x5_1).Name.Space == (rd a1 x5_1).Name.Space && ((rd a0 x5_1).Name.Local == (rd a1 x5_1).Name.Local && ((rd a0 x5_1).Value == (rd a1 x5_1).Value && true))))) rfl (fun hb6 => ?_) (fun hb6 => ?_)
    ·replace H:=ifT H hb6
     refine Ok.seq ?_
     refine .rg [(4,(.v (.bool false)))] [] ?_
     refine Ok.ret ?_
     obtain rfl:=Option.some.inj H
     exact⟨.inl rfl,⟨_,(.cons (.tmp rfl) .nil),rfl⟩,trivial⟩
    ·replace H:=ifF H hb6
     refine Ok.skip ?_
     refine .rg [(0,(L 3 e_api_Attr a0)),(1,(L 3 e_api_Attr a1)),(5,(.v (.int .i64 (IntKind.i64.wrap (x5_1 + 1)))))] [] ?_
     exact⟨m3,Nat.lt_succ_self m3,(IntKind.i64.wrap (x5_1 + 1)),rfl,H⟩
   ·replace H:=ifF H hb7
    refine Ok.exit ?_
    refine Ok.seq ?_
    refine .rg [(4,(.v (.bool true)))] [] ?_
    refine Ok.ret ?_
    obtain rfl:=Option.some.inj H
    exact⟨.inl rfl,⟨_,(.cons (.tmp rfl) .nil),rfl⟩,trivial⟩
end Go.Proofs.Ytafoiodfflcpeaa.Sh
