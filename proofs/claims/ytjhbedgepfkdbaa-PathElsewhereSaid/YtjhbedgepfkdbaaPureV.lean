import Derived.Test.YtjhbedgepfkdbaaPureZ
import Derived.Test.YtjhbedgepfkdbaaVxKl
namespace Go.Proofs.Ytjhbedgepfkdbaa.Sh
open Go Go.RowKit Go.Proofs.Vx
set_option linter.unusedVariables false
theorem cl52:callable Try.prog 52=true:=by kernel_rfl
theorem hkids1T {f:Nat} {caps:List D} {s:Value} {kd:Int} {sp lo tx:Str} {ats:List T_api_Attr} {l l':List T_api_Node} (hkd:kd=1) {k:Nat} {j:List T_api_Node} (hj:path_joined k l'=some j) (hc:callable Try.prog f=true) (hp:D.pureL caps=true)
  (hF:Vx.Fn Try.prog f (.sref 0 :: caps) [(0,(.rows true 27 6 (l.map e_api_Node)))] (.tup [.sref 0,.v (.bool true)]) [(0,(.rows true 27 6 (l'.map e_api_Node)))]) :
  Vx.Fn Try.prog 51 [.agg [(.v (.int .i64 kd)),(S sp),(S lo),(L 3 e_api_Attr ats),(.v s),(S tx)],.fp [.clo f caps] 0] [(0,.pin s 27 6 (l.map e_api_Node))] (.tup [(.agg (e_HN ⟨kd,sp,lo,ats,j.map e_api_Node,tx⟩)),.v (.bool true)]) []:=by
 rw [show e_HN ⟨kd,sp,lo,ats,j.map e_api_Node,tx⟩=[(.v (.int .i64 kd)),(S sp),(S lo),(L 3 e_api_Attr ats),(L 6 e_api_Node j),(S tx)] from by show [_,_,_,_,L 6 eD _,_]=_; rw [LeD]]
 refine Vx.Fn.of_okR Try.func51 rfl (Nat.le_of_ble_eq_true rfl) ?_
 refine Ok.sle (σ':=⟨[(0,.agg [(.v (.int .i64 kd)),(S sp),(S lo),(L 3 e_api_Attr ats),(.sref 0),(S tx)]),(1,.fp [.clo f caps] 0)],[(0,(.rows true 27 6 (l.map e_api_Node)))]⟩) (SLe.trans (Le.s (.rf rfl rfl)) (SLe.trans (SLe.unpin (s:=s) 0 rfl) (SLe.vref (s:=s) 0 4 0 rfl rfl rfl))) ?_
 refine Ok.seq ?_
 refine .rg [(1,.fp [.clo f caps] 0),(2,(.bref 2 0)),(3,(.bref 3 0))] [(0,(.rows true 27 6 (l.map e_api_Node))),(2,(.box .ex [(.v (.int .i64 kd)),(S sp),(S lo),(L 3 e_api_Attr ats),(.sref 0),(S tx)])),(3,bx0)] ?_
 refine Ok.seq ?_
 refine Ok.region (σ':=⟨[(2,(.bref 2 0)),(3,(.bref 3 0)),(5,(.sref 0)),(6,(.v (.bool true)))],[(0,(.rows true 27 6 (l'.map e_api_Node))),(2,(.box .ex [(.v (.int .i64 kd)),(S sp),(S lo),(L 3 e_api_Attr ats),.junk,(S tx)])),(3,bx0)]⟩) ?_ ?_
 ·refine .rn 3 ?_
  refine OpsOk.cons rfl (OpOk.callRows rfl rfl hc hF rfl rfl hp rfl rfl rfl) ?_
  refine .rn 5 ?_
  exact .dn
 refine Ok.seq ?_
 refine Ok.seq ?_
 refine Ok.region (σ':=⟨[(2,(.bref 2 0)),(3,(.bref 3 0)),(5,(.sref 0)),(20,(.v (.bool ((kd != 1) || (!true)))))],[(0,(.rows true 27 6 (l'.map e_api_Node))),(2,(.box .ex [(.v (.int .i64 kd)),(S sp),(S lo),(L 3 e_api_Attr ats),.junk,(S tx)])),(3,bx0)]⟩) ?_ ?_
 ·refine .rn 4 ?_
  refine OpsOk.consI rfl rfl rfl (.one rfl) rfl (fun hw3 => (VOk.g (VOk.mv (d:=(.v (.bool true))) rfl rfl))) ?_
  refine OpsOk.consI rfl rfl rfl (.one rfl) rfl (fun hw3 => (GOk.fr (fr':=[(18,(.v (.bool true)))]) ⟨DLe.of_eq (cT hw3).symm,trivial⟩ (VOk.g (VOk.not (b:=true) rfl rfl)))) ?_
  refine .cv (VOk.to (VOk.pickI (b:=(kd != 1)) (p:=true) (q:=(!true)) rfl rfl (fun hp4 => rfl) (fun hp4 => (cT (f_beq hp4)))) (pickOr (kd != 1) (!true))) rfl rfl ?_
  exact .dn
 refine Ok.test (b:=((kd != 1) || (!true))) rfl (fun hb7 => ?_) (fun hb7 => ?_)
 ·exact absurd hb7 (by rw [hkd]; decide)
 ·refine Ok.skip ?_
  refine Ok.seq ?_
  refine Ok.frzL 0 (e:=e_api_Node) (xs:=l') rfl ?_
  refine Ok.le (σ':=⟨[(2,(.bref 2 0)),(3,(.bref 3 0)),(5,(L 6 e_api_Node l'))],[(2,(.box .ex [(.v (.int .i64 kd)),(S sp),(S lo),(L 3 e_api_Attr ats),.junk,(S tx)])),(3,bx0)]⟩) (.rf rfl rfl) ?_
  refine Ok.region (σ':=⟨[(2,(.bref 2 0)),(3,(.bref 3 0))],[(2,(.box .ex [(.v (.int .i64 kd)),(S sp),(S lo),(L 3 e_api_Attr ats),(L 6 e_api_Node j),(S tx)])),(3,bx0)]⟩) ?_ ?_
  ·refine .rn 1 ?_
   refine .cg (GOk.call rfl rfl cl52 rfl (path_joined.ok hj) rfl) rfl rfl ?_
   refine .rn 2 ?_
   exact .dn
  refine Ok.seq ?_
  refine .rg [(3,(.bref 3 0)),(4,(.v (.bool true)))] [(3,(.box .ex [(.v (.int .i64 kd)),(S sp),(S lo),(L 3 e_api_Attr ats),(L 6 e_api_Node j),(S tx)]))] ?_
  refine Ok.ret ?_
  exact⟨.inl rfl,⟨_,(.cons (.cell (VOk.to (d':=(.agg [(.v (.int .i64 kd)),(S sp),(S lo),(L 3 e_api_Attr ats),(L 6 e_api_Node j),(S tx)])) (.loadBAgg rfl Try.underlying27 rfl sz27 rfl rfl rfl) rfl)) (.cons (.tmp rfl) .nil)),rfl⟩,trivial⟩
theorem hkids1Fa {f:Nat} {caps:List D} {s:Value} {kd:Int} {sp lo tx:Str} {ats:List T_api_Attr} {l l':List T_api_Node} (hkd:kd ≠ 1) (hc:callable Try.prog f=true) (hp:D.pureL caps=true)
  (hF:Vx.Fn Try.prog f (.sref 0 :: caps) [(0,(.rows true 27 6 (l.map e_api_Node)))] (.tup [.sref 0,.v (.bool true)]) [(0,(.rows true 27 6 (l'.map e_api_Node)))]) :
  Vx.Fn Try.prog 51 [.agg [(.v (.int .i64 kd)),(S sp),(S lo),(L 3 e_api_Attr ats),(.v s),(S tx)],.fp [.clo f caps] 0] [(0,.pin s 27 6 (l.map e_api_Node))] (.tup [(.agg (e_HN hzero)),.v (.bool false)]) []:=by
 refine Vx.Fn.of_okR Try.func51 rfl (Nat.le_of_ble_eq_true rfl) ?_
 refine Ok.sle (σ':=⟨[(0,.agg [(.v (.int .i64 kd)),(S sp),(S lo),(L 3 e_api_Attr ats),(.sref 0),(S tx)]),(1,.fp [.clo f caps] 0)],[(0,(.rows true 27 6 (l.map e_api_Node)))]⟩) (SLe.trans (Le.s (.rf rfl rfl)) (SLe.trans (SLe.unpin (s:=s) 0 rfl) (SLe.vref (s:=s) 0 4 0 rfl rfl rfl))) ?_
 refine Ok.seq ?_
 refine .rg [(1,.fp [.clo f caps] 0),(2,(.bref 2 0)),(3,(.bref 3 0))] [(0,(.rows true 27 6 (l.map e_api_Node))),(2,(.box .ex [(.v (.int .i64 kd)),(S sp),(S lo),(L 3 e_api_Attr ats),(.sref 0),(S tx)])),(3,bx0)] ?_
 refine Ok.seq ?_
 refine Ok.region (σ':=⟨[(2,(.bref 2 0)),(3,(.bref 3 0)),(5,(.sref 0)),(6,(.v (.bool true)))],[(0,(.rows true 27 6 (l'.map e_api_Node))),(2,(.box .ex [(.v (.int .i64 kd)),(S sp),(S lo),(L 3 e_api_Attr ats),.junk,(S tx)])),(3,bx0)]⟩) ?_ ?_
 ·refine .rn 3 ?_
  refine OpsOk.cons rfl (OpOk.callRows rfl rfl hc hF rfl rfl hp rfl rfl rfl) ?_
  refine .rn 5 ?_
  exact .dn
 refine Ok.seq ?_
 refine Ok.seq ?_
 refine Ok.region (σ':=⟨[(2,(.bref 2 0)),(3,(.bref 3 0)),(5,(.sref 0)),(20,(.v (.bool ((kd != 1) || (!true)))))],[(0,(.rows true 27 6 (l'.map e_api_Node))),(2,(.box .ex [(.v (.int .i64 kd)),(S sp),(S lo),(L 3 e_api_Attr ats),.junk,(S tx)])),(3,bx0)]⟩) ?_ ?_
 ·refine .rn 4 ?_
  refine OpsOk.consI rfl rfl rfl (.one rfl) rfl (fun hw3 => (VOk.g (VOk.mv (d:=(.v (.bool true))) rfl rfl))) ?_
  refine OpsOk.consI rfl rfl rfl (.one rfl) rfl (fun hw3 => (GOk.fr (fr':=[(18,(.v (.bool true)))]) ⟨DLe.of_eq (cT hw3).symm,trivial⟩ (VOk.g (VOk.not (b:=true) rfl rfl)))) ?_
  refine .cv (VOk.to (VOk.pickI (b:=(kd != 1)) (p:=true) (q:=(!true)) rfl rfl (fun hp4 => rfl) (fun hp4 => (cT (f_beq hp4)))) (pickOr (kd != 1) (!true))) rfl rfl ?_
  exact .dn
 refine Ok.test (b:=((kd != 1) || (!true))) rfl (fun hb7 => ?_) (fun hb7 => ?_)
 ·refine Ok.seq ?_
  refine Ok.region (σ':=⟨[(3,(.bref 3 0)),(4,(.v (.bool false)))],[(3,bx0)]⟩) ?_ ?_
  ·refine .cv (VOk.to (d':=(.agg z0N)) (.build [none,none,none,some 3,some 6,none] [(0,1),(1,2),(3,1),(4,1),(5,1)] rfl Try.underlying27 (fa27 Try.underlying27) zo27 rfl rfl) rfl) rfl rfl ?_
   refine .rn 2 ?_
   exact .dn
  refine Ok.ret ?_
  exact⟨.inl rfl,⟨_,(.cons (.cell (VOk.to (d':=(.agg (e_HN hzero))) (.loadBAgg rfl Try.underlying27 rfl sz27 rfl rfl rfl) rfl)) (.cons (.tmp rfl) .nil)),rfl⟩,trivial⟩
 ·exact absurd hb7 (by simp [hkd])
theorem hkids1Fb {f:Nat} {caps:List D} {s:Value} {kd:Int} {sp lo tx:Str} {ats:List T_api_Attr} {l:List T_api_Node} (hc:callable Try.prog f=true) (hp:D.pureL caps=true)
  (hF:Vx.Fn Try.prog f (.sref 0 :: caps) [(0,(.rows true 27 6 (l.map e_api_Node)))] (.tup [.v (.slice none 0 0),.v (.bool false)]) []) :
  Vx.Fn Try.prog 51 [.agg [(.v (.int .i64 kd)),(S sp),(S lo),(L 3 e_api_Attr ats),(.v s),(S tx)],.fp [.clo f caps] 0] [(0,.pin s 27 6 (l.map e_api_Node))] (.tup [(.agg (e_HN hzero)),.v (.bool false)]) []:=by
 refine Vx.Fn.of_okR Try.func51 rfl (Nat.le_of_ble_eq_true rfl) ?_
 refine Ok.sle (σ':=⟨[(0,.agg [(.v (.int .i64 kd)),(S sp),(S lo),(L 3 e_api_Attr ats),(.sref 0),(S tx)]),(1,.fp [.clo f caps] 0)],[(0,(.rows true 27 6 (l.map e_api_Node)))]⟩) (SLe.trans (Le.s (.rf rfl rfl)) (SLe.trans (SLe.unpin (s:=s) 0 rfl) (SLe.vref (s:=s) 0 4 0 rfl rfl rfl))) ?_
 refine Ok.seq ?_
 refine .rg [(1,.fp [.clo f caps] 0),(2,(.bref 2 0)),(3,(.bref 3 0))] [(0,(.rows true 27 6 (l.map e_api_Node))),(2,(.box .ex [(.v (.int .i64 kd)),(S sp),(S lo),(L 3 e_api_Attr ats),(.sref 0),(S tx)])),(3,bx0)] ?_
 refine Ok.seq ?_
 refine Ok.region (σ':=⟨[(2,(.bref 2 0)),(3,(.bref 3 0)),(5,(.v (.slice none 0 0))),(6,(.v (.bool false)))],[(2,(.box .ex [(.v (.int .i64 kd)),(S sp),(S lo),(L 3 e_api_Attr ats),(.sref 0),(S tx)])),(3,bx0)]⟩) ?_ ?_
 ·refine .rn 3 ?_
  refine OpsOk.cons rfl (OpOk.callRows0 rfl rfl hc hF rfl rfl hp rfl rfl) ?_
  refine .rn 5 ?_
  exact .dn
 refine Ok.seq ?_
 refine Ok.seq ?_
 refine Ok.region (σ':=⟨[(2,(.bref 2 0)),(3,(.bref 3 0)),(5,(.v (.slice none 0 0))),(20,(.v (.bool ((kd != 1) || (!false)))))],[(2,(.box .ex [(.v (.int .i64 kd)),(S sp),(S lo),(L 3 e_api_Attr ats),(.sref 0),(S tx)])),(3,bx0)]⟩) ?_ ?_
 ·refine .rn 4 ?_
  refine OpsOk.consI rfl rfl rfl (.one rfl) rfl (fun hw3 => (VOk.g (VOk.mv (d:=(.v (.bool false))) rfl rfl))) ?_
  refine OpsOk.consI rfl rfl rfl (.one rfl) rfl (fun hw3 => (GOk.fr (fr':=[(18,(.v (.bool false)))]) ⟨DLe.of_eq (cT hw3).symm,trivial⟩ (VOk.g (VOk.not (b:=false) rfl rfl)))) ?_
  refine .cv (VOk.to (VOk.pickI (b:=(kd != 1)) (p:=true) (q:=(!false)) rfl rfl (fun hp4 => rfl) (fun hp4 => (cT (f_beq hp4)))) (pickOr (kd != 1) (!false))) rfl rfl ?_
  exact .dn
 refine Ok.test (b:=((kd != 1) || (!false))) rfl (fun hb7 => ?_) (fun hb7 => ?_)
 ·refine Ok.seq ?_
  refine Ok.region (σ':=⟨[(3,(.bref 3 0)),(4,(.v (.bool false)))],[(3,bx0)]⟩) ?_ ?_
  ·refine .cv (VOk.to (d':=(.agg z0N)) (.build [none,none,none,some 3,some 6,none] [(0,1),(1,2),(3,1),(4,1),(5,1)] rfl Try.underlying27 (fa27 Try.underlying27) zo27 rfl rfl) rfl) rfl rfl ?_
   refine .rn 2 ?_
   exact .dn
  refine Ok.ret ?_
  exact⟨.inl rfl,⟨_,(.cons (.cell (VOk.to (d':=(.agg (e_HN hzero))) (.loadBAgg rfl Try.underlying27 rfl sz27 rfl rfl rfl) rfl)) (.cons (.tmp rfl) .nil)),rfl⟩,trivial⟩
 ·exact absurd hb7 (by simp)
theorem hattrs1T {f:Nat} {caps:List D} {s:Value} {kd:Int} {sp lo tx:Str} {kids:List T_api_Node} {l l':List T_api_Attr} (hkd:kd=1) (hc:callable Try.prog f=true) (hp:D.pureL caps=true)
  (hF:Vx.Fn Try.prog f (.sref 0 :: caps) [(0,(.rows true 47 3 (l.map e_api_Attr)))] (.tup [.sref 0,.v (.bool true)]) [(0,(.rows true 47 3 (l'.map e_api_Attr)))]) :
  Vx.Fn Try.prog 55 [.agg [(.v (.int .i64 kd)),(S sp),(S lo),(.v s),(L 6 e_api_Node kids),(S tx)],.fp [.clo f caps] 0] [(0,.pin s 47 3 (l.map e_api_Attr))] (.tup [(.agg (e_HN ⟨kd,sp,lo,l',kids.map e_api_Node,tx⟩)),.v (.bool true)]) []:=by
 rw [show e_HN ⟨kd,sp,lo,l',kids.map e_api_Node,tx⟩=[(.v (.int .i64 kd)),(S sp),(S lo),(L 3 e_api_Attr l'),(L 6 e_api_Node kids),(S tx)] from by show [_,_,_,_,L 6 eD _,_]=_; rw [LeD]]
 refine Vx.Fn.of_okR Try.func55 rfl (Nat.le_of_ble_eq_true rfl) ?_
 refine Ok.sle (σ':=⟨[(0,.agg [(.v (.int .i64 kd)),(S sp),(S lo),(.sref 0),(L 6 e_api_Node kids),(S tx)]),(1,.fp [.clo f caps] 0)],[(0,(.rows true 47 3 (l.map e_api_Attr)))]⟩) (SLe.trans (Le.s (.rf rfl rfl)) (SLe.trans (SLe.unpin (s:=s) 0 rfl) (SLe.vref (s:=s) 0 3 0 rfl rfl rfl))) ?_
 refine Ok.seq ?_
 refine .rg [(1,.fp [.clo f caps] 0),(2,(.bref 2 0)),(3,(.bref 3 0))] [(0,(.rows true 47 3 (l.map e_api_Attr))),(2,(.box .ex [(.v (.int .i64 kd)),(S sp),(S lo),(.sref 0),(L 6 e_api_Node kids),(S tx)])),(3,bx0)] ?_
 refine Ok.seq ?_
 refine Ok.region (σ':=⟨[(2,(.bref 2 0)),(3,(.bref 3 0)),(5,(.sref 0)),(6,(.v (.bool true)))],[(0,(.rows true 47 3 (l'.map e_api_Attr))),(2,(.box .ex [(.v (.int .i64 kd)),(S sp),(S lo),.junk,(L 6 e_api_Node kids),(S tx)])),(3,bx0)]⟩) ?_ ?_
 ·refine .rn 3 ?_
  refine OpsOk.cons rfl (OpOk.callRows rfl rfl hc hF rfl rfl hp rfl rfl rfl) ?_
  refine .rn 5 ?_
  exact .dn
 refine Ok.seq ?_
 refine Ok.seq ?_
 refine Ok.region (σ':=⟨[(2,(.bref 2 0)),(3,(.bref 3 0)),(5,(.sref 0)),(20,(.v (.bool ((kd != 1) || (!true)))))],[(0,(.rows true 47 3 (l'.map e_api_Attr))),(2,(.box .ex [(.v (.int .i64 kd)),(S sp),(S lo),.junk,(L 6 e_api_Node kids),(S tx)])),(3,bx0)]⟩) ?_ ?_
 ·refine .rn 4 ?_
  refine OpsOk.consI rfl rfl rfl (.one rfl) rfl (fun hw3 => (VOk.g (VOk.mv (d:=(.v (.bool true))) rfl rfl))) ?_
  refine OpsOk.consI rfl rfl rfl (.one rfl) rfl (fun hw3 => (GOk.fr (fr':=[(18,(.v (.bool true)))]) ⟨DLe.of_eq (cT hw3).symm,trivial⟩ (VOk.g (VOk.not (b:=true) rfl rfl)))) ?_
  refine .cv (VOk.to (VOk.pickI (b:=(kd != 1)) (p:=true) (q:=(!true)) rfl rfl (fun hp4 => rfl) (fun hp4 => (cT (f_beq hp4)))) (pickOr (kd != 1) (!true))) rfl rfl ?_
  exact .dn
 refine Ok.test (b:=((kd != 1) || (!true))) rfl (fun hb7 => ?_) (fun hb7 => ?_)
 ·exact absurd hb7 (by rw [hkd]; decide)
 ·refine Ok.skip ?_
  refine Ok.seq ?_
  refine Ok.frzL 0 (e:=e_api_Attr) (xs:=l') rfl ?_
  refine Ok.le (σ':=⟨[(2,(.bref 2 0)),(3,(.bref 3 0)),(5,(L 3 e_api_Attr l'))],[(2,(.box .ex [(.v (.int .i64 kd)),(S sp),(S lo),.junk,(L 6 e_api_Node kids),(S tx)])),(3,bx0)]⟩) (.rf rfl rfl) ?_
  refine .rg [(2,(.bref 2 0)),(3,(.bref 3 0))] [(2,(.box .ex [(.v (.int .i64 kd)),(S sp),(S lo),(L 3 e_api_Attr l'),(L 6 e_api_Node kids),(S tx)])),(3,bx0)] ?_
  refine Ok.seq ?_
  refine .rg [(3,(.bref 3 0)),(4,(.v (.bool true)))] [(3,(.box .ex [(.v (.int .i64 kd)),(S sp),(S lo),(L 3 e_api_Attr l'),(L 6 e_api_Node kids),(S tx)]))] ?_
  refine Ok.ret ?_
  exact⟨.inl rfl,⟨_,(.cons (.cell (VOk.to (d':=(.agg [(.v (.int .i64 kd)),(S sp),(S lo),(L 3 e_api_Attr l'),(L 6 e_api_Node kids),(S tx)])) (.loadBAgg rfl Try.underlying27 rfl sz27 rfl rfl rfl) rfl)) (.cons (.tmp rfl) .nil)),rfl⟩,trivial⟩
theorem hattrs1Fa {f:Nat} {caps:List D} {s:Value} {kd:Int} {sp lo tx:Str} {kids:List T_api_Node} {l l':List T_api_Attr} (hkd:kd ≠ 1) (hc:callable Try.prog f=true) (hp:D.pureL caps=true)
  (hF:Vx.Fn Try.prog f (.sref 0 :: caps) [(0,(.rows true 47 3 (l.map e_api_Attr)))] (.tup [.sref 0,.v (.bool true)]) [(0,(.rows true 47 3 (l'.map e_api_Attr)))]) :
  Vx.Fn Try.prog 55 [.agg [(.v (.int .i64 kd)),(S sp),(S lo),(.v s),(L 6 e_api_Node kids),(S tx)],.fp [.clo f caps] 0] [(0,.pin s 47 3 (l.map e_api_Attr))] (.tup [(.agg (e_HN hzero)),.v (.bool false)]) []:=by
 refine Vx.Fn.of_okR Try.func55 rfl (Nat.le_of_ble_eq_true rfl) ?_
 refine Ok.sle (σ':=⟨[(0,.agg [(.v (.int .i64 kd)),(S sp),(S lo),(.sref 0),(L 6 e_api_Node kids),(S tx)]),(1,.fp [.clo f caps] 0)],[(0,(.rows true 47 3 (l.map e_api_Attr)))]⟩) (SLe.trans (Le.s (.rf rfl rfl)) (SLe.trans (SLe.unpin (s:=s) 0 rfl) (SLe.vref (s:=s) 0 3 0 rfl rfl rfl))) ?_
 refine Ok.seq ?_
 refine .rg [(1,.fp [.clo f caps] 0),(2,(.bref 2 0)),(3,(.bref 3 0))] [(0,(.rows true 47 3 (l.map e_api_Attr))),(2,(.box .ex [(.v (.int .i64 kd)),(S sp),(S lo),(.sref 0),(L 6 e_api_Node kids),(S tx)])),(3,bx0)] ?_
 refine Ok.seq ?_
 refine Ok.region (σ':=⟨[(2,(.bref 2 0)),(3,(.bref 3 0)),(5,(.sref 0)),(6,(.v (.bool true)))],[(0,(.rows true 47 3 (l'.map e_api_Attr))),(2,(.box .ex [(.v (.int .i64 kd)),(S sp),(S lo),.junk,(L 6 e_api_Node kids),(S tx)])),(3,bx0)]⟩) ?_ ?_
 ·refine .rn 3 ?_
  refine OpsOk.cons rfl (OpOk.callRows rfl rfl hc hF rfl rfl hp rfl rfl rfl) ?_
  refine .rn 5 ?_
  exact .dn
 refine Ok.seq ?_
 refine Ok.seq ?_
 refine Ok.region (σ':=⟨[(2,(.bref 2 0)),(3,(.bref 3 0)),(5,(.sref 0)),(20,(.v (.bool ((kd != 1) || (!true)))))],[(0,(.rows true 47 3 (l'.map e_api_Attr))),(2,(.box .ex [(.v (.int .i64 kd)),(S sp),(S lo),.junk,(L 6 e_api_Node kids),(S tx)])),(3,bx0)]⟩) ?_ ?_
 ·refine .rn 4 ?_
  refine OpsOk.consI rfl rfl rfl (.one rfl) rfl (fun hw3 => (VOk.g (VOk.mv (d:=(.v (.bool true))) rfl rfl))) ?_
  refine OpsOk.consI rfl rfl rfl (.one rfl) rfl (fun hw3 => (GOk.fr (fr':=[(18,(.v (.bool true)))]) ⟨DLe.of_eq (cT hw3).symm,trivial⟩ (VOk.g (VOk.not (b:=true) rfl rfl)))) ?_
  refine .cv (VOk.to (VOk.pickI (b:=(kd != 1)) (p:=true) (q:=(!true)) rfl rfl (fun hp4 => rfl) (fun hp4 => (cT (f_beq hp4)))) (pickOr (kd != 1) (!true))) rfl rfl ?_
  exact .dn
 refine Ok.test (b:=((kd != 1) || (!true))) rfl (fun hb7 => ?_) (fun hb7 => ?_)
 ·refine Ok.seq ?_
  refine Ok.region (σ':=⟨[(3,(.bref 3 0)),(4,(.v (.bool false)))],[(3,bx0)]⟩) ?_ ?_
  ·refine .cv (VOk.to (d':=(.agg z0N)) (.build [none,none,none,some 3,some 6,none] [(0,1),(1,2),(3,1),(4,1),(5,1)] rfl Try.underlying27 (fa27 Try.underlying27) zo27 rfl rfl) rfl) rfl rfl ?_
   refine .rn 2 ?_
   exact .dn
  refine Ok.ret ?_
  exact⟨.inl rfl,⟨_,(.cons (.cell (VOk.to (d':=(.agg (e_HN hzero))) (.loadBAgg rfl Try.underlying27 rfl sz27 rfl rfl rfl) rfl)) (.cons (.tmp rfl) .nil)),rfl⟩,trivial⟩
 ·exact absurd hb7 (by simp [hkd])
theorem hattrs1Fb {f:Nat} {caps:List D} {s:Value} {kd:Int} {sp lo tx:Str} {kids:List T_api_Node} {l:List T_api_Attr} (hc:callable Try.prog f=true) (hp:D.pureL caps=true)
  (hF:Vx.Fn Try.prog f (.sref 0 :: caps) [(0,(.rows true 47 3 (l.map e_api_Attr)))] (.tup [.v (.slice none 0 0),.v (.bool false)]) []) :
  Vx.Fn Try.prog 55 [.agg [(.v (.int .i64 kd)),(S sp),(S lo),(.v s),(L 6 e_api_Node kids),(S tx)],.fp [.clo f caps] 0] [(0,.pin s 47 3 (l.map e_api_Attr))] (.tup [(.agg (e_HN hzero)),.v (.bool false)]) []:=by
 refine Vx.Fn.of_okR Try.func55 rfl (Nat.le_of_ble_eq_true rfl) ?_
 refine Ok.sle (σ':=⟨[(0,.agg [(.v (.int .i64 kd)),(S sp),(S lo),(.sref 0),(L 6 e_api_Node kids),(S tx)]),(1,.fp [.clo f caps] 0)],[(0,(.rows true 47 3 (l.map e_api_Attr)))]⟩) (SLe.trans (Le.s (.rf rfl rfl)) (SLe.trans (SLe.unpin (s:=s) 0 rfl) (SLe.vref (s:=s) 0 3 0 rfl rfl rfl))) ?_
 refine Ok.seq ?_
 refine .rg [(1,.fp [.clo f caps] 0),(2,(.bref 2 0)),(3,(.bref 3 0))] [(0,(.rows true 47 3 (l.map e_api_Attr))),(2,(.box .ex [(.v (.int .i64 kd)),(S sp),(S lo),(.sref 0),(L 6 e_api_Node kids),(S tx)])),(3,bx0)] ?_
 refine Ok.seq ?_
 refine Ok.region (σ':=⟨[(2,(.bref 2 0)),(3,(.bref 3 0)),(5,(.v (.slice none 0 0))),(6,(.v (.bool false)))],[(2,(.box .ex [(.v (.int .i64 kd)),(S sp),(S lo),(.sref 0),(L 6 e_api_Node kids),(S tx)])),(3,bx0)]⟩) ?_ ?_
 ·refine .rn 3 ?_
  refine OpsOk.cons rfl (OpOk.callRows0 rfl rfl hc hF rfl rfl hp rfl rfl) ?_
  refine .rn 5 ?_
  exact .dn
 refine Ok.seq ?_
 refine Ok.seq ?_
 refine Ok.region (σ':=⟨[(2,(.bref 2 0)),(3,(.bref 3 0)),(5,(.v (.slice none 0 0))),(20,(.v (.bool ((kd != 1) || (!false)))))],[(2,(.box .ex [(.v (.int .i64 kd)),(S sp),(S lo),(.sref 0),(L 6 e_api_Node kids),(S tx)])),(3,bx0)]⟩) ?_ ?_
 ·refine .rn 4 ?_
  refine OpsOk.consI rfl rfl rfl (.one rfl) rfl (fun hw3 => (VOk.g (VOk.mv (d:=(.v (.bool false))) rfl rfl))) ?_
  refine OpsOk.consI rfl rfl rfl (.one rfl) rfl (fun hw3 => (GOk.fr (fr':=[(18,(.v (.bool false)))]) ⟨DLe.of_eq (cT hw3).symm,trivial⟩ (VOk.g (VOk.not (b:=false) rfl rfl)))) ?_
  refine .cv (VOk.to (VOk.pickI (b:=(kd != 1)) (p:=true) (q:=(!false)) rfl rfl (fun hp4 => rfl) (fun hp4 => (cT (f_beq hp4)))) (pickOr (kd != 1) (!false))) rfl rfl ?_
  exact .dn
 refine Ok.test (b:=((kd != 1) || (!false))) rfl (fun hb7 => ?_) (fun hb7 => ?_)
 ·refine Ok.seq ?_
  refine Ok.region (σ':=⟨[(3,(.bref 3 0)),(4,(.v (.bool false)))],[(3,bx0)]⟩) ?_ ?_
  ·refine .cv (VOk.to (d':=(.agg z0N)) (.build [none,none,none,some 3,some 6,none] [(0,1),(1,2),(3,1),(4,1),(5,1)] rfl Try.underlying27 (fa27 Try.underlying27) zo27 rfl rfl) rfl) rfl rfl ?_
   refine .rn 2 ?_
   exact .dn
  refine Ok.ret ?_
  exact⟨.inl rfl,⟨_,(.cons (.cell (VOk.to (d':=(.agg (e_HN hzero))) (.loadBAgg rfl Try.underlying27 rfl sz27 rfl rfl rfl) rfl)) (.cons (.tmp rfl) .nil)),rfl⟩,trivial⟩
 ·exact absurd hb7 (by simp)
theorem cl30:callable Try.prog 30=true:=by kernel_rfl
theorem cl31:callable Try.prog 31=true:=by kernel_rfl
theorem cl36:callable Try.prog 36=true:=by kernel_rfl
theorem cl37:callable Try.prog 37=true:=by kernel_rfl
theorem cl38:callable Try.prog 38=true:=by kernel_rfl
theorem cl39:callable Try.prog 39=true:=by kernel_rfl
theorem cl40:callable Try.prog 40=true:=by kernel_rfl
theorem cl41:callable Try.prog 41=true:=by kernel_rfl
theorem cl42:callable Try.prog 42=true:=by kernel_rfl
theorem cl43:callable Try.prog 43=true:=by kernel_rfl
theorem cl44:callable Try.prog 44=true:=by kernel_rfl
theorem cl51:callable Try.prog 51=true:=by kernel_rfl
theorem cl55:callable Try.prog 55=true:=by kernel_rfl
theorem hrep1T {place:List Int} {last:Int} {x:T_api_Node} {l:List T_api_Node} {kx:Nat} (hx:tree_Copy kx x=some x) (hl:0 ≤ last ∧ last < (place.length:Int)) (hi:0 ≤ (rd place last) ∧ (rd place last) < (l.length:Int)) :
  Vx.Fn Try.prog 31 (.sref 0 :: [(.fp [(L 1 (eI .i64) place)] 0),(.fp [(.v (.int .i64 last))] 0),(.fp (c_api_Node x) 0)]) [(0,(.rows true 27 6 (l.map e_api_Node)))] (.tup [.sref 0,.v (.bool true)]) [(0,(.rows true 27 6 ((l.set (Int.toNat (rd place last)) x).map e_api_Node)))]:=by
 refine Vx.Fn.of_okR Try.func31 rfl (Nat.le_of_ble_eq_true rfl) ?_
 refine Ok.seq ?_
 refine .rg [(0,(.sref 0)),(1,(.fp [(L 1 (eI .i64) place)] 0)),(2,(.fp [(.v (.int .i64 last))] 0)),(3,(.fp (c_api_Node x) 0))] [(0,(.rows true 27 6 (l.map e_api_Node)))] ?_
 refine Ok.seq ?_
 refine Ok.seq ?_
 refine Ok.region (σ':=⟨[(0,(.sref 0)),(1,(.fp [(L 1 (eI .i64) place)] 0)),(2,(.fp [(.v (.int .i64 last))] 0)),(3,(.fp (c_api_Node x) 0)),(7,(.v (.int .i64 (rd place last))))],[(0,(.rows true 27 6 (l.map e_api_Node)))]⟩) ?_ ?_
 ·refine .rn 2 ?_
  refine .cv (VOk.indexL (sz:=1) (e:=(eI .i64)) (xs:=place) (i:=last) rfl Try.underlying28 sz3 rfl rfl hl) rfl rfl ?_
  refine .rn 2 ?_
  exact .dn
 refine Ok.seq ?_
 refine Ok.region (σ':=⟨[(0,(.sref 0)),(1,(.fp [(L 1 (eI .i64) place)] 0)),(2,(.fp [(.v (.int .i64 last))] 0)),(3,(.fp (c_api_Node x) 0)),(7,(.v (.int .i64 (rd place last)))),(19,(.v (.bool ((decide ((rd place last) ≥ 0)) && (decide ((rd place last) < (l.length:Int)))))))],[(0,(.rows true 27 6 (l.map e_api_Node)))]⟩) ?_ ?_
 ·refine .rn 3 ?_
  refine OpsOk.consI rfl rfl rfl (.one rfl) rfl (fun hw1 => (VOk.g (VOk.mv (d:=(.v (.int .i64 (rd place last)))) rfl rfl))) ?_
  refine OpsOk.consI rfl rfl rfl (.one rfl) rfl (fun hw1 => (VOk.g (VOk.mv (d:=(.sref 0)) rfl rfl))) ?_
  refine OpsOk.consI rfl rfl rfl (.one rfl) rfl (fun hw1 => (GOk.fr (fr':=[(16,(.sref 0))]) ⟨DLe.of_eq (cT hw1).symm,trivial⟩ (VOk.g (VOk.lenTL (e:=e_api_Node) (xs:=l) rfl Try.underlying25 rfl rfl)))) ?_
  refine OpsOk.consI rfl rfl rfl (.one rfl) rfl (fun hw1 => (GOk.fr (fr':=[(15,(.v (.int .i64 (rd place last)))),(17,(.v (.int .i64 (l.length:Int))))]) ⟨DLe.of_eq (cT hw1).symm,DLe.of_eq (cT hw1).symm,trivial⟩ (VOk.g (VOk.arith (op:=.lss) (k:=.i64) (a:=(rd place last)) (b:=(l.length:Int)) rfl rfl rfl rfl)))) ?_
  refine .cv (VOk.to (VOk.pickI (b:=(decide ((rd place last) ≥ 0))) (p:=(decide ((rd place last) < (l.length:Int)))) (q:=false) rfl rfl (fun hp2 => (cT (t_beq hp2))) (fun hp2 => rfl)) (pickAnd (decide ((rd place last) ≥ 0)) (decide ((rd place last) < (l.length:Int))))) rfl rfl ?_
  exact .dn
 refine Ok.test (b:=((decide ((rd place last) ≥ 0)) && (decide ((rd place last) < (l.length:Int))))) rfl (fun hb => ?_) (fun hb => ?_)
 ·refine Ok.seq ?_
  refine Ok.region (σ':=⟨[(0,(.sref 0))],[(0,(.rows true 27 6 ((l.set (Int.toNat (rd place last)) x).map e_api_Node)))]⟩) ?_ ?_
  ·refine .rn 2 ?_
   refine .cv (VOk.to (d':=(.agg (e_api_Node x))) (.loadFpAgg rfl Try.underlying27 rfl sz27 rfl rfl) (congrArg D.agg (e_api_Node_c x).symm)) rfl rfl ?_
   refine .cg (GOk.call rfl rfl cl28 rfl (tree_Copy.ok hx) rfl) rfl rfl ?_
   refine .cv (VOk.indexTL (e:=e_api_Node) (xs:=l) (i:=(rd place last)) rfl Try.underlying25 sz27 rfl rfl rfl hi) rfl rfl ?_
   refine OpsOk.cons rfl (OpOk.storeEL (e:=e_api_Node) (xs:=l) (i:=(rd place last)) (y:=x) rfl sz27 (.same _) rfl hi (.same _) rfl rfl rfl rfl rfl rfl) ?_
   exact .dn
  refine Ok.seq ?_
  refine .rg [(5,(.sref 0)),(6,(.v (.bool true)))] [(0,(.rows true 27 6 ((l.set (Int.toNat (rd place last)) x).map e_api_Node)))] ?_
  refine Ok.ret ?_
  exact⟨.inl rfl,⟨_,(.cons (.tmp rfl) (.cons (.tmp rfl) .nil)),rfl⟩,.same _,trivial⟩
 ·exact absurd hb (by simp; omega)
theorem hrep1F {place:List Int} {last:Int} {x:T_api_Node} {l:List T_api_Node} (hl:0 ≤ last ∧ last < (place.length:Int)) (hi:¬ (0 ≤ (rd place last) ∧ (rd place last) < (l.length:Int))) :
  Vx.Fn Try.prog 31 (.sref 0 :: [(.fp [(L 1 (eI .i64) place)] 0),(.fp [(.v (.int .i64 last))] 0),(.fp (c_api_Node x) 0)]) [(0,(.rows true 27 6 (l.map e_api_Node)))] (.tup [.v (.slice none 0 0),.v (.bool false)]) []:=by
 refine Vx.Fn.of_okR Try.func31 rfl (Nat.le_of_ble_eq_true rfl) ?_
 refine Ok.seq ?_
 refine .rg [(0,(.sref 0)),(1,(.fp [(L 1 (eI .i64) place)] 0)),(2,(.fp [(.v (.int .i64 last))] 0)),(3,(.fp (c_api_Node x) 0))] [(0,(.rows true 27 6 (l.map e_api_Node)))] ?_
 refine Ok.seq ?_
 refine Ok.seq ?_
 refine Ok.region (σ':=⟨[(0,(.sref 0)),(1,(.fp [(L 1 (eI .i64) place)] 0)),(2,(.fp [(.v (.int .i64 last))] 0)),(3,(.fp (c_api_Node x) 0)),(7,(.v (.int .i64 (rd place last))))],[(0,(.rows true 27 6 (l.map e_api_Node)))]⟩) ?_ ?_
 ·refine .rn 2 ?_
  refine .cv (VOk.indexL (sz:=1) (e:=(eI .i64)) (xs:=place) (i:=last) rfl Try.underlying28 sz3 rfl rfl hl) rfl rfl ?_
  refine .rn 2 ?_
  exact .dn
 refine Ok.seq ?_
 refine Ok.region (σ':=⟨[(0,(.sref 0)),(1,(.fp [(L 1 (eI .i64) place)] 0)),(2,(.fp [(.v (.int .i64 last))] 0)),(3,(.fp (c_api_Node x) 0)),(7,(.v (.int .i64 (rd place last)))),(19,(.v (.bool ((decide ((rd place last) ≥ 0)) && (decide ((rd place last) < (l.length:Int)))))))],[(0,(.rows true 27 6 (l.map e_api_Node)))]⟩) ?_ ?_
 ·refine .rn 3 ?_
  refine OpsOk.consI rfl rfl rfl (.one rfl) rfl (fun hw1 => (VOk.g (VOk.mv (d:=(.v (.int .i64 (rd place last)))) rfl rfl))) ?_
  refine OpsOk.consI rfl rfl rfl (.one rfl) rfl (fun hw1 => (VOk.g (VOk.mv (d:=(.sref 0)) rfl rfl))) ?_
  refine OpsOk.consI rfl rfl rfl (.one rfl) rfl (fun hw1 => (GOk.fr (fr':=[(16,(.sref 0))]) ⟨DLe.of_eq (cT hw1).symm,trivial⟩ (VOk.g (VOk.lenTL (e:=e_api_Node) (xs:=l) rfl Try.underlying25 rfl rfl)))) ?_
  refine OpsOk.consI rfl rfl rfl (.one rfl) rfl (fun hw1 => (GOk.fr (fr':=[(15,(.v (.int .i64 (rd place last)))),(17,(.v (.int .i64 (l.length:Int))))]) ⟨DLe.of_eq (cT hw1).symm,DLe.of_eq (cT hw1).symm,trivial⟩ (VOk.g (VOk.arith (op:=.lss) (k:=.i64) (a:=(rd place last)) (b:=(l.length:Int)) rfl rfl rfl rfl)))) ?_
  refine .cv (VOk.to (VOk.pickI (b:=(decide ((rd place last) ≥ 0))) (p:=(decide ((rd place last) < (l.length:Int)))) (q:=false) rfl rfl (fun hp2 => (cT (t_beq hp2))) (fun hp2 => rfl)) (pickAnd (decide ((rd place last) ≥ 0)) (decide ((rd place last) < (l.length:Int))))) rfl rfl ?_
  exact .dn
 refine Ok.test (b:=((decide ((rd place last) ≥ 0)) && (decide ((rd place last) < (l.length:Int))))) rfl (fun hb => ?_) (fun hb => ?_)
 ·exact absurd hb (by simp; omega)
 ·refine Ok.skip ?_
  refine Ok.seq ?_
  refine .rg [(5,(.v (.slice none 0 0))),(6,(.v (.bool false)))] [] ?_
  refine Ok.ret ?_
  exact⟨.inl rfl,⟨_,(.cons (.tmp rfl) (.cons (.tmp rfl) .nil)),rfl⟩,trivial⟩
theorem hrem1T {place:List Int} {last:Int} {l:List T_api_Node} (hl:0 ≤ last ∧ last < (place.length:Int)) (hi:0 ≤ (rd place last) ∧ (rd place last) < (l.length:Int)) (hbig:l.length ≤ 140737488355328) :
  Vx.Fn Try.prog 38 (.sref 0 :: [(.fp [(L 1 (eI .i64) place)] 0),(.fp [(.v (.int .i64 last))] 0)]) [(0,(.rows true 27 6 (l.map e_api_Node)))] (.tup [.sref 0,.v (.bool true)]) [(0,(.rows true 27 6 ((l.take (rd place last).toNat ++ l.drop ((rd place last).toNat + 1)).map e_api_Node)))]:=by
 refine Vx.Fn.of_okR Try.func38 rfl (Nat.le_of_ble_eq_true rfl) ?_
 have hw:(D.v (.int .i64 (IntKind.i64.wrap ((rd place last) + 1))))=.v (.int .i64 (((rd place last).toNat + 1:Nat):Int)):=by rw [w64 (by omega) (by omega)]; congr 2; omega
 have hn:(rd place last)=(((rd place last).toNat:Nat):Int):=by omega
 have hd:=hdel39 (rs:=l.map e_api_Node) (i:=(rd place last).toNat) (j:=(rd place last).toNat + 1) (by omega) (by rw [List.length_map]; omega)
 rw [← List.map_take,← List.map_drop,← List.map_append,← hn] at hd
 refine Ok.seq ?_
 refine .rg [(0,(.sref 0)),(1,(.fp [(L 1 (eI .i64) place)] 0)),(2,(.fp [(.v (.int .i64 last))] 0))] [(0,(.rows true 27 6 (l.map e_api_Node)))] ?_
 refine Ok.seq ?_
 refine Ok.seq ?_
 refine Ok.region (σ':=⟨[(0,(.sref 0)),(1,(.fp [(L 1 (eI .i64) place)] 0)),(2,(.fp [(.v (.int .i64 last))] 0)),(6,(.v (.int .i64 (rd place last))))],[(0,(.rows true 27 6 (l.map e_api_Node)))]⟩) ?_ ?_
 ·refine .rn 2 ?_
  refine .cv (VOk.indexL (sz:=1) (e:=(eI .i64)) (xs:=place) (i:=last) rfl Try.underlying28 sz3 rfl rfl hl) rfl rfl ?_
  refine .rn 2 ?_
  exact .dn
 refine Ok.seq ?_
 refine Ok.region (σ':=⟨[(0,(.sref 0)),(1,(.fp [(L 1 (eI .i64) place)] 0)),(2,(.fp [(.v (.int .i64 last))] 0)),(6,(.v (.int .i64 (rd place last)))),(18,(.v (.bool ((decide ((rd place last) ≥ 0)) && (decide ((rd place last) < (l.length:Int)))))))],[(0,(.rows true 27 6 (l.map e_api_Node)))]⟩) ?_ ?_
 ·refine .rn 3 ?_
  refine OpsOk.consI rfl rfl rfl (.one rfl) rfl (fun hw1 => (VOk.g (VOk.mv (d:=(.v (.int .i64 (rd place last)))) rfl rfl))) ?_
  refine OpsOk.consI rfl rfl rfl (.one rfl) rfl (fun hw1 => (VOk.g (VOk.mv (d:=(.sref 0)) rfl rfl))) ?_
  refine OpsOk.consI rfl rfl rfl (.one rfl) rfl (fun hw1 => (GOk.fr (fr':=[(15,(.sref 0))]) ⟨DLe.of_eq (cT hw1).symm,trivial⟩ (VOk.g (VOk.lenTL (e:=e_api_Node) (xs:=l) rfl Try.underlying25 rfl rfl)))) ?_
  refine OpsOk.consI rfl rfl rfl (.one rfl) rfl (fun hw1 => (GOk.fr (fr':=[(14,(.v (.int .i64 (rd place last)))),(16,(.v (.int .i64 (l.length:Int))))]) ⟨DLe.of_eq (cT hw1).symm,DLe.of_eq (cT hw1).symm,trivial⟩ (VOk.g (VOk.arith (op:=.lss) (k:=.i64) (a:=(rd place last)) (b:=(l.length:Int)) rfl rfl rfl rfl)))) ?_
  refine .cv (VOk.to (VOk.pickI (b:=(decide ((rd place last) ≥ 0))) (p:=(decide ((rd place last) < (l.length:Int)))) (q:=false) rfl rfl (fun hp2 => (cT (t_beq hp2))) (fun hp2 => rfl)) (pickAnd (decide ((rd place last) ≥ 0)) (decide ((rd place last) < (l.length:Int))))) rfl rfl ?_
  exact .dn
 refine Ok.test (b:=((decide ((rd place last) ≥ 0)) && (decide ((rd place last) < (l.length:Int))))) rfl (fun hb => ?_) (fun hb => ?_)
 ·refine Ok.seq ?_
  refine Ok.region (σ':=⟨[(4,(.sref 0)),(5,(.v (.bool true)))],[(0,(.rows true 27 6 ((l.take (rd place last).toNat ++ l.drop ((rd place last).toNat + 1)).map e_api_Node)))]⟩) ?_ ?_
  ·refine .rn 3 ?_
   refine .cv (VOk.to (VOk.arith (op:=.add) (k:=.i64) (a:=(rd place last)) (b:=1) rfl rfl rfl rfl) hw) rfl rfl ?_
   refine OpsOk.cons rfl (OpOk.callRows (caps:=[]) rfl rfl cl39 hd rfl rfl rfl rfl rfl rfl) ?_
   refine .rn 2 ?_
   exact .dn
  refine Ok.ret ?_
  exact⟨.inl rfl,⟨_,(.cons (.tmp rfl) (.cons (.tmp rfl) .nil)),rfl⟩,.same _,trivial⟩
 ·exact absurd hb (by simp; omega)
theorem hrem1F {place:List Int} {last:Int} {l:List T_api_Node} (hl:0 ≤ last ∧ last < (place.length:Int)) (hi:¬ (0 ≤ (rd place last) ∧ (rd place last) < (l.length:Int))) :
  Vx.Fn Try.prog 38 (.sref 0 :: [(.fp [(L 1 (eI .i64) place)] 0),(.fp [(.v (.int .i64 last))] 0)]) [(0,(.rows true 27 6 (l.map e_api_Node)))] (.tup [.v (.slice none 0 0),.v (.bool false)]) []:=by
 refine Vx.Fn.of_okR Try.func38 rfl (Nat.le_of_ble_eq_true rfl) ?_
 refine Ok.seq ?_
 refine .rg [(0,(.sref 0)),(1,(.fp [(L 1 (eI .i64) place)] 0)),(2,(.fp [(.v (.int .i64 last))] 0))] [(0,(.rows true 27 6 (l.map e_api_Node)))] ?_
 refine Ok.seq ?_
 refine Ok.seq ?_
 refine Ok.region (σ':=⟨[(0,(.sref 0)),(1,(.fp [(L 1 (eI .i64) place)] 0)),(2,(.fp [(.v (.int .i64 last))] 0)),(6,(.v (.int .i64 (rd place last))))],[(0,(.rows true 27 6 (l.map e_api_Node)))]⟩) ?_ ?_
 ·refine .rn 2 ?_
  refine .cv (VOk.indexL (sz:=1) (e:=(eI .i64)) (xs:=place) (i:=last) rfl Try.underlying28 sz3 rfl rfl hl) rfl rfl ?_
  refine .rn 2 ?_
  exact .dn
 refine Ok.seq ?_
 refine Ok.region (σ':=⟨[(0,(.sref 0)),(1,(.fp [(L 1 (eI .i64) place)] 0)),(2,(.fp [(.v (.int .i64 last))] 0)),(6,(.v (.int .i64 (rd place last)))),(18,(.v (.bool ((decide ((rd place last) ≥ 0)) && (decide ((rd place last) < (l.length:Int)))))))],[(0,(.rows true 27 6 (l.map e_api_Node)))]⟩) ?_ ?_
 ·refine .rn 3 ?_
  refine OpsOk.consI rfl rfl rfl (.one rfl) rfl (fun hw1 => (VOk.g (VOk.mv (d:=(.v (.int .i64 (rd place last)))) rfl rfl))) ?_
  refine OpsOk.consI rfl rfl rfl (.one rfl) rfl (fun hw1 => (VOk.g (VOk.mv (d:=(.sref 0)) rfl rfl))) ?_
  refine OpsOk.consI rfl rfl rfl (.one rfl) rfl (fun hw1 => (GOk.fr (fr':=[(15,(.sref 0))]) ⟨DLe.of_eq (cT hw1).symm,trivial⟩ (VOk.g (VOk.lenTL (e:=e_api_Node) (xs:=l) rfl Try.underlying25 rfl rfl)))) ?_
  refine OpsOk.consI rfl rfl rfl (.one rfl) rfl (fun hw1 => (GOk.fr (fr':=[(14,(.v (.int .i64 (rd place last)))),(16,(.v (.int .i64 (l.length:Int))))]) ⟨DLe.of_eq (cT hw1).symm,DLe.of_eq (cT hw1).symm,trivial⟩ (VOk.g (VOk.arith (op:=.lss) (k:=.i64) (a:=(rd place last)) (b:=(l.length:Int)) rfl rfl rfl rfl)))) ?_
  refine .cv (VOk.to (VOk.pickI (b:=(decide ((rd place last) ≥ 0))) (p:=(decide ((rd place last) < (l.length:Int)))) (q:=false) rfl rfl (fun hp2 => (cT (t_beq hp2))) (fun hp2 => rfl)) (pickAnd (decide ((rd place last) ≥ 0)) (decide ((rd place last) < (l.length:Int))))) rfl rfl ?_
  exact .dn
 refine Ok.test (b:=((decide ((rd place last) ≥ 0)) && (decide ((rd place last) < (l.length:Int))))) rfl (fun hb => ?_) (fun hb => ?_)
 ·exact absurd hb (by simp; omega)
 ·refine Ok.skip ?_
  refine Ok.seq ?_
  refine .rg [(4,(.v (.slice none 0 0))),(5,(.v (.bool false)))] [] ?_
  refine Ok.ret ?_
  exact⟨.inl rfl,⟨_,(.cons (.tmp rfl) (.cons (.tmp rfl) .nil)),rfl⟩,trivial⟩
theorem hins1T {b:Int} {x:T_api_Node} {l:List T_api_Node} {kx:Nat} (hx:tree_Copy kx x=some x) (hi:0 ≤ b ∧ b ≤ (l.length:Int)) (hbig:(l.length + 1) * 104 ≤ 140737488355328) :
  Vx.Fn Try.prog 36 (.sref 0 :: [(.fp [(.v (.int .i64 b))] 0),(.fp (c_api_Node x) 0)]) [(0,(.rows true 27 6 (l.map e_api_Node)))] (.tup [.sref 0,.v (.bool true)]) [(0,(.rows true 27 6 ((l.take b.toNat ++ x :: l.drop b.toNat).map e_api_Node)))]:=by
 have hn:b=((b.toNat:Nat):Int):=by omega
 have hd:=hins37 (rs:=l.map e_api_Node) (row:=e_api_Node x) (i:=b.toNat) (by rw [List.length_map]; omega) (by rw [List.length_map]; omega)
 rw [← List.map_take,← List.map_drop,← List.map_cons,← List.map_append,← hn] at hd
 refine Vx.Fn.of_okR Try.func36 rfl (Nat.le_of_ble_eq_true rfl) ?_
 refine Ok.seq ?_
 refine .rg [(0,(.sref 0)),(1,(.fp [(.v (.int .i64 b))] 0)),(2,(.fp (c_api_Node x) 0))] [(0,(.rows true 27 6 (l.map e_api_Node)))] ?_
 refine Ok.seq ?_
 refine Ok.seq ?_
 refine Ok.region (σ':=⟨[(0,(.sref 0)),(1,(.fp [(.v (.int .i64 b))] 0)),(2,(.fp (c_api_Node x) 0)),(13,(.v (.bool ((decide (b < 0)) || (decide (b > (l.length:Int)))))))],[(0,(.rows true 27 6 (l.map e_api_Node)))]⟩) ?_ ?_
 ·refine .rn 3 ?_
  refine OpsOk.consI rfl rfl rfl (.one rfl) rfl (fun hw1 => (VOk.g (VOk.loadFp (d:=(.v (.int .i64 b))) rfl Try.underlying3 rfl rfl rfl))) ?_
  refine OpsOk.consI rfl rfl rfl (.one rfl) rfl (fun hw1 => (VOk.g (VOk.mv (d:=(.sref 0)) rfl rfl))) ?_
  refine OpsOk.consI rfl rfl rfl (.one rfl) rfl (fun hw1 => (GOk.fr (fr':=[(10,(.sref 0))]) ⟨DLe.of_eq (cT hw1).symm,trivial⟩ (VOk.g (VOk.lenTL (e:=e_api_Node) (xs:=l) rfl Try.underlying25 rfl rfl)))) ?_
  refine OpsOk.consI rfl rfl rfl (.one rfl) rfl (fun hw1 => (GOk.fr (fr':=[(9,(.v (.int .i64 b))),(11,(.v (.int .i64 (l.length:Int))))]) ⟨DLe.of_eq (cT hw1).symm,DLe.of_eq (cT hw1).symm,trivial⟩ (VOk.g (VOk.arith (op:=.gtr) (k:=.i64) (a:=b) (b:=(l.length:Int)) rfl rfl rfl rfl)))) ?_
  refine .cv (VOk.to (VOk.pickI (b:=(decide (b < 0))) (p:=true) (q:=(decide (b > (l.length:Int)))) rfl rfl (fun hp2 => rfl) (fun hp2 => (cT (f_beq hp2)))) (pickOr (decide (b < 0)) (decide (b > (l.length:Int))))) rfl rfl ?_
  exact .dn
 refine Ok.test (b:=((decide (b < 0)) || (decide (b > (l.length:Int))))) rfl (fun hb => ?_) (fun hb => ?_)
 ·exact absurd hb (by simp; omega)
 ·refine Ok.skip ?_
  refine Ok.seq ?_
  refine Ok.ofD mixed (σ':=⟨[(4,(.sref 0)),(5,(.v (.bool true)))],[(0,(.rows true 27 6 ((l.take b.toNat ++ x :: l.drop b.toNat).map e_api_Node)))]⟩) (OkD.le (OkD.last [[],[],[],[2],[3],[0,1,2,3,4],[0,1,2,3,4,5]] (OkD.last [[],[],[],[2],[3],[0,1,2,3,4],[0,1,2,3,4,5]] (OkD.last [[],[],[],[2],[3],[0,1,2,3,4],[0,1,2,3,4,5]] (σ1:=⟨[(14,(.sref 0)),(15,(.v (.int .i64 b))),(18,(.sref 18))],[(0,(.rows true 27 6 (l.map e_api_Node))),(18,(.rows true 27 6 [e_api_Node x]))]⟩) (OkD.drawE2 [⟨true,[(0,(.sref 0))],[],(.sref 0),[],false,[]⟩,⟨true,[(1,(.fp [(.v (.int .i64 b))] 0))],[],(.v (.int .i64 b)),[],false,[]⟩,⟨true,[(2,(.fp (c_api_Node x) 0))],[],(.agg (e_api_Node x)),[],false,[]⟩,⟨true,[(16,(.agg (e_api_Node x)))],[],(.agg (e_api_Node x)),[],false,[]⟩,⟨true,[(17,(.agg (e_api_Node x)))],[],(.sref 18),[(18,(.rows true 27 6 [e_api_Node x]))],true,[]⟩] [[],[],[],[2],[3]] (by kernel_rfl) ?_) (by kernel_rfl) (OpOk.callIns 18 rfl rfl rfl cl37 hd rfl rfl rfl rfl)) (by kernel_rfl) (.v (VOk.asg (d:=(.sref 0)) rfl rfl) rfl)) (by kernel_rfl) (.v (VOk.asg (d:=(.v (.bool true))) rfl rfl) rfl)) (Le.s (.rf rfl rfl))) ?_
  ·refine TxtE2.cons ⟨.same _,trivial⟩ trivial (It2.val rfl rfl (fun T hT => (VOk.g (VOk.mv (d:=(.sref 0)) rfl rfl)))) ?_
   refine TxtE2.cons ⟨.same _,trivial⟩ trivial (It2.val rfl rfl (fun T hT => (VOk.g (VOk.loadFp (d:=(.v (.int .i64 b))) rfl Try.underlying3 rfl rfl rfl)))) ?_
   refine TxtE2.cons ⟨.same _,trivial⟩ trivial (It2.val rfl rfl (fun T hT => (VOk.g (VOk.to (d':=(.agg (e_api_Node x))) (.loadFpAgg rfl Try.underlying27 rfl sz27 rfl rfl) (congrArg D.agg (e_api_Node_c x).symm))))) ?_
   refine TxtE2.cons ⟨.same _,trivial⟩ trivial (It2.val rfl rfl (fun T hT => (GOk.call rfl rfl cl28 rfl (tree_Copy.ok hx) rfl))) ?_
   refine TxtE2.cons ⟨.same _,trivial⟩ trivial (It2.lit1 18 rfl rfl Try.underlying25 sz27 zs27 rfl rfl rfl rfl) ?_
   exact .done (.rf rfl rfl)
  refine Ok.ret ?_
  exact⟨.inl rfl,⟨_,(.cons (.tmp rfl) (.cons (.tmp rfl) .nil)),rfl⟩,.same _,trivial⟩
theorem hins1F {b:Int} {x:T_api_Node} {l:List T_api_Node} (hi:¬ (0 ≤ b ∧ b ≤ (l.length:Int))) :
  Vx.Fn Try.prog 36 (.sref 0 :: [(.fp [(.v (.int .i64 b))] 0),(.fp (c_api_Node x) 0)]) [(0,(.rows true 27 6 (l.map e_api_Node)))] (.tup [.v (.slice none 0 0),.v (.bool false)]) []:=by
 refine Vx.Fn.of_okR Try.func36 rfl (Nat.le_of_ble_eq_true rfl) ?_
 refine Ok.seq ?_
 refine .rg [(0,(.sref 0)),(1,(.fp [(.v (.int .i64 b))] 0)),(2,(.fp (c_api_Node x) 0))] [(0,(.rows true 27 6 (l.map e_api_Node)))] ?_
 refine Ok.seq ?_
 refine Ok.seq ?_
 refine Ok.region (σ':=⟨[(0,(.sref 0)),(1,(.fp [(.v (.int .i64 b))] 0)),(2,(.fp (c_api_Node x) 0)),(13,(.v (.bool ((decide (b < 0)) || (decide (b > (l.length:Int)))))))],[(0,(.rows true 27 6 (l.map e_api_Node)))]⟩) ?_ ?_
 ·refine .rn 3 ?_
  refine OpsOk.consI rfl rfl rfl (.one rfl) rfl (fun hw1 => (VOk.g (VOk.loadFp (d:=(.v (.int .i64 b))) rfl Try.underlying3 rfl rfl rfl))) ?_
  refine OpsOk.consI rfl rfl rfl (.one rfl) rfl (fun hw1 => (VOk.g (VOk.mv (d:=(.sref 0)) rfl rfl))) ?_
  refine OpsOk.consI rfl rfl rfl (.one rfl) rfl (fun hw1 => (GOk.fr (fr':=[(10,(.sref 0))]) ⟨DLe.of_eq (cT hw1).symm,trivial⟩ (VOk.g (VOk.lenTL (e:=e_api_Node) (xs:=l) rfl Try.underlying25 rfl rfl)))) ?_
  refine OpsOk.consI rfl rfl rfl (.one rfl) rfl (fun hw1 => (GOk.fr (fr':=[(9,(.v (.int .i64 b))),(11,(.v (.int .i64 (l.length:Int))))]) ⟨DLe.of_eq (cT hw1).symm,DLe.of_eq (cT hw1).symm,trivial⟩ (VOk.g (VOk.arith (op:=.gtr) (k:=.i64) (a:=b) (b:=(l.length:Int)) rfl rfl rfl rfl)))) ?_
  refine .cv (VOk.to (VOk.pickI (b:=(decide (b < 0))) (p:=true) (q:=(decide (b > (l.length:Int)))) rfl rfl (fun hp2 => rfl) (fun hp2 => (cT (f_beq hp2)))) (pickOr (decide (b < 0)) (decide (b > (l.length:Int))))) rfl rfl ?_
  exact .dn
 refine Ok.test (b:=((decide (b < 0)) || (decide (b > (l.length:Int))))) rfl (fun hb => ?_) (fun hb => ?_)
 ·refine Ok.seq ?_
  refine .rg [(4,(.v (.slice none 0 0))),(5,(.v (.bool false)))] [] ?_
  refine Ok.ret ?_
  exact⟨.inl rfl,⟨_,(.cons (.tmp rfl) (.cons (.tmp rfl) .nil)),rfl⟩,trivial⟩
 ·exact absurd hb (by simp; omega)
theorem hset1T {a:T_api_Attr} {l:List T_api_Attr} {k:Nat} {i:Int} (hn:path_named k l a.Name=some i) (hi:0 ≤ i ∧ i < (l.length:Int)) :
  Vx.Fn Try.prog 41 (.sref 0 :: [(.fp [(S a.Name.Space),(S a.Name.Local),(S a.Value)] 0)]) [(0,(.rows true 47 3 (l.map e_api_Attr)))] (.tup [.sref 0,.v (.bool true)]) [(0,(.rows true 47 3 ((l.set (Int.toNat i) a).map e_api_Attr)))]:=by
 refine Vx.Fn.of_okR Try.func41 rfl (Nat.le_of_ble_eq_true rfl) ?_
 refine Ok.seq ?_
 refine .rg [(0,(.sref 0)),(1,(.fp [(S a.Name.Space),(S a.Name.Local),(S a.Value)] 0))] [(0,(.rows true 47 3 (l.map e_api_Attr)))] ?_
 refine Ok.seq ?_
 refine Ok.seq ?_
 refine Ok.region (σ':=⟨[(0,(.sref 0)),(1,(.fp [(S a.Name.Space),(S a.Name.Local),(S a.Value)] 0)),(5,(.v (.int .i64 i)))],[(0,(.rows true 47 3 (l.map e_api_Attr)))]⟩) ?_ ?_
 ·refine .rn 3 ?_
  refine .cg (GOk.callV2 rfl rfl cl42 rfl (path_named.ok hn) rfl) rfl rfl ?_
  refine .rn 1 ?_
  exact .dn
 refine Ok.seq ?_
 refine .rg [(0,(.sref 0)),(1,(.fp [(S a.Name.Space),(S a.Name.Local),(S a.Value)] 0)),(5,(.v (.int .i64 i))),(11,(.v (.bool (decide (i ≥ 0)))))] [(0,(.rows true 47 3 (l.map e_api_Attr)))] ?_
 refine Ok.test (b:=(decide (i ≥ 0))) rfl (fun hb => ?_) (fun hb => ?_)
 ·refine Ok.seq ?_
  refine Ok.region (σ':=⟨[(0,(.sref 0))],[(0,(.rows true 47 3 ((l.set (Int.toNat i) a).map e_api_Attr)))]⟩) ?_ ?_
  ·refine .rn 3 ?_
   refine .cv (VOk.indexTL (e:=e_api_Attr) (xs:=l) (i:=i) rfl Try.underlying24 sz47 rfl rfl rfl hi) rfl rfl ?_
   refine OpsOk.cons rfl (OpOk.storeEL (e:=e_api_Attr) (xs:=l) (i:=i) (y:=a) rfl sz47 (.same _) rfl hi (.same _) rfl rfl rfl rfl rfl rfl) ?_
   exact .dn
  refine Ok.seq ?_
  refine .rg [(3,(.sref 0)),(4,(.v (.bool true)))] [(0,(.rows true 47 3 ((l.set (Int.toNat i) a).map e_api_Attr)))] ?_
  refine Ok.ret ?_
  exact⟨.inl rfl,⟨_,(.cons (.tmp rfl) (.cons (.tmp rfl) .nil)),rfl⟩,.same _,trivial⟩
 ·exact absurd hb (by simp; omega)
theorem hset1N {a:T_api_Attr} {l:List T_api_Attr} {k:Nat} {i:Int} (hn:path_named k l a.Name=some i) (hi:i < 0) (hbig:(l.length + 1) * 48 ≤ 140737488355328) :
  Vx.Fn Try.prog 41 (.sref 0 :: [(.fp [(S a.Name.Space),(S a.Name.Local),(S a.Value)] 0)]) [(0,(.rows true 47 3 (l.map e_api_Attr)))] (.tup [.sref 0,.v (.bool true)]) [(0,(.rows true 47 3 ((l ++ [a]).map e_api_Attr)))]:=by
 refine Vx.Fn.of_okR Try.func41 rfl (Nat.le_of_ble_eq_true rfl) ?_
 refine Ok.seq ?_
 refine .rg [(0,(.sref 0)),(1,(.fp [(S a.Name.Space),(S a.Name.Local),(S a.Value)] 0))] [(0,(.rows true 47 3 (l.map e_api_Attr)))] ?_
 refine Ok.seq ?_
 refine Ok.seq ?_
 refine Ok.region (σ':=⟨[(0,(.sref 0)),(1,(.fp [(S a.Name.Space),(S a.Name.Local),(S a.Value)] 0)),(5,(.v (.int .i64 i)))],[(0,(.rows true 47 3 (l.map e_api_Attr)))]⟩) ?_ ?_
 ·refine .rn 3 ?_
  refine .cg (GOk.callV2 rfl rfl cl42 rfl (path_named.ok hn) rfl) rfl rfl ?_
  refine .rn 1 ?_
  exact .dn
 refine Ok.seq ?_
 refine .rg [(0,(.sref 0)),(1,(.fp [(S a.Name.Space),(S a.Name.Local),(S a.Value)] 0)),(5,(.v (.int .i64 i))),(11,(.v (.bool (decide (i ≥ 0)))))] [(0,(.rows true 47 3 (l.map e_api_Attr)))] ?_
 refine Ok.test (b:=(decide (i ≥ 0))) rfl (fun hb => ?_) (fun hb => ?_)
 ·exact absurd hb (by simp; omega)
 ·refine Ok.skip ?_
  refine Ok.seq ?_
  refine Ok.region (σ':=⟨[(3,(.sref 0)),(4,(.v (.bool true)))],[(0,(.rows true 47 3 ((l ++ [a]).map e_api_Attr)))]⟩) ?_ ?_
  ·refine .rn 2 ?_
   refine .cg (GOk.to (d':=(L 3 e_api_Attr ([a]:List T_api_Attr))) (GOk.lit rfl Try.underlying24 sz47 zs47 rfl rfl rfl rfl) rfl) rfl rfl ?_
   refine OpsOk.cons rfl (OpOk.appendL (e:=e_api_Attr) (xs:=l) (ys:=[a]) rfl Try.underlying24 elt47 rfl rfl rfl hbig rfl) ?_
   refine .rn 2 ?_
   exact .dn
  refine Ok.ret ?_
  exact⟨.inl rfl,⟨_,(.cons (.tmp rfl) (.cons (.tmp rfl) .nil)),rfl⟩,.same _,trivial⟩
theorem hdrop1T {nm:T_api_Name} {l:List T_api_Attr} {k:Nat} {i:Int} (hn:path_named k l nm=some i) (hi:0 ≤ i ∧ i < (l.length:Int)) (hbig:l.length ≤ 140737488355328) :
  Vx.Fn Try.prog 43 (.sref 0 :: [(.fp [(S nm.Space),(S nm.Local)] 0)]) [(0,(.rows true 47 3 (l.map e_api_Attr)))] (.tup [.sref 0,.v (.bool true)]) [(0,(.rows true 47 3 ((l.take i.toNat ++ l.drop (i.toNat + 1)).map e_api_Attr)))]:=by
 have hw:(D.v (.int .i64 (IntKind.i64.wrap (i + 1))))=.v (.int .i64 ((i.toNat + 1:Nat):Int)):=by rw [w64 (by omega) (by omega)]; congr 2; omega
 have hm:i=((i.toNat:Nat):Int):=by omega
 have hd:=hdel44 (rs:=l.map e_api_Attr) (i:=i.toNat) (j:=i.toNat + 1) (by omega) (by rw [List.length_map]; omega)
 rw [← List.map_take,← List.map_drop,← List.map_append,← hm] at hd
 refine Vx.Fn.of_okR Try.func43 rfl (Nat.le_of_ble_eq_true rfl) ?_
 refine Ok.seq ?_
 refine .rg [(0,(.sref 0)),(1,(.fp [(S nm.Space),(S nm.Local)] 0))] [(0,(.rows true 47 3 (l.map e_api_Attr)))] ?_
 refine Ok.seq ?_
 refine Ok.region (σ':=⟨[(0,(.sref 0)),(1,(.fp [(S nm.Space),(S nm.Local)] 0)),(5,(.v (.int .i64 i)))],[(0,(.rows true 47 3 (l.map e_api_Attr)))]⟩) ?_ ?_
 ·refine .rn 2 ?_
  refine .cg (GOk.callV2 rfl rfl cl42 rfl (path_named.ok hn) rfl) rfl rfl ?_
  refine .rn 1 ?_
  exact .dn
 refine Ok.seq ?_
 refine Ok.seq ?_
 refine .rg [(0,(.sref 0)),(1,(.fp [(S nm.Space),(S nm.Local)] 0)),(5,(.v (.int .i64 i))),(10,(.v (.bool (decide (i < 0)))))] [(0,(.rows true 47 3 (l.map e_api_Attr)))] ?_
 refine Ok.test (b:=(decide (i < 0))) rfl (fun hb => ?_) (fun hb => ?_)
 ·exact absurd hb (by simp; omega)
 ·refine Ok.skip ?_
  refine Ok.seq ?_
  refine Ok.region (σ':=⟨[(3,(.sref 0)),(4,(.v (.bool true)))],[(0,(.rows true 47 3 ((l.take i.toNat ++ l.drop (i.toNat + 1)).map e_api_Attr)))]⟩) ?_ ?_
  ·refine .rn 3 ?_
   refine .cv (VOk.to (VOk.arith (op:=.add) (k:=.i64) (a:=i) (b:=1) rfl rfl rfl rfl) hw) rfl rfl ?_
   refine OpsOk.cons rfl (OpOk.callRows (caps:=[]) rfl rfl cl44 hd rfl rfl rfl rfl rfl rfl) ?_
   refine .rn 2 ?_
   exact .dn
  refine Ok.ret ?_
  exact⟨.inl rfl,⟨_,(.cons (.tmp rfl) (.cons (.tmp rfl) .nil)),rfl⟩,.same _,trivial⟩
theorem hdrop1F {nm:T_api_Name} {l:List T_api_Attr} {k:Nat} {i:Int} (hn:path_named k l nm=some i) (hi:i < 0) :
  Vx.Fn Try.prog 43 (.sref 0 :: [(.fp [(S nm.Space),(S nm.Local)] 0)]) [(0,(.rows true 47 3 (l.map e_api_Attr)))] (.tup [.v (.slice none 0 0),.v (.bool false)]) []:=by
 refine Vx.Fn.of_okR Try.func43 rfl (Nat.le_of_ble_eq_true rfl) ?_
 refine Ok.seq ?_
 refine .rg [(0,(.sref 0)),(1,(.fp [(S nm.Space),(S nm.Local)] 0))] [(0,(.rows true 47 3 (l.map e_api_Attr)))] ?_
 refine Ok.seq ?_
 refine Ok.region (σ':=⟨[(0,(.sref 0)),(1,(.fp [(S nm.Space),(S nm.Local)] 0)),(5,(.v (.int .i64 i)))],[(0,(.rows true 47 3 (l.map e_api_Attr)))]⟩) ?_ ?_
 ·refine .rn 2 ?_
  refine .cg (GOk.callV2 rfl rfl cl42 rfl (path_named.ok hn) rfl) rfl rfl ?_
  refine .rn 1 ?_
  exact .dn
 refine Ok.seq ?_
 refine Ok.seq ?_
 refine .rg [(0,(.sref 0)),(1,(.fp [(S nm.Space),(S nm.Local)] 0)),(5,(.v (.int .i64 i))),(10,(.v (.bool (decide (i < 0)))))] [(0,(.rows true 47 3 (l.map e_api_Attr)))] ?_
 refine Ok.test (b:=(decide (i < 0))) rfl (fun hb => ?_) (fun hb => ?_)
 ·refine Ok.seq ?_
  refine .rg [(3,(.v (.slice none 0 0))),(4,(.v (.bool false)))] [] ?_
  refine Ok.ret ?_
  exact⟨.inl rfl,⟨_,(.cons (.tmp rfl) (.cons (.tmp rfl) .nil)),rfl⟩,trivial⟩
 ·exact absurd hb (by simp; omega)
end Go.Proofs.Ytjhbedgepfkdbaa.Sh
