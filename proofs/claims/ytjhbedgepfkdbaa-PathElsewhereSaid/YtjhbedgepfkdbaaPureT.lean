import Derived.Test.YtjhbedgepfkdbaaPureV
import Derived.Test.YtjhbedgepfkdbaaPureA
namespace Go.Proofs.Ytjhbedgepfkdbaa.Sh
open Go Go.RowKit Go.Proofs.Vx Go.Proofs.Ytjhbedgepfkdbaa.Pure
set_option linter.unusedVariables false
theorem hkids30_2V {n:T_api_Node} {place:List Int} {f:Nat} {X1 X2:List D} {H:Value→List D} {ety sz:Nat} {rows:List (List D)} {m:HN} {b:Bool}
  (hH:∀ s,(D.agg (H s)).pure=true) (hCopy:FnX Try.prog 28 [(.agg (e_api_Node n))] [] fun r T' => ∃ s,r=.agg (H s) ∧ T'=[(0,.pin s ety sz rows)])
  (hCh:∀ s,Vx.Fn Try.prog 50 [.agg (H s),L 1 (eI .i64) place,.clo 51 [.fp [.clo f [.fp X1 0,.fp X2 0]] 0]] [(0,.pin s ety sz rows)] (.tup [.agg (e_HN m),.v (.bool b)]) []) :
  Vx.Fn Try.prog 30 [.agg (e_api_Node n),L 1 (eI .i64) place,.clo f [.fp X1 0,.fp X2 0]] [] (.tup [.agg (e_HN m),.v (.bool b)]) []:=by
 refine Vx.Fn.of_okR Try.func30 rfl (Nat.le_of_ble_eq_true rfl) ?_
 refine Ok.seq ?_
 refine Ok.region (σ':=⟨[(1,(L 1 (eI .i64) place)),(3,(.bref 3 0)),(5,(.fp [.clo f [.fp X1 0,.fp X2 0]] 0)),(6,(.bref 6 0))],[(3,(bxN n)),(6,bx0)]⟩) ?_ ?_
 ·refine OpsOk.cut1 0 (.agg (c_api_Node n)) (DLe.of_eq (congrArg D.agg (e_api_Node_c _).symm)) ?_
  refine .rn 1 ?_
  refine .cg (GOk.boxP (cells:=[.clo f [.fp X1 0,.fp X2 0]]) rfl rfl (by simp [D.pureL,D.pure])) rfl rfl ?_
  refine .rn 2 ?_
  exact .dn
 refine Ok.seq ?_
 refine Ok.regionC ?_
 refine OpsC.cons rfl (.v (VOk.to (d':=(.agg (e_api_Node n))) (.loadBAgg rfl Try.underlying27 rfl sz27 rfl rfl rfl) (congrArg D.agg (e_api_Node_c n).symm)) rfl) ?_
 refine OpsC.consX rfl (OpX.callPin (A:=Value) (R:=fun s => .agg (H s)) (B:=fun s => .pin s ety sz rows) 11 rfl rfl cl28 hCopy (fun s =>⟨_,_,_,_,rfl⟩) rfl rfl hH rfl) ?_
 rintro _ ⟨s,rfl⟩
 refine OpsC.cut (σ:=⟨[(1,(L 1 (eI .i64) place)),(3,(.bref 3 0)),(5,(.fp [.clo f [.fp X1 0,.fp X2 0]] 0)),(6,(.bref 6 0)),(11,(.agg (H s)))],[(3,(bxN n)),(6,bx0),(11,(.pin s ety sz rows))]⟩) (.rf rfl rfl) ?_
 refine OpsC.cons rfl (.v (VOk.mv (d:=(L 1 (eI .i64) place)) rfl rfl) rfl) ?_
 refine OpsC.cons rfl (.v (VOk.makeFunc (ds:=[.fp [.clo f [.fp X1 0,.fp X2 0]] 0]) rfl rfl) rfl) ?_
 have hds:D.pureL [.agg (H s),L 1 (eI .i64) place,.clo 51 [.fp [.clo f [.fp X1 0,.fp X2 0]] 0]]=true:=by
  have h1:=hH s
  simp only [D.pureL,h1]; rfl
 refine OpsC.cons rfl (OpOk.callEat (ds:=[.agg (H s),L 1 (eI .i64) place,.clo 51 [.fp [.clo f [.fp X1 0,.fp X2 0]] 0]]) (r:=(.tup [.agg (e_HN m),.v (.bool b)])) 11 rfl rfl cl50 (hCh s) rfl ⟨.same _,.same _,.same _,trivial⟩ hds rfl rfl) ?_
 refine OpsC.cons rfl (.v (VOk.mv (d:=(.tup [.agg (e_HN m),.v (.bool b)])) rfl rfl) rfl) ?_
 refine OpsC.cons rfl (.v (VOk.extract (d:=(.agg (e_HN m))) rfl rfl rfl) rfl) ?_
 refine OpsC.cons rfl (.v (VOk.extract (d:=(.v (.bool b))) rfl rfl rfl) rfl) ?_
 refine OpsC.cons rfl (OpOk.to (σ2:=St.put ⟨_,(3,(.box .ex (e_HN m))) :: _⟩ _ .junk) (.storeB rfl sz27 rfl rfl rfl rfl rfl rfl) rfl) ?_
 refine OpsC.cons rfl (.v (VOk.asg (d:=(.v (.bool b))) rfl rfl) rfl) ?_
 refine OpsC.done (σ':=⟨[(3,(.bref 3 0)),(6,(.bref 6 0)),(8,(.v (.bool b)))],[(3,(.box .ex (e_HN m))),(6,bx0)]⟩) (.rf rfl rfl) ?_
 refine Ok.seq ?_
 refine .rg [(6,(.bref 6 0)),(7,(.v (.bool b)))] [(6,(.box .ex (e_HN m)))] ?_
 refine Ok.ret ?_
 exact⟨.inl rfl,⟨_,(.cons (.cell (VOk.to (d':=(.agg (e_HN m))) (.loadBAgg rfl Try.underlying27 rfl sz27 rfl rfl rfl) rfl)) (.cons (.tmp rfl) .nil)),rfl⟩,trivial⟩
theorem hkids30_2F {n:T_api_Node} {place:List Int} {f:Nat} {X1 X2:List D}
  (hCopy:Vx.Fn Try.prog 28 [(.agg (e_api_Node n))] [] (.agg (e_api_Node n)) [])
  (hCh:Vx.Fn Try.prog 50 [.agg (e_api_Node n),L 1 (eI .i64) place,.clo 51 [.fp [.clo f [.fp X1 0,.fp X2 0]] 0]] [] (.tup [.agg (e_HN hzero),.v (.bool false)]) []) :
  Vx.Fn Try.prog 30 [.agg (e_api_Node n),L 1 (eI .i64) place,.clo f [.fp X1 0,.fp X2 0]] [] (.tup [.agg (e_HN hzero),.v (.bool false)]) []:=by
 refine Vx.Fn.of_okR Try.func30 rfl (Nat.le_of_ble_eq_true rfl) ?_
 refine Ok.seq ?_
 refine Ok.region (σ':=⟨[(1,(L 1 (eI .i64) place)),(3,(.bref 3 0)),(5,(.fp [.clo f [.fp X1 0,.fp X2 0]] 0)),(6,(.bref 6 0))],[(3,(bxN n)),(6,bx0)]⟩) ?_ ?_
 ·refine OpsOk.cut1 0 (.agg (c_api_Node n)) (DLe.of_eq (congrArg D.agg (e_api_Node_c _).symm)) ?_
  refine .rn 1 ?_
  refine .cg (GOk.boxP (cells:=[.clo f [.fp X1 0,.fp X2 0]]) rfl rfl (by simp [D.pureL,D.pure])) rfl rfl ?_
  refine .rn 2 ?_
  exact .dn
 refine Ok.seq ?_
 refine Ok.regionC ?_
 refine OpsC.cons rfl (.v (VOk.to (d':=(.agg (e_api_Node n))) (.loadBAgg rfl Try.underlying27 rfl sz27 rfl rfl rfl) (congrArg D.agg (e_api_Node_c n).symm)) rfl) ?_
 refine OpsC.cons rfl (.g (GOk.call rfl rfl cl28 rfl hCopy rfl) rfl) ?_
 refine OpsC.cut (σ:=⟨[(1,(L 1 (eI .i64) place)),(3,(.bref 3 0)),(5,(.fp [.clo f [.fp X1 0,.fp X2 0]] 0)),(6,(.bref 6 0)),(11,(.agg (e_api_Node n)))],[(3,(bxN n)),(6,bx0)]⟩) (.rf rfl rfl) ?_
 refine OpsC.cons rfl (.v (VOk.mv (d:=(L 1 (eI .i64) place)) rfl rfl) rfl) ?_
 refine OpsC.cons rfl (.v (VOk.makeFunc (ds:=[.fp [.clo f [.fp X1 0,.fp X2 0]] 0]) rfl rfl) rfl) ?_
 refine OpsC.cons rfl (.g (GOk.call rfl rfl cl50 rfl hCh rfl) rfl) ?_
 refine OpsC.cons rfl (.v (VOk.mv (d:=(.tup [.agg (e_HN hzero),.v (.bool false)])) rfl rfl) rfl) ?_
 refine OpsC.cons rfl (.v (VOk.extract (d:=(.agg (e_HN hzero))) rfl rfl rfl) rfl) ?_
 refine OpsC.cons rfl (.v (VOk.extract (d:=(.v (.bool false))) rfl rfl rfl) rfl) ?_
 refine OpsC.cons rfl (OpOk.to (σ2:=St.put ⟨_,(3,(.box .ex (e_HN hzero))) :: _⟩ _ .junk) (.storeB rfl sz27 rfl rfl rfl rfl rfl rfl) rfl) ?_
 refine OpsC.cons rfl (.v (VOk.asg (d:=(.v (.bool false))) rfl rfl) rfl) ?_
 refine OpsC.done (σ':=⟨[(3,(.bref 3 0)),(6,(.bref 6 0)),(8,(.v (.bool false)))],[(3,(.box .ex (e_HN hzero))),(6,bx0)]⟩) (.rf rfl rfl) ?_
 refine Ok.seq ?_
 refine .rg [(6,(.bref 6 0)),(7,(.v (.bool false)))] [(6,(.box .ex (e_HN hzero)))] ?_
 refine Ok.ret ?_
 exact⟨.inl rfl,⟨_,(.cons (.cell (VOk.to (d':=(.agg (e_HN hzero))) (.loadBAgg rfl Try.underlying27 rfl sz27 rfl rfl rfl) rfl)) (.cons (.tmp rfl) .nil)),rfl⟩,trivial⟩
theorem hkids30_3V {n:T_api_Node} {place:List Int} {f:Nat} {X1 X2 X3:List D} {H:Value→List D} {ety sz:Nat} {rows:List (List D)} {m:HN} {b:Bool}
  (hH:∀ s,(D.agg (H s)).pure=true) (hCopy:FnX Try.prog 28 [(.agg (e_api_Node n))] [] fun r T' => ∃ s,r=.agg (H s) ∧ T'=[(0,.pin s ety sz rows)])
  (hCh:∀ s,Vx.Fn Try.prog 50 [.agg (H s),L 1 (eI .i64) place,.clo 51 [.fp [.clo f [.fp X1 0,.fp X2 0,.fp X3 0]] 0]] [(0,.pin s ety sz rows)] (.tup [.agg (e_HN m),.v (.bool b)]) []) :
  Vx.Fn Try.prog 30 [.agg (e_api_Node n),L 1 (eI .i64) place,.clo f [.fp X1 0,.fp X2 0,.fp X3 0]] [] (.tup [.agg (e_HN m),.v (.bool b)]) []:=by
 refine Vx.Fn.of_okR Try.func30 rfl (Nat.le_of_ble_eq_true rfl) ?_
 refine Ok.seq ?_
 refine Ok.region (σ':=⟨[(1,(L 1 (eI .i64) place)),(3,(.bref 3 0)),(5,(.fp [.clo f [.fp X1 0,.fp X2 0,.fp X3 0]] 0)),(6,(.bref 6 0))],[(3,(bxN n)),(6,bx0)]⟩) ?_ ?_
 ·refine OpsOk.cut1 0 (.agg (c_api_Node n)) (DLe.of_eq (congrArg D.agg (e_api_Node_c _).symm)) ?_
  refine .rn 1 ?_
  refine .cg (GOk.boxP (cells:=[.clo f [.fp X1 0,.fp X2 0,.fp X3 0]]) rfl rfl (by simp [D.pureL,D.pure])) rfl rfl ?_
  refine .rn 2 ?_
  exact .dn
 refine Ok.seq ?_
 refine Ok.regionC ?_
 refine OpsC.cons rfl (.v (VOk.to (d':=(.agg (e_api_Node n))) (.loadBAgg rfl Try.underlying27 rfl sz27 rfl rfl rfl) (congrArg D.agg (e_api_Node_c n).symm)) rfl) ?_
 refine OpsC.consX rfl (OpX.callPin (A:=Value) (R:=fun s => .agg (H s)) (B:=fun s => .pin s ety sz rows) 11 rfl rfl cl28 hCopy (fun s =>⟨_,_,_,_,rfl⟩) rfl rfl hH rfl) ?_
 rintro _ ⟨s,rfl⟩
 refine OpsC.cut (σ:=⟨[(1,(L 1 (eI .i64) place)),(3,(.bref 3 0)),(5,(.fp [.clo f [.fp X1 0,.fp X2 0,.fp X3 0]] 0)),(6,(.bref 6 0)),(11,(.agg (H s)))],[(3,(bxN n)),(6,bx0),(11,(.pin s ety sz rows))]⟩) (.rf rfl rfl) ?_
 refine OpsC.cons rfl (.v (VOk.mv (d:=(L 1 (eI .i64) place)) rfl rfl) rfl) ?_
 refine OpsC.cons rfl (.v (VOk.makeFunc (ds:=[.fp [.clo f [.fp X1 0,.fp X2 0,.fp X3 0]] 0]) rfl rfl) rfl) ?_
 have hds:D.pureL [.agg (H s),L 1 (eI .i64) place,.clo 51 [.fp [.clo f [.fp X1 0,.fp X2 0,.fp X3 0]] 0]]=true:=by
  have h1:=hH s
  simp only [D.pureL,h1]; rfl
 refine OpsC.cons rfl (OpOk.callEat (ds:=[.agg (H s),L 1 (eI .i64) place,.clo 51 [.fp [.clo f [.fp X1 0,.fp X2 0,.fp X3 0]] 0]]) (r:=(.tup [.agg (e_HN m),.v (.bool b)])) 11 rfl rfl cl50 (hCh s) rfl ⟨.same _,.same _,.same _,trivial⟩ hds rfl rfl) ?_
 refine OpsC.cons rfl (.v (VOk.mv (d:=(.tup [.agg (e_HN m),.v (.bool b)])) rfl rfl) rfl) ?_
 refine OpsC.cons rfl (.v (VOk.extract (d:=(.agg (e_HN m))) rfl rfl rfl) rfl) ?_
 refine OpsC.cons rfl (.v (VOk.extract (d:=(.v (.bool b))) rfl rfl rfl) rfl) ?_
 refine OpsC.cons rfl (OpOk.to (σ2:=St.put ⟨_,(3,(.box .ex (e_HN m))) :: _⟩ _ .junk) (.storeB rfl sz27 rfl rfl rfl rfl rfl rfl) rfl) ?_
 refine OpsC.cons rfl (.v (VOk.asg (d:=(.v (.bool b))) rfl rfl) rfl) ?_
 refine OpsC.done (σ':=⟨[(3,(.bref 3 0)),(6,(.bref 6 0)),(8,(.v (.bool b)))],[(3,(.box .ex (e_HN m))),(6,bx0)]⟩) (.rf rfl rfl) ?_
 refine Ok.seq ?_
 refine .rg [(6,(.bref 6 0)),(7,(.v (.bool b)))] [(6,(.box .ex (e_HN m)))] ?_
 refine Ok.ret ?_
 exact⟨.inl rfl,⟨_,(.cons (.cell (VOk.to (d':=(.agg (e_HN m))) (.loadBAgg rfl Try.underlying27 rfl sz27 rfl rfl rfl) rfl)) (.cons (.tmp rfl) .nil)),rfl⟩,trivial⟩
theorem hkids30_3F {n:T_api_Node} {place:List Int} {f:Nat} {X1 X2 X3:List D}
  (hCopy:Vx.Fn Try.prog 28 [(.agg (e_api_Node n))] [] (.agg (e_api_Node n)) [])
  (hCh:Vx.Fn Try.prog 50 [.agg (e_api_Node n),L 1 (eI .i64) place,.clo 51 [.fp [.clo f [.fp X1 0,.fp X2 0,.fp X3 0]] 0]] [] (.tup [.agg (e_HN hzero),.v (.bool false)]) []) :
  Vx.Fn Try.prog 30 [.agg (e_api_Node n),L 1 (eI .i64) place,.clo f [.fp X1 0,.fp X2 0,.fp X3 0]] [] (.tup [.agg (e_HN hzero),.v (.bool false)]) []:=by
 refine Vx.Fn.of_okR Try.func30 rfl (Nat.le_of_ble_eq_true rfl) ?_
 refine Ok.seq ?_
 refine Ok.region (σ':=⟨[(1,(L 1 (eI .i64) place)),(3,(.bref 3 0)),(5,(.fp [.clo f [.fp X1 0,.fp X2 0,.fp X3 0]] 0)),(6,(.bref 6 0))],[(3,(bxN n)),(6,bx0)]⟩) ?_ ?_
 ·refine OpsOk.cut1 0 (.agg (c_api_Node n)) (DLe.of_eq (congrArg D.agg (e_api_Node_c _).symm)) ?_
  refine .rn 1 ?_
  refine .cg (GOk.boxP (cells:=[.clo f [.fp X1 0,.fp X2 0,.fp X3 0]]) rfl rfl (by simp [D.pureL,D.pure])) rfl rfl ?_
  refine .rn 2 ?_
  exact .dn
 refine Ok.seq ?_
 refine Ok.regionC ?_
 refine OpsC.cons rfl (.v (VOk.to (d':=(.agg (e_api_Node n))) (.loadBAgg rfl Try.underlying27 rfl sz27 rfl rfl rfl) (congrArg D.agg (e_api_Node_c n).symm)) rfl) ?_
 refine OpsC.cons rfl (.g (GOk.call rfl rfl cl28 rfl hCopy rfl) rfl) ?_
 refine OpsC.cut (σ:=⟨[(1,(L 1 (eI .i64) place)),(3,(.bref 3 0)),(5,(.fp [.clo f [.fp X1 0,.fp X2 0,.fp X3 0]] 0)),(6,(.bref 6 0)),(11,(.agg (e_api_Node n)))],[(3,(bxN n)),(6,bx0)]⟩) (.rf rfl rfl) ?_
 refine OpsC.cons rfl (.v (VOk.mv (d:=(L 1 (eI .i64) place)) rfl rfl) rfl) ?_
 refine OpsC.cons rfl (.v (VOk.makeFunc (ds:=[.fp [.clo f [.fp X1 0,.fp X2 0,.fp X3 0]] 0]) rfl rfl) rfl) ?_
 refine OpsC.cons rfl (.g (GOk.call rfl rfl cl50 rfl hCh rfl) rfl) ?_
 refine OpsC.cons rfl (.v (VOk.mv (d:=(.tup [.agg (e_HN hzero),.v (.bool false)])) rfl rfl) rfl) ?_
 refine OpsC.cons rfl (.v (VOk.extract (d:=(.agg (e_HN hzero))) rfl rfl rfl) rfl) ?_
 refine OpsC.cons rfl (.v (VOk.extract (d:=(.v (.bool false))) rfl rfl rfl) rfl) ?_
 refine OpsC.cons rfl (OpOk.to (σ2:=St.put ⟨_,(3,(.box .ex (e_HN hzero))) :: _⟩ _ .junk) (.storeB rfl sz27 rfl rfl rfl rfl rfl rfl) rfl) ?_
 refine OpsC.cons rfl (.v (VOk.asg (d:=(.v (.bool false))) rfl rfl) rfl) ?_
 refine OpsC.done (σ':=⟨[(3,(.bref 3 0)),(6,(.bref 6 0)),(8,(.v (.bool false)))],[(3,(.box .ex (e_HN hzero))),(6,bx0)]⟩) (.rf rfl rfl) ?_
 refine Ok.seq ?_
 refine .rg [(6,(.bref 6 0)),(7,(.v (.bool false)))] [(6,(.box .ex (e_HN hzero)))] ?_
 refine Ok.ret ?_
 exact⟨.inl rfl,⟨_,(.cons (.cell (VOk.to (d':=(.agg (e_HN hzero))) (.loadBAgg rfl Try.underlying27 rfl sz27 rfl rfl rfl) rfl)) (.cons (.tmp rfl) .nil)),rfl⟩,trivial⟩
theorem hattrs40V {n:T_api_Node} {place:List Int} {f:Nat} {X1:List D} {H:Value→List D} {ety sz:Nat} {rows:List (List D)} {m:HN} {b:Bool}
  (hH:∀ s,(D.agg (H s)).pure=true) (hCopy:FnX Try.prog 28 [(.agg (e_api_Node n))] [] fun r T' => ∃ s,r=.agg (H s) ∧ T'=[(0,.pin s ety sz rows)])
  (hCh:∀ s,Vx.Fn Try.prog 50 [.agg (H s),L 1 (eI .i64) place,.clo 55 [.fp [.clo f [.fp X1 0]] 0]] [(0,.pin s ety sz rows)] (.tup [.agg (e_HN m),.v (.bool b)]) []) :
  Vx.Fn Try.prog 40 [.agg (e_api_Node n),L 1 (eI .i64) place,.clo f [.fp X1 0]] [] (.tup [.agg (e_HN m),.v (.bool b)]) []:=by
 refine Vx.Fn.of_okR Try.func40 rfl (Nat.le_of_ble_eq_true rfl) ?_
 refine Ok.seq ?_
 refine Ok.region (σ':=⟨[(1,(L 1 (eI .i64) place)),(3,(.bref 3 0)),(5,(.fp [.clo f [.fp X1 0]] 0)),(6,(.bref 6 0))],[(3,(bxN n)),(6,bx0)]⟩) ?_ ?_
 ·refine OpsOk.cut1 0 (.agg (c_api_Node n)) (DLe.of_eq (congrArg D.agg (e_api_Node_c _).symm)) ?_
  refine .rn 1 ?_
  refine .cg (GOk.boxP (cells:=[.clo f [.fp X1 0]]) rfl rfl (by simp [D.pureL,D.pure])) rfl rfl ?_
  refine .rn 2 ?_
  exact .dn
 refine Ok.seq ?_
 refine Ok.regionC ?_
 refine OpsC.cons rfl (.v (VOk.to (d':=(.agg (e_api_Node n))) (.loadBAgg rfl Try.underlying27 rfl sz27 rfl rfl rfl) (congrArg D.agg (e_api_Node_c n).symm)) rfl) ?_
 refine OpsC.consX rfl (OpX.callPin (A:=Value) (R:=fun s => .agg (H s)) (B:=fun s => .pin s ety sz rows) 9 rfl rfl cl28 hCopy (fun s =>⟨_,_,_,_,rfl⟩) rfl rfl hH rfl) ?_
 rintro _ ⟨s,rfl⟩
 refine OpsC.cut (σ:=⟨[(1,(L 1 (eI .i64) place)),(3,(.bref 3 0)),(5,(.fp [.clo f [.fp X1 0]] 0)),(6,(.bref 6 0)),(9,(.agg (H s)))],[(3,(bxN n)),(6,bx0),(9,(.pin s ety sz rows))]⟩) (.rf rfl rfl) ?_
 refine OpsC.cons rfl (.v (VOk.mv (d:=(L 1 (eI .i64) place)) rfl rfl) rfl) ?_
 refine OpsC.cons rfl (.v (VOk.makeFunc (ds:=[.fp [.clo f [.fp X1 0]] 0]) rfl rfl) rfl) ?_
 have hds:D.pureL [.agg (H s),L 1 (eI .i64) place,.clo 55 [.fp [.clo f [.fp X1 0]] 0]]=true:=by
  have h1:=hH s
  simp only [D.pureL,h1]; rfl
 refine OpsC.cons rfl (OpOk.callEat (ds:=[.agg (H s),L 1 (eI .i64) place,.clo 55 [.fp [.clo f [.fp X1 0]] 0]]) (r:=(.tup [.agg (e_HN m),.v (.bool b)])) 9 rfl rfl cl50 (hCh s) rfl ⟨.same _,.same _,.same _,trivial⟩ hds rfl rfl) ?_
 refine OpsC.cons rfl (.v (VOk.extract (d:=(.agg (e_HN m))) rfl rfl rfl) rfl) ?_
 refine OpsC.cons rfl (.v (VOk.extract (d:=(.v (.bool b))) rfl rfl rfl) rfl) ?_
 refine OpsC.cons rfl (OpOk.to (σ2:=St.put ⟨_,(6,(.box .ex (e_HN m))) :: _⟩ _ .junk) (.storeB rfl sz27 rfl rfl rfl rfl rfl rfl) rfl) ?_
 refine OpsC.cons rfl (.v (VOk.asg (d:=(.v (.bool b))) rfl rfl) rfl) ?_
 refine OpsC.done (σ':=⟨[(6,(.bref 6 0)),(7,(.v (.bool b)))],[(6,(.box .ex (e_HN m)))]⟩) (.rf rfl rfl) ?_
 refine Ok.ret ?_
 exact⟨.inl rfl,⟨_,(.cons (.cell (VOk.to (d':=(.agg (e_HN m))) (.loadBAgg rfl Try.underlying27 rfl sz27 rfl rfl rfl) rfl)) (.cons (.tmp rfl) .nil)),rfl⟩,trivial⟩
theorem hattrs40F {n:T_api_Node} {place:List Int} {f:Nat} {X1:List D}
  (hCopy:Vx.Fn Try.prog 28 [(.agg (e_api_Node n))] [] (.agg (e_api_Node n)) [])
  (hCh:Vx.Fn Try.prog 50 [.agg (e_api_Node n),L 1 (eI .i64) place,.clo 55 [.fp [.clo f [.fp X1 0]] 0]] [] (.tup [.agg (e_HN hzero),.v (.bool false)]) []) :
  Vx.Fn Try.prog 40 [.agg (e_api_Node n),L 1 (eI .i64) place,.clo f [.fp X1 0]] [] (.tup [.agg (e_HN hzero),.v (.bool false)]) []:=by
 refine Vx.Fn.of_okR Try.func40 rfl (Nat.le_of_ble_eq_true rfl) ?_
 refine Ok.seq ?_
 refine Ok.region (σ':=⟨[(1,(L 1 (eI .i64) place)),(3,(.bref 3 0)),(5,(.fp [.clo f [.fp X1 0]] 0)),(6,(.bref 6 0))],[(3,(bxN n)),(6,bx0)]⟩) ?_ ?_
 ·refine OpsOk.cut1 0 (.agg (c_api_Node n)) (DLe.of_eq (congrArg D.agg (e_api_Node_c _).symm)) ?_
  refine .rn 1 ?_
  refine .cg (GOk.boxP (cells:=[.clo f [.fp X1 0]]) rfl rfl (by simp [D.pureL,D.pure])) rfl rfl ?_
  refine .rn 2 ?_
  exact .dn
 refine Ok.seq ?_
 refine Ok.regionC ?_
 refine OpsC.cons rfl (.v (VOk.to (d':=(.agg (e_api_Node n))) (.loadBAgg rfl Try.underlying27 rfl sz27 rfl rfl rfl) (congrArg D.agg (e_api_Node_c n).symm)) rfl) ?_
 refine OpsC.cons rfl (.g (GOk.call rfl rfl cl28 rfl hCopy rfl) rfl) ?_
 refine OpsC.cut (σ:=⟨[(1,(L 1 (eI .i64) place)),(3,(.bref 3 0)),(5,(.fp [.clo f [.fp X1 0]] 0)),(6,(.bref 6 0)),(9,(.agg (e_api_Node n)))],[(3,(bxN n)),(6,bx0)]⟩) (.rf rfl rfl) ?_
 refine OpsC.cons rfl (.v (VOk.mv (d:=(L 1 (eI .i64) place)) rfl rfl) rfl) ?_
 refine OpsC.cons rfl (.v (VOk.makeFunc (ds:=[.fp [.clo f [.fp X1 0]] 0]) rfl rfl) rfl) ?_
 refine OpsC.cons rfl (.g (GOk.call rfl rfl cl50 rfl hCh rfl) rfl) ?_
 refine OpsC.cons rfl (.v (VOk.extract (d:=(.agg (e_HN hzero))) rfl rfl rfl) rfl) ?_
 refine OpsC.cons rfl (.v (VOk.extract (d:=(.v (.bool false))) rfl rfl rfl) rfl) ?_
 refine OpsC.cons rfl (OpOk.to (σ2:=St.put ⟨_,(6,(.box .ex (e_HN hzero))) :: _⟩ _ .junk) (.storeB rfl sz27 rfl rfl rfl rfl rfl rfl) rfl) ?_
 refine OpsC.cons rfl (.v (VOk.asg (d:=(.v (.bool false))) rfl rfl) rfl) ?_
 refine OpsC.done (σ':=⟨[(6,(.bref 6 0)),(7,(.v (.bool false)))],[(6,(.box .ex (e_HN hzero)))]⟩) (.rf rfl rfl) ?_
 refine Ok.ret ?_
 exact⟨.inl rfl,⟨_,(.cons (.cell (VOk.to (d':=(.agg (e_HN hzero))) (.loadBAgg rfl Try.underlying27 rfl sz27 rfl rfl rfl) rfl)) (.cons (.tmp rfl) .nil)),rfl⟩,trivial⟩
theorem cp (n:T_api_Node) (h:wt n ≤ 1000000000):Vx.Fn Try.prog 28 [(.agg (e_api_Node n))] [] (.agg (e_api_Node n)) []:=tree_Copy.ok (copy_eq _ _ n (Nat.le_refl _) h (Nat.le_refl _))
theorem cpE (n:T_api_Node) (h:wt n ≤ 1000000000):tree_Copy (wt n + 3000000010) n=some n:=copy_eq _ _ n (Nat.le_refl _) h (Nat.le_refl _)
theorem rd_memI {l:List T_api_Node} {j:Int} (h:0 ≤ j ∧ j < (l.length:Int)):rd l j ∈ l:=by
 have hj:j.toNat < l.length:=by omega
 simp [rd,hj]
theorem kidw {n:T_api_Node} {j:Int} (hj:0 ≤ j ∧ j < (n.Kids.length:Int)) (h:wt n ≤ 1000000000):wt (rd n.Kids j) ≤ 1000000000:=by have:=kid_lt (rd_memI hj); omega
theorem caB {n:T_api_Node} (h:wt n ≤ 1000000000):(([]:List T_api_Attr).length + n.Attrs.length) * 48 ≤ 140737488355328:=by have:=wt_eq n; simp only [List.length_nil]; omega
theorem ckB {n:T_api_Node} (h:wt n ≤ 1000000000):(([]:List T_api_Node).length + n.Kids.length) * 104 ≤ 140737488355328:=by have:=wt_eq n; have:=wtL_len n.Kids; simp only [List.length_nil]; omega
def valid:List Int→T_api_Node→Prop
 | [],_ => True
 | i :: q,n => (0 ≤ i ∧ i < (n.Kids.length:Int)) ∧ valid q (rd n.Kids i)
def atN:List Int→T_api_Node→T_api_Node
 | [],n => n
 | i :: q,n => atN q (rd n.Kids i)
def zeroN:T_api_Node:=⟨0,⟨[],[]⟩,[],[],[]⟩
def chg (g:T_api_Node→Option (T_api_Node × Bool)):List Int→T_api_Node→Option (T_api_Node × Bool)
 | [],n => g n
 | i :: q,n => if 0 ≤ i ∧ i < (n.Kids.length:Int) then (chg g q (rd n.Kids i)).map fun r => bif r.2 then (⟨n.Kind,n.Name,n.Attrs,n.Kids.set i.toNat r.1,n.Text⟩,true) else (zeroN,false) else some (zeroN,false)
theorem chg_not (g:T_api_Node→Option (T_api_Node × Bool)):∀ (place:List Int) (n:T_api_Node),¬ valid place n→chg g place n=some (zeroN,false)
 | [],n,h => absurd trivial h
 | i :: q,n,h => by
  unfold chg
  by_cases hi:0 ≤ i ∧ i < (n.Kids.length:Int)
  ·rw [if_pos hi,chg_not g q _ (fun hv => h ⟨hi,hv⟩)]; rfl
  ·rw [if_neg hi]
theorem fin_set (n:T_api_Node) (i:Int) (hole:List D) (r:T_api_Node × Bool) :
  e_HN (bif r.2 then⟨n.Kind,n.Name.Space,n.Name.Local,n.Attrs,((n.Kids.map e_api_Node).set i.toNat hole).set i.toNat (e_HN (toHN r.1)),n.Text⟩ else hzero)=e_HN (toHN (bif r.2 then ((⟨n.Kind,n.Name,n.Attrs,n.Kids.set i.toNat r.1,n.Text⟩:T_api_Node),true) else (zeroN,false)).1):=by
 cases r.2 with
 | false => rfl
 | true =>
  simp only [cond_true]
  rw [List.set_set,e_HN_to r.1,← List.map_set]
  rfl
theorem fin_b (n:T_api_Node) (i:Int) (r:T_api_Node × Bool):(bif r.2 then ((⟨n.Kind,n.Name,n.Attrs,n.Kids.set i.toNat r.1,n.Text⟩:T_api_Node),true) else (zeroN,false)).2=r.2:=by cases r.2 <;> rfl
theorem rd_set_same {l:List (List D)} {i:Int} {r:List D} (h:0 ≤ i ∧ i < (l.length:Int)):rd (l.set i.toNat r) i=r:=by
 have hj:i.toNat < l.length:=by omega
 simp [rd,hj]
theorem hch_F {g:Nat} {X:List D}:∀ (place:List Int) (n:T_api_Node),¬ valid place n→Vx.Fn Try.prog 50 [.agg (e_api_Node n),L 1 (eI .i64) place,.clo g [.fp X 0]] [] (.tup [.agg (e_HN hzero),.v (.bool false)]) []
 | [],n,h => absurd trivial h
 | i :: q,n,h => by
  rw [← e_HN_to n]
  have hl:(toHN n).kids.length=n.Kids.length:=List.length_map _
  by_cases hi:0 ≤ i ∧ i < (n.Kids.length:Int)
  ·refine hchange3 (n:=toHN n) (n':=toHN (rd n.Kids i)) (m:=hzero) (by rw [hl]; exact hi) (by rw [e_HN_to]; exact rd_map hi) ?_
   rw [e_HN_to]
   exact hch_F q _ (fun hv => h ⟨hi,hv⟩)
  ·exact hchange2 (n:=toHN n) (by rw [hl]; exact hi)
def holeK (s:Value):List Int→T_api_Node→List D
 | [],n => [(.v (.int .i64 n.Kind)),(S n.Name.Space),(S n.Name.Local),(L 3 e_api_Attr n.Attrs),(.v s),(S n.Text)]
 | i :: q,n => e_HN ⟨n.Kind,n.Name.Space,n.Name.Local,n.Attrs,(n.Kids.map e_api_Node).set i.toNat (holeK s q (rd n.Kids i)),n.Text⟩
theorem holeK_pure (s:Value) (place:List Int) (n:T_api_Node):(D.agg (holeK s place n)).pure=true:=by cases place <;> rfl
theorem hcopy_K:∀ (place:List Int) (n:T_api_Node),valid place n→wt n ≤ 1000000000→FnX Try.prog 28 [(.agg (e_api_Node n))] [] fun r T' => ∃ s,r=.agg (holeK s place n) ∧ T'=[(0,(.pin s 27 6 ((atN place n).Kids.map e_api_Node)))]
 | [],n,_,h => hcopyK n (caB h) (ckB h) fun j hj => cp _ (kidw hj h)
 | [i],n,hv,h => hcopyIK n i hv.1 (caB h) (ckB h) (fun j hj _ => cp _ (kidw hj h)) (hcopy_K [] (rd n.Kids i) trivial (kidw hv.1 h))
 | i :: i' :: q,n,hv,h => hcopyIN n i (ks:=fun s => ((rd n.Kids i).Kids.map e_api_Node).set i'.toNat (holeK s q (rd (rd n.Kids i).Kids i'))) hv.1 (caB h) (ckB h) (fun j hj _ => cp _ (kidw hj h)) (hcopy_K (i' :: q) (rd n.Kids i) hv.2 (kidw hv.1 h))
theorem hch_K {X:List D} {s:Value} {ety sz:Nat} {rows:List (List D)} {g:T_api_Node→Option (T_api_Node × Bool)}:∀ (place:List Int) (n:T_api_Node) {r:T_api_Node × Bool},valid place n→wt n ≤ 1000000000→chg g place n=some r→
  (∀ r',g (atN place n)=some r'→Vx.Fn Try.prog 51 [.agg [(.v (.int .i64 (atN place n).Kind)),(S (atN place n).Name.Space),(S (atN place n).Name.Local),(L 3 e_api_Attr (atN place n).Attrs),(.v s),(S (atN place n).Text)],.fp X 0] [(0,.pin s ety sz rows)] (.tup [.agg (e_HN (toHN r'.1)),.v (.bool r'.2)]) [])→
  Vx.Fn Try.prog 50 [.agg (holeK s place n),L 1 (eI .i64) place,.clo 51 [.fp X 0]] [(0,.pin s ety sz rows)] (.tup [.agg (e_HN (toHN r.1)),.v (.bool r.2)]) []
 | [],n,r,_,_,hc,hf => hchange0K cl51 (hf r hc)
 | [i],n,r,hv,h,hc,hf => by
  unfold chg at hc
  rw [if_pos hv.1,Option.map_eq_some_iff] at hc
  obtain⟨r',hr',rfl⟩:=hc
  have ih:=hch_K (X:=X) (s:=s) (ety:=ety) (sz:=sz) (rows:=rows) (g:=g) [] (rd n.Kids i) hv.2 (kidw hv.1 h) hr' hf
  have hl:((n.Kids.map e_api_Node).set i.toNat (holeK s [] (rd n.Kids i))).length=n.Kids.length:=by rw [List.length_set,List.length_map]
  have:=hchange1K (n:=⟨n.Kind,n.Name.Space,n.Name.Local,n.Attrs,(n.Kids.map e_api_Node).set i.toNat (holeK s [] (rd n.Kids i)),n.Text⟩) (i:=i) (by show _ ∧ i < ((List.length _:Nat):Int); rw [hl]; exact hv.1) (rd_set_same (by rw [List.length_map]; exact hv.1)) (by have h2:=ckB h; show (_ + List.length _) * 104 ≤ _; rw [hl]; exact h2) ih
  rw [fin_set n i (holeK s [] (rd n.Kids i)) r'] at this
  rw [fin_b n i r']
  exact this
 | i :: i' :: q,n,r,hv,h,hc,hf => by
  unfold chg at hc
  rw [if_pos hv.1,Option.map_eq_some_iff] at hc
  obtain⟨r',hr',rfl⟩:=hc
  have ih:=hch_K (X:=X) (s:=s) (ety:=ety) (sz:=sz) (rows:=rows) (g:=g) (i' :: q) (rd n.Kids i) hv.2 (kidw hv.1 h) hr' hf
  have hl:((n.Kids.map e_api_Node).set i.toNat (holeK s (i' :: q) (rd n.Kids i))).length=n.Kids.length:=by rw [List.length_set,List.length_map]
  have:=hchange1N (n:=⟨n.Kind,n.Name.Space,n.Name.Local,n.Attrs,(n.Kids.map e_api_Node).set i.toNat (holeK s (i' :: q) (rd n.Kids i)),n.Text⟩) (i:=i) (by show _ ∧ i < ((List.length _:Nat):Int); rw [hl]; exact hv.1) (rd_set_same (by rw [List.length_map]; exact hv.1)) (by have h2:=ckB h; show (_ + List.length _) * 104 ≤ _; rw [hl]; exact h2) ih
  rw [fin_set n i (holeK s (i' :: q) (rd n.Kids i)) r'] at this
  rw [fin_b n i r']
  exact this
def holeA (s:Value):List Int→T_api_Node→List D
 | [],n => [(.v (.int .i64 n.Kind)),(S n.Name.Space),(S n.Name.Local),(.v s),(L 6 e_api_Node n.Kids),(S n.Text)]
 | i :: q,n => e_HN ⟨n.Kind,n.Name.Space,n.Name.Local,n.Attrs,(n.Kids.map e_api_Node).set i.toNat (holeA s q (rd n.Kids i)),n.Text⟩
theorem holeA_pure (s:Value) (place:List Int) (n:T_api_Node):(D.agg (holeA s place n)).pure=true:=by cases place <;> rfl
theorem hcopy_A:∀ (place:List Int) (n:T_api_Node),valid place n→wt n ≤ 1000000000→FnX Try.prog 28 [(.agg (e_api_Node n))] [] fun r T' => ∃ s,r=.agg (holeA s place n) ∧ T'=[(0,(.pin s 47 3 ((atN place n).Attrs.map e_api_Attr)))]
 | [],n,_,h => hcopyA n (caB h) (ckB h) fun j hj => cp _ (kidw hj h)
 | [i],n,hv,h => hcopyIA n i hv.1 (caB h) (ckB h) (fun j hj _ => cp _ (kidw hj h)) (hcopy_A [] (rd n.Kids i) trivial (kidw hv.1 h))
 | i :: i' :: q,n,hv,h => hcopyIN n i (ks:=fun s => ((rd n.Kids i).Kids.map e_api_Node).set i'.toNat (holeA s q (rd (rd n.Kids i).Kids i'))) hv.1 (caB h) (ckB h) (fun j hj _ => cp _ (kidw hj h)) (hcopy_A (i' :: q) (rd n.Kids i) hv.2 (kidw hv.1 h))
theorem hch_A {X:List D} {s:Value} {ety sz:Nat} {rows:List (List D)} {g:T_api_Node→Option (T_api_Node × Bool)}:∀ (place:List Int) (n:T_api_Node) {r:T_api_Node × Bool},valid place n→wt n ≤ 1000000000→chg g place n=some r→
  (∀ r',g (atN place n)=some r'→Vx.Fn Try.prog 55 [.agg [(.v (.int .i64 (atN place n).Kind)),(S (atN place n).Name.Space),(S (atN place n).Name.Local),(.v s),(L 6 e_api_Node (atN place n).Kids),(S (atN place n).Text)],.fp X 0] [(0,.pin s ety sz rows)] (.tup [.agg (e_HN (toHN r'.1)),.v (.bool r'.2)]) [])→
  Vx.Fn Try.prog 50 [.agg (holeA s place n),L 1 (eI .i64) place,.clo 55 [.fp X 0]] [(0,.pin s ety sz rows)] (.tup [.agg (e_HN (toHN r.1)),.v (.bool r.2)]) []
 | [],n,r,_,_,hc,hf => hchange0A cl55 (hf r hc)
 | [i],n,r,hv,h,hc,hf => by
  unfold chg at hc
  rw [if_pos hv.1,Option.map_eq_some_iff] at hc
  obtain⟨r',hr',rfl⟩:=hc
  have ih:=hch_A (X:=X) (s:=s) (ety:=ety) (sz:=sz) (rows:=rows) (g:=g) [] (rd n.Kids i) hv.2 (kidw hv.1 h) hr' hf
  have hl:((n.Kids.map e_api_Node).set i.toNat (holeA s [] (rd n.Kids i))).length=n.Kids.length:=by rw [List.length_set,List.length_map]
  have:=hchange1A (n:=⟨n.Kind,n.Name.Space,n.Name.Local,n.Attrs,(n.Kids.map e_api_Node).set i.toNat (holeA s [] (rd n.Kids i)),n.Text⟩) (i:=i) (by show _ ∧ i < ((List.length _:Nat):Int); rw [hl]; exact hv.1) (rd_set_same (by rw [List.length_map]; exact hv.1)) (by have h2:=ckB h; show (_ + List.length _) * 104 ≤ _; rw [hl]; exact h2) ih
  rw [fin_set n i (holeA s [] (rd n.Kids i)) r'] at this
  rw [fin_b n i r']
  exact this
 | i :: i' :: q,n,r,hv,h,hc,hf => by
  unfold chg at hc
  rw [if_pos hv.1,Option.map_eq_some_iff] at hc
  obtain⟨r',hr',rfl⟩:=hc
  have ih:=hch_A (X:=X) (s:=s) (ety:=ety) (sz:=sz) (rows:=rows) (g:=g) (i' :: q) (rd n.Kids i) hv.2 (kidw hv.1 h) hr' hf
  have hl:((n.Kids.map e_api_Node).set i.toNat (holeA s (i' :: q) (rd n.Kids i))).length=n.Kids.length:=by rw [List.length_set,List.length_map]
  have:=hchange1N (n:=⟨n.Kind,n.Name.Space,n.Name.Local,n.Attrs,(n.Kids.map e_api_Node).set i.toNat (holeA s (i' :: q) (rd n.Kids i)),n.Text⟩) (i:=i) (by show _ ∧ i < ((List.length _:Nat):Int); rw [hl]; exact hv.1) (rd_set_same (by rw [List.length_map]; exact hv.1)) (by have h2:=ckB h; show (_ + List.length _) * 104 ≤ _; rw [hl]; exact h2) ih
  rw [fin_set n i (holeA s (i' :: q) (rd n.Kids i)) r'] at this
  rw [fin_b n i r']
  exact this
theorem kids_ok2 {n:T_api_Node} {place:List Int} {f:Nat} {X1 X2:List D} {g:T_api_Node→Option (T_api_Node × Bool)} {r:T_api_Node × Bool} (h:wt n ≤ 1000000000) (hc:chg g place n=some r)
  (hf:valid place n→∀ s r',g (atN place n)=some r'→Vx.Fn Try.prog 51 [.agg [(.v (.int .i64 (atN place n).Kind)),(S (atN place n).Name.Space),(S (atN place n).Name.Local),(L 3 e_api_Attr (atN place n).Attrs),(.v s),(S (atN place n).Text)],.fp [.clo f [.fp X1 0,.fp X2 0]] 0] [(0,(.pin s 27 6 ((atN place n).Kids.map e_api_Node)))] (.tup [.agg (e_HN (toHN r'.1)),.v (.bool r'.2)]) []) :
  Vx.Fn Try.prog 30 [.agg (e_api_Node n),L 1 (eI .i64) place,.clo f [.fp X1 0,.fp X2 0]] [] (.tup [.agg (e_HN (toHN r.1)),.v (.bool r.2)]) []:=by
 by_cases hv:valid place n
 ·exact hkids30_2V (holeK_pure · place n) (hcopy_K place n hv h) fun s => hch_K place n hv h hc (hf hv s)
 ·rw [chg_not g place n hv] at hc
  cases hc
  exact hkids30_2F (cp n h) (hch_F place n hv)
theorem kids_ok3 {n:T_api_Node} {place:List Int} {f:Nat} {X1 X2 X3:List D} {g:T_api_Node→Option (T_api_Node × Bool)} {r:T_api_Node × Bool} (h:wt n ≤ 1000000000) (hc:chg g place n=some r)
  (hf:valid place n→∀ s r',g (atN place n)=some r'→Vx.Fn Try.prog 51 [.agg [(.v (.int .i64 (atN place n).Kind)),(S (atN place n).Name.Space),(S (atN place n).Name.Local),(L 3 e_api_Attr (atN place n).Attrs),(.v s),(S (atN place n).Text)],.fp [.clo f [.fp X1 0,.fp X2 0,.fp X3 0]] 0] [(0,(.pin s 27 6 ((atN place n).Kids.map e_api_Node)))] (.tup [.agg (e_HN (toHN r'.1)),.v (.bool r'.2)]) []) :
  Vx.Fn Try.prog 30 [.agg (e_api_Node n),L 1 (eI .i64) place,.clo f [.fp X1 0,.fp X2 0,.fp X3 0]] [] (.tup [.agg (e_HN (toHN r.1)),.v (.bool r.2)]) []:=by
 by_cases hv:valid place n
 ·exact hkids30_3V (holeK_pure · place n) (hcopy_K place n hv h) fun s => hch_K place n hv h hc (hf hv s)
 ·rw [chg_not g place n hv] at hc
  cases hc
  exact hkids30_3F (cp n h) (hch_F place n hv)
theorem attrs_ok {n:T_api_Node} {place:List Int} {f:Nat} {X1:List D} {g:T_api_Node→Option (T_api_Node × Bool)} {r:T_api_Node × Bool} (h:wt n ≤ 1000000000) (hc:chg g place n=some r)
  (hf:valid place n→∀ s r',g (atN place n)=some r'→Vx.Fn Try.prog 55 [.agg [(.v (.int .i64 (atN place n).Kind)),(S (atN place n).Name.Space),(S (atN place n).Name.Local),(.v s),(L 6 e_api_Node (atN place n).Kids),(S (atN place n).Text)],.fp [.clo f [.fp X1 0]] 0] [(0,(.pin s 47 3 ((atN place n).Attrs.map e_api_Attr)))] (.tup [.agg (e_HN (toHN r'.1)),.v (.bool r'.2)]) []) :
  Vx.Fn Try.prog 40 [.agg (e_api_Node n),L 1 (eI .i64) place,.clo f [.fp X1 0]] [] (.tup [.agg (e_HN (toHN r.1)),.v (.bool r.2)]) []:=by
 by_cases hv:valid place n
 ·exact hattrs40V (holeA_pure · place n) (hcopy_A place n hv h) fun s => hch_A place n hv h hc (hf hv s)
 ·rw [chg_not g place n hv] at hc
  cases hc
  exact hattrs40F (cp n h) (hch_F place n hv)
theorem zoI3:zeroOf Try.prog 3=some (.int .i64 0):=by kernel_rfl
theorem atN_wt:∀ (place:List Int) (n:T_api_Node),valid place n→wt (atN place n) ≤ wt n
 | [],n,_ => Nat.le_refl _
 | i :: q,n,hv => Nat.le_trans (atN_wt q _ hv.2) (Nat.le_of_lt (kid_lt (rd_memI hv.1)))
def kidsG (F:List T_api_Node→Option (List T_api_Node)) (n:T_api_Node):Option (T_api_Node × Bool):=match F n.Kids with
 | none => some (zeroN,false)
 | some l => if n.Kind=1 then (path_joined 9000000000 l).map fun j => (⟨n.Kind,n.Name,n.Attrs,j,n.Text⟩,true) else some (zeroN,false)
def insF (b:Int) (x:T_api_Node) (l:List T_api_Node):Option (List T_api_Node):=if 0 ≤ b ∧ b ≤ (l.length:Int) then some (l.take b.toNat ++ x :: l.drop b.toNat) else none
def repF (i:Int) (x:T_api_Node) (l:List T_api_Node):Option (List T_api_Node):=if 0 ≤ i ∧ i < (l.length:Int) then some (l.set i.toNat x) else none
def remF (i:Int) (l:List T_api_Node):Option (List T_api_Node):=if 0 ≤ i ∧ i < (l.length:Int) then some (l.take i.toNat ++ l.drop (i.toNat + 1)) else none
def attrsG (F:List T_api_Attr→Option (Option (List T_api_Attr))) (n:T_api_Node):Option (T_api_Node × Bool):=(F n.Attrs).map fun x => match x with
 | none => (zeroN,false)
 | some l => if n.Kind=1 then (⟨n.Kind,n.Name,l,n.Kids,n.Text⟩,true) else (zeroN,false)
def setF (a:T_api_Attr) (l:List T_api_Attr):Option (Option (List T_api_Attr)):=(path_named 9000000000 l a.Name).bind fun i => if i < 0 then some (some (l ++ [a])) else if i < (l.length:Int) then some (some (l.set i.toNat a)) else none
def dropF (nm:T_api_Name) (l:List T_api_Attr):Option (Option (List T_api_Attr)):=(path_named 9000000000 l nm).bind fun i => if i < 0 then some none else if i < (l.length:Int) then some (some (l.take i.toNat ++ l.drop (i.toNat + 1))) else none
theorem kidsG_ok {f:Nat} {caps:List D} {F:List T_api_Node→Option (List T_api_Node)} {m:T_api_Node} {s:Value} {r:T_api_Node × Bool} (hc:callable Try.prog f=true) (hp:D.pureL caps=true)
  (hT:∀ l',F m.Kids=some l'→Vx.Fn Try.prog f (.sref 0 :: caps) [(0,(.rows true 27 6 (m.Kids.map e_api_Node)))] (.tup [.sref 0,.v (.bool true)]) [(0,(.rows true 27 6 (l'.map e_api_Node)))])
  (hN:F m.Kids=none→Vx.Fn Try.prog f (.sref 0 :: caps) [(0,(.rows true 27 6 (m.Kids.map e_api_Node)))] (.tup [.v (.slice none 0 0),.v (.bool false)]) [])
  (hr:kidsG F m=some r):Vx.Fn Try.prog 51 [.agg [(.v (.int .i64 m.Kind)),(S m.Name.Space),(S m.Name.Local),(L 3 e_api_Attr m.Attrs),(.v s),(S m.Text)],.fp [.clo f caps] 0] [(0,.pin s 27 6 (m.Kids.map e_api_Node))] (.tup [.agg (e_HN (toHN r.1)),.v (.bool r.2)]) []:=by
 unfold kidsG at hr
 cases hF:F m.Kids with
 | none => rw [hF] at hr; cases hr; exact hkids1Fb hc hp (hN hF)
 | some l =>
  rw [hF] at hr
  simp only at hr
  by_cases hk:m.Kind=1
  ·rw [if_pos hk,Option.map_eq_some_iff] at hr
   obtain⟨j,hj,rfl⟩:=hr
   exact hkids1T hk hj hc hp (hT l hF)
  ·rw [if_neg hk] at hr; cases hr; exact hkids1Fa hk hc hp (hT l hF)
theorem attrsG_ok {f:Nat} {caps:List D} {F:List T_api_Attr→Option (Option (List T_api_Attr))} {m:T_api_Node} {s:Value} {r:T_api_Node × Bool} (hc:callable Try.prog f=true) (hp:D.pureL caps=true)
  (hT:∀ l',F m.Attrs=some (some l')→Vx.Fn Try.prog f (.sref 0 :: caps) [(0,(.rows true 47 3 (m.Attrs.map e_api_Attr)))] (.tup [.sref 0,.v (.bool true)]) [(0,(.rows true 47 3 (l'.map e_api_Attr)))])
  (hN:F m.Attrs=some none→Vx.Fn Try.prog f (.sref 0 :: caps) [(0,(.rows true 47 3 (m.Attrs.map e_api_Attr)))] (.tup [.v (.slice none 0 0),.v (.bool false)]) [])
  (hr:attrsG F m=some r):Vx.Fn Try.prog 55 [.agg [(.v (.int .i64 m.Kind)),(S m.Name.Space),(S m.Name.Local),(.v s),(L 6 e_api_Node m.Kids),(S m.Text)],.fp [.clo f caps] 0] [(0,.pin s 47 3 (m.Attrs.map e_api_Attr))] (.tup [.agg (e_HN (toHN r.1)),.v (.bool r.2)]) []:=by
 unfold attrsG at hr
 rw [Option.map_eq_some_iff] at hr
 obtain⟨x,hF,rfl⟩:=hr
 cases x with
 | none => exact hattrs1Fb hc hp (hN hF)
 | some l =>
  simp only
  by_cases hk:m.Kind=1
  ·rw [if_pos hk]; exact hattrs1T hk hc hp (hT l hF)
  ·rw [if_neg hk]; exact hattrs1Fa hk hc hp (hT l hF)
theorem kidsL {n:T_api_Node} (h:wt n ≤ 1000000000):n.Kids.length ≤ 1000000000 ∧ n.Attrs.length ≤ 1000000000:=by have:=wt_eq n; have:=wtL_len n.Kids; omega
theorem sl_last (p:List Int) (h:p ≠ []):L 1 (eI .i64) (sl p 0 ((p.length:Int) - 1))=L 1 (eI .i64) p.dropLast:=by
 have h1:0 < p.length:=List.length_pos_iff.2 h
 congr 1
 simp [sl,List.dropLast_eq_take]
theorem wr_len {p:List Int} (h:p ≠ []) (hb:p.length ≤ 1000000000):(D.v (.int .i64 (IntKind.i64.wrap ((p.length:Int) - 1))))=.v (.int .i64 ((p.length:Int) - 1)):=by
 have h1:0 < p.length:=List.length_pos_iff.2 h
 rw [w64 (by omega) (by omega)]
def path_Insert (k:Nat) (a0:T_api_Node) (a1:T_api_Node) (a2:Int) (a3:List Int):Option (T_api_Node × Bool):=if wt a0 ≤ 1000000000 ∧ wt a1 ≤ 1000000000 then chg (kidsG (insF a2 a1)) a3 a0 else none
theorem path_Insert.ok {k:Nat} {a0:T_api_Node} {a1:T_api_Node} {a2:Int} {a3:List Int} {r:T_api_Node × Bool} (H:path_Insert k a0 a1 a2 a3=some r):Vx.Fn Try.prog 20 [(.agg (e_api_Node a0)),(.agg (e_api_Node a1)),(.v (.int .i64 a2)),(L 1 (eI .i64) a3)] [] (.tup [.agg (e_api_Node r.1),.v (.bool r.2)]) []:=by
 unfold path_Insert at H
 obtain⟨hw,H⟩:=assertE H
 rw [← e_HN_to r.1]
 have hkids:=kids_ok2 (f:=36) (X1:=[(.v (.int .i64 a2))]) (X2:=(c_api_Node a1)) hw.1 H fun hv s r' hr' => by
  have hm:=kidsL (Nat.le_trans (atN_wt a3 a0 hv) hw.1)
  refine kidsG_ok cl36 rfl (fun l' hl' => ?_) (fun hl' => ?_) hr'
  ·unfold insF at hl'
   obtain⟨hi,hl'⟩:=assertE hl'
   cases hl'
   exact hins1T (cpE a1 hw.2) hi (by omega)
  ·unfold insF at hl'
   by_cases hi:0 ≤ a2 ∧ a2 ≤ ((atN a3 a0).Kids.length:Int)
   ·rw [if_pos hi] at hl'; cases hl'
   ·exact hins1F hi
 refine Vx.Fn.of_okR Try.func20 rfl (Nat.le_of_ble_eq_true rfl) ?_
 refine Ok.seq ?_
 refine Ok.region (σ':=⟨[(3,(L 1 (eI .i64) a3)),(4,(.fp (c_api_Node a0) 0)),(5,(.fp (c_api_Node a1) 0)),(6,(.fp [(.v (.int .i64 a2))] 0)),(8,(.bref 8 0))],[(8,bx0)]⟩) ?_ ?_
 ·refine OpsOk.cut1 0 (.agg (c_api_Node a0)) (DLe.of_eq (congrArg D.agg (e_api_Node_c _).symm)) ?_
  refine .cg (GOk.boxP (cells:=(c_api_Node a0)) rfl rfl rfl) rfl rfl ?_
  refine OpsOk.cut1 1 (.agg (c_api_Node a1)) (DLe.of_eq (congrArg D.agg (e_api_Node_c _).symm)) ?_
  refine .cg (GOk.boxP (cells:=(c_api_Node a1)) rfl rfl rfl) rfl rfl ?_
  refine .cg (GOk.boxP (cells:=[(.v (.int .i64 a2))]) rfl rfl rfl) rfl rfl ?_
  refine .rn 2 ?_
  exact .dn
 refine Ok.seq ?_
 refine Ok.region (σ':=⟨[(8,(.bref 8 0)),(9,(.v (.bool r.2)))],[(8,(.box .ex (e_HN (toHN r.1))))]⟩) ?_ ?_
 ·refine .cv (VOk.to (d':=(.agg (e_api_Node a0))) (.loadFpAgg rfl Try.underlying27 rfl sz27 rfl rfl) (congrArg D.agg (e_api_Node_c a0).symm)) rfl rfl ?_
  refine .rn 1 ?_
  refine .cv (VOk.makeFunc (ds:=[.fp [(.v (.int .i64 a2))] 0,.fp (c_api_Node a1) 0]) rfl rfl) rfl rfl ?_
  refine .cg (GOk.call rfl rfl cl30 rfl hkids rfl) rfl rfl ?_
  refine .rn 4 ?_
  exact .dn
 refine Ok.ret ?_
 exact⟨.inl rfl,⟨_,(.cons (.cell (VOk.to (d':=(.agg (e_HN (toHN r.1)))) (.loadBAgg rfl Try.underlying27 rfl sz27 rfl rfl rfl) rfl)) (.cons (.tmp rfl) .nil)),rfl⟩,trivial⟩
def path_SetAttr (k:Nat) (a0:T_api_Node) (a1:T_api_Attr) (a2:List Int):Option (T_api_Node × Bool):=if wt a0 ≤ 1000000000 then chg (attrsG (setF a1)) a2 a0 else none
theorem path_SetAttr.ok {k:Nat} {a0:T_api_Node} {a1:T_api_Attr} {a2:List Int} {r:T_api_Node × Bool} (H:path_SetAttr k a0 a1 a2=some r):Vx.Fn Try.prog 23 [(.agg (e_api_Node a0)),(.agg (e_api_Attr a1)),(L 1 (eI .i64) a2)] [] (.tup [.agg (e_api_Node r.1),.v (.bool r.2)]) []:=by
 unfold path_SetAttr at H
 obtain⟨hw,H⟩:=assertE H
 rw [← e_HN_to r.1]
 have hkids:=attrs_ok (f:=41) (X1:=[(S a1.Name.Space),(S a1.Name.Local),(S a1.Value)]) hw H fun hv s r' hr' => by
  have hm:=kidsL (Nat.le_trans (atN_wt a2 a0 hv) hw)
  refine attrsG_ok cl41 rfl (fun l' hl' => ?_) (fun hl' => ?_) hr'
  ·unfold setF at hl'
   obtain⟨i,hn,hl'⟩:=bindE hl'
   by_cases hi:i < 0
   ·rw [if_pos hi] at hl'; cases hl'; exact hset1N hn hi (by omega)
   ·rw [if_neg hi] at hl'; obtain⟨h2,hl'⟩:=assertE hl'; cases hl'; exact hset1T hn ⟨by omega,h2⟩
  ·unfold setF at hl'
   obtain⟨i,hn,hl'⟩:=bindE hl'
   by_cases hi:i < 0
   ·rw [if_pos hi] at hl'; cases hl'
   ·rw [if_neg hi] at hl'; obtain⟨h2,hl'⟩:=assertE hl'; cases hl'
 refine Vx.Fn.of_okR Try.func23 rfl (Nat.le_of_ble_eq_true rfl) ?_
 refine Ok.seq ?_
 refine Ok.region (σ':=⟨[(2,(L 1 (eI .i64) a2)),(3,(.fp (c_api_Node a0) 0)),(4,(.fp [(S a1.Name.Space),(S a1.Name.Local),(S a1.Value)] 0)),(6,(.bref 6 0))],[(6,bx0)]⟩) ?_ ?_
 ·refine OpsOk.cut1 0 (.agg (c_api_Node a0)) (DLe.of_eq (congrArg D.agg (e_api_Node_c _).symm)) ?_
  refine .cg (GOk.boxP (cells:=(c_api_Node a0)) rfl rfl rfl) rfl rfl ?_
  refine .cg (GOk.boxP (cells:=[(S a1.Name.Space),(S a1.Name.Local),(S a1.Value)]) rfl rfl rfl) rfl rfl ?_
  refine .rn 2 ?_
  exact .dn
 refine Ok.seq ?_
 refine Ok.region (σ':=⟨[(6,(.bref 6 0)),(7,(.v (.bool r.2)))],[(6,(.box .ex (e_HN (toHN r.1))))]⟩) ?_ ?_
 ·refine .cv (VOk.to (d':=(.agg (e_api_Node a0))) (.loadFpAgg rfl Try.underlying27 rfl sz27 rfl rfl) (congrArg D.agg (e_api_Node_c a0).symm)) rfl rfl ?_
  refine .rn 1 ?_
  refine .cv (VOk.makeFunc (ds:=[.fp [(S a1.Name.Space),(S a1.Name.Local),(S a1.Value)] 0]) rfl rfl) rfl rfl ?_
  refine .cg (GOk.call rfl rfl cl40 rfl hkids rfl) rfl rfl ?_
  refine .rn 4 ?_
  exact .dn
 refine Ok.ret ?_
 exact⟨.inl rfl,⟨_,(.cons (.cell (VOk.to (d':=(.agg (e_HN (toHN r.1)))) (.loadBAgg rfl Try.underlying27 rfl sz27 rfl rfl rfl) rfl)) (.cons (.tmp rfl) .nil)),rfl⟩,trivial⟩
def path_DropAttr (k:Nat) (a0:T_api_Node) (a1:T_api_Name) (a2:List Int):Option (T_api_Node × Bool):=if wt a0 ≤ 1000000000 then chg (attrsG (dropF a1)) a2 a0 else none
theorem path_DropAttr.ok {k:Nat} {a0:T_api_Node} {a1:T_api_Name} {a2:List Int} {r:T_api_Node × Bool} (H:path_DropAttr k a0 a1 a2=some r):Vx.Fn Try.prog 24 [(.agg (e_api_Node a0)),(.agg (e_api_Name a1)),(L 1 (eI .i64) a2)] [] (.tup [.agg (e_api_Node r.1),.v (.bool r.2)]) []:=by
 unfold path_DropAttr at H
 obtain⟨hw,H⟩:=assertE H
 rw [← e_HN_to r.1]
 have hkids:=attrs_ok (f:=43) (X1:=[(S a1.Space),(S a1.Local)]) hw H fun hv s r' hr' => by
  have hm:=kidsL (Nat.le_trans (atN_wt a2 a0 hv) hw)
  refine attrsG_ok cl43 rfl (fun l' hl' => ?_) (fun hl' => ?_) hr'
  ·unfold dropF at hl'
   obtain⟨i,hn,hl'⟩:=bindE hl'
   by_cases hi:i < 0
   ·rw [if_pos hi] at hl'; cases hl'
   ·rw [if_neg hi] at hl'; obtain⟨h2,hl'⟩:=assertE hl'; cases hl'; exact hdrop1T hn ⟨by omega,h2⟩ (by omega)
  ·unfold dropF at hl'
   obtain⟨i,hn,hl'⟩:=bindE hl'
   by_cases hi:i < 0
   ·exact hdrop1F hn hi
   ·rw [if_neg hi] at hl'; obtain⟨h2,hl'⟩:=assertE hl'; cases hl'
 refine Vx.Fn.of_okR Try.func24 rfl (Nat.le_of_ble_eq_true rfl) ?_
 refine Ok.seq ?_
 refine Ok.region (σ':=⟨[(2,(L 1 (eI .i64) a2)),(3,(.fp (c_api_Node a0) 0)),(4,(.fp [(S a1.Space),(S a1.Local)] 0)),(6,(.bref 6 0))],[(6,bx0)]⟩) ?_ ?_
 ·refine OpsOk.cut1 0 (.agg (c_api_Node a0)) (DLe.of_eq (congrArg D.agg (e_api_Node_c _).symm)) ?_
  refine .cg (GOk.boxP (cells:=(c_api_Node a0)) rfl rfl rfl) rfl rfl ?_
  refine .cg (GOk.boxP (cells:=[(S a1.Space),(S a1.Local)]) rfl rfl rfl) rfl rfl ?_
  refine .rn 2 ?_
  exact .dn
 refine Ok.seq ?_
 refine Ok.region (σ':=⟨[(6,(.bref 6 0)),(7,(.v (.bool r.2)))],[(6,(.box .ex (e_HN (toHN r.1))))]⟩) ?_ ?_
 ·refine .cv (VOk.to (d':=(.agg (e_api_Node a0))) (.loadFpAgg rfl Try.underlying27 rfl sz27 rfl rfl) (congrArg D.agg (e_api_Node_c a0).symm)) rfl rfl ?_
  refine .rn 1 ?_
  refine .cv (VOk.makeFunc (ds:=[.fp [(S a1.Space),(S a1.Local)] 0]) rfl rfl) rfl rfl ?_
  refine .cg (GOk.call rfl rfl cl40 rfl hkids rfl) rfl rfl ?_
  refine .rn 4 ?_
  exact .dn
 refine Ok.ret ?_
 exact⟨.inl rfl,⟨_,(.cons (.cell (VOk.to (d':=(.agg (e_HN (toHN r.1)))) (.loadBAgg rfl Try.underlying27 rfl sz27 rfl rfl rfl) rfl)) (.cons (.tmp rfl) .nil)),rfl⟩,trivial⟩
def path_Replace (k:Nat) (a0:T_api_Node) (a1:T_api_Node) (a2:List Int):Option (T_api_Node × Bool):=if wt a0 ≤ 1000000000 ∧ wt a1 ≤ 1000000000 ∧ a2.length ≤ 1000000000 then (if a2=[] then some (a1,true) else chg (kidsG (repF (rd a2 ((a2.length:Int) - 1)) a1)) a2.dropLast a0) else none
theorem path_Replace.ok {k:Nat} {a0:T_api_Node} {a1:T_api_Node} {a2:List Int} {r:T_api_Node × Bool} (H:path_Replace k a0 a1 a2=some r):Vx.Fn Try.prog 16 [(.agg (e_api_Node a0)),(.agg (e_api_Node a1)),(L 1 (eI .i64) a2)] [] (.tup [.agg (e_api_Node r.1),.v (.bool r.2)]) []:=by
 unfold path_Replace at H
 obtain⟨hw,H⟩:=assertE H
 rw [← e_HN_to r.1]
 refine Vx.Fn.of_okR Try.func16 rfl (Nat.le_of_ble_eq_true rfl) ?_
 refine Ok.seq ?_
 refine Ok.region (σ':=⟨[(3,(.fp (c_api_Node a0) 0)),(4,(.fp (c_api_Node a1) 0)),(5,(.fp [(L 1 (eI .i64) a2)] 0)),(6,(.bref 6 0))],[(6,bx0)]⟩) ?_ ?_
 ·refine OpsOk.cut1 0 (.agg (c_api_Node a0)) (DLe.of_eq (congrArg D.agg (e_api_Node_c _).symm)) ?_
  refine .cg (GOk.boxP (cells:=(c_api_Node a0)) rfl rfl rfl) rfl rfl ?_
  refine OpsOk.cut1 1 (.agg (c_api_Node a1)) (DLe.of_eq (congrArg D.agg (e_api_Node_c _).symm)) ?_
  refine .cg (GOk.boxP (cells:=(c_api_Node a1)) rfl rfl rfl) rfl rfl ?_
  refine .cg (GOk.boxP (cells:=[(L 1 (eI .i64) a2)]) rfl rfl rfl) rfl rfl ?_
  refine .rn 2 ?_
  exact .dn
 refine Ok.seq ?_
 refine Ok.seq ?_
 refine Ok.region (σ':=⟨[(3,(.fp (c_api_Node a0) 0)),(4,(.fp (c_api_Node a1) 0)),(5,(.fp [(L 1 (eI .i64) a2)] 0)),(6,(.bref 6 0)),(11,(.v (.bool ((a2.length:Int) == 0))))],[(6,bx0)]⟩) ?_ ?_
 ·refine .rn 1 ?_
  refine .cv (VOk.lenL (e:=(eI .i64)) (xs:=a2) rfl Try.underlying28 rfl) rfl rfl ?_
  refine .rn 1 ?_
  exact .dn
 refine Ok.test (b:=((a2.length:Int) == 0)) rfl (fun hb => ?_) (fun hb => ?_)
 ·have hp0:a2=[]:=by
   have h1:(a2.length:Int)=0:=by simpa using hb
   exact List.eq_nil_of_length_eq_zero (by omega)
  rw [if_pos hp0] at H
  cases H
  refine Ok.seq ?_
  refine Ok.region (σ':=⟨[(6,(.bref 6 0)),(7,(.v (.bool true)))],[(6,(.box .ex (e_HN (toHN a1))))]⟩) ?_ ?_
  ·refine .cv (VOk.to (d':=(.agg (e_api_Node a1))) (.loadFpAgg rfl Try.underlying27 rfl sz27 rfl rfl) (congrArg D.agg (e_api_Node_c a1).symm)) rfl rfl ?_
   refine .cg (GOk.to (d':=(.agg (e_HN (toHN a1)))) (GOk.call rfl rfl cl28 rfl (cp a1 hw.2.1) rfl) (by rw [e_HN_to])) rfl rfl ?_
   refine .rn 2 ?_
   exact .dn
  refine Ok.ret ?_
  exact⟨.inl rfl,⟨_,(.cons (.cell (VOk.to (d':=(.agg (e_HN (toHN a1)))) (.loadBAgg rfl Try.underlying27 rfl sz27 rfl rfl rfl) rfl)) (.cons (.tmp rfl) .nil)),rfl⟩,trivial⟩
 ·have hp0:a2 ≠ []:=by
   rintro rfl
   exact absurd hb (by decide)
  have hp1:0 < a2.length:=List.length_pos_iff.2 hp0
  have hpb:a2.length ≤ 1000000000:=hw.2.2
  rw [if_neg hp0] at H
  have hkids:=kids_ok3 (f:=31) (X1:=[(L 1 (eI .i64) a2)]) (X2:=[(.v (.int .i64 ((a2.length:Int) - 1)))]) (X3:=(c_api_Node a1)) hw.1 H fun hv s r' hr' => by
   have hm:=kidsL (Nat.le_trans (atN_wt a2.dropLast a0 hv) hw.1)
   refine kidsG_ok cl31 rfl (fun l' hl' => ?_) (fun hl' => ?_) hr'
   ·unfold repF at hl'
    obtain⟨hi,hl'⟩:=assertE hl'
    cases hl'
    exact hrep1T (cpE a1 hw.2.1) ⟨by omega,by omega⟩ hi
   ·unfold repF at hl'
    by_cases hi:0 ≤ (rd a2 ((a2.length:Int) - 1)) ∧ (rd a2 ((a2.length:Int) - 1)) < ((atN a2.dropLast a0).Kids.length:Int)
    ·rw [if_pos hi] at hl'; cases hl'
    ·exact hrep1F ⟨by omega,by omega⟩ hi
  refine Ok.le (σ':=⟨[(3,(.fp (c_api_Node a0) 0)),(4,(.fp (c_api_Node a1) 0)),(5,(.fp [(L 1 (eI .i64) a2)] 0)),(6,(.bref 6 0))],[(6,bx0)]⟩) (.rf rfl rfl) ?_
  refine Ok.skip ?_
  refine Ok.seq ?_
  refine Ok.region (σ':=⟨[(3,(.fp (c_api_Node a0) 0)),(4,(.fp (c_api_Node a1) 0)),(5,(.fp [(L 1 (eI .i64) a2)] 0)),(6,(.bref 6 0)),(8,(.bref 8 0))],[(6,bx0),(8,(.box .ex [(.v (.int .i64 ((a2.length:Int) - 1)))]))]⟩) ?_ ?_
  ·refine .rn 1 ?_
   refine .cv (VOk.lenL (e:=(eI .i64)) (xs:=a2) rfl Try.underlying28 rfl) rfl rfl ?_
   refine .cv (VOk.to (d':=(.v (.int .i64 ((a2.length:Int) - 1)))) (VOk.arith (op:=.sub) (k:=.i64) (a:=(a2.length:Int)) (b:=1) rfl rfl rfl rfl) (wr_len hp0 hpb)) rfl rfl ?_
   refine OpsOk.cons rfl (OpOk.alloc 8 [none] rfl zoI3 rfl rfl) ?_
   refine .rn 1 ?_
   exact .dn
  refine Ok.frzBox 8 (cells:=[(.v (.int .i64 ((a2.length:Int) - 1)))]) rfl rfl ?_
  refine Ok.le (σ':=⟨[(3,(.fp (c_api_Node a0) 0)),(4,(.fp (c_api_Node a1) 0)),(5,(.fp [(L 1 (eI .i64) a2)] 0)),(6,(.bref 6 0)),(8,(.fp [(.v (.int .i64 ((a2.length:Int) - 1)))] 0))],[(6,bx0)]⟩) (.rf rfl rfl) ?_
  refine Ok.seq ?_
  refine .dU [(6,(.bref 6 0)),(7,(.v (.bool r.2)))] [(6,(.box .ex (e_HN (toHN r.1))))] [[],[],[],[1,2],[],[0,1,2,3,4],[0,1,2,3,4,5],[0,1,2,3,4,5],[0,1,2,3,4,5,6,7],[0,1,2,3,4,5,6,7,8]] mixed ?_ ?_
  ·refine .uc ⟨true,[(3,(.fp (c_api_Node a0) 0))],[],(.agg (e_api_Node a0)),[],false,[]⟩ ⟨.same _,trivial⟩ trivial (It2.val rfl rfl (fun T hT => (VOk.g (VOk.to (d':=(.agg (e_api_Node a0))) (.loadFpAgg rfl Try.underlying27 rfl sz27 rfl rfl) (congrArg D.agg (e_api_Node_c a0).symm))))) ?_
   refine .un 2 ?_
   refine .uc ⟨true,[(18,(L 1 (eI .i64) a2)),(19,(.v (.int .i64 ((a2.length:Int) - 1))))],[],(L 1 (eI .i64) a2.dropLast),[],false,[]⟩ ⟨.same _,.same _,trivial⟩ trivial (It2.val rfl rfl (fun T hT => (VOk.g (VOk.to (d':=(L 1 (eI .i64) a2.dropLast)) (VOk.sliceL (e:=(eI .i64)) (xs:=a2) (l:=0) (h:=((a2.length:Int) - 1)) rfl Try.underlying28 sz3 rfl rfl rfl ⟨by omega,by omega,by omega⟩) (sl_last a2 hp0))))) ?_
   refine .uc ⟨true,[(5,(.fp [(L 1 (eI .i64) a2)] 0)),(8,(.fp [(.v (.int .i64 ((a2.length:Int) - 1)))] 0)),(4,(.fp (c_api_Node a1) 0))],[],(.clo 31 [.fp [(L 1 (eI .i64) a2)] 0,.fp [(.v (.int .i64 ((a2.length:Int) - 1)))] 0,.fp (c_api_Node a1) 0]),[],false,[]⟩ ⟨.same _,.same _,.same _,trivial⟩ trivial (It2.val rfl rfl (fun T hT => (VOk.g (VOk.makeFunc (ds:=[.fp [(L 1 (eI .i64) a2)] 0,.fp [(.v (.int .i64 ((a2.length:Int) - 1)))] 0,.fp (c_api_Node a1) 0]) rfl rfl)))) ?_
   refine .uc ⟨true,[(17,(.agg (e_api_Node a0))),(20,(L 1 (eI .i64) a2.dropLast)),(21,(.clo 31 [.fp [(L 1 (eI .i64) a2)] 0,.fp [(.v (.int .i64 ((a2.length:Int) - 1)))] 0,.fp (c_api_Node a1) 0]))],[],(.tup [.agg (e_HN (toHN r.1)),.v (.bool r.2)]),[],false,[]⟩ ⟨.same _,.same _,.same _,trivial⟩ trivial (It2.val rfl rfl (fun T hT => (GOk.call rfl rfl cl30 rfl hkids rfl))) ?_
   refine .un 4 ?_
   exact .dn
  refine Ok.ret ?_
  exact⟨.inl rfl,⟨_,(.cons (.cell (VOk.to (d':=(.agg (e_HN (toHN r.1)))) (.loadBAgg rfl Try.underlying27 rfl sz27 rfl rfl rfl) rfl)) (.cons (.tmp rfl) .nil)),rfl⟩,trivial⟩
def path_Remove (k:Nat) (a0:T_api_Node) (a1:List Int):Option (T_api_Node × Bool):=if wt a0 ≤ 1000000000 ∧ a1.length ≤ 1000000000 then (if a1=[] then some (zeroN,false) else chg (kidsG (remF (rd a1 ((a1.length:Int) - 1)))) a1.dropLast a0) else none
theorem path_Remove.ok {k:Nat} {a0:T_api_Node} {a1:List Int} {r:T_api_Node × Bool} (H:path_Remove k a0 a1=some r):Vx.Fn Try.prog 21 [(.agg (e_api_Node a0)),(L 1 (eI .i64) a1)] [] (.tup [.agg (e_api_Node r.1),.v (.bool r.2)]) []:=by
 unfold path_Remove at H
 obtain⟨hw,H⟩:=assertE H
 rw [← e_HN_to r.1]
 refine Vx.Fn.of_okR Try.func21 rfl (Nat.le_of_ble_eq_true rfl) ?_
 refine Ok.seq ?_
 refine Ok.region (σ':=⟨[(2,(.fp (c_api_Node a0) 0)),(3,(.fp [(L 1 (eI .i64) a1)] 0)),(4,(.bref 4 0))],[(4,bx0)]⟩) ?_ ?_
 ·refine OpsOk.cut1 0 (.agg (c_api_Node a0)) (DLe.of_eq (congrArg D.agg (e_api_Node_c _).symm)) ?_
  refine .cg (GOk.boxP (cells:=(c_api_Node a0)) rfl rfl rfl) rfl rfl ?_
  refine .cg (GOk.boxP (cells:=[(L 1 (eI .i64) a1)]) rfl rfl rfl) rfl rfl ?_
  refine .rn 2 ?_
  exact .dn
 refine Ok.seq ?_
 refine Ok.seq ?_
 refine Ok.region (σ':=⟨[(2,(.fp (c_api_Node a0) 0)),(3,(.fp [(L 1 (eI .i64) a1)] 0)),(4,(.bref 4 0)),(9,(.v (.bool ((a1.length:Int) == 0))))],[(4,bx0)]⟩) ?_ ?_
 ·refine .rn 1 ?_
  refine .cv (VOk.lenL (e:=(eI .i64)) (xs:=a1) rfl Try.underlying28 rfl) rfl rfl ?_
  refine .rn 1 ?_
  exact .dn
 refine Ok.test (b:=((a1.length:Int) == 0)) rfl (fun hb => ?_) (fun hb => ?_)
 ·have hp0:a1=[]:=by
   have h1:(a1.length:Int)=0:=by simpa using hb
   exact List.eq_nil_of_length_eq_zero (by omega)
  rw [if_pos hp0] at H
  cases H
  refine Ok.seq ?_
  refine Ok.region (σ':=⟨[(4,(.bref 4 0)),(5,(.v (.bool false)))],[(4,(.box .ex (e_HN (toHN zeroN))))]⟩) ?_ ?_
  ·refine .cv (VOk.to (d':=(.agg (e_HN (toHN zeroN)))) (.build [none,none,none,some 3,some 6,none] [(0,1),(1,2),(3,1),(4,1),(5,1)] rfl Try.underlying27 (fa27 Try.underlying27) zo27 rfl rfl) rfl) rfl rfl ?_
   refine .rn 2 ?_
   exact .dn
  refine Ok.ret ?_
  exact⟨.inl rfl,⟨_,(.cons (.cell (VOk.to (d':=(.agg (e_HN (toHN zeroN)))) (.loadBAgg rfl Try.underlying27 rfl sz27 rfl rfl rfl) rfl)) (.cons (.tmp rfl) .nil)),rfl⟩,trivial⟩
 ·have hp0:a1 ≠ []:=by
   rintro rfl
   exact absurd hb (by decide)
  have hp1:0 < a1.length:=List.length_pos_iff.2 hp0
  have hpb:a1.length ≤ 1000000000:=hw.2
  rw [if_neg hp0] at H
  have hkids:=kids_ok2 (f:=38) (X1:=[(L 1 (eI .i64) a1)]) (X2:=[(.v (.int .i64 ((a1.length:Int) - 1)))]) hw.1 H fun hv s r' hr' => by
   have hm:=kidsL (Nat.le_trans (atN_wt a1.dropLast a0 hv) hw.1)
   refine kidsG_ok cl38 rfl (fun l' hl' => ?_) (fun hl' => ?_) hr'
   ·unfold remF at hl'
    obtain⟨hi,hl'⟩:=assertE hl'
    cases hl'
    exact hrem1T ⟨by omega,by omega⟩ hi (by omega)
   ·unfold remF at hl'
    by_cases hi:0 ≤ (rd a1 ((a1.length:Int) - 1)) ∧ (rd a1 ((a1.length:Int) - 1)) < ((atN a1.dropLast a0).Kids.length:Int)
    ·rw [if_pos hi] at hl'; cases hl'
    ·exact hrem1F ⟨by omega,by omega⟩ hi
  refine Ok.le (σ':=⟨[(2,(.fp (c_api_Node a0) 0)),(3,(.fp [(L 1 (eI .i64) a1)] 0)),(4,(.bref 4 0))],[(4,bx0)]⟩) (.rf rfl rfl) ?_
  refine Ok.skip ?_
  refine Ok.seq ?_
  refine Ok.region (σ':=⟨[(2,(.fp (c_api_Node a0) 0)),(3,(.fp [(L 1 (eI .i64) a1)] 0)),(4,(.bref 4 0)),(6,(.bref 6 0))],[(4,bx0),(6,(.box .ex [(.v (.int .i64 ((a1.length:Int) - 1)))]))]⟩) ?_ ?_
  ·refine .rn 1 ?_
   refine .cv (VOk.lenL (e:=(eI .i64)) (xs:=a1) rfl Try.underlying28 rfl) rfl rfl ?_
   refine .cv (VOk.to (d':=(.v (.int .i64 ((a1.length:Int) - 1)))) (VOk.arith (op:=.sub) (k:=.i64) (a:=(a1.length:Int)) (b:=1) rfl rfl rfl rfl) (wr_len hp0 hpb)) rfl rfl ?_
   refine OpsOk.cons rfl (OpOk.alloc 6 [none] rfl zoI3 rfl rfl) ?_
   refine .rn 1 ?_
   exact .dn
  refine Ok.frzBox 6 (cells:=[(.v (.int .i64 ((a1.length:Int) - 1)))]) rfl rfl ?_
  refine Ok.le (σ':=⟨[(2,(.fp (c_api_Node a0) 0)),(3,(.fp [(L 1 (eI .i64) a1)] 0)),(4,(.bref 4 0)),(6,(.fp [(.v (.int .i64 ((a1.length:Int) - 1)))] 0))],[(4,bx0)]⟩) (.rf rfl rfl) ?_
  refine Ok.seq ?_
  refine .dU [(4,(.bref 4 0)),(5,(.v (.bool r.2)))] [(4,(.box .ex (e_HN (toHN r.1))))] [[],[],[],[1,2],[],[0,1,2,3,4],[0,1,2,3,4,5],[0,1,2,3,4,5],[0,1,2,3,4,5,6,7],[0,1,2,3,4,5,6,7,8]] mixed ?_ ?_
  ·refine .uc ⟨true,[(2,(.fp (c_api_Node a0) 0))],[],(.agg (e_api_Node a0)),[],false,[]⟩ ⟨.same _,trivial⟩ trivial (It2.val rfl rfl (fun T hT => (VOk.g (VOk.to (d':=(.agg (e_api_Node a0))) (.loadFpAgg rfl Try.underlying27 rfl sz27 rfl rfl) (congrArg D.agg (e_api_Node_c a0).symm))))) ?_
   refine .un 2 ?_
   refine .uc ⟨true,[(15,(L 1 (eI .i64) a1)),(16,(.v (.int .i64 ((a1.length:Int) - 1))))],[],(L 1 (eI .i64) a1.dropLast),[],false,[]⟩ ⟨.same _,.same _,trivial⟩ trivial (It2.val rfl rfl (fun T hT => (VOk.g (VOk.to (d':=(L 1 (eI .i64) a1.dropLast)) (VOk.sliceL (e:=(eI .i64)) (xs:=a1) (l:=0) (h:=((a1.length:Int) - 1)) rfl Try.underlying28 sz3 rfl rfl rfl ⟨by omega,by omega,by omega⟩) (sl_last a1 hp0))))) ?_
   refine .uc ⟨true,[(3,(.fp [(L 1 (eI .i64) a1)] 0)),(6,(.fp [(.v (.int .i64 ((a1.length:Int) - 1)))] 0))],[],(.clo 38 [.fp [(L 1 (eI .i64) a1)] 0,.fp [(.v (.int .i64 ((a1.length:Int) - 1)))] 0]),[],false,[]⟩ ⟨.same _,.same _,trivial⟩ trivial (It2.val rfl rfl (fun T hT => (VOk.g (VOk.makeFunc (ds:=[.fp [(L 1 (eI .i64) a1)] 0,.fp [(.v (.int .i64 ((a1.length:Int) - 1)))] 0]) rfl rfl)))) ?_
   refine .uc ⟨true,[(14,(.agg (e_api_Node a0))),(17,(L 1 (eI .i64) a1.dropLast)),(18,(.clo 38 [.fp [(L 1 (eI .i64) a1)] 0,.fp [(.v (.int .i64 ((a1.length:Int) - 1)))] 0]))],[],(.tup [.agg (e_HN (toHN r.1)),.v (.bool r.2)]),[],false,[]⟩ ⟨.same _,.same _,.same _,trivial⟩ trivial (It2.val rfl rfl (fun T hT => (GOk.call rfl rfl cl30 rfl hkids rfl))) ?_
   refine .un 4 ?_
   exact .dn
  refine Ok.ret ?_
  exact⟨.inl rfl,⟨_,(.cons (.cell (VOk.to (d':=(.agg (e_HN (toHN r.1)))) (.loadBAgg rfl Try.underlying27 rfl sz27 rfl rfl rfl) rfl)) (.cons (.tmp rfl) .nil)),rfl⟩,trivial⟩
end Go.Proofs.Ytjhbedgepfkdbaa.Sh
