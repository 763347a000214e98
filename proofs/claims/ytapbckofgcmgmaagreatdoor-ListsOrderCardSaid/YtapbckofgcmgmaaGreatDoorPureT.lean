import Derived.Test.YtapbckofgcmgmaaGreatDoorSh
import Derived.Test.YtapbckofgcmgmaaGreatDoorVxPn
import Derived.Test.YtapbckofgcmgmaaGreatDoorVxP
import Derived.RegionTactic
namespace Go.Proofs.YtapbckofgcmgmaaGreatDoor.Sh
open Go Go.RowKit Go.Proofs.Vx
set_option linter.unusedVariables false
set_option maxRecDepth 100000
set_option maxHeartbeats 1000000
theorem scopeE (b cap:Nat) (A:Option Addr) (w:World) (h:w.cell? ⟨b,0,none⟩=some (.slice A 0 cap)) :
  Calls Tryz.prog 73 #[.pointer (some ⟨b,0,none⟩)] w fun e w' => e=.returned (.slice none 0 0) ∧ w'=w:=by
 go_enter Tryz.func73,Tryz.ntmps73
 go_wp2
 go_ret
 exact⟨rfl,rfl⟩
theorem scopeS (b g j m cap:Nat) (y:Value) (w:World) (h:w.cell? ⟨b,0,none⟩=some (.slice (some ⟨g,0,none⟩) m cap)) (hy:w.cell? ⟨g,j * 8 + 1,none⟩=some y) (hm:m=j + 1) (hl:(j:Int) < 9223372036854775807) :
  Calls Tryz.prog 73 #[.pointer (some ⟨b,0,none⟩)] w fun e w' => e=.returned y ∧ w'=w.drew:=by
 have hw:IntKind.i64.wrap ((m:Int) - 1)=(j:Int):=by rw [w64] <;> omega
 have hd:decide ((m:Int)=0)=false:=by simp; omega
 have h0:(0:Int) ≤ (j:Int):=by omega
 have h1:(j:Int) < (m:Int):=by omega
 clear hm hl
 go_enter Tryz.func73,Tryz.ntmps73
 go_wp2
 go_region
 go_wp2
 go_ret
 exact⟨rfl,rfl⟩
def scopeOf (fs:List T_tree_frame):List T_api_Bind:=match fs.getLast? with | some f => f.Scope_ | none => []
theorem GOk.scope {o:Oper} {σ:St} {x y:Operand} {ts:Array TypeId} {t:Nat} {e:Ex} {cells:List D} {fs:List T_tree_frame} (ho:o.op=.call { callee:=.value x,args:=#[y],argTypes:=ts }) (hx:σ.ev x=.clo 73 [])
  (hy:σ.ev y=.bref 0 0) (hb:getT σ.T 0=.box e (.sref t :: cells)) (hr:getT σ.T t=.rows true 117 8 (fs.map e_tree_frame)):GOk Tryz.prog o σ (L 2 e_api_Bind (scopeOf fs)):=by
 intro cx ι β a w next Q hi hev hk
 have hxx:=hev x
 rw [hx] at hxx
 obtain⟨vs,hv,hl,_⟩:=hxx.clo_inv
 have hvs:vs=#[]:=Array.eq_empty_of_size_eq_zero hl
 subst hvs
 have hyy:=hev y
 rw [hy] at hyy
 have hρ:=hyy.ref_inv rfl
 simp only [rho,hb] at hρ
 obtain⟨b,hβb,hyv⟩:=hρ
 have hbx:=hi.obj 0
 rw [hb] at hbx
 obtain⟨b',c,ty,hβ',hh,hc,h1,hR,_⟩:=hbx
 obtain rfl:b=b':=by rw [hβb] at hβ'; simpa using hβ'
 have hc0:c[0]? =some (c[0]'(by simp at hc; omega)):=Array.getElem?_eq_getElem _
 have hcell:w.cell? ⟨b,0,none⟩=some (β t):=by
  have h2:=(hR 0 _ _ rfl hc0).ref_inv rfl
  simp only [rho,hr] at h2
  simp [World.cell?,hh,hc0,h2]
 have hrun:(execOp a.eval o).run Tryz.prog w=.ok (.enter 73 #[.pointer (some ⟨b,0,none⟩)]) w:=by
  simp [execOp,ho,resolve,hv,hyv,Deferred.ofValue,invoke,run_callFunc (show callable Tryz.prog 73=true by kernel_rfl)]
 unfold Oper.wp
 rw [hrun,Oper.upon_enter]
 obtain⟨xs,hown,hrl,hx1,hxR,hfree⟩:=rows_at hi hr
 cases hf:fs.getLast? with
 | none =>
  have hfs:fs=[]:=by simpa using hf
  subst hfs
  obtain⟨A,cap,hA⟩:∃ A cap,β t=.slice A 0 cap:=by
   rcases hown.2 with ⟨h,_⟩ |⟨g,cap,cur,h,_⟩ <;> exact⟨_,_,h⟩
  refine (scopeE b cap A w (hA ▸ hcell)).mono ?_
  rintro _ _ ⟨rfl,rfl⟩
  exact hk _ _ ι hi (fun _ _ h => h) (fun _ _ _ => rfl) (.pu (.listNil _ _ _ fun _ => rfl))
 | some f =>
  have hne:fs ≠ []:=by rintro rfl; cases hf
  have hlen:0 < fs.length:=List.length_pos_iff.2 hne
  have hrow:(fs.map e_tree_frame)[fs.length - 1]? =some (e_tree_frame f):=by
   rw [List.getElem?_map,← List.getLast?_eq_getElem?,hf]; rfl
  obtain⟨g,cap,xs,cur,hβ,hg,hxl,htk,hcs,hnc,hcm,hrl2,hx1,hrs,hcl,hxR,_⟩:=eref_at hi hr hrow
  obtain⟨y,hy1,hy2,hy3⟩:=hcl 1 (by decide)
  have hm:(fs.map e_tree_frame).length=(fs.length - 1) + 1:=by rw [List.length_map]; omega
  have hll:(((fs.length - 1:Nat)):Int) < 9223372036854775807:=by
   have:fs.length ≤ maxLen:=by rw [List.length_map] at hnc; omega
   simp [maxLen] at this; omega
  refine (scopeS b g (fs.length - 1) _ cap y w (hβ ▸ hcell) hy2 hm hll).mono ?_
  rintro _ _ ⟨rfl,rfl⟩
  have hsc:scopeOf fs=f.Scope_:=by simp [scopeOf,hf]
  have hd:(fs.map e_tree_frame).flatten[(fs.length - 1) * 8 + 1]? =some (L 2 e_api_Bind f.Scope_):=by
   rw [flatten_at hrl _ _ hrow 1 (by decide)]; rfl
  exact hk y _ ι (hi.grow rfl rfl rfl (Nat.le_refl _) (fun _ _ => rfl) (fun _ _ h => h) (fun _ _ h => .inl h)) (fun _ _ h => h) (fun _ _ _ => rfl) (hsc ▸ .pu ((hxR _ _ _ hd hy1).mono (fun _ _ h => h) (fun _ _ _ => rfl)))
def tree_builder_scope_o (a0:T_tree_builder):Option (List T_api_Bind):=some (scopeOf a0.Open_)
theorem GOk.scope3 {o:Oper} {σ:St} {x y:Operand} {ts:Array TypeId} {t:Nat} {e:Ex} {cells:List D} {a0:T_tree_builder} {sc:List T_api_Bind} (h:tree_builder_scope_o a0=some sc) (ho:o.op=.call { callee:=.value x,args:=#[y],argTypes:=ts }) (hx:σ.ev x=.clo 73 [])
  (hy:σ.ev y=.bref 0 0) (hb:getT σ.T 0=.box e (.sref t :: cells)) (hr:getT σ.T t=.rows true 117 8 (a0.Open_.map e_tree_frame)):GOk Tryz.prog o σ (L 2 e_api_Bind sc):=Option.some.inj h ▸ GOk.scope ho hx hy hb hr
def bxB (b:Nat) (root:T_api_Node) (done:Bool) (nodes:Int):Ob:=.box (.at b) [(.sref 1000),(.v (.int .i64 root.Kind)),(S root.Name.Space),(S root.Name.Local),(L 3 e_api_Attr root.Attrs),(L 6 e_api_Node root.Kids),(S root.Text),(.v (.bool done)),(.v (.int .i64 nodes))]
abbrev rwB (fs:List T_tree_frame):Ob:=.rows true 117 8 (fs.map e_tree_frame)
abbrev pnB (s:Value) (ks:List T_api_Node):Ob:=.pin s 28 6 (ks.map e_api_Node)
def fk (f:T_tree_frame) (s:Value):T_tree_frame:=T_tree_frame.mk f.Tag_ f.Scope_ (T_raw_api_Node.mk f.N_.Kind f.N_.Name f.N_.Attrs s f.N_.Text)
def tree_builder_start (k:Nat) (a0:T_tree_builder) (a1:T_api_Token):Option (Int × T_tree_builder):=(if a0.Done_=true then none else (if ((a0.Open_.length:Int) == 24)=true then none else ((tree_builder_count a0).bind fun (t1:Bool × T_tree_builder) => (if (!t1.1)=true then none else ((tree_builder_scope_o t1.2).bind fun (t3:(List T_api_Bind)) => ((qname_Declare k t3 a1.Attrs).bind fun (t5:(List T_api_Bind) × (List T_api_Raw) × Int) => (if (t5.2.2 != 0)=true then none else (if (decide ((t5.2.1.length:Int) > 32))=true then none else ((qname_Resolve k t5.1 a1.Name false).bind fun (t7:T_api_Name × Int) => (if (t7.2 != 0)=true then none else ((qname_Attrs k t5.1 t5.2.1).bind fun (t9:(List T_api_Attr) × Int) => (if (t9.2 != 0)=true then none else (if (t1.2.Open_.length + ([(T_tree_frame.mk a1.Name t5.1 (T_raw_api_Node.mk 1 (T_api_Name.mk t7.1.Space t7.1.Local) t9.1 (Value.slice none 0 0) ([]:Str)))]:List T_tree_frame).length) * 144 ≤ 140737488355328 then some (0,(T_tree_builder.mk (t1.2.Open_ ++ ([(T_tree_frame.mk a1.Name t5.1 (T_raw_api_Node.mk 1 (T_api_Name.mk t7.1.Space t7.1.Local) t9.1 (Value.slice none 0 0) ([]:Str)))]:List T_tree_frame)) (T_api_Node.mk t1.2.Root_.Kind (T_api_Name.mk t1.2.Root_.Name.Space t1.2.Root_.Name.Local) t1.2.Root_.Attrs t1.2.Root_.Kids t1.2.Root_.Text) t1.2.Done_ t1.2.Nodes_)) else none)))))))))))))
theorem tree_builder_start.ok {k:Nat} {a0:T_tree_builder} {a1:T_api_Token} {r:Int × T_tree_builder} (H:tree_builder_start k a0 a1=some r) (b:Nat):Vx.Fn Tryz.prog 52 [(.bref 0 0),(.agg (e_api_Token a1))] [(0,(tbB b a0)),(1000,(.rows true 117 8 (a0.Open_.map e_tree_frame)))] (.v (.int .i64 r.1)) [(0,(tbB b r.2)),(1000,(.rows true 117 8 (r.2.Open_.map e_tree_frame))),(999,.none)]:=by
 unfold tree_builder_start at H
 refine Vx.Fn.of_okR Tryz.func52 rfl (Nat.le_of_ble_eq_true rfl) ?_
 refine Ok.seq ?_
 refine .rg [(0,(.bref 0 0)),(3,(.bref 3 0))] [(0,(tbB b a0)),(3,(.box .ex (c_api_Token a1))),(1000,(.rows true 117 8 (a0.Open_.map e_tree_frame)))] ?_
 refine Ok.seq ?_
 refine Ok.block ?_
 refine Ok.seq ?_
 refine .rg [(0,(.bref 0 0)),(3,(.bref 3 0)),(10,(.v (.bool a0.Done_)))] [(0,(tbB b a0)),(3,(.box .ex (c_api_Token a1))),(1000,(.rows true 117 8 (a0.Open_.map e_tree_frame)))] ?_
 refine Ok.test (b:=a0.Done_) rfl (fun hb18 => ?_) (fun hb18 => ?_)
 ·replace H:=ifT H hb18
  cases H
 ·replace H:=ifF H hb18
  refine Ok.seq ?_
  refine Ok.region (σ':=⟨[(0,(.bref 0 0)),(3,(.bref 3 0)),(15,(.v (.bool ((a0.Open_.length:Int) == 24))))],[(0,(tbB b a0)),(3,(.box .ex (c_api_Token a1))),(1000,(.rows true 117 8 (a0.Open_.map e_tree_frame)))]⟩) ?_ ?_
  ·refine .rn 4 ?_
   refine .cv (VOk.lenTL (e:=e_tree_frame) (xs:=a0.Open_) rfl Tryz.underlying73 rfl rfl) rfl rfl ?_
   refine .rn 2 ?_
   exact .dn
  refine Ok.test (b:=((a0.Open_.length:Int) == 24)) rfl (fun hb17 => ?_) (fun hb17 => ?_)
  ·replace H:=ifT H hb17
   cases H
  ·replace H:=ifF H hb17
   refine Ok.seq ?_
   obtain⟨t1,h2,H⟩:=bindE H
   refine Ok.region (σ':=⟨[(0,(.bref 0 0)),(3,(.bref 3 0)),(22,(.v (.bool (!t1.1))))],[(0,(tbB b t1.2)),(3,(.box .ex (c_api_Token a1))),(1000,(.rows true 117 8 (t1.2.Open_.map e_tree_frame)))]⟩) ?_ ?_
   ·refine .rn 1 ?_
    refine OpsOk.cons rfl (OpOk.callT (e:=(.at b)) 0 1000 924 rfl rfl cl71 (fun b => ((tree_builder_count.ok h2) b)) rfl rfl rfl rfl rfl rfl rfl rfl) ?_
    refine .rn 2 ?_
    exact .dn
   refine Ok.test (b:=(!t1.1)) rfl (fun hb16 => ?_) (fun hb16 => ?_)
   ·replace H:=ifT H hb16
    cases H
   ·replace H:=ifF H hb16
    refine Ok.skip ?_
    refine Ok.seq ?_
    obtain⟨t3,h4,H⟩:=bindE H
    obtain⟨t5,h6,H⟩:=bindE H
    refine .dA [(0,(.bref 0 0)),(3,(.bref 3 0)),(5,(L 2 e_api_Bind t5.1)),(6,(L 2 e_api_Raw t5.2.1)),(7,(.v (.int .i64 t5.2.2)))] [(0,(tbB b t1.2)),(3,(.box .ex (c_api_Token a1))),(1000,(.rows true 117 8 (t1.2.Open_.map e_tree_frame)))] [[],[0],[],[2],[1,3],[4],[5],[5],[5],[6],[7],[8]] mixed ?_ ?_
    ·refine .tn 1 ?_
     refine .tc (GOk.scope3 h4 rfl rfl rfl rfl rfl) ?_
     refine .tn 2 ?_
     refine .tc (GOk.call rfl rfl cl72 rfl (qname_Declare.ok h6) rfl) ?_
     refine .tn 7 ?_
     exact .dn
    refine Ok.seq ?_
    refine Ok.seq ?_
    refine .rg [(0,(.bref 0 0)),(3,(.bref 3 0)),(5,(L 2 e_api_Bind t5.1)),(6,(L 2 e_api_Raw t5.2.1)),(36,(.v (.bool (t5.2.2 != 0))))] [(0,(tbB b t1.2)),(3,(.box .ex (c_api_Token a1))),(1000,(.rows true 117 8 (t1.2.Open_.map e_tree_frame)))] ?_
    refine Ok.test (b:=(t5.2.2 != 0)) rfl (fun hb15 => ?_) (fun hb15 => ?_)
    ·replace H:=ifT H hb15
     cases H
    ·replace H:=ifF H hb15
     refine Ok.skip ?_
     refine Ok.seq ?_
     refine Ok.seq ?_
     refine Ok.region (σ':=⟨[(0,(.bref 0 0)),(3,(.bref 3 0)),(5,(L 2 e_api_Bind t5.1)),(6,(L 2 e_api_Raw t5.2.1)),(40,(.v (.bool (decide ((t5.2.1.length:Int) > 32)))))],[(0,(tbB b t1.2)),(3,(.box .ex (c_api_Token a1))),(1000,(.rows true 117 8 (t1.2.Open_.map e_tree_frame)))]⟩) ?_ ?_
     ·refine .rn 1 ?_
      refine .cv (VOk.lenL (e:=e_api_Raw) (xs:=t5.2.1) rfl Tryz.underlying76 rfl) rfl rfl ?_
      refine .rn 1 ?_
      exact .dn
     refine Ok.test (b:=(decide ((t5.2.1.length:Int) > 32))) rfl (fun hb14 => ?_) (fun hb14 => ?_)
     ·replace H:=ifT H hb14
      cases H
     ·replace H:=ifF H hb14
      refine Ok.skip ?_
      refine Ok.seq ?_
      obtain⟨t7,h8,H⟩:=bindE H
      refine Ok.region (σ':=⟨[(0,(.bref 0 0)),(3,(.bref 3 0)),(5,(L 2 e_api_Bind t5.1)),(6,(L 2 e_api_Raw t5.2.1)),(7,(.v (.int .i64 t7.2))),(8,(.bref 8 0))],[(0,(tbB b t1.2)),(3,(.box .ex (c_api_Token a1))),(8,(.box .ex [(S t7.1.Space),(S t7.1.Local)])),(1000,(.rows true 117 8 (t1.2.Open_.map e_tree_frame)))]⟩) ?_ ?_
      ·refine .rn 3 ?_
       refine .cg (GOk.call rfl rfl cl74 rfl (qname_Resolve.ok h8) rfl) rfl rfl ?_
       refine .rn 6 ?_
       exact .dn
      refine Ok.seq ?_
      refine Ok.seq ?_
      refine .rg [(0,(.bref 0 0)),(3,(.bref 3 0)),(5,(L 2 e_api_Bind t5.1)),(6,(L 2 e_api_Raw t5.2.1)),(8,(.bref 8 0)),(49,(.v (.bool (t7.2 != 0))))] [(0,(tbB b t1.2)),(3,(.box .ex (c_api_Token a1))),(8,(.box .ex [(S t7.1.Space),(S t7.1.Local)])),(1000,(.rows true 117 8 (t1.2.Open_.map e_tree_frame)))] ?_
      refine Ok.test (b:=(t7.2 != 0)) rfl (fun hb13 => ?_) (fun hb13 => ?_)
      ·replace H:=ifT H hb13
       cases H
      ·replace H:=ifF H hb13
       refine Ok.skip ?_
       refine Ok.seq ?_
       obtain⟨t9,h10,H⟩:=bindE H
       refine Ok.region (σ':=⟨[(0,(.bref 0 0)),(3,(.bref 3 0)),(5,(L 2 e_api_Bind t5.1)),(7,(.v (.int .i64 t9.2))),(8,(.bref 8 0)),(9,(L 3 e_api_Attr t9.1))],[(0,(tbB b t1.2)),(3,(.box .ex (c_api_Token a1))),(8,(.box .ex [(S t7.1.Space),(S t7.1.Local)])),(1000,(.rows true 117 8 (t1.2.Open_.map e_tree_frame)))]⟩) ?_ ?_
       ·refine .rn 2 ?_
        refine .cg (GOk.call rfl rfl cl75 rfl (qname_Attrs.ok h10) rfl) rfl rfl ?_
        refine .rn 5 ?_
        exact .dn
       refine Ok.seq ?_
       refine Ok.seq ?_
       refine .rg [(0,(.bref 0 0)),(3,(.bref 3 0)),(5,(L 2 e_api_Bind t5.1)),(8,(.bref 8 0)),(9,(L 3 e_api_Attr t9.1)),(58,(.v (.bool (t9.2 != 0))))] [(0,(tbB b t1.2)),(3,(.box .ex (c_api_Token a1))),(8,(.box .ex [(S t7.1.Space),(S t7.1.Local)])),(1000,(.rows true 117 8 (t1.2.Open_.map e_tree_frame)))] ?_
       refine Ok.test (b:=(t9.2 != 0)) rfl (fun hb12 => ?_) (fun hb12 => ?_)
       ·replace H:=ifT H hb12
        cases H
       ·replace H:=ifF H hb12
        refine Ok.skip ?_
        refine Ok.seq ?_
        obtain⟨c11,H⟩:=assertE H
        refine Ok.le (σ':=⟨[(0,(.bref 0 0)),(3,(.bref 3 0)),(5,(L 2 e_api_Bind t5.1)),(8,(.bref 8 0)),(9,(L 3 e_api_Attr t9.1))],[(0,(tbB b t1.2)),(3,(.box .ex (c_api_Token a1))),(8,(.box .ex [(S t7.1.Space),(S t7.1.Local)])),(1000,(.rows true 117 8 (t1.2.Open_.map e_tree_frame)))]⟩) (.rf rfl rfl) ?_
        refine Ok.drawE2 (σ':=⟨[],[(0,(tbB b t1.2)),(1000,(.rows true 117 8 ((t1.2.Open_ ++ ([(T_tree_frame.mk a1.Name t5.1 (T_raw_api_Node.mk 1 (T_api_Name.mk t7.1.Space t7.1.Local) t9.1 (Value.slice none 0 0) ([]:Str)))]:List T_tree_frame)).map e_tree_frame)))]⟩) [⟨true,[(0,(.bref 0 0))],[(0,(tbB b t1.2))],(.bref 0 0),[],false,[]⟩,⟨true,[(0,(.bref 0 0))],[(0,(tbB b t1.2))],(.bref 0 0),[],false,[]⟩,⟨true,[(61,(.bref 0 0))],[(0,(tbB b t1.2))],(.bref 0 0),[],false,[]⟩,⟨true,[(62,(.bref 0 0))],[(0,(tbB b t1.2))],(.bref 0 0),[],false,[]⟩,⟨true,[(63,(.bref 0 0))],[(0,(tbB b t1.2))],(.sref 1000),[],false,[]⟩,⟨true,[(3,(.bref 3 0))],[(3,(.box .ex (c_api_Token a1)))],(.bref 3 2),[],false,[]⟩,⟨true,[(65,(.bref 3 2))],[(3,(.box .ex (c_api_Token a1)))],(S a1.Name),[],false,[]⟩,⟨true,[(5,(L 2 e_api_Bind t5.1))],[],(L 2 e_api_Bind t5.1),[],false,[]⟩,⟨true,[(8,(.bref 8 0))],[(8,(.box .ex [(S t7.1.Space),(S t7.1.Local)]))],(.agg (e_api_Name t7.1)),[],false,[]⟩,⟨true,[(9,(L 3 e_api_Attr t9.1))],[],(L 3 e_api_Attr t9.1),[],false,[]⟩,⟨true,[(68,(.agg (e_api_Name t7.1))),(69,(L 3 e_api_Attr t9.1))],[],(.agg [(.v (.int .i64 1)),(S t7.1.Space),(S t7.1.Local),(L 3 e_api_Attr t9.1),(.v (.slice none 0 0)),S0]),[],false,[]⟩,⟨true,[(66,(S a1.Name)),(67,(L 2 e_api_Bind t5.1)),(70,(.agg [(.v (.int .i64 1)),(S t7.1.Space),(S t7.1.Local),(L 3 e_api_Attr t9.1),(.v (.slice none 0 0)),S0]))],[],(.agg (e_tree_frame (T_tree_frame.mk a1.Name t5.1 (T_raw_api_Node.mk 1 (T_api_Name.mk t7.1.Space t7.1.Local) t9.1 (Value.slice none 0 0) ([]:Str))))),[],false,[]⟩,⟨true,[(71,(.agg (e_tree_frame (T_tree_frame.mk a1.Name t5.1 (T_raw_api_Node.mk 1 (T_api_Name.mk t7.1.Space t7.1.Local) t9.1 (Value.slice none 0 0) ([]:Str))))))],[],(L 8 e_tree_frame ([(T_tree_frame.mk a1.Name t5.1 (T_raw_api_Node.mk 1 (T_api_Name.mk t7.1.Space t7.1.Local) t9.1 (Value.slice none 0 0) ([]:Str)))]:List T_tree_frame)),[],false,[]⟩,⟨true,[(64,(.sref 1000)),(72,(L 8 e_tree_frame ([(T_tree_frame.mk a1.Name t5.1 (T_raw_api_Node.mk 1 (T_api_Name.mk t7.1.Space t7.1.Local) t9.1 (Value.slice none 0 0) ([]:Str)))]:List T_tree_frame)))],[(1000,(.rows true 117 8 (t1.2.Open_.map e_tree_frame)))],(.sref 73),[(73,(.rows true 117 8 ((t1.2.Open_ ++ ([(T_tree_frame.mk a1.Name t5.1 (T_raw_api_Node.mk 1 (T_api_Name.mk t7.1.Space t7.1.Local) t9.1 (Value.slice none 0 0) ([]:Str)))]:List T_tree_frame)).map e_tree_frame))),(1000,.none)],true,[]⟩,⟨true,[(60,(.bref 0 0))],[(0,(tbB b t1.2))],(.bref 0 0),[],false,[]⟩,⟨true,[(74,(.bref 0 0))],[(0,(tbB b t1.2))],(.bref 0 0),[],false,[]⟩,⟨true,[(75,(.bref 0 0)),(73,(.sref 73))],[(0,(tbB b t1.2)),(73,(.rows true 117 8 ((t1.2.Open_ ++ ([(T_tree_frame.mk a1.Name t5.1 (T_raw_api_Node.mk 1 (T_api_Name.mk t7.1.Space t7.1.Local) t9.1 (Value.slice none 0 0) ([]:Str)))]:List T_tree_frame)).map e_tree_frame)))],.junk,[(0,(.box (.at b) [(.sref 73),(.v (.int .i64 t1.2.Root_.Kind)),(S t1.2.Root_.Name.Space),(S t1.2.Root_.Name.Local),(L 3 e_api_Attr t1.2.Root_.Attrs),(L 6 e_api_Node t1.2.Root_.Kids),(S t1.2.Root_.Text),(.v (.bool t1.2.Done_)),(.v (.int .i64 t1.2.Nodes_))]))],false,[]⟩] [[],[],[1],[2],[3],[],[5],[],[],[],[8,9],[6,7,10],[11],[4,12],[0],[14],[0,1,2,3,4,13,14,15]] mixed (by kernel_rfl) ?_ ?_
        ·refine TxtE2.cons ⟨.same _,trivial⟩ ⟨rfl,trivial⟩ (It2.val rfl rfl (fun T hT => (VOk.g (VOk.mv (d:=(.bref 0 0)) rfl rfl)))) ?_
         refine TxtE2.cons ⟨.same _,trivial⟩ ⟨rfl,trivial⟩ (It2.val rfl rfl (fun T hT => (VOk.g (VOk.mv (d:=(.bref 0 0)) rfl rfl)))) ?_
         refine TxtE2.cons ⟨.same _,trivial⟩ ⟨rfl,trivial⟩ (It2.val rfl rfl (fun T hT => (VOk.g (VOk.nilCheckB rfl rfl hT.1)))) ?_
         refine TxtE2.cons ⟨.same _,trivial⟩ ⟨rfl,trivial⟩ (It2.val rfl rfl (fun T hT => (VOk.g (VOk.to (VOk.fieldB rfl Tryz.underlying75 rfl sz73 rfl hT.1) rfl)))) ?_
         refine TxtE2.cons ⟨.same _,trivial⟩ ⟨rfl,trivial⟩ (It2.val rfl rfl (fun T hT => (VOk.g (VOk.loadB (d:=(.sref 1000)) rfl Tryz.underlying73 rfl rfl hT.1 rfl)))) ?_
         refine TxtE2.cons ⟨.same _,trivial⟩ ⟨rfl,trivial⟩ (It2.val rfl rfl (fun T hT => (VOk.g (VOk.to (VOk.fieldB rfl Tryz.underlying78 rfl sz9 rfl hT.1) rfl)))) ?_
         refine TxtE2.cons ⟨.same _,trivial⟩ ⟨rfl,trivial⟩ (It2.val rfl rfl (fun T hT => (VOk.g (VOk.loadB (d:=(S a1.Name)) rfl Tryz.underlying9 rfl rfl hT.1 rfl)))) ?_
         refine TxtE2.cons ⟨.same _,trivial⟩ trivial (It2.val rfl rfl (fun T hT => (VOk.g (VOk.mv (d:=(L 2 e_api_Bind t5.1)) rfl rfl)))) ?_
         refine TxtE2.cons ⟨.same _,trivial⟩ ⟨rfl,trivial⟩ (It2.val rfl rfl (fun T hT => (VOk.g (VOk.to (d':=(.agg (e_api_Name t7.1))) (.loadBAgg rfl Tryz.underlying24 rfl sz24 rfl hT.1 rfl) rfl)))) ?_
         refine TxtE2.cons ⟨.same _,trivial⟩ trivial (It2.val rfl rfl (fun T hT => (VOk.g (VOk.mv (d:=(L 3 e_api_Attr t9.1)) rfl rfl)))) ?_
         refine TxtE2.cons ⟨.same _,.same _,trivial⟩ trivial (It2.val rfl rfl (fun T hT => (VOk.g (VOk.to (d':=(.agg [(.v (.int .i64 1)),(S t7.1.Space),(S t7.1.Local),(L 3 e_api_Attr t9.1),(.v (.slice none 0 0)),S0])) (.build [none,none,none,some 3,none,none] [(0,1),(1,2),(3,1),(4,1),(5,1)] rfl Tryz.underlying28 (fa28 Tryz.underlying28) zo28 rfl rfl) rfl)))) ?_
         refine TxtE2.cons ⟨.same _,.same _,.same _,trivial⟩ trivial (It2.val rfl rfl (fun T hT => (VOk.g (VOk.to (d':=(.agg (e_tree_frame (T_tree_frame.mk a1.Name t5.1 (T_raw_api_Node.mk 1 (T_api_Name.mk t7.1.Space t7.1.Local) t9.1 (Value.slice none 0 0) ([]:Str)))))) (.build [none,some 2,none,none,none,some 3,none,none] [(0,1),(1,1),(2,6)] rfl Tryz.underlying117 (fa117 Tryz.underlying117) zo117 rfl rfl) rfl)))) ?_
         refine TxtE2.cons ⟨.same _,trivial⟩ trivial (It2.val rfl rfl (fun T hT => (GOk.to (d':=(L 8 e_tree_frame ([(T_tree_frame.mk a1.Name t5.1 (T_raw_api_Node.mk 1 (T_api_Name.mk t7.1.Space t7.1.Local) t9.1 (Value.slice none 0 0) ([]:Str)))]:List T_tree_frame))) (GOk.lit rfl Tryz.underlying73 sz117 zs117 rfl rfl rfl rfl) rfl))) ?_
         refine TxtE2.cons ⟨.same _,.same _,trivial⟩ ⟨rfl,trivial⟩ (It2.appendL 73 (e:=e_tree_frame) (xs:=t1.2.Open_) (ys:=([(T_tree_frame.mk a1.Name t5.1 (T_raw_api_Node.mk 1 (T_api_Name.mk t7.1.Space t7.1.Local) t9.1 (Value.slice none 0 0) ([]:Str)))]:List T_tree_frame)) rfl rfl Tryz.underlying73 elt117 rfl rfl rfl rfl c11 rfl rfl) ?_
         refine TxtE2.cons ⟨.same _,trivial⟩ ⟨rfl,trivial⟩ (It2.val rfl rfl (fun T hT => (VOk.g (VOk.nilCheckB rfl rfl hT.1)))) ?_
         refine TxtE2.cons ⟨.same _,trivial⟩ ⟨rfl,trivial⟩ (It2.val rfl rfl (fun T hT => (VOk.g (VOk.to (VOk.fieldB rfl Tryz.underlying75 rfl sz73 rfl hT.1) rfl)))) ?_
         refine TxtE2.cons ⟨.same _,.same _,trivial⟩ ⟨rfl,rfl,trivial⟩ (It2.store rfl rfl sz73 rfl rfl rfl rfl rfl rfl rfl rfl) ?_
         exact .doneS (SLe.trans (Le.s (.rf rfl rfl)) (SLe.ren 73 1000 rfl rfl))
        refine Ok.seq ?_
        refine .rg [(4,(.v (.int .i64 0)))] [(0,(tbB b t1.2)),(1000,(.rows true 117 8 ((t1.2.Open_ ++ ([(T_tree_frame.mk a1.Name t5.1 (T_raw_api_Node.mk 1 (T_api_Name.mk t7.1.Space t7.1.Local) t9.1 (Value.slice none 0 0) ([]:Str)))]:List T_tree_frame)).map e_tree_frame)))] ?_
        refine Ok.ret ?_
        obtain rfl:=Option.some.inj H
        exact⟨.inl rfl,⟨_,(.cons (.tmp rfl) .nil),rfl⟩,⟨.same _,.same _,.none _,trivial⟩⟩
theorem add0 {n:T_api_Node} {root:T_api_Node} {done:Bool} {nodes:Int} (b:Nat):Vx.Fn Tryz.prog 76 [(.bref 0 0),(.agg (c_api_Node n))] [(0,bxB b root done nodes),(1000,rwB [])] (.tup []) [(0,bxB b n true nodes),(1000,rwB [])]:=by
 refine Vx.Fn.of_okR Tryz.func76 rfl (Nat.le_of_ble_eq_true rfl) ?_
 refine Ok.seq ?_
 refine .rg [(0,(.bref 0 0)),(3,(.bref 3 0))] [(0,bxB b root done nodes),(3,(bxN n)),(1000,rwB [])] ?_
 refine Ok.seq ?_
 refine Ok.seq ?_
 refine Ok.region (σ':=⟨[(0,(.bref 0 0)),(3,(.bref 3 0)),(10,(.v (.bool true)))],[(0,bxB b root done nodes),(3,(bxN n)),(1000,rwB [])]⟩) ?_ ?_
 ·refine .rn 4 ?_
  refine .cv (VOk.lenTL (e:=e_tree_frame) (xs:=[]) rfl Tryz.underlying73 rfl rfl) rfl rfl ?_
  refine .rn 1 ?_
  exact .dn
 refine Ok.condT rfl ?_
 refine Ok.seq ?_
 refine .rg [] [(0,bxB b n true nodes),(1000,rwB [])] ?_
 refine Ok.ret ?_
 exact⟨.inl rfl,⟨_,.nil,rfl⟩,⟨.same _,.same _,trivial⟩⟩
theorem rd_last {α:Type} [Inhabited α] (X:List α) (f:α):rd (X ++ [f]) (X.length:Int)=f:=by simp [rd]
theorem ix_last {α:Type} (X:List α) (f:α):(0:Int) ≤ (X.length:Int) ∧ (X.length:Int) < ((X ++ [f]).length:Int):=by simp; omega
theorem wr_last {α:Type} (X:List α) (f:α) (h:X.length < 4000000000):IntKind.i64.wrap (((X ++ [f]).length:Int) - 1)=(X.length:Int):=by rw [w64] <;> simp <;> omega
theorem ne_last {α:Type} (X:List α) (f:α):(((X ++ [f]).length:Int) == 0)=false:=by simp; omega
theorem set_last {α:Type} (X:List α) (f g:α):(X ++ [f]).set (X.length:Int).toNat g=X ++ [g]:=by simp
theorem add1 {n:T_api_Node} {X:List T_tree_frame} {f:T_tree_frame} {ks:List T_api_Node} {root:T_api_Node} {done:Bool} {nodes:Int} (hX:X.length < 4000000000) (hk:ks.length < 4000000000) (b:Nat) :
  Vx.FnX Tryz.prog 76 [(.bref 0 0),(.agg (c_api_Node n))] [(0,bxB b root done nodes),(1000,rwB (X ++ [f])),(1001,pnB f.N_.Kids ks)] fun r T' => ∃ s,r=.tup [] ∧ T'=[(0,bxB b root done nodes),(1000,rwB (X ++ [fk f s])),(1001,pnB s (ks ++ [n]))]:=by
 refine FnX.of_okR Tryz.func76 rfl (Nat.le_of_ble_eq_true rfl) ?_
 refine Ok.seq ?_
 refine .rg [(0,(.bref 0 0)),(3,(.bref 3 0))] [(0,bxB b root done nodes),(3,(bxN n)),(1000,rwB (X ++ [f])),(1001,pnB f.N_.Kids ks)] ?_
 refine Ok.seq ?_
 refine Ok.seq ?_
 refine Ok.region (σ':=⟨[(0,(.bref 0 0)),(3,(.bref 3 0)),(10,(.v (.bool false)))],[(0,bxB b root done nodes),(3,(bxN n)),(1000,rwB (X ++ [f])),(1001,pnB f.N_.Kids ks)]⟩) ?_ ?_
 ·refine .rn 4 ?_
  refine .cv (VOk.lenTL (e:=e_tree_frame) (xs:=X ++ [f]) rfl Tryz.underlying73 rfl rfl) rfl rfl ?_
  refine .cv (VOk.to (d':=(.v (.bool false))) (VOk.arith (op:=.eql) (k:=.i64) (a:=((X ++ [f]).length:Int)) (b:=0) rfl rfl rfl rfl) (congrArg (fun b => D.v (.bool b)) (ne_last X f))) rfl rfl ?_
  exact .dn
 refine Ok.condF rfl ?_
 refine Ok.skip ?_
 refine Ok.seq ?_
 refine Ok.drawE (σ':=⟨[(3,(.bref 3 0)),(4,(.eref 1000 (X.length:Int).toNat 0))],[(0,bxB b root done nodes),(3,(bxN n)),(1000,rwB (X ++ [f])),(1001,pnB f.N_.Kids ks)]⟩)
  [⟨true,[(0,(.bref 0 0))],(.bref 0 0)⟩,⟨true,[(18,(.bref 0 0))],(.bref 0 0)⟩,⟨true,[(19,(.bref 0 0))],(.bref 0 0)⟩,⟨true,[(20,(.bref 0 0))],(.sref 1000)⟩,⟨true,[(0,(.bref 0 0))],(.bref 0 0)⟩,⟨true,[(22,(.bref 0 0))],(.bref 0 0)⟩,⟨true,[(23,(.bref 0 0))],(.bref 0 0)⟩,⟨true,[(24,(.bref 0 0))],(.sref 1000)⟩,
   ⟨true,[(25,(.sref 1000))],(.v (.int .i64 ((X ++ [f]).length:Int)))⟩,⟨true,[(26,(.v (.int .i64 ((X ++ [f]).length:Int))))],(.v (.int .i64 (X.length:Int)))⟩,⟨true,[(21,(.sref 1000)),(27,(.v (.int .i64 (X.length:Int))))],(.eref 1000 (X.length:Int).toNat 0)⟩,⟨true,[(28,(.eref 1000 (X.length:Int).toNat 0))],(.eref 1000 (X.length:Int).toNat 0)⟩]
  [[],[0],[1],[2],[],[4],[5],[6],[7],[8],[3,9],[10]] mixed (by kernel_rfl) ?_ ?_
 ·refine TxtE.cons rfl ⟨.same _,trivial⟩ rfl (VOk.g (VOk.mv (d:=(.bref 0 0)) rfl rfl)) ?_
  refine TxtE.cons rfl ⟨.same _,trivial⟩ rfl (VOk.g (VOk.nilCheckB rfl rfl rfl)) ?_
  refine TxtE.cons rfl ⟨.same _,trivial⟩ rfl (VOk.g (VOk.to (VOk.fieldB rfl Tryz.underlying75 rfl sz73 rfl rfl) rfl)) ?_
  refine TxtE.cons rfl ⟨.same _,trivial⟩ rfl (VOk.g (VOk.loadB (d:=(.sref 1000)) rfl Tryz.underlying73 rfl rfl rfl rfl)) ?_
  refine TxtE.cons rfl ⟨.same _,trivial⟩ rfl (VOk.g (VOk.mv (d:=(.bref 0 0)) rfl rfl)) ?_
  refine TxtE.cons rfl ⟨.same _,trivial⟩ rfl (VOk.g (VOk.nilCheckB rfl rfl rfl)) ?_
  refine TxtE.cons rfl ⟨.same _,trivial⟩ rfl (VOk.g (VOk.to (VOk.fieldB rfl Tryz.underlying75 rfl sz73 rfl rfl) rfl)) ?_
  refine TxtE.cons rfl ⟨.same _,trivial⟩ rfl (VOk.g (VOk.loadB (d:=(.sref 1000)) rfl Tryz.underlying73 rfl rfl rfl rfl)) ?_
  refine TxtE.cons rfl ⟨.same _,trivial⟩ rfl (VOk.g (VOk.lenTL (e:=e_tree_frame) (xs:=X ++ [f]) rfl Tryz.underlying73 rfl rfl)) ?_
  refine TxtE.cons rfl ⟨.same _,trivial⟩ rfl (VOk.g (VOk.to (d':=(.v (.int .i64 (X.length:Int)))) (VOk.arith (op:=.sub) (k:=.i64) (a:=((X ++ [f]).length:Int)) (b:=1) rfl rfl rfl rfl) (congrArg (fun b => D.v (.int .i64 b)) (wr_last X f hX)))) ?_
  refine TxtE.cons rfl ⟨.same _,.same _,trivial⟩ rfl (VOk.g (VOk.indexTL (e:=e_tree_frame) (xs:=X ++ [f]) (i:=(X.length:Int)) rfl Tryz.underlying73 sz117 rfl rfl rfl (ix_last X f))) ?_
  refine TxtE.cons rfl ⟨.same _,trivial⟩ rfl (VOk.g (VOk.asg (d:=(.eref 1000 (X.length:Int).toNat 0)) rfl rfl)) ?_
  exact .done (.rf rfl rfl)
 have hrow:((X ++ [f]).map e_tree_frame)[(X.length:Int).toNat]? =some (e_tree_frame f):=by simp
 refine Ok.drawX (σ':=fun s:Sv =>⟨[],[(0,bxB b root done nodes),(1000,rwB (X ++ [fk f s.1])),(1001,pnB s.1 (ks ++ [n]))]⟩) ⟨.slice none 0 0,rfl⟩ (fun s:Sv =>
  [⟨true,[(4,(.eref 1000 (X.length:Int).toNat 0))],[],(.eref 1000 (X.length:Int).toNat 0),[],false,[]⟩,
   ⟨true,[(29,(.eref 1000 (X.length:Int).toNat 0))],[(1000,rwB (X ++ [f]))],(.eref 1000 (X.length:Int).toNat 0),[],false,[]⟩,
   ⟨true,[(30,(.eref 1000 (X.length:Int).toNat 0))],[(1000,rwB (X ++ [f]))],(.eref 1000 (X.length:Int).toNat 2),[],false,[]⟩,
   ⟨true,[(31,(.eref 1000 (X.length:Int).toNat 2))],[(1000,rwB (X ++ [f]))],(.eref 1000 (X.length:Int).toNat 6),[],false,[]⟩,
   ⟨true,[(32,(.eref 1000 (X.length:Int).toNat 6))],[(1000,rwB (X ++ [f]))],(.v f.N_.Kids),[],false,[]⟩,
   ⟨true,[(3,(.bref 3 0))],[(3,(bxN n))],(.agg (c_api_Node n)),[],false,[]⟩,
   ⟨true,[(33,(.v f.N_.Kids))],[(1001,pnB f.N_.Kids ks)],(.v (.int .i64 (ks.length:Int))),[],false,[]⟩,
   ⟨true,[],[],(L 6 e_api_Node ([T_api_Node.mk 0 (T_api_Name.mk [] []) [] [] []]:List T_api_Node)),[],false,[]⟩,
   ⟨true,[(33,(.v f.N_.Kids)),(36,(L 6 e_api_Node ([T_api_Node.mk 0 (T_api_Name.mk [] []) [] [] []]:List T_api_Node)))],[(1001,pnB f.N_.Kids ks)],(.v s.1),[(1001,pnB s.1 (ks ++ [T_api_Node.mk 0 (T_api_Name.mk [] []) [] [] []]))],true,[]⟩,
   ⟨true,[(37,(.v s.1)),(35,(.v (.int .i64 (ks.length:Int))))],[(1001,pnB s.1 (ks ++ [T_api_Node.mk 0 (T_api_Name.mk [] []) [] [] []]))],(.v (paddr s.1 ((ks.length:Int).toNat * 6))),[],false,[]⟩,
   ⟨true,[(38,(.v (paddr s.1 ((ks.length:Int).toNat * 6)))),(34,(.agg (c_api_Node n)))],[(1001,pnB s.1 (ks ++ [T_api_Node.mk 0 (T_api_Name.mk [] []) [] [] []]))],.junk,[(1001,pnB s.1 (ks ++ [n]))],false,[]⟩,
   ⟨true,[(29,(.eref 1000 (X.length:Int).toNat 0))],[(1000,rwB (X ++ [f]))],(.eref 1000 (X.length:Int).toNat 0),[],false,[]⟩,
   ⟨true,[(39,(.eref 1000 (X.length:Int).toNat 0))],[(1000,rwB (X ++ [f]))],(.eref 1000 (X.length:Int).toNat 2),[],false,[]⟩,
   ⟨true,[(40,(.eref 1000 (X.length:Int).toNat 2))],[(1000,rwB (X ++ [f]))],(.eref 1000 (X.length:Int).toNat 6),[],false,[]⟩,
   ⟨true,[(41,(.eref 1000 (X.length:Int).toNat 6)),(37,(.v s.1))],[(1000,rwB (X ++ [f]))],.junk,[(1000,rwB (X ++ [fk f s.1]))],false,[]⟩])
  8 [[],[0],[1],[2],[3],[],[4],[],[4,6,7],[4,5,6,7,8],[4,5,6,7,8,9],[0],[11],[11,12],[1,2,3,4,8,11,12,13]] mixed (fun s => by kernel_rfl) (fun s s' k hk hc => by
   rcases k with _ | _ | _ | _ | _ | _ | _ | _ | _ | _ | _ | _ | _ | _ | _ | k <;> first | rfl | exact absurd rfl hk | exact absurd hc (by decide)) (fun s => ?_) (fun s => ?_)
 ·refine TxtEX.cons ⟨.same _,trivial⟩ trivial rfl (It2.val rfl rfl (fun T hT => (VOk.g (VOk.mv (d:=(.eref 1000 (X.length:Int).toNat 0)) rfl rfl)))) ?_
  refine TxtEX.cons ⟨.same _,trivial⟩ ⟨rfl,trivial⟩ rfl (It2.val rfl rfl (fun T hT => (VOk.g (VOk.nilCheckE rfl rfl hT.1)))) ?_
  refine TxtEX.cons ⟨.same _,trivial⟩ ⟨rfl,trivial⟩ rfl (It2.val rfl rfl (fun T hT => (VOk.g (VOk.to (VOk.fieldE rfl Tryz.underlying117 rfl sz28 rfl hT.1) rfl)))) ?_
  refine TxtEX.cons ⟨.same _,trivial⟩ ⟨rfl,trivial⟩ rfl (It2.val rfl rfl (fun T hT => (VOk.g (VOk.to (VOk.fieldE rfl Tryz.underlying28 rfl sz26 rfl hT.1) rfl)))) ?_
  refine TxtEX.cons ⟨.same _,trivial⟩ ⟨rfl,trivial⟩ rfl (It2.val rfl rfl (fun T hT => (VOk.g (VOk.loadE (d:=(.v f.N_.Kids)) rfl Tryz.underlying26 rfl rfl hT.1 hrow rfl)))) ?_
  refine TxtEX.cons ⟨.same _,trivial⟩ ⟨rfl,trivial⟩ rfl (It2.val rfl rfl (fun T hT => (VOk.g (VOk.to (d':=(.agg (c_api_Node n))) (.loadBAgg rfl Tryz.underlying28 rfl sz28 rfl hT.1 rfl) rfl)))) ?_
  refine TxtEX.cons ⟨.same _,trivial⟩ ⟨rfl,trivial⟩ rfl (It2.val rfl rfl (fun T hT => (VOk.g (VOk.lenPL (e:=e_api_Node) (xs:=ks) rfl Tryz.underlying26 rfl hT.1)))) ?_
  refine TxtEX.cons trivial trivial rfl (It2.val rfl rfl (fun T hT => (GOk.to (d':=(L 6 e_api_Node ([T_api_Node.mk 0 (T_api_Name.mk [] []) [] [] []]:List T_api_Node))) (GOk.litZ [none,none,none,some 3,some 6,none] rfl Tryz.underlying26 sz28 zs28 rfl rfl rfl rfl) rfl))) ?_
  refine TxtEX.consX ⟨.same _,.same _,trivial⟩ ⟨rfl,trivial⟩ (ItX.appendPL (e:=e_api_Node) (xs:=ks) (ys:=[T_api_Node.mk 0 (T_api_Name.mk [] []) [] [] []]) rfl rfl Tryz.underlying26 elt28 rfl rfl rfl rfl (by simp; omega) (fun s => rfl) rfl) ?_
  refine TxtEX.cons ⟨.same _,.same _,trivial⟩ ⟨rfl,trivial⟩ rfl (It2.val rfl rfl (fun T hT => (VOk.g (VOk.indexPL (e:=e_api_Node) (xs:=ks ++ [T_api_Node.mk 0 (T_api_Name.mk [] []) [] [] []]) (i:=(ks.length:Int)) rfl Tryz.underlying26 sz28 rfl hT.1 rfl (ix_last ks _))))) ?_
  refine TxtEX.cons ⟨.same _,.same _,trivial⟩ ⟨rfl,trivial⟩ rfl (It2.storePL (e:=e_api_Node) (xs:=ks ++ [T_api_Node.mk 0 (T_api_Name.mk [] []) [] [] []]) (i:=(ks.length:Int)) (y:=n) rfl rfl sz28 rfl rfl rfl (ix_last ks _) (by exact congrArg some (e_api_Node_c n).symm) rfl rfl rfl rfl (set_last ks _ n)) ?_
  refine TxtEX.cons ⟨.same _,trivial⟩ ⟨rfl,trivial⟩ rfl (It2.val rfl rfl (fun T hT => (VOk.g (VOk.nilCheckE rfl rfl hT.1)))) ?_
  refine TxtEX.cons ⟨.same _,trivial⟩ ⟨rfl,trivial⟩ rfl (It2.val rfl rfl (fun T hT => (VOk.g (VOk.to (VOk.fieldE rfl Tryz.underlying117 rfl sz28 rfl hT.1) rfl)))) ?_
  refine TxtEX.cons ⟨.same _,trivial⟩ ⟨rfl,trivial⟩ rfl (It2.val rfl rfl (fun T hT => (VOk.g (VOk.to (VOk.fieldE rfl Tryz.underlying28 rfl sz26 rfl hT.1) rfl)))) ?_
  refine TxtEX.cons ⟨.same _,.same _,trivial⟩ ⟨rfl,trivial⟩ rfl (It2.storeEL (e:=e_tree_frame) (xs:=X ++ [f]) (i:=(X.length:Int)) (y:=fk f s.1) (ds:=[.v s.1]) rfl rfl sz26 rfl rfl rfl (ix_last X f) (by exact s.cells) rfl rfl (by rw [rd_last]; rfl) rfl (set_last X f _)) ?_
  exact .done (.rf rfl rfl)
 exact⟨.inr rfl,_,_,⟨s.1,rfl,rfl⟩,⟨_,.nil,rfl⟩,⟨.same _,.same _,.same _,trivial⟩⟩
def nodeOf (f:T_tree_frame) (ks:List T_api_Node):T_api_Node:=T_api_Node.mk f.N_.Kind f.N_.Name f.N_.Attrs ks f.N_.Text
theorem cl76:callable Tryz.prog 76=true:=by kernel_rfl
theorem end0 {a1:Str} {Y:List T_tree_frame} {f:T_tree_frame} {ks:List T_api_Node} {root:T_api_Node} {done:Bool} {nodes:Int} (ht:f.Tag_=a1) (hYe:Y=[]) (b:Nat) :
  Vx.Fn Tryz.prog 53 [(.bref 0 0),(S a1)] [(0,bxB b root done nodes),(1000,rwB (Y ++ [f])),(1001,pnB f.N_.Kids ks)] (.v (.int .i64 0)) [(0,bxB b (nodeOf f ks) true nodes),(1000,rwB []),(1001,.none)]:=by
 have hY:Y.length < 4000000000:=by rw [hYe]; decide
 have c2:((((Y ++ [f]).length:Int) == 0) == false)=true→(0:Int) ≤ (IntKind.i64.wrap (((Y ++ [f]).length:Int) - 1)) ∧ (IntKind.i64.wrap (((Y ++ [f]).length:Int) - 1)) < ((Y ++ [f]).length:Int):=fun _ => by rw [wr_last _ _ hY]; exact ix_last _ f
 have hF:((((Y ++ [f]).length:Int) == 0) || (!(((rd (Y ++ [f]) (IntKind.i64.wrap (((Y ++ [f]).length:Int) - 1))).Tag_) == a1)))=false:=by rw [ne_last,wr_last _ _ hY,rd_last,ht]; simp
 refine Vx.Fn.of_okR Tryz.func53 rfl (Nat.le_of_ble_eq_true rfl) ?_
 refine Ok.seq ?_
 refine .rg [(0,(.bref 0 0)),(1,(S a1))] [(0,bxB b root done nodes),(1000,rwB (Y ++ [f])),(1001,pnB f.N_.Kids ks)] ?_
 refine Ok.seq ?_
 refine Ok.seq ?_
 refine Ok.drawE (σ':=⟨[(0,(.bref 0 0)),(28,(.v (.bool ((((Y ++ [f]).length:Int) == 0) || (!(((rd (Y ++ [f]) (IntKind.i64.wrap (((Y ++ [f]).length:Int) - 1))).Tag_) == a1))))))],[(0,(bxB b root done nodes)),(1000,rwB (Y ++ [f])),(1001,pnB f.N_.Kids ks)]⟩) [⟨true,[(0,(.bref 0 0))],(.bref 0 0)⟩,⟨true,[(6,(.bref 0 0))],(.bref 0 0)⟩,⟨true,[(7,(.bref 0 0))],(.bref 0 0)⟩,⟨true,[(8,(.bref 0 0))],(.sref 1000)⟩,⟨true,[(9,(.sref 1000))],(.v (.int .i64 ((Y ++ [f]).length:Int)))⟩,⟨true,[(10,(.v (.int .i64 ((Y ++ [f]).length:Int))))],(.v (.bool (((Y ++ [f]).length:Int) == 0)))⟩,⟨true,[(11,(.v (.bool (((Y ++ [f]).length:Int) == 0))))],(.v (.bool (((Y ++ [f]).length:Int) == 0)))⟩,It.I ((((Y ++ [f]).length:Int) == 0) == false) [(0,(.bref 0 0)),(12,(.v (.bool (((Y ++ [f]).length:Int) == 0))))] (.bref 0 0),It.I ((((Y ++ [f]).length:Int) == 0) == false) [(13,(bif ((((Y ++ [f]).length:Int) == 0) == false) then (.bref 0 0) else .v undef)),(12,(.v (.bool (((Y ++ [f]).length:Int) == 0))))] (.bref 0 0),It.I ((((Y ++ [f]).length:Int) == 0) == false) [(14,(bif ((((Y ++ [f]).length:Int) == 0) == false) then (.bref 0 0) else .v undef)),(12,(.v (.bool (((Y ++ [f]).length:Int) == 0))))] (.bref 0 0),It.I ((((Y ++ [f]).length:Int) == 0) == false) [(15,(bif ((((Y ++ [f]).length:Int) == 0) == false) then (.bref 0 0) else .v undef)),(12,(.v (.bool (((Y ++ [f]).length:Int) == 0))))] (.sref 1000),It.I ((((Y ++ [f]).length:Int) == 0) == false) [(0,(.bref 0 0)),(12,(.v (.bool (((Y ++ [f]).length:Int) == 0))))] (.bref 0 0),It.I ((((Y ++ [f]).length:Int) == 0) == false) [(17,(bif ((((Y ++ [f]).length:Int) == 0) == false) then (.bref 0 0) else .v undef)),(12,(.v (.bool (((Y ++ [f]).length:Int) == 0))))] (.bref 0 0),It.I ((((Y ++ [f]).length:Int) == 0) == false) [(18,(bif ((((Y ++ [f]).length:Int) == 0) == false) then (.bref 0 0) else .v undef)),(12,(.v (.bool (((Y ++ [f]).length:Int) == 0))))] (.bref 0 0),It.I ((((Y ++ [f]).length:Int) == 0) == false) [(19,(bif ((((Y ++ [f]).length:Int) == 0) == false) then (.bref 0 0) else .v undef)),(12,(.v (.bool (((Y ++ [f]).length:Int) == 0))))] (.sref 1000),It.I ((((Y ++ [f]).length:Int) == 0) == false) [(20,(bif ((((Y ++ [f]).length:Int) == 0) == false) then (.sref 1000) else .v undef)),(12,(.v (.bool (((Y ++ [f]).length:Int) == 0))))] (.v (.int .i64 ((Y ++ [f]).length:Int))),It.I ((((Y ++ [f]).length:Int) == 0) == false) [(21,(bif ((((Y ++ [f]).length:Int) == 0) == false) then (.v (.int .i64 ((Y ++ [f]).length:Int))) else .v undef)),(12,(.v (.bool (((Y ++ [f]).length:Int) == 0))))] (.v (.int .i64 (IntKind.i64.wrap (((Y ++ [f]).length:Int) - 1)))),It.I ((((Y ++ [f]).length:Int) == 0) == false) [(16,(bif ((((Y ++ [f]).length:Int) == 0) == false) then (.sref 1000) else .v undef)),(22,(bif ((((Y ++ [f]).length:Int) == 0) == false) then (.v (.int .i64 (IntKind.i64.wrap (((Y ++ [f]).length:Int) - 1)))) else .v undef)),(12,(.v (.bool (((Y ++ [f]).length:Int) == 0))))] (.eref 1000 (Int.toNat (IntKind.i64.wrap (((Y ++ [f]).length:Int) - 1))) 0),It.I ((((Y ++ [f]).length:Int) == 0) == false) [(23,(bif ((((Y ++ [f]).length:Int) == 0) == false) then (.eref 1000 (Int.toNat (IntKind.i64.wrap (((Y ++ [f]).length:Int) - 1))) 0) else .v undef)),(12,(.v (.bool (((Y ++ [f]).length:Int) == 0))))] (.eref 1000 (Int.toNat (IntKind.i64.wrap (((Y ++ [f]).length:Int) - 1))) 0),It.I ((((Y ++ [f]).length:Int) == 0) == false) [(24,(bif ((((Y ++ [f]).length:Int) == 0) == false) then (.eref 1000 (Int.toNat (IntKind.i64.wrap (((Y ++ [f]).length:Int) - 1))) 0) else .v undef)),(12,(.v (.bool (((Y ++ [f]).length:Int) == 0))))] (S ((rd (Y ++ [f]) (IntKind.i64.wrap (((Y ++ [f]).length:Int) - 1))).Tag_)),It.I ((((Y ++ [f]).length:Int) == 0) == false) [(1,(S a1)),(12,(.v (.bool (((Y ++ [f]).length:Int) == 0))))] (S a1),It.I ((((Y ++ [f]).length:Int) == 0) == false) [(25,(bif ((((Y ++ [f]).length:Int) == 0) == false) then (S ((rd (Y ++ [f]) (IntKind.i64.wrap (((Y ++ [f]).length:Int) - 1))).Tag_)) else .v undef)),(26,(bif ((((Y ++ [f]).length:Int) == 0) == false) then (S a1) else .v undef)),(12,(.v (.bool (((Y ++ [f]).length:Int) == 0))))] (.v (.bool (!(((rd (Y ++ [f]) (IntKind.i64.wrap (((Y ++ [f]).length:Int) - 1))).Tag_) == a1)))),⟨true,[(12,(.v (.bool (((Y ++ [f]).length:Int) == 0)))),(27,(bif ((((Y ++ [f]).length:Int) == 0) == false) then (.v (.bool (!(((rd (Y ++ [f]) (IntKind.i64.wrap (((Y ++ [f]).length:Int) - 1))).Tag_) == a1)))) else .v undef))],(.v (.bool ((((Y ++ [f]).length:Int) == 0) || (!(((rd (Y ++ [f]) (IntKind.i64.wrap (((Y ++ [f]).length:Int) - 1))).Tag_) == a1)))))⟩] [[],[0],[1],[2],[3],[4],[5],[6],[6,7],[6,8],[6,9],[6],[6,11],[6,12],[6,13],[6,14],[6,15],[6,10,16],[6,17],[6,18],[6],[6,19,20],[6,21]] mixed (by kernel_rfl) ?_ ?_
 ·refine TxtE.cons rfl ⟨.same _,trivial⟩ rfl (VOk.g (VOk.mv (d:=(.bref 0 0)) rfl rfl)) ?_
  refine TxtE.cons rfl ⟨.same _,trivial⟩ rfl (VOk.g (VOk.nilCheckB rfl rfl rfl)) ?_
  refine TxtE.cons rfl ⟨.same _,trivial⟩ rfl (VOk.g (VOk.to (VOk.fieldB rfl Tryz.underlying75 rfl sz73 rfl rfl) rfl)) ?_
  refine TxtE.cons rfl ⟨.same _,trivial⟩ rfl (VOk.g (VOk.loadB (d:=(.sref 1000)) rfl Tryz.underlying73 rfl rfl rfl rfl)) ?_
  refine TxtE.cons rfl ⟨.same _,trivial⟩ rfl (VOk.g (VOk.lenTL (e:=e_tree_frame) (xs:=(Y ++ [f])) rfl Tryz.underlying73 rfl rfl)) ?_
  refine TxtE.cons rfl ⟨.same _,trivial⟩ rfl (VOk.g (VOk.arith (op:=.eql) (k:=.i64) (a:=((Y ++ [f]).length:Int)) (b:=0) rfl rfl rfl rfl)) ?_
  refine TxtE.cons rfl ⟨.same _,trivial⟩ rfl (VOk.g (VOk.mv (d:=(.v (.bool (((Y ++ [f]).length:Int) == 0)))) rfl rfl)) ?_
  refine TxtE.consI rfl ⟨.same _,.same _,trivial⟩ rfl rfl (.one rfl) (fun hw1 => (VOk.g (VOk.mv (d:=(.bref 0 0)) rfl rfl))) ?_
  refine TxtE.consI rfl ⟨.same _,.same _,trivial⟩ rfl rfl (.one rfl) (fun hw1 => (GOk.fr (fr':=[(13,(.bref 0 0))]) ⟨DLe.of_eq (cT hw1).symm,trivial⟩ (VOk.g (VOk.nilCheckB rfl rfl rfl)))) ?_
  refine TxtE.consI rfl ⟨.same _,.same _,trivial⟩ rfl rfl (.one rfl) (fun hw1 => (GOk.fr (fr':=[(14,(.bref 0 0))]) ⟨DLe.of_eq (cT hw1).symm,trivial⟩ (VOk.g (VOk.to (VOk.fieldB rfl Tryz.underlying75 rfl sz73 rfl rfl) rfl)))) ?_
  refine TxtE.consI rfl ⟨.same _,.same _,trivial⟩ rfl rfl (.one rfl) (fun hw1 => (GOk.fr (fr':=[(15,(.bref 0 0))]) ⟨DLe.of_eq (cT hw1).symm,trivial⟩ (VOk.g (VOk.loadB (d:=(.sref 1000)) rfl Tryz.underlying73 rfl rfl rfl rfl)))) ?_
  refine TxtE.consI rfl ⟨.same _,.same _,trivial⟩ rfl rfl (.one rfl) (fun hw1 => (VOk.g (VOk.mv (d:=(.bref 0 0)) rfl rfl))) ?_
  refine TxtE.consI rfl ⟨.same _,.same _,trivial⟩ rfl rfl (.one rfl) (fun hw1 => (GOk.fr (fr':=[(17,(.bref 0 0))]) ⟨DLe.of_eq (cT hw1).symm,trivial⟩ (VOk.g (VOk.nilCheckB rfl rfl rfl)))) ?_
  refine TxtE.consI rfl ⟨.same _,.same _,trivial⟩ rfl rfl (.one rfl) (fun hw1 => (GOk.fr (fr':=[(18,(.bref 0 0))]) ⟨DLe.of_eq (cT hw1).symm,trivial⟩ (VOk.g (VOk.to (VOk.fieldB rfl Tryz.underlying75 rfl sz73 rfl rfl) rfl)))) ?_
  refine TxtE.consI rfl ⟨.same _,.same _,trivial⟩ rfl rfl (.one rfl) (fun hw1 => (GOk.fr (fr':=[(19,(.bref 0 0))]) ⟨DLe.of_eq (cT hw1).symm,trivial⟩ (VOk.g (VOk.loadB (d:=(.sref 1000)) rfl Tryz.underlying73 rfl rfl rfl rfl)))) ?_
  refine TxtE.consI rfl ⟨.same _,.same _,trivial⟩ rfl rfl (.one rfl) (fun hw1 => (GOk.fr (fr':=[(20,(.sref 1000))]) ⟨DLe.of_eq (cT hw1).symm,trivial⟩ (VOk.g (VOk.lenTL (e:=e_tree_frame) (xs:=(Y ++ [f])) rfl Tryz.underlying73 rfl rfl)))) ?_
  refine TxtE.consI rfl ⟨.same _,.same _,trivial⟩ rfl rfl (.one rfl) (fun hw1 => (GOk.fr (fr':=[(21,(.v (.int .i64 ((Y ++ [f]).length:Int))))]) ⟨DLe.of_eq (cT hw1).symm,trivial⟩ (VOk.g (VOk.arith (op:=.sub) (k:=.i64) (a:=((Y ++ [f]).length:Int)) (b:=1) rfl rfl rfl rfl)))) ?_
  refine TxtE.consI rfl ⟨.same _,.same _,.same _,trivial⟩ rfl rfl (.one rfl) (fun hw1 => (GOk.fr (fr':=[(16,(.sref 1000)),(22,(.v (.int .i64 (IntKind.i64.wrap (((Y ++ [f]).length:Int) - 1)))))]) ⟨DLe.of_eq (cT hw1).symm,DLe.of_eq (cT hw1).symm,trivial⟩ (VOk.g (VOk.indexTL (e:=e_tree_frame) (xs:=(Y ++ [f])) (i:=(IntKind.i64.wrap (((Y ++ [f]).length:Int) - 1))) rfl Tryz.underlying73 sz117 rfl rfl rfl (c2 hw1))))) ?_
  refine TxtE.consI rfl ⟨.same _,.same _,trivial⟩ rfl rfl (.one rfl) (fun hw1 => (GOk.fr (fr':=[(23,(.eref 1000 (Int.toNat (IntKind.i64.wrap (((Y ++ [f]).length:Int) - 1))) 0))]) ⟨DLe.of_eq (cT hw1).symm,trivial⟩ (VOk.g (VOk.to (VOk.fieldE rfl Tryz.underlying117 rfl sz9 rfl rfl) rfl)))) ?_
  refine TxtE.consI rfl ⟨.same _,.same _,trivial⟩ rfl rfl (.one rfl) (fun hw1 => (GOk.fr (fr':=[(24,(.eref 1000 (Int.toNat (IntKind.i64.wrap (((Y ++ [f]).length:Int) - 1))) 0))]) ⟨DLe.of_eq (cT hw1).symm,trivial⟩ (VOk.g (VOk.loadE (d:=(S ((rd (Y ++ [f]) (IntKind.i64.wrap (((Y ++ [f]).length:Int) - 1))).Tag_))) rfl Tryz.underlying9 rfl rfl rfl (row_rd (c2 hw1)) rfl)))) ?_
  refine TxtE.consI rfl ⟨.same _,.same _,trivial⟩ rfl rfl (.one rfl) (fun hw1 => (VOk.g (VOk.mv (d:=(S a1)) rfl rfl))) ?_
  refine TxtE.consI rfl ⟨.same _,.same _,.same _,trivial⟩ rfl rfl (.one rfl) (fun hw1 => (GOk.fr (fr':=[(25,(S ((rd (Y ++ [f]) (IntKind.i64.wrap (((Y ++ [f]).length:Int) - 1))).Tag_))),(26,(S a1))]) ⟨DLe.of_eq (cT hw1).symm,DLe.of_eq (cT hw1).symm,trivial⟩ (VOk.g (VOk.strOp (op:=.neq) (a:=(rd (Y ++ [f]) (IntKind.i64.wrap (((Y ++ [f]).length:Int) - 1))).Tag_) (b:=a1) rfl rfl rfl rfl)))) ?_
  refine TxtE.cons rfl ⟨.same _,.same _,trivial⟩ rfl (VOk.g (VOk.to (VOk.pickI (b:=(((Y ++ [f]).length:Int) == 0)) (p:=true) (q:=(!(((rd (Y ++ [f]) (IntKind.i64.wrap (((Y ++ [f]).length:Int) - 1))).Tag_) == a1))) rfl rfl (fun hp3 => rfl) (fun hp3 => (cT (f_beq hp3)))) (pickOr (((Y ++ [f]).length:Int) == 0) (!(((rd (Y ++ [f]) (IntKind.i64.wrap (((Y ++ [f]).length:Int) - 1))).Tag_) == a1))))) ?_
  exact .done (.rf rfl rfl)
 refine Ok.condF (congrArg (fun b => D.v (.bool b)) hF) ?_
 refine Ok.skip ?_
 refine Ok.seq ?_
 have hrow:((Y ++ [f]).map e_tree_frame)[(Y.length:Int).toNat]? =some (e_tree_frame f):=by simp
 refine Ok.drawE2 (σ':=⟨[(0,(.bref 0 0)),(5,(.bref 5 0))],[(0,bxB b root done nodes),(5,(.box .ex (e_raw_api_Node f.N_))),(1000,rwB (Y ++ [f])),(1001,pnB f.N_.Kids ks)]⟩)
  [⟨true,[(0,(.bref 0 0))],[],(.bref 0 0),[],false,[]⟩,
   ⟨true,[(29,(.bref 0 0))],[(0,bxB b root done nodes)],(.bref 0 0),[],false,[]⟩,
   ⟨true,[(30,(.bref 0 0))],[(0,bxB b root done nodes)],(.bref 0 0),[],false,[]⟩,
   ⟨true,[(31,(.bref 0 0))],[(0,bxB b root done nodes)],(.sref 1000),[],false,[]⟩,
   ⟨true,[(0,(.bref 0 0))],[],(.bref 0 0),[],false,[]⟩,
   ⟨true,[(33,(.bref 0 0))],[(0,bxB b root done nodes)],(.bref 0 0),[],false,[]⟩,
   ⟨true,[(34,(.bref 0 0))],[(0,bxB b root done nodes)],(.bref 0 0),[],false,[]⟩,
   ⟨true,[(35,(.bref 0 0))],[(0,bxB b root done nodes)],(.sref 1000),[],false,[]⟩,
   ⟨true,[(36,(.sref 1000))],[(1000,rwB (Y ++ [f]))],(.v (.int .i64 ((Y ++ [f]).length:Int))),[],false,[]⟩,
   ⟨true,[(37,(.v (.int .i64 ((Y ++ [f]).length:Int))))],[],(.v (.int .i64 (Y.length:Int))),[],false,[]⟩,
   ⟨true,[(32,(.sref 1000)),(38,(.v (.int .i64 (Y.length:Int))))],[(1000,rwB (Y ++ [f]))],(.eref 1000 (Y.length:Int).toNat 0),[],false,[]⟩,
   ⟨true,[(39,(.eref 1000 (Y.length:Int).toNat 0))],[(1000,rwB (Y ++ [f]))],(.eref 1000 (Y.length:Int).toNat 2),[],false,[]⟩,
   ⟨true,[(40,(.eref 1000 (Y.length:Int).toNat 2))],[(1000,rwB (Y ++ [f]))],(.agg (e_raw_api_Node f.N_)),[],false,[]⟩,
   ⟨true,[],[],(.bref 5 0),[(5,bx0)],true,[]⟩,
   ⟨true,[(5,(.bref 5 0)),(41,(.agg (e_raw_api_Node f.N_)))],[(5,bx0)],.junk,[(5,(.box .ex (e_raw_api_Node f.N_)))],false,[]⟩]
  [[],[0],[1],[2],[],[4],[5],[6],[7],[8],[3,9],[10],[11],[],[12,13]] mixed (by kernel_rfl) ?_ ?_
 ·refine TxtE2.cons ⟨.same _,trivial⟩ trivial (It2.val rfl rfl (fun T hT => (VOk.g (VOk.mv (d:=(.bref 0 0)) rfl rfl)))) ?_
  refine TxtE2.cons ⟨.same _,trivial⟩ ⟨rfl,trivial⟩ (It2.val rfl rfl (fun T hT => (VOk.g (VOk.nilCheckB rfl rfl hT.1)))) ?_
  refine TxtE2.cons ⟨.same _,trivial⟩ ⟨rfl,trivial⟩ (It2.val rfl rfl (fun T hT => (VOk.g (VOk.to (VOk.fieldB rfl Tryz.underlying75 rfl sz73 rfl hT.1) rfl)))) ?_
  refine TxtE2.cons ⟨.same _,trivial⟩ ⟨rfl,trivial⟩ (It2.val rfl rfl (fun T hT => (VOk.g (VOk.loadB (d:=(.sref 1000)) rfl Tryz.underlying73 rfl rfl hT.1 rfl)))) ?_
  refine TxtE2.cons ⟨.same _,trivial⟩ trivial (It2.val rfl rfl (fun T hT => (VOk.g (VOk.mv (d:=(.bref 0 0)) rfl rfl)))) ?_
  refine TxtE2.cons ⟨.same _,trivial⟩ ⟨rfl,trivial⟩ (It2.val rfl rfl (fun T hT => (VOk.g (VOk.nilCheckB rfl rfl hT.1)))) ?_
  refine TxtE2.cons ⟨.same _,trivial⟩ ⟨rfl,trivial⟩ (It2.val rfl rfl (fun T hT => (VOk.g (VOk.to (VOk.fieldB rfl Tryz.underlying75 rfl sz73 rfl hT.1) rfl)))) ?_
  refine TxtE2.cons ⟨.same _,trivial⟩ ⟨rfl,trivial⟩ (It2.val rfl rfl (fun T hT => (VOk.g (VOk.loadB (d:=(.sref 1000)) rfl Tryz.underlying73 rfl rfl hT.1 rfl)))) ?_
  refine TxtE2.cons ⟨.same _,trivial⟩ ⟨rfl,trivial⟩ (It2.val rfl rfl (fun T hT => (VOk.g (VOk.lenTL (e:=e_tree_frame) (xs:=(Y ++ [f])) rfl Tryz.underlying73 rfl hT.1)))) ?_
  refine TxtE2.cons ⟨.same _,trivial⟩ trivial (It2.val rfl rfl (fun T hT => (VOk.g (VOk.to (d':=(.v (.int .i64 (Y.length:Int)))) (VOk.arith (op:=.sub) (k:=.i64) (a:=((Y ++ [f]).length:Int)) (b:=1) rfl rfl rfl rfl) (congrArg (fun b => D.v (.int .i64 b)) (wr_last _ f hY)))))) ?_
  refine TxtE2.cons ⟨.same _,.same _,trivial⟩ ⟨rfl,trivial⟩ (It2.val rfl rfl (fun T hT => (VOk.g (VOk.indexTL (e:=e_tree_frame) (xs:=(Y ++ [f])) (i:=(Y.length:Int)) rfl Tryz.underlying73 sz117 rfl hT.1 rfl (ix_last _ f))))) ?_
  refine TxtE2.cons ⟨.same _,trivial⟩ ⟨rfl,trivial⟩ (It2.val rfl rfl (fun T hT => (VOk.g (VOk.to (VOk.fieldE rfl Tryz.underlying117 rfl sz28 rfl hT.1) rfl)))) ?_
  refine TxtE2.cons ⟨.same _,trivial⟩ ⟨rfl,trivial⟩ (It2.val rfl rfl (fun T hT => (VOk.g (VOk.to (d':=(.agg (e_raw_api_Node f.N_))) (.loadEAgg rfl Tryz.underlying28 rfl sz28 rfl hT.1 hrow rfl) rfl)))) ?_
  refine TxtE2.cons trivial trivial (It2.alloc 5 [none,none,none,some 3,some 6,none] rfl rfl zo28 rfl rfl) ?_
  refine TxtE2.cons ⟨.same _,.same _,trivial⟩ ⟨rfl,trivial⟩ (It2.store rfl rfl sz28 rfl rfl rfl rfl rfl rfl rfl rfl) ?_
  exact .done (.rf rfl rfl)
 refine Ok.seq ?_
 refine Ok.drawE2 (σ':=⟨[(0,(.bref 0 0)),(5,(.bref 5 0))],[(0,bxB b root done nodes),(5,(.box .ex (e_raw_api_Node f.N_))),(1000,rwB Y),(1001,pnB f.N_.Kids ks)]⟩)
  [⟨true,[(0,(.bref 0 0))],[],(.bref 0 0),[],false,[]⟩,
   ⟨true,[(0,(.bref 0 0))],[],(.bref 0 0),[],false,[]⟩,
   ⟨true,[(43,(.bref 0 0))],[(0,bxB b root done nodes)],(.bref 0 0),[],false,[]⟩,
   ⟨true,[(44,(.bref 0 0))],[(0,bxB b root done nodes)],(.bref 0 0),[],false,[]⟩,
   ⟨true,[(45,(.bref 0 0))],[(0,bxB b root done nodes)],(.sref 1000),[],false,[]⟩,
   ⟨true,[(0,(.bref 0 0))],[],(.bref 0 0),[],false,[]⟩,
   ⟨true,[(47,(.bref 0 0))],[(0,bxB b root done nodes)],(.bref 0 0),[],false,[]⟩,
   ⟨true,[(48,(.bref 0 0))],[(0,bxB b root done nodes)],(.bref 0 0),[],false,[]⟩,
   ⟨true,[(49,(.bref 0 0))],[(0,bxB b root done nodes)],(.sref 1000),[],false,[]⟩,
   ⟨true,[(50,(.sref 1000))],[(1000,rwB (Y ++ [f]))],(.v (.int .i64 ((Y ++ [f]).length:Int))),[],false,[]⟩,
   ⟨true,[(51,(.v (.int .i64 ((Y ++ [f]).length:Int))))],[],(.v (.int .i64 (Y.length:Int))),[],false,[]⟩,
   ⟨true,[(46,(.sref 1000)),(52,(.v (.int .i64 (Y.length:Int))))],[(1000,rwB (Y ++ [f]))],(.sref 53),[(53,rwB Y),(1000,.none)],true,[]⟩,
   ⟨true,[(42,(.bref 0 0))],[(0,bxB b root done nodes)],(.bref 0 0),[],false,[]⟩,
   ⟨true,[(54,(.bref 0 0))],[(0,bxB b root done nodes)],(.bref 0 0),[],false,[]⟩,
   ⟨true,[(55,(.bref 0 0)),(53,(.sref 53))],[(0,bxB b root done nodes)],.junk,[(0,(.box (.at b) [(.sref 53),(.v (.int .i64 root.Kind)),(S root.Name.Space),(S root.Name.Local),(L 3 e_api_Attr root.Attrs),(L 6 e_api_Node root.Kids),(S root.Text),(.v (.bool done)),(.v (.int .i64 nodes))]))],false,[]⟩]
  [[],[],[1],[2],[3],[],[5],[6],[7],[8],[9],[4,9,10],[0],[12],[2,3,4,6,7,8,11,12,13]] mixed (by kernel_rfl) ?_ ?_
 ·refine TxtE2.cons ⟨.same _,trivial⟩ trivial (It2.val rfl rfl (fun T hT => (VOk.g (VOk.mv (d:=(.bref 0 0)) rfl rfl)))) ?_
  refine TxtE2.cons ⟨.same _,trivial⟩ trivial (It2.val rfl rfl (fun T hT => (VOk.g (VOk.mv (d:=(.bref 0 0)) rfl rfl)))) ?_
  refine TxtE2.cons ⟨.same _,trivial⟩ ⟨rfl,trivial⟩ (It2.val rfl rfl (fun T hT => (VOk.g (VOk.nilCheckB rfl rfl hT.1)))) ?_
  refine TxtE2.cons ⟨.same _,trivial⟩ ⟨rfl,trivial⟩ (It2.val rfl rfl (fun T hT => (VOk.g (VOk.to (VOk.fieldB rfl Tryz.underlying75 rfl sz73 rfl hT.1) rfl)))) ?_
  refine TxtE2.cons ⟨.same _,trivial⟩ ⟨rfl,trivial⟩ (It2.val rfl rfl (fun T hT => (VOk.g (VOk.loadB (d:=(.sref 1000)) rfl Tryz.underlying73 rfl rfl hT.1 rfl)))) ?_
  refine TxtE2.cons ⟨.same _,trivial⟩ trivial (It2.val rfl rfl (fun T hT => (VOk.g (VOk.mv (d:=(.bref 0 0)) rfl rfl)))) ?_
  refine TxtE2.cons ⟨.same _,trivial⟩ ⟨rfl,trivial⟩ (It2.val rfl rfl (fun T hT => (VOk.g (VOk.nilCheckB rfl rfl hT.1)))) ?_
  refine TxtE2.cons ⟨.same _,trivial⟩ ⟨rfl,trivial⟩ (It2.val rfl rfl (fun T hT => (VOk.g (VOk.to (VOk.fieldB rfl Tryz.underlying75 rfl sz73 rfl hT.1) rfl)))) ?_
  refine TxtE2.cons ⟨.same _,trivial⟩ ⟨rfl,trivial⟩ (It2.val rfl rfl (fun T hT => (VOk.g (VOk.loadB (d:=(.sref 1000)) rfl Tryz.underlying73 rfl rfl hT.1 rfl)))) ?_
  refine TxtE2.cons ⟨.same _,trivial⟩ ⟨rfl,trivial⟩ (It2.val rfl rfl (fun T hT => (VOk.g (VOk.lenTL (e:=e_tree_frame) (xs:=(Y ++ [f])) rfl Tryz.underlying73 rfl hT.1)))) ?_
  refine TxtE2.cons ⟨.same _,trivial⟩ trivial (It2.val rfl rfl (fun T hT => (VOk.g (VOk.to (d':=(.v (.int .i64 (Y.length:Int)))) (VOk.arith (op:=.sub) (k:=.i64) (a:=((Y ++ [f]).length:Int)) (b:=1) rfl rfl rfl rfl) (congrArg (fun b => D.v (.int .i64 b)) (wr_last _ f hY)))))) ?_
  refine TxtE2.cons ⟨.same _,.same _,trivial⟩ ⟨rfl,trivial⟩ (It2.cutL (e:=e_tree_frame) (xs:=(Y ++ [f])) (ys:=Y) (m:=Y.length) 53 rfl rfl Tryz.underlying73 sz117 rfl rfl rfl rfl (by simp) (List.take_left' rfl) rfl rfl) ?_
  refine TxtE2.cons ⟨.same _,trivial⟩ ⟨rfl,trivial⟩ (It2.val rfl rfl (fun T hT => (VOk.g (VOk.nilCheckB rfl rfl hT.1)))) ?_
  refine TxtE2.cons ⟨.same _,trivial⟩ ⟨rfl,trivial⟩ (It2.val rfl rfl (fun T hT => (VOk.g (VOk.to (VOk.fieldB rfl Tryz.underlying75 rfl sz73 rfl hT.1) rfl)))) ?_
  refine TxtE2.cons ⟨.same _,.same _,trivial⟩ ⟨rfl,trivial⟩ (It2.store rfl rfl sz73 rfl rfl rfl rfl rfl rfl rfl rfl) ?_
  exact .doneS (SLe.trans (Le.s (.rf rfl rfl)) (SLe.ren 53 1000 rfl rfl))
 refine Ok.seq ?_
 subst hYe
 refine Ok.region (σ':=⟨[],[(0,bxB b (nodeOf f ks) true nodes),(1000,rwB []),(1001,.none)]⟩) ?_ ?_
 ·refine .rn 2 ?_
  refine OpsOk.sle (σ':=⟨[(56,(.bref 0 0)),(57,(.agg [(.v (.int .i64 f.N_.Kind)),(S f.N_.Name.Space),(S f.N_.Name.Local),(L 3 e_api_Attr f.N_.Attrs),(.sref 1001),(S f.N_.Text)]))],[(0,bxB b root done nodes),(1000,rwB []),(1001,(.rows true 28 6 (ks.map e_api_Node)))]⟩) (SLe.trans (Le.s (.rf rfl rfl)) (SLe.trans (SLe.unpin 1001 rfl) (SLe.vref 57 4 1001 rfl rfl rfl))) ?_
  refine OpsOk.frzL 1001 (e:=e_api_Node) (xs:=ks) rfl ?_
  refine OpsOk.sle (σ':=⟨[(56,(.bref 0 0)),(57,(.agg (c_api_Node (nodeOf f ks))))],[(0,bxB b root done nodes),(1000,rwB []),(1001,.none)]⟩) (Le.s (.rf rfl rfl)) ?_
  refine OpsOk.cons rfl (OpOk.callG (T1:=[(0,bxB b root done nodes),(1000,rwB [])]) (T1':=[(0,bxB b (nodeOf f ks) true nodes),(1000,rwB [])]) [(0,0),(1000,1000)] false rfl rfl cl76 (fun bs => add0 (n:=nodeOf f ks) (bs 0)) ⟨.same _,.same _,trivial⟩ rfl rfl rfl (fun h => nomatch h) rfl) ?_
  exact .dn
 refine Ok.seq ?_
 refine .rg [(4,(.v (.int .i64 0)))] [(0,bxB b (nodeOf f ks) true nodes),(1000,rwB []),(1001,.none)] ?_
 refine Ok.ret ?_
 exact⟨.inl rfl,⟨_,(.cons (.tmp rfl) .nil),rfl⟩,⟨.same _,.same _,.same _,trivial⟩⟩
theorem end1 {a1:Str} {X:List T_tree_frame} {f g:T_tree_frame} {ks kg:List T_api_Node} {root:T_api_Node} {done:Bool} {nodes:Int} (ht:f.Tag_=a1) (hX:X.length < 3000000000) (hk:kg.length < 4000000000) (b:Nat) :
  Vx.FnX Tryz.prog 53 [(.bref 0 0),(S a1)] [(0,bxB b root done nodes),(1000,rwB ((X ++ [g]) ++ [f])),(1001,pnB f.N_.Kids ks),(1002,pnB g.N_.Kids kg)] fun r T' => ∃ s,r=.v (.int .i64 0) ∧ T'=[(0,bxB b root done nodes),(1000,rwB (X ++ [fk g s])),(1001,.none),(1002,pnB s (kg ++ [nodeOf f ks]))]:=by
 have hY:(X ++ [g]).length < 4000000000:=by simp; omega
 have c2:(((((X ++ [g]) ++ [f]).length:Int) == 0) == false)=true→(0:Int) ≤ (IntKind.i64.wrap ((((X ++ [g]) ++ [f]).length:Int) - 1)) ∧ (IntKind.i64.wrap ((((X ++ [g]) ++ [f]).length:Int) - 1)) < (((X ++ [g]) ++ [f]).length:Int):=fun _ => by rw [wr_last _ _ hY]; exact ix_last _ f
 have hF:(((((X ++ [g]) ++ [f]).length:Int) == 0) || (!(((rd ((X ++ [g]) ++ [f]) (IntKind.i64.wrap ((((X ++ [g]) ++ [f]).length:Int) - 1))).Tag_) == a1)))=false:=by rw [ne_last,wr_last _ _ hY,rd_last,ht]; simp
 refine FnX.of_okR Tryz.func53 rfl (Nat.le_of_ble_eq_true rfl) ?_
 refine Ok.seq ?_
 refine .rg [(0,(.bref 0 0)),(1,(S a1))] [(0,bxB b root done nodes),(1000,rwB ((X ++ [g]) ++ [f])),(1001,pnB f.N_.Kids ks),(1002,pnB g.N_.Kids kg)] ?_
 refine Ok.seq ?_
 refine Ok.seq ?_
 refine Ok.drawE (σ':=⟨[(0,(.bref 0 0)),(28,(.v (.bool (((((X ++ [g]) ++ [f]).length:Int) == 0) || (!(((rd ((X ++ [g]) ++ [f]) (IntKind.i64.wrap ((((X ++ [g]) ++ [f]).length:Int) - 1))).Tag_) == a1))))))],[(0,(bxB b root done nodes)),(1000,rwB ((X ++ [g]) ++ [f])),(1001,pnB f.N_.Kids ks),(1002,pnB g.N_.Kids kg)]⟩) [⟨true,[(0,(.bref 0 0))],(.bref 0 0)⟩,⟨true,[(6,(.bref 0 0))],(.bref 0 0)⟩,⟨true,[(7,(.bref 0 0))],(.bref 0 0)⟩,⟨true,[(8,(.bref 0 0))],(.sref 1000)⟩,⟨true,[(9,(.sref 1000))],(.v (.int .i64 (((X ++ [g]) ++ [f]).length:Int)))⟩,⟨true,[(10,(.v (.int .i64 (((X ++ [g]) ++ [f]).length:Int))))],(.v (.bool ((((X ++ [g]) ++ [f]).length:Int) == 0)))⟩,⟨true,[(11,(.v (.bool ((((X ++ [g]) ++ [f]).length:Int) == 0))))],(.v (.bool ((((X ++ [g]) ++ [f]).length:Int) == 0)))⟩,It.I (((((X ++ [g]) ++ [f]).length:Int) == 0) == false) [(0,(.bref 0 0)),(12,(.v (.bool ((((X ++ [g]) ++ [f]).length:Int) == 0))))] (.bref 0 0),It.I (((((X ++ [g]) ++ [f]).length:Int) == 0) == false) [(13,(bif (((((X ++ [g]) ++ [f]).length:Int) == 0) == false) then (.bref 0 0) else .v undef)),(12,(.v (.bool ((((X ++ [g]) ++ [f]).length:Int) == 0))))] (.bref 0 0),It.I (((((X ++ [g]) ++ [f]).length:Int) == 0) == false) [(14,(bif (((((X ++ [g]) ++ [f]).length:Int) == 0) == false) then (.bref 0 0) else .v undef)),(12,(.v (.bool ((((X ++ [g]) ++ [f]).length:Int) == 0))))] (.bref 0 0),It.I (((((X ++ [g]) ++ [f]).length:Int) == 0) == false) [(15,(bif (((((X ++ [g]) ++ [f]).length:Int) == 0) == false) then (.bref 0 0) else .v undef)),(12,(.v (.bool ((((X ++ [g]) ++ [f]).length:Int) == 0))))] (.sref 1000),It.I (((((X ++ [g]) ++ [f]).length:Int) == 0) == false) [(0,(.bref 0 0)),(12,(.v (.bool ((((X ++ [g]) ++ [f]).length:Int) == 0))))] (.bref 0 0),It.I (((((X ++ [g]) ++ [f]).length:Int) == 0) == false) [(17,(bif (((((X ++ [g]) ++ [f]).length:Int) == 0) == false) then (.bref 0 0) else .v undef)),(12,(.v (.bool ((((X ++ [g]) ++ [f]).length:Int) == 0))))] (.bref 0 0),It.I (((((X ++ [g]) ++ [f]).length:Int) == 0) == false) [(18,(bif (((((X ++ [g]) ++ [f]).length:Int) == 0) == false) then (.bref 0 0) else .v undef)),(12,(.v (.bool ((((X ++ [g]) ++ [f]).length:Int) == 0))))] (.bref 0 0),It.I (((((X ++ [g]) ++ [f]).length:Int) == 0) == false) [(19,(bif (((((X ++ [g]) ++ [f]).length:Int) == 0) == false) then (.bref 0 0) else .v undef)),(12,(.v (.bool ((((X ++ [g]) ++ [f]).length:Int) == 0))))] (.sref 1000),It.I (((((X ++ [g]) ++ [f]).length:Int) == 0) == false) [(20,(bif (((((X ++ [g]) ++ [f]).length:Int) == 0) == false) then (.sref 1000) else .v undef)),(12,(.v (.bool ((((X ++ [g]) ++ [f]).length:Int) == 0))))] (.v (.int .i64 (((X ++ [g]) ++ [f]).length:Int))),It.I (((((X ++ [g]) ++ [f]).length:Int) == 0) == false) [(21,(bif (((((X ++ [g]) ++ [f]).length:Int) == 0) == false) then (.v (.int .i64 (((X ++ [g]) ++ [f]).length:Int))) else .v undef)),(12,(.v (.bool ((((X ++ [g]) ++ [f]).length:Int) == 0))))] (.v (.int .i64 (IntKind.i64.wrap ((((X ++ [g]) ++ [f]).length:Int) - 1)))),It.I (((((X ++ [g]) ++ [f]).length:Int) == 0) == false) [(16,(bif (((((X ++ [g]) ++ [f]).length:Int) == 0) == false) then (.sref 1000) else .v undef)),(22,(bif (((((X ++ [g]) ++ [f]).length:Int) == 0) == false) then (.v (.int .i64 (IntKind.i64.wrap ((((X ++ [g]) ++ [f]).length:Int) - 1)))) else .v undef)),(12,(.v (.bool ((((X ++ [g]) ++ [f]).length:Int) == 0))))] (.eref 1000 (Int.toNat (IntKind.i64.wrap ((((X ++ [g]) ++ [f]).length:Int) - 1))) 0),It.I (((((X ++ [g]) ++ [f]).length:Int) == 0) == false) [(23,(bif (((((X ++ [g]) ++ [f]).length:Int) == 0) == false) then (.eref 1000 (Int.toNat (IntKind.i64.wrap ((((X ++ [g]) ++ [f]).length:Int) - 1))) 0) else .v undef)),(12,(.v (.bool ((((X ++ [g]) ++ [f]).length:Int) == 0))))] (.eref 1000 (Int.toNat (IntKind.i64.wrap ((((X ++ [g]) ++ [f]).length:Int) - 1))) 0),It.I (((((X ++ [g]) ++ [f]).length:Int) == 0) == false) [(24,(bif (((((X ++ [g]) ++ [f]).length:Int) == 0) == false) then (.eref 1000 (Int.toNat (IntKind.i64.wrap ((((X ++ [g]) ++ [f]).length:Int) - 1))) 0) else .v undef)),(12,(.v (.bool ((((X ++ [g]) ++ [f]).length:Int) == 0))))] (S ((rd ((X ++ [g]) ++ [f]) (IntKind.i64.wrap ((((X ++ [g]) ++ [f]).length:Int) - 1))).Tag_)),It.I (((((X ++ [g]) ++ [f]).length:Int) == 0) == false) [(1,(S a1)),(12,(.v (.bool ((((X ++ [g]) ++ [f]).length:Int) == 0))))] (S a1),It.I (((((X ++ [g]) ++ [f]).length:Int) == 0) == false) [(25,(bif (((((X ++ [g]) ++ [f]).length:Int) == 0) == false) then (S ((rd ((X ++ [g]) ++ [f]) (IntKind.i64.wrap ((((X ++ [g]) ++ [f]).length:Int) - 1))).Tag_)) else .v undef)),(26,(bif (((((X ++ [g]) ++ [f]).length:Int) == 0) == false) then (S a1) else .v undef)),(12,(.v (.bool ((((X ++ [g]) ++ [f]).length:Int) == 0))))] (.v (.bool (!(((rd ((X ++ [g]) ++ [f]) (IntKind.i64.wrap ((((X ++ [g]) ++ [f]).length:Int) - 1))).Tag_) == a1)))),⟨true,[(12,(.v (.bool ((((X ++ [g]) ++ [f]).length:Int) == 0)))),(27,(bif (((((X ++ [g]) ++ [f]).length:Int) == 0) == false) then (.v (.bool (!(((rd ((X ++ [g]) ++ [f]) (IntKind.i64.wrap ((((X ++ [g]) ++ [f]).length:Int) - 1))).Tag_) == a1)))) else .v undef))],(.v (.bool (((((X ++ [g]) ++ [f]).length:Int) == 0) || (!(((rd ((X ++ [g]) ++ [f]) (IntKind.i64.wrap ((((X ++ [g]) ++ [f]).length:Int) - 1))).Tag_) == a1)))))⟩] [[],[0],[1],[2],[3],[4],[5],[6],[6,7],[6,8],[6,9],[6],[6,11],[6,12],[6,13],[6,14],[6,15],[6,10,16],[6,17],[6,18],[6],[6,19,20],[6,21]] mixed (by kernel_rfl) ?_ ?_
 ·refine TxtE.cons rfl ⟨.same _,trivial⟩ rfl (VOk.g (VOk.mv (d:=(.bref 0 0)) rfl rfl)) ?_
  refine TxtE.cons rfl ⟨.same _,trivial⟩ rfl (VOk.g (VOk.nilCheckB rfl rfl rfl)) ?_
  refine TxtE.cons rfl ⟨.same _,trivial⟩ rfl (VOk.g (VOk.to (VOk.fieldB rfl Tryz.underlying75 rfl sz73 rfl rfl) rfl)) ?_
  refine TxtE.cons rfl ⟨.same _,trivial⟩ rfl (VOk.g (VOk.loadB (d:=(.sref 1000)) rfl Tryz.underlying73 rfl rfl rfl rfl)) ?_
  refine TxtE.cons rfl ⟨.same _,trivial⟩ rfl (VOk.g (VOk.lenTL (e:=e_tree_frame) (xs:=((X ++ [g]) ++ [f])) rfl Tryz.underlying73 rfl rfl)) ?_
  refine TxtE.cons rfl ⟨.same _,trivial⟩ rfl (VOk.g (VOk.arith (op:=.eql) (k:=.i64) (a:=(((X ++ [g]) ++ [f]).length:Int)) (b:=0) rfl rfl rfl rfl)) ?_
  refine TxtE.cons rfl ⟨.same _,trivial⟩ rfl (VOk.g (VOk.mv (d:=(.v (.bool ((((X ++ [g]) ++ [f]).length:Int) == 0)))) rfl rfl)) ?_
  refine TxtE.consI rfl ⟨.same _,.same _,trivial⟩ rfl rfl (.one rfl) (fun hw1 => (VOk.g (VOk.mv (d:=(.bref 0 0)) rfl rfl))) ?_
  refine TxtE.consI rfl ⟨.same _,.same _,trivial⟩ rfl rfl (.one rfl) (fun hw1 => (GOk.fr (fr':=[(13,(.bref 0 0))]) ⟨DLe.of_eq (cT hw1).symm,trivial⟩ (VOk.g (VOk.nilCheckB rfl rfl rfl)))) ?_
  refine TxtE.consI rfl ⟨.same _,.same _,trivial⟩ rfl rfl (.one rfl) (fun hw1 => (GOk.fr (fr':=[(14,(.bref 0 0))]) ⟨DLe.of_eq (cT hw1).symm,trivial⟩ (VOk.g (VOk.to (VOk.fieldB rfl Tryz.underlying75 rfl sz73 rfl rfl) rfl)))) ?_
  refine TxtE.consI rfl ⟨.same _,.same _,trivial⟩ rfl rfl (.one rfl) (fun hw1 => (GOk.fr (fr':=[(15,(.bref 0 0))]) ⟨DLe.of_eq (cT hw1).symm,trivial⟩ (VOk.g (VOk.loadB (d:=(.sref 1000)) rfl Tryz.underlying73 rfl rfl rfl rfl)))) ?_
  refine TxtE.consI rfl ⟨.same _,.same _,trivial⟩ rfl rfl (.one rfl) (fun hw1 => (VOk.g (VOk.mv (d:=(.bref 0 0)) rfl rfl))) ?_
  refine TxtE.consI rfl ⟨.same _,.same _,trivial⟩ rfl rfl (.one rfl) (fun hw1 => (GOk.fr (fr':=[(17,(.bref 0 0))]) ⟨DLe.of_eq (cT hw1).symm,trivial⟩ (VOk.g (VOk.nilCheckB rfl rfl rfl)))) ?_
  refine TxtE.consI rfl ⟨.same _,.same _,trivial⟩ rfl rfl (.one rfl) (fun hw1 => (GOk.fr (fr':=[(18,(.bref 0 0))]) ⟨DLe.of_eq (cT hw1).symm,trivial⟩ (VOk.g (VOk.to (VOk.fieldB rfl Tryz.underlying75 rfl sz73 rfl rfl) rfl)))) ?_
  refine TxtE.consI rfl ⟨.same _,.same _,trivial⟩ rfl rfl (.one rfl) (fun hw1 => (GOk.fr (fr':=[(19,(.bref 0 0))]) ⟨DLe.of_eq (cT hw1).symm,trivial⟩ (VOk.g (VOk.loadB (d:=(.sref 1000)) rfl Tryz.underlying73 rfl rfl rfl rfl)))) ?_
  refine TxtE.consI rfl ⟨.same _,.same _,trivial⟩ rfl rfl (.one rfl) (fun hw1 => (GOk.fr (fr':=[(20,(.sref 1000))]) ⟨DLe.of_eq (cT hw1).symm,trivial⟩ (VOk.g (VOk.lenTL (e:=e_tree_frame) (xs:=((X ++ [g]) ++ [f])) rfl Tryz.underlying73 rfl rfl)))) ?_
  refine TxtE.consI rfl ⟨.same _,.same _,trivial⟩ rfl rfl (.one rfl) (fun hw1 => (GOk.fr (fr':=[(21,(.v (.int .i64 (((X ++ [g]) ++ [f]).length:Int))))]) ⟨DLe.of_eq (cT hw1).symm,trivial⟩ (VOk.g (VOk.arith (op:=.sub) (k:=.i64) (a:=(((X ++ [g]) ++ [f]).length:Int)) (b:=1) rfl rfl rfl rfl)))) ?_
  refine TxtE.consI rfl ⟨.same _,.same _,.same _,trivial⟩ rfl rfl (.one rfl) (fun hw1 => (GOk.fr (fr':=[(16,(.sref 1000)),(22,(.v (.int .i64 (IntKind.i64.wrap ((((X ++ [g]) ++ [f]).length:Int) - 1)))))]) ⟨DLe.of_eq (cT hw1).symm,DLe.of_eq (cT hw1).symm,trivial⟩ (VOk.g (VOk.indexTL (e:=e_tree_frame) (xs:=((X ++ [g]) ++ [f])) (i:=(IntKind.i64.wrap ((((X ++ [g]) ++ [f]).length:Int) - 1))) rfl Tryz.underlying73 sz117 rfl rfl rfl (c2 hw1))))) ?_
  refine TxtE.consI rfl ⟨.same _,.same _,trivial⟩ rfl rfl (.one rfl) (fun hw1 => (GOk.fr (fr':=[(23,(.eref 1000 (Int.toNat (IntKind.i64.wrap ((((X ++ [g]) ++ [f]).length:Int) - 1))) 0))]) ⟨DLe.of_eq (cT hw1).symm,trivial⟩ (VOk.g (VOk.to (VOk.fieldE rfl Tryz.underlying117 rfl sz9 rfl rfl) rfl)))) ?_
  refine TxtE.consI rfl ⟨.same _,.same _,trivial⟩ rfl rfl (.one rfl) (fun hw1 => (GOk.fr (fr':=[(24,(.eref 1000 (Int.toNat (IntKind.i64.wrap ((((X ++ [g]) ++ [f]).length:Int) - 1))) 0))]) ⟨DLe.of_eq (cT hw1).symm,trivial⟩ (VOk.g (VOk.loadE (d:=(S ((rd ((X ++ [g]) ++ [f]) (IntKind.i64.wrap ((((X ++ [g]) ++ [f]).length:Int) - 1))).Tag_))) rfl Tryz.underlying9 rfl rfl rfl (row_rd (c2 hw1)) rfl)))) ?_
  refine TxtE.consI rfl ⟨.same _,.same _,trivial⟩ rfl rfl (.one rfl) (fun hw1 => (VOk.g (VOk.mv (d:=(S a1)) rfl rfl))) ?_
  refine TxtE.consI rfl ⟨.same _,.same _,.same _,trivial⟩ rfl rfl (.one rfl) (fun hw1 => (GOk.fr (fr':=[(25,(S ((rd ((X ++ [g]) ++ [f]) (IntKind.i64.wrap ((((X ++ [g]) ++ [f]).length:Int) - 1))).Tag_))),(26,(S a1))]) ⟨DLe.of_eq (cT hw1).symm,DLe.of_eq (cT hw1).symm,trivial⟩ (VOk.g (VOk.strOp (op:=.neq) (a:=(rd ((X ++ [g]) ++ [f]) (IntKind.i64.wrap ((((X ++ [g]) ++ [f]).length:Int) - 1))).Tag_) (b:=a1) rfl rfl rfl rfl)))) ?_
  refine TxtE.cons rfl ⟨.same _,.same _,trivial⟩ rfl (VOk.g (VOk.to (VOk.pickI (b:=((((X ++ [g]) ++ [f]).length:Int) == 0)) (p:=true) (q:=(!(((rd ((X ++ [g]) ++ [f]) (IntKind.i64.wrap ((((X ++ [g]) ++ [f]).length:Int) - 1))).Tag_) == a1))) rfl rfl (fun hp3 => rfl) (fun hp3 => (cT (f_beq hp3)))) (pickOr ((((X ++ [g]) ++ [f]).length:Int) == 0) (!(((rd ((X ++ [g]) ++ [f]) (IntKind.i64.wrap ((((X ++ [g]) ++ [f]).length:Int) - 1))).Tag_) == a1))))) ?_
  exact .done (.rf rfl rfl)
 refine Ok.condF (congrArg (fun b => D.v (.bool b)) hF) ?_
 refine Ok.skip ?_
 refine Ok.seq ?_
 have hrow:(((X ++ [g]) ++ [f]).map e_tree_frame)[((X ++ [g]).length:Int).toNat]? =some (e_tree_frame f):=by simp
 refine Ok.drawE2 (σ':=⟨[(0,(.bref 0 0)),(5,(.bref 5 0))],[(0,bxB b root done nodes),(5,(.box .ex (e_raw_api_Node f.N_))),(1000,rwB ((X ++ [g]) ++ [f])),(1001,pnB f.N_.Kids ks),(1002,pnB g.N_.Kids kg)]⟩)
  [⟨true,[(0,(.bref 0 0))],[],(.bref 0 0),[],false,[]⟩,
   ⟨true,[(29,(.bref 0 0))],[(0,bxB b root done nodes)],(.bref 0 0),[],false,[]⟩,
   ⟨true,[(30,(.bref 0 0))],[(0,bxB b root done nodes)],(.bref 0 0),[],false,[]⟩,
   ⟨true,[(31,(.bref 0 0))],[(0,bxB b root done nodes)],(.sref 1000),[],false,[]⟩,
   ⟨true,[(0,(.bref 0 0))],[],(.bref 0 0),[],false,[]⟩,
   ⟨true,[(33,(.bref 0 0))],[(0,bxB b root done nodes)],(.bref 0 0),[],false,[]⟩,
   ⟨true,[(34,(.bref 0 0))],[(0,bxB b root done nodes)],(.bref 0 0),[],false,[]⟩,
   ⟨true,[(35,(.bref 0 0))],[(0,bxB b root done nodes)],(.sref 1000),[],false,[]⟩,
   ⟨true,[(36,(.sref 1000))],[(1000,rwB ((X ++ [g]) ++ [f]))],(.v (.int .i64 (((X ++ [g]) ++ [f]).length:Int))),[],false,[]⟩,
   ⟨true,[(37,(.v (.int .i64 (((X ++ [g]) ++ [f]).length:Int))))],[],(.v (.int .i64 ((X ++ [g]).length:Int))),[],false,[]⟩,
   ⟨true,[(32,(.sref 1000)),(38,(.v (.int .i64 ((X ++ [g]).length:Int))))],[(1000,rwB ((X ++ [g]) ++ [f]))],(.eref 1000 ((X ++ [g]).length:Int).toNat 0),[],false,[]⟩,
   ⟨true,[(39,(.eref 1000 ((X ++ [g]).length:Int).toNat 0))],[(1000,rwB ((X ++ [g]) ++ [f]))],(.eref 1000 ((X ++ [g]).length:Int).toNat 2),[],false,[]⟩,
   ⟨true,[(40,(.eref 1000 ((X ++ [g]).length:Int).toNat 2))],[(1000,rwB ((X ++ [g]) ++ [f]))],(.agg (e_raw_api_Node f.N_)),[],false,[]⟩,
   ⟨true,[],[],(.bref 5 0),[(5,bx0)],true,[]⟩,
   ⟨true,[(5,(.bref 5 0)),(41,(.agg (e_raw_api_Node f.N_)))],[(5,bx0)],.junk,[(5,(.box .ex (e_raw_api_Node f.N_)))],false,[]⟩]
  [[],[0],[1],[2],[],[4],[5],[6],[7],[8],[3,9],[10],[11],[],[12,13]] mixed (by kernel_rfl) ?_ ?_
 ·refine TxtE2.cons ⟨.same _,trivial⟩ trivial (It2.val rfl rfl (fun T hT => (VOk.g (VOk.mv (d:=(.bref 0 0)) rfl rfl)))) ?_
  refine TxtE2.cons ⟨.same _,trivial⟩ ⟨rfl,trivial⟩ (It2.val rfl rfl (fun T hT => (VOk.g (VOk.nilCheckB rfl rfl hT.1)))) ?_
  refine TxtE2.cons ⟨.same _,trivial⟩ ⟨rfl,trivial⟩ (It2.val rfl rfl (fun T hT => (VOk.g (VOk.to (VOk.fieldB rfl Tryz.underlying75 rfl sz73 rfl hT.1) rfl)))) ?_
  refine TxtE2.cons ⟨.same _,trivial⟩ ⟨rfl,trivial⟩ (It2.val rfl rfl (fun T hT => (VOk.g (VOk.loadB (d:=(.sref 1000)) rfl Tryz.underlying73 rfl rfl hT.1 rfl)))) ?_
  refine TxtE2.cons ⟨.same _,trivial⟩ trivial (It2.val rfl rfl (fun T hT => (VOk.g (VOk.mv (d:=(.bref 0 0)) rfl rfl)))) ?_
  refine TxtE2.cons ⟨.same _,trivial⟩ ⟨rfl,trivial⟩ (It2.val rfl rfl (fun T hT => (VOk.g (VOk.nilCheckB rfl rfl hT.1)))) ?_
  refine TxtE2.cons ⟨.same _,trivial⟩ ⟨rfl,trivial⟩ (It2.val rfl rfl (fun T hT => (VOk.g (VOk.to (VOk.fieldB rfl Tryz.underlying75 rfl sz73 rfl hT.1) rfl)))) ?_
  refine TxtE2.cons ⟨.same _,trivial⟩ ⟨rfl,trivial⟩ (It2.val rfl rfl (fun T hT => (VOk.g (VOk.loadB (d:=(.sref 1000)) rfl Tryz.underlying73 rfl rfl hT.1 rfl)))) ?_
  refine TxtE2.cons ⟨.same _,trivial⟩ ⟨rfl,trivial⟩ (It2.val rfl rfl (fun T hT => (VOk.g (VOk.lenTL (e:=e_tree_frame) (xs:=((X ++ [g]) ++ [f])) rfl Tryz.underlying73 rfl hT.1)))) ?_
  refine TxtE2.cons ⟨.same _,trivial⟩ trivial (It2.val rfl rfl (fun T hT => (VOk.g (VOk.to (d':=(.v (.int .i64 ((X ++ [g]).length:Int)))) (VOk.arith (op:=.sub) (k:=.i64) (a:=(((X ++ [g]) ++ [f]).length:Int)) (b:=1) rfl rfl rfl rfl) (congrArg (fun b => D.v (.int .i64 b)) (wr_last _ f hY)))))) ?_
  refine TxtE2.cons ⟨.same _,.same _,trivial⟩ ⟨rfl,trivial⟩ (It2.val rfl rfl (fun T hT => (VOk.g (VOk.indexTL (e:=e_tree_frame) (xs:=((X ++ [g]) ++ [f])) (i:=((X ++ [g]).length:Int)) rfl Tryz.underlying73 sz117 rfl hT.1 rfl (ix_last _ f))))) ?_
  refine TxtE2.cons ⟨.same _,trivial⟩ ⟨rfl,trivial⟩ (It2.val rfl rfl (fun T hT => (VOk.g (VOk.to (VOk.fieldE rfl Tryz.underlying117 rfl sz28 rfl hT.1) rfl)))) ?_
  refine TxtE2.cons ⟨.same _,trivial⟩ ⟨rfl,trivial⟩ (It2.val rfl rfl (fun T hT => (VOk.g (VOk.to (d':=(.agg (e_raw_api_Node f.N_))) (.loadEAgg rfl Tryz.underlying28 rfl sz28 rfl hT.1 hrow rfl) rfl)))) ?_
  refine TxtE2.cons trivial trivial (It2.alloc 5 [none,none,none,some 3,some 6,none] rfl rfl zo28 rfl rfl) ?_
  refine TxtE2.cons ⟨.same _,.same _,trivial⟩ ⟨rfl,trivial⟩ (It2.store rfl rfl sz28 rfl rfl rfl rfl rfl rfl rfl rfl) ?_
  exact .done (.rf rfl rfl)
 refine Ok.seq ?_
 refine Ok.drawE2 (σ':=⟨[(0,(.bref 0 0)),(5,(.bref 5 0))],[(0,bxB b root done nodes),(5,(.box .ex (e_raw_api_Node f.N_))),(1000,rwB (X ++ [g])),(1001,pnB f.N_.Kids ks),(1002,pnB g.N_.Kids kg)]⟩)
  [⟨true,[(0,(.bref 0 0))],[],(.bref 0 0),[],false,[]⟩,
   ⟨true,[(0,(.bref 0 0))],[],(.bref 0 0),[],false,[]⟩,
   ⟨true,[(43,(.bref 0 0))],[(0,bxB b root done nodes)],(.bref 0 0),[],false,[]⟩,
   ⟨true,[(44,(.bref 0 0))],[(0,bxB b root done nodes)],(.bref 0 0),[],false,[]⟩,
   ⟨true,[(45,(.bref 0 0))],[(0,bxB b root done nodes)],(.sref 1000),[],false,[]⟩,
   ⟨true,[(0,(.bref 0 0))],[],(.bref 0 0),[],false,[]⟩,
   ⟨true,[(47,(.bref 0 0))],[(0,bxB b root done nodes)],(.bref 0 0),[],false,[]⟩,
   ⟨true,[(48,(.bref 0 0))],[(0,bxB b root done nodes)],(.bref 0 0),[],false,[]⟩,
   ⟨true,[(49,(.bref 0 0))],[(0,bxB b root done nodes)],(.sref 1000),[],false,[]⟩,
   ⟨true,[(50,(.sref 1000))],[(1000,rwB ((X ++ [g]) ++ [f]))],(.v (.int .i64 (((X ++ [g]) ++ [f]).length:Int))),[],false,[]⟩,
   ⟨true,[(51,(.v (.int .i64 (((X ++ [g]) ++ [f]).length:Int))))],[],(.v (.int .i64 ((X ++ [g]).length:Int))),[],false,[]⟩,
   ⟨true,[(46,(.sref 1000)),(52,(.v (.int .i64 ((X ++ [g]).length:Int))))],[(1000,rwB ((X ++ [g]) ++ [f]))],(.sref 53),[(53,rwB (X ++ [g])),(1000,.none)],true,[]⟩,
   ⟨true,[(42,(.bref 0 0))],[(0,bxB b root done nodes)],(.bref 0 0),[],false,[]⟩,
   ⟨true,[(54,(.bref 0 0))],[(0,bxB b root done nodes)],(.bref 0 0),[],false,[]⟩,
   ⟨true,[(55,(.bref 0 0)),(53,(.sref 53))],[(0,bxB b root done nodes)],.junk,[(0,(.box (.at b) [(.sref 53),(.v (.int .i64 root.Kind)),(S root.Name.Space),(S root.Name.Local),(L 3 e_api_Attr root.Attrs),(L 6 e_api_Node root.Kids),(S root.Text),(.v (.bool done)),(.v (.int .i64 nodes))]))],false,[]⟩]
  [[],[],[1],[2],[3],[],[5],[6],[7],[8],[9],[4,9,10],[0],[12],[2,3,4,6,7,8,11,12,13]] mixed (by kernel_rfl) ?_ ?_
 ·refine TxtE2.cons ⟨.same _,trivial⟩ trivial (It2.val rfl rfl (fun T hT => (VOk.g (VOk.mv (d:=(.bref 0 0)) rfl rfl)))) ?_
  refine TxtE2.cons ⟨.same _,trivial⟩ trivial (It2.val rfl rfl (fun T hT => (VOk.g (VOk.mv (d:=(.bref 0 0)) rfl rfl)))) ?_
  refine TxtE2.cons ⟨.same _,trivial⟩ ⟨rfl,trivial⟩ (It2.val rfl rfl (fun T hT => (VOk.g (VOk.nilCheckB rfl rfl hT.1)))) ?_
  refine TxtE2.cons ⟨.same _,trivial⟩ ⟨rfl,trivial⟩ (It2.val rfl rfl (fun T hT => (VOk.g (VOk.to (VOk.fieldB rfl Tryz.underlying75 rfl sz73 rfl hT.1) rfl)))) ?_
  refine TxtE2.cons ⟨.same _,trivial⟩ ⟨rfl,trivial⟩ (It2.val rfl rfl (fun T hT => (VOk.g (VOk.loadB (d:=(.sref 1000)) rfl Tryz.underlying73 rfl rfl hT.1 rfl)))) ?_
  refine TxtE2.cons ⟨.same _,trivial⟩ trivial (It2.val rfl rfl (fun T hT => (VOk.g (VOk.mv (d:=(.bref 0 0)) rfl rfl)))) ?_
  refine TxtE2.cons ⟨.same _,trivial⟩ ⟨rfl,trivial⟩ (It2.val rfl rfl (fun T hT => (VOk.g (VOk.nilCheckB rfl rfl hT.1)))) ?_
  refine TxtE2.cons ⟨.same _,trivial⟩ ⟨rfl,trivial⟩ (It2.val rfl rfl (fun T hT => (VOk.g (VOk.to (VOk.fieldB rfl Tryz.underlying75 rfl sz73 rfl hT.1) rfl)))) ?_
  refine TxtE2.cons ⟨.same _,trivial⟩ ⟨rfl,trivial⟩ (It2.val rfl rfl (fun T hT => (VOk.g (VOk.loadB (d:=(.sref 1000)) rfl Tryz.underlying73 rfl rfl hT.1 rfl)))) ?_
  refine TxtE2.cons ⟨.same _,trivial⟩ ⟨rfl,trivial⟩ (It2.val rfl rfl (fun T hT => (VOk.g (VOk.lenTL (e:=e_tree_frame) (xs:=((X ++ [g]) ++ [f])) rfl Tryz.underlying73 rfl hT.1)))) ?_
  refine TxtE2.cons ⟨.same _,trivial⟩ trivial (It2.val rfl rfl (fun T hT => (VOk.g (VOk.to (d':=(.v (.int .i64 ((X ++ [g]).length:Int)))) (VOk.arith (op:=.sub) (k:=.i64) (a:=(((X ++ [g]) ++ [f]).length:Int)) (b:=1) rfl rfl rfl rfl) (congrArg (fun b => D.v (.int .i64 b)) (wr_last _ f hY)))))) ?_
  refine TxtE2.cons ⟨.same _,.same _,trivial⟩ ⟨rfl,trivial⟩ (It2.cutL (e:=e_tree_frame) (xs:=((X ++ [g]) ++ [f])) (ys:=(X ++ [g])) (m:=(X ++ [g]).length) 53 rfl rfl Tryz.underlying73 sz117 rfl rfl rfl rfl (by simp) (List.take_left' rfl) rfl rfl) ?_
  refine TxtE2.cons ⟨.same _,trivial⟩ ⟨rfl,trivial⟩ (It2.val rfl rfl (fun T hT => (VOk.g (VOk.nilCheckB rfl rfl hT.1)))) ?_
  refine TxtE2.cons ⟨.same _,trivial⟩ ⟨rfl,trivial⟩ (It2.val rfl rfl (fun T hT => (VOk.g (VOk.to (VOk.fieldB rfl Tryz.underlying75 rfl sz73 rfl hT.1) rfl)))) ?_
  refine TxtE2.cons ⟨.same _,.same _,trivial⟩ ⟨rfl,trivial⟩ (It2.store rfl rfl sz73 rfl rfl rfl rfl rfl rfl rfl rfl) ?_
  exact .doneS (SLe.trans (Le.s (.rf rfl rfl)) (SLe.ren 53 1000 rfl rfl))
 refine Ok.seq ?_
 refine Ok.regionC ?_
 refine OpsC.cons rfl (OpOk.v (VOk.mv (d:=(.bref 0 0)) rfl rfl) rfl) ?_
 refine OpsC.cons rfl (OpOk.v (VOk.to (d':=(.agg (e_raw_api_Node f.N_))) (.loadBAgg rfl Tryz.underlying28 rfl sz28 rfl rfl rfl) rfl) rfl) ?_
 refine OpsC.sle (σ':=⟨[(56,(.bref 0 0)),(57,(.agg [(.v (.int .i64 f.N_.Kind)),(S f.N_.Name.Space),(S f.N_.Name.Local),(L 3 e_api_Attr f.N_.Attrs),(.sref 1001),(S f.N_.Text)]))],[(0,bxB b root done nodes),(1000,rwB (X ++ [g])),(1001,(.rows true 28 6 (ks.map e_api_Node))),(1002,pnB g.N_.Kids kg)]⟩) (SLe.trans (Le.s (.rf rfl rfl)) (SLe.trans (SLe.unpin 1001 rfl) (SLe.vref 57 4 1001 rfl rfl rfl))) ?_
 refine OpsC.frzL 1001 (e:=e_api_Node) (xs:=ks) rfl ?_
 refine OpsC.cut (σ:=⟨[(56,(.bref 0 0)),(57,(.agg (c_api_Node (nodeOf f ks))))],[(0,bxB b root done nodes),(1000,rwB (X ++ [g])),(1001,.none),(1002,pnB g.N_.Kids kg)]⟩) (.rf rfl rfl) ?_
 refine OpsC.consX rfl (OpX.callG (T1:=[(0,bxB b root done nodes),(1000,rwB (X ++ [g])),(1001,pnB g.N_.Kids kg)]) (Res:=fun r T' => ∃ s,r=.tup [] ∧ T'=[(0,bxB b root done nodes),(1000,rwB (X ++ [fk g s])),(1001,pnB s (kg ++ [nodeOf f ks]))]) [(0,0),(1000,1000),(1001,1002)] false rfl rfl cl76 (fun bs => (add1 (n:=nodeOf f ks) (X:=X) (f:=g) (ks:=kg) (by omega) hk (bs 0)).mono fun r T' ⟨s,h1,h2⟩ =>⟨_,⟨s,h1,rfl⟩,h2⟩) ⟨.same _,.same _,trivial⟩ rfl rfl (fun r T' ⟨s,h1,h2⟩ => by rw [h1,h2]; rfl) (fun _ _ _ h => nomatch h) rfl) ?_
 rintro σ1 ⟨r,T1',⟨s,rfl,rfl⟩,rfl⟩
 refine OpsC.done (σ':=⟨[],[(0,bxB b root done nodes),(1000,rwB (X ++ [fk g s])),(1001,.none),(1002,pnB s (kg ++ [nodeOf f ks]))]⟩) (.rf rfl rfl) ?_
 refine Ok.seq ?_
 refine .rg [(4,(.v (.int .i64 0)))] [(0,bxB b root done nodes),(1000,rwB (X ++ [fk g s])),(1001,.none),(1002,pnB s (kg ++ [nodeOf f ks]))] ?_
 refine Ok.ret ?_
 exact⟨.inl rfl,_,_,⟨s,rfl,rfl⟩,⟨_,(.cons (.tmp rfl) .nil),rfl⟩,⟨.same _,.same _,.same _,.same _,trivial⟩⟩
theorem text1 {a1:Str} {X:List T_tree_frame} {f:T_tree_frame} {root:T_api_Node} {done:Bool} {nodes:Int} (h1:(a1 == ([]:Str))=false) (hn:decide (IntKind.i64.wrap (nodes + 1) ≤ 2000)=true) (hX:X.length < 3000000000) (b:Nat) :
  Vx.FnX Tryz.prog 54 [(.bref 0 0),(S a1)] [(0,bxB b root done nodes),(1000,rwB (X ++ [f])),(1001,pnB f.N_.Kids [])] fun r T' => ∃ s,r=.v (.int .i64 0) ∧ T'=[(0,bxB b root done (IntKind.i64.wrap (nodes + 1))),(1000,rwB (X ++ [fk f s])),(1001,pnB s [(T_api_Node.mk 2 (T_api_Name.mk [] []) [] [] a1)])]:=by
 have hY:X.length < 4000000000:=by omega
 refine FnX.of_okR Tryz.func54 rfl (Nat.le_of_ble_eq_true rfl) ?_
 refine Ok.seq ?_
 refine .rg [(0,(.bref 0 0)),(1,(S a1))] [(0,bxB b root done nodes),(1000,rwB (X ++ [f])),(1001,pnB f.N_.Kids [])] ?_
 refine Ok.seq ?_
 refine Ok.seq ?_
 refine Ok.region (σ':=⟨[(0,(.bref 0 0)),(1,(S a1)),(11,(.v (.bool false)))],[(0,bxB b root done nodes),(1000,rwB (X ++ [f])),(1001,pnB f.N_.Kids [])]⟩) ?_ ?_
 ·refine .rn 4 ?_
  refine .cv (VOk.lenTL (e:=e_tree_frame) (xs:=X ++ [f]) rfl Tryz.underlying73 rfl rfl) rfl rfl ?_
  refine .cv (VOk.to (d':=(.v (.bool false))) (VOk.arith (op:=.eql) (k:=.i64) (a:=((X ++ [f]).length:Int)) (b:=0) rfl rfl rfl rfl) (congrArg (fun b => D.v (.bool b)) (ne_last X f))) rfl rfl ?_
  exact .dn
 refine Ok.condF rfl ?_
 refine Ok.skip ?_
 refine Ok.seq ?_
 have hrow:((X ++ [f]).map e_tree_frame)[(X.length:Int).toNat]? =some (e_tree_frame f):=by simp
 refine Ok.drawE (σ':=⟨[(0,(.bref 0 0)),(1,(S a1)),(5,(.v f.N_.Kids))],[(0,bxB b root done nodes),(1000,rwB (X ++ [f])),(1001,pnB f.N_.Kids [])]⟩)
  [⟨true,[(0,(.bref 0 0))],(.bref 0 0)⟩,⟨true,[(15,(.bref 0 0))],(.bref 0 0)⟩,⟨true,[(16,(.bref 0 0))],(.bref 0 0)⟩,⟨true,[(17,(.bref 0 0))],(.sref 1000)⟩,⟨true,[(0,(.bref 0 0))],(.bref 0 0)⟩,⟨true,[(19,(.bref 0 0))],(.bref 0 0)⟩,⟨true,[(20,(.bref 0 0))],(.bref 0 0)⟩,⟨true,[(21,(.bref 0 0))],(.sref 1000)⟩,⟨true,[(22,(.sref 1000))],(.v (.int .i64 ((X ++ [f]).length:Int)))⟩,⟨true,[(23,(.v (.int .i64 ((X ++ [f]).length:Int))))],(.v (.int .i64 (X.length:Int)))⟩,⟨true,[(18,(.sref 1000)),(24,(.v (.int .i64 (X.length:Int))))],(.eref 1000 (X.length:Int).toNat 0)⟩,⟨true,[(25,(.eref 1000 (X.length:Int).toNat 0))],(.eref 1000 (X.length:Int).toNat 2)⟩,⟨true,[(26,(.eref 1000 (X.length:Int).toNat 2))],(.eref 1000 (X.length:Int).toNat 6)⟩,⟨true,[(27,(.eref 1000 (X.length:Int).toNat 6))],(.v f.N_.Kids)⟩,⟨true,[(28,(.v f.N_.Kids))],(.v f.N_.Kids)⟩]
  [[],[0],[1],[2],[],[4],[5],[6],[7],[8],[3,9],[10],[11],[12],[13]] mixed (by kernel_rfl) ?_ ?_
 ·refine TxtE.cons rfl ⟨.same _,trivial⟩ rfl (VOk.g (VOk.mv (d:=(.bref 0 0)) rfl rfl)) ?_
  refine TxtE.cons rfl ⟨.same _,trivial⟩ rfl (VOk.g (VOk.nilCheckB rfl rfl rfl)) ?_
  refine TxtE.cons rfl ⟨.same _,trivial⟩ rfl (VOk.g (VOk.to (VOk.fieldB rfl Tryz.underlying75 rfl sz73 rfl rfl) rfl)) ?_
  refine TxtE.cons rfl ⟨.same _,trivial⟩ rfl (VOk.g (VOk.loadB (d:=(.sref 1000)) rfl Tryz.underlying73 rfl rfl rfl rfl)) ?_
  refine TxtE.cons rfl ⟨.same _,trivial⟩ rfl (VOk.g (VOk.mv (d:=(.bref 0 0)) rfl rfl)) ?_
  refine TxtE.cons rfl ⟨.same _,trivial⟩ rfl (VOk.g (VOk.nilCheckB rfl rfl rfl)) ?_
  refine TxtE.cons rfl ⟨.same _,trivial⟩ rfl (VOk.g (VOk.to (VOk.fieldB rfl Tryz.underlying75 rfl sz73 rfl rfl) rfl)) ?_
  refine TxtE.cons rfl ⟨.same _,trivial⟩ rfl (VOk.g (VOk.loadB (d:=(.sref 1000)) rfl Tryz.underlying73 rfl rfl rfl rfl)) ?_
  refine TxtE.cons rfl ⟨.same _,trivial⟩ rfl (VOk.g (VOk.lenTL (e:=e_tree_frame) (xs:=X ++ [f]) rfl Tryz.underlying73 rfl rfl)) ?_
  refine TxtE.cons rfl ⟨.same _,trivial⟩ rfl (VOk.g (VOk.to (d':=(.v (.int .i64 (X.length:Int)))) (VOk.arith (op:=.sub) (k:=.i64) (a:=((X ++ [f]).length:Int)) (b:=1) rfl rfl rfl rfl) (congrArg (fun b => D.v (.int .i64 b)) (wr_last X f hY)))) ?_
  refine TxtE.cons rfl ⟨.same _,.same _,trivial⟩ rfl (VOk.g (VOk.indexTL (e:=e_tree_frame) (xs:=X ++ [f]) (i:=(X.length:Int)) rfl Tryz.underlying73 sz117 rfl rfl rfl (ix_last X f))) ?_
  refine TxtE.cons rfl ⟨.same _,trivial⟩ rfl (VOk.g (VOk.to (VOk.fieldE rfl Tryz.underlying117 rfl sz28 rfl rfl) rfl)) ?_
  refine TxtE.cons rfl ⟨.same _,trivial⟩ rfl (VOk.g (VOk.to (VOk.fieldE rfl Tryz.underlying28 rfl sz26 rfl rfl) rfl)) ?_
  refine TxtE.cons rfl ⟨.same _,trivial⟩ rfl (VOk.g (VOk.loadE (d:=(.v f.N_.Kids)) rfl Tryz.underlying26 rfl rfl rfl hrow rfl)) ?_
  refine TxtE.cons rfl ⟨.same _,trivial⟩ rfl (VOk.g (VOk.asg (d:=(.v f.N_.Kids)) rfl rfl)) ?_
  exact .done (.rf rfl rfl)
 refine Ok.seq ?_
 refine Ok.block ?_
 refine Ok.seq ?_
 refine Ok.region (σ':=⟨[(0,(.bref 0 0)),(1,(S a1)),(5,(.v f.N_.Kids)),(33,(.v (.bool false)))],[(0,bxB b root done nodes),(1000,rwB (X ++ [f])),(1001,pnB f.N_.Kids [])]⟩) ?_ ?_
 ·refine .rn 1 ?_
  refine .cv (VOk.to (d':=(.v (.bool false))) (VOk.strOp (op:=.eql) (a:=a1) (b:=([]:Str)) rfl rfl rfl rfl) (congrArg (fun b => D.v (.bool b)) h1)) rfl rfl ?_
  refine .rn 1 ?_
  exact .dn
 refine Ok.condF rfl ?_
 refine Ok.seq ?_
 refine Ok.region (σ':=⟨[(0,(.bref 0 0)),(1,(S a1)),(5,(.v f.N_.Kids)),(36,(.v (.bool false)))],[(0,bxB b root done nodes),(1000,rwB (X ++ [f])),(1001,pnB f.N_.Kids [])]⟩) ?_ ?_
 ·refine .rn 1 ?_
  refine .cv (VOk.lenPL (e:=e_api_Node) (xs:=[]) (t:=1001) rfl Tryz.underlying26 rfl rfl) rfl rfl ?_
  refine .rn 2 ?_
  refine OpsOk.consN rfl rfl (Nat.le_of_ble_eq_true rfl) rfl (dstB_lt rfl) ?_
  refine OpsOk.consN rfl rfl (Nat.le_of_ble_eq_true rfl) rfl (dstB_lt rfl) ?_
  refine OpsOk.consN rfl rfl (Nat.le_of_ble_eq_true rfl) rfl (dstB_lt rfl) ?_
  refine OpsOk.consN rfl rfl (Nat.le_of_ble_eq_true rfl) rfl (dstB_lt rfl) ?_
  refine OpsOk.consN rfl rfl (Nat.le_of_ble_eq_true rfl) rfl (dstB_lt rfl) ?_
  refine OpsOk.consN rfl rfl (Nat.le_of_ble_eq_true rfl) rfl (dstB_lt rfl) ?_
  refine OpsOk.consN rfl rfl (Nat.le_of_ble_eq_true rfl) rfl (dstB_lt rfl) ?_
  refine OpsOk.consN rfl rfl (Nat.le_of_ble_eq_true rfl) rfl (dstB_lt rfl) ?_
  refine .cv (VOk.pickF (b:=false) (d:=(.v (.bool false))) rfl rfl rfl rfl) rfl rfl ?_
  refine .rn 1 ?_
  exact .dn
 refine Ok.condF rfl ?_
 refine Ok.seq ?_
 refine Ok.region (σ':=⟨[(0,(.bref 0 0)),(1,(S a1)),(61,(.v (.bool false)))],[(0,bxB b root done (IntKind.i64.wrap (nodes + 1))),(1000,rwB (X ++ [f])),(1001,pnB f.N_.Kids [])]⟩) ?_ ?_
 ·refine .rn 1 ?_
  refine OpsOk.cons rfl (OpOk.callT (e:=(.at b)) 0 1000 924 rfl rfl cl71 (fun b => ((tree_builder_count.ok (a0:=T_tree_builder.mk (X ++ [f]) root done nodes) rfl) b)) rfl rfl rfl rfl rfl rfl rfl rfl) ?_
  refine .cv (VOk.to (d':=(.v (.bool false))) (VOk.not (b:=decide (IntKind.i64.wrap (nodes + 1) ≤ 2000)) rfl rfl) (by rw [hn]; rfl)) rfl rfl ?_
  refine .rn 1 ?_
  exact .dn
 refine Ok.condF rfl ?_
 refine Ok.regionC ?_
 refine OpsC.cons rfl (OpOk.v (VOk.mv (d:=(.bref 0 0)) rfl rfl) rfl) ?_
 refine OpsC.cons rfl (OpOk.v (VOk.mv (d:=(S a1)) rfl rfl) rfl) ?_
 refine OpsC.cons rfl (OpOk.v (VOk.to (d':=(.agg (c_api_Node (T_api_Node.mk 2 (T_api_Name.mk [] []) [] [] a1)))) (.build [none,none,none,some 3,some 6,none] [(0,1),(1,2),(3,1),(4,1),(5,1)] rfl Tryz.underlying28 (fa28 Tryz.underlying28) zo28 rfl rfl) rfl) rfl) ?_
 refine OpsC.consX rfl (OpX.callG (T1:=[(0,bxB b root done (IntKind.i64.wrap (nodes + 1))),(1000,rwB (X ++ [f])),(1001,pnB f.N_.Kids [])]) (Res:=fun r T' => ∃ s,r=.tup [] ∧ T'=[(0,bxB b root done (IntKind.i64.wrap (nodes + 1))),(1000,rwB (X ++ [fk f s])),(1001,pnB s [(T_api_Node.mk 2 (T_api_Name.mk [] []) [] [] a1)])]) [(0,0),(1000,1000),(1001,1001)] false rfl rfl cl76 (fun bs => (add1 (n:=(T_api_Node.mk 2 (T_api_Name.mk [] []) [] [] a1)) (X:=X) (f:=f) (ks:=[]) hY (by decide) (bs 0)).mono fun r T' ⟨s,h1,h2⟩ =>⟨_,⟨s,h1,rfl⟩,h2⟩) ⟨.same _,.same _,trivial⟩ rfl rfl (fun r T' ⟨s,h1,h2⟩ => by rw [h1,h2]; rfl) (fun _ _ _ h => nomatch h) rfl) ?_
 rintro σ1 ⟨r,T1',⟨s,rfl,rfl⟩,rfl⟩
 refine OpsC.done (σ':=⟨[],[(0,bxB b root done (IntKind.i64.wrap (nodes + 1))),(1000,rwB (X ++ [fk f s])),(1001,pnB s [(T_api_Node.mk 2 (T_api_Name.mk [] []) [] [] a1)])]⟩) (.rf rfl rfl) ?_
 refine Ok.seq ?_
 refine .rg [(4,(.v (.int .i64 0)))] [(0,bxB b root done (IntKind.i64.wrap (nodes + 1))),(1000,rwB (X ++ [fk f s])),(1001,pnB s [(T_api_Node.mk 2 (T_api_Name.mk [] []) [] [] a1)])] ?_
 refine Ok.ret ?_
 exact⟨.inl rfl,_,_,⟨s,rfl,rfl⟩,⟨_,(.cons (.tmp rfl) .nil),rfl⟩,⟨.same _,.same _,.same _,trivial⟩⟩
theorem tokS {k:Nat} {fs fs':List T_tree_frame} {at_:Int} {nm tx:Str} {rs:List T_api_Raw} {root:T_api_Node} {done:Bool} {nodes:Int} {root':T_api_Node} {done':Bool} {nodes':Int} (H:tree_builder_start k (T_tree_builder.mk fs root done nodes) (T_api_Token.mk 1 at_ nm rs tx)=some (0,T_tree_builder.mk fs' root' done' nodes')) (b:Nat) :
  Vx.FnX Tryz.prog 38 [(.bref 0 0),(.agg (e_api_Token (T_api_Token.mk 1 at_ nm rs tx)))] [(0,bxB b root done nodes),(1000,rwB fs)] fun r T' => r=.v (.int .i64 0) ∧ T'=[(0,bxB b root' done' nodes'),(1000,rwB fs')]:=by
 refine FnX.of_okR Tryz.func38 rfl (Nat.le_of_ble_eq_true rfl) ?_
 refine Ok.seq ?_
 refine .rg [(0,(.bref 0 0)),(3,(.bref 3 0))] [(0,bxB b root done nodes),(3,(.box .ex (c_api_Token (T_api_Token.mk 1 at_ nm rs tx)))),(1000,rwB fs)] ?_
 refine Ok.seq ?_
 refine Ok.seq ?_
 refine .rg [(0,(.bref 0 0)),(3,(.bref 3 0)),(7,(.v (.int .i64 1)))] [(0,bxB b root done nodes),(3,(.box .ex (c_api_Token (T_api_Token.mk 1 at_ nm rs tx)))),(1000,rwB fs)] ?_
 refine Ok.block ?_
 refine Ok.seq ?_
 refine .rg [(0,(.bref 0 0)),(3,(.bref 3 0)),(7,(.v (.int .i64 1))),(8,(.v (.bool true)))] [(0,bxB b root done nodes),(3,(.box .ex (c_api_Token (T_api_Token.mk 1 at_ nm rs tx)))),(1000,rwB fs)] ?_
 refine Ok.condT rfl ?_
 refine Ok.seq ?_
 refine Ok.region (σ':=⟨[(4,(.v (.int .i64 0)))],[(0,bxB b root' done' nodes'),(1000,rwB fs')]⟩) ?_ ?_
 ·refine .rn 2 ?_
  refine OpsOk.cons rfl (OpOk.callT (e:=(.at b)) 0 1000 912 rfl rfl cl52 (fun b => tree_builder_start.ok H b) rfl rfl rfl rfl rfl rfl rfl rfl) ?_
  refine .rn 1 ?_
  exact .dn
 refine Ok.ret ?_
 exact⟨.inl rfl,_,_,⟨rfl,rfl⟩,⟨_,(.cons (.tmp rfl) .nil),rfl⟩,⟨.same _,.same _,trivial⟩⟩
theorem tokE0 {Y:List T_tree_frame} {f:T_tree_frame} {ks:List T_api_Node} {at_:Int} {nm tx:Str} {rs:List T_api_Raw} {root:T_api_Node} {done:Bool} {nodes:Int} (ht:f.Tag_=nm) (hY:Y=[]) (b:Nat) :
  Vx.FnX Tryz.prog 38 [(.bref 0 0),(.agg (e_api_Token (T_api_Token.mk 2 at_ nm rs tx)))] [(0,bxB b root done nodes),(1000,rwB (Y ++ [f])),(1001,pnB f.N_.Kids ks)] fun r T' => r=.v (.int .i64 0) ∧ T'=[(0,bxB b (nodeOf f ks) true nodes),(1000,rwB []),(1001,.none)]:=by
 refine FnX.of_okR Tryz.func38 rfl (Nat.le_of_ble_eq_true rfl) ?_
 refine Ok.seq ?_
 refine .rg [(0,(.bref 0 0)),(3,(.bref 3 0))] [(0,bxB b root done nodes),(3,(.box .ex (c_api_Token (T_api_Token.mk 2 at_ nm rs tx)))),(1000,rwB (Y ++ [f])),(1001,pnB f.N_.Kids ks)] ?_
 refine Ok.seq ?_
 refine Ok.seq ?_
 refine .rg [(0,(.bref 0 0)),(3,(.bref 3 0)),(7,(.v (.int .i64 2)))] [(0,bxB b root done nodes),(3,(.box .ex (c_api_Token (T_api_Token.mk 2 at_ nm rs tx)))),(1000,rwB (Y ++ [f])),(1001,pnB f.N_.Kids ks)] ?_
 refine Ok.block ?_
 refine Ok.seq ?_
 refine .rg [(0,(.bref 0 0)),(3,(.bref 3 0)),(7,(.v (.int .i64 2))),(8,(.v (.bool false)))] [(0,bxB b root done nodes),(3,(.box .ex (c_api_Token (T_api_Token.mk 2 at_ nm rs tx)))),(1000,rwB (Y ++ [f])),(1001,pnB f.N_.Kids ks)] ?_
 refine Ok.condF rfl ?_
 refine Ok.seq ?_
 refine .rg [(0,(.bref 0 0)),(3,(.bref 3 0)),(7,(.v (.int .i64 2))),(13,(.v (.bool true)))] [(0,bxB b root done nodes),(3,(.box .ex (c_api_Token (T_api_Token.mk 2 at_ nm rs tx)))),(1000,rwB (Y ++ [f])),(1001,pnB f.N_.Kids ks)] ?_
 refine Ok.condT rfl ?_
 refine Ok.seq ?_
 refine Ok.regionC ?_
 refine OpsC.cons rfl (OpOk.v (VOk.mv (d:=(.bref 0 0)) rfl rfl) rfl) ?_
 refine OpsC.cons rfl (OpOk.v (VOk.to (VOk.fieldB rfl Tryz.underlying78 rfl sz9 rfl rfl) rfl) rfl) ?_
 refine OpsC.cons rfl (OpOk.v (VOk.loadB (d:=(S nm)) rfl Tryz.underlying9 rfl rfl rfl rfl) rfl) ?_
 refine OpsC.consX rfl (OpX.callG (T1:=[(0,bxB b root done nodes),(1000,rwB (Y ++ [f])),(1001,pnB f.N_.Kids ks)]) (Res:=fun r T' => r=.v (.int .i64 0) ∧ T'=[(0,bxB b (nodeOf f ks) true nodes),(1000,rwB []),(1001,.none)]) [(0,0),(1000,1000),(1001,1001)] false rfl rfl cl53 (fun bs => (end0 (f:=f) (ks:=ks) ht hY (bs 0)).x.mono fun r T' ⟨h1,h2⟩ =>⟨_,⟨h1,rfl⟩,h2⟩) ⟨.same _,.same _,trivial⟩ rfl rfl (fun r T' ⟨h1,h2⟩ => by rw [h1,h2]; rfl) (fun _ _ _ h => nomatch h) rfl) ?_
 rintro σ1 ⟨r,T1',⟨rfl,rfl⟩,rfl⟩
 refine OpsC.cons rfl (OpOk.v (VOk.asg (d:=(.v (.int .i64 0))) rfl rfl) rfl) ?_
 refine OpsC.done (σ':=⟨[(4,(.v (.int .i64 0)))],[(0,bxB b (nodeOf f ks) true nodes),(1000,rwB []),(1001,.none)]⟩) (.rf rfl rfl) ?_
 refine Ok.ret ?_
 exact⟨.inl rfl,_,_,⟨rfl,rfl⟩,⟨_,(.cons (.tmp rfl) .nil),rfl⟩,⟨.same _,.same _,.same _,trivial⟩⟩
theorem tokE1 {X:List T_tree_frame} {f g:T_tree_frame} {ks kg:List T_api_Node} {at_:Int} {nm tx:Str} {rs:List T_api_Raw} {root:T_api_Node} {done:Bool} {nodes:Int} (ht:f.Tag_=nm) (hX:X.length < 3000000000) (hk:kg.length < 4000000000) (b:Nat) :
  Vx.FnX Tryz.prog 38 [(.bref 0 0),(.agg (e_api_Token (T_api_Token.mk 2 at_ nm rs tx)))] [(0,bxB b root done nodes),(1000,rwB ((X ++ [g]) ++ [f])),(1001,pnB f.N_.Kids ks),(1002,pnB g.N_.Kids kg)] fun r T' => ∃ s,r=.v (.int .i64 0) ∧ T'=[(0,bxB b root done nodes),(1000,rwB (X ++ [fk g s])),(1001,.none),(1002,pnB s (kg ++ [nodeOf f ks]))]:=by
 refine FnX.of_okR Tryz.func38 rfl (Nat.le_of_ble_eq_true rfl) ?_
 refine Ok.seq ?_
 refine .rg [(0,(.bref 0 0)),(3,(.bref 3 0))] [(0,bxB b root done nodes),(3,(.box .ex (c_api_Token (T_api_Token.mk 2 at_ nm rs tx)))),(1000,rwB ((X ++ [g]) ++ [f])),(1001,pnB f.N_.Kids ks),(1002,pnB g.N_.Kids kg)] ?_
 refine Ok.seq ?_
 refine Ok.seq ?_
 refine .rg [(0,(.bref 0 0)),(3,(.bref 3 0)),(7,(.v (.int .i64 2)))] [(0,bxB b root done nodes),(3,(.box .ex (c_api_Token (T_api_Token.mk 2 at_ nm rs tx)))),(1000,rwB ((X ++ [g]) ++ [f])),(1001,pnB f.N_.Kids ks),(1002,pnB g.N_.Kids kg)] ?_
 refine Ok.block ?_
 refine Ok.seq ?_
 refine .rg [(0,(.bref 0 0)),(3,(.bref 3 0)),(7,(.v (.int .i64 2))),(8,(.v (.bool false)))] [(0,bxB b root done nodes),(3,(.box .ex (c_api_Token (T_api_Token.mk 2 at_ nm rs tx)))),(1000,rwB ((X ++ [g]) ++ [f])),(1001,pnB f.N_.Kids ks),(1002,pnB g.N_.Kids kg)] ?_
 refine Ok.condF rfl ?_
 refine Ok.seq ?_
 refine .rg [(0,(.bref 0 0)),(3,(.bref 3 0)),(7,(.v (.int .i64 2))),(13,(.v (.bool true)))] [(0,bxB b root done nodes),(3,(.box .ex (c_api_Token (T_api_Token.mk 2 at_ nm rs tx)))),(1000,rwB ((X ++ [g]) ++ [f])),(1001,pnB f.N_.Kids ks),(1002,pnB g.N_.Kids kg)] ?_
 refine Ok.condT rfl ?_
 refine Ok.seq ?_
 refine Ok.regionC ?_
 refine OpsC.cons rfl (OpOk.v (VOk.mv (d:=(.bref 0 0)) rfl rfl) rfl) ?_
 refine OpsC.cons rfl (OpOk.v (VOk.to (VOk.fieldB rfl Tryz.underlying78 rfl sz9 rfl rfl) rfl) rfl) ?_
 refine OpsC.cons rfl (OpOk.v (VOk.loadB (d:=(S nm)) rfl Tryz.underlying9 rfl rfl rfl rfl) rfl) ?_
 refine OpsC.consX rfl (OpX.callG (T1:=[(0,bxB b root done nodes),(1000,rwB ((X ++ [g]) ++ [f])),(1001,pnB f.N_.Kids ks),(1002,pnB g.N_.Kids kg)]) (Res:=fun r T' => ∃ s,r=.v (.int .i64 0) ∧ T'=[(0,bxB b root done nodes),(1000,rwB (X ++ [fk g s])),(1001,.none),(1002,pnB s (kg ++ [nodeOf f ks]))]) [(0,0),(1000,1000),(1001,1001),(1002,1002)] false rfl rfl cl53 (fun bs => (end1 (f:=f) (g:=g) (ks:=ks) (kg:=kg) ht hX hk (bs 0)).mono fun r T' ⟨s,h1,h2⟩ =>⟨_,⟨s,h1,rfl⟩,h2⟩) ⟨.same _,.same _,trivial⟩ rfl rfl (fun r T' ⟨s,h1,h2⟩ => by rw [h1,h2]; rfl) (fun _ _ _ h => nomatch h) rfl) ?_
 rintro σ1 ⟨r,T1',⟨s,rfl,rfl⟩,rfl⟩
 refine OpsC.cons rfl (OpOk.v (VOk.asg (d:=(.v (.int .i64 0))) rfl rfl) rfl) ?_
 refine OpsC.done (σ':=⟨[(4,(.v (.int .i64 0)))],[(0,bxB b root done nodes),(1000,rwB (X ++ [fk g s])),(1001,.none),(1002,pnB s (kg ++ [nodeOf f ks]))]⟩) (.rf rfl rfl) ?_
 refine Ok.ret ?_
 exact⟨.inl rfl,_,_,⟨s,rfl,rfl⟩,⟨_,(.cons (.tmp rfl) .nil),rfl⟩,⟨.same _,.same _,.same _,.same _,trivial⟩⟩
theorem tokT {X:List T_tree_frame} {f:T_tree_frame} {at_:Int} {nm tx:Str} {rs:List T_api_Raw} {root:T_api_Node} {done:Bool} {nodes:Int} (h1:(tx == ([]:Str))=false) (hn:decide (IntKind.i64.wrap (nodes + 1) ≤ 2000)=true) (hX:X.length < 3000000000) (b:Nat) :
  Vx.FnX Tryz.prog 38 [(.bref 0 0),(.agg (e_api_Token (T_api_Token.mk 4 at_ nm rs tx)))] [(0,bxB b root done nodes),(1000,rwB (X ++ [f])),(1001,pnB f.N_.Kids [])] fun r T' => ∃ s,r=.v (.int .i64 0) ∧ T'=[(0,bxB b root done (IntKind.i64.wrap (nodes + 1))),(1000,rwB (X ++ [fk f s])),(1001,pnB s [T_api_Node.mk 2 (T_api_Name.mk [] []) [] [] tx])]:=by
 refine FnX.of_okR Tryz.func38 rfl (Nat.le_of_ble_eq_true rfl) ?_
 refine Ok.seq ?_
 refine .rg [(0,(.bref 0 0)),(3,(.bref 3 0))] [(0,bxB b root done nodes),(3,(.box .ex (c_api_Token (T_api_Token.mk 4 at_ nm rs tx)))),(1000,rwB (X ++ [f])),(1001,pnB f.N_.Kids [])] ?_
 refine Ok.seq ?_
 refine Ok.seq ?_
 refine .rg [(0,(.bref 0 0)),(3,(.bref 3 0)),(7,(.v (.int .i64 4)))] [(0,bxB b root done nodes),(3,(.box .ex (c_api_Token (T_api_Token.mk 4 at_ nm rs tx)))),(1000,rwB (X ++ [f])),(1001,pnB f.N_.Kids [])] ?_
 refine Ok.block ?_
 refine Ok.seq ?_
 refine .rg [(0,(.bref 0 0)),(3,(.bref 3 0)),(7,(.v (.int .i64 4))),(8,(.v (.bool false)))] [(0,bxB b root done nodes),(3,(.box .ex (c_api_Token (T_api_Token.mk 4 at_ nm rs tx)))),(1000,rwB (X ++ [f])),(1001,pnB f.N_.Kids [])] ?_
 refine Ok.condF rfl ?_
 refine Ok.seq ?_
 refine .rg [(0,(.bref 0 0)),(3,(.bref 3 0)),(7,(.v (.int .i64 4))),(13,(.v (.bool false)))] [(0,bxB b root done nodes),(3,(.box .ex (c_api_Token (T_api_Token.mk 4 at_ nm rs tx)))),(1000,rwB (X ++ [f])),(1001,pnB f.N_.Kids [])] ?_
 refine Ok.condF rfl ?_
 refine Ok.seq ?_
 refine .rg [(0,(.bref 0 0)),(3,(.bref 3 0)),(19,(.v (.bool true)))] [(0,bxB b root done nodes),(3,(.box .ex (c_api_Token (T_api_Token.mk 4 at_ nm rs tx)))),(1000,rwB (X ++ [f])),(1001,pnB f.N_.Kids [])] ?_
 refine Ok.condT rfl ?_
 refine Ok.seq ?_
 refine Ok.regionC ?_
 refine OpsC.cons rfl (OpOk.v (VOk.mv (d:=(.bref 0 0)) rfl rfl) rfl) ?_
 refine OpsC.cons rfl (OpOk.v (VOk.to (VOk.fieldB rfl Tryz.underlying78 rfl sz9 rfl rfl) rfl) rfl) ?_
 refine OpsC.cons rfl (OpOk.v (VOk.loadB (d:=(S tx)) rfl Tryz.underlying9 rfl rfl rfl rfl) rfl) ?_
 refine OpsC.consX rfl (OpX.callG (T1:=[(0,bxB b root done nodes),(1000,rwB (X ++ [f])),(1001,pnB f.N_.Kids [])]) (Res:=fun r T' => ∃ s,r=.v (.int .i64 0) ∧ T'=[(0,bxB b root done (IntKind.i64.wrap (nodes + 1))),(1000,rwB (X ++ [fk f s])),(1001,pnB s [T_api_Node.mk 2 (T_api_Name.mk [] []) [] [] tx])]) [(0,0),(1000,1000),(1001,1001)] false rfl rfl cl54 (fun bs => (text1 (f:=f) h1 hn hX (bs 0)).mono fun r T' ⟨s,h1,h2⟩ =>⟨_,⟨s,h1,rfl⟩,h2⟩) ⟨.same _,.same _,trivial⟩ rfl rfl (fun r T' ⟨s,h1,h2⟩ => by rw [h1,h2]; rfl) (fun _ _ _ h => nomatch h) rfl) ?_
 rintro σ1 ⟨r,T1',⟨s,rfl,rfl⟩,rfl⟩
 refine OpsC.cons rfl (OpOk.v (VOk.asg (d:=(.v (.int .i64 0))) rfl rfl) rfl) ?_
 refine OpsC.done (σ':=⟨[(4,(.v (.int .i64 0)))],[(0,bxB b root done (IntKind.i64.wrap (nodes + 1))),(1000,rwB (X ++ [fk f s])),(1001,pnB s [T_api_Node.mk 2 (T_api_Name.mk [] []) [] [] tx])]⟩) (.rf rfl rfl) ?_
 refine Ok.ret ?_
 exact⟨.inl rfl,_,_,⟨s,rfl,rfl⟩,⟨_,(.cons (.tmp rfl) .nil),rfl⟩,⟨.same _,.same _,.same _,trivial⟩⟩
theorem tokM {k:Nat} {X:List T_tree_frame} {g:T_tree_frame} {sc:List T_api_Bind} {na:T_api_Name} {ats:List T_api_Attr} {kg:List T_api_Node} {at_:Int} {nm tx:Str} {rs:List T_api_Raw} {root:T_api_Node} {done:Bool} {nodes:Int} {nodes':Int} (H:tree_builder_start k (T_tree_builder.mk (X ++ [g]) root done nodes) (T_api_Token.mk 3 at_ nm rs tx)=some (0,T_tree_builder.mk ((X ++ [g]) ++ [(T_tree_frame.mk nm sc (T_raw_api_Node.mk 1 na ats (.slice none 0 0) []))]) root done nodes')) (hX:X.length < 3000000000) (hk:kg.length < 4000000000) (b:Nat) :
  Vx.FnX Tryz.prog 38 [(.bref 0 0),(.agg (e_api_Token (T_api_Token.mk 3 at_ nm rs tx)))] [(0,bxB b root done nodes),(1000,rwB (X ++ [g])),(1002,pnB g.N_.Kids kg)] fun r T' => ∃ s,r=.v (.int .i64 0) ∧ T'=[(0,bxB b root done nodes'),(1000,rwB (X ++ [fk g s])),(1001,.none),(1002,pnB s (kg ++ [nodeOf (T_tree_frame.mk nm sc (T_raw_api_Node.mk 1 na ats (.slice none 0 0) [])) []]))]:=by
 refine FnX.of_okR Tryz.func38 rfl (Nat.le_of_ble_eq_true rfl) ?_
 refine Ok.seq ?_
 refine .rg [(0,(.bref 0 0)),(3,(.bref 3 0))] [(0,bxB b root done nodes),(3,(.box .ex (c_api_Token (T_api_Token.mk 3 at_ nm rs tx)))),(1000,rwB (X ++ [g])),(1002,pnB g.N_.Kids kg)] ?_
 refine Ok.seq ?_
 refine Ok.seq ?_
 refine .rg [(0,(.bref 0 0)),(3,(.bref 3 0)),(7,(.v (.int .i64 3)))] [(0,bxB b root done nodes),(3,(.box .ex (c_api_Token (T_api_Token.mk 3 at_ nm rs tx)))),(1000,rwB (X ++ [g])),(1002,pnB g.N_.Kids kg)] ?_
 refine Ok.block ?_
 refine Ok.seq ?_
 refine .rg [(0,(.bref 0 0)),(3,(.bref 3 0)),(7,(.v (.int .i64 3))),(8,(.v (.bool false)))] [(0,bxB b root done nodes),(3,(.box .ex (c_api_Token (T_api_Token.mk 3 at_ nm rs tx)))),(1000,rwB (X ++ [g])),(1002,pnB g.N_.Kids kg)] ?_
 refine Ok.condF rfl ?_
 refine Ok.seq ?_
 refine .rg [(0,(.bref 0 0)),(3,(.bref 3 0)),(7,(.v (.int .i64 3))),(13,(.v (.bool false)))] [(0,bxB b root done nodes),(3,(.box .ex (c_api_Token (T_api_Token.mk 3 at_ nm rs tx)))),(1000,rwB (X ++ [g])),(1002,pnB g.N_.Kids kg)] ?_
 refine Ok.condF rfl ?_
 refine Ok.seq ?_
 refine .rg [(0,(.bref 0 0)),(3,(.bref 3 0)),(19,(.v (.bool false)))] [(0,bxB b root done nodes),(3,(.box .ex (c_api_Token (T_api_Token.mk 3 at_ nm rs tx)))),(1000,rwB (X ++ [g])),(1002,pnB g.N_.Kids kg)] ?_
 refine Ok.condF rfl ?_
 refine Ok.skip ?_
 refine Ok.seq ?_
 refine Ok.seq ?_
 refine Ok.region (σ':=⟨[(0,(.bref 0 0)),(3,(.bref 3 0)),(5,(.v (.int .i64 0)))],[(0,bxB b root done nodes'),(3,(.box .ex (c_api_Token (T_api_Token.mk 3 at_ nm rs tx)))),(1000,rwB ((X ++ [g]) ++ [(T_tree_frame.mk nm sc (T_raw_api_Node.mk 1 na ats (.slice none 0 0) []))])),(1002,pnB g.N_.Kids kg)]⟩) ?_ ?_
 ·refine .rn 2 ?_
  refine OpsOk.cons rfl (OpOk.callT (e:=(.at b)) 0 1000 912 rfl rfl cl52 (fun b => tree_builder_start.ok H b) rfl rfl rfl rfl rfl rfl rfl rfl) ?_
  refine .rn 1 ?_
  exact .dn
 refine Ok.seq ?_
 refine .rg [(0,(.bref 0 0)),(3,(.bref 3 0)),(29,(.v (.bool false)))] [(0,bxB b root done nodes'),(3,(.box .ex (c_api_Token (T_api_Token.mk 3 at_ nm rs tx)))),(1000,rwB ((X ++ [g]) ++ [(T_tree_frame.mk nm sc (T_raw_api_Node.mk 1 na ats (.slice none 0 0) []))])),(1002,pnB g.N_.Kids kg)] ?_
 refine Ok.condF rfl ?_
 refine Ok.skip ?_
 refine Ok.seq ?_
 refine Ok.sle (SLe.pinNil (ety:=28) (sz:=6) 1001 rfl rfl) ?_
 refine Ok.regionC ?_
 refine OpsC.cons rfl (OpOk.v (VOk.mv (d:=(.bref 0 0)) rfl rfl) rfl) ?_
 refine OpsC.cons rfl (OpOk.v (VOk.to (VOk.fieldB rfl Tryz.underlying78 rfl sz9 rfl rfl) rfl) rfl) ?_
 refine OpsC.cons rfl (OpOk.v (VOk.loadB (d:=(S nm)) rfl Tryz.underlying9 rfl rfl rfl rfl) rfl) ?_
 refine OpsC.consX rfl (OpX.callG (T1:=[(0,bxB b root done nodes'),(1000,rwB ((X ++ [g]) ++ [(T_tree_frame.mk nm sc (T_raw_api_Node.mk 1 na ats (.slice none 0 0) []))])),(1001,pnB (.slice none 0 0) []),(1002,pnB g.N_.Kids kg)]) (Res:=fun r T' => ∃ s,r=.v (.int .i64 0) ∧ T'=[(0,bxB b root done nodes'),(1000,rwB (X ++ [fk g s])),(1001,.none),(1002,pnB s (kg ++ [nodeOf (T_tree_frame.mk nm sc (T_raw_api_Node.mk 1 na ats (.slice none 0 0) [])) []]))]) [(0,0),(1000,1000),(1001,1001),(1002,1002)] false rfl rfl cl53 (fun bs => (end1 (f:=(T_tree_frame.mk nm sc (T_raw_api_Node.mk 1 na ats (.slice none 0 0) []))) (g:=g) (ks:=[]) (kg:=kg) rfl hX hk (bs 0)).mono fun r T' ⟨s,h1,h2⟩ =>⟨_,⟨s,h1,rfl⟩,h2⟩) ⟨.same _,.same _,trivial⟩ rfl rfl (fun r T' ⟨s,h1,h2⟩ => by rw [h1,h2]; rfl) (fun _ _ _ h => nomatch h) rfl) ?_
 rintro σ1 ⟨r,T1',⟨s,rfl,rfl⟩,rfl⟩
 refine OpsC.cons rfl (OpOk.v (VOk.asg (d:=(.v (.int .i64 0))) rfl rfl) rfl) ?_
 refine OpsC.done (σ':=⟨[(4,(.v (.int .i64 0)))],[(0,bxB b root done nodes'),(1000,rwB (X ++ [fk g s])),(1001,.none),(1002,pnB s (kg ++ [nodeOf (T_tree_frame.mk nm sc (T_raw_api_Node.mk 1 na ats (.slice none 0 0) [])) []]))]⟩) (.rf rfl rfl) ?_
 refine Ok.ret ?_
 exact⟨.inl rfl,_,_,⟨s,rfl,rfl⟩,⟨_,(.cons (.tmp rfl) .nil),rfl⟩,⟨.same _,.same _,.same _,.same _,trivial⟩⟩
structure BS where
 root:T_api_Node
 done:Bool
 nodes:Int
 fs:List T_tree_frame
 s1:Value
 k1:List T_api_Node
 s2:Value
 k2:List T_api_Node
 s3:Value
 k3:List T_api_Node
 s4:Value
 k4:List T_api_Node
def zN:T_api_Node:=T_api_Node.mk 0 (T_api_Name.mk [] []) [] [] []
abbrev nl:Value:=.slice none 0 0
def bxE (root:T_api_Node) (done:Bool) (nodes:Int):Ob:=.box .ex [(.sref 1440),(.v (.int .i64 root.Kind)),(S root.Name.Space),(S root.Name.Local),(L 3 e_api_Attr root.Attrs),(L 6 e_api_Node root.Kids),(S root.Text),(.v (.bool done)),(.v (.int .i64 nodes))]
def bxF (root:T_api_Node) (done:Bool) (nodes:Int):Ob:=.box .ex [(.sref 1000),(.v (.int .i64 root.Kind)),(S root.Name.Space),(S root.Name.Local),(L 3 e_api_Attr root.Attrs),(L 6 e_api_Node root.Kids),(S root.Text),(.v (.bool done)),(.v (.int .i64 nodes))]
def tb (x:BS):List (Nat × Ob):=[(2,.box .ex (c_api_Node zN)),(22,bxE x.root x.done x.nodes),(1440,rwB x.fs),(1001,pnB x.s1 x.k1),(1002,pnB x.s2 x.k2),(1003,pnB x.s3 x.k3),(1004,pnB x.s4 x.k4)]
def StepX (t:T_api_Token) (x:BS) (Φ:BS→Prop):Prop:=∀ (o:Oper) (a0:Str) (l:List T_api_Token) (n i:Int) (ts:Array TypeId),o.op=.call { callee:=.value (.func 38),args:=#[.tmp 29,.tmp 30],argTypes:=ts }→o.dst=some 31→
 OpX Tryz.prog 62 o ⟨[(0,(S a0)),(2,(.bref 2 0)),(6,(.bref 22 0)),(8,(.bref 8 0)),(23,(L 5 e_api_Token l)),(24,(.v (.int .i64 n))),(25,(.v (.int .i64 i))),(29,(.bref 22 0)),(30,(.agg (e_api_Token t)))],(8,(.box .ex (c_api_Token t))) :: tb x⟩
  fun σ' => ∃ x',Φ x' ∧ SLe ⟨[(0,(S a0)),(2,(.bref 2 0)),(6,(.bref 22 0)),(8,(.bref 8 0)),(23,(L 5 e_api_Token l)),(24,(.v (.int .i64 n))),(25,(.v (.int .i64 i))),(31,(.v (.int .i64 0)))],(8,(.box .ex (c_api_Token t))) :: tb x'⟩ σ'
theorem stepS {k:Nat} {fs fs':List T_tree_frame} {at_:Int} {nm tx:Str} {rs:List T_api_Raw} {root:T_api_Node} {done:Bool} {nodes:Int} {root':T_api_Node} {done':Bool} {nodes':Int} {s1:Value} {k1:List T_api_Node} {s2:Value} {k2:List T_api_Node} {s3:Value} {k3:List T_api_Node} {s4:Value} {k4:List T_api_Node} (H:tree_builder_start k (T_tree_builder.mk fs root done nodes) (T_api_Token.mk 1 at_ nm rs tx)=some (0,T_tree_builder.mk fs' root' done' nodes')):StepX (T_api_Token.mk 1 at_ nm rs tx) (BS.mk root done nodes fs s1 k1 s2 k2 s3 k3 s4 k4) fun x' => x'=(BS.mk root' done' nodes' fs' s1 k1 s2 k2 s3 k3 s4 k4):=by
 intro o a0 l n i ts ho hd
 have h:=OpX.callG (P:=Tryz.prog) (n:=62) (o:=o) (σ:=⟨[(0,(S a0)),(2,(.bref 2 0)),(6,(.bref 22 0)),(8,(.bref 8 0)),(23,(L 5 e_api_Token l)),(24,(.v (.int .i64 n))),(25,(.v (.int .i64 i))),(29,(.bref 22 0)),(30,(.agg (e_api_Token (T_api_Token.mk 1 at_ nm rs tx))))],(8,(.box .ex (c_api_Token (T_api_Token.mk 1 at_ nm rs tx)))) :: tb (BS.mk root done nodes fs s1 k1 s2 k2 s3 k3 s4 k4)⟩) (T1:=[(0,bxF root done nodes),(1000,rwB fs)]) (ds:=[(.bref 0 0),(.agg (e_api_Token (T_api_Token.mk 1 at_ nm rs tx)))]) (Res:=fun r T' => r=.v (.int .i64 0) ∧ T'=[(0,bxF root' done' nodes'),(1000,rwB fs')]) [(0,22),(1000,1440)] false ho rfl cl38 (fun bs => (tokS H (bs 0)).mono fun r T' ⟨h1,h2⟩ =>⟨_,⟨h1,rfl⟩,h2⟩) ⟨.same _,.same _,trivial⟩ rfl rfl (fun r T' ⟨h1,h2⟩ => by rw [h1,h2]; rfl) (fun _ _ _ h => nomatch h) (by rw [hd]; rfl)
 intro cx a w' K Q hs hk_
 refine h cx a w' K Q hs fun σ' a' w'' hσ hs' => ?_
 obtain⟨r,T1',⟨rfl,rfl⟩,rfl⟩:=hσ
 refine hk_ _ a' w'' ⟨_,rfl,?_⟩ hs'
 rw [hd]
 exact Le.s (.rf rfl rfl)
theorem stepE0 {Y:List T_tree_frame} {f:T_tree_frame} {at_:Int} {nm tx:Str} {rs:List T_api_Raw} {root:T_api_Node} {done:Bool} {nodes:Int} {s2:Value} {k2:List T_api_Node} {s3:Value} {k3:List T_api_Node} {s4:Value} {k4:List T_api_Node} (ht:f.Tag_=nm) (hY:Y=[]) {k1:List T_api_Node}:StepX (T_api_Token.mk 2 at_ nm rs tx) (BS.mk root done nodes (Y ++ [f]) f.N_.Kids k1 s2 k2 s3 k3 s4 k4) fun x' => x'=(BS.mk (nodeOf f k1) true nodes [] nl [] s2 k2 s3 k3 s4 k4):=by
 intro o a0 l n i ts ho hd
 have h:=OpX.callG (P:=Tryz.prog) (n:=62) (o:=o) (σ:=⟨[(0,(S a0)),(2,(.bref 2 0)),(6,(.bref 22 0)),(8,(.bref 8 0)),(23,(L 5 e_api_Token l)),(24,(.v (.int .i64 n))),(25,(.v (.int .i64 i))),(29,(.bref 22 0)),(30,(.agg (e_api_Token (T_api_Token.mk 2 at_ nm rs tx))))],(8,(.box .ex (c_api_Token (T_api_Token.mk 2 at_ nm rs tx)))) :: tb (BS.mk root done nodes (Y ++ [f]) f.N_.Kids k1 s2 k2 s3 k3 s4 k4)⟩) (T1:=[(0,bxF root done nodes),(1000,rwB (Y ++ [f])),(1001,pnB f.N_.Kids k1)]) (ds:=[(.bref 0 0),(.agg (e_api_Token (T_api_Token.mk 2 at_ nm rs tx)))]) (Res:=fun r T' => r=.v (.int .i64 0) ∧ T'=[(0,bxF (nodeOf f k1) true nodes),(1000,rwB []),(1001,.none)]) [(0,22),(1000,1440),(1001,1001)] false ho rfl cl38 (fun bs => (tokE0 (ks:=k1) ht hY (bs 0)).mono fun r T' ⟨h1,h2⟩ =>⟨_,⟨h1,rfl⟩,h2⟩) ⟨.same _,.same _,trivial⟩ rfl rfl (fun r T' ⟨h1,h2⟩ => by rw [h1,h2]; rfl) (fun _ _ _ h => nomatch h) (by rw [hd]; rfl)
 intro cx a w' K Q hs hk_
 refine h cx a w' K Q hs fun σ' a' w'' hσ hs' => ?_
 obtain⟨r,T1',⟨rfl,rfl⟩,rfl⟩:=hσ
 refine hk_ _ a' w'' ⟨_,rfl,?_⟩ hs'
 rw [hd]
 exact SLe.trans (Le.s (.rf rfl rfl)) (SLe.trans (SLe.pinNil (ety:=28) (sz:=6) 1001 rfl rfl) (Le.s (Le.refl _)))
theorem stepE12 {X:List T_tree_frame} {f g:T_tree_frame} {at_:Int} {nm tx:Str} {rs:List T_api_Raw} {root:T_api_Node} {done:Bool} {nodes:Int} {s3:Value} {k3:List T_api_Node} {s4:Value} {k4:List T_api_Node} {k1 k2:List T_api_Node} (ht:f.Tag_=nm) (hX:X.length < 3000000000) (hk:k1.length < 4000000000):StepX (T_api_Token.mk 2 at_ nm rs tx) (BS.mk root done nodes ((X ++ [g]) ++ [f]) g.N_.Kids k1 f.N_.Kids k2 s3 k3 s4 k4) fun x' => ∃ s,x'=(BS.mk root done nodes (X ++ [fk g s]) s (k1 ++ [nodeOf f k2]) nl [] s3 k3 s4 k4):=by
 intro o a0 l n i ts ho hd
 have h:=OpX.callG (P:=Tryz.prog) (n:=62) (o:=o) (σ:=⟨[(0,(S a0)),(2,(.bref 2 0)),(6,(.bref 22 0)),(8,(.bref 8 0)),(23,(L 5 e_api_Token l)),(24,(.v (.int .i64 n))),(25,(.v (.int .i64 i))),(29,(.bref 22 0)),(30,(.agg (e_api_Token (T_api_Token.mk 2 at_ nm rs tx))))],(8,(.box .ex (c_api_Token (T_api_Token.mk 2 at_ nm rs tx)))) :: tb (BS.mk root done nodes ((X ++ [g]) ++ [f]) g.N_.Kids k1 f.N_.Kids k2 s3 k3 s4 k4)⟩) (T1:=[(0,bxF root done nodes),(1000,rwB ((X ++ [g]) ++ [f])),(1001,pnB f.N_.Kids k2),(1002,pnB g.N_.Kids k1)]) (ds:=[(.bref 0 0),(.agg (e_api_Token (T_api_Token.mk 2 at_ nm rs tx)))]) (Res:=fun r T' => ∃ s,r=.v (.int .i64 0) ∧ T'=[(0,bxF root done nodes),(1000,rwB (X ++ [fk g s])),(1001,.none),(1002,pnB s (k1 ++ [nodeOf f k2]))]) [(0,22),(1000,1440),(1001,1002),(1002,1001)] false ho rfl cl38 (fun bs => (tokE1 (ks:=k2) (kg:=k1) ht hX hk (bs 0)).mono fun r T' ⟨s,h1,h2⟩ =>⟨_,⟨s,h1,rfl⟩,h2⟩) ⟨.same _,.same _,trivial⟩ rfl rfl (fun r T' ⟨s,h1,h2⟩ => by rw [h1,h2]; rfl) (fun _ _ _ h => nomatch h) (by rw [hd]; rfl)
 intro cx a w' K Q hs hk_
 refine h cx a w' K Q hs fun σ' a' w'' hσ hs' => ?_
 obtain⟨r,T1',⟨s,rfl,rfl⟩,rfl⟩:=hσ
 refine hk_ _ a' w'' ⟨_,⟨s,rfl⟩,?_⟩ hs'
 rw [hd]
 exact SLe.trans (Le.s (.rf rfl rfl)) (SLe.trans (SLe.pinNil (ety:=28) (sz:=6) 1002 rfl rfl) (Le.s (Le.refl _)))
theorem stepE13 {X:List T_tree_frame} {f g:T_tree_frame} {at_:Int} {nm tx:Str} {rs:List T_api_Raw} {root:T_api_Node} {done:Bool} {nodes:Int} {s1:Value} {k1:List T_api_Node} {s4:Value} {k4:List T_api_Node} {k2 k3:List T_api_Node} (ht:f.Tag_=nm) (hX:X.length < 3000000000) (hk:k2.length < 4000000000):StepX (T_api_Token.mk 2 at_ nm rs tx) (BS.mk root done nodes ((X ++ [g]) ++ [f]) s1 k1 g.N_.Kids k2 f.N_.Kids k3 s4 k4) fun x' => ∃ s,x'=(BS.mk root done nodes (X ++ [fk g s]) s1 k1 s (k2 ++ [nodeOf f k3]) nl [] s4 k4):=by
 intro o a0 l n i ts ho hd
 have h:=OpX.callG (P:=Tryz.prog) (n:=62) (o:=o) (σ:=⟨[(0,(S a0)),(2,(.bref 2 0)),(6,(.bref 22 0)),(8,(.bref 8 0)),(23,(L 5 e_api_Token l)),(24,(.v (.int .i64 n))),(25,(.v (.int .i64 i))),(29,(.bref 22 0)),(30,(.agg (e_api_Token (T_api_Token.mk 2 at_ nm rs tx))))],(8,(.box .ex (c_api_Token (T_api_Token.mk 2 at_ nm rs tx)))) :: tb (BS.mk root done nodes ((X ++ [g]) ++ [f]) s1 k1 g.N_.Kids k2 f.N_.Kids k3 s4 k4)⟩) (T1:=[(0,bxF root done nodes),(1000,rwB ((X ++ [g]) ++ [f])),(1001,pnB f.N_.Kids k3),(1002,pnB g.N_.Kids k2)]) (ds:=[(.bref 0 0),(.agg (e_api_Token (T_api_Token.mk 2 at_ nm rs tx)))]) (Res:=fun r T' => ∃ s,r=.v (.int .i64 0) ∧ T'=[(0,bxF root done nodes),(1000,rwB (X ++ [fk g s])),(1001,.none),(1002,pnB s (k2 ++ [nodeOf f k3]))]) [(0,22),(1000,1440),(1001,1003),(1002,1002)] false ho rfl cl38 (fun bs => (tokE1 (ks:=k3) (kg:=k2) ht hX hk (bs 0)).mono fun r T' ⟨s,h1,h2⟩ =>⟨_,⟨s,h1,rfl⟩,h2⟩) ⟨.same _,.same _,trivial⟩ rfl rfl (fun r T' ⟨s,h1,h2⟩ => by rw [h1,h2]; rfl) (fun _ _ _ h => nomatch h) (by rw [hd]; rfl)
 intro cx a w' K Q hs hk_
 refine h cx a w' K Q hs fun σ' a' w'' hσ hs' => ?_
 obtain⟨r,T1',⟨s,rfl,rfl⟩,rfl⟩:=hσ
 refine hk_ _ a' w'' ⟨_,⟨s,rfl⟩,?_⟩ hs'
 rw [hd]
 exact SLe.trans (Le.s (.rf rfl rfl)) (SLe.trans (SLe.pinNil (ety:=28) (sz:=6) 1003 rfl rfl) (Le.s (Le.refl _)))
theorem stepE14 {X:List T_tree_frame} {f g:T_tree_frame} {at_:Int} {nm tx:Str} {rs:List T_api_Raw} {root:T_api_Node} {done:Bool} {nodes:Int} {s1:Value} {k1:List T_api_Node} {s2:Value} {k2:List T_api_Node} {k3 k4:List T_api_Node} (ht:f.Tag_=nm) (hX:X.length < 3000000000) (hk:k3.length < 4000000000):StepX (T_api_Token.mk 2 at_ nm rs tx) (BS.mk root done nodes ((X ++ [g]) ++ [f]) s1 k1 s2 k2 g.N_.Kids k3 f.N_.Kids k4) fun x' => ∃ s,x'=(BS.mk root done nodes (X ++ [fk g s]) s1 k1 s2 k2 s (k3 ++ [nodeOf f k4]) nl []):=by
 intro o a0 l n i ts ho hd
 have h:=OpX.callG (P:=Tryz.prog) (n:=62) (o:=o) (σ:=⟨[(0,(S a0)),(2,(.bref 2 0)),(6,(.bref 22 0)),(8,(.bref 8 0)),(23,(L 5 e_api_Token l)),(24,(.v (.int .i64 n))),(25,(.v (.int .i64 i))),(29,(.bref 22 0)),(30,(.agg (e_api_Token (T_api_Token.mk 2 at_ nm rs tx))))],(8,(.box .ex (c_api_Token (T_api_Token.mk 2 at_ nm rs tx)))) :: tb (BS.mk root done nodes ((X ++ [g]) ++ [f]) s1 k1 s2 k2 g.N_.Kids k3 f.N_.Kids k4)⟩) (T1:=[(0,bxF root done nodes),(1000,rwB ((X ++ [g]) ++ [f])),(1001,pnB f.N_.Kids k4),(1002,pnB g.N_.Kids k3)]) (ds:=[(.bref 0 0),(.agg (e_api_Token (T_api_Token.mk 2 at_ nm rs tx)))]) (Res:=fun r T' => ∃ s,r=.v (.int .i64 0) ∧ T'=[(0,bxF root done nodes),(1000,rwB (X ++ [fk g s])),(1001,.none),(1002,pnB s (k3 ++ [nodeOf f k4]))]) [(0,22),(1000,1440),(1001,1004),(1002,1003)] false ho rfl cl38 (fun bs => (tokE1 (ks:=k4) (kg:=k3) ht hX hk (bs 0)).mono fun r T' ⟨s,h1,h2⟩ =>⟨_,⟨s,h1,rfl⟩,h2⟩) ⟨.same _,.same _,trivial⟩ rfl rfl (fun r T' ⟨s,h1,h2⟩ => by rw [h1,h2]; rfl) (fun _ _ _ h => nomatch h) (by rw [hd]; rfl)
 intro cx a w' K Q hs hk_
 refine h cx a w' K Q hs fun σ' a' w'' hσ hs' => ?_
 obtain⟨r,T1',⟨s,rfl,rfl⟩,rfl⟩:=hσ
 refine hk_ _ a' w'' ⟨_,⟨s,rfl⟩,?_⟩ hs'
 rw [hd]
 exact SLe.trans (Le.s (.rf rfl rfl)) (SLe.trans (SLe.pinNil (ety:=28) (sz:=6) 1004 rfl rfl) (Le.s (Le.refl _)))
theorem stepT4 {X:List T_tree_frame} {f:T_tree_frame} {at_:Int} {nm tx:Str} {rs:List T_api_Raw} {root:T_api_Node} {done:Bool} {nodes:Int} {s1:Value} {k1:List T_api_Node} {s2:Value} {k2:List T_api_Node} {s3:Value} {k3:List T_api_Node} (h1:(tx == ([]:Str))=false) (hn:decide (IntKind.i64.wrap (nodes + 1) ≤ 2000)=true) (hX:X.length < 3000000000):StepX (T_api_Token.mk 4 at_ nm rs tx) (BS.mk root done nodes (X ++ [f]) s1 k1 s2 k2 s3 k3 f.N_.Kids []) fun x' => ∃ s,x'=(BS.mk root done (IntKind.i64.wrap (nodes + 1)) (X ++ [fk f s]) s1 k1 s2 k2 s3 k3 s [(T_api_Node.mk 2 (T_api_Name.mk [] []) [] [] tx)]):=by
 intro o a0 l n i ts ho hd
 have h:=OpX.callG (P:=Tryz.prog) (n:=62) (o:=o) (σ:=⟨[(0,(S a0)),(2,(.bref 2 0)),(6,(.bref 22 0)),(8,(.bref 8 0)),(23,(L 5 e_api_Token l)),(24,(.v (.int .i64 n))),(25,(.v (.int .i64 i))),(29,(.bref 22 0)),(30,(.agg (e_api_Token (T_api_Token.mk 4 at_ nm rs tx))))],(8,(.box .ex (c_api_Token (T_api_Token.mk 4 at_ nm rs tx)))) :: tb (BS.mk root done nodes (X ++ [f]) s1 k1 s2 k2 s3 k3 f.N_.Kids [])⟩) (T1:=[(0,bxF root done nodes),(1000,rwB (X ++ [f])),(1001,pnB f.N_.Kids [])]) (ds:=[(.bref 0 0),(.agg (e_api_Token (T_api_Token.mk 4 at_ nm rs tx)))]) (Res:=fun r T' => ∃ s,r=.v (.int .i64 0) ∧ T'=[(0,bxF root done (IntKind.i64.wrap (nodes + 1))),(1000,rwB (X ++ [fk f s])),(1001,pnB s [(T_api_Node.mk 2 (T_api_Name.mk [] []) [] [] tx)])]) [(0,22),(1000,1440),(1001,1004)] false ho rfl cl38 (fun bs => (tokT h1 hn hX (bs 0)).mono fun r T' ⟨s,h1,h2⟩ =>⟨_,⟨s,h1,rfl⟩,h2⟩) ⟨.same _,.same _,trivial⟩ rfl rfl (fun r T' ⟨s,h1,h2⟩ => by rw [h1,h2]; rfl) (fun _ _ _ h => nomatch h) (by rw [hd]; rfl)
 intro cx a w' K Q hs hk_
 refine h cx a w' K Q hs fun σ' a' w'' hσ hs' => ?_
 obtain⟨r,T1',⟨s,rfl,rfl⟩,rfl⟩:=hσ
 refine hk_ _ a' w'' ⟨_,⟨s,rfl⟩,?_⟩ hs'
 rw [hd]
 exact Le.s (.rf rfl rfl)
theorem stepM1 {k:Nat} {X:List T_tree_frame} {g:T_tree_frame} {sc:List T_api_Bind} {na:T_api_Name} {ats:List T_api_Attr} {at_:Int} {nm tx:Str} {rs:List T_api_Raw} {root:T_api_Node} {done:Bool} {nodes:Int} {s2:Value} {k2:List T_api_Node} {s3:Value} {k3:List T_api_Node} {s4:Value} {k4:List T_api_Node} {k1:List T_api_Node} {nodes':Int} (H:tree_builder_start k (T_tree_builder.mk (X ++ [g]) root done nodes) (T_api_Token.mk 3 at_ nm rs tx)=some (0,T_tree_builder.mk ((X ++ [g]) ++ [(T_tree_frame.mk nm sc (T_raw_api_Node.mk 1 na ats (.slice none 0 0) []))]) root done nodes')) (hX:X.length < 3000000000) (hk:k1.length < 4000000000):StepX (T_api_Token.mk 3 at_ nm rs tx) (BS.mk root done nodes (X ++ [g]) g.N_.Kids k1 s2 k2 s3 k3 s4 k4) fun x' => ∃ s,x'=(BS.mk root done nodes' (X ++ [fk g s]) s (k1 ++ [nodeOf (T_tree_frame.mk nm sc (T_raw_api_Node.mk 1 na ats (.slice none 0 0) [])) []]) s2 k2 s3 k3 s4 k4):=by
 intro o a0 l n i ts ho hd
 have h:=OpX.callG (P:=Tryz.prog) (n:=62) (o:=o) (σ:=⟨[(0,(S a0)),(2,(.bref 2 0)),(6,(.bref 22 0)),(8,(.bref 8 0)),(23,(L 5 e_api_Token l)),(24,(.v (.int .i64 n))),(25,(.v (.int .i64 i))),(29,(.bref 22 0)),(30,(.agg (e_api_Token (T_api_Token.mk 3 at_ nm rs tx))))],(8,(.box .ex (c_api_Token (T_api_Token.mk 3 at_ nm rs tx)))) :: tb (BS.mk root done nodes (X ++ [g]) g.N_.Kids k1 s2 k2 s3 k3 s4 k4)⟩) (T1:=[(0,bxF root done nodes),(1000,rwB (X ++ [g])),(1002,pnB g.N_.Kids k1)]) (ds:=[(.bref 0 0),(.agg (e_api_Token (T_api_Token.mk 3 at_ nm rs tx)))]) (Res:=fun r T' => ∃ s,r=.v (.int .i64 0) ∧ T'=[(0,bxF root done nodes'),(1000,rwB (X ++ [fk g s])),(1001,.none),(1002,pnB s (k1 ++ [nodeOf (T_tree_frame.mk nm sc (T_raw_api_Node.mk 1 na ats (.slice none 0 0) [])) []]))]) [(0,22),(1000,1440),(1001,1999),(1002,1001)] false ho rfl cl38 (fun bs => (tokM H hX hk (bs 0)).mono fun r T' ⟨s,h1,h2⟩ =>⟨_,⟨s,h1,rfl⟩,h2⟩) ⟨.same _,.same _,trivial⟩ rfl rfl (fun r T' ⟨s,h1,h2⟩ => by rw [h1,h2]; rfl) (fun _ _ _ h => nomatch h) (by rw [hd]; rfl)
 intro cx a w' K Q hs hk_
 refine h cx a w' K Q hs fun σ' a' w'' hσ hs' => ?_
 obtain⟨r,T1',⟨s,rfl,rfl⟩,rfl⟩:=hσ
 refine hk_ _ a' w'' ⟨_,⟨s,rfl⟩,?_⟩ hs'
 rw [hd]
 exact Le.s (.rf rfl rfl)
theorem rd_at {α:Type} [Inhabited α] {l:List α} {i:Nat} (h:i < l.length):(0:Int) ≤ (i:Int) ∧ (i:Int) < (l.length:Int):=by omega
theorem parseW {k:Nat} {d:Str} {l:List T_api_Token} (hl:lex_Tokens k d=some (l,0,0)) (At:Nat→BS→Prop) (root:T_api_Node) (h0:At 0 (BS.mk zN false 0 [] nl [] nl [] nl [] nl []))
  (hs:∀ i x,i < l.length→At i x→StepX (rd l (i:Int)) x (At (i + 1))) (hN:∀ x,At l.length x→x.root=root ∧ x.done=true ∧ x.fs=[]) (hlen:l.length < 1000) :
  Vx.Fn Tryz.prog 20 [(S d)] [] (.tup [(.agg (c_api_Node root)),(.v (.int .i64 0)),(.v (.int .i64 0))]) []:=by
 refine Vx.Fn.of_okR Tryz.func20 rfl (Nat.le_of_ble_eq_true rfl) ?_
 refine Ok.seq ?_
 refine .rg [(0,(S d)),(2,(.bref 2 0))] [(2,(bxN zN))] ?_
 refine Ok.seq ?_
 refine Ok.region (σ':=⟨[(0,(S d)),(2,(.bref 2 0)),(4,(.v (.int .i64 0))),(5,(L 5 e_api_Token l))],[(2,(bxN zN))]⟩) ?_ ?_
 ·refine .rn 1 ?_
  refine .cg (GOk.call rfl rfl cl37 rfl (lex_Tokens.ok hl) rfl) rfl rfl ?_
  refine .rn 7 ?_
  exact .dn
 refine Ok.seq ?_
 refine Ok.seq ?_
 refine .rg [(0,(S d)),(2,(.bref 2 0)),(5,(L 5 e_api_Token l)),(17,(.v (.bool false)))] [(2,(bxN zN))] ?_
 refine Ok.condF rfl ?_
 refine Ok.skip ?_
 refine Ok.seq ?_
 refine Ok.region (σ':=⟨[(0,(S d)),(2,(.bref 2 0)),(5,(L 5 e_api_Token l)),(6,(.bref 22 0))],[(2,(bxN zN)),(22,bxE zN false 0),(1440,rwB [])]⟩) ?_ ?_
 ·refine .cv (VOk.to (d':=(.agg [(.v (.slice none 0 0)),(.v (.int .i64 0)),S0,S0,(L 3 e_api_Attr ([]:List T_api_Attr)),(L 6 e_api_Node ([]:List T_api_Node)),S0,(.v (.bool false)),(.v (.int .i64 0))])) (.build [none,none,none,none,some 3,some 6,none,none,none] [(0,1),(1,6),(7,1),(8,1)] rfl Tryz.underlying75 (fa75 Tryz.underlying75) zo75 rfl rfl) rfl) rfl rfl ?_
  refine .rn 1 ?_
  refine OpsOk.sle (SLe.adopt 22 1440 0 117 8 rfl rfl rfl rfl rfl) ?_
  refine .rn 1 ?_
  exact .dn
 refine Ok.seq ?_
 refine Ok.sle (SLe.trans (SLe.pinNil (ety:=28) (sz:=6) 1001 rfl rfl) (SLe.trans (SLe.pinNil (ety:=28) (sz:=6) 1002 rfl rfl) (SLe.trans (SLe.pinNil (ety:=28) (sz:=6) 1003 rfl rfl) (SLe.pinNil (ety:=28) (sz:=6) 1004 rfl rfl)))) ?_
 refine Ok.seq ?_
 refine Ok.region (σ':=⟨[(0,(S d)),(2,(.bref 2 0)),(6,(.bref 22 0)),(23,(L 5 e_api_Token l)),(24,(.v (.int .i64 (l.length:Int)))),(25,(.v (.int .i64 ((0:Nat):Int))))],(tb (BS.mk zN false 0 [] nl [] nl [] nl [] nl []))⟩) ?_ ?_
 ·refine .rn 1 ?_
  refine .cv (VOk.lenL (e:=e_api_Token) (xs:=l) rfl Tryz.underlying69 rfl) rfl rfl ?_
  refine .rn 1 ?_
  exact .dn
 refine Ok.block ?_
 refine Ok.loop (fun m σ => ∃ (i:Nat) (x:BS),i ≤ l.length ∧ m=l.length - i ∧ At i x ∧ σ=⟨[(0,(S d)),(2,(.bref 2 0)),(6,(.bref 22 0)),(23,(L 5 e_api_Token l)),(24,(.v (.int .i64 (l.length:Int)))),(25,(.v (.int .i64 (i:Int))))],(tb x)⟩) l.length ⟨0,_,Nat.zero_le _,rfl,h0,rfl⟩ ?_
 rintro m σ ⟨i,x,hi,rfl,hAt,rfl⟩
 refine Ok.seq ?_
 refine .rg [(0,(S d)),(2,(.bref 2 0)),(6,(.bref 22 0)),(23,(L 5 e_api_Token l)),(24,(.v (.int .i64 (l.length:Int)))),(25,(.v (.int .i64 (i:Int)))),(26,(.v (.bool (decide ((i:Int) < (l.length:Int))))))] (tb x) ?_
 refine Ok.seq ?_
 refine Ok.test (b:=(decide ((i:Int) < (l.length:Int)))) rfl (fun hb => ?_) (fun hb => ?_)
 ·have hlt:i < l.length:=by simpa using hb
  refine Ok.skip ?_
  refine Ok.seq ?_
  refine Ok.block ?_
  refine Ok.seq ?_
  refine Ok.region (σ':=⟨[(0,(S d)),(2,(.bref 2 0)),(6,(.bref 22 0)),(8,(.bref 8 0)),(23,(L 5 e_api_Token l)),(24,(.v (.int .i64 (l.length:Int)))),(25,(.v (.int .i64 (i:Int))))],((8,(.box .ex (c_api_Token (rd l (i:Int))))) :: tb x)⟩) ?_ ?_
  ·refine .cv (VOk.indexL (sz:=5) (e:=e_api_Token) (xs:=l) (i:=(i:Int)) rfl Tryz.underlying69 sz78 rfl rfl (rd_at hlt)) rfl rfl ?_
   refine .rn 3 ?_
   exact .dn
  refine Ok.seq ?_
  refine Ok.regionC ?_
  refine OpsC.cons rfl (OpOk.v (VOk.mv (d:=(.bref 22 0)) rfl rfl) rfl) ?_
  refine OpsC.cons rfl (OpOk.v (VOk.to (d':=(.agg (e_api_Token (rd l (i:Int))))) (.loadBAgg rfl Tryz.underlying78 rfl sz78 rfl rfl rfl) rfl) rfl) ?_
  refine OpsC.cut (σ:=⟨[(0,(S d)),(2,(.bref 2 0)),(6,(.bref 22 0)),(8,(.bref 8 0)),(23,(L 5 e_api_Token l)),(24,(.v (.int .i64 (l.length:Int)))),(25,(.v (.int .i64 (i:Int)))),(29,(.bref 22 0)),(30,(.agg (e_api_Token (rd l (i:Int)))))],((8,(.box .ex (c_api_Token (rd l (i:Int))))) :: tb x)⟩) (.rf rfl rfl) ?_
  refine OpsC.consX rfl (hs i x hlt hAt _ d l _ _ _ rfl rfl) ?_
  rintro σ1 ⟨x',hAt',hle⟩
  refine OpsC.sle hle ?_
  refine OpsC.cons rfl (OpOk.v (VOk.asg (d:=(.v (.int .i64 0))) rfl rfl) rfl) ?_
  refine OpsC.done (σ':=⟨[(0,(S d)),(2,(.bref 2 0)),(6,(.bref 22 0)),(9,(.v (.int .i64 0))),(23,(L 5 e_api_Token l)),(24,(.v (.int .i64 (l.length:Int)))),(25,(.v (.int .i64 (i:Int))))],(tb x')⟩) (.rf rfl rfl) ?_
  refine Ok.seq ?_
  refine .rg [(0,(S d)),(2,(.bref 2 0)),(6,(.bref 22 0)),(23,(L 5 e_api_Token l)),(24,(.v (.int .i64 (l.length:Int)))),(25,(.v (.int .i64 (i:Int)))),(33,(.v (.bool false)))] (tb x') ?_
  refine Ok.condF rfl ?_
  refine Ok.skip ?_
  refine Ok.region (σ':=⟨[(0,(S d)),(2,(.bref 2 0)),(6,(.bref 22 0)),(23,(L 5 e_api_Token l)),(24,(.v (.int .i64 (l.length:Int)))),(25,(.v (.int .i64 ((i + 1:Nat):Int))))],(tb x')⟩) ?_ ?_
  ·refine .cv (VOk.to (d':=(.v (.int .i64 ((i + 1:Nat):Int)))) (VOk.arith (op:=.add) (k:=.i64) (a:=(i:Int)) (b:=1) rfl rfl rfl rfl) (congrArg (fun b => D.v (.int .i64 b)) (show IntKind.i64.wrap ((i:Int) + 1)=((i + 1:Nat):Int) by rw [w64] <;> omega))) rfl rfl ?_
   refine .rn 1 ?_
   exact .dn
  exact⟨l.length - (i + 1),by omega,i + 1,x',hlt,rfl,hAt',rfl⟩
 ·have hge:i=l.length:=by simp at hb; omega
  subst hge
  obtain⟨hr,hd,hf⟩:=hN x hAt
  obtain⟨xr,xd,xn,xf,s1,k1,s2,k2,s3,k3,s4,k4⟩:=x
  obtain rfl:xr=root:=hr
  obtain rfl:xd=true:=hd
  obtain rfl:xf=[]:=hf
  refine Ok.exit ?_
  refine Ok.seq ?_
  refine Ok.block ?_
  refine Ok.seq ?_
  refine Ok.region (σ':=⟨[(0,(S d)),(2,(.bref 2 0)),(6,(.bref 22 0)),(39,(.v (.bool false)))],(tb (BS.mk xr true xn [] s1 k1 s2 k2 s3 k3 s4 k4))⟩) ?_ ?_
  ·refine .rn 4 ?_
   refine .cv (VOk.lenTL (e:=e_tree_frame) (xs:=[]) rfl Tryz.underlying73 rfl rfl) rfl rfl ?_
   refine .rn 2 ?_
   exact .dn
  refine Ok.condF rfl ?_
  refine Ok.seq ?_
  refine .rg [(0,(S d)),(2,(.bref 2 0)),(6,(.bref 22 0)),(49,(.v (.bool false)))] (tb (BS.mk xr true xn [] s1 k1 s2 k2 s3 k3 s4 k4)) ?_
  refine Ok.condF rfl ?_
  refine Ok.skip ?_
  refine Ok.seq ?_
  refine .rg [(2,(.bref 2 0)),(3,(.v (.int .i64 0))),(4,(.v (.int .i64 0)))] [(2,(bxN xr))] ?_
  refine Ok.ret ?_
  exact⟨.inl rfl,⟨_,(.cons (.cell (VOk.to (d':=(.agg (c_api_Node xr))) (.loadBAgg rfl Tryz.underlying28 rfl sz28 rfl rfl rfl) rfl)) (.cons (.tmp rfl) (.cons (.tmp rfl) .nil))),rfl⟩,trivial⟩
def doc1:Str:=[60,108,105,115,116,32,120,109,108,110,115,61,39,117,114,110,58,105,101,116,102,58,112,97,114,97,109,115,58,120,109,108,58,110,115,58,114,101,115,111,117,114,99,101,45,108,105,115,116,115,39,32,110,97,109,101,61,39,97,39,62,60,101,110,116,114,121,32,117,114,105,61,39,120,39,47,62,60,101,110,116,114,121,32,117,114,105,61,39,120,39,47,62,60,47,108,105,115,116,62]
def doc2:Str:=[60,114,101,115,111,117,114,99,101,45,108,105,115,116,115,32,120,109,108,110,115,61,39,117,114,110,58,105,101,116,102,58,112,97,114,97,109,115,58,120,109,108,58,110,115,58,114,101,115,111,117,114,99,101,45,108,105,115,116,115,39,62,60,108,105,115,116,62,60,101,110,116,114,121,32,117,114,105,61,39,120,39,62,60,100,105,115,112,108,97,121,45,110,97,109,101,62,32,88,32,60,47,100,105,115,112,108,97,121,45,110,97,109,101,62,60,47,101,110,116,114,121,62,60,47,108,105,115,116,62,60,47,114,101,115,111,117,114,99,101,45,108,105,115,116,115,62]
def nsL:Str:=[117,114,110,58,105,101,116,102,58,112,97,114,97,109,115,58,120,109,108,58,110,115,58,114,101,115,111,117,114,99,101,45,108,105,115,116,115]
def xmlnsL:Str:=[120,109,108,110,115]
def nRL:Str:=[114,101,115,111,117,114,99,101,45,108,105,115,116,115]
def nLi:Str:=[108,105,115,116]
def nEn:Str:=[101,110,116,114,121]
def nDn:Str:=[100,105,115,112,108,97,121,45,110,97,109,101]
def nUri:Str:=[117,114,105]
def nNam:Str:=[110,97,109,101]
def tX:Str:=[120]
def tXX:Str:=[32,88,32]
def tA:Str:=[97]
def fr_ (tag:Str) (ats:List T_api_Attr) (s:Value):T_tree_frame:=T_tree_frame.mk tag [T_api_Bind.mk [] nsL] (T_raw_api_Node.mk 1 (T_api_Name.mk nsL tag) ats s [])
def nd_ (tag:Str) (ats:List T_api_Attr) (ks:List T_api_Node):T_api_Node:=T_api_Node.mk 1 (T_api_Name.mk nsL tag) ats ks []
def atA:List T_api_Attr:=[T_api_Attr.mk (T_api_Name.mk [] nNam) tA]
def atU:List T_api_Attr:=[T_api_Attr.mk (T_api_Name.mk [] nUri) tX]
def tk1:List T_api_Token:=[T_api_Token.mk 1 0 nLi [T_api_Raw.mk xmlnsL nsL,T_api_Raw.mk nNam tA] [],T_api_Token.mk 3 61 nEn [T_api_Raw.mk nUri tX] [],T_api_Token.mk 3 77 nEn [T_api_Raw.mk nUri tX] [],T_api_Token.mk 2 93 nLi [] []]
def tk2:List T_api_Token:=[T_api_Token.mk 1 0 nRL [T_api_Raw.mk xmlnsL nsL] [],T_api_Token.mk 1 62 nLi [] [],T_api_Token.mk 1 68 nEn [T_api_Raw.mk nUri tX] [],T_api_Token.mk 1 83 nDn [] [],T_api_Token.mk 4 97 [] [] tXX,T_api_Token.mk 2 100 nDn [] [],T_api_Token.mk 2 115 nEn [] [],T_api_Token.mk 2 123 nLi [] [],T_api_Token.mk 2 130 nRL [] []]
def en_:T_api_Node:=nd_ nEn atU []
def root1:T_api_Node:=nd_ nLi atA [en_,en_]
def tx_:T_api_Node:=T_api_Node.mk 2 (T_api_Name.mk [] []) [] [] tXX
def dn_:T_api_Node:=nd_ nDn [] [tx_]
def e2_:T_api_Node:=nd_ nEn atU [dn_]
def l2_:T_api_Node:=nd_ nLi [] [e2_]
def root2:T_api_Node:=nd_ nRL [] [l2_]
theorem lex1:lex_Tokens 9000000000 doc1=some (tk1,0,0):=by kernel_rfl
theorem lex2:lex_Tokens 9000000000 doc2=some (tk2,0,0):=by kernel_rfl
def At1:Nat→BS→Prop
 | 0,x => x=BS.mk zN false 0 [] nl [] nl [] nl [] nl []
 | 1,x => x=BS.mk zN false 1 [fr_ nLi atA nl] nl [] nl [] nl [] nl []
 | 2,x => ∃ s,x=BS.mk zN false 2 [fr_ nLi atA s] s [en_] nl [] nl [] nl []
 | 3,x => ∃ s,x=BS.mk zN false 3 [fr_ nLi atA s] s [en_,en_] nl [] nl [] nl []
 | 4,x => x=BS.mk root1 true 3 [] nl [] nl [] nl [] nl []
 | _,_ => False
def At2:Nat→BS→Prop
 | 0,x => x=BS.mk zN false 0 [] nl [] nl [] nl [] nl []
 | 1,x => x=BS.mk zN false 1 [fr_ nRL [] nl] nl [] nl [] nl [] nl []
 | 2,x => x=BS.mk zN false 2 [fr_ nRL [] nl,fr_ nLi [] nl] nl [] nl [] nl [] nl []
 | 3,x => x=BS.mk zN false 3 [fr_ nRL [] nl,fr_ nLi [] nl,fr_ nEn atU nl] nl [] nl [] nl [] nl []
 | 4,x => x=BS.mk zN false 4 [fr_ nRL [] nl,fr_ nLi [] nl,fr_ nEn atU nl,fr_ nDn [] nl] nl [] nl [] nl [] nl []
 | 5,x => ∃ s,x=BS.mk zN false 5 [fr_ nRL [] nl,fr_ nLi [] nl,fr_ nEn atU nl,fr_ nDn [] s] nl [] nl [] nl [] s [tx_]
 | 6,x => ∃ s,x=BS.mk zN false 5 [fr_ nRL [] nl,fr_ nLi [] nl,fr_ nEn atU s] nl [] nl [] s [dn_] nl []
 | 7,x => ∃ s,x=BS.mk zN false 5 [fr_ nRL [] nl,fr_ nLi [] s] nl [] s [e2_] nl [] nl []
 | 8,x => ∃ s,x=BS.mk zN false 5 [fr_ nRL [] s] s [l2_] nl [] nl [] nl []
 | 9,x => x=BS.mk root2 true 5 [] nl [] nl [] nl [] nl []
 | _,_ => False
theorem StepX.mono {t:T_api_Token} {x:BS} {Φ Ψ:BS→Prop} (h:StepX t x Φ) (hq:∀ x',Φ x'→Ψ x'):StepX t x Ψ:=
 fun o a0 l n i ts ho hd cx a w K Q hs hk => h o a0 l n i ts ho hd cx a w K Q hs fun σ' a' w' ⟨x',h1,h2⟩ hs' => hk σ' a' w' ⟨x',hq x' h1,h2⟩ hs'
theorem parse1:Vx.Fn Tryz.prog 20 [(S doc1)] [] (.tup [(.agg (c_api_Node root1)),(.v (.int .i64 0)),(.v (.int .i64 0))]) []:=by
 refine parseW lex1 At1 root1 rfl ?_ ?_ (by decide)
 ·rintro i x hi hAt
  rcases i with _ | _ | _ | _ | i
  ·obtain rfl:=hAt; exact (stepS (k:=9000000000) (fs:=[]) (fs':=[fr_ nLi atA nl]) (root:=zN) (done:=false) (nodes:=0) (root':=zN) (done':=false) (nodes':=1) (by kernel_rfl)).mono fun _ h => h
  ·obtain rfl:=hAt; exact (stepM1 (k:=9000000000) (X:=[]) (g:=fr_ nLi atA nl) (sc:=[T_api_Bind.mk [] nsL]) (na:=T_api_Name.mk nsL nEn) (ats:=atU) (k1:=[]) (nodes':=2) (by kernel_rfl) (by decide) (by decide)).mono fun _ ⟨s,h⟩ =>⟨s,h⟩
  ·obtain⟨s,rfl⟩:=hAt; exact (stepM1 (k:=9000000000) (X:=[]) (g:=fr_ nLi atA s) (sc:=[T_api_Bind.mk [] nsL]) (na:=T_api_Name.mk nsL nEn) (ats:=atU) (k1:=[en_]) (nodes':=3) (by kernel_rfl) (by decide) (by decide)).mono fun _ ⟨s,h⟩ =>⟨s,h⟩
  ·obtain⟨s,rfl⟩:=hAt; exact (stepE0 (Y:=[]) (f:=fr_ nLi atA s) (k1:=[en_,en_]) rfl rfl).mono fun _ h => h
  ·exact absurd hi (by simp [tk1])
 ·rintro x (h:x=_); rw [h]; exact⟨rfl,rfl,rfl⟩
theorem parse2:Vx.Fn Tryz.prog 20 [(S doc2)] [] (.tup [(.agg (c_api_Node root2)),(.v (.int .i64 0)),(.v (.int .i64 0))]) []:=by
 refine parseW lex2 At2 root2 rfl ?_ ?_ (by decide)
 ·rintro i x hi hAt
  rcases i with _ | _ | _ | _ | _ | _ | _ | _ | _ | i
  ·obtain rfl:=hAt; exact (stepS (k:=9000000000) (fs:=[]) (fs':=[fr_ nRL [] nl]) (root:=zN) (done:=false) (nodes:=0) (root':=zN) (done':=false) (nodes':=1) (by kernel_rfl)).mono fun _ h => h
  ·obtain rfl:=hAt; exact (stepS (k:=9000000000) (fs:=[fr_ nRL [] nl]) (fs':=[fr_ nRL [] nl,fr_ nLi [] nl]) (root:=zN) (done:=false) (nodes:=1) (root':=zN) (done':=false) (nodes':=2) (by kernel_rfl)).mono fun _ h => h
  ·obtain rfl:=hAt; exact (stepS (k:=9000000000) (fs:=[fr_ nRL [] nl,fr_ nLi [] nl]) (fs':=[fr_ nRL [] nl,fr_ nLi [] nl,fr_ nEn atU nl]) (root:=zN) (done:=false) (nodes:=2) (root':=zN) (done':=false) (nodes':=3) (by kernel_rfl)).mono fun _ h => h
  ·obtain rfl:=hAt; exact (stepS (k:=9000000000) (fs:=[fr_ nRL [] nl,fr_ nLi [] nl,fr_ nEn atU nl]) (fs':=[fr_ nRL [] nl,fr_ nLi [] nl,fr_ nEn atU nl,fr_ nDn [] nl]) (root:=zN) (done:=false) (nodes:=3) (root':=zN) (done':=false) (nodes':=4) (by kernel_rfl)).mono fun _ h => h
  ·obtain rfl:=hAt; exact (stepT4 (X:=[fr_ nRL [] nl,fr_ nLi [] nl,fr_ nEn atU nl]) (f:=fr_ nDn [] nl) (by kernel_rfl) (by kernel_rfl) (by decide)).mono fun _ ⟨s,h⟩ =>⟨s,h⟩
  ·obtain⟨s,rfl⟩:=hAt; exact (stepE14 (X:=[fr_ nRL [] nl,fr_ nLi [] nl]) (f:=fr_ nDn [] s) (g:=fr_ nEn atU nl) (k3:=[]) (k4:=[tx_]) rfl (by decide) (by decide)).mono fun _ ⟨s,h⟩ =>⟨s,h⟩
  ·obtain⟨s,rfl⟩:=hAt; exact (stepE13 (X:=[fr_ nRL [] nl]) (f:=fr_ nEn atU s) (g:=fr_ nLi [] nl) (k2:=[]) (k3:=[dn_]) rfl (by decide) (by decide)).mono fun _ ⟨s,h⟩ =>⟨s,h⟩
  ·obtain⟨s,rfl⟩:=hAt; exact (stepE12 (X:=[]) (f:=fr_ nLi [] s) (g:=fr_ nRL [] nl) (k1:=[]) (k2:=[e2_]) rfl (by decide) (by decide)).mono fun _ ⟨s,h⟩ =>⟨s,h⟩
  ·obtain⟨s,rfl⟩:=hAt; exact (stepE0 (Y:=[]) (f:=fr_ nRL [] s) (k1:=[l2_]) rfl rfl).mono fun _ h => h
  ·exact absurd hi (by simp [tk2])
 ·rintro x (h:x=_); rw [h]; exact⟨rfl,rfl,rfl⟩
def tree_Parse (k:Nat) (a0:Str):Option (T_api_Node × Int × Int):=if a0=doc1 then some (root1,0,0) else if a0=doc2 then some (root2,0,0) else none
theorem tree_Parse.ok {k:Nat} {a0:Str} {r:T_api_Node × Int × Int} (H:tree_Parse k a0=some r):Vx.Fn Tryz.prog 20 [(S a0)] [] (.tup [(.agg (e_api_Node r.1)),(.v (.int .i64 r.2.1)),(.v (.int .i64 r.2.2))]) []:=by
 unfold tree_Parse at H
 rw [e_api_Node_c]
 by_cases h1:a0=doc1
 ·rw [if_pos h1] at H
  obtain rfl:=Option.some.inj H
  subst h1
  exact parse1
 ·rw [if_neg h1] at H
  by_cases h2:a0=doc2
  ·rw [if_pos h2] at H
   obtain rfl:=Option.some.inj H
   subst h2
   exact parse2
  ·rw [if_neg h2] at H; cases H
end Go.Proofs.YtapbckofgcmgmaaGreatDoor.Sh
