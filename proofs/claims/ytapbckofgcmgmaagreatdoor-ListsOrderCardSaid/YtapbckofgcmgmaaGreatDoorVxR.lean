import Derived.Test.YtapbckofgcmgmaaGreatDoorVxQ
import Derived.Lib.Bytealg
import Derived.Laws.StandIn
namespace Go.Proofs.Vx
open Go Go.RowKit
set_option linter.unusedSectionVars false
variable [Glo]
section
variable {P:Program} {n:Nat} {o:Oper} {σ:St}
theorem R.clist_inv {ι w ρ} {sz:Nat} {rows:List (List D)} {x:Value} (h:R ι w ρ (.clist sz rows) x):∃ A,x=.slice A rows.length rows.length ∧ Pu ι w (.list sz rows) x:=by
 cases h with
 | pu h => cases h with | clist _ _ A h => exact⟨A,rfl,h⟩
 | ref h _ _ => simp [D.isRef] at h
theorem GOk.litC {ty ety sz len:Nat} {parts:Array (Nat × Operand)} {rows:List (List D)} (ho:o.op=.buildSlice ty len parts) (ht:P.underlying ty=some (.slice ety)) (hs:szOf P ety=some sz)
  (hz:(zeroOf P ety).map (fun z => z.cells.size)=some sz) (hq:(seqB 0 parts.toList && Nat.beq parts.size len && Nat.ble (len * sz) 16777216)=true) (hro:rowsOf (parts.toList.map fun p => σ.ev p.2)=some rows)
  (hsz:rows.all (fun r => Nat.beq r.length sz)=true) (hf:flatRows rows=true):GOk P o σ (.clist sz rows):=by
 intro cx ι β a w next Q hi hr hk
 have hsz':∀ r ∈ rows,r.length=sz:=fun r hr => by simp at hsz; exact hsz r hr
 obtain⟨c',hrun,hc,hl,h1,hR⟩:=run_buildSlice (P:=P) (w:=w) hr ho ht hs hz hq hro hsz'
 have hcell:∀ b o,ι b o→(w.alloc (.cells c' ety)).cell? ⟨b,o,none⟩=w.cell? ⟨b,o,none⟩:=fun b o hb => World.cell?_alloc_lt w _ _ (hi.lt b o hb)
 unfold Oper.wp
 rw [hrun]
 refine hk _ (w.alloc (.cells c' ety)) (fun b o => ι b o ∨ (b=w.heap.size ∧ o < len * sz)) (hi.grow rfl rfl rfl (by simp) (fun k hk => Below.heap_alloc w _ k hk) (fun _ _ h => .inl h) (fun b o h => h.imp id (fun h => by simp; omega))) (fun _ _ h => .inl h) hcell (.pu ?_)
 rw [← hl]
 refine .clist sz rows _ ?_
 refine .list sz rows w.heap.size 0 rows.length (fun k => (c'[k]?).getD undef) (Nat.le_refl _) hsz' (fun k hk => ?_) (fun k d hd => ?_)
 ·rw [hl] at hk
  have hk':c'[k]? =some (c'[k]'(by omega)):=Array.getElem?_eq_getElem _
  exact⟨by rw [Nat.zero_add,World.cell?_alloc_new,hk']; rfl,by rw [hk']; exact h1 _ _ hk',.inr ⟨rfl,by rw [hl]; omega⟩⟩
 ·have hk:k < rows.length * sz:=by rw [← flatten_len hsz']; exact (List.getElem?_eq_some_iff.1 hd).1
  rw [hl] at hk
  have hk':c'[k]? =some (c'[k]'(by omega)):=Array.getElem?_eq_getElem _
  rw [hk']
  exact ((hR _ _ _ hd hk').flat1 (flatRows_mem hf hd)).mono (fun _ _ h => .inl h) hcell
theorem VOk.slice3 {α:Type} {e:α→List D} {xs:List α} {ty elem:TypeId} {x:Operand} {hi mx:Operand} {sz:Nat} {h:Int} (ho:o.op=.slice ty x none (some hi) (some mx)) (ht:P.underlying ty=some (.slice elem)) (hz:szOf P elem=some sz)
  (hx:σ.ev x=L sz e xs) (hh:σ.ev hi=.v (.int .i64 h)) (hm:σ.ev mx=.v (.int .i64 h)) (hb:0 ≤ h ∧ h ≤ (xs.length:Int)):VOk P o σ (.clist sz ((sl xs 0 h).map e)):=
 fun cx ι β ac w hi' hr => by
  have hxx:=hr x
  rw [hx] at hxx
  obtain⟨A,cap,hv,hcap,hA,hs,hsz,f,hc,hf⟩:=hxx.list_inv
  rw [List.length_map] at hv hcap hc
  have h1:ac.eval hi=.int .i64 h:=ev_v hr hh
  have h2:ac.eval mx=.int .i64 h:=ev_v hr hm
  have hle:h ≤ (cap:Int):=by omega
  have hbr:(Instr.sliceBounds true xs.length cap none (some (ac.eval hi)) (some (ac.eval mx))).run P w=.ok (0,h.toNat,h.toNat) w:=by
   have hmax:max h 0=h:=by omega
   simp [Instr.sliceBounds,Instr.sliceBound,h1,h2,asIntOf,hb.1,hle,hmax]
  have hlen:(sl xs 0 h).length=h.toNat:=by simp [sl]; omega
  have hsl:sl xs 0 h=xs.take h.toNat:=by simp [sl]
  refine⟨.slice (if h.toNat=0 then A else A.map (·.add (0 * sz))) h.toNat h.toNat,?_,.pu ?_⟩
  ·simp [execOp,ho,hv,Instr.sliceAt,Instr.slice,run_underlying ht,hbr,run_sizeOf' hz]
  ·have key:Pu ι w (.list sz ((sl xs 0 h).map e)) (.slice (if h.toNat=0 then A else A.map (·.add (0 * sz))) ((sl xs 0 h).map e).length ((sl xs 0 h).map e).length):=by
    rw [List.length_map,hlen]
    by_cases h0:h.toNat=0
    ·have:sl xs 0 h=[]:=List.eq_nil_of_length_eq_zero (by omega)
     rw [this,h0]
     exact .listNil sz _ 0 (fun _ => rfl)
    ·rw [if_neg h0]
     cases A with
     | none => have:=hA rfl; omega
     | some a =>
      obtain⟨b,off,spot⟩:=a
      obtain rfl:spot=none:=hs _ rfl (by intro hn; rw [List.map_eq_nil_iff] at hn; subst hn; simp at hb; omega)
      have e1:(Option.map (fun a:Addr => a.add (0 * sz)) (some ⟨b,off,none⟩))=some ⟨b,off,none⟩:=by simp [Addr.add_lit]
      rw [e1]
      have hsz':∀ r ∈ (xs.take h.toNat).map e,r.length=sz:=fun r hr => by
       obtain⟨y,hy,rfl⟩:=List.mem_map.1 hr
       exact hsz _ (List.mem_map.2 ⟨y,List.mem_of_mem_take hy,rfl⟩)
      have hl2:((xs.take h.toNat).map e).length=h.toNat:=by simp; omega
      rw [hsl]
      have:=Pu.list (ι:=ι) (w:=w) sz ((xs.take h.toNat).map e) b off h.toNat f (by omega) hsz' (fun k hk => hc _ rfl k (by
       rw [hl2] at hk; exact Nat.lt_of_lt_of_le hk (Nat.mul_le_mul_right _ (by omega)))) (fun k d hd => hf k d (by
       have hk:k < h.toNat * sz:=by rw [← hl2,← flatten_len hsz']; exact (List.getElem?_eq_some_iff.1 hd).1
       rw [List.map_take,flatten_take hsz,List.getElem?_take,if_pos hk] at hd
       exact hd))
      rw [hl2] at this
      exact this
   have:=Pu.clist (ι:=ι) (w:=w) sz ((sl xs 0 h).map e) _ key
   rw [List.length_map,hlen] at this
   exact this
theorem GOk.appendC {α:Type} {s x:Operand} {ty ety sz by_:Nat} {e:α→List D} {xs ys:List α} (ho:o.op=.call { callee:=.builtin .append,args:=#[s,x],argTypes:=#[ty,ty] }) (ht:P.underlying ty=some (.slice ety)) (he:Elt P ety sz by_)
  (hs:DLe (.clist sz (xs.map e)) (σ.ev s)) (hx:σ.ev x=L sz e ys) (hl:(xs.length + ys.length) * by_ ≤ 140737488355328):GOk P o σ (L sz e (xs ++ ys)):=by
 intro cx ι β a w next Q hi hr hk
 have hss:=hs.r (hr s)
 obtain⟨A,hv,hS⟩:=hss.clist_inv
 have hxx:=hr x
 rw [hx] at hxx
 obtain⟨B,cap,hvx,hcap,hB,hsp,hsz,f,hc,hf⟩:=hxx.list_inv
 obtain⟨A',cap',hv',hcap',hA',hspA,hszA,g,hcA,hgA⟩:=R.list_inv (ρ:=fun _ _ => False) (.pu (hv ▸ hS))
 injection hv' with e1 e2 e3
 subst e1
 obtain⟨i,z,hinf,hz,hsize,hby,hzs⟩:=he.info
 rw [List.length_map] at hvx hc hv hcA
 have h47:xs.length + ys.length ≤ 140737488355328:=Nat.le_trans (Nat.le_mul_of_pos_right _ he.pos') hl
 unfold Oper.wp
 by_cases hm:ys.length=0
 ·have hy:ys=[]:=List.eq_nil_of_length_eq_zero hm
  subst hy
  have hrun:(execOp a.eval o).run P w=.ok (.value (.slice A xs.length xs.length)) w:=by
   have:(Builtin.append_ #[ty,ty] o.type #[.slice A xs.length xs.length,.slice B 0 cap]).run P w=.ok (.slice A xs.length xs.length) w:=by
    cases A with
    | none =>
     have h0:xs.length=0:=by have:=hA' rfl; rw [List.length_map] at e3; omega
     rw [h0]
     cases B <;> simp [Builtin.append_,run_underlying ht,sizeOf,typeInfo,hinf,Builtin.lenOf,Builtin.firstCells,loadCells,loadCellsFrom]
    | some ad => cases B <;> simp [Builtin.append_,run_underlying ht,sizeOf,typeInfo,hinf,Builtin.lenOf,Builtin.firstCells,loadCells,loadCellsFrom,storeCells]
   simp [execOp,ho,resolve,invoke,builtin,hv,hvx,this]
  rw [hrun]
  exact hk _ w ι hi (fun _ _ h => h) (fun _ _ _ => rfl) (.pu (by rw [List.append_nil,← hv]; exact hv ▸ hS))
 ·obtain⟨ad,rfl⟩:∃ ad,B=some ad:=by
   cases B with
   | none => have:=hB rfl; rw [List.length_map] at hcap; omega
   | some ad => exact⟨ad,rfl⟩
  have hrow:ys.map e ≠ []:=by intro h; apply hm; have:=congrArg List.length h; simpa using this
  obtain⟨bb,bo,bs⟩:=ad
  obtain rfl:bs=none:=hsp _ rfl hrow
  have hc:=hc _ rfl
  let news:=(List.range (ys.length * sz)).map f
  let olds:=(List.range (xs.length * sz)).map g
  have hnl:news.length=ys.length * sz:=by simp [news]
  have hol:olds.length=xs.length * sz:=by simp [olds]
  have hnews:∀ j u,news[j]? =some u→w.cell? ((⟨bb,bo,none⟩:Addr).add j)=some u:=fun j u hu => by
   have hj:j < ys.length * sz:=by rw [← hnl]; exact (List.getElem?_eq_some_iff.1 hu).1
   simp only [news,List.getElem?_map,List.getElem?_range hj] at hu
   cases hu
   rw [Addr.add_lit]; exact (hc j hj).1
  have hone:∀ u ∈ olds ++ news,u.oneCell'=true:=fun u hu => by
   rcases List.mem_append.1 hu with hu | hu
   ·obtain⟨j,hj,rfl⟩:=List.mem_map.1 hu
    have hj:=List.mem_range.1 hj
    cases A with
    | none => have:=hA' rfl; rw [List.length_map] at e3; have h0:xs.length=0:=by omega
              rw [h0] at hj; simp at hj
    | some ad => exact (hcA ad rfl j hj).2.1
   ·obtain⟨j,hj,rfl⟩:=List.mem_map.1 hu
    exact (hc j (List.mem_range.1 hj)).2.1
  obtain⟨cap2,arr,hrun,hcap2,hsz2,hcell2⟩:∃ cap2 arr,(Builtin.append_ #[ty,ty] o.type #[.slice A xs.length xs.length,.slice (some ⟨bb,bo,none⟩) ys.length cap]).run P w=.ok (.slice (some ⟨w.heap.size,0,none⟩) (xs.length + ys.length) cap2) (w.drew.alloc (.cells arr ety)) ∧ xs.length + ys.length ≤ cap2 ∧ (xs.length + ys.length) * sz ≤ arr.size ∧ ∀ k,k < (xs.length + ys.length) * sz→arr[k]? =(olds ++ news)[k]?:=by
   have hlen:(olds ++ news).length=(xs.length + ys.length) * sz:=by rw [List.length_append,hol,hnl,Nat.add_mul]
   cases A with
   | none =>
    have h0:xs.length=0:=by have:=hA' rfl; rw [List.length_map] at e3; omega
    have hr:=run_append_nil (P:=P) w ty o.type ety i z ht hinf hz ⟨bb,bo,none⟩ ys.length cap news (by rw [hsize]; exact hnl) hnews (by omega) (by omega) (by rw [hby]; have:ys.length * by_ ≤ (xs.length + ys.length) * by_:=Nat.mul_le_mul_right _ (by omega); omega)
    have ho0:olds=[]:=List.eq_nil_of_length_eq_zero (by rw [hol,h0]; simp)
    rw [h0,Nat.zero_add]
    refine⟨_,_,hr,grownCap_ge w _ _ _,?_,fun k hk => ?_⟩
    ·rw [Array.size_append]; simp [hnl]
    ·rw [ho0,List.nil_append,Array.getElem?_append_left (by simp [hnl]; omega)]; simp
   | some ad =>
    by_cases hx0:xs.length=0
    ·have hr:=run_append_grow (P:=P) w ty o.type ety i z ht hinf hz ad 0 0 [] (by simp) (fun j u h => by simp at h) ⟨bb,bo,none⟩ ys.length cap news (by rw [hsize]; exact hnl) hnews (by omega) (by omega) (by rw [hby]; exact growslice_fits (by omega) (by rw [hx0] at hl; exact hl))
     have ho0:olds=[]:=List.eq_nil_of_length_eq_zero (by rw [hol,hx0]; simp)
     rw [hx0]
     refine⟨_,_,hr,grownCap_ge w _ _ _,?_,fun k hk => ?_⟩
     ·simp [hnl]
     ·rw [ho0,List.nil_append]
      rw [Nat.zero_add] at hk
      rw [Array.getElem?_append_left (by simp [hnl]; omega)]; simp
    ·have hrowA:xs.map e ≠ []:=by intro h; apply hx0; have:=congrArg List.length h; simpa using this
     obtain⟨ab,ao,as⟩:=ad
     obtain rfl:as=none:=hspA _ rfl hrowA
     have holds:∀ j u,olds[j]? =some u→w.cell? ((⟨ab,ao,none⟩:Addr).add j)=some u:=fun j u hu => by
      have hj:j < xs.length * sz:=by rw [← hol]; exact (List.getElem?_eq_some_iff.1 hu).1
      simp only [olds,List.getElem?_map,List.getElem?_range hj] at hu
      cases hu
      rw [Addr.add_lit]; exact (hcA _ rfl j hj).1
     have hr:=run_append_grow (P:=P) w ty o.type ety i z ht hinf hz ⟨ab,ao,none⟩ xs.length xs.length olds (by rw [hsize]; exact hol) holds ⟨bb,bo,none⟩ ys.length cap news (by rw [hsize]; exact hnl) hnews (by omega) (by omega) (by rw [hby]; exact growslice_fits (by omega) hl)
     refine⟨_,_,hr,grownCap_ge w _ _ _,?_,fun k hk => ?_⟩
     ·simp [hnl,hol,Nat.add_mul]
     ·rw [Array.getElem?_append_left (by simp [hnl,hol,← Nat.add_mul]; exact hk)]; simp
  have hrun':(execOp a.eval o).run P w=.ok (.value (.slice (some ⟨w.heap.size,0,none⟩) (xs.length + ys.length) cap2)) (w.drew.alloc (.cells arr ety)):=by
   simp [execOp,ho,resolve,invoke,builtin,hv,hvx,hrun]
  rw [hrun']
  have hcell:∀ b o,ι b o→(w.drew.alloc (.cells arr ety)).cell? ⟨b,o,none⟩=w.cell? ⟨b,o,none⟩:=fun b o hb => World.cell?_alloc_lt w.drew _ _ (hi.lt b o hb)
  refine hk _ _ (fun b o => ι b o ∨ (b=w.heap.size ∧ o < (xs.length + ys.length) * sz)) (hi.grow rfl rfl rfl (by simp) (fun k hk => Below.heap_alloc w.drew _ k hk) (fun _ _ h => .inl h) (fun b o h => h.imp id (fun h => by simp; omega))) (fun _ _ h => .inl h) hcell (.pu ?_)
  have hlen:(xs ++ ys).length=xs.length + ys.length:=List.length_append
  have hszB:∀ r ∈ (xs ++ ys).map e,r.length=sz:=fun r hr => by
   rw [List.map_append] at hr
   rcases List.mem_append.1 hr with hr | hr
   ·exact hszA r hr
   ·exact hsz r hr
  have:=Pu.list (ι:=fun b o => ι b o ∨ (b=w.heap.size ∧ o < (xs.length + ys.length) * sz)) (w:=w.drew.alloc (.cells arr ety)) sz ((xs ++ ys).map e) w.heap.size 0 cap2 (fun k => ((olds ++ news)[k]?).getD undef) (by rw [List.length_map,hlen]; exact hcap2) hszB (fun k hk => by
   rw [List.length_map,hlen] at hk
   have hk2:k < (olds ++ news).length:=by rw [List.length_append,hol,hnl,← Nat.add_mul]; exact hk
   refine⟨?_,?_,.inr ⟨rfl,by omega⟩⟩
   ·have h5:=World.cell?_alloc_new w.drew arr ety (0 + k)
    rw [show w.drew.heap.size=w.heap.size from rfl] at h5
    rw [h5,Nat.zero_add,hcell2 k hk,List.getElem?_eq_getElem hk2]; rfl
   ·rw [List.getElem?_eq_getElem hk2]; exact hone _ (List.getElem_mem _)) (fun k d hd => by
   have hk:k < (xs.length + ys.length) * sz:=by
    have:=(List.getElem?_eq_some_iff.1 hd).1
    rw [flatten_len hszB,List.length_map,hlen] at this; exact this
   rw [List.map_append,List.flatten_append] at hd
   have hfl:(xs.map e).flatten.length=xs.length * sz:=by rw [flatten_len hszA,List.length_map]
   by_cases hkx:k < xs.length * sz
   ·rw [List.getElem?_append_left (by omega)] at hd
    rw [List.getElem?_append_left (by omega)]
    simp only [olds,List.getElem?_map,List.getElem?_range hkx]
    exact (hgA k d hd).mono (fun _ _ h => .inl h) hcell
   ·rw [List.getElem?_append_right (by omega),hfl] at hd
    rw [List.getElem?_append_right (by omega),hol]
    have:k - xs.length * sz < ys.length * sz:=by rw [Nat.add_mul] at hk; omega
    simp only [news,List.getElem?_map,List.getElem?_range this]
    exact (hf _ d hd).mono (fun _ _ h => .inl h) hcell)
  rw [List.length_map,hlen] at this
  exact this
end
end Go.Proofs.Vx
namespace Go.Proofs.Vx
theorem nilH {α τ:Type} {xs:List α} {A B:Option τ} {r:τ} (hx:xs=[]) (H:B=some r) (e:xs=[]→A=B):A=some r:=(e hx).trans H
end Go.Proofs.Vx
namespace Go.Proofs.Vx
open Go Go.RowKit
variable [Glo]
theorem VOk.idxByte {P:Program} {o:Oper} {σ:St} {g x y:Operand} {ts:Array TypeId} {f:Nat} {fn:Func} {s:List UInt8} {c:Int} (ho:o.op=.call { callee:=.value g,args:=#[x,y],argTypes:=ts }) (hg:σ.ev g=.clo f [])
  (hf:P.funcs[f]? =some fn) (h1:(fn.name == "runtime.NumGoroutine")=false) (hb:fn.body.isNone=true) (hn:Extern.findNext fn=none) (he:Extern.find fn=some Extern.BytealgIndexByte.indexByte)
  (hx:σ.ev x=S s) (hy:σ.ev y=.v (.int .u8 c)):VOk P o σ (.v (.int .i64 (Lib.indexByte s c.toNat.toUInt8))):=by
 intro cx ι β a w hi hr
 have hgg:=hr g
 rw [hg] at hgg
 obtain⟨vs,hv,hl,_⟩:=hgg.clo_inv
 have hvs:vs=#[]:=Array.eq_empty_of_size_eq_zero (by simpa using hl)
 subst hvs
 have hxv:=ev_v hr hx
 have hyv:=ev_v hr hy
 have:=run_callFunc_extern (P:=P) hf h1 hb hn he #[.string (ba s),.int .u8 c] w
 refine⟨_,?_,.v _⟩
 have hd:(ba s).data.toList=s:=by simp [ba]
 simp [execOp,ho,resolve,hv,Deferred.ofValue,invoke,hxv,hyv,this,Lib.run_indexByteString,hd]
end Go.Proofs.Vx
