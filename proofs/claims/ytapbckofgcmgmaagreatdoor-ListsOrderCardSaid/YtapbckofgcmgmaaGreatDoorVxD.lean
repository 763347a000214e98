import Derived.Test.YtapbckofgcmgmaaGreatDoorVxC
namespace Go.Proofs.Vx
open Go Go.RowKit
set_option linter.unusedSectionVars false
variable [Glo]
def szOf (P:Program) (t:TypeId):Option Nat:=(P.info? t).map (·.size)
def bytesOf (P:Program) (t:TypeId):Option Nat:=(P.info? t).map (·.bytes)
def zeroOf (P:Program) (t:TypeId):Option Value:=(P.info? t).bind (·.zero)
def aggB:TypeDesc→Bool
 | .struct _ | .array _ _ => true
 | _ => false
theorem run_sizeOf' {P:Program} {t:TypeId} {k:Nat} (h:szOf P t=some k) (w:World):(sizeOf t).run P w=.ok k w:=by
 unfold szOf at h
 cases hi:P.info? t with
 | none => simp [hi] at h
 | some i => rw [hi] at h; simp at h; subst h; simp [sizeOf,typeInfo,hi]
theorem run_isAgg' {P:Program} {t:TypeId} {d:TypeDesc} (h:P.underlying t=some d) (w:World):(isAgg t).run P w=.ok (aggB d) w:=by
 simp only [isAgg,Sem.run_bind,run_underlying h,Result.andThen_ok]
 cases d <;> rfl
theorem run_zeroValue' {P:Program} {t:TypeId} {z:Value} (h:zeroOf P t=some z) (w:World):(zeroValue t).run P w=.ok z w:=by
 unfold zeroOf at h
 cases hi:P.info? t with
 | none => simp [hi] at h
 | some i => rw [hi] at h; simp at h; simp [zeroValue,typeInfo,hi,h]
theorem flatten_at {α:Type} {sz:Nat}:∀ {rows:List (List α)} (_:∀ r ∈ rows,r.length=sz) (i:Nat) (r:List α) (_:rows[i]? =some r) (j:Nat),j < sz→rows.flatten[i * sz + j]? =r[j]?
 | [],_,i,r,h,_,_ => by simp at h
 | x :: rows,hs,0,r,h,j,hj => by
  simp at h; subst h
  have:=hs x (by simp)
  rw [List.flatten_cons,Nat.zero_mul,Nat.zero_add,List.getElem?_append_left (by omega)]
 | x :: rows,hs,i + 1,r,h,j,hj => by
  simp at h
  have hx:=hs x (by simp)
  have:=flatten_at (fun r hr => hs r (List.mem_cons_of_mem _ hr)) i r h j hj
  rw [List.flatten_cons,List.getElem?_append_right (by rw [Nat.succ_mul]; omega),← this]
  congr 1; rw [Nat.succ_mul]; omega
theorem flatten_len {α:Type} {sz:Nat}:∀ {rows:List (List α)} (_:∀ r ∈ rows,r.length=sz),rows.flatten.length=rows.length * sz
 | [],_ => by simp
 | x :: rows,hs => by
  rw [List.flatten_cons,List.length_append,hs x (by simp),flatten_len (fun r hr => hs r (List.mem_cons_of_mem _ hr)),List.length_cons,Nat.succ_mul,Nat.add_comm]
theorem flatten_drop {α:Type} {sz:Nat}:∀ {rows:List (List α)} (_:∀ r ∈ rows,r.length=sz) (i:Nat),(rows.drop i).flatten=rows.flatten.drop (i * sz)
 | [],_,i => by simp
 | x :: rows,_,0 => by simp
 | x :: rows,hs,i + 1 => by
  have hx:=hs x (by simp)
  have e:(i + 1) * sz=x.length + i * sz:=by rw [Nat.succ_mul,hx,Nat.add_comm]
  rw [List.drop_succ_cons,flatten_drop (fun r hr => hs r (List.mem_cons_of_mem _ hr)) i,List.flatten_cons,e,List.drop_length_add_append]
theorem flatten_take {α:Type} {sz:Nat}:∀ {rows:List (List α)} (_:∀ r ∈ rows,r.length=sz) (i:Nat),(rows.take i).flatten=rows.flatten.take (i * sz)
 | [],_,i => by simp
 | x :: rows,_,0 => by simp
 | x :: rows,hs,i + 1 => by
  have hx:=hs x (by simp)
  have e:(i + 1) * sz=x.length + i * sz:=by rw [Nat.succ_mul,hx,Nat.add_comm]
  rw [List.take_succ_cons,List.flatten_cons,flatten_take (fun r hr => hs r (List.mem_cons_of_mem _ hr)) i,List.flatten_cons,e,List.take_length_add_append]
def L {α:Type} (sz:Nat) (e:α→List D) (xs:List α):D:=.list sz (xs.map e)
def rd {α:Type} [Inhabited α] (xs:List α) (i:Int):α:=xs.getD i.toNat default
def sl {α:Type} (xs:List α) (l h:Int):List α:=(xs.drop l.toNat).take (h.toNat - l.toNat)
section
variable {P:Program} {n:Nat} {o:Oper} {σ:St}
theorem list_row {ι:Nat→Nat→Prop} {w:World} {sz:Nat} {rows:List (List D)} {i:Nat} {r:List D} (hi:rows[i]? =some r) {A:Option Addr} {cap:Nat} (hA:A=none→cap=0) (hcap:rows.length ≤ cap) (hs:∀ a,A=some a→rows ≠ []→a.spot=none)
  (hsz:∀ r ∈ rows,r.length=sz) {f:Nat→Value} (hc:∀ a,A=some a→∀ k,k < rows.length * sz→w.cell? ⟨a.block,a.off + k,none⟩=some (f k) ∧ (f k).oneCell'=true ∧ ι a.block (a.off + k))
  (hr:∀ (k:Nat) d,rows.flatten[k]? =some d→Pu ι w d (f k)):∃ a,A=some a ∧ Pu ι w (.fp r 0) (.pointer (some (a.add (i * sz)))):=by
 have hlt:i < rows.length:=(List.getElem?_eq_some_iff.1 hi).1
 cases A with
 | none => have:=hA rfl; omega
 | some a =>
  refine⟨a,rfl,?_⟩
  obtain⟨b,off,spot⟩:=a
  obtain rfl:spot=none:=hs _ rfl (by rintro rfl; simp at hlt)
  rw [Addr.add_lit]
  have hrl:=hsz r (List.mem_of_getElem? hi)
  refine .fp r 0 b (off + i * sz) (fun k => f (i * sz + k)) (fun k hk => ?_) (fun k d hd => ?_)
  ·have:=hc _ rfl (i * sz + k) (by have:(i + 1) * sz ≤ rows.length * sz:=Nat.mul_le_mul_right _ hlt; rw [Nat.succ_mul] at this; omega)
   simpa [Nat.add_assoc] using this
  ·exact hr _ _ ((flatten_at hsz i r hi k (by have:=(List.getElem?_eq_some_iff.1 hd).1; omega)).trans hd)
theorem VOk.indexAddr {ty elem:TypeId} {x y:Operand} {sz:Nat} {rows:List (List D)} {k:IntKind} {i:Int} {r:List D} (ho:o.op=.indexAddr ty x y) (ht:P.underlying ty=some (.slice elem)) (hz:szOf P elem=some sz)
  (hx:σ.ev x=.list sz rows) (hy:σ.ev y=.v (.int k i)) (h:0 ≤ i) (hi:rows[i.toNat]? =some r):VOk P o σ (.fp r 0):=
 fun _ _ _ ac w _ hr => by
  have hxx:=hr x
  rw [hx] at hxx
  obtain⟨A,cap,hv,hcap,hA,hs,hsz,f,hc,hf⟩:=hxx.list_inv
  obtain⟨a,rfl,hR⟩:=list_row hi hA hcap hs hsz hc hf
  have hlt:i < (rows.length:Int):=by have:=(List.getElem?_eq_some_iff.1 hi).1; omega
  refine⟨_,?_,.pu hR⟩
  simp [execOp,ho,hv,ev_v hr hy,Instr.indexAt,asIntOf,run_underlying ht,run_sizeOf' hz,h,hlt]
theorem VOk.indexL {α:Type} [Inhabited α] {ty elem:TypeId} {x y:Operand} {sz:Nat} {e:α→List D} {xs:List α} {k:IntKind} {i:Int} (ho:o.op=.indexAddr ty x y) (ht:P.underlying ty=some (.slice elem)) (hz:szOf P elem=some sz)
  (hx:σ.ev x=L sz e xs) (hy:σ.ev y=.v (.int k i)) (h:0 ≤ i ∧ i < (xs.length:Int)):VOk P o σ (.fp (e (rd xs i)) 0):=
 .indexAddr ho ht hz hx hy h.1 (by
  have:i.toNat < xs.length:=by omega
  simp [rd,this])
theorem VOk.fieldFp {s ft:TypeId} {x:Operand} {f fo m off:Nat} {cells:List D} {fs:Array Field} (ho:o.op=.fieldAddr s x f) (ht:P.underlying s=some (.struct fs)) (hf:(fs[f]?).map (fun f => (f.type,f.offset))=some (ft,fo))
  (hz:szOf P ft=some (m + 1)) (hx:σ.ev x=.fp cells off):VOk P o σ (.fp cells (off + fo)):=
 fun _ _ _ ac w _ hr => by
  have hxx:=hr x
  rw [hx] at hxx
  obtain⟨b,of,g,hv,hc,hg⟩:=hxx.fp_inv
  cases hfd:fs[f]? with
  | none => simp [hfd] at hf
  | some fd =>
   rw [hfd] at hf
   simp at hf
   obtain⟨rfl,rfl⟩:=hf
   refine⟨.pointer (some ⟨b,of + (off + fd.offset),none⟩),?_,.pu (.fp cells _ b of g hc hg)⟩
   simp [execOp,ho,hv,Instr.fieldAt,run_underlying ht,hfd,Instr.sureAddr,fieldPlace,run_sizeOf' hz,Addr.add_lit,Nat.add_assoc]
theorem VOk.loadFp {ty:TypeId} {x:Operand} {off:Nat} {cells:List D} {d:D} {dc:TypeDesc} (ho:o.op=.load ty x) (ht:P.underlying ty=some dc) (ha:aggB dc=false) (hx:σ.ev x=.fp cells off) (hd:cells[off]? =some d):VOk P o σ d:=
 fun _ _ _ ac w _ hr => by
  have hxx:=hr x
  rw [hx] at hxx
  obtain⟨b,of,g,hv,hc,hg⟩:=hxx.fp_inv
  have hlt:=(List.getElem?_eq_some_iff.1 hd).1
  refine⟨g off,?_,.pu (hg _ _ hd)⟩
  simp [execOp,ho,hv,Instr.loadAt,Instr.sureAddr,loadVar,run_isAgg' ht,ha,(hc off hlt).1]
theorem VOk.loadFpAgg {ty:TypeId} {x:Operand} {off sz:Nat} {cells:List D} {dc:TypeDesc} (ho:o.op=.load ty x) (ht:P.underlying ty=some dc) (ha:aggB dc=true) (hz:szOf P ty=some sz) (hx:σ.ev x=.fp cells off) (hl:Nat.ble (off + sz) cells.length=true):VOk P o σ (.agg ((cells.drop off).take sz)):=
 fun _ _ _ ac w _ hr => by
  have hxx:=hr x
  rw [hx] at hxx
  obtain⟨b,of,g,hv,hc,hg⟩:=hxx.fp_inv
  have hlt:=Nat.le_of_ble_eq_true hl
  have hrun:=run_loadCells (P:=P) (w:=w) ⟨b,of + off,none⟩ sz (fun j => g (off + j)) (fun j hj => by rw [Addr.add_lit,Nat.add_assoc]; exact (hc _ (by omega)).1)
  refine⟨.agg ((Array.range sz).map fun j => g (off + j)),?_,?_⟩
  ·simp [execOp,ho,hv,Instr.loadAt,Instr.sureAddr,loadVar,run_isAgg' ht,ha,run_sizeOf' hz,hrun]
   rw [← Array.toList_inj]; simp [Array.toList_range]
  ·refine .agg _ _ (by simp; omega) (fun k y hy => ?_) (fun k d y hk hy => ?_)
   ·simp [Array.getElem?_map,Array.getElem?_range] at hy
    obtain⟨h1,rfl⟩:=hy
    exact (hc _ (by omega)).2.1
   ·simp [Array.getElem?_map,Array.getElem?_range] at hy
    obtain⟨h1,rfl⟩:=hy
    rw [List.getElem?_take,if_pos h1,List.getElem?_drop] at hk
    exact .pu (hg _ _ hk)
theorem VOk.nilCheckFp {x:Operand} {off:Nat} {cells:List D} (ho:o.op=.nilCheck x) (hx:σ.ev x=.fp cells off):VOk P o σ (.fp cells off):=
 fun _ _ _ ac w _ hr => by
  have hxx:=hr x
  rw [hx] at hxx
  obtain⟨b,of,g,hv,hc,hg⟩:=hxx.fp_inv
  exact⟨.pointer (some ⟨b,of + off,none⟩),by simp [execOp,ho,hv],.pu (.fp cells off b of g hc hg)⟩
theorem VOk.field {ty ft:TypeId} {x:Operand} {f fo:Nat} {cells:List D} {fs:Array Field} {dc:TypeDesc} {d:D} (ho:o.op=.field ty x f) (ht:P.underlying ty=some (.struct fs)) (hf:(fs[f]?).map (fun f => (f.type,f.offset))=some (ft,fo))
  (hft:P.underlying ft=some dc) (ha:aggB dc=false) (hx:σ.ev x=.agg cells) (hd:cells[fo]? =some d):VOk P o σ d:=
 fun _ _ _ ac w _ hr => by
  have hxx:=hr x
  rw [hx] at hxx
  obtain⟨cs,hv,hl,h1,hg⟩:=hxx.agg_inv
  cases hfd:fs[f]? with
  | none => simp [hfd] at hf
  | some fd =>
   rw [hfd] at hf
   simp at hf
   obtain⟨rfl,rfl⟩:=hf
   have hlt:=(List.getElem?_eq_some_iff.1 hd).1
   have hc:cs[fd.offset]? =some (cs[fd.offset]'(by omega)):=Array.getElem?_eq_getElem _
   refine⟨_,?_,hg _ _ _ hd hc⟩
   simp [execOp,ho,hv,Instr.field,run_underlying ht,hfd,part,run_isAgg' hft,ha,asAgg,hc]
theorem VOk.extract {x:Operand} {i:Nat} {ds:List D} {d:D} (ho:o.op=.extract x i) (hx:σ.ev x=.tup ds) (hd:ds[i]? =some d):VOk P o σ d:=
 fun _ _ _ ac w _ hr => by
  have hxx:=hr x
  rw [hx] at hxx
  obtain⟨vs,hv,hl,hg⟩:=hxx.tup_inv
  have hlt:=(List.getElem?_eq_some_iff.1 hd).1
  have hc:vs[i]? =some (vs[i]'(by omega)):=Array.getElem?_eq_getElem _
  exact⟨_,by simp [execOp,ho,hv,Instr.extract,hc],hg _ _ _ hd hc⟩
theorem VOk.lenList {x:Operand} {ty elem:TypeId} {sz:Nat} {rows:List (List D)} (ho:o.op=.call { callee:=.builtin .len,args:=#[x],argTypes:=#[ty] }) (ht:P.underlying ty=some (.slice elem))
  (hx:σ.ev x=.list sz rows):VOk P o σ (.v (.int .i64 (rows.length:Int))):=
 .plain fun _ _ _ ac w _ hr => by
  have hxx:=hr x
  rw [hx] at hxx
  obtain⟨A,cap,hv,_⟩:=hxx.list_inv
  simp [execOp,ho,hv,resolve,invoke,builtin,Builtin.len_,run_underlying ht,goInt]
theorem VOk.lenL {α:Type} {e:α→List D} {xs:List α} {x:Operand} {ty elem:TypeId} {sz:Nat} (ho:o.op=.call { callee:=.builtin .len,args:=#[x],argTypes:=#[ty] }) (ht:P.underlying ty=some (.slice elem))
  (hx:σ.ev x=L sz e xs):VOk P o σ (.v (.int .i64 (xs.length:Int))):=by
 have h:=VOk.lenList (P:=P) ho ht hx
 rwa [List.length_map] at h
theorem VOk.min2 {x y:Operand} {ts:Array TypeId} {k j:IntKind} {a b:Int} (ho:o.op=.call { callee:=.builtin .min,args:=#[x,y],argTypes:=ts }) (hx:σ.ev x=.v (.int k a)) (hy:σ.ev y=.v (.int j b)) :
  VOk P o σ (.v (.int k (if b < a then b else a))):=
 .plain fun _ _ _ ac w _ hr => by simp [execOp,ho,ev_v hr hx,ev_v hr hy,resolve,invoke,builtin,Builtin.min_,Builtin.min2]
def loI (σ:St):Option Operand→Option Int
 | none => some 0
 | some x => match σ.ev x with | .v (.int _ i) => some i | _ => none
def hiI (σ:St) (len:Int):Option Operand→Option Int
 | none => some len
 | some x => match σ.ev x with | .v (.int _ i) => some i | _ => none
theorem ev_int {ι w ρ} {a:Ea} (hr:∀ x:Operand,R ι w ρ (σ.ev x) (a.eval x)) {x:Operand} {i:Int} (h:(match σ.ev x with | .v (.int _ i) => some i | _ => none)=some i):∃ k,a.eval x=.int k i:=by
 split at h
 ·rename_i k j hx
  cases h
  exact⟨k,ev_v hr hx⟩
 ·cases h
theorem run_bounds {ι w ρ} {a:Ea} (hr:∀ x:Operand,R ι w ρ (σ.ev x) (a.eval x)) {lo hi:Option Operand} {l h:Int} (isl:Bool) (len cap:Nat) (hlo:loI σ lo=some l) (hhi:hiI σ len hi=some h) (hb:0 ≤ l ∧ l ≤ h ∧ h ≤ (cap:Int)) (w':World) :
  (Instr.sliceBounds isl len cap (lo.map a.eval) (hi.map a.eval) none).run P w'=.ok (l.toNat,h.toNat,cap) w':=by
 have h0:0 ≤ h:=by omega
 have e:(h.toNat:Int)=h:=by omega
 cases lo with
 | none =>
  cases hi with
  | none => simp [loI,hiI] at hlo hhi; subst hlo; subst hhi; simp [Instr.sliceBounds]
  | some y =>
   obtain⟨k,hk⟩:=ev_int hr hhi
   simp [loI] at hlo; subst hlo
   simp [Instr.sliceBounds,Instr.sliceBound,hk,asIntOf,h0,hb.2.2]
 | some x =>
  obtain⟨kx,hx⟩:=ev_int hr hlo
  cases hi with
  | none =>
   simp [hiI] at hhi; subst hhi
   simp [Instr.sliceBounds,Instr.sliceBound,hx,asIntOf,hb.1,hb.2.1]
  | some y =>
   obtain⟨k,hk⟩:=ev_int hr hhi
   simp [Instr.sliceBounds,Instr.sliceBound,hk,hx,asIntOf,h0,hb.2.2,hb.1,e,hb.2.1]
theorem ba_extract (s:List UInt8) (l h:Nat):(ba s).extract l h=ba ((s.drop l).take (h - l)):=by
 apply ByteArray.ext
 simp [ba,ByteArray.data_extract]
theorem VOk.sliceStr {ty:TypeId} {x:Operand} {lo hi:Option Operand} {s:List UInt8} {l h:Int} (ho:o.op=.slice ty x lo hi none) (ht:P.underlying ty=some .string) (hx:σ.ev x=S s) (hlo:loI σ lo=some l) (hhi:hiI σ s.length hi=some h)
  (hb:0 ≤ l ∧ l ≤ h ∧ h ≤ (s.length:Int)):VOk P o σ (S (sl s l h)):=
 .plain fun _ _ _ ac w _ hr => by
  have hbr:=run_bounds (P:=P) hr false s.length s.length hlo hhi hb w
  simp only [execOp,ho,ev_v hr hx,Instr.sliceAt,Instr.slice,run_underlying ht,Sem.run_bind,Sem.run_pure,Result.andThen_ok,ba_size,Option.map_none,Option.isSome_none,Bool.false_eq_true,if_false,hbr,ba_extract,sl]
theorem VOk.sliceList {ty elem:TypeId} {x:Operand} {lo hi:Option Operand} {sz:Nat} {rows:List (List D)} {l h:Int} (ho:o.op=.slice ty x lo hi none) (ht:P.underlying ty=some (.slice elem)) (hz:szOf P elem=some sz)
  (hx:σ.ev x=.list sz rows) (hlo:loI σ lo=some l) (hhi:hiI σ rows.length hi=some h) (hb:0 ≤ l ∧ l ≤ h ∧ h ≤ (rows.length:Int)):VOk P o σ (.list sz (sl rows l h)):=
 fun _ _ _ ac w _ hr => by
  have hxx:=hr x
  rw [hx] at hxx
  obtain⟨A,cap,hv,hcap,hA,hs,hsz,f,hc,hf⟩:=hxx.list_inv
  have hbr:=run_bounds (P:=P) hr true rows.length cap hlo hhi ⟨hb.1,hb.2.1,by omega⟩ w
  have hlen:(sl rows l h).length=h.toNat - l.toNat:=by simp [sl]; omega
  refine⟨.slice (if cap=l.toNat then A else A.map (·.add (l.toNat * sz))) (h.toNat - l.toNat) (cap - l.toNat),?_,?_⟩
  ·simp only [execOp,ho,hv,Instr.sliceAt,Instr.slice,run_underlying ht,Sem.run_bind,Sem.run_pure,Result.andThen_ok,Option.map_none,hbr,run_sizeOf' hz]
  ·cases A with
   | none =>
    have h0:=hA rfl
    have hr0:rows=[]:=List.eq_nil_of_length_eq_zero (by omega)
    subst hr0
    have:sl ([]:List (List D)) l h=[]:=by simp [sl]
    have e1:h.toNat - l.toNat=0:=by simp at hb; omega
    rw [this,e1]
    have:(if cap=l.toNat then none else Option.map (fun a:Addr => a.add (l.toNat * sz)) none)=(none:Option Addr):=by split <;> rfl
    rw [this]
    exact .pu <| .listNil sz none _ (fun _ => by omega)
   | some a =>
    by_cases hrn:rows=[]
    ·subst hrn
     have:sl ([]:List (List D)) l h=[]:=by simp [sl]
     have e1:h.toNat - l.toNat=0:=by simp at hb; omega
     rw [this,e1]
     split
     ·exact .pu <| .listNil sz _ _ (fun h => by cases h)
     ·exact .pu <| .listNil sz _ _ (fun h => by cases h)
    obtain⟨b,off,spot⟩:=a
    obtain rfl:spot=none:=hs _ rfl hrn
    by_cases he:cap=l.toNat
    ·rw [if_pos he]
     have:sl rows l h=[]:=List.eq_nil_of_length_eq_zero (by rw [hlen]; omega)
     have e1:h.toNat - l.toNat=0:=by omega
     rw [this,e1]
     exact .pu <| .listNil sz _ _ (fun h => by cases h)
    ·rw [if_neg he,← hlen]
     simp only [Option.map_some,Addr.add_lit]
     have hsz':∀ r ∈ sl rows l h,r.length=sz:=fun r hr => hsz r (List.mem_of_mem_drop (List.mem_of_mem_take hr))
     have hfl:(sl rows l h).flatten=(rows.flatten.drop (l.toNat * sz)).take ((h.toNat - l.toNat) * sz):=by
      rw [sl,flatten_take (fun r hr => hsz r (List.mem_of_mem_drop hr)),flatten_drop hsz]
     refine .pu <| .list sz _ b _ _ (fun k => f (l.toNat * sz + k)) (by rw [hlen]; omega) hsz' (fun k hk => ?_) (fun k d hd => ?_)
     ·rw [hlen,Nat.sub_mul] at hk
      have:h.toNat * sz ≤ rows.length * sz:=Nat.mul_le_mul_right _ (by omega)
      have:=hc _ rfl (l.toNat * sz + k) (by omega)
      simpa [Nat.add_assoc] using this
     ·rw [hfl,List.getElem?_take] at hd
      split at hd
      ·rw [List.getElem?_drop] at hd; exact hf _ _ hd
      ·cases hd
theorem map_sl {α β:Type} (e:α→β) (xs:List α) (l h:Int):sl (xs.map e) l h=(sl xs l h).map e:=by simp [sl,List.map_drop,List.map_take]
theorem VOk.sliceL {α:Type} {e:α→List D} {xs:List α} {ty elem:TypeId} {x:Operand} {lo hi:Option Operand} {sz:Nat} {l h:Int} (ho:o.op=.slice ty x lo hi none) (ht:P.underlying ty=some (.slice elem)) (hz:szOf P elem=some sz)
  (hx:σ.ev x=L sz e xs) (hlo:loI σ lo=some l) (hhi:hiI σ xs.length hi=some h) (hb:0 ≤ l ∧ l ≤ h ∧ h ≤ (xs.length:Int)):VOk P o σ (L sz e (sl xs l h)):=by
 have:=VOk.sliceList (P:=P) ho ht hz hx hlo (by simpa using hhi) (by simpa using hb)
 rwa [map_sl] at this
end
end Go.Proofs.Vx
