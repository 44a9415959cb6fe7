/- Parts VcS, VcK, Blks, Flow, VcL, VcIn, VcM of the proof, put together. -/
import Derived.Test.YtfbfpnfgabamfaaGreatM2
import Derived.Great.BuildSlice
import Derived.Orders
import Derived.OrdersHeld
import Derived.OrdersIn
import Derived.TacticsIn
import Derived.RangeFuncLeaves
namespace Go.Proofs.YtfbfpnfgabamfaaGreat
set_option linter.unusedSimpArgs false
set_option linter.unusedVariables false
open Go.RowKit
section
variable {P:Program} {w w':World} {F F':Nat→Prop} {ρ ρ':Nat→Option Value} {H:Hp} {L:List AObj} {ty:TypeId} {n:Nat}
def rowOfK (size:Nat) (x:AV) (k:List D→Prop):Prop:=
 match x with
 | .d (.v u)=>oneV u (eqK size 1 (k [.v u]))
 | .d (.sl s r)=>eqK size 1 (k [.sl s r])
 | .d (.agg ds)=>match bigB size with
  |true=>ds.length=size∧k ds
  |false=>takeK ds size fun l=>lenK ds size (k l)
 |_=>False
theorem rowOfK_out {size:Nat} {x:AV} {k:List D→Prop} (h:rowOfK size x k):∃ r,k r∧r.length=size∧∀ w F ρ v,RA w F ρ x v→v.cells.size=size∧RDs w F r v.cells.toList:=by
 unfold rowOfK at h
 split at h
 ·obtain⟨h1,h2,h3⟩:=oneV_out h
  obtain⟨e,h4⟩:=eqK_out h3
  exact⟨_,h4,e.symm,fun w F ρ v hr=>by have:=hr.v_out;subst this;rw[h2];exact⟨e.symm,.cons (.v _) h1 .nil⟩⟩
 ·obtain⟨e,h4⟩:=eqK_out h
  exact⟨_,h4,e.symm,fun w F ρ v hr=>by cases hr with|d hr=>(have hr':=hr;cases hr with|sl a b c d e' f=>exact⟨e.symm,.cons hr' rfl .nil⟩)⟩
 ·split at h
  ·refine⟨_,h.2,h.1,fun w F ρ v hr=>?_⟩
   cases hr with|d hr=>cases hr with|agg hr=>exact⟨by simpa [Value.cells] using hr.length.trans h.1,by simpa [Value.cells] using hr⟩
  ·obtain⟨h1,h2⟩:=takeK_out h
   obtain⟨h3,h4⟩:=lenK_out h2
   rw[List.take_of_length_le (by omega)] at h4
   refine⟨_,h4,h3,fun w F ρ v hr=>?_⟩
   cases hr with|d hr=>cases hr with|agg hr=>exact⟨by simpa [Value.cells] using hr.length.trans h3,by simpa [Value.cells] using hr⟩
 ·exact h.elim
def rowsOfK (size:Nat):List AV→(List (List D)→Prop)→Prop
 |[],k=>k []
 |x::r,k=>rowOfK size x fun y=>rowsOfK size r fun l=>k (y::l)
theorem rowsOfK_out {size:Nat}:∀ {xs:List AV} {k:List (List D)→Prop},rowsOfK size xs k→∃ rows,k rows∧(∀ r∈rows,r.length=size)∧rows.length=xs.length∧∀ w F ρ vs,RAs w F ρ xs vs→(∀ v∈vs,v.cells.size=size)∧RDs w F rows.flatten (vs.flatMap fun v=>v.cells.toList)
 |[],k,h=>⟨[],h,by simp,rfl,fun w F ρ vs hr=>by cases hr;exact⟨by simp,.nil⟩⟩
 |x::r,k,h=>by
  obtain⟨y,h1,h2,h3⟩:=rowOfK_out h
  obtain⟨rows,h4,h5,h6,h7⟩:=rowsOfK_out (xs:=r) h1
  refine⟨y::rows,h4,fun q hq=>(List.mem_cons.1 hq).elim (fun e=>e ▸ h2) (h5 q),by simp[h6],fun w F ρ vs hr=>?_⟩
  cases hr with|cons hr hrs=>
   obtain⟨g1,g2⟩:=h3 w F ρ _ hr
   obtain⟨g3,g4⟩:=h7 w F ρ _ hrs
   refine⟨fun v hv=>(List.mem_cons.1 hv).elim (fun e=>e ▸ g1) (g3 v),?_⟩
   rw[List.flatten_cons,List.flatMap_cons]
   exact g2.app g4
def seqB:List (Nat × Operand)→Nat→Nat→Bool
 |[],i,len=>Nat.beq i len
 |(j,_)::r,i,len=>Nat.beq j i && seqB r (i+1) len
theorem seqB_out {ev:Operand→Value}:∀ {ps:List (Nat × Operand)} {i len:Nat},seqB ps i len=true→i+ps.length=len∧(ps.map fun p=>(p.1,ev p.2))=((ps.map fun p=>ev p.2).zipIdx i).map fun x=>(x.2,x.1)
 |[],i,len,h=>⟨by simpa using Nat.eq_of_beq_eq_true h,rfl⟩
 |(j,x)::r,i,len,h=>by
  simp only[seqB,Bool.and_eq_true] at h
  have:=Nat.eq_of_beq_eq_true h.1
  subst this
  obtain⟨h1,h2⟩:=seqB_out (ev:=ev) (ps:=r) h.2
  exact⟨by simp;omega,by simp[h2]⟩
def buildSliceK (T:TypeId→TI) (t len:Nat) (ps:List (Nat × Operand)) (ev:Operand→AV) (L:List AObj) (K:Eff→AV→Prop):Prop:=
 match (T t).kind with
 | .sli=>nonK (T (T t).elem) <| posK (T t).esize <| match seqB ps 0 len && Nat.ble (len*(T t).esize) 16777216 with
  |true=>evsK ev (ps.map (·.2)) fun xs=>rowsOfK (T t).esize xs fun rows=>lenNK L fun n=>K ⟨[],[],[.sl (T t).esize rows]⟩ (.own n)
  |false=>False
 |_=>False
theorem buildSliceK_out {t len:Nat} {ps:Array (Nat × Operand)} {ev:Operand→AV} {K:Eff→AV→Prop} (h:buildSliceK (tiOf P) t len ps.toList ev L K):∃ e r,K e r∧Does P (.buildSlice t len ps) ty L L.length ((Op.operands (.buildSlice t len ps)).toList.map ev) e r:=by
 unfold buildSliceK at h
 split at h
 ·rename_i hk
  obtain⟨he,h⟩:=nonK_out h
  obtain⟨hp,h⟩:=posK_out h
  split at h
  ·rename_i hsq
   simp only[Bool.and_eq_true,Nat.ble_eq] at hsq
   obtain⟨rows,h1,h2,h3,h4⟩:=rowsOfK_out (evsK_out h)
   refine⟨_,_,natK_iff.1 h1,fun o H F ρ w ev' ho ht En hrs hn hx=>?_⟩
   have hops:(Op.operands (.buildSlice t len ps)).toList=ps.toList.map (·.2):=by simp[Op.operands]
   rw[hops] at hx
   have hn0:H L.length=none:=by simpa using hn 0 (by simp)
   obtain⟨i0,z,g1,g2,g3,g4,g5,g6,_,_⟩:=ti_elem hk hp he
   obtain⟨q1,q2⟩:=seqB_out (ev:=ev') hsq.1
   obtain⟨q3,q4⟩:=h4 w F ρ _ hx
   rw[List.map_map] at q3 q4
   have hlen:(List.map (ev'∘fun x=>x.snd) ps.toList).length=len:=by simp;simpa using q1
   have hrl:rows.length=len:=by rw[h3];simp;simpa using q1
   have hvs:ps.toList.map (fun p=>ev' p.2)=List.map (ev'∘fun x=>x.snd) ps.toList:=rfl
   rw[hvs] at q2
   generalize List.map (ev'∘fun x=>x.snd) ps.toList=vs at q2 q3 q4 hlen
   have hbase:∃ cells:Array Value,cells.toList=(vs.flatMap fun v=>v.cells.toList)∧(Instr.buildSlice t len (ps.map fun (i,x)=>(i,ev' x))).run P w=.ok (.slice (some ⟨w.heap.size,0,none⟩) len len) (w.alloc (.cells cells (tiOf P t).elem)):=by
    rcases Nat.eq_zero_or_pos len with hz|hz
    ·have hv:vs=[]:=List.eq_nil_of_length_eq_zero (by omega)
     subst hv
     refine⟨#[],rfl,?_⟩
     have hps:ps=#[]:=by
      have:=q1;rw[hz] at this;simp at this;exact this
     subst hps
     subst hz
     simp[Instr.buildSlice,run_underlying g1,sizeOf,typeInfo,g2,newRow,Instr.fill,Array.range_zero']
    ·refine⟨(vs.flatMap fun v=>v.cells.toList).toArray,by simp,run_buildSlice w t _ len _ _ i0 z g1 g2 g3 (by rw[g4];have:=hsq.2;omega) (by rw[g4];exact Nat.ne_of_gt (Nat.mul_pos hz hp)) ?_⟩
     have:=Great.fill_whole (s:=i0.size) (by omega) vs ((Array.range (len*i0.size)).map (z.cells[· % z.cells.size]!)) (by rw[g4];exact q3) (by simp[hlen])
     rw[←this]
     congr 1
     rw[←q2];simp
   obtain⟨cells,hc,hrun⟩:=hbase
   have hrun':(execOp ev' o).run P w=.ok (.value (.slice (some ⟨w.heap.size,0,none⟩) len len)) (w.alloc (.cells cells (tiOf P t).elem)):=by
    simp[execOp,ho,hrun]
   rw[hrun']
   have hcl:cells.size=len*(tiOf P t).esize:=by
    have:=q4.length
    rw[←hc,flat_len h2,hrl] at this
    simpa using this
   have hlm:len≤maxLen:=by
    have:len≤len*(tiOf P t).esize:=Nat.le_mul_of_pos_right _ hp
    have:=hsq.2
    unfold maxLen;omega
   have hm:∀ b,F b→(w.alloc (.cells cells (tiOf P t).elem)).heap[b]?=w.heap[b]?:=fun b hb=>Below.heap_alloc w _ b (En.fb b hb)
   have how:Ow (w.alloc (.cells cells (tiOf P t).elem)) 0 (tiOf P t).elem (tiOf P t).esize (.slice (some ⟨w.heap.size,0,none⟩) len len) len cells.toList:=Ow.lit w cells len (Nat.zero_le _) hlm hcl
   obtain⟨S1,K1,E1⟩:=En.new (w':=w.alloc (.cells cells (tiOf P t).elem)) (n:=L.length) (o':=.sl (tiOf P t).esize rows) (h:=.slice (some ⟨w.heap.size,0,none⟩) len len) hn0 (grown_alloc w _ none) (fun b hb=>by simp[blkOf] at hb;subst hb;simp)
    ⟨cells.toList,by rw[hrl];exact how,by rw[hc];exact q4.mono hm fun _ h=>h,h2⟩
   exact⟨F,_,S1,K1,E1,.own (updF_same _ _ _)⟩
  ·exact h.elim
 ·exact h.elim
def mmK (mx:Bool) (x y:AV) (K:Eff→AV→Prop) (Q:Prop):Prop:=
 match x,y with
 | .d (.v (.int k a)),.d (.v (.int _ b))=>match mx with
  |true=>K e0 (.d (.v (.int k (if b>a then b else a))))
  |false=>K e0 (.d (.v (.int k (if b<a then b else a))))
 |_,_=>Q
theorem mmK_out {mx:Bool} {x y:AV} {K:Eff→AV→Prop} {Q:Prop} {a b:Operand} {ts:Array TypeId} (h:mmK mx x y K Q):(∃ e r,K e r∧Does P (.call { callee:=.builtin (if mx then .max else .min),args:=#[a,b],argTypes:=ts }) ty L n [x,y] e r)∨Q:=by
 unfold mmK at h
 split at h
 ·rename_i k p k' q
  have hops:Op.operands (.call { callee:=.builtin (if mx then .max else .min),args:=#[a,b],argTypes:=ts })=#[a,b]:=by simp[Op.operands,Call.operands]
  cases mx with
  |true=>exact .inl ⟨_,_,h,does_lit2 hops fun o w ev ho h1 h2=>by simp[execOp,ho,resolve,invoke,builtin,h1,h2,Builtin.max_,Builtin.max2]⟩
  |false=>exact .inl ⟨_,_,h,does_lit2 hops fun o w ev ho h1 h2=>by simp[execOp,ho,resolve,invoke,builtin,h1,h2,Builtin.min_,Builtin.min2]⟩
 ·exact .inr h
def kOf (tag:Nat):Option IntKind:=
 match tag with
 |20=>some .i8|21=>some .i16|22=>some .i32|23=>some .i64|24=>some .u8|25=>some .u16|26=>some .u32|27=>some .u64
 |_=>none
theorem ti_int {t:TypeId} {k:IntKind} (h:kOf (tiOf P t).tag=some k):P.underlying t=some (.int k):=by
 have hne:(tiOf P t).kind≠.non:=fun e=>by rw[ti_non e] at h;cases h
 obtain⟨i,d,z,hT,he⟩:=tiOf_known hne
 rw[he] at h
 cases d<;>try (cases h;done)
 rename_i k'
 have:k'=k:=by cases k'<;>(simp[tagOf,kOf] at h;exact h)
 subst this
 exact hT.und
def convK (T:TypeId→TI) (src dst:TypeId) (x:AV) (K:Eff→AV→Prop) (Q:Prop):Prop:=
 match x with
 | .d (.v (.int _ z))=>match kOf (T src).tag,kOf (T dst).tag with
  |some _,some k=>K e0 (.d (.v (.int k (k.wrap z))))
  |_,_=>Q
 |_=>Q
theorem convK_out {src dst:TypeId} {x:AV} {K:Eff→AV→Prop} {Q:Prop} {a:Operand} (h:convK (tiOf P) src dst x K Q):(∃ e r,K e r∧Does P (.convert src dst a) ty L n [x] e r)∨Q:=by
 unfold convK at h
 split at h
 ·split at h
  ·rename_i k0 k h1 h2
   refine .inl ⟨_,_,h,does_lit1 rfl fun o w ev ho h3=>?_⟩
   have q1:=ti_int h1
   have q2:=ti_int h2
   simp[execOp,ho,h3,convert,run_underlying q1,run_underlying q2,Conv.intToInt]
  ·exact .inr h
 ·exact .inr h
def placeK (T:TypeId→TI) (ti:TI) (f:Nat) (k:Nat→Nat→Prop):Prop:=
 match ti.kind with
 | .st=>pairK ti.fields f fun off ft=>posK (T ft).size (k off (T ft).size)
 | .arr=>posK ti.esize (k (f*ti.esize) ti.esize)
 |_=>False
def fldsB (T:TypeId→TI):List (Nat × Nat)→Bool
 |[]=>true
 |(_,ft)::r=>Nat.blt 0 (T ft).size && fldsB T r
def bldK (T:TypeId→TI) (ti:TI) (ev:Operand→AV):List (Nat × Operand)→List AV→(List AV→Prop)→Prop
 |[],m,k=>k m
 |(f,x)::r,m,k=>placeK T ti f fun off size=>fAV (ev x) fun y=>partsK size y fun ps=>lenK ps size <| setsK m off ps fun m'=>bldK T ti ev r m' k
def bldDK (T:TypeId→TI) (ti:TI) (ev:Operand→AV):List (Nat × Operand)→List D→(List D→Prop)→Prop
 |[],m,k=>∃ ds,m=ds∧k ds
 |(f,x)::r,m,k=>placeK T ti f fun off size=>fAV (ev x) fun y=>dataK size y fun ys=>match Nat.ble (off+size) ti.size with
  |true=>bldDK T ti ev r (sets m off ys) k
  |false=>False
def aggK (ti:TI) (p:Prop):Prop:=match ti.kind with | .st=>p | .arr=>posK ti.esize p|_=>False
theorem aggK_out {ti:TI} {p:Prop} (h:aggK ti p):(ti.kind=.st∨(ti.kind=.arr∧0<ti.esize))∧p:=by
 unfold aggK at h
 split at h
 ·rename_i hk;exact⟨.inl hk,h⟩
 ·rename_i hk;exact⟨.inr ⟨hk,(posK_out h).1⟩,(posK_out h).2⟩
 ·exact h.elim
def buildK (T:TypeId→TI) (t:TypeId) (ps:List (Nat × Operand)) (ev:Operand→AV) (K:Eff→AV→Prop):Prop:=
 nonK (T t) <| aggK (T t) <| match fldsB T (T t).fields with
  |false=>False
  |true=>match bigB (T t).size with
   |false=>mapVK (T t).zero fun m=>bldK T (T t) ev ps m fun l=>mkAggK l (K e0)
   |true=>bldDK T (T t) ev ps ((T t).zero.map .v) fun ds=>K e0 (.d (.agg ds))
theorem fold_sets:∀ (us:List Value) (cells:Array Value) (off i:Nat),(us.zipIdx i).foldl (fun cs (x:Value × Nat)=>cs.setIfInBounds (off+x.2) x.1) cells=(sets cells.toList (off+i) us).toArray
 |[],cells,off,i=>by simp[sets]
 |u::us,cells,off,i=>by
  rw[List.zipIdx_cons,List.foldl_cons,fold_sets us _ off (i+1)]
  simp[sets,Nat.add_assoc]
theorem fill_cons {place:Nat→Option (Nat × Nat)} {cells:Array Value} {f off size:Nat} {v:Value} {r:List (Nat × Value)} (h:place f=some (off,size)) (h1:v.cells.size=size) (h2:off+size≤cells.size) :
  Instr.fill place cells ((f,v)::r)=Instr.fill place (sets cells.toList off v.cells.toList).toArray r:=by
 have hf:v.cells.zipIdx.foldl (fun cs (x:Value × Nat)=>cs.setIfInBounds (off+x.2) x.1) cells=(sets cells.toList off v.cells.toList).toArray:=by
  have:=fold_sets v.cells.toList cells off 0
  rw[Nat.add_zero] at this
  rw[←this,←Array.foldl_toList]
  simp
 simp only[Instr.fill,h]
 have hc:(v.cells.size≠size || decide (off+v.cells.size>cells.size))=false:=by simp[h1];omega
 rw[if_neg (by rw[hc];simp)]
 rw[←hf]
theorem bldK_out {T:TypeId→TI} {ti:TI} {place:Nat→Option (Nat × Nat)} (hpl:∀ f (k:Nat→Nat→Prop),placeK T ti f k→∃ off size,place f=some (off,size)∧0<size∧k off size) {ev:Operand→AV} {k:List AV→Prop} :
  ∀ {ps:List (Nat × Operand)} {m:List AV},bldK T ti ev ps m k→∃ m',k m'∧∀ (w:World) (F:Nat→Prop) (ρ:Nat→Option Value) (ev':Operand→Value) (cells:Array Value),(∀ p∈ps,RA w F ρ (ev p.2) (ev' p.2))→RAs w F ρ m cells.toList→(∀ v∈cells.toList,v.oneCell'=true) →
   ∃ cells',Instr.fill place cells (ps.map fun p=>(p.1,ev' p.2))=some cells'∧RAs w F ρ m' cells'.toList∧∀ v∈cells'.toList,v.oneCell'=true
 |[],m,h=>⟨m,h,fun w F ρ ev' cells _ hr ho=>⟨cells,rfl,hr,ho⟩⟩
 |(f,x)::r,m,h=>by
  obtain⟨off,size,h1,hpos,h2⟩:=hpl _ _ h
  obtain⟨pl,h3,h4⟩:=partsK_out (fAV_iff.1 h2)
  obtain⟨h5,h6⟩:=lenK_out h3
  have hle:=setsK_le h6
  have h7:=setsK_val h6
  obtain⟨m',hk,hr'⟩:=bldK_out hpl (ps:=r) h7
  refine⟨m',hk,fun w F ρ ev' cells hev hr ho=>?_⟩
  obtain⟨g1,g2⟩:=h4 w F ρ (ev' x) (hev (f,x) (List.mem_cons_self ..))
  have g3:=g1.length
  have g4:=hr.length
  have hsz:(ev' x).cells.size=size:=by simpa using g3.trans h5
  have hb:off+size≤cells.size:=by
   have:cells.size=m.length:=by simpa using g4
   rcases hle with e|e
   ·have e0:pl.length=0:=by rw[e];rfl
    omega
   ·omega
  obtain⟨cells',q2,q3,q4⟩:=hr' w F ρ ev' (sets cells.toList off (ev' x).cells.toList).toArray (fun p hp=>hev p (List.mem_cons_of_mem _ hp)) (by simpa using hr.sets g1) (fun v hv=>(mem_sets (by simpa using hv)).elim (ho v) (g2 v))
  exact⟨cells',by rw[List.map_cons,fill_cons h1 hsz hb];exact q2,q3,q4⟩
theorem bldDK_out {T:TypeId→TI} {ti:TI} {place:Nat→Option (Nat × Nat)} (hpl:∀ f (k:Nat→Nat→Prop),placeK T ti f k→∃ off size,place f=some (off,size)∧0<size∧k off size) {ev:Operand→AV} {k:List D→Prop} :
  ∀ {ps:List (Nat × Operand)} {m:List D},bldDK T ti ev ps m k→∃ ds,k ds∧∀ (w:World) (F:Nat→Prop) (ρ:Nat→Option Value) (ev':Operand→Value) (cells:Array Value),(∀ p∈ps,RA w F ρ (ev p.2) (ev' p.2))→cells.size=ti.size→RDs w F m cells.toList→∃ cells',Instr.fill place cells (ps.map fun p=>(p.1,ev' p.2))=some cells'∧RDs w F ds cells'.toList
 |[],m,h=>by
  obtain⟨ds,rfl,hk⟩:=h
  exact⟨m,hk,fun w F ρ ev' cells _ _ hr=>⟨cells,rfl,hr⟩⟩
 |(f,x)::r,m,h=>by
  obtain⟨off,size,h1,hpos,h2⟩:=hpl _ _ h
  obtain⟨ys,h3,h4,h5⟩:=dataK_out (fAV_iff.1 h2)
  split at h3
  case h_2=>exact h3.elim
  rename_i htot
  have htot:=Nat.le_of_ble_eq_true htot
  obtain⟨ds,hk,hr⟩:=bldDK_out hpl (ps:=r) h3
  refine⟨ds,hk,fun w F ρ ev' cells hev hc hm=>?_⟩
  have g1:=h5 w F ρ (ev' x) (hev (f,x) (List.mem_cons_self ..))
  have hsz:(ev' x).cells.size=size:=by simpa using g1.length.trans h4
  obtain⟨cells',q1,q2⟩:=hr w F ρ ev' (sets cells.toList off (ev' x).cells.toList).toArray (fun p hp=>hev p (List.mem_cons_of_mem _ hp)) (by simp[length_sets,hc]) (by simpa using hm.sets g1)
  exact⟨cells',by rw[List.map_cons,fill_cons h1 hsz (by rw[hc];exact htot)];exact q1,q2⟩
theorem fldsB_out {fs:List Field} (h:fldsB (tiOf P) (fs.map fun f=>(f.offset,f.type))=true):fs.mapM (fun f=>(P.info? f.type).map fun i=>(f.offset,i.size))=some (fs.map fun f=>(f.offset,(tiOf P f.type).size)):=by
 induction fs with
 |nil=>rfl
 |cons f fs ih=>
  simp only[List.map_cons,fldsB,Bool.and_eq_true,Nat.blt_eq] at h
  obtain⟨i,d,z,hT,he⟩:=tiOf_known (ti_size_pos h.1)
  have hs:(tiOf P f.type).size=i.size:=by rw[he];cases d<;>rfl
  simp[List.mapM_cons,hT.info,ih h.2,hs]
theorem buildK_out {t:TypeId} {ps:Array (Nat × Operand)} {ev:Operand→AV} {K:Eff→AV→Prop} (h:buildK (tiOf P) t ps.toList ev K):∃ e r,K e r∧Does P (.build t ps) ty L n ((Op.operands (.build t ps)).toList.map ev) e r:=by
 obtain⟨hne,h⟩:=nonK_out h
 obtain⟨i,d,z,hT,he⟩:=tiOf_known hne
 have hz:(tiOf P t).zero=z.cells.toList:=by rw[he];cases d<;>rfl
 have hsz:(tiOf P t).size=z.cells.size:=by rw[hT.size,he];cases d<;>rfl
 have hops:(Op.operands (.build t ps)).toList=ps.toList.map (·.2):=by simp[Op.operands]
 rw[hops]
 obtain⟨hka,h⟩:=aggK_out h
 split at h
 ·exact h.elim
 ·rename_i hfl

  have hpl:∃ place:Nat→Option (Nat × Nat),(∀ f (k:Nat→Nat→Prop),placeK (tiOf P) (tiOf P t) f k→∃ off size,place f=some (off,size)∧0<size∧k off size) ∧
    (∀ parts cells,Instr.fill place z.cells parts=some cells→P.built t parts=some cells):=by
   cases d with
   |struct fs=>
    have hfields:(tiOf P t).fields=fs.toList.map fun f=>(f.offset,f.type):=by rw[he]
    rw[hfields] at hfl
    have hm:=fldsB_out hfl
    refine⟨fun f=>(fs.toList.map fun f=>(f.offset,(tiOf P f.type).size)).toArray[f]?,fun f k hk=>?_,fun parts cells hf=>?_⟩
    ·unfold placeK at hk
     split at hk
     ·obtain⟨off,ft,h1,h2⟩:=pairK_out hk
      obtain⟨h3,h4⟩:=posK_out h2
      rw[hfields,List.getElem?_map] at h1
      obtain⟨fd,h5,h6⟩:=Option.map_eq_some_iff.1 h1
      simp at h6
      refine⟨off,(tiOf P ft).size,?_,h3,h4⟩
      simp at h5
      simp[h5,h6.1,h6.2]
     ·rename_i hk';rw[he] at hk';cases hk'
     ·exact hk.elim
    ·unfold Program.built
     simp only[hT.info,hT.und,hT.zero,hm]
     exact hf
   |array m e=>
    have helem:(tiOf P t).elem=e∧(tiOf P t).esize=P.cellsOf e:=by rw[he];exact⟨rfl,rfl⟩
    have hp:0<(tiOf P t).esize:=by
     rcases hka with q|q
     ·rw[he] at q;cases q
     ·exact q.2
    obtain⟨ie,g1,g2⟩:=info_of_cells helem.2.symm hp
    refine⟨fun f=>some (f*ie.size,ie.size),fun f k hk=>?_,fun parts cells hf=>?_⟩
    ·unfold placeK at hk
     split at hk
     ·rename_i hk';rw[he] at hk';cases hk'
     ·obtain⟨h3,h4⟩:=posK_out hk
      exact⟨_,_,rfl,by omega,by rw[g2];exact h4⟩
     ·exact hk.elim
    ·unfold Program.built
     simp only[hT.info,hT.und,hT.zero,g1]
     exact hf
   |_=>exfalso;rw[he] at hka;simp at hka
  obtain⟨place,hpl,hbuilt⟩:=hpl
  have fin:∀ {r:AV},K e0 r→(∀ (w:World) (F:Nat→Prop) (ρ:Nat→Option Value) (ev':Operand→Value),(∀ p∈ps.toList,RA w F ρ (ev p.2) (ev' p.2))→∃ cells',Instr.fill place z.cells (ps.toList.map fun p=>(p.1,ev' p.2))=some cells'∧RA w F ρ r (.agg cells')) →
    ∃ e r,K e r∧Does P (.build t ps) ty L n ((ps.toList.map (·.2)).map ev) e r:=by
   intro r hK hr
   refine⟨_,_,hK,does_val fun o w F ρ ev' ho _ hx=>?_⟩
   rw[hops] at hx
   have hall:∀ (l:List (Nat × Operand)),RAs w F ρ ((l.map (·.2)).map ev) ((l.map (·.2)).map ev')→∀ p∈l,RA w F ρ (ev p.2) (ev' p.2):=by
    intro l
    induction l with
    |nil=>intro _ p hp;simp at hp
    |cons q l ih=>
     intro hx p hp
     cases hx with|cons h1 h2=>
      rcases List.mem_cons.1 hp with e|e
      ·subst e;exact h1
      ·exact ih h2 p e
   obtain⟨cells',h1,h2⟩:=hr w F ρ ev' (hall _ hx)
   refine⟨.agg cells',?_,h2⟩
   have hrun:=run_build (P:=P) w t (ps.map fun (i,x)=>(i,ev' x)) cells' (hbuilt _ _ (by simpa using h1))
   simp[execOp,ho,hrun]
  split at h
  ·have h:=mapVK_out h
   obtain⟨m',h1,h2⟩:=bldK_out hpl h
   obtain⟨r,h3,h4⟩:=mkAggK_out h1
   refine fin h3 fun w F ρ ev' hev=>?_
   have hz0:RAs w F ρ ((tiOf P t).zero.map fun v=>.d (.v v)) z.cells.toList:=by
    rw[hz]
    have:=RAs.ofD (ρ:=ρ) (dv_rep (w:=w) (F:=F) hT.ones)
    rw[List.map_map] at this
    exact this
   obtain⟨cells',q1,q2,q3⟩:=h2 w F ρ ev' z.cells hev hz0 hT.ones
   exact⟨cells',q1,by have:=h4 w F ρ _ q2 q3;simpa using this⟩
  ·obtain⟨ds,h1,h2⟩:=bldDK_out hpl h
   refine fin h1 fun w F ρ ev' hev=>?_
   obtain⟨cells',q1,q2⟩:=h2 w F ρ ev' z.cells hev hsz.symm (by rw[hz];exact dv_rep hT.ones)
   exact⟨cells',q1,by have:=RA.d (ρ:=ρ) (RD.agg q2);simpa using this⟩
theorem does_makeFunc {fn:Fn} {first caps:Array Operand} {ev:Operand→AV}:Does P (.makeFunc fn first caps) ty L n ((Op.operands (.makeFunc fn first caps)).toList.map ev) e0 (.fn fn (first.toList.map ev) (caps.toList.map ev)):=does_val fun o w F ρ ev' ho _ hx=>by
 have hops:(Op.operands (.makeFunc fn first caps)).toList=first.toList++caps.toList:=by simp[Op.operands]
 rw[hops,List.map_append,List.map_append] at hx
 have sp:∀ (xs ys:List AV) (us ts:List Value),us.length=xs.length→RAs w F ρ (xs++ys) (us++ts)→RAs w F ρ xs us∧RAs w F ρ ys ts:=by
  intro xs
  induction xs with
  |nil=>intro ys us ts h hx;have:us=[]:=List.eq_nil_of_length_eq_zero h;subst this;exact⟨.nil,hx⟩
  |cons x xs ih=>
   intro ys us ts h hx
   cases us with
   |nil=>simp at h
   |cons u us=>
    cases hx with|cons h1 h2=>
     obtain⟨a,b⟩:=ih ys us ts (by simpa using h) h2
     exact⟨.cons h1 a,b⟩
 obtain⟨h1,h2⟩:=sp _ _ _ _ (by simp) hx
 refine⟨.func fn (first.map ev') (caps.map ev'),by simp[execOp,ho,Instr.makeFunc],?_⟩
 have:=RA.fn (f:=fn) h1 h2
 have e1:∀ (l:Array Operand),(l.toList.map ev').toArray=l.map ev':=fun l=>by apply Array.ext';simp
 rw[e1,e1] at this
 exact this
end
def callFK (P:Program) (E:Nat→Bool) (g:FuncId) (args:List AV) (L:List AObj) (K:Eff→AV→Prop) (Q:Prop):Prop:=
 match E g with
 |true=>lenNK L fun n=>∃ e r,CallOK P g args L n e r∧fRes r (K e)
 |false=>Q
def pickK (c x y:AV) (K:Eff→AV→Prop):Prop:=
 match c with
 | .d (.v (.bool b))=>(b=true→fAV x (K e0))∧(b=false→fAV y (K e0))
 |_=>False
theorem pickK_out {P:Program} {L:List AObj} {ty n:Nat} {c x y:AV} {a b d:Operand} {K:Eff→AV→Prop} (h:pickK c x y K):∃ e r,K e r∧Does P (.pick a b d) ty L n [c,x,y] e r:=by
 unfold pickK at h
 split at h
 ·rename_i q
  cases q with
  |true=>
   refine⟨_,_,fAV_iff.1 (h.1 rfl),does_val fun o w F ρ ev ho _ hx=>?_⟩
   obtain⟨v1,v2,v3,e,h1,h2,h3⟩:=hx.three_out
   simp[Op.operands] at e
   have:=h1.v_out
   subst this
   exact⟨v2,by simp[execOp,ho,e.1,e.2.1,asBool],h2⟩
  |false=>
   refine⟨_,_,fAV_iff.1 (h.2 rfl),does_val fun o w F ρ ev ho _ hx=>?_⟩
   obtain⟨v1,v2,v3,e,h1,h2,h3⟩:=hx.three_out
   simp[Op.operands] at e
   have:=h1.v_out
   subst this
   exact⟨v3,by simp[execOp,ho,e.1,e.2.2,asBool],h3⟩
 ·exact h.elim
def isMp (x:AV):Bool:=match x with | .mp _=>true | .rel _ _=>true|_=>false
def ptrsB (ev:Operand→AV):List (Nat × Operand)→Bool
 |[]=>false
 |(_,x)::_=>match ev x with | .ptr _ _=>true|_=>false
def opK (P:Program) (T:TypeId→TI) (E:Nat→Bool) (op:Op) (ty:TypeId) (ev:Operand→AV) (L:List AObj) (K:Eff→AV→Prop):Prop:=
 match op with
 | .move x=>fAV (ev x) (K e0)
 | .assign x=>fAV (ev x) (K e0)
 | .box t x=>objK (T t).size (ev x) fun o=>lenNK L fun n=>K ⟨[],[],[o]⟩ (.ptr n 0)
 | .alloc t=>zeroK (T t) fun o=>lenNK L fun n=>K ⟨[],[],[o]⟩ (.ptr n 0)
 | .load t a=>loadK (T t) (ev a) L K
 | .store t a x=>storeK (T t) (ev a) (ev x) L K
 | .nilCheck x=>nilCheckK (ev x) K
 | .binOp b t x y t'=>binK b (ev x) (ev y) (K e0) (otherK P (.binOp b t x y t') ty ev L K)
 | .convert src dst x=>convK T src dst (ev x) K (otherK P (.convert src dst x) ty ev L K)
 | .buildSlice t len ps=>match ptrsB ev ps.toList with
  |true=>otherK P (.buildSlice t len ps) ty ev L K
  |false=>buildSliceK T t len ps.toList ev L K
 | .build t ps=>buildK T t ps.toList ev K
 | .makeFunc fn first caps=>evsK ev first.toList fun xs=>evsK ev caps.toList fun ys=>K e0 (.fn fn xs ys)
 | .call { callee:=.builtin .max,args:=⟨[a,b]⟩,argTypes:=ts }=>mmK true (ev a) (ev b) K (otherK P (.call { callee:=.builtin .max,args:=⟨[a,b]⟩,argTypes:=ts }) ty ev L K)
 | .call { callee:=.builtin .min,args:=⟨[a,b]⟩,argTypes:=ts }=>mmK false (ev a) (ev b) K (otherK P (.call { callee:=.builtin .min,args:=⟨[a,b]⟩,argTypes:=ts }) ty ev L K)
 | .unOp u t x=>unK u (ev x) (K e0) False
 | .pick c x y=>pickK (ev c) (ev x) (ev y) K
 | .extract x i=>extractK (ev x) i K
 | .field t x f=>fieldK T t f (ev x) K
 | .fieldAddr t x f=>fieldAddrK T t f (ev x) K
 | .indexAddr t x i=>match isMp (ev x) with
  |true=>otherK P (.indexAddr t x i) ty ev L K
  |false=>indexAddrK (T t) (ev x) (ev i) L K
 | .index t x i=>indexK (T t) (T (T t).elem) (ev x) (ev i) K
 | .call { callee:=.builtin .len,args:=⟨[a]⟩,argTypes:=⟨[t]⟩ }=>match isMp (ev a) with
  |true=>otherK P (.call { callee:=.builtin .len,args:=⟨[a]⟩,argTypes:=⟨[t]⟩ }) ty ev L K
  |false=>lenBK (T t) (ev a) L K
 | .call { callee:=.value f,args:=aas,argTypes:=ats }=>match ev f with
  | .fn (.func g) first caps=>evsK ev aas.toList fun xs=>appK xs caps fun l=>appK first l fun l=>callFK P E g l L K (otherK P (.call { callee:=.value f,args:=aas,argTypes:=ats }) ty ev L K)
  |_=>False
 |op=>otherK P op ty ev L K
def entersB (P:Program) (g:FuncId):Bool:=match P.funcs[g]? with|some fn=>fn.name != "runtime.NumGoroutine" && !fn.body.isNone|none=>false
theorem run_enter {P:Program} {g:FuncId} (h:entersB P g=true) (args:Array Value) (w:World):(callFunc g args).run P w=.ok (.enter g args) w:=by
 unfold entersB at h
 cases hf:P.funcs[g]? with
 |none=>rw[hf] at h;cases h
 |some fn=>
  rw[hf] at h
  simp at h
  have hb:fn.body.isNone=false:=by have:=h.2;cases hq:fn.body<;>simp_all
  simp only[callFunc,Sem.run_bind,run_program,Result.andThen_ok,hf,hb]
  simp[h.1]
section
variable {P:Program} {w w':World} {F F':Nat→Prop} {ρ ρ':Nat→Option Value} {H:Hp} {L:List AObj} {ty:TypeId} {T:TypeId→TI} {E:Nat→Bool}
theorem callFK_out {g:FuncId} {args:List AV} {K:Eff→AV→Prop} {Q:Prop} (h:callFK P E g args L K Q):(E g=true∧∃ e r,K e r∧CallOK P g args L L.length e r)∨Q:=by
 unfold callFK at h
 split at h
 ·rename_i he
  obtain⟨e,r,h1,h2⟩:=natK_iff.1 h
  exact .inl ⟨he,e,r,fRes_out h2,h1⟩
 ·exact .inr h
theorem opK_out (hT:T=tiOf P) (hE:∀ g,E g=true→entersB P g=true) {op:Op} {ev:Operand→AV} {K:Eff→AV→Prop} (h:opK P T E op ty ev L K) :
  ∃ e r,K e r∧Does P op ty L L.length (op.operands.toList.map ev) e r:=by
 subst hT
 unfold opK at h
 split at h
 ·exact⟨_,_,fAV_iff.1 h,does_move _ _⟩
 ·exact⟨_,_,fAV_iff.1 h,does_assign _ _⟩
 ·obtain⟨o,h1,h2⟩:=objK_out h
  exact⟨_,_,natK_iff.1 h1,does_box _ _ h2⟩
 ·obtain⟨o,z,i,h1,h2,h3,h4⟩:=zeroK_out h
  exact⟨_,_,natK_iff.1 h1,does_alloc h2 h3 h4⟩
 ·exact loadK_out h
 ·exact storeK_out h
 ·exact nilCheckK_out h
 ·exact (binK_out h).elim (fun⟨r,h1,h2⟩=>⟨_,r,h1,h2⟩) otherK_out
 ·exact (convK_out h).elim id otherK_out
 ·split at h
  ·exact otherK_out h
  ·exact buildSliceK_out h
 ·exact buildK_out h
 ·exact⟨_,_,evsK_out (evsK_out h),does_makeFunc⟩
 ·exact (mmK_out (mx:=true) h).elim id otherK_out
 ·exact (mmK_out (mx:=false) h).elim id otherK_out
 ·exact (unK_out h).elim (fun⟨r,h1,h2⟩=>⟨_,r,h1,h2⟩) False.elim
 ·exact pickK_out h
 ·exact extractK_out h
 ·exact fieldK_out h
 ·exact fieldAddrK_out h
 ·split at h
  ·exact otherK_out h
  ·exact indexAddrK_out h
 ·exact indexK_out h
 ·split at h
  ·exact otherK_out h
  ·exact lenBK_out h
 ·rename_i f aas ats
  split at h
  ·rename_i g first caps hf
   rcases callFK_out (appK_out (appK_out (evsK_out h))) with⟨hg,e,r,hK,hC⟩|h
   case inr=>exact otherK_out h
   refine⟨e,r,hK,fun o H F ρ w ev' ho _ En hrs hn hx=>?_⟩
   have hops:(Op.operands (.call { callee:=.value f,args:=aas,argTypes:=ats })).toList=f::aas.toList:=by simp[Op.operands,Call.operands]
   rw[hops,List.map_cons,List.map_cons] at hx
   cases hx with|cons hfv hx=>
    rw[hf] at hfv
    generalize hvf:ev' f=vf at hfv
    cases hfv with|fn hfirst hcaps=>
     rename_i us vs
     have hrun:(execOp ev' o).run P w=.ok (.enter g (us++(aas.toList.map ev'++vs)).toArray) w:=by
      have he:=run_enter (hE g hg) (us++(aas.toList.map ev'++vs)).toArray w
      simp[execOp,ho,resolve,hvf,Deferred.ofValue,invoke]
      have e1:(us.toArray++(Array.map ev' aas++vs.toArray))=(us++(aas.toList.map ev'++vs)).toArray:=by
       apply Array.ext'
       simp
      rw[e1]
      exact he
     rw[hrun]
     exact hC H F ρ w _ En hrs hn (hfirst.app (hx.app hcaps))
  ·exact h.elim
 ·exact otherK_out h
end
def Blks (w:World) (l:List (Nat × TypeId × Array Value)):Prop:=(∀ (i g:Nat) (t:TypeId) (cs:Array Value),l[i]?=some (g,t,cs)→Blk w g t cs)∧∀ (i j:Nat) (x y:Nat × TypeId × Array Value),l[i]?=some x→l[j]?=some y→x.1=y.1→i=j
section
variable {w w':World} {l:List (Nat × TypeId × Array Value)}
theorem Blks.nil (w:World):Blks w []:=⟨fun i g t cs h=>by simp at h,fun i j x y h=>by simp at h⟩
theorem Blks.one {g:Nat} {t:TypeId} {cs:Array Value} (h:Blk w g t cs):Blks w [(g,t,cs)]:=
 ⟨fun i g' t' cs' hi=>by cases i<;>simp at hi;obtain⟨rfl,rfl,rfl⟩:=hi;exact h,fun i j x y hi hj _=>by cases i<;>cases j<;>simp at hi hj;rfl⟩
theorem Blks.get (h:Blks w l) (i:Nat) {g:Nat} {t:TypeId} {cs:Array Value} (hi:l[i]?=some (g,t,cs)):Blk w g t cs:=h.1 i g t cs hi
theorem Blks.next (h:Blks w l) (hb:Below w.heap.size w w'):Blks w' l:=⟨fun i g t cs hi=>(h.1 i g t cs hi).next hb,h.2⟩
theorem Blks.alloc (h:Blks w l) (o:Obj):Blks (w.alloc o) l:=⟨fun i g t cs hi=>(h.1 i g t cs hi).alloc o,h.2⟩
theorem Blks.drew (h:Blks w l):Blks w.drew l:=h
theorem Blks.new (h:Blks w l) (t:TypeId) (cs:Array Value):Blks (w.alloc (.cells cs t)) ((w.heap.size,t,cs)::l):=by
 refine⟨fun i g t' cs' hi=>?_,fun i j x y hi hj he=>?_⟩
 ·cases i with
  |zero=>simp at hi;obtain⟨rfl,rfl,rfl⟩:=hi;exact Blk.new _ _ _
  |succ i=>exact (h.1 i g t' cs' (by simpa using hi)).alloc _
 ·have lt:∀ (k:Nat) (z:Nat × TypeId × Array Value),l[k]?=some z→z.1<w.heap.size:=fun k z hk=>(h.1 k z.1 z.2.1 z.2.2 hk).lt
  cases i with
  |zero=>
   cases j with
   |zero=>rfl
   |succ j=>simp at hi hj;have:=lt j y hj;subst hi;simp at he;omega
  |succ i=>
   cases j with
   |zero=>simp at hi hj;have:=lt i x hi;subst hj;simp at he;omega
   |succ j=>exact congrArg Nat.succ (h.2 i j x y (by simpa using hi) (by simpa using hj) he)
theorem Blks.lt (h:Blks w l) (i:Nat) {g:Nat} {t:TypeId} {cs:Array Value} (hi:l[i]?=some (g,t,cs)):g<w.heap.size:=(h.get i hi).lt
theorem Blks.upd (h:Blks w l) (i:Nat) {g:Nat} {t:TypeId} {cs cs':Array Value} (hi:l[i]?=some (g,t,cs)) (h1:Blk w' g t cs') (h2:∀ k,k≠g→w'.heap[k]?=w.heap[k]?):Blks w' (l.set i (g,t,cs')):=by
 have hil:i<l.length:=(List.getElem?_eq_some_iff.1 hi).1
 have hfst:∀ (k:Nat) (z:Nat × TypeId × Array Value),(l.set i (g,t,cs'))[k]?=some z→∃ z',l[k]?=some z'∧z'.1=z.1:=by
  intro k z hk
  rw[List.getElem?_set] at hk
  by_cases hik:i=k
  ·subst hik;rw[if_pos rfl,if_pos hil] at hk;injection hk with hk;subst hk;exact⟨_,hi,rfl⟩
  ·rw[if_neg hik] at hk;exact⟨z,hk,rfl⟩
 refine⟨fun k g' t' c' hk=>?_,fun a b x y ha hb he=>?_⟩
 ·rw[List.getElem?_set] at hk
  by_cases hik:i=k
  ·subst hik;rw[if_pos rfl,if_pos hil] at hk;injection hk with hk;injection hk with e1 e2;injection e2 with e2 e3;subst e1;subst e2;subst e3;exact h1
  ·rw[if_neg hik] at hk
   have hne:g'≠g:=fun e=>hik (h.2 i k _ _ hi hk e.symm)
   exact (h2 g' hne).trans (h.get k hk)
 ·obtain⟨x',hx,ex⟩:=hfst a x ha
  obtain⟨y',hy,ey⟩:=hfst b y hb
  exact h.2 a b x' y' hx hy (by rw[ex,ey,he])
theorem Blks.row (h:Blks w l) (i:Nat) {g:Nat} {t:TypeId} {cs:Array Value} (hi:l[i]?=some (g,t,cs)) (cs':Array Value):Blks (w.setRow g cs') (l.set i (g,t,cs')):=
 h.upd i hi ((h.get i hi).setRow cs') fun k hk=>heap_setRow w g cs' k hk
theorem Blks.cell (h:Blks w l) (i:Nat) {g:Nat} {t:TypeId} {cs:Array Value} (hi:l[i]?=some (g,t,cs)) (k:Nat) (u:Value):Blks (w.setCell ⟨g,k,none⟩ u) (l.set i (g,t,cs.setIfInBounds k u)):=
 h.upd i hi ((h.get i hi).set_ k u) fun k' hk=>Below.heap_setCell w _ u k' hk
theorem Blks.far (h:Blks w l) {p:Addr} (hp:∀ (i g:Nat) (t:TypeId) (cs:Array Value),l[i]?=some (g,t,cs)→g≠p.block) (u:Value):Blks (w.setCell p u) l:=
 ⟨fun i g t cs hi=>(h.1 i g t cs hi).far (hp i g t cs hi) u,h.2⟩
theorem Blks.grown (h:Blks w l) {row:Option Nat} (hb:w.grownBy w' row) (hr:∀ (i g:Nat) (t:TypeId) (cs:Array Value),l[i]?=some (g,t,cs)→some g≠row):Blks w' l:=
 ⟨fun i g t cs hi=>(h.1 i g t cs hi).grown hb (hr i g t cs hi),h.2⟩
end
theorem Blk.range {w:World} {g:Nat} {t:TypeId} {cs:Array Value} (h:Blk w g t cs) (l:List Value) (hl:cs=l.toArray):w.rangeAt g 0 l:=fun j v hv=>by
 subst hl
 rw[Nat.zero_add,h.cell j]
 simpa using hv
structure Paused (p:Prop) (f:p→Unit):Prop where
 out:p
def flowOk (ops:Array Oper):Bool:=
 (List.range ops.size).all fun i=>match ops[i]? with
  |none=>true
  |some o=>(match o.op with | .select ..=>false|_=>true) && (o.after.all fun e=>!Region.binds .any e || decide (e.on<i)) &&
   (match o.guard with|none=>true|some (g,_)=>o.after.any fun e=>e.on == g && Region.binds .any e) &&
   (List.range ops.size).all fun j=>match ops[j]? with
    |none=>true
    |some p=>match p.dst with
     |none=>true
     |some k=>(i == j || o.dst != some k) && (!(o.op.operands.any fun x=>match x with | .tmp u=>u == k|_=>false) || (if j<i then o.after.any fun e=>e.on == j && Region.binds .any e else i == j || p.after.any fun e=>e.on == i && Region.binds .any e))
structure FlowAt (ops:Array Oper) (a0 aF a:Act) (l:Nat→Bool):Prop where
 defers:a.defers=a0.defers
 size:a.tmps.size=a0.tmps.size
 old:∀ k:Nat,(∀ (j:Nat) (o:Oper),ops[j]?=some o→o.dst=some k→l j=false)→a.tmps[k]?=a0.tmps[k]?
 new:∀ (j:Nat) (o:Oper) (k:Nat),ops[j]?=some o→o.dst=some k→l j=true→a.tmps[k]?=aF.tmps[k]?
def FrameOf (ops:Array Oper) (a0 aF:Act):Prop:=aF.defers=a0.defers∧aF.tmps.size=a0.tmps.size∧∀ k:Nat,(∀ (j:Nat) (o:Oper),ops[j]?=some o→o.dst≠some k)→aF.tmps[k]?=a0.tmps[k]?
def updL (l:Nat→Bool) (i:Nat):Nat→Bool:=fun j=>if j=i then true else l j
def SameL {Γ:Type} (ops:Array Oper) (F:Γ→Act) (l:Nat→Bool) (γ γ':Γ):Prop:=∀ (j:Nat) (p:Oper) (k:Nat),ops[j]?=some p→p.dst=some k→l j=true→(F γ).tmps[k]?=(F γ').tmps[k]?
theorem SameL.refl {Γ:Type} (ops:Array Oper) (F:Γ→Act) (l:Nat→Bool) (γ:Γ):SameL ops F l γ γ:=fun _ _ _ _ _ _=>rfl
def evalAt (ops:Array Oper) (aF a0:Act) (i:Nat):Operand→Value
 | .tmp k=>if ((List.range i).any fun j=>match ops[j]? with|some p=>p.dst == some k|none=>false)=true then aF.eval (.tmp k) else a0.eval (.tmp k)
 |x=>a0.eval x
def FlowStep (P:Program) {Γ:Type} (ops:Array Oper) (F:Γ→Act) (a0:Act) (G:(Nat→Bool)→Γ→World→Prop) (i:Nat) (o:Oper) (l:Nat→Bool) (γ:Γ) (w:World):Prop:=
 if Region.wanted o (yielded ops (F γ).tmps)=true then
  ∀ K:Act→World→Prop,(∀ a' w' γ',a'.defers=(F γ).defers→SameL ops F l γ γ'→(∀ d,o.dst=some d→a'.tmps[d]?=(F γ').tmps[d]?)→G (updL l i) γ' w'→K a' w')→o.upon P (F γ) K (fun _ _ _=>False) ((execOp (evalAt ops (F γ) a0 i) o).run P w)
 else (∀ d,o.dst=some d→(F γ).tmps[d]?=some undef)∧G (updL l i) γ w
section
variable {P:Program}
theorem upon_transfer {o:Oper} {a b:Act} {K K':Act→World→Prop} {Q:Exit→Act→World→Prop} (h:∀ v w',K' (b.put o.dst v) w'→K (a.put o.dst v) w')
  (hd:∀ d v w',¬K' (Act.put { b with defers:=d::b.defers } o.dst v) w') (r:Result Next) (hr:o.upon P b K' (fun _ _ _=>False) r):o.upon P a K Q r:=by
 cases r with
 |ok n w'=>
  cases n with
  |value v=>exact h _ _ hr
  |skip=>exact h _ _ hr
  |defer d=>exact absurd hr (hd _ _ _)
  |enter f args=>
   refine Calls.mono hr fun e w'' he=>?_
   cases e with
   |returned v=>exact h _ _ he
   |panicked c=>exact he.elim
   |outgrown=>obtain⟨_,_,h⟩:=he;exact h.elim
  |row s args=>exact Rows.mono hr fun v w'' he=>h _ _ he
  |_=>exact hr.elim
 |halt x w'=>cases x<;>exact hr.elim
variable {ops:Array Oper}
theorem flowOk_at (hok:flowOk ops=true) {i:Nat} {o:Oper} (hi:ops[i]?=some o) :
  (∀ cs b,o.op≠.select cs b)∧(∀ e∈o.after,Region.binds .any e=true→e.on<i)∧(∀ g b,o.guard=some (g,b)→∃ e∈o.after,e.on=g∧Region.binds .any e=true) ∧
  ∀ (j:Nat) (p:Oper) (k:Nat),ops[j]?=some p→p.dst=some k→(o.dst=some k→i=j)∧(∀ x∈o.op.operands,x=.tmp k→(j<i→∃ e∈o.after,e.on=j∧Region.binds .any e=true)∧(i<j→∃ e∈p.after,e.on=i∧Region.binds .any e=true)):=by
 have hlt:=(Array.getElem?_eq_some_iff.1 hi).1
 have h:=List.all_eq_true.1 hok i (List.mem_range.2 hlt)
 simp only[hi] at h
 obtain⟨h,h4⟩:=Bool.and_eq_true_iff.1 h
 obtain⟨h,h3⟩:=Bool.and_eq_true_iff.1 h
 obtain⟨h1,h2⟩:=Bool.and_eq_true_iff.1 h
 clear h
 refine⟨fun cs b e=>(by rw[e] at h1;cases h1),fun e he hb=>?_,fun g b hg=>?_,fun j p k hj hk=>?_⟩
 ·have:=Array.all_eq_true_iff_forall_mem.1 h2 e he
  rw[hb] at this
  simpa using this
 ·rw[hg] at h3
  obtain⟨e,he,hb⟩:=Array.any_eq_true'.1 h3
  simp only[Bool.and_eq_true,beq_iff_eq] at hb
  exact⟨e,he,hb.1,hb.2⟩
 ·have:=List.all_eq_true.1 h4 j (List.mem_range.2 (Array.getElem?_eq_some_iff.1 hj).1)
  simp only[hj,hk,Bool.and_eq_true,Bool.or_eq_true,beq_iff_eq,bne_iff_ne,ne_eq,Bool.not_eq_true'] at this
  refine⟨fun h=>this.1.resolve_right (fun hn=>hn h),fun x hx ex=>?_⟩
  rcases this.2 with h5|h5
  ·have:=(Array.any_eq_false'.1 h5) x hx
   subst ex
   simp at this
  ·refine⟨fun hji=>?_,fun hij=>?_⟩
   ·rw[if_pos hji] at h5
    obtain⟨e,he,hb⟩:=Array.any_eq_true'.1 h5
    simp only[Bool.and_eq_true,beq_iff_eq] at hb
    exact⟨e,he,hb.1,hb.2⟩
   ·rw[if_neg (by omega)] at h5
    simp only[Bool.or_eq_true,beq_iff_eq] at h5
    rcases h5 with h5|h5
    ·omega
    ·obtain⟨e,he,hb⟩:=Array.any_eq_true'.1 h5
     simp only[Bool.and_eq_true,beq_iff_eq] at hb
     exact⟨e,he,hb.1,hb.2⟩
theorem Act.eval_getElem (a:Act) (k:Nat):a.eval (.tmp k)=a.tmps[k]?.getD undef:=by simp[Act.eval]
theorem FlowAt.eval {a0 aF a:Act} {l:Nat→Bool} (hok:flowOk ops=true) (hF:FrameOf ops a0 aF) (h:FlowAt ops a0 aF a l) {i:Nat} {o:Oper} (hi:ops[i]?=some o) (hli:l i=false)
  (hw:∀ e∈o.after,Region.binds .any e=true→l e.on=true) (hcl:∀ (j:Nat) (p:Oper),ops[j]?=some p→l j=true→∀ e∈p.after,Region.binds .any e=true→l e.on=true):∀ x∈o.op.operands,a.eval x=evalAt ops aF a0 i x:=by
 intro x hx
 cases x with
 |tmp k=>
  simp only[evalAt]
  by_cases hk:∃ (j:Nat) (p:Oper),ops[j]?=some p∧p.dst=some k
  ·obtain⟨j,p,hj,hp⟩:=hk
   have hops:=((flowOk_at hok hi).2.2.2 j p k hj hp).2 _ hx rfl
   by_cases hji:j<i
   ·rw[if_pos (by rw[List.any_eq_true];exact⟨j,List.mem_range.2 hji,by simp[hj,hp]⟩)]
    obtain⟨e,he,hej,hb⟩:=hops.1 hji
    rw[Act.eval_getElem,Act.eval_getElem,h.new j p k hj hp (by rw[←hej];exact hw e he hb)]
   ·have huniq:∀ (j':Nat) (p':Oper),ops[j']?=some p'→p'.dst=some k→j'=j:=fun j' p' hj' hp'=>((flowOk_at hok hj').2.2.2 j p k hj hp).1 hp'
    have hlj:l j=false:=by
     cases hlj:l j with
     |false=>rfl
     |true=>
      exfalso
      by_cases hij:i<j
      ·obtain⟨e,he,hei,hb⟩:=hops.2 hij
       have:=hcl j p hj hlj e he hb
       rw[hei,hli] at this
       cases this
      ·obtain rfl:i=j:=by omega
       rw[hli] at hlj
       cases hlj
    rw[if_neg,Act.eval_getElem,Act.eval_getElem,h.old k (fun j' p' hj' hp'=>by rw[huniq j' p' hj' hp'];exact hlj)]
    rw[List.any_eq_true]
    rintro⟨j',hj',hm⟩
    cases hjo:ops[j']? with
    |none=>rw[hjo] at hm;cases hm
    |some p'=>
     rw[hjo] at hm
     have:=huniq j' p' hjo (by simpa using hm)
     have:=List.mem_range.1 hj'
     omega
  ·have hk':∀ (j:Nat) (o:Oper),ops[j]?=some o→o.dst≠some k:=fun j p hj hp=>hk ⟨j,p,hj,hp⟩
   rw[if_neg,Act.eval_getElem,Act.eval_getElem,h.old k (fun j p hj hp=>absurd hp (hk' j p hj))]
   rw[List.any_eq_true]
   rintro⟨j',hj',hm⟩
   cases hjo:ops[j']? with
   |none=>rw[hjo] at hm;cases hm
   |some p'=>rw[hjo] at hm;exact hk' j' p' hjo (by simpa using hm)
 |const v=>rfl
 |global g=>rfl
 |func f=>rfl
theorem FlowAt.wanted {a0 aF a:Act} {l:Nat→Bool} (hok:flowOk ops=true) (hF:FrameOf ops a0 aF) (h:FlowAt ops a0 aF a l) {i:Nat} {o:Oper} (hi:ops[i]?=some o)
  (hw:∀ e∈o.after,Region.binds .any e=true→l e.on=true):Region.wanted o (yielded ops a.tmps)=Region.wanted o (yielded ops aF.tmps):=by
 unfold Region.wanted
 cases hg:o.guard with
 |none=>rfl
 |some gb=>
  obtain⟨g,b⟩:=gb
  obtain⟨e,he,hej,hb⟩:=(flowOk_at hok hi).2.2.1 g b hg
  have hl:l g=true:=by rw[←hej];exact hw e he hb
  have:yielded ops a.tmps g=yielded ops aF.tmps g:=by
   unfold yielded
   cases hp:ops[g]? with
   |none=>rfl
   |some p=>
    cases hd:p.dst with
    |none=>simp[hd]
    |some k=>simp[hd,h.new g p k hp hd hl]
  simp only[this]
theorem put_get (a:Act) (d:Option Tmp) (v:Value) (k:Nat):(a.put d v).tmps[k]?=if d=some k∧k<a.tmps.size then some v else a.tmps[k]?:=by
 cases d with
 |none=>simp[Act.put]
 |some d=>
  simp only[Act.put,Array.getElem?_setIfInBounds,Option.some.injEq]
  by_cases h:d=k
  ·subst h
   by_cases h2:d<a.tmps.size
   ·simp[h2]
   ·simp[h2]
  ·simp[h]
theorem put_size (a:Act) (d:Option Tmp) (v:Value):(a.put d v).tmps.size=a.tmps.size:=by cases d<;>simp[Act.put]
theorem put_defs (a:Act) (d:Option Tmp) (v:Value):(a.put d v).defers=a.defers:=by cases d<;>simp[Act.put]
theorem FlowAt.put {a0 aF aF' a:Act} {l:Nat→Bool} (hok:flowOk ops=true) (h:FlowAt ops a0 aF a l) {i:Nat} {o:Oper} (hi:ops[i]?=some o) (v:Value)
  (hsz:aF.tmps.size=a0.tmps.size) (same:∀ (j:Nat) (p:Oper) (k:Nat),ops[j]?=some p→p.dst=some k→l j=true→aF.tmps[k]?=aF'.tmps[k]?)
  (hv:∀ d,o.dst=some d→(aF.put o.dst v).tmps[d]?=aF'.tmps[d]?):FlowAt ops a0 aF' (a.put o.dst v) (updL l i):=by
 refine⟨by rw[put_defs];exact h.defers,by rw[put_size];exact h.size,fun k hk=>?_,fun j p k hj hp hl=>?_⟩
 ·rw[put_get,if_neg,h.old k (fun j p hj hp=>?_)]
  ·have:=hk j p hj hp
   unfold updL at this
   split at this
   ·cases this
   ·exact this
  ·rintro⟨hd,_⟩
   have:=hk i o hi hd
   simp[updL] at this
 ·by_cases hji:j=i
  ·subst hji
   rw[hi] at hj
   injection hj with hj
   subst hj
   have:=hv k hp
   rw[put_get] at this ⊢
   rw[hp] at this ⊢
   simp only[true_and] at this ⊢
   rw[h.size,←hsz]
   by_cases hlt:k<aF.tmps.size
   ·rw[if_pos hlt] at this ⊢;exact this
   ·rw[if_neg hlt] at this ⊢
    have hs:=h.size
    rw[←this,Array.getElem?_eq_none (by omega),Array.getElem?_eq_none (by omega)]
  ·have hl':l j=true:=by simpa [updL,hji] using hl
   have hne:o.dst≠some k:=fun hd=>hji ((((flowOk_at hok hi).2.2.2 j p k hj hp).1 hd).symm)
   rw[put_get,if_neg (fun c=>hne c.1),h.new j p k hj hp hl']
   exact same j p k hj hp hl'
theorem FlowAt.end_ {a0 aF a:Act} {l:Nat→Bool} (hF:FrameOf ops a0 aF) (h:FlowAt ops a0 aF a l) (hl:∀ i,i<ops.size→l i=true):a=aF:=by
 have:a.tmps=aF.tmps:=by
  apply Array.ext_getElem?
  intro k
  by_cases hk:∃ (j:Nat) (p:Oper),ops[j]?=some p∧p.dst=some k
  ·obtain⟨j,p,hj,hp⟩:=hk
   exact h.new j p k hj hp (hl j (Array.getElem?_eq_some_iff.1 hj).1)
  ·have hk':∀ (j:Nat) (o:Oper),ops[j]?=some o→o.dst≠some k:=fun j p hj hp=>hk ⟨j,p,hj,hp⟩
   rw[h.old k (fun j p hj hp=>absurd hp (hk' j p hj)),hF.2.2 k hk']
 obtain⟨t,d⟩:=a
 obtain⟨t',d'⟩:=aF
 have h1:=h.defers
 have h2:=hF.1
 simp only at this h1 h2
 rw[this,h1,h2]
theorem countP_but (p:Nat→Bool) (i:Nat) (hp:p i=true):∀ (l:List Nat),l.Nodup→i∈l→l.countP (fun j=>p j && j != i)+1=l.countP p
 |[],_,h=>by simp at h
 |x::r,hn,h=>by
  rw[List.nodup_cons] at hn
  by_cases hx:x=i
  ·subst hx
   have:r.countP (fun j=>p j && j != x)=r.countP p:=List.countP_congr fun j hj=>by
    have:j≠x:=fun e=>hn.1 (e ▸ hj)
    simp[this]
   simp[this,hp]
  ·have:=countP_but p i hp r hn.2 (by rcases List.mem_cons.1 h with h|h;exact absurd h.symm hx;exact h)
   simp only[List.countP_cons,hx,bne_iff_ne,ne_eq,not_false_eq_true,and_true,Bool.and_eq_true]
   omega
def stepsLeft (ops:Array Oper) (listed:Array Bool):Nat:=(List.range ops.size).countP fun j=>!listed.getD j false
theorem flow_main {a0:Act} {Q:Exit→Act→World→Prop} (hok:flowOk ops=true) {Γ:Type} (F:Γ→Act) (G:(Nat→Bool)→Γ→World→Prop)
  (hF:∀ γ,FrameOf ops a0 (F γ))
  (hstep:∀ (i:Nat) (o:Oper),ops[i]?=some o→∀ (l:Nat→Bool) (γ:Γ) (w:World),G l γ w→l i=false→(∀ e∈o.after,Region.binds .any e=true→l e.on=true) →
   (∀ (j:Nat) (p:Oper),ops[j]?=some p→l j=true→∀ e∈p.after,Region.binds .any e=true→l e.on=true)→FlowStep P ops F a0 G i o l γ w)
  (hend:∀ (l:Nat→Bool) (γ:Γ) (w:World),(∀ i,i<ops.size→l i=true)→G l γ w→Q .normal (F γ) w) :
  ∀ (fuel:Nat) (listed:Array Bool) (a:Act) (w:World) (γ:Γ),listed.size=ops.size→stepsLeft ops listed=fuel →
   (∀ (j:Nat) (p:Oper),ops[j]?=some p→listed.getD j false=true→∀ e∈p.after,Region.binds .any e=true→listed.getD e.on false=true) →
   FlowAt ops a0 (F γ) a (fun j=>listed.getD j false)→G (fun j=>listed.getD j false) γ w→wpAny P .any ops Q fuel listed a w:=by
 have fin:∀ (listed:Array Bool) (a:Act) (w:World) (γ:Γ),Region.ready .any ops listed=[]→listed.size=ops.size→FlowAt ops a0 (F γ) a (fun j=>listed.getD j false)→G (fun j=>listed.getD j false) γ w→Q .normal a w:=by
  intro listed a w γ hr hsz hfl hG
  have hall:∀ n i,i<n→i<ops.size→listed.getD i false=true:=by
   intro n
   induction n with
   |zero=>intro i h;omega
   |succ n ih=>
    intro i hi hs
    by_cases hin:i<n
    ·exact ih i hin hs
    ·obtain rfl:i=n:=by omega
     cases hl:listed.getD i false with
     |true=>rfl
     |false=>
      exfalso
      have hm:i∈Region.ready .any ops listed:=by
       rw[mem_ready]
       refine⟨by rw[←hl];simp[Array.getElem?_eq_getElem (show i<listed.size by omega)],ops[i],Array.getElem?_eq_getElem hs,fun e he hb=>?_⟩
       have:=(flowOk_at hok (Array.getElem?_eq_getElem hs)).2.1 e he hb
       exact ih e.on this (by omega)
      rw[hr] at hm
      simp at hm
  have:=hfl.end_ (hF γ) (fun i hi=>hall (i+1) i (by omega) hi)
  rw[this]
  exact hend _ γ w (fun i hi=>hall (i+1) i (by omega) hi) hG
 intro fuel
 induction fuel with
 |zero=>
  intro listed a w γ hsz hleft hcl hfl hG
  have hr:Region.ready .any ops listed=[]:=by
   rw[List.eq_nil_iff_forall_not_mem]
   intro i hi
   rw[mem_ready] at hi
   obtain⟨h1,o,ho,_⟩:=hi
   have hlt:=(Array.getElem?_eq_some_iff.1 ho).1
   unfold stepsLeft at hleft
   rw[List.countP_eq_zero] at hleft
   have:=hleft i (List.mem_range.2 hlt)
   have h2:listed.getD i false=listed.getD i true:=by simp[Array.getElem?_eq_getElem (show i<listed.size by omega)]
   rw[h2,h1] at this
   simp at this
  exact⟨hr,fin listed a w γ hr hsz hfl hG⟩
 |succ fuel ih=>
  intro listed a w γ hsz hleft hcl hfl hG
  refine⟨fun hr=>fin listed a w γ hr hsz hfl hG,fun i hi=>?_⟩
  rw[mem_ready] at hi
  obtain⟨h1,o,ho,hw⟩:=hi
  have hlt:=(Array.getElem?_eq_some_iff.1 ho).1
  have hli:listed.getD i false=false:=by rw[←h1];simp[Array.getElem?_eq_getElem (show i<listed.size by omega)]
  have hset:(fun j=>(listed.setIfInBounds i true).getD j false)=updL (fun j=>listed.getD j false) i:=by
   funext j
   unfold updL
   by_cases hj:j=i
   ·subst hj;simp[show j<listed.size by omega]
   ·rw[if_neg hj,getD_set_ne false (fun e=>hj e.symm)]
  have hleft':stepsLeft ops (listed.setIfInBounds i true)=fuel:=by
   have h3:=countP_but (fun j=>!listed.getD j false) i (by rw[hli];rfl) (List.range ops.size) List.nodup_range (List.mem_range.2 hlt)
   unfold stepsLeft at hleft ⊢
   have:(fun j=>!(listed.setIfInBounds i true).getD j false)=fun j=>(!listed.getD j false) && j != i:=by
    funext j
    have:=congrFun hset j
    simp only[updL] at this
    rw[this]
    by_cases hj:j=i<;>simp[hj]
   rw[this]
   omega
  have hcl':∀ (j:Nat) (p:Oper),ops[j]?=some p→(listed.setIfInBounds i true).getD j false=true→∀ e∈p.after,Region.binds .any e=true→(listed.setIfInBounds i true).getD e.on false=true:=by
   intro j p hj hl e he hb
   have h4:=congrFun hset j
   have h5:=congrFun hset e.on
   simp only[updL] at h4 h5
   rw[h5]
   split
   ·rfl
   ·rw[h4] at hl
    split at hl
    ·rename_i hji
     subst hji
     rw[hj] at ho
     injection ho with ho
     subst ho
     exact hw e he hb
    ·exact hcl j p hj hl e he hb
  have hs:=hstep i o ho _ γ w hG hli hw hcl
  unfold wpOp
  simp only[ho]
  rw[hfl.wanted hok (hF γ) ho hw]
  unfold FlowStep at hs
  by_cases hwt:Region.wanted o (yielded ops (F γ).tmps)=true
  ·rw[if_pos hwt] at hs ⊢
   left
   have he:=execOp_congr o (flowOk_at hok ho).1 (hfl.eval hok (hF γ) ho hli hw hcl)
   unfold Oper.wp
   rw[he]
   refine upon_transfer (K':=fun a' w'=>∃ γ',a'.defers=(F γ).defers∧SameL ops F (fun j=>listed.getD j false) γ γ'∧(∀ d,o.dst=some d→a'.tmps[d]?=(F γ').tmps[d]?)∧G (updL (fun j=>listed.getD j false) i) γ' w') ?_ ?_ _ (hs _ fun a' w' γ' d1 d2 d3 d4=>⟨γ',d1,d2,d3,d4⟩)
   ·rintro v w' ⟨γ',d1,d2,d3,d4⟩
    refine ih _ _ w' γ' (by simpa using hsz) hleft' hcl' ?_ ?_
    ·rw[hset]
     exact hfl.put hok ho v (hF γ).2.1 d2 d3
    ·rw[hset];exact d4
   ·rintro d v w' ⟨γ',d1,_⟩
    rw[put_defs] at d1
    have:=congrArg List.length d1
    simp at this
  ·rw[if_neg hwt] at hs ⊢
   refine ih _ _ w γ (by simpa using hsz) hleft' hcl' ?_ ?_
   ·rw[hset]
    refine hfl.put hok ho undef (hF γ).2.1 (fun _ _ _ _ _ _=>rfl) (fun d hd=>?_)
    rw[hs.1 d hd,put_get,if_pos ⟨hd,(Array.getElem?_eq_some_iff.1 (hs.1 d hd)).1⟩]
   ·rw[hset];exact hs.2
theorem wpAny_flow {a0:Act} {w:World} {Q:Exit→Act→World→Prop} (hok:flowOk ops=true) {Γ:Type} (F:Γ→Act) (G:(Nat→Bool)→Γ→World→Prop)
  (hF:∀ γ,FrameOf ops a0 (F γ)) (γ0:Γ) (h0:G (fun _=>false) γ0 w.drew)
  (hstep:∀ (i:Nat) (o:Oper),ops[i]?=some o→∀ (l:Nat→Bool) (γ:Γ) (w:World),G l γ w→l i=false→(∀ e∈o.after,Region.binds .any e=true→l e.on=true) →
   (∀ (j:Nat) (p:Oper),ops[j]?=some p→l j=true→∀ e∈p.after,Region.binds .any e=true→l e.on=true)→FlowStep P ops F a0 G i o l γ w)
  (hend:∀ (l:Nat→Bool) (γ:Γ) (w:World),(∀ i,i<ops.size→l i=true)→G l γ w→Q .normal (F γ) w):wpAny P .any ops Q ops.size (Array.replicate ops.size false) a0 w.drew:=by
 have hl:(fun j=>(Array.replicate ops.size false).getD j false)=fun _:Nat=>false:=by
  funext j
  simp[Array.getElem?_replicate]
  split<;>rfl
 refine flow_main hok F G hF hstep hend ops.size _ a0 _ γ0 (by simp) ?_ ?_ ?_ ?_
 ·unfold stepsLeft
  have:(fun j=>!(Array.replicate ops.size false).getD j false)=fun _=>true:=by
   funext j
   rw[congrFun hl j];rfl
  rw[this]
  simp
 ·intro j p hj h
  rw[congrFun hl j] at h
  cases h
 ·rw[hl]
  exact⟨rfl,rfl,fun k _=>rfl,fun j o k _ _ h=>by cases h⟩
 ·rw[hl]
  exact h0
def putAll:List Oper→List Value→Act→Act
 |o::os,v::vs,a=>putAll os vs (a.put o.dst v)
 |_,_,a=>a
theorem putAll_defs:∀ (os:List Oper) (vs:List Value) (a:Act),(putAll os vs a).defers=a.defers∧(putAll os vs a).tmps.size=a.tmps.size
 |[],_,a=>⟨rfl,rfl⟩
 |_::_,[],a=>⟨rfl,rfl⟩
 |o::os,v::vs,a=>by
  have:=putAll_defs os vs (a.put o.dst v)
  rw[put_defs,put_size] at this
  exact this
theorem putAll_far:∀ (os:List Oper) (vs:List Value) (a:Act) (k:Nat),(∀ o∈os,o.dst≠some k)→(putAll os vs a).tmps[k]?=a.tmps[k]?
 |[],_,a,k,_=>rfl
 |_::_,[],a,k,_=>rfl
 |o::os,v::vs,a,k,h=>by
  have:=putAll_far os vs (a.put o.dst v) k (fun p hp=>h p (by simp[hp]))
  rw[put_get,if_neg (fun c=>h o (by simp) c.1)] at this
  exact this
theorem putAll_frame (ops:Array Oper) (vs:List Value) (a:Act):FrameOf ops a (putAll ops.toList vs a):=
 ⟨(putAll_defs _ _ _).1,(putAll_defs _ _ _).2,fun k hk=>putAll_far _ _ _ _ fun o ho hd=>by
  obtain⟨j,hj,he⟩:=List.getElem_of_mem ho
  exact hk j o (by rw[←Array.getElem?_toList,List.getElem?_eq_getElem hj,he]) hd⟩
def lookV:List Oper→List Value→Nat→Option Value
 |o::os,v::vs,k=>match o.dst with
  |some d=>if d=k then some v else lookV os vs k
  |none=>lookV os vs k
 |_,_,_=>none
def valOf (os:List Oper) (vs:List Value) (a0:Act):Operand→Value
 | .tmp k=>match lookV os vs k with
  |some v=>v
  |none=>a0.eval (.tmp k)
 | .const v=>v
 | .global g=>.pointer (some ⟨g,0,none⟩)
 | .func f=>.func (.func f) #[] #[]
def dstsOk:List Oper→Nat→Bool
 |[],_=>true
 |o::os,n=>(match o.dst with|none=>true|some d=>decide (d<n) && os.all fun p=>p.dst != some d) && dstsOk os n
theorem putAll_look:∀ (os:List Oper) (vs:List Value) (a:Act) (k:Nat),dstsOk os a.tmps.size=true→(putAll os vs a).tmps[k]?=match lookV os vs k with|some v=>some v|none=>a.tmps[k]?
 |[],_,a,k,_=>rfl
 |_::_,[],a,k,_=>by simp[putAll,lookV]
 |o::os,v::vs,a,k,h=>by
  simp only[dstsOk,Bool.and_eq_true] at h
  obtain⟨h1,h2⟩:=h
  have ih:=putAll_look os vs (a.put o.dst v) k (by rw[put_size];exact h2)
  cases hd:o.dst with
  |none=>
   rw[hd] at ih
   simp only[putAll,lookV,hd]
   exact ih
  |some d=>
   rw[hd] at ih h1
   simp only[Bool.and_eq_true,decide_eq_true_eq] at h1
   simp only[putAll,lookV,hd]
   by_cases hk:d=k
   ·subst hk
    rw[if_pos rfl,putAll_far os vs _ d (fun p hp=>by have:=List.all_eq_true.1 h1.2 p hp;simpa using this),put_get,if_pos ⟨rfl,h1.1⟩]
   ·rw[if_neg hk,ih,put_get,if_neg (fun c=>hk (by injection c.1))]
theorem lookV_at:∀ (os:List Oper) (vs:List Value) (n i:Nat) (o:Oper) (d:Nat),dstsOk os n=true→os[i]?=some o→o.dst=some d→lookV os vs d=vs[i]?
 |[],_,_,i,o,d,_,h,_=>by simp at h
 |_::_,[],_,i,o,d,_,_,_=>by simp[lookV]
 |p::os,v::vs,n,0,o,d,_,h,hd=>by
  simp at h
  subst h
  simp[lookV,hd]
 |p::os,v::vs,n,i+1,o,d,hk,h,hd=>by
  simp only[dstsOk,Bool.and_eq_true] at hk
  simp only[List.getElem?_cons_succ] at h ⊢
  have ih:=lookV_at os vs n i o d hk.2 h hd
  cases hp:p.dst with
  |none=>simp only[lookV,hp];exact ih
  |some e=>
   have h1:=hk.1
   rw[hp] at h1
   simp only[Bool.and_eq_true] at h1
   have:=List.all_eq_true.1 h1.2 o (List.mem_of_getElem? h)
   rw[hd] at this
   have hne:¬e=d:=fun c=>by subst c;simp at this
   simp only[lookV,hp,if_neg hne]
   exact ih
def StepsAll (p:Nat→Oper→Prop):Nat→List Oper→Prop
 |_,[]=>True
 |n,o::os=>p n o∧StepsAll p (n+1) os
theorem stepsAll_get {p:Nat→Oper→Prop}:∀ (os:List Oper) (n:Nat),StepsAll p n os→∀ (i:Nat) (o:Oper),os[i]?=some o→p (n+i) o
 |[],n,_,i,o,h=>by simp at h
 |x::os,n,hs,0,o,h=>by simp at h;subst h;exact hs.1
 |x::os,n,hs,i+1,o,h=>by
  have:=stepsAll_get os (n+1) hs.2 i o (by simpa using h)
  rwa [show n+1+i=n+(i+1) by omega] at this
def wantedV (os:List Oper) (vs:List Value) (o:Oper):Bool:=
 match o.guard with
 |none=>true
 |some (j,want)=>match vs[j]? with
  |some (.bool b)=>b == want
  |_=>false
section
variable {Γ:Type} {vs:Γ→List Value} {a0:Act} {G:(Nat→Bool)→Γ→World→Prop} {i:Nat} {o:Oper} {l:Nat→Bool} {γ:Γ} {w:World}
def SameV {Γ:Type} (vs:Γ→List Value) (l:Nat→Bool) (γ γ':Γ):Prop:=∀ j,l j=true→(vs γ)[j]?=(vs γ')[j]?
theorem SameV.refl (vs:Γ→List Value) (l:Nat→Bool) (γ:Γ):SameV vs l γ γ:=fun _ _=>rfl
theorem SameV.set {γ':Γ} {i:Nat} (v:Value) (hl:l i=false) (h:vs γ'=(vs γ).set i v):SameV vs l γ γ':=fun j hj=>by
 rw[h,List.getElem?_set_ne (fun e=>by subst e;rw[hl] at hj;cases hj)]
def StepV (P:Program) (ops:Array Oper) {Γ:Type} (vs:Γ→List Value) (a0:Act) (G:(Nat→Bool)→Γ→World→Prop) (i:Nat) (o:Oper) (l:Nat→Bool) (γ:Γ) (w:World):Prop:=
 if wantedV ops.toList (vs γ) o=true then
  (∃ v w' γ',(execOp (valOf (ops.toList.take i) (vs γ) a0) o).run P w=.ok (.value v) w'∧SameV vs l γ γ'∧(o.dst=none∨(vs γ')[i]?=some v)∧G (updL l i) γ' w') ∨
  (∃ w' γ',(execOp (valOf (ops.toList.take i) (vs γ) a0) o).run P w=.ok .skip w'∧SameV vs l γ γ'∧(o.dst=none∨(vs γ')[i]?=some undef)∧G (updL l i) γ' w') ∨
  (∃ f args w0,(execOp (valOf (ops.toList.take i) (vs γ) a0) o).run P w=.ok (.enter f args) w0 ∧
   Calls P f args w0 fun e w'=>∃ v γ',e=.returned v∧SameV vs l γ γ'∧(o.dst=none∨(vs γ')[i]?=some v)∧G (updL l i) γ' w')
 else (o.dst=none∨(vs γ)[i]?=some undef)∧G (updL l i) γ w
def Owes (P:Program) (ops:Array Oper) {Γ:Type} (vs:Γ→List Value) (a0:Act) (G:(Nat→Bool)→Γ→World→Prop) (i:Nat) (o:Oper):Prop:=
 ∀ (l:Nat→Bool) (γ:Γ) (w:World),G l γ w→l i=false→(∀ e∈o.after,Region.binds .any e=true→l e.on=true) →
   (∀ (j:Nat) (p:Oper),ops[j]?=some p→l j=true→∀ e∈p.after,Region.binds .any e=true→l e.on=true)→StepV P ops vs a0 G i o l γ w
end
def guardsOk (ops:Array Oper):Bool:=ops.all fun o=>match o.guard with
 |none=>true
 |some (j,_)=>match ops[j]? with
  |some p=>p.dst.isSome
  |none=>false
theorem wantedV_eq {Γ:Type} {vs:Γ→List Value} {a0:Act} (γ:Γ) (hd:dstsOk ops.toList a0.tmps.size=true) (hg:guardsOk ops=true) (hl:(vs γ).length=ops.size) {i:Nat} {o:Oper} (hi:ops[i]?=some o) :
  Region.wanted o (yielded ops (putAll ops.toList (vs γ) a0).tmps)=wantedV ops.toList (vs γ) o:=by
 unfold Region.wanted wantedV
 cases hgd:o.guard with
 |none=>rfl
 |some gb=>
  obtain⟨j,b⟩:=gb
  have h:=Array.all_eq_true_iff_forall_mem.1 hg o (Array.mem_of_getElem? hi)
  rw[hgd] at h
  simp only at h
  cases hj:ops[j]? with
  |none=>simp[hj] at h
  |some p=>
   simp only[hj] at h
   obtain⟨d,hd'⟩:=Option.isSome_iff_exists.1 h
   simp only[yielded,hj,Option.bind_some,hd',putAll_look _ _ _ _ hd]
   rw[lookV_at ops.toList (vs γ) a0.tmps.size j p d hd (by rw[Array.getElem?_toList];exact hj) hd']
   have hlt:=(Array.getElem?_eq_some_iff.1 hj).1
   rw[List.getElem?_eq_getElem (by omega)]
   simp only
   generalize (vs γ)[j]=u
   cases u<;>first|rfl|(simp;done)
theorem lookV_none:∀ (os:List Oper) (vs:List Value) (k:Nat),(∀ o∈os,o.dst≠some k)→lookV os vs k=none
 |[],_,_,_=>rfl
 |_::_,[],_,_=>rfl
 |o::os,v::vs,k,h=>by
  have ih:=lookV_none os vs k (fun p hp=>h p (by simp[hp]))
  cases hd:o.dst with
  |none=>simp only[lookV,hd];exact ih
  |some d=>
   have:¬d=k:=fun e=>h o (by simp) (by rw[hd,e])
   simp only[lookV,hd,if_neg this]
   exact ih
theorem dstsOk_take:∀ (os:List Oper) (n i:Nat),dstsOk os n=true→dstsOk (os.take i) n=true
 |[],_,i,_=>by simp[dstsOk]
 |o::os,n,0,_=>by simp[dstsOk]
 |o::os,n,i+1,h=>by
  simp only[dstsOk,Bool.and_eq_true,List.take_succ_cons] at h ⊢
  refine⟨?_,dstsOk_take os n i h.2⟩
  cases hd:o.dst with
  |none=>rfl
  |some d=>
   have h1:=h.1
   rw[hd] at h1
   simp only[Bool.and_eq_true] at h1 ⊢
   refine⟨h1.1,?_⟩
   rw[List.all_eq_true] at h1 ⊢
   exact fun p hp=>h1.2 p (List.mem_of_mem_take hp)
theorem evalAt_eq {vs:List Value} {a0:Act} (hl:vs.length=ops.size) (hd:dstsOk ops.toList a0.tmps.size=true) (i:Nat):evalAt ops (putAll ops.toList vs a0) a0 i=valOf (ops.toList.take i) vs a0:=by
 funext x
 cases x with
 |tmp k=>
  simp only[evalAt,valOf]
  by_cases hk:∃ (j:Nat) (p:Oper),j<i∧ops[j]?=some p∧p.dst=some k
  ·obtain⟨j,p,hji,hj,hp⟩:=hk
   rw[if_pos (by rw[List.any_eq_true];exact⟨j,List.mem_range.2 hji,by simp[hj,hp]⟩)]
   have hjl:ops.toList[j]?=some p:=by rw[Array.getElem?_toList];exact hj
   have hjt:(ops.toList.take i)[j]?=some p:=by rw[List.getElem?_take,if_pos hji];exact hjl
   have hlt:=(Array.getElem?_eq_some_iff.1 hj).1
   rw[Act.eval_getElem,putAll_look _ _ _ _ hd,lookV_at ops.toList vs a0.tmps.size j p k hd hjl hp,lookV_at (ops.toList.take i) vs a0.tmps.size j p k (dstsOk_take _ _ _ hd) hjt hp,List.getElem?_eq_getElem (by omega)]
   rfl
  ·have hk':∀ (j:Nat) (p:Oper),j<i→ops[j]?=some p→p.dst≠some k:=fun j p hji hj hp=>hk ⟨j,p,hji,hj,hp⟩
   rw[if_neg,lookV_none]
   ·intro o ho hod
    obtain⟨j,hj,he⟩:=List.getElem_of_mem ho
    rw[List.length_take] at hj
    rw[List.getElem_take] at he
    have hlt2:j<ops.toList.length:=by omega
    exact hk' j o (by omega) (by rw[←Array.getElem?_toList,List.getElem?_eq_getElem hlt2,he]) hod
   ·rw[List.any_eq_true]
    rintro⟨j,hj,hm⟩
    cases hjo:ops[j]? with
    |none=>rw[hjo] at hm;cases hm
    |some p=>rw[hjo] at hm;exact hk' j p (List.mem_range.1 hj) hjo (by simpa using hm)
 |_=>rfl
theorem stepV_flow {Γ:Type} {vs:Γ→List Value} {a0:Act} {G:(Nat→Bool)→Γ→World→Prop} (hd:dstsOk ops.toList a0.tmps.size=true) (hg:guardsOk ops=true) (hlen:∀ γ,(vs γ).length=ops.size) {i:Nat} {o:Oper} (hi:ops[i]?=some o) {l:Nat→Bool} {γ:Γ} {w:World}
  (h:StepV P ops vs a0 G i o l γ w):FlowStep P ops (fun γ=>putAll ops.toList (vs γ) a0) a0 G i o l γ w:=by
 have slot:∀ (γ:Γ) (j:Nat) (p:Oper) (k:Nat),ops[j]?=some p→p.dst=some k→(putAll ops.toList (vs γ) a0).tmps[k]?=(vs γ)[j]?:=by
  intro γ j p k hj hp
  rw[putAll_look _ _ _ _ hd,lookV_at ops.toList (vs γ) a0.tmps.size j p k hd (by rw[Array.getElem?_toList];exact hj) hp]
  have hlt:=(Array.getElem?_eq_some_iff.1 hj).1
  rw[List.getElem?_eq_getElem (by rw[hlen];exact hlt)]
 have same:∀ γ',SameV vs l γ γ'→SameL ops (fun γ=>putAll ops.toList (vs γ) a0) l γ γ':=by
  intro γ' hS j p k hj hp hl
  show (putAll ops.toList (vs γ) a0).tmps[k]?=(putAll ops.toList (vs γ') a0).tmps[k]?
  rw[slot γ j p k hj hp,slot γ' j p k hj hp,hS j hl]
 unfold FlowStep
 unfold StepV at h
 rw[wantedV_eq γ hd hg (hlen γ) hi]
 by_cases hw:wantedV ops.toList (vs γ) o=true
 ·rw[if_pos hw] at h ⊢
  intro K hK
  rw[evalAt_eq (hlen γ) hd i]
  have val:∀ (γ':Γ) (v:Value),(o.dst=none∨(vs γ')[i]?=some v)→∀ d,o.dst=some d→((putAll ops.toList (vs γ) a0).put o.dst v).tmps[d]?=(putAll ops.toList (vs γ') a0).tmps[d]?:=by
   intro γ' v hv d hd'
   rcases hv with hv|hv
   ·rw[hv] at hd';cases hd'
   ·rw[slot γ' i o d hi hd',hv,put_get,if_pos]
    refine⟨hd',?_⟩
    have:=slot γ i o d hi hd'
    have hlt:=(Array.getElem?_eq_some_iff.1 hi).1
    rw[List.getElem?_eq_getElem (by rw[hlen];exact hlt)] at this
    exact (Array.getElem?_eq_some_iff.1 this).1
  rcases h with⟨v,w',γ',hr,hS,hv,hG⟩|⟨w',γ',hr,hS,hv,hG⟩|⟨f,args,w0,hr,hc⟩
  ·rw[hr]
   exact hK _ _ γ' (put_defs _ _ _) (same γ' hS) (val γ' v hv) hG
  ·rw[hr]
   exact hK _ _ γ' (put_defs _ _ _) (same γ' hS) (val γ' undef hv) hG
  ·rw[hr,Oper.upon_enter]
   refine hc.mono fun e w' h=>?_
   obtain⟨v,γ',rfl,hS,hv,hG⟩:=h
   exact hK _ _ γ' (put_defs _ _ _) (same γ' hS) (val γ' v hv) hG
 ·rw[if_neg hw] at h ⊢
  refine⟨fun d hd'=>?_,h.2⟩
  rcases h.1 with hv|hv
  ·rw[hv] at hd';cases hd'
  ·rw[slot γ i o d hi hd',hv]
theorem any_flow {a0:Act} {w:World} {Q:Exit→Act→World→Prop} (hok:(flowOk ops && dstsOk ops.toList a0.tmps.size && guardsOk ops)=true) {Γ:Type} (vs:Γ→List Value) (G:(Nat→Bool)→Γ→World→Prop)
  (hlen:∀ γ,(vs γ).length=ops.size) (γ0:Γ) (h0:G (fun _=>false) γ0 w.drew)
  (hstep:StepsAll (Owes P ops vs a0 G) 0 ops.toList)
  (hend:∀ (l:Nat→Bool) (γ:Γ) (w:World),(∀ i,i<ops.size→l i=true)→G l γ w→Q .normal (putAll ops.toList (vs γ) a0) w):wpAny P .any ops Q ops.size (Array.replicate ops.size false) a0 w.drew:=by
 simp only[Bool.and_eq_true] at hok
 refine wpAny_flow hok.1.1 (fun γ=>putAll ops.toList (vs γ) a0) G (fun γ=>putAll_frame ops (vs γ) a0) γ0 h0 (fun i o hi l γ w hG hl hw hcl=>?_) hend
 have:=stepsAll_get ops.toList 0 hstep i o (by rw[Array.getElem?_toList];exact hi)
 rw[Nat.zero_add] at this
 exact stepV_flow hok.1.2 hok.2 hlen hi (this l γ w hG hl hw hcl)
section
variable {w w':World} {op:Oper} {ρ:Operand→Value} {v:Value}
theorem exec_append (s x:Operand) (t:TypeId) (ho:op.op=.call { callee:=.builtin .append,args:=#[s,x],argTypes:=#[t,t] }) (vs vx:Value) (hs:ρ s=vs) (hx:ρ x=vx) (h:(Builtin.append_ #[t,t] op.type #[vs,vx]).run P w=.ok v w'):(execOp ρ op).run P w=.ok (.value v) w':=by
 unfold execOp
 simp only[ho,resolve,invoke,builtin,Sem.run_bind,Sem.run_pure,Result.andThen_ok,List.map_toArray,List.map_cons,List.map_nil,hs,hx,h]
end
theorem wpList_exec {P:Program} {w w':World} {ops:Array Oper} {rest:List Oper} {op:Oper} {a:Act} {Q:Exit→Act→World→Prop} (hgd:op.guard=none) (v:Value)
  (hrun:(execOp a.eval op).run P w=.ok (.value v) w') (h:wpList P ops Q rest (a.put op.dst v) w'):wpList P ops Q (op::rest) a w:=
 wpList_plain hgd fun _ hK=>by
  unfold Oper.wp
  rw[hrun]
  exact hK _ _ h
end
structure Ent where
 e:Eff
 n:Nat
 r:AV
def app (x:Ent) (H:Hp):Hp:=appN x.n x.e.news (appW x.e.ws H)
def touches (x:Ent) (k:Nat):Bool:=(x.e.ws.any fun p=>Nat.beq p.1 k) || (Nat.ble x.n k && Nat.blt k (x.n+x.e.news.length))
def uses (x:Ent) (k:Nat):Bool:=touches x k || x.e.rs.any fun i=>Nat.beq i k
theorem appW_not {k:Nat}:∀ {ws:List (Nat × AObj)} {H:Hp},(ws.any fun p=>Nat.beq p.1 k)=false→appW ws H k=H k:=fun {ws} {H} h=>appW_out fun x hx e=>by
 have:=List.any_eq_false.1 h x hx
 rw[e] at this
 simp at this
theorem appW_any {k:Nat}:∀ {ws:List (Nat × AObj)} {H H':Hp},(ws.any fun p=>Nat.beq p.1 k)=true→appW ws H k=appW ws H' k
 |[],_,_,h=>by simp at h
 |(i,o)::r,H,H',h=>by
  rw[appW,appW]
  cases hr:r.any fun p=>Nat.beq p.1 k with
  |true=>exact appW_any hr
  |false=>
   rw[appW_not hr,appW_not hr]
   have:i=k:=by
    simp only[List.any_cons,hr,Bool.or_false] at h
    exact Nat.eq_of_beq_eq_true h
   subst this
   rw[updF_same,updF_same]
theorem app_not {x:Ent} {H:Hp} {k:Nat} (h:touches x k=false):app x H k=H k:=by
 unfold touches at h
 simp only[Bool.or_eq_false_iff,Bool.and_eq_false_iff] at h
 unfold app
 rw[appN_out,appW_not h.1]
 rcases h.2 with h|h
 ·left
  have:¬Nat.ble x.n k=true:=by rw[h];simp
  rw[Nat.ble_eq] at this;omega
 ·right
  have:¬Nat.blt k (x.n+x.e.news.length)=true:=by rw[h];simp
  rw[Nat.blt_eq] at this;omega
theorem app_any {x:Ent} {H H':Hp} {k:Nat} (h:touches x k=true):app x H k=app x H' k:=by
 unfold app
 by_cases hn:x.n≤k∧k<x.n+x.e.news.length
 ·rw[show k=x.n+(k-x.n) by omega,appN_in (by omega),appN_in (by omega)]
 ·rw[appN_out (by omega),appN_out (by omega)]
  unfold touches at h
  simp only[Bool.or_eq_true,Bool.and_eq_true,Nat.ble_eq,Nat.blt_eq] at h
  exact appW_any (h.resolve_right hn)
def hS:List Ent→Nat→(Nat→Bool)→Hp→Hp
 |[],_,_,H=>H
 |x::r,i,l,H=>hS r (i+1) l (if l i=true then app x H else H)
theorem hS_same {k:Nat}:∀ {es:List Ent} {i:Nat} {l l':Nat→Bool} {H H':Hp},H k=H' k→(∀ j x,es[j]?=some x→touches x k=true→l (i+j)=l' (i+j))→hS es i l H k=hS es i l' H' k
 |[],_,_,_,_,_,h,_=>h
 |x::r,i,l,l',H,H',h,hl=>by
  rw[hS,hS]
  refine hS_same ?_ fun j y hy ht=>by have:=hl (j+1) y (by simpa using hy) ht;rwa [show i+1+j=i+(j+1) by omega]
  cases ht:touches x k with
  |false=>
   have:∀ H:Hp,∀ b:Bool,(if b=true then app x H else H) k=H k:=fun H b=>by cases b<;>simp[app_not ht]
   rw[this,this,h]
  |true=>
   have:=hl 0 x rfl ht
   rw[Nat.add_zero] at this
   rw[←this]
   cases l i with
   |true=>exact app_any ht
   |false=>exact h
theorem hS_last {k:Nat} {Ha:Hp}:∀ {es:List Ent} {i j:Nat} {x:Ent} {l:Nat→Bool} {H:Hp},es[j]?=some x→touches x k=true→l (i+j)=true→(∀ m y,j<m→es[m]?=some y→touches y k=true→l (i+m)=false)→hS es i l H k=app x Ha k
 |[],_,_,_,_,_,h,_,_,_=>by simp at h
 |y::r,i,0,x,l,H,h,ht,hl,hf=>by
  simp at h;subst h
  rw[hS]
  rw[Nat.add_zero] at hl
  rw[if_pos hl]
  have:hS r (i+1) l (app y H) k=hS r (i+1) (fun _=>false) (app y H) k:=hS_same rfl fun m z hz hzt=>by
   have:=hf (m+1) z (by omega) (by simpa using hz) hzt
   rwa [show i+1+m=i+(m+1) by omega]
  rw[this]
  have nul:∀ (es:List Ent) (i:Nat) (H:Hp),hS es i (fun _=>false) H=H:=by
   intro es
   induction es with
   |nil=>intro i H;rfl
   |cons z es ih=>intro i H;rw[hS,if_neg (by simp),ih]
  rw[nul]
  exact app_any ht
 |y::r,i,j+1,x,l,H,h,ht,hl,hf=>by
  rw[hS]
  exact hS_last (by simpa using h) ht (by rwa [show i+1+j=i+(j+1) by omega]) fun m z hm hz hzt=>by
   have:=hf (m+1) z (by omega) (by simpa using hz) hzt
   rwa [show i+1+m=i+(m+1) by omega]
inductive Anc (ops:Array Oper):Nat→Nat→Prop
 |one {i j:Nat} {o:Oper} {e:Edge} (ho:ops[j]?=some o) (he:e∈o.after) (hb:Region.binds .any e=true) (hi:e.on=i):Anc ops i j
 |more {i m j:Nat} {o:Oper} {e:Edge} (ho:ops[j]?=some o) (he:e∈o.after) (hb:Region.binds .any e=true) (hm:e.on=m) (h:Anc ops i m):Anc ops i j
def depMask (acc:List Nat):List Edge→Nat
 |[]=>0
 |e::r=>(match Region.binds .any e with|true=>2 ^ e.on ||| acc.getD e.on 0|false=>0) ||| depMask acc r
def ancMasks:List Oper→List Nat→List Nat
 |[],acc=>acc
 |o::r,acc=>ancMasks r (acc++[depMask acc o.after.toList])
theorem depMask_bit {acc:List Nat} {i:Nat}:∀ {es:List Edge},(depMask acc es).testBit i=true→∃ e∈es,Region.binds .any e=true∧(e.on=i∨(acc.getD e.on 0).testBit i=true)
 |[],h=>by simp[depMask] at h
 |e::r,h=>by
  rw[depMask,Nat.testBit_or,Bool.or_eq_true] at h
  rcases h with h|h
  ·cases hb:Region.binds .any e with
   |false=>rw[hb] at h;simp at h
   |true=>
    rw[hb] at h
    simp only at h
    rw[Nat.testBit_or,Bool.or_eq_true,Nat.testBit_two_pow] at h
    refine⟨e,List.mem_cons_self ..,hb,h.imp (fun h=>by simpa using h) id⟩
  ·obtain⟨e',h1,h2⟩:=depMask_bit (es:=r) h
   exact⟨e',List.mem_cons_of_mem _ h1,h2⟩
theorem ancMasks_bit {ops:Array Oper}:∀ {l:List Oper} {acc:List Nat},(∀ j o,l[j]?=some o→ops[acc.length+j]?=some o)→(∀ i j,(acc.getD j 0).testBit i=true→Anc ops i j)→∀ i j,((ancMasks l acc).getD j 0).testBit i=true→Anc ops i j
 |[],acc,_,h,i,j=>h i j
 |o::r,acc,hl,h,i,j=>by
  rw[ancMasks]
  refine ancMasks_bit (fun j p hp=>?_) (fun i j hij=>?_) i j
  ·have:=hl (j+1) p (by simpa using hp)
   rw[List.length_append]
   rwa [show acc.length+[depMask acc o.after.toList].length+j=acc.length+(j+1) by simp;omega]
  ·rcases Nat.lt_trichotomy j acc.length with hj|hj|hj
   ·refine h i j ?_
    rwa [List.getD_eq_getElem?_getD,List.getElem?_append_left hj,←List.getD_eq_getElem?_getD] at hij
   ·subst hj
    rw[List.getD_eq_getElem?_getD,List.getElem?_append_right (Nat.le_refl _)] at hij
    simp at hij
    obtain⟨e,he,hb,hi⟩:=depMask_bit hij
    have ho:=hl 0 o rfl
    rw[Nat.add_zero] at ho
    rcases hi with hi|hi
    ·exact .one ho (by simpa using he) hb hi
    ·exact .more ho (by simpa using he) hb rfl (h i _ hi)
   ·rw[List.getD_eq_getElem?_getD,List.getElem?_eq_none (by simp only[List.length_append,List.length_cons,List.length_nil];omega),Option.getD_none,Nat.zero_testBit] at hij
    cases hij
theorem Anc.listed {ops:Array Oper} {l:Nat→Bool} (hcl:∀ (j:Nat) (p:Oper),ops[j]?=some p→l j=true→∀ e∈p.after,Region.binds .any e=true→l e.on=true) {i j:Nat} (h:Anc ops i j):l j=true→l i=true:=by
 induction h with
 |one ho he hb hi=>intro hj;subst hi;exact hcl _ _ ho hj _ he hb
 |more ho he hb hm _ ih=>intro hj;subst hm;exact ih (hcl _ _ ho hj _ he hb)
theorem Anc.ready {ops:Array Oper} {l:Nat→Bool} (hcl:∀ (j:Nat) (p:Oper),ops[j]?=some p→l j=true→∀ e∈p.after,Region.binds .any e=true→l e.on=true) {i j:Nat} (h:Anc ops i j) {o:Oper} (ho':ops[j]?=some o) (hr:∀ e∈o.after,Region.binds .any e=true→l e.on=true):l i=true:=by
 cases h with
 |one ho he hb hi=>rw[ho] at ho';injection ho' with e;subst e hi;exact hr _ he hb
 |more ho he hb hm h=>rw[ho] at ho';injection ho' with e;subst e hm;exact h.listed hcl (hr _ he hb)
def idsOf (x:Ent):List Nat:=x.e.ws.map (·.1)++(List.range x.e.news.length).map (x.n+·)
def conflict (x y:Ent):Bool:=((idsOf x).any fun k=>uses y k) || (idsOf y).any fun k=>uses x k
def laterOk (masks:List Nat) (i:Nat) (x:Ent):Nat→List Ent→Bool
 |_,[]=>true
 |j,y::r=>(!conflict x y || (masks.getD j 0).testBit i) && laterOk masks i x (j+1) r
def pairsOk (masks:List Nat):Nat→List Ent→Bool
 |_,[]=>true
 |i,x::r=>laterOk masks i x (i+1) r && pairsOk masks (i+1) r
def orderB (ops:List Oper) (es:List Ent):Bool:=pairsOk (ancMasks ops []) 0 es
theorem mem_idsOf {x:Ent} {k:Nat} (h:touches x k=true):k∈idsOf x:=by
 unfold touches at h
 simp only[Bool.or_eq_true,List.any_eq_true,Bool.and_eq_true,Nat.ble_eq,Nat.blt_eq] at h
 unfold idsOf
 rcases h with⟨p,hp,e⟩|h
 ·have:=Nat.eq_of_beq_eq_true e
  subst this
  exact List.mem_append_left _ (List.mem_map.2 ⟨p,hp,rfl⟩)
 ·exact List.mem_append_right _ (List.mem_map.2 ⟨k-x.n,List.mem_range.2 (by omega),by omega⟩)
theorem conflict_of {x y:Ent} {k:Nat} (h:(touches x k=true∧uses y k=true)∨(touches y k=true∧uses x k=true)):conflict x y=true:=by
 unfold conflict
 simp only[Bool.or_eq_true,List.any_eq_true]
 rcases h with⟨h1,h2⟩|⟨h1,h2⟩
 ·exact .inl ⟨k,mem_idsOf h1,h2⟩
 ·exact .inr ⟨k,mem_idsOf h1,h2⟩
theorem laterOk_get {masks:List Nat} {i:Nat} {x:Ent}:∀ {l:List Ent} {j:Nat},laterOk masks i x j l=true→∀ {m:Nat} {y:Ent},l[m]?=some y→conflict x y=true→(masks.getD (j+m) 0).testBit i=true
 |[],_,_,m,y,hy,_=>by simp at hy
 |z::r,j,h,0,y,hy,hc=>by
  simp at hy;subst hy
  simp[laterOk] at h
  have:=h.1.resolve_left (by rw[hc];simp)
  simpa using this
 |z::r,j,h,m+1,y,hy,hc=>by
  simp only[laterOk,Bool.and_eq_true] at h
  have:=laterOk_get h.2 (m:=m) (y:=y) (by simpa using hy) hc
  rwa [show j+1+m=j+(m+1) by omega] at this
theorem pairsOk_get {masks:List Nat}:∀ {l:List Ent} {i:Nat},pairsOk masks i l=true→∀ {a b:Nat} {x y:Ent},a<b→l[a]?=some x→l[b]?=some y→conflict x y=true→(masks.getD (i+b) 0).testBit (i+a)=true
 |[],_,_,a,b,x,y,_,h,_,_=>by simp at h
 |z::r,i,h,0,b,x,y,hab,hx,hy,hc=>by
  simp at hx;subst hx
  simp only[pairsOk,Bool.and_eq_true] at h
  obtain⟨b',rfl⟩:∃ b',b=b'+1:=⟨b-1,by omega⟩
  have:=laterOk_get h.1 (m:=b') (y:=y) (by simpa using hy) hc
  rwa [show i+1+b'=i+(b'+1) by omega] at this
 |z::r,i,h,a+1,b,x,y,hab,hx,hy,hc=>by
  simp only[pairsOk,Bool.and_eq_true] at h
  obtain⟨b',rfl⟩:∃ b',b=b'+1:=⟨b-1,by omega⟩
  have:=pairsOk_get h.2 (a:=a) (b:=b') (by omega) (by simpa using hx) (by simpa using hy) hc
  rwa [show i+1+b'=i+(b'+1) by omega,show i+1+a=i+(a+1) by omega] at this
abbrev Fw (ro:Option Nat):Fence:={ Fence.wide with round:=ro }
section
variable {P:Program} {ro:Option Nat} {n:Nat} {Q:Exit→Act→World→Prop} {a:Act} {w:World} {ops:Array Oper} {o:Oper}
theorem stepsIn_ro {m m':Machine}:StepsIn (Machine.fenced P (Fw ro)) P m m'↔Steps P m m':=stepsIn_wide
theorem callsIn_ro {f:FuncId} {args:Array Value} {R:Ending→World→Prop} (h:Calls P f args w R):CallsIn (Fw ro) n P f args w R:=(callsIn_wide (n:=n)).2 h
theorem rowsIn_ro {row:String} {args:Array Value} {R:Value→World→Prop} (h:Rows P row args w R):RowsIn (Fw ro) n P row args w R:=fun c cs _=>by
 obtain⟨v,w',r,s⟩:=h c cs
 exact⟨v,w',r,stepsIn_ro.2 s⟩
theorem wpIn_ro {next:Act→World→Prop} (hd:∀ c,o.op≠.defer c) (h:o.wp P a w next Q):o.wpIn (Fw ro) n P a w next Q:=by
 refine⟨fun _ _=>trivial,?_⟩
 rw[show (Fw ro).round=ro from rfl,Oper.semAt_eq ro _ _ hd]
 unfold Oper.wp at h
 generalize (execOp a.eval o).run P w=r at h
 cases r with
 |ok x w'=>
  cases x with
  |value v=>exact h
  |skip=>exact h
  |defer d=>exact h
  |enter f args=>exact And.intro (fun q=>Bool.noConfusion q) (callsIn_ro h)
  |row row args=>exact And.intro (fun q=>Bool.noConfusion q) (rowsIn_ro h)
  |round l f tmps assign body=>exact h.elim
  |_=>exact h.elim
 |halt x w'=>
  cases x<;>first|exact h|exact h.elim
def noDefer:List Oper→Bool
 |[]=>true
 |o::r=>(match o.op with | .defer _=>false|_=>true) && noDefer r
theorem noDefer_out:∀ {l:List Oper},noDefer l=true→∀ o∈l,∀ c,o.op≠.defer c
 |[],_,o,h,_=>by simp at h
 |p::r,hn,o,h,c=>by
  simp only[noDefer,Bool.and_eq_true] at hn
  rcases List.mem_cons.1 h with e|e
  ·subst e
   intro q
   rw[q] at hn
   exact absurd hn.1 (by simp)
  ·exact noDefer_out hn.2 o e c
theorem wpAnyIn_ro {md:Region.Mode} (hd:noDefer ops.toList=true) (hQ:¬LetsOut Q):∀ (fuel:Nat) (listed:Array Bool) (a:Act) (w:World),wpAny P md ops Q fuel listed a w→wpAnyIn (Fw ro) n P md ops Q fuel listed a w
 |0,listed,a,w,h=>h
 |fuel+1,listed,a,w,h=>by
  refine⟨h.1,fun i hi=>?_⟩
  have h2:=h.2 i hi
  unfold wpOp at h2
  unfold wpOpIn
  split
  ·rename_i hn
   rw[hn] at h2
   exact wpAnyIn_ro hd hQ fuel _ a w h2
  ·rename_i o ho
   rw[ho] at h2
   simp only at h2
   have hm:o∈ops.toList:=List.mem_of_getElem? (i:=i) (by rw[Array.getElem?_toList];exact ho)
   split
   ·rename_i hw
    rw[if_pos hw] at h2
    rcases h2 with h2|h2
    ·exact Oper.wpIn_mono (fun a w=>wpAnyIn_ro hd hQ fuel _ a w) (wpIn_ro (noDefer_out hd o hm) h2)
    ·exact absurd h2.2 hQ
   ·rename_i hw
    rw[if_neg hw] at h2
    exact⟨fun _ _=>trivial,wpAnyIn_ro hd hQ fuel _ _ w h2⟩
theorem wp_of_ro {c:Code} (h:c.wpIn (Fw none) n P Q a w):c.wp P Q a w:=(wpIn_wide (n:=n)).1 h
end
def wsK:List (Nat × AObj)→List AObj→(List AObj→Prop)→Prop
 |[],L,k=>k L
 |(i,o)::r,L,k=>fObj o fun o=>setK L i o fun L'=>wsK r L' k
def fObjs:List AObj→(List AObj→Prop)→Prop
 |[],k=>k []
 |o::r,k=>fObj o fun o=>fObjs r fun l=>k (o::l)
theorem fObjs_out:∀ {l:List AObj} {k:List AObj→Prop},fObjs l k→k l
 |[],_,h=>h
 |_::r,_,h=>fObjs_out (l:=r) (fObj_out h)
def applyK (e:Eff) (L:List AObj) (k:List AObj→Prop):Prop:=wsK e.ws L fun L'=>fObjs e.news fun ns=>appK L' ns k
theorem hp_set {L:List AObj} {i:Nat} {o:AObj} (h:i<L.length):hp (L.set i o)=updF (hp L) i (some o):=by
 funext j
 unfold hp updF
 by_cases e:j=i
 ·subst e;simp[h]
 ·rw[if_neg e,List.getElem?_set_ne (Ne.symm e)]
theorem hp_app:∀ {l L:List AObj},hp (L++l)=appN L.length l (hp L)
 |[],L=>by simp[appN]
 |o::r,L=>by
  rw[appN,←List.singleton_append,←List.append_assoc,hp_app (l:=r) (L:=L++[o])]
  have:hp (L++[o])=updF (hp L) L.length (some o):=by
   funext j
   unfold hp updF
   by_cases e:j=L.length
   ·subst e;simp
   ·rw[if_neg e]
    rcases Nat.lt_or_ge j L.length with q|q
    ·rw[List.getElem?_append_left q]
    ·rw[List.getElem?_eq_none (by simp;omega)];exact (List.getElem?_eq_none q).symm
  rw[this];simp
theorem wsK_out:∀ {ws:List (Nat × AObj)} {L:List AObj} {k:List AObj→Prop},wsK ws L k→∃ L',k L'∧hp L'=appW ws (hp L)∧L'.length=L.length
 |[],L,_,h=>⟨L,h,rfl,rfl⟩
 |(i,o)::r,L,k,h=>by
  obtain⟨h1,h2⟩:=setK_out (fObj_out h)
  obtain⟨L',h3,h4,h5⟩:=wsK_out h2
  exact⟨L',h3,by rw[h4,hp_set h1];rfl,by rw[h5];simp⟩
theorem applyK_out {e:Eff} {L:List AObj} {k:List AObj→Prop} (h:applyK e L k):∃ L',k L'∧hp L'=appN L.length e.news (appW e.ws (hp L))∧L.length≤L'.length:=by
 obtain⟨L1,h1,h2,h3⟩:=wsK_out h
 have h4:=appK_out (fObjs_out h1)
 exact⟨_,h4,by rw[hp_app,h2,h3],by simp;omega⟩
def putK (N:Nat) (dst:Option Tmp) (x:AV) (tm:Tm) (k:Tm→Prop):Prop:=
 match dst with
 |none=>k tm
 |some d=>match Nat.blt d N with
  |true=>k ((d,x)::tm)
  |false=>False
def oNth:List Oper→Nat→Option Oper
 |[],_=>none
 |o::_,0=>some o
 |_::r,n+1=>oNth r n
theorem oNth_eq:∀ {l:List Oper} {n:Nat},oNth l n=l[n]?
 |[],_=>rfl
 |_::_,0=>rfl
 |_::r,n+1=>by simpa [oNth] using oNth_eq (l:=r) (n:=n)
def gvK (ol:List Oper) (o:Oper) (tm:Tm) (A B:Tm→Prop):Prop:=
 match o.guard with
 |none=>A tm
 |some (j,want)=>match oNth ol j with
  |some p=>match p.dst with
   |some d=>match lk tm d with
    | .d (.v (.bool b))=>match want with
     |true=>(b=true→A ((d,.d (.v (.bool true)))::tm))∧(b=false→B ((d,.d (.v (.bool false)))::tm))
     |false=>(b=false→A ((d,.d (.v (.bool false)))::tm))∧(b=true→B ((d,.d (.v (.bool true)))::tm))
    | .d (.v (.tuple _))=>B tm
    |_=>False
   |none=>False
  |none=>False
def boolOf (u:Value):Option Bool:=match u with | .bool b=>some b|_=>none
abbrev skipAV:AV:=.d (.v (.tuple #[]))
def guardIs (ol:List Oper) (o:Oper) (tm:Tm) (g:Bool):Prop:=
 (o.guard=none∧g=true)∨∃ j want p d u,o.guard=some (j,want)∧ol[j]?=some p∧p.dst=some d∧lk tm d=.d (.v u)∧g=(boolOf u == some want)
theorem lk_cons {tm:Tm} {d:Nat} {x:AV} {k:Nat}:lk ((d,x)::tm) k=if d=k then x else lk tm k:=by
 rw[lk]
 by_cases e:d=k
 ·subst e;simp
 ·have:Nat.beq d k=false:=by cases h:Nat.beq d k with|false=>rfl|true=>exact absurd (Nat.eq_of_beq_eq_true h) e
  rw[this,if_neg e]
def SameTm (tm tm':Tm):Prop:=∀ k,lk tm' k=lk tm k
theorem SameTm.put {tm:Tm} {d:Nat} {x:AV} (h:lk tm d=x):SameTm tm ((d,x)::tm):=fun k=>by
 rw[lk_cons]
 split
 ·rename_i e;subst e;exact h.symm
 ·rfl
theorem gvK_out {ol:List Oper} {o:Oper} {tm:Tm} {A B:Tm→Prop} (h:gvK ol o tm A B):∃ tm',SameTm tm tm'∧((guardIs ol o tm' true∧A tm')∨(guardIs ol o tm' false∧B tm')):=by
 unfold gvK at h
 split at h
 ·rename_i hg;exact⟨tm,fun _=>rfl,.inl ⟨.inl ⟨hg,rfl⟩,h⟩⟩
 ·rename_i j want hg
  split at h
  ·rename_i p hp
   rw[oNth_eq] at hp
   split at h
   ·rename_i d hd
    split at h
    ·rename_i b hb
     have hs:∀ c,b=c→SameTm tm ((d,.d (.v (.bool c)))::tm):=fun c e=>.put (by rw[hb,e])
     have hl:∀ c,lk ((d,.d (.v (.bool c)))::tm) d=.d (.v (.bool c)):=fun c=>by rw[lk_cons,if_pos rfl]
     cases want<;>cases b
     ·exact⟨_,hs _ rfl,.inl ⟨.inr ⟨j,_,p,d,_,hg,hp,hd,hl _,rfl⟩,h.1 rfl⟩⟩
     ·exact⟨_,hs _ rfl,.inr ⟨.inr ⟨j,_,p,d,_,hg,hp,hd,hl _,rfl⟩,h.2 rfl⟩⟩
     ·exact⟨_,hs _ rfl,.inr ⟨.inr ⟨j,_,p,d,_,hg,hp,hd,hl _,rfl⟩,h.2 rfl⟩⟩
     ·exact⟨_,hs _ rfl,.inl ⟨.inr ⟨j,_,p,d,_,hg,hp,hd,hl _,rfl⟩,h.1 rfl⟩⟩
    ·rename_i vs hb
     exact⟨tm,fun _=>rfl,.inr ⟨.inr ⟨j,_,p,d,_,hg,hp,hd,hb,rfl⟩,h⟩⟩
    ·exact h.elim
   ·exact h.elim
  ·exact h.elim
abbrev OpsF:=Tm→List AObj→(Tm→List AObj→Prop)→Prop
def nextB (op:Op):Bool:=match op with | .next _ _=>true|_=>false
def DoesN (P:Program) (op:Op) (ty:TypeId) (L:List AObj) (xs:List AV) {X:Type} (R:X→Prop) (ws:X→List (Nat × AObj)) (r:X→AV):Prop:=
 ∀ (o:Oper) (F:Nat→Prop) (ρ:Nat→Option Value) (w:World) (ev:Operand→Value),o.op=op→o.type=ty→Env F ρ (hp L) w→RAs w F ρ xs (op.operands.toList.map ev) →
  ∃ x,R x∧Runs P ((execOp ev o).run P w) (Post F ρ (hp L) w (appW (ws x) (hp L)) (r x))
def nextK (P:Program) (op:Op) (ty:TypeId) (ev:Operand→AV) (L:List AObj) (K:Eff→AV→Prop):Prop:=
 evsK ev op.operands.toList fun xs=>∃ (X:Type) (R:X→Prop) (ws:X→List (Nat × AObj)) (r:X→AV),DoesN P op ty L xs R ws r∧∀ x,R x→fRes (r x) (K ⟨[],ws x,[]⟩)
def opNK (P:Program) (T:TypeId→TI) (E:Nat→Bool) (op:Op) (ty:TypeId) (ev:Operand→AV) (L:List AObj) (K:Eff→AV→Prop):Prop:=
 match nextB op with
 |true=>nextK P op ty ev L K
 |false=>opK P T E op ty ev L K
def opStep (P:Program) (T:TypeId→TI) (E:Nat→Bool) (N:Nat) (ol:List Oper) (o:Oper) (ih:OpsF):OpsF:=fun tm L K=>
 gvK ol o tm (fun tm=>opNK P T E o.op o.type (evAV tm) L fun e x=>applyK e L fun L'=>putK N o.dst x tm fun tm'=>ih tm' L' K) (fun tm=>putK N o.dst skipAV tm fun tm'=>ih tm' L K)
def opsEnd:OpsF:=fun tm L K=>K tm L
def vcOps (P:Program) (T:TypeId→TI) (E:Nat→Bool) (N:Nat) (ol:List Oper) (l:List Oper):OpsF:=
 List.rec (motive:=fun _=>OpsF) opsEnd (fun o _ ih=>opStep P T E N ol o ih) l
abbrev DrawF:=Tm→List AObj→(List Ent→List Ent)→(List Ent→Tm→List AObj→Prop)→Prop
def drawStep (P:Program) (T:TypeId→TI) (E:Nat→Bool) (N:Nat) (ol:List Oper) (o:Oper) (ih:DrawF):DrawF:=fun tm L es K=>
 gvK ol o tm (fun tm=>opK P T E o.op o.type (evAV tm) L fun e x=>lenNK L fun n=>applyK e L fun L'=>putK N o.dst x tm fun tm'=>ih tm' L' (fun l=>es (⟨e,n,x⟩::l)) K)
  (fun tm=>lenNK L fun n=>putK N o.dst skipAV tm fun tm'=>ih tm' L (fun l=>es (⟨e0,n,skipAV⟩::l)) K)
def drawEnd:DrawF:=fun tm L es K=>K (es []) tm L
def drawOps (P:Program) (T:TypeId→TI) (E:Nat→Bool) (N:Nat) (ol:List Oper) (l:List Oper):DrawF:=
 List.rec (motive:=fun _=>DrawF) drawEnd (fun o _ ih=>drawStep P T E N ol o ih) l
def Slots (w:World) (F:Nat→Prop) (ρ:Nat→Option Value) (N:Nat) (tm:Tm) (a:Act):Prop:=(∀ d,RA w F ρ (lk tm d) (a.tmps.getD d undef))∧a.tmps.size=N
section
variable {P:Program} {w w':World} {F F':Nat→Prop} {ρ ρ':Nat→Option Value} {L L':List AObj} {T:TypeId→TI} {E:Nat→Bool} {N:Nat} {tm tm':Tm} {a:Act}
theorem Slots.mono (h:Slots w F ρ N tm a) (S:Step F ρ (hp L) w F' ρ' (hp L') w') (En:Env F ρ (hp L) w) (k:Keep ρ ρ'):Slots w' F' ρ' N tm a:=⟨fun d=>S.ra En k (h.1 d),h.2⟩
theorem Slots.same (h:Slots w F ρ N tm a) (hs:SameTm tm tm'):Slots w F ρ N tm' a:=⟨fun d=>by rw[hs d];exact h.1 d,h.2⟩
theorem Slots.put (h:Slots w F ρ N tm a) {dst:Option Tmp} {x:AV} {v:Value} (hv:RA w F ρ x v) {k:Tm→Prop} (hp:putK N dst x tm k):∃ tm',k tm'∧Slots w F ρ N tm' (a.put dst v)∧∀ j,lk tm' j=if dst=some j then x else lk tm j:=by
 unfold putK at hp
 split at hp
 ·exact⟨tm,hp,h,fun j=>by simp⟩
 ·rename_i d
  split at hp
  ·rename_i hd
   rw[Nat.blt_eq] at hd
   refine⟨_,hp,⟨fun j=>?_,by simp[Act.put,h.2]⟩,fun j=>by rw[lk_cons];simp⟩
   rw[lk_cons]
   by_cases e:d=j
   ·subst e
    rw[if_pos rfl]
    have hlt:d<a.tmps.size:=by rw[h.2];exact hd
    simpa [Act.put,hlt] using hv
   ·rw[if_neg e]
    have:=h.1 j
    have e2:(a.put (some d) v).tmps.getD j undef=a.tmps.getD j undef:=by simp[Act.put,Array.getElem?_setIfInBounds_ne e]
    rw[e2];exact this
  ·exact hp.elim
theorem const_rep {v:Value}:RA w F ρ (constAV v) v:=by
 unfold constAV
 split
 ·rename_i cs
  split
  ·rename_i hc
   have:=dv_rep (w:=w) (F:=F) (vs:=cs.toList) (fun v hv=>by have:=List.all_eq_true.1 hc v hv;exact this)
   simpa using RA.d (ρ:=ρ) (RD.agg this)
  ·exact .any _
 ·exact .d (.v _)
 ·exact .d (.v _)
 ·exact .d (.v _)
 ·exact .d (.v _)
theorem Slots.eval (h:Slots w F ρ N tm a) (x:Operand):RA w F ρ (evAV tm x) (a.eval x):=by
 cases x with
 |tmp t=>exact h.1 t
 |const v=>exact const_rep
 |global g=>exact .d (.v _)
 |func f=>exact .fn .nil .nil
theorem RAs.of_map {ev:Operand→AV} {ev':Operand→Value} (h:∀ x,RA w F ρ (ev x) (ev' x)):∀ (os:List Operand),RAs w F ρ (os.map ev) (os.map ev')
 |[]=>.nil
 |o::r=>.cons (h o) (RAs.of_map h r)
theorem Slots.bool (h:Slots w F ρ N tm a) {d:Nat} {u:Value} (hb:lk tm d=.d (.v u)):(a.tmps[d]?=some u)∨(a.tmps[d]?=none∧u=undef):=by
 have:=h.1 d
 rw[hb] at this
 have:=this.v_out
 cases hd:a.tmps[d]? with
 |none=>simp[hd] at this;exact .inr ⟨rfl,this.symm⟩
 |some u=>simp[hd] at this;rw[this];exact .inl rfl
def yieldOf (x:Option Value):Option Bool:=match x with|some (.bool b)=>some b|_=>none
theorem yields_of {x:Option Value} {u:Value} (h:x=some u∨(x=none∧u=undef)):yieldOf x=boolOf u:=by
 rcases h with rfl|⟨rfl,rfl⟩
 ·cases u<;>rfl
 ·rfl
theorem Slots.guard {ops:Array Oper} {o:Oper} {g:Bool} (h:Slots w F ρ N tm a) (hg:guardIs ops.toList o tm g):Region.wanted o (yielded ops a.tmps)=g:=by
 rcases hg with⟨h1,rfl⟩|⟨j,want,p,d,u,h1,h2,h3,h4,rfl⟩
 ·simp[Region.wanted,h1]
 ·have h5:=h.bool h4
  rw[Array.getElem?_toList] at h2
  have:yielded ops a.tmps j=boolOf u:=by
   unfold yielded
   rw[h2]
   show yieldOf ((p.dst).bind (a.tmps[·]?))=_
   rw[h3]
   exact yields_of h5
  simp[Region.wanted,h1,this]
def markOf (r:Nat):Deferred:={ target:=.collected r,args:=#[] }
def Marks (F:Nat→Prop) (ρ:Nat→Option Value) (H:Hp) (w:World) (n0:Nat) (ds:List Deferred):Prop:=
 ∃ rs:List Nat,ds=rs.map markOf∧rs.Nodup∧∀ r∈rs,n0≤r∧r<w.heap.size∧¬F r∧¬Lv ρ H r∧w.heap[r]?=some (.deferred (some []))
theorem Marks.nil {H:Hp} {n0:Nat}:Marks F ρ H w n0 []:=⟨[],rfl,List.nodup_nil,fun r h=>by simp at h⟩
theorem Marks.step {H H':Hp} {n0:Nat} {ds:List Deferred} (h:Marks F ρ H w n0 ds) (S:Step F ρ H w F' ρ' H' w'):Marks F' ρ' H' w' n0 ds:=by
 obtain⟨rs,e,hn,h⟩:=h
 refine⟨rs,e,hn,fun r hr=>?_⟩
 obtain⟨h1,h2,h3,h4,h5⟩:=h r hr
 refine⟨h1,Nat.lt_of_lt_of_le h2 S.size,fun q=>?_,fun q=>?_,(S.unch r h2 h4).trans h5⟩
 ·rcases S.fsrc r q with q|q|q
  ·exact h3 q
  ·omega
  ·exact h4 q
 ·rcases S.lsrc r q with q|q
  ·omega
  ·exact h4 q
def In (F0:Nat→Prop) (ρ0:Nat→Option Value) (H0:Hp) (w0:World) (nm:Nat) (ρk:Nat→Option Value) (k0 N:Nat) (tm:Tm) (L:List AObj) (a:Act) (w:World):Prop:=
 ∃ F ρ,Step F0 ρ0 H0 w0 F ρ (hp L) w∧Keep ρk ρ∧Env F ρ (hp L) w∧Slots w F ρ N tm a∧k0≤L.length∧Marks F ρ (hp L) w nm a.defers
variable {F0:Nat→Prop} {ρ0 ρk:Nat→Option Value} {H0:Hp} {w0:World} {nm k0:Nat} {K:Tm→List AObj→Prop} {Q:Exit→Act→World→Prop} {ops:Array Oper} {ro:Option Nat} {nF:Nat}
theorem runs_not_defer {o:Oper} {ev:Operand→Value} {post:Value→World→Prop} {c:Call} (ho:o.op=.defer c) (h:Runs P ((execOp ev o).run P w) post):False:=by
 simp only[execOp,ho,Sem.run_bind] at h
 generalize (resolve ev c o.type).run P w=r at h
 cases r with
 |ok x w'=>simp[Result.andThen,Runs] at h
 |halt x w'=>simp[Result.andThen,Runs] at h
theorem Runs.wp {o:Oper} {e:Eff} {x:AV} {next:Act→World→Prop} (hr:Runs P ((execOp a.eval o).run P w) (Post F ρ (hp L) w (appN L.length e.news (appW e.ws (hp L))) x)) (S0:Step F0 ρ0 H0 w0 F ρ (hp L) w) (K0:Keep ρk ρ) (En:Env F ρ (hp L) w) (Sl:Slots w F ρ N tm a) (hM:Marks F ρ (hp L) w nm a.defers)
  (hle:L.length≤L'.length) (hL':hp L'=appN L.length e.news (appW e.ws (hp L))) (h:∀ v w' F' ρ',Step F0 ρ0 H0 w0 F' ρ' (hp L') w'→Keep ρk ρ'→Env F' ρ' (hp L') w'→Slots w' F' ρ' N tm a→RA w' F' ρ' x v→Marks F' ρ' (hp L') w' nm a.defers→next (a.put o.dst v) w'):o.wpIn (Fw ro) nF P a w next Q:=by
 refine wpIn_ro (fun c ho=>runs_not_defer ho hr) ?_
 have post:∀ v w',Post F ρ (hp L) w (appN L.length e.news (appW e.ws (hp L))) x v w'→next (a.put o.dst v) w':=by
  rintro v w' ⟨F',ρ',S1,K1,E1,R1⟩
  rw[←hL'] at S1 E1
  exact h v w' F' ρ' (S0.trans S1) (K0.trans K1) E1 (Sl.mono S1 En K1) R1 (hM.step S1)
 unfold Oper.wp
 unfold Runs at hr
 split at hr
 ·rename_i v w' hrun;rw[hrun];exact post v w' hr
 ·rename_i w' hrun;rw[hrun];exact post undef w' hr
 ·rename_i f args w' hrun
  rw[hrun,Oper.upon_enter]
  refine hr.mono ?_
  rintro en w'' ⟨v,rfl,hp⟩
  exact post v w'' hp
 ·exact hr.elim
theorem Does.runs {o:Oper} {e:Eff} {x:AV} (hD:Does P o.op o.type L L.length (o.op.operands.toList.map (evAV tm)) e x) (En:Env F ρ (hp L) w) (Sl:Slots w F ρ N tm a):Runs P ((execOp a.eval o).run P w) (Post F ρ (hp L) w (appN L.length e.news (appW e.ws (hp L))) x):=
 hD o (hp L) F ρ w a.eval rfl rfl En (fun _ _=>rfl) (fun k _=>List.getElem?_eq_none (by omega)) (RAs.of_map (fun x=>Sl.eval x) _)
theorem vcOps_out (hT:T=tiOf P) (hE:∀ g,E g=true→entersB P g=true):∀ (l:List Oper) (tm:Tm) (L:List AObj) (a:Act) (w:World),vcOps P T E N ops.toList l tm L K→In F0 ρ0 H0 w0 nm ρk k0 N tm L a w →
  (∀ tm L a w,K tm L→In F0 ρ0 H0 w0 nm ρk k0 N tm L a w→Q .normal a w)→wpListIn (Fw ro) nF P ops Q l a w
 |[],tm,L,a,w,h,hI,hK=>hK tm L a w h hI
 |o::r,tm,L,a,w,h,hI,hK=>by
  have h:opStep P T E N ops.toList o (vcOps P T E N ops.toList r) tm L K:=h
  unfold opStep at h
  obtain⟨F,ρ,S0,K0,En,Sl,hk,hM⟩:=hI
  rw[wpListIn]
  obtain⟨tm0,hs,h⟩:=gvK_out h
  replace Sl:=Sl.same hs
  rcases h with⟨hg,h⟩|⟨hg,h⟩
  ·rw[Sl.guard hg,if_pos rfl]
   have h:∃ e x,(applyK e L fun L'=>putK N o.dst x tm0 fun tm'=>vcOps P T E N ops.toList r tm' L' K)∧Runs P ((execOp a.eval o).run P w) (Post F ρ (hp L) w (appN L.length e.news (appW e.ws (hp L))) x):=by
    unfold opNK at h
    split at h
    ·obtain⟨X,R,ws,rr,hD,hK⟩:=evsK_out h
     obtain⟨y,hy,hr⟩:=hD o F ρ w a.eval rfl rfl En (RAs.of_map (fun x=>Sl.eval x) _)
     exact⟨⟨[],ws y,[]⟩,rr y,fRes_out (hK y hy),hr⟩
    ·obtain⟨e,x,h1,h2⟩:=opK_out hT hE h
     exact⟨e,x,h1,h2.runs En Sl⟩
   obtain⟨e,x,h1,h2⟩:=h
   obtain⟨L',h3,h4,h5⟩:=applyK_out h1
   refine h2.wp S0 K0 En Sl hM h5 h4 fun v w' F' ρ' S1 K1 E1 Sl1 R1 hM1=>?_
   obtain⟨tm',h6,h7,_⟩:=Sl1.put R1 h3
   exact vcOps_out hT hE r tm' L' _ w' h6 ⟨F',ρ',S1,K1,E1,h7,by omega,by rw[put_defs];exact hM1⟩ hK
  ·rw[Sl.guard hg,if_neg (by simp)]
   obtain⟨tm',h6,h7,_⟩:=Sl.put (.d (.v undef)) h
   exact⟨fun _ _=>trivial,vcOps_out hT hE r tm' L _ w h6 ⟨F,ρ,S0,K0,En,h7,hk,by rw[put_defs];exact hM⟩ hK⟩
end
end Go.Proofs.YtfbfpnfgabamfaaGreat
