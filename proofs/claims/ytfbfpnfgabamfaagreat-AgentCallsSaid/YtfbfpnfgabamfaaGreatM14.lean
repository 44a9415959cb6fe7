/- Parts Pc, AgD, AgE, AgF, AgG, AgH, AgI, RnJ, RnB of the proof, put together. -/
import Derived.Test.YtfbfpnfgabamfaaGreatM13
namespace Go.Proofs.YtfbfpnfgabamfaaGreat
set_option linter.unusedSimpArgs false
set_option linter.unusedVariables false
open Go.RowKit
section
variable {P:Program} {w w':World} {F F':Nat→Prop} {ρ ρ':Nat→Option Value} {H:Hp} {L:List AObj} {ty n t s b i lo hi k j mx:Nat} {rows:List (List D)} {x a1 a2 a3 sx xx:Operand} {kl kh km:IntKind}
def pcP (s lo hi:Nat) (h v:Value):Prop:=∃ A m c,h=.slice A m c∧lo≤hi∧hi≤c∧v=.slice (if c=lo then A else A.map (·.add (lo*s))) (hi-lo) (c-lo)
theorem pc_one {s lo hi:Nat}:OneP (pcP s lo hi):=⟨fun h v ⟨A,m,c,_,_,_,e⟩=>by subst e;exact⟨rfl,rfl⟩⟩
theorem run_pc {s:Nat} (hk:(tiOf P t).kind=.sli) (hs:(tiOf P t).esize=s) (hp:0<s) {A:Option Addr} {m c:Nat} (vlo vhi:Option Value) (hlo:(vlo=none∧lo=0)∨vlo=some (.int kl lo)) (hhi:(vhi=none∧hi=m)∨vhi=some (.int kh hi)) (h1:lo≤hi) (h2:hi≤c) :
  (Instr.slice t (.slice A m c) vlo vhi none).run P w=.ok (.slice (if c=lo then A else A.map (·.add (lo*s))) (hi-lo) (c-lo)) w:=by
 obtain⟨g1,g2,_⟩:=ti_sli hk
 rw[hs] at g2
 obtain⟨i,g3,g4⟩:=info_of_cells g2 hp
 have a1:((lo:Int)≤(hi:Int)):=by omega
 have a2:((hi:Int)≤(c:Int)):=by omega
 rcases hlo with⟨rfl,rfl⟩|rfl<;>rcases hhi with⟨rfl,rfl⟩|rfl
 ·simp[Instr.slice,run_underlying g1,Instr.sliceBounds,sizeOf,typeInfo,g3,g4]
 ·simp[Instr.slice,run_underlying g1,Instr.sliceBounds,Instr.sliceBound,asIntOf,sizeOf,typeInfo,g3,g4,show hi≤c by omega]
 ·simp[Instr.slice,run_underlying g1,Instr.sliceBounds,Instr.sliceBound,asIntOf,sizeOf,typeInfo,g3,g4,h1]
 ·simp[Instr.slice,run_underlying g1,Instr.sliceBounds,Instr.sliceBound,asIntOf,sizeOf,typeInfo,g3,g4,h1,show hi≤c by omega]
theorem run_pc3 {s:Nat} (hk:(tiOf P t).kind=.sli) (hs:(tiOf P t).esize=s) (hp:0<s) {A:Option Addr} {m c:Nat} (h1:lo≤hi) (h2:hi≤mx) (h3:mx≤c) :
  ∃ v,(Instr.slice t (.slice A m c) (some (.int kl lo)) (some (.int kh hi)) (some (.int km mx))).run P w=.ok v w:=by
 obtain⟨g1,g2,_⟩:=ti_sli hk
 rw[hs] at g2
 obtain⟨i,g3,g4⟩:=info_of_cells g2 hp
 refine⟨.slice (if mx=lo then A else A.map (·.add (lo*s))) (hi-lo) (mx-lo),?_⟩
 simp[Instr.slice,run_underlying g1,Instr.sliceBounds,Instr.sliceBound,asIntOf,sizeOf,typeInfo,g3,g4,h1,h2,h3]
theorem Env.ownAt (En:Env F ρ H w) (hi:H i=some (.sl s rows)) {v:Value} (hv:RA w F ρ (.own i) v):∃ A c vs,v=.slice A rows.length c∧ρ i=some v∧rows.length≤c∧Ow w 0 0 s (.slice A rows.length c) rows.length vs∧RDs w F rows.flatten vs∧∀ r∈rows,r.length=s:=by
 cases hv with|own hv=>
  rename_i A m c
  obtain⟨hh,e1,⟨vs,how,hra,hs1⟩,e3⟩:=En.rep i _ hi rfl
  rw[hv] at e1;injection e1 with e1;subst e1
  obtain⟨A',c',he,g1,g2,hrd⟩:=how.form
  injection he with q1 q2 q3
  subst q1 q2 q3
  exact⟨A,c,vs,rfl,hv,g1,how,hra,hs1⟩
theorem pc3 (s b:Nat) (h:slB P t s b=true) (hi':L[i]?=some (.sl s rows)) (h1:lo≤hi) (h2:hi≤mx) (h3:mx≤rows.length):Does P (.slice t x (some a1) (some a2) (some a3)) ty L n [.own i,.d (.v (.int kl lo)),.d (.v (.int kh hi)),.d (.v (.int km mx))] ⟨[i],[],[]⟩ .any:=by
 obtain⟨g1,g2,g3,_⟩:=slB_out h
 intro o H F ρ w ev ho ht En hrs hn hx
 have hi0:H i=some (.sl s rows):=by rw[hrs i (by simp)];exact hi'
 have hops:(Op.operands (.slice t x (some a1) (some a2) (some a3))).toList=[x,a1,a2,a3]:=by simp[Op.operands]
 rw[hops] at hx
 cases hx with|cons hv hx=>cases hx with|cons h4 hx=>cases hx with|cons h5 hx=>cases hx with|cons h6 hx=>
 obtain⟨A,c,vs,e,_,hlc,_⟩:=En.ownAt hi0 hv
 obtain⟨v,hrun⟩:=run_pc3 (P:=P) (w:=w) (kl:=kl) (kh:=kh) (km:=km) (A:=A) (m:=rows.length) (c:=c) g1 g2 g3 h1 h2 (Nat.le_trans h3 hlc)
 have hr:(execOp ev o).run P w=.ok (.value v) w:=by
  simp[execOp,ho,e,h4.v_out,h5.v_out,h6.v_out,hrun,Instr.sliceAt,run_underlying (ti_sli g1).1]
 rw[hr]
 exact Post.same En (.any v)
theorem does_pcv (h:slB P t s b=true) {vlo vhi:Option Operand} (hi':L[i]?=some (.sl s rows)) {xs:List AV} {c0:Nat} (hx:∀ (F:Nat→Prop) (ρ:Nat→Option Value) (w:World) (ev:Operand→Value) (H:Hp),Env F ρ H w→H i=some (.sl s rows)→RAs w F ρ xs ((Op.slice t x vlo vhi none).operands.toList.map ev) →
   ∃ A c hh,ev x=.slice A c0 c∧ρ i=some hh∧(∃ m,hh=.slice A m c)∧((vlo.map ev=none∧lo=0)∨vlo.map ev=some (.int kl lo))∧((vhi.map ev=none∧hi=c0)∨vhi.map ev=some (.int kh hi))∧lo≤hi∧hi≤c) :
  Does P (.slice t x vlo vhi none) ty L n xs ⟨[i],[],[]⟩ (.rel i (pcP s lo hi)):=by
 obtain⟨g1,g2,g3,_⟩:=slB_out h
 intro o H F ρ w ev ho ht En hrs hn hxs
 have hi0:H i=some (.sl s rows):=by rw[hrs i (by simp)];exact hi'
 obtain⟨A,c,hh,e1,e2,⟨m,e3⟩,e4,e5,e6,e7⟩:=hx F ρ w ev H En hi0 hxs
 have hrun:=run_pc (P:=P) (w:=w) (kl:=kl) (kh:=kh) (A:=A) (m:=c0) (c:=c) g1 g2 g3 (vlo.map ev) (vhi.map ev) e4 e5 e6 e7
 have hr:(execOp ev o).run P w=.ok (.value (.slice (if c=lo then A else A.map (·.add (lo*s))) (hi-lo) (c-lo))) w:=by
  simp[execOp,ho,e1,hrun,Instr.sliceAt,run_underlying (ti_sli g1).1]
 rw[hr]
 exact Post.same En (.rel e2 ⟨A,m,c,e3,e6,e7,rfl⟩)
theorem pcFrom (s b:Nat) (h:slB P t s b=true) (hi':L[i]?=some (.sl s rows)) (h1:lo≤rows.length):Does P (.slice t x (some a1) none none) ty L n [.own i,.d (.v (.int kl lo))] ⟨[i],[],[]⟩ (.rel i (pcP s lo rows.length)):=
 does_pcv (kl:=kl) (kh:=.i64) (c0:=rows.length) h hi' fun F ρ w ev H En hi0 hx=>by
  obtain⟨v,u1,e',hv,hu1⟩:=hx.two_out
  simp[Op.operands] at e'
  obtain⟨A,c,vs,e,e2,hlc,_⟩:=En.ownAt hi0 hv
  exact⟨A,c,v,by rw[e'.1,e],e2,⟨_,e⟩,.inr (by rw[Option.map_some,e'.2,hu1.v_out]),.inl ⟨rfl,rfl⟩,h1,hlc⟩
theorem pcUpto (s b:Nat) (h:slB P t s b=true) (hi':L[i]?=some (.sl s rows)) (h1:hi≤rows.length):Does P (.slice t x none (some a1) none) ty L n [.own i,.d (.v (.int kh hi))] ⟨[i],[],[]⟩ (.rel i (pcP s 0 hi)):=
 does_pcv (kl:=.i64) (kh:=kh) (c0:=rows.length) h hi' fun F ρ w ev H En hi0 hx=>by
  obtain⟨v,u1,e',hv,hu1⟩:=hx.two_out
  simp[Op.operands] at e'
  obtain⟨A,c,vs,e,e2,hlc,_⟩:=En.ownAt hi0 hv
  exact⟨A,c,v,by rw[e'.1,e],e2,⟨_,e⟩,.inl ⟨rfl,rfl⟩,.inr (by rw[Option.map_some,e'.2,hu1.v_out]),Nat.zero_le _,by omega⟩
theorem pcOf (s b:Nat) (h:slB P t s b=true) (hi':L[i]?=some (.sl s rows)) (h1:lo≤hi) (h2:hi≤rows.length):Does P (.slice t x (some a1) (some a2) none) ty L n [.rel i (pcP s 0 k),.d (.v (.int kl lo)),.d (.v (.int kh hi))] ⟨[i],[],[]⟩ (.rel i (pcP s lo hi)):=
 does_pcv (kl:=kl) (kh:=kh) (c0:=k) h hi' fun F ρ w ev H En hi0 hx=>by
  obtain⟨v,u1,u2,e',hv,hu1,hu2⟩:=hx.three_out
  simp[Op.operands] at e'
  cases hv with|rel e2 hp=>
   rename_i hh
   obtain⟨A,m,c,rfl,q1,q2,rfl⟩:=hp
   obtain⟨A',c',vs,e,_,hlc,_⟩:=En.ownAt hi0 (.own e2)
   injection e with r1 r2 r3
   subst r3
   refine⟨A,c,_,?_,e2,⟨_,rfl⟩,.inr (by rw[Option.map_some,e'.2.1,hu1.v_out]),.inr (by rw[Option.map_some,e'.2.2,hu2.v_out]),h1,by omega⟩
   rw[e'.1]
   have hA:(if c=0 then A else A.map (·.add (0*s)))=A:=by
    split
    ·rfl
    ·cases A<;>simp[Addr.add]
   rw[hA,Nat.sub_zero,Nat.sub_zero]
theorem pcLen (s b:Nat) (h:slB P t s b=true):Does P (.call { callee:=.builtin .len,args:=#[x],argTypes:=#[t] }) ty L n [.rel i (pcP s lo hi)] ⟨[],[],[]⟩ (.d (.v (.int .i64 ((hi-lo:Nat):Int)))):=by
 obtain⟨g1,g2,g3,_⟩:=slB_out h
 intro o H F ρ w ev ho ht En hrs hn hx
 have hops:(Op.operands (.call { callee:=.builtin .len,args:=#[x],argTypes:=#[t] })).toList=[x]:=by simp[Op.operands,Call.operands]
 rw[hops] at hx
 obtain⟨v,e',hv⟩:=hx.one_out
 simp at e'
 cases hv with|rel e2 hp=>
  obtain⟨A,m,c,rfl,q1,q2,rfl⟩:=hp
  have hr:(execOp ev o).run P w=.ok (.value (.int .i64 ((hi-lo:Nat):Int))) w:=by
   simp[execOp,ho,resolve,invoke,builtin,e',Builtin.len_,run_underlying (ti_sli g1).1,goInt]
  rw[hr]
  exact Post.same En (.d (.v _))
theorem info_sl (h:slB P t s b=true):∃ e i z,P.underlying t=some (.slice e)∧e=(tiOf P t).elem∧P.info? e=some i∧i.zero=some z∧i.size=s∧i.bytes=b∧z.cells.size=s∧(tiOf P e).zero=z.cells.toList∧(∀ v∈z.cells.toList,v.oneCell'=true)∧0<s:=by
 obtain⟨g1,g2,g3,g4,_,g5⟩:=slB_out h
 obtain⟨i,z,e1,e2,e3,e4,e5,e6,e7,e8⟩:=ti_elem g1 (by omega) g5
 exact⟨_,i,z,e1,rfl,e2,e3,by rw[e4,g2],by rw[e5,g4],by rw[e6,g2],e7,e8,g3⟩
theorem Env.setsAt (En:Env F ρ H w) {hh:Value} (hi:H i=some (.sl s rows)) (hρ:ρ i=some hh) {g off c q:Nat} (e:hh=.slice (some ⟨g,off,none⟩) rows.length c) {vs us:List Value} (how:Ow w 0 0 s hh rows.length vs) (hle:q+us.length≤vs.length) {rows':List (List D)} (hl:rows'.length=rows.length) (hs:∀ r∈rows',r.length=s) (hr:RDs w F rows'.flatten (sets vs q us)) :
  Step F ρ H w F ρ (updF H i (some (.sl s rows'))) (w.setCells g (off+q) us)∧Env F ρ (updF H i (some (.sl s rows'))) (w.setCells g (off+q) us):=by
 subst e
 have hnF:¬F g:=by
  obtain⟨h0,e0,_,hk⟩:=En.rep i _ hi rfl
  rw[hρ] at e0;injection e0 with e0;subst e0
  exact (hk g rfl).2
 refine En.upd hi rfl hρ (setCells_grown g (off+q) us w) ⟨sets vs q us,?_,?_,hs⟩
 ·rw[hl];exact how.sets hle
 ·exact hr.mono (fun b hb=>setCells_heap g _ _ w b fun e=>hnF (e ▸ hb)) (fun _ h=>h)
theorem own_some {hh:Value} {vs:List Value} (how:Ow w 0 0 s hh rows.length vs) (h0:0<rows.length) {A:Option Addr} {m c:Nat} (e:hh=.slice A m c):∃ g off,A=some ⟨g,off,none⟩∧m=rows.length∧(∀ j,j<c*s→(w.cell? ⟨g,off+j,none⟩).isSome=true∧w.frozen? ⟨g,off+j,none⟩=false)∧(∀ j (h:j<vs.length),w.cell? ⟨g,off+j,none⟩=some vs[j])∧rows.length≤c:=by
 obtain⟨g,off,cap,he,_,_,hnc,_,hroom,hx⟩:=how.open_ h0
 rw[e] at he
 injection he with q1 q2 q3
 subst q1 q2 q3
 exact⟨g,off,rfl,rfl,hroom,hx,hnc⟩
theorem pcApp (s b:Nat) (h:slB P t s b=true) (hi':L[i]?=some (.sl s rows)) (h1:k≤j) (h2:j≤rows.length) (h0:0<rows.length):Does P (.call { callee:=.builtin .append,args:=#[sx,xx],argTypes:=#[t,t] }) ty L n [.rel i (pcP s 0 k),.rel i (pcP s j rows.length)]
  ⟨[i],[(i,.sl s (rows.take k++rows.drop j++rows.drop (k+(rows.length-j))))],[]⟩ (.rel i (pcP s 0 (k+(rows.length-j)))):=by
 obtain⟨e,i0,z,u1,_,u2,u3,u4,u5,u6,u7,u8,hs0⟩:=info_sl h
 intro o H F ρ w ev ho ht En hrs hn hx
 have hops:(Op.operands (.call { callee:=.builtin .append,args:=#[sx,xx],argTypes:=#[t,t] })).toList=[sx,xx]:=by simp[Op.operands,Call.operands]
 rw[hops] at hx
 have hi0:H i=some (.sl s rows):=by rw[hrs i (by simp)];exact hi'
 obtain⟨v1,v2,e',hv1,hv2⟩:=hx.two_out
 simp at e'
 cases hv1 with|rel e1 hp1=>cases hv2 with|rel e2 hp2=>
  rename_i hh _
  rw[e1] at e2;injection e2 with e2;subst e2
  obtain⟨hh',e3,⟨vs,how,hra,hs1⟩,e4⟩:=En.rep i _ hi0 rfl
  rw[e1] at e3;injection e3 with e3;subst e3
  obtain⟨A,m,c,rfl,q1,q2,rfl⟩:=hp1
  obtain⟨A',m',c',er,q3,q4,rfl⟩:=hp2
  injection er with r1 r2 r3
  subst r1 r2 r3
  obtain⟨g,off,rfl,rfl,hroom,hcell,hnc⟩:=own_some how h0 rfl
  have hvl:vs.length=rows.length*s:=how.1
  have hA:(if c=0 then (some ⟨g,off,none⟩:Option Addr) else (some ⟨g,off,none⟩:Option Addr).map (·.add (0*s)))=some ⟨g,off,none⟩:=by
   split
   ·rfl
   ·simp[Addr.add]
  rw[hA,Nat.sub_zero,Nat.sub_zero] at e'
  have hjs:j*s≤rows.length*s:=Nat.mul_le_mul_right _ h2
  have hks:k*s≤j*s:=Nat.mul_le_mul_right _ h1
  have hcs:rows.length*s≤c*s:=Nat.mul_le_mul_right _ hnc
  have hnl:(vs.drop (j*s)).length=(rows.length-j)*s:=by rw[List.length_drop,hvl,Nat.sub_mul]
  have hvone:=hra.one
  have hrun:=run_append_room_cells (P:=P) w t o.type e i0 u1 u2 g off k c (if c=j then ⟨g,off,none⟩ else (⟨g,off,none⟩:Addr).add (j*s)) (rows.length-j) (c-j) (vs.drop (j*s)) (by rw[hnl,u4])
   (fun q u hu=>by
    obtain⟨hq1,hq2⟩:=List.getElem?_eq_some_iff.1 hu
    rw[hnl] at hq1
    by_cases hcj:c=j
    ·have:rows.length-j=0:=by omega
     rw[this,Nat.zero_mul] at hq1;omega
    ·rw[if_neg hcj,Addr.add_lit,Addr.add_lit]
     rw[List.getElem_drop] at hq2
     have:=hcell (j*s+q) (by rw[hvl];rw[Nat.sub_mul] at hq1;omega)
     rw[hq2] at this
     rw[←this,Nat.add_assoc])
   (fun u hu=>hvone u (List.mem_of_mem_drop hu)) (by omega)
   (fun q hq=>by rw[hnl] at hq;rw[u4,Nat.add_assoc];exact (hroom _ (by rw[Nat.sub_mul] at hq;omega)).1)
   (fun q hq=>by rw[hnl] at hq;rw[u4,Nat.add_assoc];exact (hroom _ (by rw[Nat.sub_mul] at hq;omega)).2)
  rw[u4] at hrun
  have hA2:(if c=j then (some ⟨g,off,none⟩:Option Addr) else (some ⟨g,off,none⟩:Option Addr).map (·.add (j*s)))=some (if c=j then ⟨g,off,none⟩ else (⟨g,off,none⟩:Addr).add (j*s)):=by split<;>rfl
  rw[hA2] at e'
  have hr:(execOp ev o).run P w=.ok (.value (.slice (some ⟨g,off,none⟩) (k+(rows.length-j)) c)) (w.setCells g (off+k*s) (vs.drop (j*s))):=by
   simp[execOp,ho,resolve,invoke,builtin,e'.1,e'.2] at hrun ⊢
   simp[hrun]
  rw[hr]
  have hsets:sets vs (k*s) (vs.drop (j*s))=vs.take (k*s)++vs.drop (j*s)++vs.drop (k*s+(rows.length-j)*s):=by
   rw[sets_eq _ _ _ (by rw[hnl,hvl,Nat.sub_mul];omega),hnl]
  obtain⟨S1,E1⟩:=En.setsAt (rows':=rows.take k++rows.drop j++rows.drop (k+(rows.length-j))) hi0 e1 rfl how (q:=k*s) (us:=vs.drop (j*s)) (by rw[hnl,hvl,Nat.sub_mul];omega)
   (by simp only[List.length_append,List.length_take,List.length_drop];omega)
   (fun r hr=>by
    rcases List.mem_append.1 hr with hr|hr
    ·rcases List.mem_append.1 hr with hr|hr
     ·exact hs1 r (List.mem_of_mem_take hr)
     ·exact hs1 r (List.mem_of_mem_drop hr)
    ·exact hs1 r (List.mem_of_mem_drop hr))
   (by
    rw[hsets,List.flatten_append,List.flatten_append,flat_take hs1,flat_drop hs1,flat_drop hs1,Nat.add_mul]
    exact ((hra.take _).app (hra.drop _)).app (hra.drop _))
  refine⟨F,ρ,S1,Keep.refl _,E1,.rel e1 ⟨_,_,_,rfl,Nat.zero_le _,by omega,?_⟩⟩
  rw[hA,Nat.sub_zero,Nat.sub_zero]
def zrow (P:Program) (t:TypeId):List D:=(tiOf P (tiOf P t).elem).zero.map .v
theorem rds_zero {us:List Value} (h:∀ v∈us,v.oneCell'=true):RDs w F (us.map .v) us:=by
 induction us with
 |nil=>exact .nil
 |cons u us ih=>exact .cons (.v u) (h u (List.mem_cons_self ..)) (ih fun v hv=>h v (List.mem_cons_of_mem _ hv))
theorem zeros_get {z:Array Value} {q:Nat} (hz:0<z.size):(Builtin.zeroCells z q).toList=(List.replicate q z.toList).flatten:=by
 unfold Builtin.zeroCells
 rw[Array.toList_map,Array.toList_range]
 induction q with
 |zero=>simp
 |succ q ih=>
  rw[Nat.succ_mul,List.range_add,List.map_append,ih,List.replicate_succ',List.flatten_append,List.flatten_singleton]
  congr 1
  rw[List.map_map]
  apply List.ext_getElem
  ·simp
  ·intro j h1 h2
   simp only[List.length_map,List.length_range] at h1
   simp only[List.getElem_map,List.getElem_range,Function.comp_apply]
   rw[Nat.mul_comm,Nat.mul_add_mod,Nat.mod_eq_of_lt h1]
   simp[h1]
theorem pcClear (s b:Nat) (h:slB P t s b=true) (hi':L[i]?=some (.sl s rows)) (h2:hi≤rows.length) (h0:0<rows.length):Does P (.call { callee:=.builtin .clear,args:=#[x],argTypes:=#[t] }) ty L n [.rel i (pcP s lo hi)]
  ⟨[i],[(i,.sl s (rows.take lo++List.replicate (hi-lo) (zrow P t)++rows.drop hi))],[]⟩ (.tup []):=by
 obtain⟨e,i0,z,u1,ue,u2,u3,u4,u5,u6,u7,u8,hs0⟩:=info_sl h
 intro o H F ρ w ev ho ht En hrs hn hx
 have hops:(Op.operands (.call { callee:=.builtin .clear,args:=#[x],argTypes:=#[t] })).toList=[x]:=by simp[Op.operands,Call.operands]
 rw[hops] at hx
 have hi0:H i=some (.sl s rows):=by rw[hrs i (by simp)];exact hi'
 obtain⟨v1,e',hv1⟩:=hx.one_out
 simp at e'
 cases hv1 with|rel e1 hp1=>
  rename_i hh
  obtain⟨hh',e3,⟨vs,how,hra,hs1⟩,e4⟩:=En.rep i _ hi0 rfl
  rw[e1] at e3;injection e3 with e3;subst e3
  obtain⟨A,m,c,rfl,q1,q2,rfl⟩:=hp1
  obtain⟨g,off,rfl,rfl,hroom,hcell,hnc⟩:=own_some how h0 rfl
  have hvl:vs.length=rows.length*s:=how.1
  have hzr:(zrow P t).length=s:=by unfold zrow;rw[List.length_map,←ue,u7];simp[u6]
  have hrows:∀ r∈rows.take lo++List.replicate (hi-lo) (zrow P t)++rows.drop hi,r.length=s:=fun r hr=>by
   rcases List.mem_append.1 hr with hr|hr
   ·rcases List.mem_append.1 hr with hr|hr
    ·exact hs1 r (List.mem_of_mem_take hr)
    ·rw[(List.mem_replicate.1 hr).2];exact hzr
   ·exact hs1 r (List.mem_of_mem_drop hr)
  have hlen:(rows.take lo++List.replicate (hi-lo) (zrow P t)++rows.drop hi).length=rows.length:=by
   simp only[List.length_append,List.length_take,List.length_drop,List.length_replicate];omega
  have hz0:(zeroValue e).run P w=.ok z w:=by simp[zeroValue,typeInfo,u2,u3]
  by_cases hlh:lo=hi
  ·subst hlh
   have hr:(execOp ev o).run P w=.ok (.value (.tuple #[])) w:=by
    rw[Nat.sub_self] at e'
    have hA2:(if c=lo then (some ⟨g,off,none⟩:Option Addr) else (some ⟨g,off,none⟩:Option Addr).map (·.add (lo*s)))=some (if c=lo then ⟨g,off,none⟩ else (⟨g,off,none⟩:Addr).add (lo*s)):=by split<;>rfl
    rw[hA2] at e'
    simp[execOp,ho,resolve,invoke,builtin,e',Builtin.clear_,run_underlying u1]
   rw[hr]
   have er:rows.take lo++List.replicate (lo-lo) (zrow P t)++rows.drop lo=rows:=by simp
   rw[er]
   have hH:updF H i (some (.sl s rows))=H:=by
    funext q
    by_cases hq:q=i
    ·subst hq;rw[updF_same,hi0]
    ·rw[updF_ne _ _ hq]
   show Post F ρ H w (updF H i (some (.sl s rows))) _ _ _
   rw[hH]
   exact Post.same En (.tup .nil)
  ·have hcl:¬c=lo:=by omega
   rw[if_neg hcl] at e'
   have hus:(Builtin.zeroCells z.cells (hi-lo)).toList=(List.replicate (hi-lo) z.cells.toList).flatten:=zeros_get (by omega)
   have hul:(List.replicate (hi-lo) z.cells.toList).flatten.length=(hi-lo)*s:=by simp[List.length_flatten,u6]
   have huo:∀ u∈(List.replicate (hi-lo) z.cells.toList).flatten,u.oneCell'=true:=fun u hu=>by
    obtain⟨l,hl,hu⟩:=List.mem_flatten.1 hu
    rw[(List.mem_replicate.1 hl).2] at hu
    exact u8 u hu
   have hls:lo*s≤hi*s:=Nat.mul_le_mul_right _ (by omega)
   have hhs:hi*s≤rows.length*s:=Nat.mul_le_mul_right _ h2
   have hcs:rows.length*s≤c*s:=Nat.mul_le_mul_right _ hnc
   generalize hU:(List.replicate (hi-lo) z.cells.toList).flatten=U at *
   have hst:=run_storeCells_cells (P:=P) g (off+lo*s) U 0 w
    (fun q hq=>by rw[hul] at hq;rw[Nat.add_zero,Nat.add_assoc];exact (hroom _ (by rw[Nat.sub_mul] at hq;omega)).1)
    (fun q hq=>by rw[hul] at hq;rw[Nat.add_zero,Nat.add_assoc];exact (hroom _ (by rw[Nat.sub_mul] at hq;omega)).2) huo
   rw[Nat.add_zero] at hst
   have hr:(execOp ev o).run P w=.ok (.value (.tuple #[])) (w.setCells g (off+lo*s) U):=by
    have hne:∃ d,hi-lo=d+1:=⟨hi-lo-1,by omega⟩
    obtain⟨d,hd⟩:=hne
    rw[hd] at e' hus
    simp[execOp,ho,resolve,invoke,builtin,e',Builtin.clear_,run_underlying u1,hz0,Addr.add_lit,hus,hst]
   rw[hr]
   obtain⟨S1,E1⟩:=En.setsAt (rows':=rows.take lo++List.replicate (hi-lo) (zrow P t)++rows.drop hi) hi0 e1 rfl how (q:=lo*s) (us:=U) (by rw[hul,hvl,Nat.sub_mul];omega) hlen hrows
    (by
     rw[sets_eq _ _ _ (by rw[hul,hvl,Nat.sub_mul];omega),hul,List.flatten_append,List.flatten_append,flat_take hs1,flat_drop hs1]
     have e1:lo*s+(hi-lo)*s=hi*s:=by rw[Nat.sub_mul];omega
     rw[e1]
     refine ((hra.take _).app ?_).app (hra.drop _)
     have e2:(List.replicate (hi-lo) (zrow P t)).flatten=U.map .v:=by
      rw[←hU]
      unfold zrow
      rw[←ue,u7,List.map_flatten,List.map_replicate]
     rw[e2]
     exact rds_zero huo)
   exact⟨F,ρ,S1,Keep.refl _,E1,.tup .nil⟩
theorem Sat.ofPc {g:FuncId} {args:List AV} {rows':List (List D)} (h:Sat P g args [.sl s rows] (.rel 0 (pcP s 0 k)) [.sl s rows']) (hk:k≤rows'.length):Sat P g args [.sl s rows] (.own 1) [.dead,.sl s (rows'.take k)]:=by
 intro F ρ w vals En hv
 refine (h F ρ w vals En hv).mono ?_
 rintro e w' ⟨v,he,F',ρ',S,K,E',hr⟩
 cases hr with|rel e1 hp=>
  obtain⟨A,m,c,rfl,q1,q2,rfl⟩:=hp
  have hi0:hp [AObj.sl s rows'] 0=some (.sl s rows'):=rfl
  obtain⟨hh,e3,⟨vs,how,hra,hs1⟩,e4⟩:=E'.rep 0 _ hi0 rfl
  rw[e1] at e3;injection e3 with e3;subst e3
  obtain⟨A',c',eq,g1,g2,hrd⟩:=how.form
  injection eq with r1 r2 r3
  subst r1 r2 r3
  have hA:(if c=0 then A else A.map (·.add (0*s)))=A:=by
   split
   ·rfl
   ·cases A<;>simp[Addr.add]
  rw[hA,Nat.sub_zero,Nat.sub_zero] at he
  have how':Ow w' 0 0 s (.slice A k c) k (vs.take (k*s)):=by
   cases A with
   |some a=>exact how.take hk (by simp)
   |none=>
    rcases how.2 with⟨q,q0⟩|⟨a,q,_⟩|⟨g,off,cap,q,_⟩
    ·injection q with _ q1 q2
     subst q2
     have:k=0:=by omega
     subst this
     simpa using Ow.nil w' 0 0 s
    ·injection q with q;cases q
    ·injection q with q;cases q
  have hn0:hp [AObj.sl s rows'] 1=none:=rfl
  obtain⟨S1,K1,E1⟩:=E'.swap (n:=1) (o':=.sl s (rows'.take k)) (h':=.slice A k c) hi0 rfl e1 hn0 (World.grownBy.refl w' _) (fun b hb=>.inr (by
   cases A with
   |none=>simp[blkOf] at hb
   |some a=>simpa [blkOf] using hb)) ⟨_,by
    rw[List.length_take,Nat.min_eq_left hk];exact how',by
    rw[flat_take hs1];exact (hra.take _).mono (fun _ _=>rfl) (fun _ h=>h),fun r hr=>hs1 r (List.mem_of_mem_take hr)⟩
  have eh:updF (updF (hp [AObj.sl s rows']) 0 (some .dead)) 1 (some (.sl s (rows'.take k)))=hp [.dead,.sl s (rows'.take k)]:=by
   funext q
   match q with
   |0=>rfl
   |1=>rfl
   |q+2=>rfl
  rw[eh] at S1 E1
  exact⟨_,he,F',_,S.trans S1,K.trans K1,E1,.own (updF_same _ _ _)⟩
end
end Go.Proofs.YtfbfpnfgabamfaaGreat
namespace Go.Proofs.YtfbfpnfgabamfaaGreat
set_option linter.unusedSimpArgs false
open Go.RowKit
set_option maxRecDepth 100000
set_option linter.unusedVariables false
theorem zrow_ev:zrow Tryz.prog 44=[iD 0,iD 0,tD [],nilV]:=by kernel_rfl
theorem piece_ev (R:List (List D)) (z:List D) (i j:Nat) (hij:i<j) (hj:j≤R.length):(R.take i++R.drop j++R.drop (i+(R.length-j))).take (i+(R.length-j)-0)++List.replicate (R.length-(i+(R.length-j)-0)) z ++
   (R.take i++R.drop j++R.drop (i+(R.length-j))).drop R.length=R.take i++R.drop j++List.replicate (j-i) z:=by
 have hd:(R.take i++R.drop j++R.drop (i+(R.length-j))).drop R.length=[]:=List.drop_of_length_le (by simp only[List.length_append,List.length_take,List.length_drop];omega)
 have ht:(R.take i++R.drop j++R.drop (i+(R.length-j))).take (i+(R.length-j)-0)=R.take i++R.drop j:=List.take_left' (by simp only[List.length_append,List.length_take,List.length_drop];omega)
 rw[hd,ht,List.append_nil,show R.length-(i+(R.length-j)-0)=j-i by omega]
set_option maxHeartbeats 2000000 in
theorem deleteE_pc (R:List (List D)) (i j:Nat) (hij:i<j) (hj:j≤R.length) (hn:R.length≤100000) :
  Sat Tryz.prog 101 [.own 0,iA i,iA j] [.sl 4 R] (.rel 0 (pcP 4 0 (i+(R.length-j)))) [.sl 4 (R.take i++R.drop j++List.replicate (j-i) [iD 0,iD 0,tD [],nilV])]:=by
 have hb:((i:Int) == (j:Int))=false:=by rw[beq_eq_false_iff_ne];omega
 refine Vq Tryz.func101 rfl rfl ?_
 conv=>whnf
 have hl2:(R.take i++R.drop j++R.drop (i+(R.length-j))).length=R.length:=by
  simp only[List.length_append,List.length_take,List.length_drop];omega
 iterate 4
  repeat' first|exact T0|(first|refine Yd fun _=>?_|refine Ye fun _=>?_|refine Yg ?_|refine Yk (pc3 4 56 (by kernel_rfl) rfl (Nat.le_of_lt hij) (show j≤R.length by omega) (Nat.le_refl _)) ?_|refine Yk (pcUpto 4 56 (by kernel_rfl) rfl (show i≤R.length by omega)) ?_|refine Yk (pcFrom 4 56 (by kernel_rfl) rfl (show j≤R.length by omega)) ?_|refine Yk (pcApp 4 56 (by kernel_rfl) rfl (Nat.le_of_lt hij) (show j≤R.length by omega) (by omega)) ?_|refine Yk (pcLen 4 56 (by kernel_rfl)) ?_|refine Yk (pcOf 4 56 (lo:=i+(R.length-j)-0) (hi:=R.length) (by kernel_rfl) rfl (by omega) (by rw[hl2];omega)) ?_|refine Yk (pcClear 4 56 (by kernel_rfl) rfl (by rw[hl2];omega) (by rw[hl2];omega)) ?_);conv=>whnf|(refine Ya ?_ ?_<;>intro _<;>conv=>whnf)
  all_goals try (refine Or.inl ?_;conv=>whnf)
 all_goals try exact (bnl ‹_› hb).elim
 have hrows:(R.take i++R.drop j++R.drop (i+(R.length-j))).take (i+(R.length-j)-0)++List.replicate (R.length-(i+(R.length-j)-0)) (zrow Tryz.prog 44) ++
   (R.take i++R.drop j++R.drop (i+(R.length-j))).drop R.length=R.take i++R.drop j++List.replicate (j-i) [iD 0,iD 0,tD [],nilV]:=by
  rw[zrow_ev]
  exact piece_ev R _ i j hij hj
 rw[hrows]
 all_goals refine⟨[],?_⟩
 repeat any_goals first|exact T0|exact rfl|exact Yr|refine Ya ?_ ?_
 all_goals conv=>whnf
theorem deleteE_sat (R:List (List D)) (j:Nat) (hij:0<j) (hj:j≤R.length) (hn:R.length≤100000) :
  Sat Tryz.prog 101 [.own 0,iA 0,iA j] [.sl 4 R] (.own 1) [.dead,.sl 4 (R.drop j)]:=by
 have h:=Sat.ofPc (deleteE_pc R 0 j hij hj hn) (by simp only[List.length_append,List.length_take,List.length_drop,List.length_replicate];omega)
 rw[List.take_left' (by simp only[List.length_append,List.length_take,List.length_drop];omega)] at h
 exact h
def grantA (a:Ag) (f:Fr):Ag × Nat:=if f.b≠a.boot then (a,22) else if a.epoch≠0 then (a,18) else if f.e=0 then (a,10) else ({ a with epoch:=f.e },0)
theorem beqI (x y:Int):(x == y)=decide (x=y):=by rw[Bool.eq_iff_iff,beq_iff_eq,decide_eq_true_eq]
theorem bneI (x y:Int):(x != y)=decide (x≠y):=by rw[Bool.eq_iff_iff,bne_iff_ne,decide_eq_true_eq]
theorem grant_sat (a:Ag) (f:Fr):Sat Tryz.prog 62 [.ptr 0 0,.d (frD f)] (agH a) (iA (grantA a f).2) (agH (grantA a f).1):=by
 obtain⟨id,most,boot,epoch,clock,seq,kept,dropped,probes⟩:=a
 obtain⟨fk,fa,fe,fb,fc,fg,fs,fn,ft,fw,ev,sr,d⟩:=f
 unfold grantA
 simp only
 by_cases h1:fb=boot
 case neg=>
  rw[if_pos h1]
  have d1:(fb != boot)=true:=by rw[bne_iff_ne];exact h1
  refine Vq Tryz.func62 rfl rfl ?_
  conv=>whnf
  iterate 4
   repeat' first|exact T0|(first|refine Yd fun _=>?_|refine Ye fun _=>?_|refine Yg ?_);conv=>whnf|(refine Ya ?_ ?_<;>intro _<;>conv=>whnf)
   all_goals try (refine Or.inl ?_;conv=>whnf)
  all_goals try exact (bnl d1 ‹_›).elim
  all_goals refine⟨[],?_⟩
  repeat any_goals first|exact T0|exact rfl|exact Yr|refine Ya ?_ ?_
  all_goals conv=>whnf
 rw[if_neg (fun h=>h h1)]
 have d1:(fb != boot)=false:=by rw[bneI,decide_eq_false (fun h=>h h1)]
 by_cases h2:epoch=0
 case neg=>
  rw[if_pos h2]
  have d2:(epoch != 0)=true:=by rw[bne_iff_ne];exact h2
  refine Vq Tryz.func62 rfl rfl ?_
  conv=>whnf
  iterate 4
   repeat' first|exact T0|(first|refine Yd fun _=>?_|refine Ye fun _=>?_|refine Yg ?_);conv=>whnf|(refine Ya ?_ ?_<;>intro _<;>conv=>whnf)
   all_goals try (refine Or.inl ?_;conv=>whnf)
  all_goals try exact (bnl ‹_› d1).elim
  all_goals try exact (bnl d2 ‹_›).elim
  all_goals refine⟨[],?_⟩
  repeat any_goals first|exact T0|exact rfl|exact Yr|refine Ya ?_ ?_
  all_goals conv=>whnf
 rw[if_neg (fun h=>h h2)]
 have d2:(epoch != 0)=false:=by rw[bneI,decide_eq_false (fun h=>h h2)]
 by_cases h3:fe=0
 ·rw[if_pos h3]
  have d3:(fe == 0)=true:=by rw[beq_iff_eq];exact h3
  refine Vq Tryz.func62 rfl rfl ?_
  conv=>whnf
  iterate 4
   repeat' first|exact T0|(first|refine Yd fun _=>?_|refine Ye fun _=>?_|refine Yg ?_);conv=>whnf|(refine Ya ?_ ?_<;>intro _<;>conv=>whnf)
   all_goals try (refine Or.inl ?_;conv=>whnf)
  all_goals try exact (bnl ‹_› d1).elim
  all_goals try exact (bnl ‹_› d2).elim
  all_goals try exact (bnl d3 ‹_›).elim
  all_goals refine⟨[],?_⟩
  repeat any_goals first|exact T0|exact rfl|exact Yr|refine Ya ?_ ?_
  all_goals conv=>whnf
 ·rw[if_neg h3]
  have d3:(fe == 0)=false:=by rw[beqI,decide_eq_false h3]
  refine Vq Tryz.func62 rfl rfl ?_
  conv=>whnf
  iterate 4
   repeat' first|exact T0|(first|refine Yd fun _=>?_|refine Ye fun _=>?_|refine Yg ?_);conv=>whnf|(refine Ya ?_ ?_<;>intro _<;>conv=>whnf)
   all_goals try (refine Or.inl ?_;conv=>whnf)
  all_goals try exact (bnl ‹_› d1).elim
  all_goals try exact (bnl ‹_› d2).elim
  all_goals try exact (bnl ‹_› d3).elim
  all_goals refine⟨[],?_⟩
  repeat any_goals first|exact T0|exact rfl|exact Yr|refine Ya ?_ ?_
  all_goals conv=>whnf
def probeA (a:Ag) (f:Fr):Ag × Nat:=if a.epoch=0 then (a,21) else if 8≤a.probes.length then (a,20) else ({ a with probes:=a.probes++[(f.b,f.c,a.clock)] },0)
theorem probe_sat (a:Ag) (f:Fr):Sat Tryz.prog 63 [.ptr 0 0,.d (frD f)] (agH a) (iA (probeA a f).2) (agH2 (probeA a f).1):=by
 obtain⟨id,most,boot,epoch,clock,seq,kept,dropped,probes⟩:=a
 obtain⟨fk,fa,fe,fb,fc,fg,fs,fn,ft,fw,ev,sr,d⟩:=f
 have hl:(probes.map prR).length=probes.length:=List.length_map _
 unfold probeA
 simp only
 by_cases h1:epoch=0
 ·rw[if_pos h1]
  have d1:(epoch == 0)=true:=by rw[beq_iff_eq];exact h1
  refine Vq Tryz.func63 rfl rfl ?_
  conv=>whnf
  iterate 4
   repeat' first|exact T0|(first|refine Yd fun _=>?_|refine Ye fun _=>?_|refine Yg ?_);conv=>whnf|(refine Ya ?_ ?_<;>intro _<;>conv=>whnf)
   all_goals try (refine Or.inl ?_;conv=>whnf)
  all_goals try exact (bnl d1 ‹_›).elim
  all_goals refine⟨[(1,4),(2,5),(3,4),(4,5)],?_⟩
  repeat any_goals first|exact T0|exact rfl|exact Yr|refine Ya ?_ ?_
  all_goals conv=>whnf
 rw[if_neg h1]
 have d1:(epoch == 0)=false:=by rw[beqI,decide_eq_false h1]
 by_cases h2:8≤probes.length
 ·rw[if_pos h2]
  have d2:decide (((probes.map prR).length:Int)≥8)=true:=decide_eq_true (by rw[hl];omega)
  refine Vq Tryz.func63 rfl rfl ?_
  conv=>whnf
  iterate 4
   repeat' first|exact T0|(first|refine Yd fun _=>?_|refine Ye fun _=>?_|refine Yg ?_);conv=>whnf|(refine Ya ?_ ?_<;>intro _<;>conv=>whnf)
   all_goals try (refine Or.inl ?_;conv=>whnf)
  all_goals try exact (bnl ‹_› d1).elim
  all_goals try exact (bnl d2 ‹_›).elim
  all_goals refine⟨[(1,4),(2,5),(3,4),(4,5)],?_⟩
  repeat any_goals first|exact T0|exact rfl|exact Yr|refine Ya ?_ ?_
  all_goals conv=>whnf
 ·rw[if_neg h2]
  have d2:decide (((probes.map prR).length:Int)≥8)=false:=decide_eq_false (by rw[hl];omega)
  refine Vq Tryz.func63 rfl rfl ?_
  conv=>whnf
  iterate 4
   repeat' first|exact T0|(first|refine Yd fun _=>?_|refine Ye fun _=>?_|refine Yg ?_|refine Yk (ap 3 24 (by kernel_rfl) rfl rfl (by simp;omega)) ?_);conv=>whnf|(refine Ya ?_ ?_<;>intro _<;>conv=>whnf)
   all_goals try (refine Or.inl ?_;conv=>whnf)
  all_goals try exact (bnl ‹_› d1).elim
  all_goals try exact (bnl ‹_› d2).elim
  all_goals refine⟨[(1,6),(3,6),(4,5)],?_⟩
  repeat any_goals first|exact T0|exact rfl|exact Yr|refine Ya ?_ ?_
  all_goals conv=>whnf
  all_goals try exact congrArg (AObj.sl 3) (by rw[List.map_append];rfl)
def ackA (a:Ag) (f:Fr):Ag × Nat:=if a.epoch=0∨f.e≠a.epoch then (a,22) else if a.seq<f.n then (a,11) else ({ a with kept:=a.kept.drop (f.n-firstA a).toNat },0)
set_option maxHeartbeats 2000000 in
theorem ack_sat (a:Ag) (f:Fr) (h0:0≤firstA a) (hs:a.seq≤1099511627775) (hk:a.kept.length≤100000) (hf:0≤f.n):Sat Tryz.prog 64 [.ptr 0 0,.d (frD f)] (agH a) (iA (ackA a f).2) (agH2 (ackA a f).1):=by
 have f1:=agFirst_sat a (by unfold firstA at h0 ⊢;exact⟨by omega,by omega⟩)
 have hfa:firstA a=a.seq-a.kept.length:=rfl
 unfold ackA
 generalize firstA a=q at *
 obtain⟨id,most,boot,epoch,clock,seq,kept,dropped,probes⟩:=a
 obtain⟨fk,fa,fe,fb,fc,fg,fs,fn,ft,fw,ev,sr,d⟩:=f
 have hl:(kept.map evR).length=kept.length:=List.length_map _
 simp only at hs hk hf hfa ⊢
 by_cases h1:epoch=0∨fe≠epoch
 ·rw[if_pos h1]
  have hneg:¬((epoch == 0)=false∧(fe != epoch)=false):=by
   rintro⟨p1,p2⟩
   rw[beqI] at p1
   rw[bneI] at p2
   have p1:=of_decide_eq_false p1
   have p2:=of_decide_eq_false p2
   exact h1.elim p1 p2
  refine Vq Tryz.func64 rfl rfl ?_
  conv=>whnf
  iterate 6
   repeat' first|exact T0|(first|refine (fun (_:True)=>(hneg ⟨‹_›,‹_›⟩).elim) ?_|refine Yd fun _=>?_|refine Ye fun _=>?_|refine Yg ?_|refine Yk (f1.at3 0 1 2 rfl rfl rfl rfl rfl rfl) ?_);conv=>whnf|(refine Ya ?_ ?_<;>intro _<;>conv=>whnf)
   all_goals try (refine Or.inl ?_;conv=>whnf)
  all_goals refine⟨[(1,4),(2,5),(3,4),(4,5)],?_⟩
  repeat any_goals first|exact T0|exact rfl|exact Yr|refine Ya ?_ ?_
  all_goals conv=>whnf
 rw[if_neg h1]
 have d1:(epoch == 0)=false:=by rw[beqI,decide_eq_false fun h=>h1 (.inl h)]
 have d2:(fe != epoch)=false:=by rw[bneI,decide_eq_false fun h=>h1 (.inr h)]
 by_cases h2:seq<fn
 ·rw[if_pos h2]
  have d3:decide (fn>seq)=true:=decide_eq_true h2
  refine Vq Tryz.func64 rfl rfl ?_
  conv=>whnf
  iterate 6
   repeat' first|exact T0|(first|refine (fun (_:True)=>(bnl d3 ‹_›).elim) ?_|refine Yd fun _=>?_|refine Ye fun _=>?_|refine Yg ?_|refine Yk (f1.at3 0 1 2 rfl rfl rfl rfl rfl rfl) ?_);conv=>whnf|(refine Ya ?_ ?_<;>intro _<;>conv=>whnf)
   all_goals try (refine Or.inl ?_;conv=>whnf)
  all_goals try exact (bnl ‹_› d1).elim
  all_goals try exact (bnl ‹_› d2).elim
  all_goals refine⟨[(1,4),(2,5),(3,4),(4,5)],?_⟩
  repeat any_goals first|exact T0|exact rfl|exact Yr|refine Ya ?_ ?_
  all_goals conv=>whnf
 rw[if_neg h2]
 have d3:decide (fn>seq)=false:=decide_eq_false h2
 have hw:IntKind.i64.wrap (fn-q)=fn-q:=wi (by omega) (by omega)
 by_cases h3:0<fn-q
 ·obtain⟨k,hkk⟩:∃ k:Nat,fn-q=k:=⟨(fn-q).toNat,by omega⟩
  have d4:decide (IntKind.i64.wrap (fn-q)>0)=true:=decide_eq_true (by rw[hw];exact h3)
  have dl:=deleteE_sat (kept.map evR) k (by omega) (by rw[hl];omega) (by rw[hl];omega)
  have hwk:(k:Int)=IntKind.i64.wrap (fn-q):=by rw[hw];exact hkk.symm
  rw[hkk,Int.toNat_natCast]
  rw[←List.map_drop,hwk] at dl
  refine Vq Tryz.func64 rfl rfl ?_
  conv=>whnf
  iterate 6
   repeat' first|exact T0|(first|refine Yd fun _=>?_|refine Ye fun _=>?_|refine Yg ?_|refine Yk (f1.at3 0 1 2 rfl rfl rfl rfl rfl rfl) ?_|refine Yk (dl.at1 1 rfl rfl rfl) ?_);conv=>whnf|(refine Ya ?_ ?_<;>intro _<;>conv=>whnf)
   all_goals try (refine Or.inl ?_;conv=>whnf)
  all_goals try exact (bnl ‹_› d1).elim
  all_goals try exact (bnl ‹_› d2).elim
  all_goals try exact (bnl ‹_› d3).elim
  all_goals try exact (bnl d4 ‹_›).elim
  all_goals refine⟨[(2,5),(3,4),(4,5)],?_⟩
  repeat any_goals first|exact T0|exact rfl|exact Yr|refine Ya ?_ ?_
  all_goals conv=>whnf
 ·have d4:decide (IntKind.i64.wrap (fn-q)>0)=false:=decide_eq_false (by rw[hw];exact h3)
  have e0:(fn-q).toNat=0:=by omega
  rw[e0,List.drop_zero]
  refine Vq Tryz.func64 rfl rfl ?_
  conv=>whnf
  iterate 6
   repeat' first|exact T0|(first|refine (fun (_:True)=>(bnl ‹_› d4).elim) ?_|refine Yd fun _=>?_|refine Ye fun _=>?_|refine Yg ?_|refine Yk (f1.at3 0 1 2 rfl rfl rfl rfl rfl rfl) ?_);conv=>whnf|(refine Ya ?_ ?_<;>intro _<;>conv=>whnf)
   all_goals try (refine Or.inl ?_;conv=>whnf)
  all_goals try exact (bnl ‹_› d1).elim
  all_goals try exact (bnl ‹_› d2).elim
  all_goals try exact (bnl ‹_› d3).elim
  all_goals refine⟨[(1,4),(2,5),(3,4),(4,5)],?_⟩
  repeat any_goals first|exact T0|exact rfl|exact Yr|refine Ya ?_ ?_
  all_goals conv=>whnf
theorem right_next {f:Fr} (h:rightF f=true):0≤f.n:=by
 unfold rightF at h
 split at h
 ·rename_i hk
  obtain⟨q1,q2,q3,q4⟩:=right_parts h
  have e:=sameB_iff.1 q4
  have e2:f.n=bnum f (idxK f.k.toNat) 7:=congrArg Fr.n e
  rw[e2]
  unfold bnum
  split
  ·rename_i hc
   exact (q2 _ (List.mem_map.2 ⟨7,List.contains_iff_mem.1 hc,rfl⟩)).1
  ·exact Int.le_refl _
 ·cases h
theorem decode_next {l:Bt} (h:(decodeF l).2=0):0≤(decodeF l).1.n:=by
 have e:decodeF l=((decodeF l).1,0):=by rw[←h]
 exact right_next (decodeF_zero e).2
def frameA (a:Ag) (f:Fr):Ag × Nat:=if f.k=2 then grantA a f else if f.k=3 then probeA a f else ackA a f
def takeA (a0:Ag) (r:Int) (l:Bt):Ag × Nat:=
 let a:=(observeA a0 r).1
 if (observeA a0 r).2≠0 then (a,(observeA a0 r).2)
 else if (decodeF l).2≠0 then (a,(decodeF l).2)
 else if (decodeF l).1.k≠2∧(decodeF l).1.k≠3∧(decodeF l).1.k≠6 then (a,16)
 else if (decodeF l).1.a≠a.id then (a,10)
 else frameA a (decodeF l).1
theorem observeA_first (a:Ag) (r:Int):firstA (observeA a r).1=firstA a:=by
 unfold firstA
 rw[(observeA_seq a r).1,(observeA_seq a r).2]
set_option maxHeartbeats 8000000 in
theorem take_satA (a0:Ag) (r:Int) (l:Bt) (h0:0≤firstA a0) (hs:a0.seq≤1099511627775) (hk:a0.kept.length≤100000):Sat Tryz.prog 27 [.ptr 0 0,iA r,.d (bsD l)] (agH a0) (iA (takeA a0 r l).2) (agH2 (takeA a0 r l).1):=by
 have o1:=observe_sat a0 r
 obtain⟨q1,q2⟩:=observeA_seq a0 r
 have q3:=observeA_first a0 r
 have dc:=decode_sat l
 have dn:=decode_next (l:=l)
 rw[←q1] at hs
 rw[←q2] at hk
 rw[←q3] at h0
 unfold takeA
 generalize observeA a0 r=A at *
 obtain⟨a,e⟩:=A
 generalize decodeF l=D at *
 obtain⟨f,e2⟩:=D
 simp only at o1 hs hk h0 dc dn ⊢
 by_cases he:e=0
 case neg=>
  rw[if_pos he]
  have d1:=ne0 he
  refine Vq Tryz.func27 rfl rfl ?_
  conv=>whnf
  iterate 4
   repeat' first|exact T0|(first|refine Yd fun _=>?_|refine Ye fun _=>?_|refine Yg ?_|refine Yk (o1.at3 0 1 2 rfl rfl rfl rfl rfl rfl) ?_);conv=>whnf|(refine Ya ?_ ?_<;>intro _<;>conv=>whnf)
   all_goals try (refine Or.inl ?_;conv=>whnf)
  all_goals try exact (bnl d1 ‹_›).elim
  all_goals refine⟨[(1,3),(2,4)],?_⟩
  repeat any_goals first|exact T0|exact rfl|exact Yr|refine Ya ?_ ?_
  all_goals conv=>whnf
 subst he
 rw[if_neg (fun h=>h rfl)]
 by_cases he2:e2=0
 case neg=>
  rw[if_pos he2]
  have d1:=ne0 he2
  refine Vq Tryz.func27 rfl rfl ?_
  conv=>whnf
  iterate 5
   repeat' first|exact T0|(first|refine Yd fun _=>?_|refine Ye fun _=>?_|refine Yg ?_|refine Yk (o1.at3 0 1 2 rfl rfl rfl rfl rfl rfl) ?_|refine Yk (dc.pu rfl rfl) ?_);conv=>whnf|(refine Ya ?_ ?_<;>intro _<;>conv=>whnf)
   all_goals try (refine Or.inl ?_;conv=>whnf)
  all_goals try exact (bnl d1 ‹_›).elim
  all_goals refine⟨[(1,4),(2,5),(3,4),(4,5)],?_⟩
  repeat any_goals first|exact T0|exact rfl|exact Yr|refine Ya ?_ ?_
  all_goals conv=>whnf
 subst he2
 rw[if_neg (fun h=>h rfl)]
 have dn:=dn rfl
 have g1:=grant_sat a f
 have p1:=probe_sat a f
 have k1:=ack_sat a f h0 hs hk dn
 obtain⟨fk,fa,fe,fb,fc,fg,fs,fn,ft,fw,ev,sr,d⟩:=f
 unfold frameA
 simp only at dn ⊢
 by_cases h1:fk≠2∧fk≠3∧fk≠6
 ·rw[if_pos h1]
  have d1:(fk != 2)=true:=by rw[bneI,decide_eq_true h1.1]
  have d2:(fk != 3)=true:=by rw[bneI,decide_eq_true h1.2.1]
  have d3:(fk != 6)=true:=by rw[bneI,decide_eq_true h1.2.2]
  refine Vq Tryz.func27 rfl rfl ?_
  conv=>whnf
  iterate 6
   repeat' first|exact T0|(first|refine (fun (_:True)=>(bnl d1 ‹_›).elim) ?_|refine (fun (_:True)=>(bnl d2 ‹_›).elim) ?_|refine (fun (_:True)=>(bnl d3 ‹_›).elim) ?_|refine Yd fun _=>?_|refine Ye fun _=>?_|refine Yg ?_|refine Yk (o1.at3 0 1 2 rfl rfl rfl rfl rfl rfl) ?_|refine Yk (dc.pu rfl rfl) ?_);conv=>whnf|(refine Ya ?_ ?_<;>intro _<;>conv=>whnf)
   all_goals try (refine Or.inl ?_;conv=>whnf)
  all_goals refine⟨[(1,4),(2,5),(3,4),(4,5)],?_⟩
  repeat any_goals first|exact T0|exact rfl|exact Yr|refine Ya ?_ ?_
  all_goals conv=>whnf
 rw[if_neg h1]
 have hneg:¬((fk != 2)=true∧(fk != 3)=true∧(fk != 6)=true):=by
  rintro⟨p1,p2,p3⟩
  rw[bne_iff_ne] at p1 p2 p3
  exact h1 ⟨p1,p2,p3⟩
 by_cases h2:fa=a.id
 case neg=>
  rw[if_pos h2]
  have d1:(fa != a.id)=true:=by rw[bneI,decide_eq_true h2]
  refine Vq Tryz.func27 rfl rfl ?_
  conv=>whnf
  iterate 6
   repeat' first|exact T0|(first|refine (fun (_:True)=>(hneg ⟨‹_›,‹_›,‹_›⟩).elim) ?_|refine (fun (_:True)=>(bnl d1 ‹_›).elim) ?_|refine Yd fun _=>?_|refine Ye fun _=>?_|refine Yg ?_|refine Yk (o1.at3 0 1 2 rfl rfl rfl rfl rfl rfl) ?_|refine Yk (dc.pu rfl rfl) ?_);conv=>whnf|(refine Ya ?_ ?_<;>intro _<;>conv=>whnf)
   all_goals try (refine Or.inl ?_;conv=>whnf)
  all_goals refine⟨[(1,4),(2,5),(3,4),(4,5)],?_⟩
  repeat any_goals first|exact T0|exact rfl|exact Yr|refine Ya ?_ ?_
  all_goals conv=>whnf
 rw[if_neg (fun h=>h h2)]
 have d1:(fa != a.id)=false:=by rw[bneI,decide_eq_false fun h=>h h2]
 by_cases h3:fk=2
 ·rw[if_pos h3]
  subst h3
  refine Vq Tryz.func27 rfl rfl ?_
  conv=>whnf
  iterate 6
   repeat' first|exact T0|(first|refine (fun (_:True)=>(hneg ⟨‹_›,‹_›,‹_›⟩).elim) ?_|refine (fun (_:True)=>(bnl ‹_› d1).elim) ?_|refine Yd fun _=>?_|refine Ye fun _=>?_|refine Yg ?_|refine Yk (o1.at3 0 1 2 rfl rfl rfl rfl rfl rfl) ?_|refine Yk (dc.pu rfl rfl) ?_|refine Yk (g1.at3 0 1 2 rfl rfl rfl rfl rfl rfl) ?_);conv=>whnf|(refine Ya ?_ ?_<;>intro _<;>conv=>whnf)
   all_goals try (refine Or.inl ?_;conv=>whnf)
  all_goals refine⟨[(1,4),(2,5),(3,4),(4,5)],?_⟩
  repeat any_goals first|exact T0|exact rfl|exact Yr|refine Ya ?_ ?_
  all_goals conv=>whnf
 rw[if_neg h3]
 by_cases h4:fk=3
 ·rw[if_pos h4]
  subst h4
  refine Vq Tryz.func27 rfl rfl ?_
  conv=>whnf
  iterate 6
   repeat' first|exact T0|(first|refine (fun (_:True)=>(hneg ⟨‹_›,‹_›,‹_›⟩).elim) ?_|refine (fun (_:True)=>(bnl ‹_› d1).elim) ?_|refine Yd fun _=>?_|refine Ye fun _=>?_|refine Yg ?_|refine Yk (o1.at3 0 1 2 rfl rfl rfl rfl rfl rfl) ?_|refine Yk (dc.pu rfl rfl) ?_|refine Yk (p1.at3 0 1 2 rfl rfl rfl rfl rfl rfl) ?_);conv=>whnf|(refine Ya ?_ ?_<;>intro _<;>conv=>whnf)
   all_goals try (refine Or.inl ?_;conv=>whnf)
  all_goals refine⟨[(3,4),(4,5)],?_⟩
  repeat any_goals first|exact T0|exact rfl|exact Yr|refine Ya ?_ ?_
  all_goals conv=>whnf
 rw[if_neg h4]
 obtain rfl:fk=6:=by
  by_cases h6:fk=6
  ·exact h6
  ·exact absurd ⟨h3,h4,h6⟩ h1
 refine Vq Tryz.func27 rfl rfl ?_
 conv=>whnf
 iterate 6
  repeat' first|exact T0|(first|refine (fun (_:True)=>(hneg ⟨‹_›,‹_›,‹_›⟩).elim) ?_|refine (fun (_:True)=>(bnl ‹_› d1).elim) ?_|refine Yd fun _=>?_|refine Ye fun _=>?_|refine Yg ?_|refine Yk (o1.at3 0 1 2 rfl rfl rfl rfl rfl rfl) ?_|refine Yk (dc.pu rfl rfl) ?_|refine Yk (k1.at3 0 1 2 rfl rfl rfl rfl rfl rfl) ?_);conv=>whnf|(refine Ya ?_ ?_<;>intro _<;>conv=>whnf)
  all_goals try (refine Or.inl ?_;conv=>whnf)
 all_goals refine⟨[(3,4),(4,5)],?_⟩
 repeat any_goals first|exact T0|exact rfl|exact Yr|refine Ya ?_ ?_
 all_goals conv=>whnf
abbrev z4:List D:=[iD 0,iD 0,tD [],nilV]
def rowsK (l:List Evt) (i:Nat):List (List D):=(l.take i).map evR++List.replicate (l.length-i) z4
theorem rowsK_len (l:List Evt) (i:Nat) (h:i≤l.length):(rowsK l i).length=l.length:=by
 unfold rowsK
 rw[List.length_append,List.length_map,List.length_take,List.length_replicate];omega
theorem rowsK_at (l:List Evt) (i:Nat) (h:i<l.length):(rowsK l i)[i]?=some z4:=by
 unfold rowsK
 have hl:((l.take i).map evR).length=i:=by rw[List.length_map,List.length_take];omega
 rw[List.getElem?_append_right (by omega),hl,Nat.sub_self,List.getElem?_replicate,if_pos (by omega)]
theorem rowsK_set {l:List Evt} {i:Nat} {x:Evt} (hx:l[i]?=some x):(rowsK l i).set i (evR x)=rowsK l (i+1):=by
 have h:i<l.length:=(List.getElem?_eq_some_iff.1 hx).1
 unfold rowsK
 have hl:((l.take i).map evR).length=i:=by rw[List.length_map,List.length_take];omega
 rw[List.set_append_right _ _ (by omega),hl,Nat.sub_self,show l.length-i=(l.length-(i+1))+1 by omega,List.replicate_succ,List.set_cons_zero,List.take_add_one,hx,List.map_append,List.append_assoc]
 rfl
set_option maxHeartbeats 4000000 in
theorem kept_sat (a:Ag) (hk:a.kept.length≤100000) (hl:∀ x∈a.kept,x.2.2.2.length≤1000):Sat Tryz.prog 18 [.ptr 0 0] (agH a) (.own 3) (agH a++[.sl 4 (a.kept.map evR)]):=by
 obtain⟨id,most,boot,epoch,clock,seq,kept,dropped,probes⟩:=a
 simp only at hk hl
 have hm:(kept.map evR).length=kept.length:=List.length_map _
 have hz:List.replicate (kept.map evR).length (zrow Tryz.prog 44)=rowsK kept 0:=by
  rw[zrow_ev,hm]
  unfold rowsK
  simp
 refine Vq Tryz.func18 rfl rfl ?_
 conv=>whnf
 iterate 4
  repeat' first|exact T0|(first|refine Yd fun _=>?_|refine Ye fun _=>?_|refine Yg ?_|refine Yk (mkf (c:=(kept.map evR).length) 4 56 (by kernel_rfl) (by omega) (by unfold maxLen;omega)) ?_);conv=>whnf|(refine Ya ?_ ?_<;>intro _<;>conv=>whnf)
  all_goals try (refine Or.inl ?_;conv=>whnf)
 refine⟨Nat,fun i=>i≤kept.length,fun i=>([(19,iA i),(18,iA (kept.map evR).length),(17,.own 1),(3,.own 3),(0,.ptr 0 0)],agH ⟨id,most,boot,epoch,clock,seq,kept,dropped,probes⟩++[.sl 4 (rowsK kept i)]),fun i=>kept.length-i,⟨0,Nat.zero_le _,?_⟩,?_⟩
 ·all_goals refine⟨[],?_⟩
  repeat any_goals first|exact T0|exact rfl|exact Yr|refine Ya ?_ ?_
  all_goals conv=>whnf
  all_goals exact congrArg (AObj.sl 4) hz
 intro i hi
 have hi:i≤kept.length:=hi
 conv=>whnf
 by_cases hlt:i<kept.length
 ·have hx:kept[i]?=some kept[i]:=List.getElem?_eq_getElem hlt
  generalize kept[i]=x at hx
  have hgx:=map_get (f:=evR) hx
  have c1:=copied_sat x (hl x (List.mem_of_getElem? hx))
  have d1:decide ((i:Int)<((kept.map evR).length:Nat))=true:=decide_eq_true (by rw[hm];omega)
  iterate 4
   repeat' first|exact T0|(first|refine⟨i,rfl,(by rw[hm];exact hlt),?_⟩|refine⟨i,rfl,(by rw[rowsK_len _ _ hi];exact hlt),?_⟩|refine⟨_,hgx,?_⟩|refine Ya (Nat.le_refl 4) ?_|refine⟨z4,evR x,rowsK_at kept i hlt,rfl,?_⟩|refine Yd fun _=>?_|refine Ye fun _=>?_|refine Yg ?_|refine Yk (c1.pu rfl rfl) ?_);conv=>whnf|(refine Ya ?_ ?_<;>intro _<;>conv=>whnf)
   all_goals try (refine Or.inl ?_;conv=>whnf)
  all_goals try exact (bnl d1 ‹_›).elim
  refine⟨i+1,hlt,show kept.length-(i+1)<kept.length-i by omega,?_⟩
  all_goals refine⟨[],?_⟩
  repeat any_goals first|exact T0|exact rfl|exact Yr|refine Ya ?_ ?_
  all_goals conv=>whnf
  ·exact wk1 (by omega)
  ·exact congrArg (AObj.sl 4) (rowsK_set hx)
 ·have d1:decide ((i:Int)<((kept.map evR).length:Nat))=false:=decide_eq_false (by rw[hm];omega)
  obtain rfl:i=kept.length:=by omega
  iterate 4
   repeat' first|exact T0|(first|refine Yd fun _=>?_|refine Ye fun _=>?_|refine Yg ?_);conv=>whnf|(refine Ya ?_ ?_<;>intro _<;>conv=>whnf)
   all_goals try (refine Or.inl ?_;conv=>whnf)
  all_goals try exact (bnl ‹_› d1).elim
  all_goals refine⟨[],?_⟩
  repeat any_goals first|exact T0|exact rfl|exact Yr|refine Ya ?_ ?_
  all_goals conv=>whnf
  exact congrArg (AObj.sl 4) (by unfold rowsK;simp)
section
variable {P:Program} {L:List AObj} {n:Nat} {g:FuncId}
abbrev LendOk (L:List AObj) (args args1:List AV) (ids:List Nat):Prop:=
 ∀ (F F1:Nat→Prop) (ρ:Nat→Option Value) (H:Hp) (w:World) (vals:List Value),Env F ρ H w→(∀ b,F b→F1 b)→(∀ i∈ids,H i=L[i]?)→(∀ i∈ids,∀ h,ρ i=some h→∀ b,blkOf h=some b→F1 b)→RAs w F ρ args vals→RAs w F1 (fun _=>none) args1 vals
theorem Sat.lendG {args args1:List AV} {r:AV} {ids:List Nat} (h:Sat P g args1 [] r []) (hl:LendOk L args args1 ids) (hr:flatA r=true) (hlive:∀ i∈ids,∃ o,L[i]?=some o∧o.live=true):CallOK P g args L n ⟨ids,[],[]⟩ r:=by
 intro H F ρ w vals En hrs _ hv
 have hH:∀ i∈ids,∀ hh,ρ i=some hh→∀ b,blkOf hh=some b→b<w.heap.size:=by
  intro i hi hh hρ b hb
  obtain⟨o,ho,hlv⟩:=hlive i hi
  obtain⟨h0,e1,_,e3⟩:=En.rep i o (by rw[hrs i hi];exact ho) hlv
  rw[hρ] at e1;injection e1 with e1;subst e1
  exact (e3 b hb).1
 let F1:Nat→Prop:=fun b=>F b∨∃ i∈ids,∃ hh,ρ i=some hh∧blkOf hh=some b
 have E1:Env F1 (fun _=>none) (hp []) w:=⟨fun b hb=>hb.elim (En.fb b) fun⟨i,hi,hh,h1,h2⟩=>hH i hi hh h1 b h2,fun _ _=>rfl,fun i o h=>by simp[hp] at h,fun i j o o' _ _ _ h=>by simp[hp] at h⟩
 refine (h F1 (fun _=>none) w vals E1 (hl F F1 ρ H w vals En (fun _ h=>.inl h) hrs (fun i hi hh h1 b h2=>.inr ⟨i,hi,hh,h1,h2⟩) hv)).mono ?_
 rintro en w' ⟨v,rfl,F2,ρ2,S,_,E2,R⟩
 have hold:∀ b,b<w.heap.size→w'.heap[b]?=w.heap[b]?:=fun b hb=>S.unch b hb fun⟨i,o,_,h,_⟩=>by simp[hp] at h
 refine⟨v,rfl,fun b=>F2 b∧(F b∨w.heap.size≤b),ρ,⟨S.os,S.tape,S.output,S.size,fun b hb _=>hold b hb,fun b hb=>⟨S.fsub b (.inl hb),.inl hb⟩,fun b hb=>hb.2.elim .inl fun q=>.inr (.inl q),fun b hb=>.inr hb⟩,Keep.refl _,?_,R.flat r hr⟩
 refine⟨fun b hb=>E2.fb b hb.1,En.abs,fun i o hi hlv=>?_,En.inj⟩
 obtain⟨hh,e1,e2,e3⟩:=En.rep i o hi hlv
 exact⟨hh,e1,e2.mono S.size (fun b _ hlt=>hold b hlt) (fun b hb=>hold b (En.fb b hb)) (fun b hb=>⟨S.fsub b (.inl hb),.inl hb⟩) (Keep.refl _),fun b hb=>⟨Nat.lt_of_lt_of_le (e3 b hb).1 S.size,fun q=>q.2.elim (e3 b hb).2 fun q=>by have:=(e3 b hb).1;omega⟩⟩
theorem own_rd {F F1:Nat→Prop} {ρ:Nat→Option Value} {H:Hp} {w:World} {i s:Nat} {rows:List (List D)} (En:Env F ρ H w) (hi:H i=some (.sl s rows)) (hF:∀ b,F b→F1 b) (hb:∀ h,ρ i=some h→∀ b,blkOf h=some b→F1 b) {v:Value} (hv:RA w F ρ (.own i) v):RD w F1 (.sl s rows) v:=by
 cases hv with|own R=>
 rename_i A m c
 obtain⟨hh,e1,⟨vs,how,hra,hs1⟩,e3⟩:=En.rep i _ hi rfl
 rw[R] at e1;injection e1 with e1;subst e1
 obtain⟨A',c',he,g1,g2,hrd⟩:=how.form
 injection he with q1 q2 q3
 subst q1 q2 q3
 exact .sl rfl hs1 g1 g2 (hra.mono (fun _ _=>rfl) hF) fun hp'=>by
  obtain⟨b,off,rfl,hb',hc⟩:=hrd.2 hp'
  exact⟨b,off,rfl,hb _ R b rfl,hc⟩
theorem flat_ds {F F1:Nat→Prop} {ρ:Nat→Option Value} {w:World} {i:Nat} {x:D} (hF:∀ b,F b→F1 b) (h:∀ v,RA w F ρ (.own i) v→RD w F1 x v):∀ {ys:List AV} {ds:List D} {vs:List Value},ys.map (sbs i x)=ds.map .d→RAs w F ρ ys vs→(∀ c∈vs,c.oneCell'=true)→RDs w F1 ds vs
 |[],[],_,_,h0,_=>by cases h0;exact .nil
 |[],_::_,_,e,_,_=>by simp at e
 |_::_,[],_,e,_,_=>by simp at e
 |y::ys,d::ds,_,e,h0,h1=>by
  rw[List.map_cons,List.map_cons] at e
  injection e with e1 e2
  cases h0 with|cons h2 h3=>
  refine .cons ?_ (h1 _ (List.mem_cons_self ..)) (flat_ds hF h e2 h3 fun c hc=>h1 c (List.mem_cons_of_mem _ hc))
  unfold sbs at e1
  split at e1
  ·rename_i j
   cases hb:Nat.beq j i with
   |true=>
    have:=Nat.eq_of_beq_eq_true hb
    subst this
    rw[hb] at e1
    injection e1 with e1
    subst e1
    exact h _ h2
   |false=>rw[hb] at e1;cases e1
  ·subst e1
   cases h2 with|d h2=>exact h2.mono (fun _ _=>rfl) hF
theorem lendOk_agg {i s:Nat} {rows:List (List D)} {xs:List AV} {ds:List D} (hi:L[i]?=some (.sl s rows)) (hx:xs.map (sbs i (.sl s rows))=ds.map .d):LendOk L [.agg xs] [.d (.agg ds)] [i]:=by
 intro F F1 ρ H w vals En hF hrs hb hv
 have hHi:H i=some (.sl s rows):=(hrs i (by simp)).trans hi
 obtain⟨v,rfl,hv'⟩:=hv.one_out
 cases hv' with|agg h1 h2=>
 exact .cons (.d (.agg (flat_ds hF (fun v hv=>own_rd En hHi hF (hb i (by simp)) hv) hx h1 h2))) .nil
theorem Sat.lendAg {i s:Nat} {rows:List (List D)} {xs:List AV} {ds:List D} {r:AV} (h:Sat P g [.d (.agg ds)] [] r []) (hi:L[i]?=some (.sl s rows)) (hx:xs.map (sbs i (.sl s rows))=ds.map .d) (hr:flatA r=true):CallOK P g [.agg xs] L n ⟨[i],[],[]⟩ r:=
 h.lendG (lendOk_agg hi hx) hr fun j hj=>by rw[List.mem_singleton.1 hj];exact⟨_,hi,rfl⟩
end
set_option maxHeartbeats 8000000 in
theorem measureO_sat (a0:Ag) (r v:Int) (s:Ser) (hs:0≤a0.seq) (hk:a0.kept.length≤100000):Sat Tryz.prog 32 [.ptr 0 0,iA r,iA v,.agg [.d (tD s.1),.own 3]] (agH a0++[.sl 2 (s.2.map labR)]) (.tup [iA (measureA a0 r v s).2.1,iA (measureA a0 r v s).2.2]) [.cells (agC (measureA a0 r v s).1 (.own 4) (.own 5)),.dead,.dead,.sl 2 (s.2.map labR),.sl 4 ((measureA a0 r v s).1.kept.map evR),.sl 3 ((measureA a0 r v s).1.probes.map prR)]:=by
 have o1:=observe_sat a0 r
 obtain⟨q1,q2⟩:=observeA_seq a0 r
 have r1:=sRight_sat s
 have hrl:rightB s=true→s.2.length≤8:=fun h=>(right_out h).2.1
 rw[←q1] at hs
 rw[←q2] at hk
 unfold measureA
 generalize observeA a0 r=A at *
 obtain⟨a,e⟩:=A
 simp only at o1 hs hk ⊢
 by_cases he:e=0
 case neg=>
  rw[if_pos he]
  have d1:=ne0 he
  refine Vq Tryz.func32 rfl rfl ?_
  conv=>whnf
  iterate 4
   repeat' first|exact T0|(first|refine Yd fun _=>?_|refine Ye fun _=>?_|refine Yg ?_|refine Yk (o1.at3 0 1 2 rfl rfl rfl rfl rfl rfl) ?_);conv=>whnf|(refine Ya ?_ ?_<;>intro _<;>conv=>whnf)
   all_goals try (refine Or.inl ?_;conv=>whnf)
  all_goals try exact (bnl d1 ‹_›).elim
  all_goals refine⟨[(1,5),(2,6),(4,5),(5,6)],?_⟩
  repeat any_goals first|exact T0|exact rfl|exact Yr|refine Ya ?_ ?_
  all_goals conv=>whnf
 subst he
 rw[if_neg (fun h=>h rfl)]
 by_cases h1:a.epoch=0
 ·rw[if_pos h1]
  have d1:(a.epoch == 0)=true:=by rw[beq_iff_eq];exact h1
  refine Vq Tryz.func32 rfl rfl ?_
  conv=>whnf
  iterate 4
   repeat' first|exact T0|(first|refine Yd fun _=>?_|refine Ye fun _=>?_|refine Yg ?_|refine Yk (o1.at3 0 1 2 rfl rfl rfl rfl rfl rfl) ?_);conv=>whnf|(refine Ya ?_ ?_<;>intro _<;>conv=>whnf)
   all_goals try (refine Or.inl ?_;conv=>whnf)
  all_goals try exact (bnl d1 ‹_›).elim
  all_goals refine⟨[(1,5),(2,6),(4,5),(5,6)],?_⟩
  repeat any_goals first|exact T0|exact rfl|exact Yr|refine Ya ?_ ?_
  all_goals conv=>whnf
 rw[if_neg h1]
 have d1:(a.epoch == 0)=false:=by rw[beq_eq_false_iff_ne];exact h1
 cases h2:rightB s with
 |false=>
  rw[if_pos rfl]
  rw[h2] at r1
  refine Vq Tryz.func32 rfl rfl ?_
  conv=>whnf
  iterate 4
   repeat' first|exact T0|(first|refine Yd fun _=>?_|refine Ye fun _=>?_|refine Yg ?_|refine Yk (o1.at3 0 1 2 rfl rfl rfl rfl rfl rfl) ?_|refine Yk (r1.lendAg (i:=3) rfl rfl rfl) ?_);conv=>whnf|(refine Ya ?_ ?_<;>intro _<;>conv=>whnf)
   all_goals try (refine Or.inl ?_;conv=>whnf)
  all_goals try exact (bnl ‹_› d1).elim
  all_goals refine⟨[(1,5),(2,6),(4,5),(5,6)],?_⟩
  repeat any_goals first|exact T0|exact rfl|exact Yr|refine Ya ?_ ?_
  all_goals conv=>whnf
 |true=>
 rw[if_neg (by simp)]
 rw[h2] at r1
 by_cases h3:1099511627775≤a.seq
 ·rw[if_pos h3]
  have d3:decide (a.seq≥1099511627775)=true:=decide_eq_true h3
  refine Vq Tryz.func32 rfl rfl ?_
  conv=>whnf
  iterate 5
   repeat' first|exact T0|(first|refine Yd fun _=>?_|refine Ye fun _=>?_|refine Yg ?_|refine Yk (o1.at3 0 1 2 rfl rfl rfl rfl rfl rfl) ?_|refine Yk (r1.lendAg (i:=3) rfl rfl rfl) ?_);conv=>whnf|(refine Ya ?_ ?_<;>intro _<;>conv=>whnf)
   all_goals try (refine Or.inl ?_;conv=>whnf)
  all_goals try exact (bnl ‹_› d1).elim
  all_goals try exact (bnl d3 ‹_›).elim
  all_goals refine⟨[(1,5),(2,6),(4,5),(5,6)],?_⟩
  repeat any_goals first|exact T0|exact rfl|exact Yr|refine Ya ?_ ?_
  all_goals conv=>whnf
 rw[if_neg h3]
 have d3:decide (a.seq≥1099511627775)=false:=decide_eq_false h3
 have hl:(a.kept.map evR).length=a.kept.length:=List.length_map _
 by_cases h4:a.most≤a.kept.length
 ·rw[if_pos h4]
  have d4:decide (((a.kept.map evR).length:Int)≥a.most)=true:=decide_eq_true (by rw[hl];exact h4)
  refine Vq Tryz.func32 rfl rfl ?_
  conv=>whnf
  iterate 5
   repeat' first|exact T0|(first|refine Yd fun _=>?_|refine Ye fun _=>?_|refine Yg ?_|refine Yk (o1.at3 0 1 2 rfl rfl rfl rfl rfl rfl) ?_|refine Yk (r1.lendAg (i:=3) rfl rfl rfl) ?_);conv=>whnf|(refine Ya ?_ ?_<;>intro _<;>conv=>whnf)
   all_goals try (refine Or.inl ?_;conv=>whnf)
  repeat' first|exact T0|(first|refine Ya (fun _=>?_) (fun h=>(bnl d4 h).elim)|refine Yd fun _=>?_|refine Ye fun _=>?_|refine Yg ?_);conv=>whnf|(refine Ya ?_ ?_<;>intro _<;>conv=>whnf)
  iterate 3
   repeat' first|exact T0|(first|refine Yd fun _=>?_|refine Ye fun _=>?_|refine Yg ?_);conv=>whnf|(refine Ya ?_ ?_<;>intro _<;>conv=>whnf)
   all_goals try (refine Or.inl ?_;conv=>whnf)
  all_goals try exact (bnl ‹_› d1).elim
  all_goals try exact (bnl ‹_› d3).elim
  all_goals try exact (bnl d4 ‹_›).elim
  all_goals refine⟨[(1,5),(2,6),(4,5),(5,6)],?_⟩
  repeat any_goals first|exact T0|exact rfl|exact Yr|refine Ya ?_ ?_
  all_goals conv=>whnf
 rw[if_neg h4]
 have d4:decide (((a.kept.map evR).length:Int)≥a.most)=false:=decide_eq_false (by rw[hl];exact h4)
 have c1:=copiedO_sat (a.clock,v,s) (by have:=hrl h2;show s.2.length≤_;omega)
 have w1:IntKind.i64.wrap (a.seq+1)=a.seq+1:=wi (by omega) (by omega)
 have w2:IntKind.i64.wrap (a.seq+1-1)=a.seq:=by rw[show a.seq+1-1=a.seq by omega];exact wi (by omega) (by omega)
 refine Vq Tryz.func32 rfl rfl ?_
 conv=>whnf
 iterate 6
  repeat' first|exact T0|(first|refine Yd fun _=>?_|refine Ye fun _=>?_|refine Yg ?_|refine Yk (o1.at3 0 1 2 rfl rfl rfl rfl rfl rfl) ?_|refine Yk (r1.lendAg (i:=3) rfl rfl rfl) ?_|refine Yk (c1.at1 3 rfl rfl rfl) ?_|refine Yk (ap 4 56 (by kernel_rfl) rfl rfl (by simp;omega)) ?_);conv=>whnf|(refine Ya ?_ ?_<;>intro _<;>conv=>whnf)
  all_goals try (refine Or.inl ?_;conv=>whnf)
 all_goals try exact (bnl ‹_› d1).elim
 all_goals try exact (bnl ‹_› d3).elim
 all_goals try exact (bnl ‹_› d4).elim
 all_goals refine⟨[(2,7),(4,6),(5,7)],?_⟩
 repeat any_goals first|exact T0|exact rfl|exact Yr|refine Ya ?_ ?_
 all_goals conv=>whnf
 ·exact congrArg (fun z=>iA z) (by rw[w1];exact w2)
 ·exact congrArg (fun z=>iA z) w1
 ·exact congrArg (AObj.sl 4) (by rw[List.map_append];rfl)
section
variable {P:Program} {L:List AObj} {n:Nat} {g:FuncId}
theorem Sat.lendNewT {args args1:List AV} {ids:List Nat} {s':Nat} {rows':List (List D)} {us:List Value} {e:Value} (h:Sat P g args1 [] (.tup [.own 0,.d (.v e)]) [.sl s' rows']) (hl:LendOk L args args1 ids) (hf:FlatVs rows'.flatten us) (hlive:∀ i∈ids,∃ o,L[i]?=some o∧o.live=true) :
  CallOK P g args L n ⟨ids,[],[.sl s' rows']⟩ (.tup [.own n,.d (.v e)]):=by
 intro H F ρ w vals En hrs hnew hv
 have hH:∀ j∈ids,∀ hh,ρ j=some hh→∀ b,blkOf hh=some b→b<w.heap.size:=by
  intro j hj hh hρ b hb
  obtain⟨o,ho,hlv⟩:=hlive j hj
  obtain⟨h0,e1,_,e3⟩:=En.rep j o (by rw[hrs j hj];exact ho) hlv
  rw[hρ] at e1;injection e1 with e1;subst e1
  exact (e3 b hb).1
 let F1:Nat→Prop:=fun b=>F b∨∃ j∈ids,∃ hh,ρ j=some hh∧blkOf hh=some b
 have E1:Env F1 (fun _=>none) (hp []) w:=⟨fun b hb=>hb.elim (En.fb b) fun⟨j,hj,hh,h1,h2⟩=>hH j hj hh h1 b h2,fun _ _=>rfl,fun i o h=>by simp[hp] at h,fun i j o o' _ _ _ h=>by simp[hp] at h⟩
 refine (h F1 (fun _=>none) w vals E1 (hl F F1 ρ H w vals En (fun _ h=>.inl h) hrs (fun j hj hh h1 b h2=>.inr ⟨j,hj,hh,h1,h2⟩) hv)).mono ?_
 rintro en w' ⟨v,rfl,F2,ρ2,S,_,E2,R⟩
 have nolv:∀ b,¬Lv (fun _=>none) (hp []) b:=fun b ⟨i,o,_,h,_⟩=>by simp[hp] at h
 have hG:w.grownBy w' none:=⟨S.os,S.tape,S.output,S.size,fun b hb _=>S.unch b hb (nolv b)⟩
 obtain⟨hh,e1,⟨vs,how,hra,hs⟩,e3⟩:=E2.rep 0 _ rfl rfl
 obtain rfl:=hf.eq hra
 cases R with|tup R=>
 cases R with|cons R0 R1=>
 cases R1 with|cons R1 R2=>
 cases R2 with|nil=>
 cases R0 with|own R=>
 rw[R] at e1;injection e1 with e1;subst e1
 have hn:H n=none:=by simpa using hnew 0 (by simp)
 obtain⟨S',K',E'⟩:=En.new (n:=n) (o':=.sl s' rows') (h:=.slice _ _ _) hn hG (fun b hb=>⟨(S.lsrc b ⟨0,_,_,rfl,rfl,R,hb⟩).elim id fun q=>(nolv b q).elim,(e3 b hb).1⟩) ⟨_,how,hf.rds,hs⟩
 obtain rfl:=R1.v_out
 exact⟨_,rfl,F,_,S',K',E',.tup (.cons (.own (updF_same _ _ _)) (.cons (.d (.v _)) .nil))⟩
theorem CallOK.frzT {args:List AV} {rs:List Nat} {ws:List (Nat × AObj)} {s:Nat} {rows:List (List D)} {e:Value} (h:CallOK P g args L n ⟨rs,ws,[.sl s rows]⟩ (.tup [.own n,.d (.v e)])):CallOK P g args L n ⟨rs,ws,[.dead]⟩ (.tup [.d (.sl s rows),.d (.v e)]):=by
 intro H F ρ w vals En hrs hnew hv
 refine (h H F ρ w vals En hrs hnew hv).mono ?_
 rintro en w' ⟨v,rfl,F',ρ',S,K,E',R⟩
 have hn':appN n [AObj.sl s rows] (appW ws H) n=some (.sl s rows):=updF_same _ _ _
 cases R with|tup R=>
 cases R with|cons R0 R1=>
 cases R1 with|cons R1 R2=>
 cases R2 with|nil=>
 cases R0 with|own R=>
 rename_i A m c
 obtain⟨hh,e1,⟨vs,how,hra,hs1⟩,e3⟩:=E'.rep n _ hn' rfl
 rw[R] at e1;injection e1 with e1;subst e1
 obtain⟨A',c',he,g1,g2,hrd⟩:=how.form
 injection he with q1 q2 q3
 subst q1 q2 q3
 obtain⟨S1,E1⟩:=E'.freeze hn' rfl R
 have eH:updF (appN n [AObj.sl s rows] (appW ws H)) n (some .dead)=appN n [.dead] (appW ws H):=by
  funext j
  show updF (updF (appW ws H) n _) n _ j=updF (appW ws H) n _ j
  by_cases e:j=n
  ·subst e;rw[updF_same,updF_same]
  ·rw[updF_ne _ _ e,updF_ne _ _ e,updF_ne _ _ e]
 rw[eH] at S1 E1
 have hd:RD w' (fun b=>F' b∨blkOf (.slice A rows.length c)=some b) (.sl s rows) (.slice A rows.length c):=.sl rfl hs1 g1 g2 (hra.mono (fun _ _=>rfl) fun _ h=>.inl h) fun hp'=>by
  obtain⟨b,off,rfl,hb,hc⟩:=hrd.2 hp'
  exact⟨b,off,rfl,.inr rfl,hc⟩
 obtain rfl:=R1.v_out
 exact⟨_,rfl,_,ρ',S.trans S1,K,E1,.tup (.cons (.d hd) (.cons (.d (.v _)) .nil))⟩
end
theorem copyBytesD_sat (l:Bt) (hl:l.length≤1000000):Sat Tryz.prog 37 [.d (bsD l)] [] (.d (bsD l)) []:=by
 intro F ρ w vals En hv
 obtain⟨v,rfl,hv'⟩:=hv.one_out
 cases hv' with|d hv=>
 obtain⟨A1,c1,rfl,k1,k2,k3⟩:=hv.sl_rd En.fb (bR_flats l)
 rw[List.length_map] at k1 k3 ⊢
 refine (copyBytes_any A1 _ c1 l w k3 (by omega)).mono ?_
 rintro x w' ⟨v,rfl,how,hb⟩
 obtain⟨F1,ρ1,S,K,E,R⟩:=data_ret En (bR_flats l) one_len (by rw[List.length_map];exact how) hb
 exact⟨_,rfl,F1,ρ1,S,K,E,.d R⟩
theorem readS_shut {s:Rs} (h:s.2≠0):readS s=(([],[]),s.2,s):=by
 have e1:∀ m,txtS s m=([],s):=fun m=>if_pos h
 have e2:∀ m,countS s m=(0,s):=fun m=>if_pos h
 unfold readS
 simp only[e1,e2,labsS]
 rw[if_pos h]
theorem evS_shut {n:Nat} {acc:List Evt} {s:Rs} (h:(intS (uintS s).2).2.2≠0):evS (n+1) acc s=(.error (intS (uintS s).2).2.2,(intS (uintS s).2).2):=by
 rw[evS,readS_shut h,if_pos h]
set_option maxHeartbeats 8000000 in
theorem rEvents_ok (s:Rs) (l:List Evt) (s2:Rs) (hn:s.1.length≤65536) (h:eventsS s=(.ok l,s2)) (h0:s2.2=0):Sat Tryz.prog 113 [.ptr 0 0] [rrO s] (.tup [.own 1,iA 0]) [rrO s2,.sl 4 (l.map evR)]:=by
 have c0:=rrCount_sat s 64 ⟨by decide,by decide⟩ (by omega)
 have n2:=countS_len s 64
 have n3:=countS_le s 64
 unfold eventsS at h
 generalize countS s 64=c at *
 obtain⟨N,s1⟩:=c
 simp only at c0 n2 n3 h
 by_cases hc:s1.2=0
 case neg=>rw[if_pos hc] at h;cases h
 rw[if_neg (fun q=>q hc)] at h
 have hN:N≤64:=by omega
 refine Vq Tryz.func113 rfl rfl ?_
 conv=>whnf
 iterate 4
  repeat' first|exact T0|(first|refine Yd fun _=>?_|refine Ye fun _=>?_|refine Yg ?_|refine Yk (c0.at1 0 rfl rfl rfl) ?_);conv=>whnf|(refine Ya ?_ ?_<;>intro _<;>conv=>whnf)
  all_goals try (refine Or.inl ?_;conv=>whnf)
 refine⟨Nat × List Evt × Rs,fun y=>y.1≤N∧evS (N-y.1) y.2.1 y.2.2=(.ok l,s2)∧y.2.1.length≤y.1∧y.2.2.1.length≤65536,fun y=>([(6,iA y.1),(5,iA N),(4,.own 1),(0,.ptr 0 0)],[rrO y.2.2,.sl 4 (y.2.1.map evR)]),fun y=>N-y.1,⟨(0,[],s1),⟨Nat.zero_le _,h,Nat.zero_le _,by show s1.1.length≤_;omega⟩,?_⟩,?_⟩
 ·all_goals refine⟨[],?_⟩
  repeat any_goals first|exact T0|exact rfl|exact Yr|refine Ya ?_ ?_
  all_goals conv=>whnf
 rintro⟨k,ls,s3⟩ ⟨h1,h2,h3,h4⟩
 simp only at h1 h2 h3 h4
 have hls:(ls.map evR).length=ls.length:=List.length_map _
 by_cases hk:k<N
 ·have dk:decide ((k:Int)<(N:Nat))=true:=decide_eq_true (by omega)
  have t1:=rrUint_sat s3 (by omega)
  have l1:=uintS_len s3
  have t2:=rrInt_sat (uintS s3).2 (by omega)
  have l2:=intS_len (uintS s3).2
  have hsh:=evS_shut (n:=N-(k+1)) (acc:=ls) (s:=s3)
  rw[show N-k=(N-(k+1))+1 by omega] at h2
  by_cases he:(intS (uintS s3).2).2.2=0
  case neg=>rw[hsh he] at h2;cases h2
  have t3:=rRead_sat (intS (uintS s3).2).2 (by omega)
  have l3:=readS_len (intS (uintS s3).2).2
  rw[evS] at h2
  by_cases hr:(readS (intS (uintS s3).2).2).2.1=0
  case neg=>rw[if_pos hr] at h2;cases h2
  rw[if_neg (fun q=>q hr)] at h2
  rw[hr] at t3
  have d1:=ne0' he
  have hst:stampZ (uintS s3).1=IntKind.i64.wrap ((uintS s3).1:Int):=rfl
  rw[hst] at h2
  conv=>whnf
  iterate 8
   repeat' first|exact T0|(first|refine Yd fun _=>?_|refine Ye fun _=>?_|refine Yg ?_|refine Yk (t1.at1 0 rfl rfl rfl) ?_|refine Yk (t2.at1 0 rfl rfl rfl) ?_|refine Yk (t3.at1 0 rfl rfl rfl) ?_|refine Yk (ap 4 56 (by kernel_rfl) rfl rfl (by rw[hls];simp only[List.length_cons,List.length_nil];omega)) ?_);conv=>whnf|(refine Ya ?_ ?_<;>intro _<;>conv=>whnf)
   all_goals try (refine Or.inl ?_;conv=>whnf)
  all_goals try exact (bnl dk ‹_›).elim
  all_goals try exact (bnl ‹_› d1).elim
  refine⟨(k+1,ls++[(IntKind.i64.wrap ((uintS s3).1:Int),(intS (uintS s3).2).1,(readS (intS (uintS s3).2).2).1)],(readS (intS (uintS s3).2).2).2.2),⟨hk,h2,by rw[List.length_append];simp;omega,by show (readS (intS (uintS s3).2).2).2.2.1.length≤_;omega⟩,show N-(k+1)<N-k by omega,?_⟩
  all_goals refine⟨[(1,5)],?_⟩
  repeat any_goals first|exact T0|exact rfl|exact Yr|refine Ya ?_ ?_
  all_goals conv=>whnf
  ·exact wk1 (by omega)
  ·rw[List.map_append];rfl
 have dk:decide ((k:Int)<(N:Nat))=false:=decide_eq_false (by omega)
 rw[show N-k=0 by omega,evS] at h2
 injection h2 with g1 g2
 injection g1 with g1
 subst g1 g2
 have d1:=ne0' h0
 conv=>whnf
 iterate 6
  repeat' first|exact T0|(first|refine Yd fun _=>?_|refine Ye fun _=>?_|refine Yg ?_);conv=>whnf|(refine Ya ?_ ?_<;>intro _<;>conv=>whnf)
  all_goals try (refine Or.inl ?_;conv=>whnf)
 all_goals try exact (bnl ‹_› dk).elim
 all_goals refine⟨[],?_⟩
 repeat any_goals first|exact T0|exact rfl|exact Yr|refine Ya ?_ ?_
 all_goals conv=>whnf
 show iA ((s3.2:Nat):Int)=iA 0
 rw[h0]
 rfl
theorem rEvents_cnt (s:Rs) (hn:s.1.length≤65536) (h:(countS s 64).2.2≠0):Sat Tryz.prog 113 [.ptr 0 0] [rrO s] (.tup [.own 1,iA (countS s 64).2.2]) [rrO (countS s 64).2,.sl 4 []]:=by
 have c0:=rrCount_sat s 64 ⟨by decide,by decide⟩ (by omega)
 have hz:(countS s 64).1=0:=by
  unfold countS at h ⊢
  split
  ·rfl
  ·split
   ·rfl
   ·rename_i h1 h2
    rw[if_neg h1,if_neg h2] at h
    exact absurd rfl h
 rw[hz] at c0
 generalize (countS s 64).2=s1 at *
 refine Vq Tryz.func113 rfl rfl ?_
 conv=>whnf
 iterate 4
  repeat' first|exact T0|(first|refine Yd fun _=>?_|refine Ye fun _=>?_|refine Yg ?_|refine Yk (c0.at1 0 rfl rfl rfl) ?_);conv=>whnf|(refine Ya ?_ ?_<;>intro _<;>conv=>whnf)
  all_goals try (refine Or.inl ?_;conv=>whnf)
 refine⟨Unit,fun _=>True,fun _=>([(6,iA 0),(5,iA 0),(4,.own 1),(0,.ptr 0 0)],[rrO s1,.sl 4 []]),fun _=>0,⟨(),trivial,?_⟩,?_⟩
 ·all_goals refine⟨[],?_⟩
  repeat any_goals first|exact T0|exact rfl|exact Yr|refine Ya ?_ ?_
  all_goals conv=>whnf
 rintro⟨⟩ _
 conv=>whnf
 iterate 6
  repeat' first|exact T0|(first|refine Yd fun _=>?_|refine Ye fun _=>?_|refine Yg ?_);conv=>whnf|(refine Ya ?_ ?_<;>intro _<;>conv=>whnf)
  all_goals try (refine Or.inl ?_;conv=>whnf)
 all_goals refine⟨[],?_⟩
 repeat any_goals first|exact T0|exact rfl|exact Yr|refine Ya ?_ ?_
 all_goals conv=>whnf
set_option maxHeartbeats 8000000 in
theorem rEvents_no (s:Rs) (e:Nat) (s2:Rs) (hn:s.1.length≤65536) (hc:(countS s 64).2.2=0) (h:eventsS s=(.error e,s2)):Sat Tryz.prog 113 [.ptr 0 0] [rrO s] (.tup [.d nilV,iA e]) [rrO s2]:=by
 have c0:=rrCount_sat s 64 ⟨by decide,by decide⟩ (by omega)
 have n2:=countS_len s 64
 have n3:=countS_le s 64
 unfold eventsS at h
 rw[if_neg (fun q=>q hc)] at h
 generalize countS s 64=c at *
 obtain⟨N,s1⟩:=c
 simp only at c0 n2 n3 h
 have hN:N≤64:=by omega
 refine Vq Tryz.func113 rfl rfl ?_
 conv=>whnf
 iterate 4
  repeat' first|exact T0|(first|refine Yd fun _=>?_|refine Ye fun _=>?_|refine Yg ?_|refine Yk (c0.at1 0 rfl rfl rfl) ?_);conv=>whnf|(refine Ya ?_ ?_<;>intro _<;>conv=>whnf)
  all_goals try (refine Or.inl ?_;conv=>whnf)
 refine⟨Nat × List Evt × Rs,fun y=>y.1≤N∧evS (N-y.1) y.2.1 y.2.2=(.error e,s2)∧y.2.1.length≤y.1∧y.2.2.1.length≤65536,fun y=>([(6,iA y.1),(5,iA N),(4,.own 1),(0,.ptr 0 0)],[rrO y.2.2,.sl 4 (y.2.1.map evR)]),fun y=>N-y.1,⟨(0,[],s1),⟨Nat.zero_le _,h,Nat.zero_le _,by show s1.1.length≤_;omega⟩,?_⟩,?_⟩
 ·all_goals refine⟨[],?_⟩
  repeat any_goals first|exact T0|exact rfl|exact Yr|refine Ya ?_ ?_
  all_goals conv=>whnf
 rintro⟨k,ls,s3⟩ ⟨h1,h2,h3,h4⟩
 simp only at h1 h2 h3 h4
 have hls:(ls.map evR).length=ls.length:=List.length_map _
 by_cases hk:k<N
 case neg=>
  rw[show N-k=0 by omega,evS] at h2
  injection h2 with g1 g2
  cases g1
 have dk:decide ((k:Int)<(N:Nat))=true:=decide_eq_true (by omega)
 have t1:=rrUint_sat s3 (by omega)
 have l1:=uintS_len s3
 have t2:=rrInt_sat (uintS s3).2 (by omega)
 have l2:=intS_len (uintS s3).2
 have hsh:=evS_shut (n:=N-(k+1)) (acc:=ls) (s:=s3)
 rw[show N-k=(N-(k+1))+1 by omega] at h2
 by_cases he:(intS (uintS s3).2).2.2=0
 case neg=>
  rw[hsh he] at h2
  injection h2 with g1 g2
  injection g1 with g1
  subst g1 g2
  have d1:=ne0 he
  conv=>whnf
  iterate 8
   repeat' first|exact T0|(first|refine Yd fun _=>?_|refine Ye fun _=>?_|refine Yg ?_|refine Yk (t1.at1 0 rfl rfl rfl) ?_|refine Yk (t2.at1 0 rfl rfl rfl) ?_);conv=>whnf|(refine Ya ?_ ?_<;>intro _<;>conv=>whnf)
   all_goals try (refine Or.inl ?_;conv=>whnf)
  all_goals try exact (bnl dk ‹_›).elim
  all_goals try exact (bnl d1 ‹_›).elim
  all_goals refine⟨[],?_⟩
  repeat any_goals first|exact T0|exact rfl|exact Yr|refine Ya ?_ ?_
  all_goals conv=>whnf
 have t3:=rRead_sat (intS (uintS s3).2).2 (by omega)
 have l3:=readS_len (intS (uintS s3).2).2
 rw[evS] at h2
 have d1:=ne0' he
 by_cases hr:(readS (intS (uintS s3).2).2).2.1=0
 case neg=>
  rw[if_pos hr] at h2
  injection h2 with g1 g2
  injection g1 with g1
  subst g1 g2
  have d2:=ne0 hr
  conv=>whnf
  iterate 8
   repeat' first|exact T0|(first|refine Yd fun _=>?_|refine Ye fun _=>?_|refine Yg ?_|refine Yk (t1.at1 0 rfl rfl rfl) ?_|refine Yk (t2.at1 0 rfl rfl rfl) ?_|refine Yk (t3.at1 0 rfl rfl rfl) ?_);conv=>whnf|(refine Ya ?_ ?_<;>intro _<;>conv=>whnf)
   all_goals try (refine Or.inl ?_;conv=>whnf)
  all_goals try exact (bnl dk ‹_›).elim
  all_goals try exact (bnl ‹_› d1).elim
  all_goals try exact (bnl d2 ‹_›).elim
  all_goals refine⟨[],?_⟩
  repeat any_goals first|exact T0|exact rfl|exact Yr|refine Ya ?_ ?_
  all_goals conv=>whnf
 rw[if_neg (fun q=>q hr)] at h2
 rw[hr] at t3
 have hst:stampZ (uintS s3).1=IntKind.i64.wrap ((uintS s3).1:Int):=rfl
 rw[hst] at h2
 conv=>whnf
 iterate 8
  repeat' first|exact T0|(first|refine Yd fun _=>?_|refine Ye fun _=>?_|refine Yg ?_|refine Yk (t1.at1 0 rfl rfl rfl) ?_|refine Yk (t2.at1 0 rfl rfl rfl) ?_|refine Yk (t3.at1 0 rfl rfl rfl) ?_|refine Yk (ap 4 56 (by kernel_rfl) rfl rfl (by rw[hls];simp only[List.length_cons,List.length_nil];omega)) ?_);conv=>whnf|(refine Ya ?_ ?_<;>intro _<;>conv=>whnf)
  all_goals try (refine Or.inl ?_;conv=>whnf)
 all_goals try exact (bnl dk ‹_›).elim
 all_goals try exact (bnl ‹_› d1).elim
 refine⟨(k+1,ls++[(IntKind.i64.wrap ((uintS s3).1:Int),(intS (uintS s3).2).1,(readS (intS (uintS s3).2).2).1)],(readS (intS (uintS s3).2).2).2.2),⟨hk,h2,by rw[List.length_append];simp;omega,by show (readS (intS (uintS s3).2).2).2.2.1.length≤_;omega⟩,show N-(k+1)<N-k by omega,?_⟩
 all_goals refine⟨[(1,5)],?_⟩
 repeat any_goals first|exact T0|exact rfl|exact Yr|refine Ya ?_ ?_
 all_goals conv=>whnf
 ·exact wk1 (by omega)
 ·rw[List.map_append];rfl
def okN (f:Fr) (k j:Nat):Bool:=((hasT k).contains (ltrN j) || decide (getN f j=0)) && rngB (getN f j)
abbrev numsB (f:Fr) (k:Nat):Bool:=okN f k 1 && (okN f k 2 && (okN f k 3 && (okN f k 4 && (okN f k 5 && (okN f k 6 && (okN f k 7 && (okN f k 8 && okN f k 9)))))))
abbrev twoB (f:Fr) (k:Nat):Bool:=decide (f.a≤63) && (decide (f.e≤1099511627776) && ((!decide (k=4) || decide (f.g≤f.s)) && (!decide (5≤k∧k≤7) || decide (f.n≤1099511627776-(f.ev.length:Int)))))
abbrev lenB (f:Fr) (k:Nat):Bool:=if k=5 then decide (1≤f.ev.length) && decide (f.ev.length≤64) else decide (f.ev.length=0)
abbrev lastB (f:Fr) (k:Nat):Bool:=if k=8 then rightB f.sr && decide (f.d.length≤4096) else decide (f.sr.1=[]) && (decide (f.sr.2=[]) && decide (f.d=[]))
def refB (f:Fr) (k:Nat):Bool:=numsB f k && (twoB f k && (lenB f k && (f.ev.all evOk && lastB f k)))
theorem refB_right (f:Fr) (k:Nat) (hk:f.k=k) (h1:1≤k) (h8:k≤8):refB f k=rightF f:=by
 have hc:k=1∨k=2∨k=3∨k=4∨k=5∨k=6∨k=7∨k=8:=by omega
 obtain⟨kk,a,e,b,c,g,s,n,t,w,ev,⟨nm,lb⟩,d⟩:=f
 have hk:kk=k:=hk
 subst hk
 have e0:rightF ⟨k,a,e,b,c,g,s,n,t,w,ev,(nm,lb),d⟩=rightK ⟨k,a,e,b,c,g,s,n,t,w,ev,(nm,lb),d⟩ k:=by
  unfold rightF
  rw[if_pos (by show (1:Int)≤k∧(k:Int)≤8;omega)]
  rfl
 rw[e0,Bool.eq_iff_iff]
 unfold refB rightK
 rcases hc with rfl|rfl|rfl|rfl|rfl|rfl|rfl|rfl
 all_goals
  simp only[Bool.and_eq_true,sameB_iff]
  simp[okN,hasT,ltrN,getN,rngB,headOk,valsK,idxK,extraB,bareF,bnum,batchB]
  grind (splits:=60)
theorem ref_no {f:Fr} {k j:Nat} (h1:1≤j) (h9:j≤9) (h:okN f k j=false):refB f k=false:=by
 have hj:j=1∨j=2∨j=3∨j=4∨j=5∨j=6∨j=7∨j=8∨j=9:=by omega
 unfold refB
 rcases hj with rfl|rfl|rfl|rfl|rfl|rfl|rfl|rfl|rfl<;>simp[h]
theorem nums_all {f:Fr} {k:Nat} (h:∀ j,1≤j→j≤9→okN f k j=true):numsB f k=true:=by
 unfold numsB
 rw[h 1 (by decide) (by decide),h 2 (by decide) (by decide),h 3 (by decide) (by decide),h 4 (by decide) (by decide),h 5 (by decide) (by decide),h 6 (by decide) (by decide),h 7 (by decide) (by decide),h 8 (by decide) (by decide),h 9 (by decide) (by decide)]
 rfl
theorem ok_step {f:Fr} {k i:Nat} (h:∀ j,1≤j→j≤i→okN f k j=true) (ho:okN f k (i+1)=true):∀ j,1≤j→j≤i+1→okN f k j=true:=fun j h1 h2=>by
 by_cases e:j=i+1
 ·rw[e];exact ho
 ·exact h j h1 (by omega)
end Go.Proofs.YtfbfpnfgabamfaaGreat
