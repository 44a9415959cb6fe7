/- Parts VcG, VcH, VcI, VcJ, VcK0, VcR of the proof, put together. -/
import Derived.Test.YtfbfpnfgabamfaaGreatM1
import Derived.Great.BuildSlice
import Derived.LoopN
import Derived.Laws.MakeOwn
import Derived.Laws.OwnMore
import Derived.Great.FillDense
namespace Go.Proofs.YtfbfpnfgabamfaaGreat
set_option linter.unusedSimpArgs false
set_option linter.unusedVariables false
open Go.RowKit
theorem sets_eq {α:Type}:∀ (vs xs:List α) (n:Nat),n+vs.length≤xs.length→sets xs n vs=xs.take n++vs++xs.drop (n+vs.length)
 |[],xs,n,_=>by simp[sets]
 |v::vs,xs,n,h=>by
  simp at h
  rw[sets,sets_eq vs (xs.set n v) (n+1) (by simp;omega)]
  rw[List.take_succ_eq_append_getElem (by simp;omega),List.getElem_set_self]
  rw[List.take_set_of_le (by omega),List.drop_set_of_lt (by omega)]
  simp only[List.append_assoc,List.singleton_append,List.cons_append,List.nil_append,List.length_cons]
  rw[show n+1+vs.length=n+(vs.length+1) by omega]
section
variable {P:Program} {w w':World} {F F':Nat→Prop} {ρ ρ':Nat→Option Value} {H:Hp} {L:List AObj} {ty:TypeId} {n:Nat}
theorem RAs.sets {ps:List AV}:∀ {us:List Value} {xs:List AV} {vs:List Value} {o:Nat},RAs w F ρ xs vs→RAs w F ρ ps us→RAs w F ρ (sets xs o ps) (sets vs o us):=by
 induction ps with
 |nil=>intro us xs vs o h k;cases k;exact h
 |cons p ps ih=>intro us xs vs o h k;cases k with|cons k kr=>exact ih (h.set o k) kr
theorem RDs.sets {ps:List D}:∀ {us:List Value} {xs:List D} {vs:List Value} {o:Nat},RDs w F xs vs→RDs w F ps us→RDs w F (sets xs o ps) (sets vs o us):=by
 induction ps with
 |nil=>intro us xs vs o h k;cases k;exact h
 |cons p ps ih=>intro us xs vs o h k;cases k with|cons k k1 kr=>exact ih (h.set o k k1) kr
theorem mem_sets {α:Type} {v:α}:∀ {us xs:List α} {o:Nat},v∈sets xs o us→v∈xs∨v∈us
 |[],_,_,h=>.inl h
 |_::us,_,_,h=>(mem_sets (us:=us) h).elim (fun h=>(List.mem_or_eq_of_mem_set h).elim .inl fun e=>.inr (by simp[e])) fun h=>.inr (List.mem_cons_of_mem _ h)
theorem Blk.sets {b:Nat} {t:TypeId}:∀ {us:List Value} {w:World} {vs:Array Value} {o:Nat},Blk w b t vs→Blk (w.setCells b o us) b t (sets vs.toList o us).toArray
 |[],w,vs,o,h=>h
 |u::us,w,vs,o,h=>by
  have:=(Blk.sets (us:=us) (o:=o+1) (h.set_ o u))
  simpa [World.setCells,Go.Proofs.YtfbfpnfgabamfaaGreat.sets] using this
theorem Ow.setc {g off cap size m lo:Nat} {e:TypeId} {xs:List Value} (h:Ow w lo e size (.slice (some ⟨g,off,none⟩) m cap) m xs) {k:Nat} (hk:k<xs.length) (u:Value) :
  Ow (w.setCell ⟨g,off+k,none⟩ u) lo e size (.slice (some ⟨g,off,none⟩) m cap) m (xs.set k u):=by
 have hl:=h.1
 have hm:0<m:=by rcases Nat.eq_zero_or_pos m with e|e;(subst e;simp at hl;rw[hl] at hk;simp at hk);exact e
 obtain⟨g',off',cap',he,hlo,hlt,hnc,hcm,hroom,hx⟩:=h.open_ hm
 simp only[Value.slice.injEq,Option.some.injEq,Addr.mk.injEq,and_true,true_and] at he
 obtain⟨⟨rfl,rfl⟩,rfl⟩:=he
 have hcs:m*size≤cap*size:=Nat.mul_le_mul_right _ hnc
 have hc0:(w.cell? ⟨g,off+k,none⟩).isSome=true:=(hroom k (by omega)).1
 refine⟨by rw[List.length_set];exact hl,.inr (.inr ⟨g,off,cap,rfl,hlo,by simpa [World.setCell] using hlt,hnc,hcm,fun j hj=>?_,fun j hj=>?_⟩)⟩
 ·refine⟨?_,by rw[World.frozen?_setCell];exact (hroom j hj).2⟩
  by_cases hjk:j=k
  ·subst hjk;rw[World.cell?_setCell_same' _ _ _ hc0];rfl
  ·rw[World.cell?_setCell_other _ _ _ _ (by intro h;injection h with _ h2 _;omega)];exact (hroom j hj).1
 ·rw[List.length_set] at hj
  by_cases hjk:j=k
  ·subst hjk;rw[World.cell?_setCell_same' _ _ _ hc0,List.getElem_set_self]
  ·rw[World.cell?_setCell_other _ _ _ _ (by intro h;injection h with _ h2 _;omega),hx j hj,List.getElem_set_ne (by omega)]
theorem Ow.sets {g off cap size m lo:Nat} {e:TypeId}:∀ {us:List Value} {w:World} {xs:List Value} {k:Nat},Ow w lo e size (.slice (some ⟨g,off,none⟩) m cap) m xs→k+us.length≤xs.length →
  Ow (w.setCells g (off+k) us) lo e size (.slice (some ⟨g,off,none⟩) m cap) m (sets xs k us)
 |[],w,xs,k,h,_=>h
 |u::us,w,xs,k,h,hk=>by
  simp at hk
  have:=Ow.sets (us:=us) (k:=k+1) (h.setc (k:=k) (by omega) u) (by simp;omega)
  exact this
theorem flat_set {s:Nat}:∀ {rows:List (List D)} {k:Nat} {r:List D} {f:Nat} {y:D},(∀ r∈rows,r.length=s)→rows[k]?=some r→f<s→(rows.set k (r.set f y)).flatten=rows.flatten.set (k*s+f) y
 |[],k,r,f,y,_,h,_=>by simp at h
 |a::rows,0,r,f,y,hs,h,hf=>by
  simp at h;subst h
  have:=hs a (List.mem_cons_self ..)
  simp
  rw[List.set_append_left _ _ (by omega)]
 |a::rows,k+1,r,f,y,hs,h,hf=>by
  have ha:=hs a (List.mem_cons_self ..)
  have:=flat_set (fun r hr=>hs r (List.mem_cons_of_mem _ hr)) (k:=k) (r:=r) (f:=f) (y:=y) (by simpa using h) hf
  simp only[List.set_cons_succ,List.flatten_cons,this]
  rw[List.set_append_right _ _ (by rw[ha,Nat.add_mul];omega)]
  congr 2
  rw[ha,Nat.add_mul];omega
theorem flat_sets {s:Nat}:∀ {ys:List D} {rows:List (List D)} {k:Nat} {r:List D} {f:Nat},(∀ r∈rows,r.length=s)→rows[k]?=some r→f+ys.length≤s→(rows.set k (sets r f ys)).flatten=sets rows.flatten (k*s+f) ys
 |[],rows,k,r,f,hs,h,hf=>by
  obtain⟨h1,h2⟩:=List.getElem?_eq_some_iff.1 h
  subst h2
  simp[sets]
 |y::ys,rows,k,r,f,hs,h,hf=>by
  simp at hf
  have h1:=(List.getElem?_eq_some_iff.1 h).1
  have hr:=hs r (List.mem_of_getElem? h)
  have:=flat_sets (ys:=ys) (rows:=rows.set k (r.set f y)) (k:=k) (r:=r.set f y) (f:=f+1) (fun q hq=>(List.mem_or_eq_of_mem_set hq).elim (hs q) fun e=>by rw[e];simpa using hr) (by simp[h1]) (by omega)
  rw[List.set_set,flat_set hs h (by omega)] at this
  exact this
theorem run_store_any {t:TypeId} (hk:(tiOf P t).kind≠.non) {b o:Nat} {v:Value} (hl:v.cells.size=(tiOf P t).size) (h1:∀ u∈v.cells.toList,u.oneCell'=true) (ht:w.there b o v.cells.size) :
  (Instr.storeAt t (.pointer (some ⟨b,o,none⟩)) v).run P w=.ok () (w.setCells b o v.cells.toList):=by
 obtain⟨i,d,z,hT,he⟩:=tiOf_known hk
 have hs:(tiOf P t).size=i.size:=by rw[he];cases d<;>rfl
 have:=run_storeCells_cells (P:=P) b o v.cells.toList 0 w (fun j hj=>by simpa using (ht j (by simpa using hj)).1) (fun j hj=>by simpa using (ht j (by simpa using hj)).2) h1
 simp only[Nat.add_zero] at this
 simp[Instr.storeAt,Instr.sureAddr,storeVar,sizeOf,typeInfo,hT.info,hl,hs,this]
def dataK (size:Nat) (x:AV) (k:List D→Prop):Prop:=
 match x with
 | .d (.v u)=>oneV u (size=1∧k [.v u])
 | .d (.sl s r)=>size=1∧k [.sl s r]
 | .d (.agg ys)=>ys.length=size∧k ys
 |_=>False
theorem dataK_out {size:Nat} {x:AV} {k:List D→Prop} (h:dataK size x k):∃ ys,k ys∧ys.length=size∧∀ w F ρ v,RA w F ρ x v→RDs w F ys v.cells.toList:=by
 unfold dataK at h
 split at h
 ·obtain⟨h1,h2,h3,h4⟩:=oneV_out h
  exact⟨_,h4,h3.symm,fun w F ρ v hr=>by have:=hr.v_out;subst this;rw[h2];exact .cons (.v _) h1 .nil⟩
 ·exact⟨_,h.2,h.1.symm,fun w F ρ v hr=>by cases hr with|d hr=>(have hr':=hr;cases hr with|sl a b c d e f=>exact .cons hr' rfl .nil)⟩
 ·exact⟨_,h.2,h.1,fun w F ρ v hr=>by cases hr with|d hr=>cases hr with|agg hr=>simpa [Value.cells] using hr⟩
 ·exact h.elim
def nonK (ti:TI) (p:Prop):Prop:=match ti.kind with | .non=>False|_=>p
theorem nonK_out {ti:TI} {p:Prop} (h:nonK ti p):ti.kind≠.non∧p:=by
 unfold nonK at h
 split at h
 ·exact h.elim
 ·rename_i hk;exact⟨fun e=>hk (by rw[e]),h⟩
def storeK (ti:TI) (x v:AV) (L:List AObj) (K:Eff→AV→Prop):Prop:=
 nonK ti <| match x with
 | .ptr i o=>getOK L i fun ob=>match ob with
  | .cells cs=>partsK ti.size v fun ps=>lenK ps ti.size <| setsK cs o ps fun l=>lenK l cs.length <| K ⟨[i],[(i,.cells l)],[]⟩ .any
  | .row xs=>dataK ti.size v fun ys=>o+ys.length≤xs.length∧∃ zs,sets xs o ys=zs∧K ⟨[i],[(i,.row zs)],[]⟩ .any
  |_=>False
 | .ep i sz m f=>getOK L i fun ob=>match ob with
  | .sl s rows=>s=sz∧dataK ti.size v fun ys=>f+ys.length≤s∧∃ r zs,rows[m]?=some r∧sets r f ys=zs∧K ⟨[i],[(i,.sl s (rows.set m zs))],[]⟩ .any
  |_=>False
 |_=>False
theorem setsK_le {α:Type} {k:List α→Prop} {vs xs:List α} {n:Nat} (h:setsK xs n vs k):vs=[]∨n+vs.length≤xs.length:=(setsK_out h).elim .inr fun h=>.inl h.1
theorem storeK_out {t:TypeId} {x v:AV} {a b:Operand} {K:Eff→AV→Prop} (h:storeK (tiOf P t) x v L K):∃ e r,K e r∧Does P (.store t a b) ty L n [x,v] e r:=by
 replace h:=nonK_out h
 obtain⟨hk,h⟩:=h
 have fin:∀ {i:Nat} {ob:AObj},K ⟨[i],[(i,ob)],[]⟩ .any→(∀ (H:Hp) (F:Nat→Prop) (ρ:Nat→Option Value) (w:World) (p u:Value),Env F ρ H w→(H i=L[i]?)→RA w F ρ x p→RA w F ρ v u →
   ∃ w',(Instr.storeAt t p u).run P w=.ok () w'∧Step F ρ H w F ρ (updF H i (some ob)) w'∧Env F ρ (updF H i (some ob)) w')→∃ e r,K e r∧Does P (.store t a b) ty L n [x,v] e r:=by
  intro i ob h1 h2
  refine⟨_,_,h1,fun op H F ρ w ev ho ht E hL hn hx=>?_⟩
  obtain⟨p,u,e',hp,hu⟩:=hx.two_out
  simp[Op.operands] at e'
  obtain⟨w',hr,hs,he⟩:=h2 H F ρ w p u E (hL i (by simp)) hp hu
  have hrun:(execOp ev op).run P w=.ok .skip w':=by simp[execOp,ho,e'.1,e'.2,hr]
  rw[hrun]
  exact⟨F,ρ,hs,Keep.refl _,he,.any _⟩
 split at h
 ·rename_i i o
  obtain⟨ob,hob,h⟩:=getOK_out h
  split at h
  ·rename_i cs
   obtain⟨ps,h,hps⟩:=partsK_out h
   obtain⟨hpl,h⟩:=lenK_out h
   have hle:=setsK_le h
   have h:=(lenK_out (setsK_val h)).2
   refine fin h fun H F ρ w p u E hL hp hu=>?_
   have hi:H i=some (.cells cs):=by rw[hL];exact hob
   obtain⟨g,rfl,e1,⟨b',t',vs,e2,hB,hra,h1⟩,hF⟩:=E.cellsAt hi rfl hp
   simp at e2;subst e2
   obtain⟨hpu,hone⟩:=hps w F ρ u hu
   have hul:=hpu.length
   have hvl:=hra.length
   have hrun:=run_store_any (P:=P) (w:=w) (b:=g) (o:=o) hk (v:=u) (by simp at hul;omega) hone (fun j hj=>by
    rw[hB.cell,hB.frozen]
    refine⟨?_,rfl⟩
    simp at hul hvl ⊢
    have hp0:ps=[]→ps.length=0:=fun e=>by rw[e];rfl
    rcases hle with e|e
    ·have:=hp0 e;omega
    ·omega)
   refine⟨_,hrun,?_⟩
   refine E.upd hi rfl e1 (setCells_grown g o u.cells.toList w) ⟨g,t',_,rfl,hB.sets,?_⟩
   have hm:∀ b,F b→(w.setCells g o u.cells.toList).heap[b]?=w.heap[b]?:=fun b hb=>setCells_heap g _ o w b fun e=>hF (e ▸ hb)
   exact⟨(hra.sets hpu).mono hm (fun _ h=>h) (Keep.refl ρ),fun y hy=>(mem_sets (by simpa using hy)).elim (h1 y) (hone y)⟩
  ·rename_i xs
   obtain⟨ys,⟨hle,zs,hz,h⟩,hyl,hys⟩:=dataK_out h
   subst hz
   refine fin h fun H F ρ w p u E hL hp hu=>?_
   have hi:H i=some (.row xs):=by rw[hL];exact hob
   obtain⟨g,rfl,e1,⟨b',t',vs,e2,hB,hra⟩,hF⟩:=E.cellsAt hi rfl hp
   simp at e2;subst e2
   have hpu:=hys w F ρ u hu
   have hul:=hpu.length
   have hvl:=hra.length
   have hrun:=run_store_any (P:=P) (w:=w) (b:=g) (o:=o) hk (v:=u) (by simp at hul;omega) hpu.one (fun j hj=>by
    rw[hB.cell,hB.frozen]
    refine⟨?_,rfl⟩
    simp at hul hvl ⊢
    omega)
   refine⟨_,hrun,?_⟩
   refine E.upd hi rfl e1 (setCells_grown g o u.cells.toList w) ⟨g,t',_,rfl,hB.sets,?_⟩
   have hm:∀ b,F b→(w.setCells g o u.cells.toList).heap[b]?=w.heap[b]?:=fun b hb=>setCells_heap g _ o w b fun e=>hF (e ▸ hb)
   exact (hra.sets hpu).mono hm (fun _ h=>h)
  ·exact h.elim
 ·rename_i i sz m f
  obtain⟨ob,hob,h⟩:=getOK_out h
  split at h
  ·rename_i s rows
   obtain⟨hsz,h3⟩:=h
   obtain⟨ys,⟨hle,r,zs,hr,hz,h4⟩,hyl,hys⟩:=dataK_out h3
   subst hz hsz
   refine fin h4 fun H F ρ w p u E hL hp hu=>?_
   have hi:H i=some (.sl s rows):=by rw[hL];exact hob
   obtain⟨g,off,m',c,rfl,e1,⟨vs,how,hra,hs⟩,hF⟩:=E.slAt hi hp
   have hpu:=hys w F ρ u hu
   have hul:=hpu.length
   have hvl:=hra.length
   have hml:=(List.getElem?_eq_some_iff.1 hr).1
   have hfl:rows.flatten.length=rows.length*s:=by rw[←hvl];exact how.1
   have hms:m*s+s≤rows.length*s:=by rw[←Nat.succ_mul];exact Nat.mul_le_mul_right _ hml
   obtain⟨A',c',he',hnc,hcm,_⟩:=how.form
   injection he' with h1 h2 h3
   subst h2;subst h3;subst h1
   have hrl:0<rows.length:=by omega
   obtain⟨g',off',cap,he,hlo,hlt,hnc,hcm,hroom,hx⟩:=how.open_ hrl
   simp only[Value.slice.injEq,Option.some.injEq,Addr.mk.injEq,and_true,true_and] at he
   obtain⟨⟨rfl,rfl⟩,rfl⟩:=he
   have hcs:rows.length*s≤c*s:=Nat.mul_le_mul_right _ hnc
   have hrun:=run_store_any (P:=P) (w:=w) (b:=g) (o:=off+(m*s+f)) hk (v:=u) (by simp at hul;omega) hpu.one (fun j hj=>by
    rw[Nat.add_assoc]
    simp at hul
    exact hroom _ (by omega))
   refine⟨_,hrun,?_⟩
   refine E.upd hi rfl e1 (setCells_grown g _ u.cells.toList w) ?_
   have hm:∀ b,F b→(w.setCells g (off+(m*s+f)) u.cells.toList).heap[b]?=w.heap[b]?:=fun b hb=>setCells_heap g _ _ w b fun e=>hF (e ▸ hb)
   refine⟨sets vs (m*s+f) u.cells.toList,?_,?_,fun q hq=>?_⟩
   ·rw[List.length_set]
    exact how.sets (by simp at hul ⊢;omega)
   ·rw[flat_sets hs hr (by omega)]
    exact (hra.sets hpu).mono hm (fun _ h=>h)
   ·rcases List.mem_or_eq_of_mem_set hq with e|e
    ·exact hs q e
    ·rw[e,length_sets];exact hs r (List.mem_of_getElem? hr)
  ·exact h.elim
 ·exact h.elim
end
def pairK:List (Nat × Nat)→Nat→(Nat→Nat→Prop)→Prop
 |[],_,_=>False
 |(a,b)::_,0,k=>k a b
 |_::r,n+1,k=>pairK r n k
theorem pairK_out {k:Nat→Nat→Prop}:∀ {xs:List (Nat × Nat)} {n:Nat},pairK xs n k→∃ a b,xs[n]?=some (a,b)∧k a b
 |[],_,h=>h.elim
 |(a,b)::_,0,h=>⟨a,b,rfl,h⟩
 |_::r,n+1,h=>by simpa using pairK_out (xs:=r) (n:=n) h
def posK (n:Nat) (p:Prop):Prop:=match n with|0=>False|_+1=>p
theorem posK_out {n:Nat} {p:Prop} (h:posK n p):0<n∧p:=by cases n with|zero=>exact h.elim|succ n=>exact⟨by omega,h⟩
def eqK (a b:Nat) (p:Prop):Prop:=match Nat.beq a b with|true=>p|false=>False
theorem eqK_out {a b:Nat} {p:Prop} (h:eqK a b p):a=b∧p:=by
 unfold eqK at h
 split at h
 ·rename_i hb;exact⟨Nat.eq_of_beq_eq_true hb,h⟩
 ·exact h.elim
section
variable {P:Program} {w w':World} {F F':Nat→Prop} {ρ ρ':Nat→Option Value} {H:Hp} {L:List AObj} {ty:TypeId} {n:Nat}
theorem ti_non {t:TypeId} (h:(tiOf P t).kind=.non):tiOf P t=⟨.non,0,[],[],0,0,0,0,0⟩:=by
 unfold tiOf at h ⊢
 cases hi:P.info? t with
 |none=>rfl
 |some i=>
  cases hd:P.underlying t with
  |none=>rfl
  |some d=>
   cases hz:i.zero with
   |none=>simp only[hz]
   |some z=>
    cases hc:(z.cells.toList.all (·.oneCell') && z.cells.size == i.size) with
    |false=>simp only[hz,hc];rfl
    |true=>simp only[hi,hd,hz,hc,if_true] at h;cases d<;>cases h
theorem ti_size_pos {t:TypeId} (h:0<(tiOf P t).size):(tiOf P t).kind≠.non:=fun e=>by rw[ti_non e] at h;simp at h
theorem ti_field {t:TypeId} {f off ft:Nat} (h:(tiOf P t).fields[f]?=some (off,ft)):∃ fs fd,P.underlying t=some (.struct fs)∧fs[f]?=some fd∧fd.offset=off∧fd.type=ft:=by
 have hk:(tiOf P t).kind≠.non:=fun e=>by rw[ti_non e] at h;simp at h
 obtain⟨i,d,z,hT,he⟩:=tiOf_known hk
 rw[he] at h
 cases d<;>try (simp at h;done)
 rename_i fs
 simp only[List.getElem?_map,Option.map_eq_some_iff,Prod.mk.injEq] at h
 obtain⟨fd,h1,h2,h3⟩:=h
 exact⟨fs,fd,hT.und,by simpa using h1,h2,h3⟩
theorem run_fieldAt {t:TypeId} {f off ft:Nat} (h:(tiOf P t).fields[f]?=some (off,ft)) (hp:0<(tiOf P ft).size) (b o:Nat):(Instr.fieldAt t (.pointer (some ⟨b,o,none⟩)) f).run P w=.ok (.pointer (some ⟨b,o+off,none⟩)) w:=by
 obtain⟨fs,fd,h1,h2,h3,h4⟩:=ti_field h
 obtain⟨i,d,z,hT,he⟩:=tiOf_known (ti_size_pos hp)
 have hs:(tiOf P ft).size=i.size:=by rw[he];cases d<;>rfl
 have hne:¬i.size=0:=by omega
 subst h3 h4
 simp[Instr.fieldAt,run_underlying h1,h2,Instr.sureAddr,fieldPlace,sizeOf,typeInfo,hT.info,hne,Addr.add_lit]
def fieldAddrK (T:TypeId→TI) (t:TypeId) (f:Nat) (x:AV) (K:Eff→AV→Prop):Prop:=
 pairK (T t).fields f fun off ft=>posK (T ft).size <| match x with
 | .ptr i o=>K e0 (.ptr i (o+off))
 | .ep i sz m g=>K e0 (.ep i sz m (g+off))
 | .fp xs=>dropK xs off fun l=>K e0 (.fp l)
 |_=>False
theorem fieldAddrK_out {t:TypeId} {f:Nat} {x:AV} {a:Operand} {K:Eff→AV→Prop} (h:fieldAddrK (tiOf P) t f x K):∃ e r,K e r∧Does P (.fieldAddr t a f) ty L n [x] e r:=by
 obtain⟨off,ft,hf,h⟩:=pairK_out h
 obtain⟨hp,h⟩:=posK_out h
 have fin:∀ {r:AV},K e0 r→(∀ (w:World) (F:Nat→Prop) (ρ:Nat→Option Value) (v:Value),RA w F ρ x v→∃ b o,v=.pointer (some ⟨b,o,none⟩)∧RA w F ρ r (.pointer (some ⟨b,o+off,none⟩)))→∃ e r,K e r∧Does P (.fieldAddr t a f) ty L n [x] e r:=by
  intro r hK hr
  refine⟨_,_,hK,does_val fun op w F ρ ev ho _ hx=>?_⟩
  obtain⟨v,e',hv⟩:=hx.one_out
  simp[Op.operands] at e'
  obtain⟨b,o,rfl,h2⟩:=hr w F ρ v hv
  exact⟨_,by simp[execOp,ho,e',run_fieldAt hf hp],h2⟩
 split at h
 ·refine fin h fun w F ρ v hv=>?_
  cases hv with|ptr hv=>exact⟨_,_,rfl,.ptr hv⟩
 ·refine fin h fun w F ρ v hv=>?_
  cases hv with|ep hv=>exact⟨_,_,rfl,by rw[Nat.add_assoc,Nat.add_assoc];exact .ep hv⟩
 ·have h:=(dropK_out h).2
  refine fin h fun w F ρ v hv=>?_
  cases hv with|fp hb hr hc=>
   refine⟨_,_,rfl,.fp hb (hr.drop off) fun j hj=>?_⟩
   rw[Nat.add_assoc,List.getElem_drop]
   exact hc _ _
 ·exact h.elim
theorem run_part {t:TypeId} (hk:(tiOf P t).kind≠.non) {vs:List Value} {off:Nat} {v:Value}
  (h1:(tiOf P t).kind=.one∨(tiOf P t).kind=.sli→vs[off]?=some v) (h2:(tiOf P t).kind=.st∨(tiOf P t).kind=.arr→off+(tiOf P t).size≤vs.length∧v=.agg ((vs.drop off).take (tiOf P t).size).toArray) :
  (part t vs.toArray off).run P w=.ok v w:=by
 obtain⟨i,d,z,hT,he⟩:=tiOf_known hk
 have hs:(tiOf P t).size=i.size:=by rw[he];cases d<;>rfl
 have agg:(tiOf P t).kind=.st∨(tiOf P t).kind=.arr→(isAgg t).run P w=.ok true w→(part t vs.toArray off).run P w=.ok v w:=by
  intro hk ha
  obtain⟨g1,g2⟩:=h2 hk
  subst g2
  simp[part,ha,sizeOf,typeInfo,hT.info,hs]
 have one:(tiOf P t).kind=.one∨(tiOf P t).kind=.sli→(isAgg t).run P w=.ok false w→(part t vs.toArray off).run P w=.ok v w:=by
  intro hk ha
  have g:=h1 hk
  simp[part,ha,g]
 cases d with
 |struct fs=>exact agg (.inl (by rw[he])) (by simp[isAgg,run_underlying hT.und])
 |array m e=>exact agg (.inr (by rw[he])) (by simp[isAgg,run_underlying hT.und])
 |slice e=>exact one (.inr (by rw[he])) (by simp[isAgg,run_underlying hT.und])
 |_=>exact one (.inl (by rw[he])) (by simp[isAgg,run_underlying hT.und])
theorem aggDK_part {t:TypeId} {xs:List D} {off:Nat} {k:AV→Prop} (h:aggDK (tiOf P t) (xs.drop off) k) (hx:off≤xs.length) :
  ∃ r,k r∧∀ w F ρ vs,RDs w F xs vs→∃ v,(part t vs.toArray off).run P w=.ok v w∧RA w F ρ r v:=by
 have one:((tiOf P t).kind=.one∨(tiOf P t).kind=.sli)→getDK (xs.drop off) 0 (fun y=>k (.d y))→∃ r,k r∧∀ w F ρ vs,RDs w F xs vs→∃ v,(part t vs.toArray off).run P w=.ok v w∧RA w F ρ r v:=by
  intro hk h
  obtain⟨y,hy,hky⟩:=getDK_out h
  refine⟨_,hky,fun w F ρ vs hr=>?_⟩
  obtain⟨v,hv,h1,_⟩:=(hr.drop off).get hy
  refine⟨v,run_part (by rcases hk with e|e<;>rw[e]<;>simp) (fun _=>by simpa [List.getElem?_drop] using hv) (fun e=>?_),.d h1⟩
  rcases hk with e1|e1<;>rcases e with e|e<;>rw[e1] at e<;>cases e
 have agg:((tiOf P t).kind=.st∨(tiOf P t).kind=.arr)→(tiOf P t).size≤(xs.drop off).length→k (.d (.agg ((xs.drop off).take (tiOf P t).size)))→∃ r,k r∧∀ w F ρ vs,RDs w F xs vs→∃ v,(part t vs.toArray off).run P w=.ok v w∧RA w F ρ r v:=by
  intro hk hl h
  refine⟨_,h,fun w F ρ vs hr=>?_⟩
  have hvl:=hr.length
  refine⟨_,run_part (by rcases hk with e|e<;>rw[e]<;>simp) (fun e=>?_) (fun _=>⟨by simp at hl;omega,rfl⟩),.d (.agg ((hr.drop off).take _))⟩
  rcases hk with e1|e1<;>rcases e with e|e<;>rw[e1] at e<;>cases e
 unfold aggDK at h
 cases hk:(tiOf P t).kind with
 |non=>rw[hk] at h;exact h.elim
 |one=>rw[hk] at h;exact one (.inl hk) h
 |sli=>rw[hk] at h;exact one (.inr hk) h
 |st=>
  rw[hk] at h
  simp only at h
  split at h
  ·obtain⟨ys,rfl,h2,h3⟩:=h;exact agg (.inl hk) (by rw[List.length_take] at h2;omega) h3
  ·obtain⟨h1,h2⟩:=takeK_out h;exact agg (.inl hk) h1 h2
 |arr=>
  rw[hk] at h
  simp only at h
  split at h
  ·obtain⟨ys,rfl,h2,h3⟩:=h;exact agg (.inr hk) (by rw[List.length_take] at h2;omega) h3
  ·obtain⟨h1,h2⟩:=takeK_out h;exact agg (.inr hk) h1 h2
theorem aggAK_part {t:TypeId} {xs:List AV} {off:Nat} {k:AV→Prop} (h:aggAK (tiOf P t) (xs.drop off) k) (hx:off≤xs.length) :
  ∃ r,k r∧∀ w F ρ vs,RAs w F ρ xs vs→(∀ v∈vs,v.oneCell'=true)→∃ v,(part t vs.toArray off).run P w=.ok v w∧RA w F ρ r v:=by
 have one:((tiOf P t).kind=.one∨(tiOf P t).kind=.sli)→getK (xs.drop off) 0 k→∃ r,k r∧∀ w F ρ vs,RAs w F ρ xs vs→(∀ v∈vs,v.oneCell'=true)→∃ v,(part t vs.toArray off).run P w=.ok v w∧RA w F ρ r v:=by
  intro hk h
  obtain⟨y,hy,hky⟩:=getK_out h
  refine⟨_,hky,fun w F ρ vs hr _=>?_⟩
  obtain⟨v,hv,h1⟩:=(hr.drop off).get hy
  refine⟨v,run_part (by rcases hk with e|e<;>rw[e]<;>simp) (fun _=>by simpa [List.getElem?_drop] using hv) (fun e=>?_),h1⟩
  rcases hk with e1|e1<;>rcases e with e|e<;>rw[e1] at e<;>cases e
 have agg:((tiOf P t).kind=.st∨(tiOf P t).kind=.arr)→takeK (xs.drop off) (tiOf P t).size (fun ys=>mkAggK ys k)→∃ r,k r∧∀ w F ρ vs,RAs w F ρ xs vs→(∀ v∈vs,v.oneCell'=true)→∃ v,(part t vs.toArray off).run P w=.ok v w∧RA w F ρ r v:=by
  intro hk h
  obtain⟨hl,h⟩:=takeK_out h
  obtain⟨r,h1,h2⟩:=mkAggK_out h
  refine⟨r,h1,fun w F ρ vs hr ho=>?_⟩
  have hvl:=hr.length
  refine⟨_,run_part (by rcases hk with e|e<;>rw[e]<;>simp) (fun e=>?_) (fun _=>⟨by simp at hl;omega,rfl⟩),h2 w F ρ _ ((hr.drop off).take _) fun v hv=>ho v (List.mem_of_mem_drop (List.mem_of_mem_take hv))⟩
  rcases hk with e1|e1<;>rcases e with e|e<;>rw[e1] at e<;>cases e
 unfold aggAK at h
 cases hk:(tiOf P t).kind with
 |non=>rw[hk] at h;exact h.elim
 |one=>rw[hk] at h;exact one (.inl hk) h
 |sli=>rw[hk] at h;exact one (.inr hk) h
 |st=>rw[hk] at h;exact agg (.inl hk) h
 |arr=>rw[hk] at h;exact agg (.inr hk) h
def fieldK (T:TypeId→TI) (t:TypeId) (f:Nat) (x:AV) (K:Eff→AV→Prop):Prop:=
 pairK (T t).fields f fun off ft=>match x with
 | .agg cs=>dropK cs off fun l=>aggAK (T ft) l (K e0)
 | .d (.agg ds)=>match bigB (T t).size with
  |true=>off≤ds.length∧∃ l,ds.drop off=l∧loadK.rowK (T ft) l (K e0)
  |false=>dropK ds off fun l=>aggDK (T ft) l (K e0)
 |_=>False
theorem fieldK_out {t:TypeId} {f:Nat} {x:AV} {a:Operand} {K:Eff→AV→Prop} (h:fieldK (tiOf P) t f x K):∃ e r,K e r∧Does P (.field t a f) ty L n [x] e r:=by
 obtain⟨off,ft,hf,h⟩:=pairK_out h
 obtain⟨fs,fd,h1,h2,h3,h4⟩:=ti_field hf
 subst h3 h4
 have fin:∀ {r:AV},K e0 r→(∀ (w:World) (F:Nat→Prop) (ρ:Nat→Option Value) (v:Value),RA w F ρ x v→∃ vs u,v=.agg (List.toArray vs)∧(part fd.type vs.toArray fd.offset).run P w=.ok u w∧RA w F ρ r u)→∃ e r,K e r∧Does P (.field t a f) ty L n [x] e r:=by
  intro r hK hr
  refine⟨_,_,hK,does_val fun op w F ρ ev ho _ hx=>?_⟩
  obtain⟨v,e',hv⟩:=hx.one_out
  simp[Op.operands] at e'
  obtain⟨vs,u,rfl,g1,g2⟩:=hr w F ρ v hv
  exact⟨_,by simp[execOp,ho,e',Instr.field,run_underlying h1,h2,asAgg,g1],g2⟩
 split at h
 ·rename_i cs
  obtain⟨hle,h⟩:=dropK_out h
  obtain⟨r,hK,hr⟩:=aggAK_part h hle
  refine fin hK fun w F ρ v hv=>?_
  cases hv with|agg hv ho=>
   obtain⟨u,g1,g2⟩:=hr w F ρ _ hv ho
   exact⟨_,u,rfl,g1,g2⟩
 ·rename_i ds
  split at h
  ·obtain⟨hle,l,rfl,h⟩:=h
   obtain⟨r,hK,hr⟩:=aggDK_part (rowK_out h) hle
   refine fin hK fun w F ρ v hv=>?_
   cases hv with|d hv=>cases hv with|agg hv=>
    obtain⟨u,g1,g2⟩:=hr w F ρ _ hv
    exact⟨_,u,rfl,g1,g2⟩
  ·obtain⟨hle,h⟩:=dropK_out h
   obtain⟨r,hK,hr⟩:=aggDK_part h hle
   refine fin hK fun w F ρ v hv=>?_
   cases hv with|d hv=>cases hv with|agg hv=>
    obtain⟨u,g1,g2⟩:=hr w F ρ _ hv
    exact⟨_,u,rfl,g1,g2⟩
 ·exact h.elim
end
section
variable {P:Program} {w w':World} {F F':Nat→Prop} {ρ ρ':Nat→Option Value} {H:Hp} {L:List AObj} {ty:TypeId} {n:Nat}
theorem ti_sli {t:TypeId} (h:(tiOf P t).kind=.sli):P.underlying t=some (.slice (tiOf P t).elem)∧P.cellsOf (tiOf P t).elem=(tiOf P t).esize∧P.bytesOf (tiOf P t).elem=(tiOf P t).ebytes:=by
 obtain⟨i,d,z,hT,he⟩:=tiOf_known (P:=P) (t:=t) (by rw[h];simp)
 rw[he] at h ⊢
 cases d<;>try (cases h;done)
 exact⟨hT.und,rfl,rfl⟩
theorem ti_arr {t:TypeId} (h:(tiOf P t).kind=.arr):P.underlying t=some (.array (tiOf P t).len (tiOf P t).elem)∧P.cellsOf (tiOf P t).elem=(tiOf P t).esize∧P.bytesOf (tiOf P t).elem=(tiOf P t).ebytes:=by
 obtain⟨i,d,z,hT,he⟩:=tiOf_known (P:=P) (t:=t) (by rw[h];simp)
 rw[he] at h ⊢
 cases d<;>try (cases h;done)
 exact⟨hT.und,rfl,rfl⟩
theorem info_of_cells {e m:Nat} (h:P.cellsOf e=m) (hp:0<m):∃ i,P.info? e=some i∧i.size=m:=by
 unfold Program.cellsOf at h
 cases hi:P.info? e with
 |none=>simp[hi] at h;omega
 |some i=>exact⟨i,rfl,by simpa [hi] using h⟩
def intK (x:AV) (k:Int→Prop):Prop:=match x with | .d (.v (.int _ z))=>k z|_=>False
theorem intK_out {x:AV} {k:Int→Prop} (h:intK x k):∃ kd z,x=.d (.v (.int kd z))∧k z:=by
 unfold intK at h
 split at h
 ·exact⟨_,_,rfl,h⟩
 ·exact h.elim
def indexAddrK (ti:TI) (x y:AV) (L:List AObj) (K:Eff→AV→Prop):Prop:=
 intK y fun z=>posK ti.esize <| match x with
 | .own i=>match ti.kind with
  | .sli=>getOK L i fun ob=>match ob with
   | .sl s rows=>eqK ti.esize s <| ∃ k:Nat,z=k∧k<rows.length∧K ⟨[i],[],[]⟩ (.ep i s k 0)
   |_=>False
  |_=>False
 | .d (.sl s rows)=>match ti.kind with
  | .sli=>eqK ti.esize s <| ∃ (k:Nat) (r:List D),z=k∧rows[k]?=some r∧K e0 (.fp r)
  |_=>False
 | .ptr i o=>match ti.kind with
  | .arr=>∃ k:Nat,z=k∧k<ti.len∧K e0 (.ptr i (o+k*ti.esize))
  |_=>False
 | .ep i sz m f=>match ti.kind with
  | .arr=>∃ k:Nat,z=k∧k<ti.len∧K e0 (.ep i sz m (f+k*ti.esize))
  |_=>False
 | .fp xs=>match ti.kind with
  | .arr=>∃ (k:Nat) (ys:List D),z=k∧k<ti.len∧xs.drop (k*ti.esize)=ys∧K e0 (.fp ys)
  |_=>False
 |_=>False
theorem run_indexAt_sl {t:TypeId} (hk:(tiOf P t).kind=.sli) (hp:0<(tiOf P t).esize) {A:Addr} {m c k:Nat} {kd:IntKind} (hlt:k<m):(Instr.indexAt t (.slice (some A) m c) (.int kd k)).run P w=.ok (.pointer (some (A.add (k*(tiOf P t).esize)))) w:=by
 obtain⟨h1,h2,_⟩:=ti_sli hk
 obtain⟨i,h3,h4⟩:=info_of_cells h2 hp
 simp[Instr.indexAt,asIntOf,run_underlying h1,sizeOf,typeInfo,h3,h4]
 exact fun e=>absurd e (by omega)
theorem run_indexAt_arr {t:TypeId} (hk:(tiOf P t).kind=.arr) (hp:0<(tiOf P t).esize) {b o k:Nat} {kd:IntKind} (hlt:k<(tiOf P t).len):(Instr.indexAt t (.pointer (some ⟨b,o,none⟩)) (.int kd k)).run P w=.ok (.pointer (some ⟨b,o+k*(tiOf P t).esize,none⟩)) w:=by
 obtain⟨h1,h2,_⟩:=ti_arr hk
 obtain⟨i,h3,h4⟩:=info_of_cells h2 hp
 simp[Instr.indexAt,asIntOf,run_underlying h1,sizeOf,typeInfo,h3,h4,Instr.sureAddr,Addr.add_lit]
 exact fun e=>absurd e (by omega)
theorem indexAddrK_out {t:TypeId} {x y:AV} {a b:Operand} {K:Eff→AV→Prop} (h:indexAddrK (tiOf P t) x y L K):∃ e r,K e r∧Does P (.indexAddr t a b) ty L n [x,y] e r:=by
 obtain⟨kd,z,hy,hh⟩:=intK_out h
 clear h
 subst hy
 obtain⟨hp,h⟩:=posK_out hh
 clear hh
 have fin:∀ {e:Eff} {r:AV},e.ws=[]→e.news=[]→K e r→(∀ (H:Hp) (F:Nat→Prop) (ρ:Nat→Option Value) (w:World) (v:Value),Env F ρ H w→(∀ i∈e.rs,H i=L[i]?)→RA w F ρ x v→∃ u,(Instr.indexAt t v (.int kd z)).run P w=.ok u w∧RA w F ρ r u)→∃ e r,K e r∧Does P (.indexAddr t a b) ty L n [x,.d (.v (.int kd z))] e r:=by
  intro e r h1 h2 h3 h4
  refine⟨e,r,h3,fun op H F ρ w ev ho ht E hL hn hx=>?_⟩
  obtain⟨v,u0,ev',hv,hu⟩:=hx.two_out
  have:=hu.v_out
  subst this
  simp[Op.operands] at ev'
  obtain⟨u,hu,hr⟩:=h4 H F ρ w v E hL hv
  have hrun:(execOp ev op).run P w=.ok (.value u) w:=by simp[execOp,ho,ev'.1,ev'.2,hu]
  rw[hrun,h1,h2]
  exact Post.same E hr
 split at h
 ·rename_i i
  split at h
  ·rename_i hk
   obtain⟨ob,hob,h⟩:=getOK_out h
   split at h
   ·rename_i s rows
    obtain⟨hs,k,rfl,hlt,hK⟩:=eqK_out h
    refine fin rfl rfl hK fun H F ρ w v E hL hv=>?_
    have hi:H i=some (.sl s rows):=by rw[hL i (by simp)];exact hob
    cases hv with|own hv=>
     obtain⟨hh,e1,⟨vs,how,_⟩,_⟩:=E.rep i _ hi rfl
     rw[hv] at e1;injection e1 with e1;subst e1
     obtain⟨g,off,cap,he,_⟩:=how.open_ (by omega)
     injection he with q1 q2 q3
     subst q1 q2
     refine⟨_,run_indexAt_sl hk hp hlt,?_⟩
     rw[Addr.add_lit,hs]
     exact .ep hv
   ·exact h.elim
  ·exact h.elim
 ·split at h
  ·rename_i s rows _ hk
   obtain⟨hs,k,r,rfl,hr,hK⟩:=eqK_out h
   refine fin rfl rfl hK fun H F ρ w v E hL hv=>?_
   cases hv with|d hv=>cases hv with|sl hn hs' h1 h2 hf hm=>
    have hlt:=(List.getElem?_eq_some_iff.1 hr).1
    obtain⟨b,off,rfl,hb,hc⟩:=hm (by omega)
    refine⟨_,run_indexAt_sl hk hp (by omega),?_⟩
    rw[Addr.add_lit,hs]
    have hd:=hf.drop (k*s)
    rw[flat_get hs' hr] at hd
    obtain⟨vs,ts,e,g1,g2⟩:=hd.split
    refine .fp hb g1 fun j hj=>?_
    rename_i cs
    have hu:cs[k*s+j]?=some vs[j]:=by
     have:(cs.drop (k*s))[j]?=some vs[j]:=by rw[e,List.getElem?_append_left hj,List.getElem?_eq_getElem hj]
     simpa [List.getElem?_drop] using this
    obtain⟨q1,q2⟩:=List.getElem?_eq_some_iff.1 hu
    have:=hc _ q1
    rw[q2] at this
    rw[Nat.add_assoc];exact this
  ·exact h.elim
 ·split at h
  ·rename_i hk
   obtain⟨k,rfl,hlt,hK⟩:=h
   refine fin rfl rfl hK fun H F ρ w v E hL hv=>?_
   cases hv with|ptr hv=>exact⟨_,run_indexAt_arr hk hp hlt,.ptr hv⟩
  ·exact h.elim
 ·split at h
  ·rename_i hk
   obtain⟨k,rfl,hlt,hK⟩:=h
   refine fin rfl rfl hK fun H F ρ w v E hL hv=>?_
   cases hv with|ep hv=>exact⟨_,run_indexAt_arr hk hp hlt,by rw[Nat.add_assoc,Nat.add_assoc];exact .ep hv⟩
  ·exact h.elim
 ·split at h
  ·rename_i hk
   obtain⟨k,ys,rfl,hlt,rfl,hK⟩:=h
   refine fin rfl rfl hK fun H F ρ w v E hL hv=>?_
   cases hv with|fp hb hr hc=>
    refine⟨_,run_indexAt_arr hk hp hlt,.fp hb (hr.drop _) fun j hj=>?_⟩
    rw[List.getElem_drop,Nat.add_assoc]
    exact hc _ _
  ·exact h.elim
 ·exact h.elim
def oneTK (ti:TI) (p:Prop):Prop:=match ti.kind with | .one=>p | .sli=>p|_=>False
theorem oneTK_out {ti:TI} {p:Prop} (h:oneTK ti p):(ti.kind=.one∨ti.kind=.sli)∧p:=by
 unfold oneTK at h
 split at h
 ·rename_i hk;exact⟨.inl hk,h⟩
 ·rename_i hk;exact⟨.inr hk,h⟩
 ·exact h.elim
def indexK (ti ei:TI) (x y:AV) (K:Eff→AV→Prop):Prop:=
 intK y fun z=>match x with
 | .d (.agg ds)=>match ti.kind with
  | .arr=>oneTK ei <| eqK ti.esize 1 <| ∃ (k:Nat) (r:D),z=k∧k<ti.len∧ds[k]?=some r∧K e0 (.d r)
  |_=>False
 | .d (.v (.string s))=>eqK ti.tag 3 <| ∃ (k:Nat) (h:k<s.size),z=k∧K e0 (.d (.v (.int .u8 (s[k].toNat:Int))))
 |_=>False
theorem ti_tag {t:TypeId} (h:(tiOf P t).tag=3):P.underlying t=some .string:=by
 obtain⟨i,d,z,hT,he⟩:=tiOf_known (P:=P) (t:=t) (fun e=>by rw[ti_non e] at h;cases h)
 rw[he] at h
 cases d<;>first|exact hT.und|(cases h;done)|(rename_i k;cases k<;>cases h)
theorem indexK_out {t:TypeId} {x y:AV} {a b:Operand} {K:Eff→AV→Prop} (h:indexK (tiOf P t) (tiOf P (tiOf P t).elem) x y K):∃ e r,K e r∧Does P (.index t a b) ty L n [x,y] e r:=by
 obtain⟨kd,z,hy,hh⟩:=intK_out h
 clear h
 subst hy
 have h:=hh
 clear hh
 have fin:∀ {r:AV},K e0 r→(∀ (w:World) (F:Nat→Prop) (ρ:Nat→Option Value) (v:Value),RA w F ρ x v→∃ u,(Instr.index t v (.int kd z)).run P w=.ok u w∧RA w F ρ r u)→∃ e r,K e r∧Does P (.index t a b) ty L n [x,.d (.v (.int kd z))] e r:=by
  intro r h3 h4
  refine⟨_,r,h3,does_val fun op w F ρ ev ho _ hx=>?_⟩
  obtain⟨v,u0,ev',hv,hu⟩:=hx.two_out
  have:=hu.v_out
  subst this
  simp[Op.operands] at ev'
  obtain⟨u,hu,hr⟩:=h4 w F ρ v hv
  exact⟨u,by simp[execOp,ho,ev'.1,ev'.2,hu],hr⟩
 split at h
 ·split at h
  ·rename_i ds _ hk
   obtain⟨hone,h0⟩:=oneTK_out h
   obtain⟨h1,k,r,rfl,hlt,hr,hK⟩:=eqK_out h0
   obtain⟨g1,g2,_⟩:=ti_arr hk
   rw[h1] at g2
   obtain⟨i,h3,h4⟩:=info_of_cells g2 (by omega)
   refine fin hK fun w F ρ v hv=>?_
   cases hv with|d hv=>cases hv with|agg hv=>
    rename_i cs
    obtain⟨u,hu,hru,_⟩:=hv.get hr
    refine⟨u,?_,.d hru⟩
    have hp:(part (tiOf P t).elem cs.toArray k).run P w=.ok u w:=run_part (by rcases hone with e|e<;>rw[e]<;>simp) (fun _=>hu) (fun e=>by rcases hone with e1|e1<;>rcases e with e|e<;>rw[e1] at e<;>cases e)
    simp[Instr.index,asIntOf,run_underlying g1,sizeOf,typeInfo,h3,h4,hp]
    exact fun e=>absurd e (by omega)
  ·exact h.elim
 ·rename_i s _
  obtain⟨h1,k,hlt,rfl,hK⟩:=eqK_out h
  refine fin hK fun w F ρ v hv=>?_
  have:=hv.v_out
  subst this
  refine⟨_,?_,.d (.v _)⟩
  simp[Instr.index,asIntOf,run_underlying (ti_tag h1),hlt]
 ·exact h.elim
def extractK (x:AV) (i:Nat) (K:Eff→AV→Prop):Prop:=match x with | .tup xs=>getK xs i (K e0)|_=>False
theorem extractK_out {x:AV} {i:Nat} {a:Operand} {K:Eff→AV→Prop} (h:extractK x i K):∃ e r,K e r∧Does P (.extract a i) ty L n [x] e r:=by
 unfold extractK at h
 split at h
 ·obtain⟨y,hy,hK⟩:=getK_out h
  refine⟨_,_,hK,does_val fun op w F ρ ev ho _ hx=>?_⟩
  obtain⟨v,e',hv⟩:=hx.one_out
  simp[Op.operands] at e'
  cases hv with|tup hv=>
   obtain⟨u,hu,hr⟩:=hv.get hy
   exact⟨u,by simp[execOp,ho,e',Instr.extract,hu],hr⟩
 ·exact h.elim
def nilCheckK (x:AV) (K:Eff→AV→Prop):Prop:=
 match x with
 | .ptr i o=>K e0 (.ptr i o)
 | .ep i s m f=>K e0 (.ep i s m f)
 | .fp xs=>K e0 (.fp xs)
 | .fn (.func g) a b=>K e0 (.fn (.func g) a b)
 |_=>False
theorem nilCheckK_out {x:AV} {a:Operand} {K:Eff→AV→Prop} (h:nilCheckK x K):∃ e r,K e r∧Does P (.nilCheck a) ty L n [x] e r:=by
 have fin:∀ {r:AV},K e0 r→(∀ (w:World) (F:Nat→Prop) (ρ:Nat→Option Value) (v:Value),RA w F ρ r v→(∃ b,v=.pointer (some b))∨∃ g p q,v=.func (.func g) p q)→∃ e r',K e r'∧Does P (.nilCheck a) ty L n [r] e r':=by
  intro r hK hr
  refine⟨_,_,hK,does_val fun op w F ρ ev ho _ hx=>?_⟩
  obtain⟨v,e',hv⟩:=hx.one_out
  simp[Op.operands] at e'
  refine⟨v,?_,hv⟩
  rcases hr w F ρ v hv with⟨b,rfl⟩|⟨g,p,q,rfl⟩<;>simp[execOp,ho,e']
 unfold nilCheckK at h
 split at h
 ·exact fin h fun w F ρ v hv=>by cases hv;exact .inl ⟨_,rfl⟩
 ·exact fin h fun w F ρ v hv=>by cases hv;exact .inl ⟨_,rfl⟩
 ·exact fin h fun w F ρ v hv=>by cases hv;exact .inl ⟨_,rfl⟩
 ·exact fin h fun w F ρ v hv=>by cases hv;exact .inr ⟨_,_,_,rfl⟩
 ·exact h.elim
def lenBK (ti:TI) (x:AV) (L:List AObj) (K:Eff→AV→Prop):Prop:=
 match x with
 | .own i=>match ti.kind with
  | .sli=>getOK L i fun ob=>match ob with
   | .sl _ rows=>K ⟨[i],[],[]⟩ (.d (.v (.int .i64 rows.length)))
   |_=>False
  |_=>False
 | .d (.sl _ rows)=>match ti.kind with
  | .sli=>K e0 (.d (.v (.int .i64 rows.length)))
  |_=>False
 | .d (.v (.slice _ m _))=>match ti.kind with
  | .sli=>K e0 (.d (.v (.int .i64 m)))
  |_=>False
 | .d (.v (.string s))=>eqK ti.tag 3 <| K e0 (.d (.v (.int .i64 s.size)))
 |_=>False
theorem lenBK_out {t:TypeId} {x:AV} {a:Operand} {K:Eff→AV→Prop} (h:lenBK (tiOf P t) x L K):∃ e r,K e r∧Does P (.call { callee:=.builtin .len,args:=#[a],argTypes:=#[t] }) ty L n [x] e r:=by
 have fin:∀ {e:Eff} {m:Nat},e.ws=[]→e.news=[]→K e (.d (.v (.int .i64 m)))→(∀ (H:Hp) (F:Nat→Prop) (ρ:Nat→Option Value) (w:World) (v:Value),Env F ρ H w→(∀ i∈e.rs,H i=L[i]?)→RA w F ρ x v→((tiOf P t).kind=.sli∧∃ A c,v=.slice A m c)∨((tiOf P t).tag=3∧∃ s,v=.string s∧s.size=m))→∃ e r,K e r∧Does P (.call { callee:=.builtin .len,args:=#[a],argTypes:=#[t] }) ty L n [x] e r:=by
  intro e m h1 h2 h3 h4
  refine⟨e,_,h3,fun op H F ρ w ev ho ht E hL hn hx=>?_⟩
  have hops:(Op.operands (.call { callee:=.builtin .len,args:=#[a],argTypes:=#[t] })).toList=[a]:=by simp[Op.operands,Call.operands]
  rw[hops] at hx
  obtain⟨v,ev',hv⟩:=hx.one_out
  simp at ev'
  have hrun:(execOp ev op).run P w=.ok (.value (.int .i64 m)) w:=by
   rcases h4 H F ρ w v E hL hv with⟨hk,A,c,rfl⟩|⟨hk,s,rfl,rfl⟩
   ·simp[execOp,ho,resolve,invoke,builtin,ev',Builtin.len_,run_underlying (ti_sli hk).1,goInt]
   ·simp[execOp,ho,resolve,invoke,builtin,ev',Builtin.len_,run_underlying (ti_tag hk),goInt]
  rw[hrun,h1,h2]
  exact Post.same E (.d (.v _))
 unfold lenBK at h
 split at h
 ·rename_i i
  split at h
  ·rename_i hk
   obtain⟨ob,hob,h⟩:=getOK_out h
   split at h
   ·rename_i s rows
    refine fin rfl rfl h fun H F ρ w v E hL hv=>?_
    have hi:H i=some (.sl s rows):=by rw[hL i (by simp)];exact hob
    cases hv with|own hv=>
     obtain⟨hh,e1,⟨vs,how,_⟩,_⟩:=E.rep i _ hi rfl
     rw[hv] at e1;injection e1 with e1;subst e1
     obtain⟨A',c',he,_⟩:=how.form
     injection he with q1 q2 q3
     exact .inl ⟨hk,_,_,by rw[q2]⟩
   ·exact h.elim
  ·exact h.elim
 ·split at h
  ·rename_i hk
   refine fin rfl rfl h fun H F ρ w v E hL hv=>?_
   cases hv with|d hv=>cases hv with|sl hn _ _ _ _ _=>exact .inl ⟨hk,_,_,by rw[hn]⟩
  ·exact h.elim
 ·split at h
  ·rename_i hk
   refine fin rfl rfl h fun H F ρ w v E hL hv=>?_
   have:=hv.v_out
   exact .inl ⟨hk,_,_,this⟩
  ·exact h.elim
 ·obtain⟨hk,h⟩:=eqK_out h
  refine fin rfl rfl h fun H F ρ w v E hL hv=>?_
  have:=hv.v_out
  exact .inr ⟨hk,_,this,rfl⟩
 ·exact h.elim
end
end Go.Proofs.YtfbfpnfgabamfaaGreat
/- Contracts,and how they are called from elsewhere. No program is named here. -/
namespace Go.Proofs.YtfbfpnfgabamfaaGreat
set_option linter.unusedSimpArgs false
set_option linter.unusedVariables false
open Go.RowKit
def Sat (P:Program) (g:FuncId) (args:List AV) (H:List AObj) (r:AV) (H':List AObj):Prop:=
 ∀ (F:Nat→Prop) (ρ:Nat→Option Value) (w:World) (vals:List Value),Env F ρ (hp H) w→RAs w F ρ args vals →
  Calls P g vals.toArray w fun e w'=>∃ v,e=.returned v∧Post F ρ (hp H) w (hp H') r v w'
def CallOK (P:Program) (g:FuncId) (args:List AV) (L:List AObj) (n:Nat) (e:Eff) (r:AV):Prop:=
 ∀ (H:Hp) (F:Nat→Prop) (ρ:Nat→Option Value) (w:World) (vals:List Value),Env F ρ H w→(∀ i∈e.rs,H i=L[i]?)→(∀ k,k<e.news.length→H (n+k)=none)→RAs w F ρ args vals →
  Calls P g vals.toArray w fun en w'=>∃ v,en=.returned v∧Post F ρ H w (appN n e.news (appW e.ws H)) r v w'
mutual
def AV.rn (f:Nat→Nat):AV→AV
 | .d x=>.d x
 | .ptr i o=>.ptr (f i) o
 | .own i=>.own (f i)
 | .ep i s m g=>.ep (f i) s m g
 | .fp xs=>.fp xs
 | .agg xs=>.agg (AV.rns f xs)
 | .tup xs=>.tup (AV.rns f xs)
 | .fn g a b=>.fn g (AV.rns f a) (AV.rns f b)
 | .mp i=>.mp (f i)
 | .rel i p=>.rel (f i) p
 | .any=>.any
def AV.rns (f:Nat→Nat):List AV→List AV
 |[]=>[]
 |x::r=>AV.rn f x::AV.rns f r
end
mutual
def AV.lt (m:Nat):AV→Bool
 | .d _=>true
 | .ptr i _=>Nat.blt i m
 | .own i=>Nat.blt i m
 | .ep i _ _ _=>Nat.blt i m
 | .fp _=>true
 | .agg xs=>AV.lts m xs
 | .tup xs=>AV.lts m xs
 | .fn _ a b=>AV.lts m a && AV.lts m b
 | .mp i=>Nat.blt i m
 | .rel i _=>Nat.blt i m
 | .any=>true
def AV.lts (m:Nat):List AV→Bool
 |[]=>true
 |x::r=>AV.lt m x && AV.lts m r
end
def AObj.rn (f:Nat→Nat):AObj→AObj
 | .dead=>.dead
 | .cells cs=>.cells (AV.rns f cs)
 | .row xs=>.row xs
 | .sl s rows=>.sl s rows
 | .obj p=>.obj p
 | .iter x p=>.iter (x.rn f) p
def AObj.rns (f:Nat→Nat):List AObj→List AObj
 |[]=>[]
 |x::r=>x.rn f::AObj.rns f r
def AObj.lts (m:Nat):List AObj→Bool
 |[]=>true
 | .cells cs::r=>AV.lts m cs && AObj.lts m r
 | .dead::r=>AObj.lts m r
 | .row _::r=>AObj.lts m r
 | .sl _ _::r=>AObj.lts m r
 | .obj _::r=>AObj.lts m r
 | .iter x _::r=>AV.lt m x && AObj.lts m r
theorem AObj.rns_get {f:Nat→Nat}:∀ {l:List AObj} {i:Nat},(AObj.rns f l)[i]?=(l[i]?).map (AObj.rn f)
 |[],i=>by simp[AObj.rns]
 |x::r,0=>by simp[AObj.rns]
 |x::r,i+1=>by simp[AObj.rns,AObj.rns_get (l:=r)]
theorem AObj.rns_length {f:Nat→Nat}:∀ {l:List AObj},(AObj.rns f l).length=l.length
 |[]=>rfl
 |x::r=>by simp[AObj.rns,AObj.rns_length (l:=r)]
theorem AObj.rn_live {f:Nat→Nat} {o:AObj}:(o.rn f).live=o.live:=by cases o<;>rfl
theorem AObj.lts_get {m:Nat}:∀ {l:List AObj},AObj.lts m l=true→∀ {i:Nat} {cs:List AV},l[i]?=some (.cells cs)→AV.lts m cs=true
 |[],_,i,cs,h=>by simp at h
 | .cells c::r,hl,0,cs,h=>by simp[AObj.lts] at hl h;subst h;exact hl.1
 | .dead::r,hl,0,cs,h=>by simp at h
 | .row _::r,hl,0,cs,h=>by simp at h
 | .sl _ _::r,hl,0,cs,h=>by simp at h
 | .obj _::r,hl,0,cs,h=>by simp at h
 | .iter _ _::r,hl,0,cs,h=>by simp at h
 | .cells c::r,hl,i+1,cs,h=>AObj.lts_get (l:=r) (by simp[AObj.lts] at hl;exact hl.2) (i:=i) (by simpa using h)
 | .dead::r,hl,i+1,cs,h=>AObj.lts_get (l:=r) (by simpa [AObj.lts] using hl) (i:=i) (by simpa using h)
 | .row _::r,hl,i+1,cs,h=>AObj.lts_get (l:=r) (by simpa [AObj.lts] using hl) (i:=i) (by simpa using h)
 | .sl _ _::r,hl,i+1,cs,h=>AObj.lts_get (l:=r) (by simpa [AObj.lts] using hl) (i:=i) (by simpa using h)
 | .obj _::r,hl,i+1,cs,h=>AObj.lts_get (l:=r) (by simpa [AObj.lts] using hl) (i:=i) (by simpa using h)
 | .iter _ _::r,hl,i+1,cs,h=>AObj.lts_get (l:=r) (by simp[AObj.lts] at hl;exact hl.2) (i:=i) (by simpa using h)
theorem AObj.lts_one {m:Nat}:∀ {l:List AObj},AObj.lts m l=true→∀ {i:Nat} {o:AObj},l[i]?=some o→AObj.lts m [o]=true
 |[],_,i,o,h=>by simp at h
 |x::r,hl,0,o,h=>by simp at h;subst h;cases x<;>first|rfl|(simp[AObj.lts] at hl ⊢;exact hl.1)
 |x::r,hl,i+1,o,h=>AObj.lts_one (l:=r) (by cases x<;>first|(simpa [AObj.lts] using hl)|(simp[AObj.lts] at hl;exact hl.2)) (i:=i) (by simpa using h)
section
variable {P:Program} {w w':World} {F F':Nat→Prop} {ρ ρ' ρ0:Nat→Option Value} {H:Hp} {L:List AObj} {n:Nat}
mutual
theorem RA.rn {f:Nat→Nat} (hf:∀ j h,ρ0 j=some h→ρ (f j)=some h):∀ {x:AV} {v:Value},RA w F ρ0 x v→RA w F ρ (x.rn f) v
 |_,_,.d h=>by rw[AV.rn];exact .d h
 |_,_,.ptr h=>by rw[AV.rn];exact .ptr (hf _ _ h)
 |_,_,.own h=>by rw[AV.rn];exact .own (hf _ _ h)
 |_,_,.ep h=>by rw[AV.rn];exact .ep (hf _ _ h)
 |_,_,.fp hb h hc=>by rw[AV.rn];exact .fp hb h hc
 |_,_,.agg h h1=>by rw[AV.rn];exact .agg (RAs.rn hf h) h1
 |_,_,.tup h=>by rw[AV.rn];exact .tup (RAs.rn hf h)
 |_,_,.fn h h'=>by rw[AV.rn];exact .fn (RAs.rn hf h) (RAs.rn hf h')
 |_,_,.mp h=>by rw[AV.rn];exact .mp (hf _ _ h)
 |_,_,.rel h hp=>by rw[AV.rn];exact .rel (hf _ _ h) hp
 |_,_,.any v=>by rw[AV.rn];exact .any v
theorem RAs.rn {f:Nat→Nat} (hf:∀ j h,ρ0 j=some h→ρ (f j)=some h):∀ {xs:List AV} {vs:List Value},RAs w F ρ0 xs vs→RAs w F ρ (AV.rns f xs) vs
 |_,_,.nil=>by rw[AV.rns];exact .nil
 |_,_,.cons h hr=>by rw[AV.rns];exact .cons (RA.rn hf h) (RAs.rn hf hr)
end
mutual
theorem RA.rn_inv {f:Nat→Nat} {m:Nat} (hf:∀ j,j<m→ρ0 j=ρ (f j)):∀ (x:AV) {v:Value},AV.lt m x=true→RA w F ρ (x.rn f) v→RA w F ρ0 x v
 | .d x,v,_,h=>by rw[AV.rn] at h;cases h with|d h=>exact .d h
 | .ptr i o,v,l,h=>by rw[AV.rn] at h;cases h with|ptr h=>exact .ptr ((hf _ (by simpa [AV.lt,Nat.blt,Nat.succ_le_iff] using l)).trans h)
 | .own i,v,l,h=>by rw[AV.rn] at h;cases h with|own h=>exact .own ((hf _ (by simpa [AV.lt,Nat.blt,Nat.succ_le_iff] using l)).trans h)
 | .ep i s q g,v,l,h=>by rw[AV.rn] at h;cases h with|ep h=>exact .ep ((hf _ (by simpa [AV.lt,Nat.blt,Nat.succ_le_iff] using l)).trans h)
 | .fp xs,v,_,h=>by rw[AV.rn] at h;cases h with|fp hb h hc=>exact .fp hb h hc
 | .agg xs,v,l,h=>by rw[AV.rn] at h;cases h with|agg h h1=>exact .agg (RAs.rn_inv hf xs (by simpa [AV.lt] using l) h) h1
 | .tup xs,v,l,h=>by rw[AV.rn] at h;cases h with|tup h=>exact .tup (RAs.rn_inv hf xs (by simpa [AV.lt] using l) h)
 | .fn g a b,v,l,h=>by rw[AV.rn] at h;simp[AV.lt] at l;cases h with|fn h h'=>exact .fn (RAs.rn_inv hf a l.1 h) (RAs.rn_inv hf b l.2 h')
 | .mp i,v,l,h=>by rw[AV.rn] at h;cases h with|mp h=>exact .mp ((hf _ (by simpa [AV.lt,Nat.blt,Nat.succ_le_iff] using l)).trans h)
 | .rel i p,v,l,h=>by rw[AV.rn] at h;cases h with|rel h hp=>exact .rel ((hf _ (by simpa [AV.lt,Nat.blt,Nat.succ_le_iff] using l)).trans h) hp
 | .any,v,_,_=>.any v
theorem RAs.rn_inv {f:Nat→Nat} {m:Nat} (hf:∀ j,j<m→ρ0 j=ρ (f j)):∀ (xs:List AV) {vs:List Value},AV.lts m xs=true→RAs w F ρ (AV.rns f xs) vs→RAs w F ρ0 xs vs
 |[],vs,_,h=>by rw[AV.rns] at h;cases h;exact .nil
 |x::r,vs,l,h=>by rw[AV.rns] at h;simp[AV.lts] at l;cases h with|cons h hr=>exact .cons (RA.rn_inv hf x l.1 h) (RAs.rn_inv hf r l.2 hr)
end
theorem ORep.rn {f:Nat→Nat} (hf:∀ j h,ρ0 j=some h→ρ (f j)=some h) {h:Value} {o:AObj} (hr:ORep w F ρ0 h o):ORep w F ρ h (o.rn f):=by
 cases o with
 |cells cs=>obtain⟨b,t,vs,e,hB,hra,h1⟩:=hr;exact⟨b,t,vs,e,hB,hra.rn hf,h1⟩
 |iter x p=>obtain⟨b,o,v,e,ho,hx,hp⟩:=hr;exact⟨b,o,v,e,ho,hx.rn hf,hp⟩
 |_=>exact hr
theorem ORep.rn_inv {f:Nat→Nat} {m:Nat} (hf:∀ j,j<m→ρ0 j=ρ (f j)) {h:Value} {o:AObj} (hl:AObj.lts m [o]=true) (hr:ORep w F ρ h (o.rn f)):ORep w F ρ0 h o:=by
 cases o with
 |cells cs=>obtain⟨b,t,vs,e,hB,hra,h1⟩:=hr;exact⟨b,t,vs,e,hB,hra.rn_inv hf _ (by simpa [AObj.lts] using hl),h1⟩
 |iter x p=>obtain⟨b,o,v,e,ho,hx,hp⟩:=hr;exact⟨b,o,v,e,ho,hx.rn_inv hf _ (by simpa [AObj.lts] using hl),hp⟩
 |_=>exact hr
def sub:List Nat→Nat→Nat→Nat
 |[],n,j=>n+j
 |a::_,_,0=>a
 |_::r,n,j+1=>sub r n j
theorem sub_lt:∀ {σ:List Nat} {n j:Nat} (h:j<σ.length),sub σ n j=σ[j]
 |[],_,_,h=>by simp at h
 |a::r,n,0,_=>rfl
 |a::r,n,j+1,h=>by simpa [sub] using sub_lt (σ:=r) (n:=n) (j:=j) (by simpa using h)
theorem sub_ge:∀ {σ:List Nat} {n j:Nat} (_:σ.length≤j),sub σ n j=n+(j-σ.length)
 |[],n,j,_=>by simp[sub]
 |a::r,n,0,h=>by simp at h
 |a::r,n,j+1,h=>by simp[sub];rw[sub_ge (σ:=r) (by simpa using h)]
def zipW:List Nat→List AObj→List (Nat × AObj)
 |a::r,o::s=>(a,o)::zipW r s
 |_,_=>[]
theorem appW_out:∀ {ws:List (Nat × AObj)} {H:Hp} {k:Nat},(∀ x∈ws,x.1≠k)→appW ws H k=H k
 |[],H,k,_=>rfl
 |(i,o)::r,H,k,h=>by
  rw[appW,appW_out (fun x hx=>h x (List.mem_cons_of_mem _ hx)),updF_ne _ _ (fun e=>h (i,o) (List.mem_cons_self ..) e.symm)]
theorem appN_out:∀ {l:List AObj} {n:Nat} {H:Hp} {k:Nat},(k<n∨n+l.length≤k)→appN n l H k=H k
 |[],n,H,k,_=>rfl
 |o::r,n,H,k,h=>by
  simp at h
  rw[appN,appN_out (by omega),updF_ne _ _ (by omega)]
theorem appN_in:∀ {l:List AObj} {n:Nat} {H:Hp} {k:Nat},k<l.length→appN n l H (n+k)=l[k]?
 |[],n,H,k,h=>by simp at h
 |o::r,n,H,0,_=>by rw[Nat.add_zero,appN,appN_out (by omega),updF_same];rfl
 |o::r,n,H,k+1,h=>by
  rw[appN,show n+(k+1)=(n+1)+k by omega,appN_in (l:=r) (by simpa using h)];simp
theorem zipW_mem:∀ {σ:List Nat} {os:List AObj} {x:Nat × AObj},x∈zipW σ os→x.1∈σ
 |[],_,x,h=>by simp[zipW] at h
 |_::_,[],x,h=>by simp[zipW] at h
 |a::r,o::s,x,h=>by
  simp[zipW] at h
  rcases h with rfl|h
  ·simp
  ·exact List.mem_cons_of_mem _ (zipW_mem h)
theorem appW_zip:∀ {σ:List Nat} {os:List AObj} {H:Hp} {j:Nat} (h:j<σ.length),σ.Nodup→os.length=σ.length→appW (zipW σ os) H σ[j]=os[j]?
 |[],_,_,_,h,_,_=>by simp at h
 |a::r,[],_,_,_,_,h=>by simp at h
 |a::r,o::s,H,0,_,hd,_=>by
  rw[zipW,appW,appW_out (fun x hx e=>(List.nodup_cons.1 hd).1 (by have:=zipW_mem hx;rw[e] at this;simpa using this))]
  simp[updF_same]
 |a::r,o::s,H,j+1,h,hd,hl=>by
  rw[zipW,appW]
  simp only[List.getElem_cons_succ,List.getElem?_cons_succ]
  exact appW_zip (by simpa using h) (List.nodup_cons.1 hd).2 (by simpa using hl)
def AObj.lives:List AObj→Bool
 |[]=>true
 |o::r=>o.live && AObj.lives r
theorem AObj.lives_get:∀ {l:List AObj},AObj.lives l=true→∀ {i:Nat} {o:AObj},l[i]?=some o→o.live=true
 |[],_,_,_,h=>by simp at h
 |x::r,hl,0,o,h=>by simp[AObj.lives] at hl h;subst h;exact hl.1
 |x::r,hl,i+1,o,h=>by simp[AObj.lives] at hl;exact AObj.lives_get hl.2 (i:=i) (by simpa using h)
theorem Sat.at_ {g:FuncId} {args:List AV} {H0 H0':List AObj} {r:AV} (h:Sat P g args H0 r H0') (σ:List Nat) (L:List AObj) (n:Nat)
  (hl:Nat.beq σ.length H0.length=true) (hd:σ.Nodup) (hle:Nat.ble H0.length H0'.length=true) (hlive:AObj.lives H0=true) (hids:(AV.lts σ.length args && AObj.lts σ.length H0)=true)
  (hL:∀ j (_:j<σ.length),L[σ[j]]?=(AObj.rns (sub σ n) H0)[j]?) :
  CallOK P g (AV.rns (sub σ n) args) L n ⟨σ,zipW σ (AObj.rns (sub σ n) (H0'.take σ.length)),AObj.rns (sub σ n) (H0'.drop σ.length)⟩ (r.rn (sub σ n)):=by
 have hl:=Nat.eq_of_beq_eq_true hl
 have hle:=Nat.le_of_ble_eq_true hle
 simp only[Bool.and_eq_true] at hids
 intro H F ρ w vals E hrs hn hv
 have hnl:(AObj.rns (sub σ n) (H0'.drop σ.length)).length=H0'.length-σ.length:=by rw[AObj.rns_length];simp
 simp only[hnl] at hn
 generalize hρ0:(fun j=>if j<σ.length then ρ (sub σ n j) else none:Nat→Option Value)=ρ0
 have hf:∀ j,j<σ.length→ρ0 j=ρ (sub σ n j):=fun j hj=>by rw[←hρ0];simp[hj]
 have hH:∀ j o,H0[j]?=some o→∃ hj:j<σ.length,H σ[j]=some (o.rn (sub σ n)):=by
  intro j o ho
  have hj:j<σ.length:=by rw[hl];exact (List.getElem?_eq_some_iff.1 ho).1
  refine⟨hj,?_⟩
  rw[hrs σ[j] (List.getElem_mem _),hL j hj,AObj.rns_get,ho];rfl
 have hσn:∀ (j:Nat) (hj:j<σ.length) (k:Nat),k<H0'.length-σ.length→σ[j]≠n+k:=by
  intro j hj k hk e
  have h1:=hn k hk
  obtain⟨_,h2⟩:=hH j H0[j] (by rw[List.getElem?_eq_getElem (by omega)])
  rw[e,h1] at h2;cases h2
 have inj:∀ (i j:Nat) (hi:i<σ.length) (hj:j<σ.length),σ[i]=σ[j]→i=j:=fun i j hi hj e=>(List.getElem_inj hd).1 e
 have E0:Env F ρ0 (hp H0) w:=by
  refine⟨E.fb,fun j hj=>?_,fun j o hj hlv=>?_,fun i j o o' hh hh' b e1 e2 l1 l2 r1 r2 b1 b2=>?_⟩
  ·rw[←hρ0]
   have:H0.length≤j:=List.getElem?_eq_none_iff.1 hj
   simp;omega
  ·obtain⟨hjl,e⟩:=hH j o hj
   obtain⟨hh,q1,q2,q3⟩:=E.rep _ _ e (by rw[AObj.rn_live];exact hlv)
   exact⟨hh,by rw[hf j hjl,sub_lt hjl];exact q1,q2.rn_inv hf (AObj.lts_one hids.2 hj),q3⟩
  ·obtain⟨h1,q1⟩:=hH i o e1
   obtain⟨h2,q2⟩:=hH j o' e2
   rw[hf i h1,sub_lt h1] at r1
   rw[hf j h2,sub_lt h2] at r2
   exact inj i j h1 h2 (E.inj _ _ _ _ hh hh' b q1 q2 (by rw[AObj.rn_live];exact l1) (by rw[AObj.rn_live];exact l2) r1 r2 b1 b2)
 have hlv0:∀ b,Lv ρ0 (hp H0) b→∃ (j:Nat) (hj:j<σ.length) (o:AObj) (hh:Value),H σ[j]=some o∧o.live=true∧ρ σ[j]=some hh∧blkOf hh=some b:=by
  rintro b ⟨j,o,hh,e1,e2,e3,e4⟩
  obtain⟨h1,q1⟩:=hH j o e1
  rw[hf j h1,sub_lt h1] at e3
  exact⟨j,h1,_,hh,q1,by rw[AObj.rn_live];exact e2,e3,e4⟩
 have hlv1:∀ b,Lv ρ0 (hp H0) b→Lv ρ H b:=fun b hb=>by
  obtain⟨j,hj,o,hh,q1,q2,q3,q4⟩:=hlv0 b hb
  exact⟨_,o,hh,q1,q2,q3,q4⟩
 refine (h F ρ0 w vals E0 (hv.rn_inv hf _ hids.1)).mono ?_
 rintro en w' ⟨v,rfl,F',ρ1,S1,K1,E1,R1⟩
 refine⟨v,rfl,F',fun k=>if n≤k∧k<n+(H0'.length-σ.length) then ρ1 (σ.length+(k-n)) else ρ k,?_⟩
 generalize hρ':(fun k=>if n≤k∧k<n+(H0'.length-σ.length) then ρ1 (σ.length+(k-n)) else ρ k:Nat→Option Value)=ρ'
 generalize hH':appN n (AObj.rns (sub σ n) (H0'.drop σ.length)) (appW (zipW σ (AObj.rns (sub σ n) (H0'.take σ.length))) H)=H'

 have vNew:∀ k,k<H0'.length-σ.length→H' (n+k)=(H0'[σ.length+k]?).map (AObj.rn (sub σ n)):=by
  intro k hk
  rw[←hH',appN_in (by rw[hnl];exact hk),AObj.rns_get,List.getElem?_drop]
 have vOld:∀ (j:Nat) (hj:j<σ.length),H' σ[j]=(H0'[j]?).map (AObj.rn (sub σ n)):=by
  intro j hj
  rw[←hH',appN_out (by
   rw[hnl]
   rcases Nat.lt_or_ge σ[j] n with q|q
   ·exact .inl q
   ·rcases Nat.lt_or_ge σ[j] (n+(H0'.length-σ.length)) with q2|q2
    ·exact absurd (show σ[j]=n+(σ[j]-n) by omega) (hσn j hj _ (by omega))
    ·exact .inr q2),appW_zip hj hd (by rw[AObj.rns_length];simp;omega),AObj.rns_get,List.getElem?_take_of_lt hj]
 have vFar:∀ k,¬(n≤k∧k<n+(H0'.length-σ.length))→k∉σ→H' k=H k:=by
  intro k h1 h2
  rw[←hH',appN_out (by rw[hnl];omega),appW_out (fun x hx e=>h2 (by rw[←e];exact zipW_mem hx))]
 have rNew:∀ k,k<H0'.length-σ.length→ρ' (n+k)=ρ1 (σ.length+k):=by
  intro k hk
  rw[←hρ']
  simp only
  rw[if_pos ⟨by omega,by omega⟩,Nat.add_sub_cancel_left]
 have rFar:∀ k,¬(n≤k∧k<n+(H0'.length-σ.length))→ρ' k=ρ k:=by
  intro k h1
  rw[←hρ']
  simp only
  rw[if_neg h1]
 have rOld:∀ (j:Nat) (hj:j<σ.length),ρ' σ[j]=ρ1 j:=by
  intro j hj
  have hc:¬(n≤σ[j]∧σ[j]<n+(H0'.length-σ.length)):=fun q=>hσn j hj (σ[j]-n) (by omega) (by omega)
  rw[rFar _ hc]
  obtain⟨_,q⟩:=hH j H0[j] (by rw[List.getElem?_eq_getElem (by omega)])
  obtain⟨hh,q1,_,_⟩:=E.rep _ _ q (by rw[AObj.rn_live];exact AObj.lives_get hlive (i:=j) (by rw[List.getElem?_eq_getElem (by omega)]))
  rw[q1]
  exact (K1 j hh (by rw[hf j hj,sub_lt hj];exact q1)).symm
 have hf':∀ j hh,ρ1 j=some hh→ρ' (sub σ n j)=some hh:=by
  intro j hh q
  rcases Nat.lt_or_ge j σ.length with hj|hj
  ·rw[sub_lt hj,rOld j hj];exact q
  ·have hlt:j<H0'.length:=by
    rcases Nat.lt_or_ge j H0'.length with q2|q2
    ·exact q2
    ·rw[E1.abs j (List.getElem?_eq_none_iff.2 q2)] at q;cases q
   rw[sub_ge hj,rNew _ (by omega),show σ.length+(j-σ.length)=j by omega];exact q

 have parts:∀ k o,H' k=some o→(∃ j o0,H0'[j]?=some o0∧o=o0.rn (sub σ n)∧k=sub σ n j∧ρ' k=ρ1 j)∨(¬(n≤k∧k<n+(H0'.length-σ.length))∧k∉σ∧H k=some o∧ρ' k=ρ k):=by
  intro k o hk
  by_cases h1:n≤k∧k<n+(H0'.length-σ.length)
  ·left
   have e:k=n+(k-n):=by omega
   rw[e,vNew (k-n) (by omega)] at hk
   obtain⟨o0,q1,q2⟩:=Option.map_eq_some_iff.1 hk
   exact⟨_,o0,q1,q2.symm,by rw[sub_ge (by omega)];omega,by rw[e,rNew _ (by omega),Nat.add_sub_cancel_left]⟩
  ·by_cases h2:k∈σ
   ·left
    obtain⟨j,hj,rfl⟩:=List.getElem_of_mem h2
    rw[vOld j hj] at hk
    obtain⟨o0,q1,q2⟩:=Option.map_eq_some_iff.1 hk
    exact⟨j,o0,q1,q2.symm,(sub_lt hj).symm,rOld j hj⟩
   ·exact .inr ⟨h1,h2,by rw[←vFar k h1 h2];exact hk,rFar k h1⟩
 have hlv2:∀ b,Lv ρ' H' b→w.heap.size≤b∨Lv ρ H b:=by
  rintro b ⟨k,o,hh,e1,e2,e3,e4⟩
  rcases parts k o e1 with⟨j,o0,q1,rfl,q3,q4⟩|⟨_,_,q3,q4⟩
  ·rw[AObj.rn_live] at e2
   rw[q4] at e3
   exact (S1.lsrc b ⟨j,o0,hh,q1,e2,e3,e4⟩).elim .inl fun q=>.inr (hlv1 b q)
  ·rw[q4] at e3
   exact .inr ⟨k,o,hh,q3,e2,e3,e4⟩
 have Kp:Keep ρ ρ':=by
  intro k hh hk
  by_cases h1:n≤k∧k<n+(H0'.length-σ.length)
  ·have:=E.abs k (by have:=hn (k-n) (by omega);rwa [show n+(k-n)=k by omega] at this)
   rw[this] at hk;cases hk
  ·rw[rFar k h1];exact hk
 have own:∀ k o hh b,¬(k∈σ)→H k=some o→o.live=true→ρ k=some hh→blkOf hh=some b→b<w.heap.size∧¬F b∧¬Lv ρ0 (hp H0) b:=by
  intro k o hh b h1 h2 h3 h4 h5
  obtain⟨h0,q1,q2,q3⟩:=E.rep k o h2 h3
  rw[h4] at q1;injection q1 with q1;subst q1
  refine⟨(q3 b h5).1,(q3 b h5).2,fun q=>?_⟩
  obtain⟨j,hj,o2,h6,g1,g2,g3,g4⟩:=hlv0 b q
  exact h1 (E.inj k σ[j] o o2 hh h6 b h2 g1 h3 g2 h4 g3 h5 g4 ▸ List.getElem_mem _)
 refine⟨⟨S1.os,S1.tape,S1.output,S1.size,fun b hb hnl=>S1.unch b hb fun q=>hnl (hlv1 b q),S1.fsub,fun b hb=>(S1.fsrc b hb).elim .inl fun q=>.inr (q.elim .inl fun q=>.inr (hlv1 b q)),hlv2⟩,Kp,⟨E1.fb,fun k hk=>?_,fun k o hk hlv=>?_,fun i j o o' hi hj b e1 e2 l1 l2 r1 r2 b1 b2=>?_⟩,R1.rn hf'⟩
 ·by_cases h1:n≤k∧k<n+(H0'.length-σ.length)
  ·have e:k=n+(k-n):=by omega
   rw[e,vNew (k-n) (by omega)] at hk
   simp at hk
   omega
  ·by_cases h2:k∈σ
   ·obtain⟨j,hj,rfl⟩:=List.getElem_of_mem h2
    rw[vOld j hj] at hk
    simp at hk
    omega
   ·rw[rFar k h1];exact E.abs k (by rw[←vFar k h1 h2];exact hk)
 ·rcases parts k o hk with⟨j,o0,q1,rfl,q3,q4⟩|⟨_,q2,q3,q4⟩
  ·rw[AObj.rn_live] at hlv
   obtain⟨hh,g1,g2,g3⟩:=E1.rep j o0 q1 hlv
   exact⟨hh,by rw[q4];exact g1,g2.rn hf',g3⟩
  ·obtain⟨hh,g1,g2,g3⟩:=E.rep k o q3 hlv
   have hown:∀ b,blkOf hh=some b→b<w.heap.size∧¬F b∧¬Lv ρ0 (hp H0) b:=fun b hb=>own k o hh b q2 q3 hlv g1 hb
   refine⟨hh,by rw[q4];exact g1,g2.mono S1.size (fun b hb hlt=>S1.unch b hlt (hown b hb).2.2) (S1.keepF E0) S1.fsub Kp,fun b hb=>⟨Nat.lt_of_lt_of_le (hown b hb).1 S1.size,fun q=>?_⟩⟩
   rcases S1.fsrc b q with q|q|q
   ·exact (hown b hb).2.1 q
   ·have:=(hown b hb).1;omega
   ·exact (hown b hb).2.2 q
 ·have mix:∀ (i j:Nat) (o o':AObj) (hi hj:Value) (b:Nat),(∃ j0 o0,H0'[j0]?=some o0∧o=o0.rn (sub σ n)∧i=sub σ n j0∧ρ' i=ρ1 j0)→(j∉σ∧H j=some o'∧ρ' j=ρ j)→o.live=true→o'.live=true→ρ' i=some hi→ρ' j=some hj→blkOf hi=some b→blkOf hj=some b→False:=by
   rintro i j o o' hi hj b ⟨j0,o0,q1,rfl,q3,q4⟩ ⟨p1,p2,p3⟩ l1 l2 r1 r2 b1 b2
   rw[p3] at r2
   rw[q4] at r1
   rw[AObj.rn_live] at l1
   obtain⟨g1,g2,g3⟩:=own j o' hj b p1 p2 l2 r2 b2
   rcases S1.lsrc b ⟨j0,o0,hi,q1,l1,r1,b1⟩ with q|q
   ·omega
   ·exact g3 q
  rcases parts i o e1 with p|⟨p0,p1,p2,p3⟩<;>rcases parts j o' e2 with q|⟨q0,q1,q2,q3⟩
  ·obtain⟨j0,o0,g1,rfl,g3,g4⟩:=p
   obtain⟨j1,o1,k1,rfl,k3,k4⟩:=q
   rw[g4] at r1
   rw[k4] at r2
   rw[AObj.rn_live] at l1 l2
   rw[g3,k3,E1.inj j0 j1 o0 o1 hi hj b g1 k1 l1 l2 r1 r2 b1 b2]
  ·exact (mix i j o o' hi hj b p ⟨q1,q2,q3⟩ l1 l2 r1 r2 b1 b2).elim
  ·exact (mix j i o' o hj hi b q ⟨p1,p2,p3⟩ l2 l1 r2 r1 b2 b1).elim
  ·rw[p3] at r1
   rw[q3] at r2
   exact E.inj i j o o' hi hj b p2 q2 l1 l2 r1 r2 b1 b2
end
end Go.Proofs.YtfbfpnfgabamfaaGreat
namespace Go.Proofs.YtfbfpnfgabamfaaGreat
set_option linter.unusedSimpArgs false
set_option linter.unusedVariables false
open Go.RowKit
abbrev Tm:=List (Nat × AV)
def lk:Tm→Nat→AV
 |[],_=>.any
 |(s,x)::r,d=>match Nat.beq s d with|true=>x|false=>lk r d
def constAV (v:Value):AV:=
 match v with
 | .agg cs=>match cs.toList.all (·.oneCell') with
  |true=>.d (.agg (cs.toList.map .v))
  |false=>.any
 | .bool b=>.d (.v (.bool b))
 | .int k z=>.d (.v (.int k z))
 | .string s=>.d (.v (.string s))
 |v=>.d (.v v)
def evAV (tm:Tm):Operand→AV
 | .tmp t=>lk tm t
 | .const v=>constAV v
 | .global g=>.d (.v (.pointer (some ⟨g,0,none⟩)))
 | .func f=>.fn (.func f) [] []
def natK (n:Nat) (k:Nat→Prop):Prop:=
 match n with
 |0=>k 0|1=>k 1|2=>k 2|3=>k 3|4=>k 4|5=>k 5|6=>k 6|7=>k 7|8=>k 8|9=>k 9
 |10=>k 10|11=>k 11|12=>k 12|13=>k 13|14=>k 14|15=>k 15|16=>k 16|17=>k 17|18=>k 18|19=>k 19
 |20=>k 20|21=>k 21|22=>k 22|23=>k 23|24=>k 24|25=>k 25|26=>k 26|27=>k 27|28=>k 28|29=>k 29
 |30=>k 30|31=>k 31|32=>k 32|33=>k 33|34=>k 34|35=>k 35|36=>k 36|37=>k 37|38=>k 38|39=>k 39
 |40=>k 40|41=>k 41|42=>k 42|43=>k 43|44=>k 44|45=>k 45|46=>k 46|47=>k 47|48=>k 48|49=>k 49
 |50=>k 50|51=>k 51|52=>k 52|53=>k 53|54=>k 54|55=>k 55|56=>k 56|57=>k 57|58=>k 58|59=>k 59
 |m=>k m
theorem natK_iff {n:Nat} {k:Nat→Prop}:natK n k↔k n:=by
 unfold natK
 split<;>rfl
def lenNK {α:Type} (l:List α) (k:Nat→Prop):Prop:=natK l.length k
def evsK (ev:Operand→AV):List Operand→(List AV→Prop)→Prop
 |[],k=>k []
 |o::r,k=>fAV (ev o) fun x=>evsK ev r fun l=>k (x::l)
theorem evsK_out {ev:Operand→AV}:∀ {os:List Operand} {k:List AV→Prop},evsK ev os k→k (os.map ev)
 |[],_,h=>h
 |_::r,_,h=>evsK_out (os:=r) (fAV_iff.1 h)
def appK {α:Type}:List α→List α→(List α→Prop)→Prop
 |[],ys,k=>k ys
 |x::r,ys,k=>appK r ys fun l=>k (x::l)
theorem appK_out {α:Type} {ys:List α}:∀ {xs:List α} {k:List α→Prop},appK xs ys k→k (xs++ys)
 |[],_,h=>h
 |_::r,_,h=>appK_out (xs:=r) h
def fAVs:List AV→(List AV→Prop)→Prop
 |[],k=>k []
 |x::r,k=>fAV x fun y=>fAVs r fun l=>k (y::l)
theorem fAVs_iff:∀ {xs:List AV} {k:List AV→Prop},fAVs xs k→k xs
 |[],_,h=>h
 |_::r,_,h=>fAVs_iff (xs:=r) (fAV_iff.1 h)
def fRes (x:AV) (k:AV→Prop):Prop:=
 fAV x fun x=>match x with
 | .tup xs=>fAVs xs fun l=>k (.tup l)
 | .agg xs=>fAVs xs fun l=>k (.agg l)
 |x=>k x
theorem fRes_out {x:AV} {k:AV→Prop} (h:fRes x k):k x:=by
 have h:=fAV_iff.1 h
 split at h
 ·exact fAVs_iff h
 ·exact fAVs_iff h
 ·exact h
def fObj (o:AObj) (k:AObj→Prop):Prop:=
 fO o fun o=>match o with
 | .cells cs=>fAVs cs fun l=>k (.cells l)
 |o=>k o
theorem fObj_out {o:AObj} {k:AObj→Prop} (h:fObj o k):k o:=by
 have h:=fO_iff.1 h
 split at h
 ·exact fAVs_iff h
 ·exact h
def otherK (P:Program) (op:Op) (ty:TypeId) (ev:Operand→AV) (L:List AObj) (K:Eff→AV→Prop):Prop:=
 evsK ev op.operands.toList fun xs=>lenNK L fun n=>∃ e r,Does P op ty L n xs e r∧fRes r (K e)
section
variable {P:Program} {L:List AObj} {ty:TypeId}
theorem otherK_out {op:Op} {ev:Operand→AV} {K:Eff→AV→Prop} (h:otherK P op ty ev L K):∃ e r,K e r∧Does P op ty L L.length (op.operands.toList.map ev) e r:=by
 obtain⟨e,r,h1,h2⟩:=natK_iff.1 (evsK_out h)
 exact⟨e,r,fRes_out h2,h1⟩
end
section
variable {P:Program} {w w':World} {F F':Nat→Prop} {ρ ρ':Nat→Option Value} {H:Hp} {L:List AObj} {ty:TypeId} {n:Nat}
theorem ti_elem {t:TypeId} (hk:(tiOf P t).kind=.sli) (hp:0<(tiOf P t).esize) (he:(tiOf P (tiOf P t).elem).kind≠.non):∃ i z,P.underlying t=some (.slice (tiOf P t).elem)∧P.info? (tiOf P t).elem=some i∧i.zero=some z∧i.size=(tiOf P t).esize∧i.bytes=(tiOf P t).ebytes∧z.cells.size=(tiOf P t).esize∧(tiOf P (tiOf P t).elem).zero=z.cells.toList∧∀ v∈z.cells.toList,v.oneCell'=true:=by
 obtain⟨h1,h2,h3⟩:=ti_sli hk
 obtain⟨i,h4,h5⟩:=info_of_cells h2 hp
 obtain⟨i',d,z,hT,he'⟩:=tiOf_known he
 have:i'=i:=by have:=hT.info;rw[h4] at this;injection this with e;exact e.symm
 subst this
 refine⟨i',z,h1,h4,hT.zero,h5,?_,by rw[hT.size,h5],by rw[he'];cases d<;>rfl,hT.ones⟩
 unfold Program.bytesOf at h3
 rw[h4] at h3
 simpa using h3
theorem blk_own {v:Value} {A:Option Addr} {m c:Nat} (h:v=.slice A m c):blkOf v=v.ownBlock:=by subst h;cases A<;>rfl
theorem run_append_zero {t e:TypeId} {i:TypeInfo} {lo size m' c:Nat} {A:Option Addr} {v:Value} {xs:List Value} {ee:TypeId} (ht:P.underlying t=some (.slice e)) (hi:P.info? e=some i) (hown:Ow w lo ee size v m' xs):(Builtin.append_ #[t,t] ty #[v,.slice A 0 c]).run P w=.ok v w:=by
 rcases hown.2 with⟨rfl,rfl⟩|⟨a,rfl,hlo,rfl⟩|⟨g,off,cap,rfl,hlo,hlt,hnc,_⟩
 ·cases A<;>simp[Builtin.append_,run_underlying ht,sizeOf,typeInfo,hi,Builtin.lenOf,Builtin.firstCells,loadCells,loadCellsFrom]
 ·cases A<;>simp[Builtin.append_,run_underlying ht,sizeOf,typeInfo,hi,Builtin.lenOf,Builtin.firstCells,storeCells,loadCells,loadCellsFrom]
 ·cases A<;>simp[Builtin.append_,run_underlying ht,sizeOf,typeInfo,hi,Builtin.lenOf,Builtin.firstCells,hnc,storeCells,loadCells,loadCellsFrom]
def SrcOf (L:List AObj) (y:AV) (s:Nat) (rows:List (List D)) (rs:List Nat):Prop:=
 (y=.d (.sl s rows)∧rs=[])∨(∃ j,y=.own j∧L[j]?=some (.sl s rows)∧rs=[j])∨(∃ A c,y=.d (.v (.slice A 0 c))∧rows=[]∧rs=[])
theorem SrcOf.rep {y:AV} {s:Nat} {rows:List (List D)} {rs:List Nat} {v:Value} (h:SrcOf L y s rows rs) (En:Env F ρ H w) (hL:∀ i∈rs,H i=L[i]?) (hv:RA w F ρ y v) :
  ∃ A c vs,v=.slice A rows.length c∧Rd w w.heap.size s A rows.length vs∧RDs w F rows.flatten vs∧(rows=[]∨∀ r∈rows,r.length=s):=by
 rcases h with⟨rfl,rfl⟩|⟨j,rfl,hj,rfl⟩|⟨A,c,rfl,rfl,rfl⟩
 ·cases hv with|d hv=>cases hv with|sl hn hs h1 h2 hr hm=>
   subst hn
   have hl:=hr.length
   have hfl:rows.flatten.length=rows.length*s:=by
    clear hr hm hl h1
    induction rows with
    |nil=>simp
    |cons r rows ih=>simp[hs r (List.mem_cons_self ..),ih fun q hq=>hs q (List.mem_cons_of_mem _ hq),Nat.add_mul];omega
   refine⟨_,_,_,rfl,⟨by rw[hl,hfl],fun hp=>?_⟩,hr,.inr hs⟩
   obtain⟨b,off,e,hb,hc⟩:=hm hp
   exact⟨b,off,e,En.fb b hb,hc⟩
 ·have hj':H j=some (.sl s rows):=by rw[hL j (by simp)];exact hj
  cases hv with|own hv=>
   obtain⟨hh,e1,⟨vs,how,hra,hs⟩,_⟩:=En.rep j _ hj' rfl
   rw[hv] at e1;injection e1 with e1;subst e1
   obtain⟨A',c',he,h1,h2,hrd⟩:=how.form
   injection he with q1 q2 q3
   subst q1 q2 q3
   exact⟨_,_,vs,rfl,hrd,hra,.inr hs⟩
 ·have:=hv.v_out
  subst this
  exact⟨A,c,[],rfl,Rd.nil,.nil,.inl rfl⟩
theorem does_append {t:TypeId} {i s:Nat} {rows rows2:List (List D)} {y:AV} {rs:List Nat} {sx xx:Operand} (hk:(tiOf P t).kind=.sli) (hs:(tiOf P t).esize=s) (hp:0<s) (he:(tiOf P (tiOf P t).elem).kind≠.non) (hi:L[i]?=some (.sl s rows)) (hy:SrcOf L y s rows2 rs)
  (hb:(rows.length+rows2.length)*(tiOf P t).ebytes≤140737488355328) (hm:rows.length+rows2.length≤maxLen) :
  Does P (.call { callee:=.builtin .append,args:=#[sx,xx],argTypes:=#[t,t] }) ty L n [.own i,y] ⟨i::rs,[(i,.dead)],[.sl s (rows++rows2)]⟩ (.own n):=by
 intro o H F ρ w ev ho ht En hrs hn hx
 have hops:(Op.operands (.call { callee:=.builtin .append,args:=#[sx,xx],argTypes:=#[t,t] })).toList=[sx,xx]:=by simp[Op.operands,Call.operands]
 rw[hops] at hx
 obtain⟨v,u,e',hv,hu⟩:=hx.two_out
 simp at e'
 have hn0:H n=none:=by simpa using hn 0 (by simp)
 have hi':H i=some (.sl s rows):=by rw[hrs i (by simp)];exact hi
 obtain⟨A2,c2,vs2,rfl,hrd2,hra2,hs2⟩:=hy.rep En (fun j hj=>hrs j (List.mem_cons_of_mem _ hj)) hu
 cases hv with|own hv=>
  rename_i A m c
  obtain⟨hh,e1,⟨vs,how,hra,hs1⟩,e3⟩:=En.rep i _ hi' rfl
  rw[hv] at e1;injection e1 with e1;subst e1
  obtain⟨i0,z,h1,h2,h3,h4,h5,h6,_,_⟩:=ti_elem hk (by omega) he
  rw[hs] at h4 h6
  have hcat:∀ r∈rows++rows2,r.length=s:=fun r hr=>(List.mem_append.1 hr).elim (hs1 r) fun hr=>hs2.elim (fun e=>by subst e;simp at hr) fun h=>h r hr
  obtain⟨v',w',hrun,ho',hg,hblk,_⟩:=run_append_ow (P:=P) w 0 t o.type _ i0 z s _ h1 h2 h3 h4 h5 h6 hp (.slice A m c) rows.length vs how w.heap.size A2 rows2.length c2 vs2 hrd2 hra2.one hm hb (Nat.zero_le _)
  have hrun':(execOp ev o).run P w=.ok (.value v') w':=by
   simp[execOp,ho,resolve,invoke,builtin,e'.1,e'.2,hrun]
  rw[hrun']
  obtain⟨A',c',hv',_⟩:=ho'.form
  have hmF:∀ b,F b→w'.heap[b]?=w.heap[b]?:=fun b hbF=>hg.block b (En.fb b hbF) fun e=>(e3 b (by rw[blk_own rfl];exact e.symm)).2 hbF
  have hin:∀ b,blkOf v'=some b→(w.heap.size≤b∧b<w'.heap.size)∨blkOf (.slice A m c)=some b:=by
   intro b hb'
   rw[blk_own hv'] at hb'
   rcases hblk with e|e
   ·right;rw[blk_own rfl,←e];exact hb'
   ·rw[e] at hb';injection hb' with hb'
    rcases Nat.eq_zero_or_pos rows2.length with q|q
    ·have hz:rows2=[]:=List.eq_nil_of_length_eq_zero q
     subst hz
     have hr0:=run_append_zero (P:=P) (w:=w) (ty:=o.type) (A:=A2) (c:=c2) h1 h2 how
     simp only[List.length_nil] at hrun
     rw[hr0] at hrun
     injection hrun with q1 q2
     subst q1 q2
     right;rw[blk_own rfl,e,hb']
    ·obtain⟨g,off,cap,q1,_,q2,_⟩:=ho'.open_ (by omega)
     rw[q1] at e
     simp[Value.ownBlock] at e
     left;omega
  obtain⟨S1,K1,E1⟩:=En.swap (n:=n) (o':=.sl s (rows++rows2)) (h':=v') hi' rfl hv hn0 (by rw[blk_own rfl];exact hg) hin
   ⟨vs++vs2,by rw[List.length_append];exact ho',by rw[List.flatten_append];exact (hra.mono hmF fun _ h=>h).app (hra2.mono hmF fun _ h=>h),hcat⟩
  refine⟨F,_,S1,K1,E1,?_⟩
  subst hv'
  exact .own (updF_same _ _ _)
theorem does_append_nil {t:TypeId} {s:Nat} {rows2:List (List D)} {y:AV} {rs:List Nat} {sx xx:Operand} (hk:(tiOf P t).kind=.sli) (hs:(tiOf P t).esize=s) (hp:0<s) (he:(tiOf P (tiOf P t).elem).kind≠.non) (hy:SrcOf L y s rows2 rs)
  (hb:rows2.length*(tiOf P t).ebytes≤140737488355328) (hm:rows2.length≤maxLen) :
  Does P (.call { callee:=.builtin .append,args:=#[sx,xx],argTypes:=#[t,t] }) ty L n [.d (.v (.slice none 0 0)),y] ⟨rs,[],[.sl s rows2]⟩ (.own n):=by
 intro o H F ρ w ev ho ht En hrs hn hx
 have hops:(Op.operands (.call { callee:=.builtin .append,args:=#[sx,xx],argTypes:=#[t,t] })).toList=[sx,xx]:=by simp[Op.operands,Call.operands]
 rw[hops] at hx
 obtain⟨v,u,e',hv,hu⟩:=hx.two_out
 simp at e'
 have hn0:H n=none:=by simpa using hn 0 (by simp)
 obtain⟨A2,c2,vs2,rfl,hrd2,hra2,hs2⟩:=hy.rep En hrs hu
 have:=hv.v_out
 subst this
 obtain⟨i0,z,h1,h2,h3,h4,h5,h6,_,_⟩:=ti_elem hk (by omega) he
 rw[hs] at h4 h6
 obtain⟨v',w',hrun,ho',hg,hblk,_⟩:=run_append_ow (P:=P) w 0 t o.type _ i0 z s _ h1 h2 h3 h4 h5 h6 hp (.slice none 0 0) 0 [] (Ow.nil w 0 0 s) w.heap.size A2 rows2.length c2 vs2 hrd2 hra2.one (by omega) (by simpa using hb) (Nat.zero_le _)
 have hrun':(execOp ev o).run P w=.ok (.value v') w':=by
  simp[execOp,ho,resolve,invoke,builtin,e'.1,e'.2,hrun]
 rw[hrun']
 simp only[Nat.zero_add,List.nil_append] at ho'
 obtain⟨A',c',hv',_⟩:=ho'.form
 have hg:w.grownBy w' none:=hg
 have hmF:∀ b,F b→w'.heap[b]?=w.heap[b]?:=fun b hbF=>hg.block b (En.fb b hbF) (by simp)
 have hin:∀ b,blkOf v'=some b→w.heap.size≤b∧b<w'.heap.size:=by
  intro b hb'
  rw[blk_own hv'] at hb'
  rcases hblk with e|e
  ·rw[e] at hb';simp[Value.ownBlock] at hb'
  ·rw[e] at hb';injection hb' with hb'
   rcases Nat.eq_zero_or_pos rows2.length with q|q
   ·have hz:rows2=[]:=List.eq_nil_of_length_eq_zero q
    subst hz
    have hr0:=run_append_zero (P:=P) (w:=w) (ty:=o.type) (A:=A2) (c:=c2) h1 h2 (Ow.nil w 0 0 s)
    simp only[List.length_nil] at hrun
    rw[hr0] at hrun
    injection hrun with q1 q2
    subst q1
    simp[Value.ownBlock] at e
   ·obtain⟨g,off,cap,q1,_,q2,_⟩:=ho'.open_ q
    rw[q1] at e
    simp[Value.ownBlock] at e
    omega
 obtain⟨S1,K1,E1⟩:=En.new (n:=n) (o':=.sl s rows2) (h:=v') hn0 hg hin
  ⟨vs2,ho',hra2.mono hmF fun _ h=>h,fun r hr=>hs2.elim (fun e=>by subst e;simp at hr) fun h=>h r hr⟩
 refine⟨F,_,S1,K1,E1,?_⟩
 subst hv'
 exact .own (updF_same _ _ _)
theorem madeCells_rows (z:Value) (k:Nat) (hz:0<z.cells.size):(madeCells z.cells (k*z.cells.size)).toList=((List.replicate k z).flatMap fun v=>v.cells.toList):=by
 apply List.ext_getElem?
 intro j
 rw[Great.flat_get hz _ (fun v hv=>by rw[List.eq_of_mem_replicate hv])]
 unfold madeCells
 by_cases hj:j<k*z.cells.size
 ·have h1:j / z.cells.size<k:=(Nat.div_lt_iff_lt_mul hz).2 hj
  have h2:=Nat.mod_lt j hz
  rw[List.getElem?_replicate,if_pos h1]
  simp[hj,h2]
 ·have h1:¬j / z.cells.size<k:=fun h=>hj ((Nat.div_lt_iff_lt_mul hz).1 h)
  rw[List.getElem?_replicate,if_neg h1]
  simp;omega
theorem rep_rows {z:Value} {s:Nat} (h6:z.cells.size=s) (h8:∀ v∈z.cells.toList,v.oneCell'=true) (k:Nat):RDs w F (List.replicate k (z.cells.toList.map .v)).flatten ((List.replicate k z).flatMap fun v=>v.cells.toList)∧∀ r∈List.replicate k (z.cells.toList.map D.v),r.length=s:=by
 refine⟨?_,fun r hr=>by rw[List.eq_of_mem_replicate hr];simp[h6]⟩
 induction k with
 |zero=>exact .nil
 |succ k ih=>rw[List.replicate_succ,List.replicate_succ,List.flatten_cons,List.flatMap_cons];exact (dv_rep h8).app ih
theorem does_make {t:TypeId} {s c:Nat} {kd kd':IntKind} {a b:Operand} (hk:(tiOf P t).kind=.sli) (hs:(tiOf P t).esize=s) (hp:0<s) (he:(tiOf P (tiOf P t).elem).kind≠.non) (hb:(tiOf P t).ebytes*c≤281474976710656) (hm:c≤maxLen) :
  Does P (.makeSlice t a b) ty L n [.d (.v (.int kd c)),.d (.v (.int kd' c))] ⟨[],[],[.sl s (List.replicate c ((tiOf P (tiOf P t).elem).zero.map .v))]⟩ (.own n):=by
 intro o H F ρ w ev ho ht En hrs hn hx
 obtain⟨v,u,e',hv,hu⟩:=hx.two_out
 simp[Op.operands] at e'
 have:=hv.v_out
 have:=hu.v_out
 subst v u
 have hn0:H n=none:=by simpa using hn 0 (by simp)
 obtain⟨i0,z,h1,h2,h3,h4,h5,h6,h7,h8⟩:=ti_elem hk (by omega) he
 rw[hs] at h4 h6
 obtain⟨w',hrun,hown,hg⟩:=run_make_full (P:=P) w 0 t _ i0 z s h1 h2 h3 h4 kd kd' c (by rw[h5];exact hb) hm (Nat.zero_le _)
 have hrun':(execOp ev o).run P w=.ok (.value (.slice (some ⟨w.heap.size,0,none⟩) c c)) w':=by simp[execOp,ho,e'.1,e'.2,hrun]
 rw[hrun']
 have hlt:w.heap.size<w'.heap.size:=(hown.lt _ rfl).2
 have hrr:=rep_rows (w:=w') (F:=F) h6 h8 c
 obtain⟨S1,K1,E1⟩:=En.new (n:=n) (o':=.sl s (List.replicate c ((tiOf P (tiOf P t).elem).zero.map .v))) (h:=.slice (some ⟨w.heap.size,0,none⟩) c c) hn0 hg (fun b hb=>by simp[blkOf] at hb;subst hb;exact⟨Nat.le_refl _,hlt⟩)
  ⟨_,by
   rw[List.length_replicate]
   have:=Ow.of_own (e:=(tiOf P t).elem) hown
   exact this,by
   rw[h7,←h6,madeCells_rows z c (by omega)];exact hrr.1,by rw[h7];exact hrr.2⟩
 exact⟨F,_,S1,K1,E1,.own (updF_same _ _ _)⟩
theorem run_piece {t:TypeId} {s:Nat} (hk:(tiOf P t).kind=.sli) (hs:(tiOf P t).esize=s) (hp:0<s) {A:Option Addr} {m c lo hi:Nat} {kl kh:IntKind} (vlo vhi:Option Value) (hlo:(vlo=none∧lo=0)∨vlo=some (.int kl lo)) (hhi:(vhi=none∧hi=m)∨vhi=some (.int kh hi)) (h1:lo≤hi) (h2:hi≤m) (h3:m≤c) :
  (Instr.slice t (.slice A m c) vlo vhi none).run P w=.ok (.slice (if c=lo then A else A.map (·.add (lo*s))) (hi-lo) (c-lo)) w:=by
 obtain⟨g1,g2,_⟩:=ti_sli hk
 rw[hs] at g2
 obtain⟨i,g3,g4⟩:=info_of_cells g2 hp
 have a1:((lo:Int)≤(hi:Int)):=by omega
 have a2:((hi:Int)≤(c:Int)):=by omega
 rcases hlo with⟨rfl,rfl⟩|rfl<;>rcases hhi with⟨rfl,rfl⟩|rfl
 ·simp[Instr.slice,run_underlying g1,Instr.sliceBounds,sizeOf,typeInfo,g3,g4]
 ·simp[Instr.slice,run_underlying g1,Instr.sliceBounds,Instr.sliceBound,asIntOf,sizeOf,typeInfo,g3,g4,show hi≤c by omega]
 ·simp[Instr.slice,run_underlying g1,Instr.sliceBounds,Instr.sliceBound,asIntOf,sizeOf,typeInfo,g3,g4,h1]
 ·simp[Instr.slice,run_underlying g1,Instr.sliceBounds,Instr.sliceBound,asIntOf,sizeOf,typeInfo,g3,g4,h1,show hi≤c by omega]
theorem flat_len {s:Nat}:∀ {rows:List (List D)},(∀ r∈rows,r.length=s)→rows.flatten.length=rows.length*s
 |[],_=>by simp
 |r::rows,h=>by
  rw[List.flatten_cons,List.length_append,h r (List.mem_cons_self ..),flat_len fun q hq=>h q (List.mem_cons_of_mem _ hq),List.length_cons,Nat.add_mul];omega
theorem flat_drop {s:Nat}:∀ {rows:List (List D)} {k:Nat},(∀ r∈rows,r.length=s)→(rows.drop k).flatten=rows.flatten.drop (k*s)
 |[],k,_=>by simp
 |r::rows,0,_=>by simp
 |r::rows,k+1,h=>by
  have h1:=h r (List.mem_cons_self ..)
  rw[List.drop_succ_cons,flat_drop fun q hq=>h q (List.mem_cons_of_mem _ hq),List.flatten_cons,List.drop_append,Nat.add_mul,Nat.one_mul,h1,Nat.add_sub_cancel,List.drop_of_length_le (l:=r) (by omega)];rfl
theorem flat_take {s:Nat}:∀ {rows:List (List D)} {k:Nat},(∀ r∈rows,r.length=s)→(rows.take k).flatten=rows.flatten.take (k*s)
 |[],k,_=>by simp
 |r::rows,0,_=>by simp
 |r::rows,k+1,h=>by
  have h1:=h r (List.mem_cons_self ..)
  rw[List.take_succ_cons,List.flatten_cons,List.flatten_cons,flat_take fun q hq=>h q (List.mem_cons_of_mem _ hq),List.take_append,Nat.add_mul,Nat.one_mul,h1,Nat.add_sub_cancel,List.take_of_length_le (l:=r) (by omega)]
theorem RD.piece {s:Nat} {rows:List (List D)} {A:Option Addr} {m c lo hi:Nat} (h:RD w F (.sl s rows) (.slice A m c)) (h1:lo≤hi) (h2:hi≤rows.length):m=rows.length∧m≤c∧RD w F (.sl s ((rows.take hi).drop lo)) (.slice (if c=lo then A else A.map (·.add (lo*s))) (hi-lo) (c-lo)):=by
 cases h with|sl hn hs g1 g2 hr hm=>
  subst hn
  have hs':∀ r∈(rows.take hi).drop lo,r.length=s:=fun r hr=>hs r (List.mem_of_mem_take (List.mem_of_mem_drop hr))
  refine⟨rfl,g1,.sl (by simp;omega) hs' (by omega) (by omega) (by rw[flat_drop fun r hr=>hs r (List.mem_of_mem_take hr),flat_take hs];exact (hr.take (hi*s)).drop (lo*s)) fun hp=>?_⟩
  obtain⟨b,off,rfl,hb,hc⟩:=hm (by omega)
  rw[if_neg (by omega)]
  refine⟨b,off+lo*s,by simp[Addr.add_lit],hb,fun j hj=>?_⟩
  rw[Nat.add_assoc]
  simp only[List.length_drop,List.length_take] at hj
  rw[hc _ (by omega)]
  simp
theorem does_piece {t:TypeId} {s:Nat} {rows:List (List D)} {lo hi:Nat} {kl kh:IntKind} {x a b:Operand} (hk:(tiOf P t).kind=.sli) (hs:(tiOf P t).esize=s) (hp:0<s) (h1:lo≤hi) (h2:hi≤rows.length) :
  Does P (.slice t x (some a) (some b) none) ty L n [.d (.sl s rows),.d (.v (.int kl lo)),.d (.v (.int kh hi))] e0 (.d (.sl s ((rows.take hi).drop lo))):=does_val fun o w F ρ ev ho _ hx=>by
 obtain⟨v,u1,u2,e',hv,hu1,hu2⟩:=hx.three_out
 simp[Op.operands] at e'
 have:=hu1.v_out
 have:=hu2.v_out
 subst u1 u2
 cases hv with|d hv=>
  have hv0:=hv
  cases hv with|sl hn hs' g1 g2 hr hm=>
   rename_i A m c cs
   obtain⟨q1,q2,q3⟩:=hv0.piece h1 h2
   refine⟨_,?_,.d q3⟩
   have hrun:=run_piece (P:=P) (w:=w) hk hs hp (A:=A) (m:=m) (c:=c) (lo:=lo) (hi:=hi) (kl:=kl) (kh:=kh) _ _ (.inr rfl) (.inr rfl) h1 (by omega) g1
   simp[execOp,ho,e'.1,e'.2.1,e'.2.2,hrun,Instr.sliceAt,run_underlying (ti_sli hk).1]
theorem does_from {t:TypeId} {s:Nat} {rows:List (List D)} {lo:Nat} {kl:IntKind} {x a:Operand} (hk:(tiOf P t).kind=.sli) (hs:(tiOf P t).esize=s) (hp:0<s) (h1:lo≤rows.length) :
  Does P (.slice t x (some a) none none) ty L n [.d (.sl s rows),.d (.v (.int kl lo))] e0 (.d (.sl s (rows.drop lo))):=does_val fun o w F ρ ev ho _ hx=>by
 obtain⟨v,u1,e',hv,hu1⟩:=hx.two_out
 simp[Op.operands] at e'
 have:=hu1.v_out
 subst u1
 cases hv with|d hv=>
  have hv0:=hv
  cases hv with|sl hn hs' g1 g2 hr hm=>
   rename_i A m c cs
   obtain⟨q1,q2,q3⟩:=hv0.piece h1 (Nat.le_refl _)
   rw[List.take_of_length_le (Nat.le_refl _)] at q3
   refine⟨_,?_,.d q3⟩
   have hrun:=run_piece (P:=P) (w:=w) hk hs hp (A:=A) (m:=m) (c:=c) (lo:=lo) (hi:=rows.length) (kl:=kl) (kh:=.i64) _ _ (.inr rfl) (.inl ⟨rfl,hn⟩) h1 (by omega) g1
   simp[execOp,ho,e'.1,e'.2,hrun,Instr.sliceAt,run_underlying (ti_sli hk).1]
theorem does_upto {t:TypeId} {s:Nat} {rows:List (List D)} {hi:Nat} {kh:IntKind} {x b:Operand} (hk:(tiOf P t).kind=.sli) (hs:(tiOf P t).esize=s) (hp:0<s) (h2:hi≤rows.length) :
  Does P (.slice t x none (some b) none) ty L n [.d (.sl s rows),.d (.v (.int kh hi))] e0 (.d (.sl s (rows.take hi))):=does_val fun o w F ρ ev ho _ hx=>by
 obtain⟨v,u1,e',hv,hu1⟩:=hx.two_out
 simp[Op.operands] at e'
 have:=hu1.v_out
 subst u1
 cases hv with|d hv=>
  have hv0:=hv
  cases hv with|sl hn hs' g1 g2 hr hm=>
   rename_i A m c cs
   obtain⟨q1,q2,q3⟩:=hv0.piece (Nat.zero_le hi) h2
   rw[List.drop_zero] at q3
   refine⟨_,?_,.d q3⟩
   have hrun:=run_piece (P:=P) (w:=w) hk hs hp (A:=A) (m:=m) (c:=c) (lo:=0) (hi:=hi) (kl:=.i64) (kh:=kh) _ _ (.inl ⟨rfl,rfl⟩) (.inr rfl) (Nat.zero_le _) (by omega) g1
   simp[execOp,ho,e'.1,e'.2,hrun,Instr.sliceAt,run_underlying (ti_sli hk).1]
theorem does_own_from {t:TypeId} {i s:Nat} {rows:List (List D)} {lo:Nat} {kl:IntKind} {x a:Operand} (hk:(tiOf P t).kind=.sli) (hs:(tiOf P t).esize=s) (hp:0<s) (hi':L[i]?=some (.sl s rows)) (h2:lo≤rows.length) :
  Does P (.slice t x (some a) none none) ty L n [.own i,.d (.v (.int kl lo))] ⟨[i],[(i,.dead)],[]⟩ (.d (.sl s (rows.drop lo))):=by
 intro o H F ρ w ev ho ht En hrs hn hx
 obtain⟨v,u1,e',hv,hu1⟩:=hx.two_out
 simp[Op.operands] at e'
 have:=hu1.v_out
 subst u1
 have hi0:H i=some (.sl s rows):=by rw[hrs i (by simp)];exact hi'
 cases hv with|own hv=>
  rename_i A m c
  obtain⟨hh,e1,⟨vs,how,hra,hs1⟩,e3⟩:=En.rep i _ hi0 rfl
  rw[hv] at e1;injection e1 with e1;subst e1
  obtain⟨A',c',he,g1,g2,hrd⟩:=how.form
  injection he with q1 q2 q3
  subst q1 q2 q3
  have hrun:=run_piece (P:=P) (w:=w) hk hs hp (A:=A) (m:=rows.length) (c:=c) (lo:=lo) (hi:=rows.length) (kl:=kl) (kh:=.i64) _ _ (.inr rfl) (.inl ⟨rfl,rfl⟩) h2 (Nat.le_refl _) g1
  have hrun':(execOp ev o).run P w=.ok (.value (.slice (if c=lo then A else A.map (·.add (lo*s))) (rows.length-lo) (c-lo))) w:=by
   simp[execOp,ho,e'.1,e'.2,hrun,Instr.sliceAt,run_underlying (ti_sli hk).1]
  rw[hrun']
  obtain⟨S1,E1⟩:=En.freeze hi0 rfl hv
  have hd:RD w (fun b=>F b∨blkOf (.slice A rows.length c)=some b) (.sl s rows) (.slice A rows.length c):=.sl rfl hs1 g1 g2 (hra.mono (fun _ _=>rfl) fun _ h=>.inl h) fun hp'=>by
   obtain⟨b,off,rfl,hb,hc⟩:=hrd.2 hp'
   exact⟨b,off,rfl,.inr rfl,hc⟩
  obtain⟨_,_,q3⟩:=hd.piece h2 (Nat.le_refl _)
  rw[List.take_of_length_le (Nat.le_refl _)] at q3
  exact⟨_,ρ,S1,Keep.refl _,E1,.d q3⟩
end
end Go.Proofs.YtfbfpnfgabamfaaGreat
