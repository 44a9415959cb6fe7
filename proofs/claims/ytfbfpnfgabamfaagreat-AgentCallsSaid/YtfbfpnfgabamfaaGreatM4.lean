/- Parts VcN of the proof, put together. -/
import Derived.Test.YtfbfpnfgabamfaaGreatM3
namespace Go.Proofs.YtfbfpnfgabamfaaGreat
set_option linter.unusedSimpArgs false
set_option linter.unusedVariables false
open Go.RowKit
inductive Tr (P:Program) (N:Nat) (ol:List Oper):List Oper→Tm→List AObj→List Ent→Tm→List AObj→Prop
 |nil {tm:Tm} {L:List AObj}:Tr P N ol [] tm L [] tm L
 |go {o:Oper} {r:List Oper} {tm tm1 tm2:Tm} {L L1 L2:List AObj} {e:Eff} {x:AV} {es:List Ent} (hg:guardIs ol o tm true) (hD:Does P o.op o.type L L.length (o.op.operands.toList.map (evAV tm)) e x)
   (hL:hp L1=appN L.length e.news (appW e.ws (hp L))) (hle:L.length≤L1.length) (htm:∀ j,lk tm1 j=if o.dst=some j then x else lk tm j) (h:Tr P N ol r tm1 L1 es tm2 L2):Tr P N ol (o::r) tm L (⟨e,L.length,x⟩::es) tm2 L2
 |skip {o:Oper} {r:List Oper} {tm tm1 tm2:Tm} {L L2:List AObj} {es:List Ent} (hg:guardIs ol o tm false) (htm:∀ j,lk tm1 j=if o.dst=some j then skipAV else lk tm j) (h:Tr P N ol r tm1 L es tm2 L2):Tr P N ol (o::r) tm L (⟨e0,L.length,skipAV⟩::es) tm2 L2
theorem Tr.same {P:Program} {N:Nat} {ol l:List Oper} {tm tm0 tm':Tm} {L L':List AObj} {es:List Ent} (hs:SameTm tm tm0) (h:Tr P N ol l tm0 L es tm' L') (hl:l≠[]:=by simp):Tr P N ol l tm L es tm' L':=by
 cases h with
 |nil=>exact absurd rfl hl
 |go hg hD hL hle htm h=>
  refine .go ?_ ?_ hL hle (fun j=>by rw[htm j,hs j]) h
  ·rcases hg with h|⟨j,want,p,d,b,h1,h2,h3,h4,h5⟩
   ·exact .inl h
   ·exact .inr ⟨j,want,p,d,b,h1,h2,h3,by rw[←hs d];exact h4,h5⟩
  ·have:∀ x,evAV tm x=evAV tm0 x:=fun x=>by cases x<;>first|exact (hs _).symm|rfl
   rw[funext this];exact hD
 |skip hg htm h=>
  refine .skip ?_ (fun j=>by rw[htm j,hs j]) h
  rcases hg with h|⟨j,want,p,d,b,h1,h2,h3,h4,h5⟩
  ·exact .inl h
  ·exact .inr ⟨j,want,p,d,b,h1,h2,h3,by rw[←hs d];exact h4,h5⟩
section
variable {P:Program} {w w':World} {F F':Nat→Prop} {ρ ρ':Nat→Option Value} {L L':List AObj} {T:TypeId→TI} {E:Nat→Bool} {N:Nat} {tm tm':Tm} {a:Act} {ops:Array Oper}
theorem putK_out {dst:Option Tmp} {x:AV} {k:Tm→Prop} (hp:putK N dst x tm k):∃ tm',k tm'∧∀ j,lk tm' j=if dst=some j then x else lk tm j:=by
 unfold putK at hp
 split at hp
 ·exact⟨tm,hp,fun j=>by simp⟩
 ·split at hp
  ·exact⟨_,hp,fun j=>by rw[lk_cons];simp⟩
  ·exact hp.elim
theorem drawOps_out (hT:T=tiOf P) (hE:∀ g,E g=true→entersB P g=true) {ol:List Oper} {K:List Ent→Tm→List AObj→Prop}:∀ {l:List Oper} {tm:Tm} {L:List AObj} {f:List Ent→List Ent},drawOps P T E N ol l tm L f K →
  ∃ es tm' L',Tr P N ol l tm L es tm' L'∧K (f es) tm' L'∧L.length≤L'.length
 |[],tm,L,f,h=>⟨[],tm,L,.nil,h,Nat.le_refl _⟩
 |o::r,tm,L,f,h=>by
  have h:drawStep P T E N ol o (drawOps P T E N ol r) tm L f K:=h
  unfold drawStep at h
  obtain⟨tm0,hs,h⟩:=gvK_out h
  rcases h with⟨hg,h⟩|⟨hg,h⟩
  ·obtain⟨e,x,h1,h2⟩:=opK_out hT hE h
   obtain⟨L',h3,h4,h5⟩:=applyK_out (natK_iff.1 h1)
   obtain⟨tm',h6,h7⟩:=putK_out h3
   obtain⟨es,tm2,L2,h8,h9,h10⟩:=drawOps_out hT hE (l:=r) h6
   exact⟨_,_,_,.same hs (.go hg h2 h4 h5 h7 h8),h9,by omega⟩
  ·obtain⟨tm',h6,h7⟩:=putK_out (natK_iff.1 h)
   obtain⟨es,tm2,L2,h8,h9,h10⟩:=drawOps_out hT hE (l:=r) h6
   exact⟨_,_,_,.same hs (.skip hg h7 h8),h9,h10⟩
theorem Tr.at_ {ol:List Oper} {l:List Oper} {tm tm':Tm} {L L':List AObj} {es:List Ent} (h:Tr P N ol l tm L es tm' L'):∀ {i:Nat} {o:Oper},l[i]?=some o →
  ∃ tmi Li x,Tr P N ol (l.take i) tm L (es.take i) tmi Li∧es[i]?=some x∧x.n=Li.length∧((guardIs ol o tmi true∧Does P o.op o.type Li Li.length (o.op.operands.toList.map (evAV tmi)) x.e x.r)∨(guardIs ol o tmi false∧x.e=e0∧x.r=skipAV)):=by
 induction h with
 |nil=>intro i o h;simp at h
 |go hg hD hL hle htm h ih=>
  intro i o ho
  cases i with
  |zero=>simp at ho;subst ho;exact⟨_,_,_,.nil,rfl,rfl,.inl ⟨hg,hD⟩⟩
  |succ i=>
   obtain⟨tmi,Li,x,h1,h2,h3,h4⟩:=ih (by simpa using ho)
   exact⟨tmi,Li,x,by simpa using Tr.go hg hD hL hle htm h1,by simpa using h2,h3,h4⟩
 |skip hg htm h ih=>
  intro i o ho
  cases i with
  |zero=>simp at ho;subst ho;exact⟨_,_,_,.nil,rfl,rfl,.inr ⟨hg,rfl,rfl⟩⟩
  |succ i=>
   obtain⟨tmi,Li,x,h1,h2,h3,h4⟩:=ih (by simpa using ho)
   exact⟨tmi,Li,x,by simpa using Tr.skip hg htm h1,by simpa using h2,h3,h4⟩
theorem Tr.length {ol:List Oper} {l:List Oper} {tm tm':Tm} {L L':List AObj} {es:List Ent} (h:Tr P N ol l tm L es tm' L'):es.length=l.length:=by
 induction h with
 |nil=>rfl
 |go _ _ _ _ _ _ ih=>simp[ih]
 |skip _ _ _ ih=>simp[ih]
theorem Tr.heap {ol:List Oper} {l:List Oper} {tm tm':Tm} {L L':List AObj} {es:List Ent} (h:Tr P N ol l tm L es tm' L'):∀ (i:Nat),hp L'=hS es i (fun _=>true) (hp L):=by
 induction h with
 |nil=>intro i;rfl
 |go hg hD hL hle htm h ih=>intro i;rw[ih (i+1),hS,if_pos rfl,hL];rfl
 |skip hg htm h ih=>intro i;rw[ih (i+1),hS,if_pos rfl];rfl
theorem hS_take {k:Nat}:∀ (es:List Ent) (i j:Nat) (H:Hp),hS (es.take i) j (fun _=>true) H k=hS es j (fun m=>decide (m<j+i)) H k
 |[],i,j,H=>by simp[hS]
 |x::r,0,j,H=>by
  rw[List.take_zero]
  exact (hS_same (es:=x::r) (l:=fun m=>decide (m<j+0)) (l':=fun _=>false) rfl (fun m y _ _=>by simp)).trans (by
   have nul:∀ (es:List Ent) (i:Nat) (H:Hp),hS es i (fun _=>false) H=H:=by
    intro es
    induction es with
    |nil=>intro i H;rfl
    |cons z es ih=>intro i H;rw[hS,if_neg (by simp),ih]
   rw[nul];rfl) |>.symm
 |x::r,i+1,j,H=>by
  rw[List.take_succ_cons,hS,hS,if_pos rfl,if_pos (by simp),hS_take r i (j+1) _]
  refine hS_same rfl fun m y _ _=>?_
  simp;omega
def lookE:List Oper→List Ent→Nat→Option AV
 |o::os,x::es,k=>match o.dst with
  |some d=>if d=k then some x.r else lookE os es k
  |none=>lookE os es k
 |_,_,_=>none
theorem lookE_none:∀ (os:List Oper) (es:List Ent) (k:Nat),(∀ o∈os,o.dst≠some k)→lookE os es k=none
 |[],_,_,_=>rfl
 |_::_,[],_,_=>rfl
 |o::os,x::es,k,h=>by
  have h1:=h o (List.mem_cons_self ..)
  rw[lookE]
  cases hd:o.dst with
  |none=>exact lookE_none os es k fun p hp=>h p (List.mem_cons_of_mem _ hp)
  |some d=>
   simp only
   rw[if_neg (fun e=>h1 (by rw[hd,e]))]
   exact lookE_none os es k fun p hp=>h p (List.mem_cons_of_mem _ hp)
theorem Tr.slots {ol:List Oper} {l:List Oper} {tm tm':Tm} {L L':List AObj} {es:List Ent} (h:Tr P N ol l tm L es tm' L'):dstsOk l N=true→∀ k,lk tm' k=match lookE l es k with|some r=>r|none=>lk tm k:=by
 have one:∀ {o:Oper} {r:List Oper} {tm tm1:Tm} {tm2:Tm} {x:Ent} {es:List Ent},(∀ j,lk tm1 j=if o.dst=some j then x.r else lk tm j)→(dstsOk r N=true→∀ k,lk tm2 k=match lookE r es k with|some r=>r|none=>lk tm1 k)→dstsOk (o::r) N=true→∀ k,lk tm2 k=match lookE (o::r) (x::es) k with|some r=>r|none=>lk tm k:=by
  intro o r tm tm1 tm2 x es htm ih hd k
  simp only[dstsOk,Bool.and_eq_true] at hd
  rw[ih hd.2 k,lookE]
  cases hdst:o.dst with
  |none=>
   simp only
   have:=htm k
   rw[hdst] at this
   simp at this
   rw[this]
  |some d=>
   simp only
   have h1:=hd.1
   rw[hdst] at h1
   simp only[Bool.and_eq_true,List.all_eq_true] at h1
   by_cases e:d=k
   ·subst e
    rw[if_pos rfl,lookE_none r es d (fun p hp=>by simpa using h1.2 p hp)]
    simp only
    have:=htm d
    rw[hdst,if_pos rfl] at this
    exact this
   ·rw[if_neg e]
    have:=htm k
    rw[hdst,if_neg (fun c=>e (by injection c))] at this
    rw[this]
 induction h with
 |nil=>intro _ k;rfl
 |go hg hD hL hle htm h ih=>intro hd k;exact one (x:=⟨_,_,_⟩) htm ih hd k
 |skip hg htm h ih=>intro hd k;exact one (x:=⟨_,_,_⟩) htm ih hd k
theorem look_both:∀ (os:List Oper) (es:List Ent) (vs:List Value) (k:Nat),es.length=os.length→vs.length=os.length→(lookE os es k=none∧lookV os vs k=none)∨∃ (j:Nat) (o:Oper) (x:Ent) (v:Value),os[j]?=some o∧o.dst=some k∧es[j]?=some x∧vs[j]?=some v∧lookE os es k=some x.r∧lookV os vs k=some v
 |[],_,_,_,_,_=>.inl ⟨rfl,rfl⟩
 |_::_,[],_,_,h,_=>by simp at h
 |_::_,_::_,[],_,_,h=>by simp at h
 |o::os,x::es,v::vs,k,h1,h2=>by
  have ih:=look_both os es vs k (by simpa using h1) (by simpa using h2)
  have next:lookE (o::os) (x::es) k=lookE os es k→lookV (o::os) (v::vs) k=lookV os vs k→(lookE (o::os) (x::es) k=none∧lookV (o::os) (v::vs) k=none)∨∃ (j:Nat) (o_1:Oper) (x_1:Ent) (v_1:Value),(o::os)[j]?=some o_1∧o_1.dst=some k∧(x::es)[j]?=some x_1∧(v::vs)[j]?=some v_1∧lookE (o::os) (x::es) k=some x_1.r∧lookV (o::os) (v::vs) k=some v_1:=by
   intro e1 e2
   rw[e1,e2]
   rcases ih with h|⟨j,p,y,u,q1,q2,q3,q4,q5,q6⟩
   ·exact .inl h
   ·exact .inr ⟨j+1,p,y,u,by simpa using q1,q2,by simpa using q3,by simpa using q4,q5,q6⟩
  cases hd:o.dst with
  |none=>exact next (by rw[lookE,hd]) (by rw[lookV,hd])
  |some d=>
   by_cases e:d=k
   ·subst e
    exact .inr ⟨0,o,x,v,rfl,hd,rfl,rfl,by rw[lookE,hd];simp,by rw[lookV,hd];simp⟩
   ·exact next (by rw[lookE,hd];simp[e]) (by rw[lookV,hd];simp[e])
theorem flow_operand (hok:flowOk ops=true) {i j:Nat} {o p:Oper} {k:Nat} (hi:ops[i]?=some o) (hj:ops[j]?=some p) (hd:p.dst=some k) (hlt:j<i) (hx:Operand.tmp k∈o.op.operands.toList):∃ e∈o.after,e.on=j∧Region.binds .any e=true:=by
 have hil:=(Array.getElem?_eq_some_iff.1 hi).1
 have hjl:=(Array.getElem?_eq_some_iff.1 hj).1
 have h:=List.all_eq_true.1 hok i (List.mem_range.2 hil)
 simp only[hi,Bool.and_eq_true] at h
 have h2:=List.all_eq_true.1 h.2 j (List.mem_range.2 hjl)
 simp only[hj,hd,Bool.and_eq_true,Bool.or_eq_true,Bool.not_eq_true'] at h2
 rcases h2.2 with h3|h3
 ·have h4:=Array.any_eq_false'.1 h3 (.tmp k) (by simpa using hx)
  simp at h4
 ·rw[if_pos hlt] at h3
  obtain⟨e,he,hb⟩:=Array.any_eq_true'.1 h3
  simp only[Bool.and_eq_true,beq_iff_eq] at hb
  exact⟨e,he,hb.1,hb.2⟩
theorem flow_guard (hok:flowOk ops=true) {i g:Nat} {o:Oper} {b:Bool} (hi:ops[i]?=some o) (hg:o.guard=some (g,b)):g<i∧∃ e∈o.after,e.on=g∧Region.binds .any e=true:=by
 have hil:=(Array.getElem?_eq_some_iff.1 hi).1
 have h:=List.all_eq_true.1 hok i (List.mem_range.2 hil)
 simp only[hi,Bool.and_eq_true,hg] at h
 obtain⟨e,he,hb⟩:=Array.any_eq_true'.1 h.1.2
 simp only[Bool.and_eq_true,beq_iff_eq] at hb
 have h3:=Array.all_eq_true_iff_forall_mem.1 h.1.1.2 e he
 simp[hb.2,hb.1] at h3
 exact⟨h3,e,he,hb.1,hb.2⟩
theorem draw_out {ro:Option Nat} {nF:Nat} {id:Nat} {es:List Ent} {Q:Exit→Act→World→Prop} (hm:P.follows .mixedOrders=true) (hreg:(flowOk ops && dstsOk ops.toList N && guardsOk ops && noDefer ops.toList)=true) (hTr:Tr P N ops.toList ops.toList tm L es tm' L') (hord:orderB ops.toList es=true)
  (En:Env F ρ (hp L) w) (Sl:Slots w F ρ N tm a) (hQ:∀ a' w' F' ρ',Step F ρ (hp L) w F' ρ' (hp L') w'→Keep ρ ρ'→Env F' ρ' (hp L') w'→Slots w' F' ρ' N tm' a'→a'.defers=a.defers→Q .normal a' w'):(Code.region id ops true).wpIn (Fw ro) nF P Q a w:=by
 rw[Bool.and_eq_true] at hreg
 obtain⟨hreg,hnd⟩:=hreg
 have hreg':=hreg
 simp only[Bool.and_eq_true] at hreg'
 obtain⟨⟨hok,hds⟩,hgd⟩:=hreg'
 have hN:=Sl.2
 have hel:es.length=ops.size:=by rw[hTr.length];simp
 have masks:∀ i j,((ancMasks ops.toList []).getD j 0).testBit i=true→Anc ops i j:=ancMasks_bit (fun j o h=>by rw[List.length_nil,Nat.zero_add,←Array.getElem?_toList];exact h) fun i j h=>by simp at h
 have confl:∀ {i j:Nat} {x y:Ent},i<j→es[i]?=some x→es[j]?=some y→conflict x y=true→Anc ops i j:=fun {i j x y} hij hx hy hc=>by
  have:=pairsOk_get hord hij hx hy hc
  rw[Nat.zero_add,Nat.zero_add] at this
  exact masks _ _ this
 refine wpIn_mono (Q:=fun e a w=>match e with | .normal=>Q .normal a w|_=>False) (wpIn_region_any hm (wpAnyIn_ro hnd (fun⟨_,_,h⟩=>h) _ _ _ _ ?_)) (fun e a w h=>by cases e<;>first|exact h|exact h.elim)
 refine any_flow (Γ:={ vs:List Value // vs.length=ops.size } × (Nat→Option Value) × (Nat→Prop)) (by rw[hN];exact hreg) (fun γ=>γ.1.1)
  (fun l γ w'=>Step F ρ (hp L) w γ.2.2 γ.2.1 (hS es 0 l (hp L)) w'∧Keep ρ γ.2.1∧Env γ.2.2 γ.2.1 (hS es 0 l (hp L)) w'∧(∀ i x v,es[i]?=some x→γ.1.1[i]?=some v→l i=true→RA w' γ.2.2 γ.2.1 x.r v)∧∀ i,i<ops.size→l i=false→γ.1.1[i]?=some undef)
  (fun γ=>γ.1.2) ⟨⟨List.replicate ops.size undef,by simp⟩,ρ,F⟩ ?_ ?_ ?_
 ·have nul:∀ (es:List Ent) (i:Nat) (H:Hp),hS es i (fun _=>false) H=H:=by
   intro es
   induction es with
   |nil=>intro i H;rfl
   |cons z es ih=>intro i H;rw[hS,if_neg (by simp),ih]
  refine⟨?_,Keep.refl _,?_,(fun i x v _ _ h=>by cases h),fun i hi _=>by simp[hi]⟩
  ·rw[nul];exact Step.drew _ _ _ _
  ·rw[nul];exact En.drew
 ·
  have all:∀ (i:Nat) (o:Oper),ops.toList[i]?=some o→Owes P ops (fun γ:{ vs:List Value // vs.length=ops.size } × (Nat→Option Value) × (Nat→Prop)=>γ.1.1) a (fun l γ w'=>Step F ρ (hp L) w γ.2.2 γ.2.1 (hS es 0 l (hp L)) w'∧Keep ρ γ.2.1∧Env γ.2.2 γ.2.1 (hS es 0 l (hp L)) w'∧(∀ i x v,es[i]?=some x→γ.1.1[i]?=some v→l i=true→RA w' γ.2.2 γ.2.1 x.r v)∧∀ i,i<ops.size→l i=false→γ.1.1[i]?=some undef) i o:=by
   intro i o ho l γ w1 hG hli hdeps hcl
   obtain⟨⟨vs,hvl⟩,ρ1,F1⟩:=γ
   obtain⟨S1,K1,E1,R1,U1⟩:=hG
   simp only at S1 K1 E1 R1 U1 ⊢
   have hi:ops[i]?=some o:=by rw[←Array.getElem?_toList];exact ho
   have hil:=(Array.getElem?_eq_some_iff.1 hi).1
   obtain⟨tmi,Li,x,hTi,hx,hxn,hdo⟩:=hTr.at_ ho
   have hds':=dstsOk_take ops.toList N i hds
   have hslots:=hTi.slots hds'

   have hLi:∀ k,hp Li k=hS es 0 (fun m=>decide (m<i)) (hp L) k:=fun k=>by
    rw[hTi.heap 0,hS_take es i 0];simp
   have agree:∀ k,uses x k=true→hS es 0 l (hp L) k=hp Li k:=by
    intro k hk
    rw[hLi]
    refine hS_same rfl fun j y hy ht=>?_
    rw[Nat.zero_add]
    rcases Nat.lt_trichotomy j i with q|q|q
    ·rw[(confl q hy hx (conflict_of (.inl ⟨ht,hk⟩))).ready hcl hi hdeps]
     simp[q]
    ·subst q;rw[hli];simp
    ·have han:=confl q hx hy (conflict_of (.inr ⟨ht,hk⟩))
     have:l j=false:=by
      cases hlj:l j with
      |false=>rfl
      |true=>rw[han.listed hcl hlj] at hli;cases hli
     rw[this];simp;omega
   have after:hS es 0 (updL l i) (hp L)=Go.Proofs.YtfbfpnfgabamfaaGreat.app x (hS es 0 l (hp L)):=by
    funext k
    cases ht:touches x k with
    |false=>
     rw[app_not ht]
     refine hS_same rfl fun j y hy hty=>?_
     rw[Nat.zero_add]
     unfold updL
     rw[if_neg]
     intro e
     subst e
     rw[hx] at hy;injection hy with hy;subst hy
     rw[ht] at hty;cases hty
    |true=>
     refine hS_last hx ht (by simp[updL]) fun m y hm' hy hty=>?_
     rw[Nat.zero_add]
     have han:=confl hm' hx hy (conflict_of (.inl ⟨ht,by unfold uses;rw[hty];rfl⟩))
     unfold updL
     rw[if_neg (by omega)]
     cases hlm:l m with
     |false=>rfl
     |true=>rw[han.listed hcl hlm] at hli;cases hli

   have slot:∀ k,(∀ j p,j<i→ops[j]?=some p→p.dst=some k→l j=true)→RA w1 F1 ρ1 (lk tmi k) (valOf (ops.toList.take i) vs a (.tmp k)):=by
    intro k hk
    rw[hslots k]
    have hb:=look_both (ops.toList.take i) (es.take i) (vs.take i) k (by simp;omega) (by simp;omega)
    have hvt:∀ (os:List Oper) (vs:List Value) (n k:Nat),os.length≤n→lookV os (vs.take n) k=lookV os vs k:=by
     intro os
     induction os with
     |nil=>intro vs n k _;rfl
     |cons o os ih=>
      intro vs n k hn
      cases n with
      |zero=>simp at hn
      |succ n=>
       cases vs with
       |nil=>rfl
       |cons v vs=>
        rw[List.take_succ_cons,lookV,lookV,ih vs n k (by simpa using hn)]
    rw[hvt _ _ _ _ (by simp;omega)] at hb
    simp only[valOf]
    rcases hb with⟨h1,h2⟩|⟨j,p,y,u,h1,h2,h3,h4,h5,h6⟩
    ·rw[h1,h2]
     exact S1.ra En K1 (Sl.1 k)
    ·rw[h5,h6]
     have hji:j<i:=by
      have:=(List.getElem?_eq_some_iff.1 h1).1
      simp at this;omega
     rw[List.getElem?_take_of_lt hji] at h1 h3 h4
     refine R1 j y u h3 h4 (hk j p hji ?_ h2)
     rw[←Array.getElem?_toList];exact h1
   have oper:∀ y∈o.op.operands.toList,RA w1 F1 ρ1 (evAV tmi y) (valOf (ops.toList.take i) vs a y):=by
    intro y hy
    cases y with
    |tmp k=>
     refine slot k fun j p hj hp hd=>?_
     obtain⟨e,he,h1,h2⟩:=flow_operand hok hi hp hd hj hy
     subst h1
     exact hdeps e he h2
    |const v=>exact const_rep
    |global g=>exact .d (.v _)
    |func f=>exact .fn .nil .nil
   have want:∀ g,guardIs ops.toList o tmi g→wantedV ops.toList vs o=g:=by
    rintro g (⟨h1,rfl⟩|⟨j,want,p,d,b,h1,h2,h3,h4,rfl⟩)
    ·simp[wantedV,h1]
    ·obtain⟨hji,e,he,h5,h6⟩:=flow_guard hok hi h1
     have hlj:l j=true:=by rw[←h5];exact hdeps e he h6
     have hjl:j<es.length:=by omega
     have hvj:j<vs.length:=by omega
     have hR:=R1 j es[j] vs[j] (List.getElem?_eq_getElem hjl) (List.getElem?_eq_getElem hvj) hlj

     have hle:lookE (ops.toList.take i) (es.take i) d=some es[j].r:=by
      have hb:=look_both (ops.toList.take i) (es.take i) (vs.take i) d (by simp;omega) (by simp;omega)
      rcases hb with⟨g1,_⟩|⟨m,q,y,u,g1,g2,g3,g4,g5,g6⟩
      ·have hv:=lookV_at (ops.toList.take i) (vs.take i) N j p d hds' (by rw[List.getElem?_take_of_lt hji];exact h2) h3
       have hb2:=look_both (ops.toList.take i) (es.take i) (vs.take i) d (by simp;omega) (by simp;omega)
       rcases hb2 with⟨_,g2⟩|⟨_,_,_,_,_,_,_,_,g5,_⟩
       ·rw[g2,List.getElem?_take_of_lt hji,List.getElem?_eq_getElem hvj] at hv;cases hv
       ·rw[g1] at g5;cases g5
      ·have hmj:m=j:=by
        have hm1:m<i:=by have:=(List.getElem?_eq_some_iff.1 g1).1;simp at this;omega
        rw[List.getElem?_take_of_lt hm1] at g1
        have uniq:∀ (os:List Oper) (m j:Nat) (q p:Oper),dstsOk os N=true→os[m]?=some q→os[j]?=some p→q.dst=some d→p.dst=some d→m=j:=by
         intro os
         induction os with
         |nil=>intro m j q p _ h;simp at h
         |cons o os ih=>
          intro m j q p hd hm hj hq hp
          simp only[dstsOk,Bool.and_eq_true] at hd
          have far:∀ (m:Nat) (q:Oper),os[m]?=some q→q.dst=some d→o.dst=some d→False:=by
           intro m q hm hq ho
           have h1:=hd.1
           rw[ho] at h1
           simp only[Bool.and_eq_true,List.all_eq_true] at h1
           have:=h1.2 q (List.mem_of_getElem? hm)
           rw[hq] at this
           simp at this
          cases m with
          |zero=>
           cases j with
           |zero=>rfl
           |succ j=>
            simp at hm hj
            subst hm
            exact (far j p hj hp hq).elim
          |succ m=>
           cases j with
           |zero=>
            simp at hm hj
            subst hj
            exact (far m q hm hq hp).elim
           |succ j=>rw[ih m j q p hd.2 (by simpa using hm) (by simpa using hj) hq hp]
        exact uniq _ m j q p hds g1 h2 g2 h3
       subst hmj
       rw[List.getElem?_take_of_lt hji,List.getElem?_eq_getElem hjl] at g3
       injection g3 with g3
       rw[g5,g3]
     have h7:=hslots d
     rw[hle,h4] at h7
     simp only at h7
     rw[←h7] at hR
     have h8:=hR.v_out
     unfold wantedV
     rw[h1]
     simp only[List.getElem?_eq_getElem hvj,h8]
     cases b<;>first|rfl|(simp[boolOf];done)
   rcases hdo with⟨hg,hD⟩|⟨hg,hxe,hxr⟩
   ·have hwt:=want true hg
    have hr:=hD o (hS es 0 l (hp L)) F1 ρ1 w1 (valOf (ops.toList.take i) vs a) rfl rfl E1 (fun k hk=>by
      rw[agree k (by unfold uses;rw[Bool.or_eq_true];right;rw[List.any_eq_true];exact⟨k,hk,by simp⟩)];rfl)
     (fun k hk=>by
      rw[agree _ (by unfold uses touches;rw[hxn];simp[Nat.ble_eq,Nat.blt_eq];left;right;omega)]
      exact List.getElem?_eq_none (by omega))
     (by
      have:∀ (os:List Operand),(∀ y∈os,RA w1 F1 ρ1 (evAV tmi y) (valOf (ops.toList.take i) vs a y))→RAs w1 F1 ρ1 (os.map (evAV tmi)) (os.map (valOf (ops.toList.take i) vs a)):=by
       intro os
       induction os with
       |nil=>intro _;exact .nil
       |cons y os ih=>intro h;exact .cons (h y (List.mem_cons_self ..)) (ih fun z hz=>h z (List.mem_cons_of_mem _ hz))
      exact this _ oper)
    have post:∀ v w2,Post F1 ρ1 (hS es 0 l (hp L)) w1 (appN Li.length x.e.news (appW x.e.ws (hS es 0 l (hp L)))) x.r v w2 →
      ∃ γ':{ vs:List Value // vs.length=ops.size } × (Nat→Option Value) × (Nat→Prop),SameV (fun γ:{ vs:List Value // vs.length=ops.size } × (Nat→Option Value) × (Nat→Prop)=>γ.1.1) l (⟨⟨vs,hvl⟩,ρ1,F1⟩) γ'∧(o.dst=none∨γ'.1.1[i]?=some v) ∧
       (Step F ρ (hp L) w γ'.2.2 γ'.2.1 (hS es 0 (updL l i) (hp L)) w2∧Keep ρ γ'.2.1∧Env γ'.2.2 γ'.2.1 (hS es 0 (updL l i) (hp L)) w2∧(∀ j y u,es[j]?=some y→γ'.1.1[j]?=some u→updL l i j=true→RA w2 γ'.2.2 γ'.2.1 y.r u)∧∀ j,j<ops.size→updL l i j=false→γ'.1.1[j]?=some undef):=by
     rintro v w2 ⟨F2,ρ2,S2,K2,E2,R2⟩
     have hH:appN Li.length x.e.news (appW x.e.ws (hS es 0 l (hp L)))=hS es 0 (updL l i) (hp L):=by
      rw[after,←hxn];rfl
     rw[hH] at S2 E2
     refine⟨⟨⟨vs.set i v,by simp[hvl]⟩,ρ2,F2⟩,?_,.inr (List.getElem?_set_self (by omega)),S1.trans S2,K1.trans K2,E2,fun j y u hy hu hlj=>?_,fun j hj hlj=>?_⟩
     ·exact SameV.set v hli rfl
     ·by_cases e:j=i
      ·subst e
       rw[hx] at hy;injection hy with hy;subst hy
       simp only at hu
       rw[List.getElem?_set_self (by omega)] at hu
       injection hu with hu
       rw[←hu];exact R2
      ·have hlj':l j=true:=by unfold updL at hlj;rw[if_neg e] at hlj;exact hlj
       simp only at hu
       rw[List.getElem?_set_ne (Ne.symm e)] at hu
       exact S2.ra E1 K2 (R1 j y u hy hu hlj')
     ·have hne:j≠i:=fun e=>by subst e;simp[updL] at hlj
      have hlj':l j=false:=by unfold updL at hlj;rw[if_neg hne] at hlj;exact hlj
      simp only
      rw[List.getElem?_set_ne (Ne.symm hne)]
      exact U1 j hj hlj'
    unfold StepV
    simp only
    rw[if_pos hwt]
    unfold Runs at hr
    split at hr
    ·rename_i v w2 hrun
     obtain⟨γ',h1,h2,h3⟩:=post v w2 hr
     exact .inl ⟨v,w2,γ',hrun,h1,h2,h3⟩
    ·rename_i w2 hrun
     obtain⟨γ',h1,h2,h3⟩:=post undef w2 hr
     exact .inr (.inl ⟨w2,γ',hrun,h1,h2,h3⟩)
    ·rename_i f args w2 hrun
     refine .inr (.inr ⟨f,args,w2,hrun,hr.mono ?_⟩)
     rintro en w3 ⟨v,rfl,hp⟩
     obtain⟨γ',h1,h2,h3⟩:=post v w3 hp
     exact⟨v,γ',rfl,h1,h2,h3⟩
    ·exact hr.elim
   ·have hwt:=want false hg
    have hself:hS es 0 (updL l i) (hp L)=hS es 0 l (hp L):=by
     rw[after]
     unfold Go.Proofs.YtfbfpnfgabamfaaGreat.app
     rw[hxe];rfl
    unfold StepV
    simp only
    rw[if_neg (by rw[hwt];simp)]
    refine⟨.inr (U1 i hil hli),by rw[hself];exact S1,K1,by rw[hself];exact E1,fun j y u hy hu hlj=>?_,fun j hj hlj=>?_⟩
    ·by_cases e:j=i
     ·subst e
      rw[hx] at hy;injection hy with hy;subst hy
      have hu:vs[j]?=some u:=hu
      rw[U1 j hil hli] at hu
      injection hu with hu
      rw[hxr,←hu];exact .d (.v undef)
     ·exact R1 j y u hy hu (by unfold updL at hlj;rw[if_neg e] at hlj;exact hlj)
    ·have hne:j≠i:=fun e=>by subst e;simp[updL] at hlj
     exact U1 j hj (by unfold updL at hlj;rw[if_neg hne] at hlj;exact hlj)
  have stepsAll:∀ (os:List Oper) (n:Nat),(∀ (i:Nat) (o:Oper),os[i]?=some o→ops.toList[n+i]?=some o)→∀ p:Nat→Oper→Prop,(∀ (i:Nat) (o:Oper),ops.toList[i]?=some o→p i o)→StepsAll p n os:=by
   intro os
   induction os with
   |nil=>intro n _ p _;trivial
   |cons o os ih=>intro n h p hp;exact⟨hp n o (by simpa using h 0 o rfl),ih (n+1) (fun i q hq=>by have:=h (i+1) q (by simpa using hq);rwa [show n+(i+1)=n+1+i by omega] at this) p hp⟩
  exact stepsAll ops.toList 0 (fun i o h=>by rwa [Nat.zero_add]) _ all
 ·rintro l ⟨⟨vs,hvl⟩,ρ1,F1⟩ w1 hl ⟨S1,K1,E1,R1,_⟩
  simp only at S1 K1 E1 R1 ⊢
  have hheap:hS es 0 l (hp L)=hp L':=by
   rw[hTr.heap 0]
   funext k
   exact hS_same rfl fun j y hy _=>by rw[Nat.zero_add,hl j (by have:=(List.getElem?_eq_some_iff.1 hy).1;omega)]
  rw[hheap] at S1 E1
  refine hQ _ w1 F1 ρ1 S1 K1 E1 ⟨fun k=>?_,by rw[(putAll_defs _ _ _).2];exact hN⟩ (putAll_defs _ _ _).1
  rw[hTr.slots hds k]
  have hb:=look_both ops.toList es vs k (by simp;omega) (by simp;omega)
  have hpl:=putAll_look ops.toList vs a k (by rw[hN];exact hds)
  rw[Array.getD_eq_getD_getElem?,hpl]
  rcases hb with⟨h1,h2⟩|⟨j,p,y,u,h1,h2,h3,h4,h5,h6⟩
  ·rw[h1,h2]
   have:=Sl.1 k
   rw[Array.getD_eq_getD_getElem?] at this
   exact S1.ra En K1 this
  ·rw[h5,h6]
   exact R1 j y u h3 h4 (hl j (by have:=(List.getElem?_eq_some_iff.1 h3).1;omega))
end
end Go.Proofs.YtfbfpnfgabamfaaGreat
