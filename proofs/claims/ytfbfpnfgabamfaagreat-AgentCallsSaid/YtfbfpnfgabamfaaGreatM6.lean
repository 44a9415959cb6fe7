/- Parts VcU, VcV, VcW, VcY, St, Vs, Frame, VcT, VcX, Ab, LaA, LaB, LaC of the proof, put together. -/
import Derived.Test.YtfbfpnfgabamfaaGreatM5
import Derived.ChangeKeysEq
import Derived.Laws.StructEq
import Derived.Sort.Walk0
import Derived.Test.YtfbfpnfgabamfaaGreatProg
import Derived.KernelRfl
import Derived.ProofKit
import Derived.OpenShut
import Derived.ShutString
import Derived.ChangeOld
import Derived.SizedLaws
import Derived.Carry
import Derived.Deep.Slices
import Derived.Test.YtfbfpnfgabamfaaGreatShelf
/- Contracts of the elder kind;slices that are lent. No program is named here. -/
namespace Go.Proofs.YtfbfpnfgabamfaaGreat
set_option linter.unusedSimpArgs false
set_option linter.unusedVariables false
open Go.RowKit
mutual
def flatD:D→Bool
 | .v _=>true
 | .agg xs=>flatDs xs
 | .sl _ _=>false
def flatDs:List D→Bool
 |[]=>true
 |x::r=>flatD x && flatDs r
end
mutual
def flatA:AV→Bool
 | .d x=>flatD x
 | .tup xs=>flatAs xs
 | .any=>true
 |_=>false
def flatAs:List AV→Bool
 |[]=>true
 |x::r=>flatA x && flatAs r
end
section
variable {P:Program} {w w':World} {F F':Nat→Prop} {ρ ρ':Nat→Option Value} {H:Hp} {L:List AObj} {n:Nat} {g:FuncId}
mutual
theorem RD.flat:∀ (x:D) {v:Value},flatD x=true→RD w F x v→RD w' F' x v
 | .v u,v,_,h=>by cases h;exact .v _
 | .agg xs,v,l,h=>by cases h with|agg h=>exact .agg (RDs.flat xs (by simpa [flatD] using l) h)
 | .sl s r,v,l,_=>by simp[flatD] at l
theorem RDs.flat:∀ (xs:List D) {vs:List Value},flatDs xs=true→RDs w F xs vs→RDs w' F' xs vs
 |[],_,_,h=>by cases h;exact .nil
 |x::r,_,l,h=>by simp[flatDs] at l;cases h with|cons h h1 hr=>exact .cons (RD.flat x l.1 h) h1 (RDs.flat r l.2 hr)
end
mutual
theorem RA.flat:∀ (x:AV) {v:Value},flatA x=true→RA w F ρ x v→RA w' F' ρ' x v
 | .d x,v,l,h=>by cases h with|d h=>exact .d (h.flat x (by simpa [flatA] using l))
 | .tup xs,v,l,h=>by cases h with|tup h=>exact .tup (RAs.flat xs (by simpa [flatA] using l) h)
 | .any,v,_,_=>.any v
 | .ptr _ _,_,l,_=>by simp[flatA] at l
 | .own _,_,l,_=>by simp[flatA] at l
 | .ep _ _ _ _,_,l,_=>by simp[flatA] at l
 | .fp _,_,l,_=>by simp[flatA] at l
 | .agg _,_,l,_=>by simp[flatA] at l
 | .fn _ _ _,_,l,_=>by simp[flatA] at l
 | .mp _,_,l,_=>by simp[flatA] at l
 | .rel _ _,_,l,_=>by simp[flatA] at l
theorem RAs.flat:∀ (xs:List AV) {vs:List Value},flatAs xs=true→RAs w F ρ xs vs→RAs w' F' ρ' xs vs
 |[],_,_,h=>by cases h;exact .nil
 |x::r,_,l,h=>by simp[flatAs] at l;cases h with|cons h hr=>exact .cons (RA.flat x l.1 h) (RAs.flat r l.2 hr)
end
mutual
inductive FlatV:D→Value→Prop
 |v (u:Value):FlatV (.v u) u
 |agg {xs:List D} {us:List Value} (h:FlatVs xs us):FlatV (.agg xs) (.agg us.toArray)
inductive FlatVs:List D→List Value→Prop
 |nil:FlatVs [] []
 |cons {x:D} {xs:List D} {v:Value} {vs:List Value} (h:FlatV x v) (h1:v.oneCell'=true) (hr:FlatVs xs vs):FlatVs (x::xs) (v::vs)
end
mutual
inductive FlatW:AV→Value→Prop
 |d {x:D} {v:Value} (h:FlatV x v):FlatW (.d x) v
 |tup {xs:List AV} {vs:List Value} (h:FlatWs xs vs):FlatW (.tup xs) (.tuple vs.toArray)
inductive FlatWs:List AV→List Value→Prop
 |nil:FlatWs [] []
 |cons {x:AV} {xs:List AV} {v:Value} {vs:List Value} (h:FlatW x v) (hr:FlatWs xs vs):FlatWs (x::xs) (v::vs)
end
mutual
theorem FlatV.rd:∀ {x:D} {v:Value},FlatV x v→RD w F x v
 |_,_,.v u=>.v u
 |_,_,.agg h=>.agg (FlatVs.rds h)
theorem FlatVs.rds:∀ {x:List D} {v:List Value},FlatVs x v→RDs w F x v
 |_,_,.nil=>.nil
 |_,_,.cons h h1 hr=>.cons (FlatV.rd h) h1 (FlatVs.rds hr)
end
mutual
theorem FlatV.eq:∀ {x:D} {v u:Value},FlatV x v→RD w F x u→u=v
 |_,_,_,.v u,h=>by cases h;rfl
 |_,_,_,.agg h,k=>by cases k with|agg k=>rw[FlatVs.eq h k]
theorem FlatVs.eq:∀ {x:List D} {v u:List Value},FlatVs x v→RDs w F x u→u=v
 |_,_,_,.nil,h=>by cases h;rfl
 |_,_,_,.cons h h1 hr,k=>by cases k with|cons k k1 kr=>rw[FlatV.eq h k,FlatVs.eq hr kr]
end
mutual
theorem FlatW.ra:∀ {x:AV} {v:Value},FlatW x v→RA w F ρ x v
 |_,_,.d h=>.d h.rd
 |_,_,.tup h=>.tup (FlatWs.ras h)
theorem FlatWs.ras:∀ {x:List AV} {v:List Value},FlatWs x v→RAs w F ρ x v
 |_,_,.nil=>.nil
 |_,_,.cons h hr=>.cons (FlatW.ra h) (FlatWs.ras hr)
end
mutual
theorem FlatW.eq:∀ {x:AV} {v u:Value},FlatW x v→RA w F ρ x u→u=v
 |_,_,_,.d h,k=>by cases k with|d k=>exact h.eq k
 |_,_,_,.tup h,k=>by cases k with|tup k=>rw[FlatWs.eq h k]
theorem FlatWs.eq:∀ {x:List AV} {v u:List Value},FlatWs x v→RAs w F ρ x u→u=v
 |_,_,_,.nil,h=>by cases h;rfl
 |_,_,_,.cons h hr,k=>by cases k with|cons k kr=>rw[FlatW.eq h k,FlatWs.eq hr kr]
end
theorem step_below {w w':World} (En:Env F ρ (hp []) w) (hb:Below w.heap.size w w'):Step F ρ (hp []) w F ρ (hp []) w'∧Env F ρ (hp []) w':=by
 have no:∀ (i:Nat) (o:AObj),hp [] i=some o→False:=fun i o h=>by simp[hp] at h
 exact⟨⟨hb.os,hb.tape,hb.output,hb.size,fun b h _=>hb.block b h,fun _ h=>h,fun _ h=>.inl h,fun b ⟨i,o,_,h,_⟩=>(no i o h).elim⟩,
  fun b h=>Nat.lt_of_lt_of_le (En.fb b h) hb.size,En.abs,fun i o h=>(no i o h).elim,fun i j o o' _ _ _ h=>(no i o h).elim⟩
theorem Sat.of_calls {args:List AV} {vals:List Value} {r:AV} {rv:Value} (ha:FlatWs args vals) (hr:FlatW r rv) (h:∀ w,Calls P g vals.toArray w fun e w'=>e=.returned rv∧Below w.heap.size w w'):Sat P g args [] r []:=by
 intro F ρ w vs En hv
 have:=ha.eq hv
 subst this
 refine (h w).mono ?_
 rintro e w' ⟨rfl,hb⟩
 obtain⟨S,E'⟩:=step_below En hb
 exact⟨rv,rfl,F,ρ,S,Keep.refl _,E',hr.ra⟩
theorem Sat.of_same {args:List AV} {vals:List Value} {r:AV} {rv:Value} (ha:FlatWs args vals) (hr:FlatW r rv) (h:∀ w,Calls P g vals.toArray w fun e w'=>e=.returned rv∧w=w'):Sat P g args [] r []:=
 .of_calls ha hr fun w=>(h w).mono fun e w' ⟨h1,h2⟩=>⟨h1,by subst h2;exact Below.refl _ _⟩
def Lend (L:List AObj):List AV→List AV→List Nat→Prop
 |[],[],ids=>ids=[]
 | .own i::r,.d (.sl s rows)::r1,ids=>∃ t,ids=i::t∧L[i]?=some (.sl s rows)∧Lend L r r1 t
 | .d x::r,.d y::r1,ids=>x=y∧Lend L r r1 ids
 |_,_,_=>False
theorem Lend.ras {F1:Nat→Prop} (En:Env F ρ H w) (hF:∀ b,F b→F1 b):∀ {args args1:List AV} {ids:List Nat} {vs:List Value},Lend L args args1 ids→(∀ i∈ids,H i=L[i]?)→(∀ i∈ids,∀ h,ρ i=some h→∀ b,blkOf h=some b→F1 b)→RAs w F ρ args vs→RAs w F1 (fun _=>none) args1 vs
 |[],[],_,_,_,_,_,h=>by cases h;exact .nil
 | .d x::r,.d y::r1,ids,_,h,hi,hb,hv=>by
  obtain⟨rfl,h2⟩:=h
  cases hv with|cons hv hr=>cases hv with|d hv=>exact .cons (.d (hv.mono (fun _ _=>rfl) hF)) (Lend.ras En hF h2 hi hb hr)
 | .own i::r,.d (.sl s rows)::r1,ids,_,h,hi,hb,hv=>by
  obtain⟨t,rfl,h1,h2⟩:=h
  cases hv with|cons hv hr=>
   refine .cons ?_ (Lend.ras En hF h2 (fun j hj=>hi j (List.mem_cons_of_mem _ hj)) (fun j hj=>hb j (List.mem_cons_of_mem _ hj)) hr)
   have hi':H i=some (.sl s rows):=by rw[hi i (List.mem_cons_self ..)];exact h1
   cases hv with|own hv=>
    rename_i A m c
    obtain⟨hh,e1,⟨vs,how,hra,hs⟩,e3⟩:=En.rep i _ hi' rfl
    rw[hv] at e1;injection e1 with e1;subst e1
    obtain⟨A',c',he,g1,g2,hrd⟩:=how.form
    injection he with q1 q2 q3
    subst q1 q2 q3
    refine .d (.sl rfl hs g1 g2 (hra.mono (fun _ _=>rfl) hF) fun hp=>?_)
    rcases Nat.eq_zero_or_pos s with hs0|hs0
    ·have hvs:vs=[]:=List.eq_nil_of_length_eq_zero (by rw[hrd.1,hs0];simp)
     subst hvs
     obtain⟨g,off,cap,he,_⟩:=how.open_ hp
     injection he with q1 _ _
     subst q1
     exact⟨g,off,rfl,hb i (List.mem_cons_self ..) _ hv g rfl,fun j hj=>by simp at hj⟩
    ·obtain⟨b,off,rfl,_,hc⟩:=hrd.2 hp
     exact⟨b,off,rfl,hb i (List.mem_cons_self ..) _ hv b rfl,hc⟩
 |[],_::_,_,_,h,_,_,_=>by simp[Lend] at h
 | .ptr ..::_,_,_,_,h,_,_,_=>by simp[Lend] at h
 | .ep ..::_,_,_,_,h,_,_,_=>by simp[Lend] at h
 | .fp ..::_,_,_,_,h,_,_,_=>by simp[Lend] at h
 | .agg ..::_,_,_,_,h,_,_,_=>by simp[Lend] at h
 | .tup ..::_,_,_,_,h,_,_,_=>by simp[Lend] at h
 | .fn ..::_,_,_,_,h,_,_,_=>by simp[Lend] at h
 | .mp ..::_,_,_,_,h,_,_,_=>by simp[Lend] at h
 | .rel ..::_,_,_,_,h,_,_,_=>by simp[Lend] at h
 | .any::_,_,_,_,h,_,_,_=>by simp[Lend] at h
 | .own _::_,[],_,_,h,_,_,_=>by simp[Lend] at h
 | .own _::_,.d (.v _)::_,_,_,h,_,_,_=>by simp[Lend] at h
 | .own _::_,.d (.agg _)::_,_,_,h,_,_,_=>by simp[Lend] at h
 | .own _::_,.ptr ..::_,_,_,h,_,_,_=>by simp[Lend] at h
 | .own _::_,.own ..::_,_,_,h,_,_,_=>by simp[Lend] at h
 | .own _::_,.ep ..::_,_,_,h,_,_,_=>by simp[Lend] at h
 | .own _::_,.fp ..::_,_,_,h,_,_,_=>by simp[Lend] at h
 | .own _::_,.agg ..::_,_,_,h,_,_,_=>by simp[Lend] at h
 | .own _::_,.tup ..::_,_,_,h,_,_,_=>by simp[Lend] at h
 | .own _::_,.fn ..::_,_,_,h,_,_,_=>by simp[Lend] at h
 | .own _::_,.mp ..::_,_,_,h,_,_,_=>by simp[Lend] at h
 | .own _::_,.rel ..::_,_,_,h,_,_,_=>by simp[Lend] at h
 | .own _::_,.any::_,_,_,h,_,_,_=>by simp[Lend] at h
 | .d _::_,[],_,_,h,_,_,_=>by simp[Lend] at h
 | .d _::_,.ptr ..::_,_,_,h,_,_,_=>by simp[Lend] at h
 | .d _::_,.own ..::_,_,_,h,_,_,_=>by simp[Lend] at h
 | .d _::_,.ep ..::_,_,_,h,_,_,_=>by simp[Lend] at h
 | .d _::_,.fp ..::_,_,_,h,_,_,_=>by simp[Lend] at h
 | .d _::_,.agg ..::_,_,_,h,_,_,_=>by simp[Lend] at h
 | .d _::_,.tup ..::_,_,_,h,_,_,_=>by simp[Lend] at h
 | .d _::_,.fn ..::_,_,_,h,_,_,_=>by simp[Lend] at h
 | .d _::_,.mp ..::_,_,_,h,_,_,_=>by simp[Lend] at h
 | .d _::_,.rel ..::_,_,_,h,_,_,_=>by simp[Lend] at h
 | .d _::_,.any::_,_,_,h,_,_,_=>by simp[Lend] at h
theorem Sat.lend {args args1:List AV} {r:AV} {ids:List Nat} (h:Sat P g args1 [] r []) (hl:Lend L args args1 ids) (hr:flatA r=true) (hlive:∀ i∈ids,∃ o,L[i]?=some o∧o.live=true):CallOK P g args L n ⟨ids,[],[]⟩ r:=by
 intro H F ρ w vals En hrs _ hv
 have hH:∀ i∈ids,∀ hh,ρ i=some hh→∀ b,blkOf hh=some b→b<w.heap.size:=by
  intro i hi hh hρ b hb
  obtain⟨o,ho,hlv⟩:=hlive i hi
  obtain⟨h0,e1,_,e3⟩:=En.rep i o (by rw[hrs i hi];exact ho) hlv
  rw[hρ] at e1;injection e1 with e1;subst e1
  exact (e3 b hb).1
 let F1:Nat→Prop:=fun b=>F b∨∃ i∈ids,∃ hh,ρ i=some hh∧blkOf hh=some b
 have E1:Env F1 (fun _=>none) (hp []) w:=⟨fun b hb=>hb.elim (En.fb b) fun⟨i,hi,hh,h1,h2⟩=>hH i hi hh h1 b h2,fun _ _=>rfl,fun i o h=>by simp[hp] at h,fun i j o o' _ _ _ h=>by simp[hp] at h⟩
 refine (h F1 (fun _=>none) w vals E1 (hl.ras En (fun _ h=>.inl h) hrs (fun i hi hh h1 b h2=>.inr ⟨i,hi,hh,h1,h2⟩) hv)).mono ?_
 rintro en w' ⟨v,rfl,F2,ρ2,S,_,E2,R⟩
 have hold:∀ b,b<w.heap.size→w'.heap[b]?=w.heap[b]?:=fun b hb=>S.unch b hb fun⟨i,o,_,h,_⟩=>by simp[hp] at h
 refine⟨v,rfl,fun b=>F2 b∧(F b∨w.heap.size≤b),ρ,⟨S.os,S.tape,S.output,S.size,fun b hb _=>hold b hb,fun b hb=>⟨S.fsub b (.inl hb),.inl hb⟩,fun b hb=>hb.2.elim .inl fun q=>.inr (.inl q),fun b hb=>.inr hb⟩,Keep.refl _,?_,R.flat r hr⟩
 refine⟨fun b hb=>E2.fb b hb.1,En.abs,fun i o hi hlv=>?_,En.inj⟩
 obtain⟨hh,e1,e2,e3⟩:=En.rep i o hi hlv
 exact⟨hh,e1,e2.mono S.size (fun b _ hlt=>hold b hlt) (fun b hb=>hold b (En.fb b hb)) (fun b hb=>⟨S.fsub b (.inl hb),.inl hb⟩) (Keep.refl _),fun b hb=>⟨Nat.lt_of_lt_of_le (e3 b hb).1 S.size,fun q=>q.2.elim (e3 b hb).2 fun q=>by have:=(e3 b hb).1;omega⟩⟩
theorem lend_live {args args1:List AV} {ids:List Nat}:Lend L args args1 ids→∀ i∈ids,∃ o,L[i]?=some o∧o.live=true:=by
 induction args generalizing args1 ids with
 |nil=>intro h i hi;cases args1<;>simp[Lend] at h;subst h;simp at hi
 |cons x r ih=>
  intro h i hi
  cases args1 with
  |nil=>cases x<;>simp[Lend] at h
  |cons y r1=>
   cases x<;>try (simp[Lend] at h;done)
   ·cases y<;>try (simp[Lend] at h;done)
    exact ih h.2 i hi
   ·cases y<;>try (simp[Lend] at h;done)
    rename_i j y
    cases y<;>try (simp[Lend] at h;done)
    obtain⟨t,rfl,h1,h2⟩:=h
    rcases List.mem_cons.1 hi with e|e
    ·subst e;exact⟨_,h1,rfl⟩
    ·exact ih h2 i e
theorem Sat.lend1 {i s:Nat} {rows:List (List D)} {aas:List D} {r:AV} (h:Sat P g (.d (.sl s rows)::aas.map .d) [] r []) (hi:L[i]?=some (.sl s rows)) (hr:flatA r=true):CallOK P g (.own i::aas.map .d) L n ⟨[i],[],[]⟩ r:=by
 have hall:∀ (aas:List D),Lend L (aas.map .d) (aas.map .d) []:=by
  intro aas
  induction aas with
  |nil=>rfl
  |cons a aas ih=>exact⟨rfl,ih⟩
 have hl:Lend L (.own i::aas.map .d) (.d (.sl s rows)::aas.map .d) [i]:=⟨[],rfl,hi,hall aas⟩
 exact h.lend hl hr (lend_live hl)
theorem appW_dead:∀ {ids:List Nat} {H:Hp} {k:Nat},appW (ids.map fun i=>(i,AObj.dead)) H k=if k∈ids then some .dead else H k
 |[],H,k=>by simp[appW]
 |i::r,H,k=>by
  rw[List.map_cons,appW,appW_dead (ids:=r)]
  by_cases h:k∈r
  ·rw[if_pos h,if_pos (List.mem_cons_of_mem _ h)]
  ·rw[if_neg h]
   by_cases e:k=i
   ·subst e;rw[updF_same,if_pos (List.mem_cons_self ..)]
   ·rw[updF_ne _ _ e,if_neg (by simp[e,h])]
theorem Sat.frz {args args1:List AV} {r:AV} {ids:List Nat} (h:Sat P g args1 [] r []) (hl:Lend L args args1 ids) (hr:AV.lt 0 r=true):CallOK P g args L n ⟨ids,ids.map fun i=>(i,.dead),[]⟩ r:=by
 have hlive:=lend_live hl
 intro H F ρ w vals En hrs _ hv
 have hH:∀ i∈ids,∀ hh,ρ i=some hh→∀ b,blkOf hh=some b→b<w.heap.size∧Lv ρ H b:=by
  intro i hi hh hρ b hb
  obtain⟨o,ho,hlv⟩:=hlive i hi
  have ho':H i=some o:=by rw[hrs i hi];exact ho
  obtain⟨h0,e1,_,e3⟩:=En.rep i o ho' hlv
  rw[hρ] at e1;injection e1 with e1;subst e1
  exact⟨(e3 b hb).1,i,o,hh,ho',hlv,hρ,hb⟩
 let F1:Nat→Prop:=fun b=>F b∨∃ i∈ids,∃ hh,ρ i=some hh∧blkOf hh=some b
 have E1:Env F1 (fun _=>none) (hp []) w:=⟨fun b hb=>hb.elim (En.fb b) fun⟨i,hi,hh,h1,h2⟩=>(hH i hi hh h1 b h2).1,fun _ _=>rfl,fun i o h=>by simp[hp] at h,fun i j o o' _ _ _ h=>by simp[hp] at h⟩
 refine (h F1 (fun _=>none) w vals E1 (hl.ras En (fun _ h=>.inl h) hrs (fun i hi hh h1 b h2=>.inr ⟨i,hi,hh,h1,h2⟩) hv)).mono ?_
 rintro en w' ⟨v,rfl,F2,ρ2,S,_,E2,R⟩
 have nolv:∀ b,¬Lv (fun _=>none) (hp []) b:=fun b ⟨i,o,_,h,_⟩=>by simp[hp] at h
 have hold:∀ b,b<w.heap.size→w'.heap[b]?=w.heap[b]?:=fun b hb=>S.unch b hb (nolv b)
 have hHk:∀ i o,appN n [] (appW (ids.map fun i=>(i,AObj.dead)) H) i=some o→o.live=true→i∉ids∧H i=some o:=by
  intro i o hi hlv
  rw[appN,appW_dead] at hi
  split at hi
  ·injection hi with hi;subst hi;cases hlv
  ·rename_i hni;exact⟨hni,hi⟩
 refine⟨v,rfl,F2,ρ,⟨S.os,S.tape,S.output,S.size,fun b hb _=>hold b hb,fun b hb=>S.fsub b (.inl hb),fun b hb=>?_,fun b ⟨i,o,hh,h1,h2,h3,h4⟩=>.inr ⟨i,o,hh,(hHk i o h1 h2).2,h2,h3,h4⟩⟩,Keep.refl _,⟨E2.fb,fun i hi=>?_,fun i o hi hlv=>?_,fun i j o o' hh hh' b e1 e2 l1 l2=>En.inj i j o o' hh hh' b (hHk i o e1 l1).2 (hHk j o' e2 l2).2 l1 l2⟩,?_⟩
 ·rcases S.fsrc b hb with q|q|q
  ·rcases q with q|⟨i,hi,hh,h1,h2⟩
   ·exact .inl q
   ·exact .inr (.inr (hH i hi hh h1 b h2).2)
  ·exact .inr (.inl q)
  ·exact (nolv b q).elim
 ·rw[appN,appW_dead] at hi
  split at hi
  ·cases hi
  ·exact En.abs i hi
 ·obtain⟨hni,hi'⟩:=hHk i o hi hlv
  obtain⟨hh,e1,e2,e3⟩:=En.rep i o hi' hlv
  refine⟨hh,e1,e2.mono S.size (fun b _ hlt=>hold b hlt) (fun b hb=>hold b (En.fb b hb)) (fun b hb=>S.fsub b (.inl hb)) (Keep.refl _),fun b hb=>⟨Nat.lt_of_lt_of_le (e3 b hb).1 S.size,fun q=>?_⟩⟩
  rcases S.fsrc b q with q|q|q
  ·rcases q with q|⟨j,hj,hh',h1,h2⟩
   ·exact (e3 b hb).2 q
   ·obtain⟨oj,hoj,hlj⟩:=hlive j hj
    have:=En.inj i j o oj hh hh' b hi' (by rw[hrs j hj];exact hoj) hlv hlj e1 h1 hb h2
    subst this
    exact hni hj
  ·have:=(e3 b hb).1;omega
  ·exact (nolv b q).elim
 ·exact RA.low (m:=0) (fun j h hj=>absurd hj (Nat.not_lt_zero _)) r hr R
theorem Sat.lendNew {i s s':Nat} {rows rows':List (List D)} {aas:List D} {us:List Value} (h:Sat P g (.d (.sl s rows)::aas.map .d) [] (.own 0) [.sl s' rows']) (hi:L[i]?=some (.sl s rows)) (hf:FlatVs rows'.flatten us) :
  CallOK P g (.own i::aas.map .d) L n ⟨[i],[],[.sl s' rows']⟩ (.own n):=by
 have hall:∀ (aas:List D),Lend L (aas.map .d) (aas.map .d) []:=by
  intro aas
  induction aas with
  |nil=>rfl
  |cons a aas ih=>exact⟨rfl,ih⟩
 have hl:Lend L (.own i::aas.map .d) (.d (.sl s rows)::aas.map .d) [i]:=⟨[],rfl,hi,hall aas⟩
 have hlive:=lend_live hl
 intro H F ρ w vals En hrs hnew hv
 have hH:∀ j∈[i],∀ hh,ρ j=some hh→∀ b,blkOf hh=some b→b<w.heap.size:=by
  intro j hj hh hρ b hb
  obtain⟨o,ho,hlv⟩:=hlive j hj
  obtain⟨h0,e1,_,e3⟩:=En.rep j o (by rw[hrs j hj];exact ho) hlv
  rw[hρ] at e1;injection e1 with e1;subst e1
  exact (e3 b hb).1
 let F1:Nat→Prop:=fun b=>F b∨∃ j∈[i],∃ hh,ρ j=some hh∧blkOf hh=some b
 have E1:Env F1 (fun _=>none) (hp []) w:=⟨fun b hb=>hb.elim (En.fb b) fun⟨j,hj,hh,h1,h2⟩=>hH j hj hh h1 b h2,fun _ _=>rfl,fun i o h=>by simp[hp] at h,fun i j o o' _ _ _ h=>by simp[hp] at h⟩
 refine (h F1 (fun _=>none) w vals E1 (hl.ras En (fun _ h=>.inl h) hrs (fun j hj hh h1 b h2=>.inr ⟨j,hj,hh,h1,h2⟩) hv)).mono ?_
 rintro en w' ⟨v,rfl,F2,ρ2,S,_,E2,R⟩
 have nolv:∀ b,¬Lv (fun _=>none) (hp []) b:=fun b ⟨i,o,_,h,_⟩=>by simp[hp] at h
 have hG:w.grownBy w' none:=⟨S.os,S.tape,S.output,S.size,fun b hb _=>S.unch b hb (nolv b)⟩
 obtain⟨hh,e1,⟨vs,how,hra,hs⟩,e3⟩:=E2.rep 0 _ rfl rfl
 obtain rfl:=hf.eq hra
 cases R with|own R=>
 rw[R] at e1;injection e1 with e1;subst e1
 have hn:H n=none:=by simpa using hnew 0 (by simp)
 obtain⟨S',K',E'⟩:=En.new (n:=n) (o':=.sl s' rows') hn hG (fun b hb=>⟨(S.lsrc b ⟨0,_,_,rfl,rfl,R,hb⟩).elim id fun q=>(nolv b q).elim,(e3 b hb).1⟩) ⟨_,how,hf.rds,hs⟩
 exact⟨_,rfl,F,_,S',K',E',.own (updF_same _ _ _)⟩
theorem RD.sl_rd {s:Nat} {rows:List (List D)} {us:List Value} {v:Value} (h:RD w F (.sl s rows) v) (hF:∀ b,F b→b<w.heap.size) (hf:FlatVs rows.flatten us):∃ A c,v=.slice A rows.length c∧rows.length≤c∧c≤maxLen∧Rd w w.heap.size s A rows.length us:=by
 cases h with|sl hn hs h1 h2 hr hm=>
  subst hn
  have:=hf.eq hr
  subst this
  refine⟨_,_,rfl,h1,h2,⟨by rw[hr.length,flat_len hs],fun hp=>?_⟩⟩
  obtain⟨b,off,e,hb,hc⟩:=hm hp
  exact⟨b,off,e,hF b hb,hc⟩
theorem flat_map {α:Type} {f:α→List D} {q:α→List Value} (h:∀ a,FlatVs (f a) (q a)):∀ (l:List α),FlatVs (l.map f).flatten (l.map q).flatten
 |[]=>.nil
 |a::l=>by
  rw[List.map_cons,List.flatten_cons,List.map_cons,List.flatten_cons]
  have app:∀ {xs ys:List D} {us vs:List Value},FlatVs xs us→FlatVs ys vs→FlatVs (xs++ys) (us++vs):=by
   intro xs
   induction xs with
   |nil=>intro ys us vs h k;cases h;exact k
   |cons x xs ih=>intro ys us vs h k;cases h with|cons h h1 hr=>exact .cons h h1 (ih hr k)
  exact app (h a) (flat_map h l)
end
end Go.Proofs.YtfbfpnfgabamfaaGreat
namespace Go.Proofs.YtfbfpnfgabamfaaGreat
set_option linter.unusedSimpArgs false
set_option linter.unusedVariables false
open Go.RowKit
def slB (P:Program) (t s b:Nat):Bool:=
 match (tiOf P t).kind with
 | .sli=>Nat.beq (tiOf P t).esize s && Nat.blt 0 s && Nat.beq (tiOf P t).ebytes b && Nat.blt 0 b && (match (tiOf P (tiOf P t).elem).kind with | .non=>false|_=>true)
 |_=>false
section
variable {P:Program} {w w':World} {F F':Nat→Prop} {ρ ρ':Nat→Option Value} {H:Hp} {L:List AObj} {ty n t s b i j:Nat} {rows rows2:List (List D)} {sx xx a1 a2:Operand} {c lo hi:Nat} {kd kd' kl kh:IntKind}
theorem slB_out (h:slB P t s b=true):(tiOf P t).kind=.sli∧(tiOf P t).esize=s∧0<s∧(tiOf P t).ebytes=b∧0<b∧(tiOf P (tiOf P t).elem).kind≠.non:=by
 unfold slB at h
 split at h
 ·rename_i hk
  simp only[Bool.and_eq_true,Nat.blt_eq] at h
  refine⟨hk,Nat.eq_of_beq_eq_true h.1.1.1.1,h.1.1.1.2,Nat.eq_of_beq_eq_true h.1.1.2,h.1.2,fun e=>?_⟩
  have:=h.2
  rw[e] at this;cases this
 ·cases h
theorem le_max {k b:Nat} (hb:0<b) (h:k*b≤140737488355328):k≤maxLen:=by
 have:k≤k*b:=Nat.le_mul_of_pos_right _ hb
 unfold maxLen;omega
theorem ap (s b:Nat) (h:slB P t s b=true) (hi:L[i]?=some (.sl s rows)) (hj:L[j]?=some (.sl s rows2)) (hb:(rows.length+rows2.length)*b≤140737488355328):Does P (.call { callee:=.builtin .append,args:=#[sx,xx],argTypes:=#[t,t] }) ty L n [.own i,.own j] ⟨[i,j],[(i,.dead)],[.sl s (rows++rows2)]⟩ (.own n):=by
 obtain⟨h1,h2,h3,h4,h6,h5⟩:=slB_out h
 subst h4
 exact does_append h1 h2 h3 h5 hi (.inr (.inl ⟨j,rfl,hj,rfl⟩)) hb (le_max h6 hb)
theorem apd (s b:Nat) (h:slB P t s b=true) (hi:L[i]?=some (.sl s rows)) (hb:(rows.length+rows2.length)*b≤140737488355328):Does P (.call { callee:=.builtin .append,args:=#[sx,xx],argTypes:=#[t,t] }) ty L n [.own i,.d (.sl s rows2)] ⟨[i],[(i,.dead)],[.sl s (rows++rows2)]⟩ (.own n):=by
 obtain⟨h1,h2,h3,h4,h6,h5⟩:=slB_out h
 subst h4
 exact does_append h1 h2 h3 h5 hi (.inl ⟨rfl,rfl⟩) hb (le_max h6 hb)
theorem ap0 (s b:Nat) (h:slB P t s b=true) (hj:L[j]?=some (.sl s rows2)) (hb:rows2.length*b≤140737488355328):Does P (.call { callee:=.builtin .append,args:=#[sx,xx],argTypes:=#[t,t] }) ty L n [.d (.v (.slice none 0 0)),.own j] ⟨[j],[],[.sl s rows2]⟩ (.own n):=by
 obtain⟨h1,h2,h3,h4,h6,h5⟩:=slB_out h
 subst h4
 exact does_append_nil h1 h2 h3 h5 (.inr (.inl ⟨j,rfl,hj,rfl⟩)) hb (le_max h6 hb)
theorem mkf (s b:Nat) (h:slB P t s b=true) (hb:b*c≤281474976710656) (hm:c≤maxLen):Does P (.makeSlice t a1 a2) ty L n [.d (.v (.int kd c)),.d (.v (.int kd' c))] ⟨[],[],[.sl s (List.replicate c ((tiOf P (tiOf P t).elem).zero.map .v))]⟩ (.own n):=by
 obtain⟨h1,h2,h3,h4,_,h5⟩:=slB_out h
 exact does_make h1 h2 h3 h5 (by rw[h4];exact hb) hm
theorem sl_d (s b:Nat) (h:slB P t s b=true) (h1:lo≤hi) (h2:hi≤rows.length):Does P (.slice t sx (some a1) (some a2) none) ty L n [.d (.sl s rows),.d (.v (.int kl lo)),.d (.v (.int kh hi))] e0 (.d (.sl s ((rows.take hi).drop lo))):=by
 obtain⟨g1,g2,g3,_⟩:=slB_out h
 exact does_piece g1 g2 g3 h1 h2
theorem from_d (s b:Nat) (h:slB P t s b=true) (h1:lo≤rows.length):Does P (.slice t sx (some a1) none none) ty L n [.d (.sl s rows),.d (.v (.int kl lo))] e0 (.d (.sl s (rows.drop lo))):=by
 obtain⟨g1,g2,g3,_⟩:=slB_out h
 exact does_from g1 g2 g3 h1
theorem upto_d (s b:Nat) (h:slB P t s b=true) (h1:hi≤rows.length):Does P (.slice t sx none (some a2) none) ty L n [.d (.sl s rows),.d (.v (.int kh hi))] e0 (.d (.sl s (rows.take hi))):=by
 obtain⟨g1,g2,g3,_⟩:=slB_out h
 exact does_upto g1 g2 g3 h1
theorem Sat.at1 {g:FuncId} {args:List AV} {o o':AObj} {N:List AObj} {r:AV} (h:Sat P g args [o] r (o'::N)) (a:Nat) (hlive:o.live=true) (hids:(AV.lts 1 args && AObj.lts 1 [o])=true)
  (ha:L[a]?=some (o.rn (sub [a] n))):CallOK P g (AV.rns (sub [a] n) args) L n ⟨[a],[(a,o'.rn (sub [a] n))],AObj.rns (sub [a] n) N⟩ (r.rn (sub [a] n)):=
 h.at_ [a] L n rfl (by simp) rfl (by simp[AObj.lives,hlive]) hids fun j hj=>by
  match j,hj with
  |0,_=>exact ha
theorem Sat.at2 {g:FuncId} {args:List AV} {o o' p p':AObj} {N:List AObj} {r:AV} (h:Sat P g args [o,p] r (o'::p'::N)) (a b:Nat) (hab:Nat.beq a b=false) (hlive:(o.live && p.live)=true) (hids:(AV.lts 2 args && AObj.lts 2 [o,p])=true)
  (ha:L[a]?=some (o.rn (sub [a,b] n))) (hb:L[b]?=some (p.rn (sub [a,b] n))):CallOK P g (AV.rns (sub [a,b] n) args) L n ⟨[a,b],[(a,o'.rn (sub [a,b] n)),(b,p'.rn (sub [a,b] n))],AObj.rns (sub [a,b] n) N⟩ (r.rn (sub [a,b] n)):=by
 simp only[Bool.and_eq_true] at hlive
 have hne:a≠b:=fun e=>by subst e;simp at hab
 exact h.at_ [a,b] L n rfl (by simp[hne]) rfl (by simp[AObj.lives,hlive]) hids fun j hj=>by
  match j,hj with
  |0,_=>exact ha
  |1,_=>exact hb
theorem Sat.at3 {g:FuncId} {args:List AV} {o o' p p' q q':AObj} {N:List AObj} {r:AV} (h:Sat P g args [o,p,q] r (o'::p'::q'::N)) (a b c:Nat) (hab:(Nat.beq a b || Nat.beq a c || Nat.beq b c)=false) (hlive:(o.live && p.live && q.live)=true) (hids:(AV.lts 3 args && AObj.lts 3 [o,p,q])=true)
  (ha:L[a]?=some (o.rn (sub [a,b,c] n))) (hb:L[b]?=some (p.rn (sub [a,b,c] n))) (hc:L[c]?=some (q.rn (sub [a,b,c] n))) :
  CallOK P g (AV.rns (sub [a,b,c] n) args) L n ⟨[a,b,c],[(a,o'.rn (sub [a,b,c] n)),(b,p'.rn (sub [a,b,c] n)),(c,q'.rn (sub [a,b,c] n))],AObj.rns (sub [a,b,c] n) N⟩ (r.rn (sub [a,b,c] n)):=by
 simp only[Bool.and_eq_true] at hlive
 simp only[Bool.or_eq_false_iff] at hab
 have h1:a≠b:=fun e=>by subst e;simp at hab
 have h2:a≠c:=fun e=>by subst e;simp at hab
 have h3:b≠c:=fun e=>by subst e;simp at hab
 exact h.at_ [a,b,c] L n rfl (by simp[h1,h2,h3]) rfl (by simp[AObj.lives,hlive]) hids fun j hj=>by
  match j,hj with
  |0,_=>exact ha
  |1,_=>exact hb
  |2,_=>exact hc
theorem lendON {g s':Nat} {rows':List (List D)} {us:List Value} (h:Sat P g [.d (.sl s rows)] [] (.own 0) [.sl s' rows']) (hi:L[i]?=some (.sl s rows)) (hf:FlatVs rows'.flatten us):CallOK P g [.own i] L n ⟨[i],[],[.sl s' rows']⟩ (.own n):=Sat.lendNew (aas:=[]) h hi hf
theorem lendO {g:Nat} {r:AV} (h:Sat P g [.d (.sl s rows)] [] r []) (hi:L[i]?=some (.sl s rows)) (hr:flatA r=true):CallOK P g [.own i] L n ⟨[i],[],[]⟩ r:=Sat.lend1 (aas:=[]) h hi hr
theorem from_o (s b:Nat) (h:slB P t s b=true) (hi':L[i]?=some (.sl s rows)) (h1:lo≤rows.length):Does P (.slice t sx (some a1) none none) ty L n [.own i,.d (.v (.int kl lo))] ⟨[i],[(i,.dead)],[]⟩ (.d (.sl s (rows.drop lo))):=by
 obtain⟨g1,g2,g3,_⟩:=slB_out h
 exact does_own_from g1 g2 g3 hi' h1
end
theorem wi {n:Int} (h1:-9223372036854775808≤n) (h2:n≤9223372036854775807):IntKind.i64.wrap n=n:=by rw[IntKind.wrap_i64];omega
theorem wk1 {k:Nat} (h:k≤9223372036854775806):AV.d (.v (.int .i64 (IntKind.i64.wrap ((k:Int)+1))))=AV.d (.v (.int .i64 ((k+1:Nat):Int))):=by rw[wi (by omega) (by omega)];rfl
section
variable {P:Program} {w w':World} {F F':Nat→Prop} {ρ ρ':Nat→Option Value} {H:Hp} {L:List AObj} {ty n:Nat} {x y:Operand} {t t':TypeId}
def isBoolT (P:Program) (t:TypeId):Bool:=match P.underlying t with|some .bool=>true|_=>false
def isPtrT (P:Program) (t:TypeId):Bool:=match P.underlying t with|some (.pointer _)=>true|_=>false
theorem isPtrT_out (h:isPtrT P t=true):∃ e,P.underlying t=some (.pointer e):=by
 unfold isPtrT at h
 split at h
 ·exact⟨_,by assumption⟩
 ·cases h
theorem isBoolT_out (h:isBoolT P t=true):P.underlying t=some .bool:=by
 unfold isBoolT at h
 split at h
 ·assumption
 ·cases h
theorem does_ra2 {op:Op} {x y:Operand} {a b:AV} {r:Value} (hop:op.operands=#[x,y]) (h:∀ (o:Oper) (w:World) (F:Nat→Prop) (ρ:Nat→Option Value) (ev:Operand→Value) (u v:Value),o.op=op→ev x=u→ev y=v→RA w F ρ a u→RA w F ρ b v→(execOp ev o).run P w=.ok (.value r) w):Does P op ty L n [a,b] e0 (.d (.v r)):=
 does_val fun o w F ρ ev ho _ hx=>by
  rw[hop] at hx
  obtain⟨v1,v2,e,h1,h2⟩:=hx.two_out
  simp at e
  exact⟨r,h o w F ρ ev v1 v2 ho e.1 e.2 h1 h2,.d (.v r)⟩
theorem run_eq {op:BinOp} {u v:Value} {b c:Bool} {g:Bool→Bool} (hb:∀ d:Nat,(Op.equalIn (d+1) t u v).run P w=.ok b w) (hf:binOp op t u v=(do let r ←Op.equal t u v;pure (.bool (g r))))
  (hc:c=g b):(binOp op t u v).run P w=.ok (.bool c) w:=by
 rw[hf,hc]
 have h:=hb 9999
 simp[Op.equal,Op.maxDepth,h]
theorem eq_form (u v:Value) (h:(match u,v with | .int ..,.int ..=>false | .float ..,.float ..=>false | .complex ..,.complex ..=>false | .string _,.string _=>false|_,_=>true)=true):binOp .eql t u v=(do let r ←Op.equal t u v;pure (.bool (id r))):=by
 cases u<;>cases v<;>first|rfl|(simp at h;done)
theorem ne_form (u v:Value) (h:(match u,v with | .int ..,.int ..=>false | .float ..,.float ..=>false | .complex ..,.complex ..=>false | .string _,.string _=>false|_,_=>true)=true):binOp .neq t u v=(do let r ←Op.equal t u v;pure (.bool (!r))):=by
 cases u<;>cases v<;>first|rfl|(simp at h;done)
theorem guard_form {op:BinOp} (u v:Value) (h:(match u,v with | .nilIface,.nilIface=>false | .agg _,.agg _=>false|_,_=>true)=true):(eqGuard op t x y u v).run P w=.ok () w:=by
 cases u<;>cases v<;>first|(cases op<;>rfl)|(simp at h)
theorem exec_eq {op:BinOp} {o:Oper} {ev:Operand→Value} {u v:Value} {c:Bool} (ho:o.op=.binOp op t x y t') (h1:ev x=u) (h2:ev y=v) (hg:(eqGuard op t x y u v).run P w=.ok () w) (hb:(binOp op t u v).run P w=.ok (.bool c) w) :
  (execOp ev o).run P w=.ok (.value (.bool c)) w:=by
 simp only[execOp,ho,h1,h2]
 simp[hg,hb]
theorem neB {a b:Bool} (h:isBoolT P t=true):Does P (.binOp .neq t x y t') ty L n [.d (.v (.bool a)),.d (.v (.bool b))] e0 (.d (.v (.bool (a != b)))):=
 does_lit2 rfl fun o w ev ho h1 h2=>exec_eq ho h1 h2 (guard_form _ _ rfl) (run_eq (b:=a == b) (fun d=>by simp[Op.equalIn,run_underlying (isBoolT_out h)]) (ne_form _ _ rfl) rfl)
theorem eqP {i k:Nat} (h:isPtrT P t=true):Does P (.binOp .eql t x y t') ty L n [.ptr i k,.d (.v (.pointer none))] e0 (.d (.v (.bool false))):=
 does_ra2 rfl fun o w F ρ ev u v ho h1 h2 hu hv=>by
  obtain⟨e,he⟩:=isPtrT_out h
  have:=hv.v_out
  subst this
  cases hu
  exact exec_eq ho h1 h2 (guard_form _ _ rfl) (run_eq (b:=false) (fun d=>by simp[Op.equalIn,run_underlying he]) (eq_form _ _ rfl) rfl)
theorem neP {i k:Nat} (h:isPtrT P t=true):Does P (.binOp .neq t x y t') ty L n [.ptr i k,.d (.v (.pointer none))] e0 (.d (.v (.bool true))):=
 does_ra2 rfl fun o w F ρ ev u v ho h1 h2 hu hv=>by
  obtain⟨e,he⟩:=isPtrT_out h
  have:=hv.v_out
  subst this
  cases hu
  exact exec_eq ho h1 h2 (guard_form _ _ rfl) (run_eq (b:=false) (fun d=>by simp[Op.equalIn,run_underlying he]) (ne_form _ _ rfl) rfl)
theorem eqN (h:isPtrT P t=true):Does P (.binOp .eql t x y t') ty L n [.d (.v (.pointer none)),.d (.v (.pointer none))] e0 (.d (.v (.bool true))):=
 does_lit2 rfl fun o w ev ho h1 h2=>by
  obtain⟨e,he⟩:=isPtrT_out h
  exact exec_eq ho h1 h2 (guard_form _ _ rfl) (run_eq (b:=true) (fun d=>by simp[Op.equalIn,run_underlying he]) (eq_form _ _ rfl) rfl)
end
section
variable {P:Program} {w w':World} {F F':Nat→Prop} {ρ ρ':Nat→Option Value} {H:Hp} {L:List AObj} {ty n:Nat} {x y:Operand} {t t':TypeId}
end
end Go.Proofs.YtfbfpnfgabamfaaGreat
namespace Go.Proofs.YtfbfpnfgabamfaaGreat
set_option linter.unusedSimpArgs false
set_option linter.unusedVariables false
open Go.RowKit Go.Sort
section
variable {P:Program} {L:List AObj} {ty n:Nat} {x y:Operand} {t t':TypeId} {a b:ByteArray}
theorem toList_inj {a b:ByteArray} (h:a.toList=b.toList):a=b:=by
 rw[ByteArray.toList_eq,ByteArray.toList_eq] at h
 obtain⟨⟨a⟩⟩:=a
 obtain⟨⟨b⟩⟩:=b
 have h:a=b:=h
 rw[h]
theorem toList_beq (a b:ByteArray):(a.toList == b.toList)=decide (a=b):=by
 rw[Bool.eq_iff_iff,beq_iff_eq,decide_eq_true_eq]
 exact⟨toList_inj,fun h=>by rw[h]⟩
theorem toList_leq (a b:ByteArray):(decide (a.toList<b.toList) || decide (a=b)) = !decide (b.toList<a.toList):=by
 rw[Bool.eq_iff_iff]
 simp only[Bool.or_eq_true,decide_eq_true_eq,Bool.not_eq_true',decide_eq_false_iff_not]
 constructor
 ·rintro (h|rfl)
  ·exact fun q=>List.lt_irrefl _ (List.lt_trans h q)
  ·exact List.lt_irrefl _
 ·intro h
  have h:=List.not_lt.1 h
  by_cases e:a=b
  ·exact .inr e
  ·refine .inl ?_
   by_cases q:a.toList<b.toList
   ·exact q
   ·exact absurd (toList_inj (List.le_antisymm h (List.not_lt.1 q))) e
theorem str_op {op:BinOp} {c:Bool} (h:(Op.stringOp op a b)=pure (.bool c)) (hb:binOp op t (.string a) (.string b)=Op.stringOp op a b):Does P (.binOp op t x y t') ty L n [.d (.v (.string a)),.d (.v (.string b))] e0 (.d (.v (.bool c))):=
 does_lit2 rfl fun o w ev ho h1 h2=>exec_eq ho h1 h2 (guard_form _ _ rfl) (by rw[hb,h];rfl)
theorem eqT:Does P (.binOp .eql t x y t') ty L n [.d (.v (.string a)),.d (.v (.string b))] e0 (.d (.v (.bool (decide (a=b))))):=
 str_op (by rw[←toList_beq];rfl) rfl
theorem neT:Does P (.binOp .neq t x y t') ty L n [.d (.v (.string a)),.d (.v (.string b))] e0 (.d (.v (.bool (!decide (a=b))))):=
 str_op (by rw[←toList_beq];rfl) rfl
theorem ltT:Does P (.binOp .lss t x y t') ty L n [.d (.v (.string a)),.d (.v (.string b))] e0 (.d (.v (.bool (decide (a.toList<b.toList))))):=
 str_op (by rw[←bytesLess_eq];rfl) rfl
theorem geT:Does P (.binOp .geq t x y t') ty L n [.d (.v (.string a)),.d (.v (.string b))] e0 (.d (.v (.bool (!decide (a.toList<b.toList))))):=
 str_op (by rw[←bytesLess_eq];rfl) rfl
theorem gtT:Does P (.binOp .gtr t x y t') ty L n [.d (.v (.string a)),.d (.v (.string b))] e0 (.d (.v (.bool (decide (b.toList<a.toList))))):=
 str_op (by
  have h:=toList_leq a b
  have e:decide (b.toList<a.toList) = !(decide (a.toList<b.toList) || decide (a=b)):=by rw[h,Bool.not_not]
  rw[e,←bytesLess_eq,←toList_beq];rfl) rfl
end
end Go.Proofs.YtfbfpnfgabamfaaGreat
namespace Go.Proofs.YtfbfpnfgabamfaaGreat
set_option linter.unusedSimpArgs false
set_option linter.unusedVariables false
theorem ft {p:Prop}:false=true→p:=fun h=>Bool.noConfusion h
theorem tf':¬(true=false):=fun h=>Bool.noConfusion h
theorem ft':¬(false=true):=fun h=>Bool.noConfusion h
theorem T0:True:=True.intro
theorem Ya {a b:Prop} (h:a) (k:b):a∧b:=⟨h,k⟩
theorem Yd {a b p q:Prop} (h:a→p) (n:¬b:=by first|exact tf'|decide):(a→p)∧(b→q):=⟨h,fun k=>absurd k n⟩
theorem Ye {a b p q:Prop} (h:b→q) (n:¬a:=by first|exact ft'|decide):(a→p)∧(b→q):=⟨fun k=>absurd k n,h⟩
theorem Yg {a b:Prop} (k:b) (h:a:=by first|kernel_rfl|decide):a∧b:=⟨h,k⟩
theorem Yk {α β:Type} {p q:α→β→Prop} {a:α} {b:β} (c:p a b) (k:q a b):∃ a b,p a b∧q a b:=⟨a,b,c,k⟩
theorem Yr {a:Prop} (h:a:=by kernel_rfl):a:=h
theorem outL:(∀ (p:Prop) [Decidable p],(decide p=true)=p)∧(∀ (p:Prop) [Decidable p],(decide p=false)↔¬p)∧(∀ b:Bool,((!b)=true)=(b=false))∧(∀ b:Bool,((!b)=false)=(b=true))∧(∀ b:Bool,(¬b=true)=(b=false))∧(∀ b:Bool,(¬b=false)=(b=true))∧(∀ {α:Type} [BEq α] [LawfulBEq α] {a b:α},(a == b)=true↔a=b)∧(∀ {α:Type} [BEq α] [LawfulBEq α] {a b:α},(a != b)=true↔a≠b)∧(∀ {α:Type} [BEq α] [LawfulBEq α] {a b:α},(a == b)=false↔a≠b)∧(∀ {α:Type} [BEq α] [LawfulBEq α] {a b:α},(a != b)=false↔a=b)∧(∀ {α:Type} (a b:α),(a≠b)=¬a=b)∧(∀ (p:Prop) [Decidable p],¬¬p↔p):=
 ⟨fun p _=>decide_eq_true_eq,fun p _=>decide_eq_false_iff_not,fun b=>Bool.not_eq_true' b,fun b=>Bool.not_eq_false' b,fun b=>Bool.not_eq_true b,fun b=>Bool.not_eq_false b,beq_iff_eq,bne_iff_ne,beq_eq_false_iff_ne,bne_eq_false_iff_eq,fun a b=>ne_eq a b,fun p _=>Decidable.not_not⟩
theorem hm0:Tryz.prog.follows .mixedOrders=true:=by kernel_rfl
def E0 (g:Nat):Bool:=Nat.blt g 134 && !(Nat.beq g 0) && !(Nat.beq g 1) && !(Nat.beq g 126)
theorem E0_all:((List.range 134).all fun g=>!(E0 g) || entersB Tryz.prog g)=true:=by kernel_rfl
theorem hE0:∀ g,E0 g=true→entersB Tryz.prog g=true:=fun g h=>by
 have hlt:g<134:=by simp[E0,Nat.blt_eq] at h;omega
 have:=List.all_eq_true.1 E0_all g (List.mem_range.2 hlt)
 simpa [h] using this
theorem Vq {g:FuncId} {fn:Func} {c:Code} {args:List AV} {H H':List AObj} {r:AV} (hf:Tryz.prog.funcs[g]?=some fn) (hb:fn.body=some c) (hn:Nat.ble args.length fn.ntmps=true) (h:vcCode Tryz.prog (tiOf Tryz.prog) E0 fn.ntmps c H.length false (params 0 args) H (retK (tiOf Tryz.prog) fn.results.toList H.length r H')):Sat Tryz.prog g args H r H':=
 sat_of_vc (T:=tiOf Tryz.prog) (E:=E0) hf hb rfl hE0 hm0 hn h
end Go.Proofs.YtfbfpnfgabamfaaGreat
namespace Go.Proofs.YtfbfpnfgabamfaaGreat
set_option linter.unusedSimpArgs false
set_option linter.unusedVariables false
open Go.ChangeShapes Go.WideShapes Go.ChangeAt Go.RowKit
section
variable {H:Type} {enc:TypeId × Value→H} {P:Program}
theorem trodAll_below (hl:laidOutB P=true) {W W':World} (hb:Below W.heap.size W W'):∀ {ts:List TypeId},(ts.all fun t=>P.readableRec t && decide (t<P.types.size))=true→∀ {vs:List Value} {ds:List (DataW H)} {ps:List MemPlace},
  DataW.TrodAll enc P W 0 (fun _=>true) true ts vs ds ps→DataW.TrodAll enc P W' 0 (fun b=>decide (b<W.heap.size)) true ts vs ds ps:=by
 intro ts
 induction ts with
 |nil=>
  intro _ vs ds ps h
  obtain⟨rfl,rfl,rfl⟩:=trodAll_nil h
  exact trodAll_mk0
 |cons t ts ih=>
  intro hts vs ds ps h
  obtain⟨v,vs',d,ds',p,q,rfl,rfl,rfl,h0,r0⟩:=trodAll_cons h
  simp only[List.all_cons,Bool.and_eq_true,decide_eq_true_eq] at hts
  have lt0:∀ x∈p,x.block<W.heap.size:=by obtain⟨m,hm⟩:=h0;exact DataW.trod_lt m _ _ _ hm
  refine trodAll_cons_mk (Below.trod hl hts.1.1 hts.1.2 h0 hb lt0) (ih ?_ r0)
  simpa using hts.2
theorem trodAll_length {w:World} {base:Nat} {spare:Nat→Bool} {held:Bool}:∀ {ts:List TypeId} {vs:List Value} {ds:List (DataW H)} {ps:List MemPlace},DataW.TrodAll enc P w base spare held ts vs ds ps→ds.length=ts.length:=by
 intro ts
 induction ts with
 |nil=>
  intro vs ds ps h
  obtain⟨rfl,rfl,rfl⟩:=trodAll_nil h
  rfl
 |cons t ts ih=>
  intro vs ds ps h
  obtain⟨v,vs',d,ds',p,q,rfl,rfl,rfl,h0,r0⟩:=trodAll_cons h
  simp[ih r0]
def LawWalk (H:Type) (enc:TypeId × Value→H) (P:Program) (F:FuncId) (fn:Func):Prop:=
 ∀ (W:World) (base:Nat) (args:Array Value) (ds:List (DataW H)) (p:List MemPlace),
  (∀ (j:Nat) t v,fn.params[j]?=some t→args[j]?=some v→Value.okWide P W .any base t v) →
  DataW.TrodAll enc P W 0 (fun _=>true) true fn.params.toList args.toList ds p →
  (DataW.weightsEach P fn.params.toList ds).all (·≤reachBytes)=true →
  Calls P F args W fun e W'=>e=.returned (.bool true)∧Below W.heap.size W W'
theorem lift_law {C:Checked} {os:Os} {F:FuncId} {fn:Func} {s:ChangeSpec} {bT:TypeId} (laid:laidOutB C.prog=true) (own:ownKnob C.prog.godebug=none) (started:os.Started) (noInit:C.prog.inits.idxOf? F=none)
  (hfn:C.prog.funcs[F]?=some fn) (hts:(fn.params.toList.all fun t=>C.prog.readableRec t && decide (t<C.prog.types.size))=true) (hbT:C.prog.underlying bT=some .bool) (hres:fn.resultTypes=#[bT])
  (hvars:s.vars=[]) (hs:∀ ds:List (DataW H),ds.length=fn.params.toList.length→s.fn H ds={ results:=[.lit (.bool true)],args:=ds })
  (witness:∃ (w:World) (tape:Tape) (i:Input),w.os=os∧(w.forCall tape i).Shaped C.prog∧i.vars=[]∧Input.okWide C.prog (w.forCall tape i) .any w.heap.size F i ∧
   s.pre6 enc C.prog fn [] false (w.forCall tape i).memory i.args∧Assume.holds {} C.prog (lone (Frame.enter C.prog F i.args .normal) [] (w.forCall tape i)))
  (walk:LawWalk H enc C.prog F fn) :
  ReturnsInHanded {} C os F .any (s.pre6 enc C.prog fn [] false) (s.post enc C.prog fn false true false false):=by
 refine returnsInHanded_of_change_sized own started noInit hfn witness ?_
 intro W base args ds gs before hval hW _ hsz _
 have hW':=hW
 obtain⟨p,q,hA,hV,rfl,hfz,hnd⟩:=hW
 rw[hvars] at hV
 obtain⟨rfl,rfl⟩:=trodVars_none hV
 have hvt:s.plain.varTypes C.prog=[]:=by simp[ChangeSpec.plain,DataSpec.varTypes,hvars]
 rw[hvt,List.append_nil,List.append_nil] at hsz
 refine (walk W base args ds p hval hA hsz).mono fun e W' ⟨he,bel⟩=>?_
 subst he
 have hd:=trodAll_length hA
 have hsp:=hs ds hd
 refine⟨_,rfl,ds,[],p++[],[],p,[],hW',?_,?_,?_,bel.frame _,fun h=>by cases h⟩
 ·rw[List.append_nil,hsp,hres]
  exact trodAll_mk1 (shut_bool hbT _)
 ·rw[List.append_nil,hsp]
  exact trodAll_below laid bel hts hA
 ·rw[List.append_nil,hsp,hvars]
  rfl
end
section
variable {H:Type} {enc:TypeId × Value→H} {P:Program} {w:World}
end
def tileB (P:Program):List Field→Nat→Nat→Bool
 |[],o,tot=>Nat.beq o tot
 |f::r,o,tot=>Nat.beq f.offset o && tileB P r (o+P.cellsOf f.type) tot
def supB (P:Program):Nat→TypeId→Bool
 |0,_=>false
 |m+1,t=>match P.underlying t with
  |some .bool=>true
  |some (.int _)=>true
  |some .string=>true
  |some (.slice e)=>supB P m e && Nat.blt 0 (P.cellsOf e)
  |some (.struct fs)=>tileB P fs.toList 0 (P.cellsOf t) && fs.toList.all fun f=>supB P m f.type
  |some (.array n e)=>supB P m e && Nat.beq (n*P.cellsOf e) (P.cellsOf t)
  |_=>false
def TyAll (p:TypeId→List D→Prop):List TypeId→List (List D)→Prop
 |[],dss=>dss=[]
 |t::ts,dss=>∃ d r,dss=d::r∧p t d∧TyAll p ts r
def TyB (p:TypeId→List D→Prop) (P:Program) (t:TypeId) (ds:List D):Prop:=
 match P.underlying t with
  |some .bool=>∃ b,ds=[.v (.bool b)]
  |some (.int k)=>∃ z,ds=[.v (.int k z)]∧(Lit.int k z).wf=true
  |some .string=>∃ s,ds=[.v (.string s)]∧s.size≤reachBytes
  |some (.slice e)=>∃ rows,ds=[.sl (P.cellsOf e) rows]∧(∀ r∈rows,p e r)∧rows.length*P.bytesOf e≤reachBytes
  |some (.struct fs)=>∃ dss,ds=dss.flatten∧TyAll p (fs.toList.map (·.type)) dss
  |some (.array n e)=>∃ dss:List (List D),ds=dss.flatten∧dss.length=n∧∀ d∈dss,p e d
  |_=>False
def Ty (P:Program):Nat→TypeId→List D→Prop
 |0=>fun _ _=>False
 |m+1=>TyB (Ty P m) P
theorem Ty.of {P:Program} {m:Nat} {t:TypeId} {ds:List D} {d:TypeDesc} (hu:P.underlying t=some d) (h:P.underlying t=some d→TyB (Ty P m) P t ds):Ty P (m+1) t ds:=h hu
section
variable {H:Type} {enc:TypeId × Value→H} {P:Program} {w:World} {base:Nat}
theorem mapM_get {α β:Type} {f:α→Option β}:∀ {l:List α} {ys:List β},l.mapM f=some ys→ys.length=l.length∧∀ (i:Nat) (x:α),l[i]?=some x→∃ y,ys[i]?=some y∧f x=some y
 |[],ys,h=>by simp at h;subst h;exact⟨rfl,fun i x h=>by simp at h⟩
 |a::l,ys,h=>by
  simp only[List.mapM_cons,Option.bind_eq_bind,Option.pure_def,Option.bind_eq_some_iff,Option.some.injEq] at h
  obtain⟨y,h1,zs,h2,rfl⟩:=h
  obtain⟨h3,h4⟩:=mapM_get h2
  refine⟨by simp[h3],fun i x hx=>?_⟩
  cases i with
  |zero=>simp at hx;subst hx;exact⟨y,rfl,h1⟩
  |succ i=>simpa using h4 i x (by simpa using hx)
def Fall (w:World) (b:Nat):Prop:=b<w.heap.size
theorem weightsAll_mem {e:TypeId}:∀ {ds:List (DataW H)} {d:DataW H},d∈ds→∀ x∈d.weights P e,x∈DataW.weightsAll P e ds
 |[],_,h,_,_=>by simp at h
 |a::r,d,h,x,hx=>by
  rw[DataW.weightsAll]
  rcases List.mem_cons.1 h with e|e
  ·subst e;exact List.mem_append_left _ hx
  ·exact List.mem_append_right _ (weightsAll_mem e x hx)
theorem weightsEach_mem:∀ {ts:List TypeId} {ds:List (DataW H)} {i:Nat} {t:TypeId} {d:DataW H},ts[i]?=some t→ds[i]?=some d→∀ x∈d.weights P t,x∈DataW.weightsEach P ts ds
 |[],_,_,_,_,h,_,_,_=>by simp at h
 |_::_,[],_,_,_,_,h,_,_=>by simp at h
 |t0::ts,d0::ds,0,t,d,h1,h2,x,hx=>by
  simp at h1 h2;subst h1 h2
  rw[DataW.weightsEach];exact List.mem_append_left _ hx
 |t0::ts,d0::ds,i+1,t,d,h1,h2,x,hx=>by
  rw[DataW.weightsEach];exact List.mem_append_right _ (weightsEach_mem (by simpa using h1) (by simpa using h2) x hx)
theorem tile_out {p:TypeId→List D→Prop} {F:Nat→Prop}:∀ {fs:List Field} {o:Nat} {cs:List Value},tileB P fs o cs.length=true →
  (∀ f∈fs,∃ ds,RDs w F ds ((cs.drop f.offset).take (P.cellsOf f.type))∧p f.type ds)→∃ dss,RDs w F dss.flatten (cs.drop o)∧TyAll p (fs.map (·.type)) dss
 |[],o,cs,h,_=>by
  have:=Nat.eq_of_beq_eq_true h
  subst this
  exact⟨[],by simpa using RDs.nil,rfl⟩
 |f::r,o,cs,h,hf=>by
  simp only[tileB,Bool.and_eq_true] at h
  have:=Nat.eq_of_beq_eq_true h.1
  subst this
  obtain⟨ds,h1,h2⟩:=hf f (List.mem_cons_self ..)
  obtain⟨dss,h3,h4⟩:=tile_out h.2 fun g hg=>hf g (List.mem_cons_of_mem _ hg)
  refine⟨ds::dss,?_,ds,dss,rfl,h2,h4⟩
  rw[List.flatten_cons]
  have:=h1.app h3
  rw[←List.drop_drop,List.take_append_drop] at this
  exact this
theorem tile_arr {p:List D→Prop} {F:Nat→Prop} {s:Nat}:∀ {n:Nat} {cs:List Value},cs.length=n*s→(∀ i,i<n→∃ ds,RDs w F ds ((cs.drop (i*s)).take s)∧p ds)→∃ dss:List (List D),RDs w F dss.flatten cs∧dss.length=n∧∀ d∈dss,p d
 |0,cs,hl,_=>by
  have:cs=[]:=List.eq_nil_of_length_eq_zero (by simpa using hl)
  subst this
  exact⟨[],.nil,rfl,by simp⟩
 |n+1,cs,hl,h=>by
  obtain⟨ds,h1,h2⟩:=h 0 (by omega)
  have hl':(cs.drop s).length=n*s:=by rw[List.length_drop,hl,Nat.add_mul];omega
  obtain⟨dss,h3,h4,h5⟩:=tile_arr hl' fun i hi=>by
   obtain⟨ds,h1,h2⟩:=h (i+1) (by omega)
   exact⟨ds,by rw[List.drop_drop,show s+i*s=(i+1)*s by rw[Nat.add_mul];omega];exact h1,h2⟩
  refine⟨ds::dss,?_,by simp[h4],fun d hd=>(List.mem_cons.1 hd).elim (fun e=>e ▸ h2) (h5 d)⟩
  rw[List.flatten_cons]
  have:=h1.app h3
  simp only[Nat.zero_mul,List.drop_zero] at this
  rw[List.take_append_drop] at this
  exact this
theorem cells?_get {a:Addr} {n:Nat} {cs:List Value} (h:w.cells? 0 a n=some cs):cs.length=n∧∀ j (hj:j<cs.length),w.cell? (a.add j)=some cs[j]:=by
 unfold World.cells? at h
 simp only[Nat.zero_le,if_true] at h
 obtain⟨h1,h2⟩:=mapM_get h
 simp at h1
 refine⟨h1,fun j hj=>?_⟩
 obtain⟨y,h3,h4⟩:=h2 j j (by rw[List.getElem?_range (by omega)])
 rw[List.getElem?_eq_getElem hj] at h3
 injection h3 with h3
 rw[h3];exact h4
theorem trod_ty:∀ (m:Nat) (t:TypeId) (fuel:Nat) (cs:List Value) (d:DataW H) (ps:List MemPlace),supB P m t=true→DataW.trod enc P w 0 (fun _=>true) true fuel t cs=some (d,ps)→(∀ x∈d.weights P t,x≤reachBytes) →
  ∃ ds,RDs w (Fall w) ds cs∧Ty P m t ds
 |0,t,_,_,_,_,hs,_,_=>by simp[supB] at hs
 |m+1,t,0,_,_,_,_,h,_=>by simp[DataW.trod] at h
 |m+1,t,fuel+1,cs,d,ps,hs,h,hw=>by
  rw[supB] at hs
  cases hu:P.underlying t with
  |none=>rw[hu] at hs;cases hs
  |some dsc=>
   rw[hu] at hs
   cases dsc<;>try (simp at hs;done)
   case bool=>
    unfold DataW.trod at h
    simp only[hu] at h
    split at h<;>try (simp at *;done)
    rename_i b _
    exact⟨[.v (.bool b)],.cons (.v _) rfl .nil,by show TyB _ P t _;unfold TyB;rw[hu];exact⟨b,rfl⟩⟩
   case int k=>
    unfold DataW.trod at h
    simp only[hu] at h
    split at h<;>try (simp at *;done)
    rename_i k' k'' n e
    injection e with e;injection e with e;subst e
    split at h
    ·rename_i hc
     obtain⟨rfl,hwf⟩:=hc
     exact⟨[.v (.int _ n)],.cons (.v _) rfl .nil,by show TyB _ P t _;unfold TyB;rw[hu];exact⟨n,rfl,hwf⟩⟩
    ·cases h
   case string=>
    unfold DataW.trod at h
    simp only[hu] at h
    split at h<;>try (simp at *;done)
    rename_i s _
    split at h
    ·injection h with h;injection h with h1 h2;subst h1
     refine⟨[.v (.string s)],.cons (.v _) rfl .nil,by show TyB _ P t _;unfold TyB;rw[hu];exact⟨s,rfl,hw s.size (by simp[DataW.weights])⟩⟩
    ·cases h
   case slice e=>
    simp only[Bool.and_eq_true,Nat.blt_eq] at hs
    unfold DataW.trod at h
    simp only[hu] at h
    split at h<;>try (simp at *;done)
    ·exact⟨[.sl (P.cellsOf e) []],.cons (.sl rfl (by simp) (Nat.le_refl _) (by simp[maxLen]) .nil (fun h=>absurd h (by simp))) rfl .nil,by show TyB _ P t _;unfold TyB;rw[hu];exact⟨[],rfl,by simp,by simp⟩⟩
    ·rename_i e' a len cap he
     injection he with he;injection he with he;subst he
     split at h
     ·rename_i hc
      simp only[Option.bind_eq_some_iff,Option.map_eq_some_iff,if_true] at h
      obtain⟨elems,h1,rest,h2,h3⟩:=h
      injection h3 with h3 h4
      subst h3
      obtain⟨g1,g2⟩:=mapM_get h1
      simp at g1
      have hel:∀ i,i<len→∃ r,RDs w (Fall w) r (((List.range (P.cellsOf e)).map fun j=>(w.cell? (a.add (i*P.cellsOf e+j))).getD undef))∧Ty P m e r∧r.length=P.cellsOf e∧∀ j,j<P.cellsOf e→(w.cell? (a.add (i*P.cellsOf e+j))).isSome=true:=by
       intro i hi
       obtain⟨y,q1,q2⟩:=g2 i i (by rw[List.getElem?_range hi])
       simp only[Option.bind_eq_some_iff] at q2
       obtain⟨cs',q3,q4⟩:=q2
       obtain⟨q5,q6⟩:=cells?_get q3
       have hcell:∀ j (hj:j<cs'.length),w.cell? (a.add (i*P.cellsOf e+j))=some cs'[j]:=fun j hj=>by
        rw[←q6 j hj]
        congr 1
        obtain⟨b,off,sp⟩:=a
        unfold Addr.add
        split<;>split<;>split<;>simp_all<;>omega
       obtain⟨r,q7,q8⟩:=trod_ty m e fuel cs' y.1 y.2 hs.1 q4 (fun x hx=>hw x (by
        simp only[DataW.weights,hu]
        exact List.mem_cons_of_mem _ (List.mem_append_left _ (weightsAll_mem (List.mem_map.2 ⟨y,List.mem_of_getElem? q1,rfl⟩) x hx))))
       have hcs:((List.range (P.cellsOf e)).map fun j=>(w.cell? (a.add (i*P.cellsOf e+j))).getD undef)=cs':=by
        apply List.ext_getElem (by simp[q5])
        intro j h1 h2
        simp[hcell j h2]
       exact⟨r,by rw[hcs];exact q7,q8,by rw[←q5];exact q7.length.symm,fun j hj=>by rw[hcell j (by omega)];rfl⟩
      have hcsl:((List.range (len*P.cellsOf e)).map fun j=>(w.cell? (a.add j)).getD undef).length=len*P.cellsOf e:=by simp
      obtain⟨dss,q1,q2,q3⟩:=tile_arr (w:=w) (F:=Fall w) (p:=fun d=>Ty P m e d∧d.length=P.cellsOf e) hcsl fun i hi=>by
       obtain⟨r,q1,q2,q3,q4⟩:=hel i hi
       refine⟨r,?_,q2,q3⟩
       have hmul:i*P.cellsOf e+P.cellsOf e≤len*P.cellsOf e:=by rw[←Nat.succ_mul];exact Nat.mul_le_mul_right _ hi
       have:(((List.range (len*P.cellsOf e)).map fun j=>(w.cell? (a.add j)).getD undef).drop (i*P.cellsOf e)).take (P.cellsOf e)=((List.range (P.cellsOf e)).map fun j=>(w.cell? (a.add (i*P.cellsOf e+j))).getD undef):=by
        apply List.ext_getElem (by simp;omega)
        intro j h1 h2
        simp
       rw[this];exact q1
      have hall:∀ j,j<len*P.cellsOf e→(w.cell? (a.add j)).isSome=true:=fun j hj=>by
       have hd:=Nat.div_add_mod j (P.cellsOf e)
       have hi:j / P.cellsOf e<len:=(Nat.div_lt_iff_lt_mul hs.2).2 hj
       obtain⟨_,_,_,_,q4⟩:=hel _ hi
       have:=q4 (j % P.cellsOf e) (Nat.mod_lt _ hs.2)
       rwa [show j / P.cellsOf e*P.cellsOf e+j % P.cellsOf e=j by rw[Nat.mul_comm];omega] at this
      have hbound:dss.length*P.bytesOf e≤reachBytes:=by
       rw[q2]
       have:=hw ((elems.map (·.1)).length*P.bytesOf e+(rest.map (·.1)).length*P.bytesOf e) (by simp[DataW.weights,hu,Nat.add_mul])
       simp only[List.length_map,g1] at this
       omega
      refine⟨[.sl (P.cellsOf e) dss],.cons (.sl q2 (fun r hr=>(q3 r hr).2) hc.2.1 hc.2.2 q1 fun hp=>?_) rfl .nil,by show TyB _ P t _;unfold TyB;rw[hu];refine⟨dss,rfl,fun r hr=>(q3 r hr).1,?_⟩;exact hbound⟩
      ·obtain⟨b,off,sp⟩:=a
       have h0:=hall 0 (Nat.mul_pos hp hs.2)
       obtain⟨u,hu0⟩:=Option.isSome_iff_exists.1 h0
       have hsp:sp=none:=by simpa [Addr.add] using World.cell?_spot hu0
       subst hsp
       refine⟨b,off,rfl,?_,fun j hj=>?_⟩
       ·rw[Addr.add_lit] at hu0
        exact World.block_lt_of_cell? w _ hu0
       ·rw[hcsl] at hj
        have:=hall j hj
        rw[Addr.add_lit] at this
        obtain⟨u,hu⟩:=Option.isSome_iff_exists.1 this
        simp[Addr.add_lit,hu]
     ·cases h
   case struct fs=>
    simp only[Bool.and_eq_true,List.all_eq_true] at hs
    unfold DataW.trod at h
    simp only[hu] at h
    split at h
    ·rename_i hlen
     simp only[Option.map_eq_some_iff] at h
     obtain⟨xs,h1,h2⟩:=h
     injection h2 with h2 h3
     subst h2
     obtain⟨g1,g2⟩:=mapM_get h1
     obtain⟨dss,q1,q2⟩:=tile_out (w:=w) (F:=Fall w) (P:=P) (p:=Ty P m) (cs:=cs) (by rw[hlen];exact hs.1) fun f hf=>by
      obtain⟨i,hi,rfl⟩:=List.getElem_of_mem hf
      obtain⟨y,q1,q2⟩:=g2 i _ (List.getElem?_eq_getElem hi)
      exact trod_ty m _ fuel _ y.1 y.2 (hs.2 _ hf) q2 fun x hx=>hw x (by
       simp only[DataW.weights,hu]
       exact weightsEach_mem (i:=i) (t:=fs.toList[i].type) (by rw[List.getElem?_map,List.getElem?_eq_getElem hi];rfl) (by rw[List.getElem?_map,q1];rfl) x hx)
     exact⟨dss.flatten,by simpa using q1,by show TyB _ P t _;unfold TyB;rw[hu];exact⟨dss,rfl,q2⟩⟩
    ·cases h
   case array n e=>
    simp only[Bool.and_eq_true] at hs
    unfold DataW.trod at h
    simp only[hu] at h
    split at h
    ·rename_i hlen
     simp only[Option.map_eq_some_iff] at h
     obtain⟨xs,h1,h2⟩:=h
     injection h2 with h2 h3
     subst h2
     obtain⟨g1,g2⟩:=mapM_get h1
     obtain⟨dss,q1,q2,q3⟩:=tile_arr (w:=w) (F:=Fall w) (p:=Ty P m e) (n:=n) (s:=P.cellsOf e) (cs:=cs) (by rw[hlen];exact (Nat.eq_of_beq_eq_true hs.2).symm) fun i hi=>by
      obtain⟨y,q1,q2⟩:=g2 i i (by rw[List.getElem?_range hi])
      exact trod_ty m _ fuel _ y.1 y.2 hs.1 q2 fun x hx=>hw x (by
       simp only[DataW.weights,hu]
       exact weightsAll_mem (List.mem_map.2 ⟨y,List.mem_of_getElem? q1,rfl⟩) x hx)
     exact⟨dss.flatten,q1,by show TyB _ P t _;unfold TyB;rw[hu];exact⟨dss,rfl,q2,q3⟩⟩
    ·cases h
def TyV (P:Program) (t:TypeId) (x:D):Prop:=
 match P.underlying t with
 |some (.struct _)=>∃ ds,x=.agg ds∧Ty P 9 t ds
 |some (.array _ _)=>∃ ds,x=.agg ds∧Ty P 9 t ds
 |_=>Ty P 9 t [x]
def ArgsTy (P:Program):List TypeId→List AV→Prop
 |[],aas=>aas=[]
 |t::ts,aas=>∃ x r,aas=.d x::r∧TyV P t x∧ArgsTy P ts r
theorem arg_tyV {t:TypeId} {v:Value} {d:DataW H} {ps:List MemPlace} (hs:supB P 9 t=true) (hok:Value.okWide P w .any base t v) (h:DataW.Trod enc P w 0 (fun _=>true) true t v d ps) (hw:∀ x∈d.weights P t,x≤reachBytes) :
  ∃ x,TyV P t x∧RD w (Fall w) x v:=by
 obtain⟨fuel,hf⟩:=h
 obtain⟨ds,h1,h2⟩:=trod_ty 9 t fuel _ d ps hs hf hw
 have hs0:=hs
 rw[supB] at hs
 have one:v.cells.toList=[v]→∃ x,ds=[x]∧RD w (Fall w) x v:=fun e=>by
  rw[e] at h1
  cases h1 with|cons h1 _ hr=>cases hr;exact⟨_,rfl,h1⟩
 cases hu:P.underlying t with
 |none=>rw[hu] at hs;cases hs
 |some dsc=>
  rw[hu] at hs
  have fin:v.cells.toList=[v]→(∀ x,Ty P 9 t [x]→TyV P t x)→∃ x,TyV P t x∧RD w (Fall w) x v:=fun e hx=>by
   obtain⟨x,rfl,hr⟩:=one e
   exact⟨x,hx x h2,hr⟩
  have agg:(∃ cs,v=.agg cs)→(∀ ds,Ty P 9 t ds→TyV P t (.agg ds))→∃ x,TyV P t x∧RD w (Fall w) x v:=fun⟨cs,e⟩ hx=>by
   subst e
   exact⟨.agg ds,hx ds h2,by simpa [Value.cells] using RD.agg h1⟩
  cases dsc<;>try (simp at hs;done)
  ·obtain⟨b,rfl⟩:=okWide_bool hu hok;exact fin rfl fun x hx=>by unfold TyV;rw[hu];exact hx
  ·obtain⟨b,rfl⟩:=okWide_int hu hok;exact fin rfl fun x hx=>by unfold TyV;rw[hu];exact hx
  ·obtain⟨b,rfl⟩:=okWide_string hu hok;exact fin rfl fun x hx=>by unfold TyV;rw[hu];exact hx
  ·obtain⟨a,l,c,rfl⟩:=okWide_slice hu hok;exact fin rfl fun x hx=>by unfold TyV;rw[hu];exact hx
  ·unfold Value.okWide at hok
   rw[hu] at hok
   obtain⟨cs,e,_⟩:=hok
   exact agg ⟨cs,e⟩ fun ds hd=>by unfold TyV;rw[hu];exact⟨ds,rfl,hd⟩
  ·unfold Value.okWide at hok
   rw[hu] at hok
   obtain⟨cs,e,_⟩:=hok
   exact agg ⟨cs,e⟩ fun ds hd=>by unfold TyV;rw[hu];exact⟨ds,rfl,hd⟩
theorem args_ty:∀ {ts:List TypeId} {vs:List Value} {ds:List (DataW H)} {ps:List MemPlace},(ts.all fun t=>supB P 9 t)=true→(∀ (j:Nat) (t:TypeId) (v:Value),ts[j]?=some t→vs[j]?=some v→Value.okWide P w .any base t v)→DataW.TrodAll enc P w 0 (fun _=>true) true ts vs ds ps→(∀ x∈DataW.weightsEach P ts ds,x≤reachBytes) →
  ∃ aas,ArgsTy P ts aas∧RAs w (Fall w) (fun _=>none) aas vs
 |[],vs,ds,ps,_,_,h,_=>by
  obtain⟨rfl,rfl,rfl⟩:=trodAll_nil h
  exact⟨[],rfl,.nil⟩
 |t::ts,vs,ds,ps,hs,hok,h,hw=>by
  obtain⟨v,vs',d,ds',p,q,rfl,rfl,rfl,h0,r0⟩:=trodAll_cons h
  simp only[List.all_cons,Bool.and_eq_true] at hs
  obtain⟨x,h1,h2⟩:=arg_tyV hs.1 (hok 0 t v rfl rfl) h0 fun y hy=>hw y (by rw[DataW.weightsEach];exact List.mem_append_left _ hy)
  obtain⟨aas,h3,h4⟩:=args_ty hs.2 (fun j t v h1 h2=>hok (j+1) t v (by simpa using h1) (by simpa using h2)) r0 fun y hy=>hw y (by rw[DataW.weightsEach];exact List.mem_append_right _ hy)
  exact⟨.d x::aas,⟨x,aas,rfl,h1,h3⟩,.cons (.d h2) h4⟩
theorem lawWalk_of_sat {F:FuncId} {fn:Func} (hs:(fn.params.toList.all fun t=>supB P 9 t)=true) (h:∀ aas,ArgsTy P fn.params.toList aas→Sat P F aas [] (.d (.v (.bool true))) []):LawWalk H enc P F fn:=by
 intro W base args ds p hok hT hw
 obtain⟨aas,h1,h2⟩:=args_ty hs (fun j t v h1 h2=>hok j t v (by simpa using h1) (by simpa using h2)) hT fun x hx=>by
  have:=List.all_eq_true.1 hw x hx
  simpa using this
 have En:Env (Fall W) (fun _=>none) (hp []) W:=⟨fun b h=>h,fun i _=>rfl,fun i o h=>by simp[hp] at h,fun i j o o' _ _ _ h=>by simp[hp] at h⟩
 have:=h aas h1 (Fall W) (fun _=>none) W args.toList En h2
 have e:args.toList.toArray=args:=by simp
 rw[e] at this
 refine this.mono ?_
 rintro en W' ⟨v,rfl,F',ρ',S,_,_,R⟩
 have:=R.v_out
 subst this
 exact⟨rfl,S.os,S.tape,S.output,S.size,fun b hb=>S.unch b hb fun⟨i,o,hh,h,_⟩=>by simp[hp] at h⟩
end
end Go.Proofs.YtfbfpnfgabamfaaGreat
namespace Go.Proofs.YtfbfpnfgabamfaaGreat
set_option linter.unusedSimpArgs false
set_option linter.unusedVariables false
open Go.RowKit
section
variable {P:Program} {t:TypeId} {x:D} {m:Nat} {ds:List D}
def in64 (z:Int):Prop:=-9223372036854775808≤z∧z≤9223372036854775807
theorem wf_i64 {z:Int} (h:(Lit.int .i64 z).wf=true):in64 z:=by
 simp only[Lit.wf,Bool.and_eq_true,decide_eq_true_eq] at h
 exact h
theorem tyv_one (h:TyV P t x) {d:TypeDesc} (hu:P.underlying t=some d) (h1:(match d with | .struct _=>false | .array _ _=>false|_=>true)=true):Ty P 9 t [x]:=by
 unfold TyV at h
 rw[hu] at h
 cases d<;>first|exact h|cases h1
theorem ty_int {k:IntKind} (h:TyV P t x) (hu:P.underlying t=some (.int k)):∃ z,x=.v (.int k z)∧(Lit.int k z).wf=true:=by
 have h:=tyv_one h hu rfl
 have h:TyB (Ty P 8) P t [x]:=h
 unfold TyB at h
 rw[hu] at h
 obtain⟨z,h1,h2⟩:=h
 injection h1 with h1
 exact⟨z,h1,h2⟩
theorem ty_i64 (h:TyV P t x) (hu:P.underlying t=some (.int .i64)):∃ z,x=.v (.int .i64 z)∧in64 z:=by
 obtain⟨z,h1,h2⟩:=ty_int h hu
 exact⟨z,h1,wf_i64 h2⟩
theorem ty_slice {e:TypeId} (h:TyV P t x) (hu:P.underlying t=some (.slice e)):∃ rows,x=.sl (P.cellsOf e) rows∧(∀ r∈rows,Ty P 8 e r)∧rows.length*P.bytesOf e≤reachBytes:=by
 have h:=tyv_one h hu rfl
 have h:TyB (Ty P 8) P t [x]:=h
 unfold TyB at h
 rw[hu] at h
 obtain⟨rows,h1,h2⟩:=h
 injection h1 with h1
 exact⟨rows,h1,h2⟩
theorem rows_map {α:Type} {f:α→List D} {p:α→Prop}:∀ {rows:List (List D)},(∀ r∈rows,∃ a,r=f a∧p a)→∃ l:List α,rows=l.map f∧∀ a∈l,p a
 |[],_=>⟨[],rfl,fun a h=>by simp at h⟩
 |r::rest,h=>by
  obtain⟨a,rfl,ha⟩:=h r (List.mem_cons_self ..)
  obtain⟨l,rfl,hl⟩:=rows_map (rows:=rest) fun r hr=>h r (List.mem_cons_of_mem _ hr)
  exact⟨a::l,rfl,fun b hb=>(List.mem_cons.1 hb).elim (fun e=>e ▸ ha) fun q=>hl b q⟩
end
end Go.Proofs.YtfbfpnfgabamfaaGreat
namespace Go.Proofs.YtfbfpnfgabamfaaGreat
set_option linter.unusedSimpArgs false
set_option linter.unusedVariables false
open Go.RowKit
set_option maxRecDepth 100000
abbrev iD (z:Int):D:=.v (.int .i64 z)
abbrev iA (z:Int):AV:=.d (.v (.int .i64 z))
abbrev bA (b:Bool):AV:=.d (.v (.bool b))
abbrev gR (g:Int × Int):List D:=[iD g.1,iD g.2]
abbrev gA (g:Int × Int):AV:=.d (.agg (gR g))
theorem map_get {α β:Type} {f:α→β} {l:List α} {k:Nat} {x:α} (h:l[k]?=some x):(l.map f)[k]?=some (f x):=by rw[List.getElem?_map,h];rfl
theorem map_take_succ {α β:Type} {f:α→β} {l:List α} {k:Nat} {x:α} (hx:l[k]?=some x):(l.take (k+1)).map f=(l.take k).map f++[f x]:=by
 rw[List.take_add_one,hx,List.map_append];rfl
end Go.Proofs.YtfbfpnfgabamfaaGreat
namespace Go.Proofs.YtfbfpnfgabamfaaGreat
set_option linter.unusedSimpArgs false
set_option linter.unusedVariables false
open Go.RowKit
set_option maxRecDepth 100000
set_option linter.unusedSectionVars false
abbrev Bt:=List UInt8
abbrev tD (l:Bt):D:=.v (.string ⟨l.toArray⟩)
theorem str_list (s:ByteArray):∃ l:Bt,(.v (.string s):D)=tD l:=by
 obtain⟨⟨l⟩⟩:=s
 exact⟨l,rfl⟩
theorem tsz (l:Bt):(⟨l.toArray⟩:ByteArray).size=l.length:=rfl
theorem tlist (l:Bt):(⟨l.toArray⟩:ByteArray).toList=l:=ByteArray.toList_eq _
theorem t_inj {a b:Bt}:(⟨a.toArray⟩:ByteArray)=⟨b.toArray⟩↔a=b:=⟨fun h=>by rw[←tlist a,←tlist b,h],fun h=>by rw[h]⟩
section
variable {P:Program} {L:List AObj} {ty n:Nat} {x y:Operand} {t t':TypeId} {a b:Bt} {z:UInt8} {k:Nat}
theorem eqL':Does P (.binOp .eql t x y t') ty L n [.d (tD a),.d (tD b)] e0 (bA (decide (a=b))):=by
 have:=eqT (P:=P) (L:=L) (ty:=ty) (n:=n) (x:=x) (y:=y) (t:=t) (t':=t') (a:=⟨a.toArray⟩) (b:=⟨b.toArray⟩)
 rwa [show decide ((⟨a.toArray⟩:ByteArray)=⟨b.toArray⟩)=decide (a=b) from decide_eq_decide.2 t_inj] at this
theorem neL':Does P (.binOp .neq t x y t') ty L n [.d (tD a),.d (tD b)] e0 (bA (!decide (a=b))):=by
 have:=neT (P:=P) (L:=L) (ty:=ty) (n:=n) (x:=x) (y:=y) (t:=t) (t':=t') (a:=⟨a.toArray⟩) (b:=⟨b.toArray⟩)
 rwa [show decide ((⟨a.toArray⟩:ByteArray)=⟨b.toArray⟩)=decide (a=b) from decide_eq_decide.2 t_inj] at this
theorem ltL':Does P (.binOp .lss t x y t') ty L n [.d (tD a),.d (tD b)] e0 (bA (decide (a<b))):=by
 have:=ltT (P:=P) (L:=L) (ty:=ty) (n:=n) (x:=x) (y:=y) (t:=t) (t':=t') (a:=⟨a.toArray⟩) (b:=⟨b.toArray⟩)
 rwa [tlist,tlist] at this
theorem gtL':Does P (.binOp .gtr t x y t') ty L n [.d (tD a),.d (tD b)] e0 (bA (decide (b<a))):=by
 have:=gtT (P:=P) (L:=L) (ty:=ty) (n:=n) (x:=x) (y:=y) (t:=t) (t':=t') (a:=⟨a.toArray⟩) (b:=⟨b.toArray⟩)
 rwa [tlist,tlist] at this
theorem geL':Does P (.binOp .geq t x y t') ty L n [.d (tD a),.d (tD b)] e0 (bA (!decide (a<b))):=by
 have:=geT (P:=P) (L:=L) (ty:=ty) (n:=n) (x:=x) (y:=y) (t:=t) (t':=t') (a:=⟨a.toArray⟩) (b:=⟨b.toArray⟩)
 rwa [tlist,tlist] at this
theorem ix_get {l:Bt} (hk:l[k]?=some z):∃ h:k<(⟨l.toArray⟩:ByteArray).size,(⟨l.toArray⟩:ByteArray)[k]'h=z:=by
 obtain⟨h1,h2⟩:=List.getElem?_eq_some_iff.1 hk
 exact⟨h1,h2⟩
end
def lowB (x:UInt8):Bool:=decide (97≤x.toNat) && decide (x.toNat≤122)
def nameC (x:UInt8):Bool:=lowB x || (decide (48≤x.toNat) && decide (x.toNat≤57)) || decide (x.toNat=95)
def nameL:Bt→Bool
 |[]=>false
 |x::r=>decide ((x::r).length≤64) && (lowB x && (x::r).all nameC)
theorem nameL_cons (x:UInt8) (r:Bt):nameL (x::r)=(decide ((x::r).length≤64) && (lowB x && (x::r).all nameC)):=rfl
def valC (x:UInt8):Bool:=decide (33≤x.toNat) && (decide (x.toNat≤126) && !(decide (x.toNat=44) || decide (x.toNat=61) || decide (x.toNat=123) || decide (x.toNat=125)))
def valueL (l:Bt):Bool:=decide (l.length≤64) && l.all valC
theorem all_tk {α:Type} {l:List α} {p:α→Bool} {i:Nat} (h:(l.take i).all p=true) (hl:l.length≤i):l.all p=true:=by rwa [List.take_of_length_le hl] at h
theorem all_nx {α:Type} {l:List α} {p:α→Bool} {i:Nat} {x:α} (h:(l.take i).all p=true) (hx:l[i]?=some x) (hp:p x=true):(l.take (i+1)).all p=true:=by
 rw[List.take_add_one,hx,List.all_append,h]
 simp[hp]
theorem all_not {α:Type} {l:List α} {p:α→Bool} {i:Nat} {x:α} (hx:l[i]?=some x) (hp:p x=false):l.all p=false:=by
 rw[List.all_eq_false]
 exact⟨x,List.mem_of_getElem? hx,by rw[hp];simp⟩
theorem nameC_true {x:UInt8} (h:nameC x=true):(97≤x.toNat∧x.toNat≤122)∨(48≤x.toNat∧x.toNat≤57)∨x.toNat=95:=by
 unfold nameC lowB at h
 simp only[Bool.or_eq_true,Bool.and_eq_true,decide_eq_true_eq] at h
 omega
theorem nameC_false {x:UInt8} (h:nameC x=false):¬(97≤x.toNat∧x.toNat≤122)∧¬(48≤x.toNat∧x.toNat≤57)∧x.toNat≠95:=by
 unfold nameC lowB at h
 simp only[Bool.or_eq_false_iff,Bool.and_eq_false_iff,decide_eq_false_iff_not] at h
 omega
set_option maxHeartbeats 4000000 in
theorem named_sat (l:Bt):Sat Tryz.prog 106 [.d (tD l)] [] (bA (nameL l)) []:=by
 have hs:=tsz l
 by_cases hn:1≤l.length∧l.length≤64
 case neg=>
  have e:nameL l=false:=by
   cases l with
   |nil=>rfl
   |cons x r=>
    have:¬(x::r).length≤64:=by simp at hn ⊢;omega
    rw[nameL_cons,decide_eq_false this];rfl
  rw[e]
  refine Vq Tryz.func106 rfl rfl ?_
  conv=>whnf
  iterate 3
   repeat' first|exact T0|(first|refine Yd fun _=>?_|refine Ye fun _=>?_|refine Yg ?_);conv=>whnf|(refine Ya ?_ ?_<;>intro _<;>conv=>whnf)
   all_goals try (exfalso;simp only[outL] at *;first|omega|contradiction|(simp_all;done)|(simp_all;omega))
   all_goals try (refine Or.inl ?_;conv=>whnf)
  all_goals refine⟨[],?_⟩
  repeat any_goals first|exact T0|exact rfl|exact Yr|refine Ya ?_ ?_
  all_goals conv=>whnf
 cases l with
 |nil=>simp at hn
 |cons x r=>
 have h0:(x::r)[0]?=some x:=rfl
 have e:nameL (x::r)=(lowB x && (x::r).all nameC):=by
  rw[nameL_cons,decide_eq_true hn.2];rfl
 generalize x::r=l at *
 obtain⟨q0,e0'⟩:=ix_get h0
 rw[e]
 cases hx:lowB x with
 |false=>
  have hx':¬(97≤x.toNat∧x.toNat≤122):=by
   unfold lowB at hx
   simp only[Bool.and_eq_false_iff,decide_eq_false_iff_not] at hx
   omega
  refine Vq Tryz.func106 rfl rfl ?_
  conv=>whnf
  iterate 3
   repeat' first|exact T0|(first|(refine⟨0,q0,rfl,?_⟩;rw[e0'])|refine Yd fun _=>?_|refine Ye fun _=>?_|refine Yg ?_);conv=>whnf|(refine Ya ?_ ?_<;>intro _<;>conv=>whnf)
   all_goals try (exfalso;simp only[outL] at *;first|omega|contradiction|(simp_all;done)|(simp_all;omega))
   all_goals try (refine Or.inl ?_;conv=>whnf)
  all_goals refine⟨[],?_⟩
  repeat any_goals first|exact T0|exact rfl|exact Yr|refine Ya ?_ ?_
  all_goals conv=>whnf
 |true=>
  have hx':97≤x.toNat∧x.toNat≤122:=by
   unfold lowB at hx
   simp only[Bool.and_eq_true,decide_eq_true_eq] at hx
   omega
  rw[Bool.true_and]
  refine Vq Tryz.func106 rfl rfl ?_
  conv=>whnf
  iterate 3
   repeat' first|exact T0|(first|(refine⟨0,q0,rfl,?_⟩;rw[e0'])|refine Yd fun _=>?_|refine Ye fun _=>?_|refine Yg ?_);conv=>whnf|(refine Ya ?_ ?_<;>intro _<;>conv=>whnf)
   all_goals try (exfalso;simp only[outL] at *;first|omega|contradiction|(simp_all;done)|(simp_all;omega))
   all_goals try (refine Or.inl ?_;conv=>whnf)
  refine⟨Nat,fun i=>i≤l.length∧(l.take i).all nameC=true,fun i=>([(3,iA i),(0,.d (tD l))],[]),fun i=>l.length-i,⟨0,⟨Nat.zero_le _,rfl⟩,?_⟩,?_⟩
  ·all_goals refine⟨[],?_⟩
   repeat any_goals first|exact T0|exact rfl|exact Yr|refine Ya ?_ ?_
   all_goals conv=>whnf
  rintro i ⟨hi,hI⟩
  conv=>whnf
  by_cases hlt:i<l.length
  ·have hz:l[i]?=some l[i]:=List.getElem?_eq_getElem hlt
   generalize l[i]=z at hz
   obtain⟨qz,ez⟩:=ix_get hz
   cases hc:nameC z with
   |true=>
    have hc':=nameC_true hc
    iterate 5
     repeat' first|exact T0|(first|(refine⟨i,qz,rfl,?_⟩;rw[ez])|refine Yd fun _=>?_|refine Ye fun _=>?_|refine Yg ?_);conv=>whnf|(refine Ya ?_ ?_<;>intro _<;>conv=>whnf)
     all_goals try (exfalso;simp only[outL] at *;first|omega|contradiction|(simp_all;done)|(simp_all;omega))
     all_goals try (refine Or.inl ?_;conv=>whnf)
    all_goals refine⟨i+1,⟨hlt,all_nx hI hz hc⟩,show l.length-(i+1)<l.length-i by omega,?_⟩
    all_goals refine⟨[],?_⟩
    repeat any_goals first|exact T0|exact rfl|exact Yr|refine Ya ?_ ?_
    all_goals conv=>whnf
    all_goals exact wk1 (by omega)
   |false=>
    have hc':=nameC_false hc
    rw[all_not hz hc] at *
    iterate 5
     repeat' first|exact T0|(first|(refine⟨i,qz,rfl,?_⟩;rw[ez])|refine Yd fun _=>?_|refine Ye fun _=>?_|refine Yg ?_);conv=>whnf|(refine Ya ?_ ?_<;>intro _<;>conv=>whnf)
     all_goals try (exfalso;simp only[outL] at *;first|omega|contradiction|(simp_all;done)|(simp_all;omega))
     all_goals try (refine Or.inl ?_;conv=>whnf)
    all_goals refine⟨[],?_⟩
    repeat any_goals first|exact T0|exact rfl|exact Yr|refine Ya ?_ ?_
    all_goals conv=>whnf
  ·rw[all_tk hI (by omega)]
   iterate 3
    repeat' first|exact T0|(first|refine Yd fun _=>?_|refine Ye fun _=>?_|refine Yg ?_);conv=>whnf|(refine Ya ?_ ?_<;>intro _<;>conv=>whnf)
    all_goals try (exfalso;simp only[outL] at *;first|omega|contradiction|(simp_all;done)|(simp_all;omega))
    all_goals try (refine Or.inl ?_;conv=>whnf)
   all_goals refine⟨[],?_⟩
   repeat any_goals first|exact T0|exact rfl|exact Yr|refine Ya ?_ ?_
   all_goals conv=>whnf
end Go.Proofs.YtfbfpnfgabamfaaGreat
namespace Go.Proofs.YtfbfpnfgabamfaaGreat
set_option linter.unusedSimpArgs false
set_option linter.unusedVariables false
open Go.RowKit
set_option maxRecDepth 100000
abbrev u8A (z:UInt8):AV:=.d (.v (.int .u8 (z.toNat:Int)))
abbrev ixB (l:Bt) (z:UInt8):Int:=Lib.indexByte l z
theorem u8_back (z:UInt8):((z.toNat:Int)).toNat.toUInt8=z:=by
 rw[Int.toNat_natCast]
 simp
theorem Sat.of_same' {P:Program} {g:FuncId} {args:List AV} {vals:List Value} {r:AV} {rv:Value} (ha:FlatWs args vals) (hr:FlatW r rv) (h:∀ w,Calls P g vals.toArray w fun e w'=>e=.returned rv∧w'=w):Sat P g args [] r []:=
 .of_same ha hr fun w=>(h w).mono fun e w' ⟨h1,h2⟩=>⟨h1,h2.symm⟩
theorem indexByte_sat (l:Bt) (z:UInt8):Sat Tryz.prog 127 [.d (tD l),u8A z] [] (iA (ixB l z)) []:=
 .of_same' (by repeat constructor) (by repeat constructor) fun w=>(Tryz.strings_IndexByte ⟨l.toArray⟩ (z.toNat:Int) w).mono fun e w' ⟨h1,h2⟩=>⟨by rw[h1,u8_back],h2⟩
abbrev Lab:=Bt × Bt
def labR (l:Lab):List D:=[tD l.1,tD l.2]
abbrev labD (l:Lab):D:=.agg (labR l)
def labB (l:Lab):Bool:=valueL l.2 && nameL l.1
def sep4:Bt:=[44,61,123,125]
theorem sep4_no {z:UInt8} (h:valC z=true):ixB sep4 z=-1:=by
 unfold valC at h
 simp only[Bool.and_eq_true,decide_eq_true_eq,Bool.not_eq_true',Bool.or_eq_false_iff,decide_eq_false_iff_not] at h
 have q:∀ c:UInt8,z.toNat≠c.toNat→(c == z)=false:=fun c hc=>by
  rw[beq_eq_false_iff_ne]
  rintro rfl
  exact hc rfl
 simp[ixB,sep4,Lib.indexByte,q 44 h.2.2.1.1.1,q 61 h.2.2.1.1.2,q 123 h.2.2.1.2,q 125 h.2.2.2]
theorem valC_true {z:UInt8} (h:valC z=true):33≤z.toNat∧z.toNat≤126∧z.toNat≠44∧z.toNat≠61∧z.toNat≠123∧z.toNat≠125:=by
 unfold valC at h
 simp only[Bool.and_eq_true,decide_eq_true_eq,Bool.not_eq_true',Bool.or_eq_false_iff,decide_eq_false_iff_not] at h
 omega
theorem valC_false {z:UInt8} (h:valC z=false):¬(33≤z.toNat∧z.toNat≤126)∨((33≤z.toNat∧z.toNat≤126)∧(z.toNat=44∨z.toNat=61∨z.toNat=123∨z.toNat=125)∧0≤ixB sep4 z):=by
 by_cases hr:33≤z.toNat∧z.toNat≤126
 ·right
  have h4:z.toNat=44∨z.toNat=61∨z.toNat=123∨z.toNat=125:=by
   unfold valC at h
   simp only[decide_eq_true hr.1,decide_eq_true hr.2,Bool.true_and,Bool.not_eq_false',Bool.or_eq_true,decide_eq_true_eq] at h
   omega
  refine⟨hr,h4,?_⟩
  have q:∀ c:UInt8,z.toNat=c.toNat→z=c:=fun c hc=>UInt8.toNat.inj hc
  rcases h4 with h4|h4|h4|h4
  ·rw[q 44 h4];decide
  ·rw[q 61 h4];decide
  ·rw[q 123 h4];decide
  ·rw[q 125 h4];decide
 ·exact .inl hr
set_option maxHeartbeats 4000000 in
theorem valid_sat (l:Lab):Sat Tryz.prog 107 [.d (labD l)] [] (bA (labB l)) []:=by
 obtain⟨nm,l⟩:=l
 have hs:=tsz l
 have ns:=named_sat nm
 by_cases hn:l.length≤64
 case neg=>
  have e:labB (nm,l)=false:=by
   show (valueL l && nameL nm)=false
   unfold valueL
   rw[decide_eq_false hn];rfl
  rw[e]
  refine Vq Tryz.func107 rfl rfl ?_
  conv=>whnf
  iterate 3
   repeat' first|exact T0|(first|refine Yd fun _=>?_|refine Ye fun _=>?_|refine Yg ?_);conv=>whnf|(refine Ya ?_ ?_<;>intro _<;>conv=>whnf)
   all_goals try (exfalso;simp only[outL] at *;first|omega|contradiction|(simp_all;done)|(simp_all;omega))
   all_goals try (refine Or.inl ?_;conv=>whnf)
  all_goals refine⟨[],?_⟩
  repeat any_goals first|exact T0|exact rfl|exact Yr|refine Ya ?_ ?_
  all_goals conv=>whnf
 have e:labB (nm,l)=(l.all valC && nameL nm):=by
  show (valueL l && nameL nm)=_
  unfold valueL
  rw[decide_eq_true hn];rfl
 rw[e]
 refine Vq Tryz.func107 rfl rfl ?_
 conv=>whnf
 iterate 3
  repeat' first|exact T0|(first|refine Yd fun _=>?_|refine Ye fun _=>?_|refine Yg ?_);conv=>whnf|(refine Ya ?_ ?_<;>intro _<;>conv=>whnf)
  all_goals try (exfalso;simp only[outL] at *;first|omega|contradiction|(simp_all;done)|(simp_all;omega))
  all_goals try (refine Or.inl ?_;conv=>whnf)
 refine⟨Nat,fun i=>i≤l.length∧(l.take i).all valC=true,fun i=>([(3,iA i),(1,.ptr 0 0)],[.cells [.d (tD nm),.d (tD l)]]),fun i=>l.length-i,⟨0,⟨Nat.zero_le _,rfl⟩,?_⟩,?_⟩
 ·all_goals refine⟨[],?_⟩
  repeat any_goals first|exact T0|exact rfl|exact Yr|refine Ya ?_ ?_
  all_goals conv=>whnf
 rintro i ⟨hi,hI⟩
 conv=>whnf
 by_cases hlt:i<l.length
 ·have hz:l[i]?=some l[i]:=List.getElem?_eq_getElem hlt
  generalize l[i]=z at hz
  obtain⟨qz,ez⟩:=ix_get hz
  have ib:=indexByte_sat sep4 z
  cases hc:valC z with
  |true=>
   have hc':=valC_true hc
   rw[sep4_no hc] at ib
   iterate 5
    repeat' first|exact T0|(first|(refine⟨i,qz,rfl,?_⟩;rw[ez])|refine Yd fun _=>?_|refine Ye fun _=>?_|refine Yg ?_|refine Yk (ib.pu rfl rfl) ?_);conv=>whnf|(refine Ya ?_ ?_<;>intro _<;>conv=>whnf)
    all_goals try (exfalso;simp only[outL] at *;first|omega|contradiction|(simp_all;done)|(simp_all;omega))
    all_goals try (refine Or.inl ?_;conv=>whnf)
   all_goals refine⟨i+1,⟨hlt,all_nx hI hz hc⟩,show l.length-(i+1)<l.length-i by omega,?_⟩
   all_goals refine⟨[],?_⟩
   repeat any_goals first|exact T0|exact rfl|exact Yr|refine Ya ?_ ?_
   all_goals conv=>whnf
   all_goals exact wk1 (by omega)
  |false=>
   have hc':=valC_false hc
   rw[all_not hz hc] at *
   iterate 5
    repeat' first|exact T0|(first|(refine⟨i,qz,rfl,?_⟩;rw[ez])|refine Yd fun _=>?_|refine Ye fun _=>?_|refine Yg ?_|refine Yk (ib.pu rfl rfl) ?_);conv=>whnf|(refine Ya ?_ ?_<;>intro _<;>conv=>whnf)
    all_goals try (exfalso;simp only[outL] at *;first|omega|contradiction|(simp_all;done)|(simp_all;omega))
    all_goals try (refine Or.inl ?_;conv=>whnf)
   all_goals refine⟨[],?_⟩
   repeat any_goals first|exact T0|exact rfl|exact Yr|refine Ya ?_ ?_
   all_goals conv=>whnf
 ·rw[all_tk hI (by omega),Bool.true_and]
  iterate 4
   repeat' first|exact T0|(first|refine Yd fun _=>?_|refine Ye fun _=>?_|refine Yg ?_|refine Yk (ns.pu rfl rfl) ?_);conv=>whnf|(refine Ya ?_ ?_<;>intro _<;>conv=>whnf)
   all_goals try (exfalso;simp only[outL] at *;first|omega|contradiction|(simp_all;done)|(simp_all;omega))
   all_goals try (refine Or.inl ?_;conv=>whnf)
  all_goals refine⟨[],?_⟩
  repeat any_goals first|exact T0|exact rfl|exact Yr|refine Ya ?_ ?_
  all_goals conv=>whnf
set_option maxHeartbeats 8000000 in
theorem rName_sat (l:Bt):Sat Tryz.prog 108 [.d (tD l)] [] (bA (nameL l)) []:=by
 have hs:=tsz l
 by_cases hn:1≤l.length∧l.length≤64
 case neg=>
  have e:nameL l=false:=by
   cases l with
   |nil=>rfl
   |cons x r=>
    have:¬(x::r).length≤64:=by simp at hn ⊢;omega
    rw[nameL_cons,decide_eq_false this];rfl
  rw[e]
  refine Vq Tryz.func108 rfl rfl ?_
  conv=>whnf
  iterate 3
   repeat' first|exact T0|(first|refine Yd fun _=>?_|refine Ye fun _=>?_|refine Yg ?_);conv=>whnf|(refine Ya ?_ ?_<;>intro _<;>conv=>whnf)
   all_goals try (exfalso;simp only[outL] at *;first|omega|contradiction|(simp_all;done)|(simp_all;omega))
   all_goals try (refine Or.inl ?_;conv=>whnf)
  all_goals refine⟨[],?_⟩
  repeat any_goals first|exact T0|exact rfl|exact Yr|refine Ya ?_ ?_
  all_goals conv=>whnf
 cases l with
 |nil=>simp at hn
 |cons x r=>
 have h0:(x::r)[0]?=some x:=rfl
 have e:nameL (x::r)=(lowB x && (x::r).all nameC):=by
  rw[nameL_cons,decide_eq_true hn.2];rfl
 generalize x::r=l at *
 rw[e]
 refine Vq Tryz.func108 rfl rfl ?_
 conv=>whnf
 iterate 3
  repeat' first|exact T0|(first|refine Yd fun _=>?_|refine Ye fun _=>?_|refine Yg ?_);conv=>whnf|(refine Ya ?_ ?_<;>intro _<;>conv=>whnf)
  all_goals try (exfalso;simp only[outL] at *;first|omega|contradiction|(simp_all;done)|(simp_all;omega))
  all_goals try (refine Or.inl ?_;conv=>whnf)
 refine⟨Nat,fun i=>i≤l.length∧(l.take i).all nameC=true∧(0<i→lowB x=true),fun i=>([(3,iA i),(0,.d (tD l))],[]),fun i=>l.length-i,⟨0,⟨Nat.zero_le _,rfl,fun h=>absurd h (by decide)⟩,?_⟩,?_⟩
 ·all_goals refine⟨[],?_⟩
  repeat any_goals first|exact T0|exact rfl|exact Yr|refine Ya ?_ ?_
  all_goals conv=>whnf
 rintro i ⟨hi,hI,hx⟩
 conv=>whnf
 by_cases hlt:i<l.length
 ·have hz:l[i]?=some l[i]:=List.getElem?_eq_getElem hlt
  generalize l[i]=z at hz
  obtain⟨qz,ez⟩:=ix_get hz
  by_cases hi0:i=0
  ·have hzx:z=x:=by rw[hi0,h0] at hz;injection hz with hz;exact hz.symm
   cases hc:lowB z with
   |true=>
    have hc':97≤z.toNat∧z.toNat≤122:=by
     unfold lowB at hc
     simp only[Bool.and_eq_true,decide_eq_true_eq] at hc
     exact hc
    have hc2:nameC z=true:=by unfold nameC;rw[hc];rfl
    have hx':lowB x=true:=by rw[←hzx];exact hc
    iterate 5
     repeat' first|exact T0|(first|(refine⟨i,qz,rfl,?_⟩;rw[ez])|refine Yd fun _=>?_|refine Ye fun _=>?_|refine Yg ?_);conv=>whnf|(refine Ya ?_ ?_<;>intro _<;>conv=>whnf)
     all_goals try (exfalso;simp only[outL] at *;first|omega|contradiction|(simp_all;done)|(simp_all;omega))
     all_goals try (refine Or.inl ?_;conv=>whnf)
    all_goals refine⟨i+1,⟨hlt,all_nx hI hz hc2,fun _=>hx'⟩,show l.length-(i+1)<l.length-i by omega,?_⟩
    all_goals refine⟨[],?_⟩
    repeat any_goals first|exact T0|exact rfl|exact Yr|refine Ya ?_ ?_
    all_goals conv=>whnf
    all_goals exact wk1 (by omega)
   |false=>
    have hc':¬(97≤z.toNat∧z.toNat≤122):=by
     unfold lowB at hc
     simp only[Bool.and_eq_false_iff,decide_eq_false_iff_not] at hc
     omega
    rw[←hzx,hc,Bool.false_and]
    iterate 5
     repeat' first|exact T0|(first|(refine⟨i,qz,rfl,?_⟩;rw[ez])|refine Yd fun _=>?_|refine Ye fun _=>?_|refine Yg ?_);conv=>whnf|(refine Ya ?_ ?_<;>intro _<;>conv=>whnf)
     all_goals try (exfalso;simp only[outL] at *;first|omega|contradiction|(simp_all;done)|(simp_all;omega))
     all_goals try (refine Or.inl ?_;conv=>whnf)
    all_goals refine⟨[],?_⟩
    repeat any_goals first|exact T0|exact rfl|exact Yr|refine Ya ?_ ?_
    all_goals conv=>whnf
  ·have hx:=hx (by omega)
   cases hc:nameC z with
   |true=>
    have hc':=nameC_true hc
    iterate 5
     repeat' first|exact T0|(first|(refine⟨i,qz,rfl,?_⟩;rw[ez])|refine Yd fun _=>?_|refine Ye fun _=>?_|refine Yg ?_);conv=>whnf|(refine Ya ?_ ?_<;>intro _<;>conv=>whnf)
     all_goals try (exfalso;simp only[outL] at *;first|omega|contradiction|(simp_all;done)|(simp_all;omega))
     all_goals try (refine Or.inl ?_;conv=>whnf)
    all_goals refine⟨i+1,⟨hlt,all_nx hI hz hc,fun _=>hx⟩,show l.length-(i+1)<l.length-i by omega,?_⟩
    all_goals refine⟨[],?_⟩
    repeat any_goals first|exact T0|exact rfl|exact Yr|refine Ya ?_ ?_
    all_goals conv=>whnf
    all_goals exact wk1 (by omega)
   |false=>
    have hc':=nameC_false hc
    rw[all_not hz hc,Bool.and_false] at *
    iterate 5
     repeat' first|exact T0|(first|(refine⟨i,qz,rfl,?_⟩;rw[ez])|refine Yd fun _=>?_|refine Ye fun _=>?_|refine Yg ?_);conv=>whnf|(refine Ya ?_ ?_<;>intro _<;>conv=>whnf)
     all_goals try (exfalso;simp only[outL] at *;first|omega|contradiction|(simp_all;done)|(simp_all;omega))
     all_goals try (refine Or.inl ?_;conv=>whnf)
    all_goals refine⟨[],?_⟩
    repeat any_goals first|exact T0|exact rfl|exact Yr|refine Ya ?_ ?_
    all_goals conv=>whnf
 ·rw[all_tk hI (by omega),hx (by omega)]
  iterate 3
   repeat' first|exact T0|(first|refine Yd fun _=>?_|refine Ye fun _=>?_|refine Yg ?_);conv=>whnf|(refine Ya ?_ ?_<;>intro _<;>conv=>whnf)
   all_goals try (exfalso;simp only[outL] at *;first|omega|contradiction|(simp_all;done)|(simp_all;omega))
   all_goals try (refine Or.inl ?_;conv=>whnf)
  all_goals refine⟨[],?_⟩
  repeat any_goals first|exact T0|exact rfl|exact Yr|refine Ya ?_ ?_
  all_goals conv=>whnf
set_option maxHeartbeats 8000000 in
theorem rValue_sat (l:Bt):Sat Tryz.prog 109 [.d (tD l)] [] (bA (valueL l)) []:=by
 have hs:=tsz l
 by_cases hn:l.length≤64
 case neg=>
  have e:valueL l=false:=by
   unfold valueL
   rw[decide_eq_false hn];rfl
  rw[e]
  refine Vq Tryz.func109 rfl rfl ?_
  conv=>whnf
  iterate 3
   repeat' first|exact T0|(first|refine Yd fun _=>?_|refine Ye fun _=>?_|refine Yg ?_);conv=>whnf|(refine Ya ?_ ?_<;>intro _<;>conv=>whnf)
   all_goals try (exfalso;simp only[outL] at *;first|omega|contradiction|(simp_all;done)|(simp_all;omega))
   all_goals try (refine Or.inl ?_;conv=>whnf)
  all_goals refine⟨[],?_⟩
  repeat any_goals first|exact T0|exact rfl|exact Yr|refine Ya ?_ ?_
  all_goals conv=>whnf
 have e:valueL l=l.all valC:=by
  unfold valueL
  rw[decide_eq_true hn];rfl
 rw[e]
 refine Vq Tryz.func109 rfl rfl ?_
 conv=>whnf
 iterate 3
  repeat' first|exact T0|(first|refine Yd fun _=>?_|refine Ye fun _=>?_|refine Yg ?_);conv=>whnf|(refine Ya ?_ ?_<;>intro _<;>conv=>whnf)
  all_goals try (exfalso;simp only[outL] at *;first|omega|contradiction|(simp_all;done)|(simp_all;omega))
  all_goals try (refine Or.inl ?_;conv=>whnf)
 refine⟨Nat,fun i=>i≤l.length∧(l.take i).all valC=true,fun i=>([(3,iA i),(0,.d (tD l))],[]),fun i=>l.length-i,⟨0,⟨Nat.zero_le _,rfl⟩,?_⟩,?_⟩
 ·all_goals refine⟨[],?_⟩
  repeat any_goals first|exact T0|exact rfl|exact Yr|refine Ya ?_ ?_
  all_goals conv=>whnf
 rintro i ⟨hi,hI⟩
 conv=>whnf
 by_cases hlt:i<l.length
 ·have hz:l[i]?=some l[i]:=List.getElem?_eq_getElem hlt
  generalize l[i]=z at hz
  obtain⟨qz,ez⟩:=ix_get hz
  cases hc:valC z with
  |true=>
   have hc':=valC_true hc
   iterate 5
    repeat' first|exact T0|(first|(refine⟨i,qz,rfl,?_⟩;rw[ez])|refine Yd fun _=>?_|refine Ye fun _=>?_|refine Yg ?_);conv=>whnf|(refine Ya ?_ ?_<;>intro _<;>conv=>whnf)
    all_goals try (exfalso;simp only[outL] at *;first|omega|contradiction|(simp_all;done)|(simp_all;omega))
    all_goals try (refine Or.inl ?_;conv=>whnf)
   all_goals refine⟨i+1,⟨hlt,all_nx hI hz hc⟩,show l.length-(i+1)<l.length-i by omega,?_⟩
   all_goals refine⟨[],?_⟩
   repeat any_goals first|exact T0|exact rfl|exact Yr|refine Ya ?_ ?_
   all_goals conv=>whnf
   all_goals exact wk1 (by omega)
  |false=>
   have hc':=valC_false hc
   rw[all_not hz hc] at *
   iterate 5
    repeat' first|exact T0|(first|(refine⟨i,qz,rfl,?_⟩;rw[ez])|refine Yd fun _=>?_|refine Ye fun _=>?_|refine Yg ?_);conv=>whnf|(refine Ya ?_ ?_<;>intro _<;>conv=>whnf)
    all_goals try (exfalso;simp only[outL] at *;first|omega|contradiction|(simp_all;done)|(simp_all;omega))
    all_goals try (refine Or.inl ?_;conv=>whnf)
   all_goals refine⟨[],?_⟩
   repeat any_goals first|exact T0|exact rfl|exact Yr|refine Ya ?_ ?_
   all_goals conv=>whnf
 ·rw[all_tk hI (by omega)]
  iterate 4
   repeat' first|exact T0|(first|refine Yd fun _=>?_|refine Ye fun _=>?_|refine Yg ?_);conv=>whnf|(refine Ya ?_ ?_<;>intro _<;>conv=>whnf)
   all_goals try (exfalso;simp only[outL] at *;first|omega|contradiction|(simp_all;done)|(simp_all;omega))
   all_goals try (refine Or.inl ?_;conv=>whnf)
  all_goals refine⟨[],?_⟩
  repeat any_goals first|exact T0|exact rfl|exact Yr|refine Ya ?_ ?_
  all_goals conv=>whnf
end Go.Proofs.YtfbfpnfgabamfaaGreat
