/- Parts FrM, FrO, FrP, FrQ, FrR of the proof, put together. -/
import Derived.Test.YtfbfpnfgabamfaaGreatM11
import Derived.Stop.IfaceNil
namespace Go.Proofs.YtfbfpnfgabamfaaGreat
set_option linter.unusedSimpArgs false
open Go.RowKit
set_option maxRecDepth 100000
set_option linter.unusedVariables false
theorem taF {L:List AObj} {ty n:Nat} {x:Operand} {t:TypeId} (e:Int):Does Tryz.prog (.typeAssert x t 135 true) ty L n [fltA e] e0 (.tup [.d (.agg [iD e]),bA true]):=
 does_val fun o w F ρ ev ho _ hx=>by
  obtain⟨v,e',hv⟩:=hx.one_out
  simp[Op.operands] at e'
  have:=FlatW.eq (.d (.v _)) hv
  subst this
  have hr:(Instr.typeAssert (fltV e) t 135 true).run Tryz.prog w=.ok (.tuple #[.agg #[.int .i64 e],.bool true]) w:=by kernel_rfl
  refine⟨.tuple #[.agg #[.int .i64 e],.bool true],?_,?_⟩
  ·simp only[execOp,ho,e']
   simp[hr]
  ·exact FlatW.ra (.tup (.cons (.d (.agg (us:=[.int .i64 e]) (.cons (.v _) rfl .nil))) (.cons (.d (.v _)) .nil)))
theorem eqI {L:List AObj} {ty n:Nat} {x y:Operand} {t t':TypeId} (e:Int) (h:Tryz.prog.isIface t=true):Does Tryz.prog (.binOp .eql t x y t') ty L n [fltA e,.d (.v .nilIface)] e0 (bA false):=
 does_ra2 rfl fun o w F ρ ev u v ho h1 h2 hu hv=>by
  have:=hv.v_out
  subst this
  have:=hu.v_out
  subst this
  exact exec_eq ho h1 h2 (guard_form _ _ rfl) (run_eql_iface_nil w t h _ _)
theorem eqNI {L:List AObj} {ty n:Nat} {x:Operand} {c:Value} {t t':TypeId} (h:Tryz.prog.isIface t=true):Does Tryz.prog (.binOp .eql t x (.const c) t') ty L n [.d (.v .nilIface),.d (.v .nilIface)] e0 (bA true):=
 does_ra2 rfl fun o w F ρ ev u v ho h1 h2 hu hv=>by
  have:=hv.v_out
  subst this
  have:=hu.v_out
  subst this
  refine exec_eq ho h1 h2 ?_ (run_eql_nil_nil_at w t h)
  cases x<;>rfl
abbrev frZ:List AV:=frN 0 0 0 0 0 0 0 0 0 0
theorem def_pan3 (e:Int) (a1 a2 a3 a4 a5 a6 a7 a8 a9 a10 a11 a12 a13 a14:D) (z:AObj):DefRun Tryz.prog 83 [.ptr 0 0,.ptr 1 0] (panM (fltV e)) (recM (fltV e))
  [.cells [.d a1,.d a2,.d a3,.d a4,.d a5,.d a6,.d a7,.d a8,.d a9,.d a10,.d a11,.d a12,.d a13,.d a14],.cells [iA 0],z] [.cells frZ,.cells [iA e],.dead]:=by
 refine defRun_of_vc (T:=tiOf Tryz.prog) (E:=E0) Tryz.func83 rfl rfl hE0 hm0 rfl rfl rfl rfl (.inl ⟨rfl,rfl⟩) rfl ?_
 conv=>whnf
 iterate 6
  repeat' first|exact T0|(first|refine Yd fun _=>?_|refine Ye fun _=>?_|refine Yg ?_|refine Yk (eqI e (by kernel_rfl)) ?_|refine Yk (taF e) ?_);conv=>whnf|(refine Ya ?_ ?_<;>intro _<;>conv=>whnf)
  all_goals try (refine Or.inl ?_;conv=>whnf)
 all_goals try (exfalso;simp only[outL] at *;first|omega|contradiction|(simp_all;done)|(simp_all;omega))
 all_goals refine⟨[],?_⟩
 repeat any_goals first|exact T0|exact rfl|exact Yr|refine Ya ?_ ?_
 all_goals conv=>whnf
theorem def_pan4 (e:Int) (a1 a2 a3 a4 a5 a6 a7 a8 a9 a10 a11 a12 a13 a14:D) (z u:AObj):DefRun Tryz.prog 83 [.ptr 0 0,.ptr 1 0] (panM (fltV e)) (recM (fltV e))
  [.cells [.d a1,.d a2,.d a3,.d a4,.d a5,.d a6,.d a7,.d a8,.d a9,.d a10,.d a11,.d a12,.d a13,.d a14],.cells [iA 0],z,u] [.cells frZ,.cells [iA e],.dead,.dead]:=by
 refine defRun_of_vc (T:=tiOf Tryz.prog) (E:=E0) Tryz.func83 rfl rfl hE0 hm0 rfl rfl rfl rfl (.inl ⟨rfl,rfl⟩) rfl ?_
 conv=>whnf
 iterate 6
  repeat' first|exact T0|(first|refine Yd fun _=>?_|refine Ye fun _=>?_|refine Yg ?_|refine Yk (eqI e (by kernel_rfl)) ?_|refine Yk (taF e) ?_);conv=>whnf|(refine Ya ?_ ?_<;>intro _<;>conv=>whnf)
  all_goals try (refine Or.inl ?_;conv=>whnf)
 all_goals try (exfalso;simp only[outL] at *;first|omega|contradiction|(simp_all;done)|(simp_all;omega))
 all_goals refine⟨[],?_⟩
 repeat any_goals first|exact T0|exact rfl|exact Yr|refine Ya ?_ ?_
 all_goals conv=>whnf
def frO:Fr:=⟨0,0,0,0,0,0,0,0,0,0,[],([],[]),[]⟩
set_option maxHeartbeats 4000000 in
theorem parse_kerr (l:Bt) (hl:l.length≤65536) (h:(uintS (l,0)).2.2≠0):Sat Tryz.prog 49 [.d (bsD l)] [] (.tup [.d (.agg (nilR frO)),iA (uintS (l,0)).2.2]) []:=by
 have n1:=newG_sat l hl
 have k1:=kind_err (l,0) hl h
 refine satD_of_vc (T:=tiOf Tryz.prog) (E:=E0) (gc:=83) (ys:=[.ptr 0 0,.ptr 1 0]) PnF Tryz.func49 rfl rfl hE0 hm0 rfl rfl rfl rfl rfl rfl rfl rfl rfl ?_
 conv=>whnf
 iterate 4
  repeat' first|exact T0|(first|refine Or.inr ⟨_,_,k1.at1 2 rfl rfl rfl,?_⟩|refine Yd fun _=>?_|refine Ye fun _=>?_|refine Yg ?_|refine Yk (n1.nw rfl) ?_);conv=>whnf|(refine Ya ?_ ?_<;>intro _<;>conv=>whnf)
  all_goals try (refine Or.inl ?_;conv=>whnf)
 refine⟨_,def_pan3 _ _ _ _ _ _ _ _ _ _ _ _ _ _ _ _,rfl,?_⟩
 conv=>whnf
 all_goals refine⟨[],?_⟩
 repeat any_goals first|exact T0|exact rfl|exact Yr|refine Ya ?_ ?_
 all_goals conv=>whnf
set_option maxHeartbeats 4000000 in
theorem parse_kbad (l:Bt) (hl:l.length≤65536) (h0:(uintS (l,0)).2.2=0) (h:(uintS (l,0)).1<1∨8<(uintS (l,0)).1):Sat Tryz.prog 49 [.d (bsD l)] [] (.tup [.d (.agg (nilR frO)),iA 16]) []:=by
 have n1:=newG_sat l hl
 have k1:=kind_bad (l,0) hl h0 h
 refine satD_of_vc (T:=tiOf Tryz.prog) (E:=E0) (gc:=83) (ys:=[.ptr 0 0,.ptr 1 0]) PnF Tryz.func49 rfl rfl hE0 hm0 rfl rfl rfl rfl rfl rfl rfl rfl rfl ?_
 conv=>whnf
 iterate 4
  repeat' first|exact T0|(first|refine Or.inr ⟨_,_,k1.at1 2 rfl rfl rfl,?_⟩|refine Yd fun _=>?_|refine Ye fun _=>?_|refine Yg ?_|refine Yk (n1.nw rfl) ?_);conv=>whnf|(refine Ya ?_ ?_<;>intro _<;>conv=>whnf)
  all_goals try (refine Or.inl ?_;conv=>whnf)
 refine⟨_,def_pan3 _ _ _ _ _ _ _ _ _ _ _ _ _ _ _ _,rfl,?_⟩
 conv=>whnf
 all_goals refine⟨[],?_⟩
 repeat any_goals first|exact T0|exact rfl|exact Yr|refine Ya ?_ ?_
 all_goals conv=>whnf
def itS:Nat→Rs→Rs
 |0,s=>s
 |i+1,s=>(uintS (itS i s)).2
def vlS (i:Nat) (s:Rs):Int:=IntKind.i64.wrap ((uintS (itS i s)).1:Int)
def vbL:List Nat→Nat→Rs→Nat→Int
 |[],_,_,_=>0
 |j::r,i,s,p=>cond (Nat.beq j p) (vlS i s) (vbL r (i+1) s p)
abbrev vb (k i:Nat) (s:Rs) (p:Nat):Int:=vbL ((idxK k).take i) 0 s p
def frS (k i:Nat) (s:Rs) (ev:List Evt) (sr:Ser) (d:Bt):Fr:=⟨k,vb k i s 1,vb k i s 2,vb k i s 3,vb k i s 4,vb k i s 5,vb k i s 6,vb k i s 7,vb k i s 8,vb k i s 9,ev,sr,d⟩
def finP (f:Fr) (s:Rs):Fr × Nat:=if (endS s).2≠0 then (frO,(endS s).2) else if rightF f=true then (f,0) else (frO,10)
def tailP (k:Nat) (s s1:Rs):Fr × Nat:=match k with
 |5=>match eventsS s1 with
  |(.error e,_)=>(frO,e)
  |(.ok l,s2)=>finP (frS 5 3 s l ([],[]) []) s2
 |8=>if (readS s1).2.1≠0 then (frO,(readS s1).2.1) else if (txtS (readS s1).2.2 4096).2.2≠0 then (frO,(txtS (readS s1).2.2 4096).2.2) else finP (frS 8 1 s [] (readS s1).1 (txtS (readS s1).2.2 4096).1) (txtS (readS s1).2.2 4096).2
 |k=>finP (frS k (idxK k).length s [] ([],[]) []) s1
def parseK (k:Nat) (s:Rs):Fr × Nat:=if (itS (idxK k).length s).2≠0 then (frO,(itS (idxK k).length s).2) else tailP k s (itS (idxK k).length s)
def parseF (l:Bt):Fr × Nat:=if (uintS (l,0)).2.2≠0 then (frO,(uintS (l,0)).2.2) else if (uintS (l,0)).1<1∨8<(uintS (l,0)).1 then (frO,16) else parseK (uintS (l,0)).1 (uintS (l,0)).2
theorem itS_len (s:Rs):∀ i,(itS i s).1.length≤s.1.length
 |0=>Nat.le_refl _
 |i+1=>Nat.le_trans (uintS_len (itS i s)) (itS_len s i)
theorem itS_stick {s:Rs} {i:Nat} (h:(itS i s).2≠0):∀ j,itS (i+j) s=itS i s
 |0=>rfl
 |j+1=>by
  show (uintS (itS (i+j) s)).2=_
  rw[itS_stick h j]
  unfold uintS
  rw[if_pos h]
theorem parseK_err {k:Nat} {s:Rs} (i:Nat) (hi:i≤(idxK k).length) (h:(itS i s).2≠0):parseK k s=(frO,(itS i s).2):=by
 have e:itS (idxK k).length s=itS i s:=by
  have:=itS_stick h ((idxK k).length-i)
  rwa [show i+((idxK k).length-i)=(idxK k).length by omega] at this
 unfold parseK
 rw[e,if_pos h]
theorem parseK_go {k:Nat} {s:Rs} (h:(itS (idxK k).length s).2=0):parseK k s=tailP k s (itS (idxK k).length s):=by
 unfold parseK
 rw[if_neg (by omega)]
def shR (k:Nat) (p:Fr × Nat):List D:=if p.2≠0 then nilR frO else match k with
 |5=>[iD p.1.k,iD p.1.a,iD p.1.e,iD p.1.b,iD p.1.c,iD p.1.g,iD p.1.s,iD p.1.n,iD p.1.t,iD p.1.w,.sl 4 (p.1.ev.map evR),tD [],nilV,nilV]
 |8=>[iD p.1.k,iD p.1.a,iD p.1.e,iD p.1.b,iD p.1.c,iD p.1.g,iD p.1.s,iD p.1.n,iD p.1.t,iD p.1.w,nilV,tD p.1.sr.1,.sl 2 (p.1.sr.2.map labR),bsD p.1.d]
 |_=>nilR p.1
abbrev outP (k:Nat) (p:Fr × Nat):AV:=.tup [.d (.agg (shR k p)),iA p.2]
theorem outP_err {k e:Nat} (h:e≠0):outP k (frO,e)=.tup [.d (.agg (nilR frO)),iA e]:=by
 have:shR k (frO,e)=nilR frO:=by unfold shR;rw[if_pos h]
 rw[outP,this]
theorem right_pre (f:Fr) (hf:FrOk f) {xs:List D} (hn:nilLe xs (frR f)):Sat Tryz.prog 55 [.d (.agg xs)] [] (bA (rightF f)) []:=
 (right_sat f hf).pre fun w F ρ vs h=>by
  cases h with|cons h1 h2=>
  cases h1 with|d h1=>exact .cons (.d (h1.nilLe hn)) h2
theorem wrap_in64 (u:Int):in64 (IntKind.i64.wrap u):=by
 unfold in64
 rw[IntKind.wrap_i64];omega
theorem vbL_in64:∀ (js:List Nat) (i:Nat) (s:Rs) (p:Nat),in64 (vbL js i s p)
 |[],_,_,_=>by unfold vbL in64;omega
 |j::r,i,s,p=>by
  unfold vbL
  cases Nat.beq j p with
  |true=>exact wrap_in64 _
  |false=>exact vbL_in64 r (i+1) s p
theorem def_retN (k a e b c g s n t w:Int) (z u:AObj):DefRun Tryz.prog 83 [.ptr 0 0,.ptr 1 0] .returning .returning
  [.cells (frN k a e b c g s n t w),.cells [iA 0],z,u] [.cells (frN k a e b c g s n t w),.cells [iA 0],.dead,.dead]:=by
 refine defRun_of_vc (T:=tiOf Tryz.prog) (E:=E0) Tryz.func83 rfl rfl hE0 hm0 rfl rfl rfl rfl (.inr ⟨rfl,rfl,rfl⟩) rfl ?_
 conv=>whnf
 iterate 6
  repeat' first|exact T0|(first|refine Yd fun _=>?_|refine Ye fun _=>?_|refine Yg ?_|refine Yk (eqNI (by kernel_rfl)) ?_);conv=>whnf|(refine Ya ?_ ?_<;>intro _<;>conv=>whnf)
  all_goals try (refine Or.inl ?_;conv=>whnf)
 all_goals try (exfalso;simp only[outL] at *;first|omega|contradiction|(simp_all;done)|(simp_all;omega))
 all_goals refine⟨[],?_⟩
 repeat any_goals first|exact T0|exact rfl|exact Yr|refine Ya ?_ ?_
 all_goals conv=>whnf
theorem def_ret5 (k a e b c g s n t w:Int) (ev:List Evt) (z u:AObj):DefRun Tryz.prog 83 [.ptr 0 0,.ptr 1 0] .returning .returning
  [.cells [iA k,iA a,iA e,iA b,iA c,iA g,iA s,iA n,iA t,iA w,.d (.sl 4 (ev.map evR)),.d (tD []),.d nilV,.d nilV],.cells [iA 0],z,u] [.cells [iA k,iA a,iA e,iA b,iA c,iA g,iA s,iA n,iA t,iA w,.d (.sl 4 (ev.map evR)),.d (tD []),.d nilV,.d nilV],.cells [iA 0],.dead,.dead]:=by
 refine defRun_of_vc (T:=tiOf Tryz.prog) (E:=E0) Tryz.func83 rfl rfl hE0 hm0 rfl rfl rfl rfl (.inr ⟨rfl,rfl,rfl⟩) rfl ?_
 conv=>whnf
 iterate 6
  repeat' first|exact T0|(first|refine Yd fun _=>?_|refine Ye fun _=>?_|refine Yg ?_|refine Yk (eqNI (by kernel_rfl)) ?_);conv=>whnf|(refine Ya ?_ ?_<;>intro _<;>conv=>whnf)
  all_goals try (refine Or.inl ?_;conv=>whnf)
 all_goals try (exfalso;simp only[outL] at *;first|omega|contradiction|(simp_all;done)|(simp_all;omega))
 all_goals refine⟨[],?_⟩
 repeat any_goals first|exact T0|exact rfl|exact Yr|refine Ya ?_ ?_
 all_goals conv=>whnf
theorem frS_ok (k i:Nat) (s:Rs) (hk:k≤8) {ev:List Evt} {sr:Ser} (d:Bt) (h1:ev.length≤1000000) (h2:∀ x∈ev,x.2.2.2.length≤1000000) (h3:sr.2.length≤1000000):FrOk (frS k i s ev sr d):=
 ⟨(show in64 (k:Int) from⟨by omega,by omega⟩),vbL_in64 _ _ _ _,vbL_in64 _ _ _ _,vbL_in64 _ _ _ _,vbL_in64 _ _ _ _,vbL_in64 _ _ _ _,vbL_in64 _ _ _ _,vbL_in64 _ _ _ _,vbL_in64 _ _ _ _,vbL_in64 _ _ _ _,h1,h2,h3⟩
theorem finP_end {f:Fr} {s:Rs} (h:(endS s).2≠0):finP f s=(frO,(endS s).2):=if_pos h
theorem finP_no {f:Fr} {s:Rs} (h:(endS s).2=0) (hr:rightF f=false):finP f s=(frO,10):=by
 unfold finP
 rw[if_neg (by omega),if_neg (by rw[hr];simp)]
theorem finP_ok {f:Fr} {s:Rs} (h:(endS s).2=0) (hr:rightF f=true):finP f s=(f,0):=by
 unfold finP
 rw[if_neg (by omega),if_pos hr]
set_option maxHeartbeats 8000000 in
theorem parse_1 (l:Bt) (hl:l.length≤65536) (s:Rs) (hu:uintS (l,0)=(1,s)) (hs:s.2=0):Sat Tryz.prog 49 [.d (bsD l)] [] (outP 1 (parseK 1 s)) []:=by
 have n1:=newG_sat l hl
 have k1:=kind_ok (l,0) hl (by rw[hu];exact hs) (by rw[hu];exact (by decide:1≤1)) (by rw[hu];exact (by decide:1≤8))
 rw[hu] at k1
 have hsl:s.1.length≤65536:=by have:=uintS_len (l,0);rw[hu] at this;exact Nat.le_trans this hl
 have hil:∀ i,(itS i s).1.length≤65536:=fun i=>Nat.le_trans (itS_len s i) hsl
 have f2:=fields_n 1 (by decide) (by decide) 0 0 0 0 0 0 0 0 0
 have c1:=check_ok
 have hpe:=fun i=>parseK_err (k:=1) (s:=s) i
 have hpg:=parseK_go (k:=1) (s:=s)
 generalize hP:parseK 1 s=PP at *
 refine satD_of_vc (T:=tiOf Tryz.prog) (E:=E0) (gc:=83) (ys:=[.ptr 0 0,.ptr 1 0]) PnF Tryz.func49 rfl rfl hE0 hm0 rfl rfl rfl rfl rfl rfl rfl rfl rfl ?_
 conv=>whnf
 iterate 5
  repeat' first|exact T0|(first|refine Yd fun _=>?_|refine Ye fun _=>?_|refine Yg ?_|refine Yk (n1.nw rfl) ?_|refine Yk (k1.at1 2 rfl rfl rfl) ?_|refine Yk (f2.at1 0 rfl rfl rfl) ?_|refine Yk (lenP (by kernel_rfl)) ?_);conv=>whnf|(refine Ya ?_ ?_<;>intro _<;>conv=>whnf)
  all_goals try (refine Or.inl ?_;conv=>whnf)
 all_goals try (exfalso;simp only[outL] at *;first|omega|contradiction|(simp_all;done)|(simp_all;omega))
 refine⟨Nat,fun i=>i≤2∧(itS i s).2=0,fun i=>([(16,iA i),(15,iA 2),(14,.rel 3 (slP 2)),(4,.ptr 2 0),(3,.ptr 1 0),(2,.ptr 0 0)],[.cells (frN 1 (vb 1 i s 1) (vb 1 i s 2) (vb 1 i s 3) (vb 1 i s 4) (vb 1 i s 5) (vb 1 i s 6) (vb 1 i s 7) (vb 1 i s 8) (vb 1 i s 9)),.cells [iA 0],rsO (itS i s),.cells (ptrsK 1)]),fun i=>2-i,⟨0,⟨Nat.zero_le _,hs⟩,?_⟩,?_⟩
 ·all_goals refine⟨[],?_⟩
  repeat any_goals first|exact T0|exact rfl|exact Yr|refine Ya ?_ ?_
  all_goals conv=>whnf
 rintro i ⟨hi,hI⟩
 have hi:i≤2:=hi
 obtain rfl|rfl|rfl:i=0∨i=1∨i=2:=by omega
 ·have u1:=uintG_sat (itS 0 s) (hil 0)
  have r1:=errG_sat (itS 1 s)
  conv=>whnf
  by_cases he:(itS 1 s).2=0
  ·rw[he] at r1
   iterate 5
    repeat' first|exact T0|(first|refine Yd fun _=>?_|refine Ye fun _=>?_|refine Yg ?_|refine Yk (ixP (by kernel_rfl) (by kernel_rfl) (by decide)) ?_|refine Yk (u1.at1 2 rfl rfl rfl) ?_|refine Yk (r1.at1 2 rfl rfl rfl) ?_|refine Yk (c1.pu rfl rfl) ?_);conv=>whnf|(refine Ya ?_ ?_<;>intro _<;>conv=>whnf)
    all_goals try (refine Or.inl ?_;conv=>whnf)
   refine⟨1,⟨by decide,he⟩,by decide,?_⟩
   all_goals refine⟨[],?_⟩
   repeat any_goals first|exact T0|exact rfl|exact Yr|refine Ya ?_ ?_
   all_goals conv=>whnf
  ·have c2:=check_no ((itS 1 s).2:Int) (by omega)
   obtain rfl:=hpe 1 (by decide) he
   rw[outP_err he]
   iterate 5
    repeat' first|exact T0|(first|refine Or.inr ⟨_,_,c2.pu rfl rfl,?_⟩|refine Yd fun _=>?_|refine Ye fun _=>?_|refine Yg ?_|refine Yk (ixP (by kernel_rfl) (by kernel_rfl) (by decide)) ?_|refine Yk (u1.at1 2 rfl rfl rfl) ?_|refine Yk (r1.at1 2 rfl rfl rfl) ?_);conv=>whnf|(refine Ya ?_ ?_<;>intro _<;>conv=>whnf)
    all_goals try (refine Or.inl ?_;conv=>whnf)
   refine⟨_,def_pan4 _ _ _ _ _ _ _ _ _ _ _ _ _ _ _ _ _,rfl,?_⟩
   conv=>whnf
   all_goals refine⟨[],?_⟩
   repeat any_goals first|exact T0|exact rfl|exact Yr|refine Ya ?_ ?_
   all_goals conv=>whnf
 ·have u1:=uintG_sat (itS 1 s) (hil 1)
  have r1:=errG_sat (itS 2 s)
  conv=>whnf
  by_cases he:(itS 2 s).2=0
  ·rw[he] at r1
   iterate 5
    repeat' first|exact T0|(first|refine Yd fun _=>?_|refine Ye fun _=>?_|refine Yg ?_|refine Yk (ixP (by kernel_rfl) (by kernel_rfl) (by decide)) ?_|refine Yk (u1.at1 2 rfl rfl rfl) ?_|refine Yk (r1.at1 2 rfl rfl rfl) ?_|refine Yk (c1.pu rfl rfl) ?_);conv=>whnf|(refine Ya ?_ ?_<;>intro _<;>conv=>whnf)
    all_goals try (refine Or.inl ?_;conv=>whnf)
   refine⟨2,⟨by decide,he⟩,by decide,?_⟩
   all_goals refine⟨[],?_⟩
   repeat any_goals first|exact T0|exact rfl|exact Yr|refine Ya ?_ ?_
   all_goals conv=>whnf
  ·have c2:=check_no ((itS 2 s).2:Int) (by omega)
   obtain rfl:=hpe 2 (by decide) he
   rw[outP_err he]
   iterate 5
    repeat' first|exact T0|(first|refine Or.inr ⟨_,_,c2.pu rfl rfl,?_⟩|refine Yd fun _=>?_|refine Ye fun _=>?_|refine Yg ?_|refine Yk (ixP (by kernel_rfl) (by kernel_rfl) (by decide)) ?_|refine Yk (u1.at1 2 rfl rfl rfl) ?_|refine Yk (r1.at1 2 rfl rfl rfl) ?_);conv=>whnf|(refine Ya ?_ ?_<;>intro _<;>conv=>whnf)
    all_goals try (refine Or.inl ?_;conv=>whnf)
   refine⟨_,def_pan4 _ _ _ _ _ _ _ _ _ _ _ _ _ _ _ _ _,rfl,?_⟩
   conv=>whnf
   all_goals refine⟨[],?_⟩
   repeat any_goals first|exact T0|exact rfl|exact Yr|refine Ya ?_ ?_
   all_goals conv=>whnf
 have hq:=hpg hI
 replace hq:PP=finP (frS 1 2 s [] ([],[]) []) (itS 2 s):=hq
 have e1:=endG_sat (itS 2 s) (hil 2)
 conv=>whnf
 by_cases he:(endS (itS 2 s)).2=0
 case neg=>
  have c2:=check_no ((endS (itS 2 s)).2:Int) (by omega)
  rw[finP_end he] at hq
  subst hq
  rw[outP_err he]
  iterate 5
   repeat' first|exact T0|(first|refine Or.inr ⟨_,_,c2.pu rfl rfl,?_⟩|refine Yd fun _=>?_|refine Ye fun _=>?_|refine Yg ?_|refine Yk (e1.at1 2 rfl rfl rfl) ?_);conv=>whnf|(refine Ya ?_ ?_<;>intro _<;>conv=>whnf)
   all_goals try (refine Or.inl ?_;conv=>whnf)
  refine⟨_,def_pan4 _ _ _ _ _ _ _ _ _ _ _ _ _ _ _ _ _,rfl,?_⟩
  conv=>whnf
  all_goals refine⟨[],?_⟩
  repeat any_goals first|exact T0|exact rfl|exact Yr|refine Ya ?_ ?_
  all_goals conv=>whnf
 rw[he] at e1
 have hfo:=frS_ok 1 2 s (by decide) (ev:=[]) (sr:=([],[])) [] (by simp) (by simp) (by simp)
 have r1:=right_pre (frS 1 2 s [] ([],[]) []) hfo (xs:=nilR (frS 1 2 s [] ([],[]) [])) (by repeat' (first|exact trivial|refine And.intro ?_ ?_|exact .inl rfl|exact .inr ⟨rfl,_,rfl⟩))
 cases hr:rightF (frS 1 2 s [] ([],[]) []) with
 |false=>
  rw[hr] at r1
  rw[finP_no he hr] at hq
  subst hq
  rw[outP_err (by decide)]
  iterate 5
   repeat' first|exact T0|(first|refine Yd fun _=>?_|refine Ye fun _=>?_|refine Yg ?_|refine Yk (e1.at1 2 rfl rfl rfl) ?_|refine Yk (c1.pu rfl rfl) ?_|refine Yk (r1.pu rfl rfl) ?_|refine Yk (mkI 10) ?_);conv=>whnf|(refine Ya ?_ ?_<;>intro _<;>conv=>whnf)
   all_goals try (refine Or.inl ?_;conv=>whnf)
  refine⟨_,def_pan4 _ _ _ _ _ _ _ _ _ _ _ _ _ _ _ _ _,rfl,?_⟩
  conv=>whnf
  all_goals refine⟨[],?_⟩
  repeat any_goals first|exact T0|exact rfl|exact Yr|refine Ya ?_ ?_
  all_goals conv=>whnf
 |true=>
  rw[hr] at r1
  rw[finP_ok he hr] at hq
  subst hq
  iterate 5
   repeat' first|exact T0|(first|refine Yd fun _=>?_|refine Ye fun _=>?_|refine Yg ?_|refine Yk (e1.at1 2 rfl rfl rfl) ?_|refine Yk (c1.pu rfl rfl) ?_|refine Yk (r1.pu rfl rfl) ?_);conv=>whnf|(refine Ya ?_ ?_<;>intro _<;>conv=>whnf)
   all_goals try (refine Or.inl ?_;conv=>whnf)
  refine⟨_,def_retN _ _ _ _ _ _ _ _ _ _ _ _,rfl,?_⟩
  conv=>whnf
  all_goals refine⟨[],?_⟩
  repeat any_goals first|exact T0|exact rfl|exact Yr|refine Ya ?_ ?_
  all_goals conv=>whnf
set_option maxHeartbeats 8000000 in
theorem parse_2 (l:Bt) (hl:l.length≤65536) (s:Rs) (hu:uintS (l,0)=(2,s)) (hs:s.2=0):Sat Tryz.prog 49 [.d (bsD l)] [] (outP 2 (parseK 2 s)) []:=by
 have n1:=newG_sat l hl
 have k1:=kind_ok (l,0) hl (by rw[hu];exact hs) (by rw[hu];exact (by decide:1≤2)) (by rw[hu];exact (by decide:2≤8))
 rw[hu] at k1
 have hsl:s.1.length≤65536:=by have:=uintS_len (l,0);rw[hu] at this;exact Nat.le_trans this hl
 have hil:∀ i,(itS i s).1.length≤65536:=fun i=>Nat.le_trans (itS_len s i) hsl
 have f2:=fields_n 2 (by decide) (by decide) 0 0 0 0 0 0 0 0 0
 have c1:=check_ok
 have hpe:=fun i=>parseK_err (k:=2) (s:=s) i
 have hpg:=parseK_go (k:=2) (s:=s)
 generalize hP:parseK 2 s=PP at *
 refine satD_of_vc (T:=tiOf Tryz.prog) (E:=E0) (gc:=83) (ys:=[.ptr 0 0,.ptr 1 0]) PnF Tryz.func49 rfl rfl hE0 hm0 rfl rfl rfl rfl rfl rfl rfl rfl rfl ?_
 conv=>whnf
 iterate 5
  repeat' first|exact T0|(first|refine Yd fun _=>?_|refine Ye fun _=>?_|refine Yg ?_|refine Yk (n1.nw rfl) ?_|refine Yk (k1.at1 2 rfl rfl rfl) ?_|refine Yk (f2.at1 0 rfl rfl rfl) ?_|refine Yk (lenP (by kernel_rfl)) ?_);conv=>whnf|(refine Ya ?_ ?_<;>intro _<;>conv=>whnf)
  all_goals try (refine Or.inl ?_;conv=>whnf)
 all_goals try (exfalso;simp only[outL] at *;first|omega|contradiction|(simp_all;done)|(simp_all;omega))
 refine⟨Nat,fun i=>i≤3∧(itS i s).2=0,fun i=>([(16,iA i),(15,iA 3),(14,.rel 3 (slP 3)),(4,.ptr 2 0),(3,.ptr 1 0),(2,.ptr 0 0)],[.cells (frN 2 (vb 2 i s 1) (vb 2 i s 2) (vb 2 i s 3) (vb 2 i s 4) (vb 2 i s 5) (vb 2 i s 6) (vb 2 i s 7) (vb 2 i s 8) (vb 2 i s 9)),.cells [iA 0],rsO (itS i s),.cells (ptrsK 2)]),fun i=>3-i,⟨0,⟨Nat.zero_le _,hs⟩,?_⟩,?_⟩
 ·all_goals refine⟨[],?_⟩
  repeat any_goals first|exact T0|exact rfl|exact Yr|refine Ya ?_ ?_
  all_goals conv=>whnf
 rintro i ⟨hi,hI⟩
 have hi:i≤3:=hi
 obtain rfl|rfl|rfl|rfl:i=0∨i=1∨i=2∨i=3:=by omega
 ·have u1:=uintG_sat (itS 0 s) (hil 0)
  have r1:=errG_sat (itS 1 s)
  conv=>whnf
  by_cases he:(itS 1 s).2=0
  ·rw[he] at r1
   iterate 5
    repeat' first|exact T0|(first|refine Yd fun _=>?_|refine Ye fun _=>?_|refine Yg ?_|refine Yk (ixP (by kernel_rfl) (by kernel_rfl) (by decide)) ?_|refine Yk (u1.at1 2 rfl rfl rfl) ?_|refine Yk (r1.at1 2 rfl rfl rfl) ?_|refine Yk (c1.pu rfl rfl) ?_);conv=>whnf|(refine Ya ?_ ?_<;>intro _<;>conv=>whnf)
    all_goals try (refine Or.inl ?_;conv=>whnf)
   refine⟨1,⟨by decide,he⟩,by decide,?_⟩
   all_goals refine⟨[],?_⟩
   repeat any_goals first|exact T0|exact rfl|exact Yr|refine Ya ?_ ?_
   all_goals conv=>whnf
  ·have c2:=check_no ((itS 1 s).2:Int) (by omega)
   obtain rfl:=hpe 1 (by decide) he
   rw[outP_err he]
   iterate 5
    repeat' first|exact T0|(first|refine Or.inr ⟨_,_,c2.pu rfl rfl,?_⟩|refine Yd fun _=>?_|refine Ye fun _=>?_|refine Yg ?_|refine Yk (ixP (by kernel_rfl) (by kernel_rfl) (by decide)) ?_|refine Yk (u1.at1 2 rfl rfl rfl) ?_|refine Yk (r1.at1 2 rfl rfl rfl) ?_);conv=>whnf|(refine Ya ?_ ?_<;>intro _<;>conv=>whnf)
    all_goals try (refine Or.inl ?_;conv=>whnf)
   refine⟨_,def_pan4 _ _ _ _ _ _ _ _ _ _ _ _ _ _ _ _ _,rfl,?_⟩
   conv=>whnf
   all_goals refine⟨[],?_⟩
   repeat any_goals first|exact T0|exact rfl|exact Yr|refine Ya ?_ ?_
   all_goals conv=>whnf
 ·have u1:=uintG_sat (itS 1 s) (hil 1)
  have r1:=errG_sat (itS 2 s)
  conv=>whnf
  by_cases he:(itS 2 s).2=0
  ·rw[he] at r1
   iterate 5
    repeat' first|exact T0|(first|refine Yd fun _=>?_|refine Ye fun _=>?_|refine Yg ?_|refine Yk (ixP (by kernel_rfl) (by kernel_rfl) (by decide)) ?_|refine Yk (u1.at1 2 rfl rfl rfl) ?_|refine Yk (r1.at1 2 rfl rfl rfl) ?_|refine Yk (c1.pu rfl rfl) ?_);conv=>whnf|(refine Ya ?_ ?_<;>intro _<;>conv=>whnf)
    all_goals try (refine Or.inl ?_;conv=>whnf)
   refine⟨2,⟨by decide,he⟩,by decide,?_⟩
   all_goals refine⟨[],?_⟩
   repeat any_goals first|exact T0|exact rfl|exact Yr|refine Ya ?_ ?_
   all_goals conv=>whnf
  ·have c2:=check_no ((itS 2 s).2:Int) (by omega)
   obtain rfl:=hpe 2 (by decide) he
   rw[outP_err he]
   iterate 5
    repeat' first|exact T0|(first|refine Or.inr ⟨_,_,c2.pu rfl rfl,?_⟩|refine Yd fun _=>?_|refine Ye fun _=>?_|refine Yg ?_|refine Yk (ixP (by kernel_rfl) (by kernel_rfl) (by decide)) ?_|refine Yk (u1.at1 2 rfl rfl rfl) ?_|refine Yk (r1.at1 2 rfl rfl rfl) ?_);conv=>whnf|(refine Ya ?_ ?_<;>intro _<;>conv=>whnf)
    all_goals try (refine Or.inl ?_;conv=>whnf)
   refine⟨_,def_pan4 _ _ _ _ _ _ _ _ _ _ _ _ _ _ _ _ _,rfl,?_⟩
   conv=>whnf
   all_goals refine⟨[],?_⟩
   repeat any_goals first|exact T0|exact rfl|exact Yr|refine Ya ?_ ?_
   all_goals conv=>whnf
 ·have u1:=uintG_sat (itS 2 s) (hil 2)
  have r1:=errG_sat (itS 3 s)
  conv=>whnf
  by_cases he:(itS 3 s).2=0
  ·rw[he] at r1
   iterate 5
    repeat' first|exact T0|(first|refine Yd fun _=>?_|refine Ye fun _=>?_|refine Yg ?_|refine Yk (ixP (by kernel_rfl) (by kernel_rfl) (by decide)) ?_|refine Yk (u1.at1 2 rfl rfl rfl) ?_|refine Yk (r1.at1 2 rfl rfl rfl) ?_|refine Yk (c1.pu rfl rfl) ?_);conv=>whnf|(refine Ya ?_ ?_<;>intro _<;>conv=>whnf)
    all_goals try (refine Or.inl ?_;conv=>whnf)
   refine⟨3,⟨by decide,he⟩,by decide,?_⟩
   all_goals refine⟨[],?_⟩
   repeat any_goals first|exact T0|exact rfl|exact Yr|refine Ya ?_ ?_
   all_goals conv=>whnf
  ·have c2:=check_no ((itS 3 s).2:Int) (by omega)
   obtain rfl:=hpe 3 (by decide) he
   rw[outP_err he]
   iterate 5
    repeat' first|exact T0|(first|refine Or.inr ⟨_,_,c2.pu rfl rfl,?_⟩|refine Yd fun _=>?_|refine Ye fun _=>?_|refine Yg ?_|refine Yk (ixP (by kernel_rfl) (by kernel_rfl) (by decide)) ?_|refine Yk (u1.at1 2 rfl rfl rfl) ?_|refine Yk (r1.at1 2 rfl rfl rfl) ?_);conv=>whnf|(refine Ya ?_ ?_<;>intro _<;>conv=>whnf)
    all_goals try (refine Or.inl ?_;conv=>whnf)
   refine⟨_,def_pan4 _ _ _ _ _ _ _ _ _ _ _ _ _ _ _ _ _,rfl,?_⟩
   conv=>whnf
   all_goals refine⟨[],?_⟩
   repeat any_goals first|exact T0|exact rfl|exact Yr|refine Ya ?_ ?_
   all_goals conv=>whnf
 have hq:=hpg hI
 replace hq:PP=finP (frS 2 3 s [] ([],[]) []) (itS 3 s):=hq
 have e1:=endG_sat (itS 3 s) (hil 3)
 conv=>whnf
 by_cases he:(endS (itS 3 s)).2=0
 case neg=>
  have c2:=check_no ((endS (itS 3 s)).2:Int) (by omega)
  rw[finP_end he] at hq
  subst hq
  rw[outP_err he]
  iterate 5
   repeat' first|exact T0|(first|refine Or.inr ⟨_,_,c2.pu rfl rfl,?_⟩|refine Yd fun _=>?_|refine Ye fun _=>?_|refine Yg ?_|refine Yk (e1.at1 2 rfl rfl rfl) ?_);conv=>whnf|(refine Ya ?_ ?_<;>intro _<;>conv=>whnf)
   all_goals try (refine Or.inl ?_;conv=>whnf)
  refine⟨_,def_pan4 _ _ _ _ _ _ _ _ _ _ _ _ _ _ _ _ _,rfl,?_⟩
  conv=>whnf
  all_goals refine⟨[],?_⟩
  repeat any_goals first|exact T0|exact rfl|exact Yr|refine Ya ?_ ?_
  all_goals conv=>whnf
 rw[he] at e1
 have hfo:=frS_ok 2 3 s (by decide) (ev:=[]) (sr:=([],[])) [] (by simp) (by simp) (by simp)
 have r1:=right_pre (frS 2 3 s [] ([],[]) []) hfo (xs:=nilR (frS 2 3 s [] ([],[]) [])) (by repeat' (first|exact trivial|refine And.intro ?_ ?_|exact .inl rfl|exact .inr ⟨rfl,_,rfl⟩))
 cases hr:rightF (frS 2 3 s [] ([],[]) []) with
 |false=>
  rw[hr] at r1
  rw[finP_no he hr] at hq
  subst hq
  rw[outP_err (by decide)]
  iterate 5
   repeat' first|exact T0|(first|refine Yd fun _=>?_|refine Ye fun _=>?_|refine Yg ?_|refine Yk (e1.at1 2 rfl rfl rfl) ?_|refine Yk (c1.pu rfl rfl) ?_|refine Yk (r1.pu rfl rfl) ?_|refine Yk (mkI 10) ?_);conv=>whnf|(refine Ya ?_ ?_<;>intro _<;>conv=>whnf)
   all_goals try (refine Or.inl ?_;conv=>whnf)
  refine⟨_,def_pan4 _ _ _ _ _ _ _ _ _ _ _ _ _ _ _ _ _,rfl,?_⟩
  conv=>whnf
  all_goals refine⟨[],?_⟩
  repeat any_goals first|exact T0|exact rfl|exact Yr|refine Ya ?_ ?_
  all_goals conv=>whnf
 |true=>
  rw[hr] at r1
  rw[finP_ok he hr] at hq
  subst hq
  iterate 5
   repeat' first|exact T0|(first|refine Yd fun _=>?_|refine Ye fun _=>?_|refine Yg ?_|refine Yk (e1.at1 2 rfl rfl rfl) ?_|refine Yk (c1.pu rfl rfl) ?_|refine Yk (r1.pu rfl rfl) ?_);conv=>whnf|(refine Ya ?_ ?_<;>intro _<;>conv=>whnf)
   all_goals try (refine Or.inl ?_;conv=>whnf)
  refine⟨_,def_retN _ _ _ _ _ _ _ _ _ _ _ _,rfl,?_⟩
  conv=>whnf
  all_goals refine⟨[],?_⟩
  repeat any_goals first|exact T0|exact rfl|exact Yr|refine Ya ?_ ?_
  all_goals conv=>whnf
set_option maxHeartbeats 8000000 in
theorem parse_3 (l:Bt) (hl:l.length≤65536) (s:Rs) (hu:uintS (l,0)=(3,s)) (hs:s.2=0):Sat Tryz.prog 49 [.d (bsD l)] [] (outP 3 (parseK 3 s)) []:=by
 have n1:=newG_sat l hl
 have k1:=kind_ok (l,0) hl (by rw[hu];exact hs) (by rw[hu];exact (by decide:1≤3)) (by rw[hu];exact (by decide:3≤8))
 rw[hu] at k1
 have hsl:s.1.length≤65536:=by have:=uintS_len (l,0);rw[hu] at this;exact Nat.le_trans this hl
 have hil:∀ i,(itS i s).1.length≤65536:=fun i=>Nat.le_trans (itS_len s i) hsl
 have f2:=fields_n 3 (by decide) (by decide) 0 0 0 0 0 0 0 0 0
 have c1:=check_ok
 have hpe:=fun i=>parseK_err (k:=3) (s:=s) i
 have hpg:=parseK_go (k:=3) (s:=s)
 generalize hP:parseK 3 s=PP at *
 refine satD_of_vc (T:=tiOf Tryz.prog) (E:=E0) (gc:=83) (ys:=[.ptr 0 0,.ptr 1 0]) PnF Tryz.func49 rfl rfl hE0 hm0 rfl rfl rfl rfl rfl rfl rfl rfl rfl ?_
 conv=>whnf
 iterate 5
  repeat' first|exact T0|(first|refine Yd fun _=>?_|refine Ye fun _=>?_|refine Yg ?_|refine Yk (n1.nw rfl) ?_|refine Yk (k1.at1 2 rfl rfl rfl) ?_|refine Yk (f2.at1 0 rfl rfl rfl) ?_|refine Yk (lenP (by kernel_rfl)) ?_);conv=>whnf|(refine Ya ?_ ?_<;>intro _<;>conv=>whnf)
  all_goals try (refine Or.inl ?_;conv=>whnf)
 all_goals try (exfalso;simp only[outL] at *;first|omega|contradiction|(simp_all;done)|(simp_all;omega))
 refine⟨Nat,fun i=>i≤3∧(itS i s).2=0,fun i=>([(16,iA i),(15,iA 3),(14,.rel 3 (slP 3)),(4,.ptr 2 0),(3,.ptr 1 0),(2,.ptr 0 0)],[.cells (frN 3 (vb 3 i s 1) (vb 3 i s 2) (vb 3 i s 3) (vb 3 i s 4) (vb 3 i s 5) (vb 3 i s 6) (vb 3 i s 7) (vb 3 i s 8) (vb 3 i s 9)),.cells [iA 0],rsO (itS i s),.cells (ptrsK 3)]),fun i=>3-i,⟨0,⟨Nat.zero_le _,hs⟩,?_⟩,?_⟩
 ·all_goals refine⟨[],?_⟩
  repeat any_goals first|exact T0|exact rfl|exact Yr|refine Ya ?_ ?_
  all_goals conv=>whnf
 rintro i ⟨hi,hI⟩
 have hi:i≤3:=hi
 obtain rfl|rfl|rfl|rfl:i=0∨i=1∨i=2∨i=3:=by omega
 ·have u1:=uintG_sat (itS 0 s) (hil 0)
  have r1:=errG_sat (itS 1 s)
  conv=>whnf
  by_cases he:(itS 1 s).2=0
  ·rw[he] at r1
   iterate 5
    repeat' first|exact T0|(first|refine Yd fun _=>?_|refine Ye fun _=>?_|refine Yg ?_|refine Yk (ixP (by kernel_rfl) (by kernel_rfl) (by decide)) ?_|refine Yk (u1.at1 2 rfl rfl rfl) ?_|refine Yk (r1.at1 2 rfl rfl rfl) ?_|refine Yk (c1.pu rfl rfl) ?_);conv=>whnf|(refine Ya ?_ ?_<;>intro _<;>conv=>whnf)
    all_goals try (refine Or.inl ?_;conv=>whnf)
   refine⟨1,⟨by decide,he⟩,by decide,?_⟩
   all_goals refine⟨[],?_⟩
   repeat any_goals first|exact T0|exact rfl|exact Yr|refine Ya ?_ ?_
   all_goals conv=>whnf
  ·have c2:=check_no ((itS 1 s).2:Int) (by omega)
   obtain rfl:=hpe 1 (by decide) he
   rw[outP_err he]
   iterate 5
    repeat' first|exact T0|(first|refine Or.inr ⟨_,_,c2.pu rfl rfl,?_⟩|refine Yd fun _=>?_|refine Ye fun _=>?_|refine Yg ?_|refine Yk (ixP (by kernel_rfl) (by kernel_rfl) (by decide)) ?_|refine Yk (u1.at1 2 rfl rfl rfl) ?_|refine Yk (r1.at1 2 rfl rfl rfl) ?_);conv=>whnf|(refine Ya ?_ ?_<;>intro _<;>conv=>whnf)
    all_goals try (refine Or.inl ?_;conv=>whnf)
   refine⟨_,def_pan4 _ _ _ _ _ _ _ _ _ _ _ _ _ _ _ _ _,rfl,?_⟩
   conv=>whnf
   all_goals refine⟨[],?_⟩
   repeat any_goals first|exact T0|exact rfl|exact Yr|refine Ya ?_ ?_
   all_goals conv=>whnf
 ·have u1:=uintG_sat (itS 1 s) (hil 1)
  have r1:=errG_sat (itS 2 s)
  conv=>whnf
  by_cases he:(itS 2 s).2=0
  ·rw[he] at r1
   iterate 5
    repeat' first|exact T0|(first|refine Yd fun _=>?_|refine Ye fun _=>?_|refine Yg ?_|refine Yk (ixP (by kernel_rfl) (by kernel_rfl) (by decide)) ?_|refine Yk (u1.at1 2 rfl rfl rfl) ?_|refine Yk (r1.at1 2 rfl rfl rfl) ?_|refine Yk (c1.pu rfl rfl) ?_);conv=>whnf|(refine Ya ?_ ?_<;>intro _<;>conv=>whnf)
    all_goals try (refine Or.inl ?_;conv=>whnf)
   refine⟨2,⟨by decide,he⟩,by decide,?_⟩
   all_goals refine⟨[],?_⟩
   repeat any_goals first|exact T0|exact rfl|exact Yr|refine Ya ?_ ?_
   all_goals conv=>whnf
  ·have c2:=check_no ((itS 2 s).2:Int) (by omega)
   obtain rfl:=hpe 2 (by decide) he
   rw[outP_err he]
   iterate 5
    repeat' first|exact T0|(first|refine Or.inr ⟨_,_,c2.pu rfl rfl,?_⟩|refine Yd fun _=>?_|refine Ye fun _=>?_|refine Yg ?_|refine Yk (ixP (by kernel_rfl) (by kernel_rfl) (by decide)) ?_|refine Yk (u1.at1 2 rfl rfl rfl) ?_|refine Yk (r1.at1 2 rfl rfl rfl) ?_);conv=>whnf|(refine Ya ?_ ?_<;>intro _<;>conv=>whnf)
    all_goals try (refine Or.inl ?_;conv=>whnf)
   refine⟨_,def_pan4 _ _ _ _ _ _ _ _ _ _ _ _ _ _ _ _ _,rfl,?_⟩
   conv=>whnf
   all_goals refine⟨[],?_⟩
   repeat any_goals first|exact T0|exact rfl|exact Yr|refine Ya ?_ ?_
   all_goals conv=>whnf
 ·have u1:=uintG_sat (itS 2 s) (hil 2)
  have r1:=errG_sat (itS 3 s)
  conv=>whnf
  by_cases he:(itS 3 s).2=0
  ·rw[he] at r1
   iterate 5
    repeat' first|exact T0|(first|refine Yd fun _=>?_|refine Ye fun _=>?_|refine Yg ?_|refine Yk (ixP (by kernel_rfl) (by kernel_rfl) (by decide)) ?_|refine Yk (u1.at1 2 rfl rfl rfl) ?_|refine Yk (r1.at1 2 rfl rfl rfl) ?_|refine Yk (c1.pu rfl rfl) ?_);conv=>whnf|(refine Ya ?_ ?_<;>intro _<;>conv=>whnf)
    all_goals try (refine Or.inl ?_;conv=>whnf)
   refine⟨3,⟨by decide,he⟩,by decide,?_⟩
   all_goals refine⟨[],?_⟩
   repeat any_goals first|exact T0|exact rfl|exact Yr|refine Ya ?_ ?_
   all_goals conv=>whnf
  ·have c2:=check_no ((itS 3 s).2:Int) (by omega)
   obtain rfl:=hpe 3 (by decide) he
   rw[outP_err he]
   iterate 5
    repeat' first|exact T0|(first|refine Or.inr ⟨_,_,c2.pu rfl rfl,?_⟩|refine Yd fun _=>?_|refine Ye fun _=>?_|refine Yg ?_|refine Yk (ixP (by kernel_rfl) (by kernel_rfl) (by decide)) ?_|refine Yk (u1.at1 2 rfl rfl rfl) ?_|refine Yk (r1.at1 2 rfl rfl rfl) ?_);conv=>whnf|(refine Ya ?_ ?_<;>intro _<;>conv=>whnf)
    all_goals try (refine Or.inl ?_;conv=>whnf)
   refine⟨_,def_pan4 _ _ _ _ _ _ _ _ _ _ _ _ _ _ _ _ _,rfl,?_⟩
   conv=>whnf
   all_goals refine⟨[],?_⟩
   repeat any_goals first|exact T0|exact rfl|exact Yr|refine Ya ?_ ?_
   all_goals conv=>whnf
 have hq:=hpg hI
 replace hq:PP=finP (frS 3 3 s [] ([],[]) []) (itS 3 s):=hq
 have e1:=endG_sat (itS 3 s) (hil 3)
 conv=>whnf
 by_cases he:(endS (itS 3 s)).2=0
 case neg=>
  have c2:=check_no ((endS (itS 3 s)).2:Int) (by omega)
  rw[finP_end he] at hq
  subst hq
  rw[outP_err he]
  iterate 5
   repeat' first|exact T0|(first|refine Or.inr ⟨_,_,c2.pu rfl rfl,?_⟩|refine Yd fun _=>?_|refine Ye fun _=>?_|refine Yg ?_|refine Yk (e1.at1 2 rfl rfl rfl) ?_);conv=>whnf|(refine Ya ?_ ?_<;>intro _<;>conv=>whnf)
   all_goals try (refine Or.inl ?_;conv=>whnf)
  refine⟨_,def_pan4 _ _ _ _ _ _ _ _ _ _ _ _ _ _ _ _ _,rfl,?_⟩
  conv=>whnf
  all_goals refine⟨[],?_⟩
  repeat any_goals first|exact T0|exact rfl|exact Yr|refine Ya ?_ ?_
  all_goals conv=>whnf
 rw[he] at e1
 have hfo:=frS_ok 3 3 s (by decide) (ev:=[]) (sr:=([],[])) [] (by simp) (by simp) (by simp)
 have r1:=right_pre (frS 3 3 s [] ([],[]) []) hfo (xs:=nilR (frS 3 3 s [] ([],[]) [])) (by repeat' (first|exact trivial|refine And.intro ?_ ?_|exact .inl rfl|exact .inr ⟨rfl,_,rfl⟩))
 cases hr:rightF (frS 3 3 s [] ([],[]) []) with
 |false=>
  rw[hr] at r1
  rw[finP_no he hr] at hq
  subst hq
  rw[outP_err (by decide)]
  iterate 5
   repeat' first|exact T0|(first|refine Yd fun _=>?_|refine Ye fun _=>?_|refine Yg ?_|refine Yk (e1.at1 2 rfl rfl rfl) ?_|refine Yk (c1.pu rfl rfl) ?_|refine Yk (r1.pu rfl rfl) ?_|refine Yk (mkI 10) ?_);conv=>whnf|(refine Ya ?_ ?_<;>intro _<;>conv=>whnf)
   all_goals try (refine Or.inl ?_;conv=>whnf)
  refine⟨_,def_pan4 _ _ _ _ _ _ _ _ _ _ _ _ _ _ _ _ _,rfl,?_⟩
  conv=>whnf
  all_goals refine⟨[],?_⟩
  repeat any_goals first|exact T0|exact rfl|exact Yr|refine Ya ?_ ?_
  all_goals conv=>whnf
 |true=>
  rw[hr] at r1
  rw[finP_ok he hr] at hq
  subst hq
  iterate 5
   repeat' first|exact T0|(first|refine Yd fun _=>?_|refine Ye fun _=>?_|refine Yg ?_|refine Yk (e1.at1 2 rfl rfl rfl) ?_|refine Yk (c1.pu rfl rfl) ?_|refine Yk (r1.pu rfl rfl) ?_);conv=>whnf|(refine Ya ?_ ?_<;>intro _<;>conv=>whnf)
   all_goals try (refine Or.inl ?_;conv=>whnf)
  refine⟨_,def_retN _ _ _ _ _ _ _ _ _ _ _ _,rfl,?_⟩
  conv=>whnf
  all_goals refine⟨[],?_⟩
  repeat any_goals first|exact T0|exact rfl|exact Yr|refine Ya ?_ ?_
  all_goals conv=>whnf
set_option maxHeartbeats 8000000 in
theorem parse_4 (l:Bt) (hl:l.length≤65536) (s:Rs) (hu:uintS (l,0)=(4,s)) (hs:s.2=0):Sat Tryz.prog 49 [.d (bsD l)] [] (outP 4 (parseK 4 s)) []:=by
 have n1:=newG_sat l hl
 have k1:=kind_ok (l,0) hl (by rw[hu];exact hs) (by rw[hu];exact (by decide:1≤4)) (by rw[hu];exact (by decide:4≤8))
 rw[hu] at k1
 have hsl:s.1.length≤65536:=by have:=uintS_len (l,0);rw[hu] at this;exact Nat.le_trans this hl
 have hil:∀ i,(itS i s).1.length≤65536:=fun i=>Nat.le_trans (itS_len s i) hsl
 have f2:=fields_n 4 (by decide) (by decide) 0 0 0 0 0 0 0 0 0
 have c1:=check_ok
 have hpe:=fun i=>parseK_err (k:=4) (s:=s) i
 have hpg:=parseK_go (k:=4) (s:=s)
 generalize hP:parseK 4 s=PP at *
 refine satD_of_vc (T:=tiOf Tryz.prog) (E:=E0) (gc:=83) (ys:=[.ptr 0 0,.ptr 1 0]) PnF Tryz.func49 rfl rfl hE0 hm0 rfl rfl rfl rfl rfl rfl rfl rfl rfl ?_
 conv=>whnf
 iterate 5
  repeat' first|exact T0|(first|refine Yd fun _=>?_|refine Ye fun _=>?_|refine Yg ?_|refine Yk (n1.nw rfl) ?_|refine Yk (k1.at1 2 rfl rfl rfl) ?_|refine Yk (f2.at1 0 rfl rfl rfl) ?_|refine Yk (lenP (by kernel_rfl)) ?_);conv=>whnf|(refine Ya ?_ ?_<;>intro _<;>conv=>whnf)
  all_goals try (refine Or.inl ?_;conv=>whnf)
 all_goals try (exfalso;simp only[outL] at *;first|omega|contradiction|(simp_all;done)|(simp_all;omega))
 refine⟨Nat,fun i=>i≤6∧(itS i s).2=0,fun i=>([(16,iA i),(15,iA 6),(14,.rel 3 (slP 6)),(4,.ptr 2 0),(3,.ptr 1 0),(2,.ptr 0 0)],[.cells (frN 4 (vb 4 i s 1) (vb 4 i s 2) (vb 4 i s 3) (vb 4 i s 4) (vb 4 i s 5) (vb 4 i s 6) (vb 4 i s 7) (vb 4 i s 8) (vb 4 i s 9)),.cells [iA 0],rsO (itS i s),.cells (ptrsK 4)]),fun i=>6-i,⟨0,⟨Nat.zero_le _,hs⟩,?_⟩,?_⟩
 ·all_goals refine⟨[],?_⟩
  repeat any_goals first|exact T0|exact rfl|exact Yr|refine Ya ?_ ?_
  all_goals conv=>whnf
 rintro i ⟨hi,hI⟩
 have hi:i≤6:=hi
 obtain rfl|rfl|rfl|rfl|rfl|rfl|rfl:i=0∨i=1∨i=2∨i=3∨i=4∨i=5∨i=6:=by omega
 ·have u1:=uintG_sat (itS 0 s) (hil 0)
  have r1:=errG_sat (itS 1 s)
  conv=>whnf
  by_cases he:(itS 1 s).2=0
  ·rw[he] at r1
   iterate 5
    repeat' first|exact T0|(first|refine Yd fun _=>?_|refine Ye fun _=>?_|refine Yg ?_|refine Yk (ixP (by kernel_rfl) (by kernel_rfl) (by decide)) ?_|refine Yk (u1.at1 2 rfl rfl rfl) ?_|refine Yk (r1.at1 2 rfl rfl rfl) ?_|refine Yk (c1.pu rfl rfl) ?_);conv=>whnf|(refine Ya ?_ ?_<;>intro _<;>conv=>whnf)
    all_goals try (refine Or.inl ?_;conv=>whnf)
   refine⟨1,⟨by decide,he⟩,by decide,?_⟩
   all_goals refine⟨[],?_⟩
   repeat any_goals first|exact T0|exact rfl|exact Yr|refine Ya ?_ ?_
   all_goals conv=>whnf
  ·have c2:=check_no ((itS 1 s).2:Int) (by omega)
   obtain rfl:=hpe 1 (by decide) he
   rw[outP_err he]
   iterate 5
    repeat' first|exact T0|(first|refine Or.inr ⟨_,_,c2.pu rfl rfl,?_⟩|refine Yd fun _=>?_|refine Ye fun _=>?_|refine Yg ?_|refine Yk (ixP (by kernel_rfl) (by kernel_rfl) (by decide)) ?_|refine Yk (u1.at1 2 rfl rfl rfl) ?_|refine Yk (r1.at1 2 rfl rfl rfl) ?_);conv=>whnf|(refine Ya ?_ ?_<;>intro _<;>conv=>whnf)
    all_goals try (refine Or.inl ?_;conv=>whnf)
   refine⟨_,def_pan4 _ _ _ _ _ _ _ _ _ _ _ _ _ _ _ _ _,rfl,?_⟩
   conv=>whnf
   all_goals refine⟨[],?_⟩
   repeat any_goals first|exact T0|exact rfl|exact Yr|refine Ya ?_ ?_
   all_goals conv=>whnf
 ·have u1:=uintG_sat (itS 1 s) (hil 1)
  have r1:=errG_sat (itS 2 s)
  conv=>whnf
  by_cases he:(itS 2 s).2=0
  ·rw[he] at r1
   iterate 5
    repeat' first|exact T0|(first|refine Yd fun _=>?_|refine Ye fun _=>?_|refine Yg ?_|refine Yk (ixP (by kernel_rfl) (by kernel_rfl) (by decide)) ?_|refine Yk (u1.at1 2 rfl rfl rfl) ?_|refine Yk (r1.at1 2 rfl rfl rfl) ?_|refine Yk (c1.pu rfl rfl) ?_);conv=>whnf|(refine Ya ?_ ?_<;>intro _<;>conv=>whnf)
    all_goals try (refine Or.inl ?_;conv=>whnf)
   refine⟨2,⟨by decide,he⟩,by decide,?_⟩
   all_goals refine⟨[],?_⟩
   repeat any_goals first|exact T0|exact rfl|exact Yr|refine Ya ?_ ?_
   all_goals conv=>whnf
  ·have c2:=check_no ((itS 2 s).2:Int) (by omega)
   obtain rfl:=hpe 2 (by decide) he
   rw[outP_err he]
   iterate 5
    repeat' first|exact T0|(first|refine Or.inr ⟨_,_,c2.pu rfl rfl,?_⟩|refine Yd fun _=>?_|refine Ye fun _=>?_|refine Yg ?_|refine Yk (ixP (by kernel_rfl) (by kernel_rfl) (by decide)) ?_|refine Yk (u1.at1 2 rfl rfl rfl) ?_|refine Yk (r1.at1 2 rfl rfl rfl) ?_);conv=>whnf|(refine Ya ?_ ?_<;>intro _<;>conv=>whnf)
    all_goals try (refine Or.inl ?_;conv=>whnf)
   refine⟨_,def_pan4 _ _ _ _ _ _ _ _ _ _ _ _ _ _ _ _ _,rfl,?_⟩
   conv=>whnf
   all_goals refine⟨[],?_⟩
   repeat any_goals first|exact T0|exact rfl|exact Yr|refine Ya ?_ ?_
   all_goals conv=>whnf
 ·have u1:=uintG_sat (itS 2 s) (hil 2)
  have r1:=errG_sat (itS 3 s)
  conv=>whnf
  by_cases he:(itS 3 s).2=0
  ·rw[he] at r1
   iterate 5
    repeat' first|exact T0|(first|refine Yd fun _=>?_|refine Ye fun _=>?_|refine Yg ?_|refine Yk (ixP (by kernel_rfl) (by kernel_rfl) (by decide)) ?_|refine Yk (u1.at1 2 rfl rfl rfl) ?_|refine Yk (r1.at1 2 rfl rfl rfl) ?_|refine Yk (c1.pu rfl rfl) ?_);conv=>whnf|(refine Ya ?_ ?_<;>intro _<;>conv=>whnf)
    all_goals try (refine Or.inl ?_;conv=>whnf)
   refine⟨3,⟨by decide,he⟩,by decide,?_⟩
   all_goals refine⟨[],?_⟩
   repeat any_goals first|exact T0|exact rfl|exact Yr|refine Ya ?_ ?_
   all_goals conv=>whnf
  ·have c2:=check_no ((itS 3 s).2:Int) (by omega)
   obtain rfl:=hpe 3 (by decide) he
   rw[outP_err he]
   iterate 5
    repeat' first|exact T0|(first|refine Or.inr ⟨_,_,c2.pu rfl rfl,?_⟩|refine Yd fun _=>?_|refine Ye fun _=>?_|refine Yg ?_|refine Yk (ixP (by kernel_rfl) (by kernel_rfl) (by decide)) ?_|refine Yk (u1.at1 2 rfl rfl rfl) ?_|refine Yk (r1.at1 2 rfl rfl rfl) ?_);conv=>whnf|(refine Ya ?_ ?_<;>intro _<;>conv=>whnf)
    all_goals try (refine Or.inl ?_;conv=>whnf)
   refine⟨_,def_pan4 _ _ _ _ _ _ _ _ _ _ _ _ _ _ _ _ _,rfl,?_⟩
   conv=>whnf
   all_goals refine⟨[],?_⟩
   repeat any_goals first|exact T0|exact rfl|exact Yr|refine Ya ?_ ?_
   all_goals conv=>whnf
 ·have u1:=uintG_sat (itS 3 s) (hil 3)
  have r1:=errG_sat (itS 4 s)
  conv=>whnf
  by_cases he:(itS 4 s).2=0
  ·rw[he] at r1
   iterate 5
    repeat' first|exact T0|(first|refine Yd fun _=>?_|refine Ye fun _=>?_|refine Yg ?_|refine Yk (ixP (by kernel_rfl) (by kernel_rfl) (by decide)) ?_|refine Yk (u1.at1 2 rfl rfl rfl) ?_|refine Yk (r1.at1 2 rfl rfl rfl) ?_|refine Yk (c1.pu rfl rfl) ?_);conv=>whnf|(refine Ya ?_ ?_<;>intro _<;>conv=>whnf)
    all_goals try (refine Or.inl ?_;conv=>whnf)
   refine⟨4,⟨by decide,he⟩,by decide,?_⟩
   all_goals refine⟨[],?_⟩
   repeat any_goals first|exact T0|exact rfl|exact Yr|refine Ya ?_ ?_
   all_goals conv=>whnf
  ·have c2:=check_no ((itS 4 s).2:Int) (by omega)
   obtain rfl:=hpe 4 (by decide) he
   rw[outP_err he]
   iterate 5
    repeat' first|exact T0|(first|refine Or.inr ⟨_,_,c2.pu rfl rfl,?_⟩|refine Yd fun _=>?_|refine Ye fun _=>?_|refine Yg ?_|refine Yk (ixP (by kernel_rfl) (by kernel_rfl) (by decide)) ?_|refine Yk (u1.at1 2 rfl rfl rfl) ?_|refine Yk (r1.at1 2 rfl rfl rfl) ?_);conv=>whnf|(refine Ya ?_ ?_<;>intro _<;>conv=>whnf)
    all_goals try (refine Or.inl ?_;conv=>whnf)
   refine⟨_,def_pan4 _ _ _ _ _ _ _ _ _ _ _ _ _ _ _ _ _,rfl,?_⟩
   conv=>whnf
   all_goals refine⟨[],?_⟩
   repeat any_goals first|exact T0|exact rfl|exact Yr|refine Ya ?_ ?_
   all_goals conv=>whnf
 ·have u1:=uintG_sat (itS 4 s) (hil 4)
  have r1:=errG_sat (itS 5 s)
  conv=>whnf
  by_cases he:(itS 5 s).2=0
  ·rw[he] at r1
   iterate 5
    repeat' first|exact T0|(first|refine Yd fun _=>?_|refine Ye fun _=>?_|refine Yg ?_|refine Yk (ixP (by kernel_rfl) (by kernel_rfl) (by decide)) ?_|refine Yk (u1.at1 2 rfl rfl rfl) ?_|refine Yk (r1.at1 2 rfl rfl rfl) ?_|refine Yk (c1.pu rfl rfl) ?_);conv=>whnf|(refine Ya ?_ ?_<;>intro _<;>conv=>whnf)
    all_goals try (refine Or.inl ?_;conv=>whnf)
   refine⟨5,⟨by decide,he⟩,by decide,?_⟩
   all_goals refine⟨[],?_⟩
   repeat any_goals first|exact T0|exact rfl|exact Yr|refine Ya ?_ ?_
   all_goals conv=>whnf
  ·have c2:=check_no ((itS 5 s).2:Int) (by omega)
   obtain rfl:=hpe 5 (by decide) he
   rw[outP_err he]
   iterate 5
    repeat' first|exact T0|(first|refine Or.inr ⟨_,_,c2.pu rfl rfl,?_⟩|refine Yd fun _=>?_|refine Ye fun _=>?_|refine Yg ?_|refine Yk (ixP (by kernel_rfl) (by kernel_rfl) (by decide)) ?_|refine Yk (u1.at1 2 rfl rfl rfl) ?_|refine Yk (r1.at1 2 rfl rfl rfl) ?_);conv=>whnf|(refine Ya ?_ ?_<;>intro _<;>conv=>whnf)
    all_goals try (refine Or.inl ?_;conv=>whnf)
   refine⟨_,def_pan4 _ _ _ _ _ _ _ _ _ _ _ _ _ _ _ _ _,rfl,?_⟩
   conv=>whnf
   all_goals refine⟨[],?_⟩
   repeat any_goals first|exact T0|exact rfl|exact Yr|refine Ya ?_ ?_
   all_goals conv=>whnf
 ·have u1:=uintG_sat (itS 5 s) (hil 5)
  have r1:=errG_sat (itS 6 s)
  conv=>whnf
  by_cases he:(itS 6 s).2=0
  ·rw[he] at r1
   iterate 5
    repeat' first|exact T0|(first|refine Yd fun _=>?_|refine Ye fun _=>?_|refine Yg ?_|refine Yk (ixP (by kernel_rfl) (by kernel_rfl) (by decide)) ?_|refine Yk (u1.at1 2 rfl rfl rfl) ?_|refine Yk (r1.at1 2 rfl rfl rfl) ?_|refine Yk (c1.pu rfl rfl) ?_);conv=>whnf|(refine Ya ?_ ?_<;>intro _<;>conv=>whnf)
    all_goals try (refine Or.inl ?_;conv=>whnf)
   refine⟨6,⟨by decide,he⟩,by decide,?_⟩
   all_goals refine⟨[],?_⟩
   repeat any_goals first|exact T0|exact rfl|exact Yr|refine Ya ?_ ?_
   all_goals conv=>whnf
  ·have c2:=check_no ((itS 6 s).2:Int) (by omega)
   obtain rfl:=hpe 6 (by decide) he
   rw[outP_err he]
   iterate 5
    repeat' first|exact T0|(first|refine Or.inr ⟨_,_,c2.pu rfl rfl,?_⟩|refine Yd fun _=>?_|refine Ye fun _=>?_|refine Yg ?_|refine Yk (ixP (by kernel_rfl) (by kernel_rfl) (by decide)) ?_|refine Yk (u1.at1 2 rfl rfl rfl) ?_|refine Yk (r1.at1 2 rfl rfl rfl) ?_);conv=>whnf|(refine Ya ?_ ?_<;>intro _<;>conv=>whnf)
    all_goals try (refine Or.inl ?_;conv=>whnf)
   refine⟨_,def_pan4 _ _ _ _ _ _ _ _ _ _ _ _ _ _ _ _ _,rfl,?_⟩
   conv=>whnf
   all_goals refine⟨[],?_⟩
   repeat any_goals first|exact T0|exact rfl|exact Yr|refine Ya ?_ ?_
   all_goals conv=>whnf
 have hq:=hpg hI
 replace hq:PP=finP (frS 4 6 s [] ([],[]) []) (itS 6 s):=hq
 have e1:=endG_sat (itS 6 s) (hil 6)
 conv=>whnf
 by_cases he:(endS (itS 6 s)).2=0
 case neg=>
  have c2:=check_no ((endS (itS 6 s)).2:Int) (by omega)
  rw[finP_end he] at hq
  subst hq
  rw[outP_err he]
  iterate 5
   repeat' first|exact T0|(first|refine Or.inr ⟨_,_,c2.pu rfl rfl,?_⟩|refine Yd fun _=>?_|refine Ye fun _=>?_|refine Yg ?_|refine Yk (e1.at1 2 rfl rfl rfl) ?_);conv=>whnf|(refine Ya ?_ ?_<;>intro _<;>conv=>whnf)
   all_goals try (refine Or.inl ?_;conv=>whnf)
  refine⟨_,def_pan4 _ _ _ _ _ _ _ _ _ _ _ _ _ _ _ _ _,rfl,?_⟩
  conv=>whnf
  all_goals refine⟨[],?_⟩
  repeat any_goals first|exact T0|exact rfl|exact Yr|refine Ya ?_ ?_
  all_goals conv=>whnf
 rw[he] at e1
 have hfo:=frS_ok 4 6 s (by decide) (ev:=[]) (sr:=([],[])) [] (by simp) (by simp) (by simp)
 have r1:=right_pre (frS 4 6 s [] ([],[]) []) hfo (xs:=nilR (frS 4 6 s [] ([],[]) [])) (by repeat' (first|exact trivial|refine And.intro ?_ ?_|exact .inl rfl|exact .inr ⟨rfl,_,rfl⟩))
 cases hr:rightF (frS 4 6 s [] ([],[]) []) with
 |false=>
  rw[hr] at r1
  rw[finP_no he hr] at hq
  subst hq
  rw[outP_err (by decide)]
  iterate 5
   repeat' first|exact T0|(first|refine Yd fun _=>?_|refine Ye fun _=>?_|refine Yg ?_|refine Yk (e1.at1 2 rfl rfl rfl) ?_|refine Yk (c1.pu rfl rfl) ?_|refine Yk (r1.pu rfl rfl) ?_|refine Yk (mkI 10) ?_);conv=>whnf|(refine Ya ?_ ?_<;>intro _<;>conv=>whnf)
   all_goals try (refine Or.inl ?_;conv=>whnf)
  refine⟨_,def_pan4 _ _ _ _ _ _ _ _ _ _ _ _ _ _ _ _ _,rfl,?_⟩
  conv=>whnf
  all_goals refine⟨[],?_⟩
  repeat any_goals first|exact T0|exact rfl|exact Yr|refine Ya ?_ ?_
  all_goals conv=>whnf
 |true=>
  rw[hr] at r1
  rw[finP_ok he hr] at hq
  subst hq
  iterate 5
   repeat' first|exact T0|(first|refine Yd fun _=>?_|refine Ye fun _=>?_|refine Yg ?_|refine Yk (e1.at1 2 rfl rfl rfl) ?_|refine Yk (c1.pu rfl rfl) ?_|refine Yk (r1.pu rfl rfl) ?_);conv=>whnf|(refine Ya ?_ ?_<;>intro _<;>conv=>whnf)
   all_goals try (refine Or.inl ?_;conv=>whnf)
  refine⟨_,def_retN _ _ _ _ _ _ _ _ _ _ _ _,rfl,?_⟩
  conv=>whnf
  all_goals refine⟨[],?_⟩
  repeat any_goals first|exact T0|exact rfl|exact Yr|refine Ya ?_ ?_
  all_goals conv=>whnf
set_option maxHeartbeats 8000000 in
theorem parse_6 (l:Bt) (hl:l.length≤65536) (s:Rs) (hu:uintS (l,0)=(6,s)) (hs:s.2=0):Sat Tryz.prog 49 [.d (bsD l)] [] (outP 6 (parseK 6 s)) []:=by
 have n1:=newG_sat l hl
 have k1:=kind_ok (l,0) hl (by rw[hu];exact hs) (by rw[hu];exact (by decide:1≤6)) (by rw[hu];exact (by decide:6≤8))
 rw[hu] at k1
 have hsl:s.1.length≤65536:=by have:=uintS_len (l,0);rw[hu] at this;exact Nat.le_trans this hl
 have hil:∀ i,(itS i s).1.length≤65536:=fun i=>Nat.le_trans (itS_len s i) hsl
 have f2:=fields_n 6 (by decide) (by decide) 0 0 0 0 0 0 0 0 0
 have c1:=check_ok
 have hpe:=fun i=>parseK_err (k:=6) (s:=s) i
 have hpg:=parseK_go (k:=6) (s:=s)
 generalize hP:parseK 6 s=PP at *
 refine satD_of_vc (T:=tiOf Tryz.prog) (E:=E0) (gc:=83) (ys:=[.ptr 0 0,.ptr 1 0]) PnF Tryz.func49 rfl rfl hE0 hm0 rfl rfl rfl rfl rfl rfl rfl rfl rfl ?_
 conv=>whnf
 iterate 5
  repeat' first|exact T0|(first|refine Yd fun _=>?_|refine Ye fun _=>?_|refine Yg ?_|refine Yk (n1.nw rfl) ?_|refine Yk (k1.at1 2 rfl rfl rfl) ?_|refine Yk (f2.at1 0 rfl rfl rfl) ?_|refine Yk (lenP (by kernel_rfl)) ?_);conv=>whnf|(refine Ya ?_ ?_<;>intro _<;>conv=>whnf)
  all_goals try (refine Or.inl ?_;conv=>whnf)
 all_goals try (exfalso;simp only[outL] at *;first|omega|contradiction|(simp_all;done)|(simp_all;omega))
 refine⟨Nat,fun i=>i≤3∧(itS i s).2=0,fun i=>([(16,iA i),(15,iA 3),(14,.rel 3 (slP 3)),(4,.ptr 2 0),(3,.ptr 1 0),(2,.ptr 0 0)],[.cells (frN 6 (vb 6 i s 1) (vb 6 i s 2) (vb 6 i s 3) (vb 6 i s 4) (vb 6 i s 5) (vb 6 i s 6) (vb 6 i s 7) (vb 6 i s 8) (vb 6 i s 9)),.cells [iA 0],rsO (itS i s),.cells (ptrsK 6)]),fun i=>3-i,⟨0,⟨Nat.zero_le _,hs⟩,?_⟩,?_⟩
 ·all_goals refine⟨[],?_⟩
  repeat any_goals first|exact T0|exact rfl|exact Yr|refine Ya ?_ ?_
  all_goals conv=>whnf
 rintro i ⟨hi,hI⟩
 have hi:i≤3:=hi
 obtain rfl|rfl|rfl|rfl:i=0∨i=1∨i=2∨i=3:=by omega
 ·have u1:=uintG_sat (itS 0 s) (hil 0)
  have r1:=errG_sat (itS 1 s)
  conv=>whnf
  by_cases he:(itS 1 s).2=0
  ·rw[he] at r1
   iterate 5
    repeat' first|exact T0|(first|refine Yd fun _=>?_|refine Ye fun _=>?_|refine Yg ?_|refine Yk (ixP (by kernel_rfl) (by kernel_rfl) (by decide)) ?_|refine Yk (u1.at1 2 rfl rfl rfl) ?_|refine Yk (r1.at1 2 rfl rfl rfl) ?_|refine Yk (c1.pu rfl rfl) ?_);conv=>whnf|(refine Ya ?_ ?_<;>intro _<;>conv=>whnf)
    all_goals try (refine Or.inl ?_;conv=>whnf)
   refine⟨1,⟨by decide,he⟩,by decide,?_⟩
   all_goals refine⟨[],?_⟩
   repeat any_goals first|exact T0|exact rfl|exact Yr|refine Ya ?_ ?_
   all_goals conv=>whnf
  ·have c2:=check_no ((itS 1 s).2:Int) (by omega)
   obtain rfl:=hpe 1 (by decide) he
   rw[outP_err he]
   iterate 5
    repeat' first|exact T0|(first|refine Or.inr ⟨_,_,c2.pu rfl rfl,?_⟩|refine Yd fun _=>?_|refine Ye fun _=>?_|refine Yg ?_|refine Yk (ixP (by kernel_rfl) (by kernel_rfl) (by decide)) ?_|refine Yk (u1.at1 2 rfl rfl rfl) ?_|refine Yk (r1.at1 2 rfl rfl rfl) ?_);conv=>whnf|(refine Ya ?_ ?_<;>intro _<;>conv=>whnf)
    all_goals try (refine Or.inl ?_;conv=>whnf)
   refine⟨_,def_pan4 _ _ _ _ _ _ _ _ _ _ _ _ _ _ _ _ _,rfl,?_⟩
   conv=>whnf
   all_goals refine⟨[],?_⟩
   repeat any_goals first|exact T0|exact rfl|exact Yr|refine Ya ?_ ?_
   all_goals conv=>whnf
 ·have u1:=uintG_sat (itS 1 s) (hil 1)
  have r1:=errG_sat (itS 2 s)
  conv=>whnf
  by_cases he:(itS 2 s).2=0
  ·rw[he] at r1
   iterate 5
    repeat' first|exact T0|(first|refine Yd fun _=>?_|refine Ye fun _=>?_|refine Yg ?_|refine Yk (ixP (by kernel_rfl) (by kernel_rfl) (by decide)) ?_|refine Yk (u1.at1 2 rfl rfl rfl) ?_|refine Yk (r1.at1 2 rfl rfl rfl) ?_|refine Yk (c1.pu rfl rfl) ?_);conv=>whnf|(refine Ya ?_ ?_<;>intro _<;>conv=>whnf)
    all_goals try (refine Or.inl ?_;conv=>whnf)
   refine⟨2,⟨by decide,he⟩,by decide,?_⟩
   all_goals refine⟨[],?_⟩
   repeat any_goals first|exact T0|exact rfl|exact Yr|refine Ya ?_ ?_
   all_goals conv=>whnf
  ·have c2:=check_no ((itS 2 s).2:Int) (by omega)
   obtain rfl:=hpe 2 (by decide) he
   rw[outP_err he]
   iterate 5
    repeat' first|exact T0|(first|refine Or.inr ⟨_,_,c2.pu rfl rfl,?_⟩|refine Yd fun _=>?_|refine Ye fun _=>?_|refine Yg ?_|refine Yk (ixP (by kernel_rfl) (by kernel_rfl) (by decide)) ?_|refine Yk (u1.at1 2 rfl rfl rfl) ?_|refine Yk (r1.at1 2 rfl rfl rfl) ?_);conv=>whnf|(refine Ya ?_ ?_<;>intro _<;>conv=>whnf)
    all_goals try (refine Or.inl ?_;conv=>whnf)
   refine⟨_,def_pan4 _ _ _ _ _ _ _ _ _ _ _ _ _ _ _ _ _,rfl,?_⟩
   conv=>whnf
   all_goals refine⟨[],?_⟩
   repeat any_goals first|exact T0|exact rfl|exact Yr|refine Ya ?_ ?_
   all_goals conv=>whnf
 ·have u1:=uintG_sat (itS 2 s) (hil 2)
  have r1:=errG_sat (itS 3 s)
  conv=>whnf
  by_cases he:(itS 3 s).2=0
  ·rw[he] at r1
   iterate 5
    repeat' first|exact T0|(first|refine Yd fun _=>?_|refine Ye fun _=>?_|refine Yg ?_|refine Yk (ixP (by kernel_rfl) (by kernel_rfl) (by decide)) ?_|refine Yk (u1.at1 2 rfl rfl rfl) ?_|refine Yk (r1.at1 2 rfl rfl rfl) ?_|refine Yk (c1.pu rfl rfl) ?_);conv=>whnf|(refine Ya ?_ ?_<;>intro _<;>conv=>whnf)
    all_goals try (refine Or.inl ?_;conv=>whnf)
   refine⟨3,⟨by decide,he⟩,by decide,?_⟩
   all_goals refine⟨[],?_⟩
   repeat any_goals first|exact T0|exact rfl|exact Yr|refine Ya ?_ ?_
   all_goals conv=>whnf
  ·have c2:=check_no ((itS 3 s).2:Int) (by omega)
   obtain rfl:=hpe 3 (by decide) he
   rw[outP_err he]
   iterate 5
    repeat' first|exact T0|(first|refine Or.inr ⟨_,_,c2.pu rfl rfl,?_⟩|refine Yd fun _=>?_|refine Ye fun _=>?_|refine Yg ?_|refine Yk (ixP (by kernel_rfl) (by kernel_rfl) (by decide)) ?_|refine Yk (u1.at1 2 rfl rfl rfl) ?_|refine Yk (r1.at1 2 rfl rfl rfl) ?_);conv=>whnf|(refine Ya ?_ ?_<;>intro _<;>conv=>whnf)
    all_goals try (refine Or.inl ?_;conv=>whnf)
   refine⟨_,def_pan4 _ _ _ _ _ _ _ _ _ _ _ _ _ _ _ _ _,rfl,?_⟩
   conv=>whnf
   all_goals refine⟨[],?_⟩
   repeat any_goals first|exact T0|exact rfl|exact Yr|refine Ya ?_ ?_
   all_goals conv=>whnf
 have hq:=hpg hI
 replace hq:PP=finP (frS 6 3 s [] ([],[]) []) (itS 3 s):=hq
 have e1:=endG_sat (itS 3 s) (hil 3)
 conv=>whnf
 by_cases he:(endS (itS 3 s)).2=0
 case neg=>
  have c2:=check_no ((endS (itS 3 s)).2:Int) (by omega)
  rw[finP_end he] at hq
  subst hq
  rw[outP_err he]
  iterate 5
   repeat' first|exact T0|(first|refine Or.inr ⟨_,_,c2.pu rfl rfl,?_⟩|refine Yd fun _=>?_|refine Ye fun _=>?_|refine Yg ?_|refine Yk (e1.at1 2 rfl rfl rfl) ?_);conv=>whnf|(refine Ya ?_ ?_<;>intro _<;>conv=>whnf)
   all_goals try (refine Or.inl ?_;conv=>whnf)
  refine⟨_,def_pan4 _ _ _ _ _ _ _ _ _ _ _ _ _ _ _ _ _,rfl,?_⟩
  conv=>whnf
  all_goals refine⟨[],?_⟩
  repeat any_goals first|exact T0|exact rfl|exact Yr|refine Ya ?_ ?_
  all_goals conv=>whnf
 rw[he] at e1
 have hfo:=frS_ok 6 3 s (by decide) (ev:=[]) (sr:=([],[])) [] (by simp) (by simp) (by simp)
 have r1:=right_pre (frS 6 3 s [] ([],[]) []) hfo (xs:=nilR (frS 6 3 s [] ([],[]) [])) (by repeat' (first|exact trivial|refine And.intro ?_ ?_|exact .inl rfl|exact .inr ⟨rfl,_,rfl⟩))
 cases hr:rightF (frS 6 3 s [] ([],[]) []) with
 |false=>
  rw[hr] at r1
  rw[finP_no he hr] at hq
  subst hq
  rw[outP_err (by decide)]
  iterate 5
   repeat' first|exact T0|(first|refine Yd fun _=>?_|refine Ye fun _=>?_|refine Yg ?_|refine Yk (e1.at1 2 rfl rfl rfl) ?_|refine Yk (c1.pu rfl rfl) ?_|refine Yk (r1.pu rfl rfl) ?_|refine Yk (mkI 10) ?_);conv=>whnf|(refine Ya ?_ ?_<;>intro _<;>conv=>whnf)
   all_goals try (refine Or.inl ?_;conv=>whnf)
  refine⟨_,def_pan4 _ _ _ _ _ _ _ _ _ _ _ _ _ _ _ _ _,rfl,?_⟩
  conv=>whnf
  all_goals refine⟨[],?_⟩
  repeat any_goals first|exact T0|exact rfl|exact Yr|refine Ya ?_ ?_
  all_goals conv=>whnf
 |true=>
  rw[hr] at r1
  rw[finP_ok he hr] at hq
  subst hq
  iterate 5
   repeat' first|exact T0|(first|refine Yd fun _=>?_|refine Ye fun _=>?_|refine Yg ?_|refine Yk (e1.at1 2 rfl rfl rfl) ?_|refine Yk (c1.pu rfl rfl) ?_|refine Yk (r1.pu rfl rfl) ?_);conv=>whnf|(refine Ya ?_ ?_<;>intro _<;>conv=>whnf)
   all_goals try (refine Or.inl ?_;conv=>whnf)
  refine⟨_,def_retN _ _ _ _ _ _ _ _ _ _ _ _,rfl,?_⟩
  conv=>whnf
  all_goals refine⟨[],?_⟩
  repeat any_goals first|exact T0|exact rfl|exact Yr|refine Ya ?_ ?_
  all_goals conv=>whnf
set_option maxHeartbeats 8000000 in
theorem parse_7 (l:Bt) (hl:l.length≤65536) (s:Rs) (hu:uintS (l,0)=(7,s)) (hs:s.2=0):Sat Tryz.prog 49 [.d (bsD l)] [] (outP 7 (parseK 7 s)) []:=by
 have n1:=newG_sat l hl
 have k1:=kind_ok (l,0) hl (by rw[hu];exact hs) (by rw[hu];exact (by decide:1≤7)) (by rw[hu];exact (by decide:7≤8))
 rw[hu] at k1
 have hsl:s.1.length≤65536:=by have:=uintS_len (l,0);rw[hu] at this;exact Nat.le_trans this hl
 have hil:∀ i,(itS i s).1.length≤65536:=fun i=>Nat.le_trans (itS_len s i) hsl
 have f2:=fields_n 7 (by decide) (by decide) 0 0 0 0 0 0 0 0 0
 have c1:=check_ok
 have hpe:=fun i=>parseK_err (k:=7) (s:=s) i
 have hpg:=parseK_go (k:=7) (s:=s)
 generalize hP:parseK 7 s=PP at *
 refine satD_of_vc (T:=tiOf Tryz.prog) (E:=E0) (gc:=83) (ys:=[.ptr 0 0,.ptr 1 0]) PnF Tryz.func49 rfl rfl hE0 hm0 rfl rfl rfl rfl rfl rfl rfl rfl rfl ?_
 conv=>whnf
 iterate 5
  repeat' first|exact T0|(first|refine Yd fun _=>?_|refine Ye fun _=>?_|refine Yg ?_|refine Yk (n1.nw rfl) ?_|refine Yk (k1.at1 2 rfl rfl rfl) ?_|refine Yk (f2.at1 0 rfl rfl rfl) ?_|refine Yk (lenP (by kernel_rfl)) ?_);conv=>whnf|(refine Ya ?_ ?_<;>intro _<;>conv=>whnf)
  all_goals try (refine Or.inl ?_;conv=>whnf)
 all_goals try (exfalso;simp only[outL] at *;first|omega|contradiction|(simp_all;done)|(simp_all;omega))
 refine⟨Nat,fun i=>i≤4∧(itS i s).2=0,fun i=>([(16,iA i),(15,iA 4),(14,.rel 3 (slP 4)),(4,.ptr 2 0),(3,.ptr 1 0),(2,.ptr 0 0)],[.cells (frN 7 (vb 7 i s 1) (vb 7 i s 2) (vb 7 i s 3) (vb 7 i s 4) (vb 7 i s 5) (vb 7 i s 6) (vb 7 i s 7) (vb 7 i s 8) (vb 7 i s 9)),.cells [iA 0],rsO (itS i s),.cells (ptrsK 7)]),fun i=>4-i,⟨0,⟨Nat.zero_le _,hs⟩,?_⟩,?_⟩
 ·all_goals refine⟨[],?_⟩
  repeat any_goals first|exact T0|exact rfl|exact Yr|refine Ya ?_ ?_
  all_goals conv=>whnf
 rintro i ⟨hi,hI⟩
 have hi:i≤4:=hi
 obtain rfl|rfl|rfl|rfl|rfl:i=0∨i=1∨i=2∨i=3∨i=4:=by omega
 ·have u1:=uintG_sat (itS 0 s) (hil 0)
  have r1:=errG_sat (itS 1 s)
  conv=>whnf
  by_cases he:(itS 1 s).2=0
  ·rw[he] at r1
   iterate 5
    repeat' first|exact T0|(first|refine Yd fun _=>?_|refine Ye fun _=>?_|refine Yg ?_|refine Yk (ixP (by kernel_rfl) (by kernel_rfl) (by decide)) ?_|refine Yk (u1.at1 2 rfl rfl rfl) ?_|refine Yk (r1.at1 2 rfl rfl rfl) ?_|refine Yk (c1.pu rfl rfl) ?_);conv=>whnf|(refine Ya ?_ ?_<;>intro _<;>conv=>whnf)
    all_goals try (refine Or.inl ?_;conv=>whnf)
   refine⟨1,⟨by decide,he⟩,by decide,?_⟩
   all_goals refine⟨[],?_⟩
   repeat any_goals first|exact T0|exact rfl|exact Yr|refine Ya ?_ ?_
   all_goals conv=>whnf
  ·have c2:=check_no ((itS 1 s).2:Int) (by omega)
   obtain rfl:=hpe 1 (by decide) he
   rw[outP_err he]
   iterate 5
    repeat' first|exact T0|(first|refine Or.inr ⟨_,_,c2.pu rfl rfl,?_⟩|refine Yd fun _=>?_|refine Ye fun _=>?_|refine Yg ?_|refine Yk (ixP (by kernel_rfl) (by kernel_rfl) (by decide)) ?_|refine Yk (u1.at1 2 rfl rfl rfl) ?_|refine Yk (r1.at1 2 rfl rfl rfl) ?_);conv=>whnf|(refine Ya ?_ ?_<;>intro _<;>conv=>whnf)
    all_goals try (refine Or.inl ?_;conv=>whnf)
   refine⟨_,def_pan4 _ _ _ _ _ _ _ _ _ _ _ _ _ _ _ _ _,rfl,?_⟩
   conv=>whnf
   all_goals refine⟨[],?_⟩
   repeat any_goals first|exact T0|exact rfl|exact Yr|refine Ya ?_ ?_
   all_goals conv=>whnf
 ·have u1:=uintG_sat (itS 1 s) (hil 1)
  have r1:=errG_sat (itS 2 s)
  conv=>whnf
  by_cases he:(itS 2 s).2=0
  ·rw[he] at r1
   iterate 5
    repeat' first|exact T0|(first|refine Yd fun _=>?_|refine Ye fun _=>?_|refine Yg ?_|refine Yk (ixP (by kernel_rfl) (by kernel_rfl) (by decide)) ?_|refine Yk (u1.at1 2 rfl rfl rfl) ?_|refine Yk (r1.at1 2 rfl rfl rfl) ?_|refine Yk (c1.pu rfl rfl) ?_);conv=>whnf|(refine Ya ?_ ?_<;>intro _<;>conv=>whnf)
    all_goals try (refine Or.inl ?_;conv=>whnf)
   refine⟨2,⟨by decide,he⟩,by decide,?_⟩
   all_goals refine⟨[],?_⟩
   repeat any_goals first|exact T0|exact rfl|exact Yr|refine Ya ?_ ?_
   all_goals conv=>whnf
  ·have c2:=check_no ((itS 2 s).2:Int) (by omega)
   obtain rfl:=hpe 2 (by decide) he
   rw[outP_err he]
   iterate 5
    repeat' first|exact T0|(first|refine Or.inr ⟨_,_,c2.pu rfl rfl,?_⟩|refine Yd fun _=>?_|refine Ye fun _=>?_|refine Yg ?_|refine Yk (ixP (by kernel_rfl) (by kernel_rfl) (by decide)) ?_|refine Yk (u1.at1 2 rfl rfl rfl) ?_|refine Yk (r1.at1 2 rfl rfl rfl) ?_);conv=>whnf|(refine Ya ?_ ?_<;>intro _<;>conv=>whnf)
    all_goals try (refine Or.inl ?_;conv=>whnf)
   refine⟨_,def_pan4 _ _ _ _ _ _ _ _ _ _ _ _ _ _ _ _ _,rfl,?_⟩
   conv=>whnf
   all_goals refine⟨[],?_⟩
   repeat any_goals first|exact T0|exact rfl|exact Yr|refine Ya ?_ ?_
   all_goals conv=>whnf
 ·have u1:=uintG_sat (itS 2 s) (hil 2)
  have r1:=errG_sat (itS 3 s)
  conv=>whnf
  by_cases he:(itS 3 s).2=0
  ·rw[he] at r1
   iterate 5
    repeat' first|exact T0|(first|refine Yd fun _=>?_|refine Ye fun _=>?_|refine Yg ?_|refine Yk (ixP (by kernel_rfl) (by kernel_rfl) (by decide)) ?_|refine Yk (u1.at1 2 rfl rfl rfl) ?_|refine Yk (r1.at1 2 rfl rfl rfl) ?_|refine Yk (c1.pu rfl rfl) ?_);conv=>whnf|(refine Ya ?_ ?_<;>intro _<;>conv=>whnf)
    all_goals try (refine Or.inl ?_;conv=>whnf)
   refine⟨3,⟨by decide,he⟩,by decide,?_⟩
   all_goals refine⟨[],?_⟩
   repeat any_goals first|exact T0|exact rfl|exact Yr|refine Ya ?_ ?_
   all_goals conv=>whnf
  ·have c2:=check_no ((itS 3 s).2:Int) (by omega)
   obtain rfl:=hpe 3 (by decide) he
   rw[outP_err he]
   iterate 5
    repeat' first|exact T0|(first|refine Or.inr ⟨_,_,c2.pu rfl rfl,?_⟩|refine Yd fun _=>?_|refine Ye fun _=>?_|refine Yg ?_|refine Yk (ixP (by kernel_rfl) (by kernel_rfl) (by decide)) ?_|refine Yk (u1.at1 2 rfl rfl rfl) ?_|refine Yk (r1.at1 2 rfl rfl rfl) ?_);conv=>whnf|(refine Ya ?_ ?_<;>intro _<;>conv=>whnf)
    all_goals try (refine Or.inl ?_;conv=>whnf)
   refine⟨_,def_pan4 _ _ _ _ _ _ _ _ _ _ _ _ _ _ _ _ _,rfl,?_⟩
   conv=>whnf
   all_goals refine⟨[],?_⟩
   repeat any_goals first|exact T0|exact rfl|exact Yr|refine Ya ?_ ?_
   all_goals conv=>whnf
 ·have u1:=uintG_sat (itS 3 s) (hil 3)
  have r1:=errG_sat (itS 4 s)
  conv=>whnf
  by_cases he:(itS 4 s).2=0
  ·rw[he] at r1
   iterate 5
    repeat' first|exact T0|(first|refine Yd fun _=>?_|refine Ye fun _=>?_|refine Yg ?_|refine Yk (ixP (by kernel_rfl) (by kernel_rfl) (by decide)) ?_|refine Yk (u1.at1 2 rfl rfl rfl) ?_|refine Yk (r1.at1 2 rfl rfl rfl) ?_|refine Yk (c1.pu rfl rfl) ?_);conv=>whnf|(refine Ya ?_ ?_<;>intro _<;>conv=>whnf)
    all_goals try (refine Or.inl ?_;conv=>whnf)
   refine⟨4,⟨by decide,he⟩,by decide,?_⟩
   all_goals refine⟨[],?_⟩
   repeat any_goals first|exact T0|exact rfl|exact Yr|refine Ya ?_ ?_
   all_goals conv=>whnf
  ·have c2:=check_no ((itS 4 s).2:Int) (by omega)
   obtain rfl:=hpe 4 (by decide) he
   rw[outP_err he]
   iterate 5
    repeat' first|exact T0|(first|refine Or.inr ⟨_,_,c2.pu rfl rfl,?_⟩|refine Yd fun _=>?_|refine Ye fun _=>?_|refine Yg ?_|refine Yk (ixP (by kernel_rfl) (by kernel_rfl) (by decide)) ?_|refine Yk (u1.at1 2 rfl rfl rfl) ?_|refine Yk (r1.at1 2 rfl rfl rfl) ?_);conv=>whnf|(refine Ya ?_ ?_<;>intro _<;>conv=>whnf)
    all_goals try (refine Or.inl ?_;conv=>whnf)
   refine⟨_,def_pan4 _ _ _ _ _ _ _ _ _ _ _ _ _ _ _ _ _,rfl,?_⟩
   conv=>whnf
   all_goals refine⟨[],?_⟩
   repeat any_goals first|exact T0|exact rfl|exact Yr|refine Ya ?_ ?_
   all_goals conv=>whnf
 have hq:=hpg hI
 replace hq:PP=finP (frS 7 4 s [] ([],[]) []) (itS 4 s):=hq
 have e1:=endG_sat (itS 4 s) (hil 4)
 conv=>whnf
 by_cases he:(endS (itS 4 s)).2=0
 case neg=>
  have c2:=check_no ((endS (itS 4 s)).2:Int) (by omega)
  rw[finP_end he] at hq
  subst hq
  rw[outP_err he]
  iterate 5
   repeat' first|exact T0|(first|refine Or.inr ⟨_,_,c2.pu rfl rfl,?_⟩|refine Yd fun _=>?_|refine Ye fun _=>?_|refine Yg ?_|refine Yk (e1.at1 2 rfl rfl rfl) ?_);conv=>whnf|(refine Ya ?_ ?_<;>intro _<;>conv=>whnf)
   all_goals try (refine Or.inl ?_;conv=>whnf)
  refine⟨_,def_pan4 _ _ _ _ _ _ _ _ _ _ _ _ _ _ _ _ _,rfl,?_⟩
  conv=>whnf
  all_goals refine⟨[],?_⟩
  repeat any_goals first|exact T0|exact rfl|exact Yr|refine Ya ?_ ?_
  all_goals conv=>whnf
 rw[he] at e1
 have hfo:=frS_ok 7 4 s (by decide) (ev:=[]) (sr:=([],[])) [] (by simp) (by simp) (by simp)
 have r1:=right_pre (frS 7 4 s [] ([],[]) []) hfo (xs:=nilR (frS 7 4 s [] ([],[]) [])) (by repeat' (first|exact trivial|refine And.intro ?_ ?_|exact .inl rfl|exact .inr ⟨rfl,_,rfl⟩))
 cases hr:rightF (frS 7 4 s [] ([],[]) []) with
 |false=>
  rw[hr] at r1
  rw[finP_no he hr] at hq
  subst hq
  rw[outP_err (by decide)]
  iterate 5
   repeat' first|exact T0|(first|refine Yd fun _=>?_|refine Ye fun _=>?_|refine Yg ?_|refine Yk (e1.at1 2 rfl rfl rfl) ?_|refine Yk (c1.pu rfl rfl) ?_|refine Yk (r1.pu rfl rfl) ?_|refine Yk (mkI 10) ?_);conv=>whnf|(refine Ya ?_ ?_<;>intro _<;>conv=>whnf)
   all_goals try (refine Or.inl ?_;conv=>whnf)
  refine⟨_,def_pan4 _ _ _ _ _ _ _ _ _ _ _ _ _ _ _ _ _,rfl,?_⟩
  conv=>whnf
  all_goals refine⟨[],?_⟩
  repeat any_goals first|exact T0|exact rfl|exact Yr|refine Ya ?_ ?_
  all_goals conv=>whnf
 |true=>
  rw[hr] at r1
  rw[finP_ok he hr] at hq
  subst hq
  iterate 5
   repeat' first|exact T0|(first|refine Yd fun _=>?_|refine Ye fun _=>?_|refine Yg ?_|refine Yk (e1.at1 2 rfl rfl rfl) ?_|refine Yk (c1.pu rfl rfl) ?_|refine Yk (r1.pu rfl rfl) ?_);conv=>whnf|(refine Ya ?_ ?_<;>intro _<;>conv=>whnf)
   all_goals try (refine Or.inl ?_;conv=>whnf)
  refine⟨_,def_retN _ _ _ _ _ _ _ _ _ _ _ _,rfl,?_⟩
  conv=>whnf
  all_goals refine⟨[],?_⟩
  repeat any_goals first|exact T0|exact rfl|exact Yr|refine Ya ?_ ?_
  all_goals conv=>whnf
theorem readS_labs (s:Rs):(readS s).1.2.length≤8:=by
 unfold readS
 simp only
 split
 ·simp
 ·split
  ·rename_i h
   exact (right_out h).2.1
  ·simp
theorem evS_err {e:Nat} {s9:Rs}:∀ (n:Nat) (acc:List Evt) (s:Rs),evS n acc s=(.error e,s9)→e≠0
 |0,acc,s,h=>by simp[evS] at h
 |n+1,acc,s,h=>by
  rw[evS] at h
  split at h
  ·rename_i hne
   injection h with h1 h2
   injection h1 with h1
   rw[←h1];exact hne
  ·exact evS_err n _ _ h
theorem eventsS_err {e:Nat} {s s9:Rs} (h:eventsS s=(.error e,s9)):e≠0:=by
 unfold eventsS at h
 split at h
 ·rename_i hne
  injection h with h1 h2
  injection h1 with h1
  rw[←h1];exact hne
 ·exact evS_err _ _ _ h
theorem evS_ok {l:List Evt} {s9:Rs}:∀ (n:Nat) (acc:List Evt) (s:Rs),evS n acc s=(.ok l,s9)→(∀ x∈acc,x.2.2.2.length≤8)→l.length=acc.length+n∧∀ x∈l,x.2.2.2.length≤8
 |0,acc,s,h,ha=>by
  injection h with h1 h2
  injection h1 with h1
  subst h1
  exact⟨rfl,ha⟩
 |n+1,acc,s,h,ha=>by
  rw[evS] at h
  split at h
  ·injection h with h1 h2
   cases h1
  ·obtain⟨g1,g2⟩:=evS_ok n _ _ h (fun x hx=>by
    rcases List.mem_append.1 hx with hx|hx
    ·exact ha x hx
    ·rw[List.mem_singleton.1 hx]
     exact readS_labs _)
   exact⟨by rw[g1,List.length_append];simp;omega,g2⟩
theorem eventsS_ok {l:List Evt} {s s9:Rs} (h:eventsS s=(.ok l,s9)):l.length≤64∧∀ x∈l,x.2.2.2.length≤8:=by
 unfold eventsS at h
 split at h
 ·injection h with h1 h2
  cases h1
 ·obtain⟨g1,g2⟩:=evS_ok _ _ _ h (fun x hx=>by cases hx)
  have:=countS_le s 64
  exact⟨by rw[g1];simp;omega,g2⟩
theorem txtS_txt (s:Rs) (m:Int):(txtS s m).1.length≤s.1.length:=by
 unfold txtS
 split
 ·exact Nat.zero_le _
 ·split
  ·exact Nat.zero_le _
  ·split
   ·exact Nat.zero_le _
   ·simp only[List.length_drop,List.length_take];omega
theorem bytes_z {L:List AObj} {ty n:Nat} {x:Operand} (l:List UInt8) (hl:l.length≤65536):Does Tryz.prog (.convert 9 36 x) ty L n [.d (styD ⟨l.toArray⟩)] ⟨[],[],[.dead]⟩ (.d (bsD l)):=Does.frz (bytes_s l hl)
theorem m4096:in64 4096:=⟨by decide,by decide⟩
theorem def_pan5 (e:Int) (a1 a2 a3 a4 a5 a6 a7 a8 a9 a10 a11 a12 a13 a14:D) (z u v:AObj):DefRun Tryz.prog 83 [.ptr 0 0,.ptr 1 0] (panM (fltV e)) (recM (fltV e))
  [.cells [.d a1,.d a2,.d a3,.d a4,.d a5,.d a6,.d a7,.d a8,.d a9,.d a10,.d a11,.d a12,.d a13,.d a14],.cells [iA 0],z,u,v] [.cells frZ,.cells [iA e],.dead,.dead,.dead]:=by
 refine defRun_of_vc (T:=tiOf Tryz.prog) (E:=E0) Tryz.func83 rfl rfl hE0 hm0 rfl rfl rfl rfl (.inl ⟨rfl,rfl⟩) rfl ?_
 conv=>whnf
 iterate 6
  repeat' first|exact T0|(first|refine Yd fun _=>?_|refine Ye fun _=>?_|refine Yg ?_|refine Yk (eqI e (by kernel_rfl)) ?_|refine Yk (taF e) ?_);conv=>whnf|(refine Ya ?_ ?_<;>intro _<;>conv=>whnf)
  all_goals try (refine Or.inl ?_;conv=>whnf)
 all_goals try (exfalso;simp only[outL] at *;first|omega|contradiction|(simp_all;done)|(simp_all;omega))
 all_goals refine⟨[],?_⟩
 repeat any_goals first|exact T0|exact rfl|exact Yr|refine Ya ?_ ?_
 all_goals conv=>whnf
theorem def_ret8' (k a e b c g s n t w:Int) (sr:Ser) (d:Bt) (z u v:AObj):DefRun Tryz.prog 83 [.ptr 0 0,.ptr 1 0] .returning .returning
  [.cells [iA k,iA a,iA e,iA b,iA c,iA g,iA s,iA n,iA t,iA w,.d nilV,.d (tD sr.1),.d (.sl 2 (sr.2.map labR)),.d (bsD d)],.cells [iA 0],z,u,v] [.cells [iA k,iA a,iA e,iA b,iA c,iA g,iA s,iA n,iA t,iA w,.d nilV,.d (tD sr.1),.d (.sl 2 (sr.2.map labR)),.d (bsD d)],.cells [iA 0],.dead,.dead,.dead]:=by
 refine defRun_of_vc (T:=tiOf Tryz.prog) (E:=E0) Tryz.func83 rfl rfl hE0 hm0 rfl rfl rfl rfl (.inr ⟨rfl,rfl,rfl⟩) rfl ?_
 conv=>whnf
 iterate 6
  repeat' first|exact T0|(first|refine Yd fun _=>?_|refine Ye fun _=>?_|refine Yg ?_|refine Yk (eqNI (by kernel_rfl)) ?_);conv=>whnf|(refine Ya ?_ ?_<;>intro _<;>conv=>whnf)
  all_goals try (refine Or.inl ?_;conv=>whnf)
 all_goals try (exfalso;simp only[outL] at *;first|omega|contradiction|(simp_all;done)|(simp_all;omega))
 all_goals refine⟨[],?_⟩
 repeat any_goals first|exact T0|exact rfl|exact Yr|refine Ya ?_ ?_
 all_goals conv=>whnf
set_option maxHeartbeats 8000000 in
theorem parse_5 (l:Bt) (hl:l.length≤65536) (s:Rs) (hu:uintS (l,0)=(5,s)) (hs:s.2=0):Sat Tryz.prog 49 [.d (bsD l)] [] (outP 5 (parseK 5 s)) []:=by
 have n1:=newG_sat l hl
 have k1:=kind_ok (l,0) hl (by rw[hu];exact hs) (by rw[hu];exact (by decide:1≤5)) (by rw[hu];exact (by decide:5≤8))
 rw[hu] at k1
 have hsl:s.1.length≤65536:=by have:=uintS_len (l,0);rw[hu] at this;exact Nat.le_trans this hl
 have hil:∀ i,(itS i s).1.length≤65536:=fun i=>Nat.le_trans (itS_len s i) hsl
 have f2:=fields_n 5 (by decide) (by decide) 0 0 0 0 0 0 0 0 0
 have c1:=check_ok
 have hpe:=fun i=>parseK_err (k:=5) (s:=s) i
 have hpg:=parseK_go (k:=5) (s:=s)
 generalize hP:parseK 5 s=PP at *
 refine satD_of_vc (T:=tiOf Tryz.prog) (E:=E0) (gc:=83) (ys:=[.ptr 0 0,.ptr 1 0]) PnF Tryz.func49 rfl rfl hE0 hm0 rfl rfl rfl rfl rfl rfl rfl rfl rfl ?_
 conv=>whnf
 iterate 5
  repeat' first|exact T0|(first|refine Yd fun _=>?_|refine Ye fun _=>?_|refine Yg ?_|refine Yk (n1.nw rfl) ?_|refine Yk (k1.at1 2 rfl rfl rfl) ?_|refine Yk (f2.at1 0 rfl rfl rfl) ?_|refine Yk (lenP (by kernel_rfl)) ?_);conv=>whnf|(refine Ya ?_ ?_<;>intro _<;>conv=>whnf)
  all_goals try (refine Or.inl ?_;conv=>whnf)
 all_goals try (exfalso;simp only[outL] at *;first|omega|contradiction|(simp_all;done)|(simp_all;omega))
 refine⟨Nat,fun i=>i≤3∧(itS i s).2=0,fun i=>([(16,iA i),(15,iA 3),(14,.rel 3 (slP 3)),(4,.ptr 2 0),(3,.ptr 1 0),(2,.ptr 0 0)],[.cells (frN 5 (vb 5 i s 1) (vb 5 i s 2) (vb 5 i s 3) (vb 5 i s 4) (vb 5 i s 5) (vb 5 i s 6) (vb 5 i s 7) (vb 5 i s 8) (vb 5 i s 9)),.cells [iA 0],rsO (itS i s),.cells (ptrsK 5)]),fun i=>3-i,⟨0,⟨Nat.zero_le _,hs⟩,?_⟩,?_⟩
 ·all_goals refine⟨[],?_⟩
  repeat any_goals first|exact T0|exact rfl|exact Yr|refine Ya ?_ ?_
  all_goals conv=>whnf
 rintro i ⟨hi,hI⟩
 have hi:i≤3:=hi
 obtain rfl|rfl|rfl|rfl:i=0∨i=1∨i=2∨i=3:=by omega
 ·have u1:=uintG_sat (itS 0 s) (hil 0)
  have r1:=errG_sat (itS 1 s)
  conv=>whnf
  by_cases he:(itS 1 s).2=0
  ·rw[he] at r1
   iterate 5
    repeat' first|exact T0|(first|refine Yd fun _=>?_|refine Ye fun _=>?_|refine Yg ?_|refine Yk (ixP (by kernel_rfl) (by kernel_rfl) (by decide)) ?_|refine Yk (u1.at1 2 rfl rfl rfl) ?_|refine Yk (r1.at1 2 rfl rfl rfl) ?_|refine Yk (c1.pu rfl rfl) ?_);conv=>whnf|(refine Ya ?_ ?_<;>intro _<;>conv=>whnf)
    all_goals try (refine Or.inl ?_;conv=>whnf)
   refine⟨1,⟨by decide,he⟩,by decide,?_⟩
   all_goals refine⟨[],?_⟩
   repeat any_goals first|exact T0|exact rfl|exact Yr|refine Ya ?_ ?_
   all_goals conv=>whnf
  ·have c2:=check_no ((itS 1 s).2:Int) (by omega)
   obtain rfl:=hpe 1 (by decide) he
   rw[outP_err he]
   iterate 5
    repeat' first|exact T0|(first|refine Or.inr ⟨_,_,c2.pu rfl rfl,?_⟩|refine Yd fun _=>?_|refine Ye fun _=>?_|refine Yg ?_|refine Yk (ixP (by kernel_rfl) (by kernel_rfl) (by decide)) ?_|refine Yk (u1.at1 2 rfl rfl rfl) ?_|refine Yk (r1.at1 2 rfl rfl rfl) ?_);conv=>whnf|(refine Ya ?_ ?_<;>intro _<;>conv=>whnf)
    all_goals try (refine Or.inl ?_;conv=>whnf)
   refine⟨_,def_pan4 _ _ _ _ _ _ _ _ _ _ _ _ _ _ _ _ _,rfl,?_⟩
   conv=>whnf
   all_goals refine⟨[],?_⟩
   repeat any_goals first|exact T0|exact rfl|exact Yr|refine Ya ?_ ?_
   all_goals conv=>whnf
 ·have u1:=uintG_sat (itS 1 s) (hil 1)
  have r1:=errG_sat (itS 2 s)
  conv=>whnf
  by_cases he:(itS 2 s).2=0
  ·rw[he] at r1
   iterate 5
    repeat' first|exact T0|(first|refine Yd fun _=>?_|refine Ye fun _=>?_|refine Yg ?_|refine Yk (ixP (by kernel_rfl) (by kernel_rfl) (by decide)) ?_|refine Yk (u1.at1 2 rfl rfl rfl) ?_|refine Yk (r1.at1 2 rfl rfl rfl) ?_|refine Yk (c1.pu rfl rfl) ?_);conv=>whnf|(refine Ya ?_ ?_<;>intro _<;>conv=>whnf)
    all_goals try (refine Or.inl ?_;conv=>whnf)
   refine⟨2,⟨by decide,he⟩,by decide,?_⟩
   all_goals refine⟨[],?_⟩
   repeat any_goals first|exact T0|exact rfl|exact Yr|refine Ya ?_ ?_
   all_goals conv=>whnf
  ·have c2:=check_no ((itS 2 s).2:Int) (by omega)
   obtain rfl:=hpe 2 (by decide) he
   rw[outP_err he]
   iterate 5
    repeat' first|exact T0|(first|refine Or.inr ⟨_,_,c2.pu rfl rfl,?_⟩|refine Yd fun _=>?_|refine Ye fun _=>?_|refine Yg ?_|refine Yk (ixP (by kernel_rfl) (by kernel_rfl) (by decide)) ?_|refine Yk (u1.at1 2 rfl rfl rfl) ?_|refine Yk (r1.at1 2 rfl rfl rfl) ?_);conv=>whnf|(refine Ya ?_ ?_<;>intro _<;>conv=>whnf)
    all_goals try (refine Or.inl ?_;conv=>whnf)
   refine⟨_,def_pan4 _ _ _ _ _ _ _ _ _ _ _ _ _ _ _ _ _,rfl,?_⟩
   conv=>whnf
   all_goals refine⟨[],?_⟩
   repeat any_goals first|exact T0|exact rfl|exact Yr|refine Ya ?_ ?_
   all_goals conv=>whnf
 ·have u1:=uintG_sat (itS 2 s) (hil 2)
  have r1:=errG_sat (itS 3 s)
  conv=>whnf
  by_cases he:(itS 3 s).2=0
  ·rw[he] at r1
   iterate 5
    repeat' first|exact T0|(first|refine Yd fun _=>?_|refine Ye fun _=>?_|refine Yg ?_|refine Yk (ixP (by kernel_rfl) (by kernel_rfl) (by decide)) ?_|refine Yk (u1.at1 2 rfl rfl rfl) ?_|refine Yk (r1.at1 2 rfl rfl rfl) ?_|refine Yk (c1.pu rfl rfl) ?_);conv=>whnf|(refine Ya ?_ ?_<;>intro _<;>conv=>whnf)
    all_goals try (refine Or.inl ?_;conv=>whnf)
   refine⟨3,⟨by decide,he⟩,by decide,?_⟩
   all_goals refine⟨[],?_⟩
   repeat any_goals first|exact T0|exact rfl|exact Yr|refine Ya ?_ ?_
   all_goals conv=>whnf
  ·have c2:=check_no ((itS 3 s).2:Int) (by omega)
   obtain rfl:=hpe 3 (by decide) he
   rw[outP_err he]
   iterate 5
    repeat' first|exact T0|(first|refine Or.inr ⟨_,_,c2.pu rfl rfl,?_⟩|refine Yd fun _=>?_|refine Ye fun _=>?_|refine Yg ?_|refine Yk (ixP (by kernel_rfl) (by kernel_rfl) (by decide)) ?_|refine Yk (u1.at1 2 rfl rfl rfl) ?_|refine Yk (r1.at1 2 rfl rfl rfl) ?_);conv=>whnf|(refine Ya ?_ ?_<;>intro _<;>conv=>whnf)
    all_goals try (refine Or.inl ?_;conv=>whnf)
   refine⟨_,def_pan4 _ _ _ _ _ _ _ _ _ _ _ _ _ _ _ _ _,rfl,?_⟩
   conv=>whnf
   all_goals refine⟨[],?_⟩
   repeat any_goals first|exact T0|exact rfl|exact Yr|refine Ya ?_ ?_
   all_goals conv=>whnf
 have hq:=hpg hI
 obtain⟨re,s9,hev⟩:∃ re s9,eventsS (itS 3 s)=(re,s9):=⟨_,_,rfl⟩
 cases re with
 |error e=>
  have hne:=eventsS_err hev
  have v1:=events_err (itS 3 s) (hil 3) hev
  replace hq:PP=(frO,e):=by rw[hq];unfold tailP;simp only[show (idxK 5).length=3 from rfl,hev]
  subst hq
  rw[outP_err hne]
  conv=>whnf
  iterate 7
   repeat' first|exact T0|(first|refine Or.inr ⟨_,_,v1.at1 2 rfl rfl rfl,?_⟩|refine Yd fun _=>?_|refine Ye fun _=>?_|refine Yg ?_);conv=>whnf|(refine Ya ?_ ?_<;>intro _<;>conv=>whnf)
   all_goals try (refine Or.inl ?_;conv=>whnf)
  refine⟨_,def_pan4 _ _ _ _ _ _ _ _ _ _ _ _ _ _ _ _ _,rfl,?_⟩
  conv=>whnf
  all_goals refine⟨[],?_⟩
  repeat any_goals first|exact T0|exact rfl|exact Yr|refine Ya ?_ ?_
  all_goals conv=>whnf
 |ok l5=>
 have v1:=events_ok (itS 3 s) (hil 3) hev
 obtain⟨g1,g2⟩:=eventsS_ok hev
 have h9:s9.1.length≤65536:=by have:=eventsS_len (itS 3 s);rw[hev] at this;exact Nat.le_trans this (hil 3)
 replace hq:PP=finP (frS 5 3 s l5 ([],[]) []) s9:=by rw[hq];unfold tailP;simp only[show (idxK 5).length=3 from rfl,hev]
 have e1:=endG_sat s9 h9
 have hfo:=frS_ok 5 3 s (by decide) (ev:=l5) (sr:=([],[])) [] (by omega) (fun x hx=>by have:=g2 x hx;omega) (by simp)
 conv=>whnf
 by_cases he:(endS s9).2=0
 case neg=>
  have c2:=check_no ((endS s9).2:Int) (by omega)
  rw[finP_end he] at hq
  subst hq
  rw[outP_err he]
  iterate 7
   repeat' first|exact T0|(first|refine Or.inr ⟨_,_,c2.pu rfl rfl,?_⟩|refine Yd fun _=>?_|refine Ye fun _=>?_|refine Yg ?_|refine Yk (v1.at1 2 rfl rfl rfl) ?_|refine Yk (e1.at1 2 rfl rfl rfl) ?_|refine Yk (c1.pu rfl rfl) ?_);conv=>whnf|(refine Ya ?_ ?_<;>intro _<;>conv=>whnf)
   all_goals try (refine Or.inl ?_;conv=>whnf)
  refine⟨_,def_pan4 _ _ _ _ _ _ _ _ _ _ _ _ _ _ _ _ _,rfl,?_⟩
  conv=>whnf
  all_goals refine⟨[],?_⟩
  repeat any_goals first|exact T0|exact rfl|exact Yr|refine Ya ?_ ?_
  all_goals conv=>whnf
 rw[he] at e1
 have r1:=right_pre (frS 5 3 s l5 ([],[]) []) hfo (xs:=shR 5 ((frS 5 3 s l5 ([],[]) []),0)) (by repeat' (first|exact trivial|refine And.intro ?_ ?_|exact .inl rfl|exact .inr ⟨rfl,_,rfl⟩))
 cases hr:rightF (frS 5 3 s l5 ([],[]) []) with
 |false=>
  rw[hr] at r1
  rw[finP_no he hr] at hq
  subst hq
  rw[outP_err (by decide)]
  iterate 7
   repeat' first|exact T0|(first|refine Yd fun _=>?_|refine Ye fun _=>?_|refine Yg ?_|refine Yk (v1.at1 2 rfl rfl rfl) ?_|refine Yk (e1.at1 2 rfl rfl rfl) ?_|refine Yk (c1.pu rfl rfl) ?_|refine Yk (r1.pu rfl rfl) ?_|refine Yk (mkI 10) ?_);conv=>whnf|(refine Ya ?_ ?_<;>intro _<;>conv=>whnf)
   all_goals try (refine Or.inl ?_;conv=>whnf)
  refine⟨_,def_pan4 _ _ _ _ _ _ _ _ _ _ _ _ _ _ _ _ _,rfl,?_⟩
  conv=>whnf
  all_goals refine⟨[],?_⟩
  repeat any_goals first|exact T0|exact rfl|exact Yr|refine Ya ?_ ?_
  all_goals conv=>whnf
 |true=>
  rw[hr] at r1
  rw[finP_ok he hr] at hq
  subst hq
  iterate 7
   repeat' first|exact T0|(first|refine Yd fun _=>?_|refine Ye fun _=>?_|refine Yg ?_|refine Yk (v1.at1 2 rfl rfl rfl) ?_|refine Yk (e1.at1 2 rfl rfl rfl) ?_|refine Yk (c1.pu rfl rfl) ?_|refine Yk (r1.pu rfl rfl) ?_);conv=>whnf|(refine Ya ?_ ?_<;>intro _<;>conv=>whnf)
   all_goals try (refine Or.inl ?_;conv=>whnf)
  refine⟨_,def_ret5 _ _ _ _ _ _ _ _ _ _ _ _ _,rfl,?_⟩
  conv=>whnf
  all_goals refine⟨[],?_⟩
  repeat any_goals first|exact T0|exact rfl|exact Yr|refine Ya ?_ ?_
  all_goals conv=>whnf
set_option maxHeartbeats 8000000 in
theorem parse_8 (l:Bt) (hl:l.length≤65536) (s:Rs) (hu:uintS (l,0)=(8,s)) (hs:s.2=0):Sat Tryz.prog 49 [.d (bsD l)] [] (outP 8 (parseK 8 s)) []:=by
 have n1:=newG_sat l hl
 have k1:=kind_ok (l,0) hl (by rw[hu];exact hs) (by rw[hu];exact (by decide:1≤8)) (by rw[hu];exact (by decide:8≤8))
 rw[hu] at k1
 have hsl:s.1.length≤65536:=by have:=uintS_len (l,0);rw[hu] at this;exact Nat.le_trans this hl
 have hil:∀ i,(itS i s).1.length≤65536:=fun i=>Nat.le_trans (itS_len s i) hsl
 have f2:=fields_n 8 (by decide) (by decide) 0 0 0 0 0 0 0 0 0
 have c1:=check_ok
 have hpe:=fun i=>parseK_err (k:=8) (s:=s) i
 have hpg:=parseK_go (k:=8) (s:=s)
 generalize hP:parseK 8 s=PP at *
 refine satD_of_vc (T:=tiOf Tryz.prog) (E:=E0) (gc:=83) (ys:=[.ptr 0 0,.ptr 1 0]) PnF Tryz.func49 rfl rfl hE0 hm0 rfl rfl rfl rfl rfl rfl rfl rfl rfl ?_
 conv=>whnf
 iterate 5
  repeat' first|exact T0|(first|refine Yd fun _=>?_|refine Ye fun _=>?_|refine Yg ?_|refine Yk (n1.nw rfl) ?_|refine Yk (k1.at1 2 rfl rfl rfl) ?_|refine Yk (f2.at1 0 rfl rfl rfl) ?_|refine Yk (lenP (by kernel_rfl)) ?_);conv=>whnf|(refine Ya ?_ ?_<;>intro _<;>conv=>whnf)
  all_goals try (refine Or.inl ?_;conv=>whnf)
 all_goals try (exfalso;simp only[outL] at *;first|omega|contradiction|(simp_all;done)|(simp_all;omega))
 refine⟨Nat,fun i=>i≤1∧(itS i s).2=0,fun i=>([(16,iA i),(15,iA 1),(14,.rel 3 (slP 1)),(4,.ptr 2 0),(3,.ptr 1 0),(2,.ptr 0 0)],[.cells (frN 8 (vb 8 i s 1) (vb 8 i s 2) (vb 8 i s 3) (vb 8 i s 4) (vb 8 i s 5) (vb 8 i s 6) (vb 8 i s 7) (vb 8 i s 8) (vb 8 i s 9)),.cells [iA 0],rsO (itS i s),.cells (ptrsK 8)]),fun i=>1-i,⟨0,⟨Nat.zero_le _,hs⟩,?_⟩,?_⟩
 ·all_goals refine⟨[],?_⟩
  repeat any_goals first|exact T0|exact rfl|exact Yr|refine Ya ?_ ?_
  all_goals conv=>whnf
 rintro i ⟨hi,hI⟩
 have hi:i≤1:=hi
 obtain rfl|rfl:i=0∨i=1:=by omega
 ·have u1:=uintG_sat (itS 0 s) (hil 0)
  have r1:=errG_sat (itS 1 s)
  conv=>whnf
  by_cases he:(itS 1 s).2=0
  ·rw[he] at r1
   iterate 5
    repeat' first|exact T0|(first|refine Yd fun _=>?_|refine Ye fun _=>?_|refine Yg ?_|refine Yk (ixP (by kernel_rfl) (by kernel_rfl) (by decide)) ?_|refine Yk (u1.at1 2 rfl rfl rfl) ?_|refine Yk (r1.at1 2 rfl rfl rfl) ?_|refine Yk (c1.pu rfl rfl) ?_);conv=>whnf|(refine Ya ?_ ?_<;>intro _<;>conv=>whnf)
    all_goals try (refine Or.inl ?_;conv=>whnf)
   refine⟨1,⟨by decide,he⟩,by decide,?_⟩
   all_goals refine⟨[],?_⟩
   repeat any_goals first|exact T0|exact rfl|exact Yr|refine Ya ?_ ?_
   all_goals conv=>whnf
  ·have c2:=check_no ((itS 1 s).2:Int) (by omega)
   obtain rfl:=hpe 1 (by decide) he
   rw[outP_err he]
   iterate 5
    repeat' first|exact T0|(first|refine Or.inr ⟨_,_,c2.pu rfl rfl,?_⟩|refine Yd fun _=>?_|refine Ye fun _=>?_|refine Yg ?_|refine Yk (ixP (by kernel_rfl) (by kernel_rfl) (by decide)) ?_|refine Yk (u1.at1 2 rfl rfl rfl) ?_|refine Yk (r1.at1 2 rfl rfl rfl) ?_);conv=>whnf|(refine Ya ?_ ?_<;>intro _<;>conv=>whnf)
    all_goals try (refine Or.inl ?_;conv=>whnf)
   refine⟨_,def_pan4 _ _ _ _ _ _ _ _ _ _ _ _ _ _ _ _ _,rfl,?_⟩
   conv=>whnf
   all_goals refine⟨[],?_⟩
   repeat any_goals first|exact T0|exact rfl|exact Yr|refine Ya ?_ ?_
   all_goals conv=>whnf
 have hq:=hpg hI
 have l1:=readS_len (itS 1 s)
 have l2:=hil 1
 have hrl:(readS (itS 1 s)).2.2.1.length≤65536:=by omega
 by_cases hre:(readS (itS 1 s)).2.1=0
 case neg=>
  have v1:=ser_err (itS 1 s) (hil 1) hre
  replace hq:PP=(frO,(readS (itS 1 s)).2.1):=by rw[hq];exact if_pos hre
  subst hq
  rw[outP_err hre]
  conv=>whnf
  iterate 7
   repeat' first|exact T0|(first|refine Or.inr ⟨_,_,v1.at1 2 rfl rfl rfl,?_⟩|refine Yd fun _=>?_|refine Ye fun _=>?_|refine Yg ?_);conv=>whnf|(refine Ya ?_ ?_<;>intro _<;>conv=>whnf)
   all_goals try (refine Or.inl ?_;conv=>whnf)
  refine⟨_,def_pan4 _ _ _ _ _ _ _ _ _ _ _ _ _ _ _ _ _,rfl,?_⟩
  conv=>whnf
  all_goals refine⟨[],?_⟩
  repeat any_goals first|exact T0|exact rfl|exact Yr|refine Ya ?_ ?_
  all_goals conv=>whnf
 have v1:=ser_ok (itS 1 s) (hil 1) hre
 have v2:=txtG_sat (readS (itS 1 s)).2.2 4096 m4096 hrl
 have l3:=txtS_txt (readS (itS 1 s)).2.2 4096
 have l4:=txtS_len (readS (itS 1 s)).2.2 4096
 have l5:=readS_labs (itS 1 s)
 have r9:=errG_sat (txtS (readS (itS 1 s)).2.2 4096).2
 replace hq:PP=if (txtS (readS (itS 1 s)).2.2 4096).2.2≠0 then (frO,(txtS (readS (itS 1 s)).2.2 4096).2.2) else finP (frS 8 1 s [] (readS (itS 1 s)).1 (txtS (readS (itS 1 s)).2.2 4096).1) (txtS (readS (itS 1 s)).2.2 4096).2:=by
  rw[hq]
  exact if_neg fun h=>h hre
 generalize readS (itS 1 s)=rr at *
 obtain⟨sr,er,s8⟩:=rr
 simp only at v1 v2 l3 l4 l5 r9 hq hrl
 generalize txtS s8 4096=tt at *
 obtain⟨d8,s9⟩:=tt
 simp only at v2 l3 l4 r9 hq
 have hd8:d8.length≤65536:=by omega
 have h9:s9.1.length≤65536:=by omega
 by_cases hte:s9.2=0
 case neg=>
  have c2:=check_no (s9.2:Int) (by omega)
  rw[if_pos hte] at hq
  subst hq
  rw[outP_err hte]
  conv=>whnf
  iterate 7
   repeat' first|exact T0|(first|refine Or.inr ⟨_,_,c2.pu rfl rfl,?_⟩|refine Yd fun _=>?_|refine Ye fun _=>?_|refine Yg ?_|refine Yk (v1.at1 2 rfl rfl rfl) ?_|refine Yk (v2.at1 2 rfl rfl rfl) ?_|refine Yk (bytes_z d8 hd8) ?_|refine Yk (r9.at1 2 rfl rfl rfl) ?_);conv=>whnf|(refine Ya ?_ ?_<;>intro _<;>conv=>whnf)
   all_goals try (refine Or.inl ?_;conv=>whnf)
  refine⟨_,def_pan5 _ _ _ _ _ _ _ _ _ _ _ _ _ _ _ _ _ _,rfl,?_⟩
  conv=>whnf
  all_goals refine⟨[],?_⟩
  repeat any_goals first|exact T0|exact rfl|exact Yr|refine Ya ?_ ?_
  all_goals conv=>whnf
 rw[if_neg (by omega)] at hq
 rw[hte] at r9
 have e1:=endG_sat s9 h9
 have hfo:=frS_ok 8 1 s (by decide) (ev:=[]) (sr:=sr) d8 (by simp) (by simp) (by omega)
 conv=>whnf
 by_cases he:(endS s9).2=0
 case neg=>
  have c2:=check_no ((endS s9).2:Int) (by omega)
  rw[finP_end he] at hq
  subst hq
  rw[outP_err he]
  iterate 7
   repeat' first|exact T0|(first|refine Or.inr ⟨_,_,c2.pu rfl rfl,?_⟩|refine Yd fun _=>?_|refine Ye fun _=>?_|refine Yg ?_|refine Yk (v1.at1 2 rfl rfl rfl) ?_|refine Yk (v2.at1 2 rfl rfl rfl) ?_|refine Yk (bytes_z d8 hd8) ?_|refine Yk (r9.at1 2 rfl rfl rfl) ?_|refine Yk (e1.at1 2 rfl rfl rfl) ?_|refine Yk (c1.pu rfl rfl) ?_);conv=>whnf|(refine Ya ?_ ?_<;>intro _<;>conv=>whnf)
   all_goals try (refine Or.inl ?_;conv=>whnf)
  refine⟨_,def_pan5 _ _ _ _ _ _ _ _ _ _ _ _ _ _ _ _ _ _,rfl,?_⟩
  conv=>whnf
  all_goals refine⟨[],?_⟩
  repeat any_goals first|exact T0|exact rfl|exact Yr|refine Ya ?_ ?_
  all_goals conv=>whnf
 rw[he] at e1
 have r1:=right_pre (frS 8 1 s [] sr d8) hfo (xs:=shR 8 ((frS 8 1 s [] sr d8),0)) (by repeat' (first|exact trivial|refine And.intro ?_ ?_|exact .inl rfl|exact .inr ⟨rfl,_,rfl⟩))
 cases hr:rightF (frS 8 1 s [] sr d8) with
 |false=>
  rw[hr] at r1
  rw[finP_no he hr] at hq
  subst hq
  rw[outP_err (by decide)]
  iterate 7
   repeat' first|exact T0|(first|refine Yd fun _=>?_|refine Ye fun _=>?_|refine Yg ?_|refine Yk (v1.at1 2 rfl rfl rfl) ?_|refine Yk (v2.at1 2 rfl rfl rfl) ?_|refine Yk (bytes_z d8 hd8) ?_|refine Yk (r9.at1 2 rfl rfl rfl) ?_|refine Yk (e1.at1 2 rfl rfl rfl) ?_|refine Yk (c1.pu rfl rfl) ?_|refine Yk (r1.pu rfl rfl) ?_|refine Yk (mkI 10) ?_);conv=>whnf|(refine Ya ?_ ?_<;>intro _<;>conv=>whnf)
   all_goals try (refine Or.inl ?_;conv=>whnf)
  refine⟨_,def_pan5 _ _ _ _ _ _ _ _ _ _ _ _ _ _ _ _ _ _,rfl,?_⟩
  conv=>whnf
  all_goals refine⟨[],?_⟩
  repeat any_goals first|exact T0|exact rfl|exact Yr|refine Ya ?_ ?_
  all_goals conv=>whnf
 |true=>
  rw[hr] at r1
  rw[finP_ok he hr] at hq
  subst hq
  iterate 7
   repeat' first|exact T0|(first|refine Yd fun _=>?_|refine Ye fun _=>?_|refine Yg ?_|refine Yk (v1.at1 2 rfl rfl rfl) ?_|refine Yk (v2.at1 2 rfl rfl rfl) ?_|refine Yk (bytes_z d8 hd8) ?_|refine Yk (r9.at1 2 rfl rfl rfl) ?_|refine Yk (e1.at1 2 rfl rfl rfl) ?_|refine Yk (c1.pu rfl rfl) ?_|refine Yk (r1.pu rfl rfl) ?_);conv=>whnf|(refine Ya ?_ ?_<;>intro _<;>conv=>whnf)
   all_goals try (refine Or.inl ?_;conv=>whnf)
  refine⟨_,def_ret8' _ _ _ _ _ _ _ _ _ _ _ _ _ _ _,rfl,?_⟩
  conv=>whnf
  all_goals refine⟨[],?_⟩
  repeat any_goals first|exact T0|exact rfl|exact Yr|refine Ya ?_ ?_
  all_goals conv=>whnf
theorem Sat.weakR {P:Program} {g:FuncId} {args:List AV} {H H':List AObj} {xs ys:List D} {r:AV} (h:Sat P g args H (.tup [.d (.agg xs),r]) H') (hn:nilLe xs ys):Sat P g args H (.tup [.d (.agg ys),r]) H':=by
 intro F ρ w vals En hv
 refine (h F ρ w vals En hv).mono ?_
 rintro e w' ⟨v,rfl,F',ρ',S,K,E,R⟩
 cases R with|tup R=>
 cases R with|cons h1 h2=>
 cases h1 with|d h1=>exact⟨_,rfl,F',ρ',S,K,E,.tup (.cons (.d (h1.nilLe hn)) h2)⟩
theorem finP_cases (f:Fr) (s:Rs):finP f s=(f,0)∨∃ e,e≠0∧finP f s=(frO,e):=by
 unfold finP
 split
 ·rename_i h;exact .inr ⟨_,h,rfl⟩
 ·split
  ·exact .inl rfl
  ·exact .inr ⟨10,by decide,rfl⟩
def shapeF (k:Nat) (f:Fr):Prop:=(k≠5→f.ev=[])∧(k≠8→f.sr=([],[])∧f.d=[])
theorem tailP_cases (k:Nat) (s s1:Rs):(∃ f,tailP k s s1=(f,0)∧shapeF k f)∨∃ e,e≠0∧tailP k s s1=(frO,e):=by
 unfold tailP
 split
 ·cases h:eventsS s1 with
  |mk r s9=>
   cases r with
   |error e=>exact .inr ⟨e,eventsS_err h,rfl⟩
   |ok l=>exact (finP_cases (frS 5 3 s l ([],[]) []) s9).elim (fun h=>.inl ⟨_,h,fun h=>absurd rfl h,fun _=>⟨rfl,rfl⟩⟩) .inr
 ·split
  ·rename_i h;exact .inr ⟨_,h,rfl⟩
  ·split
   ·rename_i h;exact .inr ⟨_,h,rfl⟩
   ·exact (finP_cases _ _).elim (fun h=>.inl ⟨_,h,fun _=>rfl,fun h=>absurd rfl h⟩) .inr
 ·exact (finP_cases _ _).elim (fun h=>.inl ⟨_,h,fun _=>rfl,fun _=>⟨rfl,rfl⟩⟩) .inr
theorem parseK_cases (k:Nat) (s:Rs):(∃ f,parseK k s=(f,0)∧shapeF k f)∨∃ e,e≠0∧parseK k s=(frO,e):=by
 unfold parseK
 split
 ·rename_i h;exact .inr ⟨_,h,rfl⟩
 ·exact tailP_cases _ _ _
theorem nil_frO:nilLe (nilR frO) (frR frO):=by
 repeat' (first|exact trivial|refine And.intro ?_ ?_|exact .inl rfl|exact .inr ⟨rfl,_,rfl⟩)
theorem shR_le (k:Nat) (s:Rs):nilLe (shR k (parseK k s)) (frR (parseK k s).1):=by
 rcases parseK_cases k s with⟨f,h,h5,h8⟩|⟨e,he,h⟩
 ·rw[h]
  obtain⟨kk,a,e,b,c,g,s,n,t,w,ev,sr,d⟩:=f
  unfold shR
  rw[if_neg (by simp)]
  split
  ·obtain⟨rfl,rfl⟩:=h8 (by decide)
   repeat' (first|exact trivial|refine And.intro ?_ ?_|exact .inl rfl|exact .inr ⟨rfl,_,rfl⟩)
  ·have h5:=h5 (by decide)
   simp only at h5
   subst h5
   repeat' (first|exact trivial|refine And.intro ?_ ?_|exact .inl rfl|exact .inr ⟨rfl,_,rfl⟩)
  ·rename_i n5 n8
   have h5:=h5 n5
   simp only at h5
   subst h5
   obtain⟨rfl,rfl⟩:=h8 n8
   repeat' (first|exact trivial|refine And.intro ?_ ?_|exact .inl rfl|exact .inr ⟨rfl,_,rfl⟩)
 ·rw[h]
  unfold shR
  rw[if_pos he]
  exact nil_frO
theorem parse_sat (l:Bt) (hl:l.length≤65536):Sat Tryz.prog 49 [.d (bsD l)] [] (.tup [.d (frD (parseF l).1),iA (parseF l).2]) []:=by
 unfold parseF
 by_cases h0:(uintS (l,0)).2.2=0
 case neg=>
  rw[if_pos h0]
  exact (parse_kerr l hl h0).weakR nil_frO
 rw[if_neg (fun h=>h h0)]
 by_cases h1:(uintS (l,0)).1<1∨8<(uintS (l,0)).1
 ·rw[if_pos h1]
  exact (parse_kbad l hl h0 h1).weakR nil_frO
 ·rw[if_neg h1]
  obtain⟨k,s,hu⟩:∃ k s,uintS (l,0)=(k,s):=⟨_,_,rfl⟩
  rw[hu] at h0 h1 ⊢
  simp only at h0 h1
  have hk:k=1∨k=2∨k=3∨k=4∨k=5∨k=6∨k=7∨k=8:=by omega
  refine Sat.weakR (xs:=shR k (parseK k s)) ?_ (shR_le k s)
  rcases hk with rfl|rfl|rfl|rfl|rfl|rfl|rfl|rfl
  ·exact parse_1 l hl s hu h0
  ·exact parse_2 l hl s hu h0
  ·exact parse_3 l hl s hu h0
  ·exact parse_4 l hl s hu h0
  ·exact parse_5 l hl s hu h0
  ·exact parse_6 l hl s hu h0
  ·exact parse_7 l hl s hu h0
  ·exact parse_8 l hl s hu h0
def decodeF (l:Bt):Fr × Nat:=if 65536<l.length then (frO,17) else if openErr l≠0 then (frO,(openErr l).toNat) else parseF (openBody l)
theorem openErr_nn (l:Bt):0≤openErr l:=by
 unfold openErr
 split
 ·decide
 ·split<;>decide
theorem openBody_len (l:Bt):(openBody l).length≤l.length:=by
 unfold openBody
 split
 ·rw[List.length_take];omega
 ·exact Nat.zero_le _
theorem decode_long (l:Bt) (hl:65536<l.length):Sat Tryz.prog 24 [.d (bsD l)] [] (.tup [.d (.agg (nilR frO)),iA 17]) []:=by
 have d1:decide (((l.map bR).length:Int)>65536)=true:=decide_eq_true (by rw[List.length_map];omega)
 refine Vq Tryz.func24 rfl rfl ?_
 conv=>whnf
 iterate 5
  repeat' first|exact T0|(first|refine Yd fun _=>?_|refine Ye fun _=>?_|refine Yg ?_);conv=>whnf|(refine Ya ?_ ?_<;>intro _<;>conv=>whnf)
  all_goals try (refine Or.inl ?_;conv=>whnf)
 all_goals try exact (bnl d1 ‹_›).elim
 all_goals refine⟨[],?_⟩
 repeat any_goals first|exact T0|exact rfl|exact Yr|refine Ya ?_ ?_
 all_goals conv=>whnf
theorem decode_shut (l:Bt) (hl:l.length≤65536) (h:openErr l≠0):Sat Tryz.prog 24 [.d (bsD l)] [] (.tup [.d (.agg (nilR frO)),iA (openErr l)]) []:=by
 have d1:decide (((l.map bR).length:Int)>65536)=false:=decide_eq_false (by rw[List.length_map];omega)
 have d2:(openErr l != 0)=true:=by rw[bne_iff_ne];exact h
 have o1:=open_sat l (by omega)
 refine Vq Tryz.func24 rfl rfl ?_
 conv=>whnf
 iterate 5
  repeat' first|exact T0|(first|refine Yd fun _=>?_|refine Ye fun _=>?_|refine Yg ?_|refine Yk (o1.pu rfl rfl) ?_);conv=>whnf|(refine Ya ?_ ?_<;>intro _<;>conv=>whnf)
  all_goals try (refine Or.inl ?_;conv=>whnf)
 all_goals try exact (bnl ‹_› d1).elim
 all_goals try exact (bnl d2 ‹_›).elim
 all_goals refine⟨[],?_⟩
 repeat any_goals first|exact T0|exact rfl|exact Yr|refine Ya ?_ ?_
 all_goals conv=>whnf
theorem decode_go (l:Bt) (hl:l.length≤65536) (h:openErr l=0):Sat Tryz.prog 24 [.d (bsD l)] [] (.tup [.d (frD (parseF (openBody l)).1),iA (parseF (openBody l)).2]) []:=by
 have d1:decide (((l.map bR).length:Int)>65536)=false:=decide_eq_false (by rw[List.length_map];omega)
 have o1:=open_sat l (by omega)
 rw[h] at o1
 have p1:=parse_sat (openBody l) (Nat.le_trans (openBody_len l) hl)
 refine Vq Tryz.func24 rfl rfl ?_
 conv=>whnf
 iterate 5
  repeat' first|exact T0|(first|refine Yd fun _=>?_|refine Ye fun _=>?_|refine Yg ?_|refine Yk (o1.pu rfl rfl) ?_|refine Yk (p1.pu rfl rfl) ?_);conv=>whnf|(refine Ya ?_ ?_<;>intro _<;>conv=>whnf)
  all_goals try (refine Or.inl ?_;conv=>whnf)
 all_goals try exact (bnl ‹_› d1).elim
 all_goals refine⟨[],?_⟩
 repeat any_goals first|exact T0|exact rfl|exact Yr|refine Ya ?_ ?_
 all_goals conv=>whnf
theorem decode_sat (l:Bt):Sat Tryz.prog 24 [.d (bsD l)] [] (.tup [.d (frD (decodeF l).1),iA (decodeF l).2]) []:=by
 unfold decodeF
 by_cases h1:65536<l.length
 ·rw[if_pos h1]
  exact (decode_long l h1).weakR nil_frO
 ·rw[if_neg h1]
  by_cases h2:openErr l=0
  ·rw[if_neg (fun h=>h h2)]
   exact decode_go l (by omega) h2
  ·rw[if_pos h2]
   have:=(decode_shut l (by omega) h2).weakR nil_frO
   show Sat _ _ _ _ (.tup [.d (frD frO),iA (((openErr l).toNat:Nat):Int)]) _
   rw[Int.toNat_of_nonneg (openErr_nn l)]
   exact this
end Go.Proofs.YtfbfpnfgabamfaaGreat
