/- Parts FrH, CrcPlain, CrcSum of the proof, put together. -/
import Derived.Test.YtfbfpnfgabamfaaGreatM9
import Derived.Laws.BitsAllLaws
import Derived.WalkKit
import Derived.Test.YtfbfpnfgabamfaaGreatProg
namespace Go.Proofs.YtfbfpnfgabamfaaGreat
set_option linter.unusedSimpArgs false
open Go.RowKit
set_option maxRecDepth 100000
set_option linter.unusedVariables false
theorem rightK_head {f:Fr} {k:Nat} (h:headOk f=false):rightK f k=false:=by unfold rightK;rw[h];rfl
theorem rightK_val {f:Fr} {k:Nat} {x:Int} (hx:x∈valsK f k) (h:rngB x=false):rightK f k=false:=by
 have:(valsK f k).all rngB=false:=List.all_eq_false.2 ⟨x,hx,by rw[h];simp⟩
 unfold rightK
 rw[this,Bool.false_and,Bool.and_false]
theorem rightK_extra {f:Fr} {k:Nat} (h:extraB f k=false):rightK f k=false:=by
 unfold rightK
 rw[h,Bool.false_and,Bool.and_false,Bool.and_false]
theorem rightK_same {f:Fr} {k:Nat} (h1:headOk f=true) (h2:(valsK f k).all rngB=true) (h3:extraB f k=true):rightK f k=sameB f (bareF f k):=by
 unfold rightK
 rw[h1,h2,h3,Bool.true_and,Bool.true_and,Bool.true_and]
theorem headOk_iff {f:Fr}:headOk f=true↔(0≤f.a∧f.a<64)∧0≤f.e∧f.e≤1099511627776:=by
 unfold headOk
 simp only[Bool.and_eq_true,decide_eq_true_eq]
theorem rngB_iff {z:Int}:rngB z=true↔0≤z∧z≤4611686018427387903:=by
 unfold rngB
 simp only[Bool.and_eq_true,decide_eq_true_eq]
abbrev bI (f:Fr) (k i p:Nat):Int:=bnum f ((idxK k).take i) p
set_option maxHeartbeats 8000000 in
theorem right_1 (f:Fr) (hk:f.k=1) (hf:FrOk f):Sat Tryz.prog 55 [.d (frD f)] [] (bA (rightK f 1)) []:=by
 have f1:=fields_f f 1 hk (by decide) (by decide)
 have f2:=fields_n 1 (by decide) (by decide) 0 0 0 0 0 0 0 0 0
 have hb:=bareF_ok hf (k:=1) (by decide)
 have hh:=headOk_iff (f:=f)
 have h0:=rightK_head (f:=f) (k:=1)
 have hv:=fun x=>rightK_val (f:=f) (k:=1) (x:=x)
 have hs:=rightK_same (f:=f) (k:=1)
 have hx:=rightK_extra (f:=f) (k:=1)
 have sm:=same_pre f (bareF f 1) hf hb (xs:=nilR (bareF f 1)) (by repeat' (first|exact trivial|refine And.intro ?_ ?_|exact .inl rfl|exact .inr ⟨rfl,_,rfl⟩))
 obtain⟨kk,a,e,b,c,g,s,n,t,w,ev,sr,d⟩:=f
 have hk:kk=1:=hk
 subst hk
 simp only at hh
 cases hho:headOk ⟨1,a,e,b,c,g,s,n,t,w,ev,sr,d⟩ with
 |false=>
  have hneg:¬(decide (a<0)=false∧decide (a≥64)=false∧decide (e<0)=false∧decide (e>1099511627776)=false):=by
   rintro⟨q1,q2,q3,q4⟩
   have q1:=of_decide_eq_false q1
   have q2:=of_decide_eq_false q2
   have q3:=of_decide_eq_false q3
   have q4:=of_decide_eq_false q4
   rw[hh.2 ⟨⟨by omega,by omega⟩,by omega,by omega⟩] at hho
   cases hho
  rw[h0 hho]
  refine Vq Tryz.func55 rfl rfl ?_
  conv=>whnf
  iterate 3
   repeat' first|exact T0|(first|refine Yd fun _=>?_|refine Ye fun _=>?_|refine Yg ?_|refine Yk (f1.at1 0 rfl rfl rfl) ?_|refine Yk (eqnP (by kernel_rfl)) ?_);conv=>whnf|(refine Ya ?_ ?_<;>intro _<;>conv=>whnf)
   all_goals try (refine Or.inl ?_;conv=>whnf)
  all_goals try exact (hneg ⟨‹_›,‹_›,‹_›,‹_›⟩).elim
  all_goals refine⟨[],?_⟩
  repeat any_goals first|exact T0|exact rfl|exact Yr|refine Ya ?_ ?_
  all_goals conv=>whnf
 |true=>
 obtain⟨⟨q1,q2⟩,q3,q4⟩:=hh.1 hho
 have d1:decide (a<0)=false:=decide_eq_false (by omega)
 have d2:decide (a≥64)=false:=decide_eq_false (by omega)
 have d3:decide (e<0)=false:=decide_eq_false (by omega)
 have d4:decide (e>1099511627776)=false:=decide_eq_false (by omega)
 refine Vq Tryz.func55 rfl rfl ?_
 conv=>whnf
 iterate 3
  repeat' first|exact T0|(first|refine Yd fun _=>?_|refine Ye fun _=>?_|refine Yg ?_|refine Yk (f1.at1 0 rfl rfl rfl) ?_|refine Yk (eqnP (by kernel_rfl)) ?_);conv=>whnf|(refine Ya ?_ ?_<;>intro _<;>conv=>whnf)
  all_goals try (refine Or.inl ?_;conv=>whnf)
 all_goals try exact (bnl ‹_› d1).elim
 all_goals try exact (bnl ‹_› d2).elim
 all_goals try exact (bnl ‹_› d3).elim
 all_goals try exact (bnl ‹_› d4).elim
 iterate 3
  repeat' first|exact T0|(first|refine Yd fun _=>?_|refine Ye fun _=>?_|refine Yg ?_|refine Yk (f2.at1 2 rfl rfl rfl) ?_|refine Yk (lenP (by kernel_rfl)) ?_);conv=>whnf|(refine Ya ?_ ?_<;>intro _<;>conv=>whnf)
  all_goals try (refine Or.inl ?_;conv=>whnf)
 refine⟨Nat,fun i=>i≤2∧((valsK ⟨1,a,e,b,c,g,s,n,t,w,ev,sr,d⟩ 1).take i).all rngB=true,fun i=>([(43,iA i),(42,iA 2),(41,.rel 1 (slP 2)),(5,.rel 3 (slP 2)),(4,.ptr 2 0),(1,.ptr 0 0)],[.cells (frA ⟨1,a,e,b,c,g,s,n,t,w,ev,sr,d⟩),.cells (ptrsK 1),.cells (frN 1 (bI ⟨1,a,e,b,c,g,s,n,t,w,ev,sr,d⟩ 1 i 1) (bI ⟨1,a,e,b,c,g,s,n,t,w,ev,sr,d⟩ 1 i 2) (bI ⟨1,a,e,b,c,g,s,n,t,w,ev,sr,d⟩ 1 i 3) (bI ⟨1,a,e,b,c,g,s,n,t,w,ev,sr,d⟩ 1 i 4) (bI ⟨1,a,e,b,c,g,s,n,t,w,ev,sr,d⟩ 1 i 5) (bI ⟨1,a,e,b,c,g,s,n,t,w,ev,sr,d⟩ 1 i 6) (bI ⟨1,a,e,b,c,g,s,n,t,w,ev,sr,d⟩ 1 i 7) (bI ⟨1,a,e,b,c,g,s,n,t,w,ev,sr,d⟩ 1 i 8) (bI ⟨1,a,e,b,c,g,s,n,t,w,ev,sr,d⟩ 1 i 9)),.cells ((idxK 1).map fun j=>.ptr 2 j)]),fun i=>2-i,⟨0,⟨Nat.zero_le _,rfl⟩,?_⟩,?_⟩
 ·all_goals refine⟨[],?_⟩
  repeat any_goals first|exact T0|exact rfl|exact Yr|refine Ya ?_ ?_
  all_goals conv=>whnf
 rintro i ⟨hi,hI⟩
 have hi:i≤2:=hi
 obtain rfl|rfl|rfl:i=0∨i=1∨i=2:=by omega
 ·conv=>whnf
  cases hr:rngB a with
  |false=>
   have hneg:¬(decide (a<0)=false∧decide (a>4611686018427387903)=false):=by
    rintro⟨p1,p2⟩
    have p1:=of_decide_eq_false p1
    have p2:=of_decide_eq_false p2
    rw[rngB_iff.2 ⟨by omega,by omega⟩] at hr
    cases hr
   rw[hv a (by simp[valsK,idxK,getN]) hr]
   iterate 4
    repeat' first|exact T0|(first|refine Yd fun _=>?_|refine Ye fun _=>?_|refine Yg ?_|refine Yk (ixP (by kernel_rfl) (by kernel_rfl) (by decide)) ?_);conv=>whnf|(refine Ya ?_ ?_<;>intro _<;>conv=>whnf)
    all_goals try (refine Or.inl ?_;conv=>whnf)
   all_goals try exact (hneg ⟨‹_›,‹_›⟩).elim
   all_goals refine⟨[],?_⟩
   repeat any_goals first|exact T0|exact rfl|exact Yr|refine Ya ?_ ?_
   all_goals conv=>whnf
  |true=>
   obtain⟨p1,p2⟩:=rngB_iff.1 hr
   have d5:decide (a<0)=false:=decide_eq_false (by omega)
   have d6:decide (a>4611686018427387903)=false:=decide_eq_false (by omega)
   iterate 5
    repeat' first|exact T0|(first|refine Yd fun _=>?_|refine Ye fun _=>?_|refine Yg ?_|refine Yk (ixP (by kernel_rfl) (by kernel_rfl) (by decide)) ?_);conv=>whnf|(refine Ya ?_ ?_<;>intro _<;>conv=>whnf)
    all_goals try (refine Or.inl ?_;conv=>whnf)
   all_goals try exact (bnl ‹_› d5).elim
   all_goals try exact (bnl ‹_› d6).elim
   refine⟨1,⟨by decide,by first|(rw[show 1=0+1 from rfl,List.take_add_one,List.all_append,hI];simp[valsK,idxK,getN,hr])⟩,by decide,?_⟩
   all_goals refine⟨[],?_⟩
   repeat any_goals first|exact T0|exact rfl|exact Yr|refine Ya ?_ ?_
   all_goals conv=>whnf
 ·conv=>whnf
  cases hr:rngB b with
  |false=>
   have hneg:¬(decide (b<0)=false∧decide (b>4611686018427387903)=false):=by
    rintro⟨p1,p2⟩
    have p1:=of_decide_eq_false p1
    have p2:=of_decide_eq_false p2
    rw[rngB_iff.2 ⟨by omega,by omega⟩] at hr
    cases hr
   rw[hv b (by simp[valsK,idxK,getN]) hr]
   iterate 4
    repeat' first|exact T0|(first|refine Yd fun _=>?_|refine Ye fun _=>?_|refine Yg ?_|refine Yk (ixP (by kernel_rfl) (by kernel_rfl) (by decide)) ?_);conv=>whnf|(refine Ya ?_ ?_<;>intro _<;>conv=>whnf)
    all_goals try (refine Or.inl ?_;conv=>whnf)
   all_goals try exact (hneg ⟨‹_›,‹_›⟩).elim
   all_goals refine⟨[],?_⟩
   repeat any_goals first|exact T0|exact rfl|exact Yr|refine Ya ?_ ?_
   all_goals conv=>whnf
  |true=>
   obtain⟨p1,p2⟩:=rngB_iff.1 hr
   have d5:decide (b<0)=false:=decide_eq_false (by omega)
   have d6:decide (b>4611686018427387903)=false:=decide_eq_false (by omega)
   iterate 5
    repeat' first|exact T0|(first|refine Yd fun _=>?_|refine Ye fun _=>?_|refine Yg ?_|refine Yk (ixP (by kernel_rfl) (by kernel_rfl) (by decide)) ?_);conv=>whnf|(refine Ya ?_ ?_<;>intro _<;>conv=>whnf)
    all_goals try (refine Or.inl ?_;conv=>whnf)
   all_goals try exact (bnl ‹_› d5).elim
   all_goals try exact (bnl ‹_› d6).elim
   refine⟨2,⟨by decide,by first|(rw[show 2=1+1 from rfl,List.take_add_one,List.all_append,hI];simp[valsK,idxK,getN,hr])⟩,by decide,?_⟩
   all_goals refine⟨[],?_⟩
   repeat any_goals first|exact T0|exact rfl|exact Yr|refine Ya ?_ ?_
   all_goals conv=>whnf
 have hall:(valsK ⟨1,a,e,b,c,g,s,n,t,w,ev,sr,d⟩ 1).all rngB=true:=hI
 conv=>whnf
 rw[hs hho hall rfl]
 iterate 9
  repeat' first|exact T0|(first|refine Yd fun _=>?_|refine Ye fun _=>?_|refine Yg ?_|refine Yk (sm.pu rfl rfl) ?_);conv=>whnf|(refine Ya ?_ ?_<;>intro _<;>conv=>whnf)
  all_goals try (refine Or.inl ?_;conv=>whnf)
 all_goals try (exfalso;simp only[outL] at *;first|omega|contradiction|(simp_all;done)|(simp_all;omega))
 all_goals refine⟨[],?_⟩
 repeat any_goals first|exact T0|exact rfl|exact Yr|refine Ya ?_ ?_
 all_goals conv=>whnf
set_option maxHeartbeats 8000000 in
theorem right_2 (f:Fr) (hk:f.k=2) (hf:FrOk f):Sat Tryz.prog 55 [.d (frD f)] [] (bA (rightK f 2)) []:=by
 have f1:=fields_f f 2 hk (by decide) (by decide)
 have f2:=fields_n 2 (by decide) (by decide) 0 0 0 0 0 0 0 0 0
 have hb:=bareF_ok hf (k:=2) (by decide)
 have hh:=headOk_iff (f:=f)
 have h0:=rightK_head (f:=f) (k:=2)
 have hv:=fun x=>rightK_val (f:=f) (k:=2) (x:=x)
 have hs:=rightK_same (f:=f) (k:=2)
 have hx:=rightK_extra (f:=f) (k:=2)
 have sm:=same_pre f (bareF f 2) hf hb (xs:=nilR (bareF f 2)) (by repeat' (first|exact trivial|refine And.intro ?_ ?_|exact .inl rfl|exact .inr ⟨rfl,_,rfl⟩))
 obtain⟨kk,a,e,b,c,g,s,n,t,w,ev,sr,d⟩:=f
 have hk:kk=2:=hk
 subst hk
 simp only at hh
 cases hho:headOk ⟨2,a,e,b,c,g,s,n,t,w,ev,sr,d⟩ with
 |false=>
  have hneg:¬(decide (a<0)=false∧decide (a≥64)=false∧decide (e<0)=false∧decide (e>1099511627776)=false):=by
   rintro⟨q1,q2,q3,q4⟩
   have q1:=of_decide_eq_false q1
   have q2:=of_decide_eq_false q2
   have q3:=of_decide_eq_false q3
   have q4:=of_decide_eq_false q4
   rw[hh.2 ⟨⟨by omega,by omega⟩,by omega,by omega⟩] at hho
   cases hho
  rw[h0 hho]
  refine Vq Tryz.func55 rfl rfl ?_
  conv=>whnf
  iterate 3
   repeat' first|exact T0|(first|refine Yd fun _=>?_|refine Ye fun _=>?_|refine Yg ?_|refine Yk (f1.at1 0 rfl rfl rfl) ?_|refine Yk (eqnP (by kernel_rfl)) ?_);conv=>whnf|(refine Ya ?_ ?_<;>intro _<;>conv=>whnf)
   all_goals try (refine Or.inl ?_;conv=>whnf)
  all_goals try exact (hneg ⟨‹_›,‹_›,‹_›,‹_›⟩).elim
  all_goals refine⟨[],?_⟩
  repeat any_goals first|exact T0|exact rfl|exact Yr|refine Ya ?_ ?_
  all_goals conv=>whnf
 |true=>
 obtain⟨⟨q1,q2⟩,q3,q4⟩:=hh.1 hho
 have d1:decide (a<0)=false:=decide_eq_false (by omega)
 have d2:decide (a≥64)=false:=decide_eq_false (by omega)
 have d3:decide (e<0)=false:=decide_eq_false (by omega)
 have d4:decide (e>1099511627776)=false:=decide_eq_false (by omega)
 refine Vq Tryz.func55 rfl rfl ?_
 conv=>whnf
 iterate 3
  repeat' first|exact T0|(first|refine Yd fun _=>?_|refine Ye fun _=>?_|refine Yg ?_|refine Yk (f1.at1 0 rfl rfl rfl) ?_|refine Yk (eqnP (by kernel_rfl)) ?_);conv=>whnf|(refine Ya ?_ ?_<;>intro _<;>conv=>whnf)
  all_goals try (refine Or.inl ?_;conv=>whnf)
 all_goals try exact (bnl ‹_› d1).elim
 all_goals try exact (bnl ‹_› d2).elim
 all_goals try exact (bnl ‹_› d3).elim
 all_goals try exact (bnl ‹_› d4).elim
 iterate 3
  repeat' first|exact T0|(first|refine Yd fun _=>?_|refine Ye fun _=>?_|refine Yg ?_|refine Yk (f2.at1 2 rfl rfl rfl) ?_|refine Yk (lenP (by kernel_rfl)) ?_);conv=>whnf|(refine Ya ?_ ?_<;>intro _<;>conv=>whnf)
  all_goals try (refine Or.inl ?_;conv=>whnf)
 refine⟨Nat,fun i=>i≤3∧((valsK ⟨2,a,e,b,c,g,s,n,t,w,ev,sr,d⟩ 2).take i).all rngB=true,fun i=>([(43,iA i),(42,iA 3),(41,.rel 1 (slP 3)),(5,.rel 3 (slP 3)),(4,.ptr 2 0),(1,.ptr 0 0)],[.cells (frA ⟨2,a,e,b,c,g,s,n,t,w,ev,sr,d⟩),.cells (ptrsK 2),.cells (frN 2 (bI ⟨2,a,e,b,c,g,s,n,t,w,ev,sr,d⟩ 2 i 1) (bI ⟨2,a,e,b,c,g,s,n,t,w,ev,sr,d⟩ 2 i 2) (bI ⟨2,a,e,b,c,g,s,n,t,w,ev,sr,d⟩ 2 i 3) (bI ⟨2,a,e,b,c,g,s,n,t,w,ev,sr,d⟩ 2 i 4) (bI ⟨2,a,e,b,c,g,s,n,t,w,ev,sr,d⟩ 2 i 5) (bI ⟨2,a,e,b,c,g,s,n,t,w,ev,sr,d⟩ 2 i 6) (bI ⟨2,a,e,b,c,g,s,n,t,w,ev,sr,d⟩ 2 i 7) (bI ⟨2,a,e,b,c,g,s,n,t,w,ev,sr,d⟩ 2 i 8) (bI ⟨2,a,e,b,c,g,s,n,t,w,ev,sr,d⟩ 2 i 9)),.cells ((idxK 2).map fun j=>.ptr 2 j)]),fun i=>3-i,⟨0,⟨Nat.zero_le _,rfl⟩,?_⟩,?_⟩
 ·all_goals refine⟨[],?_⟩
  repeat any_goals first|exact T0|exact rfl|exact Yr|refine Ya ?_ ?_
  all_goals conv=>whnf
 rintro i ⟨hi,hI⟩
 have hi:i≤3:=hi
 obtain rfl|rfl|rfl|rfl:i=0∨i=1∨i=2∨i=3:=by omega
 ·conv=>whnf
  cases hr:rngB a with
  |false=>
   have hneg:¬(decide (a<0)=false∧decide (a>4611686018427387903)=false):=by
    rintro⟨p1,p2⟩
    have p1:=of_decide_eq_false p1
    have p2:=of_decide_eq_false p2
    rw[rngB_iff.2 ⟨by omega,by omega⟩] at hr
    cases hr
   rw[hv a (by simp[valsK,idxK,getN]) hr]
   iterate 4
    repeat' first|exact T0|(first|refine Yd fun _=>?_|refine Ye fun _=>?_|refine Yg ?_|refine Yk (ixP (by kernel_rfl) (by kernel_rfl) (by decide)) ?_);conv=>whnf|(refine Ya ?_ ?_<;>intro _<;>conv=>whnf)
    all_goals try (refine Or.inl ?_;conv=>whnf)
   all_goals try exact (hneg ⟨‹_›,‹_›⟩).elim
   all_goals refine⟨[],?_⟩
   repeat any_goals first|exact T0|exact rfl|exact Yr|refine Ya ?_ ?_
   all_goals conv=>whnf
  |true=>
   obtain⟨p1,p2⟩:=rngB_iff.1 hr
   have d5:decide (a<0)=false:=decide_eq_false (by omega)
   have d6:decide (a>4611686018427387903)=false:=decide_eq_false (by omega)
   iterate 5
    repeat' first|exact T0|(first|refine Yd fun _=>?_|refine Ye fun _=>?_|refine Yg ?_|refine Yk (ixP (by kernel_rfl) (by kernel_rfl) (by decide)) ?_);conv=>whnf|(refine Ya ?_ ?_<;>intro _<;>conv=>whnf)
    all_goals try (refine Or.inl ?_;conv=>whnf)
   all_goals try exact (bnl ‹_› d5).elim
   all_goals try exact (bnl ‹_› d6).elim
   refine⟨1,⟨by decide,by first|(rw[show 1=0+1 from rfl,List.take_add_one,List.all_append,hI];simp[valsK,idxK,getN,hr])⟩,by decide,?_⟩
   all_goals refine⟨[],?_⟩
   repeat any_goals first|exact T0|exact rfl|exact Yr|refine Ya ?_ ?_
   all_goals conv=>whnf
 ·conv=>whnf
  cases hr:rngB b with
  |false=>
   have hneg:¬(decide (b<0)=false∧decide (b>4611686018427387903)=false):=by
    rintro⟨p1,p2⟩
    have p1:=of_decide_eq_false p1
    have p2:=of_decide_eq_false p2
    rw[rngB_iff.2 ⟨by omega,by omega⟩] at hr
    cases hr
   rw[hv b (by simp[valsK,idxK,getN]) hr]
   iterate 4
    repeat' first|exact T0|(first|refine Yd fun _=>?_|refine Ye fun _=>?_|refine Yg ?_|refine Yk (ixP (by kernel_rfl) (by kernel_rfl) (by decide)) ?_);conv=>whnf|(refine Ya ?_ ?_<;>intro _<;>conv=>whnf)
    all_goals try (refine Or.inl ?_;conv=>whnf)
   all_goals try exact (hneg ⟨‹_›,‹_›⟩).elim
   all_goals refine⟨[],?_⟩
   repeat any_goals first|exact T0|exact rfl|exact Yr|refine Ya ?_ ?_
   all_goals conv=>whnf
  |true=>
   obtain⟨p1,p2⟩:=rngB_iff.1 hr
   have d5:decide (b<0)=false:=decide_eq_false (by omega)
   have d6:decide (b>4611686018427387903)=false:=decide_eq_false (by omega)
   iterate 5
    repeat' first|exact T0|(first|refine Yd fun _=>?_|refine Ye fun _=>?_|refine Yg ?_|refine Yk (ixP (by kernel_rfl) (by kernel_rfl) (by decide)) ?_);conv=>whnf|(refine Ya ?_ ?_<;>intro _<;>conv=>whnf)
    all_goals try (refine Or.inl ?_;conv=>whnf)
   all_goals try exact (bnl ‹_› d5).elim
   all_goals try exact (bnl ‹_› d6).elim
   refine⟨2,⟨by decide,by first|(rw[show 2=1+1 from rfl,List.take_add_one,List.all_append,hI];simp[valsK,idxK,getN,hr])⟩,by decide,?_⟩
   all_goals refine⟨[],?_⟩
   repeat any_goals first|exact T0|exact rfl|exact Yr|refine Ya ?_ ?_
   all_goals conv=>whnf
 ·conv=>whnf
  cases hr:rngB e with
  |false=>
   have hneg:¬(decide (e<0)=false∧decide (e>4611686018427387903)=false):=by
    rintro⟨p1,p2⟩
    have p1:=of_decide_eq_false p1
    have p2:=of_decide_eq_false p2
    rw[rngB_iff.2 ⟨by omega,by omega⟩] at hr
    cases hr
   rw[hv e (by simp[valsK,idxK,getN]) hr]
   iterate 4
    repeat' first|exact T0|(first|refine Yd fun _=>?_|refine Ye fun _=>?_|refine Yg ?_|refine Yk (ixP (by kernel_rfl) (by kernel_rfl) (by decide)) ?_);conv=>whnf|(refine Ya ?_ ?_<;>intro _<;>conv=>whnf)
    all_goals try (refine Or.inl ?_;conv=>whnf)
   all_goals try exact (hneg ⟨‹_›,‹_›⟩).elim
   all_goals refine⟨[],?_⟩
   repeat any_goals first|exact T0|exact rfl|exact Yr|refine Ya ?_ ?_
   all_goals conv=>whnf
  |true=>
   obtain⟨p1,p2⟩:=rngB_iff.1 hr
   have d5:decide (e<0)=false:=decide_eq_false (by omega)
   have d6:decide (e>4611686018427387903)=false:=decide_eq_false (by omega)
   iterate 5
    repeat' first|exact T0|(first|refine Yd fun _=>?_|refine Ye fun _=>?_|refine Yg ?_|refine Yk (ixP (by kernel_rfl) (by kernel_rfl) (by decide)) ?_);conv=>whnf|(refine Ya ?_ ?_<;>intro _<;>conv=>whnf)
    all_goals try (refine Or.inl ?_;conv=>whnf)
   all_goals try exact (bnl ‹_› d5).elim
   all_goals try exact (bnl ‹_› d6).elim
   refine⟨3,⟨by decide,by first|(rw[show 3=2+1 from rfl,List.take_add_one,List.all_append,hI];simp[valsK,idxK,getN,hr])⟩,by decide,?_⟩
   all_goals refine⟨[],?_⟩
   repeat any_goals first|exact T0|exact rfl|exact Yr|refine Ya ?_ ?_
   all_goals conv=>whnf
 have hall:(valsK ⟨2,a,e,b,c,g,s,n,t,w,ev,sr,d⟩ 2).all rngB=true:=hI
 conv=>whnf
 rw[hs hho hall rfl]
 iterate 9
  repeat' first|exact T0|(first|refine Yd fun _=>?_|refine Ye fun _=>?_|refine Yg ?_|refine Yk (sm.pu rfl rfl) ?_);conv=>whnf|(refine Ya ?_ ?_<;>intro _<;>conv=>whnf)
  all_goals try (refine Or.inl ?_;conv=>whnf)
 all_goals try (exfalso;simp only[outL] at *;first|omega|contradiction|(simp_all;done)|(simp_all;omega))
 all_goals refine⟨[],?_⟩
 repeat any_goals first|exact T0|exact rfl|exact Yr|refine Ya ?_ ?_
 all_goals conv=>whnf
set_option maxHeartbeats 8000000 in
theorem right_3 (f:Fr) (hk:f.k=3) (hf:FrOk f):Sat Tryz.prog 55 [.d (frD f)] [] (bA (rightK f 3)) []:=by
 have f1:=fields_f f 3 hk (by decide) (by decide)
 have f2:=fields_n 3 (by decide) (by decide) 0 0 0 0 0 0 0 0 0
 have hb:=bareF_ok hf (k:=3) (by decide)
 have hh:=headOk_iff (f:=f)
 have h0:=rightK_head (f:=f) (k:=3)
 have hv:=fun x=>rightK_val (f:=f) (k:=3) (x:=x)
 have hs:=rightK_same (f:=f) (k:=3)
 have hx:=rightK_extra (f:=f) (k:=3)
 have sm:=same_pre f (bareF f 3) hf hb (xs:=nilR (bareF f 3)) (by repeat' (first|exact trivial|refine And.intro ?_ ?_|exact .inl rfl|exact .inr ⟨rfl,_,rfl⟩))
 obtain⟨kk,a,e,b,c,g,s,n,t,w,ev,sr,d⟩:=f
 have hk:kk=3:=hk
 subst hk
 simp only at hh
 cases hho:headOk ⟨3,a,e,b,c,g,s,n,t,w,ev,sr,d⟩ with
 |false=>
  have hneg:¬(decide (a<0)=false∧decide (a≥64)=false∧decide (e<0)=false∧decide (e>1099511627776)=false):=by
   rintro⟨q1,q2,q3,q4⟩
   have q1:=of_decide_eq_false q1
   have q2:=of_decide_eq_false q2
   have q3:=of_decide_eq_false q3
   have q4:=of_decide_eq_false q4
   rw[hh.2 ⟨⟨by omega,by omega⟩,by omega,by omega⟩] at hho
   cases hho
  rw[h0 hho]
  refine Vq Tryz.func55 rfl rfl ?_
  conv=>whnf
  iterate 3
   repeat' first|exact T0|(first|refine Yd fun _=>?_|refine Ye fun _=>?_|refine Yg ?_|refine Yk (f1.at1 0 rfl rfl rfl) ?_|refine Yk (eqnP (by kernel_rfl)) ?_);conv=>whnf|(refine Ya ?_ ?_<;>intro _<;>conv=>whnf)
   all_goals try (refine Or.inl ?_;conv=>whnf)
  all_goals try exact (hneg ⟨‹_›,‹_›,‹_›,‹_›⟩).elim
  all_goals refine⟨[],?_⟩
  repeat any_goals first|exact T0|exact rfl|exact Yr|refine Ya ?_ ?_
  all_goals conv=>whnf
 |true=>
 obtain⟨⟨q1,q2⟩,q3,q4⟩:=hh.1 hho
 have d1:decide (a<0)=false:=decide_eq_false (by omega)
 have d2:decide (a≥64)=false:=decide_eq_false (by omega)
 have d3:decide (e<0)=false:=decide_eq_false (by omega)
 have d4:decide (e>1099511627776)=false:=decide_eq_false (by omega)
 refine Vq Tryz.func55 rfl rfl ?_
 conv=>whnf
 iterate 3
  repeat' first|exact T0|(first|refine Yd fun _=>?_|refine Ye fun _=>?_|refine Yg ?_|refine Yk (f1.at1 0 rfl rfl rfl) ?_|refine Yk (eqnP (by kernel_rfl)) ?_);conv=>whnf|(refine Ya ?_ ?_<;>intro _<;>conv=>whnf)
  all_goals try (refine Or.inl ?_;conv=>whnf)
 all_goals try exact (bnl ‹_› d1).elim
 all_goals try exact (bnl ‹_› d2).elim
 all_goals try exact (bnl ‹_› d3).elim
 all_goals try exact (bnl ‹_› d4).elim
 iterate 3
  repeat' first|exact T0|(first|refine Yd fun _=>?_|refine Ye fun _=>?_|refine Yg ?_|refine Yk (f2.at1 2 rfl rfl rfl) ?_|refine Yk (lenP (by kernel_rfl)) ?_);conv=>whnf|(refine Ya ?_ ?_<;>intro _<;>conv=>whnf)
  all_goals try (refine Or.inl ?_;conv=>whnf)
 refine⟨Nat,fun i=>i≤3∧((valsK ⟨3,a,e,b,c,g,s,n,t,w,ev,sr,d⟩ 3).take i).all rngB=true,fun i=>([(43,iA i),(42,iA 3),(41,.rel 1 (slP 3)),(5,.rel 3 (slP 3)),(4,.ptr 2 0),(1,.ptr 0 0)],[.cells (frA ⟨3,a,e,b,c,g,s,n,t,w,ev,sr,d⟩),.cells (ptrsK 3),.cells (frN 3 (bI ⟨3,a,e,b,c,g,s,n,t,w,ev,sr,d⟩ 3 i 1) (bI ⟨3,a,e,b,c,g,s,n,t,w,ev,sr,d⟩ 3 i 2) (bI ⟨3,a,e,b,c,g,s,n,t,w,ev,sr,d⟩ 3 i 3) (bI ⟨3,a,e,b,c,g,s,n,t,w,ev,sr,d⟩ 3 i 4) (bI ⟨3,a,e,b,c,g,s,n,t,w,ev,sr,d⟩ 3 i 5) (bI ⟨3,a,e,b,c,g,s,n,t,w,ev,sr,d⟩ 3 i 6) (bI ⟨3,a,e,b,c,g,s,n,t,w,ev,sr,d⟩ 3 i 7) (bI ⟨3,a,e,b,c,g,s,n,t,w,ev,sr,d⟩ 3 i 8) (bI ⟨3,a,e,b,c,g,s,n,t,w,ev,sr,d⟩ 3 i 9)),.cells ((idxK 3).map fun j=>.ptr 2 j)]),fun i=>3-i,⟨0,⟨Nat.zero_le _,rfl⟩,?_⟩,?_⟩
 ·all_goals refine⟨[],?_⟩
  repeat any_goals first|exact T0|exact rfl|exact Yr|refine Ya ?_ ?_
  all_goals conv=>whnf
 rintro i ⟨hi,hI⟩
 have hi:i≤3:=hi
 obtain rfl|rfl|rfl|rfl:i=0∨i=1∨i=2∨i=3:=by omega
 ·conv=>whnf
  cases hr:rngB a with
  |false=>
   have hneg:¬(decide (a<0)=false∧decide (a>4611686018427387903)=false):=by
    rintro⟨p1,p2⟩
    have p1:=of_decide_eq_false p1
    have p2:=of_decide_eq_false p2
    rw[rngB_iff.2 ⟨by omega,by omega⟩] at hr
    cases hr
   rw[hv a (by simp[valsK,idxK,getN]) hr]
   iterate 4
    repeat' first|exact T0|(first|refine Yd fun _=>?_|refine Ye fun _=>?_|refine Yg ?_|refine Yk (ixP (by kernel_rfl) (by kernel_rfl) (by decide)) ?_);conv=>whnf|(refine Ya ?_ ?_<;>intro _<;>conv=>whnf)
    all_goals try (refine Or.inl ?_;conv=>whnf)
   all_goals try exact (hneg ⟨‹_›,‹_›⟩).elim
   all_goals refine⟨[],?_⟩
   repeat any_goals first|exact T0|exact rfl|exact Yr|refine Ya ?_ ?_
   all_goals conv=>whnf
  |true=>
   obtain⟨p1,p2⟩:=rngB_iff.1 hr
   have d5:decide (a<0)=false:=decide_eq_false (by omega)
   have d6:decide (a>4611686018427387903)=false:=decide_eq_false (by omega)
   iterate 5
    repeat' first|exact T0|(first|refine Yd fun _=>?_|refine Ye fun _=>?_|refine Yg ?_|refine Yk (ixP (by kernel_rfl) (by kernel_rfl) (by decide)) ?_);conv=>whnf|(refine Ya ?_ ?_<;>intro _<;>conv=>whnf)
    all_goals try (refine Or.inl ?_;conv=>whnf)
   all_goals try exact (bnl ‹_› d5).elim
   all_goals try exact (bnl ‹_› d6).elim
   refine⟨1,⟨by decide,by first|(rw[show 1=0+1 from rfl,List.take_add_one,List.all_append,hI];simp[valsK,idxK,getN,hr])⟩,by decide,?_⟩
   all_goals refine⟨[],?_⟩
   repeat any_goals first|exact T0|exact rfl|exact Yr|refine Ya ?_ ?_
   all_goals conv=>whnf
 ·conv=>whnf
  cases hr:rngB b with
  |false=>
   have hneg:¬(decide (b<0)=false∧decide (b>4611686018427387903)=false):=by
    rintro⟨p1,p2⟩
    have p1:=of_decide_eq_false p1
    have p2:=of_decide_eq_false p2
    rw[rngB_iff.2 ⟨by omega,by omega⟩] at hr
    cases hr
   rw[hv b (by simp[valsK,idxK,getN]) hr]
   iterate 4
    repeat' first|exact T0|(first|refine Yd fun _=>?_|refine Ye fun _=>?_|refine Yg ?_|refine Yk (ixP (by kernel_rfl) (by kernel_rfl) (by decide)) ?_);conv=>whnf|(refine Ya ?_ ?_<;>intro _<;>conv=>whnf)
    all_goals try (refine Or.inl ?_;conv=>whnf)
   all_goals try exact (hneg ⟨‹_›,‹_›⟩).elim
   all_goals refine⟨[],?_⟩
   repeat any_goals first|exact T0|exact rfl|exact Yr|refine Ya ?_ ?_
   all_goals conv=>whnf
  |true=>
   obtain⟨p1,p2⟩:=rngB_iff.1 hr
   have d5:decide (b<0)=false:=decide_eq_false (by omega)
   have d6:decide (b>4611686018427387903)=false:=decide_eq_false (by omega)
   iterate 5
    repeat' first|exact T0|(first|refine Yd fun _=>?_|refine Ye fun _=>?_|refine Yg ?_|refine Yk (ixP (by kernel_rfl) (by kernel_rfl) (by decide)) ?_);conv=>whnf|(refine Ya ?_ ?_<;>intro _<;>conv=>whnf)
    all_goals try (refine Or.inl ?_;conv=>whnf)
   all_goals try exact (bnl ‹_› d5).elim
   all_goals try exact (bnl ‹_› d6).elim
   refine⟨2,⟨by decide,by first|(rw[show 2=1+1 from rfl,List.take_add_one,List.all_append,hI];simp[valsK,idxK,getN,hr])⟩,by decide,?_⟩
   all_goals refine⟨[],?_⟩
   repeat any_goals first|exact T0|exact rfl|exact Yr|refine Ya ?_ ?_
   all_goals conv=>whnf
 ·conv=>whnf
  cases hr:rngB c with
  |false=>
   have hneg:¬(decide (c<0)=false∧decide (c>4611686018427387903)=false):=by
    rintro⟨p1,p2⟩
    have p1:=of_decide_eq_false p1
    have p2:=of_decide_eq_false p2
    rw[rngB_iff.2 ⟨by omega,by omega⟩] at hr
    cases hr
   rw[hv c (by simp[valsK,idxK,getN]) hr]
   iterate 4
    repeat' first|exact T0|(first|refine Yd fun _=>?_|refine Ye fun _=>?_|refine Yg ?_|refine Yk (ixP (by kernel_rfl) (by kernel_rfl) (by decide)) ?_);conv=>whnf|(refine Ya ?_ ?_<;>intro _<;>conv=>whnf)
    all_goals try (refine Or.inl ?_;conv=>whnf)
   all_goals try exact (hneg ⟨‹_›,‹_›⟩).elim
   all_goals refine⟨[],?_⟩
   repeat any_goals first|exact T0|exact rfl|exact Yr|refine Ya ?_ ?_
   all_goals conv=>whnf
  |true=>
   obtain⟨p1,p2⟩:=rngB_iff.1 hr
   have d5:decide (c<0)=false:=decide_eq_false (by omega)
   have d6:decide (c>4611686018427387903)=false:=decide_eq_false (by omega)
   iterate 5
    repeat' first|exact T0|(first|refine Yd fun _=>?_|refine Ye fun _=>?_|refine Yg ?_|refine Yk (ixP (by kernel_rfl) (by kernel_rfl) (by decide)) ?_);conv=>whnf|(refine Ya ?_ ?_<;>intro _<;>conv=>whnf)
    all_goals try (refine Or.inl ?_;conv=>whnf)
   all_goals try exact (bnl ‹_› d5).elim
   all_goals try exact (bnl ‹_› d6).elim
   refine⟨3,⟨by decide,by first|(rw[show 3=2+1 from rfl,List.take_add_one,List.all_append,hI];simp[valsK,idxK,getN,hr])⟩,by decide,?_⟩
   all_goals refine⟨[],?_⟩
   repeat any_goals first|exact T0|exact rfl|exact Yr|refine Ya ?_ ?_
   all_goals conv=>whnf
 have hall:(valsK ⟨3,a,e,b,c,g,s,n,t,w,ev,sr,d⟩ 3).all rngB=true:=hI
 conv=>whnf
 rw[hs hho hall rfl]
 iterate 9
  repeat' first|exact T0|(first|refine Yd fun _=>?_|refine Ye fun _=>?_|refine Yg ?_|refine Yk (sm.pu rfl rfl) ?_);conv=>whnf|(refine Ya ?_ ?_<;>intro _<;>conv=>whnf)
  all_goals try (refine Or.inl ?_;conv=>whnf)
 all_goals try (exfalso;simp only[outL] at *;first|omega|contradiction|(simp_all;done)|(simp_all;omega))
 all_goals refine⟨[],?_⟩
 repeat any_goals first|exact T0|exact rfl|exact Yr|refine Ya ?_ ?_
 all_goals conv=>whnf
set_option maxHeartbeats 8000000 in
theorem right_4 (f:Fr) (hk:f.k=4) (hf:FrOk f):Sat Tryz.prog 55 [.d (frD f)] [] (bA (rightK f 4)) []:=by
 have f1:=fields_f f 4 hk (by decide) (by decide)
 have f2:=fields_n 4 (by decide) (by decide) 0 0 0 0 0 0 0 0 0
 have hb:=bareF_ok hf (k:=4) (by decide)
 have hh:=headOk_iff (f:=f)
 have h0:=rightK_head (f:=f) (k:=4)
 have hv:=fun x=>rightK_val (f:=f) (k:=4) (x:=x)
 have hs:=rightK_same (f:=f) (k:=4)
 have hx:=rightK_extra (f:=f) (k:=4)
 have sm:=same_pre f (bareF f 4) hf hb (xs:=nilR (bareF f 4)) (by repeat' (first|exact trivial|refine And.intro ?_ ?_|exact .inl rfl|exact .inr ⟨rfl,_,rfl⟩))
 obtain⟨kk,a,e,b,c,g,s,n,t,w,ev,sr,d⟩:=f
 have hk:kk=4:=hk
 subst hk
 simp only at hh
 cases hho:headOk ⟨4,a,e,b,c,g,s,n,t,w,ev,sr,d⟩ with
 |false=>
  have hneg:¬(decide (a<0)=false∧decide (a≥64)=false∧decide (e<0)=false∧decide (e>1099511627776)=false):=by
   rintro⟨q1,q2,q3,q4⟩
   have q1:=of_decide_eq_false q1
   have q2:=of_decide_eq_false q2
   have q3:=of_decide_eq_false q3
   have q4:=of_decide_eq_false q4
   rw[hh.2 ⟨⟨by omega,by omega⟩,by omega,by omega⟩] at hho
   cases hho
  rw[h0 hho]
  refine Vq Tryz.func55 rfl rfl ?_
  conv=>whnf
  iterate 3
   repeat' first|exact T0|(first|refine Yd fun _=>?_|refine Ye fun _=>?_|refine Yg ?_|refine Yk (f1.at1 0 rfl rfl rfl) ?_|refine Yk (eqnP (by kernel_rfl)) ?_);conv=>whnf|(refine Ya ?_ ?_<;>intro _<;>conv=>whnf)
   all_goals try (refine Or.inl ?_;conv=>whnf)
  all_goals try exact (hneg ⟨‹_›,‹_›,‹_›,‹_›⟩).elim
  all_goals refine⟨[],?_⟩
  repeat any_goals first|exact T0|exact rfl|exact Yr|refine Ya ?_ ?_
  all_goals conv=>whnf
 |true=>
 obtain⟨⟨q1,q2⟩,q3,q4⟩:=hh.1 hho
 have d1:decide (a<0)=false:=decide_eq_false (by omega)
 have d2:decide (a≥64)=false:=decide_eq_false (by omega)
 have d3:decide (e<0)=false:=decide_eq_false (by omega)
 have d4:decide (e>1099511627776)=false:=decide_eq_false (by omega)
 refine Vq Tryz.func55 rfl rfl ?_
 conv=>whnf
 iterate 3
  repeat' first|exact T0|(first|refine Yd fun _=>?_|refine Ye fun _=>?_|refine Yg ?_|refine Yk (f1.at1 0 rfl rfl rfl) ?_|refine Yk (eqnP (by kernel_rfl)) ?_);conv=>whnf|(refine Ya ?_ ?_<;>intro _<;>conv=>whnf)
  all_goals try (refine Or.inl ?_;conv=>whnf)
 all_goals try exact (bnl ‹_› d1).elim
 all_goals try exact (bnl ‹_› d2).elim
 all_goals try exact (bnl ‹_› d3).elim
 all_goals try exact (bnl ‹_› d4).elim
 iterate 3
  repeat' first|exact T0|(first|refine Yd fun _=>?_|refine Ye fun _=>?_|refine Yg ?_|refine Yk (f2.at1 2 rfl rfl rfl) ?_|refine Yk (lenP (by kernel_rfl)) ?_);conv=>whnf|(refine Ya ?_ ?_<;>intro _<;>conv=>whnf)
  all_goals try (refine Or.inl ?_;conv=>whnf)
 refine⟨Nat,fun i=>i≤6∧((valsK ⟨4,a,e,b,c,g,s,n,t,w,ev,sr,d⟩ 4).take i).all rngB=true,fun i=>([(43,iA i),(42,iA 6),(41,.rel 1 (slP 6)),(5,.rel 3 (slP 6)),(4,.ptr 2 0),(1,.ptr 0 0)],[.cells (frA ⟨4,a,e,b,c,g,s,n,t,w,ev,sr,d⟩),.cells (ptrsK 4),.cells (frN 4 (bI ⟨4,a,e,b,c,g,s,n,t,w,ev,sr,d⟩ 4 i 1) (bI ⟨4,a,e,b,c,g,s,n,t,w,ev,sr,d⟩ 4 i 2) (bI ⟨4,a,e,b,c,g,s,n,t,w,ev,sr,d⟩ 4 i 3) (bI ⟨4,a,e,b,c,g,s,n,t,w,ev,sr,d⟩ 4 i 4) (bI ⟨4,a,e,b,c,g,s,n,t,w,ev,sr,d⟩ 4 i 5) (bI ⟨4,a,e,b,c,g,s,n,t,w,ev,sr,d⟩ 4 i 6) (bI ⟨4,a,e,b,c,g,s,n,t,w,ev,sr,d⟩ 4 i 7) (bI ⟨4,a,e,b,c,g,s,n,t,w,ev,sr,d⟩ 4 i 8) (bI ⟨4,a,e,b,c,g,s,n,t,w,ev,sr,d⟩ 4 i 9)),.cells ((idxK 4).map fun j=>.ptr 2 j)]),fun i=>6-i,⟨0,⟨Nat.zero_le _,rfl⟩,?_⟩,?_⟩
 ·all_goals refine⟨[],?_⟩
  repeat any_goals first|exact T0|exact rfl|exact Yr|refine Ya ?_ ?_
  all_goals conv=>whnf
 rintro i ⟨hi,hI⟩
 have hi:i≤6:=hi
 obtain rfl|rfl|rfl|rfl|rfl|rfl|rfl:i=0∨i=1∨i=2∨i=3∨i=4∨i=5∨i=6:=by omega
 ·conv=>whnf
  cases hr:rngB a with
  |false=>
   have hneg:¬(decide (a<0)=false∧decide (a>4611686018427387903)=false):=by
    rintro⟨p1,p2⟩
    have p1:=of_decide_eq_false p1
    have p2:=of_decide_eq_false p2
    rw[rngB_iff.2 ⟨by omega,by omega⟩] at hr
    cases hr
   rw[hv a (by simp[valsK,idxK,getN]) hr]
   iterate 4
    repeat' first|exact T0|(first|refine Yd fun _=>?_|refine Ye fun _=>?_|refine Yg ?_|refine Yk (ixP (by kernel_rfl) (by kernel_rfl) (by decide)) ?_);conv=>whnf|(refine Ya ?_ ?_<;>intro _<;>conv=>whnf)
    all_goals try (refine Or.inl ?_;conv=>whnf)
   all_goals try exact (hneg ⟨‹_›,‹_›⟩).elim
   all_goals refine⟨[],?_⟩
   repeat any_goals first|exact T0|exact rfl|exact Yr|refine Ya ?_ ?_
   all_goals conv=>whnf
  |true=>
   obtain⟨p1,p2⟩:=rngB_iff.1 hr
   have d5:decide (a<0)=false:=decide_eq_false (by omega)
   have d6:decide (a>4611686018427387903)=false:=decide_eq_false (by omega)
   iterate 5
    repeat' first|exact T0|(first|refine Yd fun _=>?_|refine Ye fun _=>?_|refine Yg ?_|refine Yk (ixP (by kernel_rfl) (by kernel_rfl) (by decide)) ?_);conv=>whnf|(refine Ya ?_ ?_<;>intro _<;>conv=>whnf)
    all_goals try (refine Or.inl ?_;conv=>whnf)
   all_goals try exact (bnl ‹_› d5).elim
   all_goals try exact (bnl ‹_› d6).elim
   refine⟨1,⟨by decide,by first|(rw[show 1=0+1 from rfl,List.take_add_one,List.all_append,hI];simp[valsK,idxK,getN,hr])⟩,by decide,?_⟩
   all_goals refine⟨[],?_⟩
   repeat any_goals first|exact T0|exact rfl|exact Yr|refine Ya ?_ ?_
   all_goals conv=>whnf
 ·conv=>whnf
  cases hr:rngB e with
  |false=>
   have hneg:¬(decide (e<0)=false∧decide (e>4611686018427387903)=false):=by
    rintro⟨p1,p2⟩
    have p1:=of_decide_eq_false p1
    have p2:=of_decide_eq_false p2
    rw[rngB_iff.2 ⟨by omega,by omega⟩] at hr
    cases hr
   rw[hv e (by simp[valsK,idxK,getN]) hr]
   iterate 4
    repeat' first|exact T0|(first|refine Yd fun _=>?_|refine Ye fun _=>?_|refine Yg ?_|refine Yk (ixP (by kernel_rfl) (by kernel_rfl) (by decide)) ?_);conv=>whnf|(refine Ya ?_ ?_<;>intro _<;>conv=>whnf)
    all_goals try (refine Or.inl ?_;conv=>whnf)
   all_goals try exact (hneg ⟨‹_›,‹_›⟩).elim
   all_goals refine⟨[],?_⟩
   repeat any_goals first|exact T0|exact rfl|exact Yr|refine Ya ?_ ?_
   all_goals conv=>whnf
  |true=>
   obtain⟨p1,p2⟩:=rngB_iff.1 hr
   have d5:decide (e<0)=false:=decide_eq_false (by omega)
   have d6:decide (e>4611686018427387903)=false:=decide_eq_false (by omega)
   iterate 5
    repeat' first|exact T0|(first|refine Yd fun _=>?_|refine Ye fun _=>?_|refine Yg ?_|refine Yk (ixP (by kernel_rfl) (by kernel_rfl) (by decide)) ?_);conv=>whnf|(refine Ya ?_ ?_<;>intro _<;>conv=>whnf)
    all_goals try (refine Or.inl ?_;conv=>whnf)
   all_goals try exact (bnl ‹_› d5).elim
   all_goals try exact (bnl ‹_› d6).elim
   refine⟨2,⟨by decide,by first|(rw[show 2=1+1 from rfl,List.take_add_one,List.all_append,hI];simp[valsK,idxK,getN,hr])⟩,by decide,?_⟩
   all_goals refine⟨[],?_⟩
   repeat any_goals first|exact T0|exact rfl|exact Yr|refine Ya ?_ ?_
   all_goals conv=>whnf
 ·conv=>whnf
  cases hr:rngB b with
  |false=>
   have hneg:¬(decide (b<0)=false∧decide (b>4611686018427387903)=false):=by
    rintro⟨p1,p2⟩
    have p1:=of_decide_eq_false p1
    have p2:=of_decide_eq_false p2
    rw[rngB_iff.2 ⟨by omega,by omega⟩] at hr
    cases hr
   rw[hv b (by simp[valsK,idxK,getN]) hr]
   iterate 4
    repeat' first|exact T0|(first|refine Yd fun _=>?_|refine Ye fun _=>?_|refine Yg ?_|refine Yk (ixP (by kernel_rfl) (by kernel_rfl) (by decide)) ?_);conv=>whnf|(refine Ya ?_ ?_<;>intro _<;>conv=>whnf)
    all_goals try (refine Or.inl ?_;conv=>whnf)
   all_goals try exact (hneg ⟨‹_›,‹_›⟩).elim
   all_goals refine⟨[],?_⟩
   repeat any_goals first|exact T0|exact rfl|exact Yr|refine Ya ?_ ?_
   all_goals conv=>whnf
  |true=>
   obtain⟨p1,p2⟩:=rngB_iff.1 hr
   have d5:decide (b<0)=false:=decide_eq_false (by omega)
   have d6:decide (b>4611686018427387903)=false:=decide_eq_false (by omega)
   iterate 5
    repeat' first|exact T0|(first|refine Yd fun _=>?_|refine Ye fun _=>?_|refine Yg ?_|refine Yk (ixP (by kernel_rfl) (by kernel_rfl) (by decide)) ?_);conv=>whnf|(refine Ya ?_ ?_<;>intro _<;>conv=>whnf)
    all_goals try (refine Or.inl ?_;conv=>whnf)
   all_goals try exact (bnl ‹_› d5).elim
   all_goals try exact (bnl ‹_› d6).elim
   refine⟨3,⟨by decide,by first|(rw[show 3=2+1 from rfl,List.take_add_one,List.all_append,hI];simp[valsK,idxK,getN,hr])⟩,by decide,?_⟩
   all_goals refine⟨[],?_⟩
   repeat any_goals first|exact T0|exact rfl|exact Yr|refine Ya ?_ ?_
   all_goals conv=>whnf
 ·conv=>whnf
  cases hr:rngB c with
  |false=>
   have hneg:¬(decide (c<0)=false∧decide (c>4611686018427387903)=false):=by
    rintro⟨p1,p2⟩
    have p1:=of_decide_eq_false p1
    have p2:=of_decide_eq_false p2
    rw[rngB_iff.2 ⟨by omega,by omega⟩] at hr
    cases hr
   rw[hv c (by simp[valsK,idxK,getN]) hr]
   iterate 4
    repeat' first|exact T0|(first|refine Yd fun _=>?_|refine Ye fun _=>?_|refine Yg ?_|refine Yk (ixP (by kernel_rfl) (by kernel_rfl) (by decide)) ?_);conv=>whnf|(refine Ya ?_ ?_<;>intro _<;>conv=>whnf)
    all_goals try (refine Or.inl ?_;conv=>whnf)
   all_goals try exact (hneg ⟨‹_›,‹_›⟩).elim
   all_goals refine⟨[],?_⟩
   repeat any_goals first|exact T0|exact rfl|exact Yr|refine Ya ?_ ?_
   all_goals conv=>whnf
  |true=>
   obtain⟨p1,p2⟩:=rngB_iff.1 hr
   have d5:decide (c<0)=false:=decide_eq_false (by omega)
   have d6:decide (c>4611686018427387903)=false:=decide_eq_false (by omega)
   iterate 5
    repeat' first|exact T0|(first|refine Yd fun _=>?_|refine Ye fun _=>?_|refine Yg ?_|refine Yk (ixP (by kernel_rfl) (by kernel_rfl) (by decide)) ?_);conv=>whnf|(refine Ya ?_ ?_<;>intro _<;>conv=>whnf)
    all_goals try (refine Or.inl ?_;conv=>whnf)
   all_goals try exact (bnl ‹_› d5).elim
   all_goals try exact (bnl ‹_› d6).elim
   refine⟨4,⟨by decide,by first|(rw[show 4=3+1 from rfl,List.take_add_one,List.all_append,hI];simp[valsK,idxK,getN,hr])⟩,by decide,?_⟩
   all_goals refine⟨[],?_⟩
   repeat any_goals first|exact T0|exact rfl|exact Yr|refine Ya ?_ ?_
   all_goals conv=>whnf
 ·conv=>whnf
  cases hr:rngB g with
  |false=>
   have hneg:¬(decide (g<0)=false∧decide (g>4611686018427387903)=false):=by
    rintro⟨p1,p2⟩
    have p1:=of_decide_eq_false p1
    have p2:=of_decide_eq_false p2
    rw[rngB_iff.2 ⟨by omega,by omega⟩] at hr
    cases hr
   rw[hv g (by simp[valsK,idxK,getN]) hr]
   iterate 4
    repeat' first|exact T0|(first|refine Yd fun _=>?_|refine Ye fun _=>?_|refine Yg ?_|refine Yk (ixP (by kernel_rfl) (by kernel_rfl) (by decide)) ?_);conv=>whnf|(refine Ya ?_ ?_<;>intro _<;>conv=>whnf)
    all_goals try (refine Or.inl ?_;conv=>whnf)
   all_goals try exact (hneg ⟨‹_›,‹_›⟩).elim
   all_goals refine⟨[],?_⟩
   repeat any_goals first|exact T0|exact rfl|exact Yr|refine Ya ?_ ?_
   all_goals conv=>whnf
  |true=>
   obtain⟨p1,p2⟩:=rngB_iff.1 hr
   have d5:decide (g<0)=false:=decide_eq_false (by omega)
   have d6:decide (g>4611686018427387903)=false:=decide_eq_false (by omega)
   iterate 5
    repeat' first|exact T0|(first|refine Yd fun _=>?_|refine Ye fun _=>?_|refine Yg ?_|refine Yk (ixP (by kernel_rfl) (by kernel_rfl) (by decide)) ?_);conv=>whnf|(refine Ya ?_ ?_<;>intro _<;>conv=>whnf)
    all_goals try (refine Or.inl ?_;conv=>whnf)
   all_goals try exact (bnl ‹_› d5).elim
   all_goals try exact (bnl ‹_› d6).elim
   refine⟨5,⟨by decide,by first|(rw[show 5=4+1 from rfl,List.take_add_one,List.all_append,hI];simp[valsK,idxK,getN,hr])⟩,by decide,?_⟩
   all_goals refine⟨[],?_⟩
   repeat any_goals first|exact T0|exact rfl|exact Yr|refine Ya ?_ ?_
   all_goals conv=>whnf
 ·conv=>whnf
  cases hr:rngB s with
  |false=>
   have hneg:¬(decide (s<0)=false∧decide (s>4611686018427387903)=false):=by
    rintro⟨p1,p2⟩
    have p1:=of_decide_eq_false p1
    have p2:=of_decide_eq_false p2
    rw[rngB_iff.2 ⟨by omega,by omega⟩] at hr
    cases hr
   rw[hv s (by simp[valsK,idxK,getN]) hr]
   iterate 4
    repeat' first|exact T0|(first|refine Yd fun _=>?_|refine Ye fun _=>?_|refine Yg ?_|refine Yk (ixP (by kernel_rfl) (by kernel_rfl) (by decide)) ?_);conv=>whnf|(refine Ya ?_ ?_<;>intro _<;>conv=>whnf)
    all_goals try (refine Or.inl ?_;conv=>whnf)
   all_goals try exact (hneg ⟨‹_›,‹_›⟩).elim
   all_goals refine⟨[],?_⟩
   repeat any_goals first|exact T0|exact rfl|exact Yr|refine Ya ?_ ?_
   all_goals conv=>whnf
  |true=>
   obtain⟨p1,p2⟩:=rngB_iff.1 hr
   have d5:decide (s<0)=false:=decide_eq_false (by omega)
   have d6:decide (s>4611686018427387903)=false:=decide_eq_false (by omega)
   iterate 5
    repeat' first|exact T0|(first|refine Yd fun _=>?_|refine Ye fun _=>?_|refine Yg ?_|refine Yk (ixP (by kernel_rfl) (by kernel_rfl) (by decide)) ?_);conv=>whnf|(refine Ya ?_ ?_<;>intro _<;>conv=>whnf)
    all_goals try (refine Or.inl ?_;conv=>whnf)
   all_goals try exact (bnl ‹_› d5).elim
   all_goals try exact (bnl ‹_› d6).elim
   refine⟨6,⟨by decide,by first|(rw[show 6=5+1 from rfl,List.take_add_one,List.all_append,hI];simp[valsK,idxK,getN,hr])⟩,by decide,?_⟩
   all_goals refine⟨[],?_⟩
   repeat any_goals first|exact T0|exact rfl|exact Yr|refine Ya ?_ ?_
   all_goals conv=>whnf
 have hall:(valsK ⟨4,a,e,b,c,g,s,n,t,w,ev,sr,d⟩ 4).all rngB=true:=hI
 conv=>whnf
 by_cases hx4:s<g
 ·have d7:decide (s<g)=true:=decide_eq_true hx4
  rw[hx (by show (!decide (s<g))=false;rw[d7];rfl)]
  iterate 9
   repeat' first|exact T0|(first|refine Yd fun _=>?_|refine Ye fun _=>?_|refine Yg ?_|refine Yk (sm.pu rfl rfl) ?_);conv=>whnf|(refine Ya ?_ ?_<;>intro _<;>conv=>whnf)
   all_goals try (refine Or.inl ?_;conv=>whnf)
  all_goals try exact (bnl d7 ‹_›).elim
  all_goals try (exfalso;simp only[outL] at *;first|omega|contradiction|(simp_all;done)|(simp_all;omega))
  all_goals refine⟨[],?_⟩
  repeat any_goals first|exact T0|exact rfl|exact Yr|refine Ya ?_ ?_
  all_goals conv=>whnf
 ·have d7:decide (s<g)=false:=decide_eq_false hx4
  rw[hs hho hall (by show (!decide (s<g))=true;rw[d7];rfl)]
  iterate 9
   repeat' first|exact T0|(first|refine Yd fun _=>?_|refine Ye fun _=>?_|refine Yg ?_|refine Yk (sm.pu rfl rfl) ?_);conv=>whnf|(refine Ya ?_ ?_<;>intro _<;>conv=>whnf)
   all_goals try (refine Or.inl ?_;conv=>whnf)
  all_goals try exact (bnl ‹_› d7).elim
  all_goals try (exfalso;simp only[outL] at *;first|omega|contradiction|(simp_all;done)|(simp_all;omega))
  all_goals refine⟨[],?_⟩
  repeat any_goals first|exact T0|exact rfl|exact Yr|refine Ya ?_ ?_
  all_goals conv=>whnf
set_option maxHeartbeats 8000000 in
theorem right_5 (f:Fr) (hk:f.k=5) (hf:FrOk f):Sat Tryz.prog 55 [.d (frD f)] [] (bA (rightK f 5)) []:=by
 have f1:=fields_f f 5 hk (by decide) (by decide)
 have f2:=fields_n 5 (by decide) (by decide) 0 0 0 0 0 0 0 0 0
 have hb:=bareF_ok hf (k:=5) (by decide)
 have hh:=headOk_iff (f:=f)
 have h0:=rightK_head (f:=f) (k:=5)
 have hv:=fun x=>rightK_val (f:=f) (k:=5) (x:=x)
 have hs:=rightK_same (f:=f) (k:=5)
 have hx:=rightK_extra (f:=f) (k:=5)
 have sm:=same_pre f (bareF f 5) hf hb (xs:=[iD (bareF f 5).k,iD (bareF f 5).a,iD (bareF f 5).e,iD (bareF f 5).b,iD (bareF f 5).c,iD (bareF f 5).g,iD (bareF f 5).s,iD (bareF f 5).n,iD (bareF f 5).t,iD (bareF f 5).w,.sl 4 (f.ev.map evR),tD [],nilV,nilV]) (by repeat' (first|exact trivial|refine And.intro ?_ ?_|exact .inl rfl|exact .inr ⟨rfl,_,rfl⟩))
 have b1:=batch_sat f.n f.ev hf.evn
 obtain⟨kk,a,e,b,c,g,s,n,t,w,ev,sr,d⟩:=f
 have hk:kk=5:=hk
 subst hk
 simp only at hh
 cases hho:headOk ⟨5,a,e,b,c,g,s,n,t,w,ev,sr,d⟩ with
 |false=>
  have hneg:¬(decide (a<0)=false∧decide (a≥64)=false∧decide (e<0)=false∧decide (e>1099511627776)=false):=by
   rintro⟨q1,q2,q3,q4⟩
   have q1:=of_decide_eq_false q1
   have q2:=of_decide_eq_false q2
   have q3:=of_decide_eq_false q3
   have q4:=of_decide_eq_false q4
   rw[hh.2 ⟨⟨by omega,by omega⟩,by omega,by omega⟩] at hho
   cases hho
  rw[h0 hho]
  refine Vq Tryz.func55 rfl rfl ?_
  conv=>whnf
  iterate 3
   repeat' first|exact T0|(first|refine Yd fun _=>?_|refine Ye fun _=>?_|refine Yg ?_|refine Yk (f1.at1 0 rfl rfl rfl) ?_|refine Yk (eqnP (by kernel_rfl)) ?_);conv=>whnf|(refine Ya ?_ ?_<;>intro _<;>conv=>whnf)
   all_goals try (refine Or.inl ?_;conv=>whnf)
  all_goals try exact (hneg ⟨‹_›,‹_›,‹_›,‹_›⟩).elim
  all_goals refine⟨[],?_⟩
  repeat any_goals first|exact T0|exact rfl|exact Yr|refine Ya ?_ ?_
  all_goals conv=>whnf
 |true=>
 obtain⟨⟨q1,q2⟩,q3,q4⟩:=hh.1 hho
 have d1:decide (a<0)=false:=decide_eq_false (by omega)
 have d2:decide (a≥64)=false:=decide_eq_false (by omega)
 have d3:decide (e<0)=false:=decide_eq_false (by omega)
 have d4:decide (e>1099511627776)=false:=decide_eq_false (by omega)
 refine Vq Tryz.func55 rfl rfl ?_
 conv=>whnf
 iterate 3
  repeat' first|exact T0|(first|refine Yd fun _=>?_|refine Ye fun _=>?_|refine Yg ?_|refine Yk (f1.at1 0 rfl rfl rfl) ?_|refine Yk (eqnP (by kernel_rfl)) ?_);conv=>whnf|(refine Ya ?_ ?_<;>intro _<;>conv=>whnf)
  all_goals try (refine Or.inl ?_;conv=>whnf)
 all_goals try exact (bnl ‹_› d1).elim
 all_goals try exact (bnl ‹_› d2).elim
 all_goals try exact (bnl ‹_› d3).elim
 all_goals try exact (bnl ‹_› d4).elim
 iterate 3
  repeat' first|exact T0|(first|refine Yd fun _=>?_|refine Ye fun _=>?_|refine Yg ?_|refine Yk (f2.at1 2 rfl rfl rfl) ?_|refine Yk (lenP (by kernel_rfl)) ?_);conv=>whnf|(refine Ya ?_ ?_<;>intro _<;>conv=>whnf)
  all_goals try (refine Or.inl ?_;conv=>whnf)
 refine⟨Nat,fun i=>i≤3∧((valsK ⟨5,a,e,b,c,g,s,n,t,w,ev,sr,d⟩ 5).take i).all rngB=true,fun i=>([(43,iA i),(42,iA 3),(41,.rel 1 (slP 3)),(5,.rel 3 (slP 3)),(4,.ptr 2 0),(1,.ptr 0 0)],[.cells (frA ⟨5,a,e,b,c,g,s,n,t,w,ev,sr,d⟩),.cells (ptrsK 5),.cells (frN 5 (bI ⟨5,a,e,b,c,g,s,n,t,w,ev,sr,d⟩ 5 i 1) (bI ⟨5,a,e,b,c,g,s,n,t,w,ev,sr,d⟩ 5 i 2) (bI ⟨5,a,e,b,c,g,s,n,t,w,ev,sr,d⟩ 5 i 3) (bI ⟨5,a,e,b,c,g,s,n,t,w,ev,sr,d⟩ 5 i 4) (bI ⟨5,a,e,b,c,g,s,n,t,w,ev,sr,d⟩ 5 i 5) (bI ⟨5,a,e,b,c,g,s,n,t,w,ev,sr,d⟩ 5 i 6) (bI ⟨5,a,e,b,c,g,s,n,t,w,ev,sr,d⟩ 5 i 7) (bI ⟨5,a,e,b,c,g,s,n,t,w,ev,sr,d⟩ 5 i 8) (bI ⟨5,a,e,b,c,g,s,n,t,w,ev,sr,d⟩ 5 i 9)),.cells ((idxK 5).map fun j=>.ptr 2 j)]),fun i=>3-i,⟨0,⟨Nat.zero_le _,rfl⟩,?_⟩,?_⟩
 ·all_goals refine⟨[],?_⟩
  repeat any_goals first|exact T0|exact rfl|exact Yr|refine Ya ?_ ?_
  all_goals conv=>whnf
 rintro i ⟨hi,hI⟩
 have hi:i≤3:=hi
 obtain rfl|rfl|rfl|rfl:i=0∨i=1∨i=2∨i=3:=by omega
 ·conv=>whnf
  cases hr:rngB a with
  |false=>
   have hneg:¬(decide (a<0)=false∧decide (a>4611686018427387903)=false):=by
    rintro⟨p1,p2⟩
    have p1:=of_decide_eq_false p1
    have p2:=of_decide_eq_false p2
    rw[rngB_iff.2 ⟨by omega,by omega⟩] at hr
    cases hr
   rw[hv a (by simp[valsK,idxK,getN]) hr]
   iterate 4
    repeat' first|exact T0|(first|refine Yd fun _=>?_|refine Ye fun _=>?_|refine Yg ?_|refine Yk (ixP (by kernel_rfl) (by kernel_rfl) (by decide)) ?_);conv=>whnf|(refine Ya ?_ ?_<;>intro _<;>conv=>whnf)
    all_goals try (refine Or.inl ?_;conv=>whnf)
   all_goals try exact (hneg ⟨‹_›,‹_›⟩).elim
   all_goals refine⟨[],?_⟩
   repeat any_goals first|exact T0|exact rfl|exact Yr|refine Ya ?_ ?_
   all_goals conv=>whnf
  |true=>
   obtain⟨p1,p2⟩:=rngB_iff.1 hr
   have d5:decide (a<0)=false:=decide_eq_false (by omega)
   have d6:decide (a>4611686018427387903)=false:=decide_eq_false (by omega)
   iterate 5
    repeat' first|exact T0|(first|refine Yd fun _=>?_|refine Ye fun _=>?_|refine Yg ?_|refine Yk (ixP (by kernel_rfl) (by kernel_rfl) (by decide)) ?_);conv=>whnf|(refine Ya ?_ ?_<;>intro _<;>conv=>whnf)
    all_goals try (refine Or.inl ?_;conv=>whnf)
   all_goals try exact (bnl ‹_› d5).elim
   all_goals try exact (bnl ‹_› d6).elim
   refine⟨1,⟨by decide,by first|(rw[show 1=0+1 from rfl,List.take_add_one,List.all_append,hI];simp[valsK,idxK,getN,hr])⟩,by decide,?_⟩
   all_goals refine⟨[],?_⟩
   repeat any_goals first|exact T0|exact rfl|exact Yr|refine Ya ?_ ?_
   all_goals conv=>whnf
 ·conv=>whnf
  cases hr:rngB e with
  |false=>
   have hneg:¬(decide (e<0)=false∧decide (e>4611686018427387903)=false):=by
    rintro⟨p1,p2⟩
    have p1:=of_decide_eq_false p1
    have p2:=of_decide_eq_false p2
    rw[rngB_iff.2 ⟨by omega,by omega⟩] at hr
    cases hr
   rw[hv e (by simp[valsK,idxK,getN]) hr]
   iterate 4
    repeat' first|exact T0|(first|refine Yd fun _=>?_|refine Ye fun _=>?_|refine Yg ?_|refine Yk (ixP (by kernel_rfl) (by kernel_rfl) (by decide)) ?_);conv=>whnf|(refine Ya ?_ ?_<;>intro _<;>conv=>whnf)
    all_goals try (refine Or.inl ?_;conv=>whnf)
   all_goals try exact (hneg ⟨‹_›,‹_›⟩).elim
   all_goals refine⟨[],?_⟩
   repeat any_goals first|exact T0|exact rfl|exact Yr|refine Ya ?_ ?_
   all_goals conv=>whnf
  |true=>
   obtain⟨p1,p2⟩:=rngB_iff.1 hr
   have d5:decide (e<0)=false:=decide_eq_false (by omega)
   have d6:decide (e>4611686018427387903)=false:=decide_eq_false (by omega)
   iterate 5
    repeat' first|exact T0|(first|refine Yd fun _=>?_|refine Ye fun _=>?_|refine Yg ?_|refine Yk (ixP (by kernel_rfl) (by kernel_rfl) (by decide)) ?_);conv=>whnf|(refine Ya ?_ ?_<;>intro _<;>conv=>whnf)
    all_goals try (refine Or.inl ?_;conv=>whnf)
   all_goals try exact (bnl ‹_› d5).elim
   all_goals try exact (bnl ‹_› d6).elim
   refine⟨2,⟨by decide,by first|(rw[show 2=1+1 from rfl,List.take_add_one,List.all_append,hI];simp[valsK,idxK,getN,hr])⟩,by decide,?_⟩
   all_goals refine⟨[],?_⟩
   repeat any_goals first|exact T0|exact rfl|exact Yr|refine Ya ?_ ?_
   all_goals conv=>whnf
 ·conv=>whnf
  cases hr:rngB n with
  |false=>
   have hneg:¬(decide (n<0)=false∧decide (n>4611686018427387903)=false):=by
    rintro⟨p1,p2⟩
    have p1:=of_decide_eq_false p1
    have p2:=of_decide_eq_false p2
    rw[rngB_iff.2 ⟨by omega,by omega⟩] at hr
    cases hr
   rw[hv n (by simp[valsK,idxK,getN]) hr]
   iterate 4
    repeat' first|exact T0|(first|refine Yd fun _=>?_|refine Ye fun _=>?_|refine Yg ?_|refine Yk (ixP (by kernel_rfl) (by kernel_rfl) (by decide)) ?_);conv=>whnf|(refine Ya ?_ ?_<;>intro _<;>conv=>whnf)
    all_goals try (refine Or.inl ?_;conv=>whnf)
   all_goals try exact (hneg ⟨‹_›,‹_›⟩).elim
   all_goals refine⟨[],?_⟩
   repeat any_goals first|exact T0|exact rfl|exact Yr|refine Ya ?_ ?_
   all_goals conv=>whnf
  |true=>
   obtain⟨p1,p2⟩:=rngB_iff.1 hr
   have d5:decide (n<0)=false:=decide_eq_false (by omega)
   have d6:decide (n>4611686018427387903)=false:=decide_eq_false (by omega)
   iterate 5
    repeat' first|exact T0|(first|refine Yd fun _=>?_|refine Ye fun _=>?_|refine Yg ?_|refine Yk (ixP (by kernel_rfl) (by kernel_rfl) (by decide)) ?_);conv=>whnf|(refine Ya ?_ ?_<;>intro _<;>conv=>whnf)
    all_goals try (refine Or.inl ?_;conv=>whnf)
   all_goals try exact (bnl ‹_› d5).elim
   all_goals try exact (bnl ‹_› d6).elim
   refine⟨3,⟨by decide,by first|(rw[show 3=2+1 from rfl,List.take_add_one,List.all_append,hI];simp[valsK,idxK,getN,hr])⟩,by decide,?_⟩
   all_goals refine⟨[],?_⟩
   repeat any_goals first|exact T0|exact rfl|exact Yr|refine Ya ?_ ?_
   all_goals conv=>whnf
 have hall:(valsK ⟨5,a,e,b,c,g,s,n,t,w,ev,sr,d⟩ 5).all rngB=true:=hI
 conv=>whnf
 cases hb5:batchB n ev with
 |false=>
  rw[hb5] at b1
  rw[hx hb5]
  iterate 9
   repeat' first|exact T0|(first|refine Yd fun _=>?_|refine Ye fun _=>?_|refine Yg ?_|refine Yk (b1.pu rfl rfl) ?_);conv=>whnf|(refine Ya ?_ ?_<;>intro _<;>conv=>whnf)
   all_goals try (refine Or.inl ?_;conv=>whnf)
  all_goals try (exfalso;simp only[outL] at *;first|omega|contradiction|(simp_all;done)|(simp_all;omega))
  all_goals refine⟨[],?_⟩
  repeat any_goals first|exact T0|exact rfl|exact Yr|refine Ya ?_ ?_
  all_goals conv=>whnf
 |true=>
  rw[hb5] at b1
  rw[hs hho hall hb5]
  iterate 9
   repeat' first|exact T0|(first|refine Yd fun _=>?_|refine Ye fun _=>?_|refine Yg ?_|refine Yk (sm.pu rfl rfl) ?_|refine Yk (b1.pu rfl rfl) ?_);conv=>whnf|(refine Ya ?_ ?_<;>intro _<;>conv=>whnf)
   all_goals try (refine Or.inl ?_;conv=>whnf)
  all_goals try (exfalso;simp only[outL] at *;first|omega|contradiction|(simp_all;done)|(simp_all;omega))
  all_goals refine⟨[],?_⟩
  repeat any_goals first|exact T0|exact rfl|exact Yr|refine Ya ?_ ?_
  all_goals conv=>whnf
set_option maxHeartbeats 8000000 in
theorem right_6 (f:Fr) (hk:f.k=6) (hf:FrOk f):Sat Tryz.prog 55 [.d (frD f)] [] (bA (rightK f 6)) []:=by
 have f1:=fields_f f 6 hk (by decide) (by decide)
 have f2:=fields_n 6 (by decide) (by decide) 0 0 0 0 0 0 0 0 0
 have hb:=bareF_ok hf (k:=6) (by decide)
 have hh:=headOk_iff (f:=f)
 have h0:=rightK_head (f:=f) (k:=6)
 have hv:=fun x=>rightK_val (f:=f) (k:=6) (x:=x)
 have hs:=rightK_same (f:=f) (k:=6)
 have hx:=rightK_extra (f:=f) (k:=6)
 have sm:=same_pre f (bareF f 6) hf hb (xs:=nilR (bareF f 6)) (by repeat' (first|exact trivial|refine And.intro ?_ ?_|exact .inl rfl|exact .inr ⟨rfl,_,rfl⟩))
 obtain⟨kk,a,e,b,c,g,s,n,t,w,ev,sr,d⟩:=f
 have hk:kk=6:=hk
 subst hk
 simp only at hh
 cases hho:headOk ⟨6,a,e,b,c,g,s,n,t,w,ev,sr,d⟩ with
 |false=>
  have hneg:¬(decide (a<0)=false∧decide (a≥64)=false∧decide (e<0)=false∧decide (e>1099511627776)=false):=by
   rintro⟨q1,q2,q3,q4⟩
   have q1:=of_decide_eq_false q1
   have q2:=of_decide_eq_false q2
   have q3:=of_decide_eq_false q3
   have q4:=of_decide_eq_false q4
   rw[hh.2 ⟨⟨by omega,by omega⟩,by omega,by omega⟩] at hho
   cases hho
  rw[h0 hho]
  refine Vq Tryz.func55 rfl rfl ?_
  conv=>whnf
  iterate 3
   repeat' first|exact T0|(first|refine Yd fun _=>?_|refine Ye fun _=>?_|refine Yg ?_|refine Yk (f1.at1 0 rfl rfl rfl) ?_|refine Yk (eqnP (by kernel_rfl)) ?_);conv=>whnf|(refine Ya ?_ ?_<;>intro _<;>conv=>whnf)
   all_goals try (refine Or.inl ?_;conv=>whnf)
  all_goals try exact (hneg ⟨‹_›,‹_›,‹_›,‹_›⟩).elim
  all_goals refine⟨[],?_⟩
  repeat any_goals first|exact T0|exact rfl|exact Yr|refine Ya ?_ ?_
  all_goals conv=>whnf
 |true=>
 obtain⟨⟨q1,q2⟩,q3,q4⟩:=hh.1 hho
 have d1:decide (a<0)=false:=decide_eq_false (by omega)
 have d2:decide (a≥64)=false:=decide_eq_false (by omega)
 have d3:decide (e<0)=false:=decide_eq_false (by omega)
 have d4:decide (e>1099511627776)=false:=decide_eq_false (by omega)
 refine Vq Tryz.func55 rfl rfl ?_
 conv=>whnf
 iterate 3
  repeat' first|exact T0|(first|refine Yd fun _=>?_|refine Ye fun _=>?_|refine Yg ?_|refine Yk (f1.at1 0 rfl rfl rfl) ?_|refine Yk (eqnP (by kernel_rfl)) ?_);conv=>whnf|(refine Ya ?_ ?_<;>intro _<;>conv=>whnf)
  all_goals try (refine Or.inl ?_;conv=>whnf)
 all_goals try exact (bnl ‹_› d1).elim
 all_goals try exact (bnl ‹_› d2).elim
 all_goals try exact (bnl ‹_› d3).elim
 all_goals try exact (bnl ‹_› d4).elim
 iterate 3
  repeat' first|exact T0|(first|refine Yd fun _=>?_|refine Ye fun _=>?_|refine Yg ?_|refine Yk (f2.at1 2 rfl rfl rfl) ?_|refine Yk (lenP (by kernel_rfl)) ?_);conv=>whnf|(refine Ya ?_ ?_<;>intro _<;>conv=>whnf)
  all_goals try (refine Or.inl ?_;conv=>whnf)
 refine⟨Nat,fun i=>i≤3∧((valsK ⟨6,a,e,b,c,g,s,n,t,w,ev,sr,d⟩ 6).take i).all rngB=true,fun i=>([(43,iA i),(42,iA 3),(41,.rel 1 (slP 3)),(5,.rel 3 (slP 3)),(4,.ptr 2 0),(1,.ptr 0 0)],[.cells (frA ⟨6,a,e,b,c,g,s,n,t,w,ev,sr,d⟩),.cells (ptrsK 6),.cells (frN 6 (bI ⟨6,a,e,b,c,g,s,n,t,w,ev,sr,d⟩ 6 i 1) (bI ⟨6,a,e,b,c,g,s,n,t,w,ev,sr,d⟩ 6 i 2) (bI ⟨6,a,e,b,c,g,s,n,t,w,ev,sr,d⟩ 6 i 3) (bI ⟨6,a,e,b,c,g,s,n,t,w,ev,sr,d⟩ 6 i 4) (bI ⟨6,a,e,b,c,g,s,n,t,w,ev,sr,d⟩ 6 i 5) (bI ⟨6,a,e,b,c,g,s,n,t,w,ev,sr,d⟩ 6 i 6) (bI ⟨6,a,e,b,c,g,s,n,t,w,ev,sr,d⟩ 6 i 7) (bI ⟨6,a,e,b,c,g,s,n,t,w,ev,sr,d⟩ 6 i 8) (bI ⟨6,a,e,b,c,g,s,n,t,w,ev,sr,d⟩ 6 i 9)),.cells ((idxK 6).map fun j=>.ptr 2 j)]),fun i=>3-i,⟨0,⟨Nat.zero_le _,rfl⟩,?_⟩,?_⟩
 ·all_goals refine⟨[],?_⟩
  repeat any_goals first|exact T0|exact rfl|exact Yr|refine Ya ?_ ?_
  all_goals conv=>whnf
 rintro i ⟨hi,hI⟩
 have hi:i≤3:=hi
 obtain rfl|rfl|rfl|rfl:i=0∨i=1∨i=2∨i=3:=by omega
 ·conv=>whnf
  cases hr:rngB a with
  |false=>
   have hneg:¬(decide (a<0)=false∧decide (a>4611686018427387903)=false):=by
    rintro⟨p1,p2⟩
    have p1:=of_decide_eq_false p1
    have p2:=of_decide_eq_false p2
    rw[rngB_iff.2 ⟨by omega,by omega⟩] at hr
    cases hr
   rw[hv a (by simp[valsK,idxK,getN]) hr]
   iterate 4
    repeat' first|exact T0|(first|refine Yd fun _=>?_|refine Ye fun _=>?_|refine Yg ?_|refine Yk (ixP (by kernel_rfl) (by kernel_rfl) (by decide)) ?_);conv=>whnf|(refine Ya ?_ ?_<;>intro _<;>conv=>whnf)
    all_goals try (refine Or.inl ?_;conv=>whnf)
   all_goals try exact (hneg ⟨‹_›,‹_›⟩).elim
   all_goals refine⟨[],?_⟩
   repeat any_goals first|exact T0|exact rfl|exact Yr|refine Ya ?_ ?_
   all_goals conv=>whnf
  |true=>
   obtain⟨p1,p2⟩:=rngB_iff.1 hr
   have d5:decide (a<0)=false:=decide_eq_false (by omega)
   have d6:decide (a>4611686018427387903)=false:=decide_eq_false (by omega)
   iterate 5
    repeat' first|exact T0|(first|refine Yd fun _=>?_|refine Ye fun _=>?_|refine Yg ?_|refine Yk (ixP (by kernel_rfl) (by kernel_rfl) (by decide)) ?_);conv=>whnf|(refine Ya ?_ ?_<;>intro _<;>conv=>whnf)
    all_goals try (refine Or.inl ?_;conv=>whnf)
   all_goals try exact (bnl ‹_› d5).elim
   all_goals try exact (bnl ‹_› d6).elim
   refine⟨1,⟨by decide,by first|(rw[show 1=0+1 from rfl,List.take_add_one,List.all_append,hI];simp[valsK,idxK,getN,hr])⟩,by decide,?_⟩
   all_goals refine⟨[],?_⟩
   repeat any_goals first|exact T0|exact rfl|exact Yr|refine Ya ?_ ?_
   all_goals conv=>whnf
 ·conv=>whnf
  cases hr:rngB e with
  |false=>
   have hneg:¬(decide (e<0)=false∧decide (e>4611686018427387903)=false):=by
    rintro⟨p1,p2⟩
    have p1:=of_decide_eq_false p1
    have p2:=of_decide_eq_false p2
    rw[rngB_iff.2 ⟨by omega,by omega⟩] at hr
    cases hr
   rw[hv e (by simp[valsK,idxK,getN]) hr]
   iterate 4
    repeat' first|exact T0|(first|refine Yd fun _=>?_|refine Ye fun _=>?_|refine Yg ?_|refine Yk (ixP (by kernel_rfl) (by kernel_rfl) (by decide)) ?_);conv=>whnf|(refine Ya ?_ ?_<;>intro _<;>conv=>whnf)
    all_goals try (refine Or.inl ?_;conv=>whnf)
   all_goals try exact (hneg ⟨‹_›,‹_›⟩).elim
   all_goals refine⟨[],?_⟩
   repeat any_goals first|exact T0|exact rfl|exact Yr|refine Ya ?_ ?_
   all_goals conv=>whnf
  |true=>
   obtain⟨p1,p2⟩:=rngB_iff.1 hr
   have d5:decide (e<0)=false:=decide_eq_false (by omega)
   have d6:decide (e>4611686018427387903)=false:=decide_eq_false (by omega)
   iterate 5
    repeat' first|exact T0|(first|refine Yd fun _=>?_|refine Ye fun _=>?_|refine Yg ?_|refine Yk (ixP (by kernel_rfl) (by kernel_rfl) (by decide)) ?_);conv=>whnf|(refine Ya ?_ ?_<;>intro _<;>conv=>whnf)
    all_goals try (refine Or.inl ?_;conv=>whnf)
   all_goals try exact (bnl ‹_› d5).elim
   all_goals try exact (bnl ‹_› d6).elim
   refine⟨2,⟨by decide,by first|(rw[show 2=1+1 from rfl,List.take_add_one,List.all_append,hI];simp[valsK,idxK,getN,hr])⟩,by decide,?_⟩
   all_goals refine⟨[],?_⟩
   repeat any_goals first|exact T0|exact rfl|exact Yr|refine Ya ?_ ?_
   all_goals conv=>whnf
 ·conv=>whnf
  cases hr:rngB n with
  |false=>
   have hneg:¬(decide (n<0)=false∧decide (n>4611686018427387903)=false):=by
    rintro⟨p1,p2⟩
    have p1:=of_decide_eq_false p1
    have p2:=of_decide_eq_false p2
    rw[rngB_iff.2 ⟨by omega,by omega⟩] at hr
    cases hr
   rw[hv n (by simp[valsK,idxK,getN]) hr]
   iterate 4
    repeat' first|exact T0|(first|refine Yd fun _=>?_|refine Ye fun _=>?_|refine Yg ?_|refine Yk (ixP (by kernel_rfl) (by kernel_rfl) (by decide)) ?_);conv=>whnf|(refine Ya ?_ ?_<;>intro _<;>conv=>whnf)
    all_goals try (refine Or.inl ?_;conv=>whnf)
   all_goals try exact (hneg ⟨‹_›,‹_›⟩).elim
   all_goals refine⟨[],?_⟩
   repeat any_goals first|exact T0|exact rfl|exact Yr|refine Ya ?_ ?_
   all_goals conv=>whnf
  |true=>
   obtain⟨p1,p2⟩:=rngB_iff.1 hr
   have d5:decide (n<0)=false:=decide_eq_false (by omega)
   have d6:decide (n>4611686018427387903)=false:=decide_eq_false (by omega)
   iterate 5
    repeat' first|exact T0|(first|refine Yd fun _=>?_|refine Ye fun _=>?_|refine Yg ?_|refine Yk (ixP (by kernel_rfl) (by kernel_rfl) (by decide)) ?_);conv=>whnf|(refine Ya ?_ ?_<;>intro _<;>conv=>whnf)
    all_goals try (refine Or.inl ?_;conv=>whnf)
   all_goals try exact (bnl ‹_› d5).elim
   all_goals try exact (bnl ‹_› d6).elim
   refine⟨3,⟨by decide,by first|(rw[show 3=2+1 from rfl,List.take_add_one,List.all_append,hI];simp[valsK,idxK,getN,hr])⟩,by decide,?_⟩
   all_goals refine⟨[],?_⟩
   repeat any_goals first|exact T0|exact rfl|exact Yr|refine Ya ?_ ?_
   all_goals conv=>whnf
 have hall:(valsK ⟨6,a,e,b,c,g,s,n,t,w,ev,sr,d⟩ 6).all rngB=true:=hI
 conv=>whnf
 by_cases hx4:n≤1099511627776
 ·have d7:decide (n>1099511627776)=false:=decide_eq_false (by omega)
  rw[hs hho hall (decide_eq_true hx4)]
  iterate 9
   repeat' first|exact T0|(first|refine Yd fun _=>?_|refine Ye fun _=>?_|refine Yg ?_|refine Yk (sm.pu rfl rfl) ?_);conv=>whnf|(refine Ya ?_ ?_<;>intro _<;>conv=>whnf)
   all_goals try (refine Or.inl ?_;conv=>whnf)
  all_goals try exact (bnl ‹_› d7).elim
  all_goals try (exfalso;simp only[outL] at *;first|omega|contradiction|(simp_all;done)|(simp_all;omega))
  all_goals refine⟨[],?_⟩
  repeat any_goals first|exact T0|exact rfl|exact Yr|refine Ya ?_ ?_
  all_goals conv=>whnf
 ·have d7:decide (n>1099511627776)=true:=decide_eq_true (by omega)
  rw[hx (decide_eq_false hx4)]
  iterate 9
   repeat' first|exact T0|(first|refine Yd fun _=>?_|refine Ye fun _=>?_|refine Yg ?_|refine Yk (sm.pu rfl rfl) ?_);conv=>whnf|(refine Ya ?_ ?_<;>intro _<;>conv=>whnf)
   all_goals try (refine Or.inl ?_;conv=>whnf)
  all_goals try exact (bnl d7 ‹_›).elim
  all_goals try (exfalso;simp only[outL] at *;first|omega|contradiction|(simp_all;done)|(simp_all;omega))
  all_goals refine⟨[],?_⟩
  repeat any_goals first|exact T0|exact rfl|exact Yr|refine Ya ?_ ?_
  all_goals conv=>whnf
set_option maxHeartbeats 8000000 in
theorem right_7 (f:Fr) (hk:f.k=7) (hf:FrOk f):Sat Tryz.prog 55 [.d (frD f)] [] (bA (rightK f 7)) []:=by
 have f1:=fields_f f 7 hk (by decide) (by decide)
 have f2:=fields_n 7 (by decide) (by decide) 0 0 0 0 0 0 0 0 0
 have hb:=bareF_ok hf (k:=7) (by decide)
 have hh:=headOk_iff (f:=f)
 have h0:=rightK_head (f:=f) (k:=7)
 have hv:=fun x=>rightK_val (f:=f) (k:=7) (x:=x)
 have hs:=rightK_same (f:=f) (k:=7)
 have hx:=rightK_extra (f:=f) (k:=7)
 have sm:=same_pre f (bareF f 7) hf hb (xs:=nilR (bareF f 7)) (by repeat' (first|exact trivial|refine And.intro ?_ ?_|exact .inl rfl|exact .inr ⟨rfl,_,rfl⟩))
 obtain⟨kk,a,e,b,c,g,s,n,t,w,ev,sr,d⟩:=f
 have hk:kk=7:=hk
 subst hk
 simp only at hh
 cases hho:headOk ⟨7,a,e,b,c,g,s,n,t,w,ev,sr,d⟩ with
 |false=>
  have hneg:¬(decide (a<0)=false∧decide (a≥64)=false∧decide (e<0)=false∧decide (e>1099511627776)=false):=by
   rintro⟨q1,q2,q3,q4⟩
   have q1:=of_decide_eq_false q1
   have q2:=of_decide_eq_false q2
   have q3:=of_decide_eq_false q3
   have q4:=of_decide_eq_false q4
   rw[hh.2 ⟨⟨by omega,by omega⟩,by omega,by omega⟩] at hho
   cases hho
  rw[h0 hho]
  refine Vq Tryz.func55 rfl rfl ?_
  conv=>whnf
  iterate 3
   repeat' first|exact T0|(first|refine Yd fun _=>?_|refine Ye fun _=>?_|refine Yg ?_|refine Yk (f1.at1 0 rfl rfl rfl) ?_|refine Yk (eqnP (by kernel_rfl)) ?_);conv=>whnf|(refine Ya ?_ ?_<;>intro _<;>conv=>whnf)
   all_goals try (refine Or.inl ?_;conv=>whnf)
  all_goals try exact (hneg ⟨‹_›,‹_›,‹_›,‹_›⟩).elim
  all_goals refine⟨[],?_⟩
  repeat any_goals first|exact T0|exact rfl|exact Yr|refine Ya ?_ ?_
  all_goals conv=>whnf
 |true=>
 obtain⟨⟨q1,q2⟩,q3,q4⟩:=hh.1 hho
 have d1:decide (a<0)=false:=decide_eq_false (by omega)
 have d2:decide (a≥64)=false:=decide_eq_false (by omega)
 have d3:decide (e<0)=false:=decide_eq_false (by omega)
 have d4:decide (e>1099511627776)=false:=decide_eq_false (by omega)
 refine Vq Tryz.func55 rfl rfl ?_
 conv=>whnf
 iterate 3
  repeat' first|exact T0|(first|refine Yd fun _=>?_|refine Ye fun _=>?_|refine Yg ?_|refine Yk (f1.at1 0 rfl rfl rfl) ?_|refine Yk (eqnP (by kernel_rfl)) ?_);conv=>whnf|(refine Ya ?_ ?_<;>intro _<;>conv=>whnf)
  all_goals try (refine Or.inl ?_;conv=>whnf)
 all_goals try exact (bnl ‹_› d1).elim
 all_goals try exact (bnl ‹_› d2).elim
 all_goals try exact (bnl ‹_› d3).elim
 all_goals try exact (bnl ‹_› d4).elim
 iterate 3
  repeat' first|exact T0|(first|refine Yd fun _=>?_|refine Ye fun _=>?_|refine Yg ?_|refine Yk (f2.at1 2 rfl rfl rfl) ?_|refine Yk (lenP (by kernel_rfl)) ?_);conv=>whnf|(refine Ya ?_ ?_<;>intro _<;>conv=>whnf)
  all_goals try (refine Or.inl ?_;conv=>whnf)
 refine⟨Nat,fun i=>i≤4∧((valsK ⟨7,a,e,b,c,g,s,n,t,w,ev,sr,d⟩ 7).take i).all rngB=true,fun i=>([(43,iA i),(42,iA 4),(41,.rel 1 (slP 4)),(5,.rel 3 (slP 4)),(4,.ptr 2 0),(1,.ptr 0 0)],[.cells (frA ⟨7,a,e,b,c,g,s,n,t,w,ev,sr,d⟩),.cells (ptrsK 7),.cells (frN 7 (bI ⟨7,a,e,b,c,g,s,n,t,w,ev,sr,d⟩ 7 i 1) (bI ⟨7,a,e,b,c,g,s,n,t,w,ev,sr,d⟩ 7 i 2) (bI ⟨7,a,e,b,c,g,s,n,t,w,ev,sr,d⟩ 7 i 3) (bI ⟨7,a,e,b,c,g,s,n,t,w,ev,sr,d⟩ 7 i 4) (bI ⟨7,a,e,b,c,g,s,n,t,w,ev,sr,d⟩ 7 i 5) (bI ⟨7,a,e,b,c,g,s,n,t,w,ev,sr,d⟩ 7 i 6) (bI ⟨7,a,e,b,c,g,s,n,t,w,ev,sr,d⟩ 7 i 7) (bI ⟨7,a,e,b,c,g,s,n,t,w,ev,sr,d⟩ 7 i 8) (bI ⟨7,a,e,b,c,g,s,n,t,w,ev,sr,d⟩ 7 i 9)),.cells ((idxK 7).map fun j=>.ptr 2 j)]),fun i=>4-i,⟨0,⟨Nat.zero_le _,rfl⟩,?_⟩,?_⟩
 ·all_goals refine⟨[],?_⟩
  repeat any_goals first|exact T0|exact rfl|exact Yr|refine Ya ?_ ?_
  all_goals conv=>whnf
 rintro i ⟨hi,hI⟩
 have hi:i≤4:=hi
 obtain rfl|rfl|rfl|rfl|rfl:i=0∨i=1∨i=2∨i=3∨i=4:=by omega
 ·conv=>whnf
  cases hr:rngB a with
  |false=>
   have hneg:¬(decide (a<0)=false∧decide (a>4611686018427387903)=false):=by
    rintro⟨p1,p2⟩
    have p1:=of_decide_eq_false p1
    have p2:=of_decide_eq_false p2
    rw[rngB_iff.2 ⟨by omega,by omega⟩] at hr
    cases hr
   rw[hv a (by simp[valsK,idxK,getN]) hr]
   iterate 4
    repeat' first|exact T0|(first|refine Yd fun _=>?_|refine Ye fun _=>?_|refine Yg ?_|refine Yk (ixP (by kernel_rfl) (by kernel_rfl) (by decide)) ?_);conv=>whnf|(refine Ya ?_ ?_<;>intro _<;>conv=>whnf)
    all_goals try (refine Or.inl ?_;conv=>whnf)
   all_goals try exact (hneg ⟨‹_›,‹_›⟩).elim
   all_goals refine⟨[],?_⟩
   repeat any_goals first|exact T0|exact rfl|exact Yr|refine Ya ?_ ?_
   all_goals conv=>whnf
  |true=>
   obtain⟨p1,p2⟩:=rngB_iff.1 hr
   have d5:decide (a<0)=false:=decide_eq_false (by omega)
   have d6:decide (a>4611686018427387903)=false:=decide_eq_false (by omega)
   iterate 5
    repeat' first|exact T0|(first|refine Yd fun _=>?_|refine Ye fun _=>?_|refine Yg ?_|refine Yk (ixP (by kernel_rfl) (by kernel_rfl) (by decide)) ?_);conv=>whnf|(refine Ya ?_ ?_<;>intro _<;>conv=>whnf)
    all_goals try (refine Or.inl ?_;conv=>whnf)
   all_goals try exact (bnl ‹_› d5).elim
   all_goals try exact (bnl ‹_› d6).elim
   refine⟨1,⟨by decide,by first|(rw[show 1=0+1 from rfl,List.take_add_one,List.all_append,hI];simp[valsK,idxK,getN,hr])⟩,by decide,?_⟩
   all_goals refine⟨[],?_⟩
   repeat any_goals first|exact T0|exact rfl|exact Yr|refine Ya ?_ ?_
   all_goals conv=>whnf
 ·conv=>whnf
  cases hr:rngB e with
  |false=>
   have hneg:¬(decide (e<0)=false∧decide (e>4611686018427387903)=false):=by
    rintro⟨p1,p2⟩
    have p1:=of_decide_eq_false p1
    have p2:=of_decide_eq_false p2
    rw[rngB_iff.2 ⟨by omega,by omega⟩] at hr
    cases hr
   rw[hv e (by simp[valsK,idxK,getN]) hr]
   iterate 4
    repeat' first|exact T0|(first|refine Yd fun _=>?_|refine Ye fun _=>?_|refine Yg ?_|refine Yk (ixP (by kernel_rfl) (by kernel_rfl) (by decide)) ?_);conv=>whnf|(refine Ya ?_ ?_<;>intro _<;>conv=>whnf)
    all_goals try (refine Or.inl ?_;conv=>whnf)
   all_goals try exact (hneg ⟨‹_›,‹_›⟩).elim
   all_goals refine⟨[],?_⟩
   repeat any_goals first|exact T0|exact rfl|exact Yr|refine Ya ?_ ?_
   all_goals conv=>whnf
  |true=>
   obtain⟨p1,p2⟩:=rngB_iff.1 hr
   have d5:decide (e<0)=false:=decide_eq_false (by omega)
   have d6:decide (e>4611686018427387903)=false:=decide_eq_false (by omega)
   iterate 5
    repeat' first|exact T0|(first|refine Yd fun _=>?_|refine Ye fun _=>?_|refine Yg ?_|refine Yk (ixP (by kernel_rfl) (by kernel_rfl) (by decide)) ?_);conv=>whnf|(refine Ya ?_ ?_<;>intro _<;>conv=>whnf)
    all_goals try (refine Or.inl ?_;conv=>whnf)
   all_goals try exact (bnl ‹_› d5).elim
   all_goals try exact (bnl ‹_› d6).elim
   refine⟨2,⟨by decide,by first|(rw[show 2=1+1 from rfl,List.take_add_one,List.all_append,hI];simp[valsK,idxK,getN,hr])⟩,by decide,?_⟩
   all_goals refine⟨[],?_⟩
   repeat any_goals first|exact T0|exact rfl|exact Yr|refine Ya ?_ ?_
   all_goals conv=>whnf
 ·conv=>whnf
  cases hr:rngB n with
  |false=>
   have hneg:¬(decide (n<0)=false∧decide (n>4611686018427387903)=false):=by
    rintro⟨p1,p2⟩
    have p1:=of_decide_eq_false p1
    have p2:=of_decide_eq_false p2
    rw[rngB_iff.2 ⟨by omega,by omega⟩] at hr
    cases hr
   rw[hv n (by simp[valsK,idxK,getN]) hr]
   iterate 4
    repeat' first|exact T0|(first|refine Yd fun _=>?_|refine Ye fun _=>?_|refine Yg ?_|refine Yk (ixP (by kernel_rfl) (by kernel_rfl) (by decide)) ?_);conv=>whnf|(refine Ya ?_ ?_<;>intro _<;>conv=>whnf)
    all_goals try (refine Or.inl ?_;conv=>whnf)
   all_goals try exact (hneg ⟨‹_›,‹_›⟩).elim
   all_goals refine⟨[],?_⟩
   repeat any_goals first|exact T0|exact rfl|exact Yr|refine Ya ?_ ?_
   all_goals conv=>whnf
  |true=>
   obtain⟨p1,p2⟩:=rngB_iff.1 hr
   have d5:decide (n<0)=false:=decide_eq_false (by omega)
   have d6:decide (n>4611686018427387903)=false:=decide_eq_false (by omega)
   iterate 5
    repeat' first|exact T0|(first|refine Yd fun _=>?_|refine Ye fun _=>?_|refine Yg ?_|refine Yk (ixP (by kernel_rfl) (by kernel_rfl) (by decide)) ?_);conv=>whnf|(refine Ya ?_ ?_<;>intro _<;>conv=>whnf)
    all_goals try (refine Or.inl ?_;conv=>whnf)
   all_goals try exact (bnl ‹_› d5).elim
   all_goals try exact (bnl ‹_› d6).elim
   refine⟨3,⟨by decide,by first|(rw[show 3=2+1 from rfl,List.take_add_one,List.all_append,hI];simp[valsK,idxK,getN,hr])⟩,by decide,?_⟩
   all_goals refine⟨[],?_⟩
   repeat any_goals first|exact T0|exact rfl|exact Yr|refine Ya ?_ ?_
   all_goals conv=>whnf
 ·conv=>whnf
  cases hr:rngB t with
  |false=>
   have hneg:¬(decide (t<0)=false∧decide (t>4611686018427387903)=false):=by
    rintro⟨p1,p2⟩
    have p1:=of_decide_eq_false p1
    have p2:=of_decide_eq_false p2
    rw[rngB_iff.2 ⟨by omega,by omega⟩] at hr
    cases hr
   rw[hv t (by simp[valsK,idxK,getN]) hr]
   iterate 4
    repeat' first|exact T0|(first|refine Yd fun _=>?_|refine Ye fun _=>?_|refine Yg ?_|refine Yk (ixP (by kernel_rfl) (by kernel_rfl) (by decide)) ?_);conv=>whnf|(refine Ya ?_ ?_<;>intro _<;>conv=>whnf)
    all_goals try (refine Or.inl ?_;conv=>whnf)
   all_goals try exact (hneg ⟨‹_›,‹_›⟩).elim
   all_goals refine⟨[],?_⟩
   repeat any_goals first|exact T0|exact rfl|exact Yr|refine Ya ?_ ?_
   all_goals conv=>whnf
  |true=>
   obtain⟨p1,p2⟩:=rngB_iff.1 hr
   have d5:decide (t<0)=false:=decide_eq_false (by omega)
   have d6:decide (t>4611686018427387903)=false:=decide_eq_false (by omega)
   iterate 5
    repeat' first|exact T0|(first|refine Yd fun _=>?_|refine Ye fun _=>?_|refine Yg ?_|refine Yk (ixP (by kernel_rfl) (by kernel_rfl) (by decide)) ?_);conv=>whnf|(refine Ya ?_ ?_<;>intro _<;>conv=>whnf)
    all_goals try (refine Or.inl ?_;conv=>whnf)
   all_goals try exact (bnl ‹_› d5).elim
   all_goals try exact (bnl ‹_› d6).elim
   refine⟨4,⟨by decide,by first|(rw[show 4=3+1 from rfl,List.take_add_one,List.all_append,hI];simp[valsK,idxK,getN,hr])⟩,by decide,?_⟩
   all_goals refine⟨[],?_⟩
   repeat any_goals first|exact T0|exact rfl|exact Yr|refine Ya ?_ ?_
   all_goals conv=>whnf
 have hall:(valsK ⟨7,a,e,b,c,g,s,n,t,w,ev,sr,d⟩ 7).all rngB=true:=hI
 conv=>whnf
 by_cases hx4:n≤1099511627776
 ·have d7:decide (n>1099511627776)=false:=decide_eq_false (by omega)
  rw[hs hho hall (decide_eq_true hx4)]
  iterate 9
   repeat' first|exact T0|(first|refine Yd fun _=>?_|refine Ye fun _=>?_|refine Yg ?_|refine Yk (sm.pu rfl rfl) ?_);conv=>whnf|(refine Ya ?_ ?_<;>intro _<;>conv=>whnf)
   all_goals try (refine Or.inl ?_;conv=>whnf)
  all_goals try exact (bnl ‹_› d7).elim
  all_goals try (exfalso;simp only[outL] at *;first|omega|contradiction|(simp_all;done)|(simp_all;omega))
  all_goals refine⟨[],?_⟩
  repeat any_goals first|exact T0|exact rfl|exact Yr|refine Ya ?_ ?_
  all_goals conv=>whnf
 ·have d7:decide (n>1099511627776)=true:=decide_eq_true (by omega)
  rw[hx (decide_eq_false hx4)]
  iterate 9
   repeat' first|exact T0|(first|refine Yd fun _=>?_|refine Ye fun _=>?_|refine Yg ?_|refine Yk (sm.pu rfl rfl) ?_);conv=>whnf|(refine Ya ?_ ?_<;>intro _<;>conv=>whnf)
   all_goals try (refine Or.inl ?_;conv=>whnf)
  all_goals try exact (bnl d7 ‹_›).elim
  all_goals try (exfalso;simp only[outL] at *;first|omega|contradiction|(simp_all;done)|(simp_all;omega))
  all_goals refine⟨[],?_⟩
  repeat any_goals first|exact T0|exact rfl|exact Yr|refine Ya ?_ ?_
  all_goals conv=>whnf
set_option maxHeartbeats 8000000 in
theorem right_8 (f:Fr) (hk:f.k=8) (hf:FrOk f):Sat Tryz.prog 55 [.d (frD f)] [] (bA (rightK f 8)) []:=by
 have f1:=fields_f f 8 hk (by decide) (by decide)
 have f2:=fields_n 8 (by decide) (by decide) 0 0 0 0 0 0 0 0 0
 have hb:=bareF_ok hf (k:=8) (by decide)
 have hh:=headOk_iff (f:=f)
 have h0:=rightK_head (f:=f) (k:=8)
 have hv:=fun x=>rightK_val (f:=f) (k:=8) (x:=x)
 have hs:=rightK_same (f:=f) (k:=8)
 have hx:=rightK_extra (f:=f) (k:=8)
 have sm:=same_pre f (bareF f 8) hf hb (xs:=[iD (bareF f 8).k,iD (bareF f 8).a,iD (bareF f 8).e,iD (bareF f 8).b,iD (bareF f 8).c,iD (bareF f 8).g,iD (bareF f 8).s,iD (bareF f 8).n,iD (bareF f 8).t,iD (bareF f 8).w,nilV,tD f.sr.1,.sl 2 (f.sr.2.map labR),bsD f.d]) (by repeat' (first|exact trivial|refine And.intro ?_ ?_|exact .inl rfl|exact .inr ⟨rfl,_,rfl⟩))
 have r1:=sRight_sat f.sr
 have hdl:(f.d.map bR).length=f.d.length:=List.length_map _
 obtain⟨kk,a,e,b,c,g,s,n,t,w,ev,sr,d⟩:=f
 have hk:kk=8:=hk
 subst hk
 simp only at hh
 cases hho:headOk ⟨8,a,e,b,c,g,s,n,t,w,ev,sr,d⟩ with
 |false=>
  have hneg:¬(decide (a<0)=false∧decide (a≥64)=false∧decide (e<0)=false∧decide (e>1099511627776)=false):=by
   rintro⟨q1,q2,q3,q4⟩
   have q1:=of_decide_eq_false q1
   have q2:=of_decide_eq_false q2
   have q3:=of_decide_eq_false q3
   have q4:=of_decide_eq_false q4
   rw[hh.2 ⟨⟨by omega,by omega⟩,by omega,by omega⟩] at hho
   cases hho
  rw[h0 hho]
  refine Vq Tryz.func55 rfl rfl ?_
  conv=>whnf
  iterate 3
   repeat' first|exact T0|(first|refine Yd fun _=>?_|refine Ye fun _=>?_|refine Yg ?_|refine Yk (f1.at1 0 rfl rfl rfl) ?_|refine Yk (eqnP (by kernel_rfl)) ?_);conv=>whnf|(refine Ya ?_ ?_<;>intro _<;>conv=>whnf)
   all_goals try (refine Or.inl ?_;conv=>whnf)
  all_goals try exact (hneg ⟨‹_›,‹_›,‹_›,‹_›⟩).elim
  all_goals refine⟨[],?_⟩
  repeat any_goals first|exact T0|exact rfl|exact Yr|refine Ya ?_ ?_
  all_goals conv=>whnf
 |true=>
 obtain⟨⟨q1,q2⟩,q3,q4⟩:=hh.1 hho
 have d1:decide (a<0)=false:=decide_eq_false (by omega)
 have d2:decide (a≥64)=false:=decide_eq_false (by omega)
 have d3:decide (e<0)=false:=decide_eq_false (by omega)
 have d4:decide (e>1099511627776)=false:=decide_eq_false (by omega)
 refine Vq Tryz.func55 rfl rfl ?_
 conv=>whnf
 iterate 3
  repeat' first|exact T0|(first|refine Yd fun _=>?_|refine Ye fun _=>?_|refine Yg ?_|refine Yk (f1.at1 0 rfl rfl rfl) ?_|refine Yk (eqnP (by kernel_rfl)) ?_);conv=>whnf|(refine Ya ?_ ?_<;>intro _<;>conv=>whnf)
  all_goals try (refine Or.inl ?_;conv=>whnf)
 all_goals try exact (bnl ‹_› d1).elim
 all_goals try exact (bnl ‹_› d2).elim
 all_goals try exact (bnl ‹_› d3).elim
 all_goals try exact (bnl ‹_› d4).elim
 iterate 3
  repeat' first|exact T0|(first|refine Yd fun _=>?_|refine Ye fun _=>?_|refine Yg ?_|refine Yk (f2.at1 2 rfl rfl rfl) ?_|refine Yk (lenP (by kernel_rfl)) ?_);conv=>whnf|(refine Ya ?_ ?_<;>intro _<;>conv=>whnf)
  all_goals try (refine Or.inl ?_;conv=>whnf)
 refine⟨Nat,fun i=>i≤1∧((valsK ⟨8,a,e,b,c,g,s,n,t,w,ev,sr,d⟩ 8).take i).all rngB=true,fun i=>([(43,iA i),(42,iA 1),(41,.rel 1 (slP 1)),(5,.rel 3 (slP 1)),(4,.ptr 2 0),(1,.ptr 0 0)],[.cells (frA ⟨8,a,e,b,c,g,s,n,t,w,ev,sr,d⟩),.cells (ptrsK 8),.cells (frN 8 (bI ⟨8,a,e,b,c,g,s,n,t,w,ev,sr,d⟩ 8 i 1) (bI ⟨8,a,e,b,c,g,s,n,t,w,ev,sr,d⟩ 8 i 2) (bI ⟨8,a,e,b,c,g,s,n,t,w,ev,sr,d⟩ 8 i 3) (bI ⟨8,a,e,b,c,g,s,n,t,w,ev,sr,d⟩ 8 i 4) (bI ⟨8,a,e,b,c,g,s,n,t,w,ev,sr,d⟩ 8 i 5) (bI ⟨8,a,e,b,c,g,s,n,t,w,ev,sr,d⟩ 8 i 6) (bI ⟨8,a,e,b,c,g,s,n,t,w,ev,sr,d⟩ 8 i 7) (bI ⟨8,a,e,b,c,g,s,n,t,w,ev,sr,d⟩ 8 i 8) (bI ⟨8,a,e,b,c,g,s,n,t,w,ev,sr,d⟩ 8 i 9)),.cells ((idxK 8).map fun j=>.ptr 2 j)]),fun i=>1-i,⟨0,⟨Nat.zero_le _,rfl⟩,?_⟩,?_⟩
 ·all_goals refine⟨[],?_⟩
  repeat any_goals first|exact T0|exact rfl|exact Yr|refine Ya ?_ ?_
  all_goals conv=>whnf
 rintro i ⟨hi,hI⟩
 have hi:i≤1:=hi
 obtain rfl|rfl:i=0∨i=1:=by omega
 ·conv=>whnf
  cases hr:rngB w with
  |false=>
   have hneg:¬(decide (w<0)=false∧decide (w>4611686018427387903)=false):=by
    rintro⟨p1,p2⟩
    have p1:=of_decide_eq_false p1
    have p2:=of_decide_eq_false p2
    rw[rngB_iff.2 ⟨by omega,by omega⟩] at hr
    cases hr
   rw[hv w (by simp[valsK,idxK,getN]) hr]
   iterate 4
    repeat' first|exact T0|(first|refine Yd fun _=>?_|refine Ye fun _=>?_|refine Yg ?_|refine Yk (ixP (by kernel_rfl) (by kernel_rfl) (by decide)) ?_);conv=>whnf|(refine Ya ?_ ?_<;>intro _<;>conv=>whnf)
    all_goals try (refine Or.inl ?_;conv=>whnf)
   all_goals try exact (hneg ⟨‹_›,‹_›⟩).elim
   all_goals refine⟨[],?_⟩
   repeat any_goals first|exact T0|exact rfl|exact Yr|refine Ya ?_ ?_
   all_goals conv=>whnf
  |true=>
   obtain⟨p1,p2⟩:=rngB_iff.1 hr
   have d5:decide (w<0)=false:=decide_eq_false (by omega)
   have d6:decide (w>4611686018427387903)=false:=decide_eq_false (by omega)
   iterate 5
    repeat' first|exact T0|(first|refine Yd fun _=>?_|refine Ye fun _=>?_|refine Yg ?_|refine Yk (ixP (by kernel_rfl) (by kernel_rfl) (by decide)) ?_);conv=>whnf|(refine Ya ?_ ?_<;>intro _<;>conv=>whnf)
    all_goals try (refine Or.inl ?_;conv=>whnf)
   all_goals try exact (bnl ‹_› d5).elim
   all_goals try exact (bnl ‹_› d6).elim
   refine⟨1,⟨by decide,by first|(rw[show 1=0+1 from rfl,List.take_add_one,List.all_append,hI];simp[valsK,idxK,getN,hr])⟩,by decide,?_⟩
   all_goals refine⟨[],?_⟩
   repeat any_goals first|exact T0|exact rfl|exact Yr|refine Ya ?_ ?_
   all_goals conv=>whnf
 have hall:(valsK ⟨8,a,e,b,c,g,s,n,t,w,ev,sr,d⟩ 8).all rngB=true:=hI
 conv=>whnf
 cases hr8:rightB sr with
 |false=>
  rw[hr8] at r1
  rw[hx (by show (rightB sr && _)=false;rw[hr8];rfl)]
  iterate 9
   repeat' first|exact T0|(first|refine Yd fun _=>?_|refine Ye fun _=>?_|refine Yg ?_|refine Yk (r1.pu rfl rfl) ?_);conv=>whnf|(refine Ya ?_ ?_<;>intro _<;>conv=>whnf)
   all_goals try (refine Or.inl ?_;conv=>whnf)
  all_goals try (exfalso;simp only[outL] at *;first|omega|contradiction|(simp_all;done)|(simp_all;omega))
  all_goals refine⟨[],?_⟩
  repeat any_goals first|exact T0|exact rfl|exact Yr|refine Ya ?_ ?_
  all_goals conv=>whnf
 |true=>
 rw[hr8] at r1
 by_cases hx4:d.length≤4096
 ·have d7:decide (((d.map bR).length:Int)>4096)=false:=decide_eq_false (by rw[List.length_map];omega)
  rw[hs hho hall (by show (rightB sr && _)=true;rw[hr8,decide_eq_true hx4];rfl)]
  iterate 9
   repeat' first|exact T0|(first|refine Yd fun _=>?_|refine Ye fun _=>?_|refine Yg ?_|refine Yk (sm.pu rfl rfl) ?_|refine Yk (r1.pu rfl rfl) ?_);conv=>whnf|(refine Ya ?_ ?_<;>intro _<;>conv=>whnf)
   all_goals try (refine Or.inl ?_;conv=>whnf)
  all_goals try exact (bnl ‹_› d7).elim
  all_goals try (exfalso;simp only[outL] at *;first|omega|contradiction|(simp_all;done)|(simp_all;omega))
  all_goals refine⟨[],?_⟩
  repeat any_goals first|exact T0|exact rfl|exact Yr|refine Ya ?_ ?_
  all_goals conv=>whnf
 ·have d7:decide (((d.map bR).length:Int)>4096)=true:=decide_eq_true (by rw[List.length_map];omega)
  rw[hx (by show (rightB sr && _)=false;rw[hr8,decide_eq_false hx4];rfl)]
  iterate 9
   repeat' first|exact T0|(first|refine Yd fun _=>?_|refine Ye fun _=>?_|refine Yg ?_|refine Yk (r1.pu rfl rfl) ?_);conv=>whnf|(refine Ya ?_ ?_<;>intro _<;>conv=>whnf)
   all_goals try (refine Or.inl ?_;conv=>whnf)
  all_goals try exact (bnl d7 ‹_›).elim
  all_goals try (exfalso;simp only[outL] at *;first|omega|contradiction|(simp_all;done)|(simp_all;omega))
  all_goals refine⟨[],?_⟩
  repeat any_goals first|exact T0|exact rfl|exact Yr|refine Ya ?_ ?_
  all_goals conv=>whnf
end Go.Proofs.YtfbfpnfgabamfaaGreat
namespace Go.Proofs.YtfbfpnfgabamfaaGreat
set_option linter.unusedSimpArgs false
set_option linter.unusedVariables false
def bitN (r:Nat):Nat:=(r / 2) ^^^ (if r % 2=1 then 3988292384 else 0)
def bitsN:Nat→Nat→Nat
 |0,r=>r
 |k+1,r=>bitN (bitsN k r)
def byteN (r:Nat) (x:UInt8):Nat:=bitsN 8 (r ^^^ x.toNat)
def regN (r:Nat) (l:List UInt8):Nat:=l.foldl byteN r
def sumN (l:List UInt8):Nat:=4294967295-regN 4294967295 l
theorem bitN_lt {r:Nat} (h:r<4294967296):bitN r<4294967296:=by
 unfold bitN
 exact Nat.xor_lt_two_pow (n:=32) (by omega) (by split<;>omega)
theorem bitsN_lt {r:Nat} (h:r<4294967296):∀ k,bitsN k r<4294967296
 |0=>h
 |k+1=>bitN_lt (bitsN_lt h k)
theorem xor_byte_lt {r:Nat} (h:r<4294967296) (x:UInt8):r ^^^ x.toNat<4294967296:=
 Nat.xor_lt_two_pow (n:=32) (by omega) (by have:=x.toNat_lt;omega)
theorem byteN_lt {r:Nat} (h:r<4294967296) (x:UInt8):byteN r x<4294967296:=bitsN_lt (xor_byte_lt h x) 8
theorem regN_lt:∀ (l:List UInt8) {r:Nat},r<4294967296→regN r l<4294967296
 |[],_,h=>h
 |x::l,_,h=>regN_lt l (byteN_lt h x)
theorem sumN_lt (l:List UInt8):sumN l<4294967296:=by unfold sumN;omega
theorem regN_append (r:Nat) (a b:List UInt8):regN r (a++b)=regN (regN r a) b:=List.foldl_append
theorem regN_snoc (r:Nat) (l:List UInt8) (x:UInt8):regN r (l++[x])=byteN (regN r l) x:=by rw[regN_append];rfl
theorem u32_low (r:Nat):r &&& 1=r % 2:=Nat.and_one_is_mod r
theorem spell_bit (r:Nat) (h:r<4294967296) :
  bits BinOp.xor IntKind.u32 ((r:Int) / 2) (bits BinOp.and IntKind.u32 (-bits BinOp.and IntKind.u32 (r:Int) 1 % 4294967296) 3988292384)=((bitN r:Nat):Int):=by
 have h1:bits BinOp.and IntKind.u32 (r:Int) 1=((r % 2:Nat):Int):=by
  rw[←u32_low]
  exact u32_and_nat r 1 h (by omega)
 rw[h1]
 rcases Nat.mod_two_eq_zero_or_one r with h0|h0
 ·rw[h0]
  have h2:bits BinOp.and IntKind.u32 (-((0:Nat):Int) % 4294967296) 3988292384=((0:Nat):Int):=by
   have:=u32_and_nat 0 3988292384 (by omega) (by omega)
   simpa using this
  rw[h2,show (r:Int) / 2=((r / 2:Nat):Int) from by omega,u32_xor_nat _ _ (by omega) (by omega)]
  unfold bitN
  rw[if_neg (by omega)]
 ·rw[h0]
  have h2:bits BinOp.and IntKind.u32 (-((1:Nat):Int) % 4294967296) 3988292384=((3988292384:Nat):Int):=by
   have:=u32_and_nat 4294967295 3988292384 (by omega) (by omega)
   simpa using this
  rw[h2,show (r:Int) / 2=((r / 2:Nat):Int) from by omega,u32_xor_nat _ _ (by omega) (by omega)]
  unfold bitN
  rw[if_pos h0]
theorem spell_byte (r:Nat) (x:UInt8) (h:r<4294967296):bits BinOp.xor IntKind.u32 (r:Int) (x.toNat:Int)=((r ^^^ x.toNat:Nat):Int):=
 u32_xor_nat r x.toNat h (by have:=x.toNat_lt;omega)
theorem xor_full (R:Nat) (h:R<4294967296):4294967295 ^^^ R=4294967295-R:=by
 have h1:(BitVec.ofNat 32 R ^^^ BitVec.allOnes 32).toNat=(~~~ BitVec.ofNat 32 R).toNat:=by rw[BitVec.xor_allOnes]
 rw[BitVec.toNat_xor,BitVec.toNat_not,BitVec.toNat_allOnes,BitVec.toNat_ofNat,Nat.mod_eq_of_lt (by omega)] at h1
 rw[Nat.xor_comm]
 simpa using h1
theorem spell_full (R:Nat) (h:R<4294967296):bits BinOp.xor IntKind.u32 IntKind.u32.max (R:Int)=((4294967295-R:Nat):Int):=by
 have:=u32_xor_nat 4294967295 R (by omega) h
 rw[xor_full R h] at this
 exact this
end Go.Proofs.YtfbfpnfgabamfaaGreat
namespace Go.Proofs.YtfbfpnfgabamfaaGreat
set_option linter.unusedSimpArgs false
open Go.RowKit
set_option linter.unusedVariables false
def RdP (w:World) (B:Nat) (A:Option Addr) (n:Nat) (ls:List (List UInt8)):Prop:=
 ls.length=n∧∃ vs,Rd w B 1 A n vs∧∀ i (h:i<ls.length),∃ Ai ci,vs[i]?=some (.slice Ai ls[i].length ci)∧ls[i].length≤ci∧ls[i].length≤140737488351232∧RdB w B Ai ls[i].length ls[i]
theorem RdP.cell {w:World} {B n:Nat} {A:Option Addr} {ls:List (List UInt8)} (h:RdP w B A n ls) {k:Nat} (hk:k<n) :
  ∃ b off Ai ci l,A=some ⟨b,off,none⟩∧b<B∧ls[k]?=some l∧w.cell? ⟨b,off+k,none⟩=some (.slice Ai l.length ci)∧l.length≤ci∧l.length≤140737488351232∧RdB w B Ai l.length l:=by
 obtain⟨hl,vs,hr,hp⟩:=h
 obtain⟨b,off,e,hb,hc⟩:=hr.at_ hk
 obtain⟨Ai,ci,h1,h2,h3,h4⟩:=hp k (by omega)
 have hk':k<vs.length:=by have:=hr.1;omega
 refine⟨b,off,Ai,ci,ls[k],e,hb,List.getElem?_eq_getElem (by omega),?_,h2,h3,h4⟩
 rw[hc k hk']
 rw[List.getElem?_eq_getElem hk'] at h1
 exact h1
theorem RdP.next {w w':World} {n:Nat} {A:Option Addr} {ls:List (List UInt8)} (h:RdP w w.heap.size A n ls) (hb:Below w.heap.size w w'):RdP w' w'.heap.size A n ls:=by
 obtain⟨hl,vs,hr,hp⟩:=h
 refine⟨hl,vs,hr.next hb,fun i hi=>?_⟩
 obtain⟨Ai,ci,h1,h2,h3,h4⟩:=hp i hi
 exact⟨Ai,ci,h1,h2,h3,Rd.next h4 hb⟩
theorem crcSum_any (A:Option Addr) (n c:Nat) (ls:List (List UInt8)) (w:World) (hp:RdP w w.heap.size A n ls) (hn:n≤maxLen) :
  Calls Tryz.prog 81 #[.slice A n c] w fun e w'=>e=.returned (.int .u32 (sumN ls.flatten:Nat))∧w=w':=by
 unfold maxLen at hn
 go_enter Tryz.func81,Tryz.ntmps81
 go_wp2
 go_loop [3,5,7,8,11] (fun s3 _ _ _ i=>∃ k:Nat,k≤n∧i=.int .i64 k∧s3=.int .u32 (regN 4294967295 (ls.take k).flatten:Nat)) (fun _ _ _ _ i=>n-(intOf i).toNat)
 case atStart=>exact⟨0,Nat.zero_le _,rfl,rfl⟩
 case round=>
  obtain⟨k,hk,rfl,rfl⟩:=hrel
  have hlt:=regN_lt (ls.take k).flatten (r:=4294967295) (by omega)
  generalize hR:regN 4294967295 (ls.take k).flatten=R at hlt ⊢
  have HR:=hide hR
  clear hR
  by_cases hk1:k<n
  ·obtain⟨b,off,Ai,ci,l,rfl,hb,hl,hc,h1,h2,h4⟩:=hp.cell hk1
   have HL:=hide hl
   clear hl
   go_wp2
   go_loop [3,7,8,17] (fun s3 _ _ i=>∃ j:Nat,j≤l.length∧i=.int .i64 j∧s3=.int .u32 (regN R (l.take j):Nat)) (fun _ _ _ i=>l.length-(intOf i).toNat)
   case atStart=>exact⟨0,Nat.zero_le _,rfl,rfl⟩
   case round=>
    obtain⟨j,hj,rfl,rfl⟩:=hrel
    have hlt2:=regN_lt (l.take j) hlt
    generalize hS:regN R (l.take j)=S at hlt2 ⊢
    have HS:=hide hS
    clear hS
    by_cases hj1:j<l.length
    ·obtain⟨b',off',rfl,hb',hc'⟩:=RdB.cell h4 hj1
     have hx:=(l[j]).toNat_lt
     have hsp:=spell_byte S l[j] hlt2
     have hlt3:=xor_byte_lt hlt2 l[j]
     go_wp2
     go_loop [3,8,25] (fun s3 _ i=>∃ q:Nat,q≤8∧i=.int .i64 q∧s3=.int .u32 (bitsN q (S ^^^ (l[j]).toNat):Nat)) (fun _ _ i=>8-(intOf i).toNat)
     case atStart=>exact⟨0,Nat.zero_le _,rfl,rfl⟩
     case round=>
      obtain⟨q,hq,rfl,rfl⟩:=hrel
      have hlt4:=bitsN_lt hlt3 q
      clear hsp
      generalize hT:bitsN q (S ^^^ (l[j]).toNat)=T at hlt4 ⊢
      have HT:=hide hT
      clear hT
      by_cases hq1:q<8
      ·go_wp2
       go_round
       case rel=>exact⟨q+1,by omega,by go_num,by rw[spell_bit T hlt4,show bitsN (q+1) (S ^^^ l[j].toNat)=bitN T from by rw[←HT.out];rfl]⟩
       case measure=>simp[intOf];omega
      ·go_wp2
       go_round
       case rel=>
        refine⟨j+1,by omega,by go_num,?_⟩
        obtain rfl:q=8:=by omega
        rw[List.take_succ_eq_append_getElem hj1,regN_snoc,HS.out,←HT.out]
        rfl
       case measure=>simp[intOf];omega
    ·go_wp2
     go_round
     case rel=>
      refine⟨k+1,by omega,by go_num,?_⟩
      have e:(ls.take (k+1)).flatten=(ls.take k).flatten++l:=by
       rw[List.take_add_one,HL.out];simp
      rw[e,regN_append,HR.out,←HS.out,List.take_of_length_le (by omega)]
     case measure=>simp[intOf];omega
  ·go_wp2
   go_ret
   have hl:=hp.1
   have HF:regN 4294967295 ls.flatten=R:=by rw[←HR.out,List.take_of_length_le (by omega)]
   refine⟨ret_int ?_,rfl⟩
   unfold sumN
   rw[HF]
   exact spell_full R hlt
end Go.Proofs.YtfbfpnfgabamfaaGreat
