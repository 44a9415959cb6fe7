/- Parts FrA, FrB, FrC, FrD, EqS, FrE, FrF, FrG of the proof, put together. -/
import Derived.Test.YtfbfpnfgabamfaaGreatM8
import Derived.DeepKeys
namespace Go.Proofs.YtfbfpnfgabamfaaGreat
set_option linter.unusedSimpArgs false
open Go.RowKit
set_option maxRecDepth 100000
set_option linter.unusedVariables false
abbrev Rs:=Bt × Nat
abbrev rsO (s:Rs):AObj:=rdO s.1 s.2
def uintS (s:Rs):Nat × Rs:=if s.2≠0 then (0,s) else if (dec s.1).2.2≠0 then (0,(s.1,(dec s.1).2.2)) else ((dec s.1).1,(s.1.drop (dec s.1).2.1,0))
def intS (s:Rs):Int × Rs:=(unturnZ (uintS s).1,(uintS s).2)
def countS (s:Rs) (most:Int):Nat × Rs:=if s.2≠0 then (0,s) else if (cnt s.1 most).2.2≠0 then (0,(s.1,(cnt s.1 most).2.2)) else ((cnt s.1 most).1,(s.1.drop (cnt s.1 most).2.1,0))
def txtS (s:Rs) (most:Int):Bt × Rs:=
 if s.2≠0 then ([],s) else if (cnt s.1 most).2.2≠0 then ([],(s.1,(cnt s.1 most).2.2)) else if s.1.length-(cnt s.1 most).2.1<(cnt s.1 most).1 then ([],(s.1,15))
 else ((s.1.take ((cnt s.1 most).2.1+(cnt s.1 most).1)).drop (cnt s.1 most).2.1,(s.1.drop ((cnt s.1 most).2.1+(cnt s.1 most).1),0))
def endS (s:Rs):Rs:=if s.2≠0 then s else if s.1=[] then s else (s.1,10)
theorem ne0 {n:Nat} (h:n≠0):((n:Int) != 0)=true:=by rw[bne_iff_ne];omega
theorem ne0' {n:Nat} (h:n=0):((n:Int) != 0)=false:=by rw[h];rfl
theorem takeX_sat (l:Bt) (e:Nat) (k:Int) (err:Nat) (h:e≠0):Sat Tryz.prog 119 [.ptr 0 0,iA k,iA err] [rdO l e] (bA false) [rdO l e]:=by
 have d1:=ne0 h
 refine Vq Tryz.func119 rfl rfl ?_
 conv=>whnf
 iterate 5
  repeat' first|exact T0|(first|refine Yd fun _=>?_|refine Ye fun _=>?_|refine Yg ?_);conv=>whnf|(refine Ya ?_ ?_<;>intro _<;>conv=>whnf)
  all_goals try (refine Or.inl ?_;conv=>whnf)
 all_goals try exact (bnl d1 ‹_›).elim
 all_goals refine⟨[],?_⟩
 repeat any_goals first|exact T0|exact rfl|exact Yr|refine Ya ?_ ?_
 all_goals conv=>whnf
theorem takeY_sat (l:Bt) (k:Int) (err:Nat) (h:err≠0):Sat Tryz.prog 119 [.ptr 0 0,iA k,iA err] [rdO l 0] (bA false) [rdO l err]:=by
 have d1:=ne0 h
 refine Vq Tryz.func119 rfl rfl ?_
 conv=>whnf
 iterate 5
  repeat' first|exact T0|(first|refine Yd fun _=>?_|refine Ye fun _=>?_|refine Yg ?_);conv=>whnf|(refine Ya ?_ ?_<;>intro _<;>conv=>whnf)
  all_goals try (refine Or.inl ?_;conv=>whnf)
 all_goals try exact (bnl d1 ‹_›).elim
 all_goals refine⟨[],?_⟩
 repeat any_goals first|exact T0|exact rfl|exact Yr|refine Ya ?_ ?_
 all_goals conv=>whnf
theorem uintG_sat (s:Rs) (hn:s.1.length≤65536):Sat Tryz.prog 86 [.ptr 0 0] [rsO s] (.d (.v (.int .u64 ((uintS s).1:Nat)))) [rsO (uintS s).2]:=by
 obtain⟨l,e⟩:=s
 have hn:l.length≤65536:=hn
 have f1:=first_sat l hn
 unfold uintS
 by_cases he:e=0
 ·subst he
  simp only[ne_eq,not_true,if_false]
  by_cases h0:(dec l).2.2=0
  ·rw[if_neg (by simp[h0])]
   exact uint_sat l hn h0
  ·rw[if_pos h0]
   have t1:=takeY_sat l (dec l).2.1 _ h0
   refine Vq Tryz.func86 rfl rfl ?_
   conv=>whnf
   iterate 5
    repeat' first|exact T0|(first|refine Yd fun _=>?_|refine Ye fun _=>?_|refine Yg ?_|refine Yk (f1.pu rfl rfl) ?_|refine Yk (t1.at1 0 rfl rfl rfl) ?_);conv=>whnf|(refine Ya ?_ ?_<;>intro _<;>conv=>whnf)
    all_goals try (refine Or.inl ?_;conv=>whnf)
   all_goals refine⟨[],?_⟩
   repeat any_goals first|exact T0|exact rfl|exact Yr|refine Ya ?_ ?_
   all_goals conv=>whnf
 ·rw[if_pos he]
  have t1:=takeX_sat l e (dec l).2.1 (dec l).2.2 he
  refine Vq Tryz.func86 rfl rfl ?_
  conv=>whnf
  iterate 5
   repeat' first|exact T0|(first|refine Yd fun _=>?_|refine Ye fun _=>?_|refine Yg ?_|refine Yk (f1.pu rfl rfl) ?_|refine Yk (t1.at1 0 rfl rfl rfl) ?_);conv=>whnf|(refine Ya ?_ ?_<;>intro _<;>conv=>whnf)
   all_goals try (refine Or.inl ?_;conv=>whnf)
  all_goals refine⟨[],?_⟩
  repeat any_goals first|exact T0|exact rfl|exact Yr|refine Ya ?_ ?_
  all_goals conv=>whnf
theorem uintS_lt (s:Rs):(uintS s).1<18446744073709551616:=by
 unfold uintS
 split
 ·simp
 ·split
  ·simp
  ·exact (dec_bounds s.1 0 0 (dec s.1).1 (dec s.1).2.1 (dec s.1).2.2 (by omega) (by simp) rfl).1
theorem intG_sat (s:Rs) (hn:s.1.length≤65536):Sat Tryz.prog 121 [.ptr 0 0] [rsO s] (iA (intS s).1) [rsO (intS s).2]:=by
 have f1:=uintG_sat s hn
 have t1:=unturn_sat (uintS s).1 (uintS_lt s)
 unfold intS
 refine Vq Tryz.func121 rfl rfl ?_
 conv=>whnf
 iterate 5
  repeat' first|exact T0|(first|refine Yd fun _=>?_|refine Ye fun _=>?_|refine Yg ?_|refine Yk (f1.at1 0 rfl rfl rfl) ?_|refine Yk (t1.pu rfl rfl) ?_);conv=>whnf|(refine Ya ?_ ?_<;>intro _<;>conv=>whnf)
  all_goals try (refine Or.inl ?_;conv=>whnf)
 all_goals refine⟨[],?_⟩
 repeat any_goals first|exact T0|exact rfl|exact Yr|refine Ya ?_ ?_
 all_goals conv=>whnf
theorem countG_sat (s:Rs) (most:Int) (hm:in64 most) (hn:s.1.length≤65536):Sat Tryz.prog 120 [.ptr 0 0,iA most] [rsO s] (iA ((countS s most).1:Nat)) [rsO (countS s most).2]:=by
 obtain⟨l,e⟩:=s
 have hn:l.length≤65536:=hn
 have f1:=count_sat l most hm hn
 unfold countS
 by_cases he:e=0
 ·subst he
  simp only[ne_eq,not_true,if_false]
  by_cases h0:(cnt l most).2.2=0
  ·rw[if_neg (by simp[h0])]
   exact countM_sat l most hm hn h0
  ·rw[if_pos h0]
   have t1:=takeY_sat l (cnt l most).2.1 _ h0
   refine Vq Tryz.func120 rfl rfl ?_
   conv=>whnf
   iterate 5
    repeat' first|exact T0|(first|refine Yd fun _=>?_|refine Ye fun _=>?_|refine Yg ?_|refine Yk (f1.pu rfl rfl) ?_|refine Yk (t1.at1 0 rfl rfl rfl) ?_);conv=>whnf|(refine Ya ?_ ?_<;>intro _<;>conv=>whnf)
    all_goals try (refine Or.inl ?_;conv=>whnf)
   all_goals refine⟨[],?_⟩
   repeat any_goals first|exact T0|exact rfl|exact Yr|refine Ya ?_ ?_
   all_goals conv=>whnf
 ·rw[if_pos he]
  have t1:=takeX_sat l e (cnt l most).2.1 (cnt l most).2.2 he
  refine Vq Tryz.func120 rfl rfl ?_
  conv=>whnf
  iterate 5
   repeat' first|exact T0|(first|refine Yd fun _=>?_|refine Ye fun _=>?_|refine Yg ?_|refine Yk (f1.pu rfl rfl) ?_|refine Yk (t1.at1 0 rfl rfl rfl) ?_);conv=>whnf|(refine Ya ?_ ?_<;>intro _<;>conv=>whnf)
   all_goals try (refine Or.inl ?_;conv=>whnf)
  all_goals refine⟨[],?_⟩
  repeat any_goals first|exact T0|exact rfl|exact Yr|refine Ya ?_ ?_
  all_goals conv=>whnf
set_option maxHeartbeats 1000000 in
theorem txtG_sat (s:Rs) (most:Int) (hm:in64 most) (hn:s.1.length≤65536):Sat Tryz.prog 91 [.ptr 0 0,iA most] [rsO s] (.d (tD (txtS s most).1)) [rsO (txtS s most).2]:=by
 obtain⟨l,e⟩:=s
 have hn:l.length≤65536:=hn
 have f1:=count_sat l most hm hn
 obtain⟨q1,q2,q3,q4⟩:=cnt_bounds l most
 have hl:(l.map bR).length=l.length:=List.length_map _
 unfold txtS
 obtain⟨n,sz,er,hc⟩:∃ n sz er,cnt l most=(n,sz,er):=⟨_,_,_,rfl⟩
 rw[hc] at f1 q1 q2 q3 q4 ⊢
 simp only at f1 q1 q2 q3 q4 ⊢
 have hw:IntKind.i64.wrap (((l.map bR).length:Int)-(sz:Int))=((l.length-sz:Nat):Int):=by rw[hl,wi (by omega) (by omega)];omega
 by_cases he:e=0
 case neg=>
  rw[if_pos he]
  have t1:=fun k er=>takeX_sat l e k er he
  have t15:=takeX_sat l e
  refine Vq Tryz.func91 rfl rfl ?_
  conv=>whnf
  iterate 5
   repeat' first|exact T0|(first|refine Yd fun _=>?_|refine Ye fun _=>?_|refine Yg ?_|refine Yk (f1.pu rfl rfl) ?_|refine Yk ((t1 _ er).at1 0 rfl rfl rfl) ?_|refine Yk ((t1 _ 15).at1 0 rfl rfl rfl) ?_);conv=>whnf|(refine Ya ?_ ?_<;>intro _<;>conv=>whnf)
   all_goals try (refine Or.inl ?_;conv=>whnf)
  all_goals refine⟨[],?_⟩
  repeat any_goals first|exact T0|exact rfl|exact Yr|refine Ya ?_ ?_
  all_goals conv=>whnf
 subst he
 simp only[ne_eq,not_true,if_false]
 by_cases h0:er=0
 case neg=>
  rw[if_pos h0]
  have t1:=fun k=>takeY_sat l k er h0
  have d0:((er:Int) == 0)=false:=by rw[beq_eq_false_iff_ne];omega
  refine Vq Tryz.func91 rfl rfl ?_
  conv=>whnf
  iterate 5
   repeat' first|exact T0|(first|refine Yd fun _=>?_|refine Ye fun _=>?_|refine Yg ?_|refine Yk (f1.pu rfl rfl) ?_|refine Yk ((t1 _).at1 0 rfl rfl rfl) ?_);conv=>whnf|(refine Ya ?_ ?_<;>intro _<;>conv=>whnf)
   all_goals try (refine Or.inl ?_;conv=>whnf)
  all_goals try exact (bnl ‹_› d0).elim
  all_goals refine⟨[],?_⟩
  repeat any_goals first|exact T0|exact rfl|exact Yr|refine Ya ?_ ?_
  all_goals conv=>whnf
 subst h0
 rw[if_neg (by simp)]
 by_cases hlt:l.length-sz<n
 ·rw[if_pos hlt]
  have t1:=fun k=>takeY_sat l k 15 (by decide)
  have d1:decide ((n:Int)>IntKind.i64.wrap (((l.map bR).length:Int)-(sz:Int)))=true:=decide_eq_true (by rw[hw];omega)
  refine Vq Tryz.func91 rfl rfl ?_
  conv=>whnf
  iterate 5
   repeat' first|exact T0|(first|refine Yd fun _=>?_|refine Ye fun _=>?_|refine Yg ?_|refine Yk (f1.pu rfl rfl) ?_|refine Yk ((t1 _).at1 0 rfl rfl rfl) ?_);conv=>whnf|(refine Ya ?_ ?_<;>intro _<;>conv=>whnf)
   all_goals try (refine Or.inl ?_;conv=>whnf)
  all_goals try exact (bnl d1 ‹_›).elim
  all_goals refine⟨[],?_⟩
  repeat any_goals first|exact T0|exact rfl|exact Yr|refine Ya ?_ ?_
  all_goals conv=>whnf
 ·rw[if_neg hlt]
  exact text_sat l most n sz hm hn hc (by omega)
theorem errG_sat (s:Rs):Sat Tryz.prog 88 [.ptr 0 0] [rsO s] (iA s.2) [rsO s]:=by
 refine Vq Tryz.func88 rfl rfl ?_
 conv=>whnf
 iterate 2
  repeat' first|exact T0|(first|refine Yd fun _=>?_|refine Ye fun _=>?_|refine Yg ?_);conv=>whnf|(refine Ya ?_ ?_<;>intro _<;>conv=>whnf)
  all_goals try (refine Or.inl ?_;conv=>whnf)
 all_goals refine⟨[],?_⟩
 repeat any_goals first|exact T0|exact rfl|exact Yr|refine Ya ?_ ?_
 all_goals conv=>whnf
theorem endG_sat (s:Rs) (hn:s.1.length≤65536):Sat Tryz.prog 92 [.ptr 0 0] [rsO s] (iA (endS s).2) [rsO (endS s)]:=by
 obtain⟨l,e⟩:=s
 have hn:l.length≤65536:=hn
 have hl:(l.map bR).length=l.length:=List.length_map _
 unfold endS
 have t1:=fun h=>takeX_sat l e 0 10 h
 have t2:=takeY_sat l 0 10 (by decide)
 by_cases hl0:l=[]
 ·have d0:decide (((l.map bR).length:Int)>0)=false:=decide_eq_false (by rw[hl,hl0];decide)
  rw[show (if ((l,e):Rs).2≠0 then ((l,e):Rs) else if l=[] then (l,e) else (l,10))=(l,e) by split<;>simp[hl0]]
  refine Vq Tryz.func92 rfl rfl ?_
  conv=>whnf
  iterate 5
   repeat' first|exact T0|(first|refine Yd fun _=>?_|refine Ye fun _=>?_|refine Yg ?_);conv=>whnf|(refine Ya ?_ ?_<;>intro _<;>conv=>whnf)
   all_goals try (refine Or.inl ?_;conv=>whnf)
  all_goals try exact (bnl ‹_› d0).elim
  all_goals refine⟨[],?_⟩
  repeat any_goals first|exact T0|exact rfl|exact Yr|refine Ya ?_ ?_
  all_goals conv=>whnf
 ·have d0:decide (((l.map bR).length:Int)>0)=true:=decide_eq_true (by rw[hl];have:=List.length_pos_iff.2 hl0;omega)
  by_cases he:e=0
  ·subst he
   rw[show (if ((l,0):Rs).2≠0 then ((l,0):Rs) else if l=[] then (l,0) else (l,10))=(l,10) by simp[hl0]]
   refine Vq Tryz.func92 rfl rfl ?_
   conv=>whnf
   iterate 5
    repeat' first|exact T0|(first|refine Yd fun _=>?_|refine Ye fun _=>?_|refine Yg ?_|refine Yk (t2.at1 0 rfl rfl rfl) ?_);conv=>whnf|(refine Ya ?_ ?_<;>intro _<;>conv=>whnf)
    all_goals try (refine Or.inl ?_;conv=>whnf)
   all_goals try exact (bnl d0 ‹_›).elim
   all_goals refine⟨[],?_⟩
   repeat any_goals first|exact T0|exact rfl|exact Yr|refine Ya ?_ ?_
   all_goals conv=>whnf
  ·rw[show (if ((l,e):Rs).2≠0 then ((l,e):Rs) else if l=[] then (l,e) else (l,10))=(l,e) by simp[he]]
   refine Vq Tryz.func92 rfl rfl ?_
   conv=>whnf
   iterate 5
    repeat' first|exact T0|(first|refine Yd fun _=>?_|refine Ye fun _=>?_|refine Yg ?_|refine Yk ((t1 he).at1 0 rfl rfl rfl) ?_);conv=>whnf|(refine Ya ?_ ?_<;>intro _<;>conv=>whnf)
    all_goals try (refine Or.inl ?_;conv=>whnf)
   all_goals try exact (bnl d0 ‹_›).elim
   all_goals refine⟨[],?_⟩
   repeat any_goals first|exact T0|exact rfl|exact Yr|refine Ya ?_ ?_
   all_goals conv=>whnf
theorem uintS_len (s:Rs):(uintS s).2.1.length≤s.1.length:=by
 unfold uintS
 split
 ·exact Nat.le_refl _
 ·split
  ·exact Nat.le_refl _
  ·simp only[List.length_drop];omega
theorem intS_len (s:Rs):(intS s).2.1.length≤s.1.length:=uintS_len s
theorem countS_len (s:Rs) (m:Int):(countS s m).2.1.length≤s.1.length:=by
 unfold countS
 split
 ·exact Nat.le_refl _
 ·split
  ·exact Nat.le_refl _
  ·simp only[List.length_drop];omega
theorem txtS_len (s:Rs) (m:Int):(txtS s m).2.1.length≤s.1.length:=by
 unfold txtS
 split
 ·exact Nat.le_refl _
 ·split
  ·exact Nat.le_refl _
  ·split
   ·exact Nat.le_refl _
   ·simp only[List.length_drop];omega
theorem countS_le (s:Rs) (m:Int):((countS s m).1:Int)≤max m 0:=by
 unfold countS
 split
 ·simp;omega
 ·split
  ·simp;omega
  ·exact (cnt_bounds s.1 m).1
def labsS:Nat→List Lab→Rs→List Lab × Rs
 |0,acc,s=>(acc,s)
 |n+1,acc,s=>labsS n (acc++[((txtS s 64).1,(txtS (txtS s 64).2 64).1)]) (txtS (txtS s 64).2 64).2
def readS (s:Rs):Ser × Nat × Rs:=
 let q:=labsS (countS (txtS s 64).2 8).1 [] (countS (txtS s 64).2 8).2
 if q.2.2≠0 then (([],[]),q.2.2,q.2) else if rightB ((txtS s 64).1,q.1)=true then (((txtS s 64).1,q.1),0,q.2) else (([],[]),10,q.2)
theorem labsS_len:∀ (n:Nat) (acc:List Lab) (s:Rs),(labsS n acc s).2.1.length≤s.1.length
 |0,_,_=>Nat.le_refl _
 |n+1,acc,s=>by
  have h1:=labsS_len n (acc++[((txtS s 64).1,(txtS (txtS s 64).2 64).1)]) (txtS (txtS s 64).2 64).2
  have h2:=txtS_len (txtS s 64).2 64
  have h3:=txtS_len s 64
  rw[labsS]
  omega
theorem readS_len (s:Rs):(readS s).2.2.1.length≤s.1.length:=by
 have h1:=labsS_len (countS (txtS s 64).2 8).1 [] (countS (txtS s 64).2 8).2
 have h2:=countS_len (txtS s 64).2 8
 have h3:=txtS_len s 64
 unfold readS
 simp only
 split
 ·simp only;omega
 ·split<;>(simp only;omega)
theorem m64:in64 64:=by unfold in64;omega
theorem m8:in64 8:=by unfold in64;omega
set_option maxHeartbeats 8000000 in
theorem readG_sat (s:Rs) (hn:s.1.length≤65536):Sat Tryz.prog 122 [.ptr 0 0] [rsO s] (.tup [.d (serD (readS s).1),iA (readS s).2.1]) [rsO (readS s).2.2]:=by
 have t0:=txtG_sat s 64 m64 hn
 have n1:=txtS_len s 64
 unfold readS
 generalize txtS s 64=a at *
 obtain⟨nm,s1⟩:=a
 simp only at t0 n1 ⊢
 have c0:=countG_sat s1 8 m8 (by omega)
 have n2:=countS_len s1 8
 have n3:=countS_le s1 8
 generalize countS s1 8=c at *
 obtain⟨N,s2⟩:=c
 simp only at c0 n2 n3 ⊢
 have hN:N≤8:=by omega
 have hlast:=labsS_len N [] s2
 obtain⟨q,hq⟩:∃ q,labsS N [] s2=q:=⟨_,rfl⟩
 rw[hq] at hlast ⊢
 have e1:=errG_sat q.2
 by_cases he:q.2.2=0
 case neg=>
  rw[if_pos he]
  have d1:=ne0 he
  refine Sat.post (r:=.tup [.d (.agg [tD [],nilV]),iA q.2.2]) ?_ fun w F ρ v h=>nilTup h
  refine Vq Tryz.func122 rfl rfl ?_
  conv=>whnf
  iterate 3
   repeat' first|exact T0|(first|refine Yd fun _=>?_|refine Ye fun _=>?_|refine Yg ?_|refine Yk (t0.at1 0 rfl rfl rfl) ?_|refine Yk (c0.at1 0 rfl rfl rfl) ?_);conv=>whnf|(refine Ya ?_ ?_<;>intro _<;>conv=>whnf)
   all_goals try (refine Or.inl ?_;conv=>whnf)
  refine⟨Nat × List Lab × Rs,fun y=>y.1≤N∧labsS (N-y.1) y.2.1 y.2.2=q∧y.2.1.length≤y.1∧y.2.2.1.length≤65536,fun y=>([(12,iA y.1),(11,iA N),(4,.ptr 2 0),(2,.ptr 1 0),(0,.ptr 0 0)],[rsO y.2.2,.cells [.d (tD []),.d nilV],.cells [.d (tD nm),.own 3],.sl 2 (y.2.1.map labR)]),fun y=>N-y.1,⟨(0,[],s2),⟨Nat.zero_le _,hq,Nat.zero_le _,by show s2.1.length≤_;omega⟩,?_⟩,?_⟩
  ·all_goals refine⟨[],?_⟩
   repeat any_goals first|exact T0|exact rfl|exact Yr|refine Ya ?_ ?_
   all_goals conv=>whnf
  rintro⟨k,ls,s3⟩ ⟨h1,h2,h3,h4⟩
  simp only at h1 h2 h3 h4
  have hls:(ls.map labR).length=ls.length:=List.length_map _
  conv=>whnf
  by_cases hk:k<N
  ·have dk:decide ((k:Int)<(N:Nat))=true:=decide_eq_true (by omega)
   rw[show N-k=(N-(k+1))+1 by omega,labsS] at h2
   have t1:=txtG_sat s3 64 m64 h4
   have l1:=txtS_len s3 64
   generalize txtS s3 64=a at *
   obtain⟨x1,s4⟩:=a
   simp only at t1 l1 h2
   have t2:=txtG_sat s4 64 m64 (by omega)
   have l2:=txtS_len s4 64
   generalize txtS s4 64=b at *
   obtain⟨x2,s5⟩:=b
   simp only at t2 l2 h2
   iterate 4
    repeat' first|exact T0|(first|refine Yd fun _=>?_|refine Ye fun _=>?_|refine Yg ?_|refine Yk (t1.at1 0 rfl rfl rfl) ?_|refine Yk (t2.at1 0 rfl rfl rfl) ?_|refine Yk (ap 2 32 (by kernel_rfl) rfl rfl (by rw[hls];simp only[List.length_cons,List.length_nil];omega)) ?_);conv=>whnf|(refine Ya ?_ ?_<;>intro _<;>conv=>whnf)
    all_goals try (refine Or.inl ?_;conv=>whnf)
   all_goals try exact (bnl dk ‹_›).elim
   refine⟨(k+1,ls++[(x1,x2)],s5),⟨hk,h2,by rw[List.length_append];simp;omega,by show s5.1.length≤_;omega⟩,show N-(k+1)<N-k by omega,?_⟩
   all_goals refine⟨[(3,5)],?_⟩
   repeat any_goals first|exact T0|exact rfl|exact Yr|refine Ya ?_ ?_
   all_goals conv=>whnf
   ·exact wk1 (by omega)
   ·rw[List.map_append];rfl
  have dk:decide ((k:Int)<(N:Nat))=false:=decide_eq_false (by omega)
  rw[show N-k=0 by omega,labsS] at h2
  subst h2
  iterate 5
   repeat' first|exact T0|(first|refine Yd fun _=>?_|refine Ye fun _=>?_|refine Yg ?_|refine Yk (e1.at1 0 rfl rfl rfl) ?_);conv=>whnf|(refine Ya ?_ ?_<;>intro _<;>conv=>whnf)
   all_goals try (refine Or.inl ?_;conv=>whnf)
  all_goals try exact (bnl ‹_› dk).elim
  all_goals try exact (bnl d1 ‹_›).elim
  all_goals refine⟨[],?_⟩
  repeat any_goals first|exact T0|exact rfl|exact Yr|refine Ya ?_ ?_
  all_goals conv=>whnf
 rw[if_neg (by simp[he])]
 have d1:=ne0' he
 have r1:=sRight_sat (nm,q.1)
 cases hr:rightB (nm,q.1) with
 |false=>
  rw[hr] at r1
  rw[if_neg (by simp)]
  refine Sat.post (r:=.tup [.d (.agg [tD [],nilV]),iA 10]) ?_ fun w F ρ v h=>nilTup h
  refine Vq Tryz.func122 rfl rfl ?_
  conv=>whnf
  iterate 3
   repeat' first|exact T0|(first|refine Yd fun _=>?_|refine Ye fun _=>?_|refine Yg ?_|refine Yk (t0.at1 0 rfl rfl rfl) ?_|refine Yk (c0.at1 0 rfl rfl rfl) ?_);conv=>whnf|(refine Ya ?_ ?_<;>intro _<;>conv=>whnf)
   all_goals try (refine Or.inl ?_;conv=>whnf)
  refine⟨Nat × List Lab × Rs,fun y=>y.1≤N∧labsS (N-y.1) y.2.1 y.2.2=q∧y.2.1.length≤y.1∧y.2.2.1.length≤65536,fun y=>([(12,iA y.1),(11,iA N),(4,.ptr 2 0),(2,.ptr 1 0),(0,.ptr 0 0)],[rsO y.2.2,.cells [.d (tD []),.d nilV],.cells [.d (tD nm),.own 3],.sl 2 (y.2.1.map labR)]),fun y=>N-y.1,⟨(0,[],s2),⟨Nat.zero_le _,hq,Nat.zero_le _,by show s2.1.length≤_;omega⟩,?_⟩,?_⟩
  ·all_goals refine⟨[],?_⟩
   repeat any_goals first|exact T0|exact rfl|exact Yr|refine Ya ?_ ?_
   all_goals conv=>whnf
  rintro⟨k,ls,s3⟩ ⟨h1,h2,h3,h4⟩
  simp only at h1 h2 h3 h4
  have hls:(ls.map labR).length=ls.length:=List.length_map _
  conv=>whnf
  by_cases hk:k<N
  ·have dk:decide ((k:Int)<(N:Nat))=true:=decide_eq_true (by omega)
   rw[show N-k=(N-(k+1))+1 by omega,labsS] at h2
   have t1:=txtG_sat s3 64 m64 h4
   have l1:=txtS_len s3 64
   generalize txtS s3 64=a at *
   obtain⟨x1,s4⟩:=a
   simp only at t1 l1 h2
   have t2:=txtG_sat s4 64 m64 (by omega)
   have l2:=txtS_len s4 64
   generalize txtS s4 64=b at *
   obtain⟨x2,s5⟩:=b
   simp only at t2 l2 h2
   iterate 4
    repeat' first|exact T0|(first|refine Yd fun _=>?_|refine Ye fun _=>?_|refine Yg ?_|refine Yk (t1.at1 0 rfl rfl rfl) ?_|refine Yk (t2.at1 0 rfl rfl rfl) ?_|refine Yk (ap 2 32 (by kernel_rfl) rfl rfl (by rw[hls];simp only[List.length_cons,List.length_nil];omega)) ?_);conv=>whnf|(refine Ya ?_ ?_<;>intro _<;>conv=>whnf)
    all_goals try (refine Or.inl ?_;conv=>whnf)
   all_goals try exact (bnl dk ‹_›).elim
   refine⟨(k+1,ls++[(x1,x2)],s5),⟨hk,h2,by rw[List.length_append];simp;omega,by show s5.1.length≤_;omega⟩,show N-(k+1)<N-k by omega,?_⟩
   all_goals refine⟨[(3,5)],?_⟩
   repeat any_goals first|exact T0|exact rfl|exact Yr|refine Ya ?_ ?_
   all_goals conv=>whnf
   ·exact wk1 (by omega)
   ·rw[List.map_append];rfl
  have dk:decide ((k:Int)<(N:Nat))=false:=decide_eq_false (by omega)
  rw[show N-k=0 by omega,labsS] at h2
  subst h2
  iterate 5
   repeat' first|exact T0|(first|refine Yd fun _=>?_|refine Ye fun _=>?_|refine Yg ?_|refine Yk (e1.at1 0 rfl rfl rfl) ?_|refine Yk (r1.lendAgg rfl rfl) ?_);conv=>whnf|(refine Ya ?_ ?_<;>intro _<;>conv=>whnf)
   all_goals try (refine Or.inl ?_;conv=>whnf)
  all_goals try exact (bnl ‹_› dk).elim
  all_goals try exact (bnl ‹_› d1).elim
  all_goals try (exfalso;simp only[outL] at *;first|omega|contradiction|(simp_all;done)|(simp_all;omega))
  all_goals refine⟨[],?_⟩
  repeat any_goals first|exact T0|exact rfl|exact Yr|refine Ya ?_ ?_
  all_goals conv=>whnf
 |true=>
  rw[hr] at r1
  rw[if_pos rfl]
  refine Vq Tryz.func122 rfl rfl ?_
  conv=>whnf
  iterate 3
   repeat' first|exact T0|(first|refine Yd fun _=>?_|refine Ye fun _=>?_|refine Yg ?_|refine Yk (t0.at1 0 rfl rfl rfl) ?_|refine Yk (c0.at1 0 rfl rfl rfl) ?_);conv=>whnf|(refine Ya ?_ ?_<;>intro _<;>conv=>whnf)
   all_goals try (refine Or.inl ?_;conv=>whnf)
  refine⟨Nat × List Lab × Rs,fun y=>y.1≤N∧labsS (N-y.1) y.2.1 y.2.2=q∧y.2.1.length≤y.1∧y.2.2.1.length≤65536,fun y=>([(12,iA y.1),(11,iA N),(4,.ptr 2 0),(2,.ptr 1 0),(0,.ptr 0 0)],[rsO y.2.2,.cells [.d (tD []),.d nilV],.cells [.d (tD nm),.own 3],.sl 2 (y.2.1.map labR)]),fun y=>N-y.1,⟨(0,[],s2),⟨Nat.zero_le _,hq,Nat.zero_le _,by show s2.1.length≤_;omega⟩,?_⟩,?_⟩
  ·all_goals refine⟨[],?_⟩
   repeat any_goals first|exact T0|exact rfl|exact Yr|refine Ya ?_ ?_
   all_goals conv=>whnf
  rintro⟨k,ls,s3⟩ ⟨h1,h2,h3,h4⟩
  simp only at h1 h2 h3 h4
  have hls:(ls.map labR).length=ls.length:=List.length_map _
  conv=>whnf
  by_cases hk:k<N
  ·have dk:decide ((k:Int)<(N:Nat))=true:=decide_eq_true (by omega)
   rw[show N-k=(N-(k+1))+1 by omega,labsS] at h2
   have t1:=txtG_sat s3 64 m64 h4
   have l1:=txtS_len s3 64
   generalize txtS s3 64=a at *
   obtain⟨x1,s4⟩:=a
   simp only at t1 l1 h2
   have t2:=txtG_sat s4 64 m64 (by omega)
   have l2:=txtS_len s4 64
   generalize txtS s4 64=b at *
   obtain⟨x2,s5⟩:=b
   simp only at t2 l2 h2
   iterate 4
    repeat' first|exact T0|(first|refine Yd fun _=>?_|refine Ye fun _=>?_|refine Yg ?_|refine Yk (t1.at1 0 rfl rfl rfl) ?_|refine Yk (t2.at1 0 rfl rfl rfl) ?_|refine Yk (ap 2 32 (by kernel_rfl) rfl rfl (by rw[hls];simp only[List.length_cons,List.length_nil];omega)) ?_);conv=>whnf|(refine Ya ?_ ?_<;>intro _<;>conv=>whnf)
    all_goals try (refine Or.inl ?_;conv=>whnf)
   all_goals try exact (bnl dk ‹_›).elim
   refine⟨(k+1,ls++[(x1,x2)],s5),⟨hk,h2,by rw[List.length_append];simp;omega,by show s5.1.length≤_;omega⟩,show N-(k+1)<N-k by omega,?_⟩
   all_goals refine⟨[(3,5)],?_⟩
   repeat any_goals first|exact T0|exact rfl|exact Yr|refine Ya ?_ ?_
   all_goals conv=>whnf
   ·exact wk1 (by omega)
   ·rw[List.map_append];rfl
  have dk:decide ((k:Int)<(N:Nat))=false:=decide_eq_false (by omega)
  rw[show N-k=0 by omega,labsS] at h2
  subst h2
  iterate 5
   repeat' first|exact T0|(first|refine Yd fun _=>?_|refine Ye fun _=>?_|refine Yg ?_|refine Yk (e1.at1 0 rfl rfl rfl) ?_|refine Yk (r1.lendAgg rfl rfl) ?_);conv=>whnf|(refine Ya ?_ ?_<;>intro _<;>conv=>whnf)
   all_goals try (refine Or.inl ?_;conv=>whnf)
  all_goals try exact (bnl ‹_› dk).elim
  all_goals try exact (bnl ‹_› d1).elim
  all_goals try (exfalso;simp only[outL] at *;first|omega|contradiction|(simp_all;done)|(simp_all;omega))
  all_goals refine⟨[],?_⟩
  repeat any_goals first|exact T0|exact rfl|exact Yr|refine Ya ?_ ?_
  all_goals conv=>whnf
def PnF (g:Nat):Bool:=Nat.beq g 87 || (Nat.beq g 85 || (Nat.beq g 89 || Nat.beq g 90))
def fltV (e:Int):Value:=.iface 135 (.agg #[.int .i64 e])
abbrev fltA (e:Int):AV:=.d (.v (fltV e))
theorem mkI {L:List AObj} {ty n:Nat} {x:Operand} (e:Int):Does Tryz.prog (.makeInterface 135 x) ty L n [.d (.agg [iD e])] e0 (fltA e):=
 does_val fun o w F ρ ev ho _ hx=>by
  obtain⟨v,e',hv⟩:=hx.one_out
  simp[Op.operands] at e'
  have:=FlatW.eq (.d (.agg (us:=[.int .i64 e]) (.cons (.v _) rfl .nil))) hv
  subst this
  refine⟨_,?_,.d (.v _)⟩
  simp only[execOp,ho,e']
  rfl
theorem check_ok:Sat Tryz.prog 87 [iA 0] [] (.tup []) []:=by
 refine Vq Tryz.func87 rfl rfl ?_
 conv=>whnf
 iterate 3
  repeat' first|exact T0|(first|refine Yd fun _=>?_|refine Ye fun _=>?_|refine Yg ?_);conv=>whnf|(refine Ya ?_ ?_<;>intro _<;>conv=>whnf)
  all_goals try (refine Or.inl ?_;conv=>whnf)
 all_goals refine⟨[],?_⟩
 repeat any_goals first|exact T0|exact rfl|exact Yr|refine Ya ?_ ?_
 all_goals conv=>whnf
theorem check_no (e:Int) (h:e≠0):SatP Tryz.prog 87 [iA e] [] (fltA e) []:=by
 have d1:(e != 0)=true:=by rw[bne_iff_ne];exact h
 refine satP_of_vcX (T:=tiOf Tryz.prog) (E:=E0) PnF Tryz.func87 rfl rfl hE0 hm0 rfl ?_
 conv=>whnf
 iterate 3
  repeat' first|exact T0|(first|refine Yd fun _=>?_|refine Ye fun _=>?_|refine Yg ?_|refine Yk (mkI e) ?_);conv=>whnf|(refine Ya ?_ ?_<;>intro _<;>conv=>whnf)
  all_goals try (refine Or.inl ?_;conv=>whnf)
 all_goals try exact (bnl d1 ‹_›).elim
 all_goals refine⟨[],?_⟩
 repeat any_goals first|exact T0|exact rfl|exact Yr|refine Ya ?_ ?_
 all_goals conv=>whnf
theorem kind_ok (s:Rs) (hn:s.1.length≤65536) (he:(uintS s).2.2=0) (h1:1≤(uintS s).1) (h8:(uintS s).1≤8):Sat Tryz.prog 85 [.ptr 0 0] [rsO s] (iA (uintS s).1) [rsO (uintS s).2]:=by
 have u1:=uintG_sat s hn
 have e1:=errG_sat (uintS s).2
 rw[he] at e1
 have c1:=check_ok
 generalize uintS s=x at *
 obtain⟨u,s1⟩:=x
 simp only at h1 h8
 have d1:decide ((u:Int)<1)=false:=decide_eq_false (by omega)
 have d2:decide ((u:Int)>8)=false:=decide_eq_false (by omega)
 have hw:IntKind.i64.wrap (u:Int)=u:=wi (by omega) (by omega)
 refine sat_of_vcX (T:=tiOf Tryz.prog) (E:=E0) PnF Tryz.func85 rfl rfl hE0 hm0 rfl ?_
 conv=>whnf
 iterate 5
  repeat' first|exact T0|(first|refine Yd fun _=>?_|refine Ye fun _=>?_|refine Yg ?_|refine Yk (u1.at1 0 rfl rfl rfl) ?_|refine Yk (e1.at1 0 rfl rfl rfl) ?_|refine Yk (c1.pu rfl rfl) ?_|refine Yk (mkI 16) ?_);conv=>whnf|(refine Ya ?_ ?_<;>intro _<;>conv=>whnf)
  all_goals try (refine Or.inl ?_;conv=>whnf)
 all_goals try exact (bnl ‹_› d1).elim
 all_goals try exact (bnl ‹_› d2).elim
 all_goals refine⟨[],?_⟩
 repeat any_goals first|exact T0|exact rfl|exact Yr|refine Ya ?_ ?_
 all_goals conv=>whnf
 rw[hw]
theorem kind_err (s:Rs) (hn:s.1.length≤65536) (he:(uintS s).2.2≠0):SatP Tryz.prog 85 [.ptr 0 0] [rsO s] (fltA (uintS s).2.2) [rsO (uintS s).2]:=by
 have u1:=uintG_sat s hn
 have e1:=errG_sat (uintS s).2
 have c1:=check_no (uintS s).2.2 (by omega)
 refine satP_of_vcX (T:=tiOf Tryz.prog) (E:=E0) PnF Tryz.func85 rfl rfl hE0 hm0 rfl ?_
 conv=>whnf
 iterate 5
  repeat' first|exact T0|(first|refine Or.inr ⟨_,_,c1.pu rfl rfl,?_⟩|refine Yd fun _=>?_|refine Ye fun _=>?_|refine Yg ?_|refine Yk (u1.at1 0 rfl rfl rfl) ?_|refine Yk (e1.at1 0 rfl rfl rfl) ?_);conv=>whnf|(refine Ya ?_ ?_<;>intro _<;>conv=>whnf)
  all_goals try (refine Or.inl ?_;conv=>whnf)
 all_goals refine⟨[],?_⟩
 repeat any_goals first|exact T0|exact rfl|exact Yr|refine Ya ?_ ?_
 all_goals conv=>whnf
theorem kind_bad (s:Rs) (hn:s.1.length≤65536) (he:(uintS s).2.2=0) (hb:(uintS s).1<1∨8<(uintS s).1):SatP Tryz.prog 85 [.ptr 0 0] [rsO s] (fltA 16) [rsO (uintS s).2]:=by
 have u1:=uintG_sat s hn
 have e1:=errG_sat (uintS s).2
 rw[he] at e1
 have c1:=check_ok
 generalize uintS s=x at *
 obtain⟨u,s1⟩:=x
 simp only at hb
 have d1:¬(decide ((u:Int)<1)=false∧decide ((u:Int)>8)=false):=by
  simp only[decide_eq_false_iff_not];omega
 refine satP_of_vcX (T:=tiOf Tryz.prog) (E:=E0) PnF Tryz.func85 rfl rfl hE0 hm0 rfl ?_
 conv=>whnf
 iterate 5
  repeat' first|exact T0|(first|refine Yd fun _=>?_|refine Ye fun _=>?_|refine Yg ?_|refine Yk (u1.at1 0 rfl rfl rfl) ?_|refine Yk (e1.at1 0 rfl rfl rfl) ?_|refine Yk (c1.pu rfl rfl) ?_|refine Yk (mkI 16) ?_);conv=>whnf|(refine Ya ?_ ?_<;>intro _<;>conv=>whnf)
  all_goals try (refine Or.inl ?_;conv=>whnf)
 all_goals try exact (d1 ⟨‹_›,‹_›⟩).elim
 all_goals refine⟨[],?_⟩
 repeat any_goals first|exact T0|exact rfl|exact Yr|refine Ya ?_ ?_
 all_goals conv=>whnf
theorem ser_ok (s:Rs) (hn:s.1.length≤65536) (he:(readS s).2.1=0):Sat Tryz.prog 90 [.ptr 0 0] [rsO s] (.d (serD (readS s).1)) [rsO (readS s).2.2]:=by
 have u1:=readG_sat s hn
 rw[he] at u1
 have c1:=check_ok
 refine sat_of_vcX (T:=tiOf Tryz.prog) (E:=E0) PnF Tryz.func90 rfl rfl hE0 hm0 rfl ?_
 conv=>whnf
 iterate 5
  repeat' first|exact T0|(first|refine Yd fun _=>?_|refine Ye fun _=>?_|refine Yg ?_|refine Yk (u1.at1 0 rfl rfl rfl) ?_|refine Yk (c1.pu rfl rfl) ?_);conv=>whnf|(refine Ya ?_ ?_<;>intro _<;>conv=>whnf)
  all_goals try (refine Or.inl ?_;conv=>whnf)
 all_goals refine⟨[],?_⟩
 repeat any_goals first|exact T0|exact rfl|exact Yr|refine Ya ?_ ?_
 all_goals conv=>whnf
theorem ser_err (s:Rs) (hn:s.1.length≤65536) (he:(readS s).2.1≠0):SatP Tryz.prog 90 [.ptr 0 0] [rsO s] (fltA (readS s).2.1) [rsO (readS s).2.2]:=by
 have u1:=readG_sat s hn
 have c1:=check_no (readS s).2.1 (by omega)
 refine satP_of_vcX (T:=tiOf Tryz.prog) (E:=E0) PnF Tryz.func90 rfl rfl hE0 hm0 rfl ?_
 conv=>whnf
 iterate 5
  repeat' first|exact T0|(first|refine Or.inr ⟨_,_,c1.pu rfl rfl,?_⟩|refine Yd fun _=>?_|refine Ye fun _=>?_|refine Yg ?_|refine Yk (u1.at1 0 rfl rfl rfl) ?_);conv=>whnf|(refine Ya ?_ ?_<;>intro _<;>conv=>whnf)
  all_goals try (refine Or.inl ?_;conv=>whnf)
 all_goals refine⟨[],?_⟩
 repeat any_goals first|exact T0|exact rfl|exact Yr|refine Ya ?_ ?_
 all_goals conv=>whnf
abbrev Evt:=Int × Int × Ser
def evR (x:Evt):List D:=[iD x.1,iD x.2.1,tD x.2.2.1,.sl 2 (x.2.2.2.map labR)]
def stampZ (u:Nat):Int:=IntKind.i64.wrap (u:Int)
def evS:Nat→List Evt→Rs→Except Nat (List Evt) × Rs
 |0,acc,s=>(.ok acc,s)
 |n+1,acc,s=>let u:=uintS s;let v:=intS u.2;let r:=readS v.2
  if r.2.1≠0 then (.error r.2.1,r.2.2) else evS n (acc++[(stampZ u.1,v.1,r.1)]) r.2.2
def eventsS (s:Rs):Except Nat (List Evt) × Rs:=if (countS s 64).2.2≠0 then (.error (countS s 64).2.2,(countS s 64).2) else evS (countS s 64).1 [] (countS s 64).2
theorem evS_len:∀ (n:Nat) (acc:List Evt) (s:Rs),(evS n acc s).2.1.length≤s.1.length
 |0,_,_=>Nat.le_refl _
 |n+1,acc,s=>by
  have h1:=uintS_len s
  have h2:=intS_len (uintS s).2
  have h3:=readS_len (intS (uintS s).2).2
  rw[evS]
  try simp only
  split
  ·simp only;omega
  ·have:=evS_len n (acc++[(stampZ (uintS s).1,(intS (uintS s).2).1,(readS (intS (uintS s).2).2).1)]) (readS (intS (uintS s).2).2).2.2
   omega
theorem eventsS_len (s:Rs):(eventsS s).2.1.length≤s.1.length:=by
 have h1:=countS_len s 64
 unfold eventsS
 split
 ·exact h1
 ·have:=evS_len (countS s 64).1 [] (countS s 64).2;omega
set_option maxHeartbeats 4000000 in
theorem events_ok (s:Rs) (hn:s.1.length≤65536) {l:List Evt} {s9:Rs} (h:eventsS s=(.ok l,s9)):Sat Tryz.prog 89 [.ptr 0 0] [rsO s] (.d (.sl 4 (l.map evR))) [rsO s9]:=by
 have c0:=countG_sat s 64 m64 hn
 have n1:=countS_len s 64
 have n2:=countS_le s 64
 unfold eventsS at h
 generalize countS s 64=c at *
 obtain⟨N,s2⟩:=c
 simp only at c0 n1 n2 h
 have e1:=errG_sat s2
 by_cases hz:s2.2=0
 case neg=>rw[if_pos hz] at h;cases h
 rw[if_neg (by simp[hz])] at h
 rw[hz] at e1
 have k1:=check_ok
 refine sat_of_vcX (T:=tiOf Tryz.prog) (E:=E0) PnF Tryz.func89 rfl rfl hE0 hm0 rfl ?_
 conv=>whnf
 iterate 3
  repeat' first|exact T0|(first|refine Yd fun _=>?_|refine Ye fun _=>?_|refine Yg ?_|refine Yk (c0.at1 0 rfl rfl rfl) ?_|refine Yk (e1.at1 0 rfl rfl rfl) ?_|refine Yk (k1.pu rfl rfl) ?_);conv=>whnf|(refine Ya ?_ ?_<;>intro _<;>conv=>whnf)
  all_goals try (refine Or.inl ?_;conv=>whnf)
 refine⟨Nat × List Evt × Rs,fun y=>y.1≤N∧evS (N-y.1) y.2.1 y.2.2=(.ok l,s9)∧y.2.1.length≤y.1∧y.2.2.1.length≤65536,fun y=>([(12,iA y.1),(11,iA N),(3,.own 1),(0,.ptr 0 0)],[rsO y.2.2,.sl 4 (y.2.1.map evR)]),fun y=>N-y.1,⟨(0,[],s2),⟨Nat.zero_le _,h,Nat.zero_le _,by show s2.1.length≤_;omega⟩,?_⟩,?_⟩
 ·all_goals refine⟨[],?_⟩
  repeat any_goals first|exact T0|exact rfl|exact Yr|refine Ya ?_ ?_
  all_goals conv=>whnf
 rintro⟨k,ls,s3⟩ ⟨g1,g2,g3,g4⟩
 simp only at g1 g2 g3 g4
 have hls:(ls.map evR).length=ls.length:=List.length_map _
 conv=>whnf
 by_cases hk:k<N
 ·have dk:decide ((k:Int)<(N:Nat))=true:=decide_eq_true (by omega)
  rw[show N-k=(N-(k+1))+1 by omega,evS] at g2
  try simp only at g2
  have t1:=uintG_sat s3 g4
  have l1:=uintS_len s3
  generalize uintS s3=a at *
  obtain⟨x1,s4⟩:=a
  simp only at t1 l1 g2
  have t2:=intG_sat s4 (by omega)
  have l2:=intS_len s4
  generalize intS s4=b at *
  obtain⟨x2,s5⟩:=b
  simp only at t2 l2 g2
  have l3:=readS_len s5
  by_cases he:(readS s5).2.1=0
  ·have t3:=ser_ok s5 (by omega) he
   rw[if_neg (by simp[he])] at g2
   generalize readS s5=r at *
   obtain⟨x3,er,s6⟩:=r
   simp only at t3 l3 g2 he
   have apx:∀ {L:List AObj} {ty n s i j:Nat} {sx xx:Operand} (y:Evt),s=4→L[i]?=some (.sl 4 (ls.map evR))→L[j]?=some (.sl s [evR y])→Does Tryz.prog (.call { callee:=.builtin .append,args:=#[sx,xx],argTypes:=#[44,44] }) ty L n [.own i,.own j] ⟨[i,j],[(i,.dead)],[.sl 4 (ls.map evR++[evR y])]⟩ (.own n):=fun y hs h h'=>by
    subst hs
    exact ap 4 56 (by kernel_rfl) h h' (by rw[hls];simp only[List.length_cons,List.length_nil];omega)
   iterate 5
    repeat' first|exact T0|(first|refine Yd fun _=>?_|refine Ye fun _=>?_|refine Yg ?_|refine Yk (t1.at1 0 rfl rfl rfl) ?_|refine Yk (t2.at1 0 rfl rfl rfl) ?_|refine Yk (t3.at1 0 rfl rfl rfl) ?_|refine Yk (apx (stampZ x1,x2,x3) (by kernel_rfl) rfl rfl) ?_);conv=>whnf|(refine Ya ?_ ?_<;>intro _<;>conv=>whnf)
    all_goals try (refine Or.inl ?_;conv=>whnf)
   all_goals try exact (bnl dk ‹_›).elim
   refine⟨(k+1,ls++[(stampZ x1,x2,x3)],s6),⟨hk,g2,by rw[List.length_append];simp;omega,by show s6.1.length≤_;omega⟩,show N-(k+1)<N-k by omega,?_⟩
   all_goals refine⟨[(1,4)],?_⟩
   repeat any_goals first|exact T0|exact rfl|exact Yr|refine Ya ?_ ?_
   all_goals conv=>whnf
   ·exact wk1 (by omega)
   ·rw[List.map_append];rfl
  ·have t3:=ser_err s5 (by omega) he
   rw[if_pos he] at g2
   cases g2
 have dk:decide ((k:Int)<(N:Nat))=false:=decide_eq_false (by omega)
 rw[show N-k=0 by omega,evS] at g2
 cases g2
 iterate 3
  repeat' first|exact T0|(first|refine Yd fun _=>?_|refine Ye fun _=>?_|refine Yg ?_);conv=>whnf|(refine Ya ?_ ?_<;>intro _<;>conv=>whnf)
  all_goals try (refine Or.inl ?_;conv=>whnf)
 all_goals try exact (bnl ‹_› dk).elim
 all_goals refine⟨[],?_⟩
 repeat any_goals first|exact T0|exact rfl|exact Yr|refine Ya ?_ ?_
 all_goals conv=>whnf
set_option maxHeartbeats 4000000 in
theorem events_err (s:Rs) (hn:s.1.length≤65536) {e:Nat} {s9:Rs} (h:eventsS s=(.error e,s9)):SatP Tryz.prog 89 [.ptr 0 0] [rsO s] (fltA e) [rsO s9]:=by
 have c0:=countG_sat s 64 m64 hn
 have n1:=countS_len s 64
 have n2:=countS_le s 64
 unfold eventsS at h
 generalize countS s 64=c at *
 obtain⟨N,s2⟩:=c
 simp only at c0 n1 n2 h
 have e1:=errG_sat s2
 by_cases hz:s2.2=0
 case neg=>
  rw[if_pos hz] at h
  have c1:=check_no s2.2 (by omega)
  cases h
  refine satP_of_vcX (T:=tiOf Tryz.prog) (E:=E0) PnF Tryz.func89 rfl rfl hE0 hm0 rfl ?_
  conv=>whnf
  iterate 5
   repeat' first|exact T0|(first|refine Or.inr ⟨_,_,c1.pu rfl rfl,?_⟩|refine Yd fun _=>?_|refine Ye fun _=>?_|refine Yg ?_|refine Yk (c0.at1 0 rfl rfl rfl) ?_|refine Yk (e1.at1 0 rfl rfl rfl) ?_);conv=>whnf|(refine Ya ?_ ?_<;>intro _<;>conv=>whnf)
   all_goals try (refine Or.inl ?_;conv=>whnf)
  all_goals refine⟨[],?_⟩
  repeat any_goals first|exact T0|exact rfl|exact Yr|refine Ya ?_ ?_
  all_goals conv=>whnf
 rw[if_neg (by simp[hz])] at h
 rw[hz] at e1
 have k1:=check_ok
 refine satP_of_vcX (T:=tiOf Tryz.prog) (E:=E0) PnF Tryz.func89 rfl rfl hE0 hm0 rfl ?_
 conv=>whnf
 iterate 3
  repeat' first|exact T0|(first|refine Yd fun _=>?_|refine Ye fun _=>?_|refine Yg ?_|refine Yk (c0.at1 0 rfl rfl rfl) ?_|refine Yk (e1.at1 0 rfl rfl rfl) ?_|refine Yk (k1.pu rfl rfl) ?_);conv=>whnf|(refine Ya ?_ ?_<;>intro _<;>conv=>whnf)
  all_goals try (refine Or.inl ?_;conv=>whnf)
 refine⟨Nat × List Evt × Rs,fun y=>y.1≤N∧evS (N-y.1) y.2.1 y.2.2=(.error e,s9)∧y.2.1.length≤y.1∧y.2.2.1.length≤65536,fun y=>([(12,iA y.1),(11,iA N),(3,.own 1),(0,.ptr 0 0)],[rsO y.2.2,.sl 4 (y.2.1.map evR)]),fun y=>N-y.1,⟨(0,[],s2),⟨Nat.zero_le _,h,Nat.zero_le _,by show s2.1.length≤_;omega⟩,?_⟩,?_⟩
 ·all_goals refine⟨[],?_⟩
  repeat any_goals first|exact T0|exact rfl|exact Yr|refine Ya ?_ ?_
  all_goals conv=>whnf
 rintro⟨k,ls,s3⟩ ⟨g1,g2,g3,g4⟩
 simp only at g1 g2 g3 g4
 have hls:(ls.map evR).length=ls.length:=List.length_map _
 conv=>whnf
 by_cases hk:k<N
 ·have dk:decide ((k:Int)<(N:Nat))=true:=decide_eq_true (by omega)
  rw[show N-k=(N-(k+1))+1 by omega,evS] at g2
  try simp only at g2
  have t1:=uintG_sat s3 g4
  have l1:=uintS_len s3
  generalize uintS s3=a at *
  obtain⟨x1,s4⟩:=a
  simp only at t1 l1 g2
  have t2:=intG_sat s4 (by omega)
  have l2:=intS_len s4
  generalize intS s4=b at *
  obtain⟨x2,s5⟩:=b
  simp only at t2 l2 g2
  have l3:=readS_len s5
  by_cases he:(readS s5).2.1=0
  ·have t3:=ser_ok s5 (by omega) he
   rw[if_neg (by simp[he])] at g2
   generalize readS s5=r at *
   obtain⟨x3,er,s6⟩:=r
   simp only at t3 l3 g2 he
   have apx:∀ {L:List AObj} {ty n s i j:Nat} {sx xx:Operand} (y:Evt),s=4→L[i]?=some (.sl 4 (ls.map evR))→L[j]?=some (.sl s [evR y])→Does Tryz.prog (.call { callee:=.builtin .append,args:=#[sx,xx],argTypes:=#[44,44] }) ty L n [.own i,.own j] ⟨[i,j],[(i,.dead)],[.sl 4 (ls.map evR++[evR y])]⟩ (.own n):=fun y hs h h'=>by
    subst hs
    exact ap 4 56 (by kernel_rfl) h h' (by rw[hls];simp only[List.length_cons,List.length_nil];omega)
   iterate 5
    repeat' first|exact T0|(first|refine Yd fun _=>?_|refine Ye fun _=>?_|refine Yg ?_|refine Yk (t1.at1 0 rfl rfl rfl) ?_|refine Yk (t2.at1 0 rfl rfl rfl) ?_|refine Yk (t3.at1 0 rfl rfl rfl) ?_|refine Yk (apx (stampZ x1,x2,x3) (by kernel_rfl) rfl rfl) ?_);conv=>whnf|(refine Ya ?_ ?_<;>intro _<;>conv=>whnf)
    all_goals try (refine Or.inl ?_;conv=>whnf)
   all_goals try exact (bnl dk ‹_›).elim
   refine⟨(k+1,ls++[(stampZ x1,x2,x3)],s6),⟨hk,g2,by rw[List.length_append];simp;omega,by show s6.1.length≤_;omega⟩,show N-(k+1)<N-k by omega,?_⟩
   all_goals refine⟨[(1,4)],?_⟩
   repeat any_goals first|exact T0|exact rfl|exact Yr|refine Ya ?_ ?_
   all_goals conv=>whnf
   ·exact wk1 (by omega)
   ·rw[List.map_append];rfl
  ·have t3:=ser_err s5 (by omega) he
   rw[if_pos he] at g2
   cases g2
   iterate 5
    repeat' first|exact T0|(first|refine Or.inr ⟨_,_,t3.at1 0 rfl rfl rfl,?_⟩|refine Yd fun _=>?_|refine Ye fun _=>?_|refine Yg ?_|refine Yk (t1.at1 0 rfl rfl rfl) ?_|refine Yk (t2.at1 0 rfl rfl rfl) ?_);conv=>whnf|(refine Ya ?_ ?_<;>intro _<;>conv=>whnf)
    all_goals try (refine Or.inl ?_;conv=>whnf)
   all_goals try exact (bnl dk ‹_›).elim
   all_goals refine⟨[],?_⟩
   repeat any_goals first|exact T0|exact rfl|exact Yr|refine Ya ?_ ?_
   all_goals conv=>whnf
 have dk:decide ((k:Int)<(N:Nat))=false:=decide_eq_false (by omega)
 rw[show N-k=0 by omega,evS] at g2
 cases g2
def slP (k:Nat) (h v:Value):Prop:=∃ b,h=.pointer (some ⟨b,0,none⟩)∧v=.slice (some ⟨b,0,none⟩) k k
def ptrL:List AV→Bool
 |[]=>true
 | .ptr _ _::r=>ptrL r
 |_=>false
section
variable {P:Program} {L:List AObj} {ty n i k:Nat} {t:TypeId} {x y:Operand} {t':TypeId}
def bsB (P:Program) (t len:Nat) (ps:List (Nat × Operand)):Bool:=match (tiOf P t).kind with
 | .sli=>(match (tiOf P (tiOf P t).elem).kind with | .non=>false|_=>true) && Nat.beq (tiOf P t).esize 1 && seqB ps 0 len && Nat.ble len 1000 && Nat.blt 0 len
 |_=>false
theorem ptrs_cells {w:World} {F:Nat→Prop} {ρ:Nat→Option Value}:∀ {xs:List AV} {vs:List Value},ptrL xs=true→RAs w F ρ xs vs→(vs.flatMap fun v=>v.cells.toList)=vs∧(∀ v∈vs,v.cells.size=1∧v.oneCell'=true)
 |[],_,_,h=>by cases h;exact⟨rfl,fun v hv=>by cases hv⟩
 | .ptr i o::r,_,hp,h=>by
  cases h with|cons h hr=>
  cases h with|ptr h=>
  obtain⟨h1,h2⟩:=ptrs_cells (xs:=r) hp hr
  exact⟨by rw[List.flatMap_cons,h1];rfl,fun v hv=>(List.mem_cons.1 hv).elim (fun e=>e ▸ ⟨rfl,rfl⟩) (h2 v)⟩
theorem bsP {ps:Array (Nat × Operand)} {xs:List AV} (hb:bsB P t k ps.toList=true) (hx0:ptrL xs=true):Does P (.buildSlice t k ps) ty L n xs ⟨[],[],[.cells xs]⟩ (.rel n (slP k)):=by
 intro o H F ρ w ev' ho ht En hrs hn hx
 unfold bsB at hb
 split at hb
 case h_2=>cases hb
 rename_i hk
 simp only[Bool.and_eq_true,Nat.ble_eq,Nat.blt_eq] at hb
 obtain⟨⟨⟨⟨he,hs⟩,hsq⟩,hle⟩,hpos⟩:=hb
 have hs:=Nat.eq_of_beq_eq_true hs
 have he:(tiOf P (tiOf P t).elem).kind≠.non:=fun e=>by rw[e] at he;cases he
 have hops:(Op.operands (.buildSlice t k ps)).toList=ps.toList.map (·.2):=by simp[Op.operands]
 rw[hops] at hx
 have hn0:H n=none:=by simpa using hn 0 (by simp)
 obtain⟨i0,z,g1,g2,g3,g4,g5,g6,_,_⟩:=ti_elem hk (by omega) he
 rw[hs] at g4 g6
 obtain⟨q1,q2⟩:=seqB_out (ev:=ev') hsq
 rw[List.map_map] at hx
 obtain⟨c1,c2⟩:=ptrs_cells hx0 hx
 have hlen:(List.map (ev'∘fun x=>x.snd) ps.toList).length=k:=by simp;simpa using q1
 have hvs:ps.toList.map (fun p=>ev' p.2)=List.map (ev'∘fun x=>x.snd) ps.toList:=rfl
 rw[hvs] at q2
 generalize List.map (ev'∘fun x=>x.snd) ps.toList=vs at q2 hx c1 c2 hlen
 have hrun:(Instr.buildSlice t k (ps.map fun (i,x)=>(i,ev' x))).run P w=.ok (.slice (some ⟨w.heap.size,0,none⟩) k k) (w.alloc (.cells vs.toArray (tiOf P t).elem)):=by
  refine run_buildSlice w t _ k _ _ i0 z g1 g2 g3 (by rw[g4];omega) (by rw[g4];omega) ?_
  have:=Great.fill_whole (s:=i0.size) (by omega) vs ((Array.range (k*i0.size)).map (z.cells[· % z.cells.size]!)) (by rw[g4];exact fun v hv=>(c2 v hv).1) (by simp[hlen])
  rw[c1] at this
  rw[←this]
  congr 1
  rw[←q2];simp
 have hrun':(execOp ev' o).run P w=.ok (.value (.slice (some ⟨w.heap.size,0,none⟩) k k)) (w.alloc (.cells vs.toArray (tiOf P t).elem)):=by
  simp[execOp,ho,hrun]
 rw[hrun']
 obtain⟨F',ρ',S1,K1,E1,R1⟩:=CRep.put (o:=.cells xs) (vs:=vs.toArray) (t:=(tiOf P t).elem) En hn0 ⟨by simpa using hx,fun v hv=>(c2 v (by simpa using hv)).2⟩
 refine⟨F',ρ',S1,K1,E1,?_⟩
 cases R1 with|ptr R1=>exact .rel R1 ⟨_,rfl,rfl⟩
theorem lenP (hk:(tiOf P t).kind=.sli):Does P (.call { callee:=.builtin .len,args:=#[x],argTypes:=#[t] }) ty L n [.rel i (slP k)] e0 (iA k):=
 does_val fun o w F ρ ev ho _ hx=>by
  have hops:(Op.operands (.call { callee:=.builtin .len,args:=#[x],argTypes:=#[t] })).toList=[x]:=by simp[Op.operands,Call.operands]
  rw[hops] at hx
  obtain⟨v,e',hv⟩:=hx.one_out
  simp at e'
  cases hv with|rel hi hp=>
  obtain⟨b,rfl,rfl⟩:=hp
  exact⟨_,by simp[execOp,ho,resolve,invoke,builtin,e',Builtin.len_,run_underlying (ti_sli hk).1,goInt],.d (.v _)⟩
theorem ixP {j:Nat} (hk:(tiOf P t).kind=.sli) (hs:(tiOf P t).esize=1) (hj:j<k):Does P (.indexAddr t x y) ty L n [.rel i (slP k),iA j] e0 (.ptr i j):=
 does_val fun o w F ρ ev ho _ hx=>by
  obtain⟨v,u,e',hv,hu⟩:=hx.two_out
  have:=hu.v_out
  subst this
  simp[Op.operands] at e'
  cases hv with|rel hi hp=>
  obtain⟨b,rfl,rfl⟩:=hp
  refine⟨_,?_,.ptr hi⟩
  have:=run_indexAt_sl (P:=P) (w:=w) hk (by omega) (A:=⟨b,0,none⟩) (m:=k) (c:=k) (k:=j) (kd:=.i64) hj
  rw[Addr.add_lit,hs] at this
  simp only[execOp,ho,e'.1,e'.2,Sem.run_bind,this,Result.andThen_ok,Sem.run_pure]
  simp
theorem eqnP (hk:(tiOf P t).kind=.sli):Does P (.binOp .eql t x y t') ty L n [.rel i (slP k),.d (.v (.slice none 0 0))] e0 (bA false):=
 does_ra2 rfl fun o w F ρ ev u v ho h1 h2 hu hv=>by
  have:=hv.v_out
  subst this
  cases hu with|rel hi hp=>
  obtain⟨b,rfl,rfl⟩:=hp
  exact exec_eq ho h1 h2 (guard_form _ _ rfl) (Lib.run_eql_slice_nil w t _ _ _ _ _ _ (ti_sli hk).1)
theorem eqnN (hk:(tiOf P t).kind=.sli):Does P (.binOp .eql t x y t') ty L n [.d (.v (.slice none 0 0)),.d (.v (.slice none 0 0))] e0 (bA true):=
 does_ra2 rfl fun o w F ρ ev u v ho h1 h2 hu hv=>by
  have:=hv.v_out
  subst this
  have:=hu.v_out
  subst this
  exact exec_eq ho h1 h2 (guard_form _ _ rfl) (Lib.run_eql_slice_nil w t _ _ _ _ _ _ (ti_sli hk).1)
end
structure Fr where
 k:Int
 a:Int
 e:Int
 b:Int
 c:Int
 g:Int
 s:Int
 n:Int
 t:Int
 w:Int
 ev:List Evt
 sr:Ser
 d:Bt
abbrev frR (f:Fr):List D:=[iD f.k,iD f.a,iD f.e,iD f.b,iD f.c,iD f.g,iD f.s,iD f.n,iD f.t,iD f.w,.sl 4 (f.ev.map evR),tD f.sr.1,.sl 2 (f.sr.2.map labR),bsD f.d]
abbrev frD (f:Fr):D:=.agg (frR f)
abbrev frA (f:Fr):List AV:=[iA f.k,iA f.a,iA f.e,iA f.b,iA f.c,iA f.g,iA f.s,iA f.n,iA f.t,iA f.w,.d (.sl 4 (f.ev.map evR)),.d (tD f.sr.1),.d (.sl 2 (f.sr.2.map labR)),.d (bsD f.d)]
def idxK:Nat→List Nat
 |1=>[1,3]
 |2=>[1,3,2]
 |3=>[1,3,4]
 |4=>[1,2,3,4,5,6]
 |5=>[1,2,7]
 |6=>[1,2,7]
 |7=>[1,2,7,8]
 |8=>[9]
 |_=>[]
abbrev ptrsK (k:Nat):List AV:=(idxK k).map fun j=>.ptr 0 j
abbrev frN (k a e b c g s n t w:Int):List AV:=[iA k,iA a,iA e,iA b,iA c,iA g,iA s,iA n,iA t,iA w,.d nilV,.d (tD []),.d nilV,.d nilV]
set_option maxHeartbeats 1000000 in
theorem fields_n (k:Nat) (h1:1≤k) (h8:k≤8) (a e b c g s n t w:Int):Sat Tryz.prog 57 [.ptr 0 0] [.cells (frN k a e b c g s n t w)] (.rel 1 (slP (idxK k).length)) [.cells (frN k a e b c g s n t w),.cells (ptrsK k)]:=by
 have hk:k=1∨k=2∨k=3∨k=4∨k=5∨k=6∨k=7∨k=8:=by omega
 rcases hk with rfl|rfl|rfl|rfl|rfl|rfl|rfl|rfl
 all_goals
  refine Vq Tryz.func57 rfl rfl ?_
  conv=>whnf
  iterate 14
   repeat' first|exact T0|(first|refine Yd fun _=>?_|refine Ye fun _=>?_|refine Yg ?_|refine Yk (bsP (by kernel_rfl) rfl) ?_);conv=>whnf|(refine Ya ?_ ?_<;>intro _<;>conv=>whnf)
   all_goals try (refine Or.inl ?_;conv=>whnf)
  all_goals try (exfalso;simp only[outL] at *;first|omega|contradiction|(simp_all;done)|(simp_all;omega))
  all_goals refine⟨[],?_⟩
  repeat any_goals first|exact T0|exact rfl|exact Yr|refine Ya ?_ ?_
  all_goals conv=>whnf
set_option maxHeartbeats 1000000 in
theorem fields_f (f:Fr) (k:Nat) (hf:f.k=k) (h1:1≤k) (h8:k≤8):Sat Tryz.prog 57 [.ptr 0 0] [.cells (frA f)] (.rel 1 (slP (idxK k).length)) [.cells (frA f),.cells (ptrsK k)]:=by
 have hk:k=1∨k=2∨k=3∨k=4∨k=5∨k=6∨k=7∨k=8:=by omega
 obtain⟨kk,a,e,b,c,g,s,n,t,w,ev,sr,d⟩:=f
 have hf:kk=k:=hf
 subst hf
 rcases hk with rfl|rfl|rfl|rfl|rfl|rfl|rfl|rfl
 all_goals
  refine Vq Tryz.func57 rfl rfl ?_
  conv=>whnf
  iterate 14
   repeat' first|exact T0|(first|refine Yd fun _=>?_|refine Ye fun _=>?_|refine Yg ?_|refine Yk (bsP (by kernel_rfl) rfl) ?_);conv=>whnf|(refine Ya ?_ ?_<;>intro _<;>conv=>whnf)
   all_goals try (refine Or.inl ?_;conv=>whnf)
  all_goals try (exfalso;simp only[outL] at *;first|omega|contradiction|(simp_all;done)|(simp_all;omega))
  all_goals refine⟨[],?_⟩
  repeat any_goals first|exact T0|exact rfl|exact Yr|refine Ya ?_ ?_
  all_goals conv=>whnf
end Go.Proofs.YtfbfpnfgabamfaaGreat
namespace Go.Proofs.YtfbfpnfgabamfaaGreat
set_option linter.unusedSimpArgs false
set_option linter.unusedVariables false
open Go.RowKit
set_option linter.unusedSectionVars false
abbrev Kd:=Option IntKind
def okV:Kd→Value→Prop
 |none,v=>∃ b,v=.bool b
 |some q,v=>∃ z,v=.int q z∧(Lit.int q z).wf=true
def okL:List Kd→List Value→Prop
 |[],vs=>vs=[]
 |k::ks,vs=>∃ v r,vs=v::r∧okV k v∧okL ks r
def litV:Value→Lit
 | .bool b=>.bool b
 | .int q z=>.int q z
 |_=>.bool false
theorem okL_len:∀ {ks:List Kd} {vs:List Value},okL ks vs→vs.length=ks.length
 |[],_,h=>by cases h;rfl
 |_::_,_,⟨_,_,rfl,_,h⟩=>by simp[okL_len h]
theorem okL_app:∀ {las bs:List Kd} {vs:List Value},okL (las++bs) vs→∃ x y,vs=x++y∧okL las x∧okL bs y
 |[],_,vs,h=>⟨[],vs,rfl,rfl,h⟩
 |_::_,_,_,⟨v,r,rfl,h1,h⟩=>by
  obtain⟨x,y,rfl,h2,h3⟩:=okL_app h
  exact⟨v::x,y,rfl,⟨v,x,rfl,h1,h2⟩,h3⟩
theorem litV_inj:∀ {ks:List Kd} {us vs:List Value},okL ks us→okL ks vs→(us.map litV=vs.map litV↔us=vs)
 |[],_,_,h,h'=>by cases h;cases h';simp
 |none::ks,_,_,⟨_,r,rfl,⟨b,rfl⟩,h⟩,⟨_,r',rfl,⟨b',rfl⟩,h'⟩=>by
  simp[litV,litV_inj h h']
 |some q::ks,_,_,⟨_,r,rfl,⟨z,rfl,_⟩,h⟩,⟨_,r',rfl,⟨z',rfl,_⟩,h'⟩=>by
  simp[litV,litV_inj h h']
section
variable {P:Program} {L:List AObj} {ty n:Nat} {x y:Operand} {t t':TypeId}
def fieldsK (P:Program) (k:TypeId→Option (List Kd)):List Field→Nat→Option (List Kd)
 |[],_=>some []
 |f::fs,o=>match Nat.beq f.offset o,k f.type with
  |true,some a=>(match Nat.beq a.length (P.cellsOf f.type),fieldsK P k fs (o+a.length) with
   |true,some b=>some (a++b)
   |_,_=>none)
  |_,_=>none
def kinds (P:Program):Nat→TypeId→Option (List Kd)
 |0,_=>none
 |m+1,t=>match P.underlying t with
  |some .bool=>some [none]
  |some (.int q)=>some [some q]
  |some (.array n e)=>(match kinds P m e with
   |some ks=>if ks.length=P.cellsOf e∧n*ks.length=P.cellsOf t then some (List.replicate n ks).flatten else none
   |none=>none)
  |some (.struct fs)=>(match fieldsK P (kinds P m) fs.toList 0 with
   |some ks=>if ks.length=P.cellsOf t∧fs.all (·.name != "_")=true then some ks else none
   |none=>none)
  |_=>none
theorem fieldsK_lits {k:TypeId→Option (List Kd)} {K:TypeId→List Value→Option (List Lit)} (hk:∀ t ks us,k t=some ks→okL ks us→K t us=some (us.map litV)) (vs:List Value):∀ (fs:List Field) (o:Nat) (ks:List Kd),fieldsK P k fs o=some ks→okL ks (vs.drop o) →
  ∃ las,fs.mapM (fun f=>K f.type ((vs.drop f.offset).take (P.cellsOf f.type)))=some las∧las.flatten=(vs.drop o).map litV
 |[],o,ks,h,hv=>by
  have h:some []=some ks:=h
  cases h
  have hv:vs.drop o=[]:=hv
  exact⟨[],rfl,by rw[hv];rfl⟩
 |f::fs,o,ks,h,hv=>by
  unfold fieldsK at h
  split at h
  ·rename_i a h1 h2
   have h1:=Nat.eq_of_beq_eq_true h1
   split at h
   ·rename_i b h3 h4
    have h3:=Nat.eq_of_beq_eq_true h3
    cases h
    obtain⟨u,w,e,hu,hw⟩:=okL_app hv
    have hul:=okL_len hu
    have e1:(vs.drop f.offset).take (P.cellsOf f.type)=u:=by rw[h1,e,List.take_left' (by omega)]
    have e2:vs.drop (o+a.length)=w:=by rw[←List.drop_drop,e,List.drop_left' hul]
    obtain⟨las,g1,g2⟩:=fieldsK_lits hk vs fs _ b h4 (by rw[e2];exact hw)
    refine⟨u.map litV::las,?_,?_⟩
    ·rw[List.mapM_cons,e1,hk _ _ _ h2 hu,g1];rfl
    ·rw[List.flatten_cons,g2,e2,e,List.map_append]
   ·cases h
  ·cases h
theorem array_lits {ks:List Kd} {c:Nat} {K:List Value→Option (List Lit)} (hK:∀ us,okL ks us→K us=some (us.map litV)) (hc:ks.length=c) (vs:List Value):∀ (n s:Nat),okL (List.replicate n ks).flatten (vs.drop (s*c)) →
  ∃ las,(List.range' s n).mapM (fun i=>K ((vs.drop (i*c)).take c))=some las∧las.flatten=(vs.drop (s*c)).map litV
 |0,s,h=>by
  have h:vs.drop (s*c)=[]:=h
  exact⟨[],rfl,by rw[h];rfl⟩
 |n+1,s,h=>by
  rw[List.replicate_succ,List.flatten_cons] at h
  obtain⟨u,w,e,hu,hw⟩:=okL_app h
  have hul:=okL_len hu
  have e1:(vs.drop (s*c)).take c=u:=by rw[e,List.take_left' (by omega)]
  have e2:vs.drop ((s+1)*c)=w:=by rw[Nat.add_mul,Nat.one_mul,←List.drop_drop,e,List.drop_left' (by omega)]
  obtain⟨las,g1,g2⟩:=array_lits hK hc vs n (s+1) (by rw[e2];exact hw)
  refine⟨u.map litV::las,?_,?_⟩
  ·rw[List.range'_succ,List.mapM_cons,e1,hK _ hu,g1];rfl
  ·rw[List.flatten_cons,g2,e2,e,List.map_append]
theorem kinds_lits:∀ (m:Nat) (t:TypeId) (ks:List Kd) (us:List Value),kinds P m t=some ks→okL ks us→P.keyLits m t us=some (us.map litV)
 |0,_,_,_,h,_=>by cases h
 |m+1,t,ks,us,h,hu=>by
  unfold kinds at h
  have hl:=okL_len hu
  split at h
  ·rename_i hy
   cases h
   obtain⟨v,r,rfl,⟨b,rfl⟩,hr⟩:=hu
   have hr:r=[]:=hr
   subst hr
   simp[Program.keyLits,hy,litV]
  ·rename_i q hy
   cases h
   obtain⟨v,r,rfl,⟨z,rfl,hz⟩,hr⟩:=hu
   have hr:r=[]:=hr
   subst hr
   simp[Program.keyLits,hy,litV,hz]
  ·rename_i n e hy
   split at h
   ·rename_i ks0 hk0
    split at h
    ·rename_i hc
     cases h
     have hlen:(List.replicate n ks0).flatten.length=n*ks0.length:=by simp
     unfold Program.keyLits
     rw[hy]
     have:=array_lits (K:=P.keyLits m e) (fun us hu=>kinds_lits m e ks0 us hk0 hu) hc.1 us n 0 (by simpa using hu)
     obtain⟨las,g1,g2⟩:=this
     simp only[]
     rw[if_pos (by rw[hl,hlen];exact hc.2),List.range_eq_range',g1]
     simp[g2]
    ·cases h
   ·cases h
  ·rename_i fs hy
   split at h
   ·rename_i ks0 hk0
    split at h
    ·rename_i hc
     cases h
     unfold Program.keyLits
     rw[hy]
     obtain⟨las,g1,g2⟩:=fieldsK_lits (K:=P.keyLits m) (fun t ks us h1 h2=>kinds_lits m t ks us h1 h2) us fs.toList 0 ks hk0 (by simpa using hu)
     simp only[]
     rw[if_pos ⟨by rw[hl];exact hc.1,hc.2⟩,g1]
     simp[g2]
    ·cases h
   ·cases h
  ·cases h
def wideT (P:Program) (t:TypeId):Bool:=match P.underlying t with|some (.array _ _)=>true|some (.struct _)=>true|_=>false
def scB (P:Program) (t:TypeId) (ks:List Kd):Bool:=P.keyTypeAt 8 t && wideT P t && !P.eqGuardType P.depth t && decide (kinds P 8 t=some ks) && Nat.beq ks.length (P.cellsOf t)
theorem formed_wide {us:List Value} (h:wideT P t=true) (hl:us.length=P.cellsOf t):(Value.agg us.toArray).formed P t=true:=by
 unfold wideT at h
 split at h
 ·rename_i hy;simp[Value.formed,hy,hl]
 ·rename_i hy;simp[Value.formed,hy,hl]
 ·cases h
theorem run_scalars {ks:List Kd} (h:scB P t ks=true) {us vs:List Value} (hu:okL ks us) (hv:okL ks vs) {b:Bool} (hb:b=true↔us=vs) (w:World):(Op.equalIn 10000 t (.agg us.toArray) (.agg vs.toArray)).run P w=.ok b w:=by
 unfold scB at h
 simp only[Bool.and_eq_true,Bool.not_eq_true',decide_eq_true_eq] at h
 obtain⟨⟨⟨⟨h1,h2⟩,h3⟩,h4⟩,h5⟩:=h
 have h5:=Nat.eq_of_beq_eq_true h5
 have hE:EqAt P 10000 t:=run_equalIn_deep 9992 8 t h1
 obtain⟨r,hr,hiff⟩:=hE w 8 8 _ _ _ _ (formed_wide (us:=us) h2 (by rw[okL_len hu,h5])) (formed_wide (us:=vs) h2 (by rw[okL_len hv,h5])) (kinds_lits 8 t ks _ h4 (by simpa [Value.cells] using hu)) (kinds_lits 8 t ks _ h4 (by simpa [Value.cells] using hv))
 rw[hr]
 have e:r=b:=by
  rw[Bool.eq_iff_iff,hiff,hb]
  simpa [Value.cells] using litV_inj hu hv
 rw[e]
theorem eqSc {ks:List Kd} (h:scB P t ks=true) {xs ys:List D} {us vs:List Value} (fx:FlatVs xs us) (fy:FlatVs ys vs) (hu:okL ks us) (hv:okL ks vs) {b:Bool} (hb:b=true↔us=vs) :
  Does P (.binOp .eql t x y t') ty L n [.d (.agg xs),.d (.agg ys)] e0 (.d (.v (.bool b))):=
 does_ra2 rfl fun o w F ρ ev u v ho h1 h2 hu' hv'=>by
  have:=FlatW.eq (.d (.agg fx)) hu'
  subst this
  have:=FlatW.eq (.d (.agg fy)) hv'
  subst this
  have hg:P.eqGuardType P.depth t=false:=by
   unfold scB at h
   simp only[Bool.and_eq_true,Bool.not_eq_true'] at h
   exact h.1.1.2
  exact exec_eq ho h1 h2 (run_eqGuard_agg w .eql _ _ _ _ _ hg) (by rw[run_eql_struct,run_scalars h hu hv hb];rfl)
end
end Go.Proofs.YtfbfpnfgabamfaaGreat
namespace Go.Proofs.YtfbfpnfgabamfaaGreat
set_option linter.unusedSimpArgs false
open Go.RowKit
set_option maxRecDepth 100000
set_option linter.unusedVariables false
theorem bEqual_sat (a b:Bt):Sat Tryz.prog 54 [.d (bsD a),.d (bsD b)] [] (bA (decide (a=b))) []:=by
 refine Vq Tryz.func54 rfl rfl ?_
 conv=>whnf
 iterate 3
  repeat' first|exact T0|(first|refine Yd fun _=>?_|refine Ye fun _=>?_|refine Yg ?_|refine Yk (str_d a) ?_|refine Yk (str_d b) ?_|refine Yk (eqL' (a:=a) (b:=b)) ?_);conv=>whnf|(refine Ya ?_ ?_<;>intro _<;>conv=>whnf)
  all_goals try (refine Or.inl ?_;conv=>whnf)
 all_goals refine⟨[],?_⟩
 repeat any_goals first|exact T0|exact rfl|exact Yr|refine Ya ?_ ?_
 all_goals conv=>whnf
def evEq (x y:Evt):Bool:=decide (x.1=y.1) && (decide (x.2.1=y.2.1) && decide (x.2.2=y.2.2))
theorem evEq_iff {x y:Evt}:evEq x y=true↔x=y:=by
 obtain⟨x1,x2,x3⟩:=x
 obtain⟨y1,y2,y3⟩:=y
 simp[evEq]
theorem evSame_sat (x y:Evt) (hn:x.2.2.2.length≤1000000):Sat Tryz.prog 52 [.d (.agg (evR x)),.d (.agg (evR y))] [] (bA (evEq x y)) []:=by
 obtain⟨x1,x2,x3⟩:=x
 obtain⟨y1,y2,y3⟩:=y
 have c1:=serCmp_sat x3 y3 hn
 have hz:=serCmp_zero (a:=x3) (b:=y3)
 unfold evEq
 by_cases h1:x1=y1
 case neg=>
  have d1:(x1 == y1)=false:=by rw[beq_eq_false_iff_ne];exact h1
  rw[decide_eq_false h1]
  refine Vq Tryz.func52 rfl rfl ?_
  conv=>whnf
  iterate 5
   repeat' first|exact T0|(first|refine Yd fun _=>?_|refine Ye fun _=>?_|refine Yg ?_);conv=>whnf|(refine Ya ?_ ?_<;>intro _<;>conv=>whnf)
   all_goals try (refine Or.inl ?_;conv=>whnf)
  all_goals try exact (bnl ‹_› d1).elim
  all_goals refine⟨[],?_⟩
  repeat any_goals first|exact T0|exact rfl|exact Yr|refine Ya ?_ ?_
  all_goals conv=>whnf
 have d1:(x1 == y1)=true:=by rw[beq_iff_eq];exact h1
 rw[decide_eq_true h1]
 by_cases h2:x2=y2
 case neg=>
  have d2:(x2 == y2)=false:=by rw[beq_eq_false_iff_ne];exact h2
  rw[decide_eq_false h2]
  refine Vq Tryz.func52 rfl rfl ?_
  conv=>whnf
  iterate 5
   repeat' first|exact T0|(first|refine Yd fun _=>?_|refine Ye fun _=>?_|refine Yg ?_);conv=>whnf|(refine Ya ?_ ?_<;>intro _<;>conv=>whnf)
   all_goals try (refine Or.inl ?_;conv=>whnf)
  all_goals try exact (bnl d1 ‹_›).elim
  all_goals try exact (bnl ‹_› d2).elim
  all_goals refine⟨[],?_⟩
  repeat any_goals first|exact T0|exact rfl|exact Yr|refine Ya ?_ ?_
  all_goals conv=>whnf
 have d2:(x2 == y2)=true:=by rw[beq_iff_eq];exact h2
 rw[decide_eq_true h2]
 have e3:(serCmp x3 y3 == 0)=decide (x3=y3):=by rw[Bool.eq_iff_iff,beq_iff_eq,decide_eq_true_eq];exact hz
 refine Vq Tryz.func52 rfl rfl ?_
 conv=>whnf
 iterate 5
  repeat' first|exact T0|(first|refine Yd fun _=>?_|refine Ye fun _=>?_|refine Yg ?_|refine Yk (c1.pu rfl rfl) ?_);conv=>whnf|(refine Ya ?_ ?_<;>intro _<;>conv=>whnf)
  all_goals try (refine Or.inl ?_;conv=>whnf)
 all_goals try exact (bnl d1 ‹_›).elim
 all_goals try exact (bnl d2 ‹_›).elim
 all_goals refine⟨[],?_⟩
 repeat any_goals first|exact T0|exact rfl|exact Yr|refine Ya ?_ ?_
 all_goals conv=>whnf
 rw[e3];rfl
abbrev evF:AV:=.fn (.func 52) [] []
def evsEq:List Evt→List Evt→Bool
 |[],[]=>true
 |x::r,y::r'=>evEq x y && evsEq r r'
 |_,_=>false
theorem evsEq_iff:∀ {l k:List Evt},evsEq l k=true↔l=k
 |[],[]=>by simp[evsEq]
 |x::r,[]=>by simp[evsEq]
 |[],y::r'=>by simp[evsEq]
 |x::r,y::r'=>by
  rw[evsEq,Bool.and_eq_true,evEq_iff,evsEq_iff]
  simp
theorem evsEq_len:∀ {l k:List Evt},l.length≠k.length→evsEq l k=false
 |[],[],h=>absurd rfl h
 |x::r,[],_=>rfl
 |[],y::r',_=>rfl
 |x::r,y::r',h=>by
  rw[evsEq,evsEq_len (l:=r) (k:=r') (by simpa using h),Bool.and_false]
set_option maxHeartbeats 2000000 in
theorem evsEq_sat (l k:List Evt) (hn:l.length≤1000000) (hl:∀ x∈l,x.2.2.2.length≤1000000):Sat Tryz.prog 51 [.d (.sl 4 (l.map evR)),.d (.sl 4 (k.map evR)),evF] [] (bA (evsEq l k)) []:=by
 have hll:(l.map evR).length=l.length:=List.length_map _
 have hlk:(k.map evR).length=k.length:=List.length_map _
 by_cases hlen:l.length=k.length
 case neg=>
  have d1:(((l.map evR).length:Int) != ((k.map evR).length:Int))=true:=by rw[bne_iff_ne,hll,hlk];omega
  rw[evsEq_len hlen]
  refine Vq Tryz.func51 rfl rfl ?_
  conv=>whnf
  iterate 3
   repeat' first|exact T0|(first|refine Yd fun _=>?_|refine Ye fun _=>?_|refine Yg ?_);conv=>whnf|(refine Ya ?_ ?_<;>intro _<;>conv=>whnf)
   all_goals try (refine Or.inl ?_;conv=>whnf)
  all_goals try exact (bnl d1 ‹_›).elim
  all_goals refine⟨[],?_⟩
  repeat any_goals first|exact T0|exact rfl|exact Yr|refine Ya ?_ ?_
  all_goals conv=>whnf
 have d1:(((l.map evR).length:Int) != ((k.map evR).length:Int))=false:=by rw[hll,hlk,hlen];simp
 refine Vq Tryz.func51 rfl rfl ?_
 conv=>whnf
 iterate 3
  repeat' first|exact T0|(first|refine Yd fun _=>?_|refine Ye fun _=>?_|refine Yg ?_);conv=>whnf|(refine Ya ?_ ?_<;>intro _<;>conv=>whnf)
  all_goals try (refine Or.inl ?_;conv=>whnf)
 all_goals try exact (bnl ‹_› d1).elim
 refine⟨Nat,fun i=>i≤l.length∧evsEq l k=evsEq (l.drop i) (k.drop i),fun i=>([(17,iA i),(16,iA (l.map evR).length),(15,.d (.sl 4 (l.map evR))),(2,evF),(1,.d (.sl 4 (k.map evR))),(0,.d (.sl 4 (l.map evR)))],[]),fun i=>l.length-i,⟨0,⟨Nat.zero_le _,rfl⟩,?_⟩,?_⟩
 ·all_goals refine⟨[],?_⟩
  repeat any_goals first|exact T0|exact rfl|exact Yr|refine Ya ?_ ?_
  all_goals conv=>whnf
 rintro i ⟨hi,hI⟩
 have hi:i≤l.length:=hi
 rw[hI]
 conv=>whnf
 by_cases hlt:i<l.length
 ·have hx:l[i]?=some l[i]:=List.getElem?_eq_getElem hlt
  generalize l[i]=x at hx
  have hy:k[i]?=some k[i]:=List.getElem?_eq_getElem (by omega)
  generalize k[i]'(by omega)=y at hy
  have hgx:=map_get (f:=evR) hx
  have hgy:=map_get (f:=evR) hy
  have c1:=evSame_sat x y (hl x (List.mem_of_getElem? hx))
  have d2:decide ((i:Int)<((l.map evR).length:Nat))=true:=decide_eq_true (by rw[hll];omega)
  rw[drop_cons hx,drop_cons hy,evsEq]
  cases he:evEq x y with
  |false=>
   rw[he] at c1
   iterate 5
    repeat' first|exact T0|(first|refine⟨i,_,rfl,hgx,?_⟩|refine⟨i,_,rfl,hgy,?_⟩|refine Yd fun _=>?_|refine Ye fun _=>?_|refine Yg ?_|refine Yk (c1.pu rfl rfl) ?_);conv=>whnf|(refine Ya ?_ ?_<;>intro _<;>conv=>whnf)
    all_goals try (refine Or.inl ?_;conv=>whnf)
   all_goals try exact (bnl d2 ‹_›).elim
   all_goals try (exfalso;simp only[outL] at *;first|omega|contradiction|(simp_all;done)|(simp_all;omega))
   all_goals refine⟨[],?_⟩
   repeat any_goals first|exact T0|exact rfl|exact Yr|refine Ya ?_ ?_
   all_goals conv=>whnf
  |true=>
   rw[he] at c1
   iterate 5
    repeat' first|exact T0|(first|refine⟨i,_,rfl,hgx,?_⟩|refine⟨i,_,rfl,hgy,?_⟩|refine Yd fun _=>?_|refine Ye fun _=>?_|refine Yg ?_|refine Yk (c1.pu rfl rfl) ?_);conv=>whnf|(refine Ya ?_ ?_<;>intro _<;>conv=>whnf)
    all_goals try (refine Or.inl ?_;conv=>whnf)
   all_goals try exact (bnl d2 ‹_›).elim
   all_goals try (exfalso;simp only[outL] at *;first|omega|contradiction|(simp_all;done)|(simp_all;omega))
   refine⟨i+1,⟨hlt,by first|exact Bool.true_and _|(rw[he];exact Bool.true_and _)⟩,show l.length-(i+1)<l.length-i by omega,?_⟩
   all_goals refine⟨[],?_⟩
   repeat any_goals first|exact T0|exact rfl|exact Yr|refine Ya ?_ ?_
   all_goals conv=>whnf
   exact wk1 (by omega)
 ·have d2:decide ((i:Int)<((l.map evR).length:Nat))=false:=decide_eq_false (by rw[hll];omega)
  rw[List.drop_of_length_le (by omega),List.drop_of_length_le (by omega)]
  iterate 4
   repeat' first|exact T0|(first|refine Yd fun _=>?_|refine Ye fun _=>?_|refine Yg ?_);conv=>whnf|(refine Ya ?_ ?_<;>intro _<;>conv=>whnf)
   all_goals try (refine Or.inl ?_;conv=>whnf)
  all_goals try exact (bnl ‹_› d2).elim
  all_goals refine⟨[],?_⟩
  repeat any_goals first|exact T0|exact rfl|exact Yr|refine Ya ?_ ?_
  all_goals conv=>whnf
structure FrOk (f:Fr):Prop where
 k:in64 f.k
 a:in64 f.a
 e:in64 f.e
 b:in64 f.b
 c:in64 f.c
 g:in64 f.g
 s:in64 f.s
 n:in64 f.n
 t:in64 f.t
 w:in64 f.w
 evn:f.ev.length≤1000000
 evl:∀ x∈f.ev,x.2.2.2.length≤1000000
 srl:f.sr.2.length≤1000000
abbrev nmL (f:Fr):List Int:=[f.b,f.c,f.g,f.s,f.n,f.t,f.w]
abbrev nmD (f:Fr):D:=.agg ((nmL f).map iD)
theorem numbers_sat (f:Fr):Sat Tryz.prog 50 [.d (frD f)] [] (.d (nmD f)) []:=by
 refine Vq Tryz.func50 rfl rfl ?_
 conv=>whnf
 iterate 3
  repeat' first|exact T0|(first|refine Yd fun _=>?_|refine Ye fun _=>?_|refine Yg ?_);conv=>whnf|(refine Ya ?_ ?_<;>intro _<;>conv=>whnf)
  all_goals try (refine Or.inl ?_;conv=>whnf)
 all_goals refine⟨[],?_⟩
 repeat any_goals first|exact T0|exact rfl|exact Yr|refine Ya ?_ ?_
 all_goals conv=>whnf
def headB (f g:Fr):Bool:=decide (f.k=g.k∧f.a=g.a∧f.e=g.e)
def nmB (f g:Fr):Bool:=decide (nmL f=nmL g)
def sameB (f g:Fr):Bool:=headB f g && (nmB f g && (evsEq f.ev g.ev && (decide (f.sr=g.sr) && decide (f.d=g.d))))
theorem sameB_iff {f g:Fr}:sameB f g=true↔f=g:=by
 obtain⟨k,a,e,b,c,g1,s,n,t,w,ev,sr,d⟩:=f
 obtain⟨k',a',e',b',c',g1',s',n',t',w',ev',sr',d'⟩:=g
 simp[sameB,headB,nmB,evsEq_iff]
 constructor
 ·rintro⟨⟨h1,h2,h3⟩,⟨h4,h5,h6,h7,h8,h9,h10⟩,h11,h12,h13⟩
  simp_all
 ·rintro⟨h1,h2,h3,h4,h5,h6,h7,h8,h9,h10,h11,h12,h13⟩
  simp_all
theorem in64_wf {z:Int} (h:in64 z):(Lit.int .i64 z).wf=true:=by
 unfold in64 at h
 simp[Lit.wf,IntKind.min,IntKind.max,IntKind.signed,IntKind.bits]
 omega
theorem okI {z:Int} (h:in64 z):okV (some .i64) (.int .i64 z):=⟨z,rfl,in64_wf h⟩
theorem okLs:∀ {l:List Int},(∀ z∈l,in64 z)→okL (l.map fun _=>some IntKind.i64) (l.map fun z=>Value.int .i64 z)
 |[],_=>rfl
 |z::l,h=>⟨_,_,rfl,okI (h z (List.mem_cons_self ..)),okLs fun x hx=>h x (List.mem_cons_of_mem _ hx)⟩
theorem flatL:∀ (l:List Int),FlatVs (l.map iD) (l.map fun z=>Value.int .i64 z)
 |[]=>.nil
 |z::l=>.cons (.v _) rfl (flatL l)
theorem valL_inj {l k:List Int}:(l.map fun z=>Value.int .i64 z)=(k.map fun z=>Value.int .i64 z)↔l=k:=by
 constructor
 ·intro h
  induction l generalizing k with
  |nil=>cases k with|nil=>rfl|cons y k=>cases h
  |cons x l ih=>cases k with|nil=>cases h|cons y k=>injection h with h1 h2;injection h1 with _ h1;rw[h1,ih h2]
 ·intro h;rw[h]
theorem eqHd {L:List AObj} {ty n:Nat} {x y:Operand} {t':TypeId} {f g:Fr} (hf:FrOk f) (hg:FrOk g):Does Tryz.prog (.binOp .eql 53 x y t') ty L n [.d (.agg [iD f.k,iD f.a,iD f.e]),.d (.agg [iD g.k,iD g.a,iD g.e])] e0 (bA (headB f g)):=
 eqSc (ks:=[some .i64,some .i64,some .i64]) (by kernel_rfl) (flatL [f.k,f.a,f.e]) (flatL [g.k,g.a,g.e]) (okLs (l:=[f.k,f.a,f.e]) (by intro z hz;simp at hz;rcases hz with rfl|rfl|rfl;exact hf.k;exact hf.a;exact hf.e)) (okLs (l:=[g.k,g.a,g.e]) (by intro z hz;simp at hz;rcases hz with rfl|rfl|rfl;exact hg.k;exact hg.a;exact hg.e)) (by rw[valL_inj];unfold headB;rw[decide_eq_true_eq];simp)
theorem eqNm {L:List AObj} {ty n:Nat} {x y:Operand} {t':TypeId} {f g:Fr} (hf:FrOk f) (hg:FrOk g):Does Tryz.prog (.binOp .eql 98 x y t') ty L n [.d (nmD f),.d (nmD g)] e0 (bA (nmB f g)):=
 eqSc (ks:=[some .i64,some .i64,some .i64,some .i64,some .i64,some .i64,some .i64]) (by kernel_rfl) (flatL (nmL f)) (flatL (nmL g)) (okLs (l:=nmL f) (by intro z hz;simp at hz;rcases hz with rfl|rfl|rfl|rfl|rfl|rfl|rfl;exact hf.b;exact hf.c;exact hf.g;exact hf.s;exact hf.n;exact hf.t;exact hf.w)) (okLs (l:=nmL g) (by intro z hz;simp at hz;rcases hz with rfl|rfl|rfl|rfl|rfl|rfl|rfl;exact hg.b;exact hg.c;exact hg.g;exact hg.s;exact hg.n;exact hg.t;exact hg.w)) (by rw[valL_inj];unfold nmB;rw[decide_eq_true_eq])
set_option maxHeartbeats 4000000 in
theorem same_sat (f g:Fr) (hf:FrOk f) (hg:FrOk g):Sat Tryz.prog 25 [.d (frD f),.d (frD g)] [] (bA (sameB f g)) []:=by
 have n1:=numbers_sat f
 have n2:=numbers_sat g
 have v1:=evsEq_sat f.ev g.ev hf.evn hf.evl
 have c1:=serCmp_sat f.sr g.sr hf.srl
 have b1:=bEqual_sat f.d g.d
 have e1:=fun {L ty n x y t'}=>eqHd (L:=L) (ty:=ty) (n:=n) (x:=x) (y:=y) (t':=t') hf hg
 have e2:=fun {L ty n x y t'}=>eqNm (L:=L) (ty:=ty) (n:=n) (x:=x) (y:=y) (t':=t') hf hg
 have e3:(serCmp f.sr g.sr == 0)=decide (f.sr=g.sr):=by rw[Bool.eq_iff_iff,beq_iff_eq,decide_eq_true_eq];exact serCmp_zero
 unfold sameB
 generalize headB f g=hb at *
 generalize nmB f g=nb at *
 generalize evsEq f.ev g.ev=eb at *
 generalize serCmp f.sr g.sr=z at *
 rw[←e3]
 clear e3
 generalize decide (f.d=g.d)=db at *
 cases hb<;>cases nb<;>cases eb
 all_goals
  refine Vq Tryz.func25 rfl rfl ?_
  conv=>whnf
  iterate 5
   repeat' first|exact T0|(first|refine Yd fun _=>?_|refine Ye fun _=>?_|refine Yg ?_|refine Yk (e1) ?_|refine Yk (e2) ?_|refine Yk (n1.pu rfl rfl) ?_|refine Yk (n2.pu rfl rfl) ?_|refine Yk (v1.pu rfl rfl) ?_|refine Yk (c1.pu rfl rfl) ?_|refine Yk (b1.pu rfl rfl) ?_);conv=>whnf|(refine Ya ?_ ?_<;>intro _<;>conv=>whnf)
   all_goals try (refine Or.inl ?_;conv=>whnf)
  all_goals try (exfalso;simp only[outL] at *;first|omega|contradiction|(simp_all;done)|(simp_all;omega))
  all_goals refine⟨[],?_⟩
  repeat any_goals first|exact T0|exact rfl|exact Yr|refine Ya ?_ ?_
  all_goals conv=>whnf
  all_goals first|(rw[‹(z == 0)=true›];rfl)|(rw[‹(z == 0)=false›];rfl)
def rngB (z:Int):Bool:=decide (0≤z) && decide (z≤4611686018427387903)
def evOk (x:Evt):Bool:=rngB x.1 && rightB x.2.2
def batchB (n:Int) (l:List Evt):Bool:=decide (1≤l.length) && (decide (l.length≤64) && (decide (n≤1099511627776-(l.length:Int)) && l.all evOk))
set_option maxHeartbeats 2000000 in
theorem batch_sat (n:Int) (l:List Evt) (hn:l.length≤1000000):Sat Tryz.prog 97 [iA n,.d (.sl 4 (l.map evR))] [] (bA (batchB n l)) []:=by
 have hl:(l.map evR).length=l.length:=List.length_map _
 have hw:IntKind.i64.wrap (1099511627776-((l.map evR).length:Int))=1099511627776-(l.length:Int):=by rw[hl,wi (by omega) (by omega)]
 unfold batchB
 by_cases h1:1≤l.length
 case neg=>
  have d1:decide (((l.map evR).length:Int)<1)=true:=decide_eq_true (by rw[hl];omega)
  rw[decide_eq_false h1]
  refine Vq Tryz.func97 rfl rfl ?_
  conv=>whnf
  iterate 3
   repeat' first|exact T0|(first|refine Yd fun _=>?_|refine Ye fun _=>?_|refine Yg ?_);conv=>whnf|(refine Ya ?_ ?_<;>intro _<;>conv=>whnf)
   all_goals try (refine Or.inl ?_;conv=>whnf)
  all_goals try exact (bnl d1 ‹_›).elim
  all_goals refine⟨[],?_⟩
  repeat any_goals first|exact T0|exact rfl|exact Yr|refine Ya ?_ ?_
  all_goals conv=>whnf
 have d1:decide (((l.map evR).length:Int)<1)=false:=decide_eq_false (by rw[hl];omega)
 by_cases h2:l.length≤64
 case neg=>
  have d2:decide (((l.map evR).length:Int)>64)=true:=decide_eq_true (by rw[hl];omega)
  rw[decide_eq_false h2,Bool.false_and,Bool.and_false]
  refine Vq Tryz.func97 rfl rfl ?_
  conv=>whnf
  iterate 3
   repeat' first|exact T0|(first|refine Yd fun _=>?_|refine Ye fun _=>?_|refine Yg ?_);conv=>whnf|(refine Ya ?_ ?_<;>intro _<;>conv=>whnf)
   all_goals try (refine Or.inl ?_;conv=>whnf)
  all_goals try exact (bnl d2 ‹_›).elim
  all_goals try exact (bnl ‹_› d1).elim
  all_goals refine⟨[],?_⟩
  repeat any_goals first|exact T0|exact rfl|exact Yr|refine Ya ?_ ?_
  all_goals conv=>whnf
 have d2:decide (((l.map evR).length:Int)>64)=false:=decide_eq_false (by rw[hl];omega)
 by_cases h3:n≤1099511627776-(l.length:Int)
 case neg=>
  have d3:decide (n>IntKind.i64.wrap (1099511627776-((l.map evR).length:Int)))=true:=decide_eq_true (by rw[hw];omega)
  rw[decide_eq_false h3,Bool.false_and,Bool.and_false,Bool.and_false]
  refine Vq Tryz.func97 rfl rfl ?_
  conv=>whnf
  iterate 3
   repeat' first|exact T0|(first|refine Yd fun _=>?_|refine Ye fun _=>?_|refine Yg ?_);conv=>whnf|(refine Ya ?_ ?_<;>intro _<;>conv=>whnf)
   all_goals try (refine Or.inl ?_;conv=>whnf)
  all_goals try exact (bnl d3 ‹_›).elim
  all_goals try exact (bnl ‹_› d1).elim
  all_goals try exact (bnl ‹_› d2).elim
  all_goals refine⟨[],?_⟩
  repeat any_goals first|exact T0|exact rfl|exact Yr|refine Ya ?_ ?_
  all_goals conv=>whnf
 have d3:decide (n>IntKind.i64.wrap (1099511627776-((l.map evR).length:Int)))=false:=decide_eq_false (by rw[hw];omega)
 rw[decide_eq_true h1,decide_eq_true h2,decide_eq_true h3,Bool.true_and,Bool.true_and,Bool.true_and]
 refine Vq Tryz.func97 rfl rfl ?_
 conv=>whnf
 iterate 3
  repeat' first|exact T0|(first|refine Yd fun _=>?_|refine Ye fun _=>?_|refine Yg ?_);conv=>whnf|(refine Ya ?_ ?_<;>intro _<;>conv=>whnf)
  all_goals try (refine Or.inl ?_;conv=>whnf)
 all_goals try exact (bnl ‹_› d1).elim
 all_goals try exact (bnl ‹_› d2).elim
 all_goals try exact (bnl ‹_› d3).elim
 refine⟨Nat,fun i=>i≤l.length∧(l.take i).all evOk=true,fun i=>([(24,iA i),(23,iA (l.map evR).length),(22,.d (.sl 4 (l.map evR)))],[]),fun i=>l.length-i,⟨0,⟨Nat.zero_le _,rfl⟩,?_⟩,?_⟩
 ·all_goals refine⟨[],?_⟩
  repeat any_goals first|exact T0|exact rfl|exact Yr|refine Ya ?_ ?_
  all_goals conv=>whnf
 rintro i ⟨hi,hI⟩
 have hi:i≤l.length:=hi
 conv=>whnf
 by_cases hlt:i<l.length
 ·have hx:l[i]?=some l[i]:=List.getElem?_eq_getElem hlt
  generalize l[i]=x at hx
  have hgx:=map_get (f:=evR) hx
  have r1:=sRight_sat x.2.2
  have d4:decide ((i:Int)<((l.map evR).length:Nat))=true:=decide_eq_true (by rw[hl];omega)
  cases hok:evOk x with
  |false=>
   have hk:¬(decide (x.1<0)=false∧decide (x.1>4611686018427387903)=false∧rightB x.2.2=true):=by
    rintro⟨a1,a2,a3⟩
    have a1:=of_decide_eq_false a1
    have a2:=of_decide_eq_false a2
    unfold evOk rngB at hok
    rw[a3,decide_eq_true (by omega),decide_eq_true (by omega)] at hok
    cases hok
   rw[all_not hx hok]
   generalize rightB x.2.2=rb at *
   iterate 5
    repeat' first|exact T0|(first|refine⟨i,_,rfl,hgx,?_⟩|refine Yd fun _=>?_|refine Ye fun _=>?_|refine Yg ?_|refine Yk (r1.pu rfl rfl) ?_);conv=>whnf|(refine Ya ?_ ?_<;>intro _<;>conv=>whnf)
    all_goals try (refine Or.inl ?_;conv=>whnf)
   all_goals try exact (bnl d4 ‹_›).elim
   all_goals try exact (hk ⟨‹_›,‹_›,by simpa using ‹(!rb)=false›⟩).elim
   all_goals refine⟨[],?_⟩
   repeat any_goals first|exact T0|exact rfl|exact Yr|refine Ya ?_ ?_
   all_goals conv=>whnf
  |true=>
   unfold evOk rngB at hok
   simp only[Bool.and_eq_true,decide_eq_true_eq] at hok
   obtain⟨⟨a1,a2⟩,a3⟩:=hok
   rw[a3] at r1
   have d5:decide (x.1<0)=false:=decide_eq_false (by omega)
   have d6:decide (x.1>4611686018427387903)=false:=decide_eq_false (by omega)
   iterate 5
    repeat' first|exact T0|(first|refine⟨i,_,rfl,hgx,?_⟩|refine Yd fun _=>?_|refine Ye fun _=>?_|refine Yg ?_|refine Yk (r1.pu rfl rfl) ?_);conv=>whnf|(refine Ya ?_ ?_<;>intro _<;>conv=>whnf)
    all_goals try (refine Or.inl ?_;conv=>whnf)
   all_goals try exact (bnl d4 ‹_›).elim
   all_goals try exact (bnl ‹_› d5).elim
   all_goals try exact (bnl ‹_› d6).elim
   all_goals try (exfalso;simp only[outL] at *;first|omega|contradiction|(simp_all;done)|(simp_all;omega))
   refine⟨i+1,⟨hlt,all_nx hI hx (by unfold evOk rngB;rw[a3,decide_eq_true a1,decide_eq_true a2];rfl)⟩,show l.length-(i+1)<l.length-i by omega,?_⟩
   all_goals refine⟨[],?_⟩
   repeat any_goals first|exact T0|exact rfl|exact Yr|refine Ya ?_ ?_
   all_goals conv=>whnf
   exact wk1 (by omega)
 ·have d4:decide ((i:Int)<((l.map evR).length:Nat))=false:=decide_eq_false (by rw[hl];omega)
  rw[all_tk hI (by omega)]
  iterate 4
   repeat' first|exact T0|(first|refine Yd fun _=>?_|refine Ye fun _=>?_|refine Yg ?_);conv=>whnf|(refine Ya ?_ ?_<;>intro _<;>conv=>whnf)
   all_goals try (refine Or.inl ?_;conv=>whnf)
  all_goals try exact (bnl ‹_› d4).elim
  all_goals refine⟨[],?_⟩
  repeat any_goals first|exact T0|exact rfl|exact Yr|refine Ya ?_ ?_
  all_goals conv=>whnf
def nilLe:List D→List D→Prop
 |[],[]=>True
 |x::xs,y::ys=>(x=y∨(x=nilV∧∃ s,y=.sl s []))∧nilLe xs ys
 |_,_=>False
theorem RDs.nilLe {w:World} {F:Nat→Prop}:∀ {xs ys:List D} {vs:List Value},nilLe xs ys→RDs w F xs vs→RDs w F ys vs
 |[],[],_,_,h=>h
 |x::xs,y::ys,_,hn,h=>by
  cases h with|cons h1 h2 h3=>
  rcases hn.1 with e|⟨e,s,e'⟩
  ·subst e;exact .cons h1 h2 (RDs.nilLe hn.2 h3)
  ·subst e e';exact .cons h1.nilS h2 (RDs.nilLe hn.2 h3)
 |[],_::_,_,hn,_=>hn.elim
 |_::_,[],_,hn,_=>hn.elim
theorem RD.nilLe {w:World} {F:Nat→Prop} {xs ys:List D} {v:Value} (hn:nilLe xs ys) (h:RD w F (.agg xs) v):RD w F (.agg ys) v:=by
 cases h with|agg h=>exact .agg (RDs.nilLe hn h)
def getN (f:Fr):Nat→Int
 |1=>f.a
 |2=>f.e
 |3=>f.b
 |4=>f.c
 |5=>f.g
 |6=>f.s
 |7=>f.n
 |8=>f.t
 |9=>f.w
 |_=>0
def bnum (f:Fr) (js:List Nat) (p:Nat):Int:=if js.contains p then getN f p else 0
def bareF (f:Fr) (k:Nat):Fr:=
 { k:=k,a:=bnum f (idxK k) 1,e:=bnum f (idxK k) 2,b:=bnum f (idxK k) 3,c:=bnum f (idxK k) 4,g:=bnum f (idxK k) 5,s:=bnum f (idxK k) 6,n:=bnum f (idxK k) 7,t:=bnum f (idxK k) 8,w:=bnum f (idxK k) 9,ev:=if k=5 then f.ev else [],sr:=if k=8 then f.sr else ([],[]),d:=if k=8 then f.d else [] }
def extraB (f:Fr) (k:Nat):Bool:=match k with
 |4=>!decide (f.s<f.g)
 |5=>batchB f.n f.ev
 |6=>decide (f.n≤1099511627776)
 |7=>decide (f.n≤1099511627776)
 |8=>rightB f.sr && decide (f.d.length≤4096)
 |_=>true
def valsK (f:Fr) (k:Nat):List Int:=(idxK k).map (getN f)
def headOk (f:Fr):Bool:=(decide (0≤f.a) && decide (f.a<64)) && (decide (0≤f.e) && decide (f.e≤1099511627776))
def rightK (f:Fr) (k:Nat):Bool:=headOk f && ((valsK f k).all rngB && (extraB f k && sameB f (bareF f k)))
def rightF (f:Fr):Bool:=if 1≤f.k∧f.k≤8 then rightK f f.k.toNat else false
theorem bareF_ok {f:Fr} (hf:FrOk f) {k:Nat} (hk:k≤8):FrOk (bareF f k):=by
 have hb:∀ p,in64 (bnum f (idxK k) p):=fun p=>by
  unfold bnum
  split
  ·unfold getN
   split
   all_goals first|exact hf.a|exact hf.e|exact hf.b|exact hf.c|exact hf.g|exact hf.s|exact hf.n|exact hf.t|exact hf.w|(unfold in64;omega)
  ·unfold in64;omega
 refine⟨(show in64 (k:Int) from⟨by omega,by omega⟩),hb 1,hb 2,hb 3,hb 4,hb 5,hb 6,hb 7,hb 8,hb 9,?_,?_,?_⟩
 ·show (if k=5 then f.ev else []).length≤_
  split
  ·exact hf.evn
  ·simp
 ·show ∀ x∈(if k=5 then f.ev else []),_
  split
  ·exact hf.evl
  ·intro x hx;cases hx
 ·show (if k=8 then f.sr else ([],[])).2.length≤_
  split
  ·exact hf.srl
  ·simp
abbrev nilR (f:Fr):List D:=[iD f.k,iD f.a,iD f.e,iD f.b,iD f.c,iD f.g,iD f.s,iD f.n,iD f.t,iD f.w,nilV,tD [],nilV,nilV]
theorem same_pre (f g:Fr) (hf:FrOk f) (hg:FrOk g) {xs:List D} (hn:nilLe xs (frR g)):Sat Tryz.prog 25 [.d (frD f),.d (.agg xs)] [] (bA (sameB f g)) []:=
 (same_sat f g hf hg).pre fun w F ρ vs h=>by
  cases h with|cons h1 h2=>
  cases h2 with|cons h2 h3=>
  cases h2 with|d h2=>exact .cons h1 (.cons (.d (h2.nilLe hn)) h3)
theorem fields_bad (f:Fr) (hf:¬(1≤f.k∧f.k≤8)):Sat Tryz.prog 57 [.ptr 0 0] [.cells (frA f)] (.d nilV) [.cells (frA f)]:=by
 obtain⟨kk,a,e,b,c,g,s,n,t,w,ev,sr,d⟩:=f
 have hf:¬(1≤kk∧kk≤8):=hf
 have d1:(kk == 1)=false:=by rw[beq_eq_false_iff_ne];omega
 have d2:(kk == 2)=false:=by rw[beq_eq_false_iff_ne];omega
 have d3:(kk == 3)=false:=by rw[beq_eq_false_iff_ne];omega
 have d4:(kk == 4)=false:=by rw[beq_eq_false_iff_ne];omega
 have d5:(kk == 5)=false:=by rw[beq_eq_false_iff_ne];omega
 have d6:(kk == 6)=false:=by rw[beq_eq_false_iff_ne];omega
 have d7:(kk == 7)=false:=by rw[beq_eq_false_iff_ne];omega
 have d8:(kk == 8)=false:=by rw[beq_eq_false_iff_ne];omega
 refine Vq Tryz.func57 rfl rfl ?_
 conv=>whnf
 iterate 2
  repeat' first|exact T0|(first|refine Yd fun _=>?_|refine Ye fun _=>?_|refine Yg ?_);conv=>whnf|(refine Ya ?_ ?_<;>intro _<;>conv=>whnf)
  all_goals try (refine Or.inl ?_;conv=>whnf)
 all_goals try exact (bnl ‹_› d1).elim
 repeat' first|exact T0|(first|refine Yd fun _=>?_|refine Ye fun _=>?_|refine Yg ?_);conv=>whnf|(refine Ya ?_ ?_<;>intro _<;>conv=>whnf)
 all_goals try (refine Or.inl ?_;conv=>whnf)
 all_goals try exact (bnl ‹_› d2).elim
 repeat' first|exact T0|(first|refine Yd fun _=>?_|refine Ye fun _=>?_|refine Yg ?_);conv=>whnf|(refine Ya ?_ ?_<;>intro _<;>conv=>whnf)
 all_goals try (refine Or.inl ?_;conv=>whnf)
 all_goals try exact (bnl ‹_› d3).elim
 repeat' first|exact T0|(first|refine Yd fun _=>?_|refine Ye fun _=>?_|refine Yg ?_);conv=>whnf|(refine Ya ?_ ?_<;>intro _<;>conv=>whnf)
 all_goals try (refine Or.inl ?_;conv=>whnf)
 all_goals try exact (bnl ‹_› d4).elim
 iterate 2
  repeat' first|exact T0|(first|refine Yd fun _=>?_|refine Ye fun _=>?_|refine Yg ?_);conv=>whnf|(refine Ya ?_ ?_<;>intro _<;>conv=>whnf)
  all_goals try (refine Or.inl ?_;conv=>whnf)
 all_goals try exact (bnl ‹_› d5).elim
 all_goals try exact (bnl ‹_› d6).elim
 iterate 2
  repeat' first|exact T0|(first|refine Yd fun _=>?_|refine Ye fun _=>?_|refine Yg ?_);conv=>whnf|(refine Ya ?_ ?_<;>intro _<;>conv=>whnf)
  all_goals try (refine Or.inl ?_;conv=>whnf)
 all_goals try exact (bnl ‹_› d6).elim
 all_goals try exact (bnl ‹_› d7).elim
 iterate 3
  repeat' first|exact T0|(first|refine Yd fun _=>?_|refine Ye fun _=>?_|refine Yg ?_);conv=>whnf|(refine Ya ?_ ?_<;>intro _<;>conv=>whnf)
  all_goals try (refine Or.inl ?_;conv=>whnf)
 all_goals try exact (bnl ‹_› d7).elim
 all_goals try exact (bnl ‹_› d8).elim
 all_goals refine⟨[],?_⟩
 repeat any_goals first|exact T0|exact rfl|exact Yr|refine Ya ?_ ?_
 all_goals conv=>whnf
theorem right_bad (f:Fr) (hf:¬(1≤f.k∧f.k≤8)):Sat Tryz.prog 55 [.d (frD f)] [] (bA false) []:=by
 have f1:=fields_bad f hf
 refine Vq Tryz.func55 rfl rfl ?_
 conv=>whnf
 iterate 4
  repeat' first|exact T0|(first|refine Yd fun _=>?_|refine Ye fun _=>?_|refine Yg ?_|refine Yk (f1.at1 0 rfl rfl rfl) ?_|refine Yk (eqnN (by kernel_rfl)) ?_);conv=>whnf|(refine Ya ?_ ?_<;>intro _<;>conv=>whnf)
  all_goals try (refine Or.inl ?_;conv=>whnf)
 all_goals try (exfalso;simp only[outL] at *;first|omega|contradiction|(simp_all;done)|(simp_all;omega))
 all_goals refine⟨[],?_⟩
 repeat any_goals first|exact T0|exact rfl|exact Yr|refine Ya ?_ ?_
 all_goals conv=>whnf
end Go.Proofs.YtfbfpnfgabamfaaGreat
