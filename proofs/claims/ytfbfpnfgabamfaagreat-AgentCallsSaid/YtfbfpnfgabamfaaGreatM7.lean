/- Parts LaD, LaE, LaF, LaG, Use, CodePlain, CodeA, Num, CodeB, CodeC, CodeD, Str, CodeE, CodeF, Ra, FlS of the proof, put together. -/
import Derived.Test.YtfbfpnfgabamfaaGreatM6
import Derived.Test.YtfbfpnfgabamfaaGreatProg
import Derived.Test.YtfbfpnfgabamfaaGreatShelf
import Derived.Laws.BitsAllLaws
import Derived.WalkKit
import Derived.Lib.AppendStr
import Derived.Laws.IdiomStrings
import Derived.Lib.BufferRead
namespace Go.Proofs.YtfbfpnfgabamfaaGreat
set_option linter.unusedSimpArgs false
set_option linter.unusedVariables false
open Go.RowKit
set_option maxRecDepth 100000
theorem bnl {a:Bool} (h:a=true) (q:a=false):False:=by rw[h] at q;exact Bool.noConfusion q
abbrev Ser:=Bt × List Lab
abbrev serD (s:Ser):D:=.agg [tD s.1,.sl 2 (s.2.map labR)]
def ordB (a b:Bt):Int:=if a<b then -1 else if b<a then 1 else 0
def orI (a b:Int):Int:=if a≠0 then a else b
def labCmp (a b:Lab):Int:=orI (ordB a.1 b.1) (ordB a.2 b.2)
def labsCmp:List Lab→List Lab→Int
 |[],[]=>0
 |[],_::_=>-1
 |_::_,[]=>1
 |a::r,b::r'=>orI (labCmp a b) (labsCmp r r')
def serCmp (a b:Ser):Int:=orI (ordB a.1 b.1) (labsCmp a.2 b.2)
theorem isNaN_sat (a:Bt):Sat Tryz.prog 124 [.d (tD a)] [] (bA false) []:=by
 refine Vq Tryz.func124 rfl rfl ?_
 conv=>whnf
 iterate 3
  repeat' first|exact T0|(first|refine Yd fun _=>?_|refine Ye fun _=>?_|refine Yg ?_|refine Yk (neL') ?_);conv=>whnf|(refine Ya ?_ ?_<;>intro _<;>conv=>whnf)
  all_goals try (refine Or.inl ?_;conv=>whnf)
 all_goals refine⟨[],?_⟩
 repeat any_goals first|exact T0|exact rfl|exact Yr|refine Ya ?_ ?_
 all_goals conv=>whnf
 rw[decide_eq_true rfl];rfl
theorem cmpS_sat (a b:Bt):Sat Tryz.prog 94 [.d (tD a),.d (tD b)] [] (iA (ordB a b)) []:=by
 have n1:=isNaN_sat a
 have n2:=isNaN_sat b
 unfold ordB
 by_cases h1:a<b
 ·rw[if_pos h1]
  refine Vq Tryz.func94 rfl rfl ?_
  conv=>whnf
  iterate 6
   repeat' first|exact T0|(first|refine Yd fun _=>?_|refine Ye fun _=>?_|refine Yg ?_|refine Yk (n1.pu rfl rfl) ?_|refine Yk (n2.pu rfl rfl) ?_|refine Yk (ltL') ?_|refine Yk (gtL') ?_);conv=>whnf|(refine Ya ?_ ?_<;>intro _<;>conv=>whnf)
   all_goals try (refine Or.inl ?_;conv=>whnf)
  all_goals try (exfalso;simp only[outL] at *;first|omega|contradiction|(simp_all;done)|(simp_all;omega))
  all_goals try exact absurd h1 (of_decide_eq_false ‹decide (a<b)=false›)
  all_goals refine⟨[],?_⟩
  repeat any_goals first|exact T0|exact rfl|exact Yr|refine Ya ?_ ?_
  all_goals conv=>whnf
 rw[if_neg h1]
 by_cases h2:b<a
 ·rw[if_pos h2]
  refine Vq Tryz.func94 rfl rfl ?_
  conv=>whnf
  iterate 6
   repeat' first|exact T0|(first|refine Yd fun _=>?_|refine Ye fun _=>?_|refine Yg ?_|refine Yk (n1.pu rfl rfl) ?_|refine Yk (n2.pu rfl rfl) ?_|refine Yk (ltL') ?_|refine Yk (gtL') ?_);conv=>whnf|(refine Ya ?_ ?_<;>intro _<;>conv=>whnf)
   all_goals try (refine Or.inl ?_;conv=>whnf)
  all_goals try (exfalso;simp only[outL] at *;first|omega|contradiction|(simp_all;done)|(simp_all;omega))
  all_goals try exact absurd (of_decide_eq_true ‹decide (a<b)=true›) h1
  all_goals try exact absurd h2 (of_decide_eq_false ‹decide (b<a)=false›)
  all_goals refine⟨[],?_⟩
  repeat any_goals first|exact T0|exact rfl|exact Yr|refine Ya ?_ ?_
  all_goals conv=>whnf
 rw[if_neg h2]
 refine Vq Tryz.func94 rfl rfl ?_
 conv=>whnf
 iterate 6
  repeat' first|exact T0|(first|refine Yd fun _=>?_|refine Ye fun _=>?_|refine Yg ?_|refine Yk (n1.pu rfl rfl) ?_|refine Yk (n2.pu rfl rfl) ?_|refine Yk (ltL') ?_|refine Yk (gtL') ?_);conv=>whnf|(refine Ya ?_ ?_<;>intro _<;>conv=>whnf)
  all_goals try (refine Or.inl ?_;conv=>whnf)
 all_goals try (exfalso;simp only[outL] at *;first|omega|contradiction|(simp_all;done)|(simp_all;omega))
 all_goals try exact absurd (of_decide_eq_true ‹decide (a<b)=true›) h1
 all_goals try exact absurd (of_decide_eq_true ‹decide (b<a)=true›) h2
 all_goals refine⟨[],?_⟩
 repeat any_goals first|exact T0|exact rfl|exact Yr|refine Ya ?_ ?_
 all_goals conv=>whnf
theorem rOrder_sat (a b:Bt):Sat Tryz.prog 130 [.d (tD a),.d (tD b)] [] (iA (ordB a b)) []:=by
 unfold ordB
 by_cases h1:a<b
 ·rw[if_pos h1]
  refine Vq Tryz.func130 rfl rfl ?_
  conv=>whnf
  iterate 6
   repeat' first|exact T0|(first|refine Yd fun _=>?_|refine Ye fun _=>?_|refine Yg ?_|refine Yk (ltL') ?_|refine Yk (gtL') ?_);conv=>whnf|(refine Ya ?_ ?_<;>intro _<;>conv=>whnf)
   all_goals try (refine Or.inl ?_;conv=>whnf)
  all_goals try exact absurd h1 (of_decide_eq_false ‹decide (a<b)=false›)
  all_goals refine⟨[],?_⟩
  repeat any_goals first|exact T0|exact rfl|exact Yr|refine Ya ?_ ?_
  all_goals conv=>whnf
 rw[if_neg h1]
 by_cases h2:b<a
 ·rw[if_pos h2]
  refine Vq Tryz.func130 rfl rfl ?_
  conv=>whnf
  iterate 6
   repeat' first|exact T0|(first|refine Yd fun _=>?_|refine Ye fun _=>?_|refine Yg ?_|refine Yk (ltL') ?_|refine Yk (gtL') ?_);conv=>whnf|(refine Ya ?_ ?_<;>intro _<;>conv=>whnf)
   all_goals try (refine Or.inl ?_;conv=>whnf)
  all_goals try exact absurd (of_decide_eq_true ‹decide (a<b)=true›) h1
  all_goals try exact absurd h2 (of_decide_eq_false ‹decide (b<a)=false›)
  all_goals refine⟨[],?_⟩
  repeat any_goals first|exact T0|exact rfl|exact Yr|refine Ya ?_ ?_
  all_goals conv=>whnf
 rw[if_neg h2]
 refine Vq Tryz.func130 rfl rfl ?_
 conv=>whnf
 iterate 6
  repeat' first|exact T0|(first|refine Yd fun _=>?_|refine Ye fun _=>?_|refine Yg ?_|refine Yk (ltL') ?_|refine Yk (gtL') ?_);conv=>whnf|(refine Ya ?_ ?_<;>intro _<;>conv=>whnf)
  all_goals try (refine Or.inl ?_;conv=>whnf)
 all_goals try exact absurd (of_decide_eq_true ‹decide (a<b)=true›) h1
 all_goals try exact absurd (of_decide_eq_true ‹decide (b<a)=true›) h2
 all_goals refine⟨[],?_⟩
 repeat any_goals first|exact T0|exact rfl|exact Yr|refine Ya ?_ ?_
 all_goals conv=>whnf
theorem or_sat (a b:Int):Sat Tryz.prog 93 [.d (.sl 1 [[iD a],[iD b]])] [] (iA (orI a b)) []:=by
 unfold orI
 refine Vq Tryz.func93 rfl rfl ?_
 conv=>whnf
 iterate 2
  repeat' first|exact T0|(first|refine Yd fun _=>?_|refine Ye fun _=>?_|refine Yg ?_);conv=>whnf|(refine Ya ?_ ?_<;>intro _<;>conv=>whnf)
  all_goals try (refine Or.inl ?_;conv=>whnf)
 refine⟨Nat,fun i=>i≤2∧(0<i→a=0)∧(1<i→b=0),fun i=>([(8,iA i),(7,iA 2),(6,.d (.sl 1 [[iD a],[iD b]])),(3,iA 0)],[]),fun i=>2-i,⟨0,⟨by decide,fun h=>absurd h (by decide),fun h=>absurd h (by decide)⟩,?_⟩,?_⟩
 ·all_goals refine⟨[],?_⟩
  repeat any_goals first|exact T0|exact rfl|exact Yr|refine Ya ?_ ?_
  all_goals conv=>whnf
 rintro i ⟨hi,ha,hb⟩
 have hi3:i=0∨i=1∨i=2:=by have:i≤2:=hi;omega
 rcases hi3 with rfl|rfl|rfl
 ·by_cases h:a=0
  ·conv=>whnf
   iterate 3
    repeat' first|exact T0|(first|refine⟨0,_,rfl,rfl,?_⟩|refine Yd fun _=>?_|refine Ye fun _=>?_|refine Yg ?_);conv=>whnf|(refine Ya ?_ ?_<;>intro _<;>conv=>whnf)
    all_goals try (exfalso;simp only[outL] at *;first|omega|contradiction|(simp_all;done)|(simp_all;omega))
    all_goals try (refine Or.inl ?_;conv=>whnf)
   refine⟨1,⟨by decide,fun _=>h,fun h=>absurd h (by decide)⟩,by decide,?_⟩
   all_goals refine⟨[],?_⟩
   repeat any_goals first|exact T0|exact rfl|exact Yr|refine Ya ?_ ?_
   all_goals conv=>whnf
  ·rw[if_pos h]
   conv=>whnf
   iterate 3
    repeat' first|exact T0|(first|refine⟨0,_,rfl,rfl,?_⟩|refine Yd fun _=>?_|refine Ye fun _=>?_|refine Yg ?_);conv=>whnf|(refine Ya ?_ ?_<;>intro _<;>conv=>whnf)
    all_goals try (exfalso;simp only[outL] at *;first|omega|contradiction|(simp_all;done)|(simp_all;omega))
    all_goals try (refine Or.inl ?_;conv=>whnf)
   all_goals refine⟨[],?_⟩
   repeat any_goals first|exact T0|exact rfl|exact Yr|refine Ya ?_ ?_
   all_goals conv=>whnf
 ·have ha:=ha (by decide)
  rw[if_neg (by simpa using ha)]
  by_cases h:b=0
  ·conv=>whnf
   iterate 3
    repeat' first|exact T0|(first|refine⟨1,_,rfl,rfl,?_⟩|refine Yd fun _=>?_|refine Ye fun _=>?_|refine Yg ?_);conv=>whnf|(refine Ya ?_ ?_<;>intro _<;>conv=>whnf)
    all_goals try (exfalso;simp only[outL] at *;first|omega|contradiction|(simp_all;done)|(simp_all;omega))
    all_goals try (refine Or.inl ?_;conv=>whnf)
   refine⟨2,⟨by decide,fun _=>ha,fun _=>h⟩,by decide,?_⟩
   all_goals refine⟨[],?_⟩
   repeat any_goals first|exact T0|exact rfl|exact Yr|refine Ya ?_ ?_
   all_goals conv=>whnf
  ·conv=>whnf
   iterate 3
    repeat' first|exact T0|(first|refine⟨1,_,rfl,rfl,?_⟩|refine Yd fun _=>?_|refine Ye fun _=>?_|refine Yg ?_);conv=>whnf|(refine Ya ?_ ?_<;>intro _<;>conv=>whnf)
    all_goals try (exfalso;simp only[outL] at *;first|omega|contradiction|(simp_all;done)|(simp_all;omega))
    all_goals try (refine Or.inl ?_;conv=>whnf)
   all_goals refine⟨[],?_⟩
   repeat any_goals first|exact T0|exact rfl|exact Yr|refine Ya ?_ ?_
   all_goals conv=>whnf
 ·rw[if_neg (by simpa using ha (by decide)),hb (by decide)]
  conv=>whnf
  iterate 3
   repeat' first|exact T0|(first|refine Yd fun _=>?_|refine Ye fun _=>?_|refine Yg ?_);conv=>whnf|(refine Ya ?_ ?_<;>intro _<;>conv=>whnf)
   all_goals try (exfalso;simp only[outL] at *;first|omega|contradiction|(simp_all;done)|(simp_all;omega))
   all_goals try (refine Or.inl ?_;conv=>whnf)
  all_goals refine⟨[],?_⟩
  repeat any_goals first|exact T0|exact rfl|exact Yr|refine Ya ?_ ?_
  all_goals conv=>whnf
theorem cmpNames_sat (a b:Lab):Sat Tryz.prog 125 [.d (labD a),.d (labD b)] [] (iA (ordB a.1 b.1)) []:=by
 have c1:=cmpS_sat a.1 b.1
 refine Vq Tryz.func125 rfl rfl ?_
 conv=>whnf
 iterate 3
  repeat' first|exact T0|(first|refine Yd fun _=>?_|refine Ye fun _=>?_|refine Yg ?_|refine Yk (c1.pu rfl rfl) ?_);conv=>whnf|(refine Ya ?_ ?_<;>intro _<;>conv=>whnf)
  all_goals try (refine Or.inl ?_;conv=>whnf)
 all_goals refine⟨[],?_⟩
 repeat any_goals first|exact T0|exact rfl|exact Yr|refine Ya ?_ ?_
 all_goals conv=>whnf
theorem labCmp_sat (a b:Lab):Sat Tryz.prog 96 [.d (labD a),.d (labD b)] [] (iA (labCmp a b)) []:=by
 have c1:=cmpNames_sat a b
 have c2:=cmpS_sat a.2 b.2
 have o1:=or_sat (ordB a.1 b.1) (ordB a.2 b.2)
 refine Vq Tryz.func96 rfl rfl ?_
 conv=>whnf
 iterate 3
  repeat' first|exact T0|(first|refine Yd fun _=>?_|refine Ye fun _=>?_|refine Yg ?_|refine Yk (c1.pu rfl rfl) ?_|refine Yk (c2.pu rfl rfl) ?_|refine Yk (lendO o1 rfl rfl) ?_);conv=>whnf|(refine Ya ?_ ?_<;>intro _<;>conv=>whnf)
  all_goals try (refine Or.inl ?_;conv=>whnf)
 all_goals refine⟨[],?_⟩
 repeat any_goals first|exact T0|exact rfl|exact Yr|refine Ya ?_ ?_
 all_goals conv=>whnf
theorem drop_cons {α:Type} {l:List α} {i:Nat} {x:α} (h:l[i]?=some x):l.drop i=x::l.drop (i+1):=by
 obtain⟨h1,rfl⟩:=List.getElem?_eq_some_iff.1 h
 exact List.drop_eq_getElem_cons h1
set_option maxHeartbeats 2000000 in
theorem labsCmp_sat (l k:List Lab) (hn:l.length≤1000000):Sat Tryz.prog 95 [.d (.sl 2 (l.map labR)),.d (.sl 2 (k.map labR)),.fn (.func 96) [] []] [] (iA (labsCmp l k)) []:=by
 have hl:(l.map labR).length=l.length:=List.length_map _
 have hk:(k.map labR).length=k.length:=List.length_map _
 refine Vq Tryz.func95 rfl rfl ?_
 conv=>whnf
 iterate 2
  repeat' first|exact T0|(first|refine Yd fun _=>?_|refine Ye fun _=>?_|refine Yg ?_);conv=>whnf|(refine Ya ?_ ?_<;>intro _<;>conv=>whnf)
  all_goals try (refine Or.inl ?_;conv=>whnf)
 refine⟨Nat,fun i=>i≤l.length∧i≤k.length∧labsCmp l k=labsCmp (l.drop i) (k.drop i),fun i=>([(13,iA i),(12,iA (l.map labR).length),(11,.d (.sl 2 (l.map labR))),(2,.fn (.func 96) [] []),(1,.d (.sl 2 (k.map labR))),(0,.d (.sl 2 (l.map labR)))],[]),fun i=>l.length-i,⟨0,⟨Nat.zero_le _,Nat.zero_le _,rfl⟩,?_⟩,?_⟩
 ·all_goals refine⟨[],?_⟩
  repeat any_goals first|exact T0|exact rfl|exact Yr|refine Ya ?_ ?_
  all_goals conv=>whnf
 rintro i ⟨hi,hj,hI⟩
 rw[hI]
 conv=>whnf
 by_cases hlt:i<l.length
 ·have hx:l[i]?=some l[i]:=List.getElem?_eq_getElem hlt
  generalize l[i]=x at hx
  have hgx:=map_get (f:=labR) hx
  rw[drop_cons hx]
  by_cases hkt:i<k.length
  ·have hy:k[i]?=some k[i]:=List.getElem?_eq_getElem hkt
   generalize k[i]=y at hy
   have hgy:=map_get (f:=labR) hy
   have c1:=labCmp_sat x y
   rw[drop_cons hy]
   show _
   by_cases hc:labCmp x y=0
   ·iterate 5
     repeat' first|exact T0|(first|refine⟨i,_,rfl,hgx,?_⟩|refine⟨i,_,rfl,hgy,?_⟩|refine Yd fun _=>?_|refine Ye fun _=>?_|refine Yg ?_|refine Yk (c1.pu rfl rfl) ?_);conv=>whnf|(refine Ya ?_ ?_<;>intro _<;>conv=>whnf)
     all_goals try (exfalso;simp only[outL] at *;first|omega|contradiction|(simp_all;done)|(simp_all;omega))
     all_goals try (refine Or.inl ?_;conv=>whnf)
    refine⟨i+1,⟨hlt,hkt,?_⟩,show l.length-(i+1)<l.length-i by omega,?_⟩
    ·show orI (labCmp x y) _=_
     unfold orI
     rw[if_neg (by simpa using hc)]
    all_goals refine⟨[],?_⟩
    repeat any_goals first|exact T0|exact rfl|exact Yr|refine Ya ?_ ?_
    all_goals conv=>whnf
    exact wk1 (by omega)
   ·rw[show labsCmp (x::l.drop (i+1)) (y::k.drop (i+1))=labCmp x y from if_pos hc]
    iterate 5
     repeat' first|exact T0|(first|refine⟨i,_,rfl,hgx,?_⟩|refine⟨i,_,rfl,hgy,?_⟩|refine Yd fun _=>?_|refine Ye fun _=>?_|refine Yg ?_|refine Yk (c1.pu rfl rfl) ?_);conv=>whnf|(refine Ya ?_ ?_<;>intro _<;>conv=>whnf)
     all_goals try (exfalso;simp only[outL] at *;first|omega|contradiction|(simp_all;done)|(simp_all;omega))
     all_goals try (refine Or.inl ?_;conv=>whnf)
    all_goals refine⟨[],?_⟩
    repeat any_goals first|exact T0|exact rfl|exact Yr|refine Ya ?_ ?_
    all_goals conv=>whnf
  ·rw[List.drop_of_length_le (by omega:k.length≤i)]
   iterate 5
    repeat' first|exact T0|(first|refine⟨i,_,rfl,hgx,?_⟩|refine Yd fun _=>?_|refine Ye fun _=>?_|refine Yg ?_);conv=>whnf|(refine Ya ?_ ?_<;>intro _<;>conv=>whnf)
    all_goals try (exfalso;simp only[outL] at *;first|omega|contradiction|(simp_all;done)|(simp_all;omega))
    all_goals try (refine Or.inl ?_;conv=>whnf)
   all_goals refine⟨[],?_⟩
   repeat any_goals first|exact T0|exact rfl|exact Yr|refine Ya ?_ ?_
   all_goals conv=>whnf
 ·rw[List.drop_of_length_le (by omega:l.length≤i)]
  by_cases hkt:i<k.length
  ·rw[drop_cons (List.getElem?_eq_getElem hkt)]
   iterate 5
    repeat' first|exact T0|(first|refine Yd fun _=>?_|refine Ye fun _=>?_|refine Yg ?_);conv=>whnf|(refine Ya ?_ ?_<;>intro _<;>conv=>whnf)
    all_goals try (exfalso;simp only[outL] at *;first|omega|contradiction|(simp_all;done)|(simp_all;omega))
    all_goals try (refine Or.inl ?_;conv=>whnf)
   all_goals refine⟨[],?_⟩
   repeat any_goals first|exact T0|exact rfl|exact Yr|refine Ya ?_ ?_
   all_goals conv=>whnf
  ·rw[List.drop_of_length_le (by omega:k.length≤i)]
   iterate 5
    repeat' first|exact T0|(first|refine Yd fun _=>?_|refine Ye fun _=>?_|refine Yg ?_);conv=>whnf|(refine Ya ?_ ?_<;>intro _<;>conv=>whnf)
    all_goals try (exfalso;simp only[outL] at *;first|omega|contradiction|(simp_all;done)|(simp_all;omega))
    all_goals try (refine Or.inl ?_;conv=>whnf)
   all_goals refine⟨[],?_⟩
   repeat any_goals first|exact T0|exact rfl|exact Yr|refine Ya ?_ ?_
   all_goals conv=>whnf
theorem serCmp_sat (a b:Ser) (hn:a.2.length≤1000000):Sat Tryz.prog 53 [.d (serD a),.d (serD b)] [] (iA (serCmp a b)) []:=by
 have c1:=cmpS_sat a.1 b.1
 have c2:=labsCmp_sat a.2 b.2 hn
 have o1:=or_sat (ordB a.1 b.1) (labsCmp a.2 b.2)
 refine Vq Tryz.func53 rfl rfl ?_
 conv=>whnf
 iterate 3
  repeat' first|exact T0|(first|refine Yd fun _=>?_|refine Ye fun _=>?_|refine Yg ?_|refine Yk (c1.pu rfl rfl) ?_|refine Yk (c2.pu rfl rfl) ?_|refine Yk (lendO o1 rfl rfl) ?_);conv=>whnf|(refine Ya ?_ ?_<;>intro _<;>conv=>whnf)
  all_goals try (refine Or.inl ?_;conv=>whnf)
 all_goals refine⟨[],?_⟩
 repeat any_goals first|exact T0|exact rfl|exact Yr|refine Ya ?_ ?_
 all_goals conv=>whnf
set_option maxHeartbeats 4000000 in
theorem rCmp_sat (a b:Ser) (hn:a.2.length≤1000000) (hn':b.2.length≤1000000):Sat Tryz.prog 117 [.d (serD a),.d (serD b)] [] (iA (serCmp a b)) []:=by
 obtain⟨an,l⟩:=a
 obtain⟨bn,k⟩:=b
 have hl:(l.map labR).length=l.length:=List.length_map _
 have hk:(k.map labR).length=k.length:=List.length_map _
 have hn:l.length≤1000000:=hn
 have hn':k.length≤1000000:=hn'
 have c0:=rOrder_sat an bn
 show Sat _ _ _ _ (iA (orI (ordB an bn) (labsCmp l k))) _
 refine Vq Tryz.func117 rfl rfl ?_
 conv=>whnf
 iterate 2
  repeat' first|exact T0|(first|refine Yd fun _=>?_|refine Ye fun _=>?_|refine Yg ?_|refine Yk (c0.pu rfl rfl) ?_);conv=>whnf|(refine Ya ?_ ?_<;>intro _<;>conv=>whnf)
  all_goals try (refine Or.inl ?_;conv=>whnf)
 refine⟨Int × Nat,fun y=>y.2≤l.length∧y.2≤k.length∧orI (ordB an bn) (labsCmp l k)=orI y.1 (labsCmp (l.drop y.2) (k.drop y.2)),fun y=>([(6,iA y.2),(5,iA y.1),(3,.ptr 1 0),(2,.ptr 0 0)],[.cells [.d (tD an),.d (.sl 2 (l.map labR))],.cells [.d (tD bn),.d (.sl 2 (k.map labR))]]),fun y=>l.length-y.2,⟨(ordB an bn,0),⟨Nat.zero_le _,Nat.zero_le _,rfl⟩,?_⟩,?_⟩
 ·all_goals refine⟨[],?_⟩
  repeat any_goals first|exact T0|exact rfl|exact Yr|refine Ya ?_ ?_
  all_goals conv=>whnf
 rintro y0 ⟨hi,hj,hI⟩
 rw[hI]
 conv=>whnf
 by_cases hz:y0.1=0
 case neg=>
  have e0:(y0.1 == 0)=false:=by simpa using hz
  rw[show orI y0.1 (labsCmp (l.drop y0.2) (k.drop y0.2))=y0.1 from if_pos hz]
  iterate 5
   repeat' first|exact T0|(first|refine Yd fun _=>?_|refine Ye fun _=>?_|refine Yg ?_);conv=>whnf|(refine Ya ?_ ?_<;>intro _<;>conv=>whnf)
   all_goals try (refine Or.inl ?_;conv=>whnf)
  all_goals try exact (bnl ‹(y0.1 == 0)=true› e0).elim
  all_goals refine⟨[],?_⟩
  repeat any_goals first|exact T0|exact rfl|exact Yr|refine Ya ?_ ?_
  all_goals conv=>whnf
 have e0:(y0.1 == 0)=true:=by simpa using hz
 rw[show orI y0.1 (labsCmp (l.drop y0.2) (k.drop y0.2))=labsCmp (l.drop y0.2) (k.drop y0.2) from if_neg (by simpa using hz)]
 by_cases hlt:y0.2<l.length
 ·have hx:l[y0.2]?=some l[y0.2]:=List.getElem?_eq_getElem hlt
  generalize l[y0.2]=x at hx
  have hgx:=map_get (f:=labR) hx
  rw[drop_cons hx]
  have d1:decide ((y0.2:Int)<((l.map labR).length:Nat))=true:=decide_eq_true (by rw[hl];omega)
  have d2:decide ((y0.2:Int)≥((l.map labR).length:Nat))=false:=decide_eq_false (by rw[hl];omega)
  by_cases hkt:y0.2<k.length
  ·have hy:k[y0.2]?=some k[y0.2]:=List.getElem?_eq_getElem hkt
   generalize k[y0.2]=y at hy
   have hgy:=map_get (f:=labR) hy
   have d3:decide ((y0.2:Int)≥((k.map labR).length:Nat))=false:=decide_eq_false (by rw[hk];omega)
   have c1:=rOrder_sat x.1 y.1
   have c2:=rOrder_sat x.2 y.2
   rw[drop_cons hy] at *
   rw[show labsCmp (x::l.drop (y0.2+1)) (y::k.drop (y0.2+1))=orI (labCmp x y) (labsCmp (l.drop (y0.2+1)) (k.drop (y0.2+1))) from rfl] at *
   iterate 7
    repeat' first|exact T0|(first|refine⟨y0.2,_,rfl,hgx,?_⟩|refine⟨y0.2,_,rfl,hgy,?_⟩|refine Yd fun _=>?_|refine Ye fun _=>?_|refine Yg ?_|refine Yk (c1.pu rfl rfl) ?_|refine Yk (c2.pu rfl rfl) ?_);conv=>whnf|(refine Ya ?_ ?_<;>intro _<;>conv=>whnf)
    all_goals try (refine Or.inl ?_;conv=>whnf)
   all_goals try exact (bnl e0 ‹(y0.1 == 0)=false›).elim
   all_goals try exact (bnl d1 ‹_›).elim
   all_goals try exact (bnl ‹_› d2).elim
   all_goals try exact (bnl ‹_› d3).elim
   ·have hq:ordB x.1 y.1=0:=by simpa using ‹(ordB x.1 y.1 == 0)=true›
    refine⟨(ordB x.2 y.2,y0.2+1),⟨hlt,hkt,?_⟩,show l.length-(y0.2+1)<l.length-y0.2 by omega,?_⟩
    ·rw[show labCmp x y=ordB x.2 y.2 from if_neg (by simpa using hq)]
    all_goals refine⟨[],?_⟩
    repeat any_goals first|exact T0|exact rfl|exact Yr|refine Ya ?_ ?_
    all_goals conv=>whnf
    exact wk1 (by omega)
   ·have hq:ordB x.1 y.1≠0:=by simpa using ‹(ordB x.1 y.1 == 0)=false›
    refine⟨(ordB x.1 y.1,y0.2+1),⟨hlt,hkt,?_⟩,show l.length-(y0.2+1)<l.length-y0.2 by omega,?_⟩
    ·rw[show labCmp x y=ordB x.1 y.1 from if_pos hq]
    all_goals refine⟨[],?_⟩
    repeat any_goals first|exact T0|exact rfl|exact Yr|refine Ya ?_ ?_
    all_goals conv=>whnf
    exact wk1 (by omega)
  ·have d3:decide ((y0.2:Int)≥((k.map labR).length:Nat))=true:=decide_eq_true (by rw[hk];omega)
   rw[List.drop_of_length_le (by omega:k.length≤y0.2)]
   iterate 7
    repeat' first|exact T0|(first|refine⟨y0.2,_,rfl,hgx,?_⟩|refine Yd fun _=>?_|refine Ye fun _=>?_|refine Yg ?_);conv=>whnf|(refine Ya ?_ ?_<;>intro _<;>conv=>whnf)
    all_goals try (refine Or.inl ?_;conv=>whnf)
   all_goals try exact (bnl e0 ‹(y0.1 == 0)=false›).elim
   all_goals try exact (bnl d1 ‹_›).elim
   all_goals try exact (bnl ‹_› d2).elim
   all_goals try exact (bnl d3 ‹_›).elim
   all_goals refine⟨[],?_⟩
   repeat any_goals first|exact T0|exact rfl|exact Yr|refine Ya ?_ ?_
   all_goals conv=>whnf
 ·rw[List.drop_of_length_le (by omega:l.length≤y0.2)]
  have d1:decide ((y0.2:Int)<((l.map labR).length:Nat))=false:=decide_eq_false (by rw[hl];omega)
  have d2:decide ((y0.2:Int)≥((l.map labR).length:Nat))=true:=decide_eq_true (by rw[hl];omega)
  by_cases hkt:y0.2<k.length
  ·have d3:decide ((y0.2:Int)<((k.map labR).length:Nat))=true:=decide_eq_true (by rw[hk];omega)
   rw[drop_cons (List.getElem?_eq_getElem hkt)]
   iterate 7
    repeat' first|exact T0|(first|refine Yd fun _=>?_|refine Ye fun _=>?_|refine Yg ?_);conv=>whnf|(refine Ya ?_ ?_<;>intro _<;>conv=>whnf)
    all_goals try (refine Or.inl ?_;conv=>whnf)
   all_goals try exact (bnl e0 ‹(y0.1 == 0)=false›).elim
   all_goals try exact (bnl ‹_› d1).elim
   all_goals try exact (bnl d2 ‹_›).elim
   all_goals try exact (bnl d3 ‹_›).elim
   all_goals refine⟨[],?_⟩
   repeat any_goals first|exact T0|exact rfl|exact Yr|refine Ya ?_ ?_
   all_goals conv=>whnf
  ·have d3:decide ((y0.2:Int)<((k.map labR).length:Nat))=false:=decide_eq_false (by rw[hk];omega)
   rw[List.drop_of_length_le (by omega:k.length≤y0.2)]
   iterate 7
    repeat' first|exact T0|(first|refine Yd fun _=>?_|refine Ye fun _=>?_|refine Yg ?_);conv=>whnf|(refine Ya ?_ ?_<;>intro _<;>conv=>whnf)
    all_goals try (refine Or.inl ?_;conv=>whnf)
   all_goals try exact (bnl e0 ‹(y0.1 == 0)=false›).elim
   all_goals try exact (bnl ‹_› d1).elim
   all_goals try exact (bnl ‹_› d3).elim
   all_goals refine⟨[],?_⟩
   repeat any_goals first|exact T0|exact rfl|exact Yr|refine Ya ?_ ?_
   all_goals conv=>whnf
   rw[hz];rfl
def chkL:Option Bt→List Lab→Bool
 |_,[]=>true
 |p,x::r=>labB x && ((match p with|none=>true|some a=>decide (a<x.1)) && chkL (some x.1) r)
def rightB (s:Ser):Bool:=nameL s.1 && (decide (s.2.length≤8) && chkL none s.2)
def prvL (l:List Lab) (i:Nat):Option Bt:=if i=0 then none else (l[i-1]?).map (·.1)
theorem prvL_succ {l:List Lab} {i:Nat} {x:Lab} (h:l[i]?=some x):prvL l (i+1)=some x.1:=by
 unfold prvL
 rw[if_neg (by omega),Nat.add_sub_cancel,h]
 rfl
theorem prvL_zero (l:List Lab):prvL l 0=none:=rfl
theorem sub_one {i:Nat} (h:0<i) (h2:i≤1000000):IntKind.i64.wrap ((i:Int)-1)=((i-1:Nat):Int):=by
 rw[wi (by omega) (by omega)]
 omega
set_option maxHeartbeats 4000000 in
theorem sRight_sat (s:Ser):Sat Tryz.prog 73 [.d (serD s)] [] (bA (rightB s)) []:=by
 obtain⟨nm,l⟩:=s
 have hl:(l.map labR).length=l.length:=List.length_map _
 have n1:=named_sat nm
 show Sat _ _ _ _ (bA (nameL nm && (decide (l.length≤8) && chkL none l))) _
 cases hnm:nameL nm with
 |false=>
  rw[hnm] at n1
  refine Vq Tryz.func73 rfl rfl ?_
  conv=>whnf
  iterate 4
   repeat' first|exact T0|(first|refine Yd fun _=>?_|refine Ye fun _=>?_|refine Yg ?_|refine Yk (n1.pu rfl rfl) ?_);conv=>whnf|(refine Ya ?_ ?_<;>intro _<;>conv=>whnf)
   all_goals try (refine Or.inl ?_;conv=>whnf)
  all_goals try (exfalso;simp only[outL] at *;first|omega|contradiction|(simp_all;done)|(simp_all;omega))
  all_goals refine⟨[],?_⟩
  repeat any_goals first|exact T0|exact rfl|exact Yr|refine Ya ?_ ?_
  all_goals conv=>whnf
 |true=>
 rw[hnm] at n1
 by_cases h8:l.length≤8
 case neg=>
  rw[decide_eq_false h8]
  refine Vq Tryz.func73 rfl rfl ?_
  conv=>whnf
  iterate 4
   repeat' first|exact T0|(first|refine Yd fun _=>?_|refine Ye fun _=>?_|refine Yg ?_|refine Yk (n1.pu rfl rfl) ?_);conv=>whnf|(refine Ya ?_ ?_<;>intro _<;>conv=>whnf)
   all_goals try (refine Or.inl ?_;conv=>whnf)
  all_goals try (exfalso;simp only[outL] at *;first|omega|contradiction|(simp_all;done)|(simp_all;omega))
  all_goals refine⟨[],?_⟩
  repeat any_goals first|exact T0|exact rfl|exact Yr|refine Ya ?_ ?_
  all_goals conv=>whnf
 rw[decide_eq_true h8,Bool.true_and,Bool.true_and]
 refine Vq Tryz.func73 rfl rfl ?_
 conv=>whnf
 iterate 4
  repeat' first|exact T0|(first|refine Yd fun _=>?_|refine Ye fun _=>?_|refine Yg ?_|refine Yk (n1.pu rfl rfl) ?_);conv=>whnf|(refine Ya ?_ ?_<;>intro _<;>conv=>whnf)
  all_goals try (refine Or.inl ?_;conv=>whnf)
 all_goals try (exfalso;simp only[outL] at *;first|omega|contradiction|(simp_all;done)|(simp_all;omega))
 refine⟨Nat,fun i=>i≤l.length∧chkL none l=chkL (prvL l i) (l.drop i),fun i=>([(18,iA i),(17,iA (l.map labR).length),(16,.d (.sl 2 (l.map labR))),(1,.ptr 0 0)],[.cells [.d (tD nm),.d (.sl 2 (l.map labR))]]),fun i=>l.length-i,⟨0,⟨Nat.zero_le _,rfl⟩,?_⟩,?_⟩
 ·all_goals refine⟨[],?_⟩
  repeat any_goals first|exact T0|exact rfl|exact Yr|refine Ya ?_ ?_
  all_goals conv=>whnf
 rintro i ⟨hi,hI⟩
 rw[hI]
 conv=>whnf
 by_cases hlt:i<l.length
 ·have hx:l[i]?=some l[i]:=List.getElem?_eq_getElem hlt
  generalize l[i]=x at hx
  have hgx:=map_get (f:=labR) hx
  have v1:=valid_sat x
  rw[drop_cons hx] at *
  have d1:decide ((i:Int)<((l.map labR).length:Nat))=true:=decide_eq_true (by rw[hl];omega)
  have nxt:=prvL_succ hx
  cases hv:labB x with
  |false=>
   rw[hv] at v1
   rw[show chkL (prvL l i) (x::l.drop (i+1))=false from by simp[chkL,hv]]
   iterate 5
    repeat' first|exact T0|(first|refine⟨i,_,rfl,hgx,?_⟩|refine Yd fun _=>?_|refine Ye fun _=>?_|refine Yg ?_|refine Yk (v1.pu rfl rfl) ?_);conv=>whnf|(refine Ya ?_ ?_<;>intro _<;>conv=>whnf)
    all_goals try (refine Or.inl ?_;conv=>whnf)
   all_goals try exact (bnl d1 ‹_›).elim
   all_goals try (exfalso;simp only[outL] at *;first|omega|contradiction|(simp_all;done)|(simp_all;omega))
   all_goals refine⟨[],?_⟩
   repeat any_goals first|exact T0|exact rfl|exact Yr|refine Ya ?_ ?_
   all_goals conv=>whnf
  |true=>
   rw[hv] at v1
   by_cases h0:i=0
   ·have e:chkL (prvL l i) (x::l.drop (i+1))=chkL (prvL l (i+1)) (l.drop (i+1)):=by
     rw[nxt,h0,prvL_zero];simp[chkL,hv]
    rw[e] at *
    iterate 5
     repeat' first|exact T0|(first|refine⟨i,_,rfl,hgx,?_⟩|refine Yd fun _=>?_|refine Ye fun _=>?_|refine Yg ?_|refine Yk (v1.pu rfl rfl) ?_);conv=>whnf|(refine Ya ?_ ?_<;>intro _<;>conv=>whnf)
     all_goals try (refine Or.inl ?_;conv=>whnf)
    all_goals try (exfalso;simp only[outL] at *;first|omega|contradiction|(simp_all;done)|(simp_all;omega))
    refine⟨i+1,⟨hlt,rfl⟩,show l.length-(i+1)<l.length-i by omega,?_⟩
    all_goals refine⟨[],?_⟩
    repeat any_goals first|exact T0|exact rfl|exact Yr|refine Ya ?_ ?_
    all_goals conv=>whnf
    exact wk1 (by omega)
   ·have hlp:i-1<l.length:=by omega
    have hp:l[i-1]?=some l[i-1]:=List.getElem?_eq_getElem hlp
    generalize l[i-1]=p at hp
    have hgp:=map_get (f:=labR) hp
    have hs1:=sub_one (by omega:0<i) (by omega)
    have e:chkL (prvL l i) (x::l.drop (i+1))=(decide (p.1<x.1) && chkL (prvL l (i+1)) (l.drop (i+1))):=by
     rw[nxt,show prvL l i=some p.1 by unfold prvL;rw[if_neg h0,hp];rfl];simp[chkL,hv]
    rw[e] at *
    by_cases hc:p.1<x.1
    ·have hc':(!decide (p.1<x.1))=false:=by rw[decide_eq_true hc];rfl
     rw[decide_eq_true hc,Bool.true_and]
     iterate 7
      repeat' first|exact T0|(first|refine⟨i,_,rfl,hgx,?_⟩|refine⟨i-1,_,hs1,hgp,?_⟩|refine Yd fun _=>?_|refine Ye fun _=>?_|refine Yg ?_|refine Yk (v1.pu rfl rfl) ?_|refine Yk (geL') ?_);conv=>whnf|(refine Ya ?_ ?_<;>intro _<;>conv=>whnf)
      all_goals try (refine Or.inl ?_;conv=>whnf)
     all_goals try exact (bnl ‹(!decide (p.1<x.1))=true› hc').elim
     all_goals try (exfalso;simp only[outL] at *;first|omega|contradiction|(simp_all;done)|(simp_all;omega))
     refine⟨i+1,⟨hlt,rfl⟩,show l.length-(i+1)<l.length-i by omega,?_⟩
     all_goals refine⟨[],?_⟩
     repeat any_goals first|exact T0|exact rfl|exact Yr|refine Ya ?_ ?_
     all_goals conv=>whnf
     exact wk1 (by omega)
    ·have hc':(!decide (p.1<x.1))=true:=by rw[decide_eq_false hc];rfl
     rw[decide_eq_false hc,Bool.false_and]
     iterate 7
      repeat' first|exact T0|(first|refine⟨i,_,rfl,hgx,?_⟩|refine⟨i-1,_,hs1,hgp,?_⟩|refine Yd fun _=>?_|refine Ye fun _=>?_|refine Yg ?_|refine Yk (v1.pu rfl rfl) ?_|refine Yk (geL') ?_);conv=>whnf|(refine Ya ?_ ?_<;>intro _<;>conv=>whnf)
      all_goals try (refine Or.inl ?_;conv=>whnf)
     all_goals try exact (bnl hc' ‹(!decide (p.1<x.1))=false›).elim
     all_goals try (exfalso;simp only[outL] at *;first|omega|contradiction|(simp_all;done)|(simp_all;omega))
     all_goals refine⟨[],?_⟩
     repeat any_goals first|exact T0|exact rfl|exact Yr|refine Ya ?_ ?_
     all_goals conv=>whnf
 ·rw[List.drop_of_length_le (by omega:l.length≤i)]
  iterate 5
   repeat' first|exact T0|(first|refine Yd fun _=>?_|refine Ye fun _=>?_|refine Yg ?_);conv=>whnf|(refine Ya ?_ ?_<;>intro _<;>conv=>whnf)
   all_goals try (refine Or.inl ?_;conv=>whnf)
  all_goals try (exfalso;simp only[outL] at *;first|omega|contradiction|(simp_all;done)|(simp_all;omega))
  all_goals refine⟨[],?_⟩
  repeat any_goals first|exact T0|exact rfl|exact Yr|refine Ya ?_ ?_
  all_goals conv=>whnf
set_option maxHeartbeats 4000000 in
theorem rRight_sat (s:Ser):Sat Tryz.prog 75 [.d (serD s)] [] (bA (rightB s)) []:=by
 obtain⟨nm,l⟩:=s
 have hl:(l.map labR).length=l.length:=List.length_map _
 have n1:=rName_sat nm
 show Sat _ _ _ _ (bA (nameL nm && (decide (l.length≤8) && chkL none l))) _
 cases hnm:nameL nm with
 |false=>
  rw[hnm] at n1
  refine Vq Tryz.func75 rfl rfl ?_
  conv=>whnf
  iterate 4
   repeat' first|exact T0|(first|refine Yd fun _=>?_|refine Ye fun _=>?_|refine Yg ?_|refine Yk (n1.pu rfl rfl) ?_);conv=>whnf|(refine Ya ?_ ?_<;>intro _<;>conv=>whnf)
   all_goals try (refine Or.inl ?_;conv=>whnf)
  all_goals try (exfalso;simp only[outL] at *;first|omega|contradiction|(simp_all;done)|(simp_all;omega))
  all_goals refine⟨[],?_⟩
  repeat any_goals first|exact T0|exact rfl|exact Yr|refine Ya ?_ ?_
  all_goals conv=>whnf
 |true=>
 rw[hnm] at n1
 by_cases h8:l.length≤8
 case neg=>
  rw[decide_eq_false h8]
  refine Vq Tryz.func75 rfl rfl ?_
  conv=>whnf
  iterate 4
   repeat' first|exact T0|(first|refine Yd fun _=>?_|refine Ye fun _=>?_|refine Yg ?_|refine Yk (n1.pu rfl rfl) ?_);conv=>whnf|(refine Ya ?_ ?_<;>intro _<;>conv=>whnf)
   all_goals try (refine Or.inl ?_;conv=>whnf)
  all_goals try (exfalso;simp only[outL] at *;first|omega|contradiction|(simp_all;done)|(simp_all;omega))
  all_goals refine⟨[],?_⟩
  repeat any_goals first|exact T0|exact rfl|exact Yr|refine Ya ?_ ?_
  all_goals conv=>whnf
 rw[decide_eq_true h8,Bool.true_and,Bool.true_and]
 refine Vq Tryz.func75 rfl rfl ?_
 conv=>whnf
 iterate 4
  repeat' first|exact T0|(first|refine Yd fun _=>?_|refine Ye fun _=>?_|refine Yg ?_|refine Yk (n1.pu rfl rfl) ?_);conv=>whnf|(refine Ya ?_ ?_<;>intro _<;>conv=>whnf)
  all_goals try (refine Or.inl ?_;conv=>whnf)
 all_goals try (exfalso;simp only[outL] at *;first|omega|contradiction|(simp_all;done)|(simp_all;omega))
 refine⟨Nat,fun i=>i≤l.length∧chkL none l=chkL (prvL l i) (l.drop i),fun i=>([(3,iA i),(1,.ptr 0 0)],[.cells [.d (tD nm),.d (.sl 2 (l.map labR))]]),fun i=>l.length-i,⟨0,⟨Nat.zero_le _,rfl⟩,?_⟩,?_⟩
 ·all_goals refine⟨[],?_⟩
  repeat any_goals first|exact T0|exact rfl|exact Yr|refine Ya ?_ ?_
  all_goals conv=>whnf
 rintro i ⟨hi,hI⟩
 rw[hI]
 conv=>whnf
 by_cases hlt:i<l.length
 ·have hx:l[i]?=some l[i]:=List.getElem?_eq_getElem hlt
  generalize l[i]=x at hx
  have hgx:=map_get (f:=labR) hx
  have v1:=rName_sat x.1
  have v2:=rValue_sat x.2
  rw[drop_cons hx] at *
  have d1:decide ((i:Int)<((l.map labR).length:Nat))=true:=decide_eq_true (by rw[hl];omega)
  have nxt:=prvL_succ hx
  cases hv:labB x with
  |false=>
   rw[show chkL (prvL l i) (x::l.drop (i+1))=false from by simp[chkL,hv]]
   cases hnx:nameL x.1 with
   |false=>
    rw[hnx] at v1
    iterate 5
     repeat' first|exact T0|(first|refine⟨i,_,rfl,hgx,?_⟩|refine Yd fun _=>?_|refine Ye fun _=>?_|refine Yg ?_|refine Yk (v1.pu rfl rfl) ?_|refine Yk (v2.pu rfl rfl) ?_);conv=>whnf|(refine Ya ?_ ?_<;>intro _<;>conv=>whnf)
     all_goals try (refine Or.inl ?_;conv=>whnf)
    all_goals try exact (bnl d1 ‹_›).elim
    all_goals try (exfalso;simp only[outL] at *;first|omega|contradiction|(simp_all;done)|(simp_all;omega))
    all_goals refine⟨[],?_⟩
    repeat any_goals first|exact T0|exact rfl|exact Yr|refine Ya ?_ ?_
    all_goals conv=>whnf
   |true=>
    have hvx:valueL x.2=false:=by
     unfold labB at hv
     rw[hnx,Bool.and_true] at hv
     exact hv
    rw[hnx] at v1
    rw[hvx] at v2
    iterate 5
     repeat' first|exact T0|(first|refine⟨i,_,rfl,hgx,?_⟩|refine Yd fun _=>?_|refine Ye fun _=>?_|refine Yg ?_|refine Yk (v1.pu rfl rfl) ?_|refine Yk (v2.pu rfl rfl) ?_);conv=>whnf|(refine Ya ?_ ?_<;>intro _<;>conv=>whnf)
     all_goals try (refine Or.inl ?_;conv=>whnf)
    all_goals try exact (bnl d1 ‹_›).elim
    all_goals try (exfalso;simp only[outL] at *;first|omega|contradiction|(simp_all;done)|(simp_all;omega))
    all_goals refine⟨[],?_⟩
    repeat any_goals first|exact T0|exact rfl|exact Yr|refine Ya ?_ ?_
    all_goals conv=>whnf
  |true=>
   have hv2:valueL x.2=true∧nameL x.1=true:=by unfold labB at hv;simpa using hv
   rw[hv2.2] at v1
   rw[hv2.1] at v2
   by_cases h0:i=0
   ·have e:chkL (prvL l i) (x::l.drop (i+1))=chkL (prvL l (i+1)) (l.drop (i+1)):=by
     rw[nxt,h0,prvL_zero];simp[chkL,hv]
    rw[e] at *
    iterate 5
     repeat' first|exact T0|(first|refine⟨i,_,rfl,hgx,?_⟩|refine Yd fun _=>?_|refine Ye fun _=>?_|refine Yg ?_|refine Yk (v1.pu rfl rfl) ?_|refine Yk (v2.pu rfl rfl) ?_);conv=>whnf|(refine Ya ?_ ?_<;>intro _<;>conv=>whnf)
     all_goals try (refine Or.inl ?_;conv=>whnf)
    all_goals try (exfalso;simp only[outL] at *;first|omega|contradiction|(simp_all;done)|(simp_all;omega))
    refine⟨i+1,⟨hlt,rfl⟩,show l.length-(i+1)<l.length-i by omega,?_⟩
    all_goals refine⟨[],?_⟩
    repeat any_goals first|exact T0|exact rfl|exact Yr|refine Ya ?_ ?_
    all_goals conv=>whnf
    exact wk1 (by omega)
   ·have hlp:i-1<l.length:=by omega
    have hp:l[i-1]?=some l[i-1]:=List.getElem?_eq_getElem hlp
    generalize l[i-1]=p at hp
    have hgp:=map_get (f:=labR) hp
    have hs1:=sub_one (by omega:0<i) (by omega)
    have e:chkL (prvL l i) (x::l.drop (i+1))=(decide (p.1<x.1) && chkL (prvL l (i+1)) (l.drop (i+1))):=by
     rw[nxt,show prvL l i=some p.1 by unfold prvL;rw[if_neg h0,hp];rfl];simp[chkL,hv]
    rw[e] at *
    by_cases hc:p.1<x.1
    ·have hc':(!decide (p.1<x.1))=false:=by rw[decide_eq_true hc];rfl
     rw[decide_eq_true hc,Bool.true_and]
     iterate 7
      repeat' first|exact T0|(first|refine⟨i,_,rfl,hgx,?_⟩|refine⟨i-1,_,hs1,hgp,?_⟩|refine Yd fun _=>?_|refine Ye fun _=>?_|refine Yg ?_|refine Yk (v1.pu rfl rfl) ?_|refine Yk (v2.pu rfl rfl) ?_|refine Yk (geL') ?_);conv=>whnf|(refine Ya ?_ ?_<;>intro _<;>conv=>whnf)
      all_goals try (refine Or.inl ?_;conv=>whnf)
     all_goals try exact (bnl ‹(!decide (p.1<x.1))=true› hc').elim
     all_goals try (exfalso;simp only[outL] at *;first|omega|contradiction|(simp_all;done)|(simp_all;omega))
     refine⟨i+1,⟨hlt,rfl⟩,show l.length-(i+1)<l.length-i by omega,?_⟩
     all_goals refine⟨[],?_⟩
     repeat any_goals first|exact T0|exact rfl|exact Yr|refine Ya ?_ ?_
     all_goals conv=>whnf
     exact wk1 (by omega)
    ·have hc':(!decide (p.1<x.1))=true:=by rw[decide_eq_false hc];rfl
     rw[decide_eq_false hc,Bool.false_and]
     iterate 7
      repeat' first|exact T0|(first|refine⟨i,_,rfl,hgx,?_⟩|refine⟨i-1,_,hs1,hgp,?_⟩|refine Yd fun _=>?_|refine Ye fun _=>?_|refine Yg ?_|refine Yk (v1.pu rfl rfl) ?_|refine Yk (v2.pu rfl rfl) ?_|refine Yk (geL') ?_);conv=>whnf|(refine Ya ?_ ?_<;>intro _<;>conv=>whnf)
      all_goals try (refine Or.inl ?_;conv=>whnf)
     all_goals try exact (bnl hc' ‹(!decide (p.1<x.1))=false›).elim
     all_goals try (exfalso;simp only[outL] at *;first|omega|contradiction|(simp_all;done)|(simp_all;omega))
     all_goals refine⟨[],?_⟩
     repeat any_goals first|exact T0|exact rfl|exact Yr|refine Ya ?_ ?_
     all_goals conv=>whnf
 ·rw[List.drop_of_length_le (by omega:l.length≤i)]
  iterate 5
   repeat' first|exact T0|(first|refine Yd fun _=>?_|refine Ye fun _=>?_|refine Yg ?_);conv=>whnf|(refine Ya ?_ ?_<;>intro _<;>conv=>whnf)
   all_goals try (refine Or.inl ?_;conv=>whnf)
  all_goals try (exfalso;simp only[outL] at *;first|omega|contradiction|(simp_all;done)|(simp_all;omega))
  all_goals refine⟨[],?_⟩
  repeat any_goals first|exact T0|exact rfl|exact Yr|refine Ya ?_ ?_
  all_goals conv=>whnf
theorem ordB_zero {a b:Bt}:ordB a b=0↔a=b:=by
 unfold ordB
 constructor
 ·intro h
  by_cases h1:a<b
  ·rw[if_pos h1] at h;cases h
  ·rw[if_neg h1] at h
   by_cases h2:b<a
   ·rw[if_pos h2] at h;cases h
   ·exact List.le_antisymm (List.not_lt.1 h2) (List.not_lt.1 h1)
 ·rintro rfl
  rw[if_neg (List.lt_irrefl _),if_neg (List.lt_irrefl _)]
theorem orI_zero {a b:Int}:orI a b=0↔a=0∧b=0:=by
 unfold orI
 split
 ·constructor
  ·intro h;contradiction
  ·rintro⟨h,_⟩;contradiction
 ·rename_i h
  simp only[ne_eq,Decidable.not_not] at h
  simp[h]
theorem labsCmp_zero:∀ {l k:List Lab},labsCmp l k=0↔l=k
 |[],[]=>by simp[labsCmp]
 |[],_::_=>by simp[labsCmp]
 |_::_,[]=>by simp[labsCmp]
 |a::r,b::r'=>by
  rw[show labsCmp (a::r) (b::r')=orI (labCmp a b) (labsCmp r r') from rfl,orI_zero,labsCmp_zero (l:=r) (k:=r')]
  unfold labCmp
  rw[orI_zero,ordB_zero,ordB_zero,List.cons.injEq,Prod.ext_iff]
theorem serCmp_zero {a b:Ser}:serCmp a b=0↔a=b:=by
 unfold serCmp
 rw[orI_zero,ordB_zero,labsCmp_zero,Prod.ext_iff]
theorem rSame_sat (a b:Ser) (hn:a.2.length≤1000000) (hn':b.2.length≤1000000):Sat Tryz.prog 79 [.d (serD a),.d (serD b)] [] (bA (decide (a=b))) []:=by
 have c1:=rCmp_sat a b hn hn'
 refine Vq Tryz.func79 rfl rfl ?_
 conv=>whnf
 iterate 3
  repeat' first|exact T0|(first|refine Yd fun _=>?_|refine Ye fun _=>?_|refine Yg ?_|refine Yk (c1.pu rfl rfl) ?_);conv=>whnf|(refine Ya ?_ ?_<;>intro _<;>conv=>whnf)
  all_goals try (refine Or.inl ?_;conv=>whnf)
 all_goals refine⟨[],?_⟩
 repeat any_goals first|exact T0|exact rfl|exact Yr|refine Ya ?_ ?_
 all_goals conv=>whnf
 rw[show (serCmp a b == 0)=decide (a=b) from by rw[Bool.eq_iff_iff,beq_iff_eq,decide_eq_true_eq,serCmp_zero]]
set_option maxHeartbeats 4000000 in
theorem ofS_sat (s:Ser) (hn:s.2.length≤1000000):Sat Tryz.prog 36 [.d (serD s)] [] (.d (serD s)) []:=by
 obtain⟨nm,l⟩:=s
 have hn:l.length≤1000000:=hn
 have hl:(l.map labR).length=l.length:=List.length_map _
 refine Vq Tryz.func36 rfl rfl ?_
 conv=>whnf
 iterate 2
  repeat' first|exact T0|(first|refine Yd fun _=>?_|refine Ye fun _=>?_|refine Yg ?_);conv=>whnf|(refine Ya ?_ ?_<;>intro _<;>conv=>whnf)
  all_goals try (refine Or.inl ?_;conv=>whnf)
 refine⟨Nat,fun i=>i≤l.length,fun i=>([(4,iA i),(3,.ptr 2 0),(2,.ptr 1 0),(1,.ptr 0 0)],[.cells [.d (tD nm),.d (.sl 2 (l.map labR))],.cells [.d (tD []),.d (.v (.slice none 0 0))],.cells [.d (tD nm),.own 3],.sl 2 ((l.take i).map labR)]),fun i=>l.length-i,⟨0,Nat.zero_le _,?_⟩,?_⟩
 ·all_goals refine⟨[],?_⟩
  repeat any_goals first|exact T0|exact rfl|exact Yr|refine Ya ?_ ?_
  all_goals conv=>whnf
 intro i hi
 have hi:i≤l.length:=hi
 have hlt0:((l.take i).map labR).length=i:=by rw[List.length_map,List.length_take];omega
 conv=>whnf
 by_cases hlt:i<l.length
 ·have hx:l[i]?=some l[i]:=List.getElem?_eq_getElem hlt
  generalize l[i]=x at hx
  have hgx:=map_get (f:=labR) hx
  have d1:decide ((i:Int)<((l.map labR).length:Nat))=true:=decide_eq_true (by rw[hl];omega)
  iterate 5
   repeat' first|exact T0|(first|refine⟨i,_,rfl,hgx,?_⟩|refine Yd fun _=>?_|refine Ye fun _=>?_|refine Yg ?_|refine Yk (ap 2 32 (by kernel_rfl) rfl rfl (by simp;omega)) ?_);conv=>whnf|(refine Ya ?_ ?_<;>intro _<;>conv=>whnf)
   all_goals try (refine Or.inl ?_;conv=>whnf)
  all_goals try exact (bnl d1 ‹_›).elim
  refine⟨i+1,hlt,show l.length-(i+1)<l.length-i by omega,?_⟩
  all_goals refine⟨[(3,5)],?_⟩
  repeat any_goals first|exact T0|exact rfl|exact Yr|refine Ya ?_ ?_
  all_goals conv=>whnf
  ·exact wk1 (by omega)
  ·rw[map_take_succ hx];rfl
 ·iterate 5
   repeat' first|exact T0|(first|refine Yd fun _=>?_|refine Ye fun _=>?_|refine Yg ?_);conv=>whnf|(refine Ya ?_ ?_<;>intro _<;>conv=>whnf)
   all_goals try (refine Or.inl ?_;conv=>whnf)
  all_goals try (exfalso;simp only[outL] at *;first|omega|contradiction|(simp_all;done)|(simp_all;omega))
  all_goals refine⟨[],?_⟩
  repeat any_goals first|exact T0|exact rfl|exact Yr|refine Ya ?_ ?_
  all_goals conv=>whnf
  rw[List.take_of_length_le (by omega)]
def greatB (s:Ser):Bool:=decide (s.2.length>100) || (decide (s.1.length>300) || s.2.any fun l=>decide (l.1.length>300) || decide (l.2.length>300))
theorem great_no8 {s:Ser} (h:greatB s=false):s.2.length≤100∧s.1.length≤300∧∀ l∈s.2,l.1.length≤300∧l.2.length≤300:=by
 unfold greatB at h
 simp only[Bool.or_eq_false_iff,decide_eq_false_iff_not,List.any_eq_false,Bool.or_eq_true,decide_eq_true_eq] at h
 exact⟨by omega,by omega,fun l hl=>by have:=h.2.2 l hl;omega⟩
set_option maxHeartbeats 4000000 in
theorem great8_sat (s:Ser):Sat Tryz.prog 33 [.d (serD s)] [] (bA (greatB s)) []:=by
 obtain⟨nm,l⟩:=s
 have hl:(l.map labR).length=l.length:=List.length_map _
 have hs:=tsz nm
 by_cases h1:l.length>100∨nm.length>300
 ·rw[show greatB (nm,l)=true by unfold greatB;rcases h1 with h|h<;>simp[h]]
  refine Vq Tryz.func33 rfl rfl ?_
  conv=>whnf
  iterate 4
   repeat' first|exact T0|(first|refine Yd fun _=>?_|refine Ye fun _=>?_|refine Yg ?_);conv=>whnf|(refine Ya ?_ ?_<;>intro _<;>conv=>whnf)
   all_goals try (exfalso;simp only[outL] at *;first|omega|contradiction|(simp_all;done)|(simp_all;omega))
   all_goals try (refine Or.inl ?_;conv=>whnf)
  all_goals refine⟨[],?_⟩
  repeat any_goals first|exact T0|exact rfl|exact Yr|refine Ya ?_ ?_
  all_goals conv=>whnf
 have q1:¬l.length>100:=fun h=>h1 (.inl h)
 have q2:¬nm.length>300:=fun h=>h1 (.inr h)
 rw[show greatB (nm,l)=l.any fun l=>decide (l.1.length>300) || decide (l.2.length>300) by
  show (decide (l.length>100) || (decide (nm.length>300) || _))=_
  rw[decide_eq_false q1,decide_eq_false q2,Bool.false_or,Bool.false_or]]
 refine Vq Tryz.func33 rfl rfl ?_
 conv=>whnf
 iterate 4
  repeat' first|exact T0|(first|refine Yd fun _=>?_|refine Ye fun _=>?_|refine Yg ?_);conv=>whnf|(refine Ya ?_ ?_<;>intro _<;>conv=>whnf)
  all_goals try (exfalso;simp only[outL] at *;first|omega|contradiction|(simp_all;done)|(simp_all;omega))
  all_goals try (refine Or.inl ?_;conv=>whnf)
 refine⟨Nat,fun i=>i≤l.length∧((l.take i).any fun l=>decide (l.1.length>300) || decide (l.2.length>300))=false,fun i=>([(3,iA i),(1,.ptr 0 0)],[.cells [.d (tD nm),.d (.sl 2 (l.map labR))]]),fun i=>l.length-i,⟨0,⟨Nat.zero_le _,rfl⟩,?_⟩,?_⟩
 ·all_goals refine⟨[],?_⟩
  repeat any_goals first|exact T0|exact rfl|exact Yr|refine Ya ?_ ?_
  all_goals conv=>whnf
 rintro i ⟨hi,hI⟩
 have hi:i≤l.length:=hi
 conv=>whnf
 by_cases hlt:i<l.length
 ·have hx:l[i]?=some l[i]:=List.getElem?_eq_getElem hlt
  generalize l[i]=x at hx
  have hgx:=map_get (f:=labR) hx
  have s1:=tsz x.1
  have s2:=tsz x.2
  have d1:decide ((i:Int)<((l.map labR).length:Nat))=true:=decide_eq_true (by rw[hl];omega)
  by_cases hc:x.1.length>300∨x.2.length>300
  ·rw[show (l.any fun l=>decide (l.1.length>300) || decide (l.2.length>300))=true by
    rw[List.any_eq_true];exact⟨x,List.mem_of_getElem? hx,by simpa using hc⟩]
   iterate 5
    repeat' first|exact T0|(first|refine⟨i,_,rfl,hgx,?_⟩|refine Yd fun _=>?_|refine Ye fun _=>?_|refine Yg ?_);conv=>whnf|(refine Ya ?_ ?_<;>intro _<;>conv=>whnf)
    all_goals try (refine Or.inl ?_;conv=>whnf)
   all_goals try exact (bnl d1 ‹_›).elim
   all_goals try (exfalso;simp only[outL] at *;first|omega|contradiction|(simp_all;done)|(simp_all;omega))
   all_goals refine⟨[],?_⟩
   repeat any_goals first|exact T0|exact rfl|exact Yr|refine Ya ?_ ?_
   all_goals conv=>whnf
  ·have n1:¬x.1.length>300:=fun h=>hc (.inl h)
   have n2:¬x.2.length>300:=fun h=>hc (.inr h)
   iterate 5
    repeat' first|exact T0|(first|refine⟨i,_,rfl,hgx,?_⟩|refine Yd fun _=>?_|refine Ye fun _=>?_|refine Yg ?_);conv=>whnf|(refine Ya ?_ ?_<;>intro _<;>conv=>whnf)
    all_goals try (refine Or.inl ?_;conv=>whnf)
   all_goals try exact (bnl d1 ‹_›).elim
   all_goals try (exfalso;simp only[outL] at *;first|omega|contradiction|(simp_all;done)|(simp_all;omega))
   refine⟨i+1,⟨hlt,?_⟩,show l.length-(i+1)<l.length-i by omega,?_⟩
   ·rw[List.take_add_one,hx,List.any_append,hI]
    simp[n1,n2]
   all_goals refine⟨[],?_⟩
   repeat any_goals first|exact T0|exact rfl|exact Yr|refine Ya ?_ ?_
   all_goals conv=>whnf
   exact wk1 (by omega)
 ·rw[←List.take_of_length_le (by omega:l.length≤i),hI,List.take_of_length_le (by omega:l.length≤i)]
  iterate 5
   repeat' first|exact T0|(first|refine Yd fun _=>?_|refine Ye fun _=>?_|refine Yg ?_);conv=>whnf|(refine Ya ?_ ?_<;>intro _<;>conv=>whnf)
   all_goals try (refine Or.inl ?_;conv=>whnf)
  all_goals try (exfalso;simp only[outL] at *;first|omega|contradiction|(simp_all;done)|(simp_all;omega))
  all_goals refine⟨[],?_⟩
  repeat any_goals first|exact T0|exact rfl|exact Yr|refine Ya ?_ ?_
  all_goals conv=>whnf
abbrev cmpF:AV:=.fn (.func 125) [] []
end Go.Proofs.YtfbfpnfgabamfaaGreat
namespace Go.Proofs.YtfbfpnfgabamfaaGreat
open Go.RowKit
set_option linter.unusedVariables false
set_option linter.unusedSimpArgs false
theorem Tryz.info8:(Tryz.prog.info? 5).map (fun i=>(i.zero,i.size,i.bytes))=some (some (.int .u8 0),1,1):=by kernel_rfl
theorem RdB.lit (w:World) (l:List UInt8) (e:TypeId) (fz:Nat × Nat) (n:Nat) (hl:l.length=n):RdB (w.alloc (.cells (l.map bv).toArray e fz)) (w.heap.size+1) (some ⟨w.heap.size,0,none⟩) n l:=
 Rd.litm w (l.map bv).toArray e fz n 1 (by simpa using hl)
theorem copyBytes_any (A:Option Addr) (n c:Nat) (l:List UInt8) (w:World) (hr:RdB w w.heap.size A n l) (hn:n≤140737488351232) :
  Calls Tryz.prog 37 #[.slice A n c] w fun e w'=>∃ v,e=.returned v∧Ow w' w.heap.size 5 1 v n (l.map bv)∧Below w.heap.size w w':=by
 obtain⟨i0,hi0,hz0,hz1,hz2⟩:=info_parts Tryz.info8
 go_enter Tryz.func37,Tryz.ntmps37
 go_wp2_with (at_builtin;refine wpList_append_ow _ rfl (.tmp 3) (.tmp 4) _ rfl w.heap.size 5 i0 _ 1 1 Tryz.underlying36 hi0 hz0 hz1 hz2 rfl (by omega) (.slice (some ⟨w.heap.size,0,none⟩) 0 0) 0 [] rfl (Ow.lit w #[] 0 (Nat.le_refl _) (by simp[maxLen]) rfl) w.heap.size A n c (l.map bv) rfl (hr.alloc (Nat.le_refl _) _) (bvs_one l) (by simp only[maxLen];omega) (by omega) (by simp) ?_;intro v1 w1 hown1 hg1 hat1 hnn1)
 go_ret
 refine⟨_,rfl,by simpa using hown1,?_⟩
 exact (((Below.refl _ _).alloc (Nat.le_refl _) _).grown hg1 (by simp) (by simp[Value.ownBlock]))
theorem toNat_ne {a b:UInt8} (h:a≠b):(((a.toNat:Int) != (b.toNat:Int))=true):=by
 have:a.toNat≠b.toNat:=fun e=>h (UInt8.toNat_inj.1 e)
 simp;omega
theorem toNat_eqb {a b:UInt8} (h:a=b):(((a.toNat:Int) != (b.toNat:Int))=false):=by
 subst h;simp
theorem clone_any (A:Option Addr) (n c:Nat) (l:List UInt8) (w:World) (hr:RdB w w.heap.size A n l) (hn:n≤140737488351232) :
  Calls Tryz.prog 82 #[.slice A n c] w fun e w'=>∃ v,e=.returned v∧Ow w' w.heap.size 5 1 v n (l.map bv)∧Below w.heap.size w w':=by
 have hlen:=RdB.len hr
 cases A with
 |none=>
  have h0:n=0:=by
   rcases Nat.eq_zero_or_pos n with h|h
   ·exact h
   ·obtain⟨b,off,h,_⟩:=hr.at_ h
    cases h
  subst h0
  have hl:l=[]:=List.eq_nil_of_length_eq_zero hlen
  subst hl
  refine (Tryz.bytes_Clone_nil 0 c w).mono ?_
  rintro e w' ⟨rfl,rfl⟩
  exact⟨_,rfl,Ow.nil _ _ _ _,Below.refl _ _⟩
 |some a=>
  refine (Tryz.bytes_Clone_at a n c (l.map fun x=>(x.toNat:Int)) w (by simpa using hlen) (by omega) ?_).mono ?_
  ·intro i hi
   obtain⟨b,off,h,hb,hc⟩:=RdB.cell hr hi
   injection h with h
   subst h
   rw[Addr.add_lit,hc]
   have:i<l.length:=by omega
   simp[List.getD,List.getElem?_eq_getElem this]
  ·rintro e w' ⟨v,rfl,hown,_,hb⟩
   refine⟨v,rfl,?_,hb⟩
   have:=Ow.of_own hown
   rw[List.map_map] at this
   exact this
end Go.Proofs.YtfbfpnfgabamfaaGreat
namespace Go.Proofs.YtfbfpnfgabamfaaGreat
set_option linter.unusedSimpArgs false
set_option linter.unusedVariables false
def bnd:Nat→Nat
 |0=>2
 |f+1=>128*bnd f
def encF:Nat→Nat→List UInt8
 |0,u=>[UInt8.ofNat u]
 |f+1,u=>if u<128 then [UInt8.ofNat u] else UInt8.ofNat (128+u % 128)::encF f (u / 128)
def enc (u:Nat):List UInt8:=encF 9 u
theorem bnd9:bnd 9=18446744073709551616:=rfl
theorem bnd_pos:∀ f,2≤bnd f
 |0=>Nat.le_refl _
 |f+1=>by have:=bnd_pos f;simp only[bnd];omega
theorem encF_small {f u:Nat} (h:u<128):encF f u=[UInt8.ofNat u]:=by
 cases f with
 |zero=>rfl
 |succ f=>simp[encF,h]
theorem encF_big {f u:Nat} (h:¬u<128):encF (f+1) u=UInt8.ofNat (128+u % 128)::encF f (u / 128):=by simp[encF,h]
theorem encF_len:∀ (f u:Nat),1≤(encF f u).length∧(encF f u).length≤f+1
 |0,u=>by simp[encF]
 |f+1,u=>by
  by_cases h:u<128
  ·rw[encF_small h];simp
  ·rw[encF_big h]
   have:=encF_len f (u / 128)
   simp;omega
def decF (i acc:Nat):List UInt8→Nat × Nat × Nat
 |[]=>(0,0,15)
 |c::r=>if (c.toNat=0∧0<i)∨(1<c.toNat∧i=9) then (0,0,10) else if c.toNat<128 then (acc+c.toNat * 128 ^ i,i+1,0) else decF (i+1) (acc+c.toNat % 128*128 ^ i) r
def dec (l:List UInt8):Nat × Nat × Nat:=decF 0 0 l
theorem ofNat_toNat {u:Nat} (h:u<256):(UInt8.ofNat u).toNat=u:=by rw[UInt8.toNat_ofNat'];exact Nat.mod_eq_of_lt h
theorem dec_encF:∀ (f i acc u:Nat) (r:List UInt8),i+f=9→u<bnd f→(0<i→0<u)→decF i acc (encF f u++r)=(acc+u*128 ^ i,i+(encF f u).length,0)
 |0,i,acc,u,r,hi,hu,h0=>by
  have hu2:u<2:=hu
  simp only[encF,List.cons_append,List.nil_append,decF,List.length_cons,List.length_nil]
  rw[ofNat_toNat (by omega),if_neg (by omega),if_pos (by omega)]
 |f+1,i,acc,u,r,hi,hu,h0=>by
  by_cases h:u<128
  ·rw[encF_small h]
   simp only[List.cons_append,List.nil_append,decF,List.length_cons,List.length_nil]
   rw[ofNat_toNat (by omega),if_neg (by omega),if_pos (by omega)]
  ·rw[encF_big h]
   simp only[List.cons_append,decF,List.length_cons]
   rw[ofNat_toNat (by omega),if_neg (by omega),if_neg (by omega),dec_encF f (i+1) _ (u / 128) r (by omega) (by simp only[bnd] at hu;omega) (by omega)]
   have e1:(128+u % 128) % 128=u % 128:=by omega
   rw[e1,Nat.add_assoc acc,Nat.pow_succ]
   have e2:u % 128*128 ^ i+u / 128*(128 ^ i*128)=u*128 ^ i:=by
    rw[Nat.mul_comm (128 ^ i) 128,←Nat.mul_assoc,←Nat.add_mul,Nat.mod_add_div' u 128]
   rw[e2]
   simp only[Prod.mk.injEq,and_true,true_and]
   omega
theorem dec_enc {u:Nat} (h:u<18446744073709551616) (r:List UInt8):dec (enc u++r)=(u,(enc u).length,0):=by
 have:=dec_encF 9 0 0 u r rfl (by rw[bnd9];exact h) (by omega)
 simpa [dec,enc] using this
theorem enc_of_dec:∀ (l:List UInt8) (i acc v s:Nat),i≤9→decF i acc l=(v,s,0) →
  ∃ u,v=acc+u*128 ^ i∧i<s∧s≤i+l.length∧s≤10∧encF (9-i) u=l.take (s-i)∧u<bnd (9-i)∧(0<i→0<u)
 |[],i,acc,v,s,hi,h=>by simp[decF] at h
 |c::r,i,acc,v,s,hi,h=>by
  have hc:=c.toNat_lt
  simp only[decF] at h
  by_cases h1:(c.toNat=0∧0<i)∨(1<c.toNat∧i=9)
  ·rw[if_pos h1] at h;simp at h
  ·rw[if_neg h1] at h
   by_cases h2:c.toNat<128
   ·rw[if_pos h2] at h
    simp only[Prod.mk.injEq,and_true] at h
    obtain⟨rfl,rfl⟩:=h
    refine⟨c.toNat,rfl,by omega,by simp,by omega,?_,?_,by omega⟩
    ·rw[encF_small h2];simp
    ·rcases Nat.eq_or_lt_of_le hi with h9|h9
     ·subst h9;simp only[Nat.sub_self,bnd];omega
     ·obtain⟨q,hq⟩:∃ q,9-i=q+1:=⟨9-i-1,by omega⟩
      rw[hq];have:=bnd_pos q;simp only[bnd];omega
   ·rw[if_neg h2] at h
    have h9:i≠9:=by omega
    obtain⟨u,hv,h3,h4,h5,h6,h7,h8⟩:=enc_of_dec r (i+1) _ v s (by omega) h
    obtain⟨q,hq⟩:∃ q,9-i=q+1:=⟨9-i-1,by omega⟩
    have hq2:9-(i+1)=q:=by omega
    rw[hq2] at h6 h7
    have hu:=h8 (by omega)
    refine⟨c.toNat % 128+128*u,?_,by omega,by simp only[List.length_cons];omega,h5,?_,?_,by omega⟩
    ·rw[hv,Nat.add_assoc]
     congr 1
     rw[Nat.add_mul,Nat.pow_succ,Nat.mul_comm 128 u,Nat.mul_assoc,Nat.mul_comm 128]
    ·rw[hq,encF_big (by omega)]
     have e1:(c.toNat % 128+128*u) / 128=u:=by omega
     have e2:128+(c.toNat % 128+128*u) % 128=c.toNat:=by omega
     rw[e1,e2,h6]
     have e3:s-i=(s-(i+1))+1:=by omega
     rw[e3,List.take_succ_cons]
     congr 1
     simp
    ·rw[hq];simp only[bnd];omega
theorem dec_bounds:∀ (l:List UInt8) (i acc v s e:Nat),i≤9→acc<128 ^ i→decF i acc l=(v,s,e)→v<18446744073709551616∧s≤i+l.length∧(e=0∨e=10∨e=15)∧(e≠0→v=0∧s=0)∧s≤10
 |[],i,acc,v,s,e,hi,ha,h=>by
  simp only[decF,Prod.mk.injEq] at h
  obtain⟨rfl,rfl,rfl⟩:=h
  simp
 |c::r,i,acc,v,s,e,hi,ha,h=>by
  have hc:=c.toNat_lt
  simp only[decF] at h
  by_cases h1:(c.toNat=0∧0<i)∨(1<c.toNat∧i=9)
  ·rw[if_pos h1] at h
   simp only[Prod.mk.injEq] at h
   obtain⟨rfl,rfl,rfl⟩:=h
   simp
  ·rw[if_neg h1] at h
   by_cases h2:c.toNat<128
   ·rw[if_pos h2] at h
    simp only[Prod.mk.injEq] at h
    obtain⟨rfl,rfl,rfl⟩:=h
    refine⟨?_,by simp,by simp,by simp,by omega⟩
    have hp:128 ^ i≤128 ^ 9:=Nat.pow_le_pow_right (by omega) hi
    rcases Nat.eq_or_lt_of_le hi with h9|h9
    ·subst h9
     have:c.toNat≤1:=by omega
     have h3:c.toNat * 128 ^ 9≤1*128 ^ 9:=Nat.mul_le_mul_right _ this
     have h4:(128:Nat) ^ 9=9223372036854775808:=rfl
     omega
    ·have hp:128 ^ i≤128 ^ 8:=Nat.pow_le_pow_right (by omega) (by omega)
     have h3:c.toNat * 128 ^ i≤127*128 ^ 8:=Nat.mul_le_mul (by omega) hp
     have h4:(128:Nat) ^ 8=72057594037927936:=rfl
     omega
   ·rw[if_neg h2] at h
    have h9:i≠9:=by omega
    have ha':acc+c.toNat % 128*128 ^ i<128 ^ (i+1):=by
     rw[Nat.pow_succ]
     have h3:c.toNat % 128*128 ^ i≤127*128 ^ i:=Nat.mul_le_mul_right _ (by omega)
     omega
    have:=dec_bounds r (i+1) _ v s e (by omega) ha' h
    simp only[List.length_cons]
    omega
end Go.Proofs.YtfbfpnfgabamfaaGreat
namespace Go.Proofs.YtfbfpnfgabamfaaGreat
open Go.RowKit
set_option linter.unusedVariables false
set_option linter.unusedSimpArgs false
theorem or128:∀ n:Nat,n<256→n ||| 128=128+n % 128:=by decide +kernel
theorem spell_more (u:Nat):bits BinOp.or IntKind.u8 ((u:Int) % 256) 128=(((UInt8.ofNat (128+u % 128)).toNat:Nat):Int):=by
 have h:=u8_or_nat (u % 256) 128 (by omega) (by omega)
 rw[or128 _ (by omega)] at h
 have e:(((u % 256:Nat)):Int)=(u:Int) % 256:=by omega
 rw[e] at h
 rw[UInt8.toNat_ofNat',Nat.mod_eq_of_lt (by omega)]
 rw[show 128+u % 128=128+u % 256 % 128 from by omega]
 exact h
theorem spell_last (u:Nat) (h:u<128):(u:Int)=(((UInt8.ofNat u).toNat:Nat):Int):=by rw[ofNat_toNat (by omega)]
set_option maxRecDepth 100000 in
theorem put_any (v:Value) (n:Nat) (l:List UInt8) (u lo:Nat) (w:World) (hown:Ow w lo 5 1 v n (l.map bv)) (hlo:lo≤w.heap.size) (hu:u<18446744073709551616) (hn:n≤70368744175616) :
  Calls Tryz.prog 98 #[v,.int .u64 u] w fun e w'=>∃ v',e=.returned v'∧Ow w' lo 5 1 v' (n+(enc u).length) ((l++enc u).map bv)∧Below lo w w':=by
 obtain⟨i0,hi0,hz0,hz1,hz2⟩:=info_parts Tryz.info8
 have hl:=hown.1
 simp only[List.length_map,Nat.mul_one] at hl
 have HU:=hide hu
 clear hu
 go_enter Tryz.func98,Tryz.ntmps98
 go_wp2
 go_loopw [0,1] (fun v x wr=>∃ (f q m:Nat) (acc:List UInt8),x=.int .u64 q∧q<bnd f∧f≤9∧m+f+1≤n+10∧Ow wr lo 5 1 v m (acc.map bv)∧Hid (acc++encF f q=l++enc u)∧Below lo w wr) (fun _ x _=>(intOf x).toNat)
 case atStart=>exact⟨9,u,n,l,rfl,by rw[bnd9];exact HU.out,by omega,by omega,hown,hide rfl,Below.refl _ _⟩
 case round=>
  obtain⟨f,q,m,acc,rfl,hq,hf,hm,own,HE,hb⟩:=hrel
  by_cases h:q<128
  ·have he:=HE.out
   rw[encF_small h] at he
   have HE2:=hide he
   clear he
   have hsp:=spell_last q h
   have HS:=hide hsp
   clear hsp
   have hcell:Rd (wr.alloc (.cells #[.int .u8 q] 5)) (wr.heap.size+1) 1 (some ⟨wr.heap.size,0,none⟩) 1 ([UInt8.ofNat q].map bv):=by
    rw[HS.out]
    exact RdB.lit wr [UInt8.ofNat q] 5 (0,0) 1 rfl
   go_wp2_with (at_builtin;refine wpList_append_ow _ rfl (.tmp 15) (.tmp 18) _ rfl lo 5 i0 _ 1 1 Tryz.underlying36 hi0 hz0 hz1 hz2 rfl (by omega) _ m (acc.map bv) rfl (own.alloc _) (wr.heap.size+1) (some ⟨wr.heap.size,0,none⟩) 1 1 _ rfl hcell (bvs_one _) (by simp only[maxLen];omega) (by omega) (by have:=hb.size;simp;omega) ?_;intro v1 w1 hown1 hg1 hat1 hnn1)
   go_ret
   have hsum:m+1=n+(enc u).length:=by
    have h1:=congrArg List.length HE2.out
    have h2:=own.1
    simp only[List.length_append,List.length_cons,List.length_nil,List.length_map,Nat.mul_one] at h1 h2
    omega
   refine⟨_,rfl,?_,(hb.alloc (by have:=hb.size;omega) _).grown hg1 (by have:=hb.size;simp;omega) (fun k hk=>own.lt k hk)⟩
   rw[←HE2.out,←hsum,List.map_append]
   exact hown1
  ·match f with
   |0=>simp only[bnd] at hq;omega
   |f+1=>
    have he:=HE.out
    rw[encF_big h] at he
    have HE2:=hide he
    clear he HE
    have HQ:=hide hq
    clear hq
    have hsp:=spell_more q
    have hcell:Rd (wr.alloc (.cells #[.int .u8 ((UInt8.ofNat (128+q % 128)).toNat:Nat)] 5)) (wr.heap.size+1) 1 (some ⟨wr.heap.size,0,none⟩) 1 ([UInt8.ofNat (128+q % 128)].map bv):=
     RdB.lit wr [UInt8.ofNat (128+q % 128)] 5 (0,0) 1 rfl
    generalize UInt8.ofNat (128+q % 128)=y at hsp hcell HE2
    go_wp2_with (at_builtin;refine wpList_append_ow _ rfl (.tmp 9) (.tmp 13) _ rfl lo 5 i0 _ 1 1 Tryz.underlying36 hi0 hz0 hz1 hz2 rfl (by omega) _ m (acc.map bv) rfl (own.alloc _) (wr.heap.size+1) (some ⟨wr.heap.size,0,none⟩) 1 1 _ rfl hcell (bvs_one _) (by simp only[maxLen];omega) (by omega) (by have:=hb.size;simp;omega) ?_;intro v1 w1 hown1 hg1 hat1 hnn1)
    go_roundw
    case rel=>exact⟨f,q / 128,m+1,acc++[y],by go_num,by have:=HQ.out;simp only[bnd] at this;omega,by omega,by omega,by rw[List.map_append];exact hown1,hide (by rw[List.append_assoc];exact HE2.out),(hb.alloc (by have:=hb.size;omega) _).grown hg1 (by have:=hb.size;simp;omega) (fun k hk=>own.lt k hk)⟩
    case measure=>simp[intOf];omega
def i64v (x:Int):Value:=.int .i64 x
theorem u64_wrap (n:Int):IntKind.u64.wrap n=n % 18446744073709551616:=by simp[IntKind.wrap,IntKind.bits,IntKind.signed]
theorem Rd.get {w:World} {B n:Nat} {A:Option Addr} {α:Type} {f:α→Value} {l:List α} (h:Rd w B 1 A n (l.map f)) {k:Nat} (hk:k<n) :
  ∃ b off,A=some ⟨b,off,none⟩∧b<B∧∃ x,l[k]?=some x∧w.cell? ⟨b,off+k,none⟩=some (f x):=by
 obtain⟨b,off,e,hb,hc⟩:=h.at_ hk
 have hl:=h.1
 simp only[List.length_map,Nat.mul_one] at hl
 refine⟨b,off,e,hb,l[k],List.getElem?_eq_getElem (by omega),?_⟩
 rw[hc k (by simp;omega)]
 simp
theorem Rd.len {w:World} {B n:Nat} {A:Option Addr} {α:Type} {f:α→Value} {l:List α} (h:Rd w B 1 A n (l.map f)):l.length=n:=by
 have:=h.1;simpa using this
theorem pow7 (k:Nat):(2:Nat) ^ (7*k)=128 ^ k:=by rw[Nat.pow_mul]
theorem spell_gather (a m k:Nat) (ha:a<128 ^ k) (hk:k≤9) (hm:m<128) (h9:k=9→m≤1) :
  bits BinOp.or IntKind.u64 (a:Int) (IntKind.u64.wrap ((m:Int)*2 ^ (7*k)))=((a+m*128 ^ k:Nat):Int)∧a+m*128 ^ k<18446744073709551616:=by
 have hp:(2:Nat) ^ (7*k)=128 ^ k:=pow7 k
 have hle:(128:Nat) ^ k≤128 ^ 9:=Nat.pow_le_pow_right (by omega) hk
 have h9':(128:Nat) ^ 9=9223372036854775808:=rfl
 have hb:a+m*128 ^ k<18446744073709551616∧m*128 ^ k<18446744073709551616:=by
  rcases Nat.eq_or_lt_of_le hk with h|h
  ·subst h
   have h3:m*128 ^ 9≤1*128 ^ 9:=Nat.mul_le_mul_right _ (h9 rfl)
   omega
  ·have h8:(128:Nat) ^ k≤128 ^ 8:=Nat.pow_le_pow_right (by omega) (by omega)
   have h8':(128:Nat) ^ 8=72057594037927936:=rfl
   have h3:m*128 ^ k≤127*128 ^ 8:=Nat.mul_le_mul (by omega) h8
   omega
 refine⟨?_,hb.1⟩
 have e:(m:Int)*2 ^ (7*k)=((m*128 ^ k:Nat):Int):=by rw[←hp];simp
 rw[e,u64_wrap,show ((m*128 ^ k:Nat):Int) % 18446744073709551616=((m*128 ^ k:Nat):Int) from by omega]
 rw[u64_or_nat _ _ (by omega) (by omega)]
 congr 1
 have:=Nat.two_pow_add_eq_or_of_lt (b:=a) (i:=7*k) (by rw[hp];exact ha) m
 rw[hp] at this
 rw[Nat.or_comm,Nat.mul_comm m,←this,Nat.add_comm]
set_option maxHeartbeats 400000 in
set_option maxRecDepth 100000 in
theorem first_any (A:Option Addr) (n c:Nat) (l:List UInt8) (w:World) (hr:RdB w w.heap.size A n l) (hn:n≤140737488351232) :
  Calls Tryz.prog 118 #[.slice A n c] w fun e w'=>e=.returned (.tuple #[.int .u64 (dec l).1,.int .i64 (dec l).2.1,.int .i64 (dec l).2.2])∧w=w':=by
 have hlen:=RdB.len hr
 have HLEN:=hide hlen
 clear hlen
 go_enter Tryz.func118,Tryz.ntmps118
 go_wp2
 go_loop [2,3,4,5,6,7,10] (fun s2 s3 s4 acc _ _ i=>∃ k a:Nat,k≤n∧k≤9∧i=.int .i64 k∧acc=.int .u64 a∧s2=.int .u64 0∧s3=.int .i64 0∧s4=.int .i64 0∧Hid (decF k a (l.drop k)=dec l)∧Hid (a<128 ^ k)) (fun _ _ _ _ _ _ i=>n-(intOf i).toNat)
 case atStart=>exact⟨0,0,by omega,by omega,rfl,rfl,rfl,rfl,rfl,hide rfl,hide (by simp)⟩
 case round=>
  obtain⟨k,a,hk,hk10,rfl,rfl,rfl,rfl,rfl,HD,HA⟩:=hrel
  by_cases hk1:k<n
  ·obtain⟨b,off,rfl,hb,hc⟩:=RdB.cell hr hk1
   have hkl:k<l.length:=by rw[HLEN.out];exact hk1
   have hd:=HD.out
   rw[List.drop_eq_getElem_cons hkl] at hd
   have HL:=hide hkl
   clear HD
   generalize l[k]=x at hc hd
   have hx:=x.toNat_lt
   simp only[decF] at hd
   have HD:=hide hd
   clear hd hkl
   by_cases h0:x.toNat=0
   ·have e0:((x.toNat:Int) == 0)=true:=by rw[h0];rfl
    by_cases hkk:0<k
    ·have HR:=HD.out
     rw[if_pos (.inl ⟨h0,hkk⟩)] at HR
     have HX:=hide HR
     have h1k:=hide h0
     clear h0 HR HD
     go_wp2
     go_ret3
     rw[←HX.out]
     exact⟨rfl,rfl⟩
    ·have HR:=HD.out
     rw[if_neg (by omega),if_pos (by omega)] at HR
     have HX:=hide HR
     have hlt:x.toNat<128:=by omega
     have hg:=(spell_gather a x.toNat k HA.out (by omega) hlt (by omega)).1
     have hx1:x.toNat≤1:=by omega
     have HG:=hide hg
     clear h0 HR HD hg
     go_wp2
     go_ret3
     rw[←HX.out]
     exact⟨by rw[←HG.out,show ((x.toNat:Int) % 128)=(x.toNat:Int) from by omega];simp,rfl⟩
   ·have e0:((x.toNat:Int) == 0)=false:=by simp;omega
    have E0:=hide h0
    clear h0
    by_cases h128:x.toNat<128
    ·by_cases h91:k=9∧1<x.toNat
     ·obtain⟨h9,h1⟩:=h91
      have e9:((k:Int) == 9)=true:=by rw[h9];rfl
      have HR:=HD.out
      rw[if_pos (.inr ⟨h1,h9⟩)] at HR
      have HX:=hide HR
      clear h9 HR HD
      go_wp2
      go_ret3
      rw[←HX.out]
      exact⟨rfl,rfl⟩
     ·have HR:=HD.out
      rw[if_neg (by have:=E0.out;omega),if_pos h128] at HR
      have HX:=hide HR
      have hg:=(spell_gather a x.toNat k HA.out (by omega) h128 (by omega)).1
      have HG:=hide hg
      clear HR HD hg
      by_cases h9:k=9
      ·have e9:((k:Int) == 9)=true:=by rw[h9];rfl
       have h1:x.toNat≤1:=by omega
       clear h9 h91
       go_wp2
       go_ret3
       rw[←HX.out]
       exact⟨by rw[←HG.out,show ((x.toNat:Int) % 128)=(x.toNat:Int) from by omega];simp,rfl⟩
      ·have e9:((k:Int) == 9)=false:=by simp;omega
       clear h91
       by_cases h1:1<x.toNat
       all_goals
        go_wp2
        go_ret3
        rw[←HX.out]
        exact⟨by rw[←HG.out,show ((x.toNat:Int) % 128)=(x.toNat:Int) from by omega];simp,rfl⟩
    ·by_cases h9:k=9
     ·have e9:((k:Int) == 9)=true:=by rw[h9];rfl
      have HR:=HD.out
      rw[if_pos (.inr ⟨by omega,h9⟩)] at HR
      have HX:=hide HR
      have h1:1<x.toNat:=by omega
      clear h9 HR HD
      go_wp2
      go_ret3
      rw[←HX.out]
      exact⟨rfl,rfl⟩
     ·have e9:((k:Int) == 9)=false:=by simp;omega
      have HR:=HD.out
      rw[if_neg (by have:=E0.out;omega),if_neg h128] at HR
      have HX:=hide HR
      have h1:1<x.toNat:=by omega
      obtain⟨hg,hg2⟩:=spell_gather a (x.toNat % 128) k HA.out (by omega) (by omega) (by omega)
      have HG:=hide hg
      clear HR HD hg hg2
      go_wp2
      go_round
      case rel=>
       refine⟨k+1,a+x.toNat % 128*128 ^ k,by omega,by omega,by go_num,?_,rfl,rfl,rfl,HX,hide ?_⟩
       ·rw[←HG.out];simp
       ·have:=HA.out
        rw[Nat.pow_succ]
        have h3:x.toNat % 128*128 ^ k≤127*128 ^ k:=Nat.mul_le_mul_right _ (by omega)
        omega
      case measure=>simp[intOf];omega
  ·go_wp2
   go_ret3
   have h:=HD.out
   rw[List.drop_of_length_le (by have:=HLEN.out;omega)] at h
   rw[←h]
   exact⟨rfl,rfl⟩
def cnt (l:List UInt8) (most:Int):Nat × Nat × Nat:=if (dec l).2.2≠0 then (0,0,(dec l).2.2) else if max most 0<(dec l).1 then (0,0,17) else dec l
theorem cnt_bounds (l:List UInt8) (most:Int):((cnt l most).1:Int)≤max most 0∧(cnt l most).2.1≤l.length∧(cnt l most).2.1≤10∧(cnt l most).2.2≤17:=by
 have h:=dec_bounds l 0 0 (dec l).1 (dec l).2.1 (dec l).2.2 (by omega) (by simp) rfl
 unfold cnt
 split
 ·simp;omega
 ·split
  ·simp;omega
  ·omega
set_option maxHeartbeats 400000 in
set_option maxRecDepth 100000 in
theorem count_any (A:Option Addr) (n c:Nat) (l:List UInt8) (most:Int) (w:World) (hr:RdB w w.heap.size A n l) (hn:n≤140737488351232) (hm:most≤9223372036854775807) :
  Calls Tryz.prog 123 #[.slice A n c,.int .i64 most] w fun e w'=>e=.returned (.tuple #[.int .i64 (cnt l most).1,.int .i64 (cnt l most).2.1,.int .i64 (cnt l most).2.2])∧w=w':=by
 have hb:=dec_bounds l 0 0 (dec l).1 (dec l).2.1 (dec l).2.2 (by omega) (by simp) rfl
 obtain⟨_,hb2,hb3,hb4,hb5⟩:=hb
 have HF:=hide (first_any A n c l w hr hn)
 have HC:=hide (show cnt l most=if (dec l).2.2≠0 then (0,0,(dec l).2.2) else if max most 0<(dec l).1 then (0,0,17) else dec l from rfl)
 generalize hcnt:cnt l most=C at *
 clear hcnt
 generalize dec l=d at *
 obtain⟨u,s,er⟩:=d
 simp only at HF HC hb2 hb3 hb4 hb5 ⊢
 have HM:=hide hm
 clear hm
 by_cases h0:er=0
 ·have he:((er:Int) != 0)=false:=by rw[h0];rfl
  have HE:=hide h0
  clear h0 hb3 hb4
  have hcc:=HC.out
  rw[if_neg (by simp[HE.out])] at hcc
  have HCC:=hide hcc
  clear hcc HC
  have HU:=hide (show IntKind.u64.wrap (max most 0)=max most 0 from by have:=HM.out;rw[u64_wrap];omega)
  by_cases hneg:most<0
  ·have hmx:max most 0=0:=by omega
   have hu0:=HU.out
   rw[hmx] at hu0
   have HCM:=HCC.out
   rw[hmx] at HCM
   clear HCC
   by_cases hu:0<u
   ·rw[if_pos (by omega)] at HCM
    rw[HCM]
    clear HCM
    go_enter Tryz.func123,Tryz.ntmps123
    go_wp2_with (go_at_call 118;refine HF.out.mono ?_;rintro e w' ⟨rfl,rfl⟩)
    go_ret3
    exact⟨rfl,rfl⟩
   ·rw[if_neg (by omega)] at HCM
    rw[HCM,HE.out]
    clear HCM
    have huw:IntKind.i64.wrap (u:Int)=u:=by rw[IntKind.wrap_i64];omega
    go_enter Tryz.func123,Tryz.ntmps123
    go_wp2_with (go_at_call 118;refine HF.out.mono ?_;rintro e w' ⟨rfl,rfl⟩)
    go_ret3
    exact⟨by simp[huw],rfl⟩
  ·have hmx:max most 0=most:=by omega
   have hu0:=HU.out
   rw[hmx] at hu0
   have HCM:=HCC.out
   rw[hmx] at HCM
   clear HCC
   by_cases hu:most<(u:Int)
   ·rw[if_pos (by omega)] at HCM
    rw[HCM]
    clear HCM
    go_enter Tryz.func123,Tryz.ntmps123
    go_wp2_with (go_at_call 118;refine HF.out.mono ?_;rintro e w' ⟨rfl,rfl⟩)
    all_goals
     go_ret3
     exact⟨rfl,rfl⟩
   ·rw[if_neg (by omega)] at HCM
    rw[HCM,HE.out]
    clear HCM
    have huw:IntKind.i64.wrap (u:Int)=u:=by have:=HM.out;rw[IntKind.wrap_i64];omega
    go_enter Tryz.func123,Tryz.ntmps123
    go_wp2_with (go_at_call 118;refine HF.out.mono ?_;rintro e w' ⟨rfl,rfl⟩)
    all_goals
     go_ret3
     exact⟨by simp[huw],rfl⟩
 ·have he:((er:Int) != 0)=true:=by simp;omega
  have hcc:=HC.out
  rw[if_pos (by simpa using h0)] at hcc
  rw[hcc]
  clear h0 hb3 hb4 HC hcc
  go_enter Tryz.func123,Tryz.ntmps123
  go_wp2_with (go_at_call 118;refine HF.out.mono ?_;rintro e w' ⟨rfl,rfl⟩)
  go_ret3
  exact⟨rfl,rfl⟩
def Rdr (w:World) (g:Nat) (l:List UInt8) (e:Nat):Prop:=
 ∃ A n c,Blk w g 173 #[.slice A n c,.int .i64 (e:Int)]∧RdB w g A n l∧n≤c∧c≤maxLen∧n≤140737488351232
def tkL (l:List UInt8) (e size er:Nat):List UInt8:=if e=0∧er=0 then l.drop size else l
def tkE (e er:Nat):Nat:=if e=0 then er else e
theorem Rdr.next {w w':World} {g e:Nat} {l:List UInt8} (h:Rdr w g l e) (hb:Below w.heap.size w w'):Rdr w' g l e:=by
 obtain⟨A,n,c,hk,hr,h1,h2,h3⟩:=h
 exact⟨A,n,c,hk.next hb,hr.below (hb.mono (Nat.le_of_lt hk.lt)),h1,h2,h3⟩
theorem Rdr.lt {w:World} {g e:Nat} {l:List UInt8} (h:Rdr w g l e):g<w.heap.size:=by
 obtain⟨A,n,c,hk,_⟩:=h
 exact hk.lt
def uV (l:List UInt8) (e:Nat):Nat:=if e=0∧(dec l).2.2=0 then (dec l).1 else 0
def turnN (v:Int):Nat:=if 0≤v then (2*v).toNat else (2*(-(v+1))+1).toNat
def unturnZ (u:Nat):Int:=if u % 2=0 then (u:Int) / 2 else -((u:Int) / 2)-1
theorem xor_full64 (R:Nat) (h:R<18446744073709551616):R ^^^ 18446744073709551615=18446744073709551615-R:=by
 have h1:(BitVec.ofNat 64 R ^^^ BitVec.allOnes 64).toNat=(~~~ BitVec.ofNat 64 R).toNat:=by rw[BitVec.xor_allOnes]
 rw[BitVec.toNat_xor,BitVec.toNat_not,BitVec.toNat_allOnes,BitVec.toNat_ofNat,Nat.mod_eq_of_lt (by omega)] at h1
 simpa using h1
theorem spell_turn (v:Int) (h1:-9223372036854775808≤v) (h2:v≤9223372036854775807) :
  bits BinOp.xor IntKind.u64 (IntKind.u64.wrap (IntKind.u64.wrap v*2)) (IntKind.u64.wrap (v / 9223372036854775808))=((turnN v:Nat):Int):=by
 simp only[u64_wrap]
 by_cases h:0≤v
 ·have e1:v % 18446744073709551616*2 % 18446744073709551616=(((2*v).toNat:Nat):Int):=by omega
  have e2:v / 9223372036854775808 % 18446744073709551616=((0:Nat):Int):=by omega
  rw[e1,e2,u64_xor_nat _ _ (by omega) (by omega),Nat.xor_zero,turnN,if_pos h]
 ·have e1:v % 18446744073709551616*2 % 18446744073709551616=(((18446744073709551616+2*v).toNat:Nat):Int):=by omega
  have e2:v / 9223372036854775808 % 18446744073709551616=((18446744073709551615:Nat):Int):=by omega
  rw[e1,e2,u64_xor_nat _ _ (by omega) (by omega),xor_full64 _ (by omega),turnN,if_neg h]
  omega
theorem spell_unturn (u:Nat) (h:u<18446744073709551616) :
  bits BinOp.xor IntKind.i64 ((u:Int) / 2) (wrap64 (-wrap64 (bits BinOp.and IntKind.u64 (u:Int) 1)))=unturnZ u:=by
 have e1:bits BinOp.and IntKind.u64 (u:Int) 1=((u % 2:Nat):Int):=by
  have:=u64_and_nat u 1 h (by omega)
  rw[Nat.and_one_is_mod] at this
  exact this
 rw[e1]
 have e3:(u:Int) / 2=((u / 2:Nat):Int):=by omega
 rcases Nat.mod_two_eq_zero_or_one u with h0|h0
 ·rw[h0]
  have e2:wrap64 (-wrap64 ((0:Nat):Int))=0:=by rw[IntWalk.wrap64_in ((0:Nat):Int) (by constructor<;>omega),IntWalk.wrap64_in _ (by constructor<;>omega)];rfl
  rw[e2,unturnZ,if_pos h0]
  show IntKind.i64.wrap ((BitVec.ofInt 64 ((u:Int) / 2) ^^^ BitVec.ofInt 64 0).toNat:Int)=_
  rw[show BitVec.ofInt 64 0=0#64 from rfl,BitVec.xor_zero,e3,BitVec.ofInt_natCast,BitVec.toNat_ofNat,IntKind.wrap_i64]
  omega
 ·rw[h0]
  have e2:wrap64 (-wrap64 ((1:Nat):Int))=-1:=by rw[IntWalk.wrap64_in ((1:Nat):Int) (by constructor<;>omega),IntWalk.wrap64_in _ (by constructor<;>omega)];rfl
  rw[e2,unturnZ,if_neg (by omega)]
  show IntKind.i64.wrap ((BitVec.ofInt 64 ((u:Int) / 2) ^^^ BitVec.ofInt 64 (-1)).toNat:Int)=_
  rw[show BitVec.ofInt 64 (-1)=BitVec.allOnes 64 from by decide,BitVec.xor_allOnes,e3,BitVec.ofInt_natCast,BitVec.toNat_not,BitVec.toNat_ofNat,IntKind.wrap_i64]
  omega
theorem turnN_lt (v:Int) (h1:-9223372036854775808≤v) (h2:v≤9223372036854775807):turnN v<18446744073709551616:=by
 unfold turnN;split<;>omega
theorem unturn_turn (v:Int):unturnZ (turnN v)=v:=by
 unfold unturnZ turnN
 split<;>split<;>omega
theorem turn_unturn (u:Nat):turnN (unturnZ u)=u:=by
 unfold unturnZ turnN
 split<;>split<;>omega
set_option maxRecDepth 100000 in
theorem turn_any (v:Int) (w:World) (h1:-9223372036854775808≤v) (h2:v≤9223372036854775807) :
  Calls Tryz.prog 99 #[.int .i64 v] w fun e w'=>e=.returned (.int .u64 (turnN v))∧w=w':=by
 go_enter Tryz.func99,Tryz.ntmps99
 go_wp2
 go_ret
 exact⟨ret_int (spell_turn v h1 h2),rfl⟩
set_option maxRecDepth 100000 in
theorem unturn_any (u:Nat) (w:World) (h:u<18446744073709551616) :
  Calls Tryz.prog 131 #[.int .u64 u] w fun e w'=>e=.returned (.int .i64 (unturnZ u))∧w=w':=by
 go_enter Tryz.func131,Tryz.ntmps131
 go_wp2
 go_ret
 exact⟨ret_int (spell_unturn u h),rfl⟩
def cV (l:List UInt8) (e:Nat) (most:Int):Nat:=if e=0∧(cnt l most).2.2=0 then (cnt l most).1 else 0
def endE (l:List UInt8) (e:Nat):Nat:=if l=[] then e else tkE e 10
theorem strCells_bv (s:ByteArray):Lib.strCells s=s.data.toList.map bv:=rfl
theorem size_toList (s:ByteArray):s.data.toList.length=s.size:=by rw[Array.length_toList];rfl
section
variable {P:Program} (w:World)
theorem run_append_room_str (t u ty e:TypeId) (i:TypeInfo) (ht:P.underlying t=some (.slice e)) (hu:P.underlying u=some .string) (hi:P.info? e=some i) (hs1:i.size=1)
  (b off sLen sCap:Nat) (s:ByteArray) (hroom:sLen+s.size≤sCap)
  (hc:∀ j,j<s.size→(w.cell? ⟨b,off+sLen+j,none⟩).isSome=true) (hf:∀ j,j<s.size→w.frozen? ⟨b,off+sLen+j,none⟩=false) :
  (Builtin.append_ #[t,u] ty #[.slice (some ⟨b,off,none⟩) sLen sCap,.string s]).run P w=.ok (.slice (some ⟨b,off,none⟩) (sLen+s.size) sCap) (w.setCells b (off+sLen) (Lib.strCells s)):=by
 have hfc:=Lib.run_firstCells_string (P:=P) w 1 s
 have hst:=run_storeCells_cells (P:=P) b (off+sLen) (Lib.strCells s) 0 w (by simpa [Lib.strCells_length] using hc) (by simpa [Lib.strCells_length] using hf) (Lib.strCells_oneCell s)
 simp only[Nat.add_zero] at hst
 simp[Builtin.append_,run_underlying ht,run_underlying hu,sizeOf,typeInfo,hi,hs1,Builtin.lenOf,hroom,hfc,Addr.add_lit,hst]
theorem run_append_ow_str (lo:Nat) (t u ty e:TypeId) (i:TypeInfo) (ht:P.underlying t=some (.slice e)) (hu:P.underlying u=some .string) (hi:P.info? e=some i) (hz:i.zero=some (.int .u8 0))
  (hsize:i.size=1) (hby:i.bytes=1)
  (v:Value) (n:Nat) (xs:List Value) (hown:Ow w lo e 1 v n xs) (s:ByteArray)
  (h63:n+s.size≤maxLen) (hbytes:n+s.size≤140737488355328) (hbase:lo≤w.heap.size) :
  ∃ v' w',(Builtin.append_ #[t,u] ty #[v,.string s]).run P w=.ok v' w'∧Ow w' lo e 1 v' (n+s.size) (xs++s.data.toList.map bv)∧w.grownBy w' v.ownBlock:=by
 have hxl:xs.length=n:=by simpa using hown.1
 have grow:∀ (a0:Addr) (cap:Nat),v=.slice (some a0) n cap→cap<n+s.size→(∀ j u,xs[j]?=some u→w.cell? (a0.add j)=some u) →
   ∃ v' w',(Builtin.append_ #[t,u] ty #[v,.string s]).run P w=.ok v' w'∧Ow w' lo e 1 v' (n+s.size) (xs++s.data.toList.map bv)∧w.grownBy w' v.ownBlock:=by
  rintro a0 cap rfl hfull hcell0
  have hr:=Lib.run_append_grow_string (P:=P) w t u ty e i (.int .u8 0) ht hu hi hz a0 n cap xs (by rw[hsize,Nat.mul_one];exact hxl) hcell0 s hfull (by simp only[maxLen] at h63;omega) (by rw[hby];exact growslice_fits hfull (by omega))
  have hge:=grownCap_ge w (n+s.size) cap e
  have hcm:=grownCap_le_maxLen w (n+s.size) cap e h63
  refine⟨_,_,hr,Ow.of_own ⟨by rw[List.length_append,hxl,List.length_map,size_toList,Nat.mul_one],.inr ⟨w.heap.size,_,_,rfl,hbase,heap_alloc_new w.drew _,hge,hcm,?_,?_⟩⟩,⟨rfl,rfl,rfl,by simp,fun k hk _=>heap_alloc_old w.drew _ hk⟩⟩
  ·have hzs:(Value.int IntKind.u8 0).cells.size=1:=rfl
   simp only[Array.size_append,List.size_toArray,size_zeroCells,Lib.strCells_length,hxl,hzs,Nat.mul_one]
   omega
  ·simp only[Array.toList_append,List.append_assoc]
   rw[←List.append_assoc]
   have:(xs++Lib.strCells s).length=(n+s.size)*1:=by rw[List.length_append,hxl,Lib.strCells_length,Nat.mul_one]
   rw[←this]
   exact List.take_left
 rcases hown.2 with⟨rfl,rfl⟩|⟨a0,rfl,hlo,rfl⟩|⟨g,off,cap,rfl,hlo,hlt,hnc,hcm,hroom,hx⟩
 ·obtain rfl:xs=[]:=hown.nil_of
  obtain⟨v',w',hr,h2,h3,h4⟩:=Lib.run_append_own_string (P:=P) w lo t u ty e i ht hu hi hz hsize hby (.slice none 0 0) 0 [] (World.ownsRow_nil w _ e 1) s h63 hbytes hbase
  exact⟨v',w',hr,Ow.of_own h2,h3⟩
 ·obtain rfl:xs=[]:=hown.nil_of
  by_cases hs0:s.size=0
  ·have hnil:s.data.toList=[]:=List.eq_nil_of_length_eq_zero (by rw[size_toList];exact hs0)
   obtain⟨⟩|_:=Nat.eq_zero_or_pos s.size
   all_goals
    refine⟨.slice (some a0) 0 0,w,?_,by simpa [hs0,hnil] using hown,World.grownBy.refl w _⟩
    have hfc:=Lib.run_firstCells_string (P:=P) w 1 s
    have hsc:Lib.strCells s=[]:=by rw[strCells_bv,hnil];rfl
    rw[hsc] at hfc
    simp[Builtin.append_,run_underlying ht,run_underlying hu,sizeOf,typeInfo,hi,hsize,Builtin.lenOf,hs0]
    rw[hs0] at hfc
    simp[hfc,storeCells]
  ·exact grow a0 0 rfl (by omega) (by intro j u hu;simp at hu)
 ·by_cases hfit:n+s.size≤cap
  ·have hrun:=run_append_room_str (P:=P) w t u ty e i ht hu hi hsize g off n cap s hfit
    (fun j hj=>by rw[Nat.add_assoc];exact (hroom _ (by omega)).1) (fun j hj=>by rw[Nat.add_assoc];exact (hroom _ (by omega)).2)
   have hsl:=Lib.strCells_length s
   refine⟨_,_,hrun,⟨by rw[List.length_append,hxl,List.length_map,size_toList,Nat.mul_one],.inr (.inr ⟨g,off,cap,rfl,hlo,by rw[setCells_size];exact hlt,hfit,hcm,fun j hj=>?_,fun j hj=>?_⟩)⟩,setCells_grown g _ _ w⟩
   ·rw[World.frozen?_setCells]
    refine⟨?_,(hroom j hj).2⟩
    by_cases hin:n≤j∧j<n+s.size
    ·have h:=World.cell?_setCells_in g (Lib.strCells s) (off+n) w (fun q hq=>by rw[Nat.add_assoc];exact (hroom _ (by omega)).1) (j-n) (by omega)
     rw[show off+n+(j-n)=off+j by omega] at h
     rw[h];rfl
    ·rw[World.cell?_setCells_out g (Lib.strCells s) (off+n) w _ (fun _ _=>by simp only;omega)]
     exact (hroom j hj).1
   ·have hj:j<(xs++Lib.strCells s).length:=hj
    show _=some (xs++Lib.strCells s)[j]
    rw[List.length_append] at hj
    by_cases hin:j<xs.length
    ·rw[World.cell?_setCells_out g (Lib.strCells s) (off+n) w _ (fun _ _=>by simp only;omega),List.getElem_append_left hin]
     exact hx j hin
    ·have h:=World.cell?_setCells_in g (Lib.strCells s) (off+n) w (fun q hq=>by rw[Nat.add_assoc];exact (hroom _ (by omega)).1) (j-xs.length) (by omega)
     rw[show off+n+(j-xs.length)=off+j by omega] at h
     rw[h,List.getElem_append_right (by omega)]
  ·exact grow ⟨g,off,none⟩ cap rfl (by omega) (fun j u hu=>by
    obtain⟨hj,hu⟩:=List.getElem?_eq_some_iff.1 hu
    rw[Addr.add_lit,hx j hj,hu])
theorem wpList_append_ow_str {ops:Array Oper} {rest:List Oper} {o:Oper} {a:Act} {Q:Exit→Act→World→Prop} (hgd:o.guard=none) (sl x:Operand) (t u:TypeId)
  (ho:o.op=.call { callee:=.builtin .append,args:=#[sl,x],argTypes:=#[t,u] })
  (lo:Nat) (e:TypeId) (i:TypeInfo) (ht:P.underlying t=some (.slice e)) (hu:P.underlying u=some .string) (hi:P.info? e=some i) (hz:i.zero=some (.int .u8 0))
  (hsize:i.size=1) (hby:i.bytes=1)
  (v:Value) (n:Nat) (xs:List Value) (hs:a.eval sl=v) (hown:Ow w lo e 1 v n xs) (s:ByteArray) (hx:a.eval x=.string s)
  (h63:n+s.size≤maxLen) (hbytes:n+s.size≤140737488355328) (hbase:lo≤w.heap.size)
  (h:∀ v' w',Ow w' lo e 1 v' (n+s.size) (xs++s.data.toList.map bv)→w.grownBy w' v.ownBlock→wpList P ops Q rest (a.put o.dst v') w'):wpList P ops Q (o::rest) a w:=by
 refine wpList_plain hgd fun K hK=>?_
 obtain⟨v',w',hr,h2,h3⟩:=run_append_ow_str (P:=P) w lo t u o.type e i ht hu hi hz hsize hby v n xs hown s h63 hbytes hbase
 unfold Oper.wp execOp
 simp only[ho,resolve,invoke,builtin,Sem.run_bind,Sem.run_pure,Result.andThen_ok,List.map_toArray,List.map_cons,List.map_nil,hs,hx,hr]
 exact hK _ _ (h v' w' h2 h3)
end
def u64v (x:Nat):Value:=.int .u64 (x:Int)
def strv (s:ByteArray):Value:=.string s
def encs (l:List Nat):List UInt8:=(l.map enc).flatten
theorem encs_snoc (l:List Nat) (k:Nat) (x:Nat) (h:l[k]?=some x):encs (l.take (k+1))=encs (l.take k)++enc x:=by
 unfold encs
 rw[List.take_add_one,h];simp
set_option maxRecDepth 100000 in
theorem uints_any (A:Option Addr) (n c:Nat) (l:List Nat) (w:World) (hr:Rd w w.heap.size 1 A n (l.map u64v)) (hn:n≤65536) (hl:∀ x∈l,x<18446744073709551616) :
  Calls Tryz.prog 56 #[.slice A n c] w fun e w'=>∃ v,e=.returned v∧Ow w' w.heap.size 5 1 v (encs l).length ((encs l).map bv)∧Below w.heap.size w w':=by
 have hlen:=hr.len
 have HL:=hide hl
 have HLEN:=hide hlen
 clear hl hlen
 go_enter Tryz.func56,Tryz.ntmps56
 go_wp2
 go_loopw [3,5,8] (fun v _ i wr=>∃ k m:Nat,k≤n∧i=.int .i64 k∧m≤10*k∧Ow wr w.heap.size 5 1 v m ((encs (l.take k)).map bv)∧Below w.heap.size w wr) (fun _ _ i _=>n-(intOf i).toNat)
 case atStart=>exact⟨0,0,Nat.zero_le _,rfl,by omega,Ow.nil _ _ _ _,Below.refl _ _⟩
 case round=>
  obtain⟨k,m,hk,rfl,hm,own,hb⟩:=hrel
  by_cases hk1:k<n
  ·obtain⟨b,off,rfl,hbb,x,hx,hc⟩:=hr.get hk1
   have hc':=(hb.cell (p:=⟨b,off+k,none⟩) hbb).trans hc
   unfold u64v at hc'
   have HX:=hide hx
   have HXL:=hide (HL.out x (List.mem_of_getElem? hx))
   have hel:=(encF_len 9 x).2
   clear hx hc
   go_wp2_with (go_at_call 98;refine (put_any _ m _ x w.heap.size _ own hb.size HXL.out (by omega)).mono ?_;rintro e w1 ⟨v1,rfl,own1,hb1⟩)
   go_roundw
   case rel=>exact⟨k+1,m+(enc x).length,by omega,by go_num,by unfold enc;omega,by rw[encs_snoc l k x HX.out];exact own1,hb.trans hb1⟩
   case measure=>simp[intOf];omega
  ·go_wp2
   go_ret
   have ht:l.take k=l:=List.take_of_length_le (by have:=HLEN.out;omega)
   rw[ht] at own
   have hm:m=(encs l).length:=by have:=own.1;simpa using this.symm
   rw[hm] at own
   exact⟨_,rfl,own,hb⟩
set_option maxRecDepth 100000 in
theorem ints_any (A:Option Addr) (n c:Nat) (l:List Int) (w:World) (hr:Rd w w.heap.size 1 A n (l.map i64v)) (hn:n≤65536) (hl:∀ x∈l,-9223372036854775808≤x∧x≤9223372036854775807) :
  Calls Tryz.prog 58 #[.slice A n c] w fun e w'=>∃ v,e=.returned v∧Ow w' w.heap.size 5 1 v (encs (l.map turnN)).length ((encs (l.map turnN)).map bv)∧Below w.heap.size w w':=by
 have hlen:=hr.len
 have HL:=hide hl
 have HLEN:=hide hlen
 clear hl hlen
 go_enter Tryz.func58,Tryz.ntmps58
 go_wp2
 go_loopw [3,5,8] (fun v _ i wr=>∃ k m:Nat,k≤n∧i=.int .i64 k∧m≤10*k∧Ow wr w.heap.size 5 1 v m ((encs ((l.map turnN).take k)).map bv)∧Below w.heap.size w wr) (fun _ _ i _=>n-(intOf i).toNat)
 case atStart=>exact⟨0,0,Nat.zero_le _,rfl,by omega,Ow.nil _ _ _ _,Below.refl _ _⟩
 case round=>
  obtain⟨k,m,hk,rfl,hm,own,hb⟩:=hrel
  by_cases hk1:k<n
  ·obtain⟨b,off,rfl,hbb,x,hx,hc⟩:=hr.get hk1
   have hc':=(hb.cell (p:=⟨b,off+k,none⟩) hbb).trans hc
   unfold i64v at hc'
   have HX:=hide hx
   have HXL:=hide (HL.out x (List.mem_of_getElem? hx))
   have HTL:=hide (turnN_lt x HXL.out.1 HXL.out.2)
   have hel:=(encF_len 9 (turnN x)).2
   clear hx hc
   go_wp2_with (first|(go_at_call 99;refine (turn_any x _ HXL.out.1 HXL.out.2).mono ?_;rintro e w' ⟨rfl,rfl⟩)|(go_at_call 98;refine (put_any _ m _ (turnN x) w.heap.size _ own hb.size HTL.out (by omega)).mono ?_;rintro e w1 ⟨v1,rfl,own1,hb1⟩))
   go_roundw
   case rel=>exact⟨k+1,m+(enc (turnN x)).length,by omega,by go_num,by unfold enc;omega,by rw[encs_snoc (l.map turnN) k (turnN x) (by rw[List.getElem?_map,HX.out];rfl)];exact own1,hb.trans hb1⟩
   case measure=>simp[intOf];omega
  ·go_wp2
   go_ret
   have ht:(l.map turnN).take k=l.map turnN:=List.take_of_length_le (by have:=HLEN.out;simp;omega)
   rw[ht] at own
   have hm:m=(encs (l.map turnN)).length:=by have:=own.1;simpa using this.symm
   rw[hm] at own
   exact⟨_,rfl,own,hb⟩
def encT (s:ByteArray):List UInt8:=enc s.size++s.data.toList
def encTs (l:List ByteArray):List UInt8:=(l.map encT).flatten
theorem encTs_snoc (l:List ByteArray) (k:Nat) (x:ByteArray) (h:l[k]?=some x):encTs (l.take (k+1))=encTs (l.take k)++encT x:=by
 unfold encTs
 rw[List.take_add_one,h];simp
set_option maxRecDepth 100000 in
theorem texts_any (A:Option Addr) (n c q:Nat) (l:List ByteArray) (w:World) (hr:Rd w w.heap.size 1 A n (l.map strv)) (hn:n≤65536) (hl:∀ x∈l,x.size≤65536) :
  Calls Tryz.prog 60 #[.slice A n c] w fun e w'=>∃ v,e=.returned v∧Ow w' w.heap.size 5 1 v (encTs l).length ((encTs l).map bv)∧Below w.heap.size w w':=by
 obtain⟨i0,hi0,hz0,hz1,hz2⟩:=info_parts Tryz.info8
 have hlen:=hr.len
 have HL:=hide hl
 have HLEN:=hide hlen
 clear hl hlen
 go_enter Tryz.func60,Tryz.ntmps60
 go_wp2
 go_loopw [3,5,8] (fun v _ i wr=>∃ k m:Nat,k≤n∧i=.int .i64 k∧m≤65546*k∧Ow wr w.heap.size 5 1 v m ((encTs (l.take k)).map bv)∧Below w.heap.size w wr) (fun _ _ i _=>n-(intOf i).toNat)
 case atStart=>exact⟨0,0,Nat.zero_le _,rfl,by omega,Ow.nil _ _ _ _,Below.refl _ _⟩
 case round=>
  obtain⟨k,m,hk,rfl,hm,own,hb⟩:=hrel
  by_cases hk1:k<n
  ·obtain⟨b,off,rfl,hbb,x,hx,hc⟩:=hr.get hk1
   have hc':=(hb.cell (p:=⟨b,off+k,none⟩) hbb).trans hc
   unfold strv at hc'
   have HX:=hide hx
   have hxl:=HL.out x (List.mem_of_getElem? hx)
   have hel:=(encF_len 9 x.size).2
   have HEL:=hide (show (enc x.size).length≤10 from hel)
   have hw:IntKind.u64.wrap (x.size:Int)=x.size:=by rw[u64_wrap];omega
   clear hx hc hel
   go_wp2_with (first
    |(go_at_call 98;refine (put_any _ m _ x.size w.heap.size _ own hb.size (by omega) (by omega)).mono ?_;rintro e w1 ⟨v1,rfl,own1,hb1⟩)
    |(at_builtin;refine wpList_append_ow_str _ rfl (.tmp 16) (.tmp 17) _ _ rfl w.heap.size 5 i0 Tryz.underlying36 Tryz.underlying9 hi0 hz0 hz1 hz2 v1 _ _ rfl own1 x rfl (by have:=HEL.out;simp only[maxLen];omega) (by have:=HEL.out;omega) (by have:=hb1.size;have:=hb.size;omega) ?_;intro v2 w2 own2 hg2))
   go_roundw
   case rel=>
    refine⟨k+1,m+(enc x.size).length+x.size,by omega,by go_num,by have:=HEL.out;omega,?_,(hb.trans hb1).grown hg2 (by have:=hb1.size;have:=hb.size;omega) (fun q hq=>own1.lt q hq)⟩
    rw[encTs_snoc l k x HX.out,encT,←List.append_assoc,List.map_append]
    exact own2
   case measure=>simp[intOf];omega
  ·go_wp2
   go_ret
   have ht:l.take k=l:=List.take_of_length_le (by have:=HLEN.out;omega)
   rw[ht] at own
   have hm:m=(encTs l).length:=by have:=own.1;simpa using this.symm
   rw[hm] at own
   exact⟨_,rfl,own,hb⟩
def tE (l:List UInt8) (most:Int):Nat:=if (cnt l most).2.2=0∧l.length-(cnt l most).2.1<(cnt l most).1 then 15 else (cnt l most).2.2
def tV (l:List UInt8) (e:Nat) (most:Int):List UInt8:=if e=0∧tE l most=0 then (l.drop (cnt l most).2.1).take (cnt l most).1 else []
theorem string_any (w:World) (A:Option Addr) (n c:Nat) (l:List UInt8) {B:Nat} (h:RdB w B A n l):(convert 36 9 (.slice A n c)).run Tryz.prog w=.ok (.string ⟨l.toArray⟩) w:=by
 have hl:=RdB.len h
 subst hl
 cases A with
 |none=>
  have h0:l=[]:=by
   rcases Nat.eq_zero_or_pos l.length with h1|h1
   ·exact List.eq_nil_of_length_eq_zero h1
   ·obtain⟨_,_,h2,_⟩:=h.at_ h1
    cases h2
  subst h0
  exact Lib.run_convert_nil_bytes w _ _ _ c Tryz.underlying36 Tryz.underlying5 Tryz.underlying9
 |some a=>
  refine run_convert_bytes_back w _ _ _ a c l Tryz.underlying36 Tryz.underlying5 Tryz.underlying9 (fun j hj=>?_)
  obtain⟨b,off,e,_,hc⟩:=RdB.cell h hj
  injection e with e
  subst e
  rw[Addr.add_lit,hc]
def k0:List UInt8:=[172,2,5,1,97,9]
def k1:List UInt8:=[5,1,97,9]
def k2:List UInt8:=[1,97,9]
theorem f1:unturnZ (uV k1 0)=-3∧tkL k1 0 (dec k1).2.1 (dec k1).2.2=k2∧tkE 0 (dec k1).2.2=0:=by decide +kernel
theorem f2:tV k2 0 1=[97]∧tkL k2 0 ((cnt k2 1).2.1+(cnt k2 1).1) (tE k2 1)=[9]∧tkE 0 (tE k2 1)=0:=by decide +kernel
theorem f3:cV [9] 0 8=0∧tkL [9] 0 (cnt [9] 8).2.1 (cnt [9] 8).2.2=[9]∧tkE 0 (cnt [9] 8).2.2=17:=by decide +kernel
theorem f4:endE [9] 17=17:=by decide +kernel
theorem f5:encs [300,0]=[172,2,0]:=by decide +kernel
def tab:ByteArray:=⟨#[97,98]⟩
def tnil:ByteArray:=⟨#[]⟩
theorem f7:encTs [tab,tnil]=[2,97,98,0]:=by decide +kernel
end Go.Proofs.YtfbfpnfgabamfaaGreat
namespace Go.Proofs.YtfbfpnfgabamfaaGreat
set_option linter.unusedSimpArgs false
set_option linter.unusedVariables false
open Go.RowKit
set_option maxRecDepth 100000
abbrev lR (d:Int):List D:=[iD d]
abbrev lD (l:List Int):D:=.sl 1 (l.map lR)
abbrev nD (neg:Bool) (l:List Int):D:=.agg [.v (.bool neg),lD l]
def canL (n:Nat):List Int:=if h:n=0 then [] else ((n % 65536:Nat):Int)::canL (n / 65536)
termination_by n
decreasing_by exact Nat.div_lt_self (Nat.pos_of_ne_zero h) (by omega)
abbrev numD (z:Int):D:=nD (decide (z<0)) (canL z.natAbs)
theorem Sat.of_sl {P:Program} {g:FuncId} {s:Nat} {rows:List (List D)} {us:List Value} {args:List AV} {vals:List Value} {r:AV} {rv:Value} (hf:FlatVs rows.flatten us) (ha:FlatWs args vals) (hr:FlatW r rv)
  (h:∀ (w:World) (A:Option Addr) (c:Nat),rows.length≤c→c≤maxLen→Rd w w.heap.size s A rows.length us→Calls P g (Value.slice A rows.length c::vals).toArray w fun e w'=>e=.returned rv∧Below w.heap.size w w'):Sat P g (.d (.sl s rows)::args) [] r []:=by
 intro F ρ w vs En hv
 cases hv with|cons hv hvs=>cases hv with|d hv=>
 obtain⟨A,c,rfl,h1,h2,h3⟩:=hv.sl_rd En.fb hf
 have:=ha.eq hvs
 subst this
 refine (h w A c h1 h2 h3).mono ?_
 rintro e w' ⟨rfl,hb⟩
 obtain⟨S,E'⟩:=step_below En hb
 exact⟨rv,rfl,F,ρ,S,Keep.refl _,E',hr.ra⟩
theorem lR_flats:∀ (l:List Int),FlatVs (l.map lR).flatten (l.map i64v)
 |[]=>.nil
 |z::l=>.cons (.v _) rfl (lR_flats l)
end Go.Proofs.YtfbfpnfgabamfaaGreat
