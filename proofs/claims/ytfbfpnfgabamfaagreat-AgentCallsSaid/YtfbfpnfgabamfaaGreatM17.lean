/- Parts RnS, RnT, RnU, RnV, RnW, RnX, Laid of the proof, put together. -/
import Derived.Test.YtfbfpnfgabamfaaGreatM16
import Derived.Test.YtfbfpnfgabamfaaGreatChecked
import Derived.Test.YtfbfpnfgabamfaaGreatRows
namespace Go.Proofs.YtfbfpnfgabamfaaGreat
set_option linter.unusedSimpArgs false
open Go.RowKit
set_option maxRecDepth 100000
set_option linter.unusedVariables false
abbrev rgC (a:Ag) (x y:AV):List AV:=[iA a.id,iA a.most,iA a.boot,iA a.epoch,iA a.clock,iA a.seq,iA (firstA a),x,iA a.dropped,y]
abbrev rgH (a:Ag):List AObj:=[.cells (rgC a (.own 1) (.own 2)),.sl 4 (a.kept.map evR),.sl 3 (a.probes.map prR)]
abbrev rgH2 (a:Ag):List AObj:=[.cells (rgC a (.own 3) (.own 4)),.dead,.dead,.sl 4 (a.kept.map evR),.sl 3 (a.probes.map prR)]
theorem rgHear_sat (a:Ag) (r:Int):Sat Tryz.prog 74 [.ptr 0 0,iA r] (rgH a) (iA (observeA a r).2) (rgH (observeA a r).1):=by
 obtain⟨id,most,boot,epoch,clock,seq,kept,dropped,probes⟩:=a
 unfold observeA
 simp only
 by_cases h1:boot=0
 ·rw[if_pos h1]
  have d1:(boot == 0)=true:=by rw[beq_iff_eq];exact h1
  refine Vq Tryz.func74 rfl rfl ?_
  conv=>whnf
  iterate 4
   repeat' first|exact T0|(first|refine Yd fun _=>?_|refine Ye fun _=>?_|refine Yg ?_);conv=>whnf|(refine Ya ?_ ?_<;>intro _<;>conv=>whnf)
   all_goals try (refine Or.inl ?_;conv=>whnf)
  all_goals try exact (bnl d1 ‹_›).elim
  all_goals refine⟨[],?_⟩
  repeat any_goals first|exact T0|exact rfl|exact Yr|refine Ya ?_ ?_
  all_goals conv=>whnf
 ·rw[if_neg h1]
  have d1:(boot == 0)=false:=by rw[beq_eq_false_iff_ne];exact h1
  by_cases h2:r<0∨4611686018427387903<r
  ·rw[if_pos h2]
   have hneg:¬(decide (r<0)=false∧decide (r>4611686018427387903)=false):=by
    rintro⟨p1,p2⟩
    have p1:=of_decide_eq_false p1
    have p2:=of_decide_eq_false p2
    omega
   refine Vq Tryz.func74 rfl rfl ?_
   conv=>whnf
   iterate 4
    repeat' first|exact T0|(first|refine Yd fun _=>?_|refine Ye fun _=>?_|refine Yg ?_);conv=>whnf|(refine Ya ?_ ?_<;>intro _<;>conv=>whnf)
    all_goals try (refine Or.inl ?_;conv=>whnf)
   all_goals try exact (bnl ‹_› d1).elim
   all_goals try exact (hneg ⟨‹_›,‹_›⟩).elim
   all_goals refine⟨[],?_⟩
   repeat any_goals first|exact T0|exact rfl|exact Yr|refine Ya ?_ ?_
   all_goals conv=>whnf
  ·rw[if_neg h2]
   have d2:decide (r<0)=false:=decide_eq_false (by omega)
   have d3:decide (r>4611686018427387903)=false:=decide_eq_false (by omega)
   refine Vq Tryz.func74 rfl rfl ?_
   conv=>whnf
   iterate 4
    repeat' first|exact T0|(first|refine Yd fun _=>?_|refine Ye fun _=>?_|refine Yg ?_);conv=>whnf|(refine Ya ?_ ?_<;>intro _<;>conv=>whnf)
    all_goals try (refine Or.inl ?_;conv=>whnf)
   all_goals try exact (bnl ‹_› d1).elim
   all_goals try exact (bnl ‹_› d2).elim
   all_goals try exact (bnl ‹_› d3).elim
   all_goals refine⟨[],?_⟩
   repeat any_goals first|exact T0|exact rfl|exact Yr|refine Ya ?_ ?_
   all_goals conv=>whnf
   exact congrArg (fun z=>iA z) (maxE _ _)
theorem Sat.rgNil {P:Program} {g:FuncId} {args:List AV} {H:List AObj} {r:AV} (a:Ag) {T:List AObj} (h:Sat P g args H r (.cells (rgC a (.d nilV) (.d nilV))::T)) (n:Nat) (hn:T.length+1=n) :
  Sat P g args H r (.cells (rgC a (.own n) (.own (n+1)))::(T++[.sl 4 [],.sl 3 []])):=by
 have h1:=h.nilCell (cs':=rgC a (.own n) (.d nilV)) 4 (fun w F ρ hρ vs hv=>ras_nil (xs:=[iA a.id,iA a.most,iA a.boot,iA a.epoch,iA a.clock,iA a.seq,iA (firstA a)]) (ys:=[iA a.dropped,.d nilV]) (by rw[←hn];exact hρ) hv)
 have h2:=h1.nilCell (cs':=rgC a (.own n) (.own (n+1))) 3 (fun w F ρ hρ vs hv=>ras_nil (xs:=[iA a.id,iA a.most,iA a.boot,iA a.epoch,iA a.clock,iA a.seq,iA (firstA a),.own n,iA a.dropped]) (ys:=[]) (by rw[←hn,←hρ];simp) hv)
 rw[List.append_assoc] at h2
 exact h2
theorem rgStart_sat (a:Ag) (b:Int):Sat Tryz.prog 34 [.ptr 0 0,iA b] (rgH a) (iA (startA a b).2) (rgH2 (startA a b).1):=by
 obtain⟨id,most,boot,epoch,clock,seq,kept,dropped,probes⟩:=a
 unfold startA
 simp only
 by_cases h1:b<1∨1099511627776<b
 ·rw[if_pos h1]
  have hneg:¬(decide (b<1)=false∧decide (b>1099511627776)=false):=by
   rintro⟨p1,p2⟩
   have p1:=of_decide_eq_false p1
   have p2:=of_decide_eq_false p2
   omega
  refine Vq Tryz.func34 rfl rfl ?_
  conv=>whnf
  iterate 4
   repeat' first|exact T0|(first|refine Yd fun _=>?_|refine Ye fun _=>?_|refine Yg ?_);conv=>whnf|(refine Ya ?_ ?_<;>intro _<;>conv=>whnf)
   all_goals try (refine Or.inl ?_;conv=>whnf)
  all_goals try exact (hneg ⟨‹_›,‹_›⟩).elim
  all_goals refine⟨[(1,3),(2,4)],?_⟩
  repeat any_goals first|exact T0|exact rfl|exact Yr|refine Ya ?_ ?_
  all_goals conv=>whnf
 ·rw[if_neg h1]
  have d1:decide (b<1)=false:=decide_eq_false (by omega)
  have d2:decide (b>1099511627776)=false:=decide_eq_false (by omega)
  by_cases h2:b≤boot
  ·rw[if_pos h2]
   have d3:decide (b≤boot)=true:=decide_eq_true h2
   refine Vq Tryz.func34 rfl rfl ?_
   conv=>whnf
   iterate 4
    repeat' first|exact T0|(first|refine Yd fun _=>?_|refine Ye fun _=>?_|refine Yg ?_);conv=>whnf|(refine Ya ?_ ?_<;>intro _<;>conv=>whnf)
    all_goals try (refine Or.inl ?_;conv=>whnf)
   all_goals try exact (bnl ‹_› d1).elim
   all_goals try exact (bnl ‹_› d2).elim
   all_goals try exact (bnl d3 ‹_›).elim
   all_goals refine⟨[(1,3),(2,4)],?_⟩
   repeat any_goals first|exact T0|exact rfl|exact Yr|refine Ya ?_ ?_
   all_goals conv=>whnf
  ·rw[if_neg h2]
   have d3:decide (b≤boot)=false:=decide_eq_false h2
   refine Sat.rgNil (newA id most b) (T:=[.dead,.dead]) ?_ 3 rfl
   refine Vq Tryz.func34 rfl rfl ?_
   conv=>whnf
   iterate 4
    repeat' first|exact T0|(first|refine Yd fun _=>?_|refine Ye fun _=>?_|refine Yg ?_);conv=>whnf|(refine Ya ?_ ?_<;>intro _<;>conv=>whnf)
    all_goals try (refine Or.inl ?_;conv=>whnf)
   all_goals try exact (bnl ‹_› d1).elim
   all_goals try exact (bnl ‹_› d2).elim
   all_goals try exact (bnl ‹_› d3).elim
   all_goals refine⟨[],?_⟩
   repeat any_goals first|exact T0|exact rfl|exact Yr|refine Ya ?_ ?_
   all_goals conv=>whnf
theorem rgNew_no (id most:Int) (h:id<0∨64≤id∨most<1∨1024<most):Sat Tryz.prog 11 [iA id,iA most] [] (.tup [.d (.v (.pointer none)),iA 11]) []:=by
 have hneg:¬(decide (id<0)=false∧decide (id>63)=false∧decide (most<1)=false∧decide (most>1024)=false):=by
  rintro⟨p1,p2,p3,p4⟩
  have p1:=of_decide_eq_false p1
  have p2:=of_decide_eq_false p2
  have p3:=of_decide_eq_false p3
  have p4:=of_decide_eq_false p4
  omega
 refine Vq Tryz.func11 rfl rfl ?_
 conv=>whnf
 iterate 4
  repeat' first|exact T0|(first|refine Yd fun _=>?_|refine Ye fun _=>?_|refine Yg ?_);conv=>whnf|(refine Ya ?_ ?_<;>intro _<;>conv=>whnf)
  all_goals try (refine Or.inl ?_;conv=>whnf)
 all_goals try exact (hneg ⟨‹_›,‹_›,‹_›,‹_›⟩).elim
 all_goals refine⟨[],?_⟩
 repeat any_goals first|exact T0|exact rfl|exact Yr|refine Ya ?_ ?_
 all_goals conv=>whnf
theorem rgNew_ok (id most:Int) (h:¬(id<0∨64≤id∨most<1∨1024<most)):Sat Tryz.prog 11 [iA id,iA most] [] (.tup [.ptr 0 0,iA 0]) (rgH (newA id most 0)):=by
 have d1:decide (id<0)=false:=decide_eq_false (by omega)
 have d2:decide (id>63)=false:=decide_eq_false (by omega)
 have d3:decide (most<1)=false:=decide_eq_false (by omega)
 have d4:decide (most>1024)=false:=decide_eq_false (by omega)
 refine Sat.rgNil (newA id most 0) (T:=[]) ?_ 1 rfl
 refine Vq Tryz.func11 rfl rfl ?_
 conv=>whnf
 iterate 4
  repeat' first|exact T0|(first|refine Yd fun _=>?_|refine Ye fun _=>?_|refine Yg ?_);conv=>whnf|(refine Ya ?_ ?_<;>intro _<;>conv=>whnf)
  all_goals try (refine Or.inl ?_;conv=>whnf)
 all_goals try exact (bnl ‹_› d1).elim
 all_goals try exact (bnl ‹_› d2).elim
 all_goals try exact (bnl ‹_› d3).elim
 all_goals try exact (bnl ‹_› d4).elim
 all_goals refine⟨[],?_⟩
 repeat any_goals first|exact T0|exact rfl|exact Yr|refine Ya ?_ ?_
 all_goals conv=>whnf
set_option maxHeartbeats 8000000 in
theorem rgMeasure_sat (a0:Ag) (hi:AgInv a0) (r v:Int) (s:Ser):Sat Tryz.prog 35 [.ptr 0 0,iA r,iA v,.d (serD s)] (rgH a0) (.tup [iA (measureA a0 r v s).2.1,iA (measureA a0 r v s).2.2]) (rgH2 (measureA a0 r v s).1):=by
 have o1:=rgHear_sat a0 r
 have hi:=observe_inv hi r
 have r1:=rRight_sat s
 unfold measureA
 generalize observeA a0 r=A at *
 obtain⟨a,e⟩:=A
 simp only at o1 hi ⊢
 have hse:=hi.seq
 have hfi:=hi.first
 have hfd:firstA a=a.seq-(a.kept.length:Int):=rfl
 have hln:=hi.len
 have hms:=hi.most
 by_cases he:e=0
 case neg=>
  rw[if_pos he]
  have d1:=ne0 he
  refine Vq Tryz.func35 rfl rfl ?_
  conv=>whnf
  iterate 4
   repeat' first|exact T0|(first|refine Yd fun _=>?_|refine Ye fun _=>?_|refine Yg ?_|refine Yk (o1.at3 0 1 2 rfl rfl rfl rfl rfl rfl) ?_);conv=>whnf|(refine Ya ?_ ?_<;>intro _<;>conv=>whnf)
   all_goals try (refine Or.inl ?_;conv=>whnf)
  all_goals try exact (bnl d1 ‹_›).elim
  all_goals refine⟨[(1,4),(2,5),(3,4),(4,5)],?_⟩
  repeat any_goals first|exact T0|exact rfl|exact Yr|refine Ya ?_ ?_
  all_goals conv=>whnf
 subst he
 rw[if_neg (fun h=>h rfl)]
 by_cases h1:a.epoch=0
 ·rw[if_pos h1]
  have d1:(a.epoch == 0)=true:=by rw[beq_iff_eq];exact h1
  refine Vq Tryz.func35 rfl rfl ?_
  conv=>whnf
  iterate 4
   repeat' first|exact T0|(first|refine Yd fun _=>?_|refine Ye fun _=>?_|refine Yg ?_|refine Yk (o1.at3 0 1 2 rfl rfl rfl rfl rfl rfl) ?_);conv=>whnf|(refine Ya ?_ ?_<;>intro _<;>conv=>whnf)
   all_goals try (refine Or.inl ?_;conv=>whnf)
  all_goals try exact (bnl d1 ‹_›).elim
  all_goals refine⟨[(1,4),(2,5),(3,4),(4,5)],?_⟩
  repeat any_goals first|exact T0|exact rfl|exact Yr|refine Ya ?_ ?_
  all_goals conv=>whnf
 rw[if_neg h1]
 have d1:(a.epoch == 0)=false:=by rw[beq_eq_false_iff_ne];exact h1
 cases h2:rightB s with
 |false=>
  rw[if_pos rfl]
  rw[h2] at r1
  refine Vq Tryz.func35 rfl rfl ?_
  conv=>whnf
  iterate 4
   repeat' first|exact T0|(first|refine Yd fun _=>?_|refine Ye fun _=>?_|refine Yg ?_|refine Yk (o1.at3 0 1 2 rfl rfl rfl rfl rfl rfl) ?_|refine Yk (r1.pu rfl rfl) ?_);conv=>whnf|(refine Ya ?_ ?_<;>intro _<;>conv=>whnf)
   all_goals try (refine Or.inl ?_;conv=>whnf)
  all_goals try exact (bnl ‹_› d1).elim
  all_goals refine⟨[(1,4),(2,5),(3,4),(4,5)],?_⟩
  repeat any_goals first|exact T0|exact rfl|exact Yr|refine Ya ?_ ?_
  all_goals conv=>whnf
 |true=>
 rw[if_neg (by simp)]
 rw[h2] at r1
 by_cases h3:1099511627775≤a.seq
 ·rw[if_pos h3]
  have d3:(a.seq == 1099511627775)=true:=by rw[beq_iff_eq];omega
  refine Vq Tryz.func35 rfl rfl ?_
  conv=>whnf
  iterate 5
   repeat' first|exact T0|(first|refine Yd fun _=>?_|refine Ye fun _=>?_|refine Yg ?_|refine Yk (o1.at3 0 1 2 rfl rfl rfl rfl rfl rfl) ?_|refine Yk (r1.pu rfl rfl) ?_);conv=>whnf|(refine Ya ?_ ?_<;>intro _<;>conv=>whnf)
   all_goals try (refine Or.inl ?_;conv=>whnf)
  all_goals try exact (bnl ‹_› d1).elim
  all_goals try exact (bnl d3 ‹_›).elim
  all_goals refine⟨[(1,4),(2,5),(3,4),(4,5)],?_⟩
  repeat any_goals first|exact T0|exact rfl|exact Yr|refine Ya ?_ ?_
  all_goals conv=>whnf
 rw[if_neg h3]
 have d3:(a.seq == 1099511627775)=false:=by rw[beq_eq_false_iff_ne];omega
 have hl:(a.kept.map evR).length=a.kept.length:=List.length_map _
 by_cases h4:a.most≤a.kept.length
 ·rw[if_pos h4]
  have d4:decide (((a.kept.map evR).length:Int)≥a.most)=true:=decide_eq_true (by rw[hl];exact h4)
  refine Vq Tryz.func35 rfl rfl ?_
  conv=>whnf
  iterate 5
   repeat' first|exact T0|(first|refine Yd fun _=>?_|refine Ye fun _=>?_|refine Yg ?_|refine Yk (o1.at3 0 1 2 rfl rfl rfl rfl rfl rfl) ?_|refine Yk (r1.pu rfl rfl) ?_);conv=>whnf|(refine Ya ?_ ?_<;>intro _<;>conv=>whnf)
   all_goals try (refine Or.inl ?_;conv=>whnf)
  repeat' first|exact T0|(first|refine Ya (fun _=>?_) (fun h=>(bnl d4 h).elim)|refine Yd fun _=>?_|refine Ye fun _=>?_|refine Yg ?_);conv=>whnf|(refine Ya ?_ ?_<;>intro _<;>conv=>whnf)
  iterate 3
   repeat' first|exact T0|(first|refine Yd fun _=>?_|refine Ye fun _=>?_|refine Yg ?_);conv=>whnf|(refine Ya ?_ ?_<;>intro _<;>conv=>whnf)
   all_goals try (refine Or.inl ?_;conv=>whnf)
  all_goals try exact (bnl ‹_› d1).elim
  all_goals try exact (bnl ‹_› d3).elim
  all_goals try exact (bnl d4 ‹_›).elim
  all_goals refine⟨[(1,4),(2,5),(3,4),(4,5)],?_⟩
  repeat any_goals first|exact T0|exact rfl|exact Yr|refine Ya ?_ ?_
  all_goals conv=>whnf
 rw[if_neg h4]
 have d4:decide (((a.kept.map evR).length:Int)≥a.most)=false:=decide_eq_false (by rw[hl];exact h4)
 have w1:IntKind.i64.wrap (a.seq+1)=a.seq+1:=wi (by omega) (by omega)
 have w2:IntKind.i64.wrap (IntKind.i64.wrap (a.seq+1)-1)=a.seq:=by rw[w1,show a.seq+1-1=a.seq by omega];exact wi (by omega) (by omega)
 have w3:firstA a=firstA { a with kept:=a.kept++[(a.clock,v,s)],seq:=a.seq+1 }:=by
  show _=a.seq+1-((a.kept++[(a.clock,v,s)]).length:Int)
  rw[List.length_append];simp;omega
 refine Vq Tryz.func35 rfl rfl ?_
 conv=>whnf
 iterate 6
  repeat' first|exact T0|(first|refine Yd fun _=>?_|refine Ye fun _=>?_|refine Yg ?_|refine Yk (o1.at3 0 1 2 rfl rfl rfl rfl rfl rfl) ?_|refine Yk (r1.pu rfl rfl) ?_|refine Yk (ap 4 56 (by kernel_rfl) rfl rfl (by simp;omega)) ?_);conv=>whnf|(refine Ya ?_ ?_<;>intro _<;>conv=>whnf)
  all_goals try (refine Or.inl ?_;conv=>whnf)
 all_goals try exact (bnl ‹_› d1).elim
 all_goals try exact (bnl ‹_› d3).elim
 all_goals try exact (bnl ‹_› d4).elim
 all_goals refine⟨[(2,6),(3,5),(4,6)],?_⟩
 repeat any_goals first|exact T0|exact rfl|exact Yr|refine Ya ?_ ?_
 all_goals conv=>whnf
 ·exact congrArg (fun z=>iA z) w2
 ·exact congrArg (fun z=>iA z) w1
 ·exact congrArg (fun z=>iA z) w3
 ·exact congrArg (AObj.sl 4) (by rw[List.map_append];rfl)
set_option maxHeartbeats 16000000 in
theorem rgTake_sat (a0:Ag) (hi:AgInv a0) (r:Int) (l:Bt):Sat Tryz.prog 38 [.ptr 0 0,iA r,.d (bsD l)] (rgH a0) (iA (takeA a0 r l).2) (rgH2 (takeA a0 r l).1):=by
 have o1:=rgHear_sat a0 r
 have hi:=observe_inv hi r
 have dc:=rDecode_sat l
 have dn:=decode_next (l:=l)
 unfold takeA
 generalize observeA a0 r=A at *
 obtain⟨a,e⟩:=A
 generalize decodeF l=D at *
 obtain⟨f,e2⟩:=D
 simp only at o1 hi dc dn ⊢
 have hse:=hi.seq
 have hfi:=hi.first
 have hfd:firstA a=a.seq-(a.kept.length:Int):=rfl
 have hln:=hi.len
 have hms:=hi.most
 have hpl:=hi.pl
 by_cases he:e=0
 case neg=>
  rw[if_pos he]
  have d1:=ne0 he
  refine Vq Tryz.func38 rfl rfl ?_
  conv=>whnf
  iterate 4
   repeat' first|exact T0|(first|refine Yd fun _=>?_|refine Ye fun _=>?_|refine Yg ?_|refine Yk (o1.at3 0 1 2 rfl rfl rfl rfl rfl rfl) ?_);conv=>whnf|(refine Ya ?_ ?_<;>intro _<;>conv=>whnf)
   all_goals try (refine Or.inl ?_;conv=>whnf)
  all_goals try exact (bnl d1 ‹_›).elim
  all_goals refine⟨[(1,3),(2,4)],?_⟩
  repeat any_goals first|exact T0|exact rfl|exact Yr|refine Ya ?_ ?_
  all_goals conv=>whnf
 subst he
 rw[if_neg (fun h=>h rfl)]
 by_cases he2:e2=0
 case neg=>
  rw[if_pos he2]
  have d1:=ne0 he2
  refine Vq Tryz.func38 rfl rfl ?_
  conv=>whnf
  iterate 5
   repeat' first|exact T0|(first|refine Yd fun _=>?_|refine Ye fun _=>?_|refine Yg ?_|refine Yk (o1.at3 0 1 2 rfl rfl rfl rfl rfl rfl) ?_|refine Yk (dc.pu rfl rfl) ?_);conv=>whnf|(refine Ya ?_ ?_<;>intro _<;>conv=>whnf)
   all_goals try (refine Or.inl ?_;conv=>whnf)
  all_goals try exact (bnl d1 ‹_›).elim
  all_goals refine⟨[(1,4),(2,5),(3,4),(4,5)],?_⟩
  repeat any_goals first|exact T0|exact rfl|exact Yr|refine Ya ?_ ?_
  all_goals conv=>whnf
 subst he2
 rw[if_neg (fun h=>h rfl)]
 have dn:=dn rfl
 obtain⟨fk,fa,fe,fb,fc,fg,fs,fn,ft,fw,ev,sr,d⟩:=f
 unfold frameA
 simp only at dn ⊢
 by_cases h1:fk≠2∧fk≠3∧fk≠6
 ·rw[if_pos h1]
  have d1:(fk != 2)=true:=by rw[bneI,decide_eq_true h1.1]
  have d2:(fk != 3)=true:=by rw[bneI,decide_eq_true h1.2.1]
  have d3:(fk != 6)=true:=by rw[bneI,decide_eq_true h1.2.2]
  refine Vq Tryz.func38 rfl rfl ?_
  conv=>whnf
  iterate 6
   repeat' first|exact T0|(first|refine (fun (_:True)=>(bnl d1 ‹_›).elim) ?_|refine (fun (_:True)=>(bnl d2 ‹_›).elim) ?_|refine (fun (_:True)=>(bnl d3 ‹_›).elim) ?_|refine Yd fun _=>?_|refine Ye fun _=>?_|refine Yg ?_|refine Yk (o1.at3 0 1 2 rfl rfl rfl rfl rfl rfl) ?_|refine Yk (dc.pu rfl rfl) ?_);conv=>whnf|(refine Ya ?_ ?_<;>intro _<;>conv=>whnf)
   all_goals try (refine Or.inl ?_;conv=>whnf)
  all_goals refine⟨[(1,4),(2,5),(3,4),(4,5)],?_⟩
  repeat any_goals first|exact T0|exact rfl|exact Yr|refine Ya ?_ ?_
  all_goals conv=>whnf
 rw[if_neg h1]
 have hneg:¬((fk != 2)=true∧(fk != 3)=true∧(fk != 6)=true):=by
  rintro⟨p1,p2,p3⟩
  rw[bne_iff_ne] at p1 p2 p3
  exact h1 ⟨p1,p2,p3⟩
 by_cases h2:fa=a.id
 case neg=>
  rw[if_pos h2]
  have d1:(fa != a.id)=true:=by rw[bneI,decide_eq_true h2]
  refine Vq Tryz.func38 rfl rfl ?_
  conv=>whnf
  iterate 6
   repeat' first|exact T0|(first|refine (fun (_:True)=>(hneg ⟨‹_›,‹_›,‹_›⟩).elim) ?_|refine (fun (_:True)=>(bnl d1 ‹_›).elim) ?_|refine Yd fun _=>?_|refine Ye fun _=>?_|refine Yg ?_|refine Yk (o1.at3 0 1 2 rfl rfl rfl rfl rfl rfl) ?_|refine Yk (dc.pu rfl rfl) ?_);conv=>whnf|(refine Ya ?_ ?_<;>intro _<;>conv=>whnf)
   all_goals try (refine Or.inl ?_;conv=>whnf)
  all_goals refine⟨[(1,4),(2,5),(3,4),(4,5)],?_⟩
  repeat any_goals first|exact T0|exact rfl|exact Yr|refine Ya ?_ ?_
  all_goals conv=>whnf
 rw[if_neg (fun h=>h h2)]
 have d1:(fa != a.id)=false:=by rw[bneI,decide_eq_false fun h=>h h2]
 by_cases h3:fk=2
 ·rw[if_pos h3]
  subst h3
  unfold grantA
  simp only
  by_cases k1:fb=a.boot
  case neg=>
   rw[if_pos k1]
   have e1:(fb != a.boot)=true:=by rw[bneI,decide_eq_true k1]
   refine Vq Tryz.func38 rfl rfl ?_
   conv=>whnf
   iterate 8
    repeat' first|exact T0|(first|refine (fun (_:True)=>(bnl ‹_› d1).elim) ?_|refine (fun (_:True)=>(bnl e1 ‹_›).elim) ?_|refine Yd fun _=>?_|refine Ye fun _=>?_|refine Yg ?_|refine Yk (o1.at3 0 1 2 rfl rfl rfl rfl rfl rfl) ?_|refine Yk (dc.pu rfl rfl) ?_);conv=>whnf|(refine Ya ?_ ?_<;>intro _<;>conv=>whnf)
    all_goals try (refine Or.inl ?_;conv=>whnf)
   all_goals refine⟨[(1,4),(2,5),(3,4),(4,5)],?_⟩
   repeat any_goals first|exact T0|exact rfl|exact Yr|refine Ya ?_ ?_
   all_goals conv=>whnf
  have e1:(fb != a.boot)=false:=by rw[bneI,decide_eq_false fun h=>h k1]
  rw[if_neg (fun h=>h k1)]
  by_cases k2:a.epoch=0
  case neg=>
   rw[if_pos k2]
   have e2:(a.epoch != 0)=true:=by rw[bneI,decide_eq_true k2]
   refine Vq Tryz.func38 rfl rfl ?_
   conv=>whnf
   iterate 9
    repeat' first|exact T0|(first|refine (fun (_:True)=>(bnl ‹_› d1).elim) ?_|refine (fun (_:True)=>(bnl ‹_› e1).elim) ?_|refine (fun (_:True)=>(bnl e2 ‹_›).elim) ?_|refine Yd fun _=>?_|refine Ye fun _=>?_|refine Yg ?_|refine Yk (o1.at3 0 1 2 rfl rfl rfl rfl rfl rfl) ?_|refine Yk (dc.pu rfl rfl) ?_);conv=>whnf|(refine Ya ?_ ?_<;>intro _<;>conv=>whnf)
    all_goals try (refine Or.inl ?_;conv=>whnf)
   all_goals refine⟨[(1,4),(2,5),(3,4),(4,5)],?_⟩
   repeat any_goals first|exact T0|exact rfl|exact Yr|refine Ya ?_ ?_
   all_goals conv=>whnf
  have e2:(a.epoch != 0)=false:=by rw[bneI,decide_eq_false fun h=>h k2]
  rw[if_neg (fun h=>h k2)]
  by_cases k3:fe=0
  ·rw[if_pos k3]
   have e3:(fe == 0)=true:=by rw[beqI,decide_eq_true k3]
   refine Vq Tryz.func38 rfl rfl ?_
   conv=>whnf
   iterate 10
    repeat' first|exact T0|(first|refine (fun (_:True)=>(bnl ‹_› d1).elim) ?_|refine (fun (_:True)=>(bnl ‹_› e1).elim) ?_|refine (fun (_:True)=>(bnl ‹_› e2).elim) ?_|refine (fun (_:True)=>(bnl e3 ‹_›).elim) ?_|refine Yd fun _=>?_|refine Ye fun _=>?_|refine Yg ?_|refine Yk (o1.at3 0 1 2 rfl rfl rfl rfl rfl rfl) ?_|refine Yk (dc.pu rfl rfl) ?_);conv=>whnf|(refine Ya ?_ ?_<;>intro _<;>conv=>whnf)
    all_goals try (refine Or.inl ?_;conv=>whnf)
   all_goals refine⟨[(1,4),(2,5),(3,4),(4,5)],?_⟩
   repeat any_goals first|exact T0|exact rfl|exact Yr|refine Ya ?_ ?_
   all_goals conv=>whnf
  ·rw[if_neg k3]
   have e3:(fe == 0)=false:=by rw[beqI,decide_eq_false k3]
   refine Vq Tryz.func38 rfl rfl ?_
   conv=>whnf
   iterate 10
    repeat' first|exact T0|(first|refine (fun (_:True)=>(bnl ‹_› d1).elim) ?_|refine (fun (_:True)=>(bnl ‹_› e1).elim) ?_|refine (fun (_:True)=>(bnl ‹_› e2).elim) ?_|refine (fun (_:True)=>(bnl ‹_› e3).elim) ?_|refine Yd fun _=>?_|refine Ye fun _=>?_|refine Yg ?_|refine Yk (o1.at3 0 1 2 rfl rfl rfl rfl rfl rfl) ?_|refine Yk (dc.pu rfl rfl) ?_);conv=>whnf|(refine Ya ?_ ?_<;>intro _<;>conv=>whnf)
    all_goals try (refine Or.inl ?_;conv=>whnf)
   all_goals refine⟨[(1,4),(2,5),(3,4),(4,5)],?_⟩
   repeat any_goals first|exact T0|exact rfl|exact Yr|refine Ya ?_ ?_
   all_goals conv=>whnf
 rw[if_neg h3]
 by_cases h4:fk=3
 ·rw[if_pos h4]
  subst h4
  unfold probeA
  simp only
  have hm:(a.probes.map prR).length=a.probes.length:=List.length_map _
  by_cases k1:a.epoch=0
  ·rw[if_pos k1]
   have e1:(a.epoch == 0)=true:=by rw[beqI,decide_eq_true k1]
   refine Vq Tryz.func38 rfl rfl ?_
   conv=>whnf
   iterate 11
    repeat' first|exact T0|(first|refine (fun (_:True)=>(bnl ‹_› d1).elim) ?_|refine (fun (_:True)=>(bnl e1 ‹_›).elim) ?_|refine Yd fun _=>?_|refine Ye fun _=>?_|refine Yg ?_|refine Yk (o1.at3 0 1 2 rfl rfl rfl rfl rfl rfl) ?_|refine Yk (dc.pu rfl rfl) ?_);conv=>whnf|(refine Ya ?_ ?_<;>intro _<;>conv=>whnf)
    all_goals try (refine Or.inl ?_;conv=>whnf)
   all_goals refine⟨[(1,4),(2,5),(3,4),(4,5)],?_⟩
   repeat any_goals first|exact T0|exact rfl|exact Yr|refine Ya ?_ ?_
   all_goals conv=>whnf
  have e1:(a.epoch == 0)=false:=by rw[beqI,decide_eq_false k1]
  rw[if_neg k1]
  by_cases k2:8≤a.probes.length
  ·rw[if_pos k2]
   have e2:(((a.probes.map prR).length:Int) == 8)=true:=by rw[hm,beq_iff_eq];omega
   refine Vq Tryz.func38 rfl rfl ?_
   conv=>whnf
   iterate 12
    repeat' first|exact T0|(first|refine (fun (_:True)=>(bnl ‹_› d1).elim) ?_|refine (fun (_:True)=>(bnl ‹_› e1).elim) ?_|refine (fun (_:True)=>(bnl e2 ‹_›).elim) ?_|refine Yd fun _=>?_|refine Ye fun _=>?_|refine Yg ?_|refine Yk (o1.at3 0 1 2 rfl rfl rfl rfl rfl rfl) ?_|refine Yk (dc.pu rfl rfl) ?_);conv=>whnf|(refine Ya ?_ ?_<;>intro _<;>conv=>whnf)
    all_goals try (refine Or.inl ?_;conv=>whnf)
   all_goals refine⟨[(1,4),(2,5),(3,4),(4,5)],?_⟩
   repeat any_goals first|exact T0|exact rfl|exact Yr|refine Ya ?_ ?_
   all_goals conv=>whnf
  ·rw[if_neg k2]
   have e2:(((a.probes.map prR).length:Int) == 8)=false:=by rw[hm,beq_eq_false_iff_ne];omega
   refine Vq Tryz.func38 rfl rfl ?_
   conv=>whnf
   iterate 13
    repeat' first|exact T0|(first|refine (fun (_:True)=>(bnl ‹_› d1).elim) ?_|refine (fun (_:True)=>(bnl ‹_› e1).elim) ?_|refine (fun (_:True)=>(bnl ‹_› e2).elim) ?_|refine Yd fun _=>?_|refine Ye fun _=>?_|refine Yg ?_|refine Yk (o1.at3 0 1 2 rfl rfl rfl rfl rfl rfl) ?_|refine Yk (dc.pu rfl rfl) ?_|refine Yk (ap 3 24 (by kernel_rfl) rfl rfl (by simp;omega)) ?_);conv=>whnf|(refine Ya ?_ ?_<;>intro _<;>conv=>whnf)
    all_goals try (refine Or.inl ?_;conv=>whnf)
   all_goals refine⟨[(1,6),(3,6),(4,5)],?_⟩
   repeat any_goals first|exact T0|exact rfl|exact Yr|refine Ya ?_ ?_
   all_goals conv=>whnf
   exact congrArg (AObj.sl 3) (by rw[List.map_append];rfl)
 rw[if_neg h4]
 obtain rfl:fk=6:=by
  by_cases h6:fk=6
  ·exact h6
  ·exact absurd ⟨h3,h4,h6⟩ h1
 unfold ackA
 simp only
 by_cases k1:a.epoch=0∨fe≠a.epoch
 ·rw[if_pos k1]
  have hng:¬((a.epoch == 0)=false∧(fe != a.epoch)=false):=by
   rintro⟨p1,p2⟩
   rw[beq_eq_false_iff_ne] at p1
   rw[bne_eq_false_iff_eq] at p2
   exact k1.elim p1 fun h=>h p2
  refine Vq Tryz.func38 rfl rfl ?_
  conv=>whnf
  iterate 13
   repeat' first|exact T0|(first|refine (fun (_:True)=>(bnl ‹_› d1).elim) ?_|refine (fun (_:True)=>(hng ⟨‹_›,‹_›⟩).elim) ?_|refine Yd fun _=>?_|refine Ye fun _=>?_|refine Yg ?_|refine Yk (o1.at3 0 1 2 rfl rfl rfl rfl rfl rfl) ?_|refine Yk (dc.pu rfl rfl) ?_);conv=>whnf|(refine Ya ?_ ?_<;>intro _<;>conv=>whnf)
   all_goals try (refine Or.inl ?_;conv=>whnf)
  all_goals refine⟨[(1,4),(2,5),(3,4),(4,5)],?_⟩
  repeat any_goals first|exact T0|exact rfl|exact Yr|refine Ya ?_ ?_
  all_goals conv=>whnf
 rw[if_neg k1]
 have e1:(a.epoch == 0)=false:=by rw[beqI,decide_eq_false fun h=>k1 (.inl h)]
 have e2:(fe != a.epoch)=false:=by rw[bneI,decide_eq_false fun h=>k1 (.inr h)]
 by_cases k2:a.seq<fn
 ·rw[if_pos k2]
  have e3:decide (fn>a.seq)=true:=decide_eq_true k2
  refine Vq Tryz.func38 rfl rfl ?_
  conv=>whnf
  iterate 14
   repeat' first|exact T0|(first|refine (fun (_:True)=>(bnl ‹_› d1).elim) ?_|refine (fun (_:True)=>(bnl ‹_› e1).elim) ?_|refine (fun (_:True)=>(bnl ‹_› e2).elim) ?_|refine (fun (_:True)=>(bnl e3 ‹_›).elim) ?_|refine Yd fun _=>?_|refine Ye fun _=>?_|refine Yg ?_|refine Yk (o1.at3 0 1 2 rfl rfl rfl rfl rfl rfl) ?_|refine Yk (dc.pu rfl rfl) ?_);conv=>whnf|(refine Ya ?_ ?_<;>intro _<;>conv=>whnf)
   all_goals try (refine Or.inl ?_;conv=>whnf)
  all_goals refine⟨[(1,4),(2,5),(3,4),(4,5)],?_⟩
  repeat any_goals first|exact T0|exact rfl|exact Yr|refine Ya ?_ ?_
  all_goals conv=>whnf
 rw[if_neg k2]
 have e3:decide (fn>a.seq)=false:=decide_eq_false k2
 have hkm:(a.kept.map evR).length=a.kept.length:=List.length_map _
 by_cases k3:fn>firstA a
 case neg=>
  have e4:decide (fn>firstA a)=false:=decide_eq_false k3
  have hz:(fn-firstA a).toNat=0:=by omega
  rw[hz,List.drop_zero]
  refine Vq Tryz.func38 rfl rfl ?_
  conv=>whnf
  iterate 15
   repeat' first|exact T0|(first|refine (fun (_:True)=>(bnl ‹_› d1).elim) ?_|refine (fun (_:True)=>(bnl ‹_› e1).elim) ?_|refine (fun (_:True)=>(bnl ‹_› e2).elim) ?_|refine (fun (_:True)=>(bnl ‹_› e3).elim) ?_|refine (fun (_:True)=>(bnl ‹_› e4).elim) ?_|refine Yd fun _=>?_|refine Ye fun _=>?_|refine Yg ?_|refine Yk (o1.at3 0 1 2 rfl rfl rfl rfl rfl rfl) ?_|refine Yk (dc.pu rfl rfl) ?_);conv=>whnf|(refine Ya ?_ ?_<;>intro _<;>conv=>whnf)
   all_goals try (refine Or.inl ?_;conv=>whnf)
  all_goals refine⟨[(1,4),(2,5),(3,4),(4,5)],?_⟩
  repeat any_goals first|exact T0|exact rfl|exact Yr|refine Ya ?_ ?_
  all_goals conv=>whnf
 have e4:decide (fn>firstA a)=true:=decide_eq_true k3
 obtain⟨q,hq⟩:∃ q:Nat,fn-firstA a=q:=⟨(fn-firstA a).toNat,by omega⟩
 have hqn:(fn-firstA a).toNat=q:=by omega
 have hw:IntKind.i64.wrap (fn-firstA a)=(q:Int):=by rw[hq];exact wi (by omega) (by omega)
 have hqk:q≤a.kept.length:=by omega
 rw[hqn]
 refine Vq Tryz.func38 rfl rfl ?_
 conv=>whnf
 iterate 16
  repeat' first|exact T0|(first|refine (fun (_:True)=>(bnl ‹_› d1).elim) ?_|refine (fun (_:True)=>(bnl ‹_› e1).elim) ?_|refine (fun (_:True)=>(bnl ‹_› e2).elim) ?_|refine (fun (_:True)=>(bnl ‹_› e3).elim) ?_|refine (fun (_:True)=>(bnl e4 ‹_›).elim) ?_|rw[hw]|refine Yd fun _=>?_|refine Ye fun _=>?_|refine Yg ?_|refine Yk (o1.at3 0 1 2 rfl rfl rfl rfl rfl rfl) ?_|refine Yk (dc.pu rfl rfl) ?_|refine Yk (from_o (lo:=q) 4 56 (by kernel_rfl) rfl (by rw[hkm];exact hqk)) ?_|refine Yk (apd 4 56 (by kernel_rfl) rfl (by simp;omega)) ?_);conv=>whnf|(refine Ya ?_ ?_<;>intro _<;>conv=>whnf)
  all_goals try (refine Or.inl ?_;conv=>whnf)
 all_goals refine⟨[(2,6),(3,5),(4,6)],?_⟩
 repeat any_goals first|exact T0|exact rfl|exact Yr|refine Ya ?_ ?_
 all_goals conv=>whnf
 ·exact congrArg (fun z=>iA z) (show fn=a.seq-((a.kept.drop q).length:Int) by rw[List.length_drop];omega)
 ·exact congrArg (AObj.sl 4) (show []++(a.kept.map evR).drop q=(a.kept.drop q).map evR by rw[List.map_drop,List.nil_append])
theorem rEncode_pre {f:Fr} {xs:List D} {r:AV} {H':List AObj} (h:Sat Tryz.prog 31 [.d (frD f)] [] r H') (hn:nilLe xs (frR f)):Sat Tryz.prog 31 [.d (.agg xs)] [] r H':=
 h.pre fun w F ρ vs h=>by
  cases h with|cons h1 h2=>
  cases h1 with|d h1=>exact .cons (.d (h1.nilLe hn)) h2
theorem rencD {f:Fr} (k:Nat) (h1:1≤k) (h7:k≤7) (hk:f.k=k) (hb:bareP f) (hf:FrOk f) (hr:rightF f=true) (hL:(encodeT f).length≤65536) (L:List AObj) (n:Nat):CallOK Tryz.prog 31 [.d (.agg (nilR f))] L n ⟨[],[],[.dead]⟩ (.tup [.d (bsD (encodeT f)),iA 0]):=
 CallOK.frzT ((rEncode_pre (rEncode_ok f k h1 h7 hk hf (fun x hx=>by rw[hb.1] at hx;cases hx) hr hL) (bare_le hb)).nw rfl)
theorem rencB {L:List AObj} {i:Nat} (a:Ag) (k:Nat) (hi:L[i]?=some (.sl 4 (a.kept.map evR))) (hk:k≤a.kept.length) (hf:FrOk (batchF a k)) (hz:∀ x∈a.kept,in64 x.2.1) (hr:rightF (batchF a k)=true) (hL:(encodeT (batchF a k)).length≤65536) (n:Nat) :
  CallOK Tryz.prog 31 [.agg (batC a (.rel i (pcP 4 0 k)))] L n ⟨[i],[],[.dead]⟩ (.tup [.d (bsD (encodeT (batchF a k))),iA 0]):=
 CallOK.frzT (Sat.lendNewT (rEncode_pre (rEncode_ok (batchF a k) 5 (by decide) (by decide) rfl hf (fun x hx=>hz x (List.mem_of_mem_take hx)) hr hL) (bat_le a k)) (lendOk_mid (xs:=[iD 5,iD a.id,iD a.epoch,iD 0,iD 0,iD 0,iD 0,iD (firstA a),iD 0,iD 0]) (ys:=[tD [],nilV,nilV]) hi (by rw[List.length_map];exact hk)) (bR_flats _) fun j hj=>by rw[List.mem_singleton.1 hj];exact⟨_,hi,rfl⟩)
theorem rencBbig {L:List AObj} {i:Nat} (a:Ag) (k:Nat) (hi:L[i]?=some (.sl 4 (a.kept.map evR))) (hk:k≤a.kept.length) (hf:FrOk (batchF a k)) (hz:∀ x∈a.kept,in64 x.2.1) (hr:rightF (batchF a k)=true) (hL:65536<(encodeT (batchF a k)).length) (n:Nat) :
  CallOK Tryz.prog 31 [.agg (batC a (.rel i (pcP 4 0 k)))] L n ⟨[i],[],[]⟩ (.tup [.d nilV,iA 17]):=
 Sat.lendG (rEncode_pre (rEncode_big (batchF a k) 5 (by decide) (by decide) rfl hf (fun x hx=>hz x (List.mem_of_mem_take hx)) hr hL) (bat_le a k)) (lendOk_mid (xs:=[iD 5,iD a.id,iD a.epoch,iD 0,iD 0,iD 0,iD 0,iD (firstA a),iD 0,iD 0]) (ys:=[tD [],nilV,nilV]) hi (by rw[List.length_map];exact hk)) rfl fun j hj=>by rw[List.mem_singleton.1 hj];exact⟨_,hi,rfl⟩
set_option maxHeartbeats 8000000 in
theorem rgBatch_sat (a:Ag) (hi:AgInv a) (hk:a.kept≠[]):Sat Tryz.prog 77 [.ptr 0 0] [.cells (rgC a (.own 1) (.d nilV)),.sl 4 (a.kept.map evR)] (.d (bsD (encodeT (batchF a (mostB a (min a.kept.length 64)))))) [.cells (rgC a (.own 1) (.d nilV)),.sl 4 (a.kept.map evR)]:=by
 have hkl:(a.kept.map evR).length=a.kept.length:=List.length_map _
 obtain⟨m,hmdef,hmz⟩:∃ m:Nat,m=min a.kept.length 64∧(if (64:Int)<((a.kept.map evR).length:Int) then (64:Int) else ((a.kept.map evR).length:Int))=m:=by
  refine⟨min a.kept.length 64,rfl,?_⟩
  rw[hkl]
  split<;>omega
 have hk1:1≤a.kept.length:=by
  rcases Nat.eq_zero_or_pos a.kept.length with q|q
  ·exact absurd (List.eq_nil_of_length_eq_zero q) hk
  ·exact q
 rw[←hmdef]
 refine Vq Tryz.func77 rfl rfl ?_
 conv=>whnf
 iterate 4
  repeat' first|exact T0|(first|refine Yd fun _=>?_|refine Ye fun _=>?_|refine Yg ?_);conv=>whnf|(refine Ya ?_ ?_<;>intro _<;>conv=>whnf)
  all_goals try (refine Or.inl ?_;conv=>whnf)
 refine⟨Nat,fun n=>1≤n∧n≤m∧mostB a m=mostB a n,fun n=>([(3,iA n),(0,.ptr 0 0)],[.cells (rgC a (.own 1) (.d nilV)),.sl 4 (a.kept.map evR)]),fun n=>n,⟨m,⟨by omega,Nat.le_refl _,rfl⟩,?_⟩,?_⟩
 ·all_goals refine⟨[],?_⟩
  repeat any_goals first|exact T0|exact rfl|exact Yr|refine Ya ?_ ?_
  all_goals conv=>whnf
  all_goals exact congrArg (fun z=>iA z) hmz
 rintro n ⟨hn0,hn,hI⟩
 have hn0:1≤n:=hn0
 have hn:n≤m:=hn
 have hI:mostB a m=mostB a n:=hI
 have d3:decide ((n:Int)>0)=true:=decide_eq_true (by omega)
 have hnk:n≤a.kept.length:=by omega
 have hn64:n≤64:=by omega
 conv=>whnf
 by_cases hL:(encodeT (batchF a n)).length≤65536
 ·have hmb:mostB a m=n:=by rw[hI];exact mostB_at hn0 hL
  rw[hmb]
  have sB:=fun {L:List AObj} (i:Nat) (h:L[i]?=some (.sl 4 (a.kept.map evR))) (n':Nat)=>rencB (L:=L) (i:=i) a n h hnk (batch_fok hi n) (fun x hx=>(hi.ev x hx).2.1) (batch_right hi hn0 hnk hn64) hL n'
  iterate 8
   repeat' first|exact T0|(first|refine Ya pc_one ?_|refine Yd fun _=>?_|refine Ye fun _=>?_|refine Yg ?_|refine Yk (pcUpto 4 56 (by kernel_rfl) rfl (show n≤(a.kept.map evR).length by rw[hkl];exact hnk)) ?_|refine Yk (sB 1 rfl _) ?_);conv=>whnf|(refine Ya ?_ ?_<;>intro _<;>conv=>whnf)
   all_goals try (refine Or.inl ?_;conv=>whnf)
  all_goals try exact (bnl d3 ‹_›).elim
  all_goals refine⟨[],?_⟩
  repeat any_goals first|exact T0|exact rfl|exact Yr|refine Ya ?_ ?_
  all_goals conv=>whnf
 ·have sB:=fun {L:List AObj} (i:Nat) (h:L[i]?=some (.sl 4 (a.kept.map evR))) (n':Nat)=>rencBbig (L:=L) (i:=i) a n h hnk (batch_fok hi n) (fun x hx=>(hi.ev x hx).2.1) (batch_right hi hn0 hnk hn64) (by omega) n'
  have hn1:n≠1:=fun e=>hL (by rw[e];exact batch_one)
  iterate 8
   repeat' first|exact T0|(first|refine Ya pc_one ?_|refine Yd fun _=>?_|refine Ye fun _=>?_|refine Yg ?_|refine Yk (pcUpto 4 56 (by kernel_rfl) rfl (show n≤(a.kept.map evR).length by rw[hkl];exact hnk)) ?_|refine Yk (sB 1 rfl _) ?_);conv=>whnf|(refine Ya ?_ ?_<;>intro _<;>conv=>whnf)
   all_goals try (refine Or.inl ?_;conv=>whnf)
  all_goals try exact (bnl d3 ‹_›).elim
  refine⟨n-1,⟨by omega,by omega,by rw[hI];exact mostB_down hn0 hL⟩,show n-1<n by omega,?_⟩
  all_goals refine⟨[],?_⟩
  repeat any_goals first|exact T0|exact rfl|exact Yr|refine Ya ?_ ?_
  all_goals conv=>whnf
  all_goals exact congrArg (fun z=>iA z) (by rw[wi (by omega) (by omega)];omega)
abbrev rgH5 (a:Ag) (l:List Bt):List AObj:=[.cells (rgC a (.own 3) (.own 5)),.dead,.dead,.sl 4 (a.kept.map evR),.sl 1 (l.map fun b=>[bsD b]),.sl 3 (a.probes.map prR)]
theorem rgStep_no (a0:Ag) (r:Int) (h:(observeA a0 r).2≠0):Sat Tryz.prog 39 [.ptr 0 0,iA r] (rgH a0) (.tup [.d nilV,iA (observeA a0 r).2]) (rgH2 (stepA a0 r).1):=by
 rw[stepA_bad h]
 have o1:=rgHear_sat a0 r
 generalize observeA a0 r=A at *
 have d1:=ne0 h
 refine Vq Tryz.func39 rfl rfl ?_
 conv=>whnf
 iterate 4
  repeat' first|exact T0|(first|refine Yd fun _=>?_|refine Ye fun _=>?_|refine Yg ?_|refine Yk (o1.at3 0 1 2 rfl rfl rfl rfl rfl rfl) ?_);conv=>whnf|(refine Ya ?_ ?_<;>intro _<;>conv=>whnf)
  all_goals try (refine Or.inl ?_;conv=>whnf)
 all_goals try exact (bnl d1 ‹_›).elim
 all_goals refine⟨[(1,3),(2,4)],?_⟩
 repeat any_goals first|exact T0|exact rfl|exact Yr|refine Ya ?_ ?_
 all_goals conv=>whnf
theorem rgStep_hello (a0:Ag) (r:Int) (h0:(observeA a0 r).2=0) (hi:AgInv (observeA a0 r).1) (he:(observeA a0 r).1.epoch=0):Sat Tryz.prog 39 [.ptr 0 0,iA r] (rgH a0) (.tup [.own 4,iA 0]) (rgH5 (observeA a0 r).1 [encodeT (helloF (observeA a0 r).1)]):=by
 have o1:=rgHear_sat a0 r
 rw[h0] at o1
 generalize (observeA a0 r).1=a at *
 have s1:=rencD (f:=helloF a) 1 (by decide) (by decide) rfl ⟨rfl,rfl,rfl⟩ (hello_fok hi) (hello_right hi he) (small_len (k:=1) rfl (by decide) rfl)
 have d1:(a.epoch == 0)=true:=by rw[beq_iff_eq];exact he
 generalize encodeT (helloF a)=b at *
 rw[show nilR (helloF a)=[iD 1,iD a.id,iD 0,iD a.boot,iD 0,iD 0,iD 0,iD 0,iD 0,iD 0,nilV,tD [],nilV,nilV] by show [_,_,iD a.epoch,_,_,_,_,_,_,_,_,_,_,_]=_;rw[he];rfl] at s1
 refine Vq Tryz.func39 rfl rfl ?_
 conv=>whnf
 iterate 7
  repeat' first|exact T0|(first|refine Yd fun _=>?_|refine Ye fun _=>?_|refine Yg ?_|refine Yk (o1.at3 0 1 2 rfl rfl rfl rfl rfl rfl) ?_|refine Yk (s1 _ _) ?_);conv=>whnf|(refine Ya ?_ ?_<;>intro _<;>conv=>whnf)
  all_goals try (refine Or.inl ?_;conv=>whnf)
 all_goals try exact (bnl d1 ‹_›).elim
 all_goals refine⟨[(1,5),(2,6),(3,5),(5,6)],?_⟩
 repeat any_goals first|exact T0|exact rfl|exact Yr|refine Ya ?_ ?_
 all_goals conv=>whnf
set_option maxHeartbeats 8000000 in
theorem rgStep_run (a0:Ag) (r:Int) (h0:(observeA a0 r).2=0) (hi:AgInv (observeA a0 r).1) (he:(observeA a0 r).1.epoch≠0):Sat Tryz.prog 39 [.ptr 0 0,iA r] (rgH a0) (.tup [.own 4,iA 0]) (rgH5 { (observeA a0 r).1 with probes:=[] } (sentA (observeA a0 r).1)):=by
 have o1:=rgHear_sat a0 r
 rw[h0] at o1
 generalize (observeA a0 r).1=a at *
 refine Sat.nilCell (cs:=rgC a (.own 3) (.d nilV)) (T:=[.dead,.dead,.sl 4 (a.kept.map evR),.sl 1 ((sentA a).map fun b=>[bsD b])]) 3 ?_ (fun w F ρ hρ vs hv=>ras_nil (xs:=[iA a.id,iA a.most,iA a.boot,iA a.epoch,iA a.clock,iA a.seq,iA (firstA a),.own 3,iA a.dropped]) (ys:=[]) hρ hv)
 have hkl:(a.kept.map evR).length=a.kept.length:=List.length_map _
 have d1:(a.epoch == 0)=false:=by rw[beqI,decide_eq_false he]
 have hm:(a.probes.map prR).length=a.probes.length:=List.length_map _
 have hpl:=hi.pl
 have hrl:=repR_len a a.probes.length (Nat.le_refl _)
 have sX:=rencD (f:=beatF a) 7 (by decide) (by decide) rfl ⟨rfl,rfl,rfl⟩ (beat_fok hi) (beat_right hi) (small_len (f:=beatF a) (k:=7) rfl (by decide) rfl)
 refine Vq Tryz.func39 rfl rfl ?_
 conv=>whnf
 iterate 6
  repeat' first|exact T0|(first|refine Yd fun _=>?_|refine Ye fun _=>?_|refine Yg ?_|refine Yk (o1.at3 0 1 2 rfl rfl rfl rfl rfl rfl) ?_);conv=>whnf|(refine Ya ?_ ?_<;>intro _<;>conv=>whnf)
  all_goals try (refine Or.inl ?_;conv=>whnf)
 all_goals try exact (bnl ‹_› d1).elim
 refine⟨Nat,fun i=>i≤a.probes.length,fun i=>([(10,iA i),(9,.own 3),(0,.ptr 0 0)],rgH a++[.sl 1 (repR a i)]),fun i=>a.probes.length-i,⟨0,Nat.zero_le _,?_⟩,?_⟩
 ·all_goals refine⟨[],?_⟩
  repeat any_goals first|exact T0|exact rfl|exact Yr|refine Ya ?_ ?_
  all_goals conv=>whnf
 intro i hii
 have hii:i≤a.probes.length:=hii
 by_cases hlt:i<a.probes.length
 ·have hx:a.probes[i]?=some a.probes[i]:=List.getElem?_eq_getElem hlt
  generalize a.probes[i]=p at hx
  have hpm:=List.mem_of_getElem? hx
  have hgx:=map_get (f:=prR) hx
  have hri:=repR_len a i hii
  have s4:=rencD (f:=replyF a p) 4 (by decide) (by decide) rfl ⟨rfl,rfl,rfl⟩ (reply_fok hi hpm) (reply_right hi hpm) (small_len (f:=replyF a p) (k:=4) rfl (by decide) rfl)
  have hnx:=repR_next hx
  generalize encodeT (replyF a p)=b at *
  have d2:decide ((i:Int)<((a.probes.map prR).length:Nat))=true:=decide_eq_true (by rw[hm];omega)
  conv=>whnf
  iterate 8
   repeat' first|exact T0|(first|refine⟨i,rfl,(by rw[hm];exact hlt),?_⟩|refine⟨_,hgx,?_⟩|refine Yd fun _=>?_|refine Ye fun _=>?_|refine Yg ?_|refine Yk (s4 _ _) ?_|refine Yk (ap 1 24 (by kernel_rfl) rfl rfl (by simp;omega)) ?_);conv=>whnf|(refine Ya ?_ ?_<;>intro _<;>conv=>whnf)
   all_goals try (refine Or.inl ?_;conv=>whnf)
  all_goals try exact (bnl d2 ‹_›).elim
  refine⟨i+1,hlt,show a.probes.length-(i+1)<a.probes.length-i by omega,?_⟩
  all_goals refine⟨[(3,7)],?_⟩
  repeat any_goals first|exact T0|exact rfl|exact Yr|refine Ya ?_ ?_
  all_goals conv=>whnf
  ·exact wk1 (by omega)
  ·exact congrArg (AObj.sl 1) hnx.symm
 ·have d2:decide ((i:Int)<((a.probes.map prR).length:Nat))=false:=decide_eq_false (by rw[hm];omega)
  obtain rfl:i=a.probes.length:=by omega
  have hrr:=rows_run a he
  by_cases hk:a.kept=[]
  ·have d3:decide (((a.kept.map evR).length:Int)>0)=false:=decide_eq_false (by rw[hkl,hk];decide)
   rw[bat_no hk] at hrr
   rw[hrr]
   generalize encodeT (beatF a)=b at *
   conv=>whnf
   iterate 8
    repeat' first|exact T0|(first|refine Yd fun _=>?_|refine Ye fun _=>?_|refine Yg ?_|refine Yk (sX _ _) ?_|refine Yk (ap 1 24 (by kernel_rfl) rfl rfl (by simp;omega)) ?_);conv=>whnf|(refine Ya ?_ ?_<;>intro _<;>conv=>whnf)
    all_goals try (refine Or.inl ?_;conv=>whnf)
   all_goals try exact (bnl ‹_› d2).elim
   all_goals try exact (bnl ‹_› d3).elim
   all_goals refine⟨[(1,7),(3,7),(4,6)],?_⟩
   repeat any_goals first|exact T0|exact rfl|exact Yr|refine Ya ?_ ?_
   all_goals conv=>whnf
  ·have d3:decide (((a.kept.map evR).length:Int)>0)=true:=decide_eq_true (by
    rw[hkl]
    rcases Nat.eq_zero_or_pos a.kept.length with q|q
    ·exact absurd (List.eq_nil_of_length_eq_zero q) hk
    ·omega)
   rw[bat_some hk] at hrr
   rw[hrr]
   have b1:=rgBatch_sat a hi hk
   generalize encodeT (batchF a (mostB a (min a.kept.length 64)))=c at *
   generalize encodeT (beatF a)=b at *
   conv=>whnf
   iterate 10
    repeat' first|exact T0|(first|refine Yd fun _=>?_|refine Ye fun _=>?_|refine Yg ?_|refine Yk (sX _ _) ?_|refine Yk (b1.at2 0 1 rfl rfl rfl rfl rfl) ?_|refine Yk (ap 1 24 (by kernel_rfl) rfl rfl (by simp;omega)) ?_);conv=>whnf|(refine Ya ?_ ?_<;>intro _<;>conv=>whnf)
    all_goals try (refine Or.inl ?_;conv=>whnf)
   all_goals try exact (bnl ‹_› d2).elim
   all_goals try exact (bnl d3 ‹_›).elim
   all_goals refine⟨[(1,9),(3,9),(4,8)],?_⟩
   repeat any_goals first|exact T0|exact rfl|exact Yr|refine Ya ?_ ?_
   all_goals conv=>whnf
   all_goals exact congrArg (AObj.sl 1) (List.append_assoc _ _ _)
theorem rgStep_yes (a0:Ag) (r:Int) (hi:AgInv a0) (h:(observeA a0 r).2=0):Sat Tryz.prog 39 [.ptr 0 0,iA r] (rgH a0) (.tup [.own 4,iA 0]) (rgH5 (stepA a0 r).1 (sentA (observeA a0 r).1)):=by
 have hi2:=observe_inv hi r
 by_cases he:(observeA a0 r).1.epoch=0
 ·have e:stepA a0 r=((observeA a0 r).1,sentA (observeA a0 r).1,0):=by unfold stepA;rw[if_neg (fun q=>q h),if_pos he]
  rw[e]
  have:=rgStep_hello a0 r h hi2 he
  have e2:sentA (observeA a0 r).1=[encodeT (helloF (observeA a0 r).1)]:=if_pos he
  rw[e2]
  exact this
 ·have e:stepA a0 r=({ (observeA a0 r).1 with probes:=[] },sentA (observeA a0 r).1,0):=by unfold stepA;rw[if_neg (fun q=>q h),if_neg he]
  rw[e]
  exact rgStep_run a0 r h hi2 he
abbrev ltrs:Bt:=[97,101,98,99,103,115,110,116,119]
theorem ltr_at:∀ i<9,ltrs[i]?=some (ltrN (i+1)):=by decide
theorem neSelf (z:Int):(z != z)=false:=by simp
set_option maxHeartbeats 8000000 in
theorem rSame9_sat (f:Fr) (hf:FrOk f):Sat Tryz.prog 42 [.d (frD f),.d (frD f)] [] (bA true) []:=by
 obtain⟨k,a,e,b,c,g,s,n,t,w,ev,sr,d⟩:=f
 have c1:=rSame_sat sr sr hf.srl hf.srl
 rw[decide_eq_true rfl] at c1
 have hev:∀ x∈ev,x.2.2.2.length≤1000000:=hf.evl
 have hen:ev.length≤1000000:=hf.evn
 have hm:(ev.map evR).length=ev.length:=List.length_map _
 have d0:(!decide ((⟨d.toArray⟩:ByteArray)=⟨d.toArray⟩))=false:=by simp
 refine Vq Tryz.func42 rfl rfl ?_
 conv=>whnf
 iterate 6
  repeat' first|exact T0|(first|refine Yd fun _=>?_|refine Ye fun _=>?_|refine Yg ?_|refine Yk (c1.pu rfl rfl) ?_|refine Yk (str_d d) ?_|refine Yk (neT (a:=⟨d.toArray⟩) (b:=⟨d.toArray⟩)) ?_);conv=>whnf|(refine Ya ?_ ?_<;>intro _<;>conv=>whnf)
  all_goals try (refine Or.inl ?_;conv=>whnf)
 all_goals try exact (bnl ‹_› (neSelf _)).elim
 all_goals try exact (bnl ‹_› d0).elim
 refine⟨Nat,fun i=>i≤9,fun i=>([(5,iA i),(3,.ptr 1 0),(2,.ptr 0 0)],[.cells (frA ⟨k,a,e,b,c,g,s,n,t,w,ev,sr,d⟩),.cells (frA ⟨k,a,e,b,c,g,s,n,t,w,ev,sr,d⟩)]),fun i=>9-i,⟨0,Nat.zero_le _,?_⟩,?_⟩
 ·all_goals refine⟨[],?_⟩
  repeat any_goals first|exact T0|exact rfl|exact Yr|refine Ya ?_ ?_
  all_goals conv=>whnf
 intro i hi
 have hi:i≤9:=hi
 by_cases h9:i<9
 ·have d1:decide ((i:Int)<9)=true:=decide_eq_true (by omega)
  obtain⟨qz,ez⟩:=ix_get (ltr_at i h9)
  obtain⟨j,hj⟩:∃ j,j=i+1:=⟨_,rfl⟩
  rw[←hj] at ez
  have n1:=number_sat ⟨k,a,e,b,c,g,s,n,t,w,ev,sr,d⟩ j (by omega) (by omega)
  have hjj:j=1∨j=2∨j=3∨j=4∨j=5∨j=6∨j=7∨j=8∨j=9:=by omega
  conv=>whnf
  rcases hjj with h|h|h|h|h|h|h|h|h
  all_goals
   rw[h] at n1 ez
   iterate 7
    repeat' first|exact T0|(first|(refine⟨i,qz,rfl,?_⟩;rw[ez])|refine Yd fun _=>?_|refine Ye fun _=>?_|refine Yg ?_|refine Yk (n1.at1 0 rfl rfl rfl) ?_|refine Yk (n1.at1 1 rfl rfl rfl) ?_);conv=>whnf|(refine Ya ?_ ?_<;>intro _<;>conv=>whnf)
    all_goals try (refine Or.inl ?_;conv=>whnf)
   all_goals try exact (bnl d1 ‹_›).elim
   all_goals try exact (bnl ‹_› (neSelf _)).elim
   refine⟨i+1,h9,show 9-(i+1)<9-i by omega,?_⟩
   all_goals refine⟨[],?_⟩
   repeat any_goals first|exact T0|exact rfl|exact Yr|refine Ya ?_ ?_
   all_goals conv=>whnf
   exact wk1 (by omega)
 have d1:decide ((i:Int)<9)=false:=decide_eq_false (by omega)
 conv=>whnf
 iterate 4
  repeat' first|exact T0|(first|refine Yd fun _=>?_|refine Ye fun _=>?_|refine Yg ?_);conv=>whnf|(refine Ya ?_ ?_<;>intro _<;>conv=>whnf)
  all_goals try (refine Or.inl ?_;conv=>whnf)
 all_goals try exact (bnl ‹_› d1).elim
 refine⟨Nat,fun q=>q≤ev.length,fun q=>([(6,iA q),(3,.ptr 1 0),(2,.ptr 0 0)],[.cells (frA ⟨k,a,e,b,c,g,s,n,t,w,ev,sr,d⟩),.cells (frA ⟨k,a,e,b,c,g,s,n,t,w,ev,sr,d⟩)]),fun q=>ev.length-q,⟨0,Nat.zero_le _,?_⟩,?_⟩
 ·all_goals refine⟨[],?_⟩
  repeat any_goals first|exact T0|exact rfl|exact Yr|refine Ya ?_ ?_
  all_goals conv=>whnf
 intro q hq
 have hq:q≤ev.length:=hq
 conv=>whnf
 by_cases hlt:q<ev.length
 ·have hx:ev[q]?=some ev[q]:=List.getElem?_eq_getElem hlt
  generalize ev[q]=x at hx
  have hgx:=map_get (f:=evR) hx
  have c2:=rSame_sat x.2.2 x.2.2 (hev x (List.mem_of_getElem? hx)) (hev x (List.mem_of_getElem? hx))
  rw[decide_eq_true rfl] at c2
  have d2:decide ((q:Int)<((ev.map evR).length:Nat))=true:=decide_eq_true (by rw[hm];omega)
  iterate 7
   repeat' first|exact T0|(first|refine⟨q,_,rfl,hgx,?_⟩|refine Yd fun _=>?_|refine Ye fun _=>?_|refine Yg ?_|refine Yk (c2.pu rfl rfl) ?_);conv=>whnf|(refine Ya ?_ ?_<;>intro _<;>conv=>whnf)
   all_goals try (refine Or.inl ?_;conv=>whnf)
  all_goals try exact (bnl d2 ‹_›).elim
  all_goals try exact (bnl ‹_› (neSelf _)).elim
  refine⟨q+1,hlt,show ev.length-(q+1)<ev.length-q by omega,?_⟩
  all_goals refine⟨[],?_⟩
  repeat any_goals first|exact T0|exact rfl|exact Yr|refine Ya ?_ ?_
  all_goals conv=>whnf
  exact wk1 (by omega)
 ·have d2:decide ((q:Int)<((ev.map evR).length:Nat))=false:=decide_eq_false (by rw[hm];omega)
  iterate 5
   repeat' first|exact T0|(first|refine Yd fun _=>?_|refine Ye fun _=>?_|refine Yg ?_);conv=>whnf|(refine Ya ?_ ?_<;>intro _<;>conv=>whnf)
   all_goals try (refine Or.inl ?_;conv=>whnf)
  all_goals try exact (bnl ‹_› d2).elim
  all_goals refine⟨[],?_⟩
  repeat any_goals first|exact T0|exact rfl|exact Yr|refine Ya ?_ ?_
  all_goals conv=>whnf
set_option maxHeartbeats 8000000 in
theorem of9_sat (f:Fr) (hf:FrOk f) (hd:f.d.length≤1000000) (hen:f.ev.length≤1000000):Sat Tryz.prog 41 [.d (frD f)] [] (.d (frD f)) []:=by
 obtain⟨k,a,e,b,c,g,s,n,t,w,ev,sr,d⟩:=f
 have o1:=ofS_sat sr hf.srl
 have c1:=copyBytesD_sat d hd
 have hev:∀ x∈ev,x.2.2.2.length≤1000000:=hf.evl
 have hen:ev.length≤1000000:=hen
 have hm:(ev.map evR).length=ev.length:=List.length_map _
 refine Vq Tryz.func41 rfl rfl ?_
 conv=>whnf
 iterate 3
  repeat' first|exact T0|(first|refine Yd fun _=>?_|refine Ye fun _=>?_|refine Yg ?_|refine Yk (o1.pu rfl rfl) ?_|refine Yk (c1.pu rfl rfl) ?_);conv=>whnf|(refine Ya ?_ ?_<;>intro _<;>conv=>whnf)
  all_goals try (refine Or.inl ?_;conv=>whnf)
 refine⟨Nat,fun i=>i≤ev.length,fun i=>([(4,iA i),(3,.ptr 2 0),(2,.ptr 1 0),(1,.ptr 0 0)],[.cells (frA ⟨k,a,e,b,c,g,s,n,t,w,ev,sr,d⟩),.cells [iA 0,iA 0,iA 0,iA 0,iA 0,iA 0,iA 0,iA 0,iA 0,iA 0,.d nilV,.d (tD []),.d nilV,.d nilV],.cells [iA k,iA a,iA e,iA b,iA c,iA g,iA s,iA n,iA t,iA w,.own 3,.d (tD sr.1),.d (.sl 2 (sr.2.map labR)),.d (bsD d)],.sl 4 ((ev.take i).map evR)]),fun i=>ev.length-i,⟨0,Nat.zero_le _,?_⟩,?_⟩
 ·all_goals refine⟨[],?_⟩
  repeat any_goals first|exact T0|exact rfl|exact Yr|refine Ya ?_ ?_
  all_goals conv=>whnf
 intro i hi
 have hi:i≤ev.length:=hi
 have hlt0:((ev.take i).map evR).length=i:=by rw[List.length_map,List.length_take];omega
 conv=>whnf
 by_cases hlt:i<ev.length
 ·have hx:ev[i]?=some ev[i]:=List.getElem?_eq_getElem hlt
  generalize ev[i]=x at hx
  have hgx:=map_get (f:=evR) hx
  have o2:=ofS_sat x.2.2 (hev x (List.mem_of_getElem? hx))
  have d1:decide ((i:Int)<((ev.map evR).length:Nat))=true:=decide_eq_true (by rw[hm];omega)
  iterate 6
   repeat' first|exact T0|(first|refine⟨i,_,rfl,hgx,?_⟩|refine Yd fun _=>?_|refine Ye fun _=>?_|refine Yg ?_|refine Yk (o2.pu rfl rfl) ?_|refine Yk (ap 4 56 (by kernel_rfl) rfl rfl (by simp;omega)) ?_);conv=>whnf|(refine Ya ?_ ?_<;>intro _<;>conv=>whnf)
   all_goals try (refine Or.inl ?_;conv=>whnf)
  all_goals try exact (bnl d1 ‹_›).elim
  refine⟨i+1,hlt,show ev.length-(i+1)<ev.length-i by omega,?_⟩
  all_goals refine⟨[(3,6)],?_⟩
  repeat any_goals first|exact T0|exact rfl|exact Yr|refine Ya ?_ ?_
  all_goals conv=>whnf
  ·exact wk1 (by omega)
  ·rw[map_take_succ hx];rfl
 ·have d1:decide ((i:Int)<((ev.map evR).length:Nat))=false:=decide_eq_false (by rw[hm];omega)
  iterate 5
   repeat' first|exact T0|(first|refine Yd fun _=>?_|refine Ye fun _=>?_|refine Yg ?_);conv=>whnf|(refine Ya ?_ ?_<;>intro _<;>conv=>whnf)
   all_goals try (refine Or.inl ?_;conv=>whnf)
  all_goals try exact (bnl ‹_› d1).elim
  all_goals refine⟨[],?_⟩
  repeat any_goals first|exact T0|exact rfl|exact Yr|refine Ya ?_ ?_
  all_goals conv=>whnf
  all_goals rw[List.take_of_length_le (by omega)]
section
variable {P:Program} {L:List AObj} {n:Nat} {g:FuncId}
theorem lendOk_two {i s:Nat} {rows:List (List D)} {x:D} {xs:List AV} {ds:List D} (hi:L[i]?=some (.sl s rows)) (hx:xs.map (sbs i (.sl s rows))=ds.map .d):LendOk L [.d x,.agg xs] [.d x,.d (.agg ds)] [i]:=by
 intro F F1 ρ H w vals En hF hrs hb hv
 have hHi:H i=some (.sl s rows):=(hrs i (by simp)).trans hi
 cases hv with|cons h0 hv=>
 cases h0 with|d h0=>
 obtain⟨v,rfl,hv'⟩:=hv.one_out
 cases hv' with|agg h1 h2=>
 exact .cons (.d (h0.mono (fun _ _=>rfl) hF)) (.cons (.d (.agg (flat_ds hF (fun v hv=>own_rd En hHi hF (hb i (by simp)) hv) hx h1 h2))) .nil)
end
def keptF (a:Ag):Fr:=⟨0,0,0,0,0,0,0,0,0,0,a.kept,([],[]),[]⟩
abbrev keptD (a:Ag):List D:=[iD 0,iD 0,iD 0,iD 0,iD 0,iD 0,iD 0,iD 0,iD 0,iD 0,.sl 4 (a.kept.map evR),tD [],nilV,nilV]
theorem kept_le (a:Ag):nilLe (keptD a) (frR (keptF a)):=by
 repeat' (first|exact trivial|refine And.intro ?_ ?_|exact .inl rfl|exact .inr ⟨rfl,_,rfl⟩)
set_option maxHeartbeats 16000000 in
theorem agree14_sat (a:Ag) (hi:AgInv a):Sat Tryz.prog 13 [.ptr 0 0,.ptr 3 0] (agH a++[.cells (rgC a (.own 4) (.own 5)),.sl 4 (a.kept.map evR),.sl 3 (a.probes.map prR)]) (bA true) (agH a++[.cells (rgC a (.own 4) (.own 5)),.sl 4 (a.kept.map evR),.sl 3 (a.probes.map prR)]):=by
 have hln:=hi.len
 have hms:=hi.most
 have hfi:=hi.first
 have hse:=hi.seq
 have hfd:firstA a=a.seq-(a.kept.length:Int):=rfl
 have hll:∀ x∈a.kept,x.2.2.2.length≤1000000:=fun x hx=>by have:=lab_len hi hx;omega
 have hfk:FrOk (keptF a):=⟨z64,z64,z64,z64,z64,z64,z64,z64,z64,z64,by show a.kept.length≤_;omega,hll,by simp[keptF]⟩
 have k1:=kept_sat a (by omega) (fun x hx=>by have:=lab_len hi hx;omega)
 have r1:=agId_sat a
 have r2:=agBoot_sat a
 have r3:=agEpoch_sat a
 have r4:=agClock_sat a
 have r5:=agSeq_sat a
 have r6:=agFirst_sat a ⟨by omega,by omega⟩
 have r7:=agDropped_sat a
 have r8:=agProbes_sat a
 have hpl:(a.probes.map prR).length=a.probes.length:=List.length_map _
 have dp:((a.probes.length:Int) != ((a.probes.map prR).length:Int))=false:=by rw[hpl];simp
 have o1:Sat Tryz.prog 41 [.d (.agg (keptD a))] [] (.d (frD (keptF a))) []:=(of9_sat (keptF a) hfk (by simp[keptF]) hfk.evn).pre fun w F ρ vs h=>by
  cases h with|cons h1 h2=>
  cases h1 with|d h1=>exact .cons (.d (h1.nilLe (kept_le a))) h2
 have s0:Sat Tryz.prog 42 [.d (frD (keptF a)),.d (.agg (keptD a))] [] (bA true) []:=(rSame9_sat (keptF a) hfk).pre fun w F ρ vs h=>by
  cases h with|cons h1 h2=>
  cases h2 with|cons h2 h3=>
  cases h2 with|d h2=>exact .cons h1 (.cons (.d (h2.nilLe (kept_le a))) h3)
 have s1:∀ {L:List AObj} (n i:Nat) (h:L[i]?=some (.sl 4 (a.kept.map evR))),CallOK Tryz.prog 42 [.d (frD (keptF a)),.agg [iA 0,iA 0,iA 0,iA 0,iA 0,iA 0,iA 0,iA 0,iA 0,iA 0,.own i,.d (tD []),.d nilV,.d nilV]] L n ⟨[i],[],[]⟩ (bA true):=fun n i h=>
  s0.lendG (lendOk_two h (by simp[sbs])) rfl fun j hj=>by rw[List.mem_singleton.1 hj];exact⟨_,h,rfl⟩
 refine Vq Tryz.func13 rfl rfl ?_
 conv=>whnf
 iterate 12
  repeat' first|exact T0|(first|refine Yd fun _=>?_|refine Ye fun _=>?_|refine Yg ?_|refine Yk (CallOK.frzO (k1.at3 0 1 2 rfl rfl rfl rfl rfl rfl)) ?_|refine Yk (r1.at3 0 1 2 rfl rfl rfl rfl rfl rfl) ?_|refine Yk (r2.at3 0 1 2 rfl rfl rfl rfl rfl rfl) ?_|refine Yk (r3.at3 0 1 2 rfl rfl rfl rfl rfl rfl) ?_|refine Yk (r4.at3 0 1 2 rfl rfl rfl rfl rfl rfl) ?_|refine Yk (r5.at3 0 1 2 rfl rfl rfl rfl rfl rfl) ?_|refine Yk (r6.at3 0 1 2 rfl rfl rfl rfl rfl rfl) ?_|refine Yk (r7.at3 0 1 2 rfl rfl rfl rfl rfl rfl) ?_|refine Yk (r8.at3 0 1 2 rfl rfl rfl rfl rfl rfl) ?_|refine Yk (o1.pu rfl rfl) ?_|refine Yk (s1 _ 4 rfl) ?_);conv=>whnf|(refine Ya ?_ ?_<;>intro _<;>conv=>whnf)
  all_goals try (refine Or.inl ?_;conv=>whnf)
 all_goals try exact (bnl ‹_› (neSelf _)).elim
 all_goals try exact (bnl ‹_› dp).elim
 all_goals refine⟨[],?_⟩
 repeat any_goals first|exact T0|exact rfl|exact Yr|refine Ya ?_ ?_
 all_goals conv=>whnf
end Go.Proofs.YtfbfpnfgabamfaaGreat
namespace Go.Proofs.YtfbfpnfgabamfaaGreat
set_option linter.unusedSimpArgs false
open Go.RowKit
set_option maxRecDepth 100000
set_option linter.unusedVariables false
set_option linter.unusedSectionVars false
theorem Sat.at6 {P:Program} {g:FuncId} {args:List AV} {o0 o1 o2 o3 o4 o5 p0 p1 p2 p3 p4 p5:AObj} {N L:List AObj} {n:Nat} {r:AV} (h:Sat P g args [o0,o1,o2,o3,o4,o5] r (p0::p1::p2::p3::p4::p5::N)) (a b c d e f:Nat) (hab:decide ([a,b,c,d,e,f].Nodup)=true) (hlive:(o0.live && o1.live && o2.live && o3.live && o4.live && o5.live)=true) (hids:(AV.lts 6 args && AObj.lts 6 [o0,o1,o2,o3,o4,o5])=true)
  (ha:L[a]?=some (o0.rn (sub [a,b,c,d,e,f] n))) (hb:L[b]?=some (o1.rn (sub [a,b,c,d,e,f] n))) (hc:L[c]?=some (o2.rn (sub [a,b,c,d,e,f] n))) (hd:L[d]?=some (o3.rn (sub [a,b,c,d,e,f] n))) (he:L[e]?=some (o4.rn (sub [a,b,c,d,e,f] n))) (hf:L[f]?=some (o5.rn (sub [a,b,c,d,e,f] n))) :
  CallOK P g (AV.rns (sub [a,b,c,d,e,f] n) args) L n ⟨[a,b,c,d,e,f],[(a,p0.rn (sub [a,b,c,d,e,f] n)),(b,p1.rn (sub [a,b,c,d,e,f] n)),(c,p2.rn (sub [a,b,c,d,e,f] n)),(d,p3.rn (sub [a,b,c,d,e,f] n)),(e,p4.rn (sub [a,b,c,d,e,f] n)),(f,p5.rn (sub [a,b,c,d,e,f] n))],AObj.rns (sub [a,b,c,d,e,f] n) N⟩ (r.rn (sub [a,b,c,d,e,f] n)):=by
 simp only[Bool.and_eq_true] at hlive
 exact h.at_ [a,b,c,d,e,f] L n rfl (of_decide_eq_true hab) rfl (by simp[AObj.lives,hlive]) hids fun j hj=>by
  match j,hj with
  |0,_=>exact ha
  |1,_=>exact hb
  |2,_=>exact hc
  |3,_=>exact hd
  |4,_=>exact he
  |5,_=>exact hf
abbrev twH (a:Ag):List AObj:=[.cells (agC a (.own 1) (.own 2)),.sl 4 (a.kept.map evR),.sl 3 (a.probes.map prR),.cells (rgC a (.own 4) (.own 5)),.sl 4 (a.kept.map evR),.sl 3 (a.probes.map prR)]
abbrev twH2 (a:Ag):List AObj:=[.cells (agC a (.own 6) (.own 7)),.dead,.dead,.cells (rgC a (.own 8) (.own 9)),.dead,.dead,.sl 4 (a.kept.map evR),.sl 3 (a.probes.map prR),.sl 4 (a.kept.map evR),.sl 3 (a.probes.map prR)]
theorem sameRows_sat (l:List Bt) (hn:l.length≤1000000) (hl:∀ b∈l,b.length≤1000000):Sat Tryz.prog 40 [.d (.sl 1 (l.map fun b=>[bsD b])),.d (.sl 1 (l.map fun b=>[bsD b]))] [] (bA true) []:=by
 have hm:(l.map fun b=>([bsD b]:List D)).length=l.length:=List.length_map _
 refine Vq Tryz.func40 rfl rfl ?_
 conv=>whnf
 iterate 4
  repeat' first|exact T0|(first|refine Yd fun _=>?_|refine Ye fun _=>?_|refine Yg ?_);conv=>whnf|(refine Ya ?_ ?_<;>intro _<;>conv=>whnf)
  all_goals try (refine Or.inl ?_;conv=>whnf)
 all_goals try exact (bnl ‹_› (neSelf _)).elim
 refine⟨Nat,fun i=>i≤l.length,fun i=>([(5,iA i),(1,.d (.sl 1 (l.map fun b=>[bsD b]))),(0,.d (.sl 1 (l.map fun b=>[bsD b])))],[]),fun i=>l.length-i,⟨0,Nat.zero_le _,?_⟩,?_⟩
 ·all_goals refine⟨[],?_⟩
  repeat any_goals first|exact T0|exact rfl|exact Yr|refine Ya ?_ ?_
  all_goals conv=>whnf
 intro i hi
 have hi:i≤l.length:=hi
 conv=>whnf
 by_cases hlt:i<l.length
 ·have hx:l[i]?=some l[i]:=List.getElem?_eq_getElem hlt
  generalize l[i]=x at hx
  have hgx:=map_get (f:=fun b:Bt=>([bsD b]:List D)) hx
  have s1:=sameBytes_sat x x (hl x (List.mem_of_getElem? hx))
  rw[decide_eq_true rfl] at s1
  have d1:decide ((i:Int)<((l.map fun b=>([bsD b]:List D)).length:Nat))=true:=decide_eq_true (by rw[hm];omega)
  iterate 6
   repeat' first|exact T0|(first|refine⟨i,_,rfl,hgx,?_⟩|refine Yd fun _=>?_|refine Ye fun _=>?_|refine Yg ?_|refine Yk (s1.pu rfl rfl) ?_);conv=>whnf|(refine Ya ?_ ?_<;>intro _<;>conv=>whnf)
   all_goals try (refine Or.inl ?_;conv=>whnf)
  all_goals try exact (bnl d1 ‹_›).elim
  refine⟨i+1,hlt,show l.length-(i+1)<l.length-i by omega,?_⟩
  all_goals refine⟨[],?_⟩
  repeat any_goals first|exact T0|exact rfl|exact Yr|refine Ya ?_ ?_
  all_goals conv=>whnf
  exact wk1 (by omega)
 ·have d1:decide ((i:Int)<((l.map fun b=>([bsD b]:List D)).length:Nat))=false:=decide_eq_false (by rw[hm];omega)
  iterate 6
   repeat' first|exact T0|(first|refine Yd fun _=>?_|refine Ye fun _=>?_|refine Yg ?_);conv=>whnf|(refine Ya ?_ ?_<;>intro _<;>conv=>whnf)
   all_goals try (refine Or.inl ?_;conv=>whnf)
  all_goals try exact (bnl ‹_› d1).elim
  all_goals refine⟨[],?_⟩
  repeat any_goals first|exact T0|exact rfl|exact Yr|refine Ya ?_ ?_
  all_goals conv=>whnf
theorem sentA_small {a:Ag} (h:AgInv a):(sentA a).length≤1000000∧∀ b∈sentA a,b.length≤1000000:=by
 have hp:=h.pl
 have hs:∀ {f:Fr},(encodeT f).length≤65536→(encodeT f).length≤1000000:=fun h=>Nat.le_trans h (by decide)
 by_cases he:a.epoch=0
 ·rw[show sentA a=[encodeT (helloF a)] from if_pos he]
  exact⟨by simp,fun b hb=>by rw[List.mem_singleton.1 hb];exact hs (small_len (k:=1) rfl (by decide) rfl)⟩
 ·rw[sent_run a he]
  have hb:(batT a).length≤1∧∀ b∈batT a,b.length≤1000000:=by
   by_cases hk:a.kept=[]
   ·rw[bat_no hk];exact⟨by simp,fun b hb=>by cases hb⟩
   ·rw[bat_some hk]
    exact⟨by simp,fun b hb=>by rw[List.mem_singleton.1 hb];exact hs (mostB_small a _ (batch_most hk).1)⟩
  refine⟨by simp only[List.length_append,List.length_map,List.length_cons,List.length_nil];omega,fun b hbm=>?_⟩
  rcases List.mem_append.1 hbm with q|q
  ·obtain⟨p,_,rfl⟩:=List.mem_map.1 q
   exact hs (small_len (k:=4) rfl (by decide) rfl)
  ·rcases List.mem_append.1 q with q|q
   ·exact hb.2 b q
   ·rw[List.mem_singleton.1 q]
    exact hs (small_len (k:=7) rfl (by decide) rfl)
theorem eqSelf (z:Int):(z == z)=true:=by simp
section
variable (a:Ag) (hi:AgInv a) (c:Cl) (hc:clOk c)
include hi hc
set_option maxHeartbeats 4000000 in
theorem both_0 (h:c.what=0):Sat Tryz.prog 12 [.ptr 0 0,.ptr 3 0,.d (.agg (clR c))] (twH a) (bA true) (twH2 (startA a c.boot).1):=by
 have s1:=start_sat a c.boot
 have s2:=rgStart_sat a c.boot
 obtain⟨what,boot,read,val,sr,bs⟩:=c
 simp only at h s1 s2
 subst h
 refine Vq Tryz.func12 rfl rfl ?_
 conv=>whnf
 iterate 5
  repeat' first|exact T0|(first|refine Yd fun _=>?_|refine Ye fun _=>?_|refine Yg ?_|refine Yk (s1.at3 0 1 2 rfl rfl rfl rfl rfl rfl) ?_|refine Yk (s2.at3 3 4 5 rfl rfl rfl rfl rfl rfl) ?_);conv=>whnf|(refine Ya ?_ ?_<;>intro _<;>conv=>whnf)
  all_goals try (refine Or.inl ?_;conv=>whnf)
 all_goals refine⟨[(6,7),(7,8),(8,9),(9,10)],?_⟩
 repeat any_goals first|exact T0|exact rfl|exact Yr|refine Ya ?_ ?_
 all_goals conv=>whnf
 exact congrArg (fun b=>bA b) (eqSelf _)
set_option maxHeartbeats 8000000 in
theorem both_1 (h:c.what=1):Sat Tryz.prog 12 [.ptr 0 0,.ptr 3 0,.d (.agg (clR c))] (twH a) (bA true) (twH2 (measureA a c.read c.val c.sr).1):=by
 have hq:=hi.first
 have hq2:firstA a=a.seq-(a.kept.length:Int):=rfl
 have hln:=hi.len
 have hms:=hi.most
 have s1:=measureO_sat a c.read c.val c.sr (by omega) (by omega)
 have s2:=rgMeasure_sat a hi c.read c.val c.sr
 have s3:=ofS_sat c.sr (by have:=hc.2.2;omega)
 obtain⟨what,boot,read,val,⟨nm,labs⟩,bs⟩:=c
 have hlb:labs.length≤100:=hc.2.2
 simp only at h s1 s2 s3
 subst h
 show Sat _ _ _ _ _ (twH2 (measureA a read val (nm,labs)).1)
 generalize measureA a read val (nm,labs)=M at *
 obtain⟨b,m1,m2⟩:=M
 have e1:=eqSelf m1
 have e2:=eqSelf m2
 refine Vq Tryz.func12 rfl rfl ?_
 conv=>whnf
 iterate 6
  repeat' first|exact T0|(first|refine Yd fun _=>?_|refine Ye fun _=>?_|refine Yg ?_|refine Yk (s1.at4' 0 1 2 8 rfl rfl rfl rfl rfl rfl rfl) ?_|refine Yk (s2.at3 3 4 5 rfl rfl rfl rfl rfl rfl) ?_|refine Yk (s3.pu rfl rfl) ?_|refine Yk (apd 2 32 (by kernel_rfl) rfl (by simp;omega)) ?_);conv=>whnf|(refine Ya ?_ ?_<;>intro _<;>conv=>whnf)
  all_goals try (refine Or.inl ?_;conv=>whnf)
 refine⟨Nat × List Lab,fun z=>z.1≤z.2.length∧z.2.length=labs.length,fun z=>([(12,iA z.1),(11,iA m2),(10,iA m1),(9,iA m2),(8,iA m1),(7,.ptr 9 0)],[.cells (agC b (.own 10) (.own 11)),.dead,.dead,.cells (rgC b (.own 12) (.own 13)),.dead,.dead,.dead,.dead,.sl 2 (z.2.map labR),.cells [.d (tD nm),.own 8],.sl 4 (b.kept.map evR),.sl 3 (b.probes.map prR),.sl 4 (b.kept.map evR),.sl 3 (b.probes.map prR)]),fun z=>labs.length-z.1,⟨(0,labs),⟨Nat.zero_le _,rfl⟩,?_⟩,?_⟩
 ·all_goals refine⟨[],?_⟩
  repeat any_goals first|exact T0|exact rfl|exact Yr|refine Ya ?_ ?_
  all_goals conv=>whnf
 rintro⟨i,l⟩ ⟨hi1,hi2⟩
 have hi1:i≤l.length:=hi1
 have hi2:l.length=labs.length:=hi2
 have hm:(l.map labR).length=l.length:=List.length_map _
 conv=>whnf
 by_cases hlt:i<l.length
 ·have hx:l[i]?=some l[i]:=List.getElem?_eq_getElem hlt
  generalize l[i]=x at hx
  have hgx:=map_get (f:=labR) hx
  have d1:decide ((i:Int)<((l.map labR).length:Nat))=true:=decide_eq_true (by rw[hm];omega)
  iterate 6
   repeat' first|exact T0|(first|refine⟨i,rfl,(by rw[hm];exact hlt),?_⟩|refine Ya (by decide) ?_|refine⟨labR x,labR (x.1,[33]),hgx,rfl,?_⟩|refine Yd fun _=>?_|refine Ye fun _=>?_|refine Yg ?_);conv=>whnf|(refine Ya ?_ ?_<;>intro _<;>conv=>whnf)
   all_goals try (refine Or.inl ?_;conv=>whnf)
  all_goals try exact (bnl d1 ‹_›).elim
  refine⟨(i+1,l.set i (x.1,[33])),⟨by show i+1≤_;rw[List.length_set];exact hlt,by show (l.set i _).length=_;rw[List.length_set];exact hi2⟩,show labs.length-(i+1)<labs.length-i by omega,?_⟩
  all_goals refine⟨[],?_⟩
  repeat any_goals first|exact T0|exact rfl|exact Yr|refine Ya ?_ ?_
  all_goals conv=>whnf
  ·exact wk1 (by omega)
  ·exact congrArg (AObj.sl 2) List.map_set.symm
 ·have d1:decide ((i:Int)<((l.map labR).length:Nat))=false:=decide_eq_false (by rw[hm];omega)
  iterate 6
   repeat' first|exact T0|(first|refine Yd fun _=>?_|refine Ye fun _=>?_|refine Yg ?_);conv=>whnf|(refine Ya ?_ ?_<;>intro _<;>conv=>whnf)
   all_goals try (refine Or.inl ?_;conv=>whnf)
  all_goals try exact (bnl ‹_› d1).elim
  all_goals try exact (bnl e1 ‹_›).elim
  all_goals try exact (bnl ‹_› e1).elim
  all_goals refine⟨[(6,10),(7,11),(8,12),(9,13)],?_⟩
  repeat any_goals first|exact T0|exact rfl|exact Yr|refine Ya ?_ ?_
  all_goals conv=>whnf
  all_goals exact congrArg (fun b=>bA b) e2
set_option maxHeartbeats 4000000 in
theorem both_2 (h:c.what=2):Sat Tryz.prog 12 [.ptr 0 0,.ptr 3 0,.d (.agg (clR c))] (twH a) (bA true) (twH2 (takeA a c.read c.bs).1):=by
 have hln:=hi.len
 have hms:=hi.most
 have s1:=take_satA a c.read c.bs hi.first hi.seq (by omega)
 have s2:=rgTake_sat a hi c.read c.bs
 have s3:=copyBytesD_sat c.bs (by have:=hc.2.1;omega)
 obtain⟨what,boot,read,val,sr,bs⟩:=c
 simp only at h s1 s2 s3
 subst h
 refine Vq Tryz.func12 rfl rfl ?_
 conv=>whnf
 iterate 6
  repeat' first|exact T0|(first|refine Yd fun _=>?_|refine Ye fun _=>?_|refine Yg ?_|refine Yk (s1.at3 0 1 2 rfl rfl rfl rfl rfl rfl) ?_|refine Yk (s2.at3 3 4 5 rfl rfl rfl rfl rfl rfl) ?_|refine Yk (s3.pu rfl rfl) ?_);conv=>whnf|(refine Ya ?_ ?_<;>intro _<;>conv=>whnf)
  all_goals try (refine Or.inl ?_;conv=>whnf)
 all_goals refine⟨[(6,7),(7,8),(8,9),(9,10)],?_⟩
 repeat any_goals first|exact T0|exact rfl|exact Yr|refine Ya ?_ ?_
 all_goals conv=>whnf
 exact congrArg (fun b=>bA b) (eqSelf _)
set_option maxHeartbeats 8000000 in
theorem both_3 (h:c.what=3):Sat Tryz.prog 12 [.ptr 0 0,.ptr 3 0,.d (.agg (clR c))] (twH a) (bA true) (twH2 (stepA a c.read).1):=by
 by_cases he:(observeA a c.read).2=0
 ·have s1:=step_yes a c.read hi he
  have s2:=rgStep_yes a c.read hi he
  obtain⟨q1,q2⟩:=sentA_small (observe_inv hi c.read)
  have s3:=sameRows_sat _ q1 q2
  obtain⟨what,boot,read,val,sr,bs⟩:=c
  simp only at h s1 s2 s3
  subst h
  generalize sentA (observeA a read).1=S at *
  refine Vq Tryz.func12 rfl rfl ?_
  conv=>whnf
  iterate 8
   repeat' first|exact T0|(first|refine Yd fun _=>?_|refine Ye fun _=>?_|refine Yg ?_|refine Yk (s1.at3 0 1 2 rfl rfl rfl rfl rfl rfl) ?_|refine Yk (s2.at3 3 4 5 rfl rfl rfl rfl rfl rfl) ?_|refine Yk (lend_oo s3 rfl rfl rfl) ?_);conv=>whnf|(refine Ya ?_ ?_<;>intro _<;>conv=>whnf)
   all_goals try (refine Or.inl ?_;conv=>whnf)
  all_goals refine⟨[(6,7),(7,9),(8,10),(9,12)],?_⟩
  repeat any_goals first|exact T0|exact rfl|exact Yr|refine Ya ?_ ?_
  all_goals conv=>whnf
 ·have s1:=step_no a c.read he
  have s2:=rgStep_no a c.read he
  have s3:=sameRows_nil
  obtain⟨what,boot,read,val,sr,bs⟩:=c
  simp only at h s1 s2 he
  subst h
  have e:=eqSelf (observeA a read).2
  refine Vq Tryz.func12 rfl rfl ?_
  conv=>whnf
  iterate 8
   repeat' first|exact T0|(first|refine Yd fun _=>?_|refine Ye fun _=>?_|refine Yg ?_|refine Yk (s1.at3 0 1 2 rfl rfl rfl rfl rfl rfl) ?_|refine Yk (s2.at3 3 4 5 rfl rfl rfl rfl rfl rfl) ?_|refine Yk (s3.pu rfl rfl) ?_);conv=>whnf|(refine Ya ?_ ?_<;>intro _<;>conv=>whnf)
   all_goals try (refine Or.inl ?_;conv=>whnf)
  all_goals try exact (bnl e ‹_›).elim
  all_goals refine⟨[(6,7),(7,8),(8,9),(9,10)],?_⟩
  repeat any_goals first|exact T0|exact rfl|exact Yr|refine Ya ?_ ?_
  all_goals conv=>whnf
set_option maxHeartbeats 4000000 in
theorem both_x (h0:c.what≠0) (h1:c.what≠1) (h2:c.what≠2) (h3:c.what≠3):Sat Tryz.prog 12 [.ptr 0 0,.ptr 3 0,.d (.agg (clR c))] (twH a) (bA true) (twH2 a):=by
 obtain⟨what,boot,read,val,sr,bs⟩:=c
 have d0:=what_no h0
 have d1:=what_no h1
 have d2:=what_no h2
 have d3:=what_no h3
 simp only at d0 d1 d2 d3
 refine Vq Tryz.func12 rfl rfl ?_
 conv=>whnf
 iterate 8
  repeat' first|exact T0|(first|refine Yd fun _=>?_|refine Ye fun _=>?_|refine Yg ?_);conv=>whnf|(refine Ya ?_ ?_<;>intro _<;>conv=>whnf)
  all_goals try (refine Or.inl ?_;conv=>whnf)
 all_goals try exact (bnl ‹_› d0).elim
 all_goals try exact (bnl ‹_› d1).elim
 all_goals try exact (bnl ‹_› d2).elim
 all_goals try exact (bnl ‹_› d3).elim
 all_goals refine⟨[(6,6),(1,6),(2,7),(4,8),(5,9)],?_⟩
 repeat any_goals first|exact T0|exact rfl|exact Yr|refine Ya ?_ ?_
 all_goals conv=>whnf
theorem both_sat:Sat Tryz.prog 12 [.ptr 0 0,.ptr 3 0,.d (.agg (clR c))] (twH a) (bA true) (twH2 (doA a c)):=by
 unfold doA
 split
 ·exact both_0 a hi c hc ‹_›
 split
 ·exact both_1 a hi c hc ‹_›
 split
 ·exact both_2 a hi c hc ‹_›
 split
 ·exact both_3 a hi c hc ‹_›
 ·exact both_x a hi c hc ‹_› ‹_› ‹_› ‹_›
end
end Go.Proofs.YtfbfpnfgabamfaaGreat
namespace Go.Proofs.YtfbfpnfgabamfaaGreat
set_option linter.unusedSimpArgs false
open Go.RowKit
set_option maxRecDepth 100000
set_option linter.unusedVariables false
set_option maxHeartbeats 16000000 in
theorem calls14_sat (id most:Int) (l:List Cl) (hid:in64 id) (hm:in64 most) (hl:∀ c∈l,clIn c):Sat Tryz.prog 3 [iA id,iA most,.d (.sl 7 (l.map clR))] [] (bA true) []:=by
 have a1:=alive14
 have g1:=great14_sat l
 cases hg:greatC l with
 |true=>
  rw[hg] at g1
  refine Vq Tryz.func3 rfl rfl ?_
  conv=>whnf
  iterate 4
   repeat' first|exact T0|(first|refine Yd fun _=>?_|refine Ye fun _=>?_|refine Yg ?_|refine Yk (a1.pu rfl rfl) ?_|refine Yk (g1.pu rfl rfl) ?_);conv=>whnf|(refine Ya ?_ ?_<;>intro _<;>conv=>whnf)
   all_goals try (refine Or.inl ?_;conv=>whnf)
  all_goals refine⟨[],?_⟩
  repeat any_goals first|exact T0|exact rfl|exact Yr|refine Ya ?_ ?_
  all_goals conv=>whnf
 |false=>
 rw[hg] at g1
 obtain⟨h60,hok⟩:=greatC_no hg hl
 by_cases hno:id<0∨64≤id∨most<1∨1024<most
 ·have n1:=agNew_no id most hno
  have n2:=rgNew_no id most hno
  refine Vq Tryz.func3 rfl rfl ?_
  conv=>whnf
  iterate 6
   repeat' first|exact T0|(first|refine Yd fun _=>?_|refine Ye fun _=>?_|refine Yg ?_|refine Yk (a1.pu rfl rfl) ?_|refine Yk (g1.pu rfl rfl) ?_|refine Yk (n1.pu rfl rfl) ?_|refine Yk (n2.pu rfl rfl) ?_|refine Yk (eqN (by kernel_rfl)) ?_|refine Yk (neB (by kernel_rfl)) ?_);conv=>whnf|(refine Ya ?_ ?_<;>intro _<;>conv=>whnf)
   all_goals try (refine Or.inl ?_;conv=>whnf)
  all_goals refine⟨[],?_⟩
  repeat any_goals first|exact T0|exact rfl|exact Yr|refine Ya ?_ ?_
  all_goals conv=>whnf
 have n1:=agNew_ok id most hno
 have n2:=rgNew_ok id most hno
 have hml:(l.map clR).length=l.length:=List.length_map _
 have hi0:AgInv (newA id most 0):=newA_inv ⟨by omega,by omega⟩ ⟨by omega,by omega⟩ ⟨by decide,by decide⟩
 refine Vq Tryz.func3 rfl rfl ?_
 conv=>whnf
 iterate 6
  repeat' first|exact T0|(first|refine Yd fun _=>?_|refine Ye fun _=>?_|refine Yg ?_|refine Yk (a1.pu rfl rfl) ?_|refine Yk (g1.pu rfl rfl) ?_|refine Yk (n1.nw rfl) ?_|refine Yk (n2.nw rfl) ?_|refine Yk (eqP (by kernel_rfl)) ?_|refine Yk (neB (by kernel_rfl)) ?_);conv=>whnf|(refine Ya ?_ ?_<;>intro _<;>conv=>whnf)
  all_goals try (refine Or.inl ?_;conv=>whnf)
 refine⟨Nat × Ag,fun z=>z.1≤l.length∧z.2=playA (newA id most 0) (l.take z.1),fun z=>([(11,iA z.1),(9,.ptr 3 0),(7,.ptr 0 0),(2,.d (.sl 7 (l.map clR)))],twH z.2),fun z=>l.length-z.1,⟨(0,newA id most 0),⟨Nat.zero_le _,rfl⟩,?_⟩,?_⟩
 ·all_goals refine⟨[],?_⟩
  repeat any_goals first|exact T0|exact rfl|exact Yr|refine Ya ?_ ?_
  all_goals conv=>whnf
 rintro⟨i,A⟩ ⟨hi,hA⟩
 have hi:i≤l.length:=hi
 have hA:A=playA (newA id most 0) (l.take i):=hA
 have hii:AgInv A:=by rw[hA];exact play_take hi0 hok i
 by_cases hlt:i<l.length
 ·have hx:l[i]?=some l[i]:=List.getElem?_eq_getElem hlt
  generalize l[i]=x at hx
  have hgx:=map_get (f:=clR) hx
  have hox:=hok x (List.mem_of_getElem? hx)
  have hnx:=playA_next (a:=newA id most 0) hx
  rw[←hA] at hnx
  have d1:decide ((i:Int)<((l.map clR).length:Nat))=true:=decide_eq_true (by rw[hml];omega)
  have q1:=both_sat _ hii x hox
  have q2:=agree14_sat _ (do_inv hii x hox.1)
  conv=>whnf
  iterate 7
   repeat' first|exact T0|(first|refine⟨i,_,rfl,hgx,?_⟩|refine Yd fun _=>?_|refine Ye fun _=>?_|refine Yg ?_|refine Yk (q1.at6 0 1 2 3 4 5 rfl rfl rfl rfl rfl rfl rfl rfl rfl) ?_|refine Yk (q2.at6 0 6 7 3 8 9 rfl rfl rfl rfl rfl rfl rfl rfl rfl) ?_);conv=>whnf|(refine Ya ?_ ?_<;>intro _<;>conv=>whnf)
   all_goals try (refine Or.inl ?_;conv=>whnf)
  all_goals try exact (bnl d1 ‹_›).elim
  refine⟨(i+1,doA A x),⟨hlt,hnx.symm⟩,show l.length-(i+1)<l.length-i by omega,?_⟩
  all_goals refine⟨[(1,6),(2,7),(4,8),(5,9)],?_⟩
  repeat any_goals first|exact T0|exact rfl|exact Yr|refine Ya ?_ ?_
  all_goals conv=>whnf
  exact wk1 (by omega)
 ·have d1:decide ((i:Int)<((l.map clR).length:Nat))=false:=decide_eq_false (by rw[hml];omega)
  have hln:=hii.len
  have hms:=hii.most
  have hpl:=hii.pl
  have c1:=agClone_sat A (by omega) (fun x hx=>by have:=lab_len hii hx;omega) (by omega)
  have q2:=agree14_sat A hii
  conv=>whnf
  iterate 7
   repeat' first|exact T0|(first|refine Yd fun _=>?_|refine Ye fun _=>?_|refine Yg ?_|refine Yk (c1.at3 0 1 2 rfl rfl rfl rfl rfl rfl) ?_|refine Yk (neP (by kernel_rfl)) ?_|refine Yk (q2.at6 6 7 8 3 4 5 rfl rfl rfl rfl rfl rfl rfl rfl rfl) ?_);conv=>whnf|(refine Ya ?_ ?_<;>intro _<;>conv=>whnf)
   all_goals try (refine Or.inl ?_;conv=>whnf)
  all_goals try exact (bnl ‹_› d1).elim
  all_goals refine⟨[],?_⟩
  repeat any_goals first|exact T0|exact rfl|exact Yr|refine Ya ?_ ?_
  all_goals conv=>whnf
end Go.Proofs.YtfbfpnfgabamfaaGreat
namespace Go.Proofs.YtfbfpnfgabamfaaGreat
set_option linter.unusedSimpArgs false
set_option linter.unusedVariables false
open Go.RowKit
theorem own:ownKnob Tryz.prog.godebug=none:=by kernel_rfl
theorem laidOut:laidOutB Tryz.prog=true:=by kernel_rfl
end Go.Proofs.YtfbfpnfgabamfaaGreat
