/- Parts RnK, CrcT, RnE, RnM, RnQ, AgP, AgJ, AgK, AgL of the proof, put together. -/
import Derived.Test.YtfbfpnfgabamfaaGreatM14
import Derived.BigQuiet
import Derived.Deep.QuietTactic
namespace Go.Proofs.YtfbfpnfgabamfaaGreat
set_option linter.unusedSimpArgs false
open Go.RowKit
set_option maxRecDepth 100000
set_option linter.unusedVariables false
theorem has_some {k:Nat} (h1:1≤k) (h8:k≤8):hasT k≠[]∧(hasT k).length≤1000:=by
 have hc:k=1∨k=2∨k=3∨k=4∨k=5∨k=6∨k=7∨k=8:=by omega
 rcases hc with rfl|rfl|rfl|rfl|rfl|rfl|rfl|rfl<;>decide
theorem ok_false {f:Fr} {k j:Nat} (ho:okN f k j=false) (h1:(getN f j != 0)=false∨(hasT k).contains (ltrN j)=true):rngB (getN f j)=false:=by
 unfold okN at ho
 rcases h1 with h1|h1
 ·rw[bne_eq_false_iff_eq] at h1
  rw[h1] at ho ⊢
  simpa using ho
 ·rw[h1,Bool.true_or,Bool.true_and] at ho
  exact ho
theorem ok_true {f:Fr} {k j:Nat} (ho:okN f k j=true):rngB (getN f j)=true∧((hasT k).contains (ltrN j)=true∨(getN f j != 0)=false):=by
 unfold okN at ho
 rw[Bool.and_eq_true,Bool.or_eq_true,decide_eq_true_eq] at ho
 exact⟨ho.2,ho.1.imp id fun h=>by rw[h];rfl⟩
set_option maxHeartbeats 16000000 in
theorem rRightK (f:Fr) (k:Nat) (h1:1≤k) (h8:k≤8) (hk:f.k=k) (hf:FrOk f):Sat Tryz.prog 65 [.d (frD f)] [] (bA (refB f k)) []:=by
 obtain⟨kk,a,e,b,c,g,s,n,t,w,ev,⟨nm,lb⟩,d⟩:=f
 have hk:kk=k:=hk
 subst hk
 have hlev:ev.length≤1000000:=hf.evn
 have hm:(ev.map evR).length=ev.length:=List.length_map _
 have hml:(lb.map labR).length=lb.length:=List.length_map _
 have hmd:(d.map bR).length=d.length:=List.length_map _
 have h0:=has_sat k h1 h8
 obtain⟨hsm,hsl⟩:=has_some h1 h8
 have dq:decide ((⟨(hasT k).toArray⟩:ByteArray)=⟨(([]:Bt)).toArray⟩)=false:=decide_eq_false fun h=>hsm (t_inj.1 h)
 refine Vq Tryz.func65 rfl rfl ?_
 conv=>whnf
 iterate 5
  repeat' first|exact T0|(first|refine Yd fun _=>?_|refine Ye fun _=>?_|refine Yg ?_|refine Yk (h0.pu rfl rfl) ?_|refine Yk (eqT) ?_);conv=>whnf|(refine Ya ?_ ?_<;>intro _<;>conv=>whnf)
  all_goals try (refine Or.inl ?_;conv=>whnf)
 all_goals try exact (bnl ‹_› dq).elim
 refine⟨Nat,fun i=>i≤9∧∀ j,1≤j→j≤i→okN ⟨k,a,e,b,c,g,s,n,t,w,ev,(nm,lb),d⟩ k j=true,fun i=>([(4,iA i),(3,.d (tD (hasT k))),(1,.ptr 0 0)],[.cells (frA ⟨k,a,e,b,c,g,s,n,t,w,ev,(nm,lb),d⟩)]),fun i=>9-i,⟨0,⟨Nat.zero_le _,fun j h1 h2=>by omega⟩,?_⟩,?_⟩
 ·all_goals refine⟨[],?_⟩
  repeat any_goals first|exact T0|exact rfl|exact Yr|refine Ya ?_ ?_
  all_goals conv=>whnf
 rintro i ⟨hi,hI⟩
 have hi:i≤9:=hi
 have hI:∀ j,1≤j→j≤i→okN ⟨k,a,e,b,c,g,s,n,t,w,ev,(nm,lb),d⟩ k j=true:=hI
 have hc:i=0∨i=1∨i=2∨i=3∨i=4∨i=5∨i=6∨i=7∨i=8∨i=9:=by omega
 rcases hc with rfl|rfl|rfl|rfl|rfl|rfl|rfl|rfl|rfl|rfl
 ·have n1:=number_sat ⟨k,a,e,b,c,g,s,n,t,w,ev,(nm,lb),d⟩ 1 (by decide) (by decide)
  have i1:=in_sat (hasT k) (ltrN 1) hsl
  have t1:=time_sat a
  have of:=ok_false (f:=⟨k,a,e,b,c,g,s,n,t,w,ev,(nm,lb),d⟩) (k:=k) (j:=1)
  have ot:=ok_true (f:=⟨k,a,e,b,c,g,s,n,t,w,ev,(nm,lb),d⟩) (k:=k) (j:=1)
  have ho:=ref_no (f:=⟨k,a,e,b,c,g,s,n,t,w,ev,(nm,lb),d⟩) (k:=k) (j:=1) (by decide) (by decide)
  have hs:=ok_step hI
  generalize okN ⟨k,a,e,b,c,g,s,n,t,w,ev,(nm,lb),d⟩ k 1=q at of ot ho hs
  generalize (hasT k).contains (ltrN 1)=p at i1 of ot
  have of:q=false→(a != 0)=false∨p=true→rngB a=false:=of
  have ot:q=true→rngB a=true∧(p=true∨(a != 0)=false):=ot
  cases q with
  |true=>
   obtain⟨o1,o2⟩:=ot rfl
   rw[o1] at t1
   conv=>whnf
   cases p with
   |true=>
    iterate 7
     repeat' first|exact T0|(first|refine⟨0,(by decide),rfl,?_⟩|refine Yd fun _=>?_|refine Ye fun _=>?_|refine Yg ?_|refine Yk (n1.at1 0 rfl rfl rfl) ?_|refine Yk (i1.pu rfl rfl) ?_|refine Yk (t1.pu rfl rfl) ?_);conv=>whnf|(refine Ya ?_ ?_<;>intro _<;>conv=>whnf)
     all_goals try (refine Or.inl ?_;conv=>whnf)
    refine⟨1,⟨by decide,hs rfl⟩,by decide,?_⟩
    all_goals refine⟨[],?_⟩
    repeat any_goals first|exact T0|exact rfl|exact Yr|refine Ya ?_ ?_
    all_goals conv=>whnf
   |false=>
    have d2:(a != 0)=false:=o2.elim (fun h=>by cases h) id
    iterate 7
     repeat' first|exact T0|(first|refine⟨0,(by decide),rfl,?_⟩|refine Yd fun _=>?_|refine Ye fun _=>?_|refine Yg ?_|refine Yk (n1.at1 0 rfl rfl rfl) ?_|refine Yk (i1.pu rfl rfl) ?_|refine Yk (t1.pu rfl rfl) ?_);conv=>whnf|(refine Ya ?_ ?_<;>intro _<;>conv=>whnf)
     all_goals try (refine Or.inl ?_;conv=>whnf)
    all_goals try exact (bnl ‹_› d2).elim
    refine⟨1,⟨by decide,hs rfl⟩,by decide,?_⟩
    all_goals refine⟨[],?_⟩
    repeat any_goals first|exact T0|exact rfl|exact Yr|refine Ya ?_ ?_
    all_goals conv=>whnf
  |false=>
   rw[ho rfl]
   conv=>whnf
   cases p with
   |true=>
    rw[of rfl (.inr rfl)] at t1
    iterate 7
     repeat' first|exact T0|(first|refine⟨0,(by decide),rfl,?_⟩|refine Yd fun _=>?_|refine Ye fun _=>?_|refine Yg ?_|refine Yk (n1.at1 0 rfl rfl rfl) ?_|refine Yk (i1.pu rfl rfl) ?_|refine Yk (t1.pu rfl rfl) ?_);conv=>whnf|(refine Ya ?_ ?_<;>intro _<;>conv=>whnf)
     all_goals try (refine Or.inl ?_;conv=>whnf)
    all_goals refine⟨[],?_⟩
    repeat any_goals first|exact T0|exact rfl|exact Yr|refine Ya ?_ ?_
    all_goals conv=>whnf
   |false=>
    cases hz:(a != 0) with
    |true=>
     iterate 7
      repeat' first|exact T0|(first|refine⟨0,(by decide),rfl,?_⟩|refine Yd fun _=>?_|refine Ye fun _=>?_|refine Yg ?_|refine Yk (n1.at1 0 rfl rfl rfl) ?_|refine Yk (i1.pu rfl rfl) ?_|refine Yk (t1.pu rfl rfl) ?_);conv=>whnf|(refine Ya ?_ ?_<;>intro _<;>conv=>whnf)
      all_goals try (refine Or.inl ?_;conv=>whnf)
     all_goals try exact (bnl hz ‹_›).elim
     all_goals refine⟨[],?_⟩
     repeat any_goals first|exact T0|exact rfl|exact Yr|refine Ya ?_ ?_
     all_goals conv=>whnf
    |false=>
     rw[of rfl (.inl hz)] at t1
     iterate 7
      repeat' first|exact T0|(first|refine⟨0,(by decide),rfl,?_⟩|refine Yd fun _=>?_|refine Ye fun _=>?_|refine Yg ?_|refine Yk (n1.at1 0 rfl rfl rfl) ?_|refine Yk (i1.pu rfl rfl) ?_|refine Yk (t1.pu rfl rfl) ?_);conv=>whnf|(refine Ya ?_ ?_<;>intro _<;>conv=>whnf)
      all_goals try (refine Or.inl ?_;conv=>whnf)
     all_goals try exact (bnl ‹_› hz).elim
     all_goals refine⟨[],?_⟩
     repeat any_goals first|exact T0|exact rfl|exact Yr|refine Ya ?_ ?_
     all_goals conv=>whnf
 ·have n1:=number_sat ⟨k,a,e,b,c,g,s,n,t,w,ev,(nm,lb),d⟩ 2 (by decide) (by decide)
  have i1:=in_sat (hasT k) (ltrN 2) hsl
  have t1:=time_sat e
  have of:=ok_false (f:=⟨k,a,e,b,c,g,s,n,t,w,ev,(nm,lb),d⟩) (k:=k) (j:=2)
  have ot:=ok_true (f:=⟨k,a,e,b,c,g,s,n,t,w,ev,(nm,lb),d⟩) (k:=k) (j:=2)
  have ho:=ref_no (f:=⟨k,a,e,b,c,g,s,n,t,w,ev,(nm,lb),d⟩) (k:=k) (j:=2) (by decide) (by decide)
  have hs:=ok_step hI
  generalize okN ⟨k,a,e,b,c,g,s,n,t,w,ev,(nm,lb),d⟩ k 2=q at of ot ho hs
  generalize (hasT k).contains (ltrN 2)=p at i1 of ot
  have of:q=false→(e != 0)=false∨p=true→rngB e=false:=of
  have ot:q=true→rngB e=true∧(p=true∨(e != 0)=false):=ot
  cases q with
  |true=>
   obtain⟨o1,o2⟩:=ot rfl
   rw[o1] at t1
   conv=>whnf
   cases p with
   |true=>
    iterate 7
     repeat' first|exact T0|(first|refine⟨1,(by decide),rfl,?_⟩|refine Yd fun _=>?_|refine Ye fun _=>?_|refine Yg ?_|refine Yk (n1.at1 0 rfl rfl rfl) ?_|refine Yk (i1.pu rfl rfl) ?_|refine Yk (t1.pu rfl rfl) ?_);conv=>whnf|(refine Ya ?_ ?_<;>intro _<;>conv=>whnf)
     all_goals try (refine Or.inl ?_;conv=>whnf)
    refine⟨2,⟨by decide,hs rfl⟩,by decide,?_⟩
    all_goals refine⟨[],?_⟩
    repeat any_goals first|exact T0|exact rfl|exact Yr|refine Ya ?_ ?_
    all_goals conv=>whnf
   |false=>
    have d2:(e != 0)=false:=o2.elim (fun h=>by cases h) id
    iterate 7
     repeat' first|exact T0|(first|refine⟨1,(by decide),rfl,?_⟩|refine Yd fun _=>?_|refine Ye fun _=>?_|refine Yg ?_|refine Yk (n1.at1 0 rfl rfl rfl) ?_|refine Yk (i1.pu rfl rfl) ?_|refine Yk (t1.pu rfl rfl) ?_);conv=>whnf|(refine Ya ?_ ?_<;>intro _<;>conv=>whnf)
     all_goals try (refine Or.inl ?_;conv=>whnf)
    all_goals try exact (bnl ‹_› d2).elim
    refine⟨2,⟨by decide,hs rfl⟩,by decide,?_⟩
    all_goals refine⟨[],?_⟩
    repeat any_goals first|exact T0|exact rfl|exact Yr|refine Ya ?_ ?_
    all_goals conv=>whnf
  |false=>
   rw[ho rfl]
   conv=>whnf
   cases p with
   |true=>
    rw[of rfl (.inr rfl)] at t1
    iterate 7
     repeat' first|exact T0|(first|refine⟨1,(by decide),rfl,?_⟩|refine Yd fun _=>?_|refine Ye fun _=>?_|refine Yg ?_|refine Yk (n1.at1 0 rfl rfl rfl) ?_|refine Yk (i1.pu rfl rfl) ?_|refine Yk (t1.pu rfl rfl) ?_);conv=>whnf|(refine Ya ?_ ?_<;>intro _<;>conv=>whnf)
     all_goals try (refine Or.inl ?_;conv=>whnf)
    all_goals refine⟨[],?_⟩
    repeat any_goals first|exact T0|exact rfl|exact Yr|refine Ya ?_ ?_
    all_goals conv=>whnf
   |false=>
    cases hz:(e != 0) with
    |true=>
     iterate 7
      repeat' first|exact T0|(first|refine⟨1,(by decide),rfl,?_⟩|refine Yd fun _=>?_|refine Ye fun _=>?_|refine Yg ?_|refine Yk (n1.at1 0 rfl rfl rfl) ?_|refine Yk (i1.pu rfl rfl) ?_|refine Yk (t1.pu rfl rfl) ?_);conv=>whnf|(refine Ya ?_ ?_<;>intro _<;>conv=>whnf)
      all_goals try (refine Or.inl ?_;conv=>whnf)
     all_goals try exact (bnl hz ‹_›).elim
     all_goals refine⟨[],?_⟩
     repeat any_goals first|exact T0|exact rfl|exact Yr|refine Ya ?_ ?_
     all_goals conv=>whnf
    |false=>
     rw[of rfl (.inl hz)] at t1
     iterate 7
      repeat' first|exact T0|(first|refine⟨1,(by decide),rfl,?_⟩|refine Yd fun _=>?_|refine Ye fun _=>?_|refine Yg ?_|refine Yk (n1.at1 0 rfl rfl rfl) ?_|refine Yk (i1.pu rfl rfl) ?_|refine Yk (t1.pu rfl rfl) ?_);conv=>whnf|(refine Ya ?_ ?_<;>intro _<;>conv=>whnf)
      all_goals try (refine Or.inl ?_;conv=>whnf)
     all_goals try exact (bnl ‹_› hz).elim
     all_goals refine⟨[],?_⟩
     repeat any_goals first|exact T0|exact rfl|exact Yr|refine Ya ?_ ?_
     all_goals conv=>whnf
 ·have n1:=number_sat ⟨k,a,e,b,c,g,s,n,t,w,ev,(nm,lb),d⟩ 3 (by decide) (by decide)
  have i1:=in_sat (hasT k) (ltrN 3) hsl
  have t1:=time_sat b
  have of:=ok_false (f:=⟨k,a,e,b,c,g,s,n,t,w,ev,(nm,lb),d⟩) (k:=k) (j:=3)
  have ot:=ok_true (f:=⟨k,a,e,b,c,g,s,n,t,w,ev,(nm,lb),d⟩) (k:=k) (j:=3)
  have ho:=ref_no (f:=⟨k,a,e,b,c,g,s,n,t,w,ev,(nm,lb),d⟩) (k:=k) (j:=3) (by decide) (by decide)
  have hs:=ok_step hI
  generalize okN ⟨k,a,e,b,c,g,s,n,t,w,ev,(nm,lb),d⟩ k 3=q at of ot ho hs
  generalize (hasT k).contains (ltrN 3)=p at i1 of ot
  have of:q=false→(b != 0)=false∨p=true→rngB b=false:=of
  have ot:q=true→rngB b=true∧(p=true∨(b != 0)=false):=ot
  cases q with
  |true=>
   obtain⟨o1,o2⟩:=ot rfl
   rw[o1] at t1
   conv=>whnf
   cases p with
   |true=>
    iterate 7
     repeat' first|exact T0|(first|refine⟨2,(by decide),rfl,?_⟩|refine Yd fun _=>?_|refine Ye fun _=>?_|refine Yg ?_|refine Yk (n1.at1 0 rfl rfl rfl) ?_|refine Yk (i1.pu rfl rfl) ?_|refine Yk (t1.pu rfl rfl) ?_);conv=>whnf|(refine Ya ?_ ?_<;>intro _<;>conv=>whnf)
     all_goals try (refine Or.inl ?_;conv=>whnf)
    refine⟨3,⟨by decide,hs rfl⟩,by decide,?_⟩
    all_goals refine⟨[],?_⟩
    repeat any_goals first|exact T0|exact rfl|exact Yr|refine Ya ?_ ?_
    all_goals conv=>whnf
   |false=>
    have d2:(b != 0)=false:=o2.elim (fun h=>by cases h) id
    iterate 7
     repeat' first|exact T0|(first|refine⟨2,(by decide),rfl,?_⟩|refine Yd fun _=>?_|refine Ye fun _=>?_|refine Yg ?_|refine Yk (n1.at1 0 rfl rfl rfl) ?_|refine Yk (i1.pu rfl rfl) ?_|refine Yk (t1.pu rfl rfl) ?_);conv=>whnf|(refine Ya ?_ ?_<;>intro _<;>conv=>whnf)
     all_goals try (refine Or.inl ?_;conv=>whnf)
    all_goals try exact (bnl ‹_› d2).elim
    refine⟨3,⟨by decide,hs rfl⟩,by decide,?_⟩
    all_goals refine⟨[],?_⟩
    repeat any_goals first|exact T0|exact rfl|exact Yr|refine Ya ?_ ?_
    all_goals conv=>whnf
  |false=>
   rw[ho rfl]
   conv=>whnf
   cases p with
   |true=>
    rw[of rfl (.inr rfl)] at t1
    iterate 7
     repeat' first|exact T0|(first|refine⟨2,(by decide),rfl,?_⟩|refine Yd fun _=>?_|refine Ye fun _=>?_|refine Yg ?_|refine Yk (n1.at1 0 rfl rfl rfl) ?_|refine Yk (i1.pu rfl rfl) ?_|refine Yk (t1.pu rfl rfl) ?_);conv=>whnf|(refine Ya ?_ ?_<;>intro _<;>conv=>whnf)
     all_goals try (refine Or.inl ?_;conv=>whnf)
    all_goals refine⟨[],?_⟩
    repeat any_goals first|exact T0|exact rfl|exact Yr|refine Ya ?_ ?_
    all_goals conv=>whnf
   |false=>
    cases hz:(b != 0) with
    |true=>
     iterate 7
      repeat' first|exact T0|(first|refine⟨2,(by decide),rfl,?_⟩|refine Yd fun _=>?_|refine Ye fun _=>?_|refine Yg ?_|refine Yk (n1.at1 0 rfl rfl rfl) ?_|refine Yk (i1.pu rfl rfl) ?_|refine Yk (t1.pu rfl rfl) ?_);conv=>whnf|(refine Ya ?_ ?_<;>intro _<;>conv=>whnf)
      all_goals try (refine Or.inl ?_;conv=>whnf)
     all_goals try exact (bnl hz ‹_›).elim
     all_goals refine⟨[],?_⟩
     repeat any_goals first|exact T0|exact rfl|exact Yr|refine Ya ?_ ?_
     all_goals conv=>whnf
    |false=>
     rw[of rfl (.inl hz)] at t1
     iterate 7
      repeat' first|exact T0|(first|refine⟨2,(by decide),rfl,?_⟩|refine Yd fun _=>?_|refine Ye fun _=>?_|refine Yg ?_|refine Yk (n1.at1 0 rfl rfl rfl) ?_|refine Yk (i1.pu rfl rfl) ?_|refine Yk (t1.pu rfl rfl) ?_);conv=>whnf|(refine Ya ?_ ?_<;>intro _<;>conv=>whnf)
      all_goals try (refine Or.inl ?_;conv=>whnf)
     all_goals try exact (bnl ‹_› hz).elim
     all_goals refine⟨[],?_⟩
     repeat any_goals first|exact T0|exact rfl|exact Yr|refine Ya ?_ ?_
     all_goals conv=>whnf
 ·have n1:=number_sat ⟨k,a,e,b,c,g,s,n,t,w,ev,(nm,lb),d⟩ 4 (by decide) (by decide)
  have i1:=in_sat (hasT k) (ltrN 4) hsl
  have t1:=time_sat c
  have of:=ok_false (f:=⟨k,a,e,b,c,g,s,n,t,w,ev,(nm,lb),d⟩) (k:=k) (j:=4)
  have ot:=ok_true (f:=⟨k,a,e,b,c,g,s,n,t,w,ev,(nm,lb),d⟩) (k:=k) (j:=4)
  have ho:=ref_no (f:=⟨k,a,e,b,c,g,s,n,t,w,ev,(nm,lb),d⟩) (k:=k) (j:=4) (by decide) (by decide)
  have hs:=ok_step hI
  generalize okN ⟨k,a,e,b,c,g,s,n,t,w,ev,(nm,lb),d⟩ k 4=q at of ot ho hs
  generalize (hasT k).contains (ltrN 4)=p at i1 of ot
  have of:q=false→(c != 0)=false∨p=true→rngB c=false:=of
  have ot:q=true→rngB c=true∧(p=true∨(c != 0)=false):=ot
  cases q with
  |true=>
   obtain⟨o1,o2⟩:=ot rfl
   rw[o1] at t1
   conv=>whnf
   cases p with
   |true=>
    iterate 7
     repeat' first|exact T0|(first|refine⟨3,(by decide),rfl,?_⟩|refine Yd fun _=>?_|refine Ye fun _=>?_|refine Yg ?_|refine Yk (n1.at1 0 rfl rfl rfl) ?_|refine Yk (i1.pu rfl rfl) ?_|refine Yk (t1.pu rfl rfl) ?_);conv=>whnf|(refine Ya ?_ ?_<;>intro _<;>conv=>whnf)
     all_goals try (refine Or.inl ?_;conv=>whnf)
    refine⟨4,⟨by decide,hs rfl⟩,by decide,?_⟩
    all_goals refine⟨[],?_⟩
    repeat any_goals first|exact T0|exact rfl|exact Yr|refine Ya ?_ ?_
    all_goals conv=>whnf
   |false=>
    have d2:(c != 0)=false:=o2.elim (fun h=>by cases h) id
    iterate 7
     repeat' first|exact T0|(first|refine⟨3,(by decide),rfl,?_⟩|refine Yd fun _=>?_|refine Ye fun _=>?_|refine Yg ?_|refine Yk (n1.at1 0 rfl rfl rfl) ?_|refine Yk (i1.pu rfl rfl) ?_|refine Yk (t1.pu rfl rfl) ?_);conv=>whnf|(refine Ya ?_ ?_<;>intro _<;>conv=>whnf)
     all_goals try (refine Or.inl ?_;conv=>whnf)
    all_goals try exact (bnl ‹_› d2).elim
    refine⟨4,⟨by decide,hs rfl⟩,by decide,?_⟩
    all_goals refine⟨[],?_⟩
    repeat any_goals first|exact T0|exact rfl|exact Yr|refine Ya ?_ ?_
    all_goals conv=>whnf
  |false=>
   rw[ho rfl]
   conv=>whnf
   cases p with
   |true=>
    rw[of rfl (.inr rfl)] at t1
    iterate 7
     repeat' first|exact T0|(first|refine⟨3,(by decide),rfl,?_⟩|refine Yd fun _=>?_|refine Ye fun _=>?_|refine Yg ?_|refine Yk (n1.at1 0 rfl rfl rfl) ?_|refine Yk (i1.pu rfl rfl) ?_|refine Yk (t1.pu rfl rfl) ?_);conv=>whnf|(refine Ya ?_ ?_<;>intro _<;>conv=>whnf)
     all_goals try (refine Or.inl ?_;conv=>whnf)
    all_goals refine⟨[],?_⟩
    repeat any_goals first|exact T0|exact rfl|exact Yr|refine Ya ?_ ?_
    all_goals conv=>whnf
   |false=>
    cases hz:(c != 0) with
    |true=>
     iterate 7
      repeat' first|exact T0|(first|refine⟨3,(by decide),rfl,?_⟩|refine Yd fun _=>?_|refine Ye fun _=>?_|refine Yg ?_|refine Yk (n1.at1 0 rfl rfl rfl) ?_|refine Yk (i1.pu rfl rfl) ?_|refine Yk (t1.pu rfl rfl) ?_);conv=>whnf|(refine Ya ?_ ?_<;>intro _<;>conv=>whnf)
      all_goals try (refine Or.inl ?_;conv=>whnf)
     all_goals try exact (bnl hz ‹_›).elim
     all_goals refine⟨[],?_⟩
     repeat any_goals first|exact T0|exact rfl|exact Yr|refine Ya ?_ ?_
     all_goals conv=>whnf
    |false=>
     rw[of rfl (.inl hz)] at t1
     iterate 7
      repeat' first|exact T0|(first|refine⟨3,(by decide),rfl,?_⟩|refine Yd fun _=>?_|refine Ye fun _=>?_|refine Yg ?_|refine Yk (n1.at1 0 rfl rfl rfl) ?_|refine Yk (i1.pu rfl rfl) ?_|refine Yk (t1.pu rfl rfl) ?_);conv=>whnf|(refine Ya ?_ ?_<;>intro _<;>conv=>whnf)
      all_goals try (refine Or.inl ?_;conv=>whnf)
     all_goals try exact (bnl ‹_› hz).elim
     all_goals refine⟨[],?_⟩
     repeat any_goals first|exact T0|exact rfl|exact Yr|refine Ya ?_ ?_
     all_goals conv=>whnf
 ·have n1:=number_sat ⟨k,a,e,b,c,g,s,n,t,w,ev,(nm,lb),d⟩ 5 (by decide) (by decide)
  have i1:=in_sat (hasT k) (ltrN 5) hsl
  have t1:=time_sat g
  have of:=ok_false (f:=⟨k,a,e,b,c,g,s,n,t,w,ev,(nm,lb),d⟩) (k:=k) (j:=5)
  have ot:=ok_true (f:=⟨k,a,e,b,c,g,s,n,t,w,ev,(nm,lb),d⟩) (k:=k) (j:=5)
  have ho:=ref_no (f:=⟨k,a,e,b,c,g,s,n,t,w,ev,(nm,lb),d⟩) (k:=k) (j:=5) (by decide) (by decide)
  have hs:=ok_step hI
  generalize okN ⟨k,a,e,b,c,g,s,n,t,w,ev,(nm,lb),d⟩ k 5=q at of ot ho hs
  generalize (hasT k).contains (ltrN 5)=p at i1 of ot
  have of:q=false→(g != 0)=false∨p=true→rngB g=false:=of
  have ot:q=true→rngB g=true∧(p=true∨(g != 0)=false):=ot
  cases q with
  |true=>
   obtain⟨o1,o2⟩:=ot rfl
   rw[o1] at t1
   conv=>whnf
   cases p with
   |true=>
    iterate 7
     repeat' first|exact T0|(first|refine⟨4,(by decide),rfl,?_⟩|refine Yd fun _=>?_|refine Ye fun _=>?_|refine Yg ?_|refine Yk (n1.at1 0 rfl rfl rfl) ?_|refine Yk (i1.pu rfl rfl) ?_|refine Yk (t1.pu rfl rfl) ?_);conv=>whnf|(refine Ya ?_ ?_<;>intro _<;>conv=>whnf)
     all_goals try (refine Or.inl ?_;conv=>whnf)
    refine⟨5,⟨by decide,hs rfl⟩,by decide,?_⟩
    all_goals refine⟨[],?_⟩
    repeat any_goals first|exact T0|exact rfl|exact Yr|refine Ya ?_ ?_
    all_goals conv=>whnf
   |false=>
    have d2:(g != 0)=false:=o2.elim (fun h=>by cases h) id
    iterate 7
     repeat' first|exact T0|(first|refine⟨4,(by decide),rfl,?_⟩|refine Yd fun _=>?_|refine Ye fun _=>?_|refine Yg ?_|refine Yk (n1.at1 0 rfl rfl rfl) ?_|refine Yk (i1.pu rfl rfl) ?_|refine Yk (t1.pu rfl rfl) ?_);conv=>whnf|(refine Ya ?_ ?_<;>intro _<;>conv=>whnf)
     all_goals try (refine Or.inl ?_;conv=>whnf)
    all_goals try exact (bnl ‹_› d2).elim
    refine⟨5,⟨by decide,hs rfl⟩,by decide,?_⟩
    all_goals refine⟨[],?_⟩
    repeat any_goals first|exact T0|exact rfl|exact Yr|refine Ya ?_ ?_
    all_goals conv=>whnf
  |false=>
   rw[ho rfl]
   conv=>whnf
   cases p with
   |true=>
    rw[of rfl (.inr rfl)] at t1
    iterate 7
     repeat' first|exact T0|(first|refine⟨4,(by decide),rfl,?_⟩|refine Yd fun _=>?_|refine Ye fun _=>?_|refine Yg ?_|refine Yk (n1.at1 0 rfl rfl rfl) ?_|refine Yk (i1.pu rfl rfl) ?_|refine Yk (t1.pu rfl rfl) ?_);conv=>whnf|(refine Ya ?_ ?_<;>intro _<;>conv=>whnf)
     all_goals try (refine Or.inl ?_;conv=>whnf)
    all_goals refine⟨[],?_⟩
    repeat any_goals first|exact T0|exact rfl|exact Yr|refine Ya ?_ ?_
    all_goals conv=>whnf
   |false=>
    cases hz:(g != 0) with
    |true=>
     iterate 7
      repeat' first|exact T0|(first|refine⟨4,(by decide),rfl,?_⟩|refine Yd fun _=>?_|refine Ye fun _=>?_|refine Yg ?_|refine Yk (n1.at1 0 rfl rfl rfl) ?_|refine Yk (i1.pu rfl rfl) ?_|refine Yk (t1.pu rfl rfl) ?_);conv=>whnf|(refine Ya ?_ ?_<;>intro _<;>conv=>whnf)
      all_goals try (refine Or.inl ?_;conv=>whnf)
     all_goals try exact (bnl hz ‹_›).elim
     all_goals refine⟨[],?_⟩
     repeat any_goals first|exact T0|exact rfl|exact Yr|refine Ya ?_ ?_
     all_goals conv=>whnf
    |false=>
     rw[of rfl (.inl hz)] at t1
     iterate 7
      repeat' first|exact T0|(first|refine⟨4,(by decide),rfl,?_⟩|refine Yd fun _=>?_|refine Ye fun _=>?_|refine Yg ?_|refine Yk (n1.at1 0 rfl rfl rfl) ?_|refine Yk (i1.pu rfl rfl) ?_|refine Yk (t1.pu rfl rfl) ?_);conv=>whnf|(refine Ya ?_ ?_<;>intro _<;>conv=>whnf)
      all_goals try (refine Or.inl ?_;conv=>whnf)
     all_goals try exact (bnl ‹_› hz).elim
     all_goals refine⟨[],?_⟩
     repeat any_goals first|exact T0|exact rfl|exact Yr|refine Ya ?_ ?_
     all_goals conv=>whnf
 ·have n1:=number_sat ⟨k,a,e,b,c,g,s,n,t,w,ev,(nm,lb),d⟩ 6 (by decide) (by decide)
  have i1:=in_sat (hasT k) (ltrN 6) hsl
  have t1:=time_sat s
  have of:=ok_false (f:=⟨k,a,e,b,c,g,s,n,t,w,ev,(nm,lb),d⟩) (k:=k) (j:=6)
  have ot:=ok_true (f:=⟨k,a,e,b,c,g,s,n,t,w,ev,(nm,lb),d⟩) (k:=k) (j:=6)
  have ho:=ref_no (f:=⟨k,a,e,b,c,g,s,n,t,w,ev,(nm,lb),d⟩) (k:=k) (j:=6) (by decide) (by decide)
  have hs:=ok_step hI
  generalize okN ⟨k,a,e,b,c,g,s,n,t,w,ev,(nm,lb),d⟩ k 6=q at of ot ho hs
  generalize (hasT k).contains (ltrN 6)=p at i1 of ot
  have of:q=false→(s != 0)=false∨p=true→rngB s=false:=of
  have ot:q=true→rngB s=true∧(p=true∨(s != 0)=false):=ot
  cases q with
  |true=>
   obtain⟨o1,o2⟩:=ot rfl
   rw[o1] at t1
   conv=>whnf
   cases p with
   |true=>
    iterate 7
     repeat' first|exact T0|(first|refine⟨5,(by decide),rfl,?_⟩|refine Yd fun _=>?_|refine Ye fun _=>?_|refine Yg ?_|refine Yk (n1.at1 0 rfl rfl rfl) ?_|refine Yk (i1.pu rfl rfl) ?_|refine Yk (t1.pu rfl rfl) ?_);conv=>whnf|(refine Ya ?_ ?_<;>intro _<;>conv=>whnf)
     all_goals try (refine Or.inl ?_;conv=>whnf)
    refine⟨6,⟨by decide,hs rfl⟩,by decide,?_⟩
    all_goals refine⟨[],?_⟩
    repeat any_goals first|exact T0|exact rfl|exact Yr|refine Ya ?_ ?_
    all_goals conv=>whnf
   |false=>
    have d2:(s != 0)=false:=o2.elim (fun h=>by cases h) id
    iterate 7
     repeat' first|exact T0|(first|refine⟨5,(by decide),rfl,?_⟩|refine Yd fun _=>?_|refine Ye fun _=>?_|refine Yg ?_|refine Yk (n1.at1 0 rfl rfl rfl) ?_|refine Yk (i1.pu rfl rfl) ?_|refine Yk (t1.pu rfl rfl) ?_);conv=>whnf|(refine Ya ?_ ?_<;>intro _<;>conv=>whnf)
     all_goals try (refine Or.inl ?_;conv=>whnf)
    all_goals try exact (bnl ‹_› d2).elim
    refine⟨6,⟨by decide,hs rfl⟩,by decide,?_⟩
    all_goals refine⟨[],?_⟩
    repeat any_goals first|exact T0|exact rfl|exact Yr|refine Ya ?_ ?_
    all_goals conv=>whnf
  |false=>
   rw[ho rfl]
   conv=>whnf
   cases p with
   |true=>
    rw[of rfl (.inr rfl)] at t1
    iterate 7
     repeat' first|exact T0|(first|refine⟨5,(by decide),rfl,?_⟩|refine Yd fun _=>?_|refine Ye fun _=>?_|refine Yg ?_|refine Yk (n1.at1 0 rfl rfl rfl) ?_|refine Yk (i1.pu rfl rfl) ?_|refine Yk (t1.pu rfl rfl) ?_);conv=>whnf|(refine Ya ?_ ?_<;>intro _<;>conv=>whnf)
     all_goals try (refine Or.inl ?_;conv=>whnf)
    all_goals refine⟨[],?_⟩
    repeat any_goals first|exact T0|exact rfl|exact Yr|refine Ya ?_ ?_
    all_goals conv=>whnf
   |false=>
    cases hz:(s != 0) with
    |true=>
     iterate 7
      repeat' first|exact T0|(first|refine⟨5,(by decide),rfl,?_⟩|refine Yd fun _=>?_|refine Ye fun _=>?_|refine Yg ?_|refine Yk (n1.at1 0 rfl rfl rfl) ?_|refine Yk (i1.pu rfl rfl) ?_|refine Yk (t1.pu rfl rfl) ?_);conv=>whnf|(refine Ya ?_ ?_<;>intro _<;>conv=>whnf)
      all_goals try (refine Or.inl ?_;conv=>whnf)
     all_goals try exact (bnl hz ‹_›).elim
     all_goals refine⟨[],?_⟩
     repeat any_goals first|exact T0|exact rfl|exact Yr|refine Ya ?_ ?_
     all_goals conv=>whnf
    |false=>
     rw[of rfl (.inl hz)] at t1
     iterate 7
      repeat' first|exact T0|(first|refine⟨5,(by decide),rfl,?_⟩|refine Yd fun _=>?_|refine Ye fun _=>?_|refine Yg ?_|refine Yk (n1.at1 0 rfl rfl rfl) ?_|refine Yk (i1.pu rfl rfl) ?_|refine Yk (t1.pu rfl rfl) ?_);conv=>whnf|(refine Ya ?_ ?_<;>intro _<;>conv=>whnf)
      all_goals try (refine Or.inl ?_;conv=>whnf)
     all_goals try exact (bnl ‹_› hz).elim
     all_goals refine⟨[],?_⟩
     repeat any_goals first|exact T0|exact rfl|exact Yr|refine Ya ?_ ?_
     all_goals conv=>whnf
 ·have n1:=number_sat ⟨k,a,e,b,c,g,s,n,t,w,ev,(nm,lb),d⟩ 7 (by decide) (by decide)
  have i1:=in_sat (hasT k) (ltrN 7) hsl
  have t1:=time_sat n
  have of:=ok_false (f:=⟨k,a,e,b,c,g,s,n,t,w,ev,(nm,lb),d⟩) (k:=k) (j:=7)
  have ot:=ok_true (f:=⟨k,a,e,b,c,g,s,n,t,w,ev,(nm,lb),d⟩) (k:=k) (j:=7)
  have ho:=ref_no (f:=⟨k,a,e,b,c,g,s,n,t,w,ev,(nm,lb),d⟩) (k:=k) (j:=7) (by decide) (by decide)
  have hs:=ok_step hI
  generalize okN ⟨k,a,e,b,c,g,s,n,t,w,ev,(nm,lb),d⟩ k 7=q at of ot ho hs
  generalize (hasT k).contains (ltrN 7)=p at i1 of ot
  have of:q=false→(n != 0)=false∨p=true→rngB n=false:=of
  have ot:q=true→rngB n=true∧(p=true∨(n != 0)=false):=ot
  cases q with
  |true=>
   obtain⟨o1,o2⟩:=ot rfl
   rw[o1] at t1
   conv=>whnf
   cases p with
   |true=>
    iterate 7
     repeat' first|exact T0|(first|refine⟨6,(by decide),rfl,?_⟩|refine Yd fun _=>?_|refine Ye fun _=>?_|refine Yg ?_|refine Yk (n1.at1 0 rfl rfl rfl) ?_|refine Yk (i1.pu rfl rfl) ?_|refine Yk (t1.pu rfl rfl) ?_);conv=>whnf|(refine Ya ?_ ?_<;>intro _<;>conv=>whnf)
     all_goals try (refine Or.inl ?_;conv=>whnf)
    refine⟨7,⟨by decide,hs rfl⟩,by decide,?_⟩
    all_goals refine⟨[],?_⟩
    repeat any_goals first|exact T0|exact rfl|exact Yr|refine Ya ?_ ?_
    all_goals conv=>whnf
   |false=>
    have d2:(n != 0)=false:=o2.elim (fun h=>by cases h) id
    iterate 7
     repeat' first|exact T0|(first|refine⟨6,(by decide),rfl,?_⟩|refine Yd fun _=>?_|refine Ye fun _=>?_|refine Yg ?_|refine Yk (n1.at1 0 rfl rfl rfl) ?_|refine Yk (i1.pu rfl rfl) ?_|refine Yk (t1.pu rfl rfl) ?_);conv=>whnf|(refine Ya ?_ ?_<;>intro _<;>conv=>whnf)
     all_goals try (refine Or.inl ?_;conv=>whnf)
    all_goals try exact (bnl ‹_› d2).elim
    refine⟨7,⟨by decide,hs rfl⟩,by decide,?_⟩
    all_goals refine⟨[],?_⟩
    repeat any_goals first|exact T0|exact rfl|exact Yr|refine Ya ?_ ?_
    all_goals conv=>whnf
  |false=>
   rw[ho rfl]
   conv=>whnf
   cases p with
   |true=>
    rw[of rfl (.inr rfl)] at t1
    iterate 7
     repeat' first|exact T0|(first|refine⟨6,(by decide),rfl,?_⟩|refine Yd fun _=>?_|refine Ye fun _=>?_|refine Yg ?_|refine Yk (n1.at1 0 rfl rfl rfl) ?_|refine Yk (i1.pu rfl rfl) ?_|refine Yk (t1.pu rfl rfl) ?_);conv=>whnf|(refine Ya ?_ ?_<;>intro _<;>conv=>whnf)
     all_goals try (refine Or.inl ?_;conv=>whnf)
    all_goals refine⟨[],?_⟩
    repeat any_goals first|exact T0|exact rfl|exact Yr|refine Ya ?_ ?_
    all_goals conv=>whnf
   |false=>
    cases hz:(n != 0) with
    |true=>
     iterate 7
      repeat' first|exact T0|(first|refine⟨6,(by decide),rfl,?_⟩|refine Yd fun _=>?_|refine Ye fun _=>?_|refine Yg ?_|refine Yk (n1.at1 0 rfl rfl rfl) ?_|refine Yk (i1.pu rfl rfl) ?_|refine Yk (t1.pu rfl rfl) ?_);conv=>whnf|(refine Ya ?_ ?_<;>intro _<;>conv=>whnf)
      all_goals try (refine Or.inl ?_;conv=>whnf)
     all_goals try exact (bnl hz ‹_›).elim
     all_goals refine⟨[],?_⟩
     repeat any_goals first|exact T0|exact rfl|exact Yr|refine Ya ?_ ?_
     all_goals conv=>whnf
    |false=>
     rw[of rfl (.inl hz)] at t1
     iterate 7
      repeat' first|exact T0|(first|refine⟨6,(by decide),rfl,?_⟩|refine Yd fun _=>?_|refine Ye fun _=>?_|refine Yg ?_|refine Yk (n1.at1 0 rfl rfl rfl) ?_|refine Yk (i1.pu rfl rfl) ?_|refine Yk (t1.pu rfl rfl) ?_);conv=>whnf|(refine Ya ?_ ?_<;>intro _<;>conv=>whnf)
      all_goals try (refine Or.inl ?_;conv=>whnf)
     all_goals try exact (bnl ‹_› hz).elim
     all_goals refine⟨[],?_⟩
     repeat any_goals first|exact T0|exact rfl|exact Yr|refine Ya ?_ ?_
     all_goals conv=>whnf
 ·have n1:=number_sat ⟨k,a,e,b,c,g,s,n,t,w,ev,(nm,lb),d⟩ 8 (by decide) (by decide)
  have i1:=in_sat (hasT k) (ltrN 8) hsl
  have t1:=time_sat t
  have of:=ok_false (f:=⟨k,a,e,b,c,g,s,n,t,w,ev,(nm,lb),d⟩) (k:=k) (j:=8)
  have ot:=ok_true (f:=⟨k,a,e,b,c,g,s,n,t,w,ev,(nm,lb),d⟩) (k:=k) (j:=8)
  have ho:=ref_no (f:=⟨k,a,e,b,c,g,s,n,t,w,ev,(nm,lb),d⟩) (k:=k) (j:=8) (by decide) (by decide)
  have hs:=ok_step hI
  generalize okN ⟨k,a,e,b,c,g,s,n,t,w,ev,(nm,lb),d⟩ k 8=q at of ot ho hs
  generalize (hasT k).contains (ltrN 8)=p at i1 of ot
  have of:q=false→(t != 0)=false∨p=true→rngB t=false:=of
  have ot:q=true→rngB t=true∧(p=true∨(t != 0)=false):=ot
  cases q with
  |true=>
   obtain⟨o1,o2⟩:=ot rfl
   rw[o1] at t1
   conv=>whnf
   cases p with
   |true=>
    iterate 7
     repeat' first|exact T0|(first|refine⟨7,(by decide),rfl,?_⟩|refine Yd fun _=>?_|refine Ye fun _=>?_|refine Yg ?_|refine Yk (n1.at1 0 rfl rfl rfl) ?_|refine Yk (i1.pu rfl rfl) ?_|refine Yk (t1.pu rfl rfl) ?_);conv=>whnf|(refine Ya ?_ ?_<;>intro _<;>conv=>whnf)
     all_goals try (refine Or.inl ?_;conv=>whnf)
    refine⟨8,⟨by decide,hs rfl⟩,by decide,?_⟩
    all_goals refine⟨[],?_⟩
    repeat any_goals first|exact T0|exact rfl|exact Yr|refine Ya ?_ ?_
    all_goals conv=>whnf
   |false=>
    have d2:(t != 0)=false:=o2.elim (fun h=>by cases h) id
    iterate 7
     repeat' first|exact T0|(first|refine⟨7,(by decide),rfl,?_⟩|refine Yd fun _=>?_|refine Ye fun _=>?_|refine Yg ?_|refine Yk (n1.at1 0 rfl rfl rfl) ?_|refine Yk (i1.pu rfl rfl) ?_|refine Yk (t1.pu rfl rfl) ?_);conv=>whnf|(refine Ya ?_ ?_<;>intro _<;>conv=>whnf)
     all_goals try (refine Or.inl ?_;conv=>whnf)
    all_goals try exact (bnl ‹_› d2).elim
    refine⟨8,⟨by decide,hs rfl⟩,by decide,?_⟩
    all_goals refine⟨[],?_⟩
    repeat any_goals first|exact T0|exact rfl|exact Yr|refine Ya ?_ ?_
    all_goals conv=>whnf
  |false=>
   rw[ho rfl]
   conv=>whnf
   cases p with
   |true=>
    rw[of rfl (.inr rfl)] at t1
    iterate 7
     repeat' first|exact T0|(first|refine⟨7,(by decide),rfl,?_⟩|refine Yd fun _=>?_|refine Ye fun _=>?_|refine Yg ?_|refine Yk (n1.at1 0 rfl rfl rfl) ?_|refine Yk (i1.pu rfl rfl) ?_|refine Yk (t1.pu rfl rfl) ?_);conv=>whnf|(refine Ya ?_ ?_<;>intro _<;>conv=>whnf)
     all_goals try (refine Or.inl ?_;conv=>whnf)
    all_goals refine⟨[],?_⟩
    repeat any_goals first|exact T0|exact rfl|exact Yr|refine Ya ?_ ?_
    all_goals conv=>whnf
   |false=>
    cases hz:(t != 0) with
    |true=>
     iterate 7
      repeat' first|exact T0|(first|refine⟨7,(by decide),rfl,?_⟩|refine Yd fun _=>?_|refine Ye fun _=>?_|refine Yg ?_|refine Yk (n1.at1 0 rfl rfl rfl) ?_|refine Yk (i1.pu rfl rfl) ?_|refine Yk (t1.pu rfl rfl) ?_);conv=>whnf|(refine Ya ?_ ?_<;>intro _<;>conv=>whnf)
      all_goals try (refine Or.inl ?_;conv=>whnf)
     all_goals try exact (bnl hz ‹_›).elim
     all_goals refine⟨[],?_⟩
     repeat any_goals first|exact T0|exact rfl|exact Yr|refine Ya ?_ ?_
     all_goals conv=>whnf
    |false=>
     rw[of rfl (.inl hz)] at t1
     iterate 7
      repeat' first|exact T0|(first|refine⟨7,(by decide),rfl,?_⟩|refine Yd fun _=>?_|refine Ye fun _=>?_|refine Yg ?_|refine Yk (n1.at1 0 rfl rfl rfl) ?_|refine Yk (i1.pu rfl rfl) ?_|refine Yk (t1.pu rfl rfl) ?_);conv=>whnf|(refine Ya ?_ ?_<;>intro _<;>conv=>whnf)
      all_goals try (refine Or.inl ?_;conv=>whnf)
     all_goals try exact (bnl ‹_› hz).elim
     all_goals refine⟨[],?_⟩
     repeat any_goals first|exact T0|exact rfl|exact Yr|refine Ya ?_ ?_
     all_goals conv=>whnf
 ·have n1:=number_sat ⟨k,a,e,b,c,g,s,n,t,w,ev,(nm,lb),d⟩ 9 (by decide) (by decide)
  have i1:=in_sat (hasT k) (ltrN 9) hsl
  have t1:=time_sat w
  have of:=ok_false (f:=⟨k,a,e,b,c,g,s,n,t,w,ev,(nm,lb),d⟩) (k:=k) (j:=9)
  have ot:=ok_true (f:=⟨k,a,e,b,c,g,s,n,t,w,ev,(nm,lb),d⟩) (k:=k) (j:=9)
  have ho:=ref_no (f:=⟨k,a,e,b,c,g,s,n,t,w,ev,(nm,lb),d⟩) (k:=k) (j:=9) (by decide) (by decide)
  have hs:=ok_step hI
  generalize okN ⟨k,a,e,b,c,g,s,n,t,w,ev,(nm,lb),d⟩ k 9=q at of ot ho hs
  generalize (hasT k).contains (ltrN 9)=p at i1 of ot
  have of:q=false→(w != 0)=false∨p=true→rngB w=false:=of
  have ot:q=true→rngB w=true∧(p=true∨(w != 0)=false):=ot
  cases q with
  |true=>
   obtain⟨o1,o2⟩:=ot rfl
   rw[o1] at t1
   conv=>whnf
   cases p with
   |true=>
    iterate 7
     repeat' first|exact T0|(first|refine⟨8,(by decide),rfl,?_⟩|refine Yd fun _=>?_|refine Ye fun _=>?_|refine Yg ?_|refine Yk (n1.at1 0 rfl rfl rfl) ?_|refine Yk (i1.pu rfl rfl) ?_|refine Yk (t1.pu rfl rfl) ?_);conv=>whnf|(refine Ya ?_ ?_<;>intro _<;>conv=>whnf)
     all_goals try (refine Or.inl ?_;conv=>whnf)
    refine⟨9,⟨by decide,hs rfl⟩,by decide,?_⟩
    all_goals refine⟨[],?_⟩
    repeat any_goals first|exact T0|exact rfl|exact Yr|refine Ya ?_ ?_
    all_goals conv=>whnf
   |false=>
    have d2:(w != 0)=false:=o2.elim (fun h=>by cases h) id
    iterate 7
     repeat' first|exact T0|(first|refine⟨8,(by decide),rfl,?_⟩|refine Yd fun _=>?_|refine Ye fun _=>?_|refine Yg ?_|refine Yk (n1.at1 0 rfl rfl rfl) ?_|refine Yk (i1.pu rfl rfl) ?_|refine Yk (t1.pu rfl rfl) ?_);conv=>whnf|(refine Ya ?_ ?_<;>intro _<;>conv=>whnf)
     all_goals try (refine Or.inl ?_;conv=>whnf)
    all_goals try exact (bnl ‹_› d2).elim
    refine⟨9,⟨by decide,hs rfl⟩,by decide,?_⟩
    all_goals refine⟨[],?_⟩
    repeat any_goals first|exact T0|exact rfl|exact Yr|refine Ya ?_ ?_
    all_goals conv=>whnf
  |false=>
   rw[ho rfl]
   conv=>whnf
   cases p with
   |true=>
    rw[of rfl (.inr rfl)] at t1
    iterate 7
     repeat' first|exact T0|(first|refine⟨8,(by decide),rfl,?_⟩|refine Yd fun _=>?_|refine Ye fun _=>?_|refine Yg ?_|refine Yk (n1.at1 0 rfl rfl rfl) ?_|refine Yk (i1.pu rfl rfl) ?_|refine Yk (t1.pu rfl rfl) ?_);conv=>whnf|(refine Ya ?_ ?_<;>intro _<;>conv=>whnf)
     all_goals try (refine Or.inl ?_;conv=>whnf)
    all_goals refine⟨[],?_⟩
    repeat any_goals first|exact T0|exact rfl|exact Yr|refine Ya ?_ ?_
    all_goals conv=>whnf
   |false=>
    cases hz:(w != 0) with
    |true=>
     iterate 7
      repeat' first|exact T0|(first|refine⟨8,(by decide),rfl,?_⟩|refine Yd fun _=>?_|refine Ye fun _=>?_|refine Yg ?_|refine Yk (n1.at1 0 rfl rfl rfl) ?_|refine Yk (i1.pu rfl rfl) ?_|refine Yk (t1.pu rfl rfl) ?_);conv=>whnf|(refine Ya ?_ ?_<;>intro _<;>conv=>whnf)
      all_goals try (refine Or.inl ?_;conv=>whnf)
     all_goals try exact (bnl hz ‹_›).elim
     all_goals refine⟨[],?_⟩
     repeat any_goals first|exact T0|exact rfl|exact Yr|refine Ya ?_ ?_
     all_goals conv=>whnf
    |false=>
     rw[of rfl (.inl hz)] at t1
     iterate 7
      repeat' first|exact T0|(first|refine⟨8,(by decide),rfl,?_⟩|refine Yd fun _=>?_|refine Ye fun _=>?_|refine Yg ?_|refine Yk (n1.at1 0 rfl rfl rfl) ?_|refine Yk (i1.pu rfl rfl) ?_|refine Yk (t1.pu rfl rfl) ?_);conv=>whnf|(refine Ya ?_ ?_<;>intro _<;>conv=>whnf)
      all_goals try (refine Or.inl ?_;conv=>whnf)
     all_goals try exact (bnl ‹_› hz).elim
     all_goals refine⟨[],?_⟩
     repeat any_goals first|exact T0|exact rfl|exact Yr|refine Ya ?_ ?_
     all_goals conv=>whnf
 have er:refB ⟨k,a,e,b,c,g,s,n,t,w,ev,(nm,lb),d⟩ k=(twoB ⟨k,a,e,b,c,g,s,n,t,w,ev,(nm,lb),d⟩ k && (lenB ⟨k,a,e,b,c,g,s,n,t,w,ev,(nm,lb),d⟩ k && (ev.all evOk && lastB ⟨k,a,e,b,c,g,s,n,t,w,ev,(nm,lb),d⟩ k))):=by
  show (numsB ⟨k,a,e,b,c,g,s,n,t,w,ev,(nm,lb),d⟩ k && _)=_
  rw[nums_all hI,Bool.true_and]
 rw[er]
 clear er hI
 have hw:IntKind.i64.wrap (1099511627776-((ev.map evR).length:Int))=1099511627776-(ev.length:Int):=by rw[hm,wi (by omega) (by omega)]
 have hk5:((k:Int) != 5) = !decide (k=5):=by rw[Bool.eq_iff_iff];simp;omega
 have hk5':((k:Int) == 5)=decide (k=5):=by rw[Bool.eq_iff_iff];simp;omega
 have hk8:((k:Int) == 8)=decide (k=8):=by rw[Bool.eq_iff_iff];simp;omega
 cases h2:twoB ⟨k,a,e,b,c,g,s,n,t,w,ev,(nm,lb),d⟩ k with
 |false=>
  have hz:decide (a>63)=false→decide (e>1099511627776)=false→(((k:Int) == 4)=false∨decide (s<g)=false)→(decide ((k:Int)≥5)=false∨decide ((k:Int)≤7)=false∨decide (n>IntKind.i64.wrap (1099511627776-((ev.map evR).length:Int)))=false)→False:=by
   intro p1 p2 p3 p4
   rw[hw] at p4
   simp only[decide_eq_false_iff_not,beq_eq_false_iff_ne] at p1 p2 p3 p4
   simp[twoB] at h2
   omega
  rw[Bool.false_and]
  conv=>whnf
  iterate 10
   repeat' first|exact T0|(first|refine Yd fun _=>?_|refine Ye fun _=>?_|refine Yg ?_);conv=>whnf|(refine Ya ?_ ?_<;>intro _<;>conv=>whnf)
   all_goals try (refine Or.inl ?_;conv=>whnf)
  all_goals try first|exact (hz ‹_› ‹_› (.inl ‹_›) (.inl ‹_›)).elim|exact (hz ‹_› ‹_› (.inl ‹_›) (.inr (.inl ‹_›))).elim|exact (hz ‹_› ‹_› (.inl ‹_›) (.inr (.inr ‹_›))).elim|exact (hz ‹_› ‹_› (.inr ‹_›) (.inl ‹_›)).elim|exact (hz ‹_› ‹_› (.inr ‹_›) (.inr (.inl ‹_›))).elim|exact (hz ‹_› ‹_› (.inr ‹_›) (.inr (.inr ‹_›))).elim
  all_goals refine⟨[],?_⟩
  repeat any_goals first|exact T0|exact rfl|exact Yr|refine Ya ?_ ?_
  all_goals conv=>whnf
 |true=>
 have hx:(a≤63∧e≤1099511627776)∧(k=4→g≤s)∧(5≤k∧k≤7→n≤1099511627776-(ev.length:Int)):=by
  simp[twoB] at h2
  omega
 have dA:decide (a>63)=false:=decide_eq_false (by omega)
 have dE:decide (e>1099511627776)=false:=decide_eq_false (by omega)
 have h4:¬(((k:Int) == 4)=true∧decide (s<g)=true):=by
  rintro⟨p1,p2⟩
  have p1:=beq_iff_eq.1 p1
  have p2:=of_decide_eq_true p2
  have:=hx.2.1 (by omega)
  omega
 have h5:¬(decide ((k:Int)≥5)=true∧decide ((k:Int)≤7)=true∧decide (n>IntKind.i64.wrap (1099511627776-((ev.map evR).length:Int)))=true):=by
  rintro⟨p1,p2,p3⟩
  rw[hw] at p3
  have p1:=of_decide_eq_true p1
  have p2:=of_decide_eq_true p2
  have p3:=of_decide_eq_true p3
  have:=hx.2.2 ⟨by omega,by omega⟩
  omega
 rw[Bool.true_and]
 clear hx h2
 conv=>whnf
 repeat' first|exact T0|(first|refine Yd fun _=>?_|refine Ye fun _=>?_|refine Yg ?_);conv=>whnf|(refine Ya ?_ ?_<;>intro _<;>conv=>whnf)
 all_goals try (refine Or.inl ?_;conv=>whnf)
 repeat' first|exact T0|(first|refine Yd fun _=>?_|refine Ye fun _=>?_|refine Yg ?_);conv=>whnf|(refine Ya ?_ ?_<;>intro _<;>conv=>whnf)
 refine Or.inr ⟨Unit,fun _=>True,fun _=>([(1,.ptr 0 0)],[.cells (frA ⟨k,a,e,b,c,g,s,n,t,w,ev,(nm,lb),d⟩)]),?_,fun _ _=>?_⟩
 ·conv=>whnf
  iterate 8
   repeat' first|exact T0|(first|refine Yd fun _=>?_|refine Ye fun _=>?_|refine Yg ?_);conv=>whnf|(refine Ya ?_ ?_<;>intro _<;>conv=>whnf)
   all_goals try (refine Or.inl ?_;conv=>whnf)
  all_goals try exact (bnl ‹_› dA).elim
  all_goals try exact (bnl ‹_› dE).elim
  all_goals try exact (h4 ⟨‹_›,‹_›⟩).elim
  all_goals try exact (h5 ⟨‹_›,‹_›,‹_›⟩).elim
  all_goals refine⟨(),trivial,?_⟩
  all_goals refine⟨[],?_⟩
  repeat any_goals first|exact T0|exact rfl|exact Yr|refine Ya ?_ ?_
  all_goals conv=>whnf
 clear dA dE h4 h5
 cases h3:lenB ⟨k,a,e,b,c,g,s,n,t,w,ev,(nm,lb),d⟩ k with
 |false=>
  rw[Bool.false_and]
  have hz:(k≠5→decide (((ev.map evR).length:Int)>0)=false→False)∧(k=5→decide (((ev.map evR).length:Int)<1)=false→decide (((ev.map evR).length:Int)>64)=false→False):=by
   have h3:(if k=5 then decide (1≤ev.length) && decide (ev.length≤64) else decide (ev.length=0))=false:=h3
   constructor
   ·intro p1 p2
    rw[if_neg p1] at h3
    have p2:=of_decide_eq_false p2
    have h3:=of_decide_eq_false h3
    rw[hm] at p2;omega
   ·intro p1 p2 p3
    rw[if_pos p1,Bool.and_eq_false_iff] at h3
    have p2:=of_decide_eq_false p2
    have p3:=of_decide_eq_false p3
    rw[hm] at p2 p3
    rcases h3 with h3|h3<;>(have h3:=of_decide_eq_false h3;omega)
  by_cases q5:k=5
  ·have d5:((k:Int) != 5)=false:=by rw[hk5,decide_eq_true q5];rfl
   have d5':((k:Int) == 5)=true:=by rw[hk5',decide_eq_true q5]
   conv=>whnf
   iterate 10
    repeat' first|exact T0|(first|refine Yd fun _=>?_|refine Ye fun _=>?_|refine Yg ?_);conv=>whnf|(refine Ya ?_ ?_<;>intro _<;>conv=>whnf)
    all_goals try (refine Or.inl ?_;conv=>whnf)
   all_goals try exact (bnl ‹_› d5).elim
   all_goals try exact (bnl d5' ‹_›).elim
   all_goals try exact (hz.2 q5 ‹_› ‹_›).elim
   all_goals refine⟨[],?_⟩
   repeat any_goals first|exact T0|exact rfl|exact Yr|refine Ya ?_ ?_
   all_goals conv=>whnf
  ·have d5:((k:Int) != 5)=true:=by rw[hk5,decide_eq_false q5];rfl
   conv=>whnf
   iterate 10
    repeat' first|exact T0|(first|refine Yd fun _=>?_|refine Ye fun _=>?_|refine Yg ?_);conv=>whnf|(refine Ya ?_ ?_<;>intro _<;>conv=>whnf)
    all_goals try (refine Or.inl ?_;conv=>whnf)
   all_goals try exact (bnl d5 ‹_›).elim
   all_goals try exact (hz.1 q5 ‹_›).elim
   all_goals refine⟨[],?_⟩
   repeat any_goals first|exact T0|exact rfl|exact Yr|refine Ya ?_ ?_
   all_goals conv=>whnf
 |true=>
 have hz:(k≠5→decide (((ev.map evR).length:Int)>0)=false)∧(k=5→decide (((ev.map evR).length:Int)<1)=false∧decide (((ev.map evR).length:Int)>64)=false):=by
  have h3:(if k=5 then decide (1≤ev.length) && decide (ev.length≤64) else decide (ev.length=0))=true:=h3
  constructor
  ·intro p1
   rw[if_neg p1] at h3
   have h3:=of_decide_eq_true h3
   exact decide_eq_false (by rw[hm];omega)
  ·intro p1
   rw[if_pos p1,Bool.and_eq_true] at h3
   have h4:=of_decide_eq_true h3.1
   have h5:=of_decide_eq_true h3.2
   exact⟨decide_eq_false (by rw[hm];omega),decide_eq_false (by rw[hm];omega)⟩
 rw[Bool.true_and]
 clear h3
 conv=>whnf
 repeat' first|exact T0|(first|refine Yd fun _=>?_|refine Ye fun _=>?_|refine Yg ?_);conv=>whnf|(refine Ya ?_ ?_<;>intro _<;>conv=>whnf)
 refine Or.inr ⟨Unit,fun _=>True,fun _=>([(1,.ptr 0 0)],[.cells (frA ⟨k,a,e,b,c,g,s,n,t,w,ev,(nm,lb),d⟩)]),?_,fun _ _=>?_⟩
 ·by_cases q5:k=5
  ·have d5:((k:Int) != 5)=false:=by rw[hk5,decide_eq_true q5];rfl
   obtain⟨z1,z2⟩:=hz.2 q5
   conv=>whnf
   iterate 8
    repeat' first|exact T0|(first|refine Yd fun _=>?_|refine Ye fun _=>?_|refine Yg ?_);conv=>whnf|(refine Ya ?_ ?_<;>intro _<;>conv=>whnf)
    all_goals try (refine Or.inl ?_;conv=>whnf)
   all_goals try exact (bnl ‹_› d5).elim
   all_goals try exact (bnl ‹_› z1).elim
   all_goals try exact (bnl ‹_› z2).elim
   all_goals refine⟨(),trivial,?_⟩
   all_goals refine⟨[],?_⟩
   repeat any_goals first|exact T0|exact rfl|exact Yr|refine Ya ?_ ?_
   all_goals conv=>whnf
  ·have d5:((k:Int) == 5)=false:=by rw[hk5',decide_eq_false q5]
   have d5':((k:Int) != 5)=true:=by rw[hk5,decide_eq_false q5];rfl
   have z1:=hz.1 q5
   conv=>whnf
   iterate 8
    repeat' first|exact T0|(first|refine Yd fun _=>?_|refine Ye fun _=>?_|refine Yg ?_);conv=>whnf|(refine Ya ?_ ?_<;>intro _<;>conv=>whnf)
    all_goals try (refine Or.inl ?_;conv=>whnf)
   all_goals try exact (bnl ‹_› d5).elim
   all_goals try exact (bnl d5' ‹_›).elim
   all_goals try exact (bnl ‹_› z1).elim
   all_goals refine⟨(),trivial,?_⟩
   all_goals refine⟨[],?_⟩
   repeat any_goals first|exact T0|exact rfl|exact Yr|refine Ya ?_ ?_
   all_goals conv=>whnf
 clear hz
 conv=>whnf
 iterate 3
  repeat' first|exact T0|(first|refine Yd fun _=>?_|refine Ye fun _=>?_|refine Yg ?_);conv=>whnf|(refine Ya ?_ ?_<;>intro _<;>conv=>whnf)
  all_goals try (refine Or.inl ?_;conv=>whnf)
 refine⟨Nat,fun i=>i≤ev.length∧(ev.take i).all evOk=true,fun i=>([(6,iA i),(1,.ptr 0 0)],[.cells (frA ⟨k,a,e,b,c,g,s,n,t,w,ev,(nm,lb),d⟩)]),fun i=>ev.length-i,⟨0,⟨Nat.zero_le _,rfl⟩,?_⟩,?_⟩
 ·all_goals refine⟨[],?_⟩
  repeat any_goals first|exact T0|exact rfl|exact Yr|refine Ya ?_ ?_
  all_goals conv=>whnf
 rintro i ⟨hi1,hI⟩
 have hi1:i≤ev.length:=hi1
 have hI:(ev.take i).all evOk=true:=hI
 by_cases hlt:i<ev.length
 ·have hx:ev[i]?=some ev[i]:=List.getElem?_eq_getElem hlt
  generalize ev[i]=x at hx
  have hgx:=map_get (f:=evR) hx
  have t1:=time_sat x.1
  have r1:=rRight_sat x.2.2
  have d5:decide ((i:Int)<((ev.map evR).length:Nat))=true:=decide_eq_true (by rw[hm];omega)
  cases ho:evOk x with
  |true=>
   have hoo:=ho
   unfold evOk at hoo
   rw[Bool.and_eq_true] at hoo
   rw[hoo.1] at t1
   rw[hoo.2] at r1
   conv=>whnf
   iterate 7
    repeat' first|exact T0|(first|refine⟨i,_,rfl,hgx,?_⟩|refine Yd fun _=>?_|refine Ye fun _=>?_|refine Yg ?_|refine Yk (t1.pu rfl rfl) ?_|refine Yk (r1.pu rfl rfl) ?_);conv=>whnf|(refine Ya ?_ ?_<;>intro _<;>conv=>whnf)
    all_goals try (refine Or.inl ?_;conv=>whnf)
   all_goals try exact (bnl d5 ‹_›).elim
   refine⟨i+1,⟨hlt,by rw[List.take_add_one,hx,List.all_append,hI];simp[ho]⟩,show ev.length-(i+1)<ev.length-i by omega,?_⟩
   all_goals refine⟨[],?_⟩
   repeat any_goals first|exact T0|exact rfl|exact Yr|refine Ya ?_ ?_
   all_goals conv=>whnf
   exact wk1 (by omega)
  |false=>
   have ea:ev.all evOk=false:=by
    rw[List.all_eq_false]
    exact⟨x,List.mem_of_getElem? hx,by rw[ho];decide⟩
   rw[ea,Bool.false_and]
   unfold evOk at ho
   cases hr:rngB x.1 with
   |false=>
    rw[hr] at t1
    conv=>whnf
    iterate 7
     repeat' first|exact T0|(first|refine⟨i,_,rfl,hgx,?_⟩|refine Yd fun _=>?_|refine Ye fun _=>?_|refine Yg ?_|refine Yk (t1.pu rfl rfl) ?_|refine Yk (r1.pu rfl rfl) ?_);conv=>whnf|(refine Ya ?_ ?_<;>intro _<;>conv=>whnf)
     all_goals try (refine Or.inl ?_;conv=>whnf)
    all_goals try exact (bnl d5 ‹_›).elim
    all_goals refine⟨[],?_⟩
    repeat any_goals first|exact T0|exact rfl|exact Yr|refine Ya ?_ ?_
    all_goals conv=>whnf
   |true=>
    rw[hr] at t1
    rw[hr,Bool.true_and] at ho
    rw[ho] at r1
    conv=>whnf
    iterate 7
     repeat' first|exact T0|(first|refine⟨i,_,rfl,hgx,?_⟩|refine Yd fun _=>?_|refine Ye fun _=>?_|refine Yg ?_|refine Yk (t1.pu rfl rfl) ?_|refine Yk (r1.pu rfl rfl) ?_);conv=>whnf|(refine Ya ?_ ?_<;>intro _<;>conv=>whnf)
     all_goals try (refine Or.inl ?_;conv=>whnf)
    all_goals try exact (bnl d5 ‹_›).elim
    all_goals refine⟨[],?_⟩
    repeat any_goals first|exact T0|exact rfl|exact Yr|refine Ya ?_ ?_
    all_goals conv=>whnf
 have d5:decide ((i:Int)<((ev.map evR).length:Nat))=false:=decide_eq_false (by rw[hm];omega)
 rw[List.take_of_length_le (show ev.length≤i by omega)] at hI
 rw[hI,Bool.true_and]
 by_cases q8:k=8
 ·have d8:((k:Int) == 8)=true:=by rw[hk8,decide_eq_true q8]
  have r1:=rRight_sat (nm,lb)
  have el:lastB ⟨k,a,e,b,c,g,s,n,t,w,ev,(nm,lb),d⟩ k=(rightB (nm,lb) && decide (d.length≤4096)):=if_pos q8
  rw[el]
  cases hr:rightB (nm,lb) with
  |false=>
   rw[hr] at r1
   conv=>whnf
   iterate 7
    repeat' first|exact T0|(first|refine Yd fun _=>?_|refine Ye fun _=>?_|refine Yg ?_|refine Yk (r1.pu rfl rfl) ?_);conv=>whnf|(refine Ya ?_ ?_<;>intro _<;>conv=>whnf)
    all_goals try (refine Or.inl ?_;conv=>whnf)
   all_goals try exact (bnl ‹_› d5).elim
   all_goals try exact (bnl d8 ‹_›).elim
   all_goals refine⟨[],?_⟩
   repeat any_goals first|exact T0|exact rfl|exact Yr|refine Ya ?_ ?_
   all_goals conv=>whnf
  |true=>
   rw[hr] at r1
   rw[Bool.true_and]
   conv=>whnf
   iterate 7
    repeat' first|exact T0|(first|refine Yd fun _=>?_|refine Ye fun _=>?_|refine Yg ?_|refine Yk (r1.pu rfl rfl) ?_);conv=>whnf|(refine Ya ?_ ?_<;>intro _<;>conv=>whnf)
    all_goals try (refine Or.inl ?_;conv=>whnf)
   all_goals try exact (bnl ‹_› d5).elim
   all_goals try exact (bnl d8 ‹_›).elim
   all_goals refine⟨[],?_⟩
   repeat any_goals first|exact T0|exact rfl|exact Yr|refine Ya ?_ ?_
   all_goals conv=>whnf
   exact congrArg (fun z=>bA z) (by rw[hmd];exact decide_eq_decide.2 (by omega))
 have d8:((k:Int) == 8)=false:=by rw[hk8,decide_eq_false q8]
 have el:lastB ⟨k,a,e,b,c,g,s,n,t,w,ev,(nm,lb),d⟩ k=(decide (nm=[]) && (decide (lb=[]) && decide (d=[]))):=if_neg q8
 rw[el]
 have hl0:((((lb.map labR).length:Nat):Int) == 0)=decide (lb=[]):=by
  rw[Bool.eq_iff_iff,beq_iff_eq,decide_eq_true_eq,hml];constructor
  ·intro h;exact List.eq_nil_of_length_eq_zero (by omega)
  ·intro h;rw[h];rfl
 have hd0:((((d.map bR).length:Nat):Int) == 0)=decide (d=[]):=by
  rw[Bool.eq_iff_iff,beq_iff_eq,decide_eq_true_eq,hmd];constructor
  ·intro h;exact List.eq_nil_of_length_eq_zero (by omega)
  ·intro h;rw[h];rfl
 have dn:decide ((⟨nm.toArray⟩:ByteArray)=⟨(([]:Bt)).toArray⟩)=decide (nm=[]):=decide_eq_decide.2 t_inj
 conv=>whnf
 cases h1:decide (nm=[]) with
 |false=>
  rw[h1] at dn
  iterate 9
   repeat' first|exact T0|(first|refine Yd fun _=>?_|refine Ye fun _=>?_|refine Yg ?_|refine Yk (eqT) ?_);conv=>whnf|(refine Ya ?_ ?_<;>intro _<;>conv=>whnf)
   all_goals try (refine Or.inl ?_;conv=>whnf)
  all_goals try exact (bnl ‹_› d5).elim
  all_goals try exact (bnl ‹_› d8).elim
  all_goals try exact (bnl ‹_› dn).elim
  all_goals refine⟨[],?_⟩
  repeat any_goals first|exact T0|exact rfl|exact Yr|refine Ya ?_ ?_
  all_goals conv=>whnf
 |true=>
  rw[h1] at dn
  rw[Bool.true_and]
  cases h2:decide (lb=[]) with
  |false=>
   rw[h2] at hl0
   iterate 9
    repeat' first|exact T0|(first|refine Yd fun _=>?_|refine Ye fun _=>?_|refine Yg ?_|refine Yk (eqT) ?_);conv=>whnf|(refine Ya ?_ ?_<;>intro _<;>conv=>whnf)
    all_goals try (refine Or.inl ?_;conv=>whnf)
   all_goals try exact (bnl ‹_› d5).elim
   all_goals try exact (bnl ‹_› d8).elim
   all_goals try exact (bnl dn ‹_›).elim
   all_goals try exact (bnl ‹_› hl0).elim
   all_goals refine⟨[],?_⟩
   repeat any_goals first|exact T0|exact rfl|exact Yr|refine Ya ?_ ?_
   all_goals conv=>whnf
  |true=>
   rw[h2] at hl0
   rw[Bool.true_and,←hd0]
   iterate 9
    repeat' first|exact T0|(first|refine Yd fun _=>?_|refine Ye fun _=>?_|refine Yg ?_|refine Yk (eqT) ?_);conv=>whnf|(refine Ya ?_ ?_<;>intro _<;>conv=>whnf)
    all_goals try (refine Or.inl ?_;conv=>whnf)
   all_goals try exact (bnl ‹_› d5).elim
   all_goals try exact (bnl ‹_› d8).elim
   all_goals try exact (bnl dn ‹_›).elim
   all_goals try exact (bnl hl0 ‹_›).elim
   all_goals refine⟨[],?_⟩
   repeat any_goals first|exact T0|exact rfl|exact Yr|refine Ya ?_ ?_
   all_goals conv=>whnf
theorem rRight_no (f:Fr) (h:f.k<1∨8<f.k):Sat Tryz.prog 65 [.d (frD f)] [] (bA false) []:=by
 obtain⟨kk,a,e,b,c,g,s,n,t,w,ev,⟨nm,lb⟩,d⟩:=f
 have h0:=has_no kk h
 refine Vq Tryz.func65 rfl rfl ?_
 conv=>whnf
 iterate 5
  repeat' first|exact T0|(first|refine Yd fun _=>?_|refine Ye fun _=>?_|refine Yg ?_|refine Yk (h0.pu rfl rfl) ?_|refine Yk (eqT) ?_);conv=>whnf|(refine Ya ?_ ?_<;>intro _<;>conv=>whnf)
  all_goals try (refine Or.inl ?_;conv=>whnf)
 all_goals try exact absurd ‹decide _=false› (by decide)
 all_goals refine⟨[],?_⟩
 repeat any_goals first|exact T0|exact rfl|exact Yr|refine Ya ?_ ?_
 all_goals conv=>whnf
theorem rRight9_sat (f:Fr) (hf:FrOk f):Sat Tryz.prog 65 [.d (frD f)] [] (bA (rightF f)) []:=by
 by_cases h:1≤f.k∧f.k≤8
 ·obtain⟨k,hk⟩:∃ k:Nat,f.k=k:=⟨f.k.toNat,by omega⟩
  rw[←refB_right f k hk (by omega) (by omega)]
  exact rRightK f k (by omega) (by omega) hk hf
 ·have e:rightF f=false:=if_neg h
  rw[e]
  exact rRight_no f (by omega)
end Go.Proofs.YtfbfpnfgabamfaaGreat
namespace Go.Proofs.YtfbfpnfgabamfaaGreat
set_option linter.unusedSimpArgs false
open Go.RowKit
set_option linter.unusedVariables false
theorem spell_bit0 (r:Nat) (h:r<4294967296) (h0:r % 2=0):((r:Int) / 2)=((bitN r:Nat):Int):=by
 unfold bitN;rw[if_neg (by omega)];simp
theorem spell_bit1 (r:Nat) (h:r<4294967296) (h0:r % 2=1):bits BinOp.xor IntKind.u32 ((r:Int) / 2) 3988292384=((bitN r:Nat):Int):=by
 have:=u32_xor_nat (r / 2) 3988292384 (by omega) (by omega)
 unfold bitN;rw[if_pos h0];simpa using this
theorem refSum_any (A:Option Addr) (n c:Nat) (l:List UInt8) (w:World) (hr:RdB w w.heap.size A n l) (hn:n≤140737488351232) :
  Calls Tryz.prog 105 #[.slice A n c] w fun e w'=>e=.returned (.int .u32 (sumN l:Nat))∧w=w':=by
 have hlen:=RdB.len hr
 go_enter Tryz.func105,Tryz.ntmps105
 go_wp2
 go_loop [3,4,5,6] (fun s3 i _ _=>∃ j:Nat,j≤n∧i=.int .i64 j∧s3=.int .u32 (regN 4294967295 (l.take j):Nat)) (fun _ i _ _=>n-(intOf i).toNat)
 case atStart=>exact⟨0,Nat.zero_le _,rfl,rfl⟩
 case round=>
  obtain⟨j,hj,rfl,rfl⟩:=hrel
  have hlt2:=regN_lt (l.take j) (r:=4294967295) (by omega)
  generalize hS:regN 4294967295 (l.take j)=S at hlt2 ⊢
  have HS:=hide hS
  clear hS
  by_cases hj1:j<n
  ·obtain⟨b',off',rfl,hb',hc'⟩:=RdB.cell hr hj1
   have hj2:j<l.length:=by omega
   have hx:=(l[j]).toNat_lt
   have hsp:=spell_byte S l[j] hlt2
   have hlt3:=xor_byte_lt hlt2 l[j]
   go_wp2
   go_loop [3,5,6] (fun s3 i _=>∃ q:Nat,q≤8∧i=.int .i64 q∧s3=.int .u32 (bitsN q (S ^^^ (l[j]).toNat):Nat)) (fun _ i _=>8-(intOf i).toNat)
   case atStart=>exact⟨0,Nat.zero_le _,rfl,rfl⟩
   case round=>
    obtain⟨q,hq,rfl,rfl⟩:=hrel
    have hlt4:=bitsN_lt hlt3 q
    clear hsp
    generalize hT:bitsN q (S ^^^ (l[j]).toNat)=T at hlt4 ⊢
    have HT:=hide hT
    clear hT
    by_cases hq1:q<8
    ·rcases Nat.mod_two_eq_zero_or_one T with h0|h0
     ·have hb:((T:Int) % 2 == 1)=false:=by simp;omega
      have HE:=hide h0
      clear h0
      go_wp2
      go_round
      case rel=>exact⟨q+1,by omega,by go_num,by rw[show bitsN (q+1) (S ^^^ l[j].toNat)=bitN T from by rw[←HT.out];rfl,spell_bit0 T hlt4 HE.out]⟩
      case measure=>simp[intOf];omega
     ·have hb:((T:Int) % 2 == 1)=true:=by simp;omega
      have HE:=hide h0
      clear h0
      go_wp2
      go_round
      case rel=>exact⟨q+1,by omega,by go_num,by rw[show bitsN (q+1) (S ^^^ l[j].toNat)=bitN T from by rw[←HT.out];rfl,spell_bit1 T hlt4 HE.out]⟩
      case measure=>simp[intOf];omega
    ·go_wp2
     go_round
     case rel=>
      refine⟨j+1,by omega,by go_num,?_⟩
      obtain rfl:q=8:=by omega
      rw[List.take_succ_eq_append_getElem hj2,regN_snoc,HS.out,←HT.out]
      rfl
     case measure=>simp[intOf];omega
  ·go_wp2
   go_ret
   have HF:regN 4294967295 l=S:=by rw[←HS.out,List.take_of_length_le (by omega)]
   refine⟨ret_int ?_,rfl⟩
   unfold sumN
   rw[HF]
   exact spell_full S hlt2
theorem refSeal_any (A:Option Addr) (n c:Nat) (l:List UInt8) (w:World) (hr:RdB w w.heap.size A n l) (hn:n≤70368744175616) :
  Calls Tryz.prog 72 #[.slice A n c] w fun e w'=>∃ v,e=.returned v∧Ow w' w.heap.size 5 1 v (n+4) ((l++le4 (sumN l)).map bv)∧Below w.heap.size w w':=by
 obtain⟨i0,hi0,hz0,hz1,hz2⟩:=info_parts Tryz.info8
 have hlt:=sumN_lt l
 have hle:=le4_spelled (sumN l) hlt
 have HLE:=hide hle
 clear hle
 go_enter Tryz.func72,Tryz.ntmps72
 go_wp2_with (first
 |(go_at_call 105;refine (refSum_any A n c l _ hr (by omega)).mono ?_;rintro e w' ⟨rfl,rfl⟩)
 |(at_builtin;refine wpList_append_ow _ rfl (.tmp 6) (.tmp 7) _ rfl w.heap.size 5 i0 _ 1 1 Tryz.underlying36 hi0 hz0 hz1 hz2 rfl (by omega) (.slice (some ⟨w.heap.size,0,none⟩) 0 0) 0 [] rfl (Ow.lit w #[] 0 (Nat.le_refl _) (by simp[maxLen]) rfl) w.heap.size A n c (l.map bv) rfl (hr.alloc (Nat.le_refl _) _) (bvs_one l) (by simp only[maxLen];omega) (by omega) (by simp) ?_;intro v1 w1 hown1 hg1 hat1 hnn1)
 |(at_builtin;refine wpList_append_ow _ rfl (.tmp 8) (.tmp 20) _ rfl w.heap.size 5 i0 _ 1 1 Tryz.underlying36 hi0 hz0 hz1 hz2 rfl (by omega) v1 (0+n) ([]++l.map bv) rfl (hown1.alloc _) (w1.heap.size+1) (some ⟨w1.heap.size,0,none⟩) 4 4 ((le4 (sumN l)).map bv) rfl (by rw[←HLE.out];exact Rd.lit _ _ _ _ _ (by simp[maxLen]) rfl) (bvs_one _) (by simp only[maxLen];omega) (by omega) (by have:=hg1.size;simp at this ⊢;omega) ?_;intro v2 w2 hown2 hg2 hat2 hnn2))
 go_ret
 have hb1:Below w.heap.size w w1:=((Below.refl _ _).alloc (Nat.le_refl _) _).grown hg1 (by simp) (by simp[Value.ownBlock])
 refine⟨_,rfl,?_,?_⟩
 ·rw[List.map_append]
  simpa using hown2
 ·exact (hb1.alloc hb1.size _).grown hg2 (by have:=hb1.size;simp;omega) (fun k hk=>hown1.lt k hk)
theorem drop_eq_of {l t:List UInt8} {m:Nat} (hl:l.length=m+t.length) (h:∀ j (hj:j<t.length),l[m+j]?=some t[j]):l.drop m=t:=by
 apply List.ext_getElem (by rw[List.length_drop];omega)
 intro j h1 h2
 rw[List.getElem_drop]
 have:=h j h2
 rw[List.getElem?_eq_getElem (by omega)] at this
 injection this
theorem refOpen_any (A:Option Addr) (n c:Nat) (l:List UInt8) (w:World) (hr:RdB w w.heap.size A n l) (hc:n≤c) (hcm:c≤maxLen) (hn:n≤70368744175616) :
  Calls Tryz.prog 110 #[.slice A n c] w fun e w'=>∃ v,e=.returned (.tuple #[v,.int .i64 (openErr l)])∧Ow w' w.heap.size 5 1 v (openBody l).length ((openBody l).map bv)∧Below w.heap.size w w':=by
 have hlen:=RdB.len hr
 unfold maxLen at hcm
 by_cases h4:n<4
 ·have e1:openErr l=15:=by unfold openErr;rw[if_pos (by omega)]
  have e2:openBody l=[]:=by unfold openBody openOk;rw[if_neg (by simp;omega)]
  rw[e1,e2]
  go_enter Tryz.func110,Tryz.ntmps110
  go_wp2
  go_ret2
  exact⟨_,rfl,Ow.nil _ _ _ _,Below.refl _ _⟩
 ·obtain⟨m,rfl⟩:∃ m,n=m+4:=⟨n-4,by omega⟩
  have hl:l.length=m+4:=by omega
  have hsub:m+4-4=m:=by omega
  have hok:openOk l=decide (l.drop m=le4 (sumN (l.take m))):=by
   unfold openOk
   rw[hl,hsub]
   simp
  have hrm:RdB w w.heap.size A m (l.take m):=by
   have:=hr.take (k:=m) (by omega)
   rwa [Nat.mul_one,←List.map_take] at this
  have herr:openErr l=if openOk l then 0 else 14:=by unfold openErr;rw[if_neg (by omega)]
  have hbody:openBody l=if openOk l then l.take m else []:=by unfold openBody;rw[hl,hsub]
  have HOK:=hide hok
  have HERR:=hide herr
  have HBODY:=hide hbody
  have HL:=hide hl
  have HLEN:=hide hlen
  clear hsub hok herr hbody hl hlen
  have hlm:(l.take m).length=m:=by rw[List.length_take,HL.out];omega
  have HLM:=hide hlm
  clear hlm
  obtain⟨b,off,rfl,_⟩:=hr.at_ (k:=0) (by omega)
  go_enter Tryz.func110,Tryz.ntmps110
  go_wp2_with fail
  refine (refSeal_any _ m c (l.take m) _ hrm (by omega)).mono ?_
  rintro e w1 ⟨v1,rfl,hown1,hb1⟩
  obtain⟨g,og,cg,rfl,hg,_⟩:=hown1.open_ (by omega)
  have hrs:=hown1.rd
  have hcg:=hown1.caps
  have hr1:=hr.below hb1
  have hcg2:=hcg.2
  unfold maxLen at hcg2
  have hcg1:=hcg.1
  go_wp2_with fail
  go_loopw [2,3,6] (fun _ _ i wr=>∃ k:Nat,k≤4∧i=.int .i64 (m+k:Nat)∧(∃ q,wr=w1.drewN q)∧Hid (∀ j,j<k→l[m+j]?=(le4 (sumN (l.take m)))[j]?)) (fun _ _ i _=>m+4-(intOf i).toNat)
  case atStart=>exact⟨0,by omega,by go_num,⟨0,rfl⟩,hide (fun j hj=>by omega)⟩
  case round=>
   obtain⟨k,hk,rfl,⟨q,rfl⟩,HK⟩:=hrel
   have c4:((m+k:Nat):Int)=(m:Int)+(k:Int):=by omega
   rw[c4]
   clear c4
   by_cases hk4:k<4
   ·have hlk:m+k<l.length:=by rw[HL.out];omega
    obtain⟨_,_,e1,_,hcs⟩:=RdB.cell hrs (k:=m+k) (by omega)
    injection e1 with e1
    injection e1 with e1 e2
    subst e1;subst e2
    obtain⟨_,_,e1,_,hcb⟩:=RdB.cell hr1 (k:=m+k) (by omega)
    injection e1 with e1
    injection e1 with e1 e2
    subst e1;subst e2
    have hsel:((l.take m++le4 (sumN (l.take m)))[m+k]'(by rw[List.length_append,HLM.out];simp[le4];omega))=(le4 (sumN (l.take m)))[k]'(by simp[le4];omega):=by
     rw[List.getElem_append_right (by rw[HLM.out];omega)]
     congr 1
     rw[HLM.out];omega
    rw[hsel] at hcs
    have hk5:k<(le4 (sumN (l.take m))).length:=by simp[le4];omega
    have HS:=hide hsel
    clear hsel
    have hgz:(le4 (sumN (l.take m)))[k]?=some ((le4 (sumN (l.take m)))[k]):=List.getElem?_eq_getElem hk5
    have hgl:l[m+k]?=some l[m+k]:=List.getElem?_eq_getElem hlk
    have hiff:l[m+k]?=(le4 (sumN (l.take m)))[k]?↔l[m+k]=(le4 (sumN (l.take m)))[k]:=by rw[hgz,hgl];simp
    have HIFF:=hide hiff
    clear hiff hgz hgl
    generalize (le4 (sumN (l.take m)))[k]=y at hcs HIFF
    generalize l[m+k]=x at hcb HIFF
    have b0:=x.toNat_lt
    have b1:=y.toNat_lt
    clear hrs hr1 hown1
    by_cases he:y=x
    ·have hb2:=toNat_eqb he
     have HE:=hide he
     clear he
     go_wp2_with fail
     go_quiet (fail)
     go_wp2
     go_roundw
     case rel=>exact⟨k+1,by omega,by go_num,⟨_,rfl⟩,hide (fun j hj=>by
      rcases Nat.lt_succ_iff_lt_or_eq.1 hj with h|h
      ·exact HK.out j h
      ·subst h;exact HIFF.out.2 HE.out.symm)⟩
     case measure=>simp[intOf];omega
    ·have hb2:=toNat_ne he
     have HE:=hide he
     clear he
     go_wp2_with fail
     go_quiet (fail)
     go_wp2
     go_ret2
     have hf:openOk l=false:=by
      rw[HOK.out]
      apply decide_eq_false
      intro hd
      apply HE.out
      have:(l.drop m)[k]?=(le4 (sumN (l.take m)))[k]?:=by rw[hd]
      rw[List.getElem?_drop] at this
      exact (HIFF.out.1 this).symm
     rw[HERR.out,HBODY.out,hf]
     exact⟨_,rfl,Ow.nil _ _ _ _,below_drewN (below_drewN hb1 _) _⟩
   ·have h44:k=4:=by omega
    have hT:openOk l=true:=by
     rw[HOK.out]
     apply decide_eq_true
     apply drop_eq_of (by rw[HL.out];simp[le4])
     intro j hj
     rw[HK.out j (by simp[le4] at hj;omega),List.getElem?_eq_getElem hj]
    have HT:=hide hT
    clear hT
    have HO:=hide hown1
    clear hown1 hrs hr1 h44
    go_wp2_with fail
    go_ret2
    rw[HERR.out,HBODY.out,HT.out]
    refine⟨_,rfl,?_,below_drewN hb1 _⟩
    have:=(HO.out.take (k:=m) (by omega) (by simp)).drewN q
    simp only[if_true]
    rw[HLM.out]
    rw[Nat.mul_one,←List.map_take,List.take_left' HLM.out] at this
    exact this
end Go.Proofs.YtfbfpnfgabamfaaGreat
namespace Go.Proofs.YtfbfpnfgabamfaaGreat
set_option linter.unusedSimpArgs false
open Go.RowKit
set_option maxRecDepth 100000
set_option linter.unusedVariables false
theorem rSeal_sat (l:Bt) (hl:l.length≤100000000):Sat Tryz.prog 72 [.d (bsD l)] [] (.own 0) [.sl 1 ((sealT l).map bR)]:=by
 intro F ρ w vals En hv
 obtain⟨v,rfl,hv'⟩:=hv.one_out
 cases hv' with|d hv=>
 obtain⟨A1,c1,rfl,k1,k2,k3⟩:=hv.sl_rd En.fb (bR_flats l)
 rw[List.length_map] at k1 k3 ⊢
 refine (refSeal_any A1 _ c1 l w k3 (by omega)).mono ?_
 rintro x w' ⟨v,rfl,how,hb⟩
 have hlen:((sealT l).map bR).length=l.length+4:=by rw[List.length_map,sealT_len]
 refine⟨v,rfl,own_ret En (bR_flats _) one_len (by rw[hlen];omega) (by rw[hlen];exact how) hb⟩
theorem rOpen_sat (l:Bt) (hl:l.length≤100000000):Sat Tryz.prog 110 [.d (bsD l)] [] (.tup [.d (bsD (openBody l)),iA (openErr l)]) []:=by
 intro F ρ w vals En hv
 obtain⟨v,rfl,hv'⟩:=hv.one_out
 cases hv' with|d hv=>
 obtain⟨A1,c1,rfl,k1,k2,k3⟩:=hv.sl_rd En.fb (bR_flats l)
 rw[List.length_map] at k1 k3 ⊢
 refine (refOpen_any A1 _ c1 l w k3 k1 k2 (by omega)).mono ?_
 rintro x w' ⟨v,rfl,how,hb⟩
 obtain⟨F1,ρ1,S,K,E,R⟩:=data_ret En (bR_flats (openBody l)) one_len (by rw[List.length_map];exact how) hb
 exact⟨_,rfl,F1,ρ1,S,K,E,.tup (.cons (.d R) (.cons (.d (.v _)) .nil))⟩
theorem u64_nn {z:Int} (h0:0≤z) (h1:z≤4611686018427387903):IntKind.u64.wrap z=(z.toNat:Int):=by
 have h2:IntKind.u64.wrap z=z % 18446744073709551616:=rfl
 rw[h2];omega
theorem rUintZ (z:Int) (h0:0≤z) (h1:z≤4611686018427387903):Sat Tryz.prog 66 [.d (.v (.int .u64 (IntKind.u64.wrap z)))] [] (.own 0) [.sl 1 ((enc z.toNat).map bR)]:=by
 rw[u64_nn h0 h1]
 exact rUint_sat _ (by omega)
abbrev frB (k i:Nat) (s:Rs):List AV:=[iA k,iA (vb k i s 1),iA (vb k i s 2),iA (vb k i s 3),iA (vb k i s 4),iA (vb k i s 5),iA (vb k i s 6),iA (vb k i s 7),iA (vb k i s 8),iA (vb k i s 9),.d nilV,.d (tD []),.d nilV,.d nilV]
theorem rRight_pre (f:Fr) (hf:FrOk f) {xs:List D} (hn:nilLe xs (frR f)):Sat Tryz.prog 65 [.d (.agg xs)] [] (bA (rightF f)) []:=
 (rRight9_sat f hf).pre fun w F ρ vs h=>by
  cases h with|cons h1 h2=>
  cases h1 with|d h1=>exact .cons (.d (h1.nilLe hn)) h2
theorem has_idx:∀ k≤8,∀ i<6,i<(idxK k).length→(hasT k)[i]?=some (ltrN ((idxK k)[i]?.getD 0))∧1≤(idxK k)[i]?.getD 0∧(idxK k)[i]?.getD 0≤9:=by decide
theorem has_len:∀ k≤7,1≤k→(idxK k).length≤6∧(hasT k).length=(idxK k).length+(if k=5 then 1 else 0):=by decide
theorem has_at {k i:Nat} (h8:k≤8) (h6:(idxK k).length≤6) (hi:i<(idxK k).length):∃ j,(idxK k)[i]?=some j∧(hasT k)[i]?=some (ltrN j)∧1≤j∧j≤9:=by
 have h:=has_idx k h8 i (by omega) hi
 rw[List.getElem?_eq_getElem hi] at h
 exact⟨_,List.getElem?_eq_getElem hi,h⟩
theorem rInt_sat (z:Int) (h:in64 z):Sat Tryz.prog 68 [iA z] [] (.own 0) [.sl 1 ((enc (turnN z)).map bR)]:=
 .ownNewF (e:=5) (by repeat constructor) (bR_flats _) one_len (by rw[List.length_map];exact (enc_lens _).1) fun w=>by
  rw[List.length_map]
  exact refInt_any z w h.1 h.2
def oT (f:Fr) (k i:Nat):Bt:=enc k++fldT ((valsK f k).take i)++(if i≤(idxK k).length then [] else extT f k)
theorem oT_le {f:Fr} {k i:Nat} (h:i≤(idxK k).length):oT f k i=enc k++fldT ((valsK f k).take i):=by unfold oT;rw[if_pos h,List.append_nil]
theorem oT_next {f:Fr} {k i j:Nat} (h:(idxK k)[i]?=some j):oT f k (i+1)=oT f k i++enc (getN f j).toNat:=by
 have hi:=(List.getElem?_eq_some_iff.1 h).1
 rw[oT_le hi,oT_le (by omega)]
 unfold valsK
 rw[List.take_add_one,List.getElem?_map,h]
 simp[fldT]
theorem oT_end {f:Fr} {k:Nat} (h1:1≤k) (h7:k≤7):oT f k (hasT k).length=frT f k:=by
 have hc:k=1∨k=2∨k=3∨k=4∨k=5∨k=6∨k=7:=by omega
 rcases hc with rfl|rfl|rfl|rfl|rfl|rfl|rfl<;>simp[oT,hasT,idxK,frT,extT,valsK]
theorem u64_k {k:Nat} (h:k≤100000):Sat Tryz.prog 66 [.d (.v (.int .u64 (IntKind.u64.wrap (k:Int))))] [] (.own 0) [.sl 1 ((enc k).map bR)]:=by
 have:=rUintZ (k:Int) (by omega) (by omega)
 rwa [Int.toNat_natCast] at this
set_option maxHeartbeats 16000000 in
theorem rEncodeK (f:Fr) (k:Nat) (h1:1≤k) (h7:k≤7) (hk:f.k=k) (hf:FrOk f) (hz:∀ x∈f.ev,in64 x.2.1) (hr:rightF f=true) (r:AV) (H':List AObj)
  (hE:(encodeT f).length≤65536∧r=.tup [.own 0,iA 0]∧H'=[.sl 1 ((encodeT f).map bR)]∨65536<(encodeT f).length∧r=.tup [.d nilV,iA 17]∧H'=[]) :
  Sat Tryz.prog 31 [.d (frD f)] [] r H':=by
 have r1:=rRight9_sat f hf
 rw[hr] at r1
 have hrk:=rightF_k hk h1 (by omega) hr
 obtain⟨hho,hv,hx,hsm⟩:=right_parts hrk
 have h0:=has_sat k h1 (by omega)
 obtain⟨hm6,hhl⟩:=has_len k h7 h1
 have hT:encodeT f=sealT (oT f k (hasT k).length):=by
  unfold encodeT
  rw[hk,Int.toNat_natCast,oT_end h1 h7]
 rw[hT] at hE
 have hle:∀ i,i≤(idxK k).length→(oT f k i).length≤1000:=fun i hi=>by
  rw[oT_le hi]
  have h1:=fldT_len ((valsK f k).take i)
  have h2:=valsK_len f k
  have h3:=enc_lens k
  rw[List.length_take] at h1
  rw[List.length_append];omega
 have h5v:k=5→f.ev.length≤64∧∀ x∈f.ev,0≤x.1∧x.1≤4611686018427387903:=fun h5=>by
  subst h5
  have hx:batchB f.n f.ev=true:=hx
  simp only[batchB,Bool.and_eq_true,decide_eq_true_eq] at hx
  obtain⟨hn1,hn2,hn3,hn4⟩:=hx
  refine⟨hn2,fun x hx=>?_⟩
  have:=List.all_eq_true.1 hn4 x hx
  simp only[evOk,Bool.and_eq_true] at this
  exact rngB_iff.1 this.1
 have hLb:(oT f k (hasT k).length).length≤100000000:=by
  rw[oT_end h1 h7]
  by_cases h5:k=5
  ·have:=(h5v h5).1
   subst h5
   have:=frT_len5 f
   omega
  ·have hd:f.d=[]:=by
    rw[congrArg Fr.d (sameB_iff.1 hsm)]
    exact if_neg (by omega)
   have:=frT_len f k h5 (by rw[hd];decide)
   omega
 have sl:=rSeal_sat _ hLb
 have u0:=u64_k (k:=k) (by omega)
 have hsz:(⟨(hasT k).toArray⟩:ByteArray).size=(hasT k).length:=tsz _
 clear hT hho hx hsm hrk hr
 obtain⟨kk,a,e,b,c,g,s,n,t,w,ev,sr,d⟩:=f
 have hk:kk=k:=hk
 subst hk
 refine Vq Tryz.func31 rfl rfl ?_
 conv=>whnf
 iterate 6
  repeat' first|exact T0|(first|refine Yd fun _=>?_|refine Ye fun _=>?_|refine Yg ?_|refine Yk (r1.pu rfl rfl) ?_|refine Yk (u0.nw rfl) ?_|refine Yk (h0.pu rfl rfl) ?_);conv=>whnf|(refine Ya ?_ ?_<;>intro _<;>conv=>whnf)
  all_goals try (refine Or.inl ?_;conv=>whnf)
 refine⟨Nat,fun i=>i≤(hasT k).length,fun i=>([(6,iA i),(5,.d (tD (hasT k))),(4,.own 1),(1,.ptr 0 0)],[.cells (frA ⟨k,a,e,b,c,g,s,n,t,w,ev,sr,d⟩),.sl 1 ((oT ⟨k,a,e,b,c,g,s,n,t,w,ev,sr,d⟩ k i).map bR)]),fun i=>(hasT k).length-i,⟨0,Nat.zero_le _,?_⟩,?_⟩
 ·all_goals refine⟨[],?_⟩
  repeat any_goals first|exact T0|exact rfl|exact Yr|refine Ya ?_ ?_
  all_goals conv=>whnf
  exact congrArg (fun l:Bt=>AObj.sl 1 (l.map bR)) (show enc k=oT ⟨k,a,e,b,c,g,s,n,t,w,ev,sr,d⟩ k 0 by rw[oT_le (Nat.zero_le _)];simp[fldT])
 intro i hi
 have hi:i≤(hasT k).length:=hi
 by_cases him:i<(idxK k).length
 ·have d1:decide ((i:Int)<((⟨(hasT k).toArray⟩:ByteArray).size:Nat))=true:=decide_eq_true (by rw[hsz];omega)
  obtain⟨j,hj,hz1,hj1,hj9⟩:=has_at (by omega) hm6 him
  obtain⟨qz,ez⟩:=ix_get hz1
  have hnx:=oT_next (f:=⟨k,a,e,b,c,g,s,n,t,w,ev,sr,d⟩) hj
  have hvj:=hv (getN ⟨k,a,e,b,c,g,s,n,t,w,ev,sr,d⟩ j) (List.mem_map.2 ⟨j,List.mem_of_getElem? hj,rfl⟩)
  have u1:=rUintZ _ hvj.1 hvj.2
  have hap:(oT ⟨k,a,e,b,c,g,s,n,t,w,ev,sr,d⟩ k i).length+(enc (getN ⟨k,a,e,b,c,g,s,n,t,w,ev,sr,d⟩ j).toNat).length≤100000:=by
   have h1:=hle i (by omega)
   have h2:=enc_lens (getN ⟨k,a,e,b,c,g,s,n,t,w,ev,sr,d⟩ j).toNat
   omega
  have n1:=number_sat ⟨k,a,e,b,c,g,s,n,t,w,ev,sr,d⟩ j hj1 hj9
  have hjj:j=1∨j=2∨j=3∨j=4∨j=5∨j=6∨j=7∨j=8∨j=9:=by omega
  conv=>whnf
  rcases hjj with rfl|rfl|rfl|rfl|rfl|rfl|rfl|rfl|rfl
  all_goals
   iterate 9
    repeat' first|exact T0|(first|(refine⟨i,qz,rfl,?_⟩;rw[ez])|refine Yd fun _=>?_|refine Ye fun _=>?_|refine Yg ?_|refine Yk (n1.at1 0 rfl rfl rfl) ?_|refine Yk (u1.nw rfl) ?_|refine Yk (ap1 rfl rfl hap) ?_);conv=>whnf|(refine Ya ?_ ?_<;>intro _<;>conv=>whnf)
    all_goals try (refine Or.inl ?_;conv=>whnf)
   all_goals try exact (bnl d1 ‹_›).elim
   refine⟨i+1,show i+1≤(hasT k).length by omega,show (hasT k).length-(i+1)<(hasT k).length-i by omega,?_⟩
   all_goals refine⟨[(1,3)],?_⟩
   repeat any_goals first|exact T0|exact rfl|exact Yr|refine Ya ?_ ?_
   all_goals conv=>whnf
   ·exact wk1 (by omega)
   ·exact congrArg (fun l=>AObj.sl 1 (List.map bR l)) hnx.symm
 by_cases hiL:i<(hasT k).length
 case neg=>
  obtain rfl:i=(hasT k).length:=by omega
  have d1:decide (((hasT k).length:Int)<((⟨(hasT k).toArray⟩:ByteArray).size:Nat))=false:=decide_eq_false (by rw[hsz];omega)
  have hsl:((sealT (oT ⟨k,a,e,b,c,g,s,n,t,w,ev,sr,d⟩ k (hasT k).length)).map bR).length=(sealT (oT ⟨k,a,e,b,c,g,s,n,t,w,ev,sr,d⟩ k (hasT k).length)).length:=List.length_map _
  have se:CallOK Tryz.prog 72 [.own 1] [.cells (frA ⟨k,a,e,b,c,g,s,n,t,w,ev,sr,d⟩),.sl 1 ((oT ⟨k,a,e,b,c,g,s,n,t,w,ev,sr,d⟩ k (hasT k).length).map bR)] 2 ⟨[1],[],[.sl 1 ((sealT (oT ⟨k,a,e,b,c,g,s,n,t,w,ev,sr,d⟩ k (hasT k).length)).map bR)]⟩ (.own 2):=lendON sl rfl (bR_flats _)
  rcases hE with⟨hL,rfl,rfl⟩|⟨hL,rfl,rfl⟩
  ·have d9:decide ((((sealT (oT ⟨k,a,e,b,c,g,s,n,t,w,ev,sr,d⟩ k (hasT k).length)).map bR).length:Int)>65536)=false:=decide_eq_false (by omega)
   conv=>whnf
   iterate 6
    repeat' first|exact T0|(first|refine Yd fun _=>?_|refine Ye fun _=>?_|refine Yg ?_|refine Yk (se) ?_);conv=>whnf|(refine Ya ?_ ?_<;>intro _<;>conv=>whnf)
    all_goals try (refine Or.inl ?_;conv=>whnf)
   all_goals try exact (bnl ‹_› d1).elim
   all_goals try exact (bnl ‹_› d9).elim
   all_goals refine⟨[(0,2)],?_⟩
   repeat any_goals first|exact T0|exact rfl|exact Yr|refine Ya ?_ ?_
   all_goals conv=>whnf
  ·have d9:decide ((((sealT (oT ⟨k,a,e,b,c,g,s,n,t,w,ev,sr,d⟩ k (hasT k).length)).map bR).length:Int)>65536)=true:=decide_eq_true (by omega)
   conv=>whnf
   iterate 6
    repeat' first|exact T0|(first|refine Yd fun _=>?_|refine Ye fun _=>?_|refine Yg ?_|refine Yk (se) ?_);conv=>whnf|(refine Ya ?_ ?_<;>intro _<;>conv=>whnf)
    all_goals try (refine Or.inl ?_;conv=>whnf)
   all_goals try exact (bnl ‹_› d1).elim
   all_goals try exact (bnl d9 ‹_›).elim
   all_goals refine⟨[],?_⟩
   repeat any_goals first|exact T0|exact rfl|exact Yr|refine Ya ?_ ?_
   all_goals conv=>whnf
 obtain rfl:k=5:=by
  by_cases h5:k=5
  ·exact h5
  ·rw[if_neg h5] at hhl;omega
 obtain rfl:i=3:=by
  have h4:(idxK 5).length=3:=rfl
  have h5:(hasT 5).length=4:=rfl
  omega
 obtain⟨hn2,hev⟩:=h5v rfl
 have hn2:ev.length≤64:=hn2
 have hm:(ev.map evR).length=ev.length:=List.length_map _
 have u9:Sat Tryz.prog 66 [.d (.v (.int .u64 (IntKind.u64.wrap ((ev.map evR).length:Int))))] [] (.own 0) [.sl 1 ((enc ev.length).map bR)]:=by
  rw[hm];exact u64_k (by omega)
 have h3:=hle 3 (by decide)
 have h4:=enc_lens ev.length
 have hB:∀ q,(oT ⟨5,a,e,b,c,g,s,n,t,w,ev,sr,d⟩ 5 3++enc ev.length++evsT (ev.take q)).length≤200000:=fun q=>by
  have:=evsT_len (ev.take q)
  rw[List.length_take] at this
  have h3:(oT ⟨5,a,e,b,c,g,s,n,t,w,ev,sr,d⟩ 5 3).length≤1000:=h3
  rw[List.length_append,List.length_append];omega
 have hend:oT ⟨5,a,e,b,c,g,s,n,t,w,ev,sr,d⟩ 5 4=oT ⟨5,a,e,b,c,g,s,n,t,w,ev,sr,d⟩ 5 3++enc ev.length++evsT ev:=by simp[oT,idxK,valsK,extT]
 have h9:(oT ⟨5,a,e,b,c,g,s,n,t,w,ev,sr,d⟩ 5 3).length+(enc ev.length).length≤100000:=by
  have h3:(oT ⟨5,a,e,b,c,g,s,n,t,w,ev,sr,d⟩ 5 3).length≤1000:=h3
  omega
 conv=>whnf
 iterate 6
  repeat' first|exact T0|(first|refine⟨3,(by decide),rfl,?_⟩|refine Yd fun _=>?_|refine Ye fun _=>?_|refine Yg ?_|refine Yk (u9.nw rfl) ?_|refine Yk (ap1 rfl rfl h9) ?_);conv=>whnf|(refine Ya ?_ ?_<;>intro _<;>conv=>whnf)
  all_goals try (refine Or.inl ?_;conv=>whnf)
 generalize hB0:oT ⟨5,a,e,b,c,g,s,n,t,w,ev,sr,d⟩ 5 3++enc ev.length=B0 at *
 refine⟨Nat,fun q=>q≤ev.length,fun q=>([(7,iA q),(6,iA 3),(5,.d (tD (hasT 5))),(4,.own 1),(1,.ptr 0 0)],[.cells (frA ⟨5,a,e,b,c,g,s,n,t,w,ev,sr,d⟩),.sl 1 ((B0++evsT (ev.take q)).map bR)]),fun q=>ev.length-q,⟨0,Nat.zero_le _,?_⟩,?_⟩
 ·all_goals refine⟨[(1,3)],?_⟩
  repeat any_goals first|exact T0|exact rfl|exact Yr|refine Ya ?_ ?_
  all_goals conv=>whnf
  exact congrArg (fun l=>AObj.sl 1 (List.map bR l)) (by simp[evsT])
 intro q hq
 have hq:q≤ev.length:=hq
 conv=>whnf
 by_cases hlt:q<ev.length
 ·have hx:ev[q]?=some ev[q]:=List.getElem?_eq_getElem hlt
  generalize ev[q]=x at hx
  have hmx:=List.mem_of_getElem? hx
  have hgx:=map_get (f:=evR) hx
  have d1:decide ((q:Int)<((ev.map evR).length:Nat))=true:=decide_eq_true (by rw[hm];omega)
  have u1:=rUintZ x.1 (hev x hmx).1 (hev x hmx).2
  have i1:=rInt_sat x.2.1 (hz x hmx)
  have b1:=rBytes_satS x.2.2
  have l1:=enc_lens x.1.toNat
  have l2:=enc_lens (turnN x.2.1)
  have l3:=serT_len x.2.2
  have hbi:=hB q
  have p1:(B0++evsT (ev.take q)).length+(enc x.1.toNat).length≤100000000000:=by omega
  have p2:((B0++evsT (ev.take q))++enc x.1.toNat).length+(enc (turnN x.2.1)).length≤100000000000:=by
   rw[List.length_append (bs:=enc x.1.toNat)];omega
  have p3:(((B0++evsT (ev.take q))++enc x.1.toNat)++enc (turnN x.2.1)).length+(bytesS x.2.2).length≤100000000000:=by
   rw[List.length_append (bs:=enc (turnN x.2.1)),List.length_append (bs:=enc x.1.toNat)];omega
  iterate 6
   repeat' first|exact T0|(first|refine⟨q,_,rfl,hgx,?_⟩|refine Yd fun _=>?_|refine Ye fun _=>?_|refine Yg ?_|refine Yk (u1.nw rfl) ?_|refine Yk (apx rfl rfl p1) ?_|refine Yk (i1.nw rfl) ?_|refine Yk (apx rfl rfl p2) ?_|refine Yk (b1.pu rfl rfl) ?_|refine Yk (apxd rfl p3) ?_);conv=>whnf|(refine Ya ?_ ?_<;>intro _<;>conv=>whnf)
   all_goals try (refine Or.inl ?_;conv=>whnf)
  all_goals try exact (bnl d1 ‹_›).elim
  refine⟨q+1,hlt,show ev.length-(q+1)<ev.length-q by omega,?_⟩
  all_goals refine⟨[(1,6)],?_⟩
  repeat any_goals first|exact T0|exact rfl|exact Yr|refine Ya ?_ ?_
  all_goals conv=>whnf
  ·exact wk1 (by omega)
  ·exact congrArg (fun l=>AObj.sl 1 (List.map bR l)) (by rw[evsT_next hx];simp[evT])
 ·have d1:decide ((q:Int)<((ev.map evR).length:Nat))=false:=decide_eq_false (by rw[hm];omega)
  iterate 6
   repeat' first|exact T0|(first|refine Yd fun _=>?_|refine Ye fun _=>?_|refine Yg ?_);conv=>whnf|(refine Ya ?_ ?_<;>intro _<;>conv=>whnf)
   all_goals try (refine Or.inl ?_;conv=>whnf)
  all_goals try exact (bnl ‹_› d1).elim
  refine⟨4,show 4≤4 by decide,show 4-4<4-3 by decide,?_⟩
  all_goals refine⟨[],?_⟩
  repeat any_goals first|exact T0|exact rfl|exact Yr|refine Ya ?_ ?_
  all_goals conv=>whnf
  all_goals exact congrArg (fun l:Bt=>AObj.sl 1 (l.map bR)) (show B0++evsT (ev.take q)=oT ⟨5,a,e,b,c,g,s,n,t,w,ev,sr,d⟩ 5 4 by rw[List.take_of_length_le (by omega)];exact hend.symm)
theorem rEncode_ok (f:Fr) (k:Nat) (h1:1≤k) (h7:k≤7) (hk:f.k=k) (hf:FrOk f) (hz:∀ x∈f.ev,in64 x.2.1) (hr:rightF f=true) (hL:(encodeT f).length≤65536):Sat Tryz.prog 31 [.d (frD f)] [] (.tup [.own 0,iA 0]) [.sl 1 ((encodeT f).map bR)]:=rEncodeK f k h1 h7 hk hf hz hr _ _ (.inl ⟨hL,rfl,rfl⟩)
theorem rEncode_big (f:Fr) (k:Nat) (h1:1≤k) (h7:k≤7) (hk:f.k=k) (hf:FrOk f) (hz:∀ x∈f.ev,in64 x.2.1) (hr:rightF f=true) (hL:65536<(encodeT f).length):Sat Tryz.prog 31 [.d (frD f)] [] (.tup [.d nilV,iA 17]) []:=rEncodeK f k h1 h7 hk hf hz hr _ _ (.inr ⟨hL,rfl,rfl⟩)
structure AgInv (a:Ag):Prop where
 id:0≤a.id∧a.id<64
 most:1≤a.most∧a.most≤1024
 boot:0≤a.boot∧a.boot≤1099511627776
 epoch:0≤a.epoch∧a.epoch≤1099511627776
 clock:0≤a.clock∧a.clock≤4611686018427387903
 seq:a.seq≤1099511627775
 first:0≤firstA a
 len:(a.kept.length:Int)≤a.most
 ev:∀ x∈a.kept,evOk x=true∧in64 x.2.1∧x.1≤a.clock
 rise:a.kept.Pairwise fun x y=>x.1≤y.1
 pl:a.probes.length≤8
 pr:∀ p∈a.probes,(0≤p.1∧p.1≤4611686018427387903)∧(0≤p.2.1∧p.2.1≤4611686018427387903)∧0≤p.2.2∧p.2.2≤a.clock
theorem newA_inv {id most b:Int} (h1:0≤id∧id<64) (h2:1≤most∧most≤1024) (h3:0≤b∧b≤1099511627776):AgInv (newA id most b):=
 ⟨h1,h2,h3,⟨Int.le_refl _,(by decide:(0:Int)≤1099511627776)⟩,⟨Int.le_refl _,(by decide:(0:Int)≤4611686018427387903)⟩,(by decide:(0:Int)≤1099511627775),(by show (0:Int)≤0-0;decide),(by show (0:Int)≤most;omega),fun x hx=>(by cases hx),.nil,Nat.zero_le _,fun p hp=>(by cases hp)⟩
theorem start_inv {a:Ag} (h:AgInv a) (b:Int):AgInv (startA a b).1:=by
 unfold startA
 split
 ·exact h
 ·split
  ·exact h
  ·exact newA_inv h.id h.most ⟨by omega,by omega⟩
theorem observe_inv {a:Ag} (h:AgInv a) (r:Int):AgInv (observeA a r).1:=by
 unfold observeA
 split
 ·exact h
 ·split
  ·exact h
  ·have hc:=h.clock
   have hm:a.clock≤max a.clock r:=Int.le_max_left _ _
   have hm2:max a.clock r≤4611686018427387903:=by rw[Int.max_def];split<;>omega
   exact⟨h.id,h.most,h.boot,h.epoch,⟨Int.le_trans hc.1 hm,hm2⟩,h.seq,h.first,h.len,fun x hx=>⟨(h.ev x hx).1,(h.ev x hx).2.1,Int.le_trans (h.ev x hx).2.2 hm⟩,h.rise,h.pl,fun p hp=>⟨(h.pr p hp).1,(h.pr p hp).2.1,(h.pr p hp).2.2.1,Int.le_trans (h.pr p hp).2.2.2 hm⟩⟩
theorem measure_inv {a:Ag} (h:AgInv a) (r v:Int) (s:Ser) (hv:in64 v):AgInv (measureA a r v s).1:=by
 have ho:=observe_inv h r
 unfold measureA
 simp only
 generalize observeA a r=A at *
 obtain⟨b,e⟩:=A
 simp only at ho ⊢
 split
 ·exact ho
 split
 ·exact ho
 split
 ·exact ho
 rename_i hs
 split
 ·exact ho
 rename_i hq
 split
 ·exact⟨ho.id,ho.most,ho.boot,ho.epoch,ho.clock,ho.seq,ho.first,ho.len,ho.ev,ho.rise,ho.pl,ho.pr⟩
 ·rename_i hlen
  have hc:=ho.clock
  have hf:0≤b.seq-(b.kept.length:Int):=ho.first
  have hsr:rightB s=true:=by cases hh:rightB s with|true=>rfl|false=>exact absurd hh hs
  refine⟨ho.id,ho.most,ho.boot,ho.epoch,ho.clock,(by show b.seq+1≤_;omega),?_,?_,?_,?_,ho.pl,ho.pr⟩
  ·show 0≤b.seq+1-((b.kept++[(b.clock,v,s)]).length:Int)
   rw[List.length_append];simp;omega
  ·show ((b.kept++[(b.clock,v,s)]).length:Int)≤b.most
   rw[List.length_append];simp;omega
  ·intro x hx
   rcases List.mem_append.1 hx with hx|hx
   ·exact ho.ev x hx
   ·rw[List.mem_singleton.1 hx]
    refine⟨?_,hv,Int.le_refl _⟩
    unfold evOk
    rw[Bool.and_eq_true]
    exact⟨rngB_iff.2 hc,hsr⟩
  ·refine List.pairwise_append.2 ⟨ho.rise,List.pairwise_singleton _ _,fun x hx y hy=>?_⟩
   rw[List.mem_singleton.1 hy]
   exact (ho.ev x hx).2.2
theorem right_head {f:Fr} (h:rightF f=true):0≤f.e∧f.e≤1099511627776:=by
 unfold rightF at h
 split at h
 ·obtain⟨q1,_⟩:=right_parts h
  exact (headOk_iff.1 q1).2
 ·cases h
theorem right_probe {f:Fr} (h:rightF f=true) (hk:f.k=3):(0≤f.b∧f.b≤4611686018427387903)∧(0≤f.c∧f.c≤4611686018427387903):=by
 have h:=rightF_k (k:=3) hk (by decide) (by decide) h
 obtain⟨_,q2,_⟩:=right_parts h
 exact⟨q2 f.b (by simp[valsK,idxK,getN]),q2 f.c (by simp[valsK,idxK,getN])⟩
theorem take_inv {a:Ag} (h:AgInv a) (r:Int) (l:Bt):AgInv (takeA a r l).1:=by
 have ho:=observe_inv h r
 unfold takeA
 simp only
 generalize observeA a r=A at *
 obtain⟨b,e⟩:=A
 simp only at ho ⊢
 split
 ·exact ho
 split
 ·exact ho
 rename_i hd
 have hd:(decodeF l).2=0:=by
  rcases Nat.eq_zero_or_pos (decodeF l).2 with q|q
  ·exact q
  ·exact absurd (by omega) hd
 have hr:=(decodeF_zero (f:=(decodeF l).1) (l:=l) (by rw[←hd])).2
 generalize (decodeF l).1=f at *
 split
 ·exact ho
 split
 ·exact ho
 unfold frameA
 split
 ·unfold grantA
  split
  ·exact ho
  split
  ·exact ho
  split
  ·exact ho
  ·exact⟨ho.id,ho.most,ho.boot,right_head hr,ho.clock,ho.seq,ho.first,ho.len,ho.ev,ho.rise,ho.pl,ho.pr⟩
 split
 ·rename_i hk3
  unfold probeA
  split
  ·exact ho
  split
  ·exact ho
  ·rename_i h8
   obtain⟨p1,p2⟩:=right_probe hr hk3
   refine⟨ho.id,ho.most,ho.boot,ho.epoch,ho.clock,ho.seq,ho.first,ho.len,ho.ev,ho.rise,?_,fun p hp=>?_⟩
   ·show (b.probes++[(f.b,f.c,b.clock)]).length≤8
    rw[List.length_append];simp;omega
   ·rcases List.mem_append.1 hp with hp|hp
    ·exact ho.pr p hp
    ·rw[List.mem_singleton.1 hp]
     exact⟨p1,p2,ho.clock.1,Int.le_refl _⟩
 ·unfold ackA
  split
  ·exact ho
  split
  ·exact ho
  ·have hf:0≤b.seq-(b.kept.length:Int):=ho.first
   have hl:=ho.len
   refine⟨ho.id,ho.most,ho.boot,ho.epoch,ho.clock,ho.seq,?_,?_,fun x hx=>ho.ev x (List.mem_of_mem_drop hx),ho.rise.drop,ho.pl,ho.pr⟩
   ·show 0≤b.seq-((b.kept.drop (f.n-firstA b).toNat).length:Int)
    rw[List.length_drop];omega
   ·show ((b.kept.drop (f.n-firstA b).toNat).length:Int)≤b.most
    rw[List.length_drop];omega
abbrev rfC (b:Int):List AV:=[iA 0,iA 0,iA b,iA 0,iA 0,iA 0,iA 0,.d nilV,iA 0,.d nilV]
def bareP (f:Fr):Prop:=f.ev=[]∧f.sr=([],[])∧f.d=[]
theorem bare_le {f:Fr} (h:bareP f):nilLe (nilR f) (frR f):=by
 obtain⟨kk,a,e,b,c,g,s,n,t,w,ev,sr,d⟩:=f
 obtain⟨rfl,rfl,rfl⟩:ev=[]∧sr=([],[])∧d=[]:=h
 repeat' (first|exact trivial|refine And.intro ?_ ?_|exact .inl rfl|exact .inr ⟨rfl,_,rfl⟩)
theorem encD {f:Fr} (hb:bareP f) (hf:FrOk f) (hr:rightF f=true) (hL:(encodeT f).length≤65536) (L:List AObj) (n:Nat):CallOK Tryz.prog 26 [.d (.agg (nilR f))] L n ⟨[],[],[.dead]⟩ (.tup [.d (bsD (encodeT f)),iA 0]):=
 CallOK.frzT ((encode_pre (encode_ok f hf (fun x hx=>by rw[hb.1] at hx;cases hx) hr hL) (bare_le hb)).nw rfl)
theorem sendN_sat {f:Fr} (hb:bareP f) (hf:FrOk f) (hr:rightF f=true) (hL:(encodeT f).length≤65536):Sat Tryz.prog 46 [.d (.agg (nilR f)),.ptr 0 0] [.cells [.d nilV]] (iA 0) [.cells [.own 1],.sl 1 [[bsD (encodeT f)]]]:=by
 have e1:=encD hb hf hr hL
 generalize encodeT f=b at *
 refine Vq Tryz.func46 rfl rfl ?_
 conv=>whnf
 iterate 5
  repeat' first|exact T0|(first|refine Yd fun _=>?_|refine Ye fun _=>?_|refine Yg ?_|refine Yk (e1 _ _) ?_|refine Yk (ap0 1 24 (by kernel_rfl) rfl (by simp)) ?_);conv=>whnf|(refine Ya ?_ ?_<;>intro _<;>conv=>whnf)
  all_goals try (refine Or.inl ?_;conv=>whnf)
 all_goals refine⟨[(1,4)],?_⟩
 repeat any_goals first|exact T0|exact rfl|exact Yr|refine Ya ?_ ?_
 all_goals conv=>whnf
theorem sendO_sat {f:Fr} (hb:bareP f) (hf:FrOk f) (hr:rightF f=true) (hL:(encodeT f).length≤65536) (rows:List (List D)) (hn:rows.length≤1000):Sat Tryz.prog 46 [.d (.agg (nilR f)),.ptr 0 0] [.cells [.own 1],.sl 1 rows] (iA 0) [.cells [.own 2],.dead,.sl 1 (rows++[[bsD (encodeT f)]])]:=by
 have e1:=encD hb hf hr hL
 generalize encodeT f=b at *
 refine Vq Tryz.func46 rfl rfl ?_
 conv=>whnf
 iterate 5
  repeat' first|exact T0|(first|refine Yd fun _=>?_|refine Ye fun _=>?_|refine Yg ?_|refine Yk (e1 _ _) ?_|refine Yk (ap 1 24 (by kernel_rfl) rfl rfl (by simp;omega)) ?_);conv=>whnf|(refine Ya ?_ ?_<;>intro _<;>conv=>whnf)
  all_goals try (refine Or.inl ?_;conv=>whnf)
 all_goals refine⟨[(2,5)],?_⟩
 repeat any_goals first|exact T0|exact rfl|exact Yr|refine Ya ?_ ?_
 all_goals conv=>whnf
theorem frame_sat (a:Ag) (k:Int):Sat Tryz.prog 47 [.ptr 0 0,iA k] (agH a) (.d (.agg (nilR ⟨k,a.id,a.epoch,0,0,0,0,0,0,0,[],([],[]),[]⟩))) (agH a):=by
 refine Vq Tryz.func47 rfl rfl ?_
 conv=>whnf
 iterate 4
  repeat' first|exact T0|(first|refine Yd fun _=>?_|refine Ye fun _=>?_|refine Yg ?_);conv=>whnf|(refine Ya ?_ ?_<;>intro _<;>conv=>whnf)
  all_goals try (refine Or.inl ?_;conv=>whnf)
 all_goals refine⟨[],?_⟩
 repeat any_goals first|exact T0|exact rfl|exact Yr|refine Ya ?_ ?_
 all_goals conv=>whnf
section
variable {P:Program} {L:List AObj} {n:Nat} {g:FuncId} {F F1:Nat→Prop} {ρ:Nat→Option Value} {H:Hp} {w:World}
theorem piece_rd {i s k:Nat} {rows:List (List D)} (En:Env F ρ H w) (hi:H i=some (.sl s rows)) (hF:∀ b,F b→F1 b) (hb:∀ h,ρ i=some h→∀ b,blkOf h=some b→F1 b) (hk:k≤rows.length) {v:Value} (hv:RA w F ρ (.rel i (pcP s 0 k)) v):RD w F1 (.sl s (rows.take k)) v:=by
 cases hv with|rel R hp=>
 obtain⟨A,m,c,rfl,h1,h2,rfl⟩:=hp
 have h:=own_rd En hi hF hb (.own R)
 obtain⟨q1,q2,q3⟩:=h.piece (Nat.zero_le k) hk
 rw[List.drop_zero] at q3
 exact q3
theorem flat_mid {x:D} {y:AV} {ys:List D} (hF:∀ b,F b→F1 b) (h:∀ v,RA w F ρ y v→RD w F1 x v):∀ {xs:List D} {vs:List Value},RAs w F ρ (xs.map .d++y::ys.map .d) vs→(∀ c∈vs,c.oneCell'=true)→RDs w F1 (xs++x::ys) vs
 |[],_,h0,h1=>by
  cases h0 with|cons h2 h3=>
  exact .cons (h _ h2) (h1 _ (List.mem_cons_self ..)) ((ras_rds h3 fun c hc=>h1 c (List.mem_cons_of_mem _ hc)).mono (fun _ _=>rfl) hF)
 |z::xs,_,h0,h1=>by
  cases h0 with|cons h2 h3=>
  cases h2 with|d h2=>exact .cons (h2.mono (fun _ _=>rfl) hF) (h1 _ (List.mem_cons_self ..)) (flat_mid hF h (xs:=xs) h3 fun c hc=>h1 c (List.mem_cons_of_mem _ hc))
theorem lendOk_mid {i s k:Nat} {rows:List (List D)} {xs ys:List D} (hi:L[i]?=some (.sl s rows)) (hk:k≤rows.length):LendOk L [.agg (xs.map .d++.rel i (pcP s 0 k)::ys.map .d)] [.d (.agg (xs++.sl s (rows.take k)::ys))] [i]:=by
 intro F F1 ρ H w vals En hF hrs hb hv
 have hHi:H i=some (.sl s rows):=(hrs i (by simp)).trans hi
 obtain⟨v,rfl,hv'⟩:=hv.one_out
 cases hv' with|agg h1 h2=>
 exact .cons (.d (.agg (flat_mid hF (fun v hv=>piece_rd En hHi hF (hb i (by simp)) hk hv) h1 h2))) .nil
end
def batchF (a:Ag) (k:Nat):Fr:=⟨5,a.id,a.epoch,0,0,0,0,firstA a,0,0,a.kept.take k,([],[]),[]⟩
abbrev batC (a:Ag) (y:AV):List AV:=[iA 5,iA a.id,iA a.epoch,iA 0,iA 0,iA 0,iA 0,iA (firstA a),iA 0,iA 0,y,.d (tD []),.d nilV,.d nilV]
theorem bat_le (a:Ag) (k:Nat):nilLe [iD 5,iD a.id,iD a.epoch,iD 0,iD 0,iD 0,iD 0,iD (firstA a),iD 0,iD 0,.sl 4 ((a.kept.map evR).take k),tD [],nilV,nilV] (frR (batchF a k)):=by
 rw[←List.map_take]
 repeat' (first|exact trivial|refine And.intro ?_ ?_|exact .inl rfl|exact .inr ⟨rfl,_,rfl⟩)
theorem encB {L:List AObj} {i:Nat} (a:Ag) (k:Nat) (hi:L[i]?=some (.sl 4 (a.kept.map evR))) (hk:k≤a.kept.length) (hf:FrOk (batchF a k)) (hz:∀ x∈a.kept,in64 x.2.1) (hr:rightF (batchF a k)=true) (hL:(encodeT (batchF a k)).length≤65536) (n:Nat) :
  CallOK Tryz.prog 26 [.agg (batC a (.rel i (pcP 4 0 k)))] L n ⟨[i],[],[.dead]⟩ (.tup [.d (bsD (encodeT (batchF a k))),iA 0]):=
 CallOK.frzT (Sat.lendNewT (encode_pre (encode_ok (batchF a k) hf (fun x hx=>hz x (List.mem_of_mem_take hx)) hr hL) (bat_le a k)) (lendOk_mid (xs:=[iD 5,iD a.id,iD a.epoch,iD 0,iD 0,iD 0,iD 0,iD (firstA a),iD 0,iD 0]) (ys:=[tD [],nilV,nilV]) hi (by rw[List.length_map];exact hk)) (bR_flats _) fun j hj=>by rw[List.mem_singleton.1 hj];exact⟨_,hi,rfl⟩)
theorem encBbig {L:List AObj} {i:Nat} (a:Ag) (k:Nat) (hi:L[i]?=some (.sl 4 (a.kept.map evR))) (hk:k≤a.kept.length) (hf:FrOk (batchF a k)) (hz:∀ x∈a.kept,in64 x.2.1) (hr:rightF (batchF a k)=true) (hL:65536<(encodeT (batchF a k)).length) (n:Nat) :
  CallOK Tryz.prog 26 [.agg (batC a (.rel i (pcP 4 0 k)))] L n ⟨[i],[],[]⟩ (.tup [.d nilV,iA 17]):=
 Sat.lendG (encode_pre (encode_big (batchF a k) hf (fun x hx=>hz x (List.mem_of_mem_take hx)) hr hL) (bat_le a k)) (lendOk_mid (xs:=[iD 5,iD a.id,iD a.epoch,iD 0,iD 0,iD 0,iD 0,iD (firstA a),iD 0,iD 0]) (ys:=[tD [],nilV,nilV]) hi (by rw[List.length_map];exact hk)) rfl fun j hj=>by rw[List.mem_singleton.1 hj];exact⟨_,hi,rfl⟩
end Go.Proofs.YtfbfpnfgabamfaaGreat
