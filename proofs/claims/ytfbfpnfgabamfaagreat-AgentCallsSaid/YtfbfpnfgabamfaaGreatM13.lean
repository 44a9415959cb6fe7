/- Parts FrT, FrU, Fz, FrV, FrBk, RnA, RnG, RnH, RnI, AgA, AgB, AgC of the proof, put together. -/
import Derived.Test.YtfbfpnfgabamfaaGreatM12
namespace Go.Proofs.YtfbfpnfgabamfaaGreat
set_option linter.unusedSimpArgs false
open Go.RowKit
set_option maxRecDepth 100000
set_option linter.unusedVariables false
theorem dec_back {l:Bt} {v s:Nat} (h:dec l=(v,s,0)):l=enc v++l.drop s:=by
 obtain⟨u,h1,h2,h3,h4,h5,h6,h7⟩:=enc_of_dec l 0 0 v s (by omega) h
 have hv:v=u:=by simpa using h1
 subst hv
 have:enc v=l.take s:=h5
 rw[this,List.take_append_drop]
theorem uintS_zero {s:Rs} (h:(uintS s).2.2=0):s.2=0∧s.1=enc (uintS s).1++(uintS s).2.1:=by
 unfold uintS at h ⊢
 by_cases h1:s.2=0
 ·rw[if_neg (fun q=>q h1)] at h ⊢
  by_cases h2:(dec s.1).2.2=0
  ·rw[if_neg (fun q=>q h2)]
   exact⟨h1,dec_back (s:=(dec s.1).2.1) (v:=(dec s.1).1) (by rw[←h2])⟩
  ·rw[if_pos h2] at h
   exact absurd h h2
 ·rw[if_pos h1] at h
  exact absurd h h1
theorem intS_zero {s:Rs} (h:(intS s).2.2=0):s.2=0∧s.1=enc (turnN (intS s).1)++(intS s).2.1:=by
 have:=uintS_zero h
 unfold intS
 rw[turn_unturn]
 exact this
theorem cnt_back {l:Bt} {m:Int} (h:(cnt l m).2.2=0):l=enc (cnt l m).1++l.drop (cnt l m).2.1:=by
 unfold cnt at h ⊢
 by_cases h1:(dec l).2.2=0
 ·rw[if_neg (fun q=>q h1)] at h ⊢
  by_cases h2:max m 0<((dec l).1:Int)
  ·rw[if_pos h2] at h
   cases h
  ·rw[if_neg h2]
   exact dec_back (s:=(dec l).2.1) (v:=(dec l).1) (by rw[←h1])
 ·rw[if_pos h1] at h
  exact absurd h h1
theorem countS_zero {s:Rs} {m:Int} (h:(countS s m).2.2=0):s.2=0∧s.1=enc (countS s m).1++(countS s m).2.1:=by
 unfold countS at h ⊢
 by_cases h1:s.2=0
 ·rw[if_neg (fun q=>q h1)] at h ⊢
  by_cases h2:(cnt s.1 m).2.2=0
  ·rw[if_neg (fun q=>q h2)]
   exact⟨h1,cnt_back h2⟩
  ·rw[if_pos h2] at h
   exact absurd h h2
 ·rw[if_pos h1] at h
  exact absurd h h1
theorem txtS_zero {s:Rs} {m:Int} (h:(txtS s m).2.2=0):s.2=0∧s.1=encTL (txtS s m).1++(txtS s m).2.1:=by
 unfold txtS at h ⊢
 by_cases h1:s.2=0
 ·rw[if_neg (fun q=>q h1)] at h ⊢
  by_cases h2:(cnt s.1 m).2.2=0
  ·rw[if_neg (fun q=>q h2)] at h ⊢
   by_cases h3:s.1.length-(cnt s.1 m).2.1<(cnt s.1 m).1
   ·rw[if_pos h3] at h
    cases h
   ·rw[if_neg h3]
    refine⟨h1,?_⟩
    have hb:=cnt_back h2
    have hbd:=(cnt_bounds s.1 m).2.1
    generalize (cnt s.1 m).1=n at *
    generalize (cnt s.1 m).2.1=z at *
    simp only
    unfold encTL
    have e1:((s.1.take (z+n)).drop z)=(s.1.drop z).take n:=by rw[List.drop_take];congr 1;omega
    have e2:s.1.drop (z+n)=(s.1.drop z).drop n:=by rw[List.drop_drop]
    have e3:((s.1.drop z).take n).length=n:=by rw[List.length_take,List.length_drop];omega
    rw[e1,e2,e3,List.append_assoc,List.take_append_drop]
    exact hb
  ·rw[if_pos h2] at h
   exact absurd h h2
 ·rw[if_pos h1] at h
  exact absurd h h1
theorem labsS_zero:∀ (n:Nat) (acc:List Lab) (s:Rs),(labsS n acc s).2.2=0→s.2=0∧∃ new,(labsS n acc s).1=acc++new∧new.length=n∧s.1=labsT new++(labsS n acc s).2.1
 |0,acc,s,h=>⟨h,[],by simp[labsS],rfl,by simp[labsS,labsT]⟩
 |n+1,acc,s,h=>by
  rw[labsS] at h ⊢
  obtain⟨h1,new,h2,h3,h4⟩:=labsS_zero n _ _ h
  obtain⟨g1,g2⟩:=txtS_zero h1
  obtain⟨k1,k2⟩:=txtS_zero g1
  refine⟨k1,((txtS s 64).1,(txtS (txtS s 64).2 64).1)::new,by rw[h2];simp,by simp[h3],?_⟩
  show s.1=(encTL (txtS s 64).1++encTL (txtS (txtS s 64).2 64).1++labsT new)++_
  rw[List.append_assoc,List.append_assoc,←h4,←g2]
  exact k2
theorem readS_zero {s:Rs} (h:(readS s).2.1=0):s.2=0∧s.1=bytesS (readS s).1++(readS s).2.2.1∧rightB (readS s).1=true:=by
 unfold readS at h ⊢
 simp only at h ⊢
 generalize hq:labsS (countS (txtS s 64).2 8).1 [] (countS (txtS s 64).2 8).2=q at *
 by_cases h1:q.2.2=0
 ·rw[if_neg (fun z=>z h1)] at h ⊢
  by_cases h2:rightB ((txtS s 64).1,q.1)=true
  ·rw[if_pos h2]
   obtain⟨g1,new,g2,g3,g4⟩:=labsS_zero _ _ _ (by rw[hq];exact h1)
   rw[hq] at g2 g4
   obtain⟨k1,k2⟩:=countS_zero g1
   obtain⟨j1,j2⟩:=txtS_zero k1
   have hnew:q.1=new:=by rw[g2];rfl
   refine⟨j1,?_,h2⟩
   unfold bytesS
   rw[if_pos h2]
   simp only
   rw[hnew,g3,List.append_assoc,List.append_assoc,←g4,←k2]
   exact j2
  ·rw[if_neg h2] at h
   cases h
 ·rw[if_pos h1] at h
  exact absurd h h1
theorem wrap_nn {u:Nat} (hu:u<18446744073709551616) (h:0≤IntKind.i64.wrap (u:Int)):(IntKind.i64.wrap (u:Int)).toNat=u:=by
 rw[IntKind.wrap_i64] at h ⊢
 omega
theorem evS_zero {l:List Evt} {s9:Rs}:∀ (n:Nat) (acc:List Evt) (s:Rs),evS n acc s=(.ok l,s9)→(∀ x∈l,0≤x.1)→∃ new,l=acc++new∧new.length=n∧s.1=evsT new++s9.1∧(s9.2=0→s.2=0)
 |0,acc,s,h,_=>by
  injection h with h1 h2
  injection h1 with h1
  subst h1;subst h2
  exact⟨[],by simp,rfl,by simp[evsT],id⟩
 |n+1,acc,s,h,hp=>by
  rw[evS] at h
  split at h
  ·injection h with h1 h2
   cases h1
  ·rename_i hne
   have hne:(readS (intS (uintS s).2).2).2.1=0:=by
    rcases Nat.eq_zero_or_pos (readS (intS (uintS s).2).2).2.1 with q|q
    ·exact q
    ·exact absurd (by omega) hne
   obtain⟨new,h2,h3,h4,h5⟩:=evS_zero n _ _ h hp
   obtain⟨r1,r2,r3⟩:=readS_zero hne
   obtain⟨i1,i2⟩:=intS_zero r1
   obtain⟨u1,u2⟩:=uintS_zero i1
   refine⟨(stampZ (uintS s).1,(intS (uintS s).2).1,(readS (intS (uintS s).2).2).1)::new,by rw[h2];simp,by simp[h3],?_,fun _=>u1⟩
   have hx:0≤stampZ (uintS s).1:=hp (stampZ (uintS s).1,(intS (uintS s).2).1,(readS (intS (uintS s).2).2).1) (by rw[h2];simp)
   have e:(stampZ (uintS s).1).toNat=(uintS s).1:=wrap_nn (uintS_lt s) hx
   show s.1=((enc (stampZ (uintS s).1).toNat++(enc (turnN (intS (uintS s).2).1)++bytesS (readS (intS (uintS s).2).2).1))++evsT new)++s9.1
   rw[e,List.append_assoc,List.append_assoc,List.append_assoc,←h4,←r2,←i2]
   exact u2
theorem eventsS_zero {l:List Evt} {s s9:Rs} (h:eventsS s=(.ok l,s9)) (hp:∀ x∈l,0≤x.1):s.1=(enc l.length++evsT l)++s9.1∧(s9.2=0→s.2=0):=by
 unfold eventsS at h
 split at h
 ·injection h with h1 h2
  cases h1
 ·obtain⟨new,h2,h3,h4,h5⟩:=evS_zero _ _ _ h hp
  rename_i hne
  have hne:(countS s 64).2.2=0:=by
   rcases Nat.eq_zero_or_pos (countS s 64).2.2 with q|q
   ·exact q
   ·exact absurd (by omega) hne
  obtain⟨c1,c2⟩:=countS_zero hne
  have hl:l=new:=by rw[h2];rfl
  refine⟨?_,fun _=>c1⟩
  rw[hl,h3,List.append_assoc,←h4]
  exact c2
theorem itS_zero {s:Rs}:∀ m,(itS m s).2=0→(∀ i,i<m→0≤vlS i s)→s.2=0∧s.1=fldT ((List.range m).map fun i=>vlS i s)++(itS m s).1
 |0,h,_=>⟨h,by simp[fldT,itS]⟩
 |m+1,h,hp=>by
  obtain⟨u1,u2⟩:=uintS_zero (s:=itS m s) h
  obtain⟨h1,h2⟩:=itS_zero m u1 fun i hi=>hp i (by omega)
  refine⟨h1,?_⟩
  have e:(vlS m s).toNat=(uintS (itS m s)).1:=wrap_nn (uintS_lt _) (hp m (by omega))
  rw[List.range_succ,List.map_append,h2]
  unfold fldT
  rw[List.map_append,List.flatten_append,List.append_assoc]
  congr 1
  simp only[List.map_cons,List.map_nil,List.flatten_cons,List.flatten_nil,List.append_nil]
  rw[e]
  exact u2
theorem endS_zero {s:Rs} (h:(endS s).2=0):s.2=0∧s.1=[]:=by
 unfold endS at h
 by_cases h1:s.2=0
 ·rw[if_neg (fun q=>q h1)] at h
  by_cases h2:s.1=[]
  ·exact⟨h1,h2⟩
  ·rw[if_neg h2] at h
   cases h
 ·rw[if_pos h1] at h
  exact absurd h h1
theorem finP_zero {f g:Fr} {s:Rs} (h:finP g s=(f,0)):f=g∧s.2=0∧s.1=[]∧rightF g=true:=by
 unfold finP at h
 split at h
 ·rename_i q
  injection h with h1 h2
  exact absurd h2 q
 ·rename_i q
  split at h
  ·rename_i r
   injection h with h1 h2
   obtain⟨e1,e2⟩:=endS_zero (s:=s) (by
    rcases Nat.eq_zero_or_pos (endS s).2 with z|z
    ·exact z
    ·exact absurd (by omega) q)
   exact⟨h1.symm,e1,e2,r⟩
  ·injection h with h1 h2
   cases h2
theorem vals_frS {k:Nat} (h1:1≤k) (h8:k≤8) (s:Rs) (ev:List Evt) (sr:Ser) (d:Bt):valsK (frS k (idxK k).length s ev sr d) k=(List.range (idxK k).length).map fun i=>vlS i s:=by
 have hk:k=1∨k=2∨k=3∨k=4∨k=5∨k=6∨k=7∨k=8:=by omega
 rcases hk with rfl|rfl|rfl|rfl|rfl|rfl|rfl|rfl<;>simp[valsK,idxK,frS,getN,List.range,List.range.loop]<;>simp[vb,vbL,idxK]<;>(generalize vlS 0 s=x0 at *;generalize vlS 1 s=x1 at *;generalize vlS 2 s=x2 at *;generalize vlS 3 s=x3 at *;generalize vlS 4 s=x4 at *;generalize vlS 5 s=x5 at *)<;>(repeat' (first|exact rfl|refine And.intro ?_ ?_))
theorem rightF_k {f:Fr} {k:Nat} (hk:f.k=k) (h1:1≤k) (h8:k≤8) (h:rightF f=true):rightK f k=true:=by
 unfold rightF at h
 rw[if_pos (by omega),hk] at h
 exact h
theorem fld_back {k:Nat} (h1:1≤k) (h8:k≤8) {s:Rs} {ev:List Evt} {sr:Ser} {d:Bt} (h:(itS (idxK k).length s).2=0) (hr:rightF (frS k (idxK k).length s ev sr d)=true):s.1=fldT (valsK (frS k (idxK k).length s ev sr d) k)++(itS (idxK k).length s).1:=by
 obtain⟨q1,q2,q3,q4⟩:=right_parts (rightF_k rfl h1 h8 hr)
 have e:=vals_frS h1 h8 s ev sr d
 rw[e] at q2 ⊢
 exact (itS_zero _ h fun i hi=>(q2 (vlS i s) (List.mem_map.2 ⟨i,List.mem_range.2 hi,rfl⟩)).1).2
theorem parseK_zero {k:Nat} (h1:1≤k) (h8:k≤8) {s:Rs} {f:Fr} (h:parseK k s=(f,0)):f.k=k∧rightF f=true∧s.1=fldT (valsK f k)++extT f k:=by
 unfold parseK at h
 split at h
 ·rename_i q
  injection h with g1 g2
  exact absurd g2 q
 rename_i q
 have q:(itS (idxK k).length s).2=0:=by
  rcases Nat.eq_zero_or_pos (itS (idxK k).length s).2 with z|z
  ·exact z
  ·exact absurd (by omega) q
 unfold tailP at h
 split at h
 ·split at h
  ·rename_i he
   injection h with g1 g2
   exact absurd g2 (eventsS_err he)
  ·rename_i l s2 he
   obtain⟨rfl,e1,e2,hr⟩:=finP_zero h
   have hk:=rightF_k (k:=5) rfl (by decide) (by decide) hr
   obtain⟨p1,p2,p3,p4⟩:=right_parts hk
   have p3:batchB (frS 5 3 s l ([],[]) []).n l=true:=p3
   simp only[batchB,Bool.and_eq_true] at p3
   have hp:∀ x∈l,0≤x.1:=fun x hx=>by
    have:=List.all_eq_true.1 p3.2.2.2 x hx
    simp only[evOk,Bool.and_eq_true] at this
    exact (rngB_iff.1 this.1).1
   obtain⟨z1,z2⟩:=eventsS_zero he hp
   refine⟨rfl,hr,?_⟩
   have hb:=fld_back (k:=5) (by decide) (by decide) (ev:=l) (sr:=([],[])) (d:=[]) q hr
   rw[hb,z1,e2,List.append_nil]
   rfl
 ·split at h
  ·rename_i he
   injection h with g1 g2
   exact absurd g2 he
  ·rename_i he
   split at h
   ·rename_i ht
    injection h with g1 g2
    exact absurd g2 ht
   ·rename_i ht
    obtain⟨rfl,e1,e2,hr⟩:=finP_zero h
    have he:(readS (itS (idxK 8).length s)).2.1=0:=by
     rcases Nat.eq_zero_or_pos (readS (itS (idxK 8).length s)).2.1 with z|z
     ·exact z
     ·exact absurd (by omega) he
    obtain⟨r1,r2,r3⟩:=readS_zero he
    obtain⟨t1,t2⟩:=txtS_zero e1
    refine⟨rfl,hr,?_⟩
    have hb:=fld_back (k:=8) (by decide) (by decide) (ev:=[]) (sr:=(readS (itS (idxK 8).length s)).1) (d:=(txtS (readS (itS (idxK 8).length s)).2.2 4096).1) q hr
    rw[hb,r2,t2,e2,List.append_nil]
    rfl
 ·rename_i n5 n8
  obtain⟨rfl,e1,e2,hr⟩:=finP_zero h
  refine⟨rfl,hr,?_⟩
  have hb:=fld_back h1 h8 (ev:=[]) (sr:=([],[])) (d:=[]) q hr
  rw[hb,e2]
  unfold extT
  rw[if_neg n5,if_neg n8]
theorem parseF_zero {l:Bt} {f:Fr} (h:parseF l=(f,0)):l=frT f f.k.toNat∧rightF f=true:=by
 unfold parseF at h
 split at h
 ·rename_i q
  injection h with g1 g2
  exact absurd g2 q
 rename_i q
 have q:(uintS (l,0)).2.2=0:=by
  rcases Nat.eq_zero_or_pos (uintS (l,0)).2.2 with z|z
  ·exact z
  ·exact absurd (by omega) q
 split at h
 ·injection h with g1 g2
  cases g2
 rename_i hk
 obtain⟨u1,u2⟩:=uintS_zero q
 obtain⟨k1,k2,k3⟩:=parseK_zero (by omega) (by omega) h
 refine⟨?_,k2⟩
 have e:f.k.toNat=(uintS (l,0)).1:=by rw[k1];rfl
 rw[e]
 unfold frT
 rw[List.append_assoc,←k3]
 exact u2
theorem open_back {l:Bt} (h:openErr l=0):l=sealT (openBody l):=by
 unfold openErr at h
 split at h
 ·cases h
 ·split at h
  ·rename_i q
   have ho:=of_decide_eq_true q
   unfold openBody sealT
   rw[if_pos q,←ho.2,List.take_append_drop]
  ·cases h
theorem decodeF_zero {l:Bt} {f:Fr} (h:decodeF l=(f,0)):l=encodeT f∧rightF f=true:=by
 unfold decodeF at h
 split at h
 ·injection h with g1 g2
  cases g2
 split at h
 ·rename_i q
  injection h with g1 g2
  have:=openErr_nn l
  omega
 ·rename_i q
  obtain⟨p1,p2⟩:=parseF_zero h
  refine⟨?_,p2⟩
  unfold encodeT
  rw[←p1]
  exact open_back (by have:=openErr_nn l;omega)
section
variable {F:Nat→Prop} {ρ:Nat→Option Value} {w w':World} {H:Hp}
theorem data_retG {s:Nat} {rows:List (List D)} {us:List Value} {e:TypeId} {v:Value} (En:Env F ρ H w) (hf:FlatVs rows.flatten us) (hs:∀ r∈rows,r.length=s) (how:Ow w' w.heap.size e s v rows.length us) (hb:Below w.heap.size w w') :
  ∃ F',Step F ρ H w F' ρ H w'∧Env F' ρ H w'∧RD w' F' (.sl s rows) v:=by
 have gen:∀ N:Nat→Prop,(∀ b,N b→w.heap.size≤b∧b<w'.heap.size)→Step F ρ H w (fun b=>F b∨N b) ρ H w'∧Env (fun b=>F b∨N b) ρ H w':=by
  intro N hN
  refine⟨⟨hb.os,hb.tape,hb.output,hb.size,fun b h _=>hb.block b h,fun b h=>.inl h,fun b h=>h.elim .inl fun h=>.inr (.inl (hN b h).1),fun b h=>.inr h⟩,⟨fun b h=>h.elim (fun h=>Nat.lt_of_lt_of_le (En.fb b h) hb.size) fun h=>(hN b h).2,En.abs,fun i o h1 h2=>?_,fun i j o o' hh hh' b h1 h2 l1 l2=>En.inj i j o o' hh hh' b h1 h2 l1 l2⟩⟩
  obtain⟨hh,e1,e2,e3⟩:=En.rep i o h1 h2
  refine⟨hh,e1,e2.mono hb.size (fun b _ hlt=>hb.block b hlt) (fun b hF=>hb.block b (En.fb b hF)) (fun b h=>.inl h) (Keep.refl _),fun b hk=>⟨Nat.lt_of_lt_of_le (e3 b hk).1 hb.size,fun q=>?_⟩⟩
  rcases q with q|q
  ·exact (e3 b hk).2 q
  ·have:=(hN b q).1
   have:=(e3 b hk).1
   omega
 obtain⟨A',c',he,g1,g2,hrd⟩:=how.form
 rcases Nat.eq_zero_or_pos rows.length with h0|h0
 ·obtain rfl:=List.eq_nil_of_length_eq_zero h0
  subst he
  obtain⟨S,E⟩:=gen (fun _=>False) (fun b h=>h.elim)
  exact⟨_,S,E,.sl rfl hs g1 g2 .nil fun h=>by simp at h⟩
 ·have hlt:∀ k,blkOf v=some k→w.heap.size≤k∧k<w'.heap.size:=fun k hk=>by
   obtain⟨g,off,cap,rfl,hg0,hg,_⟩:=how.open_ h0
   injection hk with hk
   subst hk
   exact⟨hg0,hg⟩
  subst he
  obtain⟨S,E⟩:=gen (fun b=>blkOf (.slice A' rows.length c')=some b) hlt
  refine⟨_,S,E,.sl rfl hs g1 g2 hf.rds fun hp'=>?_⟩
  obtain⟨b,off,rfl,hb,hc⟩:=hrd.2 hp'
  exact⟨b,off,rfl,.inr rfl,hc⟩
end
theorem encode_ok (f:Fr) (hf:FrOk f) (hz:∀ x∈f.ev,in64 x.2.1) (hr:rightF f=true) (hL:(encodeT f).length≤65536):Sat Tryz.prog 26 [.d (frD f)] [] (.tup [.own 0,iA 0]) [.sl 1 ((encodeT f).map bR)]:=by
 unfold encodeT at hL ⊢
 by_cases h:1≤f.k∧f.k≤8
 ·have hk:f.k=1∨f.k=2∨f.k=3∨f.k=4∨f.k=5∨f.k=6∨f.k=7∨f.k=8:=by omega
  rcases hk with e|e|e|e|e|e|e|e
  all_goals rw[e] at hL ⊢
  ·exact encode_1 f e hf (rightF_k e (by decide) (by decide) hr)
  ·exact encode_2 f e hf (rightF_k e (by decide) (by decide) hr)
  ·exact encode_3 f e hf (rightF_k e (by decide) (by decide) hr)
  ·exact encode_4 f e hf (rightF_k e (by decide) (by decide) hr)
  ·exact encode_5 f e hf hz (rightF_k e (by decide) (by decide) hr) hL
  ·exact encode_6 f e hf (rightF_k e (by decide) (by decide) hr)
  ·exact encode_7 f e hf (rightF_k e (by decide) (by decide) hr)
  ·exact encode_8 f e hf (rightF_k e (by decide) (by decide) hr)
 ·unfold rightF at hr
  rw[if_neg h] at hr
  cases hr
theorem encode_big (f:Fr) (hf:FrOk f) (hz:∀ x∈f.ev,in64 x.2.1) (hr:rightF f=true) (hL:65536<(encodeT f).length):Sat Tryz.prog 26 [.d (frD f)] [] (.tup [.d nilV,iA 17]) []:=by
 unfold encodeT at hL
 by_cases h:1≤f.k∧f.k≤8
 ·by_cases e:f.k=5
  ·rw[e] at hL
   exact encode_5b f e hf hz (rightF_k e (by decide) (by decide) hr) hL
  ·exfalso
   have hr':=rightF_k (k:=f.k.toNat) (by omega) (by omega) (by omega) hr
   obtain⟨q1,q2,q3,q4⟩:=right_parts hr'
   rw[sealT_len] at hL
   unfold frT at hL
   have h1:=fldT_len (valsK f f.k.toNat)
   have h2:=valsK_len f f.k.toNat
   have h3:=enc_lens f.k.toNat
   unfold extT at hL
   rw[if_neg (by omega),List.length_append,List.length_append] at hL
   by_cases e8:f.k=8
   ·rw[if_pos (by omega),List.length_append] at hL
    rw[e8] at q3
    have q3:(rightB f.sr && decide (f.d.length≤4096))=true:=q3
    simp only[Bool.and_eq_true,decide_eq_true_eq] at q3
    have h4:=serT_len f.sr
    have h5:=encTL_len f.d
    omega
   ·rw[if_neg (by omega)] at hL
    simp at hL
    omega
 ·unfold rightF at hr
  rw[if_neg h] at hr
  cases hr
theorem encode_pre {f:Fr} {xs:List D} {r:AV} {H':List AObj} (h:Sat Tryz.prog 26 [.d (frD f)] [] r H') (hn:nilLe xs (frR f)):Sat Tryz.prog 26 [.d (.agg xs)] [] r H':=
 h.pre fun w F ρ vs h=>by
  cases h with|cons h1 h2=>
  cases h1 with|d h1=>exact .cons (.d (h1.nilLe hn)) h2
end Go.Proofs.YtfbfpnfgabamfaaGreat
namespace Go.Proofs.YtfbfpnfgabamfaaGreat
set_option linter.unusedSimpArgs false
set_option linter.unusedVariables false
open Go.RowKit
section
variable {P:Program} {w:World} {F:Nat→Prop} {ρ:Nat→Option Value} {H:Hp} {L:List AObj} {n:Nat} {g:FuncId}
theorem Env.frz {i s:Nat} {rows:List (List D)} (En:Env F ρ H w) (hi:H i=some (.sl s rows)) :
  Step F ρ H w (fun b=>F b∨∃ hh,ρ i=some hh∧blkOf hh=some b) ρ (updF H i (some .dead)) w∧Env (fun b=>F b∨∃ hh,ρ i=some hh∧blkOf hh=some b) ρ (updF H i (some .dead)) w:=by
 have hH:∀ hh,ρ i=some hh→∀ b,blkOf hh=some b→b<w.heap.size∧Lv ρ H b:=by
  intro hh hρ b hb
  obtain⟨h0,e1,_,e3⟩:=En.rep i _ hi rfl
  rw[hρ] at e1;injection e1 with e1;subst e1
  exact⟨(e3 b hb).1,i,_,hh,hi,rfl,hρ,hb⟩
 have hk:∀ j o,updF H i (some .dead) j=some o→o.live=true→j≠i∧H j=some o:=by
  intro j o hj hl
  by_cases e:j=i
  ·subst e;rw[updF_same] at hj;injection hj with hj;subst hj;cases hl
  ·rw[updF_ne _ _ e] at hj;exact⟨e,hj⟩
 refine⟨⟨rfl,rfl,rfl,Nat.le_refl _,fun _ _ _=>rfl,fun b hb=>.inl hb,fun b hb=>?_,fun b ⟨j,o,hh,h1,h2,h3,h4⟩=>.inr ⟨j,o,hh,(hk j o h1 h2).2,h2,h3,h4⟩⟩,⟨fun b hb=>?_,fun j hj=>?_,fun j o hj hl=>?_,fun j k o o' hh hh' b e1 e2 l1 l2=>En.inj j k o o' hh hh' b (hk j o e1 l1).2 (hk k o' e2 l2).2 l1 l2⟩⟩
 ·rcases hb with q|⟨hh,h1,h2⟩
  ·exact .inl q
  ·exact .inr (.inr (hH hh h1 b h2).2)
 ·rcases hb with q|⟨hh,h1,h2⟩
  ·exact En.fb b q
  ·exact (hH hh h1 b h2).1
 ·by_cases e:j=i
  ·subst e;rw[updF_same] at hj;cases hj
  ·rw[updF_ne _ _ e] at hj;exact En.abs j hj
 ·obtain⟨hne,hj'⟩:=hk j o hj hl
  obtain⟨hh,e1,e2,e3⟩:=En.rep j o hj' hl
  refine⟨hh,e1,e2.mono (Nat.le_refl _) (fun b _ _=>rfl) (fun b _=>rfl) (fun b hb=>.inl hb) (Keep.refl _),fun b hb=>⟨(e3 b hb).1,fun q=>?_⟩⟩
  rcases q with q|⟨hh',h1,h2⟩
  ·exact (e3 b hb).2 q
  ·exact hne (En.inj j i o _ hh hh' b hj' hi hl rfl e1 h1 hb h2)
end
end Go.Proofs.YtfbfpnfgabamfaaGreat
namespace Go.Proofs.YtfbfpnfgabamfaaGreat
set_option linter.unusedSimpArgs false
open Go.RowKit
set_option maxRecDepth 100000
set_option linter.unusedVariables false
set_option maxHeartbeats 1000000 in
theorem sameBytes_sat (a b:Bt) (ha:a.length≤1000000):Sat Tryz.prog 78 [.d (bsD a),.d (bsD b)] [] (bA (decide (a=b))) []:=by
 have hla:(a.map bR).length=a.length:=List.length_map _
 have hlb:(b.map bR).length=b.length:=List.length_map _
 by_cases hlen:a.length=b.length
 case neg=>
  rw[decide_eq_false fun h=>hlen (by rw[h])]
  refine Vq Tryz.func78 rfl rfl ?_
  conv=>whnf
  iterate 4
   repeat' first|exact T0|(first|refine Yd fun _=>?_|refine Ye fun _=>?_|refine Yg ?_);conv=>whnf|(refine Ya ?_ ?_<;>intro _<;>conv=>whnf)
   all_goals try (exfalso;simp only[outL] at *;first|omega|contradiction|(simp_all;done)|(simp_all;omega))
   all_goals try (refine Or.inl ?_;conv=>whnf)
  all_goals refine⟨[],?_⟩
  repeat any_goals first|exact T0|exact rfl|exact Yr|refine Ya ?_ ?_
  all_goals conv=>whnf
 refine Vq Tryz.func78 rfl rfl ?_
 conv=>whnf
 iterate 4
  repeat' first|exact T0|(first|refine Yd fun _=>?_|refine Ye fun _=>?_|refine Yg ?_);conv=>whnf|(refine Ya ?_ ?_<;>intro _<;>conv=>whnf)
  all_goals try (exfalso;simp only[outL] at *;first|omega|contradiction|(simp_all;done)|(simp_all;omega))
  all_goals try (refine Or.inl ?_;conv=>whnf)
 refine⟨Nat,fun i=>i≤a.length∧a.take i=b.take i,fun i=>([(5,iA i),(1,.d (bsD b)),(0,.d (bsD a))],[]),fun i=>a.length-i,⟨0,⟨Nat.zero_le _,rfl⟩,?_⟩,?_⟩
 ·all_goals refine⟨[],?_⟩
  repeat any_goals first|exact T0|exact rfl|exact Yr|refine Ya ?_ ?_
  all_goals conv=>whnf
 rintro i ⟨hi,hI⟩
 have hi:i≤a.length:=hi
 conv=>whnf
 by_cases hlt:i<a.length
 ·have hx:a[i]?=some a[i]:=List.getElem?_eq_getElem hlt
  generalize a[i]=x at hx
  have hy:b[i]?=some b[i]:=List.getElem?_eq_getElem (by omega)
  generalize b[i]'(by omega)=y at hy
  have hgx:=map_get (f:=bR) hx
  have hgy:=map_get (f:=bR) hy
  have d1:decide ((i:Int)<((a.map bR).length:Nat))=true:=decide_eq_true (by rw[hla];omega)
  by_cases hxy:x=y
  ·have e1:((x.toNat:Int) != (y.toNat:Int))=false:=by rw[hxy];simp
   iterate 4
    repeat' first|exact T0|(first|refine⟨i,_,rfl,hgx,?_⟩|refine⟨i,_,rfl,hgy,?_⟩|refine Yd fun _=>?_|refine Ye fun _=>?_|refine Yg ?_);conv=>whnf|(refine Ya ?_ ?_<;>intro _<;>conv=>whnf)
    all_goals try (refine Or.inl ?_;conv=>whnf)
   all_goals try exact (bnl d1 ‹_›).elim
   all_goals try exact (bnl ‹_› e1).elim
   refine⟨i+1,⟨hlt,by rw[List.take_add_one,List.take_add_one,hI,hx,hy,hxy]⟩,show a.length-(i+1)<a.length-i by omega,?_⟩
   all_goals refine⟨[],?_⟩
   repeat any_goals first|exact T0|exact rfl|exact Yr|refine Ya ?_ ?_
   all_goals conv=>whnf
   exact wk1 (by omega)
  ·have e1:((x.toNat:Int) != (y.toNat:Int))=true:=by
    rw[bne_iff_ne]
    exact fun h=>hxy (UInt8.toNat.inj (by omega))
   rw[decide_eq_false fun h=>hxy (by rw[h,hy] at hx;injection hx with hx;exact hx.symm)]
   iterate 4
    repeat' first|exact T0|(first|refine⟨i,_,rfl,hgx,?_⟩|refine⟨i,_,rfl,hgy,?_⟩|refine Yd fun _=>?_|refine Ye fun _=>?_|refine Yg ?_);conv=>whnf|(refine Ya ?_ ?_<;>intro _<;>conv=>whnf)
    all_goals try (refine Or.inl ?_;conv=>whnf)
   all_goals try exact (bnl d1 ‹_›).elim
   all_goals try exact (bnl e1 ‹_›).elim
   all_goals refine⟨[],?_⟩
   repeat any_goals first|exact T0|exact rfl|exact Yr|refine Ya ?_ ?_
   all_goals conv=>whnf
 ·rw[decide_eq_true (by rw[←List.take_of_length_le (show a.length≤i by omega),hI,List.take_of_length_le (by omega)])]
  have d1:decide ((i:Int)<((a.map bR).length:Nat))=false:=decide_eq_false (by rw[hla];omega)
  iterate 4
   repeat' first|exact T0|(first|refine Yd fun _=>?_|refine Ye fun _=>?_|refine Yg ?_);conv=>whnf|(refine Ya ?_ ?_<;>intro _<;>conv=>whnf)
   all_goals try (refine Or.inl ?_;conv=>whnf)
  all_goals try exact (bnl ‹_› d1).elim
  all_goals refine⟨[],?_⟩
  repeat any_goals first|exact T0|exact rfl|exact Yr|refine Ya ?_ ?_
  all_goals conv=>whnf
section
variable {F:Nat→Prop} {ρ:Nat→Option Value} {w:World} {H:Hp} {P:Program} {L:List AObj} {n:Nat} {g:FuncId}
def sbs (i:Nat) (x:D):AV→AV
 | .own j=>cond (Nat.beq j i) (.d x) (.own j)
 |y=>y
theorem Env.recell {j:Nat} {cs cs':List AV} (En:Env F ρ H w) (hj:H j=some (.cells cs)) (h:∀ vs,RAs w F ρ cs vs→RAs w F ρ cs' vs):Step F ρ H w F ρ (updF H j (some (.cells cs'))) w∧Env F ρ (updF H j (some (.cells cs'))) w:=by
 have hk:∀ i o,updF H j (some (.cells cs')) i=some o→(i=j∧o=.cells cs')∨H i=some o:=by
  intro i o hi
  by_cases e:i=j
  ·subst e;rw[updF_same] at hi;injection hi with hi;exact .inl ⟨rfl,hi.symm⟩
  ·rw[updF_ne _ _ e] at hi;exact .inr hi
 refine⟨⟨rfl,rfl,rfl,Nat.le_refl _,fun _ _ _=>rfl,fun b hb=>hb,fun b hb=>.inl hb,fun b ⟨i,o,hh,h1,h2,h3,h4⟩=>?_⟩,⟨En.fb,fun i hi=>?_,fun i o hi hl=>?_,fun i k o o' hh hh' b e1 e2 l1 l2 r1 r2 b1 b2=>?_⟩⟩
 ·rcases hk i o h1 with⟨rfl,rfl⟩|q
  ·exact .inr ⟨i,_,hh,hj,rfl,h3,h4⟩
  ·exact .inr ⟨i,o,hh,q,h2,h3,h4⟩
 ·by_cases e:i=j
  ·subst e;rw[updF_same] at hi;cases hi
  ·rw[updF_ne _ _ e] at hi;exact En.abs i hi
 ·rcases hk i o hi with⟨rfl,rfl⟩|q
  ·obtain⟨hh,e1,⟨b,t,vs,q1,q2,q3,q4⟩,e3⟩:=En.rep i _ hj rfl
   exact⟨hh,e1,⟨b,t,vs,q1,q2,h _ q3,q4⟩,e3⟩
  ·exact En.rep i o q hl
 ·have a1:∃ o1,H i=some o1∧o1.live=true:=by
   rcases hk i o e1 with⟨rfl,rfl⟩|q
   ·exact⟨_,hj,rfl⟩
   ·exact⟨o,q,l1⟩
  have a2:∃ o1,H k=some o1∧o1.live=true:=by
   rcases hk k o' e2 with⟨rfl,rfl⟩|q
   ·exact⟨_,hj,rfl⟩
   ·exact⟨o',q,l2⟩
  obtain⟨o1,g1,g2⟩:=a1
  obtain⟨o2,g3,g4⟩:=a2
  exact En.inj i k o1 o2 hh hh' b g1 g3 g2 g4 r1 r2 b1 b2
theorem ras_rds:∀ {ds:List D} {vs:List Value},RAs w F ρ (ds.map .d) vs→(∀ c∈vs,c.oneCell'=true)→RDs w F ds vs
 |[],_,h,_=>by cases h;exact .nil
 |d::ds,_,h,h1=>by
  cases h with|cons h2 h3=>
  cases h2 with|d h2=>exact .cons h2 (h1 _ (List.mem_cons_self ..)) (ras_rds h3 fun c hc=>h1 c (List.mem_cons_of_mem _ hc))
theorem lend_oo {i j s s':Nat} {rows rows':List (List D)} {r:AV} (h:Sat P g [.d (.sl s rows),.d (.sl s' rows')] [] r []) (hi:L[i]?=some (.sl s rows)) (hj:L[j]?=some (.sl s' rows')) (hr:flatA r=true):CallOK P g [.own i,.own j] L n ⟨[i,j],[],[]⟩ r:=by
 have hl:Lend L [.own i,.own j] [.d (.sl s rows),.d (.sl s' rows')] [i,j]:=⟨[j],rfl,hi,[],rfl,hj,rfl⟩
 exact h.lend hl hr (lend_live hl)
end
abbrev ds2:List D:=[iD 5,iD 1,iD 2,iD 0,iD 0,iD 0,iD 0,iD 5,iD 0,iD 0,.sl 4 [[iD 9,iD (-4),tD [109],nilV]],tD [],nilV,nilV]
theorem uintS_enc {u:Nat} (h:u<18446744073709551616) (r:Bt):uintS (enc u++r,0)=(u,(r,0)):=by
 unfold uintS
 simp[dec_enc h r]
theorem intS_enc {z:Int} (h:in64 z) (r:Bt):intS (enc (turnN z)++r,0)=(z,(r,0)):=by
 unfold intS
 rw[uintS_enc (turnN_lt z h.1 h.2)]
 simp only[unturn_turn]
theorem cnt_enc {n:Nat} {m:Int} (hm:(n:Int)≤m) (h:n<18446744073709551616) (r:Bt):cnt (enc n++r) m=(n,(enc n).length,0):=by
 unfold cnt
 rw[dec_enc h r]
 simp only
 rw[if_neg (by decide),if_neg (by rw[Int.max_def];split<;>omega)]
theorem countS_enc {n:Nat} {m:Int} (hm:(n:Int)≤m) (h:n<18446744073709551616) (r:Bt):countS (enc n++r,0) m=(n,(r,0)):=by
 unfold countS
 simp[cnt_enc hm h r]
theorem txtS_enc {t:Bt} {m:Int} (hm:(t.length:Int)≤m) (h:t.length<18446744073709551616) (r:Bt):txtS (encTL t++r,0) m=(t,(r,0)):=by
 have e:encTL t++r=enc t.length++(t++r):=by unfold encTL;rw[List.append_assoc]
 unfold txtS
 simp only
 rw[e,cnt_enc hm h (t++r)]
 simp only
 rw[if_neg (by decide),if_neg (by decide),if_neg (by simp only[List.length_append];omega)]
 have e1:(enc t.length++(t++r)).drop ((enc t.length).length+t.length)=r:=by
  rw[←List.drop_drop,List.drop_left,List.drop_left]
 have e2:((enc t.length++(t++r)).take ((enc t.length).length+t.length)).drop (enc t.length).length=t:=by
  rw[List.drop_take,List.drop_left,show (enc t.length).length+t.length-(enc t.length).length=t.length by omega,List.take_left]
 rw[e1,e2]
theorem labsS_enc:∀ (l acc:List Lab) (r:Bt),(∀ x∈l,x.1.length≤64∧x.2.length≤64)→labsS l.length acc (labsT l++r,0)=(acc++l,(r,0))
 |[],acc,r,_=>by simp[labsS,labsT]
 |x::l,acc,r,h=>by
  have e:labsT (x::l)++r=encTL x.1++(encTL x.2++(labsT l++r)):=by
   show (encTL x.1++encTL x.2++labsT l)++r=_
   simp only[List.append_assoc]
  obtain⟨h1,h2⟩:=h x (List.mem_cons_self ..)
  rw[e]
  show labsS (l.length+1) acc _=_
  rw[labsS,txtS_enc (by omega) (by omega),]
  simp only
  rw[txtS_enc (by omega) (by omega)]
  simp only
  rw[labsS_enc l _ r fun y hy=>h y (List.mem_cons_of_mem _ hy)]
  simp
theorem right_lens {s:Ser} (h:rightB s=true):s.1.length≤64∧s.2.length≤8∧∀ x∈s.2,x.1.length≤64∧x.2.length≤64:=by
 obtain⟨h1,h2,h3⟩:=right_out h
 exact⟨nameL_len h1,h2,fun x hx=>labB_len (h3 x hx)⟩
theorem readS_enc {s:Ser} (h:rightB s=true) (r:Bt):readS (bytesS s++r,0)=(s,0,(r,0)):=by
 obtain⟨h1,h2,h3⟩:=right_lens h
 have e:bytesS s++r=encTL s.1++(enc s.2.length++(labsT s.2++r)):=by
  unfold bytesS
  rw[if_pos h]
  simp only[List.append_assoc]
 unfold readS
 rw[e,txtS_enc (by omega) (by omega)]
 simp only
 rw[countS_enc (by omega) (by omega)]
 simp only
 rw[labsS_enc s.2 [] r h3]
 simp only
 rw[if_neg (by decide),List.nil_append,if_pos h]
abbrev evBk (x:Evt):Prop:=evOk x=true∧in64 x.2.1
theorem stamp_back {z:Int} (h0:0≤z) (h1:z≤4611686018427387903):z.toNat<18446744073709551616∧stampZ z.toNat=z:=by
 refine⟨by omega,?_⟩
 unfold stampZ
 rw[Int.toNat_of_nonneg h0]
 exact wi (by omega) (by omega)
theorem evS_enc:∀ (l acc:List Evt) (r:Bt),(∀ x∈l,evBk x)→evS l.length acc (evsT l++r,0)=(.ok (acc++l),(r,0))
 |[],acc,r,_=>by simp[evS,evsT]
 |x::l,acc,r,h=>by
  have e:evsT (x::l)++r=enc x.1.toNat++(enc (turnN x.2.1)++(bytesS x.2.2++(evsT l++r))):=by
   show (evT x++evsT l)++r=_
   unfold evT
   simp only[List.append_assoc]
  obtain⟨h1,h2⟩:=h x (List.mem_cons_self ..)
  unfold evOk at h1
  rw[Bool.and_eq_true] at h1
  obtain⟨h3,h4⟩:=h1
  obtain⟨h5,h6⟩:=rngB_iff.1 h3
  obtain⟨h7,h8⟩:=stamp_back h5 h6
  rw[e]
  show evS (l.length+1) acc _=_
  rw[evS,uintS_enc h7]
  simp only
  rw[intS_enc h2]
  simp only
  rw[readS_enc h4]
  simp only
  rw[if_neg (by decide),evS_enc l _ r fun y hy=>h y (List.mem_cons_of_mem _ hy),h8]
  simp
theorem eventsS_enc {l:List Evt} (hl:l.length≤64) (h:∀ x∈l,evBk x) (r:Bt):eventsS ((enc l.length++evsT l)++r,0)=(.ok l,(r,0)):=by
 unfold eventsS
 rw[List.append_assoc,countS_enc (by omega) (by omega)]
 simp only
 rw[if_neg (by decide),evS_enc l [] r h]
 rfl
theorem itS_enc {vs:List Int} (h:∀ x∈vs,0≤x∧x≤4611686018427387903) (r:Bt):∀ m,m≤vs.length→itS m (fldT vs++r,0)=(fldT (vs.drop m)++r,0)
 |0,_=>rfl
 |m+1,hm=>by
  rw[itS,itS_enc h r m (by omega)]
  have hx:vs.drop m=vs[m]::vs.drop (m+1):=List.drop_eq_getElem_cons (by omega)
  have:=h vs[m] (List.getElem_mem _)
  rw[hx]
  show (uintS ((enc vs[m].toNat++fldT (vs.drop (m+1)))++r,0)).2=_
  rw[List.append_assoc,uintS_enc (by omega)]
theorem vlS_enc {vs:List Int} (h:∀ x∈vs,0≤x∧x≤4611686018427387903) (r:Bt) (m:Nat) (hm:m<vs.length):vlS m (fldT vs++r,0)=vs[m]:=by
 unfold vlS
 rw[itS_enc h r m (by omega)]
 have hx:vs.drop m=vs[m]::vs.drop (m+1):=List.drop_eq_getElem_cons (by omega)
 have:=h vs[m] (List.getElem_mem _)
 rw[hx]
 show IntKind.i64.wrap ((uintS ((enc vs[m].toNat++fldT (vs.drop (m+1)))++r,0)).1:Int)=_
 rw[List.append_assoc,uintS_enc (by omega)]
 exact (stamp_back this.1 this.2).2
theorem frS_enc {f:Fr} {k:Nat} (h1:1≤k) (h8:k≤8) (hv:∀ x∈valsK f k,0≤x∧x≤4611686018427387903) (hs:f=bareF f k) (r:Bt):frS k (idxK k).length (fldT (valsK f k)++r,0) f.ev f.sr f.d=f:=by
 have hg:∀ i (hi:i<(idxK k).length),vlS i (fldT (valsK f k)++r,0)=getN f (idxK k)[i]:=by
  intro i hi
  rw[vlS_enc hv r i (by unfold valsK;rw[List.length_map];exact hi)]
  unfold valsK
  rw[List.getElem_map]
 generalize (fldT (valsK f k)++r,0)=s at hg
 conv=>rhs;rw[hs]
 have hev:f.ev=if k=5 then f.ev else []:=congrArg Fr.ev hs
 have hsr:f.sr=if k=8 then f.sr else ([],[]):=congrArg Fr.sr hs
 have hd:f.d=if k=8 then f.d else []:=congrArg Fr.d hs
 unfold bareF frS
 rw[←hev,←hsr,←hd]
 clear hev hsr hd hs hv
 have hk:k=1∨k=2∨k=3∨k=4∨k=5∨k=6∨k=7∨k=8:=by omega
 rcases hk with rfl|rfl|rfl|rfl|rfl|rfl|rfl|rfl
 all_goals
  try have g0:=hg 0 (by decide)
  try have g1:=hg 1 (by decide)
  try have g2:=hg 2 (by decide)
  try have g3:=hg 3 (by decide)
  try have g4:=hg 4 (by decide)
  try have g5:=hg 5 (by decide)
  clear hg
  simp only[idxK,getN,List.getElem_cons_zero,List.getElem_cons_succ] at g0
  try simp only[idxK,getN,List.getElem_cons_zero,List.getElem_cons_succ] at g1
  try simp only[idxK,getN,List.getElem_cons_zero,List.getElem_cons_succ] at g2
  try simp only[idxK,getN,List.getElem_cons_zero,List.getElem_cons_succ] at g3
  try simp only[idxK,getN,List.getElem_cons_zero,List.getElem_cons_succ] at g4
  try simp only[idxK,getN,List.getElem_cons_zero,List.getElem_cons_succ] at g5
  simp[vb,vbL,idxK,bnum,getN]
  try simp only[g0]
  try simp only[g1]
  try simp only[g2]
  try simp only[g3]
  try simp only[g4]
  try simp only[g5]
  try (repeat' (first|exact True.intro|exact rfl|refine And.intro ?_ ?_))
theorem parse_enc {f:Fr} (hr:rightF f=true) (hz:∀ x∈f.ev,in64 x.2.1):parseF (frT f f.k.toNat)=(f,0):=by
 have hk:1≤f.k∧f.k≤8:=by
  unfold rightF at hr
  split at hr
  ·assumption
  ·cases hr
 obtain⟨k,hkk⟩:∃ k:Nat,f.k=k:=⟨f.k.toNat,by omega⟩
 have h1:1≤k:=by omega
 have h8:k≤8:=by omega
 obtain⟨q1,q2,q3,q4⟩:=right_parts (rightF_k hkk h1 h8 hr)
 have q4:=sameB_iff.1 q4
 have e0:frT f f.k.toNat=enc k++(fldT (valsK f k)++extT f k):=by
  unfold frT
  rw[hkk,Int.toNat_natCast,List.append_assoc]
 have hit:=itS_enc q2 (extT f k) (idxK k).length (by unfold valsK;rw[List.length_map];exact Nat.le_refl _)
 rw[List.drop_of_length_le (by unfold valsK;rw[List.length_map];exact Nat.le_refl _)] at hit
 have hit:itS (idxK k).length (fldT (valsK f k)++extT f k,0)=(extT f k,0):=hit
 have hfr:=frS_enc h1 h8 q2 q4 (extT f k)
 have hfin:∀ g:Fr,g=f→finP g ([],0)=(f,0):=fun g hg=>by
  subst hg
  unfold finP
  rw[if_neg (fun q=>q rfl),if_pos hr]
 unfold parseF
 rw[e0,uintS_enc (by omega)]
 simp only
 rw[if_neg (by decide),if_neg (by omega)]
 unfold parseK
 rw[hit]
 rw[if_neg (fun q=>q rfl)]
 unfold tailP
 have hev:k≠5→f.ev=[]:=fun h=>(congrArg Fr.ev q4).trans (if_neg h)
 have hsr:k≠8→f.sr=([],[]):=fun h=>(congrArg Fr.sr q4).trans (if_neg h)
 have hd:k≠8→f.d=[]:=fun h=>(congrArg Fr.d q4).trans (if_neg h)
 split
 ·have q3:batchB f.n f.ev=true:=q3
  simp only[batchB,Bool.and_eq_true,decide_eq_true_eq] at q3
  have ee:=eventsS_enc q3.2.1 (fun x hx=>⟨List.all_eq_true.1 q3.2.2.2 x hx,hz x hx⟩) []
  rw[List.append_nil] at ee
  have ex:extT f 5=enc f.ev.length++evsT f.ev:=rfl
  rw[ex] at hfr ⊢
  rw[ee]
  simp only
  refine hfin _ ?_
  rw[hsr (by decide),hd (by decide)] at hfr
  exact hfr
 ·have q3:(rightB f.sr && decide (f.d.length≤4096))=true:=q3
  simp only[Bool.and_eq_true,decide_eq_true_eq] at q3
  have ex:extT f 8=bytesS f.sr++encTL f.d:=rfl
  have et:=txtS_enc (t:=f.d) (m:=4096) (by omega) (by omega) []
  rw[List.append_nil] at et
  rw[ex] at hfr ⊢
  rw[readS_enc q3.1]
  simp only
  rw[et]
  simp only
  rw[if_neg (by decide),if_neg (by decide)]
  refine hfin _ ?_
  rw[hev (by decide)] at hfr
  exact hfr
 ·rename_i n5 n8
  have ex:extT f k=[]:=by
   unfold extT
   rw[if_neg (fun h=>n5 h),if_neg (fun h=>n8 h)]
  rw[ex] at hfr ⊢
  refine hfin _ ?_
  rw[hev (fun h=>n5 h),hsr (fun h=>n8 h),hd (fun h=>n8 h)] at hfr
  exact hfr
theorem decode_enc {f:Fr} (hr:rightF f=true) (hz:∀ x∈f.ev,in64 x.2.1) (hL:(encodeT f).length≤65536):decodeF (encodeT f)=(f,0):=by
 have ho:openOk (encodeT f)=true:=by
  unfold openOk encodeT
  rw[sealT_len,Nat.add_sub_cancel]
  refine decide_eq_true ⟨by omega,?_⟩
  unfold sealT
  rw[List.drop_left,List.take_left]
 have he:openErr (encodeT f)=0:=by
  unfold openErr
  rw[if_neg (by unfold encodeT;rw[sealT_len];omega),ho]
  rfl
 have hb:openBody (encodeT f)=frT f f.k.toNat:=by
  unfold openBody
  rw[if_pos ho]
  unfold encodeT
  rw[sealT_len,Nat.add_sub_cancel]
  unfold sealT
  rw[List.take_left]
 unfold decodeF
 rw[if_neg (by omega),if_neg (by rw[he];decide),hb]
 exact parse_enc hr hz
def ltrN:Nat→UInt8
 |1=>97|2=>101|3=>98|4=>99|5=>103|6=>115|7=>110|8=>116|_=>119
def hasT:Nat→Bt
 |1=>[97,98]|2=>[97,98,101]|3=>[97,98,99]|4=>[97,101,98,99,103,115]|5=>[97,101,110,69]|6=>[97,101,110]|7=>[97,101,110,116]|8=>[119,83,68]|_=>[]
theorem has_no (k:Int) (h:k<1∨8<k):Sat Tryz.prog 67 [iA k] [] (.d (tD [])) []:=by
 have hneg:¬(decide (k<1)=false∧decide (k>8)=false):=by
  rintro⟨p1,p2⟩
  have p1:=of_decide_eq_false p1
  have p2:=of_decide_eq_false p2
  omega
 refine Vq Tryz.func67 rfl rfl ?_
 conv=>whnf
 iterate 4
  repeat' first|exact T0|(first|refine Yd fun _=>?_|refine Ye fun _=>?_|refine Yg ?_);conv=>whnf|(refine Ya ?_ ?_<;>intro _<;>conv=>whnf)
  all_goals try (refine Or.inl ?_;conv=>whnf)
 all_goals try exact (hneg ⟨‹_›,‹_›⟩).elim
 all_goals refine⟨[],?_⟩
 repeat any_goals first|exact T0|exact rfl|exact Yr|refine Ya ?_ ?_
 all_goals conv=>whnf
theorem has_sat (k:Nat) (h1:1≤k) (h8:k≤8):Sat Tryz.prog 67 [iA k] [] (.d (tD (hasT k))) []:=by
 have hk:k=1∨k=2∨k=3∨k=4∨k=5∨k=6∨k=7∨k=8:=by omega
 rcases hk with rfl|rfl|rfl|rfl|rfl|rfl|rfl|rfl
 all_goals
  refine Vq Tryz.func67 rfl rfl ?_
  conv=>whnf
  iterate 4
   repeat' first|exact T0|(first|refine⟨0,rfl,(by decide),?_⟩|refine⟨1,rfl,(by decide),?_⟩|refine⟨2,rfl,(by decide),?_⟩|refine⟨3,rfl,(by decide),?_⟩|refine⟨4,rfl,(by decide),?_⟩|refine⟨5,rfl,(by decide),?_⟩|refine⟨6,rfl,(by decide),?_⟩|refine⟨7,rfl,(by decide),?_⟩|refine⟨_,rfl,?_⟩|refine Yd fun _=>?_|refine Ye fun _=>?_|refine Yg ?_);conv=>whnf|(refine Ya ?_ ?_<;>intro _<;>conv=>whnf)
   all_goals try (refine Or.inl ?_;conv=>whnf)
  all_goals refine⟨[],?_⟩
  repeat any_goals first|exact T0|exact rfl|exact Yr|refine Ya ?_ ?_
  all_goals conv=>whnf
theorem number_sat (f:Fr) (j:Nat) (h1:1≤j) (h9:j≤9):Sat Tryz.prog 71 [.ptr 0 0,u8A (ltrN j)] [.cells (frA f)] (.ptr 0 j) [.cells (frA f)]:=by
 have hj:j=1∨j=2∨j=3∨j=4∨j=5∨j=6∨j=7∨j=8∨j=9:=by omega
 rcases hj with rfl|rfl|rfl|rfl|rfl|rfl|rfl|rfl|rfl
 all_goals
  refine Vq Tryz.func71 rfl rfl ?_
  conv=>whnf
  iterate 10
   repeat' first|exact T0|(first|refine Yd fun _=>?_|refine Ye fun _=>?_|refine Yg ?_);conv=>whnf|(refine Ya ?_ ?_<;>intro _<;>conv=>whnf)
   all_goals try (refine Or.inl ?_;conv=>whnf)
  all_goals refine⟨[],?_⟩
  repeat any_goals first|exact T0|exact rfl|exact Yr|refine Ya ?_ ?_
  all_goals conv=>whnf
theorem time_sat (z:Int):Sat Tryz.prog 103 [iA z] [] (bA (rngB z)) []:=by
 by_cases h:0≤z∧z≤4611686018427387903
 ·rw[rngB_iff.2 h]
  have d1:decide (z≥0)=true:=decide_eq_true h.1
  have d2:decide (z≤4611686018427387903)=true:=decide_eq_true h.2
  refine Vq Tryz.func103 rfl rfl ?_
  conv=>whnf
  iterate 4
   repeat' first|exact T0|(first|refine Yd fun _=>?_|refine Ye fun _=>?_|refine Yg ?_);conv=>whnf|(refine Ya ?_ ?_<;>intro _<;>conv=>whnf)
   all_goals try (refine Or.inl ?_;conv=>whnf)
  all_goals try exact (bnl d1 ‹_›).elim
  all_goals refine⟨[],?_⟩
  repeat any_goals first|exact T0|exact rfl|exact Yr|refine Ya ?_ ?_
  all_goals conv=>whnf
  rw[d2]
 ·have e:rngB z=false:=by
   cases hh:rngB z with
   |false=>rfl
   |true=>exact absurd (rngB_iff.1 hh) h
  rw[e]
  have hneg:¬(decide (z≥0)=true∧decide (z≤4611686018427387903)=true):=by
   rintro⟨p1,p2⟩
   exact h ⟨of_decide_eq_true p1,of_decide_eq_true p2⟩
  refine Vq Tryz.func103 rfl rfl ?_
  conv=>whnf
  iterate 4
   repeat' first|exact T0|(first|refine Yd fun _=>?_|refine Ye fun _=>?_|refine Yg ?_);conv=>whnf|(refine Ya ?_ ?_<;>intro _<;>conv=>whnf)
   all_goals try (refine Or.inl ?_;conv=>whnf)
  all_goals refine⟨[],?_⟩
  repeat any_goals first|exact T0|exact rfl|exact Yr|refine Ya ?_ ?_
  all_goals conv=>whnf
  exact congrArg (fun b=>bA b) (by
   cases hh:decide (z≤4611686018427387903) with
   |false=>rfl
   |true=>exact (hneg ⟨‹decide (z≥0)=true›,hh⟩).elim)
theorem in_sat (s:Bt) (c:UInt8) (hn:s.length≤1000):Sat Tryz.prog 102 [.d (tD s),u8A c] [] (bA (s.contains c)) []:=by
 have hs:=tsz s
 refine Vq Tryz.func102 rfl rfl ?_
 conv=>whnf
 iterate 3
  repeat' first|exact T0|(first|refine Yd fun _=>?_|refine Ye fun _=>?_|refine Yg ?_);conv=>whnf|(refine Ya ?_ ?_<;>intro _<;>conv=>whnf)
  all_goals try (refine Or.inl ?_;conv=>whnf)
 refine⟨Nat,fun i=>i≤s.length∧(s.take i).contains c=false,fun i=>([(5,iA i),(1,u8A c),(0,.d (tD s))],[]),fun i=>s.length-i,⟨0,⟨Nat.zero_le _,rfl⟩,?_⟩,?_⟩
 ·all_goals refine⟨[],?_⟩
  repeat any_goals first|exact T0|exact rfl|exact Yr|refine Ya ?_ ?_
  all_goals conv=>whnf
 rintro i ⟨hi,hI⟩
 have hi:i≤s.length:=hi
 have hI:(s.take i).contains c=false:=hI
 conv=>whnf
 by_cases hlt:i<s.length
 ·have hz:s[i]?=some s[i]:=List.getElem?_eq_getElem hlt
  generalize s[i]=z at hz
  obtain⟨qz,ez⟩:=ix_get hz
  have d1:decide ((i:Int)<((⟨s.toArray⟩:ByteArray).size:Nat))=true:=decide_eq_true (by rw[hs];omega)
  by_cases hzc:z=c
  ·have e:s.contains c=true:=List.contains_iff_mem.2 (hzc ▸ List.mem_of_getElem? hz)
   rw[e]
   have d2:((z.toNat:Int) == (c.toNat:Int))=true:=by rw[hzc,beq_iff_eq]
   iterate 4
    repeat' first|exact T0|(first|(refine⟨i,qz,rfl,?_⟩;rw[ez])|refine Yd fun _=>?_|refine Ye fun _=>?_|refine Yg ?_);conv=>whnf|(refine Ya ?_ ?_<;>intro _<;>conv=>whnf)
    all_goals try (refine Or.inl ?_;conv=>whnf)
   all_goals try exact (bnl d1 ‹_›).elim
   all_goals try exact (bnl d2 ‹_›).elim
   all_goals refine⟨[],?_⟩
   repeat any_goals first|exact T0|exact rfl|exact Yr|refine Ya ?_ ?_
   all_goals conv=>whnf
  ·have d2:((z.toNat:Int) == (c.toNat:Int))=false:=by
    rw[beq_eq_false_iff_ne]
    exact fun h=>hzc (UInt8.toNat.inj (by omega))
   iterate 4
    repeat' first|exact T0|(first|(refine⟨i,qz,rfl,?_⟩;rw[ez])|refine Yd fun _=>?_|refine Ye fun _=>?_|refine Yg ?_);conv=>whnf|(refine Ya ?_ ?_<;>intro _<;>conv=>whnf)
    all_goals try (refine Or.inl ?_;conv=>whnf)
   all_goals try exact (bnl d1 ‹_›).elim
   all_goals try exact (bnl ‹_› d2).elim
   refine⟨i+1,⟨hlt,?_⟩,show s.length-(i+1)<s.length-i by omega,?_⟩
   ·rw[List.take_add_one,hz]
    cases hc:(s.take i++(some z).toList).contains c with
    |false=>rfl
    |true=>
     rcases List.mem_append.1 (List.contains_iff_mem.1 hc) with q|q
     ·rw[List.contains_iff_mem.2 q] at hI;cases hI
     ·exact absurd (List.mem_singleton.1 q).symm hzc
   all_goals refine⟨[],?_⟩
   repeat any_goals first|exact T0|exact rfl|exact Yr|refine Ya ?_ ?_
   all_goals conv=>whnf
   exact wk1 (by omega)
 ·have d1:decide ((i:Int)<((⟨s.toArray⟩:ByteArray).size:Nat))=false:=decide_eq_false (by rw[hs];omega)
  rw[List.take_of_length_le (show s.length≤i by omega)] at hI
  rw[hI]
  iterate 4
   repeat' first|exact T0|(first|refine Yd fun _=>?_|refine Ye fun _=>?_|refine Yg ?_);conv=>whnf|(refine Ya ?_ ?_<;>intro _<;>conv=>whnf)
   all_goals try (refine Or.inl ?_;conv=>whnf)
  all_goals try exact (bnl ‹_› d1).elim
  all_goals refine⟨[],?_⟩
  repeat any_goals first|exact T0|exact rfl|exact Yr|refine Ya ?_ ?_
  all_goals conv=>whnf
abbrev rrO (s:Rs):AObj:=.cells [.d (bsD s.1),iA s.2]
theorem rNew_sat (l:Bt):Sat Tryz.prog 111 [.d (bsD l)] [] (.ptr 0 0) [rrO (l,0)]:=by
 refine Vq Tryz.func111 rfl rfl ?_
 conv=>whnf
 iterate 4
  repeat' first|exact T0|(first|refine Yd fun _=>?_|refine Ye fun _=>?_|refine Yg ?_);conv=>whnf|(refine Ya ?_ ?_<;>intro _<;>conv=>whnf)
  all_goals try (refine Or.inl ?_;conv=>whnf)
 all_goals refine⟨[],?_⟩
 repeat any_goals first|exact T0|exact rfl|exact Yr|refine Ya ?_ ?_
 all_goals conv=>whnf
theorem rrEnd_sat (s:Rs):Sat Tryz.prog 116 [.ptr 0 0] [rrO s] (iA (endS s).2) [rrO (endS s)]:=by
 obtain⟨l,e⟩:=s
 unfold endS
 have hl:(l.map bR).length=l.length:=List.length_map _
 by_cases h:e=0
 ·subst h
  rw[if_neg (fun q=>q rfl)]
  by_cases h1:l=[]
  ·rw[if_pos h1]
   have d1:decide (((l.map bR).length:Int)>0)=false:=decide_eq_false (by rw[hl,h1];decide)
   refine Vq Tryz.func116 rfl rfl ?_
   conv=>whnf
   iterate 5
    repeat' first|exact T0|(first|refine Yd fun _=>?_|refine Ye fun _=>?_|refine Yg ?_);conv=>whnf|(refine Ya ?_ ?_<;>intro _<;>conv=>whnf)
    all_goals try (refine Or.inl ?_;conv=>whnf)
   all_goals try exact (bnl ‹_› d1).elim
   all_goals refine⟨[],?_⟩
   repeat any_goals first|exact T0|exact rfl|exact Yr|refine Ya ?_ ?_
   all_goals conv=>whnf
  ·rw[if_neg h1]
   have d1:decide (((l.map bR).length:Int)>0)=true:=decide_eq_true (by
    rw[hl]
    rcases Nat.eq_zero_or_pos l.length with q|q
    ·exact absurd (List.eq_nil_of_length_eq_zero q) h1
    ·omega)
   refine Vq Tryz.func116 rfl rfl ?_
   conv=>whnf
   iterate 5
    repeat' first|exact T0|(first|refine Yd fun _=>?_|refine Ye fun _=>?_|refine Yg ?_);conv=>whnf|(refine Ya ?_ ?_<;>intro _<;>conv=>whnf)
    all_goals try (refine Or.inl ?_;conv=>whnf)
   all_goals try exact (bnl d1 ‹_›).elim
   all_goals refine⟨[],?_⟩
   repeat any_goals first|exact T0|exact rfl|exact Yr|refine Ya ?_ ?_
   all_goals conv=>whnf
 ·rw[if_pos h]
  have d1:((e:Int) == 0)=false:=by rw[beq_eq_false_iff_ne];omega
  refine Vq Tryz.func116 rfl rfl ?_
  conv=>whnf
  iterate 5
   repeat' first|exact T0|(first|refine Yd fun _=>?_|refine Ye fun _=>?_|refine Yg ?_);conv=>whnf|(refine Ya ?_ ?_<;>intro _<;>conv=>whnf)
   all_goals try (refine Or.inl ?_;conv=>whnf)
  all_goals try exact (bnl ‹_› d1).elim
  all_goals refine⟨[],?_⟩
  repeat any_goals first|exact T0|exact rfl|exact Yr|refine Ya ?_ ?_
  all_goals conv=>whnf
theorem decF_cons (i acc:Nat) (c:UInt8) (r:Bt):decF i acc (c::r)=if (c.toNat=0∧0<i)∨(1<c.toNat∧i=9) then (0,0,10) else if c.toNat<128 then (acc+c.toNat * 128 ^ i,i+1,0) else decF (i+1) (acc+c.toNat % 128*128 ^ i) r:=rfl
theorem rr_val (i acc c:Nat) (hi:i≤9) (ha:acc<128 ^ i) (hc:c<256) (h9:i=9→c≤1):IntKind.u64.wrap ((acc:Int)+IntKind.u64.wrap (IntKind.u64.wrap ((c:Int).tmod 128)*2 ^ (min (IntKind.u64.wrap (IntKind.i64.wrap (7*(i:Int)))).toNat IntKind.u64.bits)))=((acc+c % 128*128 ^ i:Nat):Int):=by
 have hm:(c:Int).tmod 128=((c % 128:Nat):Int):=rfl
 have hw:∀ z,IntKind.u64.wrap z=z % 18446744073709551616:=fun z=>rfl
 have hcs:i=0∨i=1∨i=2∨i=3∨i=4∨i=5∨i=6∨i=7∨i=8∨i=9:=by omega
 have hs:min (IntKind.u64.wrap (IntKind.i64.wrap (7*(i:Int)))).toNat IntKind.u64.bits=7*i:=by
  rcases hcs with rfl|rfl|rfl|rfl|rfl|rfl|rfl|rfl|rfl|rfl<;>decide
 rw[hs,hm,hw,hw,hw]
 rcases hcs with rfl|rfl|rfl|rfl|rfl|rfl|rfl|rfl|rfl|rfl<;>simp at ha h9 ⊢<;>omega
set_option maxHeartbeats 8000000 in
theorem rrUint_sat (s:Rs) (hn:s.1.length≤100000):Sat Tryz.prog 112 [.ptr 0 0] [rrO s] (.d (.v (.int .u64 ((uintS s).1:Int)))) [rrO (uintS s).2]:=by
 obtain⟨l,e⟩:=s
 have hl:(l.map bR).length=l.length:=List.length_map _
 unfold uintS
 by_cases h:e=0
 case neg=>
  rw[if_pos h]
  have d1:((e:Int) != 0)=true:=by rw[bne_iff_ne];omega
  refine Vq Tryz.func112 rfl rfl ?_
  conv=>whnf
  iterate 5
   repeat' first|exact T0|(first|refine Yd fun _=>?_|refine Ye fun _=>?_|refine Yg ?_);conv=>whnf|(refine Ya ?_ ?_<;>intro _<;>conv=>whnf)
   all_goals try (refine Or.inl ?_;conv=>whnf)
  all_goals try exact (bnl d1 ‹_›).elim
  all_goals refine⟨[],?_⟩
  repeat any_goals first|exact T0|exact rfl|exact Yr|refine Ya ?_ ?_
  all_goals conv=>whnf
 subst h
 rw[if_neg (fun q=>q rfl)]
 simp only
 refine Vq Tryz.func112 rfl rfl ?_
 conv=>whnf
 iterate 5
  repeat' first|exact T0|(first|refine Yd fun _=>?_|refine Ye fun _=>?_|refine Yg ?_);conv=>whnf|(refine Ya ?_ ?_<;>intro _<;>conv=>whnf)
  all_goals try (refine Or.inl ?_;conv=>whnf)
 refine⟨Nat × Nat,fun z=>z.1≤9∧z.2<128 ^ z.1∧decF z.1 z.2 (l.drop z.1)=dec l,fun z=>([(4,iA z.1),(3,.d (.v (.int .u64 (z.2:Int)))),(0,.ptr 0 0)],[rrO (l,0)]),fun z=>10-z.1,⟨(0,0),⟨by decide,by decide,rfl⟩,?_⟩,?_⟩
 ·all_goals refine⟨[],?_⟩
  repeat any_goals first|exact T0|exact rfl|exact Yr|refine Ya ?_ ?_
  all_goals conv=>whnf
 rintro⟨i,acc⟩ ⟨hi,ha,hd⟩
 have hi:i≤9:=hi
 have ha:acc<128 ^ i:=ha
 have hd:decF i acc (l.drop i)=dec l:=hd
 have d0:decide ((i:Int)<10)=true:=decide_eq_true (by omega)
 by_cases hlt:i<l.length
 case neg=>
  have d1:decide ((i:Int)≥((l.map bR).length:Nat))=true:=decide_eq_true (by rw[hl];omega)
  have hdd:dec l=(0,0,15):=by rw[←hd,List.drop_of_length_le (by omega)];rfl
  rw[hdd,if_pos (by decide)]
  conv=>whnf
  iterate 5
   repeat' first|exact T0|(first|refine Yd fun _=>?_|refine Ye fun _=>?_|refine Yg ?_);conv=>whnf|(refine Ya ?_ ?_<;>intro _<;>conv=>whnf)
   all_goals try (refine Or.inl ?_;conv=>whnf)
  all_goals try exact (bnl d0 ‹_›).elim
  all_goals try exact (bnl d1 ‹_›).elim
  all_goals refine⟨[],?_⟩
  repeat any_goals first|exact T0|exact rfl|exact Yr|refine Ya ?_ ?_
  all_goals conv=>whnf
 have d1:decide ((i:Int)≥((l.map bR).length:Nat))=false:=decide_eq_false (by rw[hl];omega)
 have hx:l[i]?=some l[i]:=List.getElem?_eq_getElem hlt
 rw[List.drop_eq_getElem_cons hlt,decF_cons] at hd
 generalize l[i]=c at hx hd
 have hgx:=map_get (f:=bR) hx
 by_cases hb:(c.toNat=0∧0<i)∨(1<c.toNat∧i=9)
 ·rw[if_pos hb] at hd
  rw[←hd,if_pos (by decide)]
  have hneg:¬((((i:Int) == 9)=false∨decide ((c.toNat:Int)>1)=false)∧(decide ((i:Int)>0)=false∨((c.toNat:Int) == 0)=false)):=by
   rintro⟨p1,p2⟩
   simp only[beq_eq_false_iff_ne,decide_eq_false_iff_not] at p1 p2
   omega
  conv=>whnf
  iterate 8
   repeat' first|exact T0|(first|refine⟨i,_,rfl,hgx,?_⟩|refine Yd fun _=>?_|refine Ye fun _=>?_|refine Yg ?_);conv=>whnf|(refine Ya ?_ ?_<;>intro _<;>conv=>whnf)
   all_goals try (refine Or.inl ?_;conv=>whnf)
  all_goals try exact (bnl d0 ‹_›).elim
  all_goals try exact (bnl ‹_› d1).elim
  all_goals try first|exact (hneg ⟨.inl ‹_›,.inl ‹_›⟩).elim|exact (hneg ⟨.inl ‹_›,.inr ‹_›⟩).elim|exact (hneg ⟨.inr ‹_›,.inl ‹_›⟩).elim|exact (hneg ⟨.inr ‹_›,.inr ‹_›⟩).elim
  all_goals refine⟨[],?_⟩
  repeat any_goals first|exact T0|exact rfl|exact Yr|refine Ya ?_ ?_
  all_goals conv=>whnf
 rw[if_neg hb] at hd
 have hc256:c.toNat<256:=c.toNat_lt
 have hsh:(0:Int)≤IntKind.u64.wrap (IntKind.i64.wrap (7*(i:Int))):=by
  rw[wi (by omega) (by omega)]
  show 0≤(7*(i:Int)) % 18446744073709551616
  omega
 have hv:=rr_val i acc c.toNat hi ha hc256 (fun h=>by omega)
 have hn1:¬(((i:Int) == 9)=true∧decide ((c.toNat:Int)>1)=true):=by
  rintro⟨p1,p2⟩
  have p1:=beq_iff_eq.1 p1
  have p2:=of_decide_eq_true p2
  exact hb (.inr ⟨by omega,by omega⟩)
 have hn2:¬(decide ((i:Int)>0)=true∧((c.toNat:Int) == 0)=true):=by
  rintro⟨p1,p2⟩
  have p2:=beq_iff_eq.1 p2
  have p1:=of_decide_eq_true p1
  exact hb (.inl ⟨by omega,by omega⟩)
 have hwi:IntKind.i64.wrap ((i:Int)+1)=((i+1:Nat):Int):=by rw[wi (by omega) (by omega)];omega
 have hpw:acc+c.toNat % 128*128 ^ i<128 ^ (i+1):=by
  have:c.toNat % 128*128 ^ i≤127*128 ^ i:=Nat.mul_le_mul_right _ (by omega)
  rw[Nat.pow_succ];omega
 by_cases hc:c.toNat<128
 ·rw[if_pos hc] at hd
  rw[Nat.mod_eq_of_lt hc] at hv
  have d2:decide ((c.toNat:Int)<128)=true:=decide_eq_true (by omega)
  rw[←hd,if_neg (fun h=>h rfl)]
  conv=>whnf
  iterate 12
   repeat' first|exact T0|(first|refine⟨i,_,rfl,hgx,?_⟩|refine Ya hsh ?_|rw[hwi]|refine Yd fun _=>?_|refine Ye fun _=>?_|refine Yg ?_|refine Yk (from_d (lo:=i+1) 1 1 (by kernel_rfl) (by rw[hl];omega)) ?_);conv=>whnf|(refine Ya ?_ ?_<;>intro _<;>conv=>whnf)
   all_goals try (refine Or.inl ?_;conv=>whnf)
  all_goals try exact (bnl d0 ‹_›).elim
  all_goals try exact (bnl ‹_› d1).elim
  all_goals try exact (hn1 ⟨‹_›,‹_›⟩).elim
  all_goals try exact (hn2 ⟨‹_›,‹_›⟩).elim
  all_goals try exact (bnl d2 ‹_›).elim
  all_goals refine⟨[],?_⟩
  repeat any_goals first|exact T0|exact rfl|exact Yr|refine Ya ?_ ?_
  all_goals conv=>whnf
  all_goals first|exact congrArg (fun z=>AV.d (.v (.int .u64 z))) hv|exact congrArg (fun z=>AV.d (.sl 1 z)) List.map_drop.symm
 ·rw[if_neg hc] at hd
  have d2:decide ((c.toNat:Int)<128)=false:=decide_eq_false (by omega)
  have hi9:i≠9:=fun h=>hb (.inr ⟨by omega,h⟩)
  conv=>whnf
  iterate 12
   repeat' first|exact T0|(first|refine⟨i,_,rfl,hgx,?_⟩|refine Ya hsh ?_|refine Yd fun _=>?_|refine Ye fun _=>?_|refine Yg ?_);conv=>whnf|(refine Ya ?_ ?_<;>intro _<;>conv=>whnf)
   all_goals try (refine Or.inl ?_;conv=>whnf)
  all_goals try exact (bnl d0 ‹_›).elim
  all_goals try exact (bnl ‹_› d1).elim
  all_goals try exact (hn1 ⟨‹_›,‹_›⟩).elim
  all_goals try exact (hn2 ⟨‹_›,‹_›⟩).elim
  all_goals try exact (bnl ‹_› d2).elim
  all_goals refine⟨(i+1,acc+c.toNat % 128*128 ^ i),⟨by show i+1≤9;omega,hpw,hd⟩,show 10-(i+1)<10-i by omega,?_⟩
  all_goals refine⟨[],?_⟩
  repeat any_goals first|exact T0|exact rfl|exact Yr|refine Ya ?_ ?_
  all_goals conv=>whnf
  all_goals first|exact congrArg (fun z=>AV.d (.v (.int .u64 z))) hv|exact wk1 (by omega)
theorem rUnturn_sat (u:Nat) (h:u<18446744073709551616):Sat Tryz.prog 133 [.d (.v (.int .u64 (u:Int)))] [] (iA (unturnZ u)) []:=.of_same (.cons (.d (.v _)) .nil) (.d (.v _)) fun w=>refUnturn_any u w h
theorem rrInt_sat (s:Rs) (hn:s.1.length≤100000):Sat Tryz.prog 129 [.ptr 0 0] [rrO s] (iA (intS s).1) [rrO (intS s).2]:=by
 have f1:=rrUint_sat s hn
 have t1:=rUnturn_sat (uintS s).1 (uintS_lt s)
 refine Vq Tryz.func129 rfl rfl ?_
 conv=>whnf
 iterate 4
  repeat' first|exact T0|(first|refine Yd fun _=>?_|refine Ye fun _=>?_|refine Yg ?_|refine Yk (f1.at1 0 rfl rfl rfl) ?_|refine Yk (t1.pu rfl rfl) ?_);conv=>whnf|(refine Ya ?_ ?_<;>intro _<;>conv=>whnf)
  all_goals try (refine Or.inl ?_;conv=>whnf)
 all_goals refine⟨[],?_⟩
 repeat any_goals first|exact T0|exact rfl|exact Yr|refine Ya ?_ ?_
 all_goals conv=>whnf
theorem cnt_ok {l:Bt} {m:Int} (h1:(dec l).2.2=0) (h2:¬max m 0<((dec l).1:Int)):cnt l m=dec l:=by
 unfold cnt
 rw[if_neg (fun q=>q h1),if_neg h2]
theorem cnt_big {l:Bt} {m:Int} (h1:(dec l).2.2=0) (h2:max m 0<((dec l).1:Int)):cnt l m=(0,0,17):=by
 unfold cnt
 rw[if_neg (fun q=>q h1),if_pos h2]
theorem cnt_err {l:Bt} {m:Int} (h1:(dec l).2.2≠0):cnt l m=(0,0,(dec l).2.2):=by
 unfold cnt
 rw[if_pos h1]
set_option maxHeartbeats 4000000 in
theorem rrCount_sat (s:Rs) (m:Int) (hm:0≤m∧m≤1000000) (hn:s.1.length≤100000):Sat Tryz.prog 128 [.ptr 0 0,iA m] [rrO s] (iA (countS s m).1) [rrO (countS s m).2]:=by
 have f1:=rrUint_sat s hn
 have hub:=uintS_lt s
 obtain⟨l,e⟩:=s
 have hmx:max m 0=m:=Int.max_eq_left hm.1
 have hif:(if (0:Int)>m then (0:Int) else m)=m:=if_neg (by omega)
 have hu:IntKind.u64.wrap m=m:=by
  show m % 18446744073709551616=m
  omega
 by_cases he:e=0
 case neg=>
  have e1:uintS (l,e)=(0,(l,e)):=if_pos he
  have e2:countS (l,e) m=(0,(l,e)):=if_pos he
  rw[e1] at f1
  rw[e2]
  have d1:((e:Int) == 0)=false:=by rw[beq_eq_false_iff_ne];omega
  refine Vq Tryz.func128 rfl rfl ?_
  conv=>whnf
  iterate 6
   repeat' first|exact T0|(first|refine Yd fun _=>?_|refine Ye fun _=>?_|refine Yg ?_|refine Yk (f1.at1 0 rfl rfl rfl) ?_);conv=>whnf|(refine Ya ?_ ?_<;>intro _<;>conv=>whnf)
   all_goals try (refine Or.inl ?_;conv=>whnf)
  all_goals try exact (bnl ‹_› d1).elim
  all_goals refine⟨[],?_⟩
  repeat any_goals first|exact T0|exact rfl|exact Yr|refine Ya ?_ ?_
  all_goals conv=>whnf
 subst he
 by_cases h1:(dec l).2.2=0
 case neg=>
  have e1:uintS (l,0)=(0,(l,(dec l).2.2)):=by unfold uintS;rw[if_neg (fun q=>q rfl),if_pos h1]
  have e2:countS (l,0) m=(0,(l,(dec l).2.2)):=by unfold countS;rw[if_neg (fun q=>q rfl),cnt_err h1,if_pos h1]
  rw[e1] at f1
  rw[e2]
  have d1:(((dec l).2.2:Int) == 0)=false:=by rw[beq_eq_false_iff_ne];omega
  refine Vq Tryz.func128 rfl rfl ?_
  conv=>whnf
  iterate 6
   repeat' first|exact T0|(first|refine Yd fun _=>?_|refine Ye fun _=>?_|refine Yg ?_|refine Yk (f1.at1 0 rfl rfl rfl) ?_);conv=>whnf|(refine Ya ?_ ?_<;>intro _<;>conv=>whnf)
   all_goals try (refine Or.inl ?_;conv=>whnf)
  all_goals try exact (bnl ‹_› d1).elim
  all_goals refine⟨[],?_⟩
  repeat any_goals first|exact T0|exact rfl|exact Yr|refine Ya ?_ ?_
  all_goals conv=>whnf
 have e1:uintS (l,0)=((dec l).1,(l.drop (dec l).2.1,0)):=by unfold uintS;rw[if_neg (fun q=>q rfl),if_neg (fun q=>q h1)]
 rw[e1] at f1 hub
 by_cases h2:max m 0<((dec l).1:Int)
 ·have e2:countS (l,0) m=(0,(l,17)):=by unfold countS;rw[if_neg (fun q=>q rfl),cnt_big h1 h2,if_pos (by decide)]
  rw[e2]
  have d2:decide (((dec l).1:Int)>IntKind.u64.wrap (if (0:Int)>m then (0:Int) else m))=true:=decide_eq_true (by rw[hif,hu];omega)
  refine Vq Tryz.func128 rfl rfl ?_
  conv=>whnf
  iterate 6
   repeat' first|exact T0|(first|refine Yd fun _=>?_|refine Ye fun _=>?_|refine Yg ?_|refine Yk (f1.at1 0 rfl rfl rfl) ?_);conv=>whnf|(refine Ya ?_ ?_<;>intro _<;>conv=>whnf)
   all_goals try (refine Or.inl ?_;conv=>whnf)
  all_goals try exact (bnl d2 ‹_›).elim
  all_goals refine⟨[],?_⟩
  repeat any_goals first|exact T0|exact rfl|exact Yr|refine Ya ?_ ?_
  all_goals conv=>whnf
 ·have e2:countS (l,0) m=((dec l).1,(l.drop (dec l).2.1,0)):=by unfold countS;rw[if_neg (fun q=>q rfl),cnt_ok h1 h2,if_neg (fun q=>q h1)]
  rw[e2]
  have d2:decide (((dec l).1:Int)>IntKind.u64.wrap (if (0:Int)>m then (0:Int) else m))=false:=decide_eq_false (by rw[hif,hu];omega)
  refine Vq Tryz.func128 rfl rfl ?_
  conv=>whnf
  iterate 6
   repeat' first|exact T0|(first|refine Yd fun _=>?_|refine Ye fun _=>?_|refine Yg ?_|refine Yk (f1.at1 0 rfl rfl rfl) ?_);conv=>whnf|(refine Ya ?_ ?_<;>intro _<;>conv=>whnf)
   all_goals try (refine Or.inl ?_;conv=>whnf)
  all_goals try exact (bnl ‹_› d2).elim
  all_goals refine⟨[],?_⟩
  repeat any_goals first|exact T0|exact rfl|exact Yr|refine Ya ?_ ?_
  all_goals conv=>whnf
  all_goals exact congrArg (fun z=>iA z) (wi (by omega) (by omega))
set_option maxHeartbeats 4000000 in
theorem rrText_sat (s:Rs) (m:Int) (hm:0≤m∧m≤1000000) (hn:s.1.length≤100000):Sat Tryz.prog 115 [.ptr 0 0,iA m] [rrO s] (.d (tD (txtS s m).1)) [rrO (txtS s m).2]:=by
 have f1:=rrCount_sat s m hm hn
 obtain⟨l,e⟩:=s
 by_cases he:e=0
 case neg=>
  have e1:countS (l,e) m=(0,(l,e)):=if_pos he
  have e2:txtS (l,e) m=([],(l,e)):=if_pos he
  rw[e1] at f1
  rw[e2]
  have d1:((e:Int) == 0)=false:=by rw[beq_eq_false_iff_ne];omega
  have d2:((e:Int) != 0)=true:=by rw[bne_iff_ne];omega
  refine Vq Tryz.func115 rfl rfl ?_
  conv=>whnf
  iterate 6
   repeat' first|exact T0|(first|refine Yd fun _=>?_|refine Ye fun _=>?_|refine Yg ?_|refine Yk (f1.at1 0 rfl rfl rfl) ?_);conv=>whnf|(refine Ya ?_ ?_<;>intro _<;>conv=>whnf)
   all_goals try (refine Or.inl ?_;conv=>whnf)
  all_goals try exact (bnl ‹_› d1).elim
  all_goals try exact (bnl d2 ‹_›).elim
  all_goals refine⟨[],?_⟩
  repeat any_goals first|exact T0|exact rfl|exact Yr|refine Ya ?_ ?_
  all_goals conv=>whnf
 subst he
 have hbd:=cnt_bounds l m
 by_cases h1:(cnt l m).2.2=0
 case neg=>
  have e1:countS (l,0) m=(0,(l,(cnt l m).2.2)):=by unfold countS;rw[if_neg (fun q=>q rfl),if_pos h1]
  have e2:txtS (l,0) m=([],(l,(cnt l m).2.2)):=by unfold txtS;rw[if_neg (fun q=>q rfl),if_pos h1]
  rw[e1] at f1
  rw[e2]
  have d1:(((cnt l m).2.2:Int) == 0)=false:=by rw[beq_eq_false_iff_ne];omega
  have d2:(((cnt l m).2.2:Int) != 0)=true:=by rw[bne_iff_ne];omega
  refine Vq Tryz.func115 rfl rfl ?_
  conv=>whnf
  iterate 6
   repeat' first|exact T0|(first|refine Yd fun _=>?_|refine Ye fun _=>?_|refine Yg ?_|refine Yk (f1.at1 0 rfl rfl rfl) ?_);conv=>whnf|(refine Ya ?_ ?_<;>intro _<;>conv=>whnf)
   all_goals try (refine Or.inl ?_;conv=>whnf)
  all_goals try exact (bnl ‹_› d1).elim
  all_goals try exact (bnl d2 ‹_›).elim
  all_goals refine⟨[],?_⟩
  repeat any_goals first|exact T0|exact rfl|exact Yr|refine Ya ?_ ?_
  all_goals conv=>whnf
 have e1:countS (l,0) m=((cnt l m).1,(l.drop (cnt l m).2.1,0)):=by unfold countS;rw[if_neg (fun q=>q rfl),if_neg (fun q=>q h1)]
 rw[e1] at f1
 have e0:txtS (l,0) m=if l.length-(cnt l m).2.1<(cnt l m).1 then ([],(l,15)) else ((l.take ((cnt l m).2.1+(cnt l m).1)).drop (cnt l m).2.1,(l.drop ((cnt l m).2.1+(cnt l m).1),0)):=by
  unfold txtS;rw[if_neg (fun q=>q rfl),if_neg (fun q=>q h1)]
 rw[e0]
 generalize (cnt l m).1=n at *
 generalize (cnt l m).2.1=z at *
 have hdl:((l.drop z).map bR).length=l.length-z:=by rw[List.length_map,List.length_drop]
 by_cases h2:l.length-z<n
 ·rw[if_pos h2]
  have d2:decide ((n:Int)>(((l.drop z).map bR).length:Int))=true:=decide_eq_true (by rw[hdl];omega)
  refine Vq Tryz.func115 rfl rfl ?_
  conv=>whnf
  iterate 8
   repeat' first|exact T0|(first|refine Yd fun _=>?_|refine Ye fun _=>?_|refine Yg ?_|refine Yk (f1.at1 0 rfl rfl rfl) ?_);conv=>whnf|(refine Ya ?_ ?_<;>intro _<;>conv=>whnf)
   all_goals try (refine Or.inl ?_;conv=>whnf)
  all_goals try exact (bnl d2 ‹_›).elim
  all_goals refine⟨[],?_⟩
  repeat any_goals first|exact T0|exact rfl|exact Yr|refine Ya ?_ ?_
  all_goals conv=>whnf
 ·rw[if_neg h2]
  have d2:decide ((n:Int)>(((l.drop z).map bR).length:Int))=false:=decide_eq_false (by rw[hdl];omega)
  have ht:((l.drop z).map bR).take n=((l.take (z+n)).drop z).map bR:=by
   rw[←List.map_take,List.drop_take];congr 2;omega
  refine Vq Tryz.func115 rfl rfl ?_
  conv=>whnf
  iterate 8
   repeat' first|exact T0|(first|rw[ht]|refine Yd fun _=>?_|refine Ye fun _=>?_|refine Yg ?_|refine Yk (f1.at1 0 rfl rfl rfl) ?_|refine Yk (upto_d (hi:=n) 1 1 (by kernel_rfl) (by rw[hdl];omega)) ?_|refine Yk (from_d (lo:=n) 1 1 (by kernel_rfl) (by rw[hdl];omega)) ?_|refine Yk (str_d ((l.take (z+n)).drop z)) ?_);conv=>whnf|(refine Ya ?_ ?_<;>intro _<;>conv=>whnf)
   all_goals try (refine Or.inl ?_;conv=>whnf)
  all_goals try exact (bnl ‹_› d2).elim
  all_goals refine⟨[],?_⟩
  repeat any_goals first|exact T0|exact rfl|exact Yr|refine Ya ?_ ?_
  all_goals conv=>whnf
  all_goals exact congrArg (fun z=>AV.d (.sl 1 z)) (by rw[←List.map_drop,List.drop_drop])
abbrev rdL (p:Ser × Nat):List D:=if p.2≠0 then [tD [],nilV] else [tD p.1.1,.sl 2 (p.1.2.map labR)]
theorem readS_err0 (s:Rs) (h:(readS s).2.1≠0):(readS s).1=([],[]):=by
 unfold readS at h ⊢
 simp only at h ⊢
 split
 ·rfl
 ·rename_i h1
  rw[if_neg h1] at h
  split
  ·rename_i h2
   rw[if_pos h2] at h
   exact absurd rfl h
  ·rfl
set_option maxHeartbeats 8000000 in
theorem rRead_pre (s:Rs) (hn:s.1.length≤65536):Sat Tryz.prog 114 [.ptr 0 0] [rrO s] (.tup [.d (.agg (rdL ((readS s).1,(readS s).2.1))),iA (readS s).2.1]) [rrO (readS s).2.2]:=by
 have t0:=rrText_sat s 64 ⟨by decide,by decide⟩ (by omega)
 have n1:=txtS_len s 64
 unfold readS
 generalize txtS s 64=a at *
 obtain⟨nm,s1⟩:=a
 simp only at t0 n1 ⊢
 have c0:=rrCount_sat s1 8 ⟨by decide,by decide⟩ (by omega)
 have n2:=countS_len s1 8
 have n3:=countS_le s1 8
 generalize countS s1 8=c at *
 obtain⟨N,s2⟩:=c
 simp only at c0 n2 n3 ⊢
 have hN:N≤8:=by omega
 have hlast:=labsS_len N [] s2
 obtain⟨q,hq⟩:∃ q,labsS N [] s2=q:=⟨_,rfl⟩
 rw[hq] at hlast ⊢
 have r1:=rRight_sat (nm,q.1)
 refine Vq Tryz.func114 rfl rfl ?_
 conv=>whnf
 iterate 3
  repeat' first|exact T0|(first|refine Yd fun _=>?_|refine Ye fun _=>?_|refine Yg ?_|refine Yk (t0.at1 0 rfl rfl rfl) ?_|refine Yk (c0.at1 0 rfl rfl rfl) ?_);conv=>whnf|(refine Ya ?_ ?_<;>intro _<;>conv=>whnf)
  all_goals try (refine Or.inl ?_;conv=>whnf)
 refine⟨Nat × List Lab × Rs,fun y=>y.1≤N∧labsS (N-y.1) y.2.1 y.2.2=q∧y.2.1.length≤y.1∧y.2.2.1.length≤65536,fun y=>([(6,iA y.1),(5,iA N),(4,.ptr 2 0),(2,.ptr 1 0),(0,.ptr 0 0)],[rrO y.2.2,.cells [.d (tD []),.d nilV],.cells [.d (tD nm),.own 3],.sl 2 (y.2.1.map labR)]),fun y=>N-y.1,⟨(0,[],s2),⟨Nat.zero_le _,hq,Nat.zero_le _,by show s2.1.length≤_;omega⟩,?_⟩,?_⟩
 ·all_goals refine⟨[],?_⟩
  repeat any_goals first|exact T0|exact rfl|exact Yr|refine Ya ?_ ?_
  all_goals conv=>whnf
 rintro⟨k,ls,s3⟩ ⟨h1,h2,h3,h4⟩
 simp only at h1 h2 h3 h4
 have hls:(ls.map labR).length=ls.length:=List.length_map _
 by_cases hk:k<N
 ·have dk:decide ((k:Int)<(N:Nat))=true:=decide_eq_true (by omega)
  rw[show N-k=(N-(k+1))+1 by omega,labsS] at h2
  have t1:=rrText_sat s3 64 ⟨by decide,by decide⟩ (by omega)
  have l1:=txtS_len s3 64
  generalize txtS s3 64=a at *
  obtain⟨x1,s4⟩:=a
  simp only at t1 l1 h2
  have t2:=rrText_sat s4 64 ⟨by decide,by decide⟩ (by omega)
  have l2:=txtS_len s4 64
  generalize txtS s4 64=b at *
  obtain⟨x2,s5⟩:=b
  simp only at t2 l2 h2
  conv=>whnf
  iterate 5
   repeat' first|exact T0|(first|refine Yd fun _=>?_|refine Ye fun _=>?_|refine Yg ?_|refine Yk (t1.at1 0 rfl rfl rfl) ?_|refine Yk (t2.at1 0 rfl rfl rfl) ?_|refine Yk (ap 2 32 (by kernel_rfl) rfl rfl (by rw[hls];simp only[List.length_cons,List.length_nil];omega)) ?_);conv=>whnf|(refine Ya ?_ ?_<;>intro _<;>conv=>whnf)
   all_goals try (refine Or.inl ?_;conv=>whnf)
  all_goals try exact (bnl dk ‹_›).elim
  refine⟨(k+1,ls++[(x1,x2)],s5),⟨hk,h2,by rw[List.length_append];simp;omega,by show s5.1.length≤_;omega⟩,show N-(k+1)<N-k by omega,?_⟩
  all_goals refine⟨[(3,5)],?_⟩
  repeat any_goals first|exact T0|exact rfl|exact Yr|refine Ya ?_ ?_
  all_goals conv=>whnf
  ·exact wk1 (by omega)
  ·rw[List.map_append];rfl
 have dk:decide ((k:Int)<(N:Nat))=false:=decide_eq_false (by omega)
 rw[show N-k=0 by omega,labsS] at h2
 subst h2
 simp only at hlast r1 ⊢
 by_cases he:s3.2=0
 case neg=>
  have d1:=ne0 he
  simp only[if_pos he]
  conv=>whnf
  iterate 6
   repeat' first|exact T0|(first|refine Yd fun _=>?_|refine Ye fun _=>?_|refine Yg ?_);conv=>whnf|(refine Ya ?_ ?_<;>intro _<;>conv=>whnf)
   all_goals try (refine Or.inl ?_;conv=>whnf)
  all_goals try exact (bnl ‹_› dk).elim
  all_goals try exact (bnl d1 ‹_›).elim
  all_goals refine⟨[],?_⟩
  repeat any_goals first|exact T0|exact rfl|exact Yr|refine Ya ?_ ?_
  all_goals conv=>whnf
 have d1:=ne0' he
 cases hr:rightB (nm,ls) with
 |false=>
  rw[hr] at r1
  simp only[if_neg (show ¬s3.2≠0 from fun h=>h he),if_neg (show ¬(false=true) by decide)]
  conv=>whnf
  iterate 6
   repeat' first|exact T0|(first|refine Yd fun _=>?_|refine Ye fun _=>?_|refine Yg ?_|refine Yk (r1.lendAgg rfl rfl) ?_);conv=>whnf|(refine Ya ?_ ?_<;>intro _<;>conv=>whnf)
   all_goals try (refine Or.inl ?_;conv=>whnf)
  all_goals try exact (bnl ‹_› dk).elim
  all_goals try exact (bnl ‹_› d1).elim
  all_goals refine⟨[],?_⟩
  repeat any_goals first|exact T0|exact rfl|exact Yr|refine Ya ?_ ?_
  all_goals conv=>whnf
 |true=>
  rw[hr] at r1
  simp only[if_neg (show ¬s3.2≠0 from fun h=>h he),if_pos rfl]
  conv=>whnf
  iterate 6
   repeat' first|exact T0|(first|refine Yd fun _=>?_|refine Ye fun _=>?_|refine Yg ?_|refine Yk (r1.lendAgg rfl rfl) ?_);conv=>whnf|(refine Ya ?_ ?_<;>intro _<;>conv=>whnf)
   all_goals try (refine Or.inl ?_;conv=>whnf)
  all_goals try exact (bnl ‹_› dk).elim
  all_goals try exact (bnl ‹_› d1).elim
  all_goals refine⟨[],?_⟩
  repeat any_goals first|exact T0|exact rfl|exact Yr|refine Ya ?_ ?_
  all_goals conv=>whnf
theorem rRead_sat (s:Rs) (hn:s.1.length≤65536):Sat Tryz.prog 114 [.ptr 0 0] [rrO s] (.tup [.d (serD (readS s).1),iA (readS s).2.1]) [rrO (readS s).2.2]:=by
 have h:=rRead_pre s hn
 by_cases he:(readS s).2.1=0
 ·rw[show rdL ((readS s).1,(readS s).2.1)=[tD (readS s).1.1,.sl 2 ((readS s).1.2.map labR)] from if_neg (fun q=>q he)] at h
  exact h
 ·rw[show rdL ((readS s).1,(readS s).2.1)=[tD [],nilV] from if_pos he] at h
  rw[readS_err0 s he]
  exact h.post fun w F ρ v h=>nilTup h
structure Ag where
 id:Int
 most:Int
 boot:Int
 epoch:Int
 clock:Int
 seq:Int
 kept:List Evt
 dropped:Int
 probes:List (Int × Int × Int)
abbrev prR (p:Int × Int × Int):List D:=[iD p.1,iD p.2.1,iD p.2.2]
abbrev agC (a:Ag) (x y:AV):List AV:=[iA a.id,iA a.most,iA a.boot,iA a.epoch,iA a.clock,iA a.seq,x,iA a.dropped,y]
abbrev agH (a:Ag):List AObj:=[.cells (agC a (.own 1) (.own 2)),.sl 4 (a.kept.map evR),.sl 3 (a.probes.map prR)]
abbrev agH2 (a:Ag):List AObj:=[.cells (agC a (.own 3) (.own 4)),.dead,.dead,.sl 4 (a.kept.map evR),.sl 3 (a.probes.map prR)]
def observeA (a:Ag) (r:Int):Ag × Nat:=if a.boot=0 then (a,21) else if r<0∨4611686018427387903<r then (a,11) else ({ a with clock:=max a.clock r },0)
theorem maxE (a b:Int):(if b>a then b else a)=max a b:=by rw[Int.max_def];split<;>split<;>omega
theorem observe_sat (a:Ag) (r:Int):Sat Tryz.prog 45 [.ptr 0 0,iA r] (agH a) (iA (observeA a r).2) (agH (observeA a r).1):=by
 obtain⟨id,most,boot,epoch,clock,seq,kept,dropped,probes⟩:=a
 unfold observeA
 simp only
 by_cases h1:boot=0
 ·rw[if_pos h1]
  have d1:(boot == 0)=true:=by rw[beq_iff_eq];exact h1
  refine Vq Tryz.func45 rfl rfl ?_
  conv=>whnf
  iterate 4
   repeat' first|exact T0|(first|refine Yd fun _=>?_|refine Ye fun _=>?_|refine Yg ?_);conv=>whnf|(refine Ya ?_ ?_<;>intro _<;>conv=>whnf)
   all_goals try (refine Or.inl ?_;conv=>whnf)
  all_goals try exact (bnl d1 ‹_›).elim
  all_goals refine⟨[],?_⟩
  repeat any_goals first|exact T0|exact rfl|exact Yr|refine Ya ?_ ?_
  all_goals conv=>whnf
 ·rw[if_neg h1]
  have d1:(boot == 0)=false:=by rw[beq_eq_false_iff_ne];exact h1
  by_cases h2:r<0∨4611686018427387903<r
  ·rw[if_pos h2]
   have hneg:¬(decide (r<0)=false∧decide (r>4611686018427387903)=false):=by
    rintro⟨p1,p2⟩
    have p1:=of_decide_eq_false p1
    have p2:=of_decide_eq_false p2
    omega
   refine Vq Tryz.func45 rfl rfl ?_
   conv=>whnf
   iterate 4
    repeat' first|exact T0|(first|refine Yd fun _=>?_|refine Ye fun _=>?_|refine Yg ?_);conv=>whnf|(refine Ya ?_ ?_<;>intro _<;>conv=>whnf)
    all_goals try (refine Or.inl ?_;conv=>whnf)
   all_goals try exact (bnl ‹_› d1).elim
   all_goals try exact (hneg ⟨‹_›,‹_›⟩).elim
   all_goals refine⟨[],?_⟩
   repeat any_goals first|exact T0|exact rfl|exact Yr|refine Ya ?_ ?_
   all_goals conv=>whnf
  ·rw[if_neg h2]
   have d2:decide (r<0)=false:=decide_eq_false (by omega)
   have d3:decide (r>4611686018427387903)=false:=decide_eq_false (by omega)
   refine Vq Tryz.func45 rfl rfl ?_
   conv=>whnf
   iterate 4
    repeat' first|exact T0|(first|refine Yd fun _=>?_|refine Ye fun _=>?_|refine Yg ?_);conv=>whnf|(refine Ya ?_ ?_<;>intro _<;>conv=>whnf)
    all_goals try (refine Or.inl ?_;conv=>whnf)
   all_goals try exact (bnl ‹_› d1).elim
   all_goals try exact (bnl ‹_› d2).elim
   all_goals try exact (bnl ‹_› d3).elim
   all_goals refine⟨[],?_⟩
   repeat any_goals first|exact T0|exact rfl|exact Yr|refine Ya ?_ ?_
   all_goals conv=>whnf
   exact congrArg (fun z=>iA z) (maxE _ _)
section
variable (a:Ag)
theorem agId_sat:Sat Tryz.prog 30 [.ptr 0 0] (agH a) (iA a.id) (agH a):=by
 refine Vq Tryz.func30 rfl rfl ?_
 conv=>whnf
 iterate 3
  repeat' first|exact T0|(first|refine Yd fun _=>?_|refine Ye fun _=>?_|refine Yg ?_);conv=>whnf|(refine Ya ?_ ?_<;>intro _<;>conv=>whnf)
  all_goals try (refine Or.inl ?_;conv=>whnf)
 all_goals refine⟨[],?_⟩
 repeat any_goals first|exact T0|exact rfl|exact Yr|refine Ya ?_ ?_
 all_goals conv=>whnf
theorem agBoot_sat:Sat Tryz.prog 15 [.ptr 0 0] (agH a) (iA a.boot) (agH a):=by
 refine Vq Tryz.func15 rfl rfl ?_
 conv=>whnf
 iterate 3
  repeat' first|exact T0|(first|refine Yd fun _=>?_|refine Ye fun _=>?_|refine Yg ?_);conv=>whnf|(refine Ya ?_ ?_<;>intro _<;>conv=>whnf)
  all_goals try (refine Or.inl ?_;conv=>whnf)
 all_goals refine⟨[],?_⟩
 repeat any_goals first|exact T0|exact rfl|exact Yr|refine Ya ?_ ?_
 all_goals conv=>whnf
theorem agEpoch_sat:Sat Tryz.prog 23 [.ptr 0 0] (agH a) (iA a.epoch) (agH a):=by
 refine Vq Tryz.func23 rfl rfl ?_
 conv=>whnf
 iterate 3
  repeat' first|exact T0|(first|refine Yd fun _=>?_|refine Ye fun _=>?_|refine Yg ?_);conv=>whnf|(refine Ya ?_ ?_<;>intro _<;>conv=>whnf)
  all_goals try (refine Or.inl ?_;conv=>whnf)
 all_goals refine⟨[],?_⟩
 repeat any_goals first|exact T0|exact rfl|exact Yr|refine Ya ?_ ?_
 all_goals conv=>whnf
theorem agClock_sat:Sat Tryz.prog 16 [.ptr 0 0] (agH a) (iA a.clock) (agH a):=by
 refine Vq Tryz.func16 rfl rfl ?_
 conv=>whnf
 iterate 3
  repeat' first|exact T0|(first|refine Yd fun _=>?_|refine Ye fun _=>?_|refine Yg ?_);conv=>whnf|(refine Ya ?_ ?_<;>intro _<;>conv=>whnf)
  all_goals try (refine Or.inl ?_;conv=>whnf)
 all_goals refine⟨[],?_⟩
 repeat any_goals first|exact T0|exact rfl|exact Yr|refine Ya ?_ ?_
 all_goals conv=>whnf
theorem agSeq_sat:Sat Tryz.prog 20 [.ptr 0 0] (agH a) (iA a.seq) (agH a):=by
 refine Vq Tryz.func20 rfl rfl ?_
 conv=>whnf
 iterate 3
  repeat' first|exact T0|(first|refine Yd fun _=>?_|refine Ye fun _=>?_|refine Yg ?_);conv=>whnf|(refine Ya ?_ ?_<;>intro _<;>conv=>whnf)
  all_goals try (refine Or.inl ?_;conv=>whnf)
 all_goals refine⟨[],?_⟩
 repeat any_goals first|exact T0|exact rfl|exact Yr|refine Ya ?_ ?_
 all_goals conv=>whnf
theorem agDropped_sat:Sat Tryz.prog 29 [.ptr 0 0] (agH a) (iA a.dropped) (agH a):=by
 refine Vq Tryz.func29 rfl rfl ?_
 conv=>whnf
 iterate 3
  repeat' first|exact T0|(first|refine Yd fun _=>?_|refine Ye fun _=>?_|refine Yg ?_);conv=>whnf|(refine Ya ?_ ?_<;>intro _<;>conv=>whnf)
  all_goals try (refine Or.inl ?_;conv=>whnf)
 all_goals refine⟨[],?_⟩
 repeat any_goals first|exact T0|exact rfl|exact Yr|refine Ya ?_ ?_
 all_goals conv=>whnf
theorem agProbes_sat:Sat Tryz.prog 21 [.ptr 0 0] (agH a) (iA a.probes.length) (agH a):=by
 have hl:(a.probes.map prR).length=a.probes.length:=List.length_map _
 refine Vq Tryz.func21 rfl rfl ?_
 conv=>whnf
 iterate 3
  repeat' first|exact T0|(first|refine Yd fun _=>?_|refine Ye fun _=>?_|refine Yg ?_);conv=>whnf|(refine Ya ?_ ?_<;>intro _<;>conv=>whnf)
  all_goals try (refine Or.inl ?_;conv=>whnf)
 all_goals refine⟨[],?_⟩
 repeat any_goals first|exact T0|exact rfl|exact Yr|refine Ya ?_ ?_
 all_goals conv=>whnf
 rw[hl]
def firstA (a:Ag):Int:=a.seq-a.kept.length
theorem agFirst_sat (h:in64 (firstA a)):Sat Tryz.prog 19 [.ptr 0 0] (agH a) (iA (firstA a)) (agH a):=by
 have hl:(a.kept.map evR).length=a.kept.length:=List.length_map _
 have hw:IntKind.i64.wrap (a.seq-((a.kept.map evR).length:Int))=firstA a:=by
  unfold firstA at h ⊢
  rw[hl,wi h.1 h.2]
 refine Vq Tryz.func19 rfl rfl ?_
 conv=>whnf
 iterate 3
  repeat' first|exact T0|(first|refine Yd fun _=>?_|refine Ye fun _=>?_|refine Yg ?_);conv=>whnf|(refine Ya ?_ ?_<;>intro _<;>conv=>whnf)
  all_goals try (refine Or.inl ?_;conv=>whnf)
 all_goals refine⟨[],?_⟩
 repeat any_goals first|exact T0|exact rfl|exact Yr|refine Ya ?_ ?_
 all_goals conv=>whnf
 rw[hw]
end
section
variable {P:Program} {g:FuncId} {args:List AV} {H:List AObj} {r:AV}
theorem Sat.nilCell {cs cs':List AV} {T:List AObj} (s:Nat) (h:Sat P g args H r (.cells cs::T))
  (hcs:∀ w F ρ,ρ (T.length+1)=some (.slice none 0 0)→∀ vs,RAs w F ρ cs vs→RAs w F ρ cs' vs):Sat P g args H r (.cells cs'::(T++[.sl s []])):=by
 intro F ρ w vals En hv
 refine (h F ρ w vals En hv).mono ?_
 rintro e w' ⟨v,rfl,F',ρ',S,K,E,R⟩
 have hn:hp (.cells cs::T) (T.length+1)=none:=List.getElem?_eq_none (by simp)
 have hG:w'.grownBy w' none:=⟨rfl,rfl,rfl,Nat.le_refl _,fun _ _ _=>rfl⟩
 obtain⟨S1,K1,E1⟩:=E.new (n:=T.length+1) (o':=.sl s []) (h:=.slice none 0 0) hn hG (fun b hb=>by cases hb) ⟨[],Ow.nil _ _ _ _,.nil,fun r hr=>by cases hr⟩
 have h0:updF (hp (.cells cs::T)) (T.length+1) (some (.sl s [])) 0=some (.cells cs):=by rw[updF_ne _ _ (by omega)];rfl
 obtain⟨S2,E2⟩:=E1.recell (cs':=cs') h0 (hcs _ _ _ (updF_same _ _ _))
 have e:updF (updF (hp (.cells cs::T)) (T.length+1) (some (.sl s []))) 0 (some (.cells cs'))=hp (.cells cs'::(T++[.sl s []])):=by
  funext i
  match i with
  |0=>rfl
  |i+1=>
   rw[updF_ne _ _ (by omega)]
   show _=(T++[AObj.sl s []])[i]?
   by_cases hi:i=T.length
   ·subst hi
    rw[updF_same,List.getElem?_append_right (Nat.le_refl _),Nat.sub_self]
    rfl
   ·rw[updF_ne _ _ (by omega)]
    show T[i]?=_
    rcases Nat.lt_or_ge i T.length with q|q
    ·rw[List.getElem?_append_left q]
    ·rw[List.getElem?_eq_none q,List.getElem?_eq_none (by simp;omega)]
 rw[e] at S2 E2
 exact⟨v,rfl,F',_,(S.trans S1).trans S2,K.trans K1,E2,R.mono (fun _ _=>rfl) (fun _ h=>h) K1⟩
end
theorem ras_nil {w:World} {F:Nat→Prop} {ρ:Nat→Option Value} {n:Nat} (h:ρ n=some (.slice none 0 0)):∀ {xs ys:List AV} {vs:List Value},RAs w F ρ (xs++.d nilV::ys) vs→RAs w F ρ (xs++.own n::ys) vs
 |[],_,_,h0=>by
  cases h0 with|cons h1 h2=>
  obtain rfl:=h1.v_out
  exact .cons (.own h) h2
 |x::xs,_,_,h0=>by
  cases h0 with|cons h1 h2=>exact .cons h1 (ras_nil h (xs:=xs) h2)
theorem Sat.agNil {P:Program} {g:FuncId} {args:List AV} {H:List AObj} {r:AV} (a:Ag) {T:List AObj} (h:Sat P g args H r (.cells (agC a (.d nilV) (.d nilV))::T)) (n:Nat) (hn:T.length+1=n) :
  Sat P g args H r (.cells (agC a (.own n) (.own (n+1)))::(T++[.sl 4 [],.sl 3 []])):=by
 have h1:=h.nilCell (cs':=agC a (.own n) (.d nilV)) 4 (fun w F ρ hρ vs hv=>ras_nil (xs:=[iA a.id,iA a.most,iA a.boot,iA a.epoch,iA a.clock,iA a.seq]) (ys:=[iA a.dropped,.d nilV]) (by rw[←hn];exact hρ) hv)
 have h2:=h1.nilCell (cs':=agC a (.own n) (.own (n+1))) 3 (fun w F ρ hρ vs hv=>ras_nil (xs:=[iA a.id,iA a.most,iA a.boot,iA a.epoch,iA a.clock,iA a.seq,.own n,iA a.dropped]) (ys:=[]) (by rw[←hn,←hρ];simp) hv)
 rw[List.append_assoc] at h2
 exact h2
def newA (id most boot:Int):Ag:=⟨id,most,boot,0,0,0,[],0,[]⟩
def startA (a:Ag) (b:Int):Ag × Nat:=if b<1∨1099511627776<b then (a,11) else if b≤a.boot then (a,22) else (newA a.id a.most b,0)
theorem start_sat (a:Ag) (b:Int):Sat Tryz.prog 28 [.ptr 0 0,iA b] (agH a) (iA (startA a b).2) (agH2 (startA a b).1):=by
 obtain⟨id,most,boot,epoch,clock,seq,kept,dropped,probes⟩:=a
 unfold startA
 simp only
 by_cases h1:b<1∨1099511627776<b
 ·rw[if_pos h1]
  have hneg:¬(decide (b<1)=false∧decide (b>1099511627776)=false):=by
   rintro⟨p1,p2⟩
   have p1:=of_decide_eq_false p1
   have p2:=of_decide_eq_false p2
   omega
  refine Vq Tryz.func28 rfl rfl ?_
  conv=>whnf
  iterate 4
   repeat' first|exact T0|(first|refine Yd fun _=>?_|refine Ye fun _=>?_|refine Yg ?_);conv=>whnf|(refine Ya ?_ ?_<;>intro _<;>conv=>whnf)
   all_goals try (refine Or.inl ?_;conv=>whnf)
  all_goals try exact (hneg ⟨‹_›,‹_›⟩).elim
  all_goals refine⟨[(1,3),(2,4)],?_⟩
  repeat any_goals first|exact T0|exact rfl|exact Yr|refine Ya ?_ ?_
  all_goals conv=>whnf
 ·rw[if_neg h1]
  have d1:decide (b<1)=false:=decide_eq_false (by omega)
  have d2:decide (b>1099511627776)=false:=decide_eq_false (by omega)
  by_cases h2:b≤boot
  ·rw[if_pos h2]
   have d3:decide (b≤boot)=true:=decide_eq_true h2
   refine Vq Tryz.func28 rfl rfl ?_
   conv=>whnf
   iterate 4
    repeat' first|exact T0|(first|refine Yd fun _=>?_|refine Ye fun _=>?_|refine Yg ?_);conv=>whnf|(refine Ya ?_ ?_<;>intro _<;>conv=>whnf)
    all_goals try (refine Or.inl ?_;conv=>whnf)
   all_goals try exact (bnl ‹_› d1).elim
   all_goals try exact (bnl ‹_› d2).elim
   all_goals try exact (bnl d3 ‹_›).elim
   all_goals refine⟨[(1,3),(2,4)],?_⟩
   repeat any_goals first|exact T0|exact rfl|exact Yr|refine Ya ?_ ?_
   all_goals conv=>whnf
  ·rw[if_neg h2]
   have d3:decide (b≤boot)=false:=decide_eq_false h2
   refine Sat.agNil (newA id most b) (T:=[.dead,.dead]) ?_ 3 rfl
   refine Vq Tryz.func28 rfl rfl ?_
   conv=>whnf
   iterate 4
    repeat' first|exact T0|(first|refine Yd fun _=>?_|refine Ye fun _=>?_|refine Yg ?_);conv=>whnf|(refine Ya ?_ ?_<;>intro _<;>conv=>whnf)
    all_goals try (refine Or.inl ?_;conv=>whnf)
   all_goals try exact (bnl ‹_› d1).elim
   all_goals try exact (bnl ‹_› d2).elim
   all_goals try exact (bnl ‹_› d3).elim
   all_goals refine⟨[],?_⟩
   repeat any_goals first|exact T0|exact rfl|exact Yr|refine Ya ?_ ?_
   all_goals conv=>whnf
theorem agNew_no (id most:Int) (h:id<0∨64≤id∨most<1∨1024<most):Sat Tryz.prog 10 [iA id,iA most] [] (.tup [.d (.v (.pointer none)),iA 11]) []:=by
 have hneg:¬(decide (id<0)=false∧decide (id≥64)=false∧decide (most<1)=false∧decide (most>1024)=false):=by
  rintro⟨p1,p2,p3,p4⟩
  have p1:=of_decide_eq_false p1
  have p2:=of_decide_eq_false p2
  have p3:=of_decide_eq_false p3
  have p4:=of_decide_eq_false p4
  omega
 refine Vq Tryz.func10 rfl rfl ?_
 conv=>whnf
 iterate 4
  repeat' first|exact T0|(first|refine Yd fun _=>?_|refine Ye fun _=>?_|refine Yg ?_);conv=>whnf|(refine Ya ?_ ?_<;>intro _<;>conv=>whnf)
  all_goals try (refine Or.inl ?_;conv=>whnf)
 all_goals try exact (hneg ⟨‹_›,‹_›,‹_›,‹_›⟩).elim
 all_goals refine⟨[],?_⟩
 repeat any_goals first|exact T0|exact rfl|exact Yr|refine Ya ?_ ?_
 all_goals conv=>whnf
theorem agNew_ok (id most:Int) (h:¬(id<0∨64≤id∨most<1∨1024<most)):Sat Tryz.prog 10 [iA id,iA most] [] (.tup [.ptr 0 0,iA 0]) (agH (newA id most 0)):=by
 have d1:decide (id<0)=false:=decide_eq_false (by omega)
 have d2:decide (id≥64)=false:=decide_eq_false (by omega)
 have d3:decide (most<1)=false:=decide_eq_false (by omega)
 have d4:decide (most>1024)=false:=decide_eq_false (by omega)
 refine Sat.agNil (newA id most 0) (T:=[]) ?_ 1 rfl
 refine Vq Tryz.func10 rfl rfl ?_
 conv=>whnf
 iterate 4
  repeat' first|exact T0|(first|refine Yd fun _=>?_|refine Ye fun _=>?_|refine Yg ?_);conv=>whnf|(refine Ya ?_ ?_<;>intro _<;>conv=>whnf)
  all_goals try (refine Or.inl ?_;conv=>whnf)
 all_goals try exact (bnl ‹_› d1).elim
 all_goals try exact (bnl ‹_› d2).elim
 all_goals try exact (bnl ‹_› d3).elim
 all_goals try exact (bnl ‹_› d4).elim
 all_goals refine⟨[],?_⟩
 repeat any_goals first|exact T0|exact rfl|exact Yr|refine Ya ?_ ?_
 all_goals conv=>whnf
theorem labR_len {l:List Lab}:∀ r∈l.map labR,r.length=2:=fun r hr=>by
 obtain⟨x,_,rfl⟩:=List.mem_map.1 hr;rfl
theorem cloneD_calls (l:List Lab) (hn:l.length≤1000) (A:Option Addr) (c:Nat) (w:World) (hr:Rd w w.heap.size 2 A l.length (lcells l)) :
  Calls Tryz.prog 80 #[.slice A l.length c] w fun e w'=>∃ v,e=.returned v∧Ow w' w.heap.size 86 2 v l.length (lcells l)∧Below w.heap.size w w':=by
 rcases Nat.eq_zero_or_pos l.length with h0|h0
 ·have:l=[]:=List.eq_nil_of_length_eq_zero h0
  subst this
  exact (cloneL0_any A c w).mono fun e w' ⟨v,h1,h2,h3,_⟩=>⟨v,h1,h2,h3⟩
 ·exact cloneL_any A _ c l w hr hn
theorem cloneD_sat (l:List Lab) (hn:l.length≤1000):Sat Tryz.prog 80 [.d (.sl 2 (l.map labR))] [] (.d (.sl 2 (l.map labR))) []:=by
 intro F ρ w vals En hv
 obtain⟨v,rfl,hv'⟩:=hv.one_out
 cases hv' with|d hv=>
 obtain⟨A,c,rfl,h1,h2,hr⟩:=hv.sl_rd En.fb (flat_map labR_flat l)
 rw[List.length_map] at hr ⊢
 refine (cloneD_calls l hn A c w hr).mono ?_
 rintro e w' ⟨v,rfl,how,hb⟩
 obtain⟨F1,ρ1,S,K,E,R⟩:=data_ret En (flat_map labR_flat l) labR_len (by rw[List.length_map];exact how) hb
 exact⟨_,rfl,F1,ρ1,S,K,E,.d R⟩
theorem cloneO_sat (l:List Lab) (hn:l.length≤1000):Sat Tryz.prog 80 [.own 0] [.sl 2 (l.map labR)] (.d (.sl 2 (l.map labR))) [.sl 2 (l.map labR)]:=by
 intro F ρ w vals En hv
 obtain⟨v,rfl,hv'⟩:=hv.one_out
 cases hv' with|own R=>
 obtain⟨hh,e1,⟨vs,how,hra,hs1⟩,e3⟩:=En.rep 0 _ rfl rfl
 rw[R] at e1;injection e1 with e1;subst e1
 obtain rfl:=(flat_map labR_flat l).eq hra
 obtain⟨A',c',he,g1,g2,hrd⟩:=how.form
 rw[he]
 rw[List.length_map] at g1 hrd ⊢
 refine (cloneD_calls l hn A' c' w hrd).mono ?_
 rintro x w' ⟨v,rfl,how,hb⟩
 obtain⟨F1,S,E,R1⟩:=data_retG En (flat_map labR_flat l) labR_len (by rw[List.length_map];exact how) hb
 exact⟨_,rfl,F1,ρ,S,Keep.refl _,E,.d R1⟩
theorem copied_sat (x:Evt) (hn:x.2.2.2.length≤1000):Sat Tryz.prog 44 [.d (.agg (evR x))] [] (.d (.agg (evR x))) []:=by
 have c1:=cloneD_sat x.2.2.2 hn
 refine Vq Tryz.func44 rfl rfl ?_
 conv=>whnf
 iterate 4
  repeat' first|exact T0|(first|refine Yd fun _=>?_|refine Ye fun _=>?_|refine Yg ?_|refine Yk (c1.pu rfl rfl) ?_);conv=>whnf|(refine Ya ?_ ?_<;>intro _<;>conv=>whnf)
  all_goals try (refine Or.inl ?_;conv=>whnf)
 all_goals refine⟨[],?_⟩
 repeat any_goals first|exact T0|exact rfl|exact Yr|refine Ya ?_ ?_
 all_goals conv=>whnf
theorem copiedO_sat (x:Evt) (hn:x.2.2.2.length≤1000):Sat Tryz.prog 44 [.agg [iA x.1,iA x.2.1,.d (tD x.2.2.1),.own 0]] [.sl 2 (x.2.2.2.map labR)] (.d (.agg (evR x))) [.sl 2 (x.2.2.2.map labR)]:=by
 have c1:=cloneO_sat x.2.2.2 hn
 refine Vq Tryz.func44 rfl rfl ?_
 conv=>whnf
 iterate 4
  repeat' first|exact T0|(first|refine Yd fun _=>?_|refine Ye fun _=>?_|refine Yg ?_|refine Yk (c1.at1 0 rfl rfl rfl) ?_);conv=>whnf|(refine Ya ?_ ?_<;>intro _<;>conv=>whnf)
  all_goals try (refine Or.inl ?_;conv=>whnf)
 all_goals refine⟨[],?_⟩
 repeat any_goals first|exact T0|exact rfl|exact Yr|refine Ya ?_ ?_
 all_goals conv=>whnf
def measureA (a0:Ag) (r v:Int) (s:Ser):Ag × Int × Nat:=
 let a:=(observeA a0 r).1
 if (observeA a0 r).2≠0 then (a,-1,(observeA a0 r).2)
 else if a.epoch=0 then (a,-1,21)
 else if rightB s=false then (a,-1,10)
 else if 1099511627775≤a.seq then (a,-1,17)
 else if a.most≤a.kept.length then ({ a with dropped:=IntKind.i64.wrap (a.dropped+1) },-1,20)
 else ({ a with kept:=a.kept++[(a.clock,v,s)],seq:=a.seq+1 },a.seq,0)
theorem observeA_seq (a:Ag) (r:Int):(observeA a r).1.seq=a.seq∧(observeA a r).1.kept=a.kept:=by
 unfold observeA
 split
 ·exact⟨rfl,rfl⟩
 ·split<;>exact⟨rfl,rfl⟩
set_option maxHeartbeats 8000000 in
theorem measure_sat (a0:Ag) (r v:Int) (s:Ser) (hs:0≤a0.seq) (hk:a0.kept.length≤100000):Sat Tryz.prog 32 [.ptr 0 0,iA r,iA v,.d (serD s)] (agH a0) (.tup [iA (measureA a0 r v s).2.1,iA (measureA a0 r v s).2.2]) (agH2 (measureA a0 r v s).1):=by
 have o1:=observe_sat a0 r
 obtain⟨q1,q2⟩:=observeA_seq a0 r
 have r1:=sRight_sat s
 have hrl:rightB s=true→s.2.length≤8:=fun h=>(right_out h).2.1
 rw[←q1] at hs
 rw[←q2] at hk
 unfold measureA
 generalize observeA a0 r=A at *
 obtain⟨a,e⟩:=A
 simp only at o1 hs hk ⊢
 by_cases he:e=0
 case neg=>
  rw[if_pos he]
  have d1:=ne0 he
  refine Vq Tryz.func32 rfl rfl ?_
  conv=>whnf
  iterate 4
   repeat' first|exact T0|(first|refine Yd fun _=>?_|refine Ye fun _=>?_|refine Yg ?_|refine Yk (o1.at3 0 1 2 rfl rfl rfl rfl rfl rfl) ?_);conv=>whnf|(refine Ya ?_ ?_<;>intro _<;>conv=>whnf)
   all_goals try (refine Or.inl ?_;conv=>whnf)
  all_goals try exact (bnl d1 ‹_›).elim
  all_goals refine⟨[(1,4),(2,5),(3,4),(4,5)],?_⟩
  repeat any_goals first|exact T0|exact rfl|exact Yr|refine Ya ?_ ?_
  all_goals conv=>whnf
 subst he
 rw[if_neg (fun h=>h rfl)]
 by_cases h1:a.epoch=0
 ·rw[if_pos h1]
  have d1:(a.epoch == 0)=true:=by rw[beq_iff_eq];exact h1
  refine Vq Tryz.func32 rfl rfl ?_
  conv=>whnf
  iterate 4
   repeat' first|exact T0|(first|refine Yd fun _=>?_|refine Ye fun _=>?_|refine Yg ?_|refine Yk (o1.at3 0 1 2 rfl rfl rfl rfl rfl rfl) ?_);conv=>whnf|(refine Ya ?_ ?_<;>intro _<;>conv=>whnf)
   all_goals try (refine Or.inl ?_;conv=>whnf)
  all_goals try exact (bnl d1 ‹_›).elim
  all_goals refine⟨[(1,4),(2,5),(3,4),(4,5)],?_⟩
  repeat any_goals first|exact T0|exact rfl|exact Yr|refine Ya ?_ ?_
  all_goals conv=>whnf
 rw[if_neg h1]
 have d1:(a.epoch == 0)=false:=by rw[beq_eq_false_iff_ne];exact h1
 cases h2:rightB s with
 |false=>
  rw[if_pos rfl]
  rw[h2] at r1
  refine Vq Tryz.func32 rfl rfl ?_
  conv=>whnf
  iterate 4
   repeat' first|exact T0|(first|refine Yd fun _=>?_|refine Ye fun _=>?_|refine Yg ?_|refine Yk (o1.at3 0 1 2 rfl rfl rfl rfl rfl rfl) ?_|refine Yk (r1.pu rfl rfl) ?_);conv=>whnf|(refine Ya ?_ ?_<;>intro _<;>conv=>whnf)
   all_goals try (refine Or.inl ?_;conv=>whnf)
  all_goals try exact (bnl ‹_› d1).elim
  all_goals refine⟨[(1,4),(2,5),(3,4),(4,5)],?_⟩
  repeat any_goals first|exact T0|exact rfl|exact Yr|refine Ya ?_ ?_
  all_goals conv=>whnf
 |true=>
 rw[if_neg (by simp)]
 rw[h2] at r1
 by_cases h3:1099511627775≤a.seq
 ·rw[if_pos h3]
  have d3:decide (a.seq≥1099511627775)=true:=decide_eq_true h3
  refine Vq Tryz.func32 rfl rfl ?_
  conv=>whnf
  iterate 5
   repeat' first|exact T0|(first|refine Yd fun _=>?_|refine Ye fun _=>?_|refine Yg ?_|refine Yk (o1.at3 0 1 2 rfl rfl rfl rfl rfl rfl) ?_|refine Yk (r1.pu rfl rfl) ?_);conv=>whnf|(refine Ya ?_ ?_<;>intro _<;>conv=>whnf)
   all_goals try (refine Or.inl ?_;conv=>whnf)
  all_goals try exact (bnl ‹_› d1).elim
  all_goals try exact (bnl d3 ‹_›).elim
  all_goals refine⟨[(1,4),(2,5),(3,4),(4,5)],?_⟩
  repeat any_goals first|exact T0|exact rfl|exact Yr|refine Ya ?_ ?_
  all_goals conv=>whnf
 rw[if_neg h3]
 have d3:decide (a.seq≥1099511627775)=false:=decide_eq_false h3
 have hl:(a.kept.map evR).length=a.kept.length:=List.length_map _
 by_cases h4:a.most≤a.kept.length
 ·rw[if_pos h4]
  have d4:decide (((a.kept.map evR).length:Int)≥a.most)=true:=decide_eq_true (by rw[hl];exact h4)
  refine Vq Tryz.func32 rfl rfl ?_
  conv=>whnf
  iterate 5
   repeat' first|exact T0|(first|refine Yd fun _=>?_|refine Ye fun _=>?_|refine Yg ?_|refine Yk (o1.at3 0 1 2 rfl rfl rfl rfl rfl rfl) ?_|refine Yk (r1.pu rfl rfl) ?_);conv=>whnf|(refine Ya ?_ ?_<;>intro _<;>conv=>whnf)
   all_goals try (refine Or.inl ?_;conv=>whnf)
  repeat' first|exact T0|(first|refine Ya (fun _=>?_) (fun h=>(bnl d4 h).elim)|refine Yd fun _=>?_|refine Ye fun _=>?_|refine Yg ?_);conv=>whnf|(refine Ya ?_ ?_<;>intro _<;>conv=>whnf)
  iterate 3
   repeat' first|exact T0|(first|refine Yd fun _=>?_|refine Ye fun _=>?_|refine Yg ?_);conv=>whnf|(refine Ya ?_ ?_<;>intro _<;>conv=>whnf)
   all_goals try (refine Or.inl ?_;conv=>whnf)
  all_goals try exact (bnl ‹_› d1).elim
  all_goals try exact (bnl ‹_› d3).elim
  all_goals try exact (bnl d4 ‹_›).elim
  all_goals refine⟨[(1,4),(2,5),(3,4),(4,5)],?_⟩
  repeat any_goals first|exact T0|exact rfl|exact Yr|refine Ya ?_ ?_
  all_goals conv=>whnf
 rw[if_neg h4]
 have d4:decide (((a.kept.map evR).length:Int)≥a.most)=false:=decide_eq_false (by rw[hl];exact h4)
 have c1:=copied_sat (a.clock,v,s) (by have:=hrl h2;show s.2.length≤_;omega)
 have w1:IntKind.i64.wrap (a.seq+1)=a.seq+1:=wi (by omega) (by omega)
 have w2:IntKind.i64.wrap (a.seq+1-1)=a.seq:=by rw[show a.seq+1-1=a.seq by omega];exact wi (by omega) (by omega)
 refine Vq Tryz.func32 rfl rfl ?_
 conv=>whnf
 iterate 6
  repeat' first|exact T0|(first|refine Yd fun _=>?_|refine Ye fun _=>?_|refine Yg ?_|refine Yk (o1.at3 0 1 2 rfl rfl rfl rfl rfl rfl) ?_|refine Yk (r1.pu rfl rfl) ?_|refine Yk (c1.pu rfl rfl) ?_|refine Yk (ap 4 56 (by kernel_rfl) rfl rfl (by simp;omega)) ?_);conv=>whnf|(refine Ya ?_ ?_<;>intro _<;>conv=>whnf)
  all_goals try (refine Or.inl ?_;conv=>whnf)
 all_goals try exact (bnl ‹_› d1).elim
 all_goals try exact (bnl ‹_› d3).elim
 all_goals try exact (bnl ‹_› d4).elim
 all_goals refine⟨[(2,6),(3,5),(4,6)],?_⟩
 repeat any_goals first|exact T0|exact rfl|exact Yr|refine Ya ?_ ?_
 all_goals conv=>whnf
 ·exact congrArg (fun z=>iA z) (by rw[w1];exact w2)
 ·exact congrArg (fun z=>iA z) w1
 ·exact congrArg (AObj.sl 4) (by rw[List.map_append];rfl)
end Go.Proofs.YtfbfpnfgabamfaaGreat
