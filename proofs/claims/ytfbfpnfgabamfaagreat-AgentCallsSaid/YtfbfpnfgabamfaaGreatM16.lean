/- Parts AgM, AgQ, AgN, AgO1, AgO, AgR, AgT, At4, AgS, RnG1, AgU, FrW, FrY, FrZ, AgV, AgW, AgY, RnP of the proof, put together. -/
import Derived.Test.YtfbfpnfgabamfaaGreatM15
namespace Go.Proofs.YtfbfpnfgabamfaaGreat
set_option linter.unusedSimpArgs false
open Go.RowKit
set_option maxRecDepth 100000
set_option linter.unusedVariables false
theorem sendBN_sat (a:Ag) (k:Nat) (hk:k≤a.kept.length) (hf:FrOk (batchF a k)) (hz:∀ x∈a.kept,in64 x.2.1) (hr:rightF (batchF a k)=true) (hL:(encodeT (batchF a k)).length≤65536) :
  Sat Tryz.prog 46 [.agg (batC a (.rel 1 (pcP 4 0 k))),.ptr 0 0] [.cells [.d nilV],.sl 4 (a.kept.map evR)] (iA 0) [.cells [.own 2],.sl 4 (a.kept.map evR),.sl 1 [[bsD (encodeT (batchF a k))]]]:=by
 have e1:=fun (L:List AObj) (h:L[1]?=some (.sl 4 (a.kept.map evR)))=>encB (i:=1) a k h hk hf hz hr hL
 generalize encodeT (batchF a k)=b at *
 refine Vq Tryz.func46 rfl rfl ?_
 conv=>whnf
 iterate 5
  repeat' first|exact T0|(first|refine Yd fun _=>?_|refine Ye fun _=>?_|refine Yg ?_|refine Yk (e1 _ rfl _) ?_|refine Yk (ap0 1 24 (by kernel_rfl) rfl (by simp)) ?_);conv=>whnf|(refine Ya ?_ ?_<;>intro _<;>conv=>whnf)
  all_goals try (refine Or.inl ?_;conv=>whnf)
 all_goals refine⟨[(2,5)],?_⟩
 repeat any_goals first|exact T0|exact rfl|exact Yr|refine Ya ?_ ?_
 all_goals conv=>whnf
theorem sendBO_sat (a:Ag) (k:Nat) (hk:k≤a.kept.length) (hf:FrOk (batchF a k)) (hz:∀ x∈a.kept,in64 x.2.1) (hr:rightF (batchF a k)=true) (hL:(encodeT (batchF a k)).length≤65536) (rows:List (List D)) (hn:rows.length≤1000) :
  Sat Tryz.prog 46 [.agg (batC a (.rel 2 (pcP 4 0 k))),.ptr 0 0] [.cells [.own 1],.sl 1 rows,.sl 4 (a.kept.map evR)] (iA 0) [.cells [.own 3],.dead,.sl 4 (a.kept.map evR),.sl 1 (rows++[[bsD (encodeT (batchF a k))]])]:=by
 have e1:=fun (L:List AObj) (h:L[2]?=some (.sl 4 (a.kept.map evR)))=>encB (i:=2) a k h hk hf hz hr hL
 generalize encodeT (batchF a k)=b at *
 refine Vq Tryz.func46 rfl rfl ?_
 conv=>whnf
 iterate 5
  repeat' first|exact T0|(first|refine Yd fun _=>?_|refine Ye fun _=>?_|refine Yg ?_|refine Yk (e1 _ rfl _) ?_|refine Yk (ap 1 24 (by kernel_rfl) rfl rfl (by simp;omega)) ?_);conv=>whnf|(refine Ya ?_ ?_<;>intro _<;>conv=>whnf)
  all_goals try (refine Or.inl ?_;conv=>whnf)
 all_goals refine⟨[(3,6)],?_⟩
 repeat any_goals first|exact T0|exact rfl|exact Yr|refine Ya ?_ ?_
 all_goals conv=>whnf
theorem sendBNbig_sat (a:Ag) (k:Nat) (hk:k≤a.kept.length) (hf:FrOk (batchF a k)) (hz:∀ x∈a.kept,in64 x.2.1) (hr:rightF (batchF a k)=true) (hL:65536<(encodeT (batchF a k)).length) :
  Sat Tryz.prog 46 [.agg (batC a (.rel 1 (pcP 4 0 k))),.ptr 0 0] [.cells [.d nilV],.sl 4 (a.kept.map evR)] (iA 17) [.cells [.d nilV],.sl 4 (a.kept.map evR)]:=by
 have e1:=fun (L:List AObj) (h:L[1]?=some (.sl 4 (a.kept.map evR)))=>encBbig (i:=1) a k h hk hf hz hr hL
 refine Vq Tryz.func46 rfl rfl ?_
 conv=>whnf
 iterate 5
  repeat' first|exact T0|(first|refine Yd fun _=>?_|refine Ye fun _=>?_|refine Yg ?_|refine Yk (e1 _ rfl _) ?_);conv=>whnf|(refine Ya ?_ ?_<;>intro _<;>conv=>whnf)
  all_goals try (refine Or.inl ?_;conv=>whnf)
 all_goals refine⟨[],?_⟩
 repeat any_goals first|exact T0|exact rfl|exact Yr|refine Ya ?_ ?_
 all_goals conv=>whnf
theorem sendBObig_sat (a:Ag) (k:Nat) (hk:k≤a.kept.length) (hf:FrOk (batchF a k)) (hz:∀ x∈a.kept,in64 x.2.1) (hr:rightF (batchF a k)=true) (hL:65536<(encodeT (batchF a k)).length) (rows:List (List D)) :
  Sat Tryz.prog 46 [.agg (batC a (.rel 2 (pcP 4 0 k))),.ptr 0 0] [.cells [.own 1],.sl 1 rows,.sl 4 (a.kept.map evR)] (iA 17) [.cells [.own 1],.sl 1 rows,.sl 4 (a.kept.map evR)]:=by
 have e1:=fun (L:List AObj) (h:L[2]?=some (.sl 4 (a.kept.map evR)))=>encBbig (i:=2) a k h hk hf hz hr hL
 refine Vq Tryz.func46 rfl rfl ?_
 conv=>whnf
 iterate 5
  repeat' first|exact T0|(first|refine Yd fun _=>?_|refine Ye fun _=>?_|refine Yg ?_|refine Yk (e1 _ rfl _) ?_);conv=>whnf|(refine Ya ?_ ?_<;>intro _<;>conv=>whnf)
  all_goals try (refine Or.inl ?_;conv=>whnf)
 all_goals refine⟨[],?_⟩
 repeat any_goals first|exact T0|exact rfl|exact Yr|refine Ya ?_ ?_
 all_goals conv=>whnf
theorem right_of {f:Fr} {k:Nat} (hk:f.k=k) (h1:1≤k) (h8:k≤8) (hh:headOk f=true) (hv:∀ x∈valsK f k,0≤x∧x≤4611686018427387903) (hx:extraB f k=true) (hs:f=bareF f k):rightF f=true:=by
 unfold rightF
 rw[if_pos (by omega),hk,Int.toNat_natCast]
 unfold rightK
 rw[hh,hx,sameB_iff.2 hs]
 simp only[Bool.true_and,Bool.and_true,List.all_eq_true]
 exact fun x hx=>rngB_iff.2 (hv x hx)
def helloF (a:Ag):Fr:=⟨1,a.id,a.epoch,a.boot,0,0,0,0,0,0,[],([],[]),[]⟩
def replyF (a:Ag) (p:Int × Int × Int):Fr:=⟨4,a.id,a.epoch,p.1,p.2.1,p.2.2,a.clock,0,0,0,[],([],[]),[]⟩
def beatF (a:Ag):Fr:=⟨7,a.id,a.epoch,0,0,0,0,a.seq,a.clock,0,[],([],[]),[]⟩
theorem head_ok {a:Ag} (h:AgInv a) {f:Fr} (h1:f.a=a.id) (h2:f.e=a.epoch):headOk f=true:=
 headOk_iff.2 ⟨by rw[h1];exact h.id,by rw[h2];exact h.epoch⟩
theorem hello_right {a:Ag} (h:AgInv a) (he:a.epoch=0):rightF (helloF a)=true:=by
 refine right_of (k:=1) rfl (by decide) (by decide) (head_ok h rfl rfl) ?_ rfl ?_
 ·have hi:=h.id
  have hb:=h.boot
  intro x hx
  simp[valsK,idxK,getN,helloF] at hx
  rcases hx with rfl|rfl<;>omega
 ·simp[helloF,bareF,bnum,idxK,getN,he]
theorem reply_right {a:Ag} (h:AgInv a) {p:Int × Int × Int} (hp:p∈a.probes):rightF (replyF a p)=true:=by
 obtain⟨p1,p2,p3,p4⟩:=h.pr p hp
 have hc:=h.clock
 refine right_of (k:=4) rfl (by decide) (by decide) (head_ok h rfl rfl) ?_ ?_ ?_
 ·have hi:=h.id
  have hb:=h.epoch
  intro x hx
  simp[valsK,idxK,getN,replyF] at hx
  rcases hx with rfl|rfl|rfl|rfl|rfl|rfl<;>omega
 ·show (!decide (a.clock<p.2.2))=true
  rw[decide_eq_false (by omega)];rfl
 ·simp[replyF,bareF,bnum,idxK,getN]
theorem beat_right {a:Ag} (h:AgInv a):rightF (beatF a)=true:=by
 have hc:=h.clock
 have hs:=h.seq
 have hf:0≤a.seq-(a.kept.length:Int):=h.first
 refine right_of (k:=7) rfl (by decide) (by decide) (head_ok h rfl rfl) ?_ ?_ ?_
 ·have hi:=h.id
  have hb:=h.epoch
  intro x hx
  simp[valsK,idxK,getN,beatF] at hx
  rcases hx with rfl|rfl|rfl|rfl<;>omega
 ·show decide (a.seq≤1099511627776)=true
  exact decide_eq_true (by omega)
 ·simp[beatF,bareF,bnum,idxK,getN]
theorem batch_right {a:Ag} (h:AgInv a) {k:Nat} (h1:1≤k) (h2:k≤a.kept.length) (h64:k≤64):rightF (batchF a k)=true:=by
 have hs:=h.seq
 have hf:0≤a.seq-(a.kept.length:Int):=h.first
 have hfa:firstA a=a.seq-(a.kept.length:Int):=rfl
 have hlen:(a.kept.take k).length=k:=by rw[List.length_take];omega
 refine right_of (k:=5) rfl (by decide) (by decide) (head_ok h rfl rfl) ?_ ?_ ?_
 ·have hi:=h.id
  have hb:=h.epoch
  intro x hx
  simp[valsK,idxK,getN,batchF] at hx
  rcases hx with rfl|rfl|rfl<;>omega
 ·show batchB (firstA a) (a.kept.take k)=true
  unfold batchB
  rw[hlen,decide_eq_true h1,decide_eq_true h64,decide_eq_true (show firstA a≤1099511627776-(k:Int) by omega)]
  simp only[Bool.true_and,List.all_eq_true]
  exact fun x hx=>(h.ev x (List.mem_of_mem_take hx)).1
 ·simp[batchF,bareF,bnum,idxK,getN]
theorem small_len {f:Fr} {k:Nat} (hk:f.k=k) (h5:k≠5) (hd:f.d=[]):(encodeT f).length≤65536:=by
 have:=frT_len f k h5 (by rw[hd];simp)
 unfold encodeT
 rw[hk,sealT_len]
 show (frT f k).length+4≤_
 omega
theorem batch_one {a:Ag}:(encodeT (batchF a 1)).length≤65536:=by
 have h:=frT_len5 (batchF a 1)
 have hl:(batchF a 1).ev.length≤1:=by show (a.kept.take 1).length≤1;rw[List.length_take];omega
 unfold encodeT
 rw[sealT_len]
 show (frT (batchF a 1) 5).length+4≤_
 omega
theorem z64:in64 0:=⟨by decide,by decide⟩
theorem lab_len {a:Ag} (h:AgInv a) {x:Evt} (hx:x∈a.kept):x.2.2.2.length≤8:=by
 have:=(h.ev x hx).1
 unfold evOk at this
 rw[Bool.and_eq_true] at this
 exact (right_out this.2).2.1
theorem hello_fok {a:Ag} (h:AgInv a):FrOk (helloF a):=by
 have h1:=h.id
 have h2:=h.epoch
 have h3:=h.boot
 exact⟨(⟨by decide,by decide⟩:in64 1),(⟨by omega,by omega⟩:in64 a.id),(⟨by omega,by omega⟩:in64 a.epoch),(⟨by omega,by omega⟩:in64 a.boot),z64,z64,z64,z64,z64,z64,by simp[helloF],by simp[helloF],by simp[helloF]⟩
theorem reply_fok {a:Ag} (h:AgInv a) {p:Int × Int × Int} (hp:p∈a.probes):FrOk (replyF a p):=by
 have h1:=h.id
 have h2:=h.epoch
 have h3:=h.clock
 obtain⟨p1,p2,p3,p4⟩:=h.pr p hp
 exact⟨(⟨by decide,by decide⟩:in64 4),(⟨by omega,by omega⟩:in64 a.id),(⟨by omega,by omega⟩:in64 a.epoch),(⟨by omega,by omega⟩:in64 p.1),(⟨by omega,by omega⟩:in64 p.2.1),(⟨by omega,by omega⟩:in64 p.2.2),(⟨by omega,by omega⟩:in64 a.clock),z64,z64,z64,by simp[replyF],by simp[replyF],by simp[replyF]⟩
theorem beat_fok {a:Ag} (h:AgInv a):FrOk (beatF a):=by
 have h1:=h.id
 have h2:=h.epoch
 have h3:=h.clock
 have h4:=h.seq
 have hf:0≤a.seq-(a.kept.length:Int):=h.first
 exact⟨(⟨by decide,by decide⟩:in64 7),(⟨by omega,by omega⟩:in64 a.id),(⟨by omega,by omega⟩:in64 a.epoch),z64,z64,z64,z64,(⟨by omega,by omega⟩:in64 a.seq),(⟨by omega,by omega⟩:in64 a.clock),z64,by simp[beatF],by simp[beatF],by simp[beatF]⟩
theorem batch_fok {a:Ag} (h:AgInv a) (k:Nat):FrOk (batchF a k):=by
 have h1:=h.id
 have h2:=h.epoch
 have h4:=h.seq
 have h5:=h.len
 have h6:=h.most
 have hf:0≤firstA a:=h.first
 have hf2:firstA a=a.seq-(a.kept.length:Int):=rfl
 refine⟨(⟨by decide,by decide⟩:in64 5),(⟨by omega,by omega⟩:in64 a.id),(⟨by omega,by omega⟩:in64 a.epoch),z64,z64,z64,z64,(⟨by omega,by omega⟩:in64 (firstA a)),z64,z64,?_,fun x hx=>?_,by simp[batchF]⟩
 ·show (a.kept.take k).length≤_
  rw[List.length_take];omega
 ·have:=lab_len h (List.mem_of_mem_take hx)
  omega
set_option maxHeartbeats 4000000 in
theorem step_err (a0:Ag) (r:Int) (h:(observeA a0 r).2≠0):Sat Tryz.prog 22 [.ptr 0 0,iA r] (agH a0) (.tup [.d nilV,iA (observeA a0 r).2]) (agH2 (observeA a0 r).1):=by
 have o1:=observe_sat a0 r
 have d1:=ne0 h
 generalize observeA a0 r=A at *
 obtain⟨a,e⟩:=A
 refine Vq Tryz.func22 rfl rfl ?_
 conv=>whnf
 iterate 4
  repeat' first|exact T0|(first|refine Yd fun _=>?_|refine Ye fun _=>?_|refine Yg ?_|refine Yk (o1.at3 0 1 2 rfl rfl rfl rfl rfl rfl) ?_);conv=>whnf|(refine Ya ?_ ?_<;>intro _<;>conv=>whnf)
  all_goals try (refine Or.inl ?_;conv=>whnf)
 all_goals try exact (bnl d1 ‹_›).elim
 all_goals refine⟨[(1,3),(2,4)],?_⟩
 repeat any_goals first|exact T0|exact rfl|exact Yr|refine Ya ?_ ?_
 all_goals conv=>whnf
set_option maxHeartbeats 8000000 in
theorem step_hello (a0:Ag) (r:Int) (h0:(observeA a0 r).2=0) (hi:AgInv (observeA a0 r).1) (he:(observeA a0 r).1.epoch=0):Sat Tryz.prog 22 [.ptr 0 0,iA r] (agH a0) (.tup [.own 4,iA 0]) [.cells (agC (observeA a0 r).1 (.own 3) (.own 5)),.dead,.dead,.sl 4 ((observeA a0 r).1.kept.map evR),.sl 1 [[bsD (encodeT (helloF (observeA a0 r).1))]],.sl 3 ((observeA a0 r).1.probes.map prR)]:=by
 have o1:=observe_sat a0 r
 rw[h0] at o1
 generalize (observeA a0 r).1=a at *
 have f1:=frame_sat a 1
 have s1:=sendN_sat (f:=helloF a) ⟨rfl,rfl,rfl⟩ (hello_fok hi) (hello_right hi he) (small_len (k:=1) rfl (by decide) rfl)
 have d1:(a.epoch == 0)=true:=by rw[beq_iff_eq];exact he
 refine Vq Tryz.func22 rfl rfl ?_
 conv=>whnf
 iterate 7
  repeat' first|exact T0|(first|refine Yd fun _=>?_|refine Ye fun _=>?_|refine Yg ?_|refine Yk (o1.at3 0 1 2 rfl rfl rfl rfl rfl rfl) ?_|refine Yk (f1.at3 0 1 2 rfl rfl rfl rfl rfl rfl) ?_|refine Yk (s1.at1 3 rfl rfl rfl) ?_);conv=>whnf|(refine Ya ?_ ?_<;>intro _<;>conv=>whnf)
  all_goals try (refine Or.inl ?_;conv=>whnf)
 all_goals try exact (bnl d1 ‹_›).elim
 all_goals refine⟨[(1,6),(2,7),(3,6),(4,7),(4,5)],?_⟩
 repeat any_goals first|exact T0|exact rfl|exact Yr|refine Ya ?_ ?_
 all_goals conv=>whnf
abbrev agN (a:Ag):List AObj:=[.cells (agC a (.own 1) (.d nilV)),.sl 4 (a.kept.map evR)]
theorem frameN_sat (a:Ag) (k:Int):Sat Tryz.prog 47 [.ptr 0 0,iA k] (agN a) (.d (.agg (nilR ⟨k,a.id,a.epoch,0,0,0,0,0,0,0,[],([],[]),[]⟩))) (agN a):=by
 refine Vq Tryz.func47 rfl rfl ?_
 conv=>whnf
 iterate 4
  repeat' first|exact T0|(first|refine Yd fun _=>?_|refine Ye fun _=>?_|refine Yg ?_);conv=>whnf|(refine Ya ?_ ?_<;>intro _<;>conv=>whnf)
  all_goals try (refine Or.inl ?_;conv=>whnf)
 all_goals refine⟨[],?_⟩
 repeat any_goals first|exact T0|exact rfl|exact Yr|refine Ya ?_ ?_
 all_goals conv=>whnf
section
variable {P:Program} {L:List AObj} {n:Nat} {g:FuncId}
theorem lendOk_ptr {i j s:Nat} {rows:List (List D)} {cs:List AV} {ds:List D} (hi:L[i]?=some (.cells cs)) (hj:L[j]?=some (.sl s rows)) (hx:cs.map (sbs j (.sl s rows))=ds.map .d):LendOk L [.ptr i 0] [.fp ds] [i,j]:=by
 intro F F1 ρ H w vals En hF hrs hb hv
 have hHi:H i=some (.cells cs):=(hrs i (by simp)).trans hi
 have hHj:H j=some (.sl s rows):=(hrs j (by simp)).trans hj
 obtain⟨v,rfl,hv'⟩:=hv.one_out
 obtain⟨b,rfl,e1,⟨b',t',vs,e2,hB,hra,h1⟩,_⟩:=En.cellsAt hHi rfl hv'
 simp at e2;subst e2
 refine .cons (.fp (hb i (by simp) _ e1 b rfl) (flat_ds hF (fun v hv=>own_rd En hHj hF (hb j (by simp)) hv) hx hra h1) fun k hk=>?_) .nil
 rw[hB.cell]
 simp[List.getElem?_eq_getElem hk]
end
abbrev agDN (a:Ag):List D:=[iD a.id,iD a.most,iD a.boot,iD a.epoch,iD a.clock,iD a.seq,.sl 4 (a.kept.map evR),iD a.dropped,nilV]
theorem agFirstF_sat {a:Ag} (h:in64 (firstA a)):Sat Tryz.prog 19 [.fp (agDN a)] [] (iA (firstA a)) []:=by
 have hl:(a.kept.map evR).length=a.kept.length:=List.length_map _
 have hw:IntKind.i64.wrap (a.seq-((a.kept.map evR).length:Int))=firstA a:=by
  unfold firstA at h ⊢
  rw[hl,wi h.1 h.2]
 refine Vq Tryz.func19 rfl rfl ?_
 conv=>whnf
 iterate 3
  repeat' first|exact T0|(first|refine Yd fun _=>?_|refine Ye fun _=>?_|refine Yg ?_);conv=>whnf|(refine Ya ?_ ?_<;>intro _<;>conv=>whnf)
  all_goals try (refine Or.inl ?_;conv=>whnf)
 all_goals refine⟨[],?_⟩
 repeat any_goals first|exact T0|exact rfl|exact Yr|refine Ya ?_ ?_
 all_goals conv=>whnf
 rw[hw]
theorem agFirstR {a:Ag} {L:List AObj} {i j n:Nat} (h:in64 (firstA a)) (hi:L[i]?=some (.cells (agC a (.own j) (.d nilV)))) (hj:L[j]?=some (.sl 4 (a.kept.map evR))):CallOK Tryz.prog 19 [.ptr i 0] L n ⟨[i,j],[],[]⟩ (iA (firstA a)):=
 (agFirstF_sat h).lendG (lendOk_ptr hi hj (by simp[sbs])) rfl fun k hk=>by
  rcases List.mem_cons.1 hk with rfl|hk
  ·exact⟨_,hi,rfl⟩
  ·rw[List.mem_singleton.1 hk];exact⟨_,hj,rfl⟩
def mostB (a:Ag):Nat→Nat
 |0=>0
 |k+1=>if (encodeT (batchF a (k+1))).length≤65536 then k+1 else mostB a k
theorem mostB_le (a:Ag):∀ k,mostB a k≤k
 |0=>Nat.le_refl _
 |k+1=>by
  unfold mostB
  split
  ·exact Nat.le_refl _
  ·exact Nat.le_succ_of_le (mostB_le a k)
theorem mostB_pos (a:Ag):∀ k,1≤k→1≤mostB a k
 |1,_=>by
  unfold mostB
  rw[if_pos batch_one];exact Nat.le_refl _
 |k+2,_=>by
  unfold mostB
  split
  ·omega
  ·exact mostB_pos a (k+1) (by omega)
theorem mostB_small (a:Ag):∀ k,1≤mostB a k→(encodeT (batchF a (mostB a k))).length≤65536
 |0,h=>by cases h
 |k+1,h=>by
  unfold mostB at h ⊢
  split
  ·assumption
  ·rename_i q
   rw[if_neg q] at h
   exact mostB_small a k h
def repR (a:Ag) (i:Nat):List (List D):=(a.probes.take i).map fun p=>[bsD (encodeT (replyF a p))]
theorem repR_len (a:Ag) (i:Nat) (h:i≤a.probes.length):(repR a i).length=i:=by
 unfold repR
 rw[List.length_map,List.length_take];omega
theorem repR_next {a:Ag} {i:Nat} {p:Int × Int × Int} (hp:a.probes[i]?=some p):repR a (i+1)=repR a i++[[bsD (encodeT (replyF a p))]]:=by
 unfold repR
 rw[List.take_add_one,hp,List.map_append];rfl
def batT (a:Ag):List Bt:=if a.kept=[] then [] else [encodeT (batchF a (mostB a (min a.kept.length 64)))]
def sentA (a:Ag):List Bt:=if a.epoch=0 then [encodeT (helloF a)] else a.probes.map (fun p=>encodeT (replyF a p))++(batT a++[encodeT (beatF a)])
theorem sent_run (a:Ag) (h:a.epoch≠0):sentA a=a.probes.map (fun p=>encodeT (replyF a p))++(batT a++[encodeT (beatF a)]):=if_neg h
theorem bat_no {a:Ag} (h:a.kept=[]):batT a=[]:=if_pos h
theorem bat_some {a:Ag} (h:a.kept≠[]):batT a=[encodeT (batchF a (mostB a (min a.kept.length 64)))]:=if_neg h
theorem rep_no {a:Ag} (h:a.probes=[]):repR a a.probes.length=[]:=by unfold repR;rw[h];rfl
theorem rows_run (a:Ag) (h:a.epoch≠0):(sentA a).map (fun b=>[bsD b])=repR a a.probes.length++((batT a).map (fun b=>[bsD b])++[[bsD (encodeT (beatF a))]]):=by
 rw[sent_run a h,List.map_append,List.map_append,List.map_map]
 unfold repR
 rw[List.take_length]
 rfl
theorem mostB_at {a:Ag} {n:Nat} (h0:0<n) (h:(encodeT (batchF a n)).length≤65536):mostB a n=n:=by
 obtain⟨k,rfl⟩:∃ k,n=k+1:=⟨n-1,by omega⟩
 unfold mostB
 rw[if_pos h]
theorem mostB_down {a:Ag} {n:Nat} (h0:0<n) (h:¬(encodeT (batchF a n)).length≤65536):mostB a n=mostB a (n-1):=by
 obtain⟨k,rfl⟩:∃ k,n=k+1:=⟨n-1,by omega⟩
 conv=>lhs;unfold mostB
 rw[if_neg h]
 rfl
abbrev agH5 (a:Ag) (l:List Bt):List AObj:=[.cells (agC a (.own 3) (.own 5)),.dead,.dead,.sl 4 (a.kept.map evR),.sl 1 (l.map fun b=>[bsD b]),.sl 3 (a.probes.map prR)]
set_option maxHeartbeats 8000000 in
theorem step_run (a0:Ag) (r:Int) (h0:(observeA a0 r).2=0) (hi:AgInv (observeA a0 r).1) (he:(observeA a0 r).1.epoch≠0):Sat Tryz.prog 22 [.ptr 0 0,iA r] (agH a0) (.tup [.own 4,iA 0]) (agH5 { (observeA a0 r).1 with probes:=[] } (sentA (observeA a0 r).1)):=by
 have o1:=observe_sat a0 r
 rw[h0] at o1
 generalize (observeA a0 r).1=a at *
 refine Sat.nilCell (cs:=agC a (.own 3) (.d nilV)) (T:=[.dead,.dead,.sl 4 (a.kept.map evR),.sl 1 ((sentA a).map fun b=>[bsD b])]) 3 ?_ (fun w F ρ hρ vs hv=>ras_nil (xs:=[iA a.id,iA a.most,iA a.boot,iA a.epoch,iA a.clock,iA a.seq,.own 3,iA a.dropped]) (ys:=[]) hρ hv)
 have f5:=frameN_sat a 5
 have f7:=frameN_sat a 7
 have hfa:=hi.first
 have hsq:=hi.seq
 have hfd:firstA a=a.seq-(a.kept.length:Int):=rfl
 have g1:in64 (firstA a):=⟨by omega,by omega⟩
 have hkl:(a.kept.map evR).length=a.kept.length:=List.length_map _
 obtain⟨m,hmdef,hmz⟩:∃ m:Nat,m=min a.kept.length 64∧(if (64:Int)<((a.kept.map evR).length:Int) then (64:Int) else ((a.kept.map evR).length:Int))=m:=by
  refine⟨min a.kept.length 64,rfl,?_⟩
  rw[hkl]
  split<;>omega
 have hbs:=small_len (f:=beatF a) (k:=7) rfl (by decide) rfl
 have hkz:m=0→a.kept=[]:=fun h=>List.eq_nil_of_length_eq_zero (by omega)
 have hkp:0<m→a.kept≠[]:=fun h q=>by rw[q] at hmdef;simp at hmdef;omega
 have hrl:(repR a a.probes.length).length≤1000:=by
  have:=hi.pl
  rw[repR_len _ _ (Nat.le_refl _)];omega
 have f4:=frame_sat a 4
 have d1:(a.epoch == 0)=false:=by rw[beqI,decide_eq_false he]
 have hm:(a.probes.map prR).length=a.probes.length:=List.length_map _
 have hpl:=hi.pl
 obtain⟨st,hst0,hst1⟩:∃ st:Nat→List (Nat × AV) × List AObj,(st 0=([(47,iA 0),(46,iA (a.probes.map prR).length),(45,.own 2),(8,.fn (.func 46) [] [.ptr 3 0]),(7,.ptr 3 0),(0,.ptr 0 0)],agH a++[.cells [.d nilV]])) ∧
   (∀ i,0<i→st i=([(47,iA i),(46,iA (a.probes.map prR).length),(45,.own 2),(8,.fn (.func 46) [] [.ptr 3 0]),(7,.ptr 3 0),(0,.ptr 0 0)],agH a++[.cells [.own 4],.sl 1 (repR a i)])):=
  ⟨fun i=>if 0<i then _ else _,if_neg (by decide),fun i h=>if_pos h⟩
 refine Vq Tryz.func22 rfl rfl ?_
 conv=>whnf
 iterate 6
  repeat' first|exact T0|(first|refine Yd fun _=>?_|refine Ye fun _=>?_|refine Yg ?_|refine Yk (o1.at3 0 1 2 rfl rfl rfl rfl rfl rfl) ?_);conv=>whnf|(refine Ya ?_ ?_<;>intro _<;>conv=>whnf)
  all_goals try (refine Or.inl ?_;conv=>whnf)
 all_goals try exact (bnl ‹_› d1).elim
 refine⟨Nat,fun i=>i≤a.probes.length,st,fun i=>a.probes.length-i,⟨0,Nat.zero_le _,?_⟩,?_⟩
 ·rw[hst0]
  all_goals refine⟨[],?_⟩
  repeat any_goals first|exact T0|exact rfl|exact Yr|refine Ya ?_ ?_
  all_goals conv=>whnf
 intro i hii
 have hii:i≤a.probes.length:=hii
 by_cases hlt:i<a.probes.length
 ·have hx:a.probes[i]?=some a.probes[i]:=List.getElem?_eq_getElem hlt
  generalize a.probes[i]=p at hx
  have hpm:=List.mem_of_getElem? hx
  have hgx:=map_get (f:=prR) hx
  have hrr:=reply_right hi hpm
  have hff:=reply_fok hi hpm
  have hss:=small_len (f:=replyF a p) (k:=4) rfl (by decide) rfl
  have sN:=sendN_sat (f:=replyF a p) ⟨rfl,rfl,rfl⟩ hff hrr hss
  have sO:=sendO_sat (f:=replyF a p) ⟨rfl,rfl,rfl⟩ hff hrr hss (repR a i) (by rw[repR_len _ _ hii];omega)
  have d2:decide ((i:Int)<((a.probes.map prR).length:Nat))=true:=decide_eq_true (by rw[hm];omega)
  rcases Nat.eq_zero_or_pos i with h00|h00
  ·subst h00
   rw[hst0]
   conv=>whnf
   iterate 6
    repeat' first|exact T0|(first|refine⟨0,rfl,(by rw[hm];exact hlt),?_⟩|refine⟨_,hgx,?_⟩|refine Yd fun _=>?_|refine Ye fun _=>?_|refine Yg ?_|refine Yk (f4.at3 0 1 2 rfl rfl rfl rfl rfl rfl) ?_|refine Yk (sN.at1 3 rfl rfl rfl) ?_);conv=>whnf|(refine Ya ?_ ?_<;>intro _<;>conv=>whnf)
    all_goals try (refine Or.inl ?_;conv=>whnf)
   all_goals try exact (bnl d2 ‹_›).elim
   refine⟨1,hlt,show a.probes.length-1<a.probes.length-0 by omega,?_⟩
   rw[hst1 1 (by decide)]
   all_goals refine⟨[(4,6)],?_⟩
   repeat any_goals first|exact T0|exact rfl|exact Yr|refine Ya ?_ ?_
   all_goals conv=>whnf
   exact congrArg (AObj.sl 1) (repR_next hx).symm
  ·rw[hst1 i h00]
   conv=>whnf
   iterate 6
    repeat' first|exact T0|(first|refine⟨i,rfl,(by rw[hm];exact hlt),?_⟩|refine⟨_,hgx,?_⟩|refine Yd fun _=>?_|refine Ye fun _=>?_|refine Yg ?_|refine Yk (f4.at3 0 1 2 rfl rfl rfl rfl rfl rfl) ?_|refine Yk (sO.at2 3 4 rfl rfl rfl rfl rfl) ?_);conv=>whnf|(refine Ya ?_ ?_<;>intro _<;>conv=>whnf)
    all_goals try (refine Or.inl ?_;conv=>whnf)
   all_goals try exact (bnl d2 ‹_›).elim
   refine⟨i+1,hlt,show a.probes.length-(i+1)<a.probes.length-i by omega,?_⟩
   rw[hst1 (i+1) (by omega)]
   all_goals refine⟨[(4,7)],?_⟩
   repeat any_goals first|exact T0|exact rfl|exact Yr|refine Ya ?_ ?_
   all_goals conv=>whnf
   ·exact wk1 (by omega)
   ·exact congrArg (AObj.sl 1) (repR_next hx).symm
 ·have d2:decide ((i:Int)<((a.probes.map prR).length:Nat))=false:=decide_eq_false (by rw[hm];omega)
  rcases Nat.eq_zero_or_pos i with h00|h00
  ·subst h00
   rw[hst0]
   have hp0:a.probes=[]:=List.eq_nil_of_length_eq_zero (by omega)
   conv=>whnf
   iterate 4
    repeat' first|exact T0|(first|refine Yd fun _=>?_|refine Ye fun _=>?_|refine Yg ?_);conv=>whnf|(refine Ya ?_ ?_<;>intro _<;>conv=>whnf)
    all_goals try (refine Or.inl ?_;conv=>whnf)
   all_goals try exact (bnl ‹_› d2).elim
   refine⟨Nat,fun n=>n≤m∧mostB a m=mostB a n,fun n=>([(13,iA n),(8,.fn (.func 46) [] [.ptr 3 0]),(7,.ptr 3 0),(0,.ptr 0 0)],[.cells (agC a (.own 1) (.d nilV)),.sl 4 (a.kept.map evR),.sl 3 (a.probes.map prR),.cells [.d nilV]]),fun n=>n,⟨m,⟨Nat.le_refl _,rfl⟩,?_⟩,?_⟩
   ·all_goals refine⟨[],?_⟩
    repeat any_goals first|exact T0|exact rfl|exact Yr|refine Ya ?_ ?_
    all_goals conv=>whnf
    all_goals exact congrArg (fun z=>iA z) hmz
   rintro n ⟨hn,hI⟩
   have hn:n≤m:=hn
   have hI:mostB a m=mostB a n:=hI
   conv=>whnf
   rcases Nat.eq_zero_or_pos n with hn0|hn0
   ·subst hn0
    have hm0:m=0:=by
     rcases Nat.eq_zero_or_pos m with q|q
     ·exact q
     ·have:=mostB_pos a m q;rw[hI] at this;exact absurd this (by unfold mostB;decide)
    have d3:decide (((0:Nat):Int)>0)=false:=decide_eq_false (by decide)
    have sX:=sendN_sat (f:=beatF a) ⟨rfl,rfl,rfl⟩ (beat_fok hi) (beat_right hi) hbs
    iterate 8
     repeat' first|exact T0|(first|refine Yd fun _=>?_|refine Ye fun _=>?_|refine Yg ?_|refine Yk (f7.at2 0 1 rfl rfl rfl rfl rfl) ?_|refine Yk (sX.at1 3 rfl rfl rfl) ?_);conv=>whnf|(refine Ya ?_ ?_<;>intro _<;>conv=>whnf)
     all_goals try (refine Or.inl ?_;conv=>whnf)
    all_goals try exact (bnl ‹_› d3).elim
    all_goals refine⟨[(1,6),(3,6),(4,5)],?_⟩
    repeat any_goals first|exact T0|exact rfl|exact Yr|refine Ya ?_ ?_
    all_goals conv=>whnf
    all_goals exact congrArg (AObj.sl 1) (by rw[rows_run a he,bat_no (hkz hm0)];rw[rep_no hp0];rfl)
   have d3:decide ((n:Int)>0)=true:=decide_eq_true (by omega)
   have hnk:n≤a.kept.length:=by omega
   have hn64:n≤64:=by omega
   by_cases hL:(encodeT (batchF a n)).length≤65536
   ·have hmb:mostB a m=n:=by rw[hI];exact mostB_at hn0 hL
    have sB:=sendBN_sat a n hnk (batch_fok hi n) (fun x hx=>(hi.ev x hx).2.1) (batch_right hi hn0 hnk hn64) hL
    have sX:=sendO_sat (f:=beatF a) ⟨rfl,rfl,rfl⟩ (beat_fok hi) (beat_right hi) hbs ([[bsD (encodeT (batchF a n))]]) (by simp)
    iterate 12
     repeat' first|exact T0|(first|refine Ya pc_one ?_|refine Yd fun _=>?_|refine Ye fun _=>?_|refine Yg ?_|refine Yk (f5.at2 0 1 rfl rfl rfl rfl rfl) ?_|refine Yk (agFirstR (i:=0) (j:=1) g1 rfl rfl) ?_|refine Yk (pcUpto 4 56 (by kernel_rfl) rfl (show n≤(a.kept.map evR).length by rw[hkl];exact hnk)) ?_|refine Yk (sB.at2 3 1 rfl rfl rfl rfl rfl) ?_|refine Yk (f7.at2 0 1 rfl rfl rfl rfl rfl) ?_|refine Yk (sX.at2 3 5 rfl rfl rfl rfl rfl) ?_);conv=>whnf|(refine Ya ?_ ?_<;>intro _<;>conv=>whnf)
     all_goals try (refine Or.inl ?_;conv=>whnf)
    all_goals try exact (bnl d3 ‹_›).elim
    all_goals refine⟨[(1,8),(3,8),(4,7)],?_⟩
    repeat any_goals first|exact T0|exact rfl|exact Yr|refine Ya ?_ ?_
    all_goals conv=>whnf
    all_goals exact congrArg (AObj.sl 1) (by rw[rows_run a he,bat_some (hkp (show 0<m by omega)),←hmdef,hmb];rw[rep_no hp0];rfl)
   ·have sB:=sendBNbig_sat a n hnk (batch_fok hi n) (fun x hx=>(hi.ev x hx).2.1) (batch_right hi hn0 hnk hn64) (by omega)
    iterate 8
     repeat' first|exact T0|(first|refine Ya pc_one ?_|refine Yd fun _=>?_|refine Ye fun _=>?_|refine Yg ?_|refine Yk (f5.at2 0 1 rfl rfl rfl rfl rfl) ?_|refine Yk (agFirstR (i:=0) (j:=1) g1 rfl rfl) ?_|refine Yk (pcUpto 4 56 (by kernel_rfl) rfl (show n≤(a.kept.map evR).length by rw[hkl];exact hnk)) ?_|refine Yk (sB.at2 3 1 rfl rfl rfl rfl rfl) ?_);conv=>whnf|(refine Ya ?_ ?_<;>intro _<;>conv=>whnf)
     all_goals try (refine Or.inl ?_;conv=>whnf)
    all_goals try exact (bnl d3 ‹_›).elim
    refine⟨n-1,⟨by omega,by rw[hI];exact mostB_down hn0 hL⟩,show n-1<n by omega,?_⟩
    all_goals refine⟨[],?_⟩
    repeat any_goals first|exact T0|exact rfl|exact Yr|refine Ya ?_ ?_
    all_goals conv=>whnf
    all_goals exact congrArg (fun z=>iA z) (by rw[wi (by omega) (by omega)];omega)
  ·obtain rfl:i=a.probes.length:=by omega
   rw[hst1 _ h00]
   conv=>whnf
   iterate 4
    repeat' first|exact T0|(first|refine Yd fun _=>?_|refine Ye fun _=>?_|refine Yg ?_);conv=>whnf|(refine Ya ?_ ?_<;>intro _<;>conv=>whnf)
    all_goals try (refine Or.inl ?_;conv=>whnf)
   all_goals try exact (bnl ‹_› d2).elim
   refine⟨Nat,fun n=>n≤m∧mostB a m=mostB a n,fun n=>([(13,iA n),(8,.fn (.func 46) [] [.ptr 3 0]),(7,.ptr 3 0),(0,.ptr 0 0)],[.cells (agC a (.own 1) (.d nilV)),.sl 4 (a.kept.map evR),.sl 3 (a.probes.map prR),.cells [.own 4],.sl 1 (repR a a.probes.length)]),fun n=>n,⟨m,⟨Nat.le_refl _,rfl⟩,?_⟩,?_⟩
   ·all_goals refine⟨[],?_⟩
    repeat any_goals first|exact T0|exact rfl|exact Yr|refine Ya ?_ ?_
    all_goals conv=>whnf
    all_goals exact congrArg (fun z=>iA z) hmz
   rintro n ⟨hn,hI⟩
   have hn:n≤m:=hn
   have hI:mostB a m=mostB a n:=hI
   conv=>whnf
   rcases Nat.eq_zero_or_pos n with hn0|hn0
   ·subst hn0
    have hm0:m=0:=by
     rcases Nat.eq_zero_or_pos m with q|q
     ·exact q
     ·have:=mostB_pos a m q;rw[hI] at this;exact absurd this (by unfold mostB;decide)
    have d3:decide (((0:Nat):Int)>0)=false:=decide_eq_false (by decide)
    have sX:=sendO_sat (f:=beatF a) ⟨rfl,rfl,rfl⟩ (beat_fok hi) (beat_right hi) hbs (repR a a.probes.length) hrl
    iterate 8
     repeat' first|exact T0|(first|refine Yd fun _=>?_|refine Ye fun _=>?_|refine Yg ?_|refine Yk (f7.at2 0 1 rfl rfl rfl rfl rfl) ?_|refine Yk (sX.at2 3 4 rfl rfl rfl rfl rfl) ?_);conv=>whnf|(refine Ya ?_ ?_<;>intro _<;>conv=>whnf)
     all_goals try (refine Or.inl ?_;conv=>whnf)
    all_goals try exact (bnl ‹_› d3).elim
    all_goals refine⟨[(1,7),(3,7),(4,6)],?_⟩
    repeat any_goals first|exact T0|exact rfl|exact Yr|refine Ya ?_ ?_
    all_goals conv=>whnf
    all_goals exact congrArg (AObj.sl 1) (by rw[rows_run a he,bat_no (hkz hm0)];rfl)
   have d3:decide ((n:Int)>0)=true:=decide_eq_true (by omega)
   have hnk:n≤a.kept.length:=by omega
   have hn64:n≤64:=by omega
   by_cases hL:(encodeT (batchF a n)).length≤65536
   ·have hmb:mostB a m=n:=by rw[hI];exact mostB_at hn0 hL
    have sB:=sendBO_sat a n hnk (batch_fok hi n) (fun x hx=>(hi.ev x hx).2.1) (batch_right hi hn0 hnk hn64) hL (repR a a.probes.length) (by rw[repR_len _ _ (Nat.le_refl _)];omega)
    have sX:=sendO_sat (f:=beatF a) ⟨rfl,rfl,rfl⟩ (beat_fok hi) (beat_right hi) hbs (repR a a.probes.length++[[bsD (encodeT (batchF a n))]]) (by rw[List.length_append,repR_len _ _ (Nat.le_refl _)];simp;omega)
    iterate 12
     repeat' first|exact T0|(first|refine Ya pc_one ?_|refine Yd fun _=>?_|refine Ye fun _=>?_|refine Yg ?_|refine Yk (f5.at2 0 1 rfl rfl rfl rfl rfl) ?_|refine Yk (agFirstR (i:=0) (j:=1) g1 rfl rfl) ?_|refine Yk (pcUpto 4 56 (by kernel_rfl) rfl (show n≤(a.kept.map evR).length by rw[hkl];exact hnk)) ?_|refine Yk (sB.at3 3 4 1 rfl rfl rfl rfl rfl rfl) ?_|refine Yk (f7.at2 0 1 rfl rfl rfl rfl rfl) ?_|refine Yk (sX.at2 3 6 rfl rfl rfl rfl rfl) ?_);conv=>whnf|(refine Ya ?_ ?_<;>intro _<;>conv=>whnf)
     all_goals try (refine Or.inl ?_;conv=>whnf)
    all_goals try exact (bnl d3 ‹_›).elim
    all_goals refine⟨[(1,9),(3,9),(4,8)],?_⟩
    repeat any_goals first|exact T0|exact rfl|exact Yr|refine Ya ?_ ?_
    all_goals conv=>whnf
    all_goals exact congrArg (AObj.sl 1) (by rw[rows_run a he,bat_some (hkp (show 0<m by omega)),←hmdef,hmb];rw[List.append_assoc];rfl)
   ·have sB:=sendBObig_sat a n hnk (batch_fok hi n) (fun x hx=>(hi.ev x hx).2.1) (batch_right hi hn0 hnk hn64) (by omega) (repR a a.probes.length)
    iterate 8
     repeat' first|exact T0|(first|refine Ya pc_one ?_|refine Yd fun _=>?_|refine Ye fun _=>?_|refine Yg ?_|refine Yk (f5.at2 0 1 rfl rfl rfl rfl rfl) ?_|refine Yk (agFirstR (i:=0) (j:=1) g1 rfl rfl) ?_|refine Yk (pcUpto 4 56 (by kernel_rfl) rfl (show n≤(a.kept.map evR).length by rw[hkl];exact hnk)) ?_|refine Yk (sB.at3 3 4 1 rfl rfl rfl rfl rfl rfl) ?_);conv=>whnf|(refine Ya ?_ ?_<;>intro _<;>conv=>whnf)
     all_goals try (refine Or.inl ?_;conv=>whnf)
    all_goals try exact (bnl d3 ‹_›).elim
    refine⟨n-1,⟨by omega,by rw[hI];exact mostB_down hn0 hL⟩,show n-1<n by omega,?_⟩
    all_goals refine⟨[],?_⟩
    repeat any_goals first|exact T0|exact rfl|exact Yr|refine Ya ?_ ?_
    all_goals conv=>whnf
    all_goals exact congrArg (fun z=>iA z) (by rw[wi (by omega) (by omega)];omega)
def stepA (a0:Ag) (r:Int):Ag × List Bt × Nat:=
 if (observeA a0 r).2≠0 then ((observeA a0 r).1,[],(observeA a0 r).2)
 else if (observeA a0 r).1.epoch=0 then ((observeA a0 r).1,sentA (observeA a0 r).1,0)
 else ({ (observeA a0 r).1 with probes:=[] },sentA (observeA a0 r).1,0)
theorem stepA_bad {a0:Ag} {r:Int} (h:(observeA a0 r).2≠0):stepA a0 r=((observeA a0 r).1,[],(observeA a0 r).2):=if_pos h
theorem step_no (a0:Ag) (r:Int) (h:(observeA a0 r).2≠0):Sat Tryz.prog 22 [.ptr 0 0,iA r] (agH a0) (.tup [.d nilV,iA (observeA a0 r).2]) (agH2 (stepA a0 r).1):=by
 rw[stepA_bad h]
 exact step_err a0 r h
theorem step_yes (a0:Ag) (r:Int) (hi:AgInv a0) (h:(observeA a0 r).2=0):Sat Tryz.prog 22 [.ptr 0 0,iA r] (agH a0) (.tup [.own 4,iA 0]) (agH5 (stepA a0 r).1 (sentA (observeA a0 r).1)):=by
 have hi2:=observe_inv hi r
 by_cases he:(observeA a0 r).1.epoch=0
 ·have e:stepA a0 r=((observeA a0 r).1,sentA (observeA a0 r).1,0):=by unfold stepA;rw[if_neg (fun q=>q h),if_pos he]
  rw[e]
  have:=step_hello a0 r h hi2 he
  have e2:sentA (observeA a0 r).1=[encodeT (helloF (observeA a0 r).1)]:=if_pos he
  rw[e2]
  exact this
 ·have e:stepA a0 r=({ (observeA a0 r).1 with probes:=[] },sentA (observeA a0 r).1,0):=by unfold stepA;rw[if_neg (fun q=>q h),if_neg he]
  rw[e]
  exact step_run a0 r h hi2 he
theorem step_inv {a:Ag} (h:AgInv a) (r:Int):AgInv (stepA a r).1:=by
 have ho:=observe_inv h r
 unfold stepA
 split
 ·exact ho
 split
 ·exact ho
 ·exact⟨ho.id,ho.most,ho.boot,ho.epoch,ho.clock,ho.seq,ho.first,ho.len,ho.ev,ho.rise,Nat.zero_le _,fun p hp=>by cases hp⟩
structure Cl where
 what:Int
 boot:Int
 read:Int
 val:Int
 sr:Ser
 bs:Bt
def clR (c:Cl):List D:=[iD c.what,iD c.boot,iD c.read,iD c.val,tD c.sr.1,.sl 2 (c.sr.2.map labR),bsD c.bs]
def doA (a:Ag) (c:Cl):Ag:=if c.what=0 then (startA a c.boot).1 else if c.what=1 then (measureA a c.read c.val c.sr).1 else if c.what=2 then (takeA a c.read c.bs).1 else if c.what=3 then (stepA a c.read).1 else a
theorem do_inv {a:Ag} (h:AgInv a) (c:Cl) (hv:in64 c.val):AgInv (doA a c):=by
 unfold doA
 split
 ·exact start_inv h _
 split
 ·exact measure_inv h _ _ _ hv
 split
 ·exact take_inv h _ _
 split
 ·exact step_inv h _
 ·exact h
def clOk (c:Cl):Prop:=in64 c.val∧c.bs.length≤3000∧c.sr.2.length≤100
abbrev Ask:=Int × Int × Int
def pcell (l:Ask):List Value:=[.int .i64 l.1,.int .i64 l.2.1,.int .i64 l.2.2]
def pcells (l:List Ask):List Value:=(l.map pcell).flatten
theorem prR_flat (l:Ask):FlatVs (prR l) (pcell l):=by repeat constructor
theorem pcells_one (l:List Ask):∀ u∈pcells l,u.oneCell'=true:=by
 intro u hu
 unfold pcells at hu
 rw[List.mem_flatten] at hu
 obtain⟨c,hc,hu⟩:=hu
 obtain⟨s,_,rfl⟩:=List.mem_map.1 hc
 simp only[pcell,List.mem_cons,List.not_mem_nil,or_false] at hu
 rcases hu with rfl|rfl|rfl<;>rfl
set_option maxRecDepth 100000 in
theorem infoPr:(Tryz.prog.info? 93).map (fun i=>(i.zero,i.size,i.bytes))=some (some (.agg #[.int .i64 0,.int .i64 0,.int .i64 0]),3,24):=by kernel_rfl
set_option maxHeartbeats 1000000 in
set_option maxRecDepth 100000 in
theorem cloneP_any (A:Option Addr) (n c:Nat) (xs:List Ask) (w:World) (hr:Rd w w.heap.size 3 A n (pcells xs)) (hn:n≤1000) :
  Calls Tryz.prog 43 #[.slice A n c] w fun e w'=>∃ v,e=.returned v∧Ow w' w.heap.size 93 3 v n (pcells xs)∧Below w.heap.size w w':=by
 obtain⟨i0,hi0,hz0,hz1,hz2⟩:=info_parts infoPr
 cases A with
 |none=>
  have h0:n=0:=by
   rcases Nat.eq_zero_or_pos n with h|h
   ·exact h
   ·obtain⟨b,off,h,_⟩:=hr.at_ h
    cases h
  subst h0
  have hx:pcells xs=[]:=hr.nil'
  have hq:=Lib.run_eql_slice_nil (P:=Tryz.prog) (w:=w) 75
  go_enter Tryz.func43,Tryz.ntmps43
  go_wp2_with fail
  go_ret
  exact⟨_,rfl,by rw[hx];exact Ow.nil _ _ _ _,Below.refl _ _⟩
 |some a=>
  have hq:=Lib.run_eql_slice_nil (P:=Tryz.prog) (w:=w) 75
  go_enter Tryz.func43,Tryz.ntmps43
  go_wp2_with (at_builtin;refine wpList_append_ow _ rfl (.tmp 5) (.tmp 6) _ rfl w.heap.size 93 i0 _ 3 24 Tryz.underlying75 hi0 hz0 hz1 hz2 rfl (by omega) (.slice (some ⟨w.heap.size,0,none⟩) 0 0) 0 [] rfl (Ow.lit w #[] 0 (Nat.le_refl _) (by simp[maxLen]) rfl) w.heap.size (some a) n c (pcells xs) rfl (hr.alloc (Nat.le_refl _) _) (pcells_one xs) (by simp only[maxLen];omega) (by omega) (by simp) ?_;intro v1 w1 hown1 hg1 hat1 hnn1)
  go_ret
  refine⟨_,rfl,by simpa using hown1,?_⟩
  exact (((Below.refl _ _).alloc (Nat.le_refl _) _).grown hg1 (by simp) (by simp[Value.ownBlock]))
set_option maxHeartbeats 1000000 in
theorem cloneP0_any (A:Option Addr) (c:Nat) (w:World) :
  Calls Tryz.prog 43 #[.slice A 0 c] w fun e w'=>∃ v,e=.returned v∧Ow w' w.heap.size 93 3 v 0 []∧Below w.heap.size w w'∧∀ k,blkOf v=some k→k<w'.heap.size:=by
 obtain⟨i0,hi0,hz0,hz1,hz2⟩:=info_parts infoPr
 cases A with
 |none=>
  have hq:=Lib.run_eql_slice_nil (P:=Tryz.prog) (w:=w) 75
  go_enter Tryz.func43,Tryz.ntmps43
  go_wp2_with fail
  go_ret
  exact⟨_,rfl,Ow.nil _ _ _ _,Below.refl _ _,fun k hk=>by cases hk⟩
 |some a=>
  have hq:=Lib.run_eql_slice_nil (P:=Tryz.prog) (w:=w) 75
  have hlit:=hide <| Ow.lit w #[] 0 (lo:=w.heap.size) (size:=3) (e:=93) (Nat.le_refl _) (by simp[maxLen]) rfl
  have hap:=hide <| fun w1 ty hown=>run_append_zero (P:=Tryz.prog) (w:=w1) (ty:=ty) (t:=75) (A:=some a) (c:=c) (lo:=w.heap.size) (size:=3) (ee:=93) (v:=.slice (some ⟨w.heap.size,0,none⟩) 0 0) (m':=0) (xs:=[]) Tryz.underlying75 hi0 hown
  go_enter Tryz.func43,Tryz.ntmps43
  go_wp2_with (at_builtin;refine wpList_exec rfl _ (exec_append _ _ _ rfl _ _ rfl rfl (hap.out _ _ hlit.out)) ?_)
  go_ret
  refine⟨_,rfl,hlit.out,(Below.refl _ _).alloc (Nat.le_refl _) _,fun k hk=>?_⟩
  injection hk with hk
  subst hk
  show w.heap.size<(w.heap.push _).size
  rw[Array.size_push];exact Nat.lt_succ_self _
theorem cloneP_sat (l:List Ask) (hn:l.length≤1000):Sat Tryz.prog 43 [.d (.sl 3 (l.map prR))] [] (.own 0) [.sl 3 (l.map prR)]:=by
 intro F ρ w vals En hv
 obtain⟨v,rfl,hv'⟩:=hv.one_out
 cases hv' with|d hv=>
  obtain⟨A,c,rfl,h1,h2,hr⟩:=hv.sl_rd En.fb (flat_map prR_flat l)
  rw[List.length_map] at hr ⊢
  have main:Calls Tryz.prog 43 #[.slice A l.length c] w fun e w'=>∃ v,e=.returned v∧Ow w' w.heap.size 93 3 v l.length (pcells l)∧Below w.heap.size w w'∧∀ k,blkOf v=some k→k<w'.heap.size:=by
   rcases Nat.eq_zero_or_pos l.length with h0|h0
   ·have:l=[]:=List.eq_nil_of_length_eq_zero h0
    subst this
    exact cloneP0_any A c w
   ·refine (cloneP_any A _ c l w hr hn).mono ?_
    rintro e w' ⟨v,rfl,how,hb⟩
    refine⟨v,rfl,how,hb,fun k hk=>?_⟩
    obtain⟨g,off,cap,rfl,_,hg,_⟩:=how.open_ h0
    injection hk with hk
    subst hk
    exact hg
  refine main.mono ?_
  rintro e w' ⟨v,rfl,how,hb,hlt⟩
  have hG:w.grownBy w' none:=⟨hb.os,hb.tape,hb.output,hb.size,fun b h _=>hb.block b h⟩
  have hnone:hp ([]:List AObj) 0=none:=rfl
  obtain⟨A',c',he,g1,g2,hrd⟩:=how.form
  subst he
  have how0:Ow w' 0 0 3 (.slice A' l.length c') l.length (pcells l):=⟨how.1,by
   rcases how.2 with h|⟨a,h,_,h'⟩|⟨g,off,cap,h,_,h'⟩
   ·exact .inl h
   ·exact .inr (.inl ⟨a,h,Nat.zero_le _,h'⟩)
   ·exact .inr (.inr ⟨g,off,cap,h,Nat.zero_le _,h'⟩)⟩
  obtain⟨S,K,E⟩:=En.new (n:=0) (o':=.sl 3 (l.map prR)) (h:=.slice A' l.length c') hnone hG (fun b hb'=>⟨how.lt b (by rw[←blk_own rfl];exact hb'),hlt b hb'⟩)
   ⟨_,by rw[List.length_map];exact how0,(flat_map prR_flat l).rds,fun r hr=>by obtain⟨x,_,rfl⟩:=List.mem_map.1 hr;rfl⟩
  have e:updF (hp []) 0 (some (.sl 3 (l.map prR)))=hp [.sl 3 (l.map prR)]:=by
   funext i
   match i with
   |0=>rfl
   |i+1=>rfl
  rw[e] at S E
  exact⟨_,rfl,F,_,S,K,E,.own (updF_same _ _ _)⟩
set_option maxHeartbeats 4000000 in
theorem agClone_sat (a:Ag) (hk:a.kept.length≤100000) (hl:∀ x∈a.kept,x.2.2.2.length≤1000) (hp:a.probes.length≤1000):Sat Tryz.prog 14 [.ptr 0 0] (agH a) (.ptr 3 0) (agH a++[.cells (agC a (.own 4) (.own 5)),.sl 4 (a.kept.map evR),.sl 3 (a.probes.map prR)]):=by
 have k1:=kept_sat a hk hl
 have c1:=cloneP_sat a.probes hp
 have hf:FlatVs (a.probes.map prR).flatten (pcells a.probes):=flat_map prR_flat a.probes
 refine Vq Tryz.func14 rfl rfl ?_
 conv=>whnf
 iterate 6
  repeat' first|exact T0|(first|refine Yd fun _=>?_|refine Ye fun _=>?_|refine Yg ?_|refine Yk (k1.at3 0 1 2 rfl rfl rfl rfl rfl rfl) ?_|refine Yk (lendON c1 rfl hf) ?_);conv=>whnf|(refine Ya ?_ ?_<;>intro _<;>conv=>whnf)
  all_goals try (refine Or.inl ?_;conv=>whnf)
 all_goals refine⟨[],?_⟩
 repeat any_goals first|exact T0|exact rfl|exact Yr|refine Ya ?_ ?_
 all_goals conv=>whnf
end Go.Proofs.YtfbfpnfgabamfaaGreat
namespace Go.Proofs.YtfbfpnfgabamfaaGreat
set_option linter.unusedSimpArgs false
set_option linter.unusedVariables false
open Go.RowKit
theorem Sat.at4' {P:Program} {g:FuncId} {args:List AV} {o o' p p' q q' s s':AObj} {N L:List AObj} {n:Nat} {r:AV} (h:Sat P g args [o,p,q,s] r (o'::p'::q'::s'::N)) (a b c d:Nat) (hab:decide ([a,b,c,d].Nodup)=true) (hlive:(o.live && p.live && q.live && s.live)=true) (hids:(AV.lts 4 args && AObj.lts 4 [o,p,q,s])=true)
  (ha:L[a]?=some (o.rn (sub [a,b,c,d] n))) (hb:L[b]?=some (p.rn (sub [a,b,c,d] n))) (hc:L[c]?=some (q.rn (sub [a,b,c,d] n))) (hd:L[d]?=some (s.rn (sub [a,b,c,d] n))) :
  CallOK P g (AV.rns (sub [a,b,c,d] n) args) L n ⟨[a,b,c,d],[(a,o'.rn (sub [a,b,c,d] n)),(b,p'.rn (sub [a,b,c,d] n)),(c,q'.rn (sub [a,b,c,d] n)),(d,s'.rn (sub [a,b,c,d] n))],AObj.rns (sub [a,b,c,d] n) N⟩ (r.rn (sub [a,b,c,d] n)):=by
 simp only[Bool.and_eq_true] at hlive
 exact h.at_ [a,b,c,d] L n rfl (of_decide_eq_true hab) rfl (by simp[AObj.lives,hlive]) hids fun j hj=>by
  match j,hj with
  |0,_=>exact ha
  |1,_=>exact hb
  |2,_=>exact hc
  |3,_=>exact hd
section
variable {P:Program} {F:Nat→Prop} {ρ:Nat→Option Value} {w:World}
end
end Go.Proofs.YtfbfpnfgabamfaaGreat
namespace Go.Proofs.YtfbfpnfgabamfaaGreat
set_option linter.unusedSimpArgs false
open Go.RowKit
set_option maxRecDepth 100000
set_option linter.unusedVariables false
set_option linter.unusedSectionVars false
abbrev agH6 (a:Ag):List AObj:=[.cells (agC a (.own 4) (.own 5)),.dead,.dead,.dead,.sl 4 (a.kept.map evR),.sl 3 (a.probes.map prR)]
theorem sameRows_nil:Sat Tryz.prog 40 [.d nilV,.d nilV] [] (bA true) []:=by
 refine Vq Tryz.func40 rfl rfl ?_
 conv=>whnf
 iterate 4
  repeat' first|exact T0|(first|refine Yd fun _=>?_|refine Ye fun _=>?_|refine Yg ?_);conv=>whnf|(refine Ya ?_ ?_<;>intro _<;>conv=>whnf)
  all_goals try (refine Or.inl ?_;conv=>whnf)
 refine⟨Unit,fun _=>True,fun _=>([(5,iA 0),(1,.d nilV),(0,.d nilV)],[]),fun _=>0,⟨(),trivial,?_⟩,?_⟩
 ·all_goals refine⟨[],?_⟩
  repeat any_goals first|exact T0|exact rfl|exact Yr|refine Ya ?_ ?_
  all_goals conv=>whnf
 rintro⟨⟩ _
 conv=>whnf
 iterate 4
  repeat' first|exact T0|(first|refine Yd fun _=>?_|refine Ye fun _=>?_|refine Yg ?_);conv=>whnf|(refine Ya ?_ ?_<;>intro _<;>conv=>whnf)
  all_goals try (refine Or.inl ?_;conv=>whnf)
 all_goals refine⟨[],?_⟩
 repeat any_goals first|exact T0|exact rfl|exact Yr|refine Ya ?_ ?_
 all_goals conv=>whnf
theorem what_no {x k:Int} (h:x≠k):(x == k)=false:=by rw[beqI,decide_eq_false h]
section
variable (a:Ag) (hi:AgInv a) (c:Cl) (hc:clOk c)
include hi hc
end
end Go.Proofs.YtfbfpnfgabamfaaGreat
namespace Go.Proofs.YtfbfpnfgabamfaaGreat
set_option linter.unusedSimpArgs false
open Go.RowKit
set_option maxRecDepth 100000
set_option linter.unusedVariables false
def gr0:Fr:=⟨2,3,7,4,0,0,0,0,0,0,[],([],[]),[]⟩
theorem gr0_right:rightF gr0=true:=by decide +kernel
theorem gr0_ok:FrOk gr0:=⟨⟨by decide,by decide⟩,⟨by decide,by decide⟩,⟨by decide,by decide⟩,⟨by decide,by decide⟩,⟨by decide,by decide⟩,⟨by decide,by decide⟩,⟨by decide,by decide⟩,⟨by decide,by decide⟩,⟨by decide,by decide⟩,⟨by decide,by decide⟩,by decide,(fun x hx=>by cases hx),by decide⟩
def sM:Ser:=([109],[])
def aA1:Ag:=newA 3 2 4
def aA2:Ag:={ aA1 with clock:=5 }
def aA3:Ag:={ aA1 with clock:=6,epoch:=7 }
def aA4:Ag:={ aA1 with clock:=9,epoch:=7,kept:=[(9,-1,sM)],seq:=1 }
def aA5:Ag:={ aA1 with clock:=9,epoch:=7,kept:=[(9,-1,sM),(9,2,sM)],seq:=2 }
def aA6:Ag:={ aA5 with dropped:=1 }
theorem gr0_len:(encodeT gr0).length≤65536:=small_len (k:=2) rfl (by decide) rfl
theorem aI1:AgInv aA1:=newA_inv ⟨by decide,by decide⟩ ⟨by decide,by decide⟩ ⟨by decide,by decide⟩
theorem aS0:startA (newA 3 2 0) 4=(aA1,0):=rfl
theorem aS1:stepA aA1 5=(aA2,[encodeT (helloF aA2)],0):=rfl
theorem aI2:AgInv aA2:=by have:=step_inv aI1 5;rw[aS1] at this;exact this
theorem aT2:takeA aA2 6 (encodeT gr0)=(aA3,0):=by
 have hd:=decode_enc gr0_right (fun x hx=>by cases hx) gr0_len
 unfold takeA
 rw[hd]
 rfl
theorem aI3:AgInv aA3:=by have:=take_inv aI2 6 (encodeT gr0);rw[aT2] at this;exact this
theorem aM3:measureA aA3 9 (-1) sM=(aA4,0,0):=by kernel_rfl
theorem aI4:AgInv aA4:=by have:=measure_inv aI3 9 (-1) sM ⟨by decide,by decide⟩;rw[aM3] at this;exact this
theorem aM4:measureA aA4 8 2 sM=(aA5,1,0):=by kernel_rfl
theorem aI5:AgInv aA5:=by have:=measure_inv aI4 8 2 sM ⟨by decide,by decide⟩;rw[aM4] at this;exact this
theorem aM5:measureA aA5 8 2 sM=(aA6,-1,20):=by kernel_rfl
theorem aI6:AgInv aA6:=by have:=measure_inv aI5 8 2 sM ⟨by decide,by decide⟩;rw[aM5] at this;exact this
theorem aO6:observeA aA6 9=(aA6,0):=by kernel_rfl
theorem bat2_len:(encodeT (batchF aA6 2)).length≤65536:=by
 have h:=frT_len5 (batchF aA6 2)
 have hl:(batchF aA6 2).ev.length=2:=rfl
 rw[hl] at h
 unfold encodeT
 rw[sealT_len]
 show (frT (batchF aA6 2) 5).length+4≤_
 omega
theorem aS6:sentA aA6=[encodeT (batchF aA6 2),encodeT (beatF aA6)]:=by
 have hm:mostB aA6 2=2:=mostB_at (by decide) bat2_len
 have hb:batT aA6=[encodeT (batchF aA6 2)]:=by
  rw[bat_some (by intro h;cases h)]
  show [encodeT (batchF aA6 (mostB aA6 2))]=_
  rw[hm]
 rw[sent_run aA6 (by decide),hb]
 rfl
theorem aT6:(stepA aA6 9).1=aA6:=by
 unfold stepA
 rw[aO6]
 rfl
theorem aD1:decodeF (encodeT (batchF aA6 2))=(batchF aA6 2,0):=decode_enc (batch_right aI6 (by decide) (by decide) (by decide)) (fun x hx=>(aI6.ev x (List.mem_of_mem_take hx)).2.1) bat2_len
theorem aD2:decodeF (encodeT (beatF aA6))=(beatF aA6,0):=decode_enc (beat_right aI6) (fun x hx=>by cases hx) (small_len (k:=7) rfl (by decide) rfl)
theorem aS7:startA aA6 4=(aA6,22):=rfl
theorem aS8:startA aA6 5=(newA 3 2 5,0):=rfl
set_option maxHeartbeats 16000000 in
theorem alive14:Sat Tryz.prog 8 [] [] (bA true) []:=by
 have n1:=agNew_ok 3 2 (by decide)
 have s1:=start_sat (newA 3 2 0) 4
 rw[aS0] at s1
 have p1:=step_yes aA1 5 aI1 rfl
 rw[aS1] at p1
 have p1:Sat Tryz.prog 22 [.ptr 0 0,iA 5] (agH aA1) (.tup [.own 4,iA 0]) (agH5 aA2 [encodeT (helloF aA2)]):=p1
 have e1:∀ L n,CallOK Tryz.prog 31 [.d (.agg (nilR gr0))] L n ⟨[],[],[.dead]⟩ (.tup [.d (bsD (encodeT gr0)),iA 0]):=fun L n=>CallOK.frzT (Sat.nw ((rEncode_ok gr0 2 (by decide) (by decide) rfl gr0_ok (fun x hx=>by cases hx) gr0_right gr0_len).pre fun w F ρ vs h=>by
  cases h with|cons h1 h2=>
  cases h1 with|d h1=>exact .cons (.d (h1.nilLe (bare_le (f:=gr0) ⟨rfl,rfl,rfl⟩))) h2) rfl)
 have t1:=take_satA aA2 6 (encodeT gr0) (by decide) (by decide) (by decide)
 rw[aT2] at t1
 have mp:∀ {r v:Int} {H H':List AObj} {x:AV},Sat Tryz.prog 32 [.ptr 0 0,iA r,iA v,.d (serD sM)] H x H'→Sat Tryz.prog 32 [.ptr 0 0,iA r,iA v,.d (.agg [tD [109],nilV])] H x H':=fun h=>h.pre fun w F ρ vs h=>by
  cases h with|cons h1 h2=>
  cases h2 with|cons h2 h3=>
  cases h3 with|cons h3 h4=>
  cases h4 with|cons h4 h5=>
  cases h4 with|d h4=>exact .cons h1 (.cons h2 (.cons h3 (.cons (.d (h4.nilLe (ys:=[tD [109],.sl 2 []]) (by repeat' (first|exact trivial|refine And.intro ?_ ?_|exact .inl rfl|exact .inr ⟨rfl,_,rfl⟩)))) h5)))
 have m1:=measure_sat aA3 9 (-1) sM (by decide) (by decide)
 rw[aM3] at m1
 have m1:=mp m1
 have m2:=measure_sat aA4 8 2 sM (by decide) (by decide)
 rw[aM4] at m2
 have m2:=mp m2
 have m3:=measure_sat aA5 8 2 sM (by decide) (by decide)
 rw[aM5] at m3
 have m3:=mp m3
 have p2:=step_yes aA6 9 aI6 (by rw[aO6])
 rw[aO6,aT6] at p2
 rw[show sentA (aA6,0).1=[encodeT (batchF aA6 2),encodeT (beatF aA6)] from aS6] at p2
 have d1:=decode_sat (encodeT (batchF aA6 2))
 rw[aD1] at d1
 have d2:=decode_sat (encodeT (beatF aA6))
 rw[aD2] at d2
 have c1:=agClone_sat aA6 (by decide) (by decide) (by decide)
 have s2:=start_sat aA6 4
 rw[aS7] at s2
 have s3:=start_sat aA6 5
 rw[aS8] at s3
 generalize encodeT gr0=b0 at *
 generalize encodeT (helloF aA2)=b1 at *
 generalize encodeT (batchF aA6 2)=b2 at *
 generalize encodeT (beatF aA6)=b3 at *
 have ce:=agEpoch_sat aA6
 have cs:=agSeq_sat aA6
 have cd:=agDropped_sat aA6
 have ck:=kept_sat aA6 (by decide) (by decide)
 have ae:=agEpoch_sat (newA 3 2 5)
 have ab:=agBoot_sat (newA 3 2 5)
 have ai:=agId_sat (newA 3 2 5)
 have ac:=agClock_sat (newA 3 2 5)
 have af:=agFirst_sat (newA 3 2 5) ⟨by decide,by decide⟩
 have ap:=agProbes_sat (newA 3 2 5)
 have dl1:(((([b1].map (fun b=>[bsD b])).length:Nat):Int) != 1)=false:=rfl
 refine Vq Tryz.func8 rfl rfl ?_
 conv=>whnf
 iterate 12
  repeat' first|exact T0|(first|refine Yd fun _=>?_|refine Ye fun _=>?_|refine Yg ?_|refine Yk (n1.nw rfl) ?_|refine Yk (eqP (by kernel_rfl)) ?_|refine Yk (s1.at3 0 1 2 rfl rfl rfl rfl rfl rfl) ?_|refine Yk (p1.at3 0 3 4 rfl rfl rfl rfl rfl rfl) ?_|refine Yk (e1 _ _) ?_|refine Yk (t1.at3 0 5 7 rfl rfl rfl rfl rfl rfl) ?_|refine Yk (m1.at3 0 9 10 rfl rfl rfl rfl rfl rfl) ?_|refine Yk (m2.at3 0 12 13 rfl rfl rfl rfl rfl rfl) ?_|refine Yk (m3.at3 0 14 15 rfl rfl rfl rfl rfl rfl) ?_|refine Yk (p2.at3 0 16 17 rfl rfl rfl rfl rfl rfl) ?_);conv=>whnf|(refine Ya ?_ ?_<;>intro _<;>conv=>whnf)
  all_goals try (refine Or.inl ?_;conv=>whnf)
 all_goals try exact (bnl ‹_› dl1).elim
 repeat' first|exact T0|(first|refine⟨0,rfl,(show 0<2 by decide),?_⟩|refine⟨1,rfl,(show 1<2 by decide),?_⟩|refine⟨[bsD b2],rfl,?_⟩|refine⟨[bsD b3],rfl,?_⟩|refine Yd fun _=>?_|refine Ye fun _=>?_|refine Yg ?_|refine Yk (d1.pu rfl rfl) ?_|refine Yk (d2.pu rfl rfl) ?_|refine Yk (c1.at3 0 18 20 rfl rfl rfl rfl rfl rfl) ?_|refine Yk (eqP (by kernel_rfl)) ?_);conv=>whnf|(refine Ya ?_ ?_<;>intro _<;>conv=>whnf)
 refine Or.inr ⟨Unit,fun _=>True,fun _=>([(1,.ptr 0 0),(3,iA 0),(5,iA 0),(8,iA 0),(10,iA 0),(11,iA 0),(13,iA 20),(15,iA 0),(16,.ptr 21 0),(18,.ptr 22 0),(20,.ptr 23 0)],[.cells (agC aA6 (.own 18) (.own 20)),.dead,.dead,.dead,.dead,.dead,.dead,.dead,.dead,.dead,.dead,.dead,.dead,.dead,.dead,.dead,.dead,.dead,.sl 4 (aA6.kept.map evR),.dead,.sl 3 (aA6.probes.map prR),.cells (frA (batchF aA6 2)),.cells (frA (beatF aA6)),.cells (agC aA6 (.own 24) (.own 25)),.sl 4 (aA6.kept.map evR),.sl 3 (aA6.probes.map prR)]),?_,fun _ _=>?_⟩
 ·conv=>whnf
  iterate 4
   repeat' first|exact T0|(first|refine Yd fun _=>?_|refine Ye fun _=>?_|refine Yg ?_|refine Yk (eqP (by kernel_rfl)) ?_);conv=>whnf|(refine Ya ?_ ?_<;>intro _<;>conv=>whnf)
   all_goals try (refine Or.inl ?_;conv=>whnf)
  refine⟨(),trivial,?_⟩
  all_goals refine⟨[],?_⟩
  repeat any_goals first|exact T0|exact rfl|exact Yr|refine Ya ?_ ?_
  all_goals conv=>whnf
 conv=>whnf
 iterate 8
  repeat' first|exact T0|(first|refine⟨1,_,rfl,rfl,?_⟩|refine Yd fun _=>?_|refine Ye fun _=>?_|refine Yg ?_|refine Yk (s2.at3 0 18 20 rfl rfl rfl rfl rfl rfl) ?_|refine Yk (s3.at3 0 26 27 rfl rfl rfl rfl rfl rfl) ?_|refine Yk (ce.at3 23 24 25 rfl rfl rfl rfl rfl rfl) ?_|refine Yk (cs.at3 23 24 25 rfl rfl rfl rfl rfl rfl) ?_|refine Yk (cd.at3 23 24 25 rfl rfl rfl rfl rfl rfl) ?_|refine Yk (ck.at3 23 24 25 rfl rfl rfl rfl rfl rfl) ?_|refine Yk (ae.at3 0 28 29 rfl rfl rfl rfl rfl rfl) ?_|refine Yk (ab.at3 0 28 29 rfl rfl rfl rfl rfl rfl) ?_|refine Yk (ai.at3 0 28 29 rfl rfl rfl rfl rfl rfl) ?_|refine Yk (ac.at3 0 28 29 rfl rfl rfl rfl rfl rfl) ?_|refine Yk (af.at3 0 28 29 rfl rfl rfl rfl rfl rfl) ?_|refine Yk (ap.at3 0 28 29 rfl rfl rfl rfl rfl rfl) ?_);conv=>whnf|(refine Ya ?_ ?_<;>intro _<;>conv=>whnf)
  all_goals try (refine Or.inl ?_;conv=>whnf)
 all_goals refine⟨[],?_⟩
 repeat any_goals first|exact T0|exact rfl|exact Yr|refine Ya ?_ ?_
 all_goals conv=>whnf
theorem ty_strF {m:Nat} {t:TypeId} {ds:List D} (h:Ty Tryz.prog (m+1) t ds) (hu:Tryz.prog.underlying t=some .string):∃ l:Bt,ds=[tD l]:=by
 have h:TyB (Ty Tryz.prog m) Tryz.prog t ds:=h
 unfold TyB at h
 rw[hu] at h
 obtain⟨s,rfl,_⟩:=h
 obtain⟨l,hl⟩:=str_list s
 exact⟨l,by rw[hl]⟩
theorem ty_longF {m:Nat} {t:TypeId} {ds:List D} (h:Ty Tryz.prog (m+1) t ds) (hu:Tryz.prog.underlying t=some (.int .i64)):∃ z,ds=[iD z]∧in64 z:=by
 have h:TyB (Ty Tryz.prog m) Tryz.prog t ds:=h
 unfold TyB at h
 rw[hu] at h
 obtain⟨z,rfl,hz⟩:=h
 exact⟨z,rfl,by
  have hz:IntKind.i64.min≤z∧z≤IntKind.i64.max:=by simpa [Lit.wf] using hz
  exact hz⟩
theorem ty_byF {m:Nat} {t:TypeId} {ds:List D} (h:Ty Tryz.prog (m+1) t ds) (hu:Tryz.prog.underlying t=some (.int .u8)):∃ y:UInt8,ds=bR y:=by
 have h:TyB (Ty Tryz.prog m) Tryz.prog t ds:=h
 unfold TyB at h
 rw[hu] at h
 obtain⟨z,rfl,hz⟩:=h
 have hz:IntKind.u8.min≤z∧z≤IntKind.u8.max:=by simpa [Lit.wf] using hz
 have hz:0≤z∧z≤255:=hz
 refine⟨UInt8.ofNat z.toNat,?_⟩
 have:((UInt8.ofNat z.toNat).toNat:Int)=z:=by rw[UInt8.toNat_ofNat'];omega
 show [D.v (.int .u8 z)]=[D.v (.int .u8 ((UInt8.ofNat z.toNat).toNat:Int))]
 rw[this]
theorem ty_labF {m:Nat} {ds:List D} (h:Ty Tryz.prog (m+2) 86 ds):∃ l:Lab,ds=labR l:=by
 have h:TyB (Ty Tryz.prog (m+1)) Tryz.prog 86 ds:=h
 unfold TyB at h
 rw[Tryz.underlying86] at h
 obtain⟨dss,e0,h⟩:=h
 obtain⟨d1,r1,e1,h1,h⟩:=h
 obtain⟨d2,r2,e2,h2,h⟩:=h
 obtain rfl:r2=[]:=h
 subst e2 e1 e0
 obtain⟨a,rfl⟩:=ty_strF h1 Tryz.underlying9
 obtain⟨b,rfl⟩:=ty_strF h2 Tryz.underlying9
 exact⟨(a,b),rfl⟩
theorem ty_serF {m:Nat} {ds:List D} (h:Ty Tryz.prog (m+4) 35 ds):∃ s:Ser,ds=[tD s.1,.sl 2 (s.2.map labR)]:=by
 have h:TyB (Ty Tryz.prog (m+3)) Tryz.prog 35 ds:=h
 unfold TyB at h
 rw[Tryz.underlying35] at h
 obtain⟨dss,e0,h⟩:=h
 obtain⟨d1,r1,e1,h1,h⟩:=h
 obtain⟨d2,r2,e2,h2,h⟩:=h
 obtain rfl:r2=[]:=h
 subst e2 e1 e0
 obtain⟨a,rfl⟩:=ty_strF h1 Tryz.underlying9
 have h2:TyB (Ty Tryz.prog (m+2)) Tryz.prog 33 d2:=h2
 unfold TyB at h2
 rw[Tryz.underlying33] at h2
 obtain⟨rows,rfl,hr,_⟩:=h2
 obtain⟨l,rfl,_⟩:=rows_map (f:=labR) (p:=fun _=>True) fun r hr'=>by
  obtain⟨y,hy⟩:=ty_labF (m:=m) (hr r hr')
  exact⟨y,hy,trivial⟩
 exact⟨(a,l),rfl⟩
def clIn (c:Cl):Prop:=in64 c.what∧in64 c.boot∧in64 c.read∧in64 c.val
theorem ty_clF {ds:List D} (h:Ty Tryz.prog 8 38 ds):∃ c:Cl,ds=clR c∧clIn c:=by
 have h:TyB (Ty Tryz.prog 7) Tryz.prog 38 ds:=h
 unfold TyB at h
 rw[Tryz.underlying38] at h
 obtain⟨dss,e0,h⟩:=h
 obtain⟨d1,r1,e1,h1,h⟩:=h
 obtain⟨d2,r2,e2,h2,h⟩:=h
 obtain⟨d3,r3,e3,h3,h⟩:=h
 obtain⟨d4,r4,e4,h4,h⟩:=h
 obtain⟨d5,r5,e5,h5,h⟩:=h
 obtain⟨d6,r6,e6,h6,h⟩:=h
 obtain rfl:r6=[]:=h
 subst e6 e5 e4 e3 e2 e1 e0
 obtain⟨z1,rfl,i1⟩:=ty_longF (m:=6) h1 Tryz.underlying3
 obtain⟨z2,rfl,i2⟩:=ty_longF (m:=6) h2 Tryz.underlying2
 obtain⟨z3,rfl,i3⟩:=ty_longF (m:=6) h3 Tryz.underlying2
 obtain⟨z4,rfl,i4⟩:=ty_longF (m:=6) h4 Tryz.underlying2
 obtain⟨s,rfl⟩:=ty_serF (m:=3) h5
 have h6:TyB (Ty Tryz.prog 6) Tryz.prog 36 d6:=h6
 unfold TyB at h6
 rw[Tryz.underlying36] at h6
 obtain⟨rows,rfl,hr,_⟩:=h6
 obtain⟨d,rfl,_⟩:=rows_map (f:=bR) (p:=fun _=>True) fun r hr'=>by
  obtain⟨y,hy⟩:=ty_byF (m:=5) (hr r hr') Tryz.underlying5
  exact⟨y,hy,trivial⟩
 exact⟨⟨z1,z2,z3,z4,s,d⟩,rfl,i1,i2,i3,i4⟩
theorem ty_calls {x:D} (h:TyV Tryz.prog 22 x):∃ l:List Cl,x=.sl 7 (l.map clR)∧∀ c∈l,clIn c:=by
 obtain⟨rows,rfl,hr,_⟩:=ty_slice h Tryz.underlying22
 obtain⟨l,rfl,hl⟩:=rows_map (f:=clR) (p:=clIn) fun r hr'=>ty_clF (hr r hr')
 exact⟨l,rfl,hl⟩
def greatC (l:List Cl):Bool:=decide (l.length>60) || l.any fun c=>decide (c.bs.length>3000) || greatB c.sr
theorem greatC_no {l:List Cl} (h:greatC l=false) (hl:∀ c∈l,clIn c):l.length≤60∧∀ c∈l,clOk c:=by
 unfold greatC at h
 simp only[Bool.or_eq_false_iff,decide_eq_false_iff_not,List.any_eq_false] at h
 refine⟨by omega,fun c hc=>?_⟩
 have:=h.2 c hc
 simp only[Bool.or_eq_true,decide_eq_true_eq,not_or,Bool.not_eq_true] at this
 exact⟨(hl c hc).2.2.2,by omega,(great_no8 this.2).1⟩
set_option maxHeartbeats 4000000 in
theorem great14_sat (l:List Cl):Sat Tryz.prog 9 [.d (.sl 7 (l.map clR))] [] (bA (greatC l)) []:=by
 have hm:(l.map clR).length=l.length:=List.length_map _
 by_cases h1:l.length>60
 ·rw[show greatC l=true by unfold greatC;rw[decide_eq_true h1,Bool.true_or]]
  have d0:decide (((l.map clR).length:Int)>60)=true:=decide_eq_true (by rw[hm];omega)
  refine Vq Tryz.func9 rfl rfl ?_
  conv=>whnf
  iterate 4
   repeat' first|exact T0|(first|refine Yd fun _=>?_|refine Ye fun _=>?_|refine Yg ?_);conv=>whnf|(refine Ya ?_ ?_<;>intro _<;>conv=>whnf)
   all_goals try (refine Or.inl ?_;conv=>whnf)
  all_goals try exact (bnl d0 ‹_›).elim
  all_goals refine⟨[],?_⟩
  repeat any_goals first|exact T0|exact rfl|exact Yr|refine Ya ?_ ?_
  all_goals conv=>whnf
 rw[show greatC l=l.any fun c=>decide (c.bs.length>3000) || greatB c.sr by unfold greatC;rw[decide_eq_false h1,Bool.false_or]]
 have d0:decide (((l.map clR).length:Int)>60)=false:=decide_eq_false (by rw[hm];omega)
 refine Vq Tryz.func9 rfl rfl ?_
 conv=>whnf
 iterate 4
  repeat' first|exact T0|(first|refine Yd fun _=>?_|refine Ye fun _=>?_|refine Yg ?_);conv=>whnf|(refine Ya ?_ ?_<;>intro _<;>conv=>whnf)
  all_goals try (refine Or.inl ?_;conv=>whnf)
 all_goals try exact (bnl ‹_› d0).elim
 refine⟨Nat,fun i=>i≤l.length∧((l.take i).any fun c=>decide (c.bs.length>3000) || greatB c.sr)=false,fun i=>([(3,iA i),(0,.d (.sl 7 (l.map clR)))],[]),fun i=>l.length-i,⟨0,⟨Nat.zero_le _,rfl⟩,?_⟩,?_⟩
 ·all_goals refine⟨[],?_⟩
  repeat any_goals first|exact T0|exact rfl|exact Yr|refine Ya ?_ ?_
  all_goals conv=>whnf
 rintro i ⟨hi,hI⟩
 have hi:i≤l.length:=hi
 have hI:((l.take i).any fun c=>decide (c.bs.length>3000) || greatB c.sr)=false:=hI
 conv=>whnf
 by_cases hlt:i<l.length
 ·have hx:l[i]?=some l[i]:=List.getElem?_eq_getElem hlt
  generalize l[i]=x at hx
  have hgx:=map_get (f:=clR) hx
  have g2:=great8_sat x.sr
  have hb:(x.bs.map bR).length=x.bs.length:=List.length_map _
  have d1:decide ((i:Int)<((l.map clR).length:Nat))=true:=decide_eq_true (by rw[hm];omega)
  have d2:decide (((x.bs.map bR).length:Int)>3000)=decide (x.bs.length>3000):=by rw[hb];exact decide_eq_decide.2 (by omega)
  cases hc:(decide (x.bs.length>3000) || greatB x.sr) with
  |true=>
   rw[show (l.any fun c=>decide (c.bs.length>3000) || greatB c.sr)=true by
    rw[List.any_eq_true];exact⟨x,List.mem_of_getElem? hx,hc⟩]
   cases h3:decide (x.bs.length>3000) with
   |true=>
    rw[h3] at d2
    iterate 5
     repeat' first|exact T0|(first|refine⟨i,_,rfl,hgx,?_⟩|refine Yd fun _=>?_|refine Ye fun _=>?_|refine Yg ?_|refine Yk (g2.pu rfl rfl) ?_);conv=>whnf|(refine Ya ?_ ?_<;>intro _<;>conv=>whnf)
     all_goals try (refine Or.inl ?_;conv=>whnf)
    all_goals try exact (bnl d1 ‹_›).elim
    all_goals try exact (bnl d2 ‹_›).elim
    all_goals refine⟨[],?_⟩
    repeat any_goals first|exact T0|exact rfl|exact Yr|refine Ya ?_ ?_
    all_goals conv=>whnf
   |false=>
    rw[h3] at d2
    have h4:greatB x.sr=true:=by rw[h3,Bool.false_or] at hc;exact hc
    rw[h4] at g2
    iterate 5
     repeat' first|exact T0|(first|refine⟨i,_,rfl,hgx,?_⟩|refine Yd fun _=>?_|refine Ye fun _=>?_|refine Yg ?_|refine Yk (g2.pu rfl rfl) ?_);conv=>whnf|(refine Ya ?_ ?_<;>intro _<;>conv=>whnf)
     all_goals try (refine Or.inl ?_;conv=>whnf)
    all_goals try exact (bnl d1 ‹_›).elim
    all_goals try exact (bnl ‹_› d2).elim
    all_goals refine⟨[],?_⟩
    repeat any_goals first|exact T0|exact rfl|exact Yr|refine Ya ?_ ?_
    all_goals conv=>whnf
  |false=>
   have hc':=hc
   rw[Bool.or_eq_false_iff] at hc
   rw[hc.1] at d2
   rw[hc.2] at g2
   iterate 5
    repeat' first|exact T0|(first|refine⟨i,_,rfl,hgx,?_⟩|refine Yd fun _=>?_|refine Ye fun _=>?_|refine Yg ?_|refine Yk (g2.pu rfl rfl) ?_);conv=>whnf|(refine Ya ?_ ?_<;>intro _<;>conv=>whnf)
    all_goals try (refine Or.inl ?_;conv=>whnf)
   all_goals try exact (bnl d1 ‹_›).elim
   all_goals try exact (bnl ‹_› d2).elim
   refine⟨i+1,⟨hlt,?_⟩,show l.length-(i+1)<l.length-i by omega,?_⟩
   ·rw[List.take_add_one,hx,List.any_append,hI]
    show (false || ((decide (x.bs.length>3000) || greatB x.sr) || false))=false
    rw[hc'];rfl
   all_goals refine⟨[],?_⟩
   repeat any_goals first|exact T0|exact rfl|exact Yr|refine Ya ?_ ?_
   all_goals conv=>whnf
   exact wk1 (by omega)
 ·have d1:decide ((i:Int)<((l.map clR).length:Nat))=false:=decide_eq_false (by rw[hm];omega)
  rw[List.take_of_length_le (by omega:l.length≤i)] at hI
  rw[hI]
  iterate 5
   repeat' first|exact T0|(first|refine Yd fun _=>?_|refine Ye fun _=>?_|refine Yg ?_);conv=>whnf|(refine Ya ?_ ?_<;>intro _<;>conv=>whnf)
   all_goals try (refine Or.inl ?_;conv=>whnf)
  all_goals try exact (bnl ‹_› d1).elim
  all_goals refine⟨[],?_⟩
  repeat any_goals first|exact T0|exact rfl|exact Yr|refine Ya ?_ ?_
  all_goals conv=>whnf
def playA (a:Ag) (l:List Cl):Ag:=l.foldl doA a
theorem playA_next {a:Ag} {l:List Cl} {i:Nat} {c:Cl} (h:l[i]?=some c):playA a (l.take (i+1))=doA (playA a (l.take i)) c:=by
 unfold playA
 rw[List.take_add_one,h,List.foldl_append]
 rfl
theorem play_inv {a:Ag} (h:AgInv a):∀ {l:List Cl},(∀ c∈l,clOk c)→AgInv (playA a l)
 |[],_=>h
 |c::l,hl=>play_inv (do_inv h c (hl c (List.mem_cons_self ..)).1) (l:=l) fun x hx=>hl x (List.mem_cons_of_mem _ hx)
theorem play_take {a:Ag} (h:AgInv a) {l:List Cl} (hl:∀ c∈l,clOk c) (i:Nat):AgInv (playA a (l.take i)):=play_inv h fun c hc=>hl c (List.mem_of_mem_take hc)
section
variable {P:Program} {L:List AObj} {n:Nat} {g:FuncId}
theorem CallOK.frzO {args:List AV} {rs:List Nat} {ws:List (Nat × AObj)} {s:Nat} {rows:List (List D)} (h:CallOK P g args L n ⟨rs,ws,[.sl s rows]⟩ (.own n)):CallOK P g args L n ⟨rs,ws,[.dead]⟩ (.d (.sl s rows)):=by
 intro H F ρ w vals En hrs hnew hv
 refine (h H F ρ w vals En hrs hnew hv).mono ?_
 rintro en w' ⟨v,rfl,F',ρ',S,K,E',R⟩
 have hn':appN n [AObj.sl s rows] (appW ws H) n=some (.sl s rows):=updF_same _ _ _
 cases R with|own R=>
 rename_i A m c
 obtain⟨hh,e1,⟨vs,how,hra,hs1⟩,e3⟩:=E'.rep n _ hn' rfl
 rw[R] at e1;injection e1 with e1;subst e1
 obtain⟨A',c',he,g1,g2,hrd⟩:=how.form
 injection he with q1 q2 q3
 subst q1 q2 q3
 obtain⟨S1,E1⟩:=E'.freeze hn' rfl R
 have eH:updF (appN n [AObj.sl s rows] (appW ws H)) n (some .dead)=appN n [.dead] (appW ws H):=by
  funext j
  show updF (updF (appW ws H) n _) n _ j=updF (appW ws H) n _ j
  by_cases e:j=n
  ·subst e;rw[updF_same,updF_same]
  ·rw[updF_ne _ _ e,updF_ne _ _ e,updF_ne _ _ e]
 rw[eH] at S1 E1
 have hd:RD w' (fun b=>F' b∨blkOf (.slice A rows.length c)=some b) (.sl s rows) (.slice A rows.length c):=.sl rfl hs1 g1 g2 (hra.mono (fun _ _=>rfl) fun _ h=>.inl h) fun hp'=>by
  obtain⟨b,off,rfl,hb,hc⟩:=hrd.2 hp'
  exact⟨b,off,rfl,.inr rfl,hc⟩
 exact⟨_,rfl,_,ρ',S.trans S1,K,E1,.d hd⟩
end
theorem batch_most {a:Ag} (hk:a.kept≠[]):1≤mostB a (min a.kept.length 64)∧mostB a (min a.kept.length 64)≤a.kept.length∧mostB a (min a.kept.length 64)≤64:=by
 have h0:1≤a.kept.length:=by
  rcases Nat.eq_zero_or_pos a.kept.length with h|h
  ·exact absurd (List.eq_nil_of_length_eq_zero h) hk
  ·exact h
 have h1:=mostB_le a (min a.kept.length 64)
 exact⟨mostB_pos a _ (by omega),by omega,by omega⟩
theorem readS_state {s:Rs} (h:(readS s).2.1=0):(readS s).2.2.2=0:=by
 unfold readS at h ⊢
 simp only at h ⊢
 split
 ·rename_i h1
  rw[if_pos h1] at h
  exact absurd h h1
 ·rename_i h1
  have h1:(labsS (countS (txtS s 64).2 8).1 [] (countS (txtS s 64).2 8).2).2.2=0:=by
   rcases Nat.eq_zero_or_pos (labsS (countS (txtS s 64).2 8).1 [] (countS (txtS s 64).2 8).2).2.2 with z|z
   ·exact z
   ·exact absurd (by omega) h1
  split
  ·exact h1
  ·exact h1
theorem evS_okz {l:List Evt} {s2:Rs}:∀ (n:Nat) (acc:List Evt) (s:Rs),s.2=0→evS n acc s=(.ok l,s2)→s2.2=0
 |0,acc,s,h0,h=>by
  injection h with h1 h2
  subst h2
  exact h0
 |n+1,acc,s,h0,h=>by
  rw[evS] at h
  by_cases hr:(readS (intS (uintS s).2).2).2.1=0
  ·simp only[if_neg (show ¬(readS (intS (uintS s).2).2).2.1≠0 from fun q=>q hr)] at h
   exact evS_okz n _ _ (readS_state hr) h
  ·simp only[if_pos hr] at h
   cases h
theorem eventsS_okz {l:List Evt} {s s2:Rs} (h:eventsS s=(.ok l,s2)):s2.2=0:=by
 unfold eventsS at h
 by_cases hc:(countS s 64).2.2=0
 ·rw[if_neg (fun q=>q hc)] at h
  exact evS_okz _ _ _ hc h
 ·rw[if_pos hc] at h
  cases h
theorem bq_ne {x p:Nat} (h:x≠p):Nat.beq x p=false:=by
 cases hb:Nat.beq x p with
 |false=>rfl
 |true=>exact absurd (Nat.eq_of_beq_eq_true hb) h
theorem vbL_no {s:Rs} {p:Nat}:∀ {xs:List Nat} {i:Nat},p∉xs→vbL xs i s p=0
 |[],_,_=>rfl
 |x::xs,i,h=>by
  have h1:Nat.beq x p=false:=bq_ne fun e=>h (e ▸ List.mem_cons_self ..)
  rw[vbL,h1]
  exact vbL_no fun q=>h (List.mem_cons_of_mem _ q)
theorem vbL_app {s:Rs} {j p:Nat}:∀ {xs:List Nat} {i:Nat},vbL (xs++[j]) i s p=if p∈xs then vbL xs i s p else if p=j then vlS (i+xs.length) s else 0
 |[],i=>by
  show cond (Nat.beq j p) (vlS i s) 0=_
  rw[if_neg (by simp)]
  by_cases h:p=j
  ·rw[if_pos h,h,Nat.beq_refl];rfl
  ·rw[if_neg h,bq_ne fun e=>h e.symm];rfl
 |x::xs,i=>by
  show cond (Nat.beq x p) (vlS i s) (vbL (xs++[j]) (i+1) s p)=_
  by_cases h:x=p
  ·rw[if_pos (h ▸ List.mem_cons_self ..),h,Nat.beq_refl]
   rw[vbL,Nat.beq_refl];rfl
  ·have h1:Nat.beq x p=false:=bq_ne h
   rw[h1,vbL_app,vbL,h1]
   by_cases hp:p∈xs
   ·rw[if_pos hp,if_pos (List.mem_cons_of_mem _ hp)]
   ·rw[if_neg hp,if_neg (fun q=>(List.mem_cons.1 q).elim (fun e=>h e.symm) hp),List.length_cons,show i+1+xs.length=i+(xs.length+1) by omega];rfl
theorem idx_new:∀ k≤8,∀ i<6,(idxK k)[i]?.getD 0∉(idxK k).take i:=by decide
theorem idx_len:∀ k≤8,(idxK k).length≤6:=by decide
theorem vb_next {k i j:Nat} (h8:k≤8) (hj:(idxK k)[i]?=some j) (s:Rs) (p:Nat):vb k (i+1) s p=if p=j then vlS i s else vb k i s p:=by
 have hi:=(List.getElem?_eq_some_iff.1 hj).1
 have hn:=idx_new k h8 i (by have:=idx_len k h8;omega)
 rw[hj] at hn
 have hn:j∉(idxK k).take i:=hn
 have hl:((idxK k).take i).length=i:=by rw[List.length_take];omega
 unfold vb
 rw[List.take_add_one,hj]
 show vbL (_++[j]) 0 s p=_
 rw[vbL_app,hl,Nat.zero_add]
 by_cases hp:p∈(idxK k).take i
 ·rw[if_pos hp,if_neg (fun e=>hn (by rw[←e];exact hp))]
 ·rw[if_neg hp,vbL_no hp]
abbrev frV (k:Nat) (V:Nat→Int) (x y z u:D):List AV:=[iA k,iA (V 1),iA (V 2),iA (V 3),iA (V 4),iA (V 5),iA (V 6),iA (V 7),iA (V 8),iA (V 9),.d x,.d y,.d z,.d u]
abbrev frW (k:Nat) (V:Nat→Int) (x y z u:D):List D:=[iD k,iD (V 1),iD (V 2),iD (V 3),iD (V 4),iD (V 5),iD (V 6),iD (V 7),iD (V 8),iD (V 9),x,y,z,u]
abbrev frX (k:Nat) (V:Nat→Int) (ev:List Evt) (sr:Ser) (d:Bt):Fr:=⟨k,V 1,V 2,V 3,V 4,V 5,V 6,V 7,V 8,V 9,ev,sr,d⟩
theorem numberV_sat (k:Nat) (V:Nat→Int) (j:Nat) (h1:1≤j) (h9:j≤9):Sat Tryz.prog 71 [.ptr 0 0,u8A (ltrN j)] [.cells (frV k V nilV (tD []) nilV nilV)] (.ptr 0 j) [.cells (frV k V nilV (tD []) nilV nilV)]:=by
 have hj:j=1∨j=2∨j=3∨j=4∨j=5∨j=6∨j=7∨j=8∨j=9:=by omega
 rcases hj with rfl|rfl|rfl|rfl|rfl|rfl|rfl|rfl|rfl
 all_goals
  refine Vq Tryz.func71 rfl rfl ?_
  conv=>whnf
  iterate 10
   repeat' first|exact T0|(first|refine Yd fun _=>?_|refine Ye fun _=>?_|refine Yg ?_);conv=>whnf|(refine Ya ?_ ?_<;>intro _<;>conv=>whnf)
   all_goals try (refine Or.inl ?_;conv=>whnf)
  all_goals refine⟨[],?_⟩
  repeat any_goals first|exact T0|exact rfl|exact Yr|refine Ya ?_ ?_
  all_goals conv=>whnf
theorem tailP_num {k:Nat} (h5:k≠5) (h8:k≠8) (s s1:Rs):tailP k s s1=finP (frS k (idxK k).length s [] ([],[]) []) s1:=by
 unfold tailP
 split
 ·exact absurd rfl h5
 ·exact absurd rfl h8
 ·rfl
theorem shR_num {k:Nat} (h5:k≠5) (h8:k≠8) (f:Fr):shR k (f,0)=nilR f:=by
 unfold shR
 rw[if_neg (by simp)]
 split
 ·exact absurd rfl h5
 ·exact absurd rfl h8
 ·rfl
abbrev DS:=Nat × Nat × Rs × AObj
def InA (k:Nat) (s1:Rs) (x:DS):Prop:=x.1<(hasT k).length∧x.1≤(idxK k).length∧x.2.1=0∧x.2.2.1=itS x.1 s1∧(itS x.1 s1).2=0∧x.2.2.2=.cells (frV k (vb k x.1 s1) nilV (tD []) nilV nilV)
def InB (k:Nat) (s1:Rs) (x:DS):Prop:=x.2.1≠0∧parseK k s1=(frO,x.2.1)∧x.2.2.2=.dead
def InC (k:Nat) (s1:Rs) (x:DS):Prop:=x.1=(hasT k).length∧x.2.1=0∧∃ (V:Nat→Int) (ev:List Evt) (sr:Ser) (d:Bt) (y z u v:D),x.2.2.2=.cells (frV k V y z u v)∧parseK k s1=finP (frX k V ev sr d) x.2.2.1∧shR k (frX k V ev sr d,0)=frW k V y z u v∧FrOk (frX k V ev sr d)∧nilLe (frW k V y z u v) (frR (frX k V ev sr d))∧(y=nilV∧z=tD []∧u=nilV∧v=nilV∨y=.sl 4 (ev.map evR)∧z=tD []∧u=nilV∧v=nilV∨y=nilV∧z=tD sr.1∧u=.sl 2 (sr.2.map labR)∧v=bsD d)
def InS (k:Nat) (s1:Rs) (x:DS):Prop:=k=8∧x.1=2∧x.2.1=0∧(itS 1 s1).2=0∧(readS (itS 1 s1)).2.1=0∧x.2.2.1=(readS (itS 1 s1)).2.2∧x.2.2.2=.cells (frV 8 (vb 8 1 s1) nilV (tD (readS (itS 1 s1)).1.1) (.sl 2 ((readS (itS 1 s1)).1.2.map labR)) nilV)
def InD (k:Nat) (s1:Rs) (x:DS):Prop:=x.1≤(hasT k).length∧x.2.2.1.1.length≤65536∧(InA k s1 x∨InB k s1 x∨InC k s1 x∨InS k s1 x)
theorem has_lens:∀ k≤8,(hasT k).length=(idxK k).length+(if k=5 then 1 else if k=8 then 2 else 0):=by decide
theorem inD_num {k i:Nat} {s1:Rs} (h8:k≤8) (hi:i≤(idxK k).length) (hl:(itS i s1).1.length≤65536) (h0:(itS i s1).2=0):InD k s1 (i,0,itS i s1,.cells (frV k (vb k i s1) nilV (tD []) nilV nilV)):=by
 have hh:=has_lens k h8
 refine⟨by show i≤_;omega,hl,?_⟩
 by_cases hlt:i<(hasT k).length
 ·exact .inl ⟨hlt,hi,rfl,rfl,h0,rfl⟩
 ·have h5:k≠5:=fun e=>by rw[if_pos e] at hh;omega
  have h8':k≠8:=fun e=>by rw[if_neg h5,if_pos e] at hh;omega
  have him:i=(idxK k).length:=by rw[if_neg h5,if_neg h8'] at hh;omega
  refine .inr (.inr (.inl ⟨by show i=_;omega,rfl,vb k i s1,[],([],[]),[],_,_,_,_,rfl,?_,shR_num h5 h8' _,frS_ok k i s1 h8 [] (by decide) (fun x hx=>by cases hx) (by decide),by repeat' (first|exact trivial|refine And.intro ?_ ?_|exact .inl rfl|exact .inr ⟨rfl,_,rfl⟩),.inl ⟨rfl,rfl,rfl,rfl⟩⟩))
  rw[parseK_go (by rw[←him];exact h0),tailP_num h5 h8',←him]
  rfl
theorem inD_err {k i e:Nat} {s1 s:Rs} (hi:i≤(hasT k).length) (hl:s.1.length≤65536) (he:e≠0) (hp:parseK k s1=(frO,e)):InD k s1 (i,e,s,.dead):=⟨hi,hl,.inr (.inl ⟨he,hp,rfl⟩)⟩
set_option maxHeartbeats 32000000 in
theorem rDecodeK (l:Bt) (hl:l.length≤65536) (ho:openErr l=0) (k:Nat) (h1:1≤k) (h8:k≤8) (s1:Rs) (hu:uintS (openBody l,0)=(k,s1)) (hs:s1.2=0):Sat Tryz.prog 76 [.d (bsD l)] [] (outP k (parseK k s1)) []:=by
 have d0:decide (((l.map bR).length:Int)>65536)=false:=decide_eq_false (by rw[List.length_map];omega)
 have o1:=rOpen_sat l (by omega)
 rw[ho] at o1
 have hob:=Nat.le_trans (openBody_len l) hl
 have w1:=rNew_sat (openBody l)
 have u1:=rrUint_sat (openBody l,0) (by show (openBody l).length≤_;omega)
 have hsl:s1.1.length≤65536:=by have:=uintS_len (openBody l,0);rw[hu] at this;exact Nat.le_trans this hob
 rw[hu] at u1
 have hil:=itS_len s1
 have dse:=ne0' hs
 have hwk:IntKind.i64.wrap (k:Int)=k:=wi (by omega) (by omega)
 have h0:=has_sat k h1 h8
 rw[←hwk] at h0
 have dk1:decide ((k:Int)<1)=false:=decide_eq_false (by omega)
 have dk8:decide ((k:Int)>8)=false:=decide_eq_false (by omega)
 have hE:∀ e:Nat,e≠0→outP k (frO,e)=.tup [.d (.agg (nilR frO)),iA e]:=fun e h=>outP_err h
 have hsz:(⟨(hasT k).toArray⟩:ByteArray).size=(hasT k).length:=tsz _
 have hhl:=has_lens k h8
 have hm6:=idx_len k h8
 refine Vq Tryz.func76 rfl rfl ?_
 conv=>whnf
 iterate 8
  repeat' first|exact T0|(first|refine Yd fun _=>?_|refine Ye fun _=>?_|refine Yg ?_|refine Yk (o1.pu rfl rfl) ?_|refine Yk (w1.nw rfl) ?_|refine Yk (u1.at1 1 rfl rfl rfl) ?_|refine Yk (h0.pu rfl rfl) ?_);conv=>whnf|(refine Ya ?_ ?_<;>intro _<;>conv=>whnf)
  all_goals try (refine Or.inl ?_;conv=>whnf)
 all_goals try exact (bnl ‹_› d0).elim
 all_goals try exact (bnl ‹_› dse).elim
 all_goals try exact (bnl ‹_› dk1).elim
 all_goals try exact (bnl ‹_› dk8).elim
 refine⟨DS,InD k s1,fun x=>([(10,iA x.1),(9,.d (tD (hasT k))),(8,.ptr 2 0),(6,.ptr 1 0),(5,iA x.2.1),(2,.ptr 0 0)],[.cells (frV 0 (fun _=>0) nilV (tD []) nilV nilV),rrO x.2.2.1,x.2.2.2]),fun x=>(hasT k).length-x.1,⟨(0,0,itS 0 s1,.cells (frV k (vb k 0 s1) nilV (tD []) nilV nilV)),inD_num h8 (Nat.zero_le _) (Nat.le_trans (hil 0) hsl) hs,?_⟩,?_⟩
 ·all_goals refine⟨[],?_⟩
  repeat any_goals first|exact T0|exact rfl|exact Yr|refine Ya ?_ ?_
  all_goals conv=>whnf
  all_goals exact congrArg (fun z=>iA z) hwk
 rintro⟨i,e,s,o⟩ ⟨hi,hsn,hI⟩
 have hi:i≤(hasT k).length:=hi
 have hsn:s.1.length≤65536:=hsn
 rcases hI with⟨hlt,him,he,hs',hs0,ho'⟩|⟨he,hp,ho'⟩|⟨hiL,he,V,ev,sr,dt,y,z,u,v,ho',hp,hsh,hfok,hle,hform⟩|⟨hk8,hi2,he,ht0,hr0,hs',ho'⟩
 ·dsimp only at hlt him he hs' hs0 ho'
  subst e o
  have d1:decide ((i:Int)<((⟨(hasT k).toArray⟩:ByteArray).size:Nat))=true:=decide_eq_true (by rw[hsz];omega)
  by_cases himl:i<(idxK k).length
  ·obtain⟨j,hj,hz1,hj1,hj9⟩:=has_at h8 hm6 himl
   obtain⟨qz,ez⟩:=ix_get hz1
   have hnx:=vb_next h8 hj s1
   have hU:vlS i s1=IntKind.i64.wrap ((uintS s).1:Int):=by rw[hs'];rfl
   rw[hU] at hnx
   have u2:=rrUint_sat s (by omega)
   have hnl:=uintS_len s
   have eS:(uintS s).2=itS (i+1) s1:=by rw[hs'];rfl
   have hN:=inD_num (i:=i+1) (s1:=s1) h8 himl (by rw[←eS];omega)
   have hB:=parseK_err (k:=k) (s:=s1) (i+1) himl
   rw[←eS] at hN hB
   have n1:=numberV_sat k (vb k i s1) j hj1 hj9
   obtain⟨V,hV⟩:∃ V,vb k i s1=V:=⟨_,rfl⟩
   obtain⟨V',hV'⟩:∃ V,vb k (i+1) s1=V:=⟨_,rfl⟩
   rw[hV'] at hN
   rw[hV] at n1 ⊢
   have hnx:∀ p,V' p=if p=j then IntKind.i64.wrap ((uintS s).1:Int) else V p:=fun p=>by
    have:=hnx p
    rw[←hV,←hV'];exact this
   clear hU eS hV hV' hs0
   generalize (uintS s).1=U at *
   generalize (uintS s).2=S at *
   have hjj:j=1∨j=2∨j=3∨j=4∨j=5∨j=6∨j=7∨j=8∨j=9:=by omega
   conv=>whnf
   rcases hjj with rfl|rfl|rfl|rfl|rfl|rfl|rfl|rfl|rfl
   all_goals
    iterate 10
     repeat' first|exact T0|(first|(refine⟨i,qz,rfl,?_⟩;rw[ez])|refine Yd fun _=>?_|refine Ye fun _=>?_|refine Yg ?_|refine Yk (n1.at1 2 rfl rfl rfl) ?_|refine Yk (u2.at1 1 rfl rfl rfl) ?_);conv=>whnf|(refine Ya ?_ ?_<;>intro _<;>conv=>whnf)
     all_goals try (refine Or.inl ?_;conv=>whnf)
    all_goals try exact (bnl d1 ‹_›).elim
    by_cases hz:S.2=0
    ·refine⟨_,hN hz,show (hasT k).length-(i+1)<(hasT k).length-i by omega,?_⟩
     all_goals refine⟨[],?_⟩
     repeat any_goals first|exact T0|exact rfl|exact Yr|refine Ya ?_ ?_
     all_goals conv=>whnf
     ·exact wk1 (by omega)
     all_goals first|exact congrArg (fun z:Nat=>iA z) hz|exact congrArg (fun z:Int=>iA z) (by rw[hnx];rfl)
    ·refine⟨(i+1,S.2,S,.dead),inD_err (by omega) (by omega) hz (hB hz),show (hasT k).length-(i+1)<(hasT k).length-i by omega,?_⟩
     all_goals refine⟨[],?_⟩
     repeat any_goals first|exact T0|exact rfl|exact Yr|refine Ya ?_ ?_
     all_goals conv=>whnf
     exact wk1 (by omega)
  have hcs:k=5∧i=3∨k=8∧i=1:=by
   by_cases h5:k=5
   ·subst h5
    have h4:(idxK 5).length=3:=rfl
    exact .inl ⟨rfl,by omega⟩
   ·by_cases h8:k=8
    ·subst h8
     have h4:(idxK 8).length=1:=rfl
     exact .inr ⟨rfl,by omega⟩
    ·rw[if_neg h5,if_neg h8] at hhl;omega
  obtain⟨V,hV⟩:∃ V,vb k i s1=V:=⟨_,rfl⟩
  have hpg:parseK k s1=tailP k s1 s:=by
   rw[hs']
   rcases hcs with⟨rfl,rfl⟩|⟨rfl,rfl⟩<;>exact parseK_go hs0
  rw[hV]
  rw[←hs'] at hs0
  rcases hcs with⟨rfl,rfl⟩|⟨rfl,rfl⟩
  ·by_cases hcn:(countS s 64).2.2=0
   case neg=>
    have ev1:=rEvents_cnt s (by omega) hcn
    have hnl:=countS_len s 64
    have hp:parseK 5 s1=(frO,(countS s 64).2.2):=by
     rw[hpg];unfold tailP eventsS
     simp only[if_pos hcn]
    generalize (countS s 64).2=S at *
    conv=>whnf
    iterate 10
     repeat' first|exact T0|(first|refine⟨3,(by decide),rfl,?_⟩|refine Yd fun _=>?_|refine Ye fun _=>?_|refine Yg ?_|refine Yk (ev1.at1 1 rfl rfl rfl) ?_);conv=>whnf|(refine Ya ?_ ?_<;>intro _<;>conv=>whnf)
     all_goals try (refine Or.inl ?_;conv=>whnf)
    all_goals try exact (bnl d1 ‹_›).elim
    refine⟨(4,S.2,S,.dead),inD_err (by decide) (by omega) hcn hp,show 4-4<4-3 by decide,?_⟩
    all_goals refine⟨[],?_⟩
    repeat any_goals first|exact T0|exact rfl|exact Yr|refine Ya ?_ ?_
    all_goals conv=>whnf
   cases hev:eventsS s with
   |mk q s4=>
   have hnl:=eventsS_len s
   rw[hev] at hnl
   have hnl:s4.1.length≤s.1.length:=hnl
   cases q with
   |error e4=>
    have hne4:=eventsS_err hev
    have ev1:=rEvents_no s e4 s4 (by omega) hcn hev
    have hp:parseK 5 s1=(frO,e4):=by rw[hpg];unfold tailP;simp only[hev]
    conv=>whnf
    iterate 10
     repeat' first|exact T0|(first|refine⟨3,(by decide),rfl,?_⟩|refine Yd fun _=>?_|refine Ye fun _=>?_|refine Yg ?_|refine Yk (ev1.at1 1 rfl rfl rfl) ?_);conv=>whnf|(refine Ya ?_ ?_<;>intro _<;>conv=>whnf)
     all_goals try (refine Or.inl ?_;conv=>whnf)
    all_goals try exact (bnl d1 ‹_›).elim
    refine⟨(4,e4,s4,.dead),inD_err (by decide) (by omega) hne4 hp,show 4-4<4-3 by decide,?_⟩
    all_goals refine⟨[],?_⟩
    repeat any_goals first|exact T0|exact rfl|exact Yr|refine Ya ?_ ?_
    all_goals conv=>whnf
   |ok ls=>
    have hz4:=eventsS_okz hev
    obtain⟨g1,g2⟩:=eventsS_ok hev
    have ev1:=rEvents_ok s ls s4 (by omega) hev hz4
    have hp:parseK 5 s1=finP (frX 5 V ls ([],[]) []) s4:=by rw[hpg,←hV];unfold tailP;simp only[hev];rfl
    have hfok:FrOk (frX 5 V ls ([],[]) []):=by rw[←hV];exact frS_ok 5 3 s1 (by decide) [] (by omega) (fun x hx=>by have:=g2 x hx;omega) (by decide)
    conv=>whnf
    iterate 10
     repeat' first|exact T0|(first|refine⟨3,(by decide),rfl,?_⟩|refine Yd fun _=>?_|refine Ye fun _=>?_|refine Yg ?_|refine Yk (CallOK.frzT (ev1.at1 1 rfl rfl rfl)) ?_);conv=>whnf|(refine Ya ?_ ?_<;>intro _<;>conv=>whnf)
     all_goals try (refine Or.inl ?_;conv=>whnf)
    all_goals try exact (bnl d1 ‹_›).elim
    refine⟨(4,0,s4,.cells (frV 5 V (.sl 4 (ls.map evR)) (tD []) nilV nilV)),⟨Nat.le_refl 4,by show s4.1.length≤_;omega,.inr (.inr (.inl ⟨rfl,rfl,V,ls,([],[]),[],_,_,_,_,rfl,hp,if_neg (fun h=>h rfl),hfok,by repeat' (first|exact trivial|refine And.intro ?_ ?_|exact .inl rfl|exact .inr ⟨rfl,_,rfl⟩),.inr (.inl ⟨rfl,rfl,rfl,rfl⟩)⟩))⟩,show 4-4<4-3 by decide,?_⟩
    all_goals refine⟨[],?_⟩
    repeat any_goals first|exact T0|exact rfl|exact Yr|refine Ya ?_ ?_
    all_goals conv=>whnf
  ·have rd:=rRead_sat s (by omega)
   have hnl:=readS_len s
   by_cases hr:(readS s).2.1=0
   ·conv=>whnf
    iterate 10
     repeat' first|exact T0|(first|refine⟨1,(by decide),rfl,?_⟩|refine Yd fun _=>?_|refine Ye fun _=>?_|refine Yg ?_|refine Yk (rd.at1 1 rfl rfl rfl) ?_);conv=>whnf|(refine Ya ?_ ?_<;>intro _<;>conv=>whnf)
     all_goals try (refine Or.inl ?_;conv=>whnf)
    all_goals try exact (bnl d1 ‹_›).elim
    refine⟨(2,0,(readS s).2.2,.cells (frV 8 V nilV (tD (readS s).1.1) (.sl 2 ((readS s).1.2.map labR)) nilV)),⟨(by decide:2≤(hasT 8).length),by show (readS s).2.2.1.length≤_;omega,.inr (.inr (.inr ⟨rfl,rfl,rfl,hs' ▸ hs0,hs' ▸ hr,by show _=_;rw[←hs'],by show _=_;rw[←hs',←hV]⟩))⟩,show 3-2<3-1 by decide,?_⟩
    all_goals refine⟨[],?_⟩
    repeat any_goals first|exact T0|exact rfl|exact Yr|refine Ya ?_ ?_
    all_goals conv=>whnf
    exact congrArg (fun z:Nat=>iA z) hr
   ·have hp:parseK 8 s1=(frO,(readS s).2.1):=hpg.trans (if_pos hr)
    conv=>whnf
    iterate 10
     repeat' first|exact T0|(first|refine⟨1,(by decide),rfl,?_⟩|refine Yd fun _=>?_|refine Ye fun _=>?_|refine Yg ?_|refine Yk (rd.at1 1 rfl rfl rfl) ?_);conv=>whnf|(refine Ya ?_ ?_<;>intro _<;>conv=>whnf)
     all_goals try (refine Or.inl ?_;conv=>whnf)
    all_goals try exact (bnl d1 ‹_›).elim
    refine⟨(2,(readS s).2.1,(readS s).2.2,.dead),inD_err (by decide) (by omega) hr hp,show 3-2<3-1 by decide,?_⟩
    all_goals refine⟨[],?_⟩
    repeat any_goals first|exact T0|exact rfl|exact Yr|refine Ya ?_ ?_
    all_goals conv=>whnf
 ·dsimp only at he hp ho'
  subst o
  have d1:((e:Int) == 0)=false:=by rw[beq_eq_false_iff_ne];omega
  have d2:=ne0 he
  rw[hp,hE _ he]
  conv=>whnf
  iterate 10
   repeat' first|exact T0|(first|refine Yd fun _=>?_|refine Ye fun _=>?_|refine Yg ?_);conv=>whnf|(refine Ya ?_ ?_<;>intro _<;>conv=>whnf)
   all_goals try (refine Or.inl ?_;conv=>whnf)
  all_goals try exact (bnl ‹_› d1).elim
  all_goals try exact (bnl d2 ‹_›).elim
  all_goals refine⟨[],?_⟩
  repeat any_goals first|exact T0|exact rfl|exact Yr|refine Ya ?_ ?_
  all_goals conv=>whnf
 ·dsimp only at hiL he ho' hp
  subst e o
  have d1:decide ((i:Int)<((⟨(hasT k).toArray⟩:ByteArray).size:Nat))=false:=decide_eq_false (by rw[hsz];omega)
  have r1:=rRight_pre (frX k V ev sr dt) hfok hle
  have e1:=rrEnd_sat s
  rcases hform with⟨rfl,rfl,rfl,rfl⟩|⟨rfl,rfl,rfl,rfl⟩|⟨rfl,rfl,rfl,rfl⟩
  all_goals
   rw[hp]
   by_cases hen:(endS s).2=0
   case neg=>
    rw[finP_end hen,hE _ hen]
    have d3:(((endS s).2:Int) == 0)=false:=by rw[beq_eq_false_iff_ne];omega
    have d4:=ne0 hen
    conv=>whnf
    iterate 10
     repeat' first|exact T0|(first|refine Yd fun _=>?_|refine Ye fun _=>?_|refine Yg ?_|refine Yk (e1.at1 1 rfl rfl rfl) ?_);conv=>whnf|(refine Ya ?_ ?_<;>intro _<;>conv=>whnf)
     all_goals try (refine Or.inl ?_;conv=>whnf)
    all_goals try exact (bnl ‹_› d1).elim
    all_goals try exact (bnl ‹_› d3).elim
    all_goals try exact (bnl d4 ‹_›).elim
    all_goals refine⟨[],?_⟩
    repeat any_goals first|exact T0|exact rfl|exact Yr|refine Ya ?_ ?_
    all_goals conv=>whnf
   have d3:(((endS s).2:Int) == 0)=true:=by rw[hen];rfl
   have d4:=ne0' hen
   cases hr:rightF (frX k V ev sr dt) with
   |false=>
    rw[finP_no hen hr,hE 10 (by decide)]
    rw[hr] at r1
    conv=>whnf
    iterate 12
     repeat' first|exact T0|(first|refine Yd fun _=>?_|refine Ye fun _=>?_|refine Yg ?_|refine Yk (e1.at1 1 rfl rfl rfl) ?_|refine Yk (r1.pu rfl rfl) ?_);conv=>whnf|(refine Ya ?_ ?_<;>intro _<;>conv=>whnf)
     all_goals try (refine Or.inl ?_;conv=>whnf)
    all_goals try exact (bnl ‹_› d1).elim
    all_goals try exact (bnl d3 ‹_›).elim
    all_goals refine⟨[],?_⟩
    repeat any_goals first|exact T0|exact rfl|exact Yr|refine Ya ?_ ?_
    all_goals conv=>whnf
   |true=>
    rw[finP_ok hen hr,show outP k (frX k V ev sr dt,0)=.tup [.d (.agg (frW k V _ _ _ _)),iA 0] from by rw[outP,hsh];rfl]
    rw[hr] at r1
    conv=>whnf
    iterate 12
     repeat' first|exact T0|(first|refine Yd fun _=>?_|refine Ye fun _=>?_|refine Yg ?_|refine Yk (e1.at1 1 rfl rfl rfl) ?_|refine Yk (r1.pu rfl rfl) ?_);conv=>whnf|(refine Ya ?_ ?_<;>intro _<;>conv=>whnf)
     all_goals try (refine Or.inl ?_;conv=>whnf)
    all_goals try exact (bnl ‹_› d1).elim
    all_goals try exact (bnl d3 ‹_›).elim
    all_goals try exact (bnl ‹_› d4).elim
    all_goals refine⟨[],?_⟩
    repeat any_goals first|exact T0|exact rfl|exact Yr|refine Ya ?_ ?_
    all_goals conv=>whnf
 ·dsimp only at hk8 hi2 he hs' ho'
  subst k i e o
  have hlb:=readS_labs (itS 1 s1)
  have tx:=rrText_sat s 4096 ⟨by decide,by decide⟩ (by omega)
  have htl:=txtS_txt s 4096
  have hnl:=txtS_len s 4096
  have bs:=fun (L:List AObj) (ty n:Nat) (x:Operand)=>Does.frz (bytes_s (L:=L) (ty:=ty) (n:=n) (x:=x) (txtS s 4096).1 (by omega))
  have hp0:parseK 8 s1=if (txtS s 4096).2.2≠0 then (frO,(txtS s 4096).2.2) else finP (frX 8 (vb 8 1 s1) [] (readS (itS 1 s1)).1 (txtS s 4096).1) (txtS s 4096).2:=by
   rw[parseK_go (k:=8) (s:=s1) ht0,hs']
   exact if_neg (fun q=>q hr0)
  have hfok:FrOk (frX 8 (vb 8 1 s1) [] (readS (itS 1 s1)).1 (txtS s 4096).1):=frS_ok 8 1 s1 (by decide) _ (by decide) (fun x hx=>by cases hx) (by omega)
  clear hs'
  generalize vb 8 1 s1=V at *
  generalize (readS (itS 1 s1)).1=sr at *
  obtain⟨nm,lb⟩:=sr
  generalize txtS s 4096=T at *
  obtain⟨dt,S⟩:=T
  simp only at tx htl hnl bs hp0 hfok
  by_cases h3:S.2=0
  ·rw[if_neg (fun q=>q h3)] at hp0
   conv=>whnf
   iterate 10
    repeat' first|exact T0|(first|refine⟨2,(by decide),rfl,?_⟩|refine Yd fun _=>?_|refine Ye fun _=>?_|refine Yg ?_|refine Yk (tx.at1 1 rfl rfl rfl) ?_|refine Yk (bs _ _ _ _) ?_);conv=>whnf|(refine Ya ?_ ?_<;>intro _<;>conv=>whnf)
    all_goals try (refine Or.inl ?_;conv=>whnf)
   refine⟨(3,0,S,.cells (frV 8 V nilV (tD nm) (.sl 2 (lb.map labR)) (bsD dt))),⟨Nat.le_refl 3,by show S.1.length≤_;omega,.inr (.inr (.inl ⟨rfl,rfl,V,[],(nm,lb),dt,_,_,_,_,rfl,hp0,if_neg (fun h=>h rfl),hfok,by repeat' (first|exact trivial|refine And.intro ?_ ?_|exact .inl rfl|exact .inr ⟨rfl,_,rfl⟩),.inr (.inr ⟨rfl,rfl,rfl,rfl⟩)⟩))⟩,show 3-3<3-2 by decide,?_⟩
   all_goals refine⟨[],?_⟩
   repeat any_goals first|exact T0|exact rfl|exact Yr|refine Ya ?_ ?_
   all_goals conv=>whnf
   exact congrArg (fun z:Nat=>iA z) h3
  ·rw[if_pos h3] at hp0
   conv=>whnf
   iterate 10
    repeat' first|exact T0|(first|refine⟨2,(by decide),rfl,?_⟩|refine Yd fun _=>?_|refine Ye fun _=>?_|refine Yg ?_|refine Yk (tx.at1 1 rfl rfl rfl) ?_|refine Yk (bs _ _ _ _) ?_);conv=>whnf|(refine Ya ?_ ?_<;>intro _<;>conv=>whnf)
    all_goals try (refine Or.inl ?_;conv=>whnf)
   refine⟨(3,S.2,S,.dead),inD_err (by decide) (by omega) h3 hp0,show 3-3<3-2 by decide,?_⟩
   all_goals refine⟨[],?_⟩
   repeat any_goals first|exact T0|exact rfl|exact Yr|refine Ya ?_ ?_
   all_goals conv=>whnf
theorem rDecode_long (l:Bt) (hl:65536<l.length):Sat Tryz.prog 76 [.d (bsD l)] [] (.tup [.d (.agg (nilR frO)),iA 17]) []:=by
 have d1:decide (((l.map bR).length:Int)>65536)=true:=decide_eq_true (by rw[List.length_map];omega)
 refine Vq Tryz.func76 rfl rfl ?_
 conv=>whnf
 iterate 5
  repeat' first|exact T0|(first|refine Yd fun _=>?_|refine Ye fun _=>?_|refine Yg ?_);conv=>whnf|(refine Ya ?_ ?_<;>intro _<;>conv=>whnf)
  all_goals try (refine Or.inl ?_;conv=>whnf)
 all_goals try exact (bnl d1 ‹_›).elim
 all_goals refine⟨[],?_⟩
 repeat any_goals first|exact T0|exact rfl|exact Yr|refine Ya ?_ ?_
 all_goals conv=>whnf
theorem rDecode_shut (l:Bt) (hl:l.length≤65536) (h:openErr l≠0):Sat Tryz.prog 76 [.d (bsD l)] [] (.tup [.d (.agg (nilR frO)),iA (openErr l)]) []:=by
 have d1:decide (((l.map bR).length:Int)>65536)=false:=decide_eq_false (by rw[List.length_map];omega)
 have d2:(openErr l != 0)=true:=by rw[bne_iff_ne];exact h
 have o1:=rOpen_sat l (by omega)
 refine Vq Tryz.func76 rfl rfl ?_
 conv=>whnf
 iterate 5
  repeat' first|exact T0|(first|refine Yd fun _=>?_|refine Ye fun _=>?_|refine Yg ?_|refine Yk (o1.pu rfl rfl) ?_);conv=>whnf|(refine Ya ?_ ?_<;>intro _<;>conv=>whnf)
  all_goals try (refine Or.inl ?_;conv=>whnf)
 all_goals try exact (bnl ‹_› d1).elim
 all_goals try exact (bnl d2 ‹_›).elim
 all_goals refine⟨[],?_⟩
 repeat any_goals first|exact T0|exact rfl|exact Yr|refine Ya ?_ ?_
 all_goals conv=>whnf
theorem rDecode_kerr (l:Bt) (hl:l.length≤65536) (ho:openErr l=0) (h:(uintS (openBody l,0)).2.2≠0):Sat Tryz.prog 76 [.d (bsD l)] [] (.tup [.d (.agg (nilR frO)),iA (uintS (openBody l,0)).2.2]) []:=by
 have d1:decide (((l.map bR).length:Int)>65536)=false:=decide_eq_false (by rw[List.length_map];omega)
 have o1:=rOpen_sat l (by omega)
 rw[ho] at o1
 have w1:=rNew_sat (openBody l)
 have u1:=rrUint_sat (openBody l,0) (by have:=openBody_len l;show (openBody l).length≤_;omega)
 have d2:=ne0 h
 refine Vq Tryz.func76 rfl rfl ?_
 conv=>whnf
 iterate 8
  repeat' first|exact T0|(first|refine Yd fun _=>?_|refine Ye fun _=>?_|refine Yg ?_|refine Yk (o1.pu rfl rfl) ?_|refine Yk (w1.nw rfl) ?_|refine Yk (u1.at1 1 rfl rfl rfl) ?_);conv=>whnf|(refine Ya ?_ ?_<;>intro _<;>conv=>whnf)
  all_goals try (refine Or.inl ?_;conv=>whnf)
 all_goals try exact (bnl ‹_› d1).elim
 all_goals try exact (bnl d2 ‹_›).elim
 all_goals refine⟨[],?_⟩
 repeat any_goals first|exact T0|exact rfl|exact Yr|refine Ya ?_ ?_
 all_goals conv=>whnf
theorem rDecode_kbad (l:Bt) (hl:l.length≤65536) (ho:openErr l=0) (h0:(uintS (openBody l,0)).2.2=0) (h:(uintS (openBody l,0)).1<1∨8<(uintS (openBody l,0)).1):Sat Tryz.prog 76 [.d (bsD l)] [] (.tup [.d (.agg (nilR frO)),iA 16]) []:=by
 have d1:decide (((l.map bR).length:Int)>65536)=false:=decide_eq_false (by rw[List.length_map];omega)
 have o1:=rOpen_sat l (by omega)
 rw[ho] at o1
 have w1:=rNew_sat (openBody l)
 have u1:=rrUint_sat (openBody l,0) (by have:=openBody_len l;show (openBody l).length≤_;omega)
 have d2:=ne0' h0
 have hneg:¬(decide (((uintS (openBody l,0)).1:Int)<1)=false∧decide (((uintS (openBody l,0)).1:Int)>8)=false):=by
  rintro⟨p1,p2⟩
  have p1:=of_decide_eq_false p1
  have p2:=of_decide_eq_false p2
  omega
 generalize uintS (openBody l,0)=U at *
 refine Vq Tryz.func76 rfl rfl ?_
 conv=>whnf
 iterate 8
  repeat' first|exact T0|(first|refine Yd fun _=>?_|refine Ye fun _=>?_|refine Yg ?_|refine Yk (o1.pu rfl rfl) ?_|refine Yk (w1.nw rfl) ?_|refine Yk (u1.at1 1 rfl rfl rfl) ?_);conv=>whnf|(refine Ya ?_ ?_<;>intro _<;>conv=>whnf)
  all_goals try (refine Or.inl ?_;conv=>whnf)
 all_goals try exact (bnl ‹_› d1).elim
 all_goals try exact (bnl ‹_› d2).elim
 all_goals try exact (hneg ⟨‹_›,‹_›⟩).elim
 all_goals refine⟨[],?_⟩
 repeat any_goals first|exact T0|exact rfl|exact Yr|refine Ya ?_ ?_
 all_goals conv=>whnf
theorem rDecode_sat (l:Bt):Sat Tryz.prog 76 [.d (bsD l)] [] (.tup [.d (frD (decodeF l).1),iA (decodeF l).2]) []:=by
 unfold decodeF
 by_cases h1:65536<l.length
 ·rw[if_pos h1]
  exact (rDecode_long l h1).weakR nil_frO
 rw[if_neg h1]
 by_cases h2:openErr l=0
 case neg=>
  rw[if_pos h2]
  have:=(rDecode_shut l (by omega) h2).weakR nil_frO
  show Sat _ _ _ _ (.tup [.d (frD frO),iA (((openErr l).toNat:Nat):Int)]) _
  rw[Int.toNat_of_nonneg (openErr_nn l)]
  exact this
 rw[if_neg (fun h=>h h2)]
 unfold parseF
 by_cases h0:(uintS (openBody l,0)).2.2=0
 case neg=>
  rw[if_pos h0]
  exact (rDecode_kerr l (by omega) h2 h0).weakR nil_frO
 rw[if_neg (fun h=>h h0)]
 by_cases h3:(uintS (openBody l,0)).1<1∨8<(uintS (openBody l,0)).1
 ·rw[if_pos h3]
  exact (rDecode_kbad l (by omega) h2 h0 h3).weakR nil_frO
 rw[if_neg h3]
 obtain⟨k,s,hu⟩:∃ k s,uintS (openBody l,0)=(k,s):=⟨_,_,rfl⟩
 rw[hu] at h0 h3 ⊢
 simp only at h0 h3
 exact (rDecodeK l (by omega) h2 k (by omega) (by omega) s hu h0).weakR (shR_le k s)
end Go.Proofs.YtfbfpnfgabamfaaGreat
