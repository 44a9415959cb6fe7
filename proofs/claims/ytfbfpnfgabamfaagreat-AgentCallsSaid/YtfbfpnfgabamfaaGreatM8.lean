/- Parts CdA, LaH, LaI, LaJ, CdB, LaK, LaL, LaM, LaN, LaO, LaP, LaQ, LaR, LaX, CodeI, LaU, PaA, PaB, PaC of the proof, put together. -/
import Derived.Test.YtfbfpnfgabamfaaGreatM7
import Derived.RangeFuncNested
import Derived.RangeFuncBound
import Derived.RangeFuncCalls
import Derived.RangeFuncLeaves
import Derived.OwnWalkIn
import Derived.TacticsInMore
import Derived.LoopNIn
import Derived.LoopIn
import Derived.Lib.IndexLaws
import Derived.Recover
namespace Go.Proofs.YtfbfpnfgabamfaaGreat
set_option linter.unusedSimpArgs false
set_option linter.unusedVariables false
open Go.RowKit
set_option maxRecDepth 100000
section
variable {P:Program} {g:FuncId}
theorem Sat.ownNew1 {s0 s:Nat} {rows0 rows:List (List D)} {us0 us:List Value} {e:TypeId} (hf0:FlatVs rows0.flatten us0) (hf:FlatVs rows.flatten us) (hs:∀ r∈rows,r.length=s) (h0:0<rows.length)
  (h:∀ (w:World) (A:Option Addr) (c:Nat),rows0.length≤c→c≤maxLen→Rd w w.heap.size s0 A rows0.length us0→Calls P g #[.slice A rows0.length c] w fun x w'=>∃ v,x=.returned v∧Ow w' w.heap.size e s v rows.length us∧Below w.heap.size w w') :
  Sat P g [.d (.sl s0 rows0)] [] (.own 0) [.sl s rows]:=by
 intro F ρ w vals En hv
 obtain⟨v,rfl,hv'⟩:=hv.one_out
 cases hv' with|d hv=>
  obtain⟨A,c,rfl,h1,h2,hr⟩:=hv.sl_rd En.fb hf0
  refine (h w A c h1 h2 hr).mono ?_
  rintro x w' ⟨v,rfl,how,hb⟩
  have hlt:∀ k,blkOf v=some k→k<w'.heap.size:=fun k hk=>by
   obtain⟨g,off,cap,rfl,_,hg,_⟩:=how.open_ h0
   injection hk with hk
   subst hk
   exact hg
  have hG:w.grownBy w' none:=⟨hb.os,hb.tape,hb.output,hb.size,fun b h _=>hb.block b h⟩
  have hnone:hp ([]:List AObj) 0=none:=rfl
  obtain⟨A',c',he,g1,g2,hrd⟩:=how.form
  subst he
  have how0:Ow w' 0 0 s (.slice A' rows.length c') rows.length us:=⟨how.1,by
   rcases how.2 with h|⟨a,h,_,h'⟩|⟨g,off,cap,h,_,h'⟩
   ·exact .inl h
   ·exact .inr (.inl ⟨a,h,Nat.zero_le _,h'⟩)
   ·exact .inr (.inr ⟨g,off,cap,h,Nat.zero_le _,h'⟩)⟩
  obtain⟨S,K,E⟩:=En.new (n:=0) (o':=.sl s rows) (h:=.slice A' rows.length c') hnone hG (fun b hb'=>⟨how.lt b (by rw[←blk_own rfl];exact hb'),hlt b hb'⟩) ⟨_,how0,hf.rds,hs⟩
  have e:updF (hp []) 0 (some (.sl s rows))=hp [.sl s rows]:=by
   funext i
   match i with
   |0=>rfl
   |i+1=>rfl
  rw[e] at S E
  exact⟨_,rfl,F,_,S,K,E,.own (updF_same _ _ _)⟩
end
abbrev byD (x:UInt8):D:=.v (.int .u8 (x.toNat:Int))
abbrev bR (x:UInt8):List D:=[byD x]
abbrev bsD (l:List UInt8):D:=.sl 1 (l.map bR)
theorem bR_flats:∀ (l:List UInt8),FlatVs (l.map bR).flatten (l.map bv)
 |[]=>.nil
 |_::l=>.cons (.v _) rfl (bR_flats l)
abbrev uR (x:Nat):List D:=[.v (.int .u64 (x:Int))]
theorem uR_flats:∀ (l:List Nat),FlatVs (l.map uR).flatten (l.map u64v)
 |[]=>.nil
 |_::l=>.cons (.v _) rfl (uR_flats l)
abbrev styD (s:ByteArray):D:=.v (.string s)
theorem strR_flats:∀ (l:List ByteArray),FlatVs (l.map fun s=>[styD s]).flatten (l.map strv)
 |[]=>.nil
 |_::l=>.cons (.v _) rfl (strR_flats l)
theorem one_len {α:Type} {f:α→D} {l:List α}:∀ r∈l.map (fun x=>[f x]),r.length=1:=fun r hr=>by
 obtain⟨x,_,rfl⟩:=List.mem_map.1 hr;rfl
theorem uints_sat (l:List Nat) (hn:l.length≤65536) (hl:∀ x∈l,x<18446744073709551616) (h0:0<(encs l).length):Sat Tryz.prog 56 [.d (.sl 1 (l.map uR))] [] (.own 0) [.sl 1 ((encs l).map bR)]:=
 .ownNew1 (uR_flats l) (bR_flats (encs l)) one_len (by rw[List.length_map];exact h0) fun w A c _ _ hr=>by
  rw[List.length_map] at hr ⊢
  rw[List.length_map]
  exact uints_any A _ c l w hr hn hl
theorem ints_sat (l:List Int) (hn:l.length≤65536) (hl:∀ x∈l,in64 x) (h0:0<(encs (l.map turnN)).length):Sat Tryz.prog 58 [.d (lD l)] [] (.own 0) [.sl 1 ((encs (l.map turnN)).map bR)]:=
 .ownNew1 (lR_flats l) (bR_flats (encs (l.map turnN))) one_len (by rw[List.length_map];exact h0) fun w A c _ _ hr=>by
  rw[List.length_map] at hr ⊢
  rw[List.length_map]
  exact ints_any A _ c l w hr hn hl
theorem texts_sat (l:List ByteArray) (hn:l.length≤65536) (hl:∀ x∈l,x.size≤65536) (h0:0<(encTs l).length):Sat Tryz.prog 60 [.d (.sl 1 (l.map fun s=>[styD s]))] [] (.own 0) [.sl 1 ((encTs l).map bR)]:=
 .ownNew1 (strR_flats l) (bR_flats (encTs l)) one_len (by rw[List.length_map];exact h0) fun w A c _ _ hr=>by
  rw[List.length_map] at hr ⊢
  rw[List.length_map]
  exact texts_any A _ c 0 l w hr hn hl
theorem first_sat (l:List UInt8) (hn:l.length≤65536):Sat Tryz.prog 118 [.d (bsD l)] [] (.tup [.d (.v (.int .u64 ((dec l).1:Nat))),iA ((dec l).2.1:Nat),iA ((dec l).2.2:Nat)]) []:=
 .of_sl (bR_flats l) .nil (.tup (.cons (.d (.v _)) (.cons (.d (.v _)) (.cons (.d (.v _)) .nil)))) fun w A c _ _ hr=>by
  rw[List.length_map] at hr ⊢
  refine (first_any A _ c l w hr (by omega)).mono ?_
  rintro e w' ⟨rfl,rfl⟩
  exact⟨rfl,Below.refl _ _⟩
theorem count_sat (l:List UInt8) (most:Int) (hm:in64 most) (hn:l.length≤65536):Sat Tryz.prog 123 [.d (bsD l),iA most] [] (.tup [iA ((cnt l most).1:Nat),iA ((cnt l most).2.1:Nat),iA ((cnt l most).2.2:Nat)]) []:=
 .of_sl (bR_flats l) (.cons (.d (.v _)) .nil) (.tup (.cons (.d (.v _)) (.cons (.d (.v _)) (.cons (.d (.v _)) .nil)))) fun w A c _ _ hr=>by
  rw[List.length_map] at hr ⊢
  refine (count_any A _ c l most w hr (by omega) hm.2).mono ?_
  rintro e w' ⟨rfl,rfl⟩
  exact⟨rfl,Below.refl _ _⟩
abbrev rdO (l:List UInt8) (e:Int):AObj:=.cells [.d (bsD l),iA e]
theorem take_sat (l:List UInt8) (k:Nat) (hk:k≤l.length) (hn:l.length≤65536):Sat Tryz.prog 119 [.ptr 0 0,iA k,iA 0] [rdO l 0] (bA true) [rdO (l.drop k) 0]:=by
 refine Vq Tryz.func119 rfl rfl ?_
 conv=>whnf
 iterate 5
  repeat' first|exact T0|(first|refine Yd fun _=>?_|refine Ye fun _=>?_|refine Yg ?_|refine Yk (from_d 1 1 (by kernel_rfl) (by simpa using hk)) ?_);conv=>whnf|(refine Ya ?_ ?_<;>intro _<;>conv=>whnf)
  all_goals try (refine Or.inl ?_;conv=>whnf)
 all_goals refine⟨[],?_⟩
 repeat any_goals first|exact T0|exact rfl|exact Yr|refine Ya ?_ ?_
 all_goals conv=>whnf
 exact congrArg (fun r=>AV.d (.sl 1 r)) (List.map_drop (f:=bR) (l:=l) (i:=k)).symm
theorem dec_size (l:List UInt8):(dec l).2.1≤l.length:=by
 have:=(dec_bounds l 0 0 (dec l).1 (dec l).2.1 (dec l).2.2 (by omega) (by simp) rfl).2.1
 omega
theorem uint_sat (l:List UInt8) (hn:l.length≤65536) (he:(dec l).2.2=0):Sat Tryz.prog 86 [.ptr 0 0] [rdO l 0] (.d (.v (.int .u64 ((dec l).1:Nat)))) [rdO (l.drop (dec l).2.1) 0]:=by
 have f1:=first_sat l hn
 rw[he] at f1
 have t1:=take_sat l (dec l).2.1 (dec_size l) hn
 refine Vq Tryz.func86 rfl rfl ?_
 conv=>whnf
 iterate 5
  repeat' first|exact T0|(first|refine Yd fun _=>?_|refine Ye fun _=>?_|refine Yg ?_|refine Yk (f1.pu rfl rfl) ?_|refine Yk (t1.at1 0 rfl rfl rfl) ?_);conv=>whnf|(refine Ya ?_ ?_<;>intro _<;>conv=>whnf)
  all_goals try (refine Or.inl ?_;conv=>whnf)
 all_goals refine⟨[],?_⟩
 repeat any_goals first|exact T0|exact rfl|exact Yr|refine Ya ?_ ?_
 all_goals conv=>whnf
theorem unturn_sat (u:Nat) (h:u<18446744073709551616):Sat Tryz.prog 131 [.d (.v (.int .u64 (u:Int)))] [] (iA (unturnZ u)) []:=
 .of_same (.cons (.d (.v _)) .nil) (.d (.v _)) fun w=>unturn_any u w h
theorem count_size (l:List UInt8) (most:Int):(cnt l most).2.1≤l.length:=(cnt_bounds l most).2.1
theorem countM_sat (l:List UInt8) (most:Int) (hm:in64 most) (hn:l.length≤65536) (he:(cnt l most).2.2=0):Sat Tryz.prog 120 [.ptr 0 0,iA most] [rdO l 0] (iA ((cnt l most).1:Nat)) [rdO (l.drop (cnt l most).2.1) 0]:=by
 have f1:=count_sat l most hm hn
 rw[he] at f1
 have t1:=take_sat l (cnt l most).2.1 (count_size l most) hn
 refine Vq Tryz.func120 rfl rfl ?_
 conv=>whnf
 iterate 5
  repeat' first|exact T0|(first|refine Yd fun _=>?_|refine Ye fun _=>?_|refine Yg ?_|refine Yk (f1.pu rfl rfl) ?_|refine Yk (t1.at1 0 rfl rfl rfl) ?_);conv=>whnf|(refine Ya ?_ ?_<;>intro _<;>conv=>whnf)
  all_goals try (refine Or.inl ?_;conv=>whnf)
 all_goals refine⟨[],?_⟩
 repeat any_goals first|exact T0|exact rfl|exact Yr|refine Ya ?_ ?_
 all_goals conv=>whnf
theorem str_d {L:List AObj} {ty n:Nat} {x:Operand} (l:List UInt8):Does Tryz.prog (.convert 36 9 x) ty L n [.d (bsD l)] e0 (.d (styD ⟨l.toArray⟩)):=by
 intro o H F ρ w ev ho ht En _ _ hx
 have hops:(Op.operands (.convert 36 9 x)).toList=[x]:=by simp[Op.operands]
 rw[hops] at hx
 obtain⟨v,e,hv⟩:=hx.one_out
 cases hv with|d hv=>
 obtain⟨A,c,rfl,h1,h2,hr⟩:=hv.sl_rd En.fb (bR_flats l)
 rw[List.length_map] at hr e
 have:=string_any w A _ c l hr
 simp at e
 have hrun:(execOp ev o).run Tryz.prog w=.ok (.value (.string ⟨l.toArray⟩)) w:=by
  simp[execOp,ho,e,this]
 rw[hrun]
 exact Post.same En (.d (.v _))
theorem noT {l:List UInt8} {s n:Nat} (h:s+n≤l.length) (hn:l.length≤65536) (q:decide ((n:Int)>IntKind.i64.wrap (((l.map bR).length:Int)-(s:Int)))=true):False:=by
 have q:=of_decide_eq_true q
 rw[List.length_map,wi (by omega) (by omega)] at q
 omega
theorem text_sat (l:List UInt8) (most:Int) (n s:Nat) (hm:in64 most) (hn:l.length≤65536) (hc:cnt l most=(n,s,0)) (hs:s+n≤l.length):Sat Tryz.prog 91 [.ptr 0 0,iA most] [rdO l 0] (.d (styD ⟨((l.take (s+n)).drop s).toArray⟩)) [rdO (l.drop (s+n)) 0]:=by
 have f1:=count_sat l most hm hn
 rw[hc] at f1
 have t1:=take_sat l (s+n) hs hn
 have e1:IntKind.i64.wrap ((s:Int)+(n:Int))=((s+n:Nat):Int):=by rw[wi (by omega) (by omega)];rfl
 have hm2:(l.map bR).length=l.length:=List.length_map _
 refine Vq Tryz.func91 rfl rfl ?_
 conv=>whnf
 iterate 3
  repeat' first|exact T0|(first|rw[e1]|refine Yd fun _=>?_|refine Ye fun _=>?_|refine Yg ?_|refine Yk (f1.pu rfl rfl) ?_|refine Yk (t1.at1 0 rfl rfl rfl) ?_|refine Yk (sl_d (lo:=s) (hi:=s+n) 1 1 (by kernel_rfl) (by omega) (by rw[hm2];exact hs)) ?_|refine Yk ((by rw[←List.map_take,←List.map_drop];exact str_d ((l.take (s+n)).drop s))) ?_);conv=>whnf|(refine Ya ?_ ?_<;>intro _<;>conv=>whnf)
  all_goals try (exfalso;simp only[outL] at *;first|omega|contradiction|(simp_all;done)|(simp_all;omega))
  all_goals try (refine Or.inl ?_;conv=>whnf)
 all_goals try exact (noT hs hn ‹_›).elim
 all_goals refine⟨[],?_⟩
 repeat any_goals first|exact T0|exact rfl|exact Yr|refine Ya ?_ ?_
 all_goals conv=>whnf
def lcell (l:Lab):List Value:=[.string ⟨l.1.toArray⟩,.string ⟨l.2.toArray⟩]
def lcells (l:List Lab):List Value:=(l.map lcell).flatten
theorem labR_flat (l:Lab):FlatVs (labR l) (lcell l):=by repeat constructor
theorem lcells_one (l:List Lab):∀ u∈lcells l,u.oneCell'=true:=by
 intro u hu
 unfold lcells at hu
 rw[List.mem_flatten] at hu
 obtain⟨c,hc,hu⟩:=hu
 obtain⟨s,_,rfl⟩:=List.mem_map.1 hc
 simp only[lcell,List.mem_cons,List.not_mem_nil,or_false] at hu
 rcases hu with rfl|rfl<;>rfl
set_option maxRecDepth 100000 in
theorem infoLa:(Tryz.prog.info? 86).map (fun i=>(i.zero,i.size,i.bytes))=some (some (.agg #[.string ⟨#[]⟩,.string ⟨#[]⟩]),2,32):=by kernel_rfl
set_option maxHeartbeats 1000000 in
set_option maxRecDepth 100000 in
theorem cloneL_any (A:Option Addr) (n c:Nat) (xs:List Lab) (w:World) (hr:Rd w w.heap.size 2 A n (lcells xs)) (hn:n≤1000) :
  Calls Tryz.prog 80 #[.slice A n c] w fun e w'=>∃ v,e=.returned v∧Ow w' w.heap.size 86 2 v n (lcells xs)∧Below w.heap.size w w':=by
 obtain⟨i0,hi0,hz0,hz1,hz2⟩:=info_parts infoLa
 cases A with
 |none=>
  have h0:n=0:=by
   rcases Nat.eq_zero_or_pos n with h|h
   ·exact h
   ·obtain⟨b,off,h,_⟩:=hr.at_ h
    cases h
  subst h0
  have hx:lcells xs=[]:=hr.nil'
  have hq:=Lib.run_eql_slice_nil (P:=Tryz.prog) (w:=w) 33
  go_enter Tryz.func80,Tryz.ntmps80
  go_wp2_with fail
  go_ret
  exact⟨_,rfl,by rw[hx];exact Ow.nil _ _ _ _,Below.refl _ _⟩
 |some a=>
  have hq:=Lib.run_eql_slice_nil (P:=Tryz.prog) (w:=w) 33
  go_enter Tryz.func80,Tryz.ntmps80
  go_wp2_with (at_builtin;refine wpList_append_ow _ rfl (.tmp 5) (.tmp 6) _ rfl w.heap.size 86 i0 _ 2 32 Tryz.underlying33 hi0 hz0 hz1 hz2 rfl (by omega) (.slice (some ⟨w.heap.size,0,none⟩) 0 0) 0 [] rfl (Ow.lit w #[] 0 (Nat.le_refl _) (by simp[maxLen]) rfl) w.heap.size (some a) n c (lcells xs) rfl (hr.alloc (Nat.le_refl _) _) (lcells_one xs) (by simp only[maxLen];omega) (by omega) (by simp) ?_;intro v1 w1 hown1 hg1 hat1 hnn1)
  go_ret
  refine⟨_,rfl,by simpa using hown1,?_⟩
  exact (((Below.refl _ _).alloc (Nat.le_refl _) _).grown hg1 (by simp) (by simp[Value.ownBlock]))
set_option maxHeartbeats 1000000 in
theorem cloneL0_any (A:Option Addr) (c:Nat) (w:World) :
  Calls Tryz.prog 80 #[.slice A 0 c] w fun e w'=>∃ v,e=.returned v∧Ow w' w.heap.size 86 2 v 0 []∧Below w.heap.size w w'∧∀ k,blkOf v=some k→k<w'.heap.size:=by
 obtain⟨i0,hi0,hz0,hz1,hz2⟩:=info_parts infoLa
 cases A with
 |none=>
  have hq:=Lib.run_eql_slice_nil (P:=Tryz.prog) (w:=w) 33
  go_enter Tryz.func80,Tryz.ntmps80
  go_wp2_with fail
  go_ret
  exact⟨_,rfl,Ow.nil _ _ _ _,Below.refl _ _,fun k hk=>by cases hk⟩
 |some a=>
  have hq:=Lib.run_eql_slice_nil (P:=Tryz.prog) (w:=w) 33
  have hlit:=hide <| Ow.lit w #[] 0 (lo:=w.heap.size) (size:=2) (e:=86) (Nat.le_refl _) (by simp[maxLen]) rfl
  have hap:=hide <| fun w1 ty hown=>run_append_zero (P:=Tryz.prog) (w:=w1) (ty:=ty) (t:=33) (A:=some a) (c:=c) (lo:=w.heap.size) (size:=2) (ee:=86) (v:=.slice (some ⟨w.heap.size,0,none⟩) 0 0) (m':=0) (xs:=[]) Tryz.underlying33 hi0 hown
  go_enter Tryz.func80,Tryz.ntmps80
  go_wp2_with (at_builtin;refine wpList_exec rfl _ (exec_append _ _ _ rfl _ _ rfl rfl (hap.out _ _ hlit.out)) ?_)
  go_ret
  refine⟨_,rfl,hlit.out,(Below.refl _ _).alloc (Nat.le_refl _) _,fun k hk=>?_⟩
  injection hk with hk
  subst hk
  show w.heap.size<(w.heap.push _).size
  rw[Array.size_push];exact Nat.lt_succ_self _
theorem Sat.lendAgg {P:Program} {g:FuncId} {L:List AObj} {n i s:Nat} {rows:List (List D)} {x:D} {r:AV} (h:Sat P g [.d (.agg [x,.sl s rows])] [] r []) (hi:L[i]?=some (.sl s rows)) (hr:flatA r=true):CallOK P g [.agg [.d x,.own i]] L n ⟨[i],[],[]⟩ r:=by
 have hl:Lend L [.d x,.own i] [.d x,.d (.sl s rows)] [i]:=⟨rfl,[],rfl,hi,rfl⟩
 have hlive:=lend_live hl
 intro H F ρ w vals En hrs _ hv
 have hH:∀ j∈[i],∀ hh,ρ j=some hh→∀ b,blkOf hh=some b→b<w.heap.size:=by
  intro j hj hh hρ b hb
  obtain⟨o,ho,hlv⟩:=hlive j hj
  obtain⟨h0,e1,_,e3⟩:=En.rep j o (by rw[hrs j hj];exact ho) hlv
  rw[hρ] at e1;injection e1 with e1;subst e1
  exact (e3 b hb).1
 let F1:Nat→Prop:=fun b=>F b∨∃ j∈[i],∃ hh,ρ j=some hh∧blkOf hh=some b
 have E1:Env F1 (fun _=>none) (hp []) w:=⟨fun b hb=>hb.elim (En.fb b) fun⟨j,hj,hh,h1,h2⟩=>hH j hj hh h1 b h2,fun _ _=>rfl,fun j o h=>by simp[hp] at h,fun j k o o' _ _ _ h=>by simp[hp] at h⟩
 obtain⟨cs,rfl,hcs,h1⟩:∃ cs,vals=[.agg cs.toArray]∧RAs w F ρ [.d x,.own i] cs∧∀ c∈cs,c.oneCell'=true:=by
  cases hv with|cons hv hr=>
  cases hr
  cases hv with|agg h h1=>exact⟨_,rfl,h,h1⟩
 have hra:=hl.ras (F1:=F1) En (fun _ h=>.inl h) hrs (fun j hj hh h1 b h2=>.inr ⟨j,hj,hh,h1,h2⟩) hcs
 have hd:RDs w F1 [x,.sl s rows] cs:=RAs.toD (xs:=[x,.sl s rows]) hra h1
 refine (h F1 (fun _=>none) w _ E1 (.cons (.d (.agg hd)) .nil)).mono ?_
 rintro en w' ⟨v,rfl,F2,ρ2,S,_,E2,R⟩
 have hold:∀ b,b<w.heap.size→w'.heap[b]?=w.heap[b]?:=fun b hb=>S.unch b hb fun⟨i,o,_,h,_⟩=>by simp[hp] at h
 refine⟨v,rfl,fun b=>F2 b∧(F b∨w.heap.size≤b),ρ,⟨S.os,S.tape,S.output,S.size,fun b hb _=>hold b hb,fun b hb=>⟨S.fsub b (.inl hb),.inl hb⟩,fun b hb=>hb.2.elim .inl fun q=>.inr (.inl q),fun b hb=>.inr hb⟩,Keep.refl _,?_,R.flat r hr⟩
 refine⟨fun b hb=>E2.fb b hb.1,En.abs,fun i o hi hlv=>?_,En.inj⟩
 obtain⟨hh,e1,e2,e3⟩:=En.rep i o hi hlv
 exact⟨hh,e1,e2.mono S.size (fun b _ hlt=>hold b hlt) (fun b hb=>hold b (En.fb b hb)) (fun b hb=>⟨S.fsub b (.inl hb),.inl hb⟩) (Keep.refl _),fun b hb=>⟨Nat.lt_of_lt_of_le (e3 b hb).1 S.size,fun q=>q.2.elim (e3 b hb).2 fun q=>by have:=(e3 b hb).1;omega⟩⟩
abbrev nilV:D:=.v (.slice none 0 0)
theorem RD.nilS {w:World} {F:Nat→Prop} {s:Nat} {v:Value} (h:RD w F nilV v):RD w F (.sl s []) v:=by
 cases h
 exact .sl (rows:=[]) (cs:=[]) (A:=none) (n:=0) (c:=0) rfl (fun r hr=>by cases hr) (Nat.le_refl _) (by decide) .nil fun h=>absurd h (by simp)
theorem Sat.post {P:Program} {g:FuncId} {args:List AV} {H H':List AObj} {r r':AV} (h:Sat P g args H r H') (hr:∀ w F ρ v,RA w F ρ r v→RA w F ρ r' v):Sat P g args H r' H':=fun F ρ w vals En hv=>
 (h F ρ w vals En hv).mono fun e w' ⟨v,he,F',ρ',S,K,E,R⟩=>⟨v,he,F',ρ',S,K,E,hr _ _ _ _ R⟩
theorem RD.nilAgg {w:World} {F:Nat→Prop} {s:Nat} {x:D} {v:Value} (h:RD w F (.agg [x,nilV]) v):RD w F (.agg [x,.sl s []]) v:=by
 cases h with|agg h=>
 cases h with|cons h1 h2 h3=>
 cases h3 with|cons h4 h5 h6=>exact .agg (.cons h1 h2 (.cons h4.nilS h5 h6))
theorem nilTup {w:World} {F:Nat→Prop} {ρ:Nat→Option Value} {s:Nat} {x:D} {y:AV} {v:Value} (h:RA w F ρ (.tup [.d (.agg [x,nilV]),y]) v):RA w F ρ (.tup [.d (.agg [x,.sl s []]),y]) v:=by
 cases h with|tup h=>
 cases h with|cons h1 h2=>
 cases h1 with|d h1=>exact .tup (.cons (.d h1.nilAgg) h2)
theorem nameL_len {l:Bt} (h:nameL l=true):l.length≤64:=by
 cases l with
 |nil=>simp
 |cons x r=>
  rw[nameL_cons,Bool.and_eq_true,decide_eq_true_eq] at h
  exact h.1
theorem labB_len {x:Lab} (h:labB x=true):x.1.length≤64∧x.2.length≤64:=by
 unfold labB at h
 rw[Bool.and_eq_true] at h
 refine⟨nameL_len h.2,?_⟩
 have:=h.1
 unfold valueL at this
 rw[Bool.and_eq_true,decide_eq_true_eq] at this
 exact this.1
theorem chkL_labs:∀ {l:List Lab} {p:Option Bt},chkL p l=true→∀ x∈l,labB x=true
 |[],_,_,x,hx=>by cases hx
 |y::r,p,h,x,hx=>by
  have h:(labB y && (_ && chkL (some y.1) r))=true:=h
  rw[Bool.and_eq_true,Bool.and_eq_true] at h
  rcases List.mem_cons.1 hx with e|e
  ·rw[e];exact h.1
  ·exact chkL_labs h.2.2 x e
theorem right_out {s:Ser} (h:rightB s=true):nameL s.1=true∧s.2.length≤8∧∀ x∈s.2,labB x=true:=by
 unfold rightB at h
 simp only[Bool.and_eq_true,decide_eq_true_eq] at h
 exact⟨h.1,h.2.1,chkL_labs h.2.2⟩
theorem bytes_s {L:List AObj} {ty n:Nat} {x:Operand} (l:List UInt8) (hl:l.length≤65536):Does Tryz.prog (.convert 9 36 x) ty L n [.d (styD ⟨l.toArray⟩)] ⟨[],[],[.sl 1 (l.map bR)]⟩ (.own n):=by
 intro o H F ρ w ev ho ht En hrs hn hx
 have hops:(Op.operands (.convert 9 36 x)).toList=[x]:=by simp[Op.operands]
 rw[hops] at hx
 obtain⟨v,e,hv⟩:=hx.one_out
 have:=hv.v_out
 subst this
 simp at e
 have hn0:H n=none:=by simpa using hn 0 (by simp)
 have hconv:=run_bytes_of_string (P:=Tryz.prog) w 9 36 5 ⟨l.toArray⟩ Tryz.underlying9 Tryz.underlying36 Tryz.underlying5
 have hsz:(⟨l.toArray⟩:ByteArray).size=l.length:=by simp[ByteArray.size]
 have hge:=grownCap_ge w (⟨l.toArray⟩:ByteArray).size 0 5
 have hle:=grownCap_le_maxLen w (⟨l.toArray⟩:ByteArray).size 0 5 (by rw[hsz];unfold maxLen;omega)
 generalize grownCap w (⟨l.toArray⟩:ByteArray).size 0 5=cap at hconv hge hle
 rw[hsz] at hconv hge
 have hrow:(bytesRow ⟨l.toArray⟩ cap).size=cap:=by unfold bytesRow;simp[ByteArray.size];omega
 rw[hrow] at hconv
 generalize hw:(w.drew.alloc (.cells (bytesRow ⟨l.toArray⟩ cap) 5 (cap,cap+1)))=w' at hconv
 have hheap:w'.heap=w.heap.push (.cells (bytesRow ⟨l.toArray⟩ cap) 5 (cap,cap+1)):=by rw[←hw];rfl
 have hat:w'.heap[w.heap.size]?=some (.cells (bytesRow ⟨l.toArray⟩ cap) 5 (cap,cap+1)):=by rw[hheap,Array.getElem?_push_size]
 have hsw:w'.heap.size=w.heap.size+1:=by rw[hheap,Array.size_push]
 have hos:w'.os=w.os∧w'.tape=w.tape∧w'.output=w.output:=by rw[←hw];exact⟨rfl,rfl,rfl⟩
 have hcell:∀ j,w'.cell? ⟨w.heap.size,0+j,none⟩=(bytesRow ⟨l.toArray⟩ cap)[j]?:=fun j=>by
  rw[←hw,Nat.zero_add]
  exact World.cell?_alloc_mark ..
 have hfr:∀ j,j<cap→w'.frozen? ⟨w.heap.size,0+j,none⟩=false:=fun j hj=>by
  unfold World.frozen?
  simp only[hat]
  rw[decide_eq_false (by omega)]
  rfl
 have hrun:(execOp ev o).run Tryz.prog w=.ok (.value (.slice (some ⟨w.heap.size,0,none⟩) l.length cap)) w':=by
  simp[execOp,ho,e,hconv]
 rw[hrun]
 have how:Ow w' 0 0 1 (.slice (some ⟨w.heap.size,0,none⟩) l.length cap) l.length (l.map bv):=by
  refine⟨by simp,.inr (.inr ⟨w.heap.size,0,cap,rfl,Nat.zero_le _,?_,hge,hle,fun j hj=>⟨?_,?_⟩,fun j hj=>?_⟩)⟩
  ·rw[hsw];exact Nat.lt_succ_self _
  ·rw[hcell,Array.getElem?_eq_getElem (by rw[hrow];omega)];rfl
  ·exact hfr j (by omega)
  ·have hj:j<l.length:=by simpa using hj
   rw[hcell,bytesRow_at _ _ _ (by simpa [ByteArray.size] using hj)]
   simp[bv]
 have hG:w.grownBy w' none:=by
  exact⟨hos.1,hos.2.1,hos.2.2,by rw[hsw];exact Nat.le_succ _,fun b hb _=>by rw[hheap,Array.getElem?_push_lt hb,Array.getElem?_eq_getElem hb]⟩
 obtain⟨S,K,E⟩:=En.new (n:=n) (o':=.sl 1 (l.map bR)) (h:=.slice (some ⟨w.heap.size,0,none⟩) l.length cap) hn0 hG (fun b hb=>by
  injection hb with hb
  subst hb
  refine⟨Nat.le_refl _,?_⟩
  rw[hsw];exact Nat.lt_succ_self _) ⟨l.map bv,by rw[List.length_map];exact how,(bR_flats l).rds,one_len⟩
 have e':updF H n (some (.sl 1 (l.map bR)))=appN n [.sl 1 (l.map bR)] (appW [] H):=rfl
 rw[e'] at S E
 exact⟨F,_,S,K,E,.own (updF_same _ _ _)⟩
def encTL (x:Bt):Bt:=enc x.length++x
def labsT (l:List Lab):Bt:=(l.map fun x=>encTL x.1++encTL x.2).flatten
def bytesS (s:Ser):Bt:=if rightB s=true then encTL s.1++enc s.2.length++labsT s.2 else []
theorem encTL_len (x:Bt):1≤(encTL x).length∧(encTL x).length≤10+x.length:=by
 unfold encTL
 rw[List.length_append]
 have:1≤(enc x.length).length∧(enc x.length).length≤10:=encF_len 9 x.length
 omega
theorem labsT_len:∀ {l:List Lab},(∀ x∈l,labB x=true)→(labsT l).length≤148*l.length
 |[],_=>by simp[labsT]
 |x::r,h=>by
  have h0:=labB_len (h x (List.mem_cons_self ..))
  have h1:=encTL_len x.1
  have h3:=encTL_len x.2
  have h2:=labsT_len (l:=r) fun y hy=>h y (List.mem_cons_of_mem _ hy)
  show (encTL x.1++encTL x.2++labsT r).length≤_
  rw[List.length_append,List.length_append,List.length_cons]
  omega
theorem labsT_next {l:List Lab} {i:Nat} {x:Lab} (hx:l[i]?=some x):labsT (l.take (i+1))=labsT (l.take i)++(encTL x.1++encTL x.2):=by
 unfold labsT
 rw[map_take_succ hx];simp
theorem texts1 (x:Bt) (h:x.length≤65536):Sat Tryz.prog 60 [.d (.sl 1 [[tD x]])] [] (.own 0) [.sl 1 ((encTL x).map bR)]:=by
 have e:encTs [⟨x.toArray⟩]=encTL x:=by
  unfold encTs encT encTL
  simp only[List.map_cons,List.map_nil,List.flatten_cons,List.flatten_nil,List.append_nil]
  rfl
 have:=texts_sat [⟨x.toArray⟩] (by simp) (fun y hy=>by rw[List.mem_singleton.1 hy];exact h) (by rw[e];have:=encTL_len x;omega)
 rwa [e] at this
theorem texts2 (x y:Bt) (h:x.length≤65536) (h2:y.length≤65536):Sat Tryz.prog 60 [.d (.sl 1 [[tD x],[tD y]])] [] (.own 0) [.sl 1 ((encTL x++encTL y).map bR)]:=by
 have e:encTs [⟨x.toArray⟩,⟨y.toArray⟩]=encTL x++encTL y:=by
  unfold encTs encT encTL
  simp only[List.map_cons,List.map_nil,List.flatten_cons,List.flatten_nil,List.append_nil]
  rfl
 have:=texts_sat [⟨x.toArray⟩,⟨y.toArray⟩] (by simp) (fun z hz=>by
  simp only[List.mem_cons,List.not_mem_nil,or_false] at hz
  rcases hz with rfl|rfl
  ·exact h
  ·exact h2) (by rw[e,List.length_append];have:=encTL_len x;omega)
 rwa [e] at this
theorem uints1 (n:Nat) (h:n≤1000):Sat Tryz.prog 56 [.d (.sl 1 [uR n])] [] (.own 0) [.sl 1 ((enc n).map bR)]:=by
 have e:encs [n]=enc n:=by unfold encs;simp
 have hl:1≤(enc n).length∧(enc n).length≤10:=encF_len 9 n
 have:=uints_sat [n] (by simp) (fun y hy=>by rw[List.mem_singleton.1 hy];omega) (by rw[e];omega)
 rwa [e] at this
theorem enc_lens (n:Nat):1≤(enc n).length∧(enc n).length≤10:=encF_len 9 n
theorem ap1 {L:List AObj} {ty n i j:Nat} {sx xx:Operand} {a b:Bt} (hi:L[i]?=some (.sl 1 (a.map bR))) (hj:L[j]?=some (.sl 1 (b.map bR))) (hb:a.length+b.length≤100000):Does Tryz.prog (.call { callee:=.builtin .append,args:=#[sx,xx],argTypes:=#[36,36] }) ty L n [.own i,.own j] ⟨[i,j],[(i,.dead)],[.sl 1 ((a++b).map bR)]⟩ (.own n):=by
 have:=ap (P:=Tryz.prog) (t:=36) (L:=L) (ty:=ty) (n:=n) (i:=i) (j:=j) (sx:=sx) (xx:=xx) 1 1 (by kernel_rfl) hi hj (by rw[List.length_map,List.length_map];omega)
 rwa [←List.map_append] at this
set_option maxHeartbeats 4000000 in
theorem bytes_satS (s:Ser):Sat Tryz.prog 59 [.d (serD s)] [] (.d (bsD (bytesS s))) []:=by
 obtain⟨nm,l⟩:=s
 have hl:(l.map labR).length=l.length:=List.length_map _
 have r1:=sRight_sat (nm,l)
 unfold bytesS
 cases hr:rightB (nm,l) with
 |false=>
  rw[hr] at r1
  rw[if_neg (by simp)]
  refine Vq Tryz.func59 rfl rfl ?_
  conv=>whnf
  iterate 4
   repeat' first|exact T0|(first|refine Yd fun _=>?_|refine Ye fun _=>?_|refine Yg ?_|refine Yk (r1.pu rfl rfl) ?_);conv=>whnf|(refine Ya ?_ ?_<;>intro _<;>conv=>whnf)
   all_goals try (refine Or.inl ?_;conv=>whnf)
  all_goals try (exfalso;simp only[outL] at *;first|omega|contradiction|(simp_all;done)|(simp_all;omega))
  all_goals refine⟨[],?_⟩
  repeat any_goals first|exact T0|exact rfl|exact Yr|refine Ya ?_ ?_
  all_goals conv=>whnf
 |true=>
 rw[hr] at r1
 rw[if_pos rfl]
 obtain⟨q1,q2,q3⟩:=right_out hr
 have q2:l.length≤8:=q2
 have q3:∀ x∈l,labB x=true:=q3
 have q4:nm.length≤64:=nameL_len q1
 have t1:=texts1 nm (by omega)
 have u1:=uints1 l.length (by omega)
 have hb1:=encTL_len nm
 have hb2:=enc_lens l.length
 have hu:IntKind.u64.wrap ((l.map labR).length:Int)=(l.length:Int):=by
  show ((l.map labR).length:Int) % 18446744073709551616=_
  rw[hl]
  exact Int.emod_eq_of_lt (by omega) (by omega)
 have u2:Sat Tryz.prog 56 [.d (.sl 1 [[.v (.int .u64 (IntKind.u64.wrap ((l.map labR).length:Int)))]])] [] (.own 0) [.sl 1 ((enc l.length).map bR)]:=by
  rw[hu];exact u1
 refine Vq Tryz.func59 rfl rfl ?_
 conv=>whnf
 iterate 3
  repeat' first|exact T0|(first|refine Yd fun _=>?_|refine Ye fun _=>?_|refine Yg ?_|refine Yk (r1.pu rfl rfl) ?_|refine Yk (lendON t1 rfl (bR_flats _)) ?_|refine Yk (lendON u2 rfl (bR_flats _)) ?_|refine Yk (ap1 rfl rfl (by omega)) ?_);conv=>whnf|(refine Ya ?_ ?_<;>intro _<;>conv=>whnf)
  all_goals try (refine Or.inl ?_;conv=>whnf)
 all_goals try (exfalso;simp only[outL] at *;first|omega|contradiction|(simp_all;done)|(simp_all;omega))
 refine⟨Nat,fun i=>i≤l.length,fun i=>([(23,iA i),(22,iA (l.map labR).length),(21,.d (.sl 2 (l.map labR))),(3,.own 1)],[.cells [.d (tD nm),.d (.sl 2 (l.map labR))],.sl 1 ((encTL nm++enc l.length++labsT (l.take i)).map bR)]),fun i=>l.length-i,⟨0,Nat.zero_le _,?_⟩,?_⟩
 ·all_goals refine⟨[(1,5)],?_⟩
  repeat any_goals first|exact T0|exact rfl|exact Yr|refine Ya ?_ ?_
  all_goals conv=>whnf
  show _=AObj.sl 1 ((encTL nm++enc l.length++[]).map bR)
  rw[List.append_nil]
 intro i hi
 have hi:i≤l.length:=hi
 have hb:=labsT_len (l:=l.take i) fun x hx=>q3 x (List.mem_of_mem_take hx)
 rw[List.length_take] at hb
 have hb3:(encTL nm++enc l.length++labsT (l.take i)).length≤2000:=by rw[List.length_append,List.length_append];omega
 conv=>whnf
 by_cases hlt:i<l.length
 ·have hx:l[i]?=some l[i]:=List.getElem?_eq_getElem hlt
  generalize l[i]=x at hx
  have hgx:=map_get (f:=labR) hx
  have hlb:=labB_len (q3 x (List.mem_of_getElem? hx))
  have d1:decide ((i:Int)<((l.map labR).length:Nat))=true:=decide_eq_true (by rw[hl];omega)
  have t2:=texts2 x.1 x.2 (by omega) (by omega)
  have l1:=encTL_len x.1
  have l2:=encTL_len x.2
  have h12:(encTL nm++enc l.length++labsT (l.take i)).length+(encTL x.1++encTL x.2).length≤100000:=by rw[List.length_append (bs:=encTL x.2)];omega
  iterate 4
   repeat' first|exact T0|(first|refine⟨i,_,rfl,hgx,?_⟩|refine Yd fun _=>?_|refine Ye fun _=>?_|refine Yg ?_|refine Yk (lendON t2 rfl (bR_flats _)) ?_|refine Yk (ap1 rfl rfl h12) ?_);conv=>whnf|(refine Ya ?_ ?_<;>intro _<;>conv=>whnf)
   all_goals try (refine Or.inl ?_;conv=>whnf)
  all_goals try exact (bnl d1 ‹_›).elim
  refine⟨i+1,hlt,show l.length-(i+1)<l.length-i by omega,?_⟩
  all_goals refine⟨[(1,5)],?_⟩
  repeat any_goals first|exact T0|exact rfl|exact Yr|refine Ya ?_ ?_
  all_goals conv=>whnf
  ·exact wk1 (by omega)
  ·rw[labsT_next hx,←List.append_assoc (encTL nm++enc l.length)]
 ·have d1:decide ((i:Int)<((l.map labR).length:Nat))=false:=decide_eq_false (by rw[hl];omega)
  iterate 4
   repeat' first|exact T0|(first|refine Yd fun _=>?_|refine Ye fun _=>?_|refine Yg ?_);conv=>whnf|(refine Ya ?_ ?_<;>intro _<;>conv=>whnf)
   all_goals try (refine Or.inl ?_;conv=>whnf)
  all_goals try exact (bnl ‹_› d1).elim
  all_goals refine⟨[],?_⟩
  repeat any_goals first|exact T0|exact rfl|exact Yr|refine Ya ?_ ?_
  all_goals conv=>whnf
  rw[List.take_of_length_le (by omega)]
end Go.Proofs.YtfbfpnfgabamfaaGreat
namespace Go.Proofs.YtfbfpnfgabamfaaGreat
open Go.RowKit
set_option linter.unusedVariables false
set_option linter.unusedSimpArgs false
attribute [local go_sem] Oper.semAt_some
structure SplC (b1 b2 b3 t1 t2 t3:Nat) (O:Nat→Prop) (r:Bt) (w:World):Prop where
 c1:Blk w b1 t1 #[.string ⟨#[44]⟩]
 c2:Blk w b2 t2 #[.string ⟨r.toArray⟩]
 c3:Blk w b3 t3 #[.int .i64 0]
 n1:¬O b1
 n2:¬O b2
 n3:¬O b3
end Go.Proofs.YtfbfpnfgabamfaaGreat
namespace Go.Proofs.YtfbfpnfgabamfaaGreat
set_option linter.unusedSimpArgs false
open Go.RowKit
set_option maxRecDepth 100000
set_option linter.unusedVariables false
abbrev cutCA (x:Bt × Bt × Bool):AV:=.tup [.d (tD x.1),.d (tD x.2.1),bA x.2.2]
theorem Sat.pre {P:Program} {g:FuncId} {args args':List AV} {H H':List AObj} {r:AV} (h:Sat P g args H r H') (ha:∀ w F ρ vs,RAs w F ρ args' vs→RAs w F ρ args vs):Sat P g args' H r H':=fun F ρ w vals En hv=>h F ρ w vals En (ha _ _ _ _ hv)
end Go.Proofs.YtfbfpnfgabamfaaGreat
namespace Go.Proofs.YtfbfpnfgabamfaaGreat
set_option linter.unusedSimpArgs false
set_option linter.unusedVariables false
open Go.RowKit
structure Cmp3 {α:Type} (f:α→α→Int):Prop where
 rng:∀ a b,f a b=-1∨f a b=0∨f a b=1
 neg:∀ a b,f b a=- f a b
 eq:∀ a b,f a b=0↔a=b
 tr:∀ a b c,f a b≤0→f b c≤0→f a c≤0
end Go.Proofs.YtfbfpnfgabamfaaGreat
namespace Go.Proofs.YtfbfpnfgabamfaaGreat
set_option linter.unusedSimpArgs false
open Go.RowKit
set_option maxRecDepth 100000
set_option linter.unusedVariables false
end Go.Proofs.YtfbfpnfgabamfaaGreat
namespace Go.Proofs.YtfbfpnfgabamfaaGreat
open Go.RowKit
set_option linter.unusedVariables false
set_option linter.unusedSimpArgs false
theorem spell_more2 (u:Nat):(128+(u:Int) % 128)=(((UInt8.ofNat (128+u % 128)).toNat:Nat):Int):=by
 rw[UInt8.toNat_ofNat',Nat.mod_eq_of_lt (by omega)]
 omega
theorem bnd_le:∀ (g f:Nat),f≤g→bnd f≤bnd g
 |0,f,h=>by
  obtain rfl:f=0:=by omega
  exact Nat.le_refl _
 |g+1,f,h=>by
  by_cases he:f=g+1
  ·subst he;exact Nat.le_refl _
  ·have:=bnd_le g f (by omega);simp only[bnd];omega
set_option maxRecDepth 100000 in
theorem refUint_any (u:Nat) (w:World) (hu:u<18446744073709551616) :
  Calls Tryz.prog 66 #[.int .u64 u] w fun e w'=>∃ v',e=.returned v'∧Ow w' w.heap.size 5 1 v' (enc u).length ((enc u).map bv)∧Below w.heap.size w w':=by
 obtain⟨i0,hi0,hz0,hz1,hz2⟩:=info_parts Tryz.info8
 have HU:=hide hu
 clear hu
 go_enter Tryz.func66,Tryz.ntmps66
 go_wp2
 go_loopw [0,3] (fun x v wr=>∃ (f q m:Nat) (acc:List UInt8),x=.int .u64 q∧q<bnd f∧f≤9∧m+f+1≤10∧Ow wr w.heap.size 5 1 v m (acc.map bv)∧Hid (acc++encF f q=enc u)∧Below w.heap.size w wr) (fun x _ _=>(intOf x).toNat)
 case atStart=>exact⟨9,u,0,[],rfl,by rw[bnd9];exact HU.out,by omega,by omega,Ow.lit w #[] 0 (Nat.le_refl _) (by simp[maxLen]) rfl,hide rfl,(Below.refl _ _).alloc (Nat.le_refl _) _⟩
 case round=>
  obtain⟨f,q,m,acc,rfl,hq,hf,hm,own,HE,hb⟩:=hrel
  by_cases h:q<128
  ·have he:=HE.out
   rw[encF_small h] at he
   have HE2:=hide he
   clear he
   have hsp:=spell_last q h
   have HS:=hide hsp
   clear hsp
   have hcell:Rd (wr.alloc (.cells #[.int .u8 q] 5)) (wr.heap.size+1) 1 (some ⟨wr.heap.size,0,none⟩) 1 ([UInt8.ofNat q].map bv):=by
    rw[HS.out]
    exact RdB.lit wr [UInt8.ofNat q] 5 (0,0) 1 rfl
   go_wp2_with (at_builtin;refine wpList_append_ow _ rfl (.tmp 16) (.tmp 19) _ rfl w.heap.size 5 i0 _ 1 1 Tryz.underlying36 hi0 hz0 hz1 hz2 rfl (by omega) _ m (acc.map bv) rfl (own.alloc _) (wr.heap.size+1) (some ⟨wr.heap.size,0,none⟩) 1 1 _ rfl hcell (bvs_one _) (by simp only[maxLen];omega) (by omega) (by have:=hb.size;simp;omega) ?_;intro v1 w1 hown1 hg1 hat1 hnn1)
   go_ret
   have hsum:m+1=(enc u).length:=by
    have h1:=congrArg List.length HE2.out
    have h2:=own.1
    simp only[List.length_append,List.length_cons,List.length_nil,List.length_map,Nat.mul_one] at h1 h2
    omega
   refine⟨_,rfl,?_,(hb.alloc (by have:=hb.size;omega) _).grown hg1 (by have:=hb.size;simp;omega) (fun k hk=>own.lt k hk)⟩
   rw[←HE2.out,List.map_append]
   rw[←HE2.out] at hsum
   rw[←hsum]
   exact hown1
  ·match f with
   |0=>simp only[bnd] at hq;omega
   |f+1=>
    have he:=HE.out
    rw[encF_big h] at he
    have HE2:=hide he
    clear he HE
    have hwq:IntKind.u64.wrap ((q:Int) / 128)=(q:Int) / 128:=by
     have h1:=bnd_le 9 (f+1) hf
     rw[bnd9] at h1
     rw[u64_wrap];omega
    have HQ:=hide hq
    clear hq
    have hsp:=spell_more2 q
    have hcell:Rd (wr.alloc (.cells #[.int .u8 ((UInt8.ofNat (128+q % 128)).toNat:Nat)] 5)) (wr.heap.size+1) 1 (some ⟨wr.heap.size,0,none⟩) 1 ([UInt8.ofNat (128+q % 128)].map bv):=
     RdB.lit wr [UInt8.ofNat (128+q % 128)] 5 (0,0) 1 rfl
    generalize UInt8.ofNat (128+q % 128)=y at hsp hcell HE2
    rw[←hsp] at hcell
    have HSP:=hide hsp
    clear hsp
    go_wp2_with (at_builtin;refine wpList_append_ow _ rfl (.tmp 7) (.tmp 12) _ rfl w.heap.size 5 i0 _ 1 1 Tryz.underlying36 hi0 hz0 hz1 hz2 rfl (by omega) _ m (acc.map bv) rfl (own.alloc _) (wr.heap.size+1) (some ⟨wr.heap.size,0,none⟩) 1 1 _ rfl hcell (bvs_one _) (by simp only[maxLen];omega) (by omega) (by have:=hb.size;simp;omega) ?_;intro v1 w1 hown1 hg1 hat1 hnn1)
    go_roundw
    case rel=>exact⟨f,q / 128,m+1,acc++[y],by go_num,by have:=HQ.out;simp only[bnd] at this;omega,by omega,by omega,by rw[List.map_append];exact hown1,hide (by rw[List.append_assoc];exact HE2.out),(hb.alloc (by have:=hb.size;omega) _).grown hg1 (by have:=hb.size;simp;omega) (fun k hk=>own.lt k hk)⟩
    case measure=>simp[intOf];omega
set_option maxRecDepth 100000 in
theorem refTurn_any (v:Int) (w:World) (h1:-9223372036854775808≤v) (h2:v≤9223372036854775807) :
  Calls Tryz.prog 104 #[.int .i64 v] w fun e w'=>e=.returned (.int .u64 (turnN v))∧w=w':=by
 have he1:0≤v→IntKind.u64.wrap (2*IntKind.u64.wrap v)=turnN v:=by
  intro h;rw[u64_wrap,u64_wrap,turnN,if_pos h];omega
 have he2:¬0≤v→IntKind.u64.wrap (IntKind.u64.wrap (2*IntKind.u64.wrap (wrap64 (-wrap64 (v+1))))+1)=turnN v:=by
  intro h
  rw[IntWalk.wrap64_in (v+1) (by constructor<;>omega),IntWalk.wrap64_in _ (by constructor<;>omega),u64_wrap,u64_wrap,u64_wrap,turnN,if_neg h]
  omega
 clear h1 h2
 by_cases hv:0≤v
 ·have HE:=hide (he1 hv)
  clear he1 he2
  go_enter Tryz.func104,Tryz.ntmps104
  go_wp2
  go_ret
  exact⟨ret_int HE.out,rfl⟩
 ·have HE:=hide (he2 hv)
  clear he1 he2
  go_enter Tryz.func104,Tryz.ntmps104
  go_wp2
  go_ret
  exact⟨ret_int HE.out,rfl⟩
set_option maxRecDepth 100000 in
theorem refUnturn_any (u:Nat) (w:World) (h:u<18446744073709551616) :
  Calls Tryz.prog 133 #[.int .u64 u] w fun e w'=>e=.returned (.int .i64 (unturnZ u))∧w=w':=by
 have h2:(u:Int) / 2≤9223372036854775807:=by omega
 clear h
 by_cases h0:u % 2=0
 ·have hb:((u:Int) % 2 == 0)=true:=by rw[beq_iff_eq];omega
  have HE:=hide (show unturnZ u=(u:Int) / 2 from if_pos h0)
  clear h0
  go_enter Tryz.func133,Tryz.ntmps133
  go_wp2
  go_ret
  exact⟨ret_int HE.out.symm,rfl⟩
 ·have hb:((u:Int) % 2 == 0)=false:=by rw[beq_eq_false_iff_ne];omega
  have HE:=hide (show unturnZ u=-((u:Int) / 2)-1 from if_neg h0)
  clear h0
  go_enter Tryz.func133,Tryz.ntmps133
  go_wp2
  go_ret
  exact⟨ret_int HE.out.symm,rfl⟩
theorem refInt_any (v:Int) (w:World) (h1:-9223372036854775808≤v) (h2:v≤9223372036854775807) :
  Calls Tryz.prog 68 #[.int .i64 v] w fun e w'=>∃ v',e=.returned v'∧Ow w' w.heap.size 5 1 v' (enc (turnN v)).length ((enc (turnN v)).map bv)∧Below w.heap.size w w':=by
 have HT:=hide (refTurn_any v w h1 h2)
 have HL:=hide (turnN_lt v h1 h2)
 clear h1 h2
 go_enter Tryz.func68,Tryz.ntmps68
 go_wp2_with fail
 refine HT.out.mono ?_
 rintro e w' ⟨rfl,rfl⟩
 go_wp2_with fail
 refine (refUint_any (turnN v) w HL.out).mono ?_
 rintro e w1 ⟨v1,rfl,own1,hb1⟩
 go_wp2_with fail
 go_ret
 exact⟨_,rfl,own1,hb1⟩
theorem refText_any (s:ByteArray) (w:World) (hs:s.size≤65536) :
  Calls Tryz.prog 70 #[.string s] w fun e w'=>∃ v',e=.returned v'∧Ow w' w.heap.size 5 1 v' (encT s).length ((encT s).map bv)∧Below w.heap.size w w':=by
 obtain⟨i0,hi0,hz0,hz1,hz2⟩:=info_parts Tryz.info8
 have hw:IntKind.u64.wrap (s.size:Int)=s.size:=by rw[u64_wrap];omega
 have HEL:=hide (show (enc s.size).length≤10 from (encF_len 9 s.size).2)
 have HTL:=hide (show (encT s).length=(enc s.size).length+s.size from by unfold encT;rw[List.length_append,size_toList])
 go_enter Tryz.func70,Tryz.ntmps70
 go_wp2_with (first
  |(go_at_call 66;refine (refUint_any s.size _ (by omega)).mono ?_;rintro e w1 ⟨v1,rfl,own1,hb1⟩)
  |(at_builtin;refine wpList_append_ow_str _ rfl (.tmp 6) (.tmp 7) _ _ rfl w.heap.size 5 i0 Tryz.underlying36 Tryz.underlying9 hi0 hz0 hz1 hz2 v1 _ _ rfl own1 s rfl (by have:=HEL.out;simp only[maxLen];omega) (by have:=HEL.out;omega) hb1.size ?_;intro v2 w2 own2 hg2))
 go_ret
 rw[HTL.out]
 refine⟨_,rfl,?_,hb1.grown hg2 hb1.size (fun k hk=>own1.lt k hk)⟩
 rw[encT,List.map_append]
 exact own2
end Go.Proofs.YtfbfpnfgabamfaaGreat
namespace Go.Proofs.YtfbfpnfgabamfaaGreat
set_option linter.unusedSimpArgs false
open Go.RowKit
set_option maxRecDepth 100000
set_option linter.unusedVariables false
theorem Sat.ownNewF {P:Program} {g:FuncId} {args:List AV} {vals:List Value} {s:Nat} {rows:List (List D)} {us:List Value} {e:TypeId} (ha:FlatWs args vals) (hf:FlatVs rows.flatten us) (hs:∀ r∈rows,r.length=s) (h0:0<rows.length)
  (h:∀ w:World,Calls P g vals.toArray w fun x w'=>∃ v,x=.returned v∧Ow w' w.heap.size e s v rows.length us∧Below w.heap.size w w') :
  Sat P g args [] (.own 0) [.sl s rows]:=by
 intro F ρ w vals' En hv
 have:=ha.eq hv
 subst this
 refine (h w).mono ?_
 rintro x w' ⟨v,rfl,how,hb⟩
 have hlt:∀ k,blkOf v=some k→k<w'.heap.size:=fun k hk=>by
  obtain⟨g,off,cap,rfl,_,hg,_⟩:=how.open_ h0
  injection hk with hk
  subst hk
  exact hg
 have hG:w.grownBy w' none:=⟨hb.os,hb.tape,hb.output,hb.size,fun b h _=>hb.block b h⟩
 have hnone:hp ([]:List AObj) 0=none:=rfl
 obtain⟨A',c',he,g1,g2,hrd⟩:=how.form
 subst he
 have how0:Ow w' 0 0 s (.slice A' rows.length c') rows.length us:=⟨how.1,by
  rcases how.2 with h|⟨a,h,_,h'⟩|⟨g,off,cap,h,_,h'⟩
  ·exact .inl h
  ·exact .inr (.inl ⟨a,h,Nat.zero_le _,h'⟩)
  ·exact .inr (.inr ⟨g,off,cap,h,Nat.zero_le _,h'⟩)⟩
 obtain⟨S,K,E⟩:=En.new (n:=0) (o':=.sl s rows) (h:=.slice A' rows.length c') hnone hG (fun b hb'=>⟨how.lt b (by rw[←blk_own rfl];exact hb'),hlt b hb'⟩) ⟨_,how0,hf.rds,hs⟩
 have e:updF (hp []) 0 (some (.sl s rows))=hp [.sl s rows]:=by
  funext i
  match i with
  |0=>rfl
  |i+1=>rfl
 rw[e] at S E
 exact⟨_,rfl,F,_,S,K,E,.own (updF_same _ _ _)⟩
theorem rUint_sat (n:Nat) (hn:n<18446744073709551616):Sat Tryz.prog 66 [.d (.v (.int .u64 (n:Int)))] [] (.own 0) [.sl 1 ((enc n).map bR)]:=
 .ownNewF (e:=5) (by repeat constructor) (bR_flats _) one_len (by rw[List.length_map];exact (enc_lens n).1) fun w=>by
  rw[List.length_map]
  exact refUint_any n w hn
theorem encT_L (x:Bt):encT ⟨x.toArray⟩=encTL x:=by
 rfl
theorem rTextB_sat (x:Bt) (hn:x.length≤65536):Sat Tryz.prog 70 [.d (tD x)] [] (.own 0) [.sl 1 ((encTL x).map bR)]:=
 .ownNewF (e:=5) (by repeat constructor) (bR_flats _) one_len (by rw[List.length_map];exact (encTL_len x).1) fun w=>by
  rw[List.length_map,←encT_L]
  exact refText_any ⟨x.toArray⟩ w (by rw[tsz];exact hn)
set_option maxHeartbeats 4000000 in
theorem rBytes_satS (s:Ser):Sat Tryz.prog 69 [.d (serD s)] [] (.d (bsD (bytesS s))) []:=by
 obtain⟨nm,l⟩:=s
 have hl:(l.map labR).length=l.length:=List.length_map _
 have r1:=rRight_sat (nm,l)
 show Sat _ _ _ _ (.d (bsD (if rightB (nm,l)=true then encTL nm++enc l.length++labsT l else []))) _
 cases hr:rightB (nm,l) with
 |false=>
  rw[hr] at r1
  rw[if_neg (by simp)]
  refine Vq Tryz.func69 rfl rfl ?_
  conv=>whnf
  iterate 4
   repeat' first|exact T0|(first|refine Yd fun _=>?_|refine Ye fun _=>?_|refine Yg ?_|refine Yk (r1.pu rfl rfl) ?_);conv=>whnf|(refine Ya ?_ ?_<;>intro _<;>conv=>whnf)
   all_goals try (refine Or.inl ?_;conv=>whnf)
  all_goals try (exfalso;simp only[outL] at *;first|omega|contradiction|(simp_all;done)|(simp_all;omega))
  all_goals refine⟨[],?_⟩
  repeat any_goals first|exact T0|exact rfl|exact Yr|refine Ya ?_ ?_
  all_goals conv=>whnf
 |true=>
 rw[hr] at r1
 rw[if_pos rfl]
 obtain⟨q1,q2,q3⟩:=right_out hr
 have q2:l.length≤8:=q2
 have q3:∀ x∈l,labB x=true:=q3
 have q4:nm.length≤64:=nameL_len q1
 have t1:=rTextB_sat nm (by omega)
 have hb1:=encTL_len nm
 have hb2:=enc_lens l.length
 have hu:IntKind.u64.wrap ((l.map labR).length:Int)=(l.length:Int):=by
  show ((l.map labR).length:Int) % 18446744073709551616=_
  rw[hl]
  exact Int.emod_eq_of_lt (by omega) (by omega)
 have u2:Sat Tryz.prog 66 [.d (.v (.int .u64 (IntKind.u64.wrap ((l.map labR).length:Int))))] [] (.own 0) [.sl 1 ((enc l.length).map bR)]:=by
  rw[hu];exact rUint_sat _ (by omega)
 refine Vq Tryz.func69 rfl rfl ?_
 conv=>whnf
 iterate 3
  repeat' first|exact T0|(first|refine Yd fun _=>?_|refine Ye fun _=>?_|refine Yg ?_|refine Yk (r1.pu rfl rfl) ?_|refine Yk (t1.nw rfl) ?_|refine Yk (u2.nw rfl) ?_|refine Yk (ap1 rfl rfl (by omega)) ?_);conv=>whnf|(refine Ya ?_ ?_<;>intro _<;>conv=>whnf)
  all_goals try (refine Or.inl ?_;conv=>whnf)
 all_goals try (exfalso;simp only[outL] at *;first|omega|contradiction|(simp_all;done)|(simp_all;omega))
 refine⟨Nat,fun i=>i≤l.length,fun i=>([(4,iA i),(3,.own 1),(1,.ptr 0 0)],[.cells [.d (tD nm),.d (.sl 2 (l.map labR))],.sl 1 ((encTL nm++enc l.length++labsT (l.take i)).map bR)]),fun i=>l.length-i,⟨0,Nat.zero_le _,?_⟩,?_⟩
 ·all_goals refine⟨[(1,3)],?_⟩
  repeat any_goals first|exact T0|exact rfl|exact Yr|refine Ya ?_ ?_
  all_goals conv=>whnf
  show _=AObj.sl 1 ((encTL nm++enc l.length++[]).map bR)
  rw[List.append_nil]
 intro i hi
 have hi:i≤l.length:=hi
 have hb:=labsT_len (l:=l.take i) fun x hx=>q3 x (List.mem_of_mem_take hx)
 rw[List.length_take] at hb
 have hb3:(encTL nm++enc l.length++labsT (l.take i)).length≤2000:=by rw[List.length_append,List.length_append];omega
 conv=>whnf
 by_cases hlt:i<l.length
 ·have hx:l[i]?=some l[i]:=List.getElem?_eq_getElem hlt
  generalize l[i]=x at hx
  have hgx:=map_get (f:=labR) hx
  have hlb:=labB_len (q3 x (List.mem_of_getElem? hx))
  have d1:decide ((i:Int)<((l.map labR).length:Nat))=true:=decide_eq_true (by rw[hl];omega)
  have t2:=rTextB_sat x.1 (by omega)
  have t3:=rTextB_sat x.2 (by omega)
  have l1:=encTL_len x.1
  have l2:=encTL_len x.2
  have h1:(encTL nm++enc l.length++labsT (l.take i)).length+(encTL x.1).length≤100000:=by omega
  have h2:(encTL nm++enc l.length++labsT (l.take i)++encTL x.1).length+(encTL x.2).length≤100000:=by rw[List.length_append];omega
  iterate 4
   repeat' first|exact T0|(first|refine⟨i,_,rfl,hgx,?_⟩|refine Yd fun _=>?_|refine Ye fun _=>?_|refine Yg ?_|refine Yk (t2.nw rfl) ?_|refine Yk (t3.nw rfl) ?_|refine Yk (ap1 rfl rfl h1) ?_|refine Yk (ap1 rfl rfl h2) ?_);conv=>whnf|(refine Ya ?_ ?_<;>intro _<;>conv=>whnf)
   all_goals try (refine Or.inl ?_;conv=>whnf)
  all_goals try exact (bnl d1 ‹_›).elim
  refine⟨i+1,hlt,show l.length-(i+1)<l.length-i by omega,?_⟩
  all_goals refine⟨[(1,5)],?_⟩
  repeat any_goals first|exact T0|exact rfl|exact Yr|refine Ya ?_ ?_
  all_goals conv=>whnf
  ·exact wk1 (by omega)
  ·rw[labsT_next hx,←List.append_assoc (encTL nm++enc l.length),←List.append_assoc]
 ·have d1:decide ((i:Int)<((l.map labR).length:Nat))=false:=decide_eq_false (by rw[hl];omega)
  iterate 4
   repeat' first|exact T0|(first|refine Yd fun _=>?_|refine Ye fun _=>?_|refine Yg ?_);conv=>whnf|(refine Ya ?_ ?_<;>intro _<;>conv=>whnf)
   all_goals try (refine Or.inl ?_;conv=>whnf)
  all_goals try exact (bnl ‹_› d1).elim
  all_goals refine⟨[],?_⟩
  repeat any_goals first|exact T0|exact rfl|exact Yr|refine Ya ?_ ?_
  all_goals conv=>whnf
  rw[List.take_of_length_le (by omega)]
end Go.Proofs.YtfbfpnfgabamfaaGreat
namespace Go.Proofs.YtfbfpnfgabamfaaGreat
set_option linter.unusedSimpArgs false
open Go.RowKit
set_option linter.unusedVariables false
abbrev pan (v:Value):Ending:=.panicked [{ v:=v,recovered:=false }]
def SatP (P:Program) (g:FuncId) (args:List AV) (H:List AObj) (r:AV) (H':List AObj):Prop:=
 ∀ (F:Nat→Prop) (ρ:Nat→Option Value) (w:World) (vals:List Value),Env F ρ (hp H) w→RAs w F ρ args vals →
  Calls P g vals.toArray w fun e w'=>∃ v,e=pan v∧Post F ρ (hp H) w (hp H') r v w'
def CallP (P:Program) (g:FuncId) (args:List AV) (L:List AObj) (n:Nat) (e:Eff) (r:AV):Prop:=
 ∀ (H:Hp) (F:Nat→Prop) (ρ:Nat→Option Value) (w:World) (vals:List Value),Env F ρ H w→(∀ i∈e.rs,H i=L[i]?)→(∀ k,k<e.news.length→H (n+k)=none)→RAs w F ρ args vals →
  Calls P g vals.toArray w fun en w'=>∃ v,en=pan v∧Post F ρ H w (appN n e.news (appW e.ws H)) r v w'
section
variable {P:Program}
theorem SatP.at_ {g:FuncId} {args:List AV} {H0 H0':List AObj} {r:AV} (h:SatP P g args H0 r H0') (σ:List Nat) (L:List AObj) (n:Nat)
  (hl:Nat.beq σ.length H0.length=true) (hd:σ.Nodup) (hle:Nat.ble H0.length H0'.length=true) (hlive:AObj.lives H0=true) (hids:(AV.lts σ.length args && AObj.lts σ.length H0)=true)
  (hL:∀ j (_:j<σ.length),L[σ[j]]?=(AObj.rns (sub σ n) H0)[j]?) :
  CallP P g (AV.rns (sub σ n) args) L n ⟨σ,zipW σ (AObj.rns (sub σ n) (H0'.take σ.length)),AObj.rns (sub σ n) (H0'.drop σ.length)⟩ (r.rn (sub σ n)):=by
 have hl:=Nat.eq_of_beq_eq_true hl
 have hle:=Nat.le_of_ble_eq_true hle
 simp only[Bool.and_eq_true] at hids
 intro H F ρ w vals E hrs hn hv
 have hnl:(AObj.rns (sub σ n) (H0'.drop σ.length)).length=H0'.length-σ.length:=by rw[AObj.rns_length];simp
 simp only[hnl] at hn
 generalize hρ0:(fun j=>if j<σ.length then ρ (sub σ n j) else none:Nat→Option Value)=ρ0
 have hf:∀ j,j<σ.length→ρ0 j=ρ (sub σ n j):=fun j hj=>by rw[←hρ0];simp[hj]
 have hH:∀ j o,H0[j]?=some o→∃ hj:j<σ.length,H σ[j]=some (o.rn (sub σ n)):=by
  intro j o ho
  have hj:j<σ.length:=by rw[hl];exact (List.getElem?_eq_some_iff.1 ho).1
  refine⟨hj,?_⟩
  rw[hrs σ[j] (List.getElem_mem _),hL j hj,AObj.rns_get,ho];rfl
 have hσn:∀ (j:Nat) (hj:j<σ.length) (k:Nat),k<H0'.length-σ.length→σ[j]≠n+k:=by
  intro j hj k hk e
  have h1:=hn k hk
  obtain⟨_,h2⟩:=hH j H0[j] (by rw[List.getElem?_eq_getElem (by omega)])
  rw[e,h1] at h2;cases h2
 have inj:∀ (i j:Nat) (hi:i<σ.length) (hj:j<σ.length),σ[i]=σ[j]→i=j:=fun i j hi hj e=>(List.getElem_inj hd).1 e
 have E0:Env F ρ0 (hp H0) w:=by
  refine⟨E.fb,fun j hj=>?_,fun j o hj hlv=>?_,fun i j o o' hh hh' b e1 e2 l1 l2 r1 r2 b1 b2=>?_⟩
  ·rw[←hρ0]
   have:H0.length≤j:=List.getElem?_eq_none_iff.1 hj
   simp;omega
  ·obtain⟨hjl,e⟩:=hH j o hj
   obtain⟨hh,q1,q2,q3⟩:=E.rep _ _ e (by rw[AObj.rn_live];exact hlv)
   exact⟨hh,by rw[hf j hjl,sub_lt hjl];exact q1,q2.rn_inv hf (AObj.lts_one hids.2 hj),q3⟩
  ·obtain⟨h1,q1⟩:=hH i o e1
   obtain⟨h2,q2⟩:=hH j o' e2
   rw[hf i h1,sub_lt h1] at r1
   rw[hf j h2,sub_lt h2] at r2
   exact inj i j h1 h2 (E.inj _ _ _ _ hh hh' b q1 q2 (by rw[AObj.rn_live];exact l1) (by rw[AObj.rn_live];exact l2) r1 r2 b1 b2)
 have hlv0:∀ b,Lv ρ0 (hp H0) b→∃ (j:Nat) (hj:j<σ.length) (o:AObj) (hh:Value),H σ[j]=some o∧o.live=true∧ρ σ[j]=some hh∧blkOf hh=some b:=by
  rintro b ⟨j,o,hh,e1,e2,e3,e4⟩
  obtain⟨h1,q1⟩:=hH j o e1
  rw[hf j h1,sub_lt h1] at e3
  exact⟨j,h1,_,hh,q1,by rw[AObj.rn_live];exact e2,e3,e4⟩
 have hlv1:∀ b,Lv ρ0 (hp H0) b→Lv ρ H b:=fun b hb=>by
  obtain⟨j,hj,o,hh,q1,q2,q3,q4⟩:=hlv0 b hb
  exact⟨_,o,hh,q1,q2,q3,q4⟩
 refine (h F ρ0 w vals E0 (hv.rn_inv hf _ hids.1)).mono ?_
 rintro en w' ⟨v,rfl,F',ρ1,S1,K1,E1,R1⟩
 refine⟨v,rfl,F',fun k=>if n≤k∧k<n+(H0'.length-σ.length) then ρ1 (σ.length+(k-n)) else ρ k,?_⟩
 generalize hρ':(fun k=>if n≤k∧k<n+(H0'.length-σ.length) then ρ1 (σ.length+(k-n)) else ρ k:Nat→Option Value)=ρ'
 generalize hH':appN n (AObj.rns (sub σ n) (H0'.drop σ.length)) (appW (zipW σ (AObj.rns (sub σ n) (H0'.take σ.length))) H)=H'

 have vNew:∀ k,k<H0'.length-σ.length→H' (n+k)=(H0'[σ.length+k]?).map (AObj.rn (sub σ n)):=by
  intro k hk
  rw[←hH',appN_in (by rw[hnl];exact hk),AObj.rns_get,List.getElem?_drop]
 have vOld:∀ (j:Nat) (hj:j<σ.length),H' σ[j]=(H0'[j]?).map (AObj.rn (sub σ n)):=by
  intro j hj
  rw[←hH',appN_out (by
   rw[hnl]
   rcases Nat.lt_or_ge σ[j] n with q|q
   ·exact .inl q
   ·rcases Nat.lt_or_ge σ[j] (n+(H0'.length-σ.length)) with q2|q2
    ·exact absurd (show σ[j]=n+(σ[j]-n) by omega) (hσn j hj _ (by omega))
    ·exact .inr q2),appW_zip hj hd (by rw[AObj.rns_length];simp;omega),AObj.rns_get,List.getElem?_take_of_lt hj]
 have vFar:∀ k,¬(n≤k∧k<n+(H0'.length-σ.length))→k∉σ→H' k=H k:=by
  intro k h1 h2
  rw[←hH',appN_out (by rw[hnl];omega),appW_out (fun x hx e=>h2 (by rw[←e];exact zipW_mem hx))]
 have rNew:∀ k,k<H0'.length-σ.length→ρ' (n+k)=ρ1 (σ.length+k):=by
  intro k hk
  rw[←hρ']
  simp only
  rw[if_pos ⟨by omega,by omega⟩,Nat.add_sub_cancel_left]
 have rFar:∀ k,¬(n≤k∧k<n+(H0'.length-σ.length))→ρ' k=ρ k:=by
  intro k h1
  rw[←hρ']
  simp only
  rw[if_neg h1]
 have rOld:∀ (j:Nat) (hj:j<σ.length),ρ' σ[j]=ρ1 j:=by
  intro j hj
  have hc:¬(n≤σ[j]∧σ[j]<n+(H0'.length-σ.length)):=fun q=>hσn j hj (σ[j]-n) (by omega) (by omega)
  rw[rFar _ hc]
  obtain⟨_,q⟩:=hH j H0[j] (by rw[List.getElem?_eq_getElem (by omega)])
  obtain⟨hh,q1,_,_⟩:=E.rep _ _ q (by rw[AObj.rn_live];exact AObj.lives_get hlive (i:=j) (by rw[List.getElem?_eq_getElem (by omega)]))
  rw[q1]
  exact (K1 j hh (by rw[hf j hj,sub_lt hj];exact q1)).symm
 have hf':∀ j hh,ρ1 j=some hh→ρ' (sub σ n j)=some hh:=by
  intro j hh q
  rcases Nat.lt_or_ge j σ.length with hj|hj
  ·rw[sub_lt hj,rOld j hj];exact q
  ·have hlt:j<H0'.length:=by
    rcases Nat.lt_or_ge j H0'.length with q2|q2
    ·exact q2
    ·rw[E1.abs j (List.getElem?_eq_none_iff.2 q2)] at q;cases q
   rw[sub_ge hj,rNew _ (by omega),show σ.length+(j-σ.length)=j by omega];exact q

 have parts:∀ k o,H' k=some o→(∃ j o0,H0'[j]?=some o0∧o=o0.rn (sub σ n)∧k=sub σ n j∧ρ' k=ρ1 j)∨(¬(n≤k∧k<n+(H0'.length-σ.length))∧k∉σ∧H k=some o∧ρ' k=ρ k):=by
  intro k o hk
  by_cases h1:n≤k∧k<n+(H0'.length-σ.length)
  ·left
   have e:k=n+(k-n):=by omega
   rw[e,vNew (k-n) (by omega)] at hk
   obtain⟨o0,q1,q2⟩:=Option.map_eq_some_iff.1 hk
   exact⟨_,o0,q1,q2.symm,by rw[sub_ge (by omega)];omega,by rw[e,rNew _ (by omega),Nat.add_sub_cancel_left]⟩
  ·by_cases h2:k∈σ
   ·left
    obtain⟨j,hj,rfl⟩:=List.getElem_of_mem h2
    rw[vOld j hj] at hk
    obtain⟨o0,q1,q2⟩:=Option.map_eq_some_iff.1 hk
    exact⟨j,o0,q1,q2.symm,(sub_lt hj).symm,rOld j hj⟩
   ·exact .inr ⟨h1,h2,by rw[←vFar k h1 h2];exact hk,rFar k h1⟩
 have hlv2:∀ b,Lv ρ' H' b→w.heap.size≤b∨Lv ρ H b:=by
  rintro b ⟨k,o,hh,e1,e2,e3,e4⟩
  rcases parts k o e1 with⟨j,o0,q1,rfl,q3,q4⟩|⟨_,_,q3,q4⟩
  ·rw[AObj.rn_live] at e2
   rw[q4] at e3
   exact (S1.lsrc b ⟨j,o0,hh,q1,e2,e3,e4⟩).elim .inl fun q=>.inr (hlv1 b q)
  ·rw[q4] at e3
   exact .inr ⟨k,o,hh,q3,e2,e3,e4⟩
 have Kp:Keep ρ ρ':=by
  intro k hh hk
  by_cases h1:n≤k∧k<n+(H0'.length-σ.length)
  ·have:=E.abs k (by have:=hn (k-n) (by omega);rwa [show n+(k-n)=k by omega] at this)
   rw[this] at hk;cases hk
  ·rw[rFar k h1];exact hk
 have own:∀ k o hh b,¬(k∈σ)→H k=some o→o.live=true→ρ k=some hh→blkOf hh=some b→b<w.heap.size∧¬F b∧¬Lv ρ0 (hp H0) b:=by
  intro k o hh b h1 h2 h3 h4 h5
  obtain⟨h0,q1,q2,q3⟩:=E.rep k o h2 h3
  rw[h4] at q1;injection q1 with q1;subst q1
  refine⟨(q3 b h5).1,(q3 b h5).2,fun q=>?_⟩
  obtain⟨j,hj,o2,h6,g1,g2,g3,g4⟩:=hlv0 b q
  exact h1 (E.inj k σ[j] o o2 hh h6 b h2 g1 h3 g2 h4 g3 h5 g4 ▸ List.getElem_mem _)
 refine⟨⟨S1.os,S1.tape,S1.output,S1.size,fun b hb hnl=>S1.unch b hb fun q=>hnl (hlv1 b q),S1.fsub,fun b hb=>(S1.fsrc b hb).elim .inl fun q=>.inr (q.elim .inl fun q=>.inr (hlv1 b q)),hlv2⟩,Kp,⟨E1.fb,fun k hk=>?_,fun k o hk hlv=>?_,fun i j o o' hi hj b e1 e2 l1 l2 r1 r2 b1 b2=>?_⟩,R1.rn hf'⟩
 ·by_cases h1:n≤k∧k<n+(H0'.length-σ.length)
  ·have e:k=n+(k-n):=by omega
   rw[e,vNew (k-n) (by omega)] at hk
   simp at hk
   omega
  ·by_cases h2:k∈σ
   ·obtain⟨j,hj,rfl⟩:=List.getElem_of_mem h2
    rw[vOld j hj] at hk
    simp at hk
    omega
   ·rw[rFar k h1];exact E.abs k (by rw[←vFar k h1 h2];exact hk)
 ·rcases parts k o hk with⟨j,o0,q1,rfl,q3,q4⟩|⟨_,q2,q3,q4⟩
  ·rw[AObj.rn_live] at hlv
   obtain⟨hh,g1,g2,g3⟩:=E1.rep j o0 q1 hlv
   exact⟨hh,by rw[q4];exact g1,g2.rn hf',g3⟩
  ·obtain⟨hh,g1,g2,g3⟩:=E.rep k o q3 hlv
   have hown:∀ b,blkOf hh=some b→b<w.heap.size∧¬F b∧¬Lv ρ0 (hp H0) b:=fun b hb=>own k o hh b q2 q3 hlv g1 hb
   refine⟨hh,by rw[q4];exact g1,g2.mono S1.size (fun b hb hlt=>S1.unch b hlt (hown b hb).2.2) (S1.keepF E0) S1.fsub Kp,fun b hb=>⟨Nat.lt_of_lt_of_le (hown b hb).1 S1.size,fun q=>?_⟩⟩
   rcases S1.fsrc b q with q|q|q
   ·exact (hown b hb).2.1 q
   ·have:=(hown b hb).1;omega
   ·exact (hown b hb).2.2 q
 ·have mix:∀ (i j:Nat) (o o':AObj) (hi hj:Value) (b:Nat),(∃ j0 o0,H0'[j0]?=some o0∧o=o0.rn (sub σ n)∧i=sub σ n j0∧ρ' i=ρ1 j0)→(j∉σ∧H j=some o'∧ρ' j=ρ j)→o.live=true→o'.live=true→ρ' i=some hi→ρ' j=some hj→blkOf hi=some b→blkOf hj=some b→False:=by
   rintro i j o o' hi hj b ⟨j0,o0,q1,rfl,q3,q4⟩ ⟨p1,p2,p3⟩ l1 l2 r1 r2 b1 b2
   rw[p3] at r2
   rw[q4] at r1
   rw[AObj.rn_live] at l1
   obtain⟨g1,g2,g3⟩:=own j o' hj b p1 p2 l2 r2 b2
   rcases S1.lsrc b ⟨j0,o0,hi,q1,l1,r1,b1⟩ with q|q
   ·omega
   ·exact g3 q
  rcases parts i o e1 with p|⟨p0,p1,p2,p3⟩<;>rcases parts j o' e2 with q|⟨q0,q1,q2,q3⟩
  ·obtain⟨j0,o0,g1,rfl,g3,g4⟩:=p
   obtain⟨j1,o1,k1,rfl,k3,k4⟩:=q
   rw[g4] at r1
   rw[k4] at r2
   rw[AObj.rn_live] at l1 l2
   rw[g3,k3,E1.inj j0 j1 o0 o1 hi hj b g1 k1 l1 l2 r1 r2 b1 b2]
  ·exact (mix i j o o' hi hj b p ⟨q1,q2,q3⟩ l1 l2 r1 r2 b1 b2).elim
  ·exact (mix j i o' o hj hi b q ⟨p1,p2,p3⟩ l2 l1 r2 r1 b2 b1).elim
  ·rw[p3] at r1
   rw[q3] at r2
   exact E.inj i j o o' hi hj b p2 q2 l1 l2 r1 r2 b1 b2
theorem SatP.pu {L:List AObj} {n:Nat} {g:FuncId} {args:List AV} {r:AV} (h:SatP P g args [] r []) (hi:AV.lts 0 args=true) (hr:AV.lt 0 r=true):CallP P g args L n e0 r:=by
 have:=h.at_ [] L n rfl List.nodup_nil rfl rfl (by simp[hi,AObj.lts]) (fun j hj=>by simp at hj)
 rw[AV.rns_zero _ hi,AV.rn_zero _ hr] at this
 exact this
theorem SatP.at1 {L:List AObj} {n:Nat} {g:FuncId} {args:List AV} {o o':AObj} {N:List AObj} {r:AV} (h:SatP P g args [o] r (o'::N)) (a:Nat) (hlive:o.live=true) (hids:(AV.lts 1 args && AObj.lts 1 [o])=true)
  (ha:L[a]?=some (o.rn (sub [a] n))):CallP P g (AV.rns (sub [a] n) args) L n ⟨[a],[(a,o'.rn (sub [a] n))],AObj.rns (sub [a] n) N⟩ (r.rn (sub [a] n)):=
 h.at_ [a] L n rfl (by simp) rfl (by simp[AObj.lives,hlive]) hids fun j hj=>by
  match j,hj with
  |0,_=>exact ha
end
def InX (F0:Nat→Prop) (ρ0:Nat→Option Value) (H0:Hp) (w0:World) (bs:List Deferred) (ρk:Nat→Option Value) (k0 N:Nat) (tm:Tm) (L:List AObj) (a:Act) (w:World):Prop:=
 ∃ F ρ,Step F0 ρ0 H0 w0 F ρ (hp L) w∧Keep ρk ρ∧Env F ρ (hp L) w∧Slots w F ρ N tm a∧k0≤L.length∧a.defers=bs
abbrev panE (v:Value):Exit:=.panic [{ v:=v,recovered:=false }]
def opX (P:Program) (E:Nat→Bool) (Pn:Nat→Bool) (op:Op) (ev:Operand→AV) (L:List AObj) (K:Eff→AV→Prop) (KP:Eff→Value→Prop) (old:Prop):Prop:=
 match op with
 | .panic x=>(match ev x with | .d (.v (.iface t u))=>KP e0 (.iface t u)|_=>False)
 | .call { callee:=.value f,args:=aas,argTypes:=ats }=>(match ev f with
  | .fn (.func g) [] []=>(match Pn g with
   |true=>(match E g with
    |true=>evsK ev aas.toList fun xs=>lenNK L fun n=>(∃ e r,CallOK P g xs L n e r∧fRes r (K e))∨(∃ e v,CallP P g xs L n e (.d (.v v))∧KP e v)
    |false=>False)
   |false=>old)
  |_=>old)
 |_=>old
abbrev OpsX:=Tm→List AObj→(Tm→List AObj→Prop)→(Value→Tm→List AObj→Prop)→Prop
def opStepX (P:Program) (T:TypeId→TI) (E:Nat→Bool) (Pn:Nat→Bool) (N:Nat) (ol:List Oper) (o:Oper) (ih:OpsX):OpsX:=fun tm L K KP=>
 match o.guard with
 |none=>opX P E Pn o.op (evAV tm) L (fun e x=>applyK e L fun L'=>putK N o.dst x tm fun tm'=>ih tm' L' K KP) (fun e v=>applyK e L fun L'=>KP v tm L')
   (opStep P T E N ol o (fun tm L _=>ih tm L K KP) tm L K)
 |some _=>opStep P T E N ol o (fun tm L _=>ih tm L K KP) tm L K
def opsEndX:OpsX:=fun tm L K _=>K tm L
def vcOpsX (P:Program) (T:TypeId→TI) (E:Nat→Bool) (Pn:Nat→Bool) (N:Nat) (ol:List Oper) (l:List Oper):OpsX:=
 List.rec (motive:=fun _=>OpsX) opsEndX (fun o _ ih=>opStepX P T E Pn N ol o ih) l
def cRegionX (P:Program) (T:TypeId→TI) (E:Nat→Bool) (Pn:Nat→Bool) (N:Nat) (ops:Array Oper) (draw:Bool):CodeF:=fun k0 rd tm L K=>
 match draw with
 |false=>vcOpsX P T E Pn N ops.toList ops.toList tm L (K .normal) (fun v tm L=>K (panE v) tm L)
 |true=>(flowOk ops && dstsOk ops.toList N && guardsOk ops && noDefer ops.toList)=true∧drawOps P T E N ops.toList ops.toList tm L (fun l=>l) fun es tm L=>orderB ops.toList es=true∧K .normal tm L
def vcCodeX (P:Program) (T:TypeId→TI) (E:Nat→Bool) (Pn:Nat→Bool) (N:Nat) (c:Code):CodeF:=
 Code.rec (motive:=fun _=>CodeF) (cEnd .normal) (fun _ ops draw=>cRegionX P T E Pn N ops draw) (fun c _ x y=>cSeqJ c x y) (fun c _ _ x y=>cCond c x y) (fun id _ x=>cBlock id x) (fun _ x=>cLoop x)
  (fun _ _ _ _ _ _=>cNo) (fun id=>cEnd (.exit id)) (fun _ _=>cNo) (fun _=>cEnd .normal) (fun _=>cNo) (cEnd .ret) (fun _=>cNo) c
section
variable {P:Program} {w w':World} {F F':Nat→Prop} {ρ ρ':Nat→Option Value} {L L':List AObj} {T:TypeId→TI} {E Pn:Nat→Bool} {N:Nat} {tm tm':Tm} {a:Act}
variable {F0:Nat→Prop} {ρ0 ρk:Nat→Option Value} {H0:Hp} {w0:World} {bs:List Deferred} {k0:Nat} {K:Tm→List AObj→Prop} {KP:Value→Tm→List AObj→Prop} {Q:Exit→Act→World→Prop} {ops:Array Oper} {nF:Nat}
theorem InX.weak (hk0:∀ i h,ρk i=some h→i<k0) (h:Weak k0 tm L tm' L') (hI:InX F0 ρ0 H0 w0 bs ρk k0 N tm L a w):InX F0 ρ0 H0 w0 bs ρk k0 N tm' L' a w:=by
 obtain⟨F,ρ,S0,K0,En,Sl,hk,hd⟩:=hI
 have h1:In F0 ρ0 H0 w0 w.heap.size ρk k0 N tm L { a with defers:=[] } w:=⟨F,ρ,S0,K0,En,Sl,hk,Marks.nil⟩
 obtain⟨F',ρ',S1,K1,E1,Sl1,hk1,_⟩:=h1.weak hk0 h
 exact⟨F',ρ',S1,K1,E1,Sl1,hk1,hd⟩
theorem Runs.wpX {o:Oper} {e:Eff} {x:AV} {next:Act→World→Prop} (hr:Runs P ((execOp a.eval o).run P w) (Post F ρ (hp L) w (appN L.length e.news (appW e.ws (hp L))) x)) (S0:Step F0 ρ0 H0 w0 F ρ (hp L) w) (K0:Keep ρk ρ) (En:Env F ρ (hp L) w) (Sl:Slots w F ρ N tm a)
  (hle:L.length≤L'.length) (hL':hp L'=appN L.length e.news (appW e.ws (hp L))) (h:∀ v w' F' ρ',Step F0 ρ0 H0 w0 F' ρ' (hp L') w'→Keep ρk ρ'→Env F' ρ' (hp L') w'→Slots w' F' ρ' N tm a→RA w' F' ρ' x v→next (a.put o.dst v) w'):o.wpIn (Fw none) nF P a w next Q:=by
 refine wpIn_ro (fun c ho=>runs_not_defer ho hr) ?_
 have post:∀ v w',Post F ρ (hp L) w (appN L.length e.news (appW e.ws (hp L))) x v w'→next (a.put o.dst v) w':=by
  rintro v w' ⟨F',ρ',S1,K1,E1,R1⟩
  rw[←hL'] at S1 E1
  exact h v w' F' ρ' (S0.trans S1) (K0.trans K1) E1 (Sl.mono S1 En K1) R1
 unfold Oper.wp
 unfold Runs at hr
 split at hr
 ·rename_i v w' hrun;rw[hrun];exact post v w' hr
 ·rename_i w' hrun;rw[hrun];exact post undef w' hr
 ·rename_i f args w' hrun
  rw[hrun,Oper.upon_enter]
  refine hr.mono ?_
  rintro en w'' ⟨v,rfl,hp⟩
  exact post v w'' hp
 ·exact hr.elim
theorem vcOpsX_out (hT:T=tiOf P) (hE:∀ g,E g=true→entersB P g=true):∀ (l:List Oper) (tm:Tm) (L:List AObj) (a:Act) (w:World),vcOpsX P T E Pn N ops.toList l tm L K KP→InX F0 ρ0 H0 w0 bs ρk k0 N tm L a w →
  (∀ tm L a w,K tm L→InX F0 ρ0 H0 w0 bs ρk k0 N tm L a w→Q .normal a w)→(∀ v tm L a w,KP v tm L→InX F0 ρ0 H0 w0 bs ρk k0 N tm L a w→Q (panE v) a w)→wpListIn (Fw none) nF P ops Q l a w
 |[],tm,L,a,w,h,hI,hK,_=>hK tm L a w h hI
 |o::r,tm,L,a,w,h,hI,hK,hP=>by
  have old:opStep P T E N ops.toList o (fun tm L _=>vcOpsX P T E Pn N ops.toList r tm L K KP) tm L K→wpListIn (Fw none) nF P ops Q (o::r) a w:=by
   intro h
   unfold opStep at h
   obtain⟨F,ρ,S0,K0,En,Sl,hk,hM⟩:=hI
   rw[wpListIn]
   obtain⟨tm0,hs,h⟩:=gvK_out h
   replace Sl:=Sl.same hs
   rcases h with⟨hg,h⟩|⟨hg,h⟩
   ·rw[Sl.guard hg,if_pos rfl]
    have h:∃ e x,(applyK e L fun L'=>putK N o.dst x tm0 fun tm'=>vcOpsX P T E Pn N ops.toList r tm' L' K KP)∧Runs P ((execOp a.eval o).run P w) (Post F ρ (hp L) w (appN L.length e.news (appW e.ws (hp L))) x):=by
     unfold opNK at h
     split at h
     ·obtain⟨X,R,ws,rr,hD,hK⟩:=evsK_out h
      obtain⟨y,hy,hr⟩:=hD o F ρ w a.eval rfl rfl En (RAs.of_map (fun x=>Sl.eval x) _)
      exact⟨⟨[],ws y,[]⟩,rr y,fRes_out (hK y hy),hr⟩
     ·obtain⟨e,x,h1,h2⟩:=opK_out hT hE h
      exact⟨e,x,h1,h2.runs En Sl⟩
    obtain⟨e,x,h1,h2⟩:=h
    obtain⟨L',h3,h4,h5⟩:=applyK_out h1
    refine h2.wpX S0 K0 En Sl h5 h4 fun v w' F' ρ' S1 K1 E1 Sl1 R1=>?_
    obtain⟨tm',h6,h7,_⟩:=Sl1.put R1 h3
    exact vcOpsX_out hT hE r tm' L' _ w' h6 ⟨F',ρ',S1,K1,E1,h7,by omega,by rw[put_defs];exact hM⟩ hK hP
   ·rw[Sl.guard hg,if_neg (by simp)]
    obtain⟨tm',h6,h7,_⟩:=Sl.put (.d (.v undef)) h
    exact⟨fun _ _=>trivial,vcOpsX_out hT hE r tm' L _ w h6 ⟨F,ρ,S0,K0,En,h7,hk,by rw[put_defs];exact hM⟩ hK hP⟩
  have h:opStepX P T E Pn N ops.toList o (vcOpsX P T E Pn N ops.toList r) tm L K KP:=h
  unfold opStepX at h
  split at h
  case h_2=>exact old h
  rename_i hgn
  unfold opX at h
  split at h
  ·
   rename_i x hop
   split at h
   ·rename_i ti ui hv
    generalize hvv:Value.iface ti ui=v at *
    obtain⟨L',h3,h4,h5⟩:=applyK_out h
    have hL':hp L'=hp L:=h4
    obtain⟨F,ρ,S0,K0,En,Sl,hk,hM⟩:=hI
    have hev:=Sl.eval x
    rw[hv] at hev
    have hev:=hev.v_out
    have hI':InX F0 ρ0 H0 w0 bs ρk k0 N tm L' a w:=⟨F,ρ,by rw[hL'];exact S0,K0,by rw[hL'];exact En,Sl,by omega,hM⟩
    rw[wpListIn]
    rw[show Region.wanted o (yielded ops a.tmps)=true from by simp[Region.wanted,hgn],if_pos rfl]
    refine wpIn_ro (fun c ho=>by rw[hop] at ho;cases ho) ?_
    unfold Oper.wp
    have hrun:(execOp a.eval o).run P w=.halt (.panic v) w:=by
     simp only[execOp,hop,hev,←hvv]
     rfl
    rw[hrun]
    exact hP v tm L' a w h3 hI'
   ·exact h.elim
  ·rename_i f aas ats hop
   split at h
   ·rename_i g hf
    split at h
    ·split at h
     ·rename_i hg
      have h:=natK_iff.1 (evsK_out h)
      obtain⟨F,ρ,S0,K0,En,Sl,hk,hM⟩:=hI
      have hev:=Sl.eval f
      rw[hf] at hev
      generalize hvf:a.eval f=vf at hev
      have hargs:RAs w F ρ (aas.toList.map (evAV tm)) (aas.toList.map a.eval):=RAs.of_map (fun x=>Sl.eval x) _
      cases hev with|fn hfirst hcaps=>
       cases hfirst
       cases hcaps
       have hrun:(execOp a.eval o).run P w=.ok (.enter g (aas.toList.map a.eval).toArray) w:=by
        have he:=run_enter (hE g hg) (aas.toList.map a.eval).toArray w
        simp[execOp,hop,resolve,hvf,Deferred.ofValue,invoke]
        have e1:Array.map a.eval aas=(aas.toList.map a.eval).toArray:=by
         apply Array.ext'
         simp
        rw[e1]
        exact he
       rw[wpListIn]
       rw[show Region.wanted o (yielded ops a.tmps)=true from by simp[Region.wanted,hgn],if_pos rfl]
       refine wpIn_ro (fun c ho=>by rw[hop] at ho;cases ho) ?_
       unfold Oper.wp
       rw[hrun,Oper.upon_enter]
       rcases h with⟨e,r',hC,hKK⟩|⟨e,v,hC,hKK⟩
       ·have hKK:=fRes_out hKK
        obtain⟨L',h3,h4,h5⟩:=applyK_out hKK
        refine (hC (hp L) F ρ w _ En (fun _ _=>rfl) (fun k _=>List.getElem?_eq_none (by omega)) hargs).mono ?_
        rintro en w'' ⟨v,rfl,F',ρ',S1,K1,E1,R1⟩
        rw[←h4] at S1 E1
        obtain⟨tm',h6,h7,_⟩:=(Sl.mono S1 En K1).put R1 h3
        exact vcOpsX_out hT hE r tm' L' _ w'' h6 ⟨F',ρ',S0.trans S1,K0.trans K1,E1,h7,by omega,by rw[put_defs];exact hM⟩ hK hP
       ·obtain⟨L',h3,h4,h5⟩:=applyK_out hKK
        refine (hC (hp L) F ρ w _ En (fun _ _=>rfl) (fun k _=>List.getElem?_eq_none (by omega)) hargs).mono ?_
        rintro en w'' ⟨v',rfl,F',ρ',S1,K1,E1,R1⟩
        have:=R1.v_out
        subst this
        rw[←h4] at S1 E1
        exact hP v' tm L' a w'' h3 ⟨F',ρ',S0.trans S1,K0.trans K1,E1,Sl.mono S1 En K1,by omega,hM⟩
     ·exact h.elim
    ·exact old h
   ·exact old h
  ·exact old h
end
def SoundX (P:Program) (N:Nat) (c:Code) (x:CodeF):Prop:=
 ∀ (F0:Nat→Prop) (ρ0:Nat→Option Value) (H0:Hp) (w0:World) (bs:List Deferred) (ρk:Nat→Option Value) (k0:Nat) (nF:Nat),(∀ i h,ρk i=some h→i<k0) →
  ∀ (tm:Tm) (L:List AObj) (K:Exit→Tm→List AObj→Prop) (a:Act) (w:World),x k0 false tm L K→InX F0 ρ0 H0 w0 bs ρk k0 N tm L a w→c.wpIn (Fw none) nF P (fun e a' w'=>∃ tm' L',K e tm' L'∧InX F0 ρ0 H0 w0 bs ρk k0 N tm' L' a' w') a w
section
variable {P:Program} {w w':World} {F F':Nat→Prop} {ρ ρ':Nat→Option Value} {L L':List AObj} {T:TypeId→TI} {E Pn:Nat→Bool} {N:Nat} {tm tm':Tm} {a:Act}
theorem vcCodeX_out (hT:T=tiOf P) (hE:∀ g,E g=true→entersB P g=true) (hm:P.follows .mixedOrders=true):∀ (c:Code),SoundX P N c (vcCodeX P T E Pn N c)
 | .skip=>fun F0 ρ0 H0 w0 bs ρk k0 nF hk0 tm L K a w h hI=>wpIn_skip ⟨tm,L,h,hI⟩
 | .label _=>fun F0 ρ0 H0 w0 bs ρk k0 nF hk0 tm L K a w h hI=>wpIn_label ⟨tm,L,h,hI⟩
 | .region id ops draw=>fun F0 ρ0 H0 w0 bs ρk k0 nF hk0 tm L K a w h hI=>by
  have h:cRegionX P T E Pn N ops draw k0 false tm L K:=h
  unfold cRegionX at h
  split at h
  ·exact wpIn_region_list (vcOpsX_out hT hE ops.toList tm L a w h hI (fun tm L a w h hI=>⟨tm,L,h,hI⟩) fun v tm L a w h hI=>⟨tm,L,h,hI⟩)
  ·obtain⟨hreg,h⟩:=h
   obtain⟨es,tm',L',hTr,⟨hord,hK⟩,hle⟩:=drawOps_out hT hE h
   obtain⟨F,ρ,S0,K0,En,Sl,hk,hM⟩:=hI
   refine draw_out hm hreg hTr hord En Sl fun a' w' F' ρ' S1 K1 E1 Sl1 hd=>⟨tm',L',hK,F',ρ',S0.trans S1,K0.trans K1,E1,Sl1,by omega,by rw[hd];exact hM⟩
 | .seq x y=>fun F0 ρ0 H0 w0 bs ρk k0 nF hk0 tm L K a w h hI=>by
  have h:cSeqJ x (vcCodeX P T E Pn N x) (vcCodeX P T E Pn N y) k0 false tm L K:=h
  have h:cJoin (vcCodeX P T E Pn N x) (vcCodeX P T E Pn N y) k0 false tm L K:=cSeqJ_out h
  rcases h with h|⟨X,Inv,pat,h,hz⟩
  ·unfold cSeq at h
   refine wpIn_seq (wpIn_mono (vcCodeX_out hT hE hm x F0 ρ0 H0 w0 bs ρk k0 nF hk0 tm L _ a w h hI) fun e a' w' ⟨tm',L',hq,hI'⟩=>?_)
   cases e with
   |normal=>exact vcCodeX_out hT hE hm y F0 ρ0 H0 w0 bs ρk k0 nF hk0 tm' L' K a' w' hq hI'
   |_=>exact⟨tm',L',hq,hI'⟩
  ·refine wpIn_seq (wpIn_mono (vcCodeX_out hT hE hm x F0 ρ0 H0 w0 bs ρk k0 nF hk0 tm L _ a w h hI) fun e a' w' ⟨tm',L',hq,hI'⟩=>?_)
   cases e with
   |normal=>
    obtain⟨z,hI0,hwk⟩:=hq
    exact vcCodeX_out hT hE hm y F0 ρ0 H0 w0 bs ρk k0 nF hk0 _ _ K a' w' (hz z hI0) (hI'.weak hk0 hwk)
   |_=>exact⟨tm',L',hq,hI'⟩
 | .cond c x y=>fun F0 ρ0 H0 w0 bs ρk k0 nF hk0 tm L K a w h hI=>by
  have h:cCond c (vcCodeX P T E Pn N x) (vcCodeX P T E Pn N y) k0 false tm L K:=h
  unfold cCond at h
  split at h
  ·rename_i b hb
   have hc:a.eval c=.bool b:=by
    obtain⟨F,ρ,_,_,_,Sl,_,_⟩:=hI
    have:=Sl.eval c
    rw[hb] at this
    exact this.v_out
   split at h
   ·rename_i t _
    have hs:∀ b',b=b'→InX F0 ρ0 H0 w0 bs ρk k0 N ((t,.d (.v (.bool b')))::tm) L a w:=by
     rintro b' rfl
     obtain⟨F,ρ,h1,h2,h3,Sl,h4⟩:=hI
     exact⟨F,ρ,h1,h2,h3,Sl.same (.put hb),h4⟩
    exact wpIn_cond_split hc (fun hb=>vcCodeX_out hT hE hm x F0 ρ0 H0 w0 bs ρk k0 nF hk0 _ L K a w (h.1 hb) (hs _ hb)) fun hb=>vcCodeX_out hT hE hm y F0 ρ0 H0 w0 bs ρk k0 nF hk0 _ L K a w (h.2 hb) (hs _ hb)
   ·exact wpIn_cond_split hc (fun hb=>vcCodeX_out hT hE hm x F0 ρ0 H0 w0 bs ρk k0 nF hk0 tm L K a w (h.1 hb) hI) fun hb=>vcCodeX_out hT hE hm y F0 ρ0 H0 w0 bs ρk k0 nF hk0 tm L K a w (h.2 hb) hI
  ·exact h.elim
 | .block id c=>fun F0 ρ0 H0 w0 bs ρk k0 nF hk0 tm L K a w h hI=>by
  have h:cBlock id (vcCodeX P T E Pn N c) k0 false tm L K:=h
  unfold cBlock at h
  refine wpIn_block (wpIn_mono (vcCodeX_out hT hE hm c F0 ρ0 H0 w0 bs ρk k0 nF hk0 tm L _ a w h hI) fun e a' w' ⟨tm',L',hq,hI'⟩=>?_)
  cases e with
  |exit i=>
   unfold Exit.inBlock
   simp only at hq
   by_cases hid:i=id
   ·subst hid
    simp only[if_true]
    rw[show Nat.beq i i=true by simp] at hq
    exact⟨tm',L',hq,hI'⟩
   ·simp only[if_neg hid]
    have:Nat.beq i id=false:=by cases hb:Nat.beq i id with|false=>rfl|true=>exact absurd (Nat.eq_of_beq_eq_true hb) hid
    rw[this] at hq
    exact⟨tm',L',hq,hI'⟩
  |_=>exact⟨tm',L',hq,hI'⟩
 | .loop c=>fun F0 ρ0 H0 w0 bs ρk k0 nF hk0 tm L K a w h hI=>by
  have h:cLoop (vcCodeX P T E Pn N c) k0 false tm L K:=h
  unfold cLoop at h
  obtain⟨X,Inv,pat,meas,⟨x0,hx0,hw0⟩,hround⟩:=h
  refine wp_loop_ghost (nF:=nF) (fun x a w=>Inv x∧InX F0 ρ0 H0 w0 bs ρk k0 N (pat x).1 (pat x).2 a w) meas (fun x a w hx=>?_) x0 a w ⟨hx0,hI.weak hk0 hw0⟩
  refine wpIn_mono (vcCodeX_out hT hE hm c F0 ρ0 H0 w0 bs ρk k0 nF hk0 _ _ _ a w (hround x hx.1) hx.2) fun e a' w' ⟨tm',L',hq,hI'⟩=>?_
  cases e with
  |normal=>
   obtain⟨y,hy,hlt,hwk⟩:=hq
   exact⟨y,⟨hy,hI'.weak hk0 hwk⟩,hlt⟩
  |_=>exact⟨tm',L',hq,hI'⟩
 | .exit id=>fun F0 ρ0 H0 w0 bs ρk k0 nF hk0 tm L K a w h hI=>wpIn_exit ⟨tm,L,h,hI⟩
 | .ret=>fun F0 ρ0 H0 w0 bs ρk k0 nF hk0 tm L K a w h hI=>wpIn_ret ⟨tm,L,h,hI⟩
 | .rangeFunc ..=>fun _ _ _ _ _ _ _ _ _ _ _ _ _ _ h _=>h.elim
 | .scope _=>fun _ _ _ _ _ _ _ _ _ _ _ _ _ _ h _=>h.elim
 | .goto _=>fun _ _ _ _ _ _ _ _ _ _ _ _ _ _ h _=>h.elim
 | .refuse _=>fun _ _ _ _ _ _ _ _ _ _ _ _ _ _ h _=>h.elim
theorem inX_begin {fn:Func} {args:List AV} {H:List AObj} {vals:List Value} {bs:List Deferred} (En:Env F ρ (hp H) w) (hv:RAs w F ρ args vals) (hn:Nat.ble args.length fn.ntmps=true) (hbs:bs=[]) :
  InX F ρ (hp H) w bs ρ H.length fn.ntmps (params 0 args) H { tmps:=vals.toArray++Array.replicate (fn.ntmps-vals.toArray.size) undef,defers:=[] } w:=by
 have hl:=hv.length
 have hn:=Nat.le_of_ble_eq_true hn
 refine⟨F,ρ,Step.refl _ _ _ _,Keep.refl ρ,En,⟨fun d=>?_,?_⟩,Nat.le_refl _,hbs.symm⟩
 ·rw[params_lk,if_pos (Nat.zero_le _),Nat.sub_zero]
  cases hd:args[d]? with
  |none=>exact .any _
  |some x=>
   obtain⟨v,h1,h2⟩:=hv.get hd
   have hlt:=(List.getElem?_eq_some_iff.1 h1).1
   have:(vals.toArray++Array.replicate (fn.ntmps-vals.toArray.size) undef).getD d undef=v:=by
    rw[Array.getD_eq_getD_getElem?,Array.getElem?_append_left (by simpa using hlt)]
    simp[h1]
   rw[this];exact h2
 ·simp;omega
theorem rho_lt {H:List AObj} (En:Env F ρ (hp H) w):∀ i v,ρ i=some v→i<H.length:=fun i v hi=>by
 rcases Nat.lt_or_ge i H.length with q|q
 ·exact q
 ·rw[En.abs i (List.getElem?_eq_none q)] at hi;cases hi
theorem sat_of_vcX {g:FuncId} {fn:Func} {c:Code} {args:List AV} {H H':List AObj} {r:AV} (Pn:Nat→Bool) (hf:P.funcs[g]?=some fn) (hb:fn.body=some c) (hT:T=tiOf P) (hE:∀ g,E g=true→entersB P g=true) (hm:P.follows .mixedOrders=true)
  (hn:Nat.ble args.length fn.ntmps=true) (h:vcCodeX P T E Pn fn.ntmps c H.length false (params 0 args) H (retK T fn.results.toList H.length r H')):Sat P g args H r H':=by
 intro F ρ w vals En hv
 have hk0:=rho_lt En
 refine calls_of_wp_defers hf hb (wp_of_ro (n:=0) (wpIn_mono (vcCodeX_out hT hE hm c F ρ (hp H) w [] ρ H.length 0 hk0 _ H _ _ w h (inX_begin En hv hn rfl)) fun e a' w' ⟨tm',L',hq,F',ρ',S1,K1,E1,Sl1,hle,hd⟩=>?_))
 have fin:(resK T L' fn.results.toList tm' fun l=>fAV (oneOr l) fun y=>∃ sw,EndS H.length r H' y L' sw)→Leaves P fn a'.tmps (fun e w'=>∃ v,e=.returned v∧Post F ρ (hp H) w (hp H') r v w') a'.defers .returning w':=by
  intro h
  subst hT
  rw[hd]
  obtain⟨l,vs,h1,h2,h3⟩:=resK_out E1 Sl1 h
  obtain⟨sw,h4⟩:=fAV_iff.1 h1
  obtain⟨v,hrun,hv'⟩:=run_results h3
  obtain⟨F2,ρ2,S3,K2,E3,R2⟩:=h4.out hle E1 (hv' _ _ _ h2)
  exact⟨v,hrun,v,rfl,_,_,S1.trans S3,fun i u hi=>K2 i u (hk0 i u hi) (K1 i u hi),E3,R2⟩
 cases e with
 |normal=>exact fin hq
 |ret=>exact fin hq
 |_=>exact hq.elim
def panK (k0:Nat) (r:AV) (H':List AObj) (e:Exit) (tm:Tm) (L:List AObj):Prop:=
 match e with
 | .panic [{ v:=v,recovered:=false,goexit:=false }]=>∃ sw,EndS k0 r H' (.d (.v v)) L sw
 |_=>False
theorem satP_of_vcX {g:FuncId} {fn:Func} {c:Code} {args:List AV} {H H':List AObj} {r:AV} (Pn:Nat→Bool) (hf:P.funcs[g]?=some fn) (hb:fn.body=some c) (hT:T=tiOf P) (hE:∀ g,E g=true→entersB P g=true) (hm:P.follows .mixedOrders=true)
  (hn:Nat.ble args.length fn.ntmps=true) (h:vcCodeX P T E Pn fn.ntmps c H.length false (params 0 args) H (panK H.length r H')):SatP P g args H r H':=by
 intro F ρ w vals En hv
 have hk0:=rho_lt En
 refine calls_of_wp_defers hf hb (wp_of_ro (n:=0) (wpIn_mono (vcCodeX_out hT hE hm c F ρ (hp H) w [] ρ H.length 0 hk0 _ H _ _ w h (inX_begin En hv hn rfl)) fun e a' w' ⟨tm',L',hq,F',ρ',S1,K1,E1,Sl1,hle,hd⟩=>?_))
 obtain⟨v,he,sw,h4⟩:∃ v,e=panE v∧∃ sw,EndS H.length r H' (.d (.v v)) L' sw:=by
  unfold panK at hq
  split at hq
  ·exact⟨_,rfl,hq⟩
  ·exact hq.elim
 subst he
 obtain⟨F2,ρ2,S3,K2,E3,R2⟩:=h4.out hle E1 (.d (.v v))
 show Leaves P fn a'.tmps _ a'.defers (.panicking _) w'
 rw[hd]
 exact⟨v,rfl,_,_,S1.trans S3,fun i u hi=>K2 i u (hk0 i u hi) (K1 i u hi),E3,R2⟩
def DefRun (P:Program) (g:FuncId) (args:List AV) (u u':FrameMode) (L L':List AObj):Prop:=
 ∀ (F:Nat→Prop) (ρ:Nat→Option Value) (w:World) (vals:List Value),Env F ρ (hp L) w→RAs w F ρ args vals →
  CallsD P g vals.toArray u w fun e u1 w'=>(∃ v,e=.returned v)∧u1=u'∧∃ F' ρ',Step F ρ (hp L) w F' ρ' (hp L') w'∧Keep ρ ρ'∧Env F' ρ' (hp L') w'
abbrev panM (v:Value):FrameMode:=.panicking [{ v:=v,recovered:=false }]
abbrev recM (v:Value):FrameMode:=.panicking [{ v:=v,recovered:=true }]
theorem recD_pan {c₀:Frame} {cs:List Frame} {v:Value} (h:c₀.mode=panM v):recoverD (c₀::cs)=some (v,{ c₀ with mode:=recM v }::cs):=by
 simp[recoverD,h]
theorem recD_ret {c₀:Frame} {cs:List Frame} (h:c₀.mode=.returning):recoverD (c₀::cs)=none:=by
 simp[recoverD,h]
theorem defRun_of_vc {g:FuncId} {fn:Func} {id:Nat} {o:Oper} {d:Tmp} {c:Code} {args:List AV} {L L':List AObj} {v:Value} {u u':FrameMode} {ats:Array TypeId} (hf:P.funcs[g]?=some fn) (hb:fn.body=some (.seq (.region id #[o] false) c)) (hT:T=tiOf P) (hE:∀ g,E g=true→entersB P g=true) (hm:P.follows .mixedOrders=true)
  (ho:o.op=.call { callee:=.builtin .recover,args:=#[],argTypes:=ats }) (hg:o.guard=none) (hd:o.dst=some d) (hdn:Nat.blt d fn.ntmps=true) (hu:(u=panM v∧u'=recM v)∨(u=.returning∧u'=.returning∧v=.nilIface))
  (hn:Nat.ble args.length fn.ntmps=true) (h:vcCodeX P T E (fun _=>false) fn.ntmps c L.length false ((d,.d (.v v))::params 0 args) L (retK T fn.results.toList L.length .any L')):DefRun P g args u u' L L':=by
 intro F ρ w vals En hv
 have hk0:=rho_lt En
 refine callsD_of_wpS hf hb fun c₀ cs hmode=>?_
 apply wpS_seq
 apply wpS_region
 have hrec:(execOp (Act.eval { tmps:=vals.toArray++Array.replicate (fn.ntmps-vals.toArray.size) undef,defers:=[] }) o).run P w=.ok .recover w:=by
  simp only[execOp,ho]
  rfl
 have hstart:InX F ρ (hp L) w [] ρ L.length fn.ntmps ((d,.d (.v v))::params 0 args) L (Act.put { tmps:=vals.toArray++Array.replicate (fn.ntmps-vals.toArray.size) undef,defers:=[] } (some d) v) w:=by
  obtain⟨F1,ρ1,S1,K1,E1,Sl1,hle,hd1⟩:=inX_begin (bs:=[]) En hv hn rfl
  obtain⟨tm',h6,h7,_⟩:=Sl1.put (dst:=some d) (x:=.d (.v v)) (v:=v) (.d (.v v)) (k:=fun tm=>tm=(d,.d (.v v))::params 0 args) (by unfold putK;simp only[hdn])
  rw[←h6]
  exact⟨F1,ρ1,S1,K1,E1,h7,hle,by rw[put_defs]⟩
 have rest:∀ cs',cs'={ c₀ with mode:=u' }::cs→c.wpS P (bodyPostS P fn c₀ cs fun e u1 w'=>(∃ v,e=.returned v)∧u1=u'∧∃ F' ρ',Step F ρ (hp L) w F' ρ' (hp L') w'∧Keep ρ ρ'∧Env F' ρ' (hp L') w') (Act.put { tmps:=vals.toArray++Array.replicate (fn.ntmps-vals.toArray.size) undef,defers:=[] } (some d) v) cs' w:=by
  intro cs' hcs
  refine wpS_of_wp (wp_of_ro (n:=0) (wpIn_mono (vcCodeX_out hT hE hm c F ρ (hp L) w [] ρ L.length 0 hk0 _ L _ _ w h hstart) fun e a' w' ⟨tm',L1,hq,F',ρ',S1,K1,E1,Sl1,hle,hd⟩=>?_))
  have fin:(resK T L1 fn.results.toList tm' fun l=>fAV (oneOr l) fun y=>∃ sw,EndS L.length .any L' y L1 sw)→a'.defers=[]∧∃ u'',cs'={ c₀ with mode:=u'' }::cs∧∃ v,(results fn a'.tmps).run P w'=.ok v w'∧((∃ v',Ending.returned v=.returned v')∧u''=u'∧∃ F' ρ',Step F ρ (hp L) w F' ρ' (hp L') w'∧Keep ρ ρ'∧Env F' ρ' (hp L') w'):=by
   intro h
   subst hT
   obtain⟨l,vs,h1,h2,h3⟩:=resK_out E1 Sl1 h
   obtain⟨sw,h4⟩:=fAV_iff.1 h1
   obtain⟨v,hrun,hv'⟩:=run_results h3
   obtain⟨F2,ρ2,S3,K2,E3,R2⟩:=h4.out hle E1 (hv' _ _ _ h2)
   exact⟨hd,u',hcs,v,hrun,⟨v,rfl⟩,rfl,F2,ρ2,S1.trans S3,fun i u hi=>K2 i u (hk0 i u hi) (K1 i u hi),E3⟩
  cases e with
  |normal=>exact fin hq
  |ret=>exact fin hq
  |_=>exact hq.elim
 show wpOpsS P #[o] _ [0] _ (c₀::cs) w
 unfold wpOpsS
 simp only[List.getElem?_toArray,List.getElem?_cons_zero,show Region.wanted o (yielded #[o] _)=true from by simp[Region.wanted,hg],if_true]
 rw[hrec]
 rcases hu with⟨hu1,hu2⟩|⟨hu1,hu2,hv0⟩
 ·simp only[recD_pan (cs:=cs) (hmode.trans hu1),hd]
  unfold wpOpsS
  exact rest _ (by rw[hu2])
 ·simp only[recD_ret (cs:=cs) (hmode.trans hu1),hd]
  unfold wpOpsS
  rw[←hv0]
  refine rest _ ?_
  have hmode:=hmode.trans hu1
  rw[hu2]
  cases c₀
  simp at hmode
  rw[hmode]
def defK (P:Program) (T:TypeId→TI) (res:List ResultVar) (gc:FuncId) (ys:List AV) (k0:Nat) (r:AV) (H':List AObj) (e:Exit) (tm:Tm) (L:List AObj):Prop:=
 match e with
 | .normal=>∃ L1,DefRun P gc ys .returning .returning L L1∧Nat.ble k0 L1.length=true∧resK T L1 res tm fun l=>fAV (oneOr l) fun y=>∃ sw,EndS k0 r H' y L1 sw
 | .ret=>∃ L1,DefRun P gc ys .returning .returning L L1∧Nat.ble k0 L1.length=true∧resK T L1 res tm fun l=>fAV (oneOr l) fun y=>∃ sw,EndS k0 r H' y L1 sw
 | .panic [{ v:=v,recovered:=false,goexit:=false }]=>∃ L1,DefRun P gc ys (panM v) (recM v) L L1∧Nat.ble k0 L1.length=true∧resK T L1 res tm fun l=>fAV (oneOr l) fun y=>∃ sw,EndS k0 r H' y L1 sw
 |_=>False
theorem satD_of_vc {g gc:FuncId} {fn:Func} {c0 c2:Code} {id:Nat} {o1 o2:Oper} {d:Tmp} {caps:Array Operand} {args ys:List AV} {H H':List AObj} {r:AV} {ats:Array TypeId} (Pn:Nat→Bool) (hf:P.funcs[g]?=some fn) (hb:fn.body=some (.seq c0 (.seq (.region id #[o1,o2] false) c2))) (hT:T=tiOf P) (hE:∀ g,E g=true→entersB P g=true) (hm:P.follows .mixedOrders=true)
  (h1:o1.op=.makeFunc (.func gc) #[] caps) (h1g:o1.guard=none) (h1d:o1.dst=some d) (hdn:Nat.blt d fn.ntmps=true) (h2:o2.op=.defer { callee:=.value (.tmp d),args:=#[],argTypes:=ats }) (h2g:o2.guard=none) (h2d:o2.dst=none) (hEc:E gc=true)
  (hn:Nat.ble args.length fn.ntmps=true) (h:vcCodeX P T E Pn fn.ntmps c0 H.length false (params 0 args) H fun e tm L=>match e with
   | .normal=>evsK (evAV tm) caps.toList fun zs=>zs=ys∧lenNK L fun k1=>vcCodeX P T E Pn fn.ntmps c2 k1 false ((d,.fn (.func gc) [] ys)::tm) L (defK P T fn.results.toList gc ys H.length r H')
   |_=>False):Sat P g args H r H':=by
 intro F ρ w vals En hv
 have hk0:=rho_lt En
 refine calls_of_wp_defers hf hb (wp_of_ro (n:=0) (wpIn_seq (wpIn_mono (vcCodeX_out hT hE hm c0 F ρ (hp H) w [] ρ H.length 0 hk0 _ H _ _ w h (inX_begin En hv hn rfl)) fun e a1 w1 ⟨tm1,L1,hq,hI1⟩=>?_)))
 cases e with
 |normal=>
  obtain⟨hz,hc⟩:=evsK_out hq
  refine wpIn_seq (wpIn_region_list ?_)
  obtain⟨F1,ρ1,S1,K1,E1,Sl1,hle1,hd1⟩:=hI1
  subst hz
  have hcv:RAs w1 F1 ρ1 (caps.toList.map (evAV tm1)) (caps.toList.map a1.eval):=RAs.of_map (fun x=>Sl1.eval x) _
  generalize hcl:caps.toList.map a1.eval=cvs at hcv
  have hcl':Array.map a1.eval caps=cvs.toArray:=by
   apply Array.ext'
   simp[←hcl]
  have hr1:(execOp a1.eval o1).run P w1=.ok (.value (.func (.func gc) #[] cvs.toArray)) w1:=by
   simp only[execOp,h1]
   simp[hcl',Instr.makeFunc]
  have hR:RA w1 F1 ρ1 (.fn (.func gc) [] (caps.toList.map (evAV tm1))) (.func (.func gc) #[] cvs.toArray):=.fn .nil hcv
  obtain⟨tm',h6,h7,_⟩:=Sl1.put (dst:=some d) (v:=.func (.func gc) #[] cvs.toArray) hR (k:=fun tm=>tm=(d,.fn (.func gc) [] (caps.toList.map (evAV tm1)))::tm1) (by unfold putK;simp only[hdn])
  subst h6
  show wpListIn (Fw none) 0 P #[o1,o2] _ [o1,o2] a1 w1
  rw[wpListIn,show Region.wanted o1 (yielded #[o1,o2] a1.tmps)=true from by simp[Region.wanted,h1g],if_pos rfl]
  refine wpIn_ro (fun c ho=>by rw[h1] at ho;cases ho) ?_
  unfold Oper.wp
  rw[hr1,Oper.upon_value,h1d]
  rw[wpListIn,show Region.wanted o2 (yielded #[o1,o2] (a1.put (some d) (.func (.func gc) #[] cvs.toArray)).tmps)=true from by simp[Region.wanted,h2g],if_pos rfl]
  have hev:(a1.put (some d) (.func (.func gc) #[] cvs.toArray)).eval (.tmp d)=.func (.func gc) #[] cvs.toArray:=by
   have hlt:d<a1.tmps.size:=by rw[Sl1.2];simpa [Nat.blt_eq] using hdn
   simp[Act.eval,Act.put,hlt]
  refine⟨fun _ _=>trivial,?_⟩
  have hr2:(execOp (a1.put (some d) (.func (.func gc) #[] cvs.toArray)).eval o2).run P w1=.ok (.defer { target:=.fn (.func gc) cvs.toArray,args:=#[] }) w1:=by
   simp only[execOp,h2]
   simp[resolve,hev,Deferred.ofValue]
  rw[Oper.semAt_none,hr2,Oper.uponIn_defer,h2d]
  show c2.wpIn (Fw none) 0 P _ _ _
  generalize hD:({ target:=.fn (.func gc) cvs.toArray,args:=#[] }:Deferred)=D
  have hI2:InX F1 ρ1 (hp L1) w1 [D] ρ1 L1.length fn.ntmps ((d,.fn (.func gc) [] (caps.toList.map (evAV tm1)))::tm1) L1 (Act.put { a1.put (some d) (.func (.func gc) #[] cvs.toArray) with defers:=D::(a1.put (some d) (.func (.func gc) #[] cvs.toArray)).defers } none undef) w1:=by
   refine⟨F1,ρ1,Step.refl _ _ _ _,Keep.refl _,E1,h7,Nat.le_refl _,?_⟩
   rw[put_defs]
   show D::(a1.put (some d) _).defers=_
   rw[put_defs,hd1]
  refine wpIn_mono (vcCodeX_out hT hE hm c2 F1 ρ1 (hp L1) w1 [D] ρ1 L1.length 0 (rho_lt E1) _ _ _ _ w1 (natK_iff.1 hc) hI2) fun e a' w' ⟨tm2,L2,hq2,F2,ρ2,S2,K2,E2,Sl2,hle2,hd2⟩=>?_
  have hys:RAs w' F2 ρ2 (caps.toList.map (evAV tm1)) cvs:=hcv.mono (S2.keepF E1) S2.fsub K2
  have hinv:(invoke D.target D.args).run P w'=.ok (.enter gc cvs.toArray) w':=by
   rw[←hD]
   have:=run_enter (hE gc hEc) cvs.toArray w'
   simpa [invoke] using this
  have htar:D.target=.fn (.func gc) cvs.toArray:=by rw[←hD]

  have fin:∀ (u u':FrameMode),u≠.run→settle u'=.returning→(∃ L3,DefRun P gc (caps.toList.map (evAV tm1)) u u' L2 L3∧Nat.ble H.length L3.length=true∧resK T L3 fn.results.toList tm2 fun l=>fAV (oneOr l) fun y=>∃ sw,EndS H.length r H' y L3 sw) →
    Leaves P fn a'.tmps (fun e w'=>∃ v,e=.returned v∧Post F ρ (hp H) w (hp H') r v w') a'.defers u w':=by
   rintro u u' hu hs ⟨L3,hDr,hk3,hres⟩
   subst hT
   rw[hd2]
   refine⟨hu,_,_,_,_,htar,hinv,(hDr F2 ρ2 w' _ E2 hys).mono ?_⟩
   rintro en u1 w3 ⟨⟨v0,rfl⟩,rfl,F3,ρ3,S3,K3,E3⟩
   show Leaves P fn a'.tmps _ [] (settle u1) w3
   rw[hs]
   obtain⟨l,vs,g1,g2,g3⟩:=resK_out E3 (Sl2.mono S3 E2 K3) hres
   obtain⟨sw,g4⟩:=fAV_iff.1 g1
   obtain⟨v,hrun,hv'⟩:=run_results g3
   obtain⟨F4,ρ4,S4,K4,E4,R4⟩:=g4.out (Nat.le_of_ble_eq_true hk3) E3 (hv' _ _ _ g2)
   exact⟨v,hrun,v,rfl,_,_,((S1.trans S2).trans S3).trans S4,fun i u hi=>K4 i u (hk0 i u hi) (K3 i u (K2 i u (K1 i u hi))),E4,R4⟩
  unfold defK at hq2
  split at hq2
  ·exact fin .returning .returning (by simp) rfl hq2
  ·exact fin .returning .returning (by simp) rfl hq2
  ·exact fin (panM _) (recM _) (by simp) rfl hq2
  ·exact hq2.elim
 |_=>exact hq.elim
end
end Go.Proofs.YtfbfpnfgabamfaaGreat
