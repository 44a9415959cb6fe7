/- Parts CrcS, CrcFlipPlain, FrI, Frd, FrJ, FrK, FrL of the proof, put together. -/
import Derived.Test.YtfbfpnfgabamfaaGreatM10
import Derived.Test.YtfbfpnfgabamfaaGreatShelf
namespace Go.Proofs.YtfbfpnfgabamfaaGreat
set_option linter.unusedSimpArgs false
open Go.RowKit
set_option linter.unusedVariables false
def le4 (s:Nat):List UInt8:=[UInt8.ofNat s,UInt8.ofNat (s / 256),UInt8.ofNat (s / 65536),UInt8.ofNat (s / 16777216)]
theorem ofNat_u8 (s:Nat):((UInt8.ofNat s).toNat:Int)=(s:Int) % 256:=by simp[UInt8.toNat_ofNat']
theorem ofNat_u8d (s d:Nat):((UInt8.ofNat (s / d)).toNat:Int)=(s:Int) / (d:Int) % 256:=by simp[UInt8.toNat_ofNat']
theorem le4_spelled (s:Nat) (h:s<4294967296):([Value.int .u8 ((s:Int) % 256),.int .u8 ((s:Int) / 256 % 256),.int .u8 ((s:Int) / 65536 % 256),.int .u8 ((s:Int) / 16777216)]:List Value)=(le4 s).map bv:=by
 have h4:(s:Int) / 16777216=((UInt8.ofNat (s / 16777216)).toNat:Int):=by rw[ofNat_u8d];omega
 rw[h4]
 simp only[le4,List.map,bv,ofNat_u8]
 rfl
theorem Ow.of_fresh {w:World} {lo:Nat} {e:TypeId} {v:Value} {l:List UInt8} (h:Lib.FreshBytes lo w v l):Ow w lo e 1 v l.length (l.map bv):=by
 obtain⟨g,cap,zs,rfl,hb,hn,hm,hz,hr,hby,hc,hf⟩:=h
 refine⟨by simp,?_⟩
 rcases Nat.eq_zero_or_pos cap with h0|h0
 ·subst h0
  have:l.length=0:=by omega
  exact .inr (.inl ⟨⟨g,0,none⟩,by rw[this],hb,this⟩)
 ·refine .inr (.inr ⟨g,0,cap,rfl,hb,World.block_lt_of_cell? w _ (hc 0 h0),hn,hm,fun j hj=>?_,fun j hj=>?_⟩)
  ·rw[Nat.zero_add,hc j (by omega),hf j (by omega)];exact⟨rfl,rfl⟩
  ·have hj':j<l.length:=by simpa using hj
   rw[Nat.zero_add,hc j (by omega)]
   have hjz:j<zs.length:=by omega
   have e1:zs.getD j 0=zs[j]:=by simp[List.getD,List.getElem?_eq_getElem hjz]
   have e2:l[j]=UInt8.ofNat (zs[j]).toNat:=by
    have:l=(zs.take l.length).map (fun x=>UInt8.ofNat x.toNat):=hby.symm
    rw[List.getElem_of_eq this]
    simp
   have hrz:=hr zs[j] (List.getElem_mem _)
   rw[e1,List.getElem_map,bv,e2]
   have:((UInt8.ofNat (zs[j]).toNat).toNat:Int)=zs[j]:=by
    rw[ofNat_u8]
    omega
   rw[this]
theorem join_lib (A:Option Addr) (n c:Nat) (ls:List (List UInt8)) (w:World) (hp:RdP w w.heap.size A n ls) (hc:n≤c) (hn:n≤140737488351232) (hs:ls.flatten.length≤140737488351232) :
  Calls Tryz.prog 100 #[.slice A n c,.slice none 0 0] w fun e w'=>∃ v,e=.returned v∧Ow w' w.heap.size 5 1 v ls.flatten.length (ls.flatten.map bv)∧Below w.heap.size w w':=by
 have hlen:=hp.1
 match n,ls,hlen with
 |0,[],_=>
  refine (Tryz.bytes_Join_none A c _ w).mono ?_
  rintro e w' ⟨rfl,rfl⟩
  exact⟨_,rfl,Ow.lit w #[] 0 (Nat.le_refl _) (by simp[maxLen]) rfl,(Below.refl _ _).alloc (Nat.le_refl _) _⟩
 |1,[l],_=>
  obtain⟨b,off,Ai,ci,l',rfl,hb,hl,hcell,h1,h2,h4⟩:=hp.cell (k:=0) (by omega)
  obtain rfl:l=l':=by simpa using hl
  rcases Nat.eq_zero_or_pos l.length with h0|h0
  ·have he:l=[]:=List.eq_nil_of_length_eq_zero h0
   subst he
   refine (Tryz.bytes_Join_one_empty b off c Ai ci _ w (by simpa using hcell)).mono ?_
   rintro e w' ⟨rfl,rfl⟩
   exact⟨_,rfl,by simpa using Ow.nil _ _ _ _,Below.refl _ _⟩
  ·obtain⟨bb,oo,rfl,hbb,hcc⟩:=h4.at_ h0
   refine (Tryz.bytes_Join_one b off c ⟨bb,oo,none⟩ ci l _ w (by simpa using hcell) ?_ h0 (by omega)).mono ?_
   ·intro i x hx
    obtain⟨hi,hx⟩:=List.getElem?_eq_some_iff.1 hx
    rw[Addr.add_lit,hcc i (by simpa using hi)]
    simp[bv,hx]
   ·rintro e w' ⟨v,rfl,hf,hbl⟩
    exact⟨v,rfl,by simpa using Ow.of_fresh hf,hbl⟩
 |k+2,ls,_=>
  obtain⟨b,off,Ai,ci,l',rfl,hb,_⟩:=hp.cell (k:=0) (by omega)
  obtain⟨_,vs,hr,hv⟩:=hp
  obtain⟨b2,off2,he,_,hcs⟩:=hr.at_ (k:=0) (by omega)
  injection he with he
  injection he with e1 e2
  subst e1;subst e2
  have hvl:vs.length=ls.length:=by have:=hr.1;omega
  have hP:Lib.PartsAt w ⟨b,off,none⟩ vs ls:=by
   refine⟨hvl,fun i v hv'=>?_,fun i v l hv' hl'=>?_⟩
   ·obtain⟨hi,hx⟩:=List.getElem?_eq_some_iff.1 hv'
    rw[Addr.add_lit,hcs i hi,hx]
   ·obtain⟨hi,hx⟩:=List.getElem?_eq_some_iff.1 hl'
    obtain⟨Ai,ci,h1,h2,h3,h4⟩:=hv i hi
    rw[hv'] at h1
    injection h1 with h1
    subst h1
    subst hx
    refine⟨Ai,ci,rfl,fun hn=>?_,fun a ha j x hx=>?_⟩
    ·subst hn
     rcases Nat.eq_zero_or_pos ls[i].length with h0|h0
     ·exact List.eq_nil_of_length_eq_zero h0
     ·obtain⟨_,_,h,_⟩:=h4.at_ h0
      cases h
    ·obtain⟨hj,hx⟩:=List.getElem?_eq_some_iff.1 hx
     obtain⟨bb,oo,h,_,hcc⟩:=RdB.cell h4 hj
     rw[ha] at h
     injection h with h
     subst h
     rw[Addr.add_lit,hcc,hx]
  have hlens:Lib.lens ls=ls.flatten.length:=by simp[Lib.lens]
  refine (Tryz.bytes_Join_many b off (k+2) c vs ls (.slice none 0 0) [] w (by omega) (by omega) hP hc ⟨none,0,rfl,fun _=>rfl,fun a ha=>by cases ha⟩ (by omega) (by rw[hlens];simp only[List.length_nil,Nat.zero_mul];omega)).mono ?_
  rintro e w' ⟨v,rfl,hf,hbl⟩
  have hj:Lib.join ls []=ls.flatten:=by
   match ls with
   |[]=>rfl
   |x::r=>rw[Lib.join_cons];simp[Lib.joinTail]
  rw[hj] at hf
  exact⟨v,rfl,Ow.of_fresh hf,hbl⟩
theorem RdP.one {w:World} {A:Option Addr} {n c:Nat} {l:List UInt8} (e:TypeId) (h:RdB w w.heap.size A n l) (hc:n≤c) (hn:n≤140737488351232) :
  RdP (w.alloc (.cells #[.slice A n c] e)) (w.alloc (.cells #[.slice A n c] e)).heap.size (some ⟨w.heap.size,0,none⟩) 1 [l]:=by
 have hl:=RdB.len h
 refine⟨rfl,[.slice A n c],by simpa using Rd.lit w #[.slice A n c] e 1 1 (by simp[maxLen]) rfl,fun i hi=>?_⟩
 obtain rfl:i=0:=by simpa using hi
 exact⟨A,c,by simp[hl],by simpa [hl] using hc,by simpa [hl] using hn,by simpa [hl] using Rd.alloc' h _⟩
theorem seal_any (A:Option Addr) (n c:Nat) (ls:List (List UInt8)) (w:World) (hp:RdP w w.heap.size A n ls) (hc:n≤c) (hn:n≤140737488351232) (hs:ls.flatten.length≤70368744175616) :
  Calls Tryz.prog 61 #[.slice A n c] w fun e w'=>∃ v,e=.returned v∧Ow w' w.heap.size 5 1 v (ls.flatten.length+4) ((ls.flatten++le4 (sumN ls.flatten)).map bv)∧Below w.heap.size w w':=by
 obtain⟨i0,hi0,hz0,hz1,hz2⟩:=info_parts Tryz.info8
 have hlt:=sumN_lt ls.flatten
 have hle:=le4_spelled (sumN ls.flatten) hlt
 have HLE:=hide hle
 clear hle
 have hm:n≤maxLen:=by simp only[maxLen];omega
 go_enter Tryz.func61,Tryz.ntmps61
 go_wp2_with (first
 |(go_at_call 81;refine (crcSum_any A n c ls _ hp hm).mono ?_;rintro e w' ⟨rfl,rfl⟩)
 |(go_at_call 100;refine (join_lib A n c ls _ hp hc hn (by omega)).mono ?_;rintro e w1 ⟨v1,rfl,hown1,hb1⟩)
 |(at_builtin;refine wpList_append_ow _ rfl (.tmp 9) (.tmp 21) _ rfl w.heap.size 5 i0 _ 1 1 Tryz.underlying36 hi0 hz0 hz1 hz2 rfl (by omega) v1 _ _ rfl (hown1.alloc _) (w1.heap.size+1) (some ⟨w1.heap.size,0,none⟩) 4 4 ((le4 (sumN ls.flatten)).map bv) rfl (by rw[←HLE.out];exact Rd.lit _ _ _ _ _ (by simp[maxLen]) rfl) (bvs_one _) (by simp only[maxLen];omega) (by omega) (by have:=hb1.size;simp;omega) ?_;intro v2 w2 hown2 hg2 hat2 hnn2))
 go_ret
 refine⟨_,rfl,?_,?_⟩
 ·rw[List.map_append]
  simpa using hown2
 ·exact (hb1.alloc hb1.size _).grown hg2 (by have:=hb1.size;simp;omega) (fun k hk=>hown1.lt k hk)
def val4 (x0 x1 x2 x3:UInt8):Nat:=x0.toNat+x1.toNat * 256+x2.toNat * 65536+x3.toNat * 16777216
theorem or_add (a b i:Nat) (h:a<2 ^ i):a ||| b*2 ^ i=a+b*2 ^ i:=by
 have:=Nat.two_pow_add_eq_or_of_lt h b
 rw[Nat.mul_comm,Nat.add_comm] at this
 rw[this,Nat.or_comm]
theorem val4_spelled (x0 x1 x2 x3:UInt8) :
  bits BinOp.or IntKind.u32 (bits BinOp.or IntKind.u32 (bits BinOp.or IntKind.u32 (x0.toNat:Int) ((x1.toNat:Int)*256)) ((x2.toNat:Int)*65536)) ((x3.toNat:Int)*16777216)=((val4 x0 x1 x2 x3:Nat):Int):=by
 have b0:=x0.toNat_lt
 have b1:=x1.toNat_lt
 have b2:=x2.toNat_lt
 have b3:=x3.toNat_lt
 have e1:bits BinOp.or IntKind.u32 (x0.toNat:Int) ((x1.toNat:Int)*256)=((x0.toNat+x1.toNat * 256:Nat):Int):=by
  have:=u32_or_nat x0.toNat (x1.toNat * 256) (by omega) (by omega)
  rw[or_add _ _ 8 (by omega)] at this
  simpa using this
 have e2:bits BinOp.or IntKind.u32 ((x0.toNat+x1.toNat * 256:Nat):Int) ((x2.toNat:Int)*65536)=((x0.toNat+x1.toNat * 256+x2.toNat * 65536:Nat):Int):=by
  have:=u32_or_nat (x0.toNat+x1.toNat * 256) (x2.toNat * 65536) (by omega) (by omega)
  rw[or_add _ _ 16 (by omega)] at this
  simpa using this
 have e3:bits BinOp.or IntKind.u32 ((x0.toNat+x1.toNat * 256+x2.toNat * 65536:Nat):Int) ((x3.toNat:Int)*16777216)=((val4 x0 x1 x2 x3:Nat):Int):=by
  have:=u32_or_nat (x0.toNat+x1.toNat * 256+x2.toNat * 65536) (x3.toNat * 16777216) (by omega) (by omega)
  rw[or_add _ _ 24 (by omega)] at this
  simpa [val4] using this
 rw[e1,e2,e3]
theorem val4_iff (x0 x1 x2 x3:UInt8) (s:Nat) (h:s<4294967296):val4 x0 x1 x2 x3=s↔[x0,x1,x2,x3]=le4 s:=by
 have b0:=x0.toNat_lt
 have b1:=x1.toNat_lt
 have b2:=x2.toNat_lt
 have b3:=x3.toNat_lt
 simp only[le4,List.cons.injEq,and_true,←UInt8.toNat_inj,UInt8.toNat_ofNat',val4]
 omega
def openOk (l:List UInt8):Bool:=decide (4≤l.length∧l.drop (l.length-4)=le4 (sumN (l.take (l.length-4))))
def openErr (l:List UInt8):Int:=if l.length<4 then 15 else if openOk l then 0 else 14
def openBody (l:List UInt8):List UInt8:=if openOk l then l.take (l.length-4) else []
theorem open_any (A:Option Addr) (n c:Nat) (l:List UInt8) (w:World) (hr:RdB w w.heap.size A n l) (hc:n≤c) (hcm:c≤maxLen) (hn:n≤140737488351232) :
  Calls Tryz.prog 48 #[.slice A n c] w fun e w'=>∃ v,e=.returned (.tuple #[v,.int .i64 (openErr l)])∧Ow w' w.heap.size 5 1 v (openBody l).length ((openBody l).map bv)∧Below w.heap.size w w':=by
 have hlen:=RdB.len hr
 unfold maxLen at hcm
 by_cases h4:n<4
 ·have e1:openErr l=15:=by unfold openErr;rw[if_pos (by omega)]
  have e2:openBody l=[]:=by unfold openBody openOk;rw[if_neg (by simp;omega)]
  rw[e1,e2]
  go_enter Tryz.func48,Tryz.ntmps48
  go_wp2
  go_ret2
  exact⟨_,rfl,Ow.nil _ _ _ _,Below.refl _ _⟩
 ·obtain⟨m,rfl⟩:∃ m,n=m+4:=⟨n-4,by omega⟩
  obtain⟨b,off,rfl,hb,hcell⟩:=hr.at_ (k:=0) (by omega)
  have hl:l.length=m+4:=by omega
  have c0:w.cell? ⟨b,off+m,none⟩=some (.int .u8 ((l[m]'(by omega)).toNat:Int)):=by rw[hcell m (by simp;omega)];simp[bv]
  have c1:w.cell? ⟨b,off+m+1,none⟩=some (.int .u8 ((l[m+1]'(by omega)).toNat:Int)):=by rw[Nat.add_assoc,hcell (m+1) (by simp;omega)];simp[bv]
  have c2:w.cell? ⟨b,off+m+2,none⟩=some (.int .u8 ((l[m+2]'(by omega)).toNat:Int)):=by rw[Nat.add_assoc,hcell (m+2) (by simp;omega)];simp[bv]
  have c3:w.cell? ⟨b,off+m+3,none⟩=some (.int .u8 ((l[m+3]'(by omega)).toNat:Int)):=by rw[Nat.add_assoc,hcell (m+3) (by simp;omega)];simp[bv]
  clear hcell
  have hd:l.drop m=[l[m]'(by omega),l[m+1]'(by omega),l[m+2]'(by omega),l[m+3]'(by omega)]:=by
   rw[List.drop_eq_getElem_cons (by omega),List.drop_eq_getElem_cons (by omega),List.drop_eq_getElem_cons (by omega),List.drop_eq_getElem_cons (by omega),List.drop_of_length_le (by omega)]
  generalize l[m]'(by omega)=x0 at c0 hd
  generalize l[m+1]'(by omega)=x1 at c1 hd
  generalize l[m+2]'(by omega)=x2 at c2 hd
  generalize l[m+3]'(by omega)=x3 at c3 hd
  have HD:=hide hd
  clear hd
  have b0:=x0.toNat_lt
  have b1:=x1.toNat_lt
  have b2:=x2.toNat_lt
  have b3:=x3.toNat_lt
  have hsl:=sumN_lt (l.take m)
  have hiff:=val4_iff x0 x1 x2 x3 (sumN (l.take m)) hsl
  have hsub:m+4-4=m:=by omega
  have hok:openOk l=decide (val4 x0 x1 x2 x3=sumN (l.take m)):=by
   unfold openOk
   rw[hl,hsub,HD.out]
   apply decide_eq_decide.2
   rw[hiff]
   simp
  have hrm:RdB w w.heap.size (some ⟨b,off,none⟩) m (l.take m):=by
   have:=hr.take (k:=m) (by omega)
   rwa [Nat.mul_one,←List.map_take] at this
  have herr:openErr l=if openOk l then 0 else 14:=by unfold openErr;rw[if_neg (by omega)]
  have hbody:openBody l=if openOk l then l.take m else []:=by unfold openBody;rw[hl,hsub]
  clear hsub hiff
  have hvs:=val4_spelled x0 x1 x2 x3
  by_cases hv:val4 x0 x1 x2 x3=sumN (l.take m)
  ·have hne:(bits BinOp.or IntKind.u32 (bits BinOp.or IntKind.u32 (bits BinOp.or IntKind.u32 (x0.toNat:Int) ((x1.toNat:Int)*256)) ((x2.toNat:Int)*65536)) ((x3.toNat:Int)*16777216) != ((sumN (l.take m):Nat):Int))=false:=by
    rw[hvs,hv];simp
   rw[decide_eq_true hv] at hok
   rw[hok,if_pos rfl] at herr hbody
   rw[herr,hbody]
   clear hvs hv hok herr hbody HD
   have hlm:(l.take m).length=m:=by rw[List.length_take];omega
   have HLM:=hide hlm
   clear hlm hl hlen
   go_enter Tryz.func48,Tryz.ntmps48
   go_wp2_with fail
   go_quiet (fail)
   go_wp2_with fail
   go_quiet (fail)
   go_wp2_with fail
   refine (crcSum_any _ _ _ [l.take m] _ (RdP.one (c:=c) _ (hrm.drewN _) (by omega) (by omega)) (by simp[maxLen])).mono ?_
   rintro e w' ⟨rfl,rfl⟩
   simp only[List.flatten_cons,List.flatten_nil,List.append_nil]
   go_wp2_with fail
   refine (clone_any _ m c (l.take m) _ (Rd.alloc' (hrm.drewN _) _) (by omega)).mono ?_
   rintro e w1 ⟨v1,rfl,hown1,hb1⟩
   go_wp2_with fail
   go_ret2
   refine⟨_,rfl,?_,?_⟩
   ·rw[HLM.out]
    exact hown1.less (by simp)
   ·exact ((below_drewN (Below.refl _ _) _).alloc (Nat.le_refl _) _).trans (hb1.mono (by simp))
  ·have hne:(bits BinOp.or IntKind.u32 (bits BinOp.or IntKind.u32 (bits BinOp.or IntKind.u32 (x0.toNat:Int) ((x1.toNat:Int)*256)) ((x2.toNat:Int)*65536)) ((x3.toNat:Int)*16777216) != ((sumN (l.take m):Nat):Int))=true:=by
    rw[hvs];simp;omega
   rw[decide_eq_false hv] at hok
   rw[hok,if_neg (by simp)] at herr hbody
   rw[herr,hbody]
   clear hvs hv hok herr hbody HD
   have hlm:(l.take m).length=m:=by rw[List.length_take];omega
   have HLM:=hide hlm
   clear hlm hl hlen
   go_enter Tryz.func48,Tryz.ntmps48
   go_wp2_with fail
   go_quiet (fail)
   go_wp2_with fail
   go_quiet (fail)
   go_wp2_with fail
   refine (crcSum_any _ _ _ [l.take m] _ (RdP.one (c:=c) _ (hrm.drewN _) (by omega) (by omega)) (by simp[maxLen])).mono ?_
   rintro e w' ⟨rfl,rfl⟩
   simp only[List.flatten_cons,List.flatten_nil,List.append_nil]
   go_wp2_with fail
   go_ret2
   exact⟨_,rfl,Ow.nil _ _ _ _,(below_drewN (Below.refl _ _) _).alloc (Nat.le_refl _) _⟩
end Go.Proofs.YtfbfpnfgabamfaaGreat
namespace Go.Proofs.YtfbfpnfgabamfaaGreat
set_option linter.unusedSimpArgs false
set_option linter.unusedVariables false
end Go.Proofs.YtfbfpnfgabamfaaGreat
namespace Go.Proofs.YtfbfpnfgabamfaaGreat
set_option linter.unusedSimpArgs false
set_option linter.unusedVariables false
open Go.RowKit
set_option maxRecDepth 100000
section
variable {F:Nat→Prop} {ρ:Nat→Option Value} {w w':World}
theorem own_ret {s:Nat} {rows:List (List D)} {us:List Value} {e:TypeId} {v:Value} (En:Env F ρ (hp []) w) (hf:FlatVs rows.flatten us) (hs:∀ r∈rows,r.length=s) (h0:0<rows.length) (how:Ow w' w.heap.size e s v rows.length us) (hb:Below w.heap.size w w') :
  Post F ρ (hp []) w (hp [.sl s rows]) (.own 0) v w':=by
 have hlt:∀ k,blkOf v=some k→k<w'.heap.size:=fun k hk=>by
  obtain⟨g,off,cap,rfl,_,hg,_⟩:=how.open_ h0
  injection hk with hk
  subst hk
  exact hg
 have hG:w.grownBy w' none:=⟨hb.os,hb.tape,hb.output,hb.size,fun b h _=>hb.block b h⟩
 have hnone:hp ([]:List AObj) 0=none:=rfl
 obtain⟨A',c',he,g1,g2,hrd⟩:=how.form
 subst he
 have how0:Ow w' 0 0 s (.slice A' rows.length c') rows.length us:=⟨how.1,by
  rcases how.2 with h|⟨a,h,_,h'⟩|⟨g,off,cap,h,_,h'⟩
  ·exact .inl h
  ·exact .inr (.inl ⟨a,h,Nat.zero_le _,h'⟩)
  ·exact .inr (.inr ⟨g,off,cap,h,Nat.zero_le _,h'⟩)⟩
 obtain⟨S,K,E⟩:=En.new (n:=0) (o':=.sl s rows) (h:=.slice A' rows.length c') hnone hG (fun b hb'=>⟨how.lt b (by rw[←blk_own rfl];exact hb'),hlt b hb'⟩) ⟨_,how0,hf.rds,hs⟩
 have e:updF (hp []) 0 (some (.sl s rows))=hp [.sl s rows]:=by
  funext i
  match i with
  |0=>rfl
  |i+1=>rfl
 rw[e] at S E
 exact⟨F,_,S,K,E,.own (updF_same _ _ _)⟩
theorem data_ret {s:Nat} {rows:List (List D)} {us:List Value} {e:TypeId} {v:Value} (En:Env F ρ (hp []) w) (hf:FlatVs rows.flatten us) (hs:∀ r∈rows,r.length=s) (how:Ow w' w.heap.size e s v rows.length us) (hb:Below w.heap.size w w') :
  ∃ F' ρ',Step F ρ (hp []) w F' ρ' (hp []) w'∧Keep ρ ρ'∧Env F' ρ' (hp []) w'∧RD w' F' (.sl s rows) v:=by
 obtain⟨S,E'⟩:=step_below En hb
 obtain⟨A',c',he,g1,g2,hrd⟩:=how.form
 rcases Nat.eq_zero_or_pos rows.length with h0|h0
 ·obtain rfl:=List.eq_nil_of_length_eq_zero h0
  subst he
  exact⟨F,ρ,S,Keep.refl _,E',.sl rfl hs g1 g2 .nil fun h=>by simp at h⟩
 ·have hlt:∀ k,blkOf v=some k→k<w'.heap.size:=fun k hk=>by
   obtain⟨g,off,cap,rfl,_,hg,_⟩:=how.open_ h0
   injection hk with hk
   subst hk
   exact hg
  have hge:∀ k,blkOf v=some k→w.heap.size≤k:=fun k hk=>by
   obtain⟨g,off,cap,rfl,hg,_⟩:=how.open_ h0
   injection hk with hk
   subst hk
   exact hg
  subst he
  have no:∀ (i:Nat) (o:AObj),hp [] i=some o→False:=fun i o h=>by simp[hp] at h
  refine⟨fun b=>F b∨blkOf (.slice A' rows.length c')=some b,ρ,⟨S.os,S.tape,S.output,S.size,S.unch,fun b h=>.inl h,fun b h=>h.elim .inl fun h=>.inr (.inl (hge b h)),fun b ⟨i,o,_,h,_⟩=>(no i o h).elim⟩,Keep.refl _,⟨fun b h=>h.elim (E'.fb b) (hlt b),E'.abs,fun i o h=>(no i o h).elim,fun i j o o' _ _ _ h=>(no i o h).elim⟩,?_⟩
  refine .sl rfl hs g1 g2 hf.rds fun hp'=>?_
  obtain⟨b,off,rfl,hb,hc⟩:=hrd.2 hp'
  exact⟨b,off,rfl,.inr rfl,hc⟩
end
theorem seal_sat (l:Bt) (hl:l.length≤100000000):Sat Tryz.prog 61 [.d (.sl 1 [[bsD l]])] [] (.own 0) [.sl 1 ((l++le4 (sumN l)).map bR)]:=by
 intro F ρ w vals En hv
 obtain⟨v,rfl,hv'⟩:=hv.one_out
 cases hv' with|d hv=>
 cases hv with|sl hn hs h1 h2 hr hm=>
 have hr:RDs w F [bsD l] _:=hr
 cases hr with|cons hr1 h11 hr2=>
 cases hr2
 obtain⟨A1,c1,rfl,k1,k2,k3⟩:=hr1.sl_rd En.fb (bR_flats l)
 rw[List.length_map] at k1 k3 hm
 subst hn
 obtain⟨b,off,rfl,hb,hc⟩:=hm (Nat.zero_lt_one)
 have hp:RdP w w.heap.size (some ⟨b,off,none⟩) 1 [l]:=⟨rfl,[.slice A1 l.length c1],⟨rfl,fun _=>⟨b,off,rfl,En.fb b hb,hc⟩⟩,fun i hi=>by
  obtain rfl:i=0:=by simpa using hi
  exact⟨A1,c1,rfl,k1,by show l.length≤_;omega,k3⟩⟩
 refine (seal_any _ _ _ [l] w hp h1 (by decide) (by simp;omega)).mono ?_
 rintro x w' ⟨v,rfl,how,hb⟩
 simp only[List.flatten_cons,List.flatten_nil,List.append_nil] at how
 have hlen:((l++le4 (sumN l)).map bR).length=l.length+4:=by rw[List.length_map,List.length_append];rfl
 refine⟨v,rfl,own_ret En (bR_flats _) one_len (by rw[hlen];omega) (by rw[hlen];exact how) hb⟩
theorem open_sat (l:Bt) (hl:l.length≤100000000):Sat Tryz.prog 48 [.d (bsD l)] [] (.tup [.d (bsD (openBody l)),iA (openErr l)]) []:=by
 intro F ρ w vals En hv
 obtain⟨v,rfl,hv'⟩:=hv.one_out
 cases hv' with|d hv=>
 obtain⟨A1,c1,rfl,k1,k2,k3⟩:=hv.sl_rd En.fb (bR_flats l)
 rw[List.length_map] at k1 k3 ⊢
 refine (open_any A1 _ c1 l w k3 k1 k2 (by omega)).mono ?_
 rintro x w' ⟨v,rfl,how,hb⟩
 obtain⟨F1,ρ1,S,K,E,R⟩:=data_ret En (bR_flats (openBody l)) one_len (by rw[List.length_map];exact how) hb
 exact⟨_,rfl,F1,ρ1,S,K,E,.tup (.cons (.d R) (.cons (.d (.v _)) .nil))⟩
theorem bcloneD_sat (l:Bt) (hl:l.length≤100000000):Sat Tryz.prog 82 [.d (bsD l)] [] (.d (bsD l)) []:=by
 intro F ρ w vals En hv
 obtain⟨v,rfl,hv'⟩:=hv.one_out
 cases hv' with|d hv=>
 obtain⟨A1,c1,rfl,k1,k2,k3⟩:=hv.sl_rd En.fb (bR_flats l)
 rw[List.length_map] at k1 k3 ⊢
 refine (clone_any A1 _ c1 l w k3 (by omega)).mono ?_
 rintro x w' ⟨v,rfl,how,hb⟩
 obtain⟨F1,ρ1,S,K,E,R⟩:=data_ret En (bR_flats l) one_len (by rw[List.length_map];exact how) hb
 exact⟨_,rfl,F1,ρ1,S,K,E,.d R⟩
theorem newG_sat (l:Bt) (hl:l.length≤65536):Sat Tryz.prog 84 [.d (bsD l)] [] (.ptr 0 0) [rsO (l,0)]:=by
 have c1:=bcloneD_sat l (by omega)
 refine Vq Tryz.func84 rfl rfl ?_
 conv=>whnf
 iterate 3
  repeat' first|exact T0|(first|refine Yd fun _=>?_|refine Ye fun _=>?_|refine Yg ?_|refine Yk (c1.pu rfl rfl) ?_);conv=>whnf|(refine Ya ?_ ?_<;>intro _<;>conv=>whnf)
  all_goals try (refine Or.inl ?_;conv=>whnf)
 all_goals refine⟨[],?_⟩
 repeat any_goals first|exact T0|exact rfl|exact Yr|refine Ya ?_ ?_
 all_goals conv=>whnf
end Go.Proofs.YtfbfpnfgabamfaaGreat
namespace Go.Proofs.YtfbfpnfgabamfaaGreat
set_option linter.unusedSimpArgs false
open Go.RowKit
set_option linter.unusedVariables false
theorem Runs.mono {P:Program} {s:Result Next} {p q:Value→World→Prop} (h:Runs P s p) (hpq:∀ v w,p v w→q v w):Runs P s q:=by
 unfold Runs at h ⊢
 split at h
 ·exact hpq _ _ h
 ·exact hpq _ _ h
 ·exact h.mono fun e w ⟨v,he,hv⟩=>⟨v,he,hpq _ _ hv⟩
 ·exact h.elim
theorem Does.frz {P:Program} {op:Op} {ty n s:Nat} {L:List AObj} {xs:List AV} {rs:List Nat} {ws:List (Nat × AObj)} {rows:List (List D)} (h:Does P op ty L n xs ⟨rs,ws,[.sl s rows]⟩ (.own n)) :
  Does P op ty L n xs ⟨rs,ws,[.dead]⟩ (.d (.sl s rows)):=by
 intro o H F ρ w ev ho ht E hrs hn hx
 refine (h o H F ρ w ev ho ht E hrs hn hx).mono ?_
 rintro v w' ⟨F',ρ',S,K,E',R⟩
 have hn':appN n [AObj.sl s rows] (appW ws H) n=some (.sl s rows):=updF_same _ _ _
 cases R with|own R=>
  rename_i A m c
  obtain⟨hh,e1,⟨vs,how,hra,hs1⟩,e3⟩:=E'.rep n _ hn' rfl
  rw[R] at e1;injection e1 with e1;subst e1
  obtain⟨A',c',he,g1,g2,hrd⟩:=how.form
  injection he with q1 q2 q3
  subst q1 q2 q3
  obtain⟨S1,E1⟩:=E'.freeze hn' rfl R
  have eH:updF (appN n [AObj.sl s rows] (appW ws H)) n (some .dead)=appN n [.dead] (appW ws H):=by
   funext j
   show updF (updF (appW ws H) n _) n _ j=updF (appW ws H) n _ j
   by_cases e:j=n
   ·subst e;rw[updF_same,updF_same]
   ·rw[updF_ne _ _ e,updF_ne _ _ e,updF_ne _ _ e]
  rw[eH] at S1 E1
  have hd:RD w' (fun b=>F' b∨blkOf (.slice A rows.length c)=some b) (.sl s rows) (.slice A rows.length c):=.sl rfl hs1 g1 g2 (hra.mono (fun _ _=>rfl) fun _ h=>.inl h) fun hp'=>by
   obtain⟨b,off,rfl,hb,hc⟩:=hrd.2 hp'
   exact⟨b,off,rfl,.inr rfl,hc⟩
  exact⟨_,ρ',S.trans S1,K,E1,.d hd⟩
end Go.Proofs.YtfbfpnfgabamfaaGreat
namespace Go.Proofs.YtfbfpnfgabamfaaGreat
set_option linter.unusedSimpArgs false
open Go.RowKit
set_option maxRecDepth 100000
set_option linter.unusedVariables false
theorem right_sat (f:Fr) (hf:FrOk f):Sat Tryz.prog 55 [.d (frD f)] [] (bA (rightF f)) []:=by
 unfold rightF
 by_cases h:1≤f.k∧f.k≤8
 ·rw[if_pos h]
  have hk:f.k=1∨f.k=2∨f.k=3∨f.k=4∨f.k=5∨f.k=6∨f.k=7∨f.k=8:=by omega
  rcases hk with e|e|e|e|e|e|e|e
  all_goals rw[e]
  ·exact right_1 f e hf
  ·exact right_2 f e hf
  ·exact right_3 f e hf
  ·exact right_4 f e hf
  ·exact right_5 f e hf
  ·exact right_6 f e hf
  ·exact right_7 f e hf
  ·exact right_8 f e hf
 ·rw[if_neg h]
  exact right_bad f h
def evT (x:Evt):Bt:=enc x.1.toNat++(enc (turnN x.2.1)++bytesS x.2.2)
def evsT (l:List Evt):Bt:=(l.map evT).flatten
def extT (f:Fr) (k:Nat):Bt:=if k=5 then enc f.ev.length++evsT f.ev else if k=8 then bytesS f.sr++encTL f.d else []
def fldT (l:List Int):Bt:=(l.map fun x=>enc x.toNat).flatten
def frT (f:Fr) (k:Nat):Bt:=enc k++fldT (valsK f k)++extT f k
def sealT (l:Bt):Bt:=l++le4 (sumN l)
def encodeT (f:Fr):Bt:=sealT (frT f f.k.toNat)
theorem serT_len (s:Ser):(bytesS s).length≤2000:=by
 unfold bytesS
 split
 ·rename_i h
  obtain⟨a1,a2,a3⟩:=right_out h
  have la:=nameL_len a1
  have l1:=encTL_len s.1
  have l2:=enc_lens s.2.length
  have l3:=labsT_len a3
  rw[List.length_append,List.length_append]
  omega
 ·exact Nat.zero_le _
theorem evT_len (x:Evt):(evT x).length≤2020:=by
 unfold evT
 have:=enc_lens x.1.toNat
 have:=enc_lens (turnN x.2.1)
 have:=serT_len x.2.2
 rw[List.length_append,List.length_append];omega
theorem evsT_len:∀ (l:List Evt),(evsT l).length≤2020*l.length
 |[]=>by simp[evsT]
 |x::r=>by
  have h1:=evT_len x
  have h2:=evsT_len r
  show (evT x++evsT r).length≤_
  rw[List.length_append,List.length_cons];omega
theorem evsT_next {l:List Evt} {i:Nat} {x:Evt} (hx:l[i]?=some x):evsT (l.take (i+1))=evsT (l.take i)++evT x:=by
 unfold evsT
 rw[map_take_succ hx];simp
theorem fldT_len:∀ (l:List Int),(fldT l).length≤10*l.length
 |[]=>by simp[fldT]
 |x::r=>by
  have h1:=enc_lens x.toNat
  have h2:=fldT_len r
  show (enc x.toNat++fldT r).length≤_
  rw[List.length_append,List.length_cons];omega
theorem valsK_len (f:Fr) (k:Nat):(valsK f k).length≤6:=by
 unfold valsK
 rw[List.length_map]
 unfold idxK
 split<;>decide
theorem frT_len (f:Fr) (k:Nat) (hk:k≠5) (hd:f.d.length≤4096):(frT f k).length≤7000:=by
 unfold frT extT
 rw[if_neg hk,List.length_append,List.length_append]
 have h1:=fldT_len (valsK f k)
 have h2:=valsK_len f k
 have h3:=enc_lens k
 have h4:=serT_len f.sr
 have h5:=encTL_len f.d
 split
 ·rw[List.length_append];omega
 ·simp;omega
theorem frT_len5 (f:Fr):(frT f 5).length≤80+2020*f.ev.length:=by
 unfold frT extT
 rw[if_pos rfl,List.length_append,List.length_append,List.length_append]
 have h1:=fldT_len (valsK f 5)
 have h2:=valsK_len f 5
 have h3:=enc_lens 5
 have h4:=enc_lens f.ev.length
 have h5:=evsT_len f.ev
 omega
theorem sealT_len (l:Bt):(sealT l).length=l.length+4:=by
 unfold sealT
 rw[List.length_append];rfl
theorem right_parts {f:Fr} {k:Nat} (h:rightK f k=true):headOk f=true∧(∀ x∈valsK f k,0≤x∧x≤4611686018427387903)∧extraB f k=true∧sameB f (bareF f k)=true:=by
 unfold rightK at h
 simp only[Bool.and_eq_true] at h
 exact⟨h.1,fun x hx=>rngB_iff.1 (List.all_eq_true.1 h.2.1 x hx),h.2.2.1,h.2.2.2⟩
theorem uints1' (n:Nat) (h:n<18446744073709551616):Sat Tryz.prog 56 [.d (.sl 1 [uR n])] [] (.own 0) [.sl 1 ((enc n).map bR)]:=by
 have e:encs [n]=enc n:=by unfold encs;simp
 have hl:=enc_lens n
 have:=uints_sat [n] (by simp) (fun y hy=>by rw[List.mem_singleton.1 hy];omega) (by rw[e];omega)
 rwa [e] at this
theorem uintsZ (z:Int) (h:0≤z) (h2:z≤9223372036854775807):Sat Tryz.prog 56 [.d (.sl 1 [[.v (.int .u64 (IntKind.u64.wrap z))]])] [] (.own 0) [.sl 1 ((enc z.toNat).map bR)]:=by
 have e:IntKind.u64.wrap z=((z.toNat:Nat):Int):=by
  show z % 18446744073709551616=_
  rw[Int.toNat_of_nonneg h]
  exact Int.emod_eq_of_lt h (by omega)
 rw[e]
 exact uints1' z.toNat (by omega)
theorem ints1 (z:Int) (h:in64 z):Sat Tryz.prog 58 [.d (lD [z])] [] (.own 0) [.sl 1 ((enc (turnN z)).map bR)]:=by
 have e:encs ([z].map turnN)=enc (turnN z):=by unfold encs;simp
 have hl:=enc_lens (turnN z)
 have:=ints_sat [z] (by simp) (fun y hy=>by rw[List.mem_singleton.1 hy];exact h) (by rw[e];omega)
 rwa [e] at this
theorem apx {L:List AObj} {ty n i j:Nat} {sx xx:Operand} {a b:Bt} (hi:L[i]?=some (.sl 1 (a.map bR))) (hj:L[j]?=some (.sl 1 (b.map bR))) (hb:a.length+b.length≤100000000000):Does Tryz.prog (.call { callee:=.builtin .append,args:=#[sx,xx],argTypes:=#[36,36] }) ty L n [.own i,.own j] ⟨[i,j],[(i,.dead)],[.sl 1 ((a++b).map bR)]⟩ (.own n):=by
 have:=ap (P:=Tryz.prog) (t:=36) (L:=L) (ty:=ty) (n:=n) (i:=i) (j:=j) (sx:=sx) (xx:=xx) 1 1 (by kernel_rfl) hi hj (by rw[List.length_map,List.length_map];omega)
 rwa [←List.map_append] at this
theorem apxd {L:List AObj} {ty n i:Nat} {sx xx:Operand} {a b:Bt} (hi:L[i]?=some (.sl 1 (a.map bR))) (hb:a.length+b.length≤100000000000):Does Tryz.prog (.call { callee:=.builtin .append,args:=#[sx,xx],argTypes:=#[36,36] }) ty L n [.own i,.d (bsD b)] ⟨[i],[(i,.dead)],[.sl 1 ((a++b).map bR)]⟩ (.own n):=by
 have:=apd (P:=Tryz.prog) (t:=36) (L:=L) (ty:=ty) (n:=n) (i:=i) (sx:=sx) (xx:=xx) (rows2:=b.map bR) 1 1 (by kernel_rfl) hi (by rw[List.length_map,List.length_map];omega)
 rwa [←List.map_append] at this
theorem apxz {L:List AObj} {ty n i j:Nat} {sx xx:Operand} {a b:Bt} (hi:L[i]?=some (.sl 1 (a.map bR))) (hj:L[j]?=some (.sl 1 (b.map bR))) (hb:a.length+b.length≤100000000000):Does Tryz.prog (.call { callee:=.builtin .append,args:=#[sx,xx],argTypes:=#[36,36] }) ty L n [.own i,.own j] ⟨[i,j],[(i,.dead)],[.dead]⟩ (.d (bsD (a++b))):=
 Does.frz (apx hi hj hb)
set_option maxHeartbeats 8000000 in
theorem encode_1 (f:Fr) (hk:f.k=1) (hf:FrOk f) (hr:rightK f 1=true):Sat Tryz.prog 26 [.d (frD f)] [] (.tup [.own 0,iA 0]) [.sl 1 ((sealT (frT f 1)).map bR)]:=by
 have f1:=fields_f f 1 hk (by decide) (by decide)
 have r1:=right_sat f hf
 have hrf:rightF f=true:=by unfold rightF;rw[if_pos (by omega),hk];exact hr
 rw[hrf] at r1
 obtain⟨hho,hv,hx,_⟩:=right_parts hr
 have hd:f.d.length≤4096∨1≠8:=by
  first|exact .inr (by decide)|(left;simp only[extraB,Bool.and_eq_true,decide_eq_true_eq] at hx;omega)
 have hfl:=frT_len f 1 (by decide)
 have u0:Sat Tryz.prog 56 [.d (.sl 1 [[.v (.int .u64 (IntKind.u64.wrap 1))]])] [] (.own 0) [.sl 1 ((enc 1).map bR)]:=uintsZ 1 (by decide) (by decide)
 have hv':∀ x∈valsK f 1,Sat Tryz.prog 56 [.d (.sl 1 [[.v (.int .u64 (IntKind.u64.wrap x))]])] [] (.own 0) [.sl 1 ((enc x.toNat).map bR)]:=fun x hx=>uintsZ x (hv x hx).1 (by have:=(hv x hx).2;omega)
 have hle:∀ i,(enc 1++fldT ((valsK f 1).take i)).length≤1000:=fun i=>by
  have h1:=fldT_len ((valsK f 1).take i)
  have h2:=valsK_len f 1
  have h3:=enc_lens 1
  rw[List.length_take] at h1
  rw[List.length_append];omega
 have hap:∀ i (x:Int),(enc 1++fldT ((valsK f 1).take i)).length+(enc x.toNat).length≤100000000000:=fun i x=>by
  have h1:=hle i
  have h2:=enc_lens x.toNat
  omega
 have hT:frT f 1=enc 1++fldT ((valsK f 1).take 2):=by
  simp[frT,extT,valsK,idxK,fldT]
 have hsl:(frT f 1).length≤60000:=by
  have:=hle 2
  rw[hT];omega
 have ss:=seal_sat (frT f 1) (by omega)
 have hsz:((sealT (frT f 1)).map bR).length=(frT f 1).length+4:=by rw[List.length_map,sealT_len]
 have d9:decide (((((frT f 1)++le4 (sumN (frT f 1))).map bR).length:Int)>65536)=false:=decide_eq_false (by have:(((frT f 1)++le4 (sumN (frT f 1))).map bR).length=(frT f 1).length+4:=hsz;omega)
 unfold sealT
 rw[hT] at ss d9 ⊢
 obtain⟨kk,a,e,b,c,g,s,n,t,w,ev,sr,d⟩:=f
 have hk:kk=1:=hk
 subst hk
 refine Vq Tryz.func26 rfl rfl ?_
 conv=>whnf
 iterate 5
  repeat' first|exact T0|(first|refine Yd fun _=>?_|refine Ye fun _=>?_|refine Yg ?_|refine Yk (r1.pu rfl rfl) ?_|refine Yk (lendON u0 rfl (bR_flats _)) ?_|refine Yk (f1.at1 0 rfl rfl rfl) ?_|refine Yk (lenP (by kernel_rfl)) ?_);conv=>whnf|(refine Ya ?_ ?_<;>intro _<;>conv=>whnf)
  all_goals try (refine Or.inl ?_;conv=>whnf)
 all_goals try (exfalso;simp only[outL] at *;first|omega|contradiction|(simp_all;done)|(simp_all;omega))
 refine⟨Nat,fun i=>i≤2,fun i=>match Nat.beq i 2 with
  |true=>([(20,iA i),(19,iA 2),(18,.rel 1 (slP 2)),(4,.d (bsD (enc 1++fldT ((valsK ⟨1,a,e,b,c,g,s,n,t,w,ev,sr,d⟩ 1).take 2)))),(1,.ptr 0 0)],[.cells (frA ⟨1,a,e,b,c,g,s,n,t,w,ev,sr,d⟩),.cells (ptrsK 1)])
  |false=>([(20,iA i),(19,iA 2),(18,.rel 1 (slP 2)),(4,.own 2),(1,.ptr 0 0)],[.cells (frA ⟨1,a,e,b,c,g,s,n,t,w,ev,sr,d⟩),.cells (ptrsK 1),.sl 1 ((enc 1++fldT ((valsK ⟨1,a,e,b,c,g,s,n,t,w,ev,sr,d⟩ 1).take i)).map bR)]),fun i=>2-i,⟨0,Nat.zero_le _,?_⟩,?_⟩
 ·all_goals refine⟨[(1,3)],?_⟩
  repeat any_goals first|exact T0|exact rfl|exact Yr|refine Ya ?_ ?_
  all_goals conv=>whnf
 intro i hi
 have hi:i≤2:=hi
 obtain rfl|rfl|rfl:i=0∨i=1∨i=2:=by omega
 ·have u1:=hv' a (by simp[valsK,idxK,getN])
  conv=>whnf
  iterate 6
   repeat' first|exact T0|(first|refine Yd fun _=>?_|refine Ye fun _=>?_|refine Yg ?_|refine Yk (ixP (by kernel_rfl) (by kernel_rfl) (by decide)) ?_|refine Yk (lendON u1 rfl (bR_flats _)) ?_|refine Yk (apx rfl rfl (hap 0 a)) ?_);conv=>whnf|(refine Ya ?_ ?_<;>intro _<;>conv=>whnf)
   all_goals try (refine Or.inl ?_;conv=>whnf)
  all_goals try (exfalso;simp only[outL] at *;first|omega|contradiction|(simp_all;done)|(simp_all;omega))
  refine⟨1,by decide,by decide,?_⟩
  all_goals refine⟨[(2,5)],?_⟩
  repeat any_goals first|exact T0|exact rfl|exact Yr|refine Ya ?_ ?_
  all_goals conv=>whnf
  all_goals first|exact congrArg (fun l=>AObj.sl 1 (List.map bR l)) (by simp[fldT,valsK,idxK,getN])|exact congrArg (fun l=>D.sl 1 (List.map bR l)) (by simp[fldT,valsK,idxK,getN])
 ·have u1:=hv' b (by simp[valsK,idxK,getN])
  conv=>whnf
  iterate 6
   repeat' first|exact T0|(first|refine Yd fun _=>?_|refine Ye fun _=>?_|refine Yg ?_|refine Yk (ixP (by kernel_rfl) (by kernel_rfl) (by decide)) ?_|refine Yk (lendON u1 rfl (bR_flats _)) ?_|refine Yk (apx rfl rfl (hap 1 b)) ?_);conv=>whnf|(refine Ya ?_ ?_<;>intro _<;>conv=>whnf)
   all_goals try (refine Or.inl ?_;conv=>whnf)
  all_goals try (exfalso;simp only[outL] at *;first|omega|contradiction|(simp_all;done)|(simp_all;omega))
  refine⟨2,by decide,by decide,?_⟩
  all_goals refine⟨[(2,5)],?_⟩
  repeat any_goals first|exact T0|exact rfl|exact Yr|refine Ya ?_ ?_
  all_goals conv=>whnf
  all_goals first|exact congrArg (fun l=>AObj.sl 1 (List.map bR l)) (by simp[fldT,valsK,idxK,getN])|exact congrArg (fun l=>D.sl 1 (List.map bR l)) (by simp[fldT,valsK,idxK,getN])
 conv=>whnf
 iterate 6
  repeat' first|exact T0|(first|refine Yd fun _=>?_|refine Ye fun _=>?_|refine Yg ?_|refine Yk (lendON ss (by kernel_rfl) (bR_flats _)) ?_);conv=>whnf|(refine Ya ?_ ?_<;>intro _<;>conv=>whnf)
  all_goals try (refine Or.inl ?_;conv=>whnf)
 all_goals try exact (bnl ‹_› d9).elim
 all_goals refine⟨[(0,3)],?_⟩
 repeat any_goals first|exact T0|exact rfl|exact Yr|refine Ya ?_ ?_
 all_goals conv=>whnf
set_option maxHeartbeats 8000000 in
theorem encode_2 (f:Fr) (hk:f.k=2) (hf:FrOk f) (hr:rightK f 2=true):Sat Tryz.prog 26 [.d (frD f)] [] (.tup [.own 0,iA 0]) [.sl 1 ((sealT (frT f 2)).map bR)]:=by
 have f1:=fields_f f 2 hk (by decide) (by decide)
 have r1:=right_sat f hf
 have hrf:rightF f=true:=by unfold rightF;rw[if_pos (by omega),hk];exact hr
 rw[hrf] at r1
 obtain⟨hho,hv,hx,_⟩:=right_parts hr
 have hd:f.d.length≤4096∨2≠8:=by
  first|exact .inr (by decide)|(left;simp only[extraB,Bool.and_eq_true,decide_eq_true_eq] at hx;omega)
 have hfl:=frT_len f 2 (by decide)
 have u0:Sat Tryz.prog 56 [.d (.sl 1 [[.v (.int .u64 (IntKind.u64.wrap 2))]])] [] (.own 0) [.sl 1 ((enc 2).map bR)]:=uintsZ 2 (by decide) (by decide)
 have hv':∀ x∈valsK f 2,Sat Tryz.prog 56 [.d (.sl 1 [[.v (.int .u64 (IntKind.u64.wrap x))]])] [] (.own 0) [.sl 1 ((enc x.toNat).map bR)]:=fun x hx=>uintsZ x (hv x hx).1 (by have:=(hv x hx).2;omega)
 have hle:∀ i,(enc 2++fldT ((valsK f 2).take i)).length≤1000:=fun i=>by
  have h1:=fldT_len ((valsK f 2).take i)
  have h2:=valsK_len f 2
  have h3:=enc_lens 2
  rw[List.length_take] at h1
  rw[List.length_append];omega
 have hap:∀ i (x:Int),(enc 2++fldT ((valsK f 2).take i)).length+(enc x.toNat).length≤100000000000:=fun i x=>by
  have h1:=hle i
  have h2:=enc_lens x.toNat
  omega
 have hT:frT f 2=enc 2++fldT ((valsK f 2).take 3):=by
  simp[frT,extT,valsK,idxK,fldT]
 have hsl:(frT f 2).length≤60000:=by
  have:=hle 3
  rw[hT];omega
 have ss:=seal_sat (frT f 2) (by omega)
 have hsz:((sealT (frT f 2)).map bR).length=(frT f 2).length+4:=by rw[List.length_map,sealT_len]
 have d9:decide (((((frT f 2)++le4 (sumN (frT f 2))).map bR).length:Int)>65536)=false:=decide_eq_false (by have:(((frT f 2)++le4 (sumN (frT f 2))).map bR).length=(frT f 2).length+4:=hsz;omega)
 unfold sealT
 rw[hT] at ss d9 ⊢
 obtain⟨kk,a,e,b,c,g,s,n,t,w,ev,sr,d⟩:=f
 have hk:kk=2:=hk
 subst hk
 refine Vq Tryz.func26 rfl rfl ?_
 conv=>whnf
 iterate 5
  repeat' first|exact T0|(first|refine Yd fun _=>?_|refine Ye fun _=>?_|refine Yg ?_|refine Yk (r1.pu rfl rfl) ?_|refine Yk (lendON u0 rfl (bR_flats _)) ?_|refine Yk (f1.at1 0 rfl rfl rfl) ?_|refine Yk (lenP (by kernel_rfl)) ?_);conv=>whnf|(refine Ya ?_ ?_<;>intro _<;>conv=>whnf)
  all_goals try (refine Or.inl ?_;conv=>whnf)
 all_goals try (exfalso;simp only[outL] at *;first|omega|contradiction|(simp_all;done)|(simp_all;omega))
 refine⟨Nat,fun i=>i≤3,fun i=>match Nat.beq i 3 with
  |true=>([(20,iA i),(19,iA 3),(18,.rel 1 (slP 3)),(4,.d (bsD (enc 2++fldT ((valsK ⟨2,a,e,b,c,g,s,n,t,w,ev,sr,d⟩ 2).take 3)))),(1,.ptr 0 0)],[.cells (frA ⟨2,a,e,b,c,g,s,n,t,w,ev,sr,d⟩),.cells (ptrsK 2)])
  |false=>([(20,iA i),(19,iA 3),(18,.rel 1 (slP 3)),(4,.own 2),(1,.ptr 0 0)],[.cells (frA ⟨2,a,e,b,c,g,s,n,t,w,ev,sr,d⟩),.cells (ptrsK 2),.sl 1 ((enc 2++fldT ((valsK ⟨2,a,e,b,c,g,s,n,t,w,ev,sr,d⟩ 2).take i)).map bR)]),fun i=>3-i,⟨0,Nat.zero_le _,?_⟩,?_⟩
 ·all_goals refine⟨[(1,3)],?_⟩
  repeat any_goals first|exact T0|exact rfl|exact Yr|refine Ya ?_ ?_
  all_goals conv=>whnf
 intro i hi
 have hi:i≤3:=hi
 obtain rfl|rfl|rfl|rfl:i=0∨i=1∨i=2∨i=3:=by omega
 ·have u1:=hv' a (by simp[valsK,idxK,getN])
  conv=>whnf
  iterate 6
   repeat' first|exact T0|(first|refine Yd fun _=>?_|refine Ye fun _=>?_|refine Yg ?_|refine Yk (ixP (by kernel_rfl) (by kernel_rfl) (by decide)) ?_|refine Yk (lendON u1 rfl (bR_flats _)) ?_|refine Yk (apx rfl rfl (hap 0 a)) ?_);conv=>whnf|(refine Ya ?_ ?_<;>intro _<;>conv=>whnf)
   all_goals try (refine Or.inl ?_;conv=>whnf)
  all_goals try (exfalso;simp only[outL] at *;first|omega|contradiction|(simp_all;done)|(simp_all;omega))
  refine⟨1,by decide,by decide,?_⟩
  all_goals refine⟨[(2,5)],?_⟩
  repeat any_goals first|exact T0|exact rfl|exact Yr|refine Ya ?_ ?_
  all_goals conv=>whnf
  all_goals first|exact congrArg (fun l=>AObj.sl 1 (List.map bR l)) (by simp[fldT,valsK,idxK,getN])|exact congrArg (fun l=>D.sl 1 (List.map bR l)) (by simp[fldT,valsK,idxK,getN])
 ·have u1:=hv' b (by simp[valsK,idxK,getN])
  conv=>whnf
  iterate 6
   repeat' first|exact T0|(first|refine Yd fun _=>?_|refine Ye fun _=>?_|refine Yg ?_|refine Yk (ixP (by kernel_rfl) (by kernel_rfl) (by decide)) ?_|refine Yk (lendON u1 rfl (bR_flats _)) ?_|refine Yk (apx rfl rfl (hap 1 b)) ?_);conv=>whnf|(refine Ya ?_ ?_<;>intro _<;>conv=>whnf)
   all_goals try (refine Or.inl ?_;conv=>whnf)
  all_goals try (exfalso;simp only[outL] at *;first|omega|contradiction|(simp_all;done)|(simp_all;omega))
  refine⟨2,by decide,by decide,?_⟩
  all_goals refine⟨[(2,5)],?_⟩
  repeat any_goals first|exact T0|exact rfl|exact Yr|refine Ya ?_ ?_
  all_goals conv=>whnf
  all_goals first|exact congrArg (fun l=>AObj.sl 1 (List.map bR l)) (by simp[fldT,valsK,idxK,getN])|exact congrArg (fun l=>D.sl 1 (List.map bR l)) (by simp[fldT,valsK,idxK,getN])
 ·have u1:=hv' e (by simp[valsK,idxK,getN])
  conv=>whnf
  iterate 6
   repeat' first|exact T0|(first|refine Yd fun _=>?_|refine Ye fun _=>?_|refine Yg ?_|refine Yk (ixP (by kernel_rfl) (by kernel_rfl) (by decide)) ?_|refine Yk (lendON u1 rfl (bR_flats _)) ?_|refine Yk (apx rfl rfl (hap 2 e)) ?_);conv=>whnf|(refine Ya ?_ ?_<;>intro _<;>conv=>whnf)
   all_goals try (refine Or.inl ?_;conv=>whnf)
  all_goals try (exfalso;simp only[outL] at *;first|omega|contradiction|(simp_all;done)|(simp_all;omega))
  refine⟨3,by decide,by decide,?_⟩
  all_goals refine⟨[(2,5)],?_⟩
  repeat any_goals first|exact T0|exact rfl|exact Yr|refine Ya ?_ ?_
  all_goals conv=>whnf
  all_goals first|exact congrArg (fun l=>AObj.sl 1 (List.map bR l)) (by simp[fldT,valsK,idxK,getN])|exact congrArg (fun l=>D.sl 1 (List.map bR l)) (by simp[fldT,valsK,idxK,getN])
 conv=>whnf
 iterate 6
  repeat' first|exact T0|(first|refine Yd fun _=>?_|refine Ye fun _=>?_|refine Yg ?_|refine Yk (lendON ss (by kernel_rfl) (bR_flats _)) ?_);conv=>whnf|(refine Ya ?_ ?_<;>intro _<;>conv=>whnf)
  all_goals try (refine Or.inl ?_;conv=>whnf)
 all_goals try exact (bnl ‹_› d9).elim
 all_goals refine⟨[(0,3)],?_⟩
 repeat any_goals first|exact T0|exact rfl|exact Yr|refine Ya ?_ ?_
 all_goals conv=>whnf
set_option maxHeartbeats 8000000 in
theorem encode_3 (f:Fr) (hk:f.k=3) (hf:FrOk f) (hr:rightK f 3=true):Sat Tryz.prog 26 [.d (frD f)] [] (.tup [.own 0,iA 0]) [.sl 1 ((sealT (frT f 3)).map bR)]:=by
 have f1:=fields_f f 3 hk (by decide) (by decide)
 have r1:=right_sat f hf
 have hrf:rightF f=true:=by unfold rightF;rw[if_pos (by omega),hk];exact hr
 rw[hrf] at r1
 obtain⟨hho,hv,hx,_⟩:=right_parts hr
 have hd:f.d.length≤4096∨3≠8:=by
  first|exact .inr (by decide)|(left;simp only[extraB,Bool.and_eq_true,decide_eq_true_eq] at hx;omega)
 have hfl:=frT_len f 3 (by decide)
 have u0:Sat Tryz.prog 56 [.d (.sl 1 [[.v (.int .u64 (IntKind.u64.wrap 3))]])] [] (.own 0) [.sl 1 ((enc 3).map bR)]:=uintsZ 3 (by decide) (by decide)
 have hv':∀ x∈valsK f 3,Sat Tryz.prog 56 [.d (.sl 1 [[.v (.int .u64 (IntKind.u64.wrap x))]])] [] (.own 0) [.sl 1 ((enc x.toNat).map bR)]:=fun x hx=>uintsZ x (hv x hx).1 (by have:=(hv x hx).2;omega)
 have hle:∀ i,(enc 3++fldT ((valsK f 3).take i)).length≤1000:=fun i=>by
  have h1:=fldT_len ((valsK f 3).take i)
  have h2:=valsK_len f 3
  have h3:=enc_lens 3
  rw[List.length_take] at h1
  rw[List.length_append];omega
 have hap:∀ i (x:Int),(enc 3++fldT ((valsK f 3).take i)).length+(enc x.toNat).length≤100000000000:=fun i x=>by
  have h1:=hle i
  have h2:=enc_lens x.toNat
  omega
 have hT:frT f 3=enc 3++fldT ((valsK f 3).take 3):=by
  simp[frT,extT,valsK,idxK,fldT]
 have hsl:(frT f 3).length≤60000:=by
  have:=hle 3
  rw[hT];omega
 have ss:=seal_sat (frT f 3) (by omega)
 have hsz:((sealT (frT f 3)).map bR).length=(frT f 3).length+4:=by rw[List.length_map,sealT_len]
 have d9:decide (((((frT f 3)++le4 (sumN (frT f 3))).map bR).length:Int)>65536)=false:=decide_eq_false (by have:(((frT f 3)++le4 (sumN (frT f 3))).map bR).length=(frT f 3).length+4:=hsz;omega)
 unfold sealT
 rw[hT] at ss d9 ⊢
 obtain⟨kk,a,e,b,c,g,s,n,t,w,ev,sr,d⟩:=f
 have hk:kk=3:=hk
 subst hk
 refine Vq Tryz.func26 rfl rfl ?_
 conv=>whnf
 iterate 5
  repeat' first|exact T0|(first|refine Yd fun _=>?_|refine Ye fun _=>?_|refine Yg ?_|refine Yk (r1.pu rfl rfl) ?_|refine Yk (lendON u0 rfl (bR_flats _)) ?_|refine Yk (f1.at1 0 rfl rfl rfl) ?_|refine Yk (lenP (by kernel_rfl)) ?_);conv=>whnf|(refine Ya ?_ ?_<;>intro _<;>conv=>whnf)
  all_goals try (refine Or.inl ?_;conv=>whnf)
 all_goals try (exfalso;simp only[outL] at *;first|omega|contradiction|(simp_all;done)|(simp_all;omega))
 refine⟨Nat,fun i=>i≤3,fun i=>match Nat.beq i 3 with
  |true=>([(20,iA i),(19,iA 3),(18,.rel 1 (slP 3)),(4,.d (bsD (enc 3++fldT ((valsK ⟨3,a,e,b,c,g,s,n,t,w,ev,sr,d⟩ 3).take 3)))),(1,.ptr 0 0)],[.cells (frA ⟨3,a,e,b,c,g,s,n,t,w,ev,sr,d⟩),.cells (ptrsK 3)])
  |false=>([(20,iA i),(19,iA 3),(18,.rel 1 (slP 3)),(4,.own 2),(1,.ptr 0 0)],[.cells (frA ⟨3,a,e,b,c,g,s,n,t,w,ev,sr,d⟩),.cells (ptrsK 3),.sl 1 ((enc 3++fldT ((valsK ⟨3,a,e,b,c,g,s,n,t,w,ev,sr,d⟩ 3).take i)).map bR)]),fun i=>3-i,⟨0,Nat.zero_le _,?_⟩,?_⟩
 ·all_goals refine⟨[(1,3)],?_⟩
  repeat any_goals first|exact T0|exact rfl|exact Yr|refine Ya ?_ ?_
  all_goals conv=>whnf
 intro i hi
 have hi:i≤3:=hi
 obtain rfl|rfl|rfl|rfl:i=0∨i=1∨i=2∨i=3:=by omega
 ·have u1:=hv' a (by simp[valsK,idxK,getN])
  conv=>whnf
  iterate 6
   repeat' first|exact T0|(first|refine Yd fun _=>?_|refine Ye fun _=>?_|refine Yg ?_|refine Yk (ixP (by kernel_rfl) (by kernel_rfl) (by decide)) ?_|refine Yk (lendON u1 rfl (bR_flats _)) ?_|refine Yk (apx rfl rfl (hap 0 a)) ?_);conv=>whnf|(refine Ya ?_ ?_<;>intro _<;>conv=>whnf)
   all_goals try (refine Or.inl ?_;conv=>whnf)
  all_goals try (exfalso;simp only[outL] at *;first|omega|contradiction|(simp_all;done)|(simp_all;omega))
  refine⟨1,by decide,by decide,?_⟩
  all_goals refine⟨[(2,5)],?_⟩
  repeat any_goals first|exact T0|exact rfl|exact Yr|refine Ya ?_ ?_
  all_goals conv=>whnf
  all_goals first|exact congrArg (fun l=>AObj.sl 1 (List.map bR l)) (by simp[fldT,valsK,idxK,getN])|exact congrArg (fun l=>D.sl 1 (List.map bR l)) (by simp[fldT,valsK,idxK,getN])
 ·have u1:=hv' b (by simp[valsK,idxK,getN])
  conv=>whnf
  iterate 6
   repeat' first|exact T0|(first|refine Yd fun _=>?_|refine Ye fun _=>?_|refine Yg ?_|refine Yk (ixP (by kernel_rfl) (by kernel_rfl) (by decide)) ?_|refine Yk (lendON u1 rfl (bR_flats _)) ?_|refine Yk (apx rfl rfl (hap 1 b)) ?_);conv=>whnf|(refine Ya ?_ ?_<;>intro _<;>conv=>whnf)
   all_goals try (refine Or.inl ?_;conv=>whnf)
  all_goals try (exfalso;simp only[outL] at *;first|omega|contradiction|(simp_all;done)|(simp_all;omega))
  refine⟨2,by decide,by decide,?_⟩
  all_goals refine⟨[(2,5)],?_⟩
  repeat any_goals first|exact T0|exact rfl|exact Yr|refine Ya ?_ ?_
  all_goals conv=>whnf
  all_goals first|exact congrArg (fun l=>AObj.sl 1 (List.map bR l)) (by simp[fldT,valsK,idxK,getN])|exact congrArg (fun l=>D.sl 1 (List.map bR l)) (by simp[fldT,valsK,idxK,getN])
 ·have u1:=hv' c (by simp[valsK,idxK,getN])
  conv=>whnf
  iterate 6
   repeat' first|exact T0|(first|refine Yd fun _=>?_|refine Ye fun _=>?_|refine Yg ?_|refine Yk (ixP (by kernel_rfl) (by kernel_rfl) (by decide)) ?_|refine Yk (lendON u1 rfl (bR_flats _)) ?_|refine Yk (apx rfl rfl (hap 2 c)) ?_);conv=>whnf|(refine Ya ?_ ?_<;>intro _<;>conv=>whnf)
   all_goals try (refine Or.inl ?_;conv=>whnf)
  all_goals try (exfalso;simp only[outL] at *;first|omega|contradiction|(simp_all;done)|(simp_all;omega))
  refine⟨3,by decide,by decide,?_⟩
  all_goals refine⟨[(2,5)],?_⟩
  repeat any_goals first|exact T0|exact rfl|exact Yr|refine Ya ?_ ?_
  all_goals conv=>whnf
  all_goals first|exact congrArg (fun l=>AObj.sl 1 (List.map bR l)) (by simp[fldT,valsK,idxK,getN])|exact congrArg (fun l=>D.sl 1 (List.map bR l)) (by simp[fldT,valsK,idxK,getN])
 conv=>whnf
 iterate 6
  repeat' first|exact T0|(first|refine Yd fun _=>?_|refine Ye fun _=>?_|refine Yg ?_|refine Yk (lendON ss (by kernel_rfl) (bR_flats _)) ?_);conv=>whnf|(refine Ya ?_ ?_<;>intro _<;>conv=>whnf)
  all_goals try (refine Or.inl ?_;conv=>whnf)
 all_goals try exact (bnl ‹_› d9).elim
 all_goals refine⟨[(0,3)],?_⟩
 repeat any_goals first|exact T0|exact rfl|exact Yr|refine Ya ?_ ?_
 all_goals conv=>whnf
set_option maxHeartbeats 8000000 in
theorem encode_4 (f:Fr) (hk:f.k=4) (hf:FrOk f) (hr:rightK f 4=true):Sat Tryz.prog 26 [.d (frD f)] [] (.tup [.own 0,iA 0]) [.sl 1 ((sealT (frT f 4)).map bR)]:=by
 have f1:=fields_f f 4 hk (by decide) (by decide)
 have r1:=right_sat f hf
 have hrf:rightF f=true:=by unfold rightF;rw[if_pos (by omega),hk];exact hr
 rw[hrf] at r1
 obtain⟨hho,hv,hx,_⟩:=right_parts hr
 have hd:f.d.length≤4096∨4≠8:=by
  first|exact .inr (by decide)|(left;simp only[extraB,Bool.and_eq_true,decide_eq_true_eq] at hx;omega)
 have hfl:=frT_len f 4 (by decide)
 have u0:Sat Tryz.prog 56 [.d (.sl 1 [[.v (.int .u64 (IntKind.u64.wrap 4))]])] [] (.own 0) [.sl 1 ((enc 4).map bR)]:=uintsZ 4 (by decide) (by decide)
 have hv':∀ x∈valsK f 4,Sat Tryz.prog 56 [.d (.sl 1 [[.v (.int .u64 (IntKind.u64.wrap x))]])] [] (.own 0) [.sl 1 ((enc x.toNat).map bR)]:=fun x hx=>uintsZ x (hv x hx).1 (by have:=(hv x hx).2;omega)
 have hle:∀ i,(enc 4++fldT ((valsK f 4).take i)).length≤1000:=fun i=>by
  have h1:=fldT_len ((valsK f 4).take i)
  have h2:=valsK_len f 4
  have h3:=enc_lens 4
  rw[List.length_take] at h1
  rw[List.length_append];omega
 have hap:∀ i (x:Int),(enc 4++fldT ((valsK f 4).take i)).length+(enc x.toNat).length≤100000000000:=fun i x=>by
  have h1:=hle i
  have h2:=enc_lens x.toNat
  omega
 have hT:frT f 4=enc 4++fldT ((valsK f 4).take 6):=by
  simp[frT,extT,valsK,idxK,fldT]
 have hsl:(frT f 4).length≤60000:=by
  have:=hle 6
  rw[hT];omega
 have ss:=seal_sat (frT f 4) (by omega)
 have hsz:((sealT (frT f 4)).map bR).length=(frT f 4).length+4:=by rw[List.length_map,sealT_len]
 have d9:decide (((((frT f 4)++le4 (sumN (frT f 4))).map bR).length:Int)>65536)=false:=decide_eq_false (by have:(((frT f 4)++le4 (sumN (frT f 4))).map bR).length=(frT f 4).length+4:=hsz;omega)
 unfold sealT
 rw[hT] at ss d9 ⊢
 obtain⟨kk,a,e,b,c,g,s,n,t,w,ev,sr,d⟩:=f
 have hk:kk=4:=hk
 subst hk
 refine Vq Tryz.func26 rfl rfl ?_
 conv=>whnf
 iterate 5
  repeat' first|exact T0|(first|refine Yd fun _=>?_|refine Ye fun _=>?_|refine Yg ?_|refine Yk (r1.pu rfl rfl) ?_|refine Yk (lendON u0 rfl (bR_flats _)) ?_|refine Yk (f1.at1 0 rfl rfl rfl) ?_|refine Yk (lenP (by kernel_rfl)) ?_);conv=>whnf|(refine Ya ?_ ?_<;>intro _<;>conv=>whnf)
  all_goals try (refine Or.inl ?_;conv=>whnf)
 all_goals try (exfalso;simp only[outL] at *;first|omega|contradiction|(simp_all;done)|(simp_all;omega))
 refine⟨Nat,fun i=>i≤6,fun i=>match Nat.beq i 6 with
  |true=>([(20,iA i),(19,iA 6),(18,.rel 1 (slP 6)),(4,.d (bsD (enc 4++fldT ((valsK ⟨4,a,e,b,c,g,s,n,t,w,ev,sr,d⟩ 4).take 6)))),(1,.ptr 0 0)],[.cells (frA ⟨4,a,e,b,c,g,s,n,t,w,ev,sr,d⟩),.cells (ptrsK 4)])
  |false=>([(20,iA i),(19,iA 6),(18,.rel 1 (slP 6)),(4,.own 2),(1,.ptr 0 0)],[.cells (frA ⟨4,a,e,b,c,g,s,n,t,w,ev,sr,d⟩),.cells (ptrsK 4),.sl 1 ((enc 4++fldT ((valsK ⟨4,a,e,b,c,g,s,n,t,w,ev,sr,d⟩ 4).take i)).map bR)]),fun i=>6-i,⟨0,Nat.zero_le _,?_⟩,?_⟩
 ·all_goals refine⟨[(1,3)],?_⟩
  repeat any_goals first|exact T0|exact rfl|exact Yr|refine Ya ?_ ?_
  all_goals conv=>whnf
 intro i hi
 have hi:i≤6:=hi
 obtain rfl|rfl|rfl|rfl|rfl|rfl|rfl:i=0∨i=1∨i=2∨i=3∨i=4∨i=5∨i=6:=by omega
 ·have u1:=hv' a (by simp[valsK,idxK,getN])
  conv=>whnf
  iterate 6
   repeat' first|exact T0|(first|refine Yd fun _=>?_|refine Ye fun _=>?_|refine Yg ?_|refine Yk (ixP (by kernel_rfl) (by kernel_rfl) (by decide)) ?_|refine Yk (lendON u1 rfl (bR_flats _)) ?_|refine Yk (apx rfl rfl (hap 0 a)) ?_);conv=>whnf|(refine Ya ?_ ?_<;>intro _<;>conv=>whnf)
   all_goals try (refine Or.inl ?_;conv=>whnf)
  all_goals try (exfalso;simp only[outL] at *;first|omega|contradiction|(simp_all;done)|(simp_all;omega))
  refine⟨1,by decide,by decide,?_⟩
  all_goals refine⟨[(2,5)],?_⟩
  repeat any_goals first|exact T0|exact rfl|exact Yr|refine Ya ?_ ?_
  all_goals conv=>whnf
  all_goals first|exact congrArg (fun l=>AObj.sl 1 (List.map bR l)) (by simp[fldT,valsK,idxK,getN])|exact congrArg (fun l=>D.sl 1 (List.map bR l)) (by simp[fldT,valsK,idxK,getN])
 ·have u1:=hv' e (by simp[valsK,idxK,getN])
  conv=>whnf
  iterate 6
   repeat' first|exact T0|(first|refine Yd fun _=>?_|refine Ye fun _=>?_|refine Yg ?_|refine Yk (ixP (by kernel_rfl) (by kernel_rfl) (by decide)) ?_|refine Yk (lendON u1 rfl (bR_flats _)) ?_|refine Yk (apx rfl rfl (hap 1 e)) ?_);conv=>whnf|(refine Ya ?_ ?_<;>intro _<;>conv=>whnf)
   all_goals try (refine Or.inl ?_;conv=>whnf)
  all_goals try (exfalso;simp only[outL] at *;first|omega|contradiction|(simp_all;done)|(simp_all;omega))
  refine⟨2,by decide,by decide,?_⟩
  all_goals refine⟨[(2,5)],?_⟩
  repeat any_goals first|exact T0|exact rfl|exact Yr|refine Ya ?_ ?_
  all_goals conv=>whnf
  all_goals first|exact congrArg (fun l=>AObj.sl 1 (List.map bR l)) (by simp[fldT,valsK,idxK,getN])|exact congrArg (fun l=>D.sl 1 (List.map bR l)) (by simp[fldT,valsK,idxK,getN])
 ·have u1:=hv' b (by simp[valsK,idxK,getN])
  conv=>whnf
  iterate 6
   repeat' first|exact T0|(first|refine Yd fun _=>?_|refine Ye fun _=>?_|refine Yg ?_|refine Yk (ixP (by kernel_rfl) (by kernel_rfl) (by decide)) ?_|refine Yk (lendON u1 rfl (bR_flats _)) ?_|refine Yk (apx rfl rfl (hap 2 b)) ?_);conv=>whnf|(refine Ya ?_ ?_<;>intro _<;>conv=>whnf)
   all_goals try (refine Or.inl ?_;conv=>whnf)
  all_goals try (exfalso;simp only[outL] at *;first|omega|contradiction|(simp_all;done)|(simp_all;omega))
  refine⟨3,by decide,by decide,?_⟩
  all_goals refine⟨[(2,5)],?_⟩
  repeat any_goals first|exact T0|exact rfl|exact Yr|refine Ya ?_ ?_
  all_goals conv=>whnf
  all_goals first|exact congrArg (fun l=>AObj.sl 1 (List.map bR l)) (by simp[fldT,valsK,idxK,getN])|exact congrArg (fun l=>D.sl 1 (List.map bR l)) (by simp[fldT,valsK,idxK,getN])
 ·have u1:=hv' c (by simp[valsK,idxK,getN])
  conv=>whnf
  iterate 6
   repeat' first|exact T0|(first|refine Yd fun _=>?_|refine Ye fun _=>?_|refine Yg ?_|refine Yk (ixP (by kernel_rfl) (by kernel_rfl) (by decide)) ?_|refine Yk (lendON u1 rfl (bR_flats _)) ?_|refine Yk (apx rfl rfl (hap 3 c)) ?_);conv=>whnf|(refine Ya ?_ ?_<;>intro _<;>conv=>whnf)
   all_goals try (refine Or.inl ?_;conv=>whnf)
  all_goals try (exfalso;simp only[outL] at *;first|omega|contradiction|(simp_all;done)|(simp_all;omega))
  refine⟨4,by decide,by decide,?_⟩
  all_goals refine⟨[(2,5)],?_⟩
  repeat any_goals first|exact T0|exact rfl|exact Yr|refine Ya ?_ ?_
  all_goals conv=>whnf
  all_goals first|exact congrArg (fun l=>AObj.sl 1 (List.map bR l)) (by simp[fldT,valsK,idxK,getN])|exact congrArg (fun l=>D.sl 1 (List.map bR l)) (by simp[fldT,valsK,idxK,getN])
 ·have u1:=hv' g (by simp[valsK,idxK,getN])
  conv=>whnf
  iterate 6
   repeat' first|exact T0|(first|refine Yd fun _=>?_|refine Ye fun _=>?_|refine Yg ?_|refine Yk (ixP (by kernel_rfl) (by kernel_rfl) (by decide)) ?_|refine Yk (lendON u1 rfl (bR_flats _)) ?_|refine Yk (apx rfl rfl (hap 4 g)) ?_);conv=>whnf|(refine Ya ?_ ?_<;>intro _<;>conv=>whnf)
   all_goals try (refine Or.inl ?_;conv=>whnf)
  all_goals try (exfalso;simp only[outL] at *;first|omega|contradiction|(simp_all;done)|(simp_all;omega))
  refine⟨5,by decide,by decide,?_⟩
  all_goals refine⟨[(2,5)],?_⟩
  repeat any_goals first|exact T0|exact rfl|exact Yr|refine Ya ?_ ?_
  all_goals conv=>whnf
  all_goals first|exact congrArg (fun l=>AObj.sl 1 (List.map bR l)) (by simp[fldT,valsK,idxK,getN])|exact congrArg (fun l=>D.sl 1 (List.map bR l)) (by simp[fldT,valsK,idxK,getN])
 ·have u1:=hv' s (by simp[valsK,idxK,getN])
  conv=>whnf
  iterate 6
   repeat' first|exact T0|(first|refine Yd fun _=>?_|refine Ye fun _=>?_|refine Yg ?_|refine Yk (ixP (by kernel_rfl) (by kernel_rfl) (by decide)) ?_|refine Yk (lendON u1 rfl (bR_flats _)) ?_|refine Yk (apx rfl rfl (hap 5 s)) ?_);conv=>whnf|(refine Ya ?_ ?_<;>intro _<;>conv=>whnf)
   all_goals try (refine Or.inl ?_;conv=>whnf)
  all_goals try (exfalso;simp only[outL] at *;first|omega|contradiction|(simp_all;done)|(simp_all;omega))
  refine⟨6,by decide,by decide,?_⟩
  all_goals refine⟨[(2,5)],?_⟩
  repeat any_goals first|exact T0|exact rfl|exact Yr|refine Ya ?_ ?_
  all_goals conv=>whnf
  all_goals first|exact congrArg (fun l=>AObj.sl 1 (List.map bR l)) (by simp[fldT,valsK,idxK,getN])|exact congrArg (fun l=>D.sl 1 (List.map bR l)) (by simp[fldT,valsK,idxK,getN])
 conv=>whnf
 iterate 6
  repeat' first|exact T0|(first|refine Yd fun _=>?_|refine Ye fun _=>?_|refine Yg ?_|refine Yk (lendON ss (by kernel_rfl) (bR_flats _)) ?_);conv=>whnf|(refine Ya ?_ ?_<;>intro _<;>conv=>whnf)
  all_goals try (refine Or.inl ?_;conv=>whnf)
 all_goals try exact (bnl ‹_› d9).elim
 all_goals refine⟨[(0,3)],?_⟩
 repeat any_goals first|exact T0|exact rfl|exact Yr|refine Ya ?_ ?_
 all_goals conv=>whnf
set_option maxHeartbeats 8000000 in
theorem encode_6 (f:Fr) (hk:f.k=6) (hf:FrOk f) (hr:rightK f 6=true):Sat Tryz.prog 26 [.d (frD f)] [] (.tup [.own 0,iA 0]) [.sl 1 ((sealT (frT f 6)).map bR)]:=by
 have f1:=fields_f f 6 hk (by decide) (by decide)
 have r1:=right_sat f hf
 have hrf:rightF f=true:=by unfold rightF;rw[if_pos (by omega),hk];exact hr
 rw[hrf] at r1
 obtain⟨hho,hv,hx,_⟩:=right_parts hr
 have hd:f.d.length≤4096∨6≠8:=by
  first|exact .inr (by decide)|(left;simp only[extraB,Bool.and_eq_true,decide_eq_true_eq] at hx;omega)
 have hfl:=frT_len f 6 (by decide)
 have u0:Sat Tryz.prog 56 [.d (.sl 1 [[.v (.int .u64 (IntKind.u64.wrap 6))]])] [] (.own 0) [.sl 1 ((enc 6).map bR)]:=uintsZ 6 (by decide) (by decide)
 have hv':∀ x∈valsK f 6,Sat Tryz.prog 56 [.d (.sl 1 [[.v (.int .u64 (IntKind.u64.wrap x))]])] [] (.own 0) [.sl 1 ((enc x.toNat).map bR)]:=fun x hx=>uintsZ x (hv x hx).1 (by have:=(hv x hx).2;omega)
 have hle:∀ i,(enc 6++fldT ((valsK f 6).take i)).length≤1000:=fun i=>by
  have h1:=fldT_len ((valsK f 6).take i)
  have h2:=valsK_len f 6
  have h3:=enc_lens 6
  rw[List.length_take] at h1
  rw[List.length_append];omega
 have hap:∀ i (x:Int),(enc 6++fldT ((valsK f 6).take i)).length+(enc x.toNat).length≤100000000000:=fun i x=>by
  have h1:=hle i
  have h2:=enc_lens x.toNat
  omega
 have hT:frT f 6=enc 6++fldT ((valsK f 6).take 3):=by
  simp[frT,extT,valsK,idxK,fldT]
 have hsl:(frT f 6).length≤60000:=by
  have:=hle 3
  rw[hT];omega
 have ss:=seal_sat (frT f 6) (by omega)
 have hsz:((sealT (frT f 6)).map bR).length=(frT f 6).length+4:=by rw[List.length_map,sealT_len]
 have d9:decide (((((frT f 6)++le4 (sumN (frT f 6))).map bR).length:Int)>65536)=false:=decide_eq_false (by have:(((frT f 6)++le4 (sumN (frT f 6))).map bR).length=(frT f 6).length+4:=hsz;omega)
 unfold sealT
 rw[hT] at ss d9 ⊢
 obtain⟨kk,a,e,b,c,g,s,n,t,w,ev,sr,d⟩:=f
 have hk:kk=6:=hk
 subst hk
 refine Vq Tryz.func26 rfl rfl ?_
 conv=>whnf
 iterate 5
  repeat' first|exact T0|(first|refine Yd fun _=>?_|refine Ye fun _=>?_|refine Yg ?_|refine Yk (r1.pu rfl rfl) ?_|refine Yk (lendON u0 rfl (bR_flats _)) ?_|refine Yk (f1.at1 0 rfl rfl rfl) ?_|refine Yk (lenP (by kernel_rfl)) ?_);conv=>whnf|(refine Ya ?_ ?_<;>intro _<;>conv=>whnf)
  all_goals try (refine Or.inl ?_;conv=>whnf)
 all_goals try (exfalso;simp only[outL] at *;first|omega|contradiction|(simp_all;done)|(simp_all;omega))
 refine⟨Nat,fun i=>i≤3,fun i=>match Nat.beq i 3 with
  |true=>([(20,iA i),(19,iA 3),(18,.rel 1 (slP 3)),(4,.d (bsD (enc 6++fldT ((valsK ⟨6,a,e,b,c,g,s,n,t,w,ev,sr,d⟩ 6).take 3)))),(1,.ptr 0 0)],[.cells (frA ⟨6,a,e,b,c,g,s,n,t,w,ev,sr,d⟩),.cells (ptrsK 6)])
  |false=>([(20,iA i),(19,iA 3),(18,.rel 1 (slP 3)),(4,.own 2),(1,.ptr 0 0)],[.cells (frA ⟨6,a,e,b,c,g,s,n,t,w,ev,sr,d⟩),.cells (ptrsK 6),.sl 1 ((enc 6++fldT ((valsK ⟨6,a,e,b,c,g,s,n,t,w,ev,sr,d⟩ 6).take i)).map bR)]),fun i=>3-i,⟨0,Nat.zero_le _,?_⟩,?_⟩
 ·all_goals refine⟨[(1,3)],?_⟩
  repeat any_goals first|exact T0|exact rfl|exact Yr|refine Ya ?_ ?_
  all_goals conv=>whnf
 intro i hi
 have hi:i≤3:=hi
 obtain rfl|rfl|rfl|rfl:i=0∨i=1∨i=2∨i=3:=by omega
 ·have u1:=hv' a (by simp[valsK,idxK,getN])
  conv=>whnf
  iterate 6
   repeat' first|exact T0|(first|refine Yd fun _=>?_|refine Ye fun _=>?_|refine Yg ?_|refine Yk (ixP (by kernel_rfl) (by kernel_rfl) (by decide)) ?_|refine Yk (lendON u1 rfl (bR_flats _)) ?_|refine Yk (apx rfl rfl (hap 0 a)) ?_);conv=>whnf|(refine Ya ?_ ?_<;>intro _<;>conv=>whnf)
   all_goals try (refine Or.inl ?_;conv=>whnf)
  all_goals try (exfalso;simp only[outL] at *;first|omega|contradiction|(simp_all;done)|(simp_all;omega))
  refine⟨1,by decide,by decide,?_⟩
  all_goals refine⟨[(2,5)],?_⟩
  repeat any_goals first|exact T0|exact rfl|exact Yr|refine Ya ?_ ?_
  all_goals conv=>whnf
  all_goals first|exact congrArg (fun l=>AObj.sl 1 (List.map bR l)) (by simp[fldT,valsK,idxK,getN])|exact congrArg (fun l=>D.sl 1 (List.map bR l)) (by simp[fldT,valsK,idxK,getN])
 ·have u1:=hv' e (by simp[valsK,idxK,getN])
  conv=>whnf
  iterate 6
   repeat' first|exact T0|(first|refine Yd fun _=>?_|refine Ye fun _=>?_|refine Yg ?_|refine Yk (ixP (by kernel_rfl) (by kernel_rfl) (by decide)) ?_|refine Yk (lendON u1 rfl (bR_flats _)) ?_|refine Yk (apx rfl rfl (hap 1 e)) ?_);conv=>whnf|(refine Ya ?_ ?_<;>intro _<;>conv=>whnf)
   all_goals try (refine Or.inl ?_;conv=>whnf)
  all_goals try (exfalso;simp only[outL] at *;first|omega|contradiction|(simp_all;done)|(simp_all;omega))
  refine⟨2,by decide,by decide,?_⟩
  all_goals refine⟨[(2,5)],?_⟩
  repeat any_goals first|exact T0|exact rfl|exact Yr|refine Ya ?_ ?_
  all_goals conv=>whnf
  all_goals first|exact congrArg (fun l=>AObj.sl 1 (List.map bR l)) (by simp[fldT,valsK,idxK,getN])|exact congrArg (fun l=>D.sl 1 (List.map bR l)) (by simp[fldT,valsK,idxK,getN])
 ·have u1:=hv' n (by simp[valsK,idxK,getN])
  conv=>whnf
  iterate 6
   repeat' first|exact T0|(first|refine Yd fun _=>?_|refine Ye fun _=>?_|refine Yg ?_|refine Yk (ixP (by kernel_rfl) (by kernel_rfl) (by decide)) ?_|refine Yk (lendON u1 rfl (bR_flats _)) ?_|refine Yk (apx rfl rfl (hap 2 n)) ?_);conv=>whnf|(refine Ya ?_ ?_<;>intro _<;>conv=>whnf)
   all_goals try (refine Or.inl ?_;conv=>whnf)
  all_goals try (exfalso;simp only[outL] at *;first|omega|contradiction|(simp_all;done)|(simp_all;omega))
  refine⟨3,by decide,by decide,?_⟩
  all_goals refine⟨[(2,5)],?_⟩
  repeat any_goals first|exact T0|exact rfl|exact Yr|refine Ya ?_ ?_
  all_goals conv=>whnf
  all_goals first|exact congrArg (fun l=>AObj.sl 1 (List.map bR l)) (by simp[fldT,valsK,idxK,getN])|exact congrArg (fun l=>D.sl 1 (List.map bR l)) (by simp[fldT,valsK,idxK,getN])
 conv=>whnf
 iterate 6
  repeat' first|exact T0|(first|refine Yd fun _=>?_|refine Ye fun _=>?_|refine Yg ?_|refine Yk (lendON ss (by kernel_rfl) (bR_flats _)) ?_);conv=>whnf|(refine Ya ?_ ?_<;>intro _<;>conv=>whnf)
  all_goals try (refine Or.inl ?_;conv=>whnf)
 all_goals try exact (bnl ‹_› d9).elim
 all_goals refine⟨[(0,3)],?_⟩
 repeat any_goals first|exact T0|exact rfl|exact Yr|refine Ya ?_ ?_
 all_goals conv=>whnf
set_option maxHeartbeats 8000000 in
theorem encode_7 (f:Fr) (hk:f.k=7) (hf:FrOk f) (hr:rightK f 7=true):Sat Tryz.prog 26 [.d (frD f)] [] (.tup [.own 0,iA 0]) [.sl 1 ((sealT (frT f 7)).map bR)]:=by
 have f1:=fields_f f 7 hk (by decide) (by decide)
 have r1:=right_sat f hf
 have hrf:rightF f=true:=by unfold rightF;rw[if_pos (by omega),hk];exact hr
 rw[hrf] at r1
 obtain⟨hho,hv,hx,_⟩:=right_parts hr
 have hd:f.d.length≤4096∨7≠8:=by
  first|exact .inr (by decide)|(left;simp only[extraB,Bool.and_eq_true,decide_eq_true_eq] at hx;omega)
 have hfl:=frT_len f 7 (by decide)
 have u0:Sat Tryz.prog 56 [.d (.sl 1 [[.v (.int .u64 (IntKind.u64.wrap 7))]])] [] (.own 0) [.sl 1 ((enc 7).map bR)]:=uintsZ 7 (by decide) (by decide)
 have hv':∀ x∈valsK f 7,Sat Tryz.prog 56 [.d (.sl 1 [[.v (.int .u64 (IntKind.u64.wrap x))]])] [] (.own 0) [.sl 1 ((enc x.toNat).map bR)]:=fun x hx=>uintsZ x (hv x hx).1 (by have:=(hv x hx).2;omega)
 have hle:∀ i,(enc 7++fldT ((valsK f 7).take i)).length≤1000:=fun i=>by
  have h1:=fldT_len ((valsK f 7).take i)
  have h2:=valsK_len f 7
  have h3:=enc_lens 7
  rw[List.length_take] at h1
  rw[List.length_append];omega
 have hap:∀ i (x:Int),(enc 7++fldT ((valsK f 7).take i)).length+(enc x.toNat).length≤100000000000:=fun i x=>by
  have h1:=hle i
  have h2:=enc_lens x.toNat
  omega
 have hT:frT f 7=enc 7++fldT ((valsK f 7).take 4):=by
  simp[frT,extT,valsK,idxK,fldT]
 have hsl:(frT f 7).length≤60000:=by
  have:=hle 4
  rw[hT];omega
 have ss:=seal_sat (frT f 7) (by omega)
 have hsz:((sealT (frT f 7)).map bR).length=(frT f 7).length+4:=by rw[List.length_map,sealT_len]
 have d9:decide (((((frT f 7)++le4 (sumN (frT f 7))).map bR).length:Int)>65536)=false:=decide_eq_false (by have:(((frT f 7)++le4 (sumN (frT f 7))).map bR).length=(frT f 7).length+4:=hsz;omega)
 unfold sealT
 rw[hT] at ss d9 ⊢
 obtain⟨kk,a,e,b,c,g,s,n,t,w,ev,sr,d⟩:=f
 have hk:kk=7:=hk
 subst hk
 refine Vq Tryz.func26 rfl rfl ?_
 conv=>whnf
 iterate 5
  repeat' first|exact T0|(first|refine Yd fun _=>?_|refine Ye fun _=>?_|refine Yg ?_|refine Yk (r1.pu rfl rfl) ?_|refine Yk (lendON u0 rfl (bR_flats _)) ?_|refine Yk (f1.at1 0 rfl rfl rfl) ?_|refine Yk (lenP (by kernel_rfl)) ?_);conv=>whnf|(refine Ya ?_ ?_<;>intro _<;>conv=>whnf)
  all_goals try (refine Or.inl ?_;conv=>whnf)
 all_goals try (exfalso;simp only[outL] at *;first|omega|contradiction|(simp_all;done)|(simp_all;omega))
 refine⟨Nat,fun i=>i≤4,fun i=>match Nat.beq i 4 with
  |true=>([(20,iA i),(19,iA 4),(18,.rel 1 (slP 4)),(4,.d (bsD (enc 7++fldT ((valsK ⟨7,a,e,b,c,g,s,n,t,w,ev,sr,d⟩ 7).take 4)))),(1,.ptr 0 0)],[.cells (frA ⟨7,a,e,b,c,g,s,n,t,w,ev,sr,d⟩),.cells (ptrsK 7)])
  |false=>([(20,iA i),(19,iA 4),(18,.rel 1 (slP 4)),(4,.own 2),(1,.ptr 0 0)],[.cells (frA ⟨7,a,e,b,c,g,s,n,t,w,ev,sr,d⟩),.cells (ptrsK 7),.sl 1 ((enc 7++fldT ((valsK ⟨7,a,e,b,c,g,s,n,t,w,ev,sr,d⟩ 7).take i)).map bR)]),fun i=>4-i,⟨0,Nat.zero_le _,?_⟩,?_⟩
 ·all_goals refine⟨[(1,3)],?_⟩
  repeat any_goals first|exact T0|exact rfl|exact Yr|refine Ya ?_ ?_
  all_goals conv=>whnf
 intro i hi
 have hi:i≤4:=hi
 obtain rfl|rfl|rfl|rfl|rfl:i=0∨i=1∨i=2∨i=3∨i=4:=by omega
 ·have u1:=hv' a (by simp[valsK,idxK,getN])
  conv=>whnf
  iterate 6
   repeat' first|exact T0|(first|refine Yd fun _=>?_|refine Ye fun _=>?_|refine Yg ?_|refine Yk (ixP (by kernel_rfl) (by kernel_rfl) (by decide)) ?_|refine Yk (lendON u1 rfl (bR_flats _)) ?_|refine Yk (apx rfl rfl (hap 0 a)) ?_);conv=>whnf|(refine Ya ?_ ?_<;>intro _<;>conv=>whnf)
   all_goals try (refine Or.inl ?_;conv=>whnf)
  all_goals try (exfalso;simp only[outL] at *;first|omega|contradiction|(simp_all;done)|(simp_all;omega))
  refine⟨1,by decide,by decide,?_⟩
  all_goals refine⟨[(2,5)],?_⟩
  repeat any_goals first|exact T0|exact rfl|exact Yr|refine Ya ?_ ?_
  all_goals conv=>whnf
  all_goals first|exact congrArg (fun l=>AObj.sl 1 (List.map bR l)) (by simp[fldT,valsK,idxK,getN])|exact congrArg (fun l=>D.sl 1 (List.map bR l)) (by simp[fldT,valsK,idxK,getN])
 ·have u1:=hv' e (by simp[valsK,idxK,getN])
  conv=>whnf
  iterate 6
   repeat' first|exact T0|(first|refine Yd fun _=>?_|refine Ye fun _=>?_|refine Yg ?_|refine Yk (ixP (by kernel_rfl) (by kernel_rfl) (by decide)) ?_|refine Yk (lendON u1 rfl (bR_flats _)) ?_|refine Yk (apx rfl rfl (hap 1 e)) ?_);conv=>whnf|(refine Ya ?_ ?_<;>intro _<;>conv=>whnf)
   all_goals try (refine Or.inl ?_;conv=>whnf)
  all_goals try (exfalso;simp only[outL] at *;first|omega|contradiction|(simp_all;done)|(simp_all;omega))
  refine⟨2,by decide,by decide,?_⟩
  all_goals refine⟨[(2,5)],?_⟩
  repeat any_goals first|exact T0|exact rfl|exact Yr|refine Ya ?_ ?_
  all_goals conv=>whnf
  all_goals first|exact congrArg (fun l=>AObj.sl 1 (List.map bR l)) (by simp[fldT,valsK,idxK,getN])|exact congrArg (fun l=>D.sl 1 (List.map bR l)) (by simp[fldT,valsK,idxK,getN])
 ·have u1:=hv' n (by simp[valsK,idxK,getN])
  conv=>whnf
  iterate 6
   repeat' first|exact T0|(first|refine Yd fun _=>?_|refine Ye fun _=>?_|refine Yg ?_|refine Yk (ixP (by kernel_rfl) (by kernel_rfl) (by decide)) ?_|refine Yk (lendON u1 rfl (bR_flats _)) ?_|refine Yk (apx rfl rfl (hap 2 n)) ?_);conv=>whnf|(refine Ya ?_ ?_<;>intro _<;>conv=>whnf)
   all_goals try (refine Or.inl ?_;conv=>whnf)
  all_goals try (exfalso;simp only[outL] at *;first|omega|contradiction|(simp_all;done)|(simp_all;omega))
  refine⟨3,by decide,by decide,?_⟩
  all_goals refine⟨[(2,5)],?_⟩
  repeat any_goals first|exact T0|exact rfl|exact Yr|refine Ya ?_ ?_
  all_goals conv=>whnf
  all_goals first|exact congrArg (fun l=>AObj.sl 1 (List.map bR l)) (by simp[fldT,valsK,idxK,getN])|exact congrArg (fun l=>D.sl 1 (List.map bR l)) (by simp[fldT,valsK,idxK,getN])
 ·have u1:=hv' t (by simp[valsK,idxK,getN])
  conv=>whnf
  iterate 6
   repeat' first|exact T0|(first|refine Yd fun _=>?_|refine Ye fun _=>?_|refine Yg ?_|refine Yk (ixP (by kernel_rfl) (by kernel_rfl) (by decide)) ?_|refine Yk (lendON u1 rfl (bR_flats _)) ?_|refine Yk (apx rfl rfl (hap 3 t)) ?_);conv=>whnf|(refine Ya ?_ ?_<;>intro _<;>conv=>whnf)
   all_goals try (refine Or.inl ?_;conv=>whnf)
  all_goals try (exfalso;simp only[outL] at *;first|omega|contradiction|(simp_all;done)|(simp_all;omega))
  refine⟨4,by decide,by decide,?_⟩
  all_goals refine⟨[(2,5)],?_⟩
  repeat any_goals first|exact T0|exact rfl|exact Yr|refine Ya ?_ ?_
  all_goals conv=>whnf
  all_goals first|exact congrArg (fun l=>AObj.sl 1 (List.map bR l)) (by simp[fldT,valsK,idxK,getN])|exact congrArg (fun l=>D.sl 1 (List.map bR l)) (by simp[fldT,valsK,idxK,getN])
 conv=>whnf
 iterate 6
  repeat' first|exact T0|(first|refine Yd fun _=>?_|refine Ye fun _=>?_|refine Yg ?_|refine Yk (lendON ss (by kernel_rfl) (bR_flats _)) ?_);conv=>whnf|(refine Ya ?_ ?_<;>intro _<;>conv=>whnf)
  all_goals try (refine Or.inl ?_;conv=>whnf)
 all_goals try exact (bnl ‹_› d9).elim
 all_goals refine⟨[(0,3)],?_⟩
 repeat any_goals first|exact T0|exact rfl|exact Yr|refine Ya ?_ ?_
 all_goals conv=>whnf
set_option maxHeartbeats 8000000 in
theorem encode_8 (f:Fr) (hk:f.k=8) (hf:FrOk f) (hr:rightK f 8=true):Sat Tryz.prog 26 [.d (frD f)] [] (.tup [.own 0,iA 0]) [.sl 1 ((sealT (frT f 8)).map bR)]:=by
 have f1:=fields_f f 8 hk (by decide) (by decide)
 have r1:=right_sat f hf
 have hrf:rightF f=true:=by unfold rightF;rw[if_pos (by omega),hk];exact hr
 rw[hrf] at r1
 obtain⟨hho,hv,hx,_⟩:=right_parts hr
 have hd:f.d.length≤4096∨8≠8:=by
  first|exact .inr (by decide)|(left;simp only[extraB,Bool.and_eq_true,decide_eq_true_eq] at hx;omega)
 have hfl:=frT_len f 8 (by decide)
 have u0:Sat Tryz.prog 56 [.d (.sl 1 [[.v (.int .u64 (IntKind.u64.wrap 8))]])] [] (.own 0) [.sl 1 ((enc 8).map bR)]:=uintsZ 8 (by decide) (by decide)
 have hv':∀ x∈valsK f 8,Sat Tryz.prog 56 [.d (.sl 1 [[.v (.int .u64 (IntKind.u64.wrap x))]])] [] (.own 0) [.sl 1 ((enc x.toNat).map bR)]:=fun x hx=>uintsZ x (hv x hx).1 (by have:=(hv x hx).2;omega)
 have hle:∀ i,(enc 8++fldT ((valsK f 8).take i)).length≤1000:=fun i=>by
  have h1:=fldT_len ((valsK f 8).take i)
  have h2:=valsK_len f 8
  have h3:=enc_lens 8
  rw[List.length_take] at h1
  rw[List.length_append];omega
 have hap:∀ i (x:Int),(enc 8++fldT ((valsK f 8).take i)).length+(enc x.toNat).length≤100000000000:=fun i x=>by
  have h1:=hle i
  have h2:=enc_lens x.toNat
  omega
 have sb:=bytes_satS f.sr
 have hs1:=serT_len f.sr
 have hs2:=encTL_len f.d
 have td:=texts1 f.d (by omega)
 have hT:frT f 8=(enc 8++fldT ((valsK f 8).take 1))++(bytesS f.sr++encTL f.d):=by
  simp[frT,extT,valsK,idxK,fldT]
 have hsl:(frT f 8).length≤60000:=by
  have:=hle 1
  have:=hfl (by omega);omega
 have ss:=seal_sat (frT f 8) (by omega)
 have hsz:((sealT (frT f 8)).map bR).length=(frT f 8).length+4:=by rw[List.length_map,sealT_len]
 have d9:decide (((((frT f 8)++le4 (sumN (frT f 8))).map bR).length:Int)>65536)=false:=decide_eq_false (by have:(((frT f 8)++le4 (sumN (frT f 8))).map bR).length=(frT f 8).length+4:=hsz;omega)
 unfold sealT
 rw[hT] at ss d9 ⊢
 obtain⟨kk,a,e,b,c,g,s,n,t,w,ev,sr,d⟩:=f
 have hk:kk=8:=hk
 subst hk
 refine Vq Tryz.func26 rfl rfl ?_
 conv=>whnf
 iterate 5
  repeat' first|exact T0|(first|refine Yd fun _=>?_|refine Ye fun _=>?_|refine Yg ?_|refine Yk (r1.pu rfl rfl) ?_|refine Yk (lendON u0 rfl (bR_flats _)) ?_|refine Yk (f1.at1 0 rfl rfl rfl) ?_|refine Yk (lenP (by kernel_rfl)) ?_);conv=>whnf|(refine Ya ?_ ?_<;>intro _<;>conv=>whnf)
  all_goals try (refine Or.inl ?_;conv=>whnf)
 all_goals try (exfalso;simp only[outL] at *;first|omega|contradiction|(simp_all;done)|(simp_all;omega))
 refine⟨Nat,fun i=>i≤1,fun i=>match Nat.beq i 1 with
  |true=>([(20,iA i),(19,iA 1),(18,.rel 1 (slP 1)),(4,.own 2),(1,.ptr 0 0)],[.cells (frA ⟨8,a,e,b,c,g,s,n,t,w,ev,sr,d⟩),.cells (ptrsK 8),.sl 1 ((enc 8++fldT ((valsK ⟨8,a,e,b,c,g,s,n,t,w,ev,sr,d⟩ 8).take 1)).map bR)])
  |false=>([(20,iA i),(19,iA 1),(18,.rel 1 (slP 1)),(4,.own 2),(1,.ptr 0 0)],[.cells (frA ⟨8,a,e,b,c,g,s,n,t,w,ev,sr,d⟩),.cells (ptrsK 8),.sl 1 ((enc 8++fldT ((valsK ⟨8,a,e,b,c,g,s,n,t,w,ev,sr,d⟩ 8).take i)).map bR)]),fun i=>1-i,⟨0,Nat.zero_le _,?_⟩,?_⟩
 ·all_goals refine⟨[(1,3)],?_⟩
  repeat any_goals first|exact T0|exact rfl|exact Yr|refine Ya ?_ ?_
  all_goals conv=>whnf
 intro i hi
 have hi:i≤1:=hi
 obtain rfl|rfl:i=0∨i=1:=by omega
 ·have u1:=hv' w (by simp[valsK,idxK,getN])
  conv=>whnf
  iterate 6
   repeat' first|exact T0|(first|refine Yd fun _=>?_|refine Ye fun _=>?_|refine Yg ?_|refine Yk (ixP (by kernel_rfl) (by kernel_rfl) (by decide)) ?_|refine Yk (lendON u1 rfl (bR_flats _)) ?_|refine Yk (apx rfl rfl (hap 0 w)) ?_);conv=>whnf|(refine Ya ?_ ?_<;>intro _<;>conv=>whnf)
   all_goals try (refine Or.inl ?_;conv=>whnf)
  all_goals try (exfalso;simp only[outL] at *;first|omega|contradiction|(simp_all;done)|(simp_all;omega))
  refine⟨1,by decide,by decide,?_⟩
  all_goals refine⟨[(2,5)],?_⟩
  repeat any_goals first|exact T0|exact rfl|exact Yr|refine Ya ?_ ?_
  all_goals conv=>whnf
  all_goals first|exact congrArg (fun l=>AObj.sl 1 (List.map bR l)) (by simp[fldT,valsK,idxK,getN])|exact congrArg (fun l=>D.sl 1 (List.map bR l)) (by simp[fldT,valsK,idxK,getN])
 have h21:(enc 8++fldT ((valsK ⟨8,a,e,b,c,g,s,n,t,w,ev,sr,d⟩ 8).take 1)).length+(bytesS sr).length≤100000000000:=by have h1:=hle 1;have h2:(bytesS sr).length≤2000:=hs1;omega
 have h22:((enc 8++fldT ((valsK ⟨8,a,e,b,c,g,s,n,t,w,ev,sr,d⟩ 8).take 1))++bytesS sr).length+(encTL d).length≤100000000000:=by rw[List.length_append];have h1:=hle 1;have h2:(bytesS sr).length≤2000:=hs1;have h3:d.length≤4096∨8≠8:=hd;have h4:1≤(encTL d).length∧(encTL d).length≤10+d.length:=hs2;omega
 rw[←List.append_assoc] at ss d9 ⊢
 conv=>whnf
 iterate 7
  repeat' first|exact T0|(first|refine Yd fun _=>?_|refine Ye fun _=>?_|refine Yg ?_|refine Yk (sb.pu rfl rfl) ?_|refine Yk (apxd rfl h21) ?_|refine Yk (str_d d) ?_|refine Yk (lendON td rfl (bR_flats _)) ?_|refine Yk (apxz rfl rfl h22) ?_|refine Yk (lendON ss (by kernel_rfl) (bR_flats _)) ?_);conv=>whnf|(refine Ya ?_ ?_<;>intro _<;>conv=>whnf)
  all_goals try (refine Or.inl ?_;conv=>whnf)
 all_goals try exact (bnl ‹_› d9).elim
 all_goals refine⟨[(0,8)],?_⟩
 repeat any_goals first|exact T0|exact rfl|exact Yr|refine Ya ?_ ?_
 all_goals conv=>whnf
set_option maxHeartbeats 8000000 in
theorem encode_5 (f:Fr) (hk:f.k=5) (hf:FrOk f) (hz:∀ x∈f.ev,in64 x.2.1) (hr:rightK f 5=true) (hL:(sealT (frT f 5)).length≤65536):Sat Tryz.prog 26 [.d (frD f)] [] (.tup [.own 0,iA 0]) [.sl 1 ((sealT (frT f 5)).map bR)]:=by
 have f1:=fields_f f 5 hk (by decide) (by decide)
 have r1:=right_sat f hf
 have hrf:rightF f=true:=by unfold rightF;rw[if_pos (by omega),hk];exact hr
 rw[hrf] at r1
 obtain⟨hho,hv,hx,_⟩:=right_parts hr
 have hx:batchB f.n f.ev=true:=hx
 simp only[batchB,Bool.and_eq_true,decide_eq_true_eq] at hx
 obtain⟨hn1,hn2,hn3,hn4⟩:=hx
 have hev:∀ x∈f.ev,0≤x.1∧x.1≤4611686018427387903:=fun x hx=>by
  have:=List.all_eq_true.1 hn4 x hx
  simp only[evOk,Bool.and_eq_true] at this
  exact rngB_iff.1 this.1
 have hll:(f.ev.map evR).length=f.ev.length:=List.length_map _
 have u0:Sat Tryz.prog 56 [.d (.sl 1 [[.v (.int .u64 (IntKind.u64.wrap 5))]])] [] (.own 0) [.sl 1 ((enc 5).map bR)]:=uintsZ 5 (by decide) (by decide)
 have u9:Sat Tryz.prog 56 [.d (.sl 1 [[.v (.int .u64 (IntKind.u64.wrap ((f.ev.map evR).length:Int)))]])] [] (.own 0) [.sl 1 ((enc f.ev.length).map bR)]:=by
  have:=uintsZ ((f.ev.map evR).length:Int) (by omega) (by omega)
  rw[Int.toNat_natCast,hll] at this
  rw[hll]
  exact this
 have hv':∀ x∈valsK f 5,Sat Tryz.prog 56 [.d (.sl 1 [[.v (.int .u64 (IntKind.u64.wrap x))]])] [] (.own 0) [.sl 1 ((enc x.toNat).map bR)]:=fun x hx=>uintsZ x (hv x hx).1 (by have:=(hv x hx).2;omega)
 have hle:∀ i,(enc 5++fldT ((valsK f 5).take i)).length≤1000:=fun i=>by
  have h1:=fldT_len ((valsK f 5).take i)
  have h2:=valsK_len f 5
  have h3:=enc_lens 5
  rw[List.length_take] at h1
  rw[List.length_append];omega
 have hap:∀ i (x:Int),(enc 5++fldT ((valsK f 5).take i)).length+(enc x.toNat).length≤100000000000:=fun i x=>by
  have h1:=hle i
  have h2:=enc_lens x.toNat
  omega
 have hn5:=enc_lens f.ev.length
 have hT:frT f 5=(enc 5++fldT ((valsK f 5).take 3))++enc f.ev.length++evsT f.ev:=by
  simp[frT,extT,valsK,idxK,fldT]
 have hT5:=frT_len5 f
 have ss:=seal_sat (frT f 5) (by omega)
 have hsz:((sealT (frT f 5)).map bR).length=(sealT (frT f 5)).length:=List.length_map _
 have d9:decide (((((frT f 5)++le4 (sumN (frT f 5))).map bR).length:Int)>65536)=false:=decide_eq_false (by have:(((frT f 5)++le4 (sumN (frT f 5))).map bR).length=(sealT (frT f 5)).length:=hsz;omega)
 have hB:((enc 5++fldT ((valsK f 5).take 3))++enc f.ev.length).length≤1010:=by
  have:=hle 3
  rw[List.length_append];omega
 have hBi:∀ i,(((enc 5++fldT ((valsK f 5).take 3))++enc f.ev.length)++evsT (f.ev.take i)).length≤200000:=fun i=>by
  have:=evsT_len (f.ev.take i)
  rw[List.length_take] at this
  rw[List.length_append];omega
 have h9:(enc 5++fldT ((valsK f 5).take 3)).length+(enc f.ev.length).length≤100000000000:=by
  have:=hle 3
  omega
 unfold sealT at hL ⊢
 rw[hT] at ss d9 ⊢
 clear hL hsz hT5
 obtain⟨kk,a,e,b,c,g,s,n,t,w,ev,sr,d⟩:=f
 have hk:kk=5:=hk
 subst hk
 refine Vq Tryz.func26 rfl rfl ?_
 conv=>whnf
 iterate 5
  repeat' first|exact T0|(first|refine Yd fun _=>?_|refine Ye fun _=>?_|refine Yg ?_|refine Yk (r1.pu rfl rfl) ?_|refine Yk (lendON u0 rfl (bR_flats _)) ?_|refine Yk (f1.at1 0 rfl rfl rfl) ?_|refine Yk (lenP (by kernel_rfl)) ?_);conv=>whnf|(refine Ya ?_ ?_<;>intro _<;>conv=>whnf)
  all_goals try (refine Or.inl ?_;conv=>whnf)
 all_goals try (exfalso;simp only[outL] at *;first|omega|contradiction|(simp_all;done)|(simp_all;omega))
 refine⟨Nat,fun i=>i≤3,fun i=>([(20,iA i),(19,iA 3),(18,.rel 1 (slP 3)),(4,.own 2),(1,.ptr 0 0)],[.cells (frA ⟨5,a,e,b,c,g,s,n,t,w,ev,sr,d⟩),.cells (ptrsK 5),.sl 1 ((enc 5++fldT ((valsK ⟨5,a,e,b,c,g,s,n,t,w,ev,sr,d⟩ 5).take i)).map bR)]),fun i=>3-i,⟨0,Nat.zero_le _,?_⟩,?_⟩
 ·all_goals refine⟨[(1,3)],?_⟩
  repeat any_goals first|exact T0|exact rfl|exact Yr|refine Ya ?_ ?_
  all_goals conv=>whnf
 intro i hi
 have hi:i≤3:=hi
 obtain rfl|rfl|rfl|rfl:i=0∨i=1∨i=2∨i=3:=by omega
 ·have u1:=hv' a (by simp[valsK,idxK,getN])
  conv=>whnf
  iterate 6
   repeat' first|exact T0|(first|refine Yd fun _=>?_|refine Ye fun _=>?_|refine Yg ?_|refine Yk (ixP (by kernel_rfl) (by kernel_rfl) (by decide)) ?_|refine Yk (lendON u1 rfl (bR_flats _)) ?_|refine Yk (apx rfl rfl (hap 0 a)) ?_);conv=>whnf|(refine Ya ?_ ?_<;>intro _<;>conv=>whnf)
   all_goals try (refine Or.inl ?_;conv=>whnf)
  all_goals try (exfalso;simp only[outL] at *;first|omega|contradiction|(simp_all;done)|(simp_all;omega))
  refine⟨1,by decide,by decide,?_⟩
  all_goals refine⟨[(2,5)],?_⟩
  repeat any_goals first|exact T0|exact rfl|exact Yr|refine Ya ?_ ?_
  all_goals conv=>whnf
  all_goals exact congrArg (fun l=>AObj.sl 1 (List.map bR l)) (by simp[fldT,valsK,idxK,getN])
 ·have u1:=hv' e (by simp[valsK,idxK,getN])
  conv=>whnf
  iterate 6
   repeat' first|exact T0|(first|refine Yd fun _=>?_|refine Ye fun _=>?_|refine Yg ?_|refine Yk (ixP (by kernel_rfl) (by kernel_rfl) (by decide)) ?_|refine Yk (lendON u1 rfl (bR_flats _)) ?_|refine Yk (apx rfl rfl (hap 1 e)) ?_);conv=>whnf|(refine Ya ?_ ?_<;>intro _<;>conv=>whnf)
   all_goals try (refine Or.inl ?_;conv=>whnf)
  all_goals try (exfalso;simp only[outL] at *;first|omega|contradiction|(simp_all;done)|(simp_all;omega))
  refine⟨2,by decide,by decide,?_⟩
  all_goals refine⟨[(2,5)],?_⟩
  repeat any_goals first|exact T0|exact rfl|exact Yr|refine Ya ?_ ?_
  all_goals conv=>whnf
  all_goals exact congrArg (fun l=>AObj.sl 1 (List.map bR l)) (by simp[fldT,valsK,idxK,getN])
 ·have u1:=hv' n (by simp[valsK,idxK,getN])
  conv=>whnf
  iterate 6
   repeat' first|exact T0|(first|refine Yd fun _=>?_|refine Ye fun _=>?_|refine Yg ?_|refine Yk (ixP (by kernel_rfl) (by kernel_rfl) (by decide)) ?_|refine Yk (lendON u1 rfl (bR_flats _)) ?_|refine Yk (apx rfl rfl (hap 2 n)) ?_);conv=>whnf|(refine Ya ?_ ?_<;>intro _<;>conv=>whnf)
   all_goals try (refine Or.inl ?_;conv=>whnf)
  all_goals try (exfalso;simp only[outL] at *;first|omega|contradiction|(simp_all;done)|(simp_all;omega))
  refine⟨3,by decide,by decide,?_⟩
  all_goals refine⟨[(2,5)],?_⟩
  repeat any_goals first|exact T0|exact rfl|exact Yr|refine Ya ?_ ?_
  all_goals conv=>whnf
  all_goals exact congrArg (fun l=>AObj.sl 1 (List.map bR l)) (by simp[fldT,valsK,idxK,getN])
 conv=>whnf
 iterate 6
  repeat' first|exact T0|(first|refine Yd fun _=>?_|refine Ye fun _=>?_|refine Yg ?_|refine Yk (lendON u9 (by kernel_rfl) (bR_flats _)) ?_|refine Yk (apx rfl rfl h9) ?_);conv=>whnf|(refine Ya ?_ ?_<;>intro _<;>conv=>whnf)
  all_goals try (refine Or.inl ?_;conv=>whnf)
 all_goals try (exfalso;simp only[outL] at *;first|omega|contradiction|(simp_all;done)|(simp_all;omega))
 generalize hB0:(enc 5++fldT ((valsK ⟨5,a,e,b,c,g,s,n,t,w,ev,sr,d⟩ 5).take 3))++enc (Fr.ev ⟨5,a,e,b,c,g,s,n,t,w,ev,sr,d⟩).length=B0 at *
 obtain⟨st,hst0,hst1⟩:∃ st:Nat→List (Nat × AV) × List AObj,(∀ i,i<ev.length→st i=([(49,iA i),(48,iA (ev.map evR).length),(47,.d (.sl 4 (ev.map evR))),(35,iA 5),(4,.own 1),(1,.ptr 0 0)],[.cells (frA ⟨5,a,e,b,c,g,s,n,t,w,ev,sr,d⟩),.sl 1 ((B0++evsT (ev.take i)).map bR)])) ∧
   st ev.length=([(49,iA ev.length),(48,iA (ev.map evR).length),(47,.d (.sl 4 (ev.map evR))),(35,iA 5),(4,.d (bsD (B0++evsT ev))),(1,.ptr 0 0)],[.cells (frA ⟨5,a,e,b,c,g,s,n,t,w,ev,sr,d⟩)]):=
  ⟨fun i=>if i<ev.length then _ else _,fun i h=>if_pos h,if_neg (Nat.lt_irrefl _)⟩
 refine⟨Nat,fun i=>i≤ev.length,st,fun i=>ev.length-i,⟨0,Nat.zero_le _,?_⟩,?_⟩
 ·rw[hst0 0 hn1]
  all_goals refine⟨[(1,5)],?_⟩
  repeat any_goals first|exact T0|exact rfl|exact Yr|refine Ya ?_ ?_
  all_goals conv=>whnf
  exact congrArg (fun l=>AObj.sl 1 (List.map bR l)) (by simp[evsT])
 have hn2:ev.length≤64:=hn2
 intro i hi
 have hi:i≤ev.length:=hi
 by_cases hlt:i<ev.length
 ·rw[hst0 i hlt]
  have hx:ev[i]?=some ev[i]:=List.getElem?_eq_getElem hlt
  generalize ev[i]=x at hx
  have hm:=List.mem_of_getElem? hx
  have hgx:=map_get (f:=evR) hx
  have d1:decide ((i:Int)<((ev.map evR).length:Nat))=true:=decide_eq_true (by rw[List.length_map];omega)
  have u1:=uintsZ x.1 (hev x hm).1 (by have:=(hev x hm).2;omega)
  have i1:=ints1 x.2.1 (hz x hm)
  have b1:=bytes_satS x.2.2
  have l1:=enc_lens x.1.toNat
  have l2:=enc_lens (turnN x.2.1)
  have l3:=serT_len x.2.2
  have hbi:(B0++evsT (ev.take i)).length≤200000:=hBi i
  have p1:(B0++evsT (ev.take i)).length+(enc x.1.toNat).length≤100000000000:=by omega
  have p2:((B0++evsT (ev.take i))++enc x.1.toNat).length+(enc (turnN x.2.1)).length≤100000000000:=by
   rw[List.length_append (bs:=enc x.1.toNat)];omega
  have p3:(((B0++evsT (ev.take i))++enc x.1.toNat)++enc (turnN x.2.1)).length+(bytesS x.2.2).length≤100000000000:=by
   rw[List.length_append (bs:=enc (turnN x.2.1)),List.length_append (bs:=enc x.1.toNat)];omega
  conv=>whnf
  iterate 6
   repeat' first|exact T0|(first|refine⟨i,_,rfl,hgx,?_⟩|refine Yd fun _=>?_|refine Ye fun _=>?_|refine Yg ?_|refine Yk (lendON u1 (by kernel_rfl) (bR_flats _)) ?_|refine Yk (apx rfl rfl p1) ?_|refine Yk (lendON i1 (by kernel_rfl) (bR_flats _)) ?_|refine Yk (apx rfl rfl p2) ?_|refine Yk (b1.pu rfl rfl) ?_|refine Yk (apxd rfl p3) ?_);conv=>whnf|(refine Ya ?_ ?_<;>intro _<;>conv=>whnf)
   all_goals try (refine Or.inl ?_;conv=>whnf)
  all_goals try exact (bnl d1 ‹_›).elim
  refine⟨i+1,hlt,show ev.length-(i+1)<ev.length-i by omega,?_⟩
  by_cases hq:i+1<ev.length
  ·rw[hst0 _ hq]
   all_goals refine⟨[(1,9)],?_⟩
   repeat any_goals first|exact T0|exact rfl|exact Yr|refine Ya ?_ ?_
   all_goals conv=>whnf
   ·exact wk1 (by omega)
   ·exact congrArg (fun l=>AObj.sl 1 (List.map bR l)) (by rw[evsT_next hx];simp[evT])
  ·have e:ev.length=i+1:=by omega
   have e2:evsT ev=evsT (ev.take (i+1)):=by rw[List.take_of_length_le (by omega)]
   rw[show st (i+1)=st ev.length from by rw[e],hst1]
   all_goals refine⟨[],?_⟩
   repeat any_goals first|exact T0|exact rfl|exact Yr|refine Ya ?_ ?_
   all_goals conv=>whnf
   ·rw[e];exact wk1 (by omega)
   ·have e3:B0++evsT (ev.take i)++enc x.1.toNat++enc (turnN x.2.1)++bytesS x.2.2=B0++evsT ev:=by rw[e2,evsT_next hx];simp[evT]
    first|exact congrArg (fun l=>AV.d (D.sl 1 (List.map bR l))) e3|exact congrArg (fun l=>D.sl 1 (List.map bR l)) e3|exact congrArg (fun l=>AObj.sl 1 (List.map bR l)) e3
 ·have d1:decide ((i:Int)<((ev.map evR).length:Nat))=false:=decide_eq_false (by rw[List.length_map];omega)
  obtain rfl:i=ev.length:=by omega
  rw[hst1]
  conv=>whnf
  iterate 6
   repeat' first|exact T0|(first|refine Yd fun _=>?_|refine Ye fun _=>?_|refine Yg ?_|refine Yk (lendON ss (by kernel_rfl) (bR_flats _)) ?_);conv=>whnf|(refine Ya ?_ ?_<;>intro _<;>conv=>whnf)
   all_goals try (refine Or.inl ?_;conv=>whnf)
  all_goals try exact (bnl ‹_› d1).elim
  all_goals try exact (bnl ‹_› d9).elim
  all_goals refine⟨[(0,2)],?_⟩
  repeat any_goals first|exact T0|exact rfl|exact Yr|refine Ya ?_ ?_
  all_goals conv=>whnf
set_option maxHeartbeats 8000000 in
theorem encode_5b (f:Fr) (hk:f.k=5) (hf:FrOk f) (hz:∀ x∈f.ev,in64 x.2.1) (hr:rightK f 5=true) (hL:65536<(sealT (frT f 5)).length):Sat Tryz.prog 26 [.d (frD f)] [] (.tup [.d nilV,iA 17]) []:=by
 have f1:=fields_f f 5 hk (by decide) (by decide)
 have r1:=right_sat f hf
 have hrf:rightF f=true:=by unfold rightF;rw[if_pos (by omega),hk];exact hr
 rw[hrf] at r1
 obtain⟨hho,hv,hx,_⟩:=right_parts hr
 have hx:batchB f.n f.ev=true:=hx
 simp only[batchB,Bool.and_eq_true,decide_eq_true_eq] at hx
 obtain⟨hn1,hn2,hn3,hn4⟩:=hx
 have hev:∀ x∈f.ev,0≤x.1∧x.1≤4611686018427387903:=fun x hx=>by
  have:=List.all_eq_true.1 hn4 x hx
  simp only[evOk,Bool.and_eq_true] at this
  exact rngB_iff.1 this.1
 have hll:(f.ev.map evR).length=f.ev.length:=List.length_map _
 have u0:Sat Tryz.prog 56 [.d (.sl 1 [[.v (.int .u64 (IntKind.u64.wrap 5))]])] [] (.own 0) [.sl 1 ((enc 5).map bR)]:=uintsZ 5 (by decide) (by decide)
 have u9:Sat Tryz.prog 56 [.d (.sl 1 [[.v (.int .u64 (IntKind.u64.wrap ((f.ev.map evR).length:Int)))]])] [] (.own 0) [.sl 1 ((enc f.ev.length).map bR)]:=by
  have:=uintsZ ((f.ev.map evR).length:Int) (by omega) (by omega)
  rw[Int.toNat_natCast,hll] at this
  rw[hll]
  exact this
 have hv':∀ x∈valsK f 5,Sat Tryz.prog 56 [.d (.sl 1 [[.v (.int .u64 (IntKind.u64.wrap x))]])] [] (.own 0) [.sl 1 ((enc x.toNat).map bR)]:=fun x hx=>uintsZ x (hv x hx).1 (by have:=(hv x hx).2;omega)
 have hle:∀ i,(enc 5++fldT ((valsK f 5).take i)).length≤1000:=fun i=>by
  have h1:=fldT_len ((valsK f 5).take i)
  have h2:=valsK_len f 5
  have h3:=enc_lens 5
  rw[List.length_take] at h1
  rw[List.length_append];omega
 have hap:∀ i (x:Int),(enc 5++fldT ((valsK f 5).take i)).length+(enc x.toNat).length≤100000000000:=fun i x=>by
  have h1:=hle i
  have h2:=enc_lens x.toNat
  omega
 have hn5:=enc_lens f.ev.length
 have hT:frT f 5=(enc 5++fldT ((valsK f 5).take 3))++enc f.ev.length++evsT f.ev:=by
  simp[frT,extT,valsK,idxK,fldT]
 have hT5:=frT_len5 f
 have ss:=seal_sat (frT f 5) (by omega)
 have hsz:((sealT (frT f 5)).map bR).length=(sealT (frT f 5)).length:=List.length_map _
 have d9:decide (((((frT f 5)++le4 (sumN (frT f 5))).map bR).length:Int)>65536)=true:=decide_eq_true (by have:(((frT f 5)++le4 (sumN (frT f 5))).map bR).length=(sealT (frT f 5)).length:=hsz;omega)
 have hB:((enc 5++fldT ((valsK f 5).take 3))++enc f.ev.length).length≤1010:=by
  have:=hle 3
  rw[List.length_append];omega
 have hBi:∀ i,(((enc 5++fldT ((valsK f 5).take 3))++enc f.ev.length)++evsT (f.ev.take i)).length≤200000:=fun i=>by
  have:=evsT_len (f.ev.take i)
  rw[List.length_take] at this
  rw[List.length_append];omega
 have h9:(enc 5++fldT ((valsK f 5).take 3)).length+(enc f.ev.length).length≤100000000000:=by
  have:=hle 3
  omega
 unfold sealT at hL
 rw[hT] at ss d9
 clear hL hsz hT5
 obtain⟨kk,a,e,b,c,g,s,n,t,w,ev,sr,d⟩:=f
 have hk:kk=5:=hk
 subst hk
 refine Vq Tryz.func26 rfl rfl ?_
 conv=>whnf
 iterate 5
  repeat' first|exact T0|(first|refine Yd fun _=>?_|refine Ye fun _=>?_|refine Yg ?_|refine Yk (r1.pu rfl rfl) ?_|refine Yk (lendON u0 rfl (bR_flats _)) ?_|refine Yk (f1.at1 0 rfl rfl rfl) ?_|refine Yk (lenP (by kernel_rfl)) ?_);conv=>whnf|(refine Ya ?_ ?_<;>intro _<;>conv=>whnf)
  all_goals try (refine Or.inl ?_;conv=>whnf)
 all_goals try (exfalso;simp only[outL] at *;first|omega|contradiction|(simp_all;done)|(simp_all;omega))
 refine⟨Nat,fun i=>i≤3,fun i=>([(20,iA i),(19,iA 3),(18,.rel 1 (slP 3)),(4,.own 2),(1,.ptr 0 0)],[.cells (frA ⟨5,a,e,b,c,g,s,n,t,w,ev,sr,d⟩),.cells (ptrsK 5),.sl 1 ((enc 5++fldT ((valsK ⟨5,a,e,b,c,g,s,n,t,w,ev,sr,d⟩ 5).take i)).map bR)]),fun i=>3-i,⟨0,Nat.zero_le _,?_⟩,?_⟩
 ·all_goals refine⟨[(1,3)],?_⟩
  repeat any_goals first|exact T0|exact rfl|exact Yr|refine Ya ?_ ?_
  all_goals conv=>whnf
 intro i hi
 have hi:i≤3:=hi
 obtain rfl|rfl|rfl|rfl:i=0∨i=1∨i=2∨i=3:=by omega
 ·have u1:=hv' a (by simp[valsK,idxK,getN])
  conv=>whnf
  iterate 6
   repeat' first|exact T0|(first|refine Yd fun _=>?_|refine Ye fun _=>?_|refine Yg ?_|refine Yk (ixP (by kernel_rfl) (by kernel_rfl) (by decide)) ?_|refine Yk (lendON u1 rfl (bR_flats _)) ?_|refine Yk (apx rfl rfl (hap 0 a)) ?_);conv=>whnf|(refine Ya ?_ ?_<;>intro _<;>conv=>whnf)
   all_goals try (refine Or.inl ?_;conv=>whnf)
  all_goals try (exfalso;simp only[outL] at *;first|omega|contradiction|(simp_all;done)|(simp_all;omega))
  refine⟨1,by decide,by decide,?_⟩
  all_goals refine⟨[(2,5)],?_⟩
  repeat any_goals first|exact T0|exact rfl|exact Yr|refine Ya ?_ ?_
  all_goals conv=>whnf
  all_goals exact congrArg (fun l=>AObj.sl 1 (List.map bR l)) (by simp[fldT,valsK,idxK,getN])
 ·have u1:=hv' e (by simp[valsK,idxK,getN])
  conv=>whnf
  iterate 6
   repeat' first|exact T0|(first|refine Yd fun _=>?_|refine Ye fun _=>?_|refine Yg ?_|refine Yk (ixP (by kernel_rfl) (by kernel_rfl) (by decide)) ?_|refine Yk (lendON u1 rfl (bR_flats _)) ?_|refine Yk (apx rfl rfl (hap 1 e)) ?_);conv=>whnf|(refine Ya ?_ ?_<;>intro _<;>conv=>whnf)
   all_goals try (refine Or.inl ?_;conv=>whnf)
  all_goals try (exfalso;simp only[outL] at *;first|omega|contradiction|(simp_all;done)|(simp_all;omega))
  refine⟨2,by decide,by decide,?_⟩
  all_goals refine⟨[(2,5)],?_⟩
  repeat any_goals first|exact T0|exact rfl|exact Yr|refine Ya ?_ ?_
  all_goals conv=>whnf
  all_goals exact congrArg (fun l=>AObj.sl 1 (List.map bR l)) (by simp[fldT,valsK,idxK,getN])
 ·have u1:=hv' n (by simp[valsK,idxK,getN])
  conv=>whnf
  iterate 6
   repeat' first|exact T0|(first|refine Yd fun _=>?_|refine Ye fun _=>?_|refine Yg ?_|refine Yk (ixP (by kernel_rfl) (by kernel_rfl) (by decide)) ?_|refine Yk (lendON u1 rfl (bR_flats _)) ?_|refine Yk (apx rfl rfl (hap 2 n)) ?_);conv=>whnf|(refine Ya ?_ ?_<;>intro _<;>conv=>whnf)
   all_goals try (refine Or.inl ?_;conv=>whnf)
  all_goals try (exfalso;simp only[outL] at *;first|omega|contradiction|(simp_all;done)|(simp_all;omega))
  refine⟨3,by decide,by decide,?_⟩
  all_goals refine⟨[(2,5)],?_⟩
  repeat any_goals first|exact T0|exact rfl|exact Yr|refine Ya ?_ ?_
  all_goals conv=>whnf
  all_goals exact congrArg (fun l=>AObj.sl 1 (List.map bR l)) (by simp[fldT,valsK,idxK,getN])
 conv=>whnf
 iterate 6
  repeat' first|exact T0|(first|refine Yd fun _=>?_|refine Ye fun _=>?_|refine Yg ?_|refine Yk (lendON u9 (by kernel_rfl) (bR_flats _)) ?_|refine Yk (apx rfl rfl h9) ?_);conv=>whnf|(refine Ya ?_ ?_<;>intro _<;>conv=>whnf)
  all_goals try (refine Or.inl ?_;conv=>whnf)
 all_goals try (exfalso;simp only[outL] at *;first|omega|contradiction|(simp_all;done)|(simp_all;omega))
 generalize hB0:(enc 5++fldT ((valsK ⟨5,a,e,b,c,g,s,n,t,w,ev,sr,d⟩ 5).take 3))++enc (Fr.ev ⟨5,a,e,b,c,g,s,n,t,w,ev,sr,d⟩).length=B0 at *
 obtain⟨st,hst0,hst1⟩:∃ st:Nat→List (Nat × AV) × List AObj,(∀ i,i<ev.length→st i=([(49,iA i),(48,iA (ev.map evR).length),(47,.d (.sl 4 (ev.map evR))),(35,iA 5),(4,.own 1),(1,.ptr 0 0)],[.cells (frA ⟨5,a,e,b,c,g,s,n,t,w,ev,sr,d⟩),.sl 1 ((B0++evsT (ev.take i)).map bR)])) ∧
   st ev.length=([(49,iA ev.length),(48,iA (ev.map evR).length),(47,.d (.sl 4 (ev.map evR))),(35,iA 5),(4,.d (bsD (B0++evsT ev))),(1,.ptr 0 0)],[.cells (frA ⟨5,a,e,b,c,g,s,n,t,w,ev,sr,d⟩)]):=
  ⟨fun i=>if i<ev.length then _ else _,fun i h=>if_pos h,if_neg (Nat.lt_irrefl _)⟩
 refine⟨Nat,fun i=>i≤ev.length,st,fun i=>ev.length-i,⟨0,Nat.zero_le _,?_⟩,?_⟩
 ·rw[hst0 0 hn1]
  all_goals refine⟨[(1,5)],?_⟩
  repeat any_goals first|exact T0|exact rfl|exact Yr|refine Ya ?_ ?_
  all_goals conv=>whnf
  exact congrArg (fun l=>AObj.sl 1 (List.map bR l)) (by simp[evsT])
 have hn2:ev.length≤64:=hn2
 intro i hi
 have hi:i≤ev.length:=hi
 by_cases hlt:i<ev.length
 ·rw[hst0 i hlt]
  have hx:ev[i]?=some ev[i]:=List.getElem?_eq_getElem hlt
  generalize ev[i]=x at hx
  have hm:=List.mem_of_getElem? hx
  have hgx:=map_get (f:=evR) hx
  have d1:decide ((i:Int)<((ev.map evR).length:Nat))=true:=decide_eq_true (by rw[List.length_map];omega)
  have u1:=uintsZ x.1 (hev x hm).1 (by have:=(hev x hm).2;omega)
  have i1:=ints1 x.2.1 (hz x hm)
  have b1:=bytes_satS x.2.2
  have l1:=enc_lens x.1.toNat
  have l2:=enc_lens (turnN x.2.1)
  have l3:=serT_len x.2.2
  have hbi:(B0++evsT (ev.take i)).length≤200000:=hBi i
  have p1:(B0++evsT (ev.take i)).length+(enc x.1.toNat).length≤100000000000:=by omega
  have p2:((B0++evsT (ev.take i))++enc x.1.toNat).length+(enc (turnN x.2.1)).length≤100000000000:=by
   rw[List.length_append (bs:=enc x.1.toNat)];omega
  have p3:(((B0++evsT (ev.take i))++enc x.1.toNat)++enc (turnN x.2.1)).length+(bytesS x.2.2).length≤100000000000:=by
   rw[List.length_append (bs:=enc (turnN x.2.1)),List.length_append (bs:=enc x.1.toNat)];omega
  conv=>whnf
  iterate 6
   repeat' first|exact T0|(first|refine⟨i,_,rfl,hgx,?_⟩|refine Yd fun _=>?_|refine Ye fun _=>?_|refine Yg ?_|refine Yk (lendON u1 (by kernel_rfl) (bR_flats _)) ?_|refine Yk (apx rfl rfl p1) ?_|refine Yk (lendON i1 (by kernel_rfl) (bR_flats _)) ?_|refine Yk (apx rfl rfl p2) ?_|refine Yk (b1.pu rfl rfl) ?_|refine Yk (apxd rfl p3) ?_);conv=>whnf|(refine Ya ?_ ?_<;>intro _<;>conv=>whnf)
   all_goals try (refine Or.inl ?_;conv=>whnf)
  all_goals try exact (bnl d1 ‹_›).elim
  refine⟨i+1,hlt,show ev.length-(i+1)<ev.length-i by omega,?_⟩
  by_cases hq:i+1<ev.length
  ·rw[hst0 _ hq]
   all_goals refine⟨[(1,9)],?_⟩
   repeat any_goals first|exact T0|exact rfl|exact Yr|refine Ya ?_ ?_
   all_goals conv=>whnf
   ·exact wk1 (by omega)
   ·exact congrArg (fun l=>AObj.sl 1 (List.map bR l)) (by rw[evsT_next hx];simp[evT])
  ·have e:ev.length=i+1:=by omega
   have e2:evsT ev=evsT (ev.take (i+1)):=by rw[List.take_of_length_le (by omega)]
   rw[show st (i+1)=st ev.length from by rw[e],hst1]
   all_goals refine⟨[],?_⟩
   repeat any_goals first|exact T0|exact rfl|exact Yr|refine Ya ?_ ?_
   all_goals conv=>whnf
   ·rw[e];exact wk1 (by omega)
   ·have e3:B0++evsT (ev.take i)++enc x.1.toNat++enc (turnN x.2.1)++bytesS x.2.2=B0++evsT ev:=by rw[e2,evsT_next hx];simp[evT]
    first|exact congrArg (fun l=>AV.d (D.sl 1 (List.map bR l))) e3|exact congrArg (fun l=>D.sl 1 (List.map bR l)) e3|exact congrArg (fun l=>AObj.sl 1 (List.map bR l)) e3
 ·have d1:decide ((i:Int)<((ev.map evR).length:Nat))=false:=decide_eq_false (by rw[List.length_map];omega)
  obtain rfl:i=ev.length:=by omega
  rw[hst1]
  conv=>whnf
  iterate 6
   repeat' first|exact T0|(first|refine Yd fun _=>?_|refine Ye fun _=>?_|refine Yg ?_|refine Yk (lendON ss (by kernel_rfl) (bR_flats _)) ?_);conv=>whnf|(refine Ya ?_ ?_<;>intro _<;>conv=>whnf)
   all_goals try (refine Or.inl ?_;conv=>whnf)
  all_goals try exact (bnl ‹_› d1).elim
  all_goals try exact (bnl d9 ‹_›).elim
  all_goals refine⟨[],?_⟩
  repeat any_goals first|exact T0|exact rfl|exact Yr|refine Ya ?_ ?_
  all_goals conv=>whnf
end Go.Proofs.YtfbfpnfgabamfaaGreat
