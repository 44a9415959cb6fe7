/- Parts Base, Row, VcA, VcB, VcC, VcD, VcE, VcF of the proof, put together. -/
import Derived.WalkKit
import Derived.WalkLawsBesides
import Derived.WalkSpells
import Derived.Lib.Hide
import Derived.Below
import Derived.Laws.OwnMore
import Derived.Deep.AppendLies
import Derived.Deep.Draws
import Derived.Maps.AppendAt
import Derived.RegionTactic
import Derived.OwnWalk
import Derived.ChangeSame
import Derived.ArgAppend
import Derived.Lib.SlBytesConst
import Derived.BigQuiet
import Derived.Deep.QuietTactic
import Derived.Laws.ResultCell
import Derived.Laws.Rows
import Derived.Laws.Tables
import Derived.Deep.MidRow
namespace Go.Proofs.YtfbfpnfgabamfaaGreat
set_option linter.unusedSimpArgs false
set_option linter.unusedVariables false
open Go.RowKit
theorem hide {p:Prop} (h:p):Hid p:=h
theorem below_drewN {B:Nat} {a w:World} (h:Below B a w) (n:Nat):Below B a (w.drewN n):=⟨h.os,h.tape,h.output,h.size,h.block⟩
def Rd (w:World) (B size:Nat) (A:Option Addr) (n:Nat) (xs:List Value):Prop:=
 xs.length=n*size∧(0<n→∃ b off,A=some ⟨b,off,none⟩∧b<B∧∀ j (h:j<xs.length),w.cell? ⟨b,off+j,none⟩=some xs[j])
section
variable {w w':World} {B B' size n:Nat} {A:Option Addr} {xs:List Value}
theorem Rd.nil:Rd w B size A 0 []:=⟨by simp,fun h=>absurd h (by omega)⟩
theorem Rd.nil' (h:Rd w B size A 0 xs):xs=[]:=List.eq_nil_of_length_eq_zero (by simpa using h.1)
theorem Rd.at_ {k:Nat} (h:Rd w B size A n xs) (hk:k<n):∃ b off,A=some ⟨b,off,none⟩∧b<B∧∀ j (h:j<xs.length),w.cell? ⟨b,off+j,none⟩=some xs[j]:=
 h.2 (by omega)
theorem Rd.keep (h:Rd w B size A n xs) (hk:∀ p:Addr,p.block<B→w'.cell? p=w.cell? p):Rd w' B size A n xs:=
 ⟨h.1,fun hn=>by
  obtain⟨b,off,e,hb,hc⟩:=h.2 hn
  exact⟨b,off,e,hb,fun j hj=>(hk _ hb).trans (hc j hj)⟩⟩
theorem Rd.more (h:Rd w B size A n xs) (hB:B≤B'):Rd w B' size A n xs:=
 ⟨h.1,fun hn=>by
  obtain⟨b,off,e,hb,hc⟩:=h.2 hn
  exact⟨b,off,e,by omega,hc⟩⟩
theorem Rd.below (h:Rd w B size A n xs) (hb:Below B w w'):Rd w' B size A n xs:=h.keep fun _ hp=>hb.cell hp
theorem Rd.next (h:Rd w w.heap.size size A n xs) (hb:Below w.heap.size w w'):Rd w' w'.heap.size size A n xs:=(h.below hb).more hb.size
theorem Rd.drew (h:Rd w B size A n xs):Rd w.drew B size A n xs:=h
theorem Rd.drewN (h:Rd w B size A n xs) (k:Nat):Rd (w.drewN k) B size A n xs:=h
theorem Rd.alloc (h:Rd w B size A n xs) (hB:B≤w.heap.size) (o:Obj):Rd (w.alloc o) B size A n xs:=h.keep fun p hp=>World.cell?_alloc_lt w o p (by omega)
theorem Rd.alloc' (h:Rd w w.heap.size size A n xs) (o:Obj):Rd (w.alloc o) (w.alloc o).heap.size size A n xs:=(h.alloc (Nat.le_refl _) o).more (by simp)
theorem Rd.setCell (h:Rd w B size A n xs) {p:Addr} (hB:B≤p.block) (u:Value):Rd (w.setCell p u) B size A n xs:=
 h.keep fun q hq=>World.cell?_setCell_other w p q u (fun e=>by subst e;omega)
theorem Rd.grown (h:Rd w B size A n xs) {row:Option Nat} (hg:w.grownBy w' row) (hB:B≤w.heap.size) (hr:∀ g,row=some g→B≤g):Rd w' B size A n xs:=
 h.keep fun p hp=>World.cell?_of_block (hg.block p.block (by omega) (fun e=>by have:=hr _ e.symm;omega))
theorem Rd.cut (h:Rd w B size A n xs) {k cap:Nat} (hk:k≤n) (hc:n≤cap) :
  Rd w B size (if cap=k then A else A.map (·.add (k*size))) (n-k) (xs.drop (k*size)):=by
 refine⟨by rw[List.length_drop,h.1,Nat.sub_mul],fun hn=>?_⟩
 obtain⟨b,off,rfl,hb,hcell⟩:=h.2 (by omega)
 rw[if_neg (by omega)]
 refine⟨b,off+k*size,by simp[Addr.add_lit],hb,fun j hj=>?_⟩
 rw[Nat.add_assoc]
 rw[List.length_drop] at hj
 rw[hcell _ (by omega),List.getElem_drop]
theorem Rd.take (h:Rd w B size A n xs) {k:Nat} (hk:k≤n):Rd w B size A k (xs.take (k*size)):=by
 have hm:k*size≤n*size:=Nat.mul_le_mul_right _ hk
 refine⟨by rw[List.length_take,h.1];omega,fun hn=>?_⟩
 obtain⟨b,off,rfl,hb,hcell⟩:=h.2 (by omega)
 refine⟨b,off,rfl,hb,fun j hj=>?_⟩
 rw[List.length_take] at hj
 rw[hcell _ (by omega),List.getElem_take]
end
def Ow (w:World) (lo:Nat) (_e:TypeId) (size:Nat) (v:Value) (n:Nat) (xs:List Value):Prop:=
 xs.length=n*size ∧
 ((v=.slice none 0 0∧n=0)∨(∃ a,v=.slice (some a) 0 0∧lo≤a.block∧n=0) ∨
 ∃ g off cap,v=.slice (some ⟨g,off,none⟩) n cap∧lo≤g∧g<w.heap.size∧n≤cap∧cap≤maxLen ∧
  (∀ j,j<cap*size→(w.cell? ⟨g,off+j,none⟩).isSome=true∧w.frozen? ⟨g,off+j,none⟩=false) ∧
  ∀ j (h:j<xs.length),w.cell? ⟨g,off+j,none⟩=some xs[j])
section
variable {w w':World} {lo size n:Nat} {e:TypeId} {v:Value} {xs:List Value}
theorem Ow.nil (w:World) (lo:Nat) (e:TypeId) (size:Nat):Ow w lo e size (.slice none 0 0) 0 []:=⟨by simp,.inl ⟨rfl,rfl⟩⟩
theorem Ow.nil_of (h:Ow w lo e size v 0 xs):xs=[]:=List.eq_nil_of_length_eq_zero (by simpa using h.1)
theorem Ow.of_own (h:w.ownsRow lo e size v n xs):Ow w lo e size v n xs:=by
 refine⟨h.1,?_⟩
 rcases h.2 with hn|⟨g,cap,cur,rfl,hb,hg,hnc,hcm,hcs,htake⟩
 ·exact .inl hn
 ·refine .inr (.inr ⟨g,0,cap,rfl,hb,(Array.getElem?_eq_some_iff.1 hg).1,hnc,hcm,fun j hj=>?_,fun j hj=>?_⟩)
  ·rw[Nat.zero_add,cell_of_row w g j cur e (0,0) hg]
   refine⟨by simp;omega,frozen_of_row w g j cur e hg⟩
  ·rw[Nat.zero_add,cell_of_row w g j cur e (0,0) hg]
   have h1:=h.1
   subst htake
   have:j<n*size:=by omega
   rw[List.getElem_take]
   rw[←Array.getElem?_toList,List.getElem?_eq_getElem]
theorem Ow.lt (h:Ow w lo e size v n xs):∀ k,v.ownBlock=some k→lo≤k:=by
 intro k hk
 rcases h.2 with⟨rfl,_⟩|⟨a,rfl,hb,_⟩|⟨g,off,cap,rfl,hb,hg,_⟩
 ·simp[Value.ownBlock] at hk
 ·simp[Value.ownBlock] at hk
  omega
 ·simp[Value.ownBlock] at hk
  omega
theorem Ow.same (h:Ow w lo e size v n xs) (hs:w.heap.size≤w'.heap.size) (hk:∀ k,v.ownBlock=some k→k<w.heap.size→w'.heap[k]?=w.heap[k]?):Ow w' lo e size v n xs:=by
 refine⟨h.1,?_⟩
 rcases h.2 with hn|hn|⟨g,off,cap,rfl,hlo,hlt,hnc,hcm,hroom,hx⟩
 ·exact .inl hn
 ·exact .inr (.inl hn)
 ·have hh:w'.heap[g]?=w.heap[g]?:=hk g rfl hlt
  refine .inr (.inr ⟨g,off,cap,rfl,hlo,Nat.lt_of_lt_of_le hlt hs,hnc,hcm,fun j hj=>?_,fun j hj=>?_⟩)
  ·rw[World.cell?_of_block (w:=w) hh,World.frozen?_of_block (w:=w) hh]
   exact hroom j hj
  ·rw[World.cell?_of_block (w:=w) hh]
   exact hx j hj
theorem Ow.kept {row:Option Nat} (h:Ow w lo e size v n xs) (hg:w.grownBy w' row) (hne:v.ownBlock=none∨v.ownBlock≠row):Ow w' lo e size v n xs:=
 h.same hg.size fun k hk hlt=>hg.block k hlt (by rcases hne with h0|h0<;>rw[hk] at h0<;>simp at h0 ⊢;exact h0)
theorem Ow.below {B:Nat} (h:Ow w lo e size v n xs) (hb:Below B w w') (hB:∀ k,v.ownBlock=some k→k<w.heap.size→k<B):Ow w' lo e size v n xs:=
 h.same hb.size fun k hk hlt=>hb.block k (hB k hk hlt)
theorem Ow.next (h:Ow w lo e size v n xs) (hb:Below w.heap.size w w'):Ow w' lo e size v n xs:=h.below hb fun _ _ hlt=>hlt
theorem Ow.alloc (h:Ow w lo e size v n xs) (o:Obj):Ow (w.alloc o) lo e size v n xs:=h.next ((Below.refl _ _).alloc (Nat.le_refl _) o)
theorem Ow.drew (h:Ow w lo e size v n xs):Ow w.drew lo e size v n xs:=h
theorem Ow.drewN (h:Ow w lo e size v n xs) (k:Nat):Ow (w.drewN k) lo e size v n xs:=h
theorem Ow.less {lo':Nat} (h:Ow w lo e size v n xs) (hl:lo'≤lo):Ow w lo' e size v n xs:=by
 refine⟨h.1,?_⟩
 rcases h.2 with hn|⟨a,rfl,hb,hn⟩|⟨g,off,cap,rfl,hb,r⟩
 ·exact .inl hn
 ·exact .inr (.inl ⟨a,rfl,by omega,hn⟩)
 ·exact .inr (.inr ⟨g,off,cap,rfl,by omega,r⟩)
theorem Ow.form (h:Ow w lo e size v n xs):∃ A c,v=.slice A n c∧n≤c∧c≤maxLen∧Rd w w.heap.size size A n xs:=by
 rcases h.2 with⟨rfl,rfl⟩|⟨a,rfl,hb,rfl⟩|⟨g,off,cap,rfl,hlo,hlt,hnc,hcm,hroom,hx⟩
 ·exact⟨none,0,rfl,by omega,by simp[maxLen],⟨h.1,fun h=>absurd h (by omega)⟩⟩
 ·exact⟨some a,0,rfl,by omega,by simp[maxLen],⟨h.1,fun h=>absurd h (by omega)⟩⟩
 ·exact⟨_,cap,rfl,hnc,hcm,⟨h.1,fun _=>⟨g,off,rfl,hlt,hx⟩⟩⟩
theorem Ow.rd {A:Option Addr} {c:Nat} (h:Ow w lo e size (.slice A n c) n xs):Rd w w.heap.size size A n xs:=by
 obtain⟨A',c',he,_,_,hr⟩:=h.form
 injection he with h1
 rw[h1];exact hr
theorem Ow.caps {A:Option Addr} {c:Nat} (h:Ow w lo e size (.slice A n c) n xs):n≤c∧c≤maxLen:=by
 obtain⟨A',c',he,h1,h2,_⟩:=h.form
 injection he with _ _ h3
 subst h3
 exact⟨h1,h2⟩
theorem Ow.lit (w:World) (cs:Array Value) (n:Nat) (hb:lo≤w.heap.size) (hm:n≤maxLen) (hs:cs.size=n*size) :
  Ow (w.alloc (.cells cs e)) lo e size (.slice (some ⟨w.heap.size,0,none⟩) n n) n cs.toList:=Ow.of_own (World.ownsRow_lit w cs n hb hm hs)
theorem Ow.open_ (h:Ow w lo e size v n xs) (hn:0<n):∃ g off cap,v=.slice (some ⟨g,off,none⟩) n cap∧lo≤g∧g<w.heap.size∧n≤cap∧cap≤maxLen ∧
  (∀ j,j<cap*size→(w.cell? ⟨g,off+j,none⟩).isSome=true∧w.frozen? ⟨g,off+j,none⟩=false)∧∀ j (h:j<xs.length),w.cell? ⟨g,off+j,none⟩=some xs[j]:=by
 rcases h.2 with⟨_,h0⟩|⟨a,_,_,h0⟩|h0
 ·omega
 ·omega
 ·exact h0
theorem Ow.at_ {g off cap:Nat} (h:Ow w lo e 1 (.slice (some ⟨g,off,none⟩) n cap) n xs) {k:Nat} (hk:k<n) :
  w.cell? ⟨g,off+k,none⟩=some (xs[k]'(by have:=h.1;omega))∧w.frozen? ⟨g,off+k,none⟩=false:=by
 obtain⟨g',off',cap',he,hlo,hlt,hnc,hcm,hroom,hx⟩:=h.open_ (by omega)
 simp only[Value.slice.injEq,Option.some.injEq,Addr.mk.injEq,and_true,true_and] at he
 obtain⟨⟨rfl,rfl⟩,rfl⟩:=he
 exact⟨hx k (by have:=h.1;omega),(hroom k (by omega)).2⟩
theorem Ow.get {g off cap:Nat} (h:Ow w lo e 1 (.slice (some ⟨g,off,none⟩) n cap) n xs) {k:Nat} {u:Value} (hu:xs[k]?=some u) :
  w.cell? ⟨g,off+k,none⟩=some u∧w.frozen? ⟨g,off+k,none⟩=false:=by
 obtain⟨hk,hu⟩:=List.getElem?_eq_some_iff.1 hu
 have:=h.at_ (k:=k) (by have:=h.1;omega)
 rw[hu] at this
 exact this
theorem Ow.take {A:Option Addr} {c k:Nat} (h:Ow w lo e size (.slice A n c) n xs) (hk:k≤n) (hA:A≠none):Ow w lo e size (.slice A k c) k (xs.take (k*size)):=by
 have hm:k*size≤n*size:=Nat.mul_le_mul_right _ hk
 have hl:(xs.take (k*size)).length=k*size:=by rw[List.length_take,h.1];omega
 refine⟨hl,?_⟩
 rcases h.2 with⟨he,_⟩|⟨a,he,hb,h0⟩|⟨g,off,cap,he,hlo,hlt,hnc,hcm,hroom,hx⟩
 ·injection he with h1;exact absurd h1 hA
 ·injection he with h1 h2 h3
  subst h1;subst h3
  exact .inr (.inl ⟨a,by rw[show k=0 by omega],hb,by omega⟩)
 ·injection he with h1 h2 h3
  subst h1;subst h3
  refine .inr (.inr ⟨g,off,c,rfl,hlo,hlt,by omega,hcm,hroom,fun j hj=>?_⟩)
  rw[hx j (by rw[List.length_take] at hj;omega),List.getElem_take]
theorem Rd.litm (w:World) (cs:Array Value) (e:TypeId) (fz:Nat × Nat) (n size:Nat) (hs:cs.size=n*size):Rd (w.alloc (.cells cs e fz)) (w.heap.size+1) size (some ⟨w.heap.size,0,none⟩) n cs.toList:=by
 refine⟨by simpa using hs,fun _=>⟨w.heap.size,0,rfl,by omega,fun j hj=>?_⟩⟩
 rw[Nat.zero_add,World.cell?_alloc_mark]
 rw[Array.length_toList] at hj
 simp[hj]
theorem Rd.lit (w:World) (cs:Array Value) (e:TypeId) (n size:Nat) (_hm:n≤maxLen) (hs:cs.size=n*size):Rd (w.alloc (.cells cs e)) (w.heap.size+1) size (some ⟨w.heap.size,0,none⟩) n cs.toList:=
 Rd.litm w cs e (0,0) n size hs
end
def Blk (w:World) (g:Nat) (t:TypeId) (cs:Array Value):Prop:=w.heap[g]?=some (.cells cs t (0,0))
section
variable {w w':World} {g:Nat} {t:TypeId} {cs:Array Value}
theorem Blk.lt (h:Blk w g t cs):g<w.heap.size:=(Array.getElem?_eq_some_iff.1 h).1
theorem Blk.cell (h:Blk w g t cs) (i:Nat):w.cell? ⟨g,i,none⟩=cs[i]?:=cell_of_row w g i cs t (0,0) h
theorem Blk.frozen (h:Blk w g t cs) (i:Nat):w.frozen? ⟨g,i,none⟩=false:=by
 unfold Blk at h
 simp[World.frozen?,h]
theorem Blk.new (w:World) (t:TypeId) (cs:Array Value):Blk (w.alloc (.cells cs t)) w.heap.size t cs:=heap_alloc_new w _
theorem Blk.drew (h:Blk w g t cs):Blk w.drew g t cs:=h
theorem Blk.drewN (h:Blk w g t cs) (n:Nat):Blk (w.drewN n) g t cs:=h
theorem Blk.alloc (h:Blk w g t cs) (o:Obj):Blk (w.alloc o) g t cs:=(Below.heap_alloc w o g h.lt).trans h
theorem Blk.set_ (h:Blk w g t cs) (i:Nat) (u:Value):Blk (w.setCell ⟨g,i,none⟩ u) g t (cs.setIfInBounds i u):=by
 unfold Blk at h ⊢
 simp[World.setCell,Array.getElem?_modify,h]
theorem Blk.far (h:Blk w g t cs) {p:Addr} (hp:g≠p.block) (u:Value):Blk (w.setCell p u) g t cs:=(Below.heap_setCell w p u g hp).trans h
theorem Blk.below {B:Nat} (h:Blk w g t cs) (hb:Below B w w') (hg:g<B):Blk w' g t cs:=(hb.block g hg).trans h
theorem Blk.next (h:Blk w g t cs) (hb:Below w.heap.size w w'):Blk w' g t cs:=h.below hb h.lt
theorem Blk.grown {row:Option Nat} (h:Blk w g t cs) (hb:w.grownBy w' row) (hg:some g≠row):Blk w' g t cs:=(hb.block g h.lt hg).trans h
end
section
variable {P:Program} (w:World)
theorem setCells_heap (b:Nat):∀ (vs:List Value) (o:Nat) (w:World) (k:Nat),k≠b→(w.setCells b o vs).heap[k]?=w.heap[k]?
 |[],_,_,_,_=>rfl
 |v::r,o,w,k,hk=>by
  rw[World.setCells,setCells_heap b r (o+1) _ k hk]
  exact Below.heap_setCell w _ v k hk
theorem setCells_size (b:Nat):∀ (vs:List Value) (o:Nat) (w:World),(w.setCells b o vs).heap.size=w.heap.size
 |[],_,_=>rfl
 |v::r,o,w=>by rw[World.setCells,setCells_size b r (o+1) _];simp[World.setCell]
theorem setCells_os (b:Nat):∀ (vs:List Value) (o:Nat) (w:World),(w.setCells b o vs).os=w.os∧(w.setCells b o vs).tape=w.tape∧(w.setCells b o vs).output=w.output
 |[],_,_=>⟨rfl,rfl,rfl⟩
 |v::r,o,w=>by rw[World.setCells];exact setCells_os b r (o+1) _
theorem setCells_grown (b o:Nat) (vs:List Value) (w:World):w.grownBy (w.setCells b o vs) (some b):=
 ⟨(setCells_os b vs o w).1,(setCells_os b vs o w).2.1,(setCells_os b vs o w).2.2,by rw[setCells_size];exact Nat.le_refl _,fun k _ hne=>setCells_heap b vs o w k (fun e=>hne (by rw[e]))⟩
theorem run_append_ow (lo:Nat) (t ty e:TypeId) (i:TypeInfo) (z:Value) (size bytes:Nat) (ht:P.underlying t=some (.slice e)) (hi:P.info? e=some i) (hz:i.zero=some z)
  (hsize:i.size=size) (hby:i.bytes=bytes) (hzs:z.cells.size=size) (hsz:0<size)
  (v:Value) (n:Nat) (xs:List Value) (hown:Ow w lo e size v n xs)
  (B:Nat) (A:Option Addr) (m c:Nat) (news:List Value) (hr:Rd w B size A m news) (h1:∀ u∈news,u.oneCell'=true)
  (h63:n+m≤maxLen) (hbytes:(n+m)*bytes≤140737488355328) (hbase:lo≤w.heap.size) :
  ∃ v' w',(Builtin.append_ #[t,t] ty #[v,.slice A m c]).run P w=.ok v' w'∧Ow w' lo e size v' (n+m) (xs++news)∧w.grownBy w' v.ownBlock ∧
   (v'.ownBlock=v.ownBlock∨v'.ownBlock=some w.heap.size)∧(v≠.slice none 0 0∨0<m→v'≠.slice none 0 0):=by
 rcases Nat.eq_zero_or_pos m with hm0|hm0
 ·subst hm0
  have hn:news=[]:=hr.nil'
  subst hn
  refine⟨v,w,?_,by simpa using hown,World.grownBy.refl w _,.inl rfl,fun h=>h.elim id (by omega)⟩
  rcases hown.2 with⟨rfl,rfl⟩|⟨a,rfl,hlo,rfl⟩|⟨g,off,cap,rfl,hlo,hlt,hnc,_⟩
  ·cases A<;>simp[Builtin.append_,run_underlying ht,sizeOf,typeInfo,hi,Builtin.lenOf,Builtin.firstCells,loadCells,loadCellsFrom]
  ·cases A<;>simp[Builtin.append_,run_underlying ht,sizeOf,typeInfo,hi,Builtin.lenOf,Builtin.firstCells,storeCells,loadCells,loadCellsFrom]
  ·cases A<;>simp[Builtin.append_,run_underlying ht,sizeOf,typeInfo,hi,Builtin.lenOf,Builtin.firstCells,hnc,storeCells,loadCells,loadCellsFrom]
 ·obtain⟨b,off0,rfl,hbB,hcells⟩:=hr.2 hm0
  have hnews:∀ j u,news[j]?=some u→w.cell? ((⟨b,off0,none⟩:Addr).add j)=some u:=by
   intro j u hu
   obtain⟨hj,hu⟩:=List.getElem?_eq_some_iff.1 hu
   rw[Addr.add_lit,hcells j hj,hu]
  have grow:∀ (a0:Addr) (cap:Nat),v=.slice (some a0) n cap→cap<n+m→(∀ j u,xs[j]?=some u→w.cell? (a0.add j)=some u) →
    ∃ v' w',(Builtin.append_ #[t,t] ty #[v,.slice (some ⟨b,off0,none⟩) m c]).run P w=.ok v' w'∧Ow w' lo e size v' (n+m) (xs++news)∧w.grownBy w' v.ownBlock ∧
     (v'.ownBlock=v.ownBlock∨v'.ownBlock=some w.heap.size)∧(v≠.slice none 0 0∨0<m→v'≠.slice none 0 0):=by
   rintro a0 cap rfl hfull hcell0
   obtain⟨v',w',hrun,r1,r2⟩:=run_append_arg_grows (P:=P) w t ty e i z size bytes ht hi hz hsize hby hzs hsz a0 n cap xs hown.1 hcell0 ⟨b,off0,none⟩ m c news hr.1 hnews hfull h63 hbytes
   obtain⟨g',cap',hv',_,_⟩:=r1.form (by omega)
   refine⟨v',w',hrun,(Ow.of_own r1).less hbase,⟨r2.os,r2.tape,r2.output,r2.size,fun k hk _=>r2.block k hk (by simp)⟩,?_,fun _ hv=>by rw[hv'] at hv;simp at hv⟩
   right
   have hrun':=run_append_grow (P:=P) w t ty e i z ht hi hz a0 n cap xs (by rw[hsize];exact hown.1) hcell0 ⟨b,off0,none⟩ m c news (by rw[hsize];exact hr.1) hnews (by omega) (by simp only[maxLen] at h63;omega) (by subst hby;exact growslice_fits (by omega) hbytes)
   rw[hrun] at hrun'
   injection hrun' with hv2 _
   rw[hv2];rfl
  rcases hown.2 with⟨rfl,rfl⟩|⟨a0,rfl,hlo,rfl⟩|⟨g,off,cap,rfl,hlo,hlt,hnc,hcm,hroom,hx⟩
  ·obtain rfl:xs=[]:=hown.nil_of
   obtain⟨v',w',hrun,h2,h3,h4,h5⟩:=run_append_own_at (P:=P) w lo t ty e i z size bytes ht hi hz hsize hby hzs hsz (.slice none 0 0) 0 [] (World.ownsRow_nil w _ e size) ⟨b,off0,none⟩ m c news hr.1 hnews h1 h63 hbytes hbase
   exact⟨v',w',hrun,Ow.of_own h2,h3,h5,fun _ hv=>by have:=(h4.1 hv).2;omega⟩
  ·obtain rfl:xs=[]:=hown.nil_of
   exact grow a0 0 rfl (by omega) (by intro j u hu;simp at hu)
  ·by_cases hfit:n+m≤cap
   ·subst hsize
    have hmul:n*i.size+news.length≤cap*i.size:=by rw[hr.1,←Nat.add_mul];exact Nat.mul_le_mul_right _ hfit
    have hxl:=hown.1
    have hrun:=run_append_room_cells (P:=P) w t ty e i ht hi g off n cap ⟨b,off0,none⟩ m c news hr.1 hnews h1 hfit
     (fun j hj=>by rw[Nat.add_assoc];exact (hroom _ (by omega)).1) (fun j hj=>by rw[Nat.add_assoc];exact (hroom _ (by omega)).2)
    refine⟨_,_,hrun,⟨by rw[List.length_append,hown.1,hr.1,Nat.add_mul],.inr (.inr ⟨g,off,cap,rfl,hlo,by rw[setCells_size];exact hlt,hfit,hcm,fun j hj=>?_,fun j hj=>?_⟩)⟩,setCells_grown g _ news w,.inl rfl,fun _ hv=>by simp at hv⟩
    ·rw[World.frozen?_setCells]
     refine⟨?_,(hroom j hj).2⟩
     by_cases hin:n*i.size≤j∧j<n*i.size+news.length
     ·have h:=World.cell?_setCells_in g news (off+n*i.size) w (fun q hq=>by rw[Nat.add_assoc];exact (hroom _ (by omega)).1) (j-n*i.size) (by omega)
      rw[show off+n*i.size+(j-n*i.size)=off+j by omega] at h
      rw[h];rfl
     ·rw[World.cell?_setCells_out g news (off+n*i.size) w _ (fun _ _=>by simp only;omega)]
      exact (hroom j hj).1
    ·rw[List.length_append] at hj
     by_cases hin:j<xs.length
     ·rw[World.cell?_setCells_out g news (off+n*i.size) w _ (fun _ _=>by simp only;omega),List.getElem_append_left hin]
      exact hx j hin
     ·have h:=World.cell?_setCells_in g news (off+n*i.size) w (fun q hq=>by rw[Nat.add_assoc];exact (hroom _ (by omega)).1) (j-xs.length) (by omega)
      rw[show off+n*i.size+(j-xs.length)=off+j by omega] at h
      rw[h,List.getElem_append_right (by omega)]
   ·exact grow ⟨g,off,none⟩ cap rfl (by omega) (fun j u hu=>by
      obtain⟨hj,hu⟩:=List.getElem?_eq_some_iff.1 hu
      rw[Addr.add_lit,hx j hj,hu])
theorem wp_append_ow {o:Oper} {a:Act} {K:Act→World→Prop} {Q:Exit→Act→World→Prop} (s x:Operand) (t:TypeId)
  (ho:o.op=.call { callee:=.builtin .append,args:=#[s,x],argTypes:=#[t,t] })
  (lo:Nat) (e:TypeId) (i:TypeInfo) (z:Value) (size bytes:Nat) (ht:P.underlying t=some (.slice e)) (hi:P.info? e=some i) (hz:i.zero=some z)
  (hsize:i.size=size) (hby:i.bytes=bytes) (hzs:z.cells.size=size) (hsz:0<size)
  (v:Value) (n:Nat) (xs:List Value) (hs:a.eval s=v) (hown:Ow w lo e size v n xs)
  (B:Nat) (A:Option Addr) (m c:Nat) (news:List Value) (hx:a.eval x=.slice A m c) (hr:Rd w B size A m news) (h1:∀ u∈news,u.oneCell'=true)
  (h63:n+m≤maxLen) (hbytes:(n+m)*bytes≤140737488355328) (hbase:lo≤w.heap.size)
  (h:∀ v' w',Ow w' lo e size v' (n+m) (xs++news)→w.grownBy w' v.ownBlock→(v'.ownBlock=v.ownBlock∨v'.ownBlock=some w.heap.size)→(v≠.slice none 0 0∨0<m→v'≠.slice none 0 0)→K (a.put o.dst v') w'):o.wp P a w K Q:=by
 obtain⟨v',w',hrun,h2,h3,h4,h5⟩:=run_append_ow (P:=P) w lo t o.type e i z size bytes ht hi hz hsize hby hzs hsz v n xs hown B A m c news hr h1 h63 hbytes hbase
 unfold Oper.wp execOp
 simp only[ho,resolve,invoke,builtin,Sem.run_bind,Sem.run_pure,Result.andThen_ok,List.map_toArray,List.map_cons,List.map_nil,hs,hx,hrun]
 exact h v' w' h2 h3 h4 h5
theorem wpList_append_ow {ops:Array Oper} {rest:List Oper} {o:Oper} {a:Act} {Q:Exit→Act→World→Prop} (hgd:o.guard=none) (s x:Operand) (t:TypeId)
  (ho:o.op=.call { callee:=.builtin .append,args:=#[s,x],argTypes:=#[t,t] })
  (lo:Nat) (e:TypeId) (i:TypeInfo) (z:Value) (size bytes:Nat) (ht:P.underlying t=some (.slice e)) (hi:P.info? e=some i) (hz:i.zero=some z)
  (hsize:i.size=size) (hby:i.bytes=bytes) (hzs:z.cells.size=size) (hsz:0<size)
  (v:Value) (n:Nat) (xs:List Value) (hs:a.eval s=v) (hown:Ow w lo e size v n xs)
  (B:Nat) (A:Option Addr) (m c:Nat) (news:List Value) (hx:a.eval x=.slice A m c) (hr:Rd w B size A m news) (h1:∀ u∈news,u.oneCell'=true)
  (h63:n+m≤maxLen) (hbytes:(n+m)*bytes≤140737488355328) (hbase:lo≤w.heap.size)
  (h:∀ v' w',Ow w' lo e size v' (n+m) (xs++news)→w.grownBy w' v.ownBlock→(v'.ownBlock=v.ownBlock∨v'.ownBlock=some w.heap.size)→(v≠.slice none 0 0∨0<m→v'≠.slice none 0 0)→wpList P ops Q rest (a.put o.dst v') w'):wpList P ops Q (o::rest) a w:=
 wpList_plain hgd fun _ hK=>wp_append_ow w s x t ho lo e i z size bytes ht hi hz hsize hby hzs hsz v n xs hs hown B A m c news hx hr h1 h63 hbytes hbase fun v' w' h2 h3 h4 h5=>hK _ _ (h v' w' h2 h3 h4 h5)
end
def bv (x:UInt8):Value:=.int .u8 (x.toNat:Int)
theorem bvs_one (l:List UInt8):∀ u∈l.map bv,u.oneCell'=true:=by
 intro u hu
 obtain⟨x,_,rfl⟩:=List.mem_map.1 hu
 rfl
abbrev RdB (w:World) (B:Nat) (A:Option Addr) (n:Nat) (l:List UInt8):Prop:=Rd w B 1 A n (l.map bv)
theorem RdB.len {w:World} {B n:Nat} {A:Option Addr} {l:List UInt8} (h:RdB w B A n l):l.length=n:=by have:=h.1;simpa using this
theorem RdB.cell {w:World} {B n:Nat} {A:Option Addr} {l:List UInt8} (h:RdB w B A n l) {k:Nat} (hk:k<n) :
  ∃ b off,A=some ⟨b,off,none⟩∧b<B∧w.cell? ⟨b,off+k,none⟩=some (.int .u8 ((l[k]'(by rw[h.len];exact hk)).toNat:Int)):=by
 obtain⟨b,off,e,hb,hc⟩:=h.at_ hk
 have hl:=h.len
 exact⟨b,off,e,hb,by rw[hc k (by simp;omega)];simp[bv]⟩
theorem ret_int {k:IntKind} {a b:Int} (h:a=b):Ending.returned (.int k a)=.returned (.int k b):=by rw[h]
section
variable {P:Program} {w:World}
theorem heap_setRow (w:World) (g:Nat) (cs:Array Value) (k:Nat) (hk:k≠g):(w.setRow g cs).heap[k]?=w.heap[k]?:=by
 simp only[World.setRow]
 rw[Array.getElem?_modify]
 rw[if_neg (fun e=>hk e.symm)]
theorem Blk.setRow {b:Nat} {t:TypeId} {cs:Array Value} (h:Blk w b t cs) (cs':Array Value):Blk (w.setRow b cs') b t cs':=by
 unfold Blk at h ⊢
 simp only[World.setRow]
 rw[Array.getElem?_modify,if_pos rfl,h]
 rfl
end
end Go.Proofs.YtfbfpnfgabamfaaGreat
/- Abstract values,the abstract heap,and what a world has to do with them. No program is named here. -/
namespace Go.Proofs.YtfbfpnfgabamfaaGreat
set_option linter.unusedSimpArgs false
set_option linter.unusedVariables false
open Go.RowKit

inductive D where
 |v (x:Value)
 |agg (xs:List D)
 |sl (size:Nat) (rows:List (List D))

mutual
inductive RD (w:World) (F:Nat→Prop):D→Value→Prop
 |v (x:Value):RD w F (.v x) x
 |agg {xs:List D} {cs:List Value} (h:RDs w F xs cs):RD w F (.agg xs) (.agg cs.toArray)
 |sl {size:Nat} {rows:List (List D)} {A:Option Addr} {n c:Nat} {cs:List Value} (hn:rows.length=n) (hs:∀ r∈rows,r.length=size) (h1:n≤c) (h2:c≤maxLen) (h:RDs w F rows.flatten cs)
   (hm:0<n→∃ b off,A=some ⟨b,off,none⟩∧F b∧∀ j (h:j<cs.length),w.cell? ⟨b,off+j,none⟩=some cs[j]):RD w F (.sl size rows) (.slice A n c)
inductive RDs (w:World) (F:Nat→Prop):List D→List Value→Prop
 |nil:RDs w F [] []
 |cons {x:D} {xs:List D} {v:Value} {vs:List Value} (h:RD w F x v) (h1:v.oneCell'=true) (hr:RDs w F xs vs):RDs w F (x::xs) (v::vs)
end

inductive AV where
 |d (x:D)
 |ptr (i o:Nat)
 |own (i:Nat)
 |ep (i sz k f:Nat)
 |fp (xs:List D)
 |agg (xs:List AV)
 |tup (xs:List AV)
 |fn (f:Fn) (first caps:List AV)
 |mp (i:Nat)
 |rel (i:Nat) (p:Value→Value→Prop)
 |any

mutual
inductive RA (w:World) (F:Nat→Prop) (ρ:Nat→Option Value):AV→Value→Prop
 |d {x:D} {v:Value} (h:RD w F x v):RA w F ρ (.d x) v
 |ptr {i o b:Nat} (h:ρ i=some (.pointer (some ⟨b,0,none⟩))):RA w F ρ (.ptr i o) (.pointer (some ⟨b,o,none⟩))
 |own {i:Nat} {A:Option Addr} {n c:Nat} (h:ρ i=some (.slice A n c)):RA w F ρ (.own i) (.slice A n c)
 |ep {i sz k f g off n c:Nat} (h:ρ i=some (.slice (some ⟨g,off,none⟩) n c)):RA w F ρ (.ep i sz k f) (.pointer (some ⟨g,off+(k*sz+f),none⟩))
 |fp {xs:List D} {cs:List Value} {b off:Nat} (hb:F b) (h:RDs w F xs cs) (hc:∀ j (h:j<cs.length),w.cell? ⟨b,off+j,none⟩=some cs[j]):RA w F ρ (.fp xs) (.pointer (some ⟨b,off,none⟩))
 |agg {xs:List AV} {cs:List Value} (h:RAs w F ρ xs cs) (h1:∀ c∈cs,c.oneCell'=true):RA w F ρ (.agg xs) (.agg cs.toArray)
 |tup {xs:List AV} {cs:List Value} (h:RAs w F ρ xs cs):RA w F ρ (.tup xs) (.tuple cs.toArray)
 |fn {f:Fn} {xs ys:List AV} {us vs:List Value} (h:RAs w F ρ xs us) (h':RAs w F ρ ys vs):RA w F ρ (.fn f xs ys) (.func f us.toArray vs.toArray)
 |mp {i b:Nat} (h:ρ i=some (.map (some b))):RA w F ρ (.mp i) (.map (some b))
 |rel {i:Nat} {p:Value→Value→Prop} {h v:Value} (hi:ρ i=some h) (hp:p h v):RA w F ρ (.rel i p) v
 |any (v:Value):RA w F ρ .any v
inductive RAs (w:World) (F:Nat→Prop) (ρ:Nat→Option Value):List AV→List Value→Prop
 |nil:RAs w F ρ [] []
 |cons {x:AV} {xs:List AV} {v:Value} {vs:List Value} (h:RA w F ρ x v) (hr:RAs w F ρ xs vs):RAs w F ρ (x::xs) (v::vs)
end

section
variable {w w':World} {F F':Nat→Prop} {ρ ρ':Nat→Option Value}
mutual
theorem RD.mono (hm:∀ b,F b→w'.heap[b]?=w.heap[b]?) (hF:∀ b,F b→F' b):∀ {x:D} {v:Value},RD w F x v→RD w' F' x v
 |_,_,.v x=>.v x
 |_,_,.agg h=>.agg (RDs.mono hm hF h)
 |_,_,.sl hn hs h1 h2 h h3=>.sl hn hs h1 h2 (RDs.mono hm hF h) fun hp=>by
   obtain⟨b,off,e,hb,hc⟩:=h3 hp
   exact⟨b,off,e,hF b hb,fun j hj=>(World.cell?_of_block (w:=w) (hm b hb)).trans (hc j hj)⟩
theorem RDs.mono (hm:∀ b,F b→w'.heap[b]?=w.heap[b]?) (hF:∀ b,F b→F' b):∀ {xs:List D} {vs:List Value},RDs w F xs vs→RDs w' F' xs vs
 |_,_,.nil=>.nil
 |_,_,.cons h h1 hr=>.cons (RD.mono hm hF h) h1 (RDs.mono hm hF hr)
end
mutual
theorem RA.mono (hm:∀ b,F b→w'.heap[b]?=w.heap[b]?) (hF:∀ b,F b→F' b) (hρ:∀ i h,ρ i=some h→ρ' i=some h):∀ {x:AV} {v:Value},RA w F ρ x v→RA w' F' ρ' x v
 |_,_,.d h=>.d (h.mono hm hF)
 |_,_,.ptr h=>.ptr (hρ _ _ h)
 |_,_,.own h=>.own (hρ _ _ h)
 |_,_,.ep h=>.ep (hρ _ _ h)
 |_,_,.fp hb h hc=>.fp (hF _ hb) (h.mono hm hF) fun j hj=>(World.cell?_of_block (w:=w) (hm _ hb)).trans (hc j hj)
 |_,_,.agg h h1=>.agg (RAs.mono hm hF hρ h) h1
 |_,_,.tup h=>.tup (RAs.mono hm hF hρ h)
 |_,_,.fn h h'=>.fn (RAs.mono hm hF hρ h) (RAs.mono hm hF hρ h')
 |_,_,.mp h=>.mp (hρ _ _ h)
 |_,_,.rel h hp=>.rel (hρ _ _ h) hp
 |_,_,.any v=>.any v
theorem RAs.mono (hm:∀ b,F b→w'.heap[b]?=w.heap[b]?) (hF:∀ b,F b→F' b) (hρ:∀ i h,ρ i=some h→ρ' i=some h):∀ {xs:List AV} {vs:List Value},RAs w F ρ xs vs→RAs w' F' ρ' xs vs
 |_,_,.nil=>.nil
 |_,_,.cons h hr=>.cons (RA.mono hm hF hρ h) (RAs.mono hm hF hρ hr)
end
theorem RDs.length {xs:List D}:∀ {vs:List Value},RDs w F xs vs→vs.length=xs.length:=by
 induction xs with
 |nil=>intro vs h;cases h;rfl
 |cons x xs ih=>intro vs h;cases h with|cons h h1 hr=>simp[ih hr]
theorem RAs.length {xs:List AV}:∀ {vs:List Value},RAs w F ρ xs vs→vs.length=xs.length:=by
 induction xs with
 |nil=>intro vs h;cases h;rfl
 |cons x xs ih=>intro vs h;cases h with|cons h hr=>simp[ih hr]
theorem RDs.one {xs:List D}:∀ {vs:List Value},RDs w F xs vs→∀ v∈vs,v.oneCell'=true:=by
 induction xs with
 |nil=>intro vs h;cases h;simp
 |cons x xs ih=>intro vs h;cases h with|cons h h1 hr=>simp[h1];exact ih hr
theorem RDs.app {xs ys:List D}:∀ {vs us:List Value},RDs w F xs vs→RDs w F ys us→RDs w F (xs++ys) (vs++us):=by
 induction xs with
 |nil=>intro vs us h k;cases h;exact k
 |cons x xs ih=>intro vs us h k;cases h with|cons h h1 hr=>exact .cons h h1 (ih hr k)
theorem RDs.split {xs ys:List D}:∀ {vs:List Value},RDs w F (xs++ys) vs→∃ us ts,vs=us++ts∧RDs w F xs us∧RDs w F ys ts:=by
 induction xs with
 |nil=>intro vs h;exact⟨[],vs,rfl,.nil,h⟩
 |cons x xs ih=>intro vs h;cases h with|cons h h1 hr=>obtain⟨us,ts,rfl,a,b⟩:=ih hr;exact⟨_::us,ts,rfl,.cons h h1 a,b⟩
theorem RDs.drop {xs:List D} {vs:List Value} (h:RDs w F xs vs) (k:Nat):RDs w F (xs.drop k) (vs.drop k):=by
 induction k generalizing xs vs with
 |zero=>exact h
 |succ k ih=>cases h with
  |nil=>exact .nil
  |cons h h1 hr=>exact ih hr
theorem RDs.take {xs:List D} {vs:List Value} (h:RDs w F xs vs) (k:Nat):RDs w F (xs.take k) (vs.take k):=by
 induction k generalizing xs vs with
 |zero=>exact .nil
 |succ k ih=>cases h with
  |nil=>exact .nil
  |cons h h1 hr=>exact .cons h h1 (ih hr)
theorem RDs.get {xs:List D} {vs:List Value} (h:RDs w F xs vs) {k:Nat} {x:D} (hx:xs[k]?=some x):∃ v,vs[k]?=some v∧RD w F x v∧v.oneCell'=true:=by
 induction k generalizing xs vs with
 |zero=>cases h with
  |nil=>simp at hx
  |cons h h1 hr=>simp at hx;subst hx;exact⟨_,rfl,h,h1⟩
 |succ k ih=>cases h with
  |nil=>simp at hx
  |cons h h1 hr=>simpa using ih hr (by simpa using hx)
theorem RDs.set {xs:List D} {vs:List Value} (h:RDs w F xs vs) (k:Nat) {x:D} {v:Value} (hx:RD w F x v) (h1:v.oneCell'=true):RDs w F (xs.set k x) (vs.set k v):=by
 induction k generalizing xs vs with
 |zero=>cases h with
  |nil=>exact .nil
  |cons h h1' hr=>exact .cons hx h1 hr
 |succ k ih=>cases h with
  |nil=>exact .nil
  |cons h h1' hr=>exact .cons h h1' (ih hr)
theorem RAs.app {xs ys:List AV}:∀ {vs us:List Value},RAs w F ρ xs vs→RAs w F ρ ys us→RAs w F ρ (xs++ys) (vs++us):=by
 induction xs with
 |nil=>intro vs us h k;cases h;exact k
 |cons x xs ih=>intro vs us h k;cases h with|cons h hr=>exact .cons h (ih hr k)
theorem RAs.drop {xs:List AV} {vs:List Value} (h:RAs w F ρ xs vs) (k:Nat):RAs w F ρ (xs.drop k) (vs.drop k):=by
 induction k generalizing xs vs with
 |zero=>exact h
 |succ k ih=>cases h with
  |nil=>exact .nil
  |cons h hr=>exact ih hr
theorem RAs.take {xs:List AV} {vs:List Value} (h:RAs w F ρ xs vs) (k:Nat):RAs w F ρ (xs.take k) (vs.take k):=by
 induction k generalizing xs vs with
 |zero=>exact .nil
 |succ k ih=>cases h with
  |nil=>exact .nil
  |cons h hr=>exact .cons h (ih hr)
theorem RAs.get {xs:List AV} {vs:List Value} (h:RAs w F ρ xs vs) {k:Nat} {x:AV} (hx:xs[k]?=some x):∃ v,vs[k]?=some v∧RA w F ρ x v:=by
 induction k generalizing xs vs with
 |zero=>cases h with
  |nil=>simp at hx
  |cons h hr=>simp at hx;subst hx;exact⟨_,rfl,h⟩
 |succ k ih=>cases h with
  |nil=>simp at hx
  |cons h hr=>simpa using ih hr (by simpa using hx)
theorem RAs.set {xs:List AV} {vs:List Value} (h:RAs w F ρ xs vs) (k:Nat) {x:AV} {v:Value} (hx:RA w F ρ x v):RAs w F ρ (xs.set k x) (vs.set k v):=by
 induction k generalizing xs vs with
 |zero=>cases h with
  |nil=>exact .nil
  |cons h hr=>exact .cons hx hr
 |succ k ih=>cases h with
  |nil=>exact .nil
  |cons h hr=>exact .cons h (ih hr)
theorem RAs.ofD {xs:List D} {vs:List Value} (h:RDs w F xs vs):RAs w F ρ (xs.map .d) vs:=by
 induction xs generalizing vs with
 |nil=>cases h;exact .nil
 |cons x xs ih=>cases h with|cons h h1 hr=>exact .cons (.d h) (ih hr)
theorem RAs.toD {xs:List D} {vs:List Value} (h:RAs w F ρ (xs.map .d) vs) (h1:∀ v∈vs,v.oneCell'=true):RDs w F xs vs:=by
 induction xs generalizing vs with
 |nil=>cases h;exact .nil
 |cons x xs ih=>cases h with
  |cons h hr=>
   cases h with
   |d h=>exact .cons h (h1 _ (List.mem_cons_self ..)) (ih hr fun v hv=>h1 v (List.mem_cons_of_mem _ hv))
end

inductive AObj where
 |dead
 |cells (cs:List AV)
 |row (xs:List D)
 |sl (size:Nat) (rows:List (List D))
 |obj (p:Obj→Prop)
 |iter (x:AV) (p:Value→Obj→Prop)
def AObj.live:AObj→Bool
 | .dead=>false
 |_=>true
def blkOf:Value→Option Nat
 | .pointer (some a)=>some a.block
 | .slice (some a) _ _=>some a.block
 | .map (some b)=>some b
 |_=>none
def ORep (w:World) (F:Nat→Prop) (ρ:Nat→Option Value) (h:Value):AObj→Prop
 | .dead=>True
 | .cells cs=>∃ b t vs,h=.pointer (some ⟨b,0,none⟩)∧Blk w b t vs∧RAs w F ρ cs vs.toList∧∀ v∈vs.toList,v.oneCell'=true
 | .row xs=>∃ b t vs,h=.pointer (some ⟨b,0,none⟩)∧Blk w b t vs∧RDs w F xs vs.toList
 | .sl size rows=>∃ vs,Ow w 0 0 size h rows.length vs∧RDs w F rows.flatten vs∧∀ r∈rows,r.length=size
 | .obj p=>∃ b o,(h=.pointer (some ⟨b,0,none⟩)∨h=.map (some b))∧w.heap[b]?=some o∧p o
 | .iter x p=>∃ b o v,h=.pointer (some ⟨b,0,none⟩)∧w.heap[b]?=some o∧RA w F ρ x v∧p v o
abbrev Hp:=Nat→Option AObj
structure Env (F:Nat→Prop) (ρ:Nat→Option Value) (H:Hp) (w:World):Prop where
 fb:∀ b,F b→b<w.heap.size
 abs:∀ i,H i=none→ρ i=none
 rep:∀ i o,H i=some o→o.live=true→∃ h,ρ i=some h∧ORep w F ρ h o∧∀ b,blkOf h=some b→b<w.heap.size∧¬F b
 inj:∀ i j o o' h h' b,H i=some o→H j=some o'→o.live=true→o'.live=true→ρ i=some h→ρ j=some h'→blkOf h=some b→blkOf h'=some b→i=j
def Lv (ρ:Nat→Option Value) (H:Hp) (b:Nat):Prop:=∃ i o h,H i=some o∧o.live=true∧ρ i=some h∧blkOf h=some b
structure Step (F:Nat→Prop) (ρ:Nat→Option Value) (H:Hp) (w:World) (F':Nat→Prop) (ρ':Nat→Option Value) (H':Hp) (w':World):Prop where
 os:w'.os=w.os
 tape:w'.tape=w.tape
 output:w'.output=w.output
 size:w.heap.size≤w'.heap.size
 unch:∀ b,b<w.heap.size→¬Lv ρ H b→w'.heap[b]?=w.heap[b]?
 fsub:∀ b,F b→F' b
 fsrc:∀ b,F' b→F b∨w.heap.size≤b∨Lv ρ H b
 lsrc:∀ b,Lv ρ' H' b→w.heap.size≤b∨Lv ρ H b
def Keep (ρ ρ':Nat→Option Value):Prop:=∀ i h,ρ i=some h→ρ' i=some h
theorem Keep.refl (ρ:Nat→Option Value):Keep ρ ρ:=fun _ _ h=>h
theorem Keep.trans {a b c:Nat→Option Value} (h:Keep a b) (k:Keep b c):Keep a c:=fun i v hv=>k i v (h i v hv)
section
variable {F F' F'':Nat→Prop} {ρ ρ' ρ'':Nat→Option Value} {H H' H'':Hp} {w w' w'':World}
theorem Env.notF (E:Env F ρ H w) {b:Nat} (h:F b):¬Lv ρ H b:=by
 rintro⟨i,o,v,hi,hl,hv,hb⟩
 obtain⟨v',hv',_,hk⟩:=E.rep i o hi hl
 rw[hv] at hv'
 injection hv' with e
 subst e
 exact (hk b hb).2 h
theorem Step.refl (F:Nat→Prop) (ρ:Nat→Option Value) (H:Hp) (w:World):Step F ρ H w F ρ H w:=
 ⟨rfl,rfl,rfl,Nat.le_refl _,fun _ _ _=>rfl,fun _ h=>h,fun _ h=>.inl h,fun _ h=>.inr h⟩
theorem Step.trans (h:Step F ρ H w F' ρ' H' w') (k:Step F' ρ' H' w' F'' ρ'' H'' w''):Step F ρ H w F'' ρ'' H'' w'' where
 os:=k.os.trans h.os
 tape:=k.tape.trans h.tape
 output:=k.output.trans h.output
 size:=Nat.le_trans h.size k.size
 unch b hb hl:=(k.unch b (Nat.lt_of_lt_of_le hb h.size) fun hl'=>(h.lsrc b hl').elim (fun e=>absurd e (by omega)) hl).trans (h.unch b hb hl)
 fsub b hb:=k.fsub b (h.fsub b hb)
 fsrc b hb:=(k.fsrc b hb).elim (fun e=>h.fsrc b e) fun e=>e.elim (fun e=>.inr (.inl (Nat.le_trans h.size e))) fun e=>(h.lsrc b e).elim (fun e=>.inr (.inl e)) fun e=>.inr (.inr e)
 lsrc b hb:=(k.lsrc b hb).elim (fun e=>.inl (Nat.le_trans h.size e)) fun e=>h.lsrc b e
theorem Step.keepF (h:Step F ρ H w F' ρ' H' w') (E:Env F ρ H w):∀ b,F b→w'.heap[b]?=w.heap[b]?:=fun b hb=>h.unch b (E.fb b hb) (E.notF hb)
theorem Step.ra (h:Step F ρ H w F' ρ' H' w') (E:Env F ρ H w) (k:Keep ρ ρ') {x:AV} {v:Value} (hx:RA w F ρ x v):RA w' F' ρ' x v:=hx.mono (h.keepF E) h.fsub k
theorem Step.ras (h:Step F ρ H w F' ρ' H' w') (E:Env F ρ H w) (k:Keep ρ ρ') {x:List AV} {v:List Value} (hx:RAs w F ρ x v):RAs w' F' ρ' x v:=hx.mono (h.keepF E) h.fsub k
end
def hp (l:List AObj):Hp:=fun i=>l[i]?
end Go.Proofs.YtfbfpnfgabamfaaGreat
namespace Go.Proofs.YtfbfpnfgabamfaaGreat
set_option linter.unusedSimpArgs false
set_option linter.unusedVariables false
open Go.RowKit
section
variable {F F':Nat→Prop} {ρ ρ':Nat→Option Value} {H H':Hp} {w w':World}
theorem ORep.mono {h:Value} {o:AObj} (hr:ORep w F ρ h o) (hs:w.heap.size≤w'.heap.size) (hb:∀ b,blkOf h=some b→b<w.heap.size→w'.heap[b]?=w.heap[b]?) (hm:∀ b,F b→w'.heap[b]?=w.heap[b]?) (hF:∀ b,F b→F' b) (hk:Keep ρ ρ'):ORep w' F' ρ' h o:=by
 cases o with
 |dead=>trivial
 |cells cs=>
  obtain⟨b,t,vs,rfl,hB,hra,h1⟩:=hr
  exact⟨b,t,vs,rfl,(hb b rfl hB.lt).trans hB,hra.mono hm hF hk,h1⟩
 |row xs=>
  obtain⟨b,t,vs,rfl,hB,hra⟩:=hr
  exact⟨b,t,vs,rfl,(hb b rfl hB.lt).trans hB,hra.mono hm hF⟩
 |sl size rows=>
  obtain⟨vs,how,hra,hl⟩:=hr
  refine⟨vs,how.same hs (fun k hk hlt=>hb k ?_ hlt),hra.mono hm hF,hl⟩
  cases h<;>simp[Value.ownBlock] at hk
  rename_i a n c
  cases a<;>simp at hk
  simp[blkOf,hk]
 |obj p=>
  obtain⟨b,o,hh,ho,hp⟩:=hr
  have hlt:b<w.heap.size:=(Array.getElem?_eq_some_iff.1 ho).1
  exact⟨b,o,hh,(hb b (by rcases hh with rfl|rfl<;>rfl) hlt).trans ho,hp⟩
 |iter x p=>
  obtain⟨b,o,v,rfl,ho,hx,hp⟩:=hr
  exact⟨b,o,v,rfl,(hb b rfl (Array.getElem?_eq_some_iff.1 ho).1).trans ho,hx.mono hm hF hk,hp⟩
def updF {α:Type} (f:Nat→Option α) (i:Nat) (x:Option α):Nat→Option α:=fun j=>if j=i then x else f j
theorem updF_same {α:Type} (f:Nat→Option α) (i:Nat) (x:Option α):updF f i x i=x:=if_pos rfl
theorem updF_ne {α:Type} (f:Nat→Option α) {i j:Nat} (x:Option α) (h:j≠i):updF f i x j=f j:=if_neg h
theorem keep_upd {f:Nat→Option Value} {i:Nat} {x:Value} (h:f i=none):Keep f (updF f i (some x)):=fun j v hv=>by
 by_cases e:j=i
 ·subst e;rw[h] at hv;cases hv
 ·rw[updF_ne _ _ e];exact hv
theorem Env.upd (E:Env F ρ H w) {i:Nat} {o o':AObj} {h:Value} (hi:H i=some o) (hl:o.live=true) (hρ:ρ i=some h) (hG:w.grownBy w' (blkOf h)) (hr:ORep w' F ρ h o') :
  Step F ρ H w F ρ (updF H i (some o')) w'∧Env F ρ (updF H i (some o')) w':=by
 have hnF:∀ b,blkOf h=some b→b<w.heap.size∧¬F b:=by
  obtain⟨h0,e0,_,hk⟩:=E.rep i o hi hl
  rw[hρ] at e0;injection e0 with e0;subst e0
  exact hk
 have hm:∀ b,F b→w'.heap[b]?=w.heap[b]?:=fun b hb=>hG.block b (E.fb b hb) fun e=>(hnF b e.symm).2 hb
 have old:∀ b,Lv ρ (updF H i (some o')) b→Lv ρ H b:=by
  rintro b ⟨j,oj,hj,e1,e2,e3,e4⟩
  by_cases e:j=i
  ·subst e;exact⟨j,o,hj,hi,hl,e3,e4⟩
  ·rw[updF_ne _ _ e] at e1;exact⟨j,oj,hj,e1,e2,e3,e4⟩
 refine⟨⟨hG.os,hG.tape,hG.output,hG.size,fun b hb hn=>hG.block b hb fun e=>hn ⟨i,o,h,hi,hl,hρ,e.symm⟩,fun _ h=>h,fun _ h=>.inl h,fun b hb=>.inr (old b hb)⟩,?_⟩
 refine⟨fun b hb=>Nat.lt_of_lt_of_le (E.fb b hb) hG.size,fun j hj=>?_,fun j oj hj hlj=>?_,fun j k oj ok hj hk b e1 e2 l1 l2 r1 r2 b1 b2=>?_⟩
 ·by_cases e:j=i
  ·subst e;rw[updF_same] at hj;cases hj
  ·rw[updF_ne _ _ e] at hj;exact E.abs j hj
 ·by_cases e:j=i
  ·subst e;rw[updF_same] at hj;injection hj with hj;subst hj
   exact⟨h,hρ,hr,fun b hb=>⟨Nat.lt_of_lt_of_le (hnF b hb).1 hG.size,(hnF b hb).2⟩⟩
  ·rw[updF_ne _ _ e] at hj
   obtain⟨hh,e1,e2,e3⟩:=E.rep j oj hj hlj
   refine⟨hh,e1,e2.mono hG.size (fun b hb hlt=>hG.block b hlt fun e'=>e (E.inj j i oj o hh h b hj hi hlj hl e1 hρ hb e'.symm)) hm (fun _ h=>h) (Keep.refl ρ),fun b hb=>⟨Nat.lt_of_lt_of_le (e3 b hb).1 hG.size,(e3 b hb).2⟩⟩
 ·have f:∀ (j:Nat) (oj:AObj),updF H i (some o') j=some oj→oj.live=true→∃ o2,H j=some o2∧o2.live=true:=by
   intro j oj hj hlj
   by_cases e:j=i
   ·subst e;exact⟨o,hi,hl⟩
   ·rw[updF_ne _ _ e] at hj;exact⟨oj,hj,hlj⟩
  obtain⟨o2,g1,g2⟩:=f j oj e1 l1
  obtain⟨o3,g3,g4⟩:=f k ok e2 l2
  exact E.inj j k o2 o3 hj hk b g1 g3 g2 g4 r1 r2 b1 b2
theorem Env.new (E:Env F ρ H w) {n:Nat} {o':AObj} {h:Value} (hn:H n=none) (hG:w.grownBy w' none) (hb:∀ b,blkOf h=some b→w.heap.size≤b∧b<w'.heap.size) (hr:ORep w' F (updF ρ n (some h)) h o') :
  Step F ρ H w F (updF ρ n (some h)) (updF H n (some o')) w'∧Keep ρ (updF ρ n (some h))∧Env F (updF ρ n (some h)) (updF H n (some o')) w':=by
 have hkp:=keep_upd (x:=h) (E.abs n hn)
 have hm:∀ b,F b→w'.heap[b]?=w.heap[b]?:=fun b hb=>hG.block b (E.fb b hb) (by simp)
 refine⟨⟨hG.os,hG.tape,hG.output,hG.size,fun b hb _=>hG.block b hb (by simp),fun _ h=>h,fun _ h=>.inl h,fun b hlv=>?_⟩,hkp,?_⟩
 ·obtain⟨j,oj,hj,e1,e2,e3,e4⟩:=hlv
  by_cases e:j=n
  ·subst e;rw[updF_same] at e3;injection e3 with e3;subst e3;exact .inl (hb b e4).1
  ·rw[updF_ne _ _ e] at e1 e3;exact .inr ⟨j,oj,hj,e1,e2,e3,e4⟩
 ·refine⟨fun b hb=>Nat.lt_of_lt_of_le (E.fb b hb) hG.size,fun j hj=>?_,fun j oj hj hlj=>?_,fun j k oj ok hj hk b e1 e2 l1 l2 r1 r2 b1 b2=>?_⟩
  ·by_cases e:j=n
   ·subst e;rw[updF_same] at hj;cases hj
   ·rw[updF_ne _ _ e] at hj ⊢;exact E.abs j hj
  ·by_cases e:j=n
   ·subst e;rw[updF_same] at hj;injection hj with hj;subst hj
    exact⟨h,updF_same _ _ _,hr,fun b hbb=>⟨(hb b hbb).2,fun hF=>by have:=E.fb b hF;have:=(hb b hbb).1;omega⟩⟩
   ·rw[updF_ne _ _ e] at hj
    obtain⟨hh,e1,e2,e3⟩:=E.rep j oj hj hlj
    exact⟨hh,by rw[updF_ne _ _ e];exact e1,e2.mono hG.size (fun b _ hlt=>hG.block b hlt (by simp)) hm (fun _ h=>h) hkp,fun b hb=>⟨Nat.lt_of_lt_of_le (e3 b hb).1 hG.size,(e3 b hb).2⟩⟩
  ·have old:∀ (j:Nat) (oj:AObj) (hj:Value) (b:Nat),j≠n→updF H n (some o') j=some oj→oj.live=true→updF ρ n (some h) j=some hj→blkOf hj=some b→H j=some oj∧ρ j=some hj∧b<w.heap.size:=by
    intro j oj hj b e e1 l1 r1 b1
    rw[updF_ne _ _ e] at e1 r1
    obtain⟨hh,q1,_,q3⟩:=E.rep j oj e1 l1
    rw[r1] at q1;injection q1 with q1;subst q1
    exact⟨e1,r1,(q3 b b1).1⟩
   by_cases ej:j=n<;>by_cases ek:k=n
   ·rw[ej,ek]
   ·subst ej
    rw[updF_same] at r1;injection r1 with r1;subst r1
    have:=(old k ok hk b ek e2 l2 r2 b2).2.2
    have:=(hb b b1).1
    omega
   ·subst ek
    rw[updF_same] at r2;injection r2 with r2;subst r2
    have:=(old j oj hj b ej e1 l1 r1 b1).2.2
    have:=(hb b b2).1
    omega
   ·obtain⟨q1,q2,_⟩:=old j oj hj b ej e1 l1 r1 b1
    obtain⟨q3,q4,_⟩:=old k ok hk b ek e2 l2 r2 b2
    exact E.inj j k oj ok hj hk b q1 q3 l1 l2 q2 q4 b1 b2
theorem Env.swap (E:Env F ρ H w) {i n:Nat} {o o':AObj} {h h':Value} (hi:H i=some o) (hl:o.live=true) (hρ:ρ i=some h) (hn:H n=none) (hG:w.grownBy w' (blkOf h))
  (hb:∀ b,blkOf h'=some b→(w.heap.size≤b∧b<w'.heap.size)∨blkOf h=some b) (hr:ORep w' F (updF ρ n (some h')) h' o') :
  Step F ρ H w F (updF ρ n (some h')) (updF (updF H i (some .dead)) n (some o')) w'∧Keep ρ (updF ρ n (some h'))∧Env F (updF ρ n (some h')) (updF (updF H i (some .dead)) n (some o')) w':=by
 have hkp:=keep_upd (x:=h') (E.abs n hn)
 have hin:i≠n:=fun e=>by subst e;rw[hi] at hn;cases hn
 have hnF:∀ b,blkOf h=some b→b<w.heap.size∧¬F b:=by
  obtain⟨h0,e0,_,hk⟩:=E.rep i o hi hl
  rw[hρ] at e0;injection e0 with e0;subst e0
  exact hk
 have hm:∀ b,F b→w'.heap[b]?=w.heap[b]?:=fun b hb=>hG.block b (E.fb b hb) fun e=>(hnF b e.symm).2 hb
 have f:∀ (j:Nat) (oj:AObj) (hj:Value),j≠n→updF (updF H i (some .dead)) n (some o') j=some oj→oj.live=true→updF ρ n (some h') j=some hj→j≠i∧H j=some oj∧ρ j=some hj:=by
  intro j oj hj e hj2 hlj hr
  rw[updF_ne _ _ e] at hj2 hr
  by_cases e':j=i
  ·subst e';rw[updF_same] at hj2;injection hj2 with hj2;subst hj2;cases hlj
  ·rw[updF_ne _ _ e'] at hj2;exact⟨e',hj2,hr⟩
 refine⟨⟨hG.os,hG.tape,hG.output,hG.size,fun b hb hn=>hG.block b hb fun e=>hn ⟨i,o,h,hi,hl,hρ,e.symm⟩,fun _ h=>h,fun _ h=>.inl h,fun b hlv=>?_⟩,hkp,?_⟩
 ·obtain⟨j,oj,hj,e1,e2,e3,e4⟩:=hlv
  by_cases e:j=n
  ·subst e;rw[updF_same] at e3;injection e3 with e3;subst e3
   exact (hb b e4).elim (fun h=>.inl h.1) fun h=>.inr ⟨i,o,_,hi,hl,hρ,h⟩
  ·obtain⟨_,q1,q2⟩:=f j oj hj e e1 e2 e3
   exact .inr ⟨j,oj,hj,q1,e2,q2,e4⟩
 ·refine⟨fun b hb=>Nat.lt_of_lt_of_le (E.fb b hb) hG.size,fun j hj=>?_,fun j oj hj hlj=>?_,fun j k oj ok hj hk b e1 e2 l1 l2 r1 r2 b1 b2=>?_⟩
  ·by_cases e:j=n
   ·subst e;rw[updF_same] at hj;cases hj
   ·rw[updF_ne _ _ e] at hj ⊢
    by_cases e':j=i
    ·subst e';rw[updF_same] at hj;cases hj
    ·rw[updF_ne _ _ e'] at hj;exact E.abs j hj
  ·by_cases e:j=n
   ·subst e;rw[updF_same] at hj;injection hj with hj;subst hj
    refine⟨h',updF_same _ _ _,hr,fun b hbb=>?_⟩
    rcases hb b hbb with q|q
    ·exact⟨q.2,fun hF=>by have:=E.fb b hF;omega⟩
    ·exact⟨Nat.lt_of_lt_of_le (hnF b q).1 hG.size,(hnF b q).2⟩
   ·have hj0:=hj
    rw[updF_ne _ _ e] at hj
    by_cases e':j=i
    ·subst e';rw[updF_same] at hj;injection hj with hj;subst hj;cases hlj
    ·rw[updF_ne _ _ e'] at hj
     obtain⟨hh,e1,e2,e3⟩:=E.rep j oj hj hlj
     exact⟨hh,by rw[updF_ne _ _ e];exact e1,e2.mono hG.size (fun b hb hlt=>hG.block b hlt fun q=>e' (E.inj j i oj o hh h b hj hi hlj hl e1 hρ hb q.symm)) hm (fun _ h=>h) hkp,fun b hb=>⟨Nat.lt_of_lt_of_le (e3 b hb).1 hG.size,(e3 b hb).2⟩⟩
  ·have old:∀ (j:Nat) (oj:AObj) (hj:Value) (b:Nat),j≠n→updF (updF H i (some .dead)) n (some o') j=some oj→oj.live=true→updF ρ n (some h') j=some hj→blkOf hj=some b→blkOf h'=some b→False:=by
    intro j oj hj b e q1 q2 q3 q4 q5
    obtain⟨g1,g2,g3⟩:=f j oj hj e q1 q2 q3
    rcases hb b q5 with q|q
    ·obtain⟨hh,p1,_,p3⟩:=E.rep j oj g2 q2
     rw[g3] at p1;injection p1 with p1;subst p1
     have:=(p3 b q4).1
     omega
    ·exact g1 (E.inj j i oj o hj h b g2 hi q2 hl g3 hρ q4 q)
   by_cases ej:j=n<;>by_cases ek:k=n
   ·rw[ej,ek]
   ·subst ej;rw[updF_same] at r1;injection r1 with r1;subst r1
    exact (old k ok hk b ek e2 l2 r2 b2 b1).elim
   ·subst ek;rw[updF_same] at r2;injection r2 with r2;subst r2
    exact (old j oj hj b ej e1 l1 r1 b1 b2).elim
   ·obtain⟨_,q1,q2⟩:=f j oj hj ej e1 l1 r1
    obtain⟨_,q3,q4⟩:=f k ok hk ek e2 l2 r2
    exact E.inj j k oj ok hj hk b q1 q3 l1 l2 q2 q4 b1 b2
theorem Env.freeze (E:Env F ρ H w) {i:Nat} {o:AObj} {h:Value} (hi:H i=some o) (hl:o.live=true) (hρ:ρ i=some h) :
  Step F ρ H w (fun b=>F b∨blkOf h=some b) ρ (updF H i (some .dead)) w∧Env (fun b=>F b∨blkOf h=some b) ρ (updF H i (some .dead)) w:=by
 have f:∀ (j:Nat) (oj:AObj),updF H i (some .dead) j=some oj→oj.live=true→j≠i∧H j=some oj:=by
  intro j oj hj hlj
  by_cases e:j=i
  ·subst e;rw[updF_same] at hj;injection hj with hj;subst hj;cases hlj
  ·rw[updF_ne _ _ e] at hj;exact⟨e,hj⟩
 have hnF:∀ b,blkOf h=some b→b<w.heap.size∧¬F b:=by
  obtain⟨h0,e0,_,hk⟩:=E.rep i o hi hl
  rw[hρ] at e0;injection e0 with e0;subst e0
  exact hk
 refine⟨⟨rfl,rfl,rfl,Nat.le_refl _,fun _ _ _=>rfl,fun _ h=>.inl h,fun b hb=>hb.elim .inl fun e=>.inr (.inr ⟨i,o,h,hi,hl,hρ,e⟩),fun b ⟨j,oj,hj,e1,e2,e3,e4⟩=>.inr ⟨j,oj,hj,(f j oj e1 e2).2,e2,e3,e4⟩⟩,fun b hb=>hb.elim (E.fb b) fun e=>(hnF b e).1,fun j hj=>?_,fun j oj hj hlj=>?_,fun j k oj ok hj hk b e1 e2 l1 l2=>E.inj j k oj ok hj hk b (f j oj e1 l1).2 (f k ok e2 l2).2 l1 l2⟩
 ·by_cases e:j=i
  ·subst e;rw[updF_same] at hj;cases hj
  ·rw[updF_ne _ _ e] at hj;exact E.abs j hj
 ·obtain⟨e,q⟩:=f j oj hj hlj
  obtain⟨hh,e1,e2,e3⟩:=E.rep j oj q hlj
  refine⟨hh,e1,e2.mono (Nat.le_refl _) (fun _ _ _=>rfl) (fun _ _=>rfl) (fun _ h=>.inl h) (Keep.refl ρ),fun b hb=>⟨(e3 b hb).1,fun q2=>q2.elim (e3 b hb).2 fun q3=>e (E.inj j i oj o hh h b q hi hlj hl e1 hρ hb q3)⟩⟩
theorem Env.drew (E:Env F ρ H w):Env F ρ H w.drew:=
 ⟨E.fb,E.abs,fun i o hi hl=>by
  obtain⟨h,e1,e2,e3⟩:=E.rep i o hi hl
  exact⟨h,e1,e2.mono (w':=w.drew) (Nat.le_refl _) (fun _ _ _=>rfl) (fun _ _=>rfl) (fun _ h=>h) (Keep.refl ρ),e3⟩,E.inj⟩
theorem Step.drew (F:Nat→Prop) (ρ:Nat→Option Value) (H:Hp) (w:World):Step F ρ H w F ρ H w.drew:=
 ⟨rfl,rfl,rfl,Nat.le_refl _,fun _ _ _=>rfl,fun _ h=>h,fun _ h=>.inl h,fun _ h=>.inr h⟩
end
inductive TKind where
 |non|one|st|arr|sli
structure TI where
 kind:TKind
 size:Nat
 zero:List Value
 fields:List (Nat × Nat)
 elem:Nat
 esize:Nat
 len:Nat
 ebytes:Nat
 tag:Nat
def tagOf:TypeDesc→Nat
 | .bool=>1
 | .int k=>match k with | .i8=>20 | .i16=>21 | .i32=>22 | .i64=>23 | .u8=>24 | .u16=>25 | .u32=>26 | .u64=>27
 | .string=>3
 | .pointer _=>4
 | .func ..=>5
 | .map ..=>6
 | .interface _=>7
 |_=>0
def tiOf (P:Program) (t:TypeId):TI:=
 match P.info? t,P.underlying t with
 |some i,some d=>
  match i.zero with
  |some z=>
   if z.cells.toList.all (·.oneCell') && z.cells.size == i.size then
    match d with
    | .struct fs=>⟨.st,i.size,z.cells.toList,fs.toList.map fun f=>(f.offset,f.type),0,0,0,0,0⟩
    | .array n e=>⟨.arr,i.size,z.cells.toList,[],e,P.cellsOf e,n,P.bytesOf e,0⟩
    | .slice e=>⟨.sli,i.size,z.cells.toList,[],e,P.cellsOf e,0,P.bytesOf e,0⟩
    |d=>⟨.one,i.size,z.cells.toList,[],0,0,0,0,tagOf d⟩
   else ⟨.non,0,[],[],0,0,0,0,0⟩
  |none=>⟨.non,0,[],[],0,0,0,0,0⟩
 |_,_=>⟨.non,0,[],[],0,0,0,0,0⟩
structure TIs (P:Program) (t:TypeId) (i:TypeInfo) (d:TypeDesc) (z:Value):Prop where
 info:P.info? t=some i
 und:P.underlying t=some d
 zero:i.zero=some z
 size:z.cells.size=i.size
 ones:∀ v∈z.cells.toList,v.oneCell'=true
theorem tiOf_known {P:Program} {t:TypeId} (h:(tiOf P t).kind≠.non):∃ i d z,TIs P t i d z∧tiOf P t=(match d with
    | .struct fs=>⟨.st,i.size,z.cells.toList,fs.toList.map fun f=>(f.offset,f.type),0,0,0,0,0⟩
    | .array n e=>⟨.arr,i.size,z.cells.toList,[],e,P.cellsOf e,n,P.bytesOf e,0⟩
    | .slice e=>⟨.sli,i.size,z.cells.toList,[],e,P.cellsOf e,0,P.bytesOf e,0⟩
    |d=>⟨.one,i.size,z.cells.toList,[],0,0,0,0,tagOf d⟩):=by
 unfold tiOf at h ⊢
 cases hi:P.info? t with
 |none=>simp[hi] at h
 |some i=>
  cases hd:P.underlying t with
  |none=>simp[hi,hd] at h
  |some d=>
   cases hz:i.zero with
   |none=>simp[hi,hd,hz] at h
   |some z=>
    cases hc:(z.cells.toList.all (·.oneCell') && z.cells.size == i.size) with
    |true=>
     have hc':=hc
     simp only[Bool.and_eq_true,List.all_eq_true,beq_iff_eq] at hc
     exact⟨i,d,z,⟨hi,hd,hz,hc.2,hc.1⟩,by simp only[hz,hc',if_true]⟩
    |false=>
     simp only[hi,hd,hz,hc] at h
     exact absurd rfl h
def fAV (x:AV) (k:AV→Prop):Prop:=
 match x with
 | .d y=>(match y with | .v u=>k (.d (.v u)) | .agg ds=>k (.d (.agg ds)) | .sl s r=>k (.d (.sl s r)))
 | .ptr i o=>k (.ptr i o)
 | .own i=>k (.own i)
 | .ep i s a f=>k (.ep i s a f)
 | .fp xs=>k (.fp xs)
 | .agg xs=>k (.agg xs)
 | .tup xs=>k (.tup xs)
 | .fn f a b=>k (.fn f a b)
 | .mp i=>k (.mp i)
 | .rel i p=>k (.rel i p)
 | .any=>k .any
theorem fAV_iff {x:AV} {k:AV→Prop}:fAV x k↔k x:=by
 cases x<;>try rfl
 rename_i y
 cases y<;>rfl
def fD (x:D) (k:D→Prop):Prop:=
 match x with | .v u=>k (.v u) | .agg ds=>k (.agg ds) | .sl s r=>k (.sl s r)
theorem fD_iff {x:D} {k:D→Prop}:fD x k↔k x:=by cases x<;>rfl
def getK:List AV→Nat→(AV→Prop)→Prop
 |[],_,_=>False
 |x::_,0,k=>fAV x k
 |_::r,n+1,k=>getK r n k
theorem getK_out {k:AV→Prop}:∀ {xs:List AV} {n:Nat},getK xs n k→∃ x,xs[n]?=some x∧k x
 |[],_,h=>h.elim
 |x::_,0,h=>⟨x,rfl,fAV_iff.1 h⟩
 |_::r,n+1,h=>by simpa using getK_out (xs:=r) (n:=n) h
def getDK:List D→Nat→(D→Prop)→Prop
 |[],_,_=>False
 |x::_,0,k=>fD x k
 |_::r,n+1,k=>getDK r n k
theorem getDK_out {k:D→Prop}:∀ {xs:List D} {n:Nat},getDK xs n k→∃ x,xs[n]?=some x∧k x
 |[],_,h=>h.elim
 |x::_,0,h=>⟨x,rfl,fD_iff.1 h⟩
 |_::r,n+1,h=>by simpa using getDK_out (xs:=r) (n:=n) h
def dropK {α:Type}:List α→Nat→(List α→Prop)→Prop
 |xs,0,k=>k xs
 |[],_+1,_=>False
 |_::r,n+1,k=>dropK r n k
theorem dropK_out {α:Type} {k:List α→Prop}:∀ {xs:List α} {n:Nat},dropK xs n k→n≤xs.length∧k (xs.drop n)
 |xs,0,h=>⟨Nat.zero_le _,by cases xs<;>exact h⟩
 |[],_+1,h=>h.elim
 |_::r,n+1,h=>by have:=dropK_out (xs:=r) (n:=n) h;exact⟨by simp;exact this.1,by simpa using this.2⟩
def takeK {α:Type}:List α→Nat→(List α→Prop)→Prop
 |_,0,k=>k []
 |[],_+1,_=>False
 |x::r,n+1,k=>takeK r n fun l=>k (x::l)
theorem takeK_out {α:Type}:∀ {xs:List α} {n:Nat} {k:List α→Prop},takeK xs n k→n≤xs.length∧k (xs.take n)
 |xs,0,k,h=>⟨Nat.zero_le _,by simpa [takeK] using h⟩
 |[],_+1,_,h=>h.elim
 |x::r,n+1,k,h=>by have:=takeK_out (xs:=r) (n:=n) h;exact⟨by simp;exact this.1,by simpa using this.2⟩
def setK {α:Type}:List α→Nat→α→(List α→Prop)→Prop
 |[],_,_,_=>False
 |_::r,0,v,k=>k (v::r)
 |x::r,n+1,v,k=>setK r n v fun l=>k (x::l)
theorem setK_out {α:Type} {v:α}:∀ {xs:List α} {n:Nat} {k:List α→Prop},setK xs n v k→n<xs.length∧k (xs.set n v)
 |[],_,_,h=>h.elim
 |x::r,0,k,h=>⟨by simp,by simpa [setK] using h⟩
 |x::r,n+1,k,h=>by have:=setK_out (xs:=r) (n:=n) h;exact⟨by simp;exact this.1,by simpa using this.2⟩
def sets {α:Type}:List α→Nat→List α→List α
 |xs,_,[]=>xs
 |xs,n,v::vs=>sets (xs.set n v) (n+1) vs
def setsK {α:Type}:List α→Nat→List α→(List α→Prop)→Prop
 |xs,_,[],k=>k xs
 |xs,n,v::vs,k=>setK xs n v fun l=>setsK l (n+1) vs k
theorem setsK_out {α:Type} {k:List α→Prop}:∀ {vs xs:List α} {n:Nat},setsK xs n vs k→n+vs.length≤xs.length∨vs=[]∧k xs
 |[],xs,n,h=>.inr ⟨rfl,h⟩
 |v::vs,xs,n,h=>by
  obtain⟨h1,h2⟩:=setK_out h
  rcases setsK_out h2 with h3|⟨h3,_⟩
  ·left;simp at h3 ⊢;omega
  ·subst h3;left;simp;omega
theorem setsK_val {α:Type} {k:List α→Prop}:∀ {vs xs:List α} {n:Nat},setsK xs n vs k→k (sets xs n vs)
 |[],xs,n,h=>h
 |v::vs,xs,n,h=>setsK_val (xs:=xs.set n v) (n:=n+1) (vs:=vs) (setK_out h).2
theorem length_sets {α:Type}:∀ (vs xs:List α) (n:Nat),(sets xs n vs).length=xs.length
 |[],xs,n=>rfl
 |v::vs,xs,n=>by rw[sets,length_sets];simp
def allDK:List AV→(List D→Prop)→Prop→Prop
 |[],k,_=>k []
 | .d x::r,k,q=>allDK r (fun l=>k (x::l)) q
 |_::_,_,q=>q
theorem allDK_out {q:Prop}:∀ {xs:List AV} {k:List D→Prop},allDK xs k q→(∃ ds,xs=ds.map .d∧k ds)∨q
 |[],k,h=>.inl ⟨[],rfl,h⟩
 | .d x::r,k,h=>(allDK_out (xs:=r) h).elim (fun⟨ds,e,hk⟩=>.inl ⟨x::ds,by rw[e];rfl,hk⟩) .inr
 | .ptr ..::_,_,h=>.inr h
 | .own ..::_,_,h=>.inr h
 | .ep ..::_,_,h=>.inr h
 | .fp ..::_,_,h=>.inr h
 | .agg ..::_,_,h=>.inr h
 | .tup ..::_,_,h=>.inr h
 | .fn ..::_,_,h=>.inr h
 | .mp ..::_,_,h=>.inr h
 | .rel ..::_,_,h=>.inr h
 | .any::_,_,h=>.inr h
def mkAggK (xs:List AV) (k:AV→Prop):Prop:=allDK xs (fun ds=>k (.d (.agg ds))) (k (.agg xs))
theorem mkAggK_out {xs:List AV} {k:AV→Prop} (h:mkAggK xs k):∃ r,k r∧∀ w F ρ vs,RAs w F ρ xs vs→(∀ v∈vs,v.oneCell'=true)→RA w F ρ r (.agg vs.toArray):=by
 rcases allDK_out h with⟨ds,rfl,hk⟩|hk
 ·exact⟨_,hk,fun w F ρ vs hr h1=>.d (.agg (hr.toD h1))⟩
 ·exact⟨_,hk,fun w F ρ vs hr h1=>.agg hr h1⟩
structure Eff where
 rs:List Nat
 ws:List (Nat × AObj)
 news:List AObj
def appW:List (Nat × AObj)→Hp→Hp
 |[],H=>H
 |(i,o)::r,H=>appW r (updF H i (some o))
def appN:Nat→List AObj→Hp→Hp
 |_,[],H=>H
 |n,o::r,H=>appN (n+1) r (updF H n (some o))
def Post (F:Nat→Prop) (ρ:Nat→Option Value) (H:Hp) (w:World) (H':Hp) (r:AV) (v:Value) (w':World):Prop:=
 ∃ F' ρ',Step F ρ H w F' ρ' H' w'∧Keep ρ ρ'∧Env F' ρ' H' w'∧RA w' F' ρ' r v
def Runs (P:Program) (s:Result Next) (post:Value→World→Prop):Prop:=
 match s with
 | .ok (.value v) w'=>post v w'
 | .ok .skip w'=>post undef w'
 | .ok (.enter f args) w'=>Calls P f args w' fun e w''=>∃ v,e=.returned v∧post v w''
 |_=>False
def Does (P:Program) (op:Op) (ty:TypeId) (L:List AObj) (n:Nat) (xs:List AV) (e:Eff) (r:AV):Prop:=
 ∀ (o:Oper) (H:Hp) (F:Nat→Prop) (ρ:Nat→Option Value) (w:World) (ev:Operand→Value),o.op=op→o.type=ty→Env F ρ H w→(∀ i∈e.rs,H i=L[i]?)→(∀ k,k<e.news.length→H (n+k)=none) →
  RAs w F ρ xs (op.operands.toList.map ev)→Runs P ((execOp ev o).run P w) (Post F ρ H w (appN n e.news (appW e.ws H)) r)
theorem Post.same {F:Nat→Prop} {ρ:Nat→Option Value} {H:Hp} {w:World} {r:AV} {v:Value} (E:Env F ρ H w) (h:RA w F ρ r v):Post F ρ H w H r v w:=⟨F,ρ,Step.refl _ _ _ _,Keep.refl _,E,h⟩
section
variable {P:Program} {w w':World} {F F':Nat→Prop} {ρ ρ':Nat→Option Value} {H:Hp} {L:List AObj} {ty:TypeId} {n:Nat}
abbrev e0:Eff:=⟨[],[],[]⟩
theorem RA.v_out {u v:Value} (h:RA w F ρ (.d (.v u)) v):v=u:=by cases h with|d h=>cases h;rfl
theorem RAs.one_out {x:AV} {vs:List Value} (h:RAs w F ρ [x] vs):∃ v,vs=[v]∧RA w F ρ x v:=by
 cases h with|cons h hr=>cases hr;exact⟨_,rfl,h⟩
theorem RAs.two_out {x y:AV} {vs:List Value} (h:RAs w F ρ [x,y] vs):∃ v u,vs=[v,u]∧RA w F ρ x v∧RA w F ρ y u:=by
 cases h with|cons h hr=>cases hr with|cons h' hr=>cases hr;exact⟨_,_,rfl,h,h'⟩
theorem RAs.three_out {x y z:AV} {vs:List Value} (h:RAs w F ρ [x,y,z] vs):∃ v u t,vs=[v,u,t]∧RA w F ρ x v∧RA w F ρ y u∧RA w F ρ z t:=by
 cases h with|cons h hr=>cases hr with|cons h' hr=>cases hr with|cons h'' hr=>cases hr;exact⟨_,_,_,rfl,h,h',h''⟩
theorem does_val {op:Op} {xs:List AV} {r:AV} (h:∀ (o:Oper) (w:World) (F:Nat→Prop) (ρ:Nat→Option Value) (ev:Operand→Value),o.op=op→o.type=ty→RAs w F ρ xs (op.operands.toList.map ev)→∃ v,(execOp ev o).run P w=.ok (.value v) w∧RA w F ρ r v) :
  Does P op ty L n xs e0 r:=by
 intro o H F ρ w ev ho ht E _ _ hx
 obtain⟨v,hr,hv⟩:=h o w F ρ ev ho ht hx
 rw[hr]
 exact Post.same E hv
theorem does_lit1 {op:Op} {x:Operand} {u r:Value} (hop:op.operands=#[x]) (h:∀ (o:Oper) (w:World) (ev:Operand→Value),o.op=op→ev x=u→(execOp ev o).run P w=.ok (.value r) w):Does P op ty L n [.d (.v u)] e0 (.d (.v r)):=
 does_val fun o w F ρ ev ho _ hx=>by
  rw[hop] at hx
  obtain⟨v,e,hv⟩:=hx.one_out
  have:=hv.v_out
  subst this
  simp at e
  exact⟨r,h o w ev ho e,.d (.v r)⟩
theorem does_lit2 {op:Op} {x y:Operand} {u v r:Value} (hop:op.operands=#[x,y]) (h:∀ (o:Oper) (w:World) (ev:Operand→Value),o.op=op→ev x=u→ev y=v→(execOp ev o).run P w=.ok (.value r) w):Does P op ty L n [.d (.v u),.d (.v v)] e0 (.d (.v r)):=
 does_val fun o w F ρ ev ho _ hx=>by
  rw[hop] at hx
  obtain⟨v1,v2,e,h1,h2⟩:=hx.two_out
  have:=h1.v_out
  have:=h2.v_out
  subst v1 v2
  simp at e
  exact⟨r,h o w ev ho e.1 e.2,.d (.v r)⟩
theorem does_move (x:Operand) (r:AV):Does P (.move x) ty L n [r] e0 r:=does_val fun o w F ρ ev ho _ hx=>by
 obtain⟨v,e,hv⟩:=hx.one_out
 simp[Op.operands] at e
 exact⟨v,by simp[execOp,ho,e],hv⟩
theorem does_assign (x:Operand) (r:AV):Does P (.assign x) ty L n [r] e0 r:=does_val fun o w F ρ ev ho _ hx=>by
 obtain⟨v,e,hv⟩:=hx.one_out
 simp[Op.operands] at e
 exact⟨v,by simp[execOp,ho,e],hv⟩
def kEq:IntKind→IntKind→Bool
 | .i8,.i8 | .i16,.i16 | .i32,.i32 | .i64,.i64 | .u8,.u8 | .u16,.u16 | .u32,.u32 | .u64,.u64=>true
 |_,_=>false
theorem kEq_out {a b:IntKind} (h:kEq a b=true):a=b:=by cases a<;>cases b<;>first|rfl|cases h
def binI (b:BinOp) (k:IntKind) (x y:Int) (K:AV→Prop) (Q:Prop):Prop:=
 match b with
 | .add=>K (.d (.v (.int k (k.wrap (x+y)))))
 | .sub=>K (.d (.v (.int k (k.wrap (x-y)))))
 | .mul=>K (.d (.v (.int k (k.wrap (x*y)))))
 | .quo=>y≠0∧K (.d (.v (.int k (k.wrap (x.tdiv y)))))
 | .rem=>y≠0∧K (.d (.v (.int k (x.tmod y))))
 | .and=>K (.d (.v (.int k (k.wrap (BitVec.ofInt k.bits x &&& BitVec.ofInt k.bits y).toNat))))
 | .or=>K (.d (.v (.int k (k.wrap (BitVec.ofInt k.bits x ||| BitVec.ofInt k.bits y).toNat))))
 | .xor=>K (.d (.v (.int k (k.wrap (BitVec.ofInt k.bits x ^^^ BitVec.ofInt k.bits y).toNat))))
 | .eql=>K (.d (.v (.bool (x == y))))
 | .neq=>K (.d (.v (.bool (x != y))))
 | .lss=>K (.d (.v (.bool (decide (x<y)))))
 | .leq=>K (.d (.v (.bool (decide (x≤y)))))
 | .gtr=>K (.d (.v (.bool (decide (x>y)))))
 | .geq=>K (.d (.v (.bool (decide (x≥y)))))
 |_=>Q
def binK (b:BinOp) (x y:AV) (K:AV→Prop) (Q:Prop):Prop:=
 match x,y with
 | .d (.v (.int k a)),.d (.v (.int k' c))=>
  match b with
  | .shl=>0≤c∧K (.d (.v (.int k (k.wrap (a*2 ^ (min c.toNat k.bits))))))
  | .shr=>0≤c∧K (.d (.v (.int k (a.fdiv (2 ^ (min c.toNat k.bits))))))
  |b=>match kEq k k' with
   |true=>binI b k a c K Q
   |false=>Q
 | .d (.v (.bool a)),.d (.v (.bool c))=>Q
 |_,_=>Q
theorem binI_out {b:BinOp} {k:IntKind} {a c:Int} {x y:Operand} {t t':TypeId} {K:AV→Prop} {Q:Prop} (h:binI b k a c K Q):(∃ r,K r∧Does P (.binOp b t x y t') ty L n [.d (.v (.int k a)),.d (.v (.int k c))] e0 r)∨Q:=by
 unfold binI at h
 split at h
 case h_15=>exact .inr h
 all_goals
  left
  first
  |exact⟨_,h,does_lit2 rfl fun o w ev ho h1 h2=>by simp[execOp,ho,h1,h2,eqGuard,binOp,Op.intArith,Op.intCmp,Op.intBits,Op.intDiv]⟩
  |exact⟨_,h.2,does_lit2 rfl fun o w ev ho h1 h2=>by simp[execOp,ho,h1,h2,eqGuard,binOp,Op.intArith,Op.intCmp,Op.intBits,Op.intDiv,h.1]⟩
theorem binK_out {b:BinOp} {u v:AV} {x y:Operand} {t t':TypeId} {K:AV→Prop} {Q:Prop} (h:binK b u v K Q):(∃ r,K r∧Does P (.binOp b t x y t') ty L n [u,v] e0 r)∨Q:=by
 unfold binK at h
 split at h
 ·rename_i k a k' c
  split at h
  ·exact .inl ⟨_,h.2,does_lit2 rfl fun o w ev ho h1 h2=>by simp[execOp,ho,h1,h2,eqGuard,binOp,Op.shift,show ¬c<0 from by have:=h.1;omega]⟩
  ·exact .inl ⟨_,h.2,does_lit2 rfl fun o w ev ho h1 h2=>by simp[execOp,ho,h1,h2,eqGuard,binOp,Op.shift,show ¬c<0 from by have:=h.1;omega]⟩
  ·split at h
   ·rename_i hk
    have:=kEq_out hk
    subst this
    exact binI_out h
   ·exact .inr h
 ·exact .inr h
 ·exact .inr h
def unK (u:UnOp) (x:AV) (K:AV→Prop) (Q:Prop):Prop:=
 match u,x with
 | .not,.d (.v (.bool b))=>K (.d (.v (.bool !b)))
 | .neg,.d (.v (.int k a))=>K (.d (.v (.int k (k.wrap (0-a)))))
 | .xor,.d (.v (.int k a))=>K (.d (.v (.int k (k.wrap (BitVec.ofInt k.bits (if k.signed then -1 else k.max) ^^^ BitVec.ofInt k.bits a).toNat))))
 |_,_=>Q
theorem unK_out {b:UnOp} {u:AV} {x:Operand} {t:TypeId} {K:AV→Prop} {Q:Prop} (h:unK b u K Q):(∃ r,K r∧Does P (.unOp b t x) ty L n [u] e0 r)∨Q:=by
 unfold unK at h
 split at h
 ·exact .inl ⟨_,h,does_lit1 rfl fun o w ev ho h1=>by simp[execOp,ho,h1,Op.unary]⟩
 ·exact .inl ⟨_,h,does_lit1 rfl fun o w ev ho h1=>by simp[execOp,ho,h1,Op.unary,Op.intArith]⟩
 ·exact .inl ⟨_,h,does_lit1 rfl fun o w ev ho h1=>by simp[execOp,ho,h1,Op.unary,Op.intBits]⟩
 ·exact .inr h
end
section
variable {P:Program} {w w':World} {F F':Nat→Prop} {ρ ρ':Nat→Option Value} {H:Hp} {L:List AObj} {ty:TypeId} {n:Nat}
def CRep (w:World) (F:Nat→Prop) (ρ:Nat→Option Value) (o:AObj) (vs:List Value):Prop:=
 match o with
 | .cells cs=>RAs w F ρ cs vs∧∀ v∈vs,v.oneCell'=true
 | .row xs=>RDs w F xs vs
 |_=>False
theorem grown_alloc (w:World) (o:Obj) (row:Option Nat):w.grownBy (w.alloc o) row:=World.grownBy_alloc w o row
theorem CRep.put {o:AObj} {vs:Array Value} {t:TypeId} (E:Env F ρ H w) (hn:H n=none) (h:CRep w F ρ o vs.toList) :
  Post F ρ H w (updF H n (some o)) (.ptr n 0) (.pointer (some ⟨w.heap.size,0,none⟩)) (w.alloc (.cells vs t)):=by
 have hk:=keep_upd (x:=(.pointer (some ⟨w.heap.size,0,none⟩):Value)) (E.abs n hn)
 have hm:∀ b,F b→(w.alloc (.cells vs t)).heap[b]?=w.heap[b]?:=fun b hb=>Below.heap_alloc w _ b (E.fb b hb)
 have hr:ORep (w.alloc (.cells vs t)) F (updF ρ n (some (.pointer (some ⟨w.heap.size,0,none⟩)))) (.pointer (some ⟨w.heap.size,0,none⟩)) o:=by
  cases o with
  |cells cs=>exact⟨_,t,vs,rfl,Blk.new w t vs,h.1.mono hm (fun _ h=>h) hk,h.2⟩
  |row xs=>exact⟨_,t,vs,rfl,Blk.new w t vs,RDs.mono hm (fun _ h=>h) h⟩
  |dead=>exact h.elim
  |sl s r=>exact h.elim
  |obj p=>exact h.elim
  |iter x p=>exact h.elim
 obtain⟨s,k,e⟩:=E.new hn (grown_alloc w _ none) (h:=.pointer (some ⟨w.heap.size,0,none⟩)) (fun b hb=>by simp[blkOf] at hb;subst hb;simp) hr
 exact⟨F,_,s,k,e,.ptr (updF_same _ _ _)⟩
def oneV (u:Value) (p:Prop):Prop:=match u with | .agg _=>False | .tuple _=>False|_=>p
theorem oneV_out {u:Value} {p:Prop} (h:oneV u p):u.oneCell'=true∧u.cells=#[u]∧p:=by
 cases u<;>first|exact h.elim|exact⟨rfl,rfl,h⟩
def mapDK:List D→(List AV→Prop)→Prop
 |[],k=>k []
 |x::r,k=>mapDK r fun l=>k (.d x::l)
theorem mapDK_out:∀ {xs:List D} {k:List AV→Prop},mapDK xs k→k (xs.map .d)
 |[],_,h=>h
 |_::r,_,h=>mapDK_out (xs:=r) h
def lenK {α:Type}:List α→Nat→Prop→Prop
 |[],0,p=>p
 |_::r,n+1,p=>lenK r n p
 |_,_,_=>False
theorem lenK_out {α:Type} {p:Prop}:∀ {xs:List α} {n:Nat},lenK xs n p→xs.length=n∧p
 |[],0,h=>⟨rfl,h⟩
 |_::r,n+1,h=>by have:=lenK_out (xs:=r) (n:=n) h;exact⟨by simp[this.1],this.2⟩
 |[],_+1,h=>h.elim
 |_::_,0,h=>h.elim
structure OneP (p:Value→Value→Prop):Prop where
 one:∀ h v,p h v→v.cells=#[v]∧v.oneCell'=true
def partsK (size:Nat) (x:AV) (k:List AV→Prop):Prop:=
 match x with
 | .d (.v u)=>oneV u (k [.d (.v u)])
 | .d (.agg ds)=>takeK ds size fun l=>lenK ds size (mapDK l k)
 | .d (.sl s r)=>k [.d (.sl s r)]
 | .agg xs=>k xs
 | .ptr i o=>k [.ptr i o]
 | .own i=>k [.own i]
 | .ep i s a f=>k [.ep i s a f]
 | .fp xs=>k [.fp xs]
 | .fn f a b=>k [.fn f a b]
 | .mp i=>k [.mp i]
 | .tup _=>False
 | .rel i p=>OneP p∧k [.rel i p]
 | .any=>False
theorem partsK_out {size:Nat} {x:AV} {k:List AV→Prop} (h:partsK size x k):∃ l,k l∧∀ w F ρ v,RA w F ρ x v→RAs w F ρ l v.cells.toList∧∀ u∈v.cells.toList,u.oneCell'=true:=by
 have one:∀ {y:AV},k [y]→(∀ w F ρ v,RA w F ρ y v→v.cells=#[v]∧v.oneCell'=true)→∃ l,k l∧∀ w F ρ v,RA w F ρ y v→RAs w F ρ l v.cells.toList∧∀ u∈v.cells.toList,u.oneCell'=true:=
  fun {y} hk hv=>⟨_,hk,fun w F ρ v hr=>by
   obtain⟨e,e1⟩:=hv w F ρ v hr
   rw[e]
   exact⟨.cons hr .nil,fun u hu=>by simp at hu;subst hu;exact e1⟩⟩
 unfold partsK at h
 split at h
 ·obtain⟨h1,h2,h3⟩:=oneV_out h
  exact one h3 fun w F ρ v hr=>by have:=hr.v_out;subst this;exact⟨h2,h1⟩
 ·rename_i ds
  obtain⟨h1,hh⟩:=takeK_out h
  obtain⟨h2,h3⟩:=lenK_out hh
  have hl:=mapDK_out h3
  rw[List.take_of_length_le (by omega)] at hl
  refine⟨_,hl,fun w F ρ v hr=>?_⟩
  cases hr with|d hr=>cases hr with|agg hr=>exact⟨RAs.ofD (by simpa [Value.cells] using hr),fun u hu=>hr.one u (by simpa [Value.cells] using hu)⟩
 ·exact one h fun w F ρ v hr=>by cases hr with|d hr=>cases hr;exact⟨rfl,rfl⟩
 ·refine⟨_,h,fun w F ρ v hr=>?_⟩
  cases hr with|agg hr h1=>exact⟨by simpa [Value.cells] using hr,fun u hu=>h1 u (by simpa [Value.cells] using hu)⟩
 ·exact one h fun w F ρ v hr=>by cases hr;exact⟨rfl,rfl⟩
 ·exact one h fun w F ρ v hr=>by cases hr;exact⟨rfl,rfl⟩
 ·exact one h fun w F ρ v hr=>by cases hr;exact⟨rfl,rfl⟩
 ·exact one h fun w F ρ v hr=>by cases hr;exact⟨rfl,rfl⟩
 ·exact one h fun w F ρ v hr=>by cases hr;exact⟨rfl,rfl⟩
 ·exact one h fun w F ρ v hr=>by cases hr;exact⟨rfl,rfl⟩
 ·exact h.elim
 ·exact one h.2 fun w F ρ v hr=>by
   cases hr with|rel _ hp=>exact h.1.one _ _ hp
 ·exact h.elim
def bigB (size:Nat):Bool:=Nat.blt 24 size
def objK (size:Nat) (x:AV) (k:AObj→Prop):Prop:=
 match bigB size with
 |true=>match x with
  | .d (.agg ds)=>k (.row ds)
  |_=>False
 |false=>partsK size x fun l=>k (.cells l)
theorem objK_out {size:Nat} {x:AV} {k:AObj→Prop} (h:objK size x k):∃ o,k o∧∀ w F ρ v,RA w F ρ x v→CRep w F ρ o v.cells.toList:=by
 unfold objK at h
 split at h
 ·split at h
  ·refine⟨_,h,fun w F ρ v hr=>?_⟩
   cases hr with|d hr=>cases hr with|agg hr=>show RDs w F _ _;simpa [Value.cells] using hr
  ·exact h.elim
 ·obtain⟨l,h1,h2⟩:=partsK_out h
  exact⟨_,h1,h2⟩
theorem does_box {x:AV} {o:AObj} (xo:Operand) (t:TypeId) (h:∀ w F ρ v,RA w F ρ x v→CRep w F ρ o v.cells.toList):Does P (.box t xo) ty L n [x] ⟨[],[],[o]⟩ (.ptr n 0):=by
 intro op H F ρ w ev ho ht E _ hn hx
 obtain⟨v,e,hv⟩:=hx.one_out
 simp[Op.operands] at e
 have hrun:(execOp ev op).run P w=.ok (.value (.pointer (some ⟨w.heap.size,0,none⟩))) (w.alloc (.cells v.cells t)):=by
  simp[execOp,ho,e,Instr.box,newVar,newRow]
 rw[hrun]
 exact CRep.put E (by simpa using hn 0 (by simp)) (h w F ρ v hv)
theorem dv_rep {vs:List Value} (h:∀ v∈vs,v.oneCell'=true):RDs w F (vs.map .v) vs:=by
 induction vs with
 |nil=>exact .nil
 |cons v vs ih=>exact .cons (.v v) (h v (List.mem_cons_self ..)) (ih fun u hu=>h u (List.mem_cons_of_mem _ hu))
def mapVK:List Value→(List AV→Prop)→Prop
 |[],k=>k []
 |x::r,k=>mapVK r fun l=>k (.d (.v x)::l)
theorem mapVK_out:∀ {l:List Value} {k:List AV→Prop},mapVK l k→k (l.map fun v=>.d (.v v))
 |[],_,h=>h
 |_::r,_,h=>mapVK_out (l:=r) h
def zeroK (ti:TI) (k:AObj→Prop):Prop:=
 match ti.kind with
 | .non=>False
 |_=>match bigB ti.size with
  |true=>k (.row (ti.zero.map .v))
  |false=>mapVK ti.zero fun m=>k (.cells m)
theorem zeroK_out {t:TypeId} {k:AObj→Prop} (h:zeroK (tiOf P t) k):∃ o z i,k o∧P.info? t=some i∧i.zero=some z∧∀ w F ρ,CRep w F ρ o z.cells.toList:=by
 have hk:(tiOf P t).kind≠.non:=by intro e;unfold zeroK at h;rw[e] at h;exact h.elim
 obtain⟨i,d,z,hT,he⟩:=tiOf_known hk
 have hz:(tiOf P t).zero=z.cells.toList:=by rw[he];cases d<;>rfl
 unfold zeroK at h
 rw[hz] at h
 refine (?_:∃ o,k o∧∀ w F ρ,CRep w F ρ o z.cells.toList).elim fun o h=>⟨o,z,i,h.1,hT.info,hT.zero,h.2⟩
 split at h
 ·exact absurd (by assumption) hk
 ·split at h
  ·exact⟨_,h,fun w F ρ=>dv_rep hT.ones⟩
  ·refine⟨_,mapVK_out h,fun w F ρ=>(⟨?_,hT.ones⟩:RAs w F ρ _ _∧_)⟩
   have:=RAs.ofD (ρ:=ρ) (dv_rep (w:=w) (F:=F) hT.ones)
   rw[List.map_map] at this
   exact this
theorem does_alloc {o:AObj} {t:TypeId} {z:Value} {i:TypeInfo} (hi:P.info? t=some i) (hz:i.zero=some z) (h:∀ w F ρ,CRep w F ρ o z.cells.toList):Does P (.alloc t) ty L n [] ⟨[],[],[o]⟩ (.ptr n 0):=by
 intro op H F ρ w ev ho ht E _ hn hx
 have hrun:(execOp ev op).run P w=.ok (.value (.pointer (some ⟨w.heap.size,0,none⟩))) (w.alloc (.cells z.cells t)):=by
  simp[execOp,ho,Instr.alloc,newVar,newRow,zeroValue,typeInfo,hi,hz]
 rw[hrun]
 exact CRep.put E (by simpa using hn 0 (by simp)) (h w F ρ)
end
def fO (o:AObj) (k:AObj→Prop):Prop:=
 match o with
 | .dead=>k .dead
 | .cells cs=>k (.cells cs)
 | .row xs=>k (.row xs)
 | .sl s rows=>k (.sl s rows)
 | .obj p=>k (.obj p)
 | .iter x p=>k (.iter x p)
theorem fO_iff {o:AObj} {k:AObj→Prop}:fO o k↔k o:=by cases o<;>rfl
def getOK:List AObj→Nat→(AObj→Prop)→Prop
 |[],_,_=>False
 |o::_,0,k=>fO o k
 |_::r,n+1,k=>getOK r n k
theorem getOK_out {k:AObj→Prop}:∀ {xs:List AObj} {n:Nat},getOK xs n k→∃ x,xs[n]?=some x∧k x
 |[],_,h=>h.elim
 |x::_,0,h=>⟨x,rfl,fO_iff.1 h⟩
 |_::r,n+1,h=>by simpa using getOK_out (xs:=r) (n:=n) h
section
variable {P:Program} {w w':World} {F F':Nat→Prop} {ρ ρ':Nat→Option Value} {H:Hp} {L:List AObj} {ty:TypeId} {n:Nat}
theorem run_load_one {t:TypeId} {ti:TI} (hti:tiOf P t=ti) (hk:ti.kind=.one∨ti.kind=.sli) {b o:Nat} {v:Value} (hc:w.cell? ⟨b,o,none⟩=some v):(Instr.loadAt t (.pointer (some ⟨b,o,none⟩))).run P w=.ok v w:=by
 obtain⟨i,d,z,hT,he⟩:=tiOf_known (P:=P) (t:=t) (by rw[hti];rcases hk with h|h<;>rw[h]<;>simp)
 rw[hti] at he
 have hd:(isAgg t).run P w=.ok false w:=by
  unfold isAgg
  rw[Sem.run_bind,run_underlying hT.und]
  cases d<;>first|rfl|(subst he;simp at hk)
 simp[Instr.loadAt,Instr.sureAddr,loadVar,hd,load,Sem.run,hc]
theorem run_load_agg {t:TypeId} {ti:TI} (hti:tiOf P t=ti) (hk:ti.kind=.st∨ti.kind=.arr) {b o:Nat} {vs:List Value} (hl:vs.length=ti.size) (hc:∀ j (h:j<vs.length),w.cell? ⟨b,o+j,none⟩=some vs[j]) :
  (Instr.loadAt t (.pointer (some ⟨b,o,none⟩))).run P w=.ok (.agg vs.toArray) w:=by
 obtain⟨i,d,z,hT,he⟩:=tiOf_known (P:=P) (t:=t) (by rw[hti];rcases hk with h|h<;>rw[h]<;>simp)
 rw[hti] at he
 have hs:ti.size=i.size:=by rw[he];cases d<;>rfl
 refine run_loadAt_mid w b o t vs d (fun j v hv=>?_) hT.und ?_ (by rw[hT.info];simp[hl,hs])
 ·obtain⟨hj,e⟩:=List.getElem?_eq_some_iff.1 hv
  rw[hc j hj,e]
 ·cases d<;>first|rfl|(subst he;simp at hk)
theorem Env.cellsAt (E:Env F ρ H w) {i o:Nat} {ob:AObj} (hi:H i=some ob) (hl:ob.live=true) {v:Value} (hv:RA w F ρ (.ptr i o) v) :
  ∃ b,v=.pointer (some ⟨b,o,none⟩)∧ρ i=some (.pointer (some ⟨b,0,none⟩))∧ORep w F ρ (.pointer (some ⟨b,0,none⟩)) ob∧¬F b:=by
 cases hv with|ptr h=>
  rename_i b
  obtain⟨hh,e1,e2,e3⟩:=E.rep i ob hi hl
  rw[h] at e1;injection e1 with e1;subst e1
  exact⟨b,rfl,h,e2,(e3 b rfl).2⟩
theorem Env.slAt (E:Env F ρ H w) {i sz k f s:Nat} {rows:List (List D)} (hi:H i=some (.sl s rows)) {v:Value} (hv:RA w F ρ (.ep i sz k f) v) :
  ∃ g off m c,v=.pointer (some ⟨g,off+(k*sz+f),none⟩)∧ρ i=some (.slice (some ⟨g,off,none⟩) m c)∧ORep w F ρ (.slice (some ⟨g,off,none⟩) m c) (.sl s rows)∧¬F g:=by
 cases hv with|ep h=>
  rename_i g off m c
  obtain⟨hh,e1,e2,e3⟩:=E.rep i _ hi rfl
  rw[h] at e1;injection e1 with e1;subst e1
  exact⟨g,off,m,c,rfl,h,e2,(e3 g rfl).2⟩
theorem flat_get {rows:List (List D)} {s:Nat} (hs:∀ r∈rows,r.length=s):∀ {k:Nat} {r:List D},rows[k]?=some r→rows.flatten.drop (k*s)=r++(rows.drop (k+1)).flatten:=by
 induction rows with
 |nil=>intro k r h;simp at h
 |cons a rows ih=>
  intro k r h
  have ha:a.length=s:=hs a (List.mem_cons_self ..)
  cases k with
  |zero=>simp at h;subst h;simp
  |succ k=>
   have:=ih (fun r hr=>hs r (List.mem_cons_of_mem _ hr)) (k:=k) (r:=r) (by simpa using h)
   rw[List.flatten_cons,Nat.add_mul,Nat.one_mul,←ha,Nat.add_comm,List.drop_append,ha]
   simp[ha,this]
theorem sl_cells {s:Nat} {rows:List (List D)} {g off m c:Nat} (h:ORep w F ρ (.slice (some ⟨g,off,none⟩) m c) (.sl s rows)) {k:Nat} {r:List D} (hr:rows[k]?=some r) :
  ∃ vs,RDs w F r vs∧vs.length=s∧∀ j (hj:j<vs.length),w.cell? ⟨g,off+(k*s+j),none⟩=some vs[j]:=by
 obtain⟨us,how,hra,hs⟩:=h
 have hk:k<rows.length:=(List.getElem?_eq_some_iff.1 hr).1
 have hrl:r.length=s:=hs r (List.mem_of_getElem? hr)
 obtain⟨g',off',cap,he,_,_,_,_,_,hx⟩:=how.open_ (by omega)
 simp only[Value.slice.injEq,Option.some.injEq,Addr.mk.injEq,and_true] at he
 obtain⟨⟨rfl,rfl⟩,_,rfl⟩:=he
 have hd:=hra.drop (k*s)
 rw[flat_get hs hr] at hd
 obtain⟨vs,ts,e,h1,h2⟩:=hd.split
 have hvl:=h1.length
 refine⟨vs,h1,by omega,fun j hj=>?_⟩
 have hu:us[k*s+j]?=some vs[j]:=by
  have:(us.drop (k*s))[j]?=some vs[j]:=by rw[e,List.getElem?_append_left hj,List.getElem?_eq_getElem hj]
  simpa [List.getElem?_drop] using this
 obtain⟨h3,h4⟩:=List.getElem?_eq_some_iff.1 hu
 rw[hx _ h3,h4]
def aggDK (ti:TI) (xs:List D) (k:AV→Prop):Prop:=
 match ti.kind with
 | .non=>False
 | .one=>getDK xs 0 fun y=>k (.d y)
 | .sli=>getDK xs 0 fun y=>k (.d y)
 |_=>match bigB ti.size with
  |true=>∃ ys,xs.take ti.size=ys∧ys.length=ti.size∧k (.d (.agg ys))
  |false=>takeK xs ti.size fun ys=>k (.d (.agg ys))
theorem aggDK_out {t:TypeId} {xs:List D} {k:AV→Prop} (h:aggDK (tiOf P t) xs k) :
  ∃ r,k r∧∀ w F ρ b o vs,RDs w F xs vs→(∀ j (hj:j<vs.length),w.cell? ⟨b,o+j,none⟩=some vs[j])→∃ v,(Instr.loadAt t (.pointer (some ⟨b,o,none⟩))).run P w=.ok v w∧RA w F ρ r v:=by
 have one:((tiOf P t).kind=.one∨(tiOf P t).kind=.sli)→getDK xs 0 (fun y=>k (.d y))→∃ r,k r∧∀ w F ρ b o vs,RDs w F xs vs→(∀ j (hj:j<vs.length),w.cell? ⟨b,o+j,none⟩=some vs[j])→∃ v,(Instr.loadAt t (.pointer (some ⟨b,o,none⟩))).run P w=.ok v w∧RA w F ρ r v:=by
  intro hk h
  obtain⟨y,hy,hky⟩:=getDK_out h
  refine⟨_,hky,fun w F ρ b o vs hr hc=>?_⟩
  obtain⟨v,hv,h1,_⟩:=hr.get hy
  obtain⟨h2,h3⟩:=List.getElem?_eq_some_iff.1 hv
  have:=hc 0 h2
  rw[h3] at this
  exact⟨v,run_load_one rfl hk (by simpa using this),.d h1⟩
 have agg:((tiOf P t).kind=.st∨(tiOf P t).kind=.arr)→(tiOf P t).size≤xs.length→k (.d (.agg (xs.take (tiOf P t).size)))→∃ r,k r∧∀ w F ρ b o vs,RDs w F xs vs→(∀ j (hj:j<vs.length),w.cell? ⟨b,o+j,none⟩=some vs[j])→∃ v,(Instr.loadAt t (.pointer (some ⟨b,o,none⟩))).run P w=.ok v w∧RA w F ρ r v:=by
  intro hk hl h
  refine⟨_,h,fun w F ρ b o vs hr hc=>?_⟩
  have hvl:=hr.length
  refine⟨_,run_load_agg rfl hk (vs:=vs.take (tiOf P t).size) (by simp;omega) (fun j hj=>?_),.d (.agg (hr.take _))⟩
  rw[List.getElem_take]
  exact hc j (by simp at hj;omega)
 unfold aggDK at h
 cases hk:(tiOf P t).kind with
 |non=>rw[hk] at h;exact h.elim
 |one=>rw[hk] at h;exact one (.inl hk) h
 |sli=>rw[hk] at h;exact one (.inr hk) h
 |st=>
  rw[hk] at h
  simp only at h
  split at h
  ·obtain⟨ys,rfl,h2,h3⟩:=h;exact agg (.inl hk) (by simp at h2;omega) h3
  ·obtain⟨h1,h2⟩:=takeK_out h;exact agg (.inl hk) h1 h2
 |arr=>
  rw[hk] at h
  simp only at h
  split at h
  ·obtain⟨ys,rfl,h2,h3⟩:=h;exact agg (.inr hk) (by simp at h2;omega) h3
  ·obtain⟨h1,h2⟩:=takeK_out h;exact agg (.inr hk) h1 h2
def aggAK (ti:TI) (xs:List AV) (k:AV→Prop):Prop:=
 match ti.kind with
 | .non=>False
 | .one=>getK xs 0 k
 | .sli=>getK xs 0 k
 |_=>takeK xs ti.size fun ys=>mkAggK ys k
theorem aggAK_out {t:TypeId} {xs:List AV} {k:AV→Prop} (h:aggAK (tiOf P t) xs k) :
  ∃ r,k r∧∀ w F ρ b o vs,RAs w F ρ xs vs→(∀ v∈vs,v.oneCell'=true)→(∀ j (hj:j<vs.length),w.cell? ⟨b,o+j,none⟩=some vs[j])→∃ v,(Instr.loadAt t (.pointer (some ⟨b,o,none⟩))).run P w=.ok v w∧RA w F ρ r v:=by
 have one:((tiOf P t).kind=.one∨(tiOf P t).kind=.sli)→getK xs 0 k→∃ r,k r∧∀ w F ρ b o vs,RAs w F ρ xs vs→(∀ v∈vs,v.oneCell'=true)→(∀ j (hj:j<vs.length),w.cell? ⟨b,o+j,none⟩=some vs[j])→∃ v,(Instr.loadAt t (.pointer (some ⟨b,o,none⟩))).run P w=.ok v w∧RA w F ρ r v:=by
  intro hk h
  obtain⟨y,hy,hky⟩:=getK_out h
  refine⟨_,hky,fun w F ρ b o vs hr _ hc=>?_⟩
  obtain⟨v,hv,h1⟩:=hr.get hy
  obtain⟨h2,h3⟩:=List.getElem?_eq_some_iff.1 hv
  have:=hc 0 h2
  rw[h3] at this
  exact⟨v,run_load_one rfl hk (by simpa using this),h1⟩
 have agg:((tiOf P t).kind=.st∨(tiOf P t).kind=.arr)→takeK xs (tiOf P t).size (fun ys=>mkAggK ys k)→∃ r,k r∧∀ w F ρ b o vs,RAs w F ρ xs vs→(∀ v∈vs,v.oneCell'=true)→(∀ j (hj:j<vs.length),w.cell? ⟨b,o+j,none⟩=some vs[j])→∃ v,(Instr.loadAt t (.pointer (some ⟨b,o,none⟩))).run P w=.ok v w∧RA w F ρ r v:=by
  intro hk h
  obtain⟨hl,h⟩:=takeK_out h
  obtain⟨r,h1,h2⟩:=mkAggK_out h
  refine⟨r,h1,fun w F ρ b o vs hr ho hc=>?_⟩
  have hvl:=hr.length
  refine⟨_,run_load_agg rfl hk (vs:=vs.take (tiOf P t).size) (by simp;omega) (fun j hj=>?_),h2 w F ρ _ (hr.take _) fun v hv=>ho v (List.mem_of_mem_take hv)⟩
  rw[List.getElem_take]
  exact hc j (by simp at hj;omega)
 unfold aggAK at h
 cases hk:(tiOf P t).kind with
 |non=>rw[hk] at h;exact h.elim
 |one=>rw[hk] at h;exact one (.inl hk) h
 |sli=>rw[hk] at h;exact one (.inr hk) h
 |st=>rw[hk] at h;exact agg (.inl hk) h
 |arr=>rw[hk] at h;exact agg (.inr hk) h
def loadK (ti:TI) (x:AV) (L:List AObj) (K:Eff→AV→Prop):Prop:=
 match x with
 | .ptr i o=>getOK L i fun ob=>match ob with
  | .cells cs=>dropK cs o fun l=>aggAK ti l fun r=>K ⟨[i],[],[]⟩ r
  | .row xs=>∃ ys,xs.drop o=ys∧rowK ti ys fun r=>K ⟨[i],[],[]⟩ r
  |_=>False
 | .ep i sz m f=>getOK L i fun ob=>match ob with
  | .sl s rows=>s=sz∧∃ r,rows[m]?=some r∧dropK r f fun l=>aggDK ti l fun r=>K ⟨[i],[],[]⟩ r
  |_=>False
 | .fp xs=>aggDK ti xs fun r=>K e0 r
 |_=>False
where rowK (ti:TI) (ys:List D) (k:AV→Prop):Prop:=
 match ti.kind with
 | .one=>∃ y r,ys=y::r∧fD y fun y=>k (.d y)
 | .sli=>∃ y r,ys=y::r∧fD y fun y=>k (.d y)
 |_=>aggDK ti ys k
theorem rowK_out {ti:TI} {ys:List D} {k:AV→Prop} (h:loadK.rowK ti ys k):aggDK ti ys k:=by
 unfold loadK.rowK at h
 unfold aggDK
 split at h
 ·rename_i hk;obtain⟨y,r,rfl,h⟩:=h;rw[hk];exact h
 ·rename_i hk;obtain⟨y,r,rfl,h⟩:=h;rw[hk];exact h
 ·exact h
theorem loadK_run {t:TypeId} {x:AV} {K:Eff→AV→Prop} (h:loadK (tiOf P t) x L K):∃ e r,K e r∧e.ws=[]∧e.news=[]∧∀ (H:Hp) (F:Nat→Prop) (ρ:Nat→Option Value) (w:World) (v:Value),Env F ρ H w→(∀ i∈e.rs,H i=L[i]?)→RA w F ρ x v→∃ u,(Instr.loadAt t v).run P w=.ok u w∧RA w F ρ r u:=by
 unfold loadK at h
 have fin:∀ {e:Eff} {r:AV},e.ws=[]→e.news=[]→K e r→(∀ (H:Hp) (F:Nat→Prop) (ρ:Nat→Option Value) (w:World) (v:Value),Env F ρ H w→(∀ i∈e.rs,H i=L[i]?)→RA w F ρ x v→∃ u,(Instr.loadAt t v).run P w=.ok u w∧RA w F ρ r u)→∃ e r,K e r∧e.ws=[]∧e.news=[]∧∀ (H:Hp) (F:Nat→Prop) (ρ:Nat→Option Value) (w:World) (v:Value),Env F ρ H w→(∀ i∈e.rs,H i=L[i]?)→RA w F ρ x v→∃ u,(Instr.loadAt t v).run P w=.ok u w∧RA w F ρ r u:=
  fun h1 h2 h3 h4=>⟨_,_,h3,h1,h2,h4⟩
 split at h
 ·rename_i i o
  obtain⟨ob,hob,h⟩:=getOK_out h
  split at h
  ·rename_i cs
   obtain⟨hle,h⟩:=dropK_out h
   obtain⟨r,hK,hr⟩:=aggAK_out h
   refine fin rfl rfl hK fun H F ρ w v E hL hv=>?_
   have hi:H i=some (.cells cs):=by rw[hL i (by simp)];exact hob
   obtain⟨b,rfl,e1,⟨b',t',vs,e2,hB,hra,h1⟩,hF⟩:=E.cellsAt hi rfl hv
   simp at e2;subst e2
   refine hr w F ρ b o (vs.toList.drop o) (hra.drop o) (fun v hv=>h1 v (List.mem_of_mem_drop hv)) fun j hj=>?_
   rw[hB.cell];simp at hj ⊢
  ·rename_i xs
   obtain⟨ys,rfl,h⟩:=h
   obtain⟨r,hK,hr⟩:=aggDK_out (rowK_out h)
   refine fin rfl rfl hK fun H F ρ w v E hL hv=>?_
   have hi:H i=some (.row xs):=by rw[hL i (by simp)];exact hob
   obtain⟨b,rfl,e1,⟨b',t',vs,e2,hB,hra⟩,hF⟩:=E.cellsAt hi rfl hv
   simp at e2;subst e2
   refine hr w F ρ b o (vs.toList.drop o) (hra.drop o) fun j hj=>?_
   rw[hB.cell];simp at hj ⊢
  ·exact h.elim
 ·rename_i i sz m f
  obtain⟨ob,hob,h⟩:=getOK_out h
  split at h
  ·rename_i s rows
   obtain⟨rfl,r0,hr0,h⟩:=h
   obtain⟨hle,h⟩:=dropK_out h
   obtain⟨r,hK,hr⟩:=aggDK_out h
   refine fin rfl rfl hK fun H F ρ w v E hL hv=>?_
   have hi:H i=some (.sl s rows):=by rw[hL i (by simp)];exact hob
   obtain⟨g,off,m',c,rfl,e1,hor,hF⟩:=E.slAt hi hv
   obtain⟨vs,h1,h2,h3⟩:=sl_cells hor hr0
   refine hr w F ρ g (off+(m*s+f)) (vs.drop f) (h1.drop f) fun j hj=>?_
   have:=h3 (f+j) (by simp at hj;omega)
   rw[List.getElem_drop,←this]
   congr 2;omega
  ·exact h.elim
 ·rename_i xs
  obtain⟨r,hK,hr⟩:=aggDK_out h
  refine fin rfl rfl hK fun H F ρ w v E hL hv=>?_
  cases hv with|fp hb h hc=>exact hr w F ρ _ _ _ h hc
 ·exact h.elim
theorem loadK_out {t:TypeId} {x:AV} {a:Operand} {K:Eff→AV→Prop} (h:loadK (tiOf P t) x L K):∃ e r,K e r∧Does P (.load t a) ty L n [x] e r:=by
 obtain⟨e,r,h3,h1,h2,h4⟩:=loadK_run h
 refine⟨e,r,h3,fun op H F ρ w ev ho ht E hL hn hx=>?_⟩
 obtain⟨v,ev',hv⟩:=hx.one_out
 simp[Op.operands] at ev'
 obtain⟨u,hu,hr⟩:=h4 H F ρ w v E hL hv
 have hrun:(execOp ev op).run P w=.ok (.value u) w:=by simp[execOp,ho,ev',hu]
 rw[hrun,h1,h2]
 exact Post.same E hr
end
end Go.Proofs.YtfbfpnfgabamfaaGreat
