/- Parts VcO, VcP, VcQ of the proof, put together. -/
import Derived.Test.YtfbfpnfgabamfaaGreatM4
import Derived.RangeFuncRecord
import Derived.RangeFuncSeq
/- Code and functions in abstract values. No program is named here. -/
namespace Go.Proofs.YtfbfpnfgabamfaaGreat
set_option linter.unusedSimpArgs false
set_option linter.unusedVariables false
open Go.RowKit
def deadB:List AObj→Nat→Bool
 |[],_=>true
 | .dead::_,0=>true
 |_::_,0=>false
 |_::r,n+1=>deadB r n
def lateK:List AObj→List AObj→Nat→Prop
 |_::L,_::L',k+1=>lateK L L' k
 |[],.sl _ []::_,0=>True
 |[],_::L',k+1=>lateK [] L' k
 |_,_,_=>False
def wkA1 (L L':List AObj) (y x:AV):Prop:=
 match x with
 | .any=>True
 | .d (.sl s rows)=>fAV y fun y=>match y with
  | .own i=>deadB L' i=true∧getOK L i fun ob=>ob=.sl s rows
  | .d (.v (.slice none 0 0))=>rows=[]
  |y=>y=.d (.sl s rows)
 | .own k=>fAV y fun y=>match y with
  | .own i=>eqK i k True
  | .d (.v (.slice none 0 0))=>lateK L L' k
  |_=>False
 |x=>fAV y fun y=>y=x
def wkDs (L L':List AObj):List AV→List D→Prop
 |[],[]=>True
 |y::ys,x::xs=>wkA1 L L' y (.d x)∧wkDs L L' ys xs
 |_,_=>False
def wkA (L L':List AObj) (y x:AV):Prop:=
 match x with
 | .d (.agg ds)=>fAV y fun y=>match y with
  | .agg ys=>wkDs L L' ys ds
  |y=>y=.d (.agg ds)
 |x=>wkA1 L L' y x
def wkAs (L L':List AObj):List AV→List AV→Prop
 |[],[]=>True
 |y::ys,x::xs=>wkA L L' y x∧wkAs L L' ys xs
 |_,_=>False
def wkT (L L':List AObj) (tm:Tm):Tm→Prop
 |[]=>True
 |(s,x)::r=>wkA L L' (lk tm s) x∧wkT L L' tm r
def wkO (L L':List AObj) (o o':AObj):Prop:=
 match o' with
 | .dead=>True
 | .cells cs'=>fO o fun o=>match o with
  | .cells cs=>wkAs L L' cs cs'
  |_=>False
 |o'=>fO o fun o=>o=o'
def wkL (L L':List AObj):List AObj→List AObj→Prop
 |_,[]=>True
 |o::r,o'::r'=>wkO L L' o o'∧wkL L L' r r'
 |[],.sl _ []::r'=>wkL L L' [] r'
 |[],.dead::r'=>wkL L L' [] r'
 |[],_::_=>False
def tmLt (m:Nat):Tm→Bool
 |[]=>true
 |(_,x)::r=>AV.lt m x && tmLt m r
def Weak0 (k0:Nat) (tm:Tm) (L:List AObj) (tm':Tm) (L':List AObj):Prop:=
 (Nat.ble k0 L'.length && tmLt L'.length tm' && AObj.lts L'.length L')=true∧wkT L L' tm tm'∧wkL L L' L L'
def swN (a b j:Nat):Nat:=match Nat.beq j a with
 |true=>b
 |false=>match Nat.beq j b with
  |true=>a
  |false=>j
def setO (o:AObj):Nat→List AObj→List AObj
 |_,[]=>[]
 |0,_::r=>o::r
 |n+1,x::r=>x::setO o n r
def getO (L:List AObj) (n:Nat):AObj:=(L[n]?).getD .dead
def swL (a b:Nat) (L:List AObj):List AObj:=AObj.rns (swN a b) (setO (getO L a) b (setO (getO L b) a L))
def rnT (f:Nat→Nat):Tm→Tm
 |[]=>[]
 |(s,x)::r=>(s,x.rn f)::rnT f r
def mvN (a b j:Nat):Nat:=match Nat.beq j a with
 |true=>b
 |false=>j
def mvL (a:Nat) (L:List AObj):List AObj:=AObj.rns (mvN a L.length) (setO .dead a L++[getO L a])
def cutN (m i:Nat) (x:AV):AV:=match Nat.blt i m with
 |true=>x
 |false=>.any
mutual
def AV.cut (m:Nat):AV→AV
 | .d x=>.d x
 | .ptr i o=>cutN m i (.ptr i o)
 | .own i=>cutN m i (.own i)
 | .ep i s q g=>cutN m i (.ep i s q g)
 | .fp xs=>.fp xs
 | .agg xs=>.agg (AV.cuts m xs)
 | .tup xs=>.tup (AV.cuts m xs)
 | .fn g a b=>.fn g (AV.cuts m a) (AV.cuts m b)
 | .mp i=>cutN m i (.mp i)
 | .rel i p=>cutN m i (.rel i p)
 | .any=>.any
def AV.cuts (m:Nat):List AV→List AV
 |[]=>[]
 |x::r=>AV.cut m x::AV.cuts m r
end
def AObj.cut (m:Nat):AObj→AObj
 | .cells cs=>.cells (AV.cuts m cs)
 | .iter x p=>.iter (x.cut m) p
 |o=>o
def cutL (m:Nat):Nat→List AObj→List AObj
 |0,_=>[]
 |_,[]=>[]
 |n+1,o::r=>o.cut m::cutL m n r
def cutT (m:Nat):Tm→Tm
 |[]=>[]
 |(s,x)::r=>(s,x.cut m)::cutT m r
def swOk (k0 a b:Nat) (L:List AObj):Bool:=Nat.ble k0 a && Nat.ble k0 b && Nat.blt a L.length && Nat.blt b L.length
def WeakS (k0:Nat) (tm:Tm) (L:List AObj) (tm':Tm) (L':List AObj):List (Nat × Nat)→Prop
 |[]=>Weak0 k0 tm L tm' L'
 |(a,b)::r=>match Nat.beq b L.length with
  |true=>Nat.blt a L.length=true∧WeakS k0 (rnT (mvN a b) tm) (mvL a L) tm' L' r
  |false=>match Nat.beq a b with
   |true=>(Nat.ble k0 a && Nat.ble a L.length)=true∧WeakS k0 (cutT a tm) (cutL a a L) tm' L' r
   |false=>swOk k0 a b L=true∧WeakS k0 (rnT (swN a b) tm) (swL a b L) tm' L' r
def Weak (k0:Nat) (tm:Tm) (L:List AObj) (tm':Tm) (L':List AObj):Prop:=∃ sw,WeakS k0 tm L tm' L' sw
section
variable {P:Program} {w w':World} {F F':Nat→Prop} {ρ ρ':Nat→Option Value} {L L':List AObj} {T:TypeId→TI} {E:Nat→Bool} {N:Nat} {tm tm':Tm} {a:Act} {ops:Array Oper}
mutual
theorem RA.low {m:Nat} (hρ:∀ j h,j<m→ρ j=some h→ρ' j=some h):∀ (x:AV) {v:Value},AV.lt m x=true→RA w F ρ x v→RA w F ρ' x v
 | .d x,v,_,h=>by cases h with|d h=>exact .d h
 | .ptr i o,v,l,h=>by cases h with|ptr h=>exact .ptr (hρ _ _ (by simpa [AV.lt,Nat.blt,Nat.succ_le_iff] using l) h)
 | .own i,v,l,h=>by cases h with|own h=>exact .own (hρ _ _ (by simpa [AV.lt,Nat.blt,Nat.succ_le_iff] using l) h)
 | .ep i s q g,v,l,h=>by cases h with|ep h=>exact .ep (hρ _ _ (by simpa [AV.lt,Nat.blt,Nat.succ_le_iff] using l) h)
 | .fp xs,v,_,h=>by cases h with|fp hb h hc=>exact .fp hb h hc
 | .agg xs,v,l,h=>by cases h with|agg h h1=>exact .agg (RAs.low hρ xs (by simpa [AV.lt] using l) h) h1
 | .tup xs,v,l,h=>by cases h with|tup h=>exact .tup (RAs.low hρ xs (by simpa [AV.lt] using l) h)
 | .fn g a b,v,l,h=>by simp[AV.lt] at l;cases h with|fn h h'=>exact .fn (RAs.low hρ a l.1 h) (RAs.low hρ b l.2 h')
 | .mp i,v,l,h=>by cases h with|mp h=>exact .mp (hρ _ _ (by simpa [AV.lt,Nat.blt,Nat.succ_le_iff] using l) h)
 | .rel i p,v,l,h=>by cases h with|rel h hp=>exact .rel (hρ _ _ (by simpa [AV.lt,Nat.blt,Nat.succ_le_iff] using l) h) hp
 | .any,v,_,_=>.any v
theorem RAs.low {m:Nat} (hρ:∀ j h,j<m→ρ j=some h→ρ' j=some h):∀ (xs:List AV) {vs:List Value},AV.lts m xs=true→RAs w F ρ xs vs→RAs w F ρ' xs vs
 |[],vs,_,h=>by cases h;exact .nil
 |x::r,vs,l,h=>by simp[AV.lts] at l;cases h with|cons h hr=>exact .cons (RA.low hρ x l.1 h) (RAs.low hρ r l.2 hr)
end
theorem deadB_out:∀ {l:List AObj} {i:Nat},deadB l i=true→∀ {o:AObj},l[i]?=some o→o.live=false
 |[],_,_,o,h=>by simp at h
 | .dead::_,0,_,o,h=>by simp at h;subst h;rfl
 | .cells _::_,0,hd,o,_=>by simp[deadB] at hd
 | .row _::_,0,hd,o,_=>by simp[deadB] at hd
 | .sl _ _::_,0,hd,o,_=>by simp[deadB] at hd
 | .obj _::_,0,hd,o,_=>by simp[deadB] at hd
 | .iter _ _::_,0,hd,o,_=>by simp[deadB] at hd
 |x::r,i+1,hd,o,h=>deadB_out (l:=r) (i:=i) (by cases x<;>simpa [deadB] using hd) (by simpa using h)
theorem wkL_out:∀ {l l':List AObj},wkL L L' l l'→∀ (i:Nat) (o':AObj),l'[i]?=some o'→(∃ o:AObj,l[i]?=some o∧wkO L L' o o')∨(l.length≤i∧((∃ s,o'=.sl s [])∨o'=.dead))
 |_,[],_,i,o',h=>by simp at h
 |[],.sl s []::r',h,0,x,hx=>by simp at hx;subst hx;exact .inr ⟨Nat.zero_le _,.inl ⟨s,rfl⟩⟩
 |[],.dead::r',h,0,x,hx=>by simp at hx;subst hx;exact .inr ⟨Nat.zero_le _,.inr rfl⟩
 |[],.sl s []::r',h,i+1,x,hx=>(wkL_out (l:=[]) (l':=r') h i x (by simpa using hx)).elim (fun⟨o,e,_⟩=>by simp at e) fun q=>.inr ⟨Nat.zero_le _,q.2⟩
 |[],.dead::r',h,i+1,x,hx=>(wkL_out (l:=[]) (l':=r') h i x (by simpa using hx)).elim (fun⟨o,e,_⟩=>by simp at e) fun q=>.inr ⟨Nat.zero_le _,q.2⟩
 |[],.sl s (q::qs)::r',h,_,_,_=>by simp[wkL] at h
 |[],.cells _::r',h,_,_,_=>by simp[wkL] at h
 |[],.row _::r',h,_,_,_=>by simp[wkL] at h
 |[],.obj _::r',h,_,_,_=>by simp[wkL] at h
 |[],.iter _ _::r',h,_,_,_=>by simp[wkL] at h
 |o::r,o'::r',h,i,x,hx=>by
  cases i with
  |zero=>simp at hx;subst hx;exact .inl ⟨o,rfl,h.1⟩
  |succ i=>exact (wkL_out (l:=r) (l':=r') h.2 i x (by simpa using hx)).elim (fun⟨o,e,q⟩=>.inl ⟨o,by simpa using e,q⟩) fun q=>.inr ⟨by simp;omega,q.2⟩
theorem lateK_out:∀ {L L':List AObj} {k:Nat},lateK L L' k→L.length≤k∧∃ s,L'[k]?=some (.sl s [])
 |_::L,_::L',k+1,h=>by
  obtain⟨h1,s,h2⟩:=lateK_out (L:=L) (L':=L') (k:=k) h
  exact⟨by simp;exact h1,s,by simpa using h2⟩
 |[],.sl s []::_,0,_=>⟨Nat.zero_le _,s,rfl⟩
 |[],_::L',k+1,h=>by
  obtain⟨_,s,h2⟩:=lateK_out (L:=[]) (L':=L') (k:=k) (by simpa [lateK] using h)
  exact⟨Nat.zero_le _,s,by simpa using h2⟩
 |[],[],_,h=>by simp[lateK] at h
 |_::_,[],0,h=>by simp[lateK] at h
 |_::_,[],_+1,h=>by simp[lateK] at h
 |_::_,_::_,0,h=>by simp[lateK] at h
 |[],.dead::_,0,h=>by simp[lateK] at h
 |[],.cells _::_,0,h=>by simp[lateK] at h
 |[],.row _::_,0,h=>by simp[lateK] at h
 |[],.obj _::_,0,h=>by simp[lateK] at h
 |[],.iter _ _::_,0,h=>by simp[lateK] at h
 |[],.sl _ (_::_)::_,0,h=>by simp[lateK] at h
def frz (ρ:Nat→Option Value) (L L':List AObj) (b:Nat):Prop:=∃ i s rows h,L[i]?=some (.sl s rows)∧deadB L' i=true∧ρ i=some h∧blkOf h=some b
def rlow (ρ:Nat→Option Value) (n m:Nat):Nat→Option Value:=fun i=>if i<m then (if i<n then ρ i else some (.slice none 0 0)) else none
theorem wkA1_out (En:Env F ρ (hp L) w) {y x:AV} {v:Value} (h:wkA1 L L' y x) (hl:AV.lt L'.length x=true) (hv:RA w F ρ y v):RA w (fun b=>F b∨frz ρ L L' b) (rlow ρ L.length L'.length) x v:=by
 have low:∀ {x:AV},AV.lt L'.length x=true→RA w F ρ x v→RA w (fun b=>F b∨frz ρ L L' b) (rlow ρ L.length L'.length) x v:=fun {x} hl hv=>by
  have:=RA.low (ρ':=rlow ρ L.length L'.length) (m:=L'.length) (fun j h hj hk=>by
   unfold rlow
   rw[if_pos hj]
   rcases Nat.lt_or_ge j L.length with q|q
   ·rw[if_pos q];exact hk
   ·rw[En.abs j (List.getElem?_eq_none q)] at hk;cases hk) x hl hv
  exact this.mono (fun _ _=>rfl) (fun _ h=>.inl h) (fun _ _ h=>h)
 unfold wkA1 at h
 split at h
 ·exact .any v
 ·rename_i s rows
  have h:=fAV_iff.1 h
  split at h
  ·rename_i i _
   obtain⟨hd,h⟩:=h
   obtain⟨ob,hob,e⟩:=getOK_out h
   subst e
   cases hv with|own hv=>
    rename_i A n c
    obtain⟨hh,e1,⟨vs,how,hra,hs⟩,e3⟩:=En.rep i _ hob rfl
    rw[hv] at e1;injection e1 with e1;subst e1
    obtain⟨A',c',he,h1,h2,hrd⟩:=how.form
    injection he with q1 q2 q3
    subst q1 q2 q3
    refine .d (.sl rfl hs h1 h2 (hra.mono (fun _ _=>rfl) fun _ h=>.inl h) fun hp=>?_)
    have hsz:vs.length=rows.length*s:=hrd.1
    rcases Nat.eq_zero_or_pos s with hs0|hs0
    ·have hvs:vs=[]:=List.eq_nil_of_length_eq_zero (by rw[hsz,hs0];simp)
     subst hvs
     obtain⟨g,off,cap,he,_⟩:=how.open_ hp
     injection he with q1 _ _
     subst q1
     exact⟨g,off,rfl,.inr ⟨i,s,rows,_,hob,hd,hv,rfl⟩,fun j hj=>by simp at hj⟩
    ·obtain⟨b,off,rfl,hb,hc⟩:=hrd.2 hp
     exact⟨b,off,rfl,.inr ⟨i,s,rows,_,hob,hd,hv,rfl⟩,hc⟩
  ·subst h
   have:=hv.v_out
   subst this
   exact .d (.sl (cs:=[]) rfl (fun r hr=>by simp at hr) (Nat.le_refl _) (Nat.zero_le _) .nil fun hp=>absurd hp (Nat.lt_irrefl _))
  ·subst h;exact low hl hv
 ·rename_i k
  have h:=fAV_iff.1 h
  split at h
  ·obtain⟨rfl,_⟩:=eqK_out h;exact low hl hv
  ·obtain⟨h1,s,h2⟩:=lateK_out h
   have:=hv.v_out
   subst this
   refine .own ?_
   unfold rlow
   rw[if_pos (List.getElem?_eq_some_iff.1 h2).1,if_neg (by omega)]
  ·exact h.elim
 ·have h:=fAV_iff.1 h
  subst h;exact low hl hv
theorem wkDs_out (En:Env F ρ (hp L) w):∀ {ys:List AV} {xs:List D} {vs:List Value},wkDs L L' ys xs→RAs w F ρ ys vs→(∀ c∈vs,c.oneCell'=true)→RDs w (fun b=>F b∨frz ρ L L' b) xs vs
 |[],[],_,_,h,_=>by cases h;exact .nil
 |_::_,x::xs,_,h,hv,h1=>by
  cases hv with|cons hv hr=>
   have:=wkA1_out En (x:=.d x) h.1 rfl hv
   cases this with|d q=>exact .cons q (h1 _ (List.mem_cons_self ..)) (wkDs_out En h.2 hr fun c hc=>h1 c (List.mem_cons_of_mem _ hc))
 |[],_::_,_,h,_,_=>h.elim
 |_::_,[],_,h,_,_=>h.elim
theorem wkA_out (En:Env F ρ (hp L) w) {y x:AV} {v:Value} (h:wkA L L' y x) (hl:AV.lt L'.length x=true) (hv:RA w F ρ y v):RA w (fun b=>F b∨frz ρ L L' b) (rlow ρ L.length L'.length) x v:=by
 unfold wkA at h
 split at h
 ·rename_i ds
  have h:=fAV_iff.1 h
  split at h
  ·cases hv with|agg hv h1=>exact .d (.agg (wkDs_out En h hv h1))
  ·subst h
   cases hv with|d hv=>exact .d (hv.mono (fun _ _=>rfl) fun _ h=>.inl h)
 ·exact wkA1_out En h hl hv
theorem wkAs_out (En:Env F ρ (hp L) w):∀ {ys xs:List AV} {vs:List Value},wkAs L L' ys xs→AV.lts L'.length xs=true→RAs w F ρ ys vs→RAs w (fun b=>F b∨frz ρ L L' b) (rlow ρ L.length L'.length) xs vs
 |[],[],_,_,_,h=>by cases h;exact .nil
 |_::_,x::xs,_,h,hl,hv=>by
  simp[AV.lts] at hl
  cases hv with|cons hv hr=>exact .cons (wkA_out En h.1 hl.1 hv) (wkAs_out En h.2 hl.2 hr)
 |[],_::_,_,h,_,_=>h.elim
 |_::_,[],_,h,_,_=>h.elim
theorem Env.weak (En:Env F ρ (hp L) w) (hle:AObj.lts L'.length L'=true) (h:wkL L L' L L') :
  Step F ρ (hp L) w (fun b=>F b∨frz ρ L L' b) (rlow ρ L.length L'.length) (hp L') w∧Env (fun b=>F b∨frz ρ L L' b) (rlow ρ L.length L'.length) (hp L') w:=by
 have hget:=wkL_out h

 have live:∀ i o',L'[i]?=some o'→o'.live=true→(∃ o,L[i]?=some o∧wkO L L' o o'∧o.live=true∧i<L'.length∧i<L.length)∨(L.length≤i∧i<L'.length∧∃ s,o'=.sl s []):=by
  intro i o' hi hl
  have hil:=(List.getElem?_eq_some_iff.1 hi).1
  rcases hget i o' hi with⟨o,h1,h2⟩|⟨h1,h2⟩
  ·refine .inl ⟨o,h1,h2,?_,hil,(List.getElem?_eq_some_iff.1 h1).1⟩
   unfold wkO at h2
   split at h2
   ·cases hl
   ·have h2:=fO_iff.1 h2
    split at h2
    ·rfl
    ·exact h2.elim
   ·have h2:=fO_iff.1 h2
    subst h2;exact hl
  ·rcases h2 with h2|h2
   ·exact .inr ⟨h1,hil,h2⟩
   ·subst h2;cases hl
 have fb:∀ b,frz ρ L L' b→b<w.heap.size∧Lv ρ (hp L) b:=by
  rintro b ⟨i,s,rows,hh,h1,_,h3,h4⟩
  obtain⟨h0,e1,_,e3⟩:=En.rep i _ h1 rfl
  rw[h3] at e1;injection e1 with e1;subst e1
  exact⟨(e3 b h4).1,⟨i,_,hh,h1,rfl,h3,h4⟩⟩
 have rl:∀ i h,i<L.length→rlow ρ L.length L'.length i=some h→ρ i=some h:=by
  intro i h hil hi
  unfold rlow at hi
  by_cases q:i<L'.length
  ·rw[if_pos q,if_pos hil] at hi;exact hi
  ·rw[if_neg q] at hi;cases hi
 have rn:∀ i h,L.length≤i→rlow ρ L.length L'.length i=some h→blkOf h=none:=by
  intro i h hil hi
  unfold rlow at hi
  by_cases q:i<L'.length
  ·rw[if_pos q,if_neg (by omega)] at hi;injection hi with hi;subst hi;rfl
  ·rw[if_neg q] at hi;cases hi
 refine⟨⟨rfl,rfl,rfl,Nat.le_refl _,fun _ _ _=>rfl,fun _ h=>.inl h,fun b hb=>hb.elim .inl fun q=>.inr (.inr (fb b q).2),fun b ⟨i,o',hh,h1,h2,h3,h4⟩=>?_⟩,fun b hb=>hb.elim (En.fb b) fun q=>(fb b q).1,fun i hi=>?_,fun i o' hi hl=>?_,fun i j o o' hh hh' b e1 e2 l1 l2 r1 r2 b1 b2=>?_⟩
 ·rcases live i o' h1 h2 with⟨o,q1,_,q3,_,q5⟩|⟨q1,_⟩
  ·exact .inr ⟨i,o,hh,q1,q3,rl i hh q5 h3,h4⟩
  ·rw[rn i hh q1 h3] at h4;cases h4
 ·have:=List.getElem?_eq_none_iff.1 hi
  unfold rlow
  rw[if_neg (by omega)]
 ·rcases live i o' hi hl with⟨o,q1,q2,q3,q4,q5⟩|⟨q1,q4,s,rfl⟩
  ·obtain⟨hh,e1,e2,e3⟩:=En.rep i o q1 q3
   refine⟨hh,by unfold rlow;rw[if_pos q4,if_pos q5];exact e1,?_,fun b hb=>⟨(e3 b hb).1,fun q=>q.elim (e3 b hb).2 ?_⟩⟩
   ·unfold wkO at q2
    split at q2
    ·trivial
    ·rename_i cs'
     have q2:=fO_iff.1 q2
     split at q2
     ·rename_i cs
      obtain⟨b,t,vs,g1,g2,g3,g4⟩:=e2
      exact⟨b,t,vs,g1,g2,wkAs_out En q2 (AObj.lts_get hle hi) g3,g4⟩
     ·exact q2.elim
    ·have q2:=fO_iff.1 q2
     subst q2
     have hk:∀ cs,o≠.cells cs:=fun cs e=>by subst e;rename_i _ hne;exact hne cs rfl
     cases o with
     |cells cs=>exact absurd rfl (hk cs)
     |dead=>trivial
     |row xs=>obtain⟨b,t,vs,g1,g2,g3⟩:=e2;exact⟨b,t,vs,g1,g2,g3.mono (fun _ _=>rfl) fun _ h=>.inl h⟩
     |sl s rows=>obtain⟨vs,g1,g2,g3⟩:=e2;exact⟨vs,g1,g2.mono (fun _ _=>rfl) fun _ h=>.inl h,g3⟩
     |obj p=>exact e2
     |iter x p=>
      obtain⟨b,o,v,g1,g2,g3,g4⟩:=e2
      have hlx:=AObj.lts_one hle hi
      exact⟨b,o,v,g1,g2,RA.mono (fun _ _=>rfl) (fun _ h=>.inl h) (fun _ _ h=>h) (RA.low (ρ':=rlow ρ L.length L'.length) (m:=L'.length) (fun j h hj hk=>by
       unfold rlow
       rw[if_pos hj]
       rcases Nat.lt_or_ge j L.length with q|q
       ·rw[if_pos q];exact hk
       ·rw[En.abs j (List.getElem?_eq_none q)] at hk;cases hk) x (by simpa [AObj.lts] using hlx) g3),g4⟩
   ·rintro⟨j,s,rows,h2,f1,f2,f3,f4⟩
    have:i=j:=En.inj i j o _ hh h2 b q1 f1 q3 rfl e1 f3 hb f4
    subst this
    rw[deadB_out f2 hi] at hl;cases hl
  ·exact⟨.slice none 0 0,by unfold rlow;rw[if_pos q4,if_neg (by omega)],⟨[],Ow.nil w 0 0 s,.nil,fun r hr=>by simp at hr⟩,fun b hb=>by cases hb⟩
 ·rcases live i o e1 l1 with⟨o2,q1,_,q3,_,q5⟩|⟨q1,_⟩
  ·rcases live j o' e2 l2 with⟨o3,g1,_,g3,_,g5⟩|⟨g1,_⟩
   ·exact En.inj i j o2 o3 hh hh' b q1 g1 q3 g3 (rl _ _ q5 r1) (rl _ _ g5 r2) b1 b2
   ·rw[rn j hh' g1 r2] at b2;cases b2
  ·rw[rn i hh q1 r1] at b1;cases b1
theorem tmLt_lk {m:Nat}:∀ {tm:Tm},tmLt m tm=true→∀ k,AV.lt m (lk tm k)=true
 |[],_,k=>rfl
 |(s,x)::r,h,k=>by
  simp only[tmLt,Bool.and_eq_true] at h
  rw[lk_cons]
  split
  ·exact h.1
  ·exact tmLt_lk h.2 k
theorem wkT_lk:∀ {tm':Tm},wkT L L' tm tm'→∀ k,wkA L L' (lk tm k) (lk tm' k)
 |[],_,k=>trivial
 |(s,x)::r,h,k=>by
  rw[lk_cons]
  split
  ·rename_i e;subst e;exact h.1
  ·exact wkT_lk h.2 k
variable {F0:Nat→Prop} {ρ0 ρk:Nat→Option Value} {H0:Hp} {w0:World} {nm k0:Nat}
theorem swN_a {a b:Nat}:swN a b a=b:=by unfold swN;rw[show Nat.beq a a=true by simp]
theorem swN_b {a b:Nat}:swN a b b=a:=by
 unfold swN
 split
 ·rename_i h;exact Nat.eq_of_beq_eq_true h
 ·rw[show Nat.beq b b=true by simp]
theorem swN_ne {a b j:Nat} (h1:j≠a) (h2:j≠b):swN a b j=j:=by
 unfold swN
 split
 ·rename_i h;exact absurd (Nat.eq_of_beq_eq_true h) h1
 ·split
  ·rename_i h;exact absurd (Nat.eq_of_beq_eq_true h) h2
  ·rfl
theorem swN_two {a b j:Nat}:swN a b (swN a b j)=j:=by
 by_cases h1:j=a
 ·subst h1;rw[swN_a,swN_b]
 ·by_cases h2:j=b
  ·subst h2;rw[swN_b,swN_a]
  ·rw[swN_ne h1 h2,swN_ne h1 h2]
theorem setO_length {o:AObj}:∀ {n:Nat} {l:List AObj},(setO o n l).length=l.length
 |_,[]=>by simp[setO]
 |0,_::r=>rfl
 |n+1,x::r=>by simp[setO,setO_length (n:=n) (l:=r)]
theorem setO_same {o:AObj}:∀ {n:Nat} {l:List AObj},n<l.length→(setO o n l)[n]?=some o
 |_,[],h=>by simp at h
 |0,_::r,_=>rfl
 |n+1,x::r,h=>by simpa [setO] using setO_same (n:=n) (l:=r) (by simpa using h)
theorem setO_ne {o:AObj}:∀ {n:Nat} {l:List AObj} {j:Nat},j≠n→(setO o n l)[j]?=l[j]?
 |_,[],_,_=>by simp[setO]
 |0,_::r,0,h=>absurd rfl h
 |0,_::r,j+1,_=>by simp[setO]
 |n+1,x::r,0,_=>by simp[setO]
 |n+1,x::r,j+1,h=>by simpa [setO] using setO_ne (n:=n) (l:=r) (j:=j) (by omega)
theorem getO_some {L:List AObj} {n:Nat} (h:n<L.length):L[n]?=some (getO L n):=by
 unfold getO;rw[List.getElem?_eq_getElem h];rfl
theorem swL_length {a b:Nat}:(swL a b L).length=L.length:=by unfold swL;rw[AObj.rns_length,setO_length,setO_length]
theorem swL_get {a b:Nat} (ha:a<L.length) (hb:b<L.length) (j:Nat):(swL a b L)[j]?=(L[swN a b j]?).map (AObj.rn (swN a b)):=by
 unfold swL
 rw[AObj.rns_get]
 congr 1
 by_cases h2:j=b
 ·subst h2;rw[setO_same (by rw[setO_length];exact hb),swN_b,getO_some ha]
 ·rw[setO_ne h2]
  by_cases h1:j=a
  ·subst h1;rw[setO_same ha,swN_a,getO_some hb]
  ·rw[setO_ne h1,swN_ne h1 h2]
theorem rnT_lk {f:Nat→Nat}:∀ {tm:Tm} {d:Nat},lk (rnT f tm) d=(lk tm d).rn f
 |[],d=>by simp[rnT,lk,AV.rn]
 |(s,x)::r,d=>by
  rw[rnT,lk_cons,lk_cons,rnT_lk (tm:=r)]
  split<;>rfl
theorem Env.sw (En:Env F ρ (hp L) w) {a b:Nat} (ha:a<L.length) (hb:b<L.length) :
  Step F ρ (hp L) w F (fun j=>ρ (swN a b j)) (hp (swL a b L)) w∧Env F (fun j=>ρ (swN a b j)) (hp (swL a b L)) w:=by
 have hget:∀ j o,(swL a b L)[j]?=some o→∃ o1,L[swN a b j]?=some o1∧o=o1.rn (swN a b):=by
  intro j o h
  rw[swL_get ha hb] at h
  cases hq:L[swN a b j]? with
  |none=>rw[hq] at h;cases h
  |some o1=>rw[hq] at h;injection h with h;exact⟨o1,rfl,h.symm⟩
 refine⟨⟨rfl,rfl,rfl,Nat.le_refl _,fun _ _ _=>rfl,fun _ h=>h,fun b hb=>.inl hb,fun c ⟨i,o',hh,h1,h2,h3,h4⟩=>?_⟩,En.fb,fun i hi=>?_,fun i o' hi hl=>?_,fun i j o o' hh hh' c e1 e2 l1 l2 r1 r2 b1 b2=>?_⟩
 ·obtain⟨o1,q1,rfl⟩:=hget i o' h1
  exact .inr ⟨_,o1,hh,q1,by rw[AObj.rn_live] at h2;exact h2,h3,h4⟩
 ·refine En.abs _ ?_
  show L[swN a b i]?=none
  have hi:(swL a b L)[i]?=none:=hi
  rw[swL_get ha hb] at hi
  cases hq:L[swN a b i]? with
  |none=>rfl
  |some _=>rw[hq] at hi;cases hi
 ·obtain⟨o1,q1,rfl⟩:=hget i o' hi
  obtain⟨hh,e1,e2,e3⟩:=En.rep _ o1 q1 (by rw[AObj.rn_live] at hl;exact hl)
  exact⟨hh,e1,e2.rn (fun j h hj=>by show ρ (swN a b (swN a b j))=some h;rw[swN_two];exact hj),e3⟩
 ·obtain⟨o1,q1,rfl⟩:=hget i o e1
  obtain⟨o2,q2,rfl⟩:=hget j o' e2
  have:=En.inj _ _ o1 o2 hh hh' c q1 q2 (by rw[AObj.rn_live] at l1;exact l1) (by rw[AObj.rn_live] at l2;exact l2) r1 r2 b1 b2
  rw[←swN_two (a:=a) (b:=b) (j:=i),this,swN_two]
theorem RA.sw {a b:Nat} {x:AV} {v:Value} (h:RA w F ρ x v):RA w F (fun j=>ρ (swN a b j)) (x.rn (swN a b)) v:=
 h.rn (fun j h hj=>by show ρ (swN a b (swN a b j))=some h;rw[swN_two];exact hj)
theorem mvN_a {a b:Nat}:mvN a b a=b:=by unfold mvN;rw[show Nat.beq a a=true by simp]
theorem mvN_ne {a b j:Nat} (h:j≠a):mvN a b j=j:=by
 unfold mvN
 split
 ·rename_i e;exact absurd (Nat.eq_of_beq_eq_true e) h
 ·rfl
theorem mvL_length {a:Nat}:(mvL a L).length=L.length+1:=by unfold mvL;rw[AObj.rns_length,List.length_append,setO_length];rfl
theorem mvL_get {a:Nat} (ha:a<L.length) (j:Nat):(mvL a L)[j]?=if j=a then some .dead else if j=L.length then some ((getO L a).rn (mvN a L.length)) else (L[j]?).map (AObj.rn (mvN a L.length)):=by
 unfold mvL
 rw[AObj.rns_get]
 by_cases h1:j=a
 ·subst h1
  rw[if_pos rfl,List.getElem?_append_left (by rw[setO_length];exact ha),setO_same ha];rfl
 ·rw[if_neg h1]
  by_cases h2:j=L.length
  ·subst h2
   rw[if_pos rfl,List.getElem?_append_right (by rw[setO_length];omega),setO_length,Nat.sub_self];rfl
  ·rw[if_neg h2]
   congr 1
   by_cases h3:j<L.length
   ·rw[List.getElem?_append_left (by rw[setO_length];exact h3),setO_ne h1]
   ·rw[List.getElem?_eq_none (by simp[setO_length];omega),List.getElem?_eq_none (by omega)]
theorem Env.mv (En:Env F ρ (hp L) w) {a:Nat} (ha:a<L.length) :
  Step F ρ (hp L) w F (updF ρ L.length (ρ a)) (hp (mvL a L)) w∧Keep ρ (updF ρ L.length (ρ a))∧(∀ j h,ρ j=some h→updF ρ L.length (ρ a) (mvN a L.length j)=some h)∧Env F (updF ρ L.length (ρ a)) (hp (mvL a L)) w:=by
 have hn:ρ L.length=none:=En.abs _ (List.getElem?_eq_none (Nat.le_refl _))
 have hk:Keep ρ (updF ρ L.length (ρ a)):=fun j h hj=>by
  by_cases e:j=L.length
  ·subst e;rw[hn] at hj;cases hj
  ·rw[updF_ne _ _ e];exact hj
 have hf:∀ j h,ρ j=some h→updF ρ L.length (ρ a) (mvN a L.length j)=some h:=fun j h hj=>by
  by_cases e:j=a
  ·subst e;rw[mvN_a,updF_same];exact hj
  ·rw[mvN_ne e];exact hk j h hj

 have src:∀ j o,(mvL a L)[j]?=some o→o.live=true→∃ i o1,L[i]?=some o1∧o=o1.rn (mvN a L.length)∧updF ρ L.length (ρ a) j=ρ i∧j≠a∧((j=L.length∧i=a)∨(j≠L.length∧i=j)):=by
  intro j o h hl
  rw[mvL_get ha] at h
  by_cases h1:j=a
  ·rw[if_pos h1] at h;injection h with h;subst h;cases hl
  ·rw[if_neg h1] at h
   by_cases h2:j=L.length
   ·rw[if_pos h2] at h;injection h with h
    exact⟨a,getO L a,getO_some ha,h.symm,by rw[h2,updF_same],h1,.inl ⟨h2,rfl⟩⟩
   ·rw[if_neg h2] at h
    cases hq:L[j]? with
    |none=>rw[hq] at h;cases h
    |some o1=>rw[hq] at h;injection h with h;exact⟨j,o1,hq,h.symm,updF_ne _ _ h2,h1,.inr ⟨h2,rfl⟩⟩
 refine⟨⟨rfl,rfl,rfl,Nat.le_refl _,fun _ _ _=>rfl,fun _ h=>h,fun b hb=>.inl hb,fun c ⟨i,o',hh,h1,h2,h3,h4⟩=>?_⟩,hk,hf,En.fb,fun i hi=>?_,fun i o' hi hl=>?_,fun i j o o' hh hh' c e1 e2 l1 l2 r1 r2 b1 b2=>?_⟩
 ·obtain⟨i1,o1,q1,rfl,q3,_⟩:=src i o' h1 h2
  exact .inr ⟨i1,o1,hh,q1,by rw[AObj.rn_live] at h2;exact h2,by rw[←q3];exact h3,h4⟩
 ·have hi:(mvL a L)[i]?=none:=hi
  have:=List.getElem?_eq_none_iff.1 hi
  rw[mvL_length] at this
  rw[updF_ne _ _ (by omega)]
  exact En.abs i (List.getElem?_eq_none (by omega))
 ·obtain⟨i1,o1,q1,rfl,q3,_⟩:=src i o' hi hl
  obtain⟨hh,e1,e2,e3⟩:=En.rep _ o1 q1 (by rw[AObj.rn_live] at hl;exact hl)
  exact⟨hh,by rw[q3];exact e1,e2.rn hf,e3⟩
 ·obtain⟨i1,o1,q1,rfl,q3,qa,q4⟩:=src i o e1 l1
  obtain⟨j1,o2,g1,rfl,g3,ga,g4⟩:=src j o' e2 l2
  have:=En.inj _ _ o1 o2 hh hh' c q1 g1 (by rw[AObj.rn_live] at l1;exact l1) (by rw[AObj.rn_live] at l2;exact l2) (by rw[←q3];exact r1) (by rw[←g3];exact r2) b1 b2
  omega
def lo (ρ:Nat→Option Value) (m i:Nat):Option Value:=if i<m then ρ i else none
theorem lo_in {m i:Nat} {h:Value} (hi:i<m) (hρ:ρ i=some h):lo ρ m i=some h:=by unfold lo;rw[if_pos hi];exact hρ
theorem cutN_ra {m i:Nat} {x:AV} {v:Value} (h:i<m→RA w F (lo ρ m) x v):RA w F (lo ρ m) (cutN m i x) v:=by
 unfold cutN
 split
 ·rename_i e;exact h (by simpa [Nat.blt_eq] using e)
 ·exact .any v
mutual
theorem RA.cut {m:Nat}:∀ {x:AV} {v:Value},RA w F ρ x v→RA w F (lo ρ m) (x.cut m) v
 |_,_,.d h=>by rw[AV.cut];exact .d h
 |_,_,.ptr h=>by rw[AV.cut];exact cutN_ra fun hi=>.ptr (lo_in hi h)
 |_,_,.own h=>by rw[AV.cut];exact cutN_ra fun hi=>.own (lo_in hi h)
 |_,_,.ep h=>by rw[AV.cut];exact cutN_ra fun hi=>.ep (lo_in hi h)
 |_,_,.fp hb h hc=>by rw[AV.cut];exact .fp hb h hc
 |_,_,.agg h h1=>by rw[AV.cut];exact .agg (RAs.cut h) h1
 |_,_,.tup h=>by rw[AV.cut];exact .tup (RAs.cut h)
 |_,_,.fn h h'=>by rw[AV.cut];exact .fn (RAs.cut h) (RAs.cut h')
 |_,_,.mp h=>by rw[AV.cut];exact cutN_ra fun hi=>.mp (lo_in hi h)
 |_,_,.rel h hp=>by rw[AV.cut];exact cutN_ra fun hi=>.rel (lo_in hi h) hp
 |_,_,.any v=>by rw[AV.cut];exact .any v
theorem RAs.cut {m:Nat}:∀ {xs:List AV} {vs:List Value},RAs w F ρ xs vs→RAs w F (lo ρ m) (AV.cuts m xs) vs
 |_,_,.nil=>by rw[AV.cuts];exact .nil
 |_,_,.cons h hr=>by rw[AV.cuts];exact .cons (RA.cut h) (RAs.cut hr)
end
theorem cutL_get {m:Nat}:∀ {n:Nat} {l:List AObj} {j:Nat},(cutL m n l)[j]?=if j<n then (l[j]?).map (AObj.cut m) else none
 |0,l,j=>by simp[cutL]
 |n+1,[],j=>by simp[cutL]
 |n+1,o::r,0=>by simp[cutL]
 |n+1,o::r,j+1=>by simp[cutL,cutL_get (n:=n) (l:=r) (j:=j)]
theorem cut_live {m:Nat} {o:AObj}:(o.cut m).live=o.live:=by cases o<;>rfl
theorem ORep.cut {m:Nat} {h:Value} {o:AObj} (hr:ORep w F ρ h o):ORep w F (lo ρ m) h (o.cut m):=by
 cases o with
 |cells cs=>obtain⟨b,t,vs,e,hB,hra,h1⟩:=hr;exact⟨b,t,vs,e,hB,hra.cut,h1⟩
 |iter x p=>obtain⟨b,o,v,e,ho,hx,hp⟩:=hr;exact⟨b,o,v,e,ho,hx.cut,hp⟩
 |_=>exact hr
theorem cutT_lk {m:Nat}:∀ {tm:Tm} {d:Nat},lk (cutT m tm) d=(lk tm d).cut m
 |[],d=>by simp[cutT,lk,AV.cut]
 |(s,x)::r,d=>by
  rw[cutT,lk_cons,lk_cons,cutT_lk (tm:=r)]
  split<;>rfl
theorem cutL_length {m:Nat}:∀ {n:Nat} {l:List AObj},n≤l.length→(cutL m n l).length=n
 |0,_,_=>by simp[cutL]
 |n+1,[],h=>by simp at h
 |n+1,o::r,h=>by simp[cutL,cutL_length (n:=n) (l:=r) (by simpa using h)]
theorem Env.cut (En:Env F ρ (hp L) w) (m:Nat):Step F ρ (hp L) w F (lo ρ m) (hp (cutL m m L)) w∧Env F (lo ρ m) (hp (cutL m m L)) w:=by
 have src:∀ j o,(cutL m m L)[j]?=some o→j<m∧∃ o1,L[j]?=some o1∧o=o1.cut m:=by
  intro j o h
  rw[cutL_get] at h
  by_cases hj:j<m
  ·rw[if_pos hj] at h
   cases hq:L[j]? with
   |none=>rw[hq] at h;cases h
   |some o1=>rw[hq] at h;injection h with h;exact⟨hj,o1,rfl,h.symm⟩
  ·rw[if_neg hj] at h;cases h
 have up:∀ i h,lo ρ m i=some h→ρ i=some h:=by
  intro i h hi
  unfold lo at hi
  split at hi
  ·exact hi
  ·cases hi
 refine⟨⟨rfl,rfl,rfl,Nat.le_refl _,fun _ _ _=>rfl,fun _ h=>h,fun b hb=>.inl hb,fun c ⟨i,o',hh,h1,h2,h3,h4⟩=>?_⟩,En.fb,fun i hi=>?_,fun i o' hi hl=>?_,fun i j o o' hh hh' c e1 e2 l1 l2 r1 r2 b1 b2=>?_⟩
 ·obtain⟨_,o1,q1,rfl⟩:=src i o' h1
  exact .inr ⟨i,o1,hh,q1,by rw[cut_live] at h2;exact h2,up _ _ h3,h4⟩
 ·have hi:(cutL m m L)[i]?=none:=hi
  rw[cutL_get] at hi
  unfold lo
  by_cases hj:i<m
  ·rw[if_pos hj] at hi ⊢
   refine En.abs i ?_
   show L[i]?=none
   cases hq:L[i]? with
   |none=>rfl
   |some o1=>rw[hq] at hi;cases hi
  ·rw[if_neg hj]
 ·obtain⟨hj,o1,q1,rfl⟩:=src i o' hi
  obtain⟨hh,e1,e2,e3⟩:=En.rep _ o1 q1 (by rw[cut_live] at hl;exact hl)
  exact⟨hh,lo_in hj e1,e2.cut,e3⟩
 ·obtain⟨_,o1,q1,rfl⟩:=src i o e1
  obtain⟨_,o2,q2,rfl⟩:=src j o' e2
  exact En.inj _ _ o1 o2 hh hh' c q1 q2 (by rw[cut_live] at l1;exact l1) (by rw[cut_live] at l2;exact l2) (up _ _ r1) (up _ _ r2) b1 b2
theorem swOk_out {a b:Nat} (h:swOk k0 a b L=true):k0≤a∧k0≤b∧a<L.length∧b<L.length:=by
 simp only[swOk,Bool.and_eq_true,Nat.ble_eq,Nat.blt_eq] at h
 exact⟨h.1.1.1,h.1.1.2,h.1.2,h.2⟩
theorem In.weak0 (hk0:∀ i h,ρk i=some h→i<k0) (h:Weak0 k0 tm L tm' L') (hI:In F0 ρ0 H0 w0 nm ρk k0 N tm L a w):In F0 ρ0 H0 w0 nm ρk k0 N tm' L' a w:=by
 obtain⟨h1,h2,h3⟩:=h
 simp only[Bool.and_eq_true,Nat.ble_eq] at h1
 obtain⟨F,ρ,S0,K0,En,Sl,hk,hM⟩:=hI
 obtain⟨S1,E1⟩:=En.weak h1.2 h3
 refine⟨_,_,S0.trans S1,fun i v hv=>?_,E1,⟨fun d=>wkA_out En (wkT_lk h2 d) (tmLt_lk h1.1.2 d) (Sl.1 d),Sl.2⟩,h1.1.1,hM.step S1⟩
 unfold rlow
 rw[if_pos (Nat.lt_of_lt_of_le (hk0 i v hv) h1.1.1),if_pos (Nat.lt_of_lt_of_le (hk0 i v hv) hk)]
 exact K0 i v hv
theorem In.weakS (hk0:∀ i h,ρk i=some h→i<k0):∀ {sw:List (Nat × Nat)} {tm:Tm} {L:List AObj},WeakS k0 tm L tm' L' sw→In F0 ρ0 H0 w0 nm ρk k0 N tm L a w→In F0 ρ0 H0 w0 nm ρk k0 N tm' L' a w
 |[],_,_,h,hI=>hI.weak0 hk0 h
 |(c,d)::r,tm,L,h,hI=>by
  unfold WeakS at h
  split at h
  ·rename_i hd
   have hd:=Nat.eq_of_beq_eq_true hd
   subst hd
   obtain⟨h1,h2⟩:=h
   refine In.weakS hk0 h2 ?_
   obtain⟨F,ρ,S0,K0,En,Sl,hk,hM⟩:=hI
   obtain⟨S1,K1,f1,E1⟩:=En.mv (a:=c) (by simpa [Nat.blt_eq] using h1)
   exact⟨_,_,S0.trans S1,fun i v hv=>K1 i v (K0 i v hv),E1,⟨fun k=>by rw[rnT_lk];exact (Sl.1 k).rn f1,Sl.2⟩,by rw[mvL_length];omega,hM.step S1⟩
  split at h
  ·obtain⟨h1,h2⟩:=h
   simp only[Bool.and_eq_true,Nat.ble_eq] at h1
   obtain⟨h1,hle⟩:=h1
   refine In.weakS hk0 h2 ?_
   obtain⟨F,ρ,S0,K0,En,Sl,hk,hM⟩:=hI
   obtain⟨S1,E1⟩:=En.cut c
   exact⟨_,_,S0.trans S1,fun i v hv=>lo_in (Nat.lt_of_lt_of_le (hk0 i v hv) h1) (K0 i v hv),E1,⟨fun k=>by rw[cutT_lk];exact (Sl.1 k).cut,Sl.2⟩,by rw[cutL_length hle];exact h1,hM.step S1⟩
  obtain⟨h1,h2⟩:=h
  obtain⟨g1,g2,g3,g4⟩:=swOk_out h1
  refine In.weakS hk0 h2 ?_
  obtain⟨F,ρ,S0,K0,En,Sl,hk,hM⟩:=hI
  obtain⟨S1,E1⟩:=En.sw g3 g4
  refine⟨_,_,S0.trans S1,fun i v hv=>?_,E1,⟨fun k=>by rw[rnT_lk];exact (Sl.1 k).sw,Sl.2⟩,by rw[swL_length];exact hk,hM.step S1⟩
  have hi:=hk0 i v hv
  show ρ (swN c d i)=some v
  rw[swN_ne (by omega) (by omega)]
  exact K0 i v hv
theorem In.weak (hk0:∀ i h,ρk i=some h→i<k0) (h:Weak k0 tm L tm' L') (hI:In F0 ρ0 H0 w0 nm ρk k0 N tm L a w):In F0 ρ0 H0 w0 nm ρk k0 N tm' L' a w:=by
 obtain⟨sw,h⟩:=h
 exact hI.weakS hk0 h
end
section
variable {w w':World} {F F':Nat→Prop} {ρ ρ':Nat→Option Value} {N:Nat} {tm tm':Tm} {a:Act}
theorem Env.others {H:Hp} (En:Env F ρ H w) (hs:w.heap.size≤w'.heap.size) (hb:∀ b,(F b∨Lv ρ H b)→w'.heap[b]?=w.heap[b]?):Env F ρ H w':=by
 refine⟨fun b h=>Nat.lt_of_lt_of_le (En.fb b h) hs,En.abs,fun i o hi hl=>?_,En.inj⟩
 obtain⟨h,e1,e2,e3⟩:=En.rep i o hi hl
 exact⟨h,e1,e2.mono hs (fun b hbb hlt=>hb b (.inr ⟨i,o,h,hi,hl,e1,hbb⟩)) (fun b hf=>hb b (.inl hf)) (fun _ h=>h) (Keep.refl _),fun b hbb=>⟨Nat.lt_of_lt_of_le (e3 b hbb).1 hs,(e3 b hbb).2⟩⟩
theorem Step.others {F0:Nat→Prop} {ρ0:Nat→Option Value} {H0 H:Hp} {w0:World} (S:Step F0 ρ0 H0 w0 F ρ H w) (ho:w'.os=w.os) (ht:w'.tape=w.tape) (hu:w'.output=w.output) (hs:w.heap.size≤w'.heap.size) (hb:∀ b,b<w0.heap.size→w'.heap[b]?=w.heap[b]?):Step F0 ρ0 H0 w0 F ρ H w':=
 ⟨ho.trans S.os,ht.trans S.tape,hu.trans S.output,Nat.le_trans S.size hs,fun b h hl=>(hb b h).trans (S.unch b h hl),S.fsub,S.fsrc,S.lsrc⟩
theorem Step.others2 {F0:Nat→Prop} {ρ0:Nat→Option Value} {H0 H:Hp} {w0:World} (S:Step F0 ρ0 H0 w0 F ρ H w) (ho:w'.os=w.os) (ht:w'.tape=w.tape) (hu:w'.output=w.output) (hs:w.heap.size≤w'.heap.size) (hb:∀ b,b<w0.heap.size→¬Lv ρ0 H0 b→w'.heap[b]?=w.heap[b]?):Step F0 ρ0 H0 w0 F ρ H w':=
 ⟨ho.trans S.os,ht.trans S.tape,hu.trans S.output,Nat.le_trans S.size hs,fun b h hl=>(hb b h hl).trans (S.unch b h hl),S.fsub,S.fsrc,S.lsrc⟩
theorem Slots.others (h:Slots w F ρ N tm a) (hb:∀ b,F b→w'.heap[b]?=w.heap[b]?):Slots w' F ρ N tm a:=⟨fun d=>(h.1 d).mono hb (fun _ h=>h) (Keep.refl _),h.2⟩
end
def Near (O:Nat→Prop) (w w':World):Prop:=w'.os=w.os∧w'.tape=w.tape∧w'.output=w.output∧w.heap.size≤w'.heap.size∧∀ b,O b→w'.heap[b]?=w.heap[b]?
def Far (O:Nat→Prop) (w w':World):Prop:=w'.os=w.os∧w'.tape=w.tape∧w'.output=w.output∧w.heap.size≤w'.heap.size∧∀ b,b<w.heap.size→¬O b→w'.heap[b]?=w.heap[b]?
def IterW (P:Program) (f:FuncId) (us vs:List Value) {Y:Type} (y0:Y) (Nx:Y→List Value→Y→Prop) (Fin:Y→Prop) (Ok:World→Prop) (l:Nat):Prop:=
 ∀ (J:Y→(Nat→Prop)→World→Prop) (Jx:(Nat→Prop)→World→Prop),
  (∀ k O w,J k O w→Ok w∧∀ b,O b→b<w.heap.size)→(∀ k O w w',J k O w→Near O w w'→J k O w')→(∀ O w w',Jx O w→Near O w w'→Jx O w') →
  (∀ k O w x k',Nx k x k'→J k O w→YieldAt Fence.wide 0 P l x.toArray w fun e w'=>∃ O',Far O w w'∧(∀ b,O' b→O b∨w.heap.size≤b)∧((e=.returned (.bool true)∧J k' O' w')∨(e=.returned (.bool false)∧Jx O' w'))) →
  ∀ O w,J y0 O w→Calls P f (us++.func (.yield l) #[] #[]::vs).toArray w fun e w'=>(∃ v,e=.returned v)∧∃ O',(∃ y,Fin y∧J y O' w')∨Jx O' w'
def IterN (P:Program) (f:FuncId) (first caps:List AV) (Lc:List AObj) {Y:Type} (y0:Y) (Nx:Y→List AV→Y→Prop) (Fin:Y→Prop):Prop:=
 ∀ (us vs:List Value) (l:Nat) (ρ0:Nat→Option Value),∃ Nv:Y→List Value→Y→Prop,(∀ y vals y',Nv y vals y'→∃ x,Nx y x y'∧∀ w F ρ,RAs w F ρ x vals) ∧
  IterW P f us vs y0 Nv Fin (fun w=>∃ F ρ H,Env F ρ H w∧(∀ (i:Nat) o,Lc[i]?=some o→o.live=true→H i=some o∧∃ h,ρ0 i=some h∧ρ i=some h)∧RAs w F ρ first us∧RAs w F ρ caps vs) l
def IterWS (P:Program) (f:FuncId) (us vs:List Value) {Y:Type} (y0:Y) (Nx:Y→List Value→Y→Prop) (Fin:Y→Prop) (Ok:Y→World→Prop) (l:Nat):Prop:=
 ∀ (J:Y→(Nat→Prop)→World→Prop) (Jx:(Nat→Prop)→World→Prop),
  (∀ k O w,J k O w→Ok k w∧∀ b,O b→b<w.heap.size)→(∀ k O w w',J k O w→Near O w w'→J k O w')→(∀ O w w',Jx O w→Near O w w'→Jx O w') →
  (∀ k O w x k',Nx k x k'→J k O w→YieldAt Fence.wide 0 P l x.toArray w fun e w'=>∃ O',Far O w w'∧(∀ b,O' b→O b∨w.heap.size≤b)∧((e=.returned (.bool true)∧J k' O' w')∨(e=.returned (.bool false)∧Jx O' w'))) →
  ∀ O w,J y0 O w→Calls P f (us++.func (.yield l) #[] #[]::vs).toArray w fun e w'=>(∃ v,e=.returned v)∧∃ O',(∃ y,Fin y∧J y O' w')∨Jx O' w'
def IterG (P:Program) (f:FuncId) (us vs:List Value) {Y:Type} (y0:Y) (Nx:Y→List Value→Y→Prop) (Fin:Y→Prop) (Ok:Y→World→Prop) (St:(Nat→Prop)→World→Prop) (l:Nat):Prop:=
 ∀ (J:Y→(Nat→Prop)→World→Prop) (Jx:(Nat→Prop)→World→Prop),
  (∀ k O w,J k O w→Ok k w∧∀ b,O b→b<w.heap.size)→(∀ k O w w',J k O w→Near O w w'→J k O w')→(∀ O w w',Jx O w→Near O w w'→Jx O w') →
  (∀ k O w x k',Nx k x k'→J k O w→YieldAt Fence.wide 0 P l x.toArray w fun e w'=>∃ O',Far O w w'∧(∀ b,O' b→O b∨w.heap.size≤b)∧((e=.returned (.bool true)∧J k' O' w')∨(e=.returned (.bool false)∧Jx O' w'))) →
  ∀ O w,J y0 O w→St O w→Calls P f (us++.func (.yield l) #[] #[]::vs).toArray w fun e w'=>(∃ v,e=.returned v)∧∃ O',(∃ y,Fin y∧J y O' w')∨Jx O' w'
def IterO (P:Program) (f:FuncId) (first caps:List AV) (Hs:List AObj) {Y:Type} (y0:Y) (Nx:Y→List AV→Y→Prop) (Fin:Y→Prop):Prop:=
 ∀ (us vs:List Value) (l:Nat),∃ Nv:Y→List Value→Y→Prop,(∀ y vals y',Nv y vals y'→∃ x,Nx y x y'∧∀ w F ρ,RAs w F ρ x vals) ∧
  IterG P f us vs y0 Nv Fin (fun _ _=>True) (fun O w=>∃ F ρ H,Env F ρ H w∧(∀ (i:Nat) o,Hs[i]?=some o→o.live=true→H i=some o∧∀ h b,ρ i=some h→blkOf h=some b→¬O b)∧RAs w F ρ first us∧RAs w F ρ caps vs) l
def killBy:List AObj→List AObj→List AObj
 |[],L=>L
 |_::_,[]=>[]
 |h::r,o::L=>(match h.live with|true=>.dead|false=>o)::killBy r L
def IterS (P:Program) (f:FuncId) (first caps:List AV) (Lc:List AObj) {Y:Type} (need:Y→Bool) (y0:Y) (Nx:Y→List AV→Y→Prop) (Fin:Y→Prop):Prop:=
 ∀ (us vs:List Value) (l:Nat) (ρ0:Nat→Option Value),∃ Nv:Y→List Value→Y→Prop,(∀ y vals y',Nv y vals y'→∃ x,Nx y x y'∧∀ w F ρ,RAs w F ρ x vals) ∧
  IterWS P f us vs y0 Nv Fin (fun k w=>need k=true→∃ F ρ H,Env F ρ H w∧(∀ (i:Nat) o,Lc[i]?=some o→o.live=true→H i=some o∧∃ h,ρ0 i=some h∧ρ i=some h)∧RAs w F ρ first us∧RAs w F ρ caps vs) l
theorem IterN.toS {P:Program} {f:FuncId} {first caps:List AV} {Lc:List AObj} {Y:Type} {y0:Y} {Nx:Y→List AV→Y→Prop} {Fin:Y→Prop} (h:IterN P f first caps Lc y0 Nx Fin):IterS P f first caps Lc (fun _=>true) y0 Nx Fin:=by
 intro us vs l ρ0
 obtain⟨Nv,h1,h2⟩:=h us vs l ρ0
 exact⟨Nv,h1,fun J Jx hJ=>h2 J Jx fun k O w q=>⟨(hJ k O w q).1 rfl,(hJ k O w q).2⟩⟩
def ItOf (P:Program) (f:FuncId) (first caps:List AV) {Y:Type} (Lc:List AObj × Option (Y→Bool)) (y0:Y) (Nx:Y→List AV→Y→Prop) (Fin:Y→Prop):Prop:=match Lc.2 with
 |none=>IterN P f first caps Lc.1 y0 Nx Fin
 |some need=>need y0=true∧IterS P f first caps Lc.1 need y0 Nx Fin
def putP:List Tmp→List AV→Tm→Tm
 |p::ps,x::xs,tm=>putP ps xs ((p,x)::tm)
 |_,_,tm=>tm
def AgreeL:List AObj→List AObj→Prop
 |[],_=>True
 | .dead::r,_::r'=>AgreeL r r'
 |o::r,o'::r'=>o=o'∧AgreeL r r'
 |_::_,[]=>False
def AgreeK {Y:Type} (Lc:List AObj × Option (Y→Bool)) (k:Y) (L':List AObj):Prop:=match Lc.2 with
 |none=>AgreeL Lc.1 L'
 |some need=>need k=true→AgreeL Lc.1 L'
theorem ItOf.out {P:Program} {f:FuncId} {first caps:List AV} {Y:Type} {Lc:List AObj × Option (Y→Bool)} {y0:Y} {Nx:Y→List AV→Y→Prop} {Fin:Y→Prop} (h:ItOf P f first caps Lc y0 Nx Fin) :
  ∃ need:Y→Bool,need y0=true∧IterS P f first caps Lc.1 need y0 Nx Fin∧∀ k L',AgreeK Lc k L'→need k=true→AgreeL Lc.1 L':=by
 obtain⟨l,o⟩:=Lc
 cases o with
 |none=>exact⟨fun _=>true,rfl,IterN.toS h,fun k L' q _=>q⟩
 |some need=>exact⟨need,h.1,h.2,fun k L' q hn=>q hn⟩
def parsB (N:Nat):List Tmp→Bool
 |[]=>true
 |p::r=>Nat.blt p N && parsB N r
abbrev CodeF:=Nat→Bool→Tm→List AObj→(Exit→Tm→List AObj→Prop)→Prop
def cEnd (e:Exit):CodeF:=fun _ _ tm L K=>K e tm L
def cNo:CodeF:=fun _ _ _ _ _=>False
def entryB:List Oper→Bool
 |[]=>false
 |o::r=>match o.op with | .mapEntry _ _ _=>true|_=>entryB r
def RegOK (P:Program) (N:Nat) (ops:Array Oper) (draw:Bool) (tm:Tm) (L:List AObj) (tm':Tm) (L':List AObj):Prop:=
 L.length≤L'.length∧∀ (id:Nat) (ro:Option Nat) (nF:Nat) (F:Nat→Prop) (ρ:Nat→Option Value) (w:World) (a:Act) (Q:Exit→Act→World→Prop),Env F ρ (hp L) w→Slots w F ρ N tm a →
  (∀ a' w' F' ρ',Step F ρ (hp L) w F' ρ' (hp L') w'→Keep ρ ρ'→Env F' ρ' (hp L') w'→Slots w' F' ρ' N tm' a'→a'.defers=a.defers→Q .normal a' w')→(Code.region id ops draw).wpIn (Fw ro) nF P Q a w
def rawK (P:Program) (N:Nat) (ops:Array Oper) (draw:Bool) (tm:Tm) (L:List AObj) (K:Tm→List AObj→Prop):Prop:=∃ tm' L',RegOK P N ops draw tm L tm' L'∧K tm' L'
def fiveB:List Oper→Bool
 |[]=>false
 |o::r=>match o.op with | .buildSlice _ 5 _=>true|_=>fiveB r
def cRegion (P:Program) (T:TypeId→TI) (E:Nat→Bool) (N:Nat) (ops:Array Oper) (draw:Bool):CodeF:=fun k0 _ tm L K=>
 match entryB ops.toList with
 |true=>rawK P N ops draw tm L (K .normal)
 |false=>match draw with
 |false=>(match fiveB ops.toList with
  |true=>vcOps P T E N ops.toList ops.toList tm L fun tm1 L1=>∃ tm2 L2,Weak k0 tm1 L1 tm2 L2∧K .normal tm2 L2
  |false=>vcOps P T E N ops.toList ops.toList tm L (K .normal))
 |true=>(flowOk ops && dstsOk ops.toList N && guardsOk ops && noDefer ops.toList)=true∧drawOps P T E N ops.toList ops.toList tm L (fun l=>l) fun es tm L=>orderB ops.toList es=true∧K .normal tm L
def cSeq (x y:CodeF):CodeF:=fun k0 rd tm L K=>x k0 rd tm L fun e tm L=>match e with
 | .normal=>y k0 rd tm L K
 |e=>K e tm L
def cJoin (x y:CodeF):CodeF:=fun k0 rd tm L K=>cSeq x y k0 rd tm L K∨∃ (X:Type) (Inv:X→Prop) (pat:X→Tm × List AObj),(x k0 rd tm L fun e tm' L'=>match e with
  | .normal=>∃ z,Inv z∧Weak k0 tm' L' (pat z).1 (pat z).2
  |e=>K e tm' L')∧∀ z,Inv z→y k0 rd (pat z).1 (pat z).2 K
def cSeqJ (c:Code) (x y:CodeF):CodeF:=
 Code.rec (motive:=fun _=>CodeF) (cSeq x y) (fun _ _ _=>cSeq x y) (fun _ _ _ j=>j) (fun _ _ _ _ _=>cJoin x y) (fun _ _ _=>cJoin x y) (fun _ _=>cSeq x y)
  (fun _ _ _ _ _ _=>cSeq x y) (fun _=>cSeq x y) (fun _ _=>cSeq x y) (fun _=>cSeq x y) (fun _=>cSeq x y) (cSeq x y) (fun _=>cSeq x y) c
theorem cSeqJ_out {x y:CodeF} {k0:Nat} {rd:Bool} {tm:Tm} {L:List AObj} {K:Exit→Tm→List AObj→Prop}:∀ {c:Code},cSeqJ c x y k0 rd tm L K→cJoin x y k0 rd tm L K
 | .skip,h=>.inl h
 | .label _,h=>.inl h
 | .region _ _ _,h=>.inl h
 | .seq _ b,h=>cSeqJ_out (c:=b) h
 | .cond _ _ _,h=>h
 | .block _ _,h=>h
 | .loop _,h=>.inl h
 | .exit _,h=>.inl h
 | .ret,h=>.inl h
 | .rangeFunc ..,h=>.inl h
 | .scope _,h=>.inl h
 | .goto _,h=>.inl h
 | .refuse _,h=>.inl h
def cCond (c:Operand) (x y:CodeF):CodeF:=fun k0 rd tm L K=>match evAV tm c with
 | .d (.v (.bool b))=>match c with
  | .tmp t=>(b=true→x k0 rd ((t,.d (.v (.bool true)))::tm) L K)∧(b=false→y k0 rd ((t,.d (.v (.bool false)))::tm) L K)
  |_=>(b=true→x k0 rd tm L K)∧(b=false→y k0 rd tm L K)
 |_=>False
def cBlock (id:Nat) (x:CodeF):CodeF:=fun k0 rd tm L K=>x k0 rd tm L fun e tm L=>match e with
 | .exit i=>match Nat.beq i id with|true=>K .normal tm L|false=>K (.exit i) tm L
 |e=>K e tm L
def cLoop (x:CodeF):CodeF:=fun k0 rd tm L K=>∃ (X:Type) (Inv:X→Prop) (pat:X→Tm × List AObj) (meas:X→Nat),(∃ x,Inv x∧Weak k0 tm L (pat x).1 (pat x).2)∧∀ y,Inv y→x k0 rd (pat y).1 (pat y).2 fun e tm' L'=>match e with
  | .normal=>∃ z,Inv z∧meas z<meas y∧Weak k0 tm' L' (pat z).1 (pat z).2
  |e=>K e tm' L'
def cRange0 (P:Program) (E:Nat→Bool) (N:Nat) (g:Operand) (ps:Array Tmp) (xa xb:CodeF):CodeF:=fun k0 rd tm L K=>match rd with
 |true=>False
 |false=>∃ (X:Type) (Y:Type) (Inv:Y→X→Prop) (pat:X→List AObj) (tms:Tm) (ks:Nat) (f:FuncId) (first caps:List AV) (Lc:List AObj × Option (Y→Bool)) (y0:Y) (Nx:Y→List AV→Y→Prop) (Fin:Y→Prop),
   (∃ z,Inv y0 z∧Weak k0 tm L tms (pat z))∧evAV tms g=.fn (.func f) first caps∧(E f && Nat.ble k0 ks && tmLt ks tms && parsB N ps.toList && Nat.ble Lc.1.length ks)=true∧ItOf P f first caps Lc y0 Nx Fin∧(∀ k x k',Nx k x k'→x.length=ps.toList.length) ∧
   (∀ k z,Inv k z→AgreeK Lc k (pat z)∧ks≤(pat z).length) ∧
   (∀ k z x k',Inv k z→Nx k x k'→xa ks true (putP ps.toList x tms) (pat z) fun e tm1 L1=>match e with
    | .normal=>xb ks true tm1 L1 fun e tm2 L2=>match e with
     | .normal=>∃ z',Inv k' z'∧Weak ks tm2 L2 [] (pat z')
     | .ret=>K .ret tms L2
     | .exit id=>K (.exit id) tms L2
     |_=>False
    |_=>False) ∧
   ∀ k z,Fin k→Inv k z→K .normal tms (pat z)
def cRangeO (P:Program) (E:Nat→Bool) (N:Nat) (g:Operand) (ps:Array Tmp) (xa xb:CodeF):CodeF:=fun k0 rd tm L K=>match rd with
 |true=>False
 |false=>∃ (X:Type) (Y:Type) (Inv:Y→X→Prop) (pat:X→List AObj) (tms:Tm) (ks:Nat) (f:FuncId) (first caps:List AV) (Hs:List AObj) (y0:Y) (Nx:Y→List AV→Y→Prop) (Fin:Y→Prop) (L1:List AObj),
   Weak k0 tm L tms L1∧(∃ z,Inv y0 z∧killBy Hs L1=pat z)∧evAV tms g=.fn (.func f) first caps∧(E f && Nat.ble k0 ks && tmLt ks tms && parsB N ps.toList && Nat.ble Hs.length L1.length)=true∧AgreeL Hs L1∧IterO P f first caps Hs y0 Nx Fin∧(∀ k x k',Nx k x k'→x.length=ps.toList.length) ∧
   (∀ k z,Inv k z→ks≤(pat z).length) ∧
   (∀ k z x k',Inv k z→Nx k x k'→xa ks true (putP ps.toList x tms) (pat z) fun e tm1 L1=>match e with
    | .normal=>xb ks true tm1 L1 fun e tm2 L2=>match e with
     | .normal=>∃ z',Inv k' z'∧Weak ks tm2 L2 [] (pat z')
     | .ret=>K .ret tms L2
     | .exit id=>K (.exit id) tms L2
     |_=>False
    |_=>False) ∧
   ∀ k z,Fin k→Inv k z→K .normal tms (pat z)
def cRange (P:Program) (E:Nat→Bool) (N:Nat) (g:Operand) (ps:Array Tmp) (xa xb:CodeF):CodeF:=fun k0 rd tm L K=>cRange0 P E N g ps xa xb k0 rd tm L K∨cRangeO P E N g ps xa xb k0 rd tm L K
def vcCode (P:Program) (T:TypeId→TI) (E:Nat→Bool) (N:Nat) (c:Code):CodeF:=
 Code.rec (motive:=fun _=>CodeF) (cEnd .normal) (fun _ ops draw=>cRegion P T E N ops draw) (fun c _ x y=>cSeqJ c x y) (fun c _ _ x y=>cCond c x y) (fun id _ x=>cBlock id x) (fun _ x=>cLoop x)
  (fun g ps _ _ xa xb=>cRange P E N g ps xa xb) (fun id=>cEnd (.exit id)) (fun _ _=>cNo) (fun _=>cEnd .normal) (fun _=>cNo) (cEnd .ret) (fun _=>cNo) c
section
variable {P:Program} {T:TypeId→TI} {E:Nat→Bool} {N:Nat} {ro:Option Nat} {nF:Nat}
theorem least {p:Nat→Prop} (h:∃ n,p n):∃ n,p n∧∀ m,p m→n≤m:=by
 obtain⟨n,hn⟩:=h
 induction n using Nat.strongRecOn with
 |_ n ih=>
  by_cases q:∃ m,m<n∧p m
  ·obtain⟨m,h1,h2⟩:=q
   exact ih m h1 h2
  ·exact⟨n,hn,fun m hm=>Nat.le_of_not_lt fun hlt=>q ⟨m,hlt,hm⟩⟩
theorem wp_loop_ghost {X:Type} {c:Code} {Q:Exit→Act→World→Prop} (I:X→Act→World→Prop) (μ:X→Nat) (round:∀ x a w,I x a w→c.wpIn (Fw ro) nF P (Exit.then (fun a' w'=>∃ y,I y a' w'∧μ y<μ x) Q) a w) (x:X) (a:Act) (w:World) (hI:I x a w):(Code.loop c).wpIn (Fw ro) nF P Q a w:=by
 classical
 have hex:∀ a w,(∃ y,I y a w)→∃ n,∃ y,I y a w∧μ y=n:=fun a w ⟨y,hy⟩=>⟨μ y,y,hy,rfl⟩
 refine wpIn_loop (fun a w=>∃ y,I y a w) (fun a w=>if h:∃ n,∃ y,I y a w∧μ y=n then Classical.choose (least h) else 0) ⟨x,hI⟩ fun a w hy=>?_
 have h1:=hex a w hy
 obtain⟨y,hy,hm⟩:=(Classical.choose_spec (least h1)).1
 refine wpIn_mono (round y a w hy) fun e a' w' hq=>?_
 cases e with
 |normal=>
  obtain⟨z,hz,hlt⟩:=hq
  have h2:=hex a' w' ⟨z,hz⟩
  refine⟨⟨z,hz⟩,?_⟩
  rw[dif_pos h1,dif_pos h2,←hm]
  exact Nat.lt_of_le_of_lt ((Classical.choose_spec (least h2)).2 _ ⟨z,hz,rfl⟩) hlt
 |_=>exact hq
def Sound (P:Program) (N:Nat) (c:Code) (x:CodeF):Prop:=
 ∀ (F0:Nat→Prop) (ρ0:Nat→Option Value) (H0:Hp) (w0:World) (nm:Nat) (ρk:Nat→Option Value) (k0:Nat) (rd:Bool) (ro:Option Nat) (nF:Nat),(∀ i h,ρk i=some h→i<k0)→(rd=false→ro=none∧nm≤w0.heap.size) →
  ∀ (tm:Tm) (L:List AObj) (K:Exit→Tm→List AObj→Prop) (a:Act) (w:World),x k0 rd tm L K→In F0 ρ0 H0 w0 nm ρk k0 N tm L a w→c.wpIn (Fw ro) nF P (fun e a' w'=>∃ tm' L',K e tm' L'∧In F0 ρ0 H0 w0 nm ρk k0 N tm' L' a' w') a w
def Free (F:Nat→Prop) (ρ:Nat→Option Value) (H:Hp) (b:Nat):Prop:=¬F b∧¬Lv ρ H b
theorem Free.step {F F':Nat→Prop} {ρ ρ':Nat→Option Value} {H H':Hp} {w w':World} {b:Nat} (h:Free F ρ H b) (hb:b<w.heap.size) (S:Step F ρ H w F' ρ' H' w'):Free F' ρ' H' b∧w'.heap[b]?=w.heap[b]?:=by
 refine⟨⟨fun q=>?_,fun q=>?_⟩,S.unch b hb h.2⟩
 ·rcases S.fsrc b q with q|q|q
  ·exact h.1 q
  ·omega
  ·exact h.2 q
 ·rcases S.lsrc b q with q|q
  ·omega
  ·exact h.2 q
theorem AgreeL.out:∀ {l l':List AObj},AgreeL l l'→∀ {i:Nat} {o:AObj},l[i]?=some o→o.live=true→l'[i]?=some o
 |[],_,_,i,o,h,_=>by simp at h
 |o::r,[],h,i,o',hi,hl=>by cases o<;>exact h.elim
 | .dead::r,_::r',h,i,o,hi,hl=>by
  cases i with
  |zero=>simp at hi;subst hi;cases hl
  |succ i=>simpa using AgreeL.out (l:=r) (l':=r') h (by simpa using hi) hl
 | .cells cs::r,o'::r',h,i,o,hi,hl=>by
  obtain⟨e,h⟩:=(show _∧_ from h)
  cases i with
  |zero=>simp at hi ⊢;rw[←e,hi]
  |succ i=>simpa using AgreeL.out h (by simpa using hi) hl
 | .row cs::r,o'::r',h,i,o,hi,hl=>by
  obtain⟨e,h⟩:=(show _∧_ from h)
  cases i with
  |zero=>simp at hi ⊢;rw[←e,hi]
  |succ i=>simpa using AgreeL.out h (by simpa using hi) hl
 | .sl s rows::r,o'::r',h,i,o,hi,hl=>by
  obtain⟨e,h⟩:=(show _∧_ from h)
  cases i with
  |zero=>simp at hi ⊢;rw[←e,hi]
  |succ i=>simpa using AgreeL.out h (by simpa using hi) hl
 | .obj p::r,o'::r',h,i,o,hi,hl=>by
  obtain⟨e,h⟩:=(show _∧_ from h)
  cases i with
  |zero=>simp at hi ⊢;rw[←e,hi]
  |succ i=>simpa using AgreeL.out h (by simpa using hi) hl
 | .iter x p::r,o'::r',h,i,o,hi,hl=>by
  obtain⟨e,h⟩:=(show _∧_ from h)
  cases i with
  |zero=>simp at hi ⊢;rw[←e,hi]
  |succ i=>simpa using AgreeL.out h (by simpa using hi) hl
theorem putP_slots {w:World} {F:Nat→Prop} {ρ:Nat→Option Value}:∀ {ps:List Tmp} {xs:List AV} {vs:List Value} {tm:Tm} {tmps:Array Value} {ds ds':List Deferred},parsB N ps=true→RAs w F ρ xs vs→xs.length=ps.length→Slots w F ρ N tm { tmps:=tmps,defers:=ds } →
  Slots w F ρ N (putP ps xs tm) { tmps:=(ps.zip vs).foldl (fun t (x:Tmp × Value)=>t.setIfInBounds x.1 x.2) tmps,defers:=ds' }
 |[],[],_,tm,tmps,ds,ds',_,h,_,hs=>by cases h;exact hs
 |[],_::_,_,_,_,_,_,_,_,hl,_=>by simp at hl
 |_::_,[],_,_,_,_,_,_,_,hl,_=>by simp at hl
 |p::ps,x::xs,_,tm,tmps,ds,ds',hp,h,hl,hs=>by
  cases h with
  |cons hv hr=>
   simp only[parsB,Bool.and_eq_true] at hp
   obtain⟨tm',h1,h2,_⟩:=hs.put (dst:=some p) hv (k:=fun t=>t=(p,x)::tm) (by unfold putK;simp only[hp.1])
   subst h1
   have:=putP_slots (ps:=ps) (ds:=ds) (ds':=ds') hp.2 hr (by simpa using hl) h2
   exact this
def Stand (F0:Nat→Prop) (ρ0:Nat→Option Value) (H0:Hp) (w0:World) (Fs:Nat→Prop) (ws:World) (ρq:Nat→Option Value) (nm:Nat) (ds:List Deferred) (l B:Nat) (Ex:Nat→Prop) (o:Obj) (L:List AObj) (O:Nat→Prop) (w:World):Prop:=
 ∃ F ρ,(∀ b,Ex b→Free F ρ (hp L) b)∧Step F0 ρ0 H0 w0 F ρ (hp L) w∧Keep ρq ρ∧Env F ρ (hp L) w∧(∀ b,Fs b→F b∧w.heap[b]?=ws.heap[b]?)∧Marks F ρ (hp L) w nm ds∧Free F ρ (hp L) l∧w.heap[l]?=some o∧B≤w.heap.size∧O=fun b=>(b<B∧¬Ex b)∨F b∨Lv ρ (hp L) b
section
variable {F0:Nat→Prop} {ρ0:Nat→Option Value} {H0:Hp} {w0:World} {Fs:Nat→Prop} {ws:World} {ρq:Nat→Option Value} {nm:Nat} {ds:List Deferred} {l B:Nat} {Ex:Nat→Prop} {o:Obj} {L:List AObj} {O:Nat→Prop} {w w':World}
theorem Stand.lt (h:Stand F0 ρ0 H0 w0 Fs ws ρq nm ds l B Ex o L O w):∀ b,O b→b<w.heap.size:=by
 obtain⟨F,ρ,_,S,K,E,fk,M,fr,hl,hB,rfl⟩:=h
 rintro b (⟨h,_⟩|h|⟨i,o,v,h1,h2,h3,h4⟩)
 ·omega
 ·exact E.fb b h
 ·obtain⟨v',e,_,hb⟩:=E.rep i o h1 h2
  rw[h3] at e;injection e with e;subst e
  exact (hb b h4).1
theorem Stand.near (h:Stand F0 ρ0 H0 w0 Fs ws ρq nm ds l B Ex o L O w) (h0:w0.heap.size≤B) (hl:l<B) (hds:∀ r,markOf r∈ds→r<B∧¬Ex r) (hxl:∀ b,Ex b→b<l) (hx0:∀ b,Ex b→w0.heap.size≤b∨Lv ρ0 H0 b) (hn:Near O w w'):Stand F0 ρ0 H0 w0 Fs ws ρq nm ds l B Ex o L O w':=by
 obtain⟨F,ρ,fx,S,K,E,fk,⟨rs,e,nd,M⟩,fr,hlo,hB,rfl⟩:=h
 obtain⟨n1,n2,n3,n4,n5⟩:=hn
 refine⟨F,ρ,fx,S.others2 n1 n2 n3 n4 (fun b hb hnl=>n5 b (.inl ⟨by omega,fun q=>(hx0 b q).elim (fun q=>by omega) hnl⟩)),K,E.others n4 (fun b hb=>n5 b (.inr hb)),fun b hb=>⟨(fk b hb).1,(n5 b (.inr (.inl (fk b hb).1))).trans (fk b hb).2⟩,⟨rs,e,nd,fun r hr=>?_⟩,fr,(n5 l (.inl ⟨hl,fun q=>by have:=hxl l q;omega⟩)).trans hlo,by omega,rfl⟩
 obtain⟨g1,g2,g3,g4,g5⟩:=M r hr
 exact⟨g1,by omega,g3,g4,(n5 r (.inl (hds r (by rw[e];exact List.mem_map_of_mem hr)))).trans g5⟩
theorem putObj_size (w:World) (l:Nat) (o:Obj):(w.putObj l o).heap.size=w.heap.size:=by simp[World.putObj]
end
theorem lo_keep {ρ ρ':Nat→Option Value} {m:Nat} (h:Keep ρ ρ'):Keep (lo ρ m) ρ':=fun i v hi=>by
 unfold lo at hi
 split at hi
 ·exact h i v hi
 ·cases hi
theorem lo_lt {ρ:Nat→Option Value} {m:Nat}:∀ i h,lo ρ m i=some h→i<m:=fun i h hi=>by
 unfold lo at hi
 split at hi
 ·assumption
 ·cases hi
theorem Marks.put {F:Nat→Prop} {ρ:Nat→Option Value} {H:Hp} {w:World} {nm l:Nat} {ds:List Deferred} {o o':Obj} (h:Marks F ρ H w nm ds) (hl:w.heap[l]?=some o) (ho:o≠.deferred (some [])):Marks F ρ H (w.putObj l o') nm ds:=by
 obtain⟨rs,e,nd,M⟩:=h
 refine⟨rs,e,nd,fun r hr=>?_⟩
 obtain⟨g1,g2,g3,g4,g5⟩:=M r hr
 have hne:r≠l:=fun e=>by subst e;rw[g5] at hl;injection hl with hl;exact ho hl.symm
 exact⟨g1,by rw[putObj_size];exact g2,g3,g4,(World.putObj_heap_other hne).trans g5⟩
theorem Stand.round {F0:Nat→Prop} {ρ0:Nat→Option Value} {H0:Hp} {w0:World} {Fs:Nat→Prop} {ws:World} {ρq:Nat→Option Value} {nm:Nat} {ds:List Deferred} {l B:Nat} {Ex:Nat→Prop} {o o1 o2:Obj} {L L1 L2:List AObj} {O:Nat→Prop} {w w1 w2:World}
  {F F1 F2:Nat→Prop} {ρ ρ1 ρ2:Nat→Option Value} (h0:w0.heap.size≤l) (hlB:l<B) (hxl:∀ b,Ex b→b<l) (fx:∀ b,Ex b→Free F ρ (hp L) b)
  (S:Step F0 ρ0 H0 w0 F ρ (hp L) w) (E:Env F ρ (hp L) w) (fk:∀ b,Fs b→F b∧w.heap[b]?=ws.heap[b]?) (M:Marks F ρ (hp L) w nm ds) (fr:Free F ρ (hp L) l) (hlo:w.heap[l]?=some o) (ho:o≠.deferred (some [])) (ho1:o1≠.deferred (some [])) (hB:B≤w.heap.size) (hO:O=fun b=>(b<B∧¬Ex b)∨F b∨Lv ρ (hp L) b)
  (S1:Step F ρ (hp L) w F1 ρ1 (hp L1) w1) (E1:Env F1 ρ1 (hp L1) w1) (S2:Step F1 ρ1 (hp L1) (w1.putObj l o1) F2 ρ2 (hp L2) w2) (K2:Keep ρq ρ2) (E2:Env F2 ρ2 (hp L2) w2) :
  w2.heap[l]?=some o1∧∃ O',Far O w (w2.putObj l o2)∧(∀ b,O' b→O b∨w.heap.size≤b)∧Stand F0 ρ0 H0 w0 Fs ws ρq nm ds l B Ex o2 L2 O' (w2.putObj l o2):=by
 subst hO
 have hlw:l<w.heap.size:=by omega
 obtain⟨fr1,e1⟩:=fr.step hlw S1
 have hl1:w1.heap[l]?=some o:=e1.trans hlo
 have hlw1:l<w1.heap.size:=(Array.getElem?_eq_some_iff.1 hl1).1
 have hsz1:=putObj_size w1 l o1
 have hl1':(w1.putObj l o1).heap[l]?=some o1:=World.putObj_heap_same hlw1
 obtain⟨fr2,e2⟩:=fr1.step (by omega) S2
 have hl2:w2.heap[l]?=some o1:=e2.trans hl1'
 have hlw2:l<w2.heap.size:=(Array.getElem?_eq_some_iff.1 hl2).1
 have hsz2:=putObj_size w2 l o2
 have hz1:=S1.size
 have hz2:=S2.size
 have ne1:∀ b,b≠l→(w1.putObj l o1).heap[b]?=w1.heap[b]?:=fun b hb=>World.putObj_heap_other hb
 have ne2:∀ b,b≠l→(w2.putObj l o2).heap[b]?=w2.heap[b]?:=fun b hb=>World.putObj_heap_other hb
 have E1':Env F1 ρ1 (hp L1) (w1.putObj l o1):=E1.others (by omega) fun b hb=>ne1 b (by rintro rfl;exact hb.elim fr1.1 fr1.2)
 have E2':Env F2 ρ2 (hp L2) (w2.putObj l o2):=E2.others (by omega) fun b hb=>ne2 b (by rintro rfl;exact hb.elim fr2.1 fr2.2)
 have Sa:Step F0 ρ0 H0 w0 F1 ρ1 (hp L1) (w1.putObj l o1):=(S.trans S1).others rfl rfl rfl (by omega) fun b hb=>ne1 b (by omega)
 have Sb:Step F0 ρ0 H0 w0 F2 ρ2 (hp L2) (w2.putObj l o2):=(Sa.trans S2).others rfl rfl rfl (by omega) fun b hb=>ne2 b (by omega)
 refine⟨hl2,_,⟨?_,?_,?_,by omega,fun b hb hn=>?_⟩,fun b hb=>?_,F2,ρ2,fun b hb=>?_,Sb,K2,E2',fun b hb=>?_,?_,fr2,World.putObj_heap_same hlw2,by omega,rfl⟩
 ·exact S2.os.trans S1.os
 ·exact S2.tape.trans S1.tape
 ·exact S2.output.trans S1.output
 ·simp only[not_or] at hn
  have hbl:b≠l:=fun e=>hn.1 ⟨by omega,fun q=>by have:=hxl b q;omega⟩
  rw[ne2 b hbl,S2.unch b (by omega) (fun q=>(S1.lsrc b q).elim (fun q=>by omega) hn.2.2),ne1 b hbl,S1.unch b hb hn.2.2]
 ·rcases hb with hb|hb|hb
  ·exact .inl (.inl hb)
  ·rcases S2.fsrc b hb with q|q|q
   ·rcases S1.fsrc b q with q|q|q
    ·exact .inl (.inr (.inl q))
    ·exact .inr q
    ·exact .inl (.inr (.inr q))
   ·exact .inr (by omega)
   ·rcases S1.lsrc b q with q|q
    ·exact .inr q
    ·exact .inl (.inr (.inr q))
  ·rcases S2.lsrc b hb with q|q
   ·exact .inr (by omega)
   ·rcases S1.lsrc b q with q|q
    ·exact .inr q
    ·exact .inl (.inr (.inr q))
 ·have q1:=hxl b hb
  obtain⟨f1,_⟩:=(fx b hb).step (by omega) S1
  exact (f1.step (by omega) S2).1
 ·obtain⟨q1,q2⟩:=fk b hb
  have q3:=S1.fsub b q1
  have q4:=S2.fsub b q3
  refine⟨q4,?_⟩
  have hbl:b≠l:=by rintro rfl;exact fr.1 q1
  rw[ne2 b hbl,S2.keepF E1' b q3,ne1 b hbl,S1.keepF E b q1,q2]
 ·exact (((M.step S1).put hl1 ho).step S2).put hl2 ho1
theorem range_core (hE:∀ g,E g=true→entersB P g=true) {g:Operand} {ps:Array Tmp} {assign body:Code} {xa xb:CodeF} (ha:Sound P N assign xa) (hb:Sound P N body xb)
  {F0:Nat→Prop} {ρ0:Nat→Option Value} {H0:Hp} {w0:World} {nm:Nat} {ρk:Nat→Option Value} {k0:Nat} {nF:Nat} {K:Exit→Tm→List AObj→Prop} {a:Act} {w:World} (hk0:∀ i h,ρk i=some h→i<k0) (hnm:nm≤w0.heap.size)
  {X Y:Type} {Inv:Y→X→Prop} {pat:X→List AObj} {tms:Tm} {ks:Nat} {f:FuncId} {y0:Y} {Nx:Y→List AV→Y→Prop} {Fin:Y→Prop} {z0:X} (hz0:Inv y0 z0) (hEf:E f=true) (hks:k0≤ks) (htl:tmLt ks tms=true) (hps:parsB N ps.toList=true)
  {F:Nat→Prop} {ρ:Nat→Option Value} (S0:Step F0 ρ0 H0 w0 F ρ (hp (pat z0)) w) (K0:Keep ρk ρ) (En:Env F ρ (hp (pat z0)) w) (Sl:Slots w F ρ N tms a) (hM:Marks F ρ (hp (pat z0)) w nm a.defers)
  {us vs:List Value} (hga:a.eval g=.func (.func f) us.toArray vs.toArray) (hlen:∀ k x k',Nx k x k'→x.length=ps.toList.length) (hpat:∀ k z,Inv k z→ks≤(pat z).length)
  (hstep:∀ k z x k',Inv k z→Nx k x k'→xa ks true (putP ps.toList x tms) (pat z) fun e tm1 L1=>match e with
    | .normal=>xb ks true tm1 L1 fun e tm2 L2=>match e with
     | .normal=>∃ z',Inv k' z'∧Weak ks tm2 L2 [] (pat z')
     | .ret=>K .ret tms L2
     | .exit id=>K (.exit id) tms L2
     |_=>False
    |_=>False) (hend:∀ k z,Fin k→Inv k z→K .normal tms (pat z))
  {Nv:Y→List Value→Y→Prop} (hxv:∀ y vals y',Nv y vals y'→∃ x,Nx y x y'∧∀ w F ρ,RAs w F ρ x vals) {Ok:Y→World→Prop} {St:(Nat→Prop)→World→Prop} {Ex:Nat→Prop} (hIW:IterG P f us vs y0 Nv Fin Ok St (w.heap.size+1))
  (hxl:∀ b,Ex b→b<w.heap.size) (fx:∀ b,Ex b→Free F ρ (hp (pat z0)) b) (hx0:∀ b,Ex b→w0.heap.size≤b∨Lv ρ0 H0 b) (hxd:∀ r,markOf r∈a.defers→¬Ex r)
  (hOk:∀ k z w' F' ρ',Inv k z→Env F' ρ' (hp (pat z)) w'→(∀ b,F b→F' b∧w'.heap[b]?=w.heap[b]?)→Keep (lo ρ ks) ρ'→a.eval g=.func (.func f) us.toArray vs.toArray→Slots w' F' ρ' N tms a→Ok k w')
  (hSt:∀ O W1,(∀ b,b<w.heap.size→W1.heap[b]?=w.heap[b]?)→w.heap.size≤W1.heap.size→(∀ b,Ex b→¬O b)→St O W1) :
  (Code.rangeFunc g ps assign body).wpIn (Fw none) nF P (fun e a' w'=>∃ tm' L',K e tm' L'∧In F0 ρ0 H0 w0 nm ρk k0 N tm' L' a' w') a w:=by
 have Slb:∀ d,RA w F (lo ρ ks) (lk tms d) (a.tmps.getD d undef):=fun d=>RA.low (fun j h hj hr=>lo_in hj hr) _ (tmLt_lk htl d) (Sl.1 d)
 have slots:∀ {F':Nat→Prop} {ρ':Nat→Option Value} {w':World},(∀ b,F b→F' b∧w'.heap[b]?=w.heap[b]?)→Keep (lo ρ ks) ρ'→Slots w' F' ρ' N tms a:=fun hf hkp=>⟨fun d=>(Slb d).mono (fun b hb=>(hf b hb).2) (fun b hb=>(hf b hb).1) hkp,Sl.2⟩
 have keep0:∀ {ρ':Nat→Option Value},Keep (lo ρ ks) ρ'→Keep ρk ρ':=fun hkp i h hi=>hkp i h (lo_in (by have:=hk0 i h hi;omega) (K0 i h hi))
 refine wpIn_rangeFunc fun fn _=>?_
 obtain⟨rec,hrec⟩:∃ rec:LoopState→Option Code→Loop,rec=fun st pe=>{ state:=st,pending:=pe,fn,tmps:=a.tmps,params:=ps,assign,body,defers:=w.heap.size }:=⟨_,rfl⟩
 obtain⟨W1,hW1⟩:∃ W1,(w.alloc (.deferred (some []))).alloc (.loop (rec .ready none))=W1:=⟨_,rfl⟩
 have hsz:W1.heap.size=w.heap.size+2:=by rw[←hW1,World.size_alloc,World.size_alloc]
 have hL1:W1.heap[w.heap.size+1]?=some (.loop (rec .ready none)):=by
  rw[←hW1];have:=World.alloc_heap_new (w.alloc (.deferred (some []))) (.loop (rec .ready none));rwa [World.size_alloc] at this
 have hK1:W1.heap[w.heap.size]?=some (.deferred (some [])):=by
  rw[←hW1];exact (Below.heap_alloc _ _ _ (by simp)).trans (World.alloc_heap_new w _)
 have hold:∀ b,b<w.heap.size→W1.heap[b]?=w.heap[b]?:=fun b hb=>by
  rw[←hW1];exact (Below.heap_alloc _ _ _ (by rw[World.size_alloc];omega)).trans (Below.heap_alloc _ _ _ hb)
 have hgl:∀ b,Lv ρ (hp (pat z0)) b→b<w.heap.size:=by
  rintro b ⟨i,o,v,h1,h2,h3,h4⟩
  obtain⟨v',e,_,q⟩:=En.rep i o h1 h2
  rw[h3] at e;injection e with e;subst e
  exact (q b h4).1
 have hds:∀ r,markOf r∈(markOf w.heap.size::a.defers)→r<w.heap.size+2∧¬Ex r:=fun r hr=>by
  obtain⟨rs,e,_,M⟩:=hM
  rw[e] at hr
  refine⟨?_,fun hx=>?_⟩
  ·rcases List.mem_cons.1 hr with q|q
   ·unfold markOf at q;injection q with q _;injection q with q;omega
   ·obtain⟨r',hr',q⟩:=List.mem_map.1 q
    unfold markOf at q;injection q with q _;injection q with q
    have:=(M r' hr').2.1
    omega
  ·rcases List.mem_cons.1 hr with q|q
   ·unfold markOf at q;injection q with q _;injection q with q
    have:=hxl r hx
    omega
   ·exact hxd r (by rw[e];exact q) hx
 have h0w:w0.heap.size≤w.heap.size:=S0.size

 have hst0:Stand F0 ρ0 H0 w0 F w (lo ρ ks) nm (markOf w.heap.size::a.defers) (w.heap.size+1) (w.heap.size+2) Ex (.loop (rec .ready none)) (pat z0) (fun b=>(b<w.heap.size+2∧¬Ex b)∨F b∨Lv ρ (hp (pat z0)) b) W1:=by
  refine⟨F,ρ,fx,S0.others (by rw[←hW1];rfl) (by rw[←hW1];rfl) (by rw[←hW1];rfl) (by omega) (fun b hb=>hold b (by omega)),lo_keep (Keep.refl ρ),En.others (by omega) (fun b hb=>hold b (hb.elim (En.fb b) (hgl b))),fun b hb=>⟨hb,hold b (En.fb b hb)⟩,?_,⟨fun q=>by have:=En.fb _ q;omega,fun q=>by have:=hgl _ q;omega⟩,hL1,by omega,rfl⟩
  obtain⟨rs,e,nd,M⟩:=hM
  refine⟨w.heap.size::rs,by rw[e];rfl,List.nodup_cons.2 ⟨fun q=>by have:=(M _ q).2.1;omega,nd⟩,fun r hr=>?_⟩
  rcases List.mem_cons.1 hr with q|q
  ·subst q
   exact⟨by omega,by omega,fun q=>by have:=En.fb _ q;omega,fun q=>by have:=hgl _ q;omega,hK1⟩
  ·obtain⟨g1,g2,g3,g4,g5⟩:=M r q
   exact⟨g1,by omega,g3,g4,(hold r g2).trans g5⟩

 refine⟨w.heap.size+1,[markOf w.heap.size],W1,{ target:=.fn (.func f) vs.toArray,args:=us.toArray++#[.func (.yield (w.heap.size+1)) #[] #[]] },W1,f,(us++.func (.yield (w.heap.size+1)) #[] #[]::vs).toArray,W1,?_,?_,fun _ _=>trivial,?_,fun q=>Bool.noConfusion q,?_⟩
 ·rw[←hW1,hrec];exact run_enterLoop_outer _ _ _ _ _
 ·simp only[resolve,hga]
  simp[go_sem]
 ·have he:=run_enter (hE f hEf) (us++.func (.yield (w.heap.size+1)) #[] #[]::vs).toArray W1
  simp[invoke,go_sem]
  simpa using he
 ·have hl:w.heap.size+1<w.heap.size+2:=by omega
  have hxl1:∀ b,Ex b→b<w.heap.size+1:=fun b hb=>by have:=hxl b hb;omega
  refine callsIn_ro (Calls.mono (hIW
   (fun k O w'=>∃ z,Inv k z∧Stand F0 ρ0 H0 w0 F w (lo ρ ks) nm (markOf w.heap.size::a.defers) (w.heap.size+1) (w.heap.size+2) Ex (.loop (rec .ready none)) (pat z) O w')
   (fun O w'=>∃ e c L2,((e=Exit.ret∧c=Code.ret)∨∃ id,e=Exit.exit id∧c=Code.exit id)∧K e tms L2∧ks≤L2.length∧Stand F0 ρ0 H0 w0 F w (lo ρ ks) nm (markOf w.heap.size::a.defers) (w.heap.size+1) (w.heap.size+2) Ex (.loop (rec .done (some c))) L2 O w')
   ?_ ?_ ?_ ?_ _ W1 ⟨z0,hz0,hst0⟩ (hSt _ W1 hold (by omega) fun b hb q=>q.elim (fun q=>q.2 hb) fun q=>q.elim (fx b hb).1 (fx b hb).2)) ?_)
  ·rintro k O w' ⟨z,hz,hst⟩
   refine⟨?_,hst.lt⟩
   obtain⟨F',ρ',_,S',K',E',fk,_⟩:=hst
   exact hOk k z w' F' ρ' hz E' fk K' hga (slots fk K')
  ·rintro k O w' w'' ⟨z,hz,hst⟩ hn
   exact⟨z,hz,hst.near (by omega) hl hds hxl1 hx0 hn⟩
  ·rintro O w' w'' ⟨e,c,L2,hec,hK,hle,hst⟩ hn
   exact⟨e,c,L2,hec,hK,hle,hst.near (by omega) hl hds hxl1 hx0 hn⟩
  ·
   rintro k O w1 vals k' hvals ⟨z,hz,F1,ρ1,fx1,S1,K1,E1,fk1,M1,fr1,hl1,hB1,hO⟩
   obtain⟨x,hx,hxr⟩:=hxv k vals k' hvals
   have hlx:=hlen k x k' hx
   have hvl:=(hxr w1 F1 ρ1).length
   have hps2:ps.toList.length=ps.size:=Array.length_toList
   have hy:=run_yield (P:=P) (args:=vals.toArray) hl1 (by rw[hrec];simp;omega)
   rw[hrec] at hy
   refine⟨fn,_,assign,body,hy,roundIn_of_wpIn trivial ?_⟩
   have hsl:=putP_slots (ds:=a.defers) (ds':=[]) hps (hxr w1 F1 ρ1) hlx (slots fk1 K1)
   have htm:(ps.toList.zip vals).foldl (fun t (x:Tmp × Value)=>t.setIfInBounds x.1 x.2) a.tmps=(ps.zip vals.toArray).foldl (fun tmps (x:Tmp × Value)=>tmps.setIfInBounds x.1 x.2) a.tmps:=by
    rw[←Array.foldl_toList,Array.toList_zip]
   rw[htm] at hsl
   have h1:=ha F1 ρ1 (hp (pat z)) w1 0 (lo ρ ks) ks true (some (w.heap.size+1)) 0 lo_lt (fun q=>Bool.noConfusion q) _ _ _ _ w1 (hstep k z x k' hz hx) ⟨F1,ρ1,Step.refl _ _ _ _,K1,E1,hsl,hpat k z hz,Marks.nil⟩
   refine wpIn_mono h1 fun e a1 w2 ⟨tm1,L1,hq,F2,ρ2,S2,K2,E2,Sl2,hk2,M2⟩=>?_
   cases e with
   |normal=>
    have hlw:w.heap.size+1<w1.heap.size:=by omega
    obtain⟨fr2,e2⟩:=fr1.step hlw S2
    have hl2:=e2.trans hl1
    refine⟨_,run_beginRound hl2 (by rw[hrec]),?_⟩
    have hsz2:=putObj_size w2 (w.heap.size+1) (.loop { rec .ready none with state:=.busy })
    have hl2':(w2.putObj (w.heap.size+1) (.loop { rec .ready none with state:=.busy })).heap[w.heap.size+1]?=some (.loop { rec .ready none with state:=.busy }):=World.putObj_heap_same (Array.getElem?_eq_some_iff.1 hl2).1
    have ne:∀ b,b≠w.heap.size+1→(w2.putObj (w.heap.size+1) (.loop { rec .ready none with state:=.busy })).heap[b]?=w2.heap[b]?:=fun b hb=>World.putObj_heap_other hb
    have E2':=E2.others (w':=w2.putObj (w.heap.size+1) (.loop { rec .ready none with state:=.busy })) (by omega) fun b hb=>ne b (by rintro rfl;exact hb.elim fr2.1 fr2.2)
    have h2:=hb F2 ρ2 (hp L1) (w2.putObj (w.heap.size+1) (.loop { rec .ready none with state:=.busy })) 0 (lo ρ ks) ks true (some (w.heap.size+1)) 0 lo_lt (fun q=>Bool.noConfusion q) _ _ _ a1 _ hq
     ⟨F2,ρ2,Step.refl _ _ _ _,K2,E2',Sl2.others (fun b hb=>ne b (by rintro rfl;exact fr2.1 hb)),hk2,M2.put hl2 (by simp)⟩
    refine wpIn_mono h2 fun e a2 w3 ⟨tm2,L2,hq2,hI2⟩=>?_
    have fin:∀ (L':List AObj) (jump:Option Code) {F3:Nat→Prop} {ρ3:Nat→Option Value},Step F2 ρ2 (hp L1) (w2.putObj (w.heap.size+1) (.loop { rec .ready none with state:=.busy })) F3 ρ3 (hp L') w3→Keep (lo ρ ks) ρ3→Env F3 ρ3 (hp L') w3 →
      (Instr.endRound (w.heap.size+1) jump).run P w3=.ok (.bool jump.isNone) (w3.putObj (w.heap.size+1) (.loop (rec (if jump.isNone then .ready else .done) jump))) ∧
      ∃ O',Far O w1 (w3.putObj (w.heap.size+1) (.loop (rec (if jump.isNone then .ready else .done) jump)))∧(∀ b,O' b→O b∨w1.heap.size≤b) ∧
       Stand F0 ρ0 H0 w0 F w (lo ρ ks) nm (markOf w.heap.size::a.defers) (w.heap.size+1) (w.heap.size+2) Ex (.loop (rec (if jump.isNone then .ready else .done) jump)) L' O' (w3.putObj (w.heap.size+1) (.loop (rec (if jump.isNone then .ready else .done) jump))):=fun L' jump F3 ρ3 S3 K3 E3=>by
     obtain⟨hl3,O',g1,g2,g3⟩:=Stand.round (o2:=.loop (rec (if jump.isNone then .ready else .done) jump)) (by omega) hl hxl1 fx1 S1 E1 fk1 M1 fr1 hl1 (by simp) (by simp) hB1 hO S2 E2 S3 K3 E3
     refine⟨?_,O',g1,g2,g3⟩
     have:=run_endRound (P:=P) jump hl3
     rw[hrec] at this ⊢
     exact this
    cases e with
    |normal=>
     obtain⟨z',hz',hwk'⟩:=hq2
     obtain⟨F3,ρ3,S3,K3,E3,_,hk3,_⟩:=hI2.weak lo_lt hwk'
     obtain⟨hr,O',g1,g2,g3⟩:=fin (pat z') none S3 K3 E3
     exact⟨_,_,hr,O',g1,g2,.inl ⟨rfl,z',hz',g3⟩⟩
    |ret=>
     obtain⟨F3,ρ3,S3,K3,E3,_,hk3,_⟩:=hI2
     obtain⟨hr,O',g1,g2,g3⟩:=fin L2 (some .ret) S3 K3 E3
     exact⟨_,_,hr,O',g1,g2,.inr ⟨rfl,.ret,.ret,L2,.inl ⟨rfl,rfl⟩,hq2,hk3,g3⟩⟩
    |exit id=>
     obtain⟨F3,ρ3,S3,K3,E3,_,hk3,_⟩:=hI2
     obtain⟨hr,O',g1,g2,g3⟩:=fin L2 (some (.exit id)) S3 K3 E3
     exact⟨_,_,hr,O',g1,g2,.inr ⟨rfl,.exit id,.exit id,L2,.inr ⟨id,rfl,rfl⟩,hq2,hk3,g3⟩⟩
    |goto t=>exact hq2.elim
    |panic ch=>exact hq2.elim
    |outgrown=>exact hq2.elim
   |ret=>exact hq.elim
   |exit id=>exact hq.elim
   |goto t=>exact hq.elim
   |panic ch=>exact hq.elim
   |outgrown=>exact hq.elim
  ·
   rintro e w3 ⟨⟨v,rfl⟩,O',hJ|hJ⟩
   ·obtain⟨kf,hkf,z,hz,F',ρ',_,S',K',E',fk,M',fr',hl',hB',_⟩:=hJ
    obtain⟨o3,hel⟩:∃ o3,(Instr.endLoop (w.heap.size+1)).run P w3=.ok none (w3.putObj (w.heap.size+1) o3):=by
     have h:=run_endLoop (P:=P) hl' (by rw[hrec];simp)
     rw[hrec] at h
     exact⟨_,h⟩
    have ne:∀ b,b≠w.heap.size+1→(w3.putObj (w.heap.size+1) o3).heap[b]?=w3.heap[b]?:=fun b hb=>World.putObj_heap_other hb
    have hsz3:=putObj_size w3 (w.heap.size+1) o3
    exact⟨_,_,hel,tms,pat z,hend kf z hkf hz,F',ρ',S'.others rfl rfl rfl (by omega) (fun b hb=>ne b (by omega)),keep0 K',E'.others (by omega) (fun b hb=>ne b (by rintro rfl;exact hb.elim fr'.1 fr'.2)),⟨((slots fk K').others fun b hb=>ne b (by rintro rfl;exact fr'.1 hb)).1,Sl.2⟩,Nat.le_trans hks (hpat _ z hz),M'.put hl' (by simp)⟩
   ·obtain⟨e,c,L2,hec,hK,hle,F',ρ',_,S',K',E',fk,M',fr',hl',hB',_⟩:=hJ
    obtain⟨o3,hel⟩:∃ o3,(Instr.endLoop (w.heap.size+1)).run P w3=.ok (some c) (w3.putObj (w.heap.size+1) o3):=by
     have h:=run_endLoop (P:=P) hl' (by rw[hrec];simp)
     rw[hrec] at h
     exact⟨_,h⟩
    have ne:∀ b,b≠w.heap.size+1→(w3.putObj (w.heap.size+1) o3).heap[b]?=w3.heap[b]?:=fun b hb=>World.putObj_heap_other hb
    have hsz3:=putObj_size w3 (w.heap.size+1) o3
    have hin:In F0 ρ0 H0 w0 nm ρk k0 N tms L2 { a with defers:=markOf w.heap.size::a.defers } (w3.putObj (w.heap.size+1) o3):=
     ⟨F',ρ',S'.others rfl rfl rfl (by omega) (fun b hb=>ne b (by omega)),keep0 K',E'.others (by omega) (fun b hb=>ne b (by rintro rfl;exact hb.elim fr'.1 fr'.2)),⟨((slots fk K').others fun b hb=>ne b (by rintro rfl;exact fr'.1 hb)).1,Sl.2⟩,Nat.le_trans hks hle,M'.put hl' (by simp)⟩
    refine⟨_,_,hel,?_⟩
    rcases hec with⟨rfl,rfl⟩|⟨id,rfl,rfl⟩
    ·exact wpIn_ret ⟨tms,L2,hK,hin⟩
    ·exact wpIn_exit ⟨tms,L2,hK,hin⟩
theorem killBy_get:∀ {Hs L:List AObj} (i:Nat),Hs.length≤L.length→(killBy Hs L)[i]?=match Hs[i]? with
  |some h=>if h.live=true then some .dead else L[i]?
  |none=>L[i]?
 |[],L,i,_=>by simp[killBy]
 |h::r,[],i,hl=>by simp at hl
 |h::r,o::L,0,hl=>by
  cases hh:h.live<;>simp[killBy,hh]
 |h::r,o::L,i+1,hl=>by
  have:=killBy_get (Hs:=r) (L:=L) i (by simpa using hl)
  simpa [killBy] using this
theorem Env.takenBy {F:Nat→Prop} {ρ:Nat→Option Value} {w:World} {Hs L:List AObj} (En:Env F ρ (hp L) w) (hl:Hs.length≤L.length) (hag:AgreeL Hs L) :
  Step F ρ (hp L) w F ρ (hp (killBy Hs L)) w∧Env F ρ (hp (killBy Hs L)) w∧∀ b,(∃ i o h,Hs[i]?=some o∧o.live=true∧ρ i=some h∧blkOf h=some b)→Lv ρ (hp L) b∧Free F ρ (hp (killBy Hs L)) b:=by
 have get:∀ i o,hp (killBy Hs L) i=some o→o.live=true→hp L i=some o∧∀ h,Hs[i]?=some h→h.live=false:=fun i o h hlv=>by
  unfold hp at h ⊢
  rw[killBy_get i hl] at h
  split at h
  ·rename_i x hx
   split at h
   ·injection h with h;subst h;cases hlv
   ·rename_i hx2
    exact⟨h,fun y hy=>by rw[hx] at hy;injection hy with hy;subst hy;simpa using hx2⟩
  ·rename_i hx
   exact⟨h,fun y hy=>by rw[hx] at hy;cases hy⟩
 have lv:∀ b,Lv ρ (hp (killBy Hs L)) b→Lv ρ (hp L) b:=fun b ⟨i,o,h,h1,h2,h3,h4⟩=>⟨i,o,h,(get i o h1 h2).1,h2,h3,h4⟩
 refine⟨⟨rfl,rfl,rfl,Nat.le_refl _,fun _ _ _=>rfl,fun _ h=>h,fun _ h=>.inl h,fun b h=>.inr (lv b h)⟩,⟨En.fb,fun i hi=>En.abs i ?_,fun i o hi hlv=>En.rep i o (get i o hi hlv).1 hlv,fun i j o o' h h' b h1 h2 l1 l2=>En.inj i j o o' h h' b (get i o h1 l1).1 (get j o' h2 l2).1 l1 l2⟩,?_⟩
 ·unfold hp at hi ⊢
  rw[killBy_get i hl] at hi
  split at hi
  ·split at hi
   ·cases hi
   ·exact hi
  ·exact hi
 ·rintro b ⟨i,o,h,h1,h2,h3,h4⟩
  have hL:=hag.out h1 h2
  have hlv:Lv ρ (hp L) b:=⟨i,o,h,hL,h2,h3,h4⟩
  refine⟨hlv,fun q=>En.notF q hlv,?_⟩
  rintro⟨j,o',h',g1,g2,g3,g4⟩
  obtain⟨g5,g6⟩:=get j o' g1 g2
  have:=En.inj i j o o' h h' b hL g5 h2 g2 h3 g3 h4 g4
  subst this
  have:=g6 o h1
  rw[h2] at this;cases this
theorem range_out0 (hE:∀ g,E g=true→entersB P g=true) {g:Operand} {ps:Array Tmp} {assign body:Code} {xa xb:CodeF} (ha:Sound P N assign xa) (hb:Sound P N body xb):Sound P N (.rangeFunc g ps assign body) (cRange0 P E N g ps xa xb):=by
 intro F0 ρ0 H0 w0 nm ρk k0 rd ro nF hk0 hro tm L K a w h hI
 cases rd with
 |true=>exact h.elim
 |false=>
 obtain⟨rfl,hnm⟩:=hro rfl
 obtain⟨X,Y,Inv,pat,tms,ks,f,first,caps,Lc,y0,Nx,Fin,⟨z0,hz0,hwk⟩,hev,hchk,hit,hlen,hpat,hstep,hend⟩:=h
 simp only[Bool.and_eq_true,Nat.ble_eq] at hchk
 obtain⟨⟨⟨⟨hEf,hks⟩,htl⟩,hps⟩,hLk⟩:=hchk
 obtain⟨F,ρ,S0,K0,En,Sl,hk,hM⟩:=hI.weak hk0 hwk
 obtain⟨need,hn0,hitS,hag⟩:=hit.out
 obtain⟨us,vs,hga,hus,hvs⟩:∃ us vs,a.eval g=.func (.func f) us.toArray vs.toArray∧RAs w F ρ first us∧RAs w F ρ caps vs:=by
  have:=Sl.eval g
  rw[hev] at this
  generalize a.eval g=v at this
  cases this with|fn h1 h2=>exact⟨_,_,rfl,h1,h2⟩
 obtain⟨Nv,hxv,hIW⟩:=hitS us vs (w.heap.size+1) (lo ρ ks)
 refine range_core hE ha hb hk0 hnm hz0 hEf hks htl hps S0 K0 En Sl hM hga hlen (fun k z hz=>(hpat k z hz).2) hstep hend hxv (St:=fun _ _=>True) (Ex:=fun _=>False) (fun J Jx a1 a2 a3 a4 O w h _=>hIW J Jx a1 a2 a3 a4 O w h) (fun _ h=>h.elim) (fun _ h=>h.elim) (fun _ h=>h.elim) (fun _ _ h=>h) (fun k z w' F' ρ' hz E' fk K' hga Sl' hnk=>?_) (fun _ _ _ _ _=>trivial)
 refine⟨F',ρ',_,E',fun i o hi hl=>⟨(hag k _ (hpat k z hz).1 hnk).out hi hl,?_⟩,?_⟩
 ·obtain⟨h,e1,_⟩:=En.rep i o ((hag y0 _ (hpat y0 z0 hz0).1 hn0).out hi hl) hl
  have hlt:=(List.getElem?_eq_some_iff.1 hi).1
  exact⟨h,lo_in (by omega) e1,K' i h (lo_in (by omega) e1)⟩
 have:=Sl'.eval g
 rw[hev,hga] at this
 cases this with|fn h1 h2=>exact⟨h1,h2⟩
theorem range_outO (hE:∀ g,E g=true→entersB P g=true) {g:Operand} {ps:Array Tmp} {assign body:Code} {xa xb:CodeF} (ha:Sound P N assign xa) (hb:Sound P N body xb):Sound P N (.rangeFunc g ps assign body) (cRangeO P E N g ps xa xb):=by
 intro F0 ρ0 H0 w0 nm ρk k0 rd ro nF hk0 hro tm L K a w h hI
 cases rd with
 |true=>exact h.elim
 |false=>
 obtain⟨rfl,hnm⟩:=hro rfl
 obtain⟨X,Y,Inv,pat,tms,ks,f,first,caps,Hs,y0,Nx,Fin,L1,hwk,⟨z0,hz0,hkill⟩,hev,hchk,hag,hit,hlen,hpat,hstep,hend⟩:=h
 simp only[Bool.and_eq_true,Nat.ble_eq] at hchk
 obtain⟨⟨⟨⟨hEf,hks⟩,htl⟩,hps⟩,hHl⟩:=hchk
 obtain⟨F,ρ,S0,K0,En,Sl,hk,hM⟩:=hI.weak hk0 hwk
 obtain⟨us,vs,hga,hus,hvs⟩:∃ us vs,a.eval g=.func (.func f) us.toArray vs.toArray∧RAs w F ρ first us∧RAs w F ρ caps vs:=by
  have:=Sl.eval g
  rw[hev] at this
  generalize a.eval g=v at this
  cases this with|fn h1 h2=>exact⟨_,_,rfl,h1,h2⟩
 obtain⟨Nv,hxv,hIW⟩:=hit us vs (w.heap.size+1)
 obtain⟨S1,E1,fre⟩:=En.takenBy hHl hag
 have lt:∀ b,Lv ρ (hp L1) b→b<w.heap.size:=by
  rintro b ⟨i,o,v,h1,h2,h3,h4⟩
  obtain⟨v',e,_,q⟩:=En.rep i o h1 h2
  rw[h3] at e;injection e with e;subst e
  exact (q b h4).1
 rw[hkill] at S1 E1 fre
 refine range_core hE ha hb hk0 hnm hz0 hEf hks htl hps (S0.trans S1) K0 E1 Sl (hM.step S1) hga hlen hpat hstep hend hxv (Ex:=fun b=>∃ i o h,Hs[i]?=some o∧o.live=true∧ρ i=some h∧blkOf h=some b) hIW (fun b h=>lt b (fre b h).1) (fun b h=>(fre b h).2) (fun b h=>S0.lsrc b (fre b h).1) (fun r hr hx=>?_) (fun _ _ _ _ _ _ _ _ _ _ _=>trivial) (fun O W1 hold hsz hO=>?_)
 ·obtain⟨rs,e,_,M⟩:=hM
  rw[e] at hr
  obtain⟨r',hr',q⟩:=List.mem_map.1 hr
  unfold markOf at q;injection q with q _;injection q with q
  subst q
  exact (M r' hr').2.2.2.1 (fre _ hx).1
 ·have fl:∀ b,F b∨Lv ρ (hp L1) b→W1.heap[b]?=w.heap[b]?:=fun b hb=>hold b (hb.elim (En.fb b) (lt b))
  refine⟨F,ρ,hp L1,En.others hsz fl,fun i o hi hl=>⟨hag.out hi hl,fun h b h1 h2=>hO b ⟨i,o,h,hi,hl,h1,h2⟩⟩,hus.mono (fun b hb=>fl b (.inl hb)) (fun _ h=>h) (Keep.refl _),hvs.mono (fun b hb=>fl b (.inl hb)) (fun _ h=>h) (Keep.refl _)⟩
theorem range_out (hE:∀ g,E g=true→entersB P g=true) {g:Operand} {ps:Array Tmp} {assign body:Code} {xa xb:CodeF} (ha:Sound P N assign xa) (hb:Sound P N body xb):Sound P N (.rangeFunc g ps assign body) (cRange P E N g ps xa xb):=by
 intro F0 ρ0 H0 w0 nm ρk k0 rd ro nF hk0 hro tm L K a w h hI
 exact h.elim (fun h=>range_out0 hE ha hb F0 ρ0 H0 w0 nm ρk k0 rd ro nF hk0 hro tm L K a w h hI) fun h=>range_outO hE ha hb F0 ρ0 H0 w0 nm ρk k0 rd ro nF hk0 hro tm L K a w h hI
theorem vcCode_out (hT:T=tiOf P) (hE:∀ g,E g=true→entersB P g=true) (hm:P.follows .mixedOrders=true):∀ (c:Code),Sound P N c (vcCode P T E N c)
 | .skip=>fun F0 ρ0 H0 w0 nm ρk k0 rd ro nF hk0 hro tm L K a w h hI=>wpIn_skip ⟨tm,L,h,hI⟩
 | .label _=>fun F0 ρ0 H0 w0 nm ρk k0 rd ro nF hk0 hro tm L K a w h hI=>wpIn_label ⟨tm,L,h,hI⟩
 | .region id ops draw=>fun F0 ρ0 H0 w0 nm ρk k0 rd ro nF hk0 hro tm L K a w h hI=>by
  have h:cRegion P T E N ops draw k0 rd tm L K:=h
  unfold cRegion at h
  split at h
  ·obtain⟨tm',L',⟨hle,hR⟩,hK⟩:=h
   obtain⟨F,ρ,S0,K0,En,Sl,hk,hM⟩:=hI
   exact hR id ro nF F ρ w a _ En Sl fun a' w' F' ρ' S1 K1 E1 Sl1 hd=>⟨tm',L',hK,F',ρ',S0.trans S1,K0.trans K1,E1,Sl1,by omega,by rw[hd];exact hM.step S1⟩
  ·split at h
   ·split at h
    ·exact wpIn_region_list (vcOps_out hT hE ops.toList tm L a w h hI fun tm L a w ⟨tm2,L2,h1,h2⟩ hI=>⟨tm2,L2,h2,hI.weak hk0 h1⟩)
    ·exact wpIn_region_list (vcOps_out hT hE ops.toList tm L a w h hI fun tm L a w h hI=>⟨tm,L,h,hI⟩)
   ·obtain⟨hreg,h⟩:=h
    obtain⟨es,tm',L',hTr,⟨hord,hK⟩,hle⟩:=drawOps_out hT hE h
    obtain⟨F,ρ,S0,K0,En,Sl,hk,hM⟩:=hI
    refine draw_out hm hreg hTr hord En Sl fun a' w' F' ρ' S1 K1 E1 Sl1 hd=>⟨tm',L',hK,F',ρ',S0.trans S1,K0.trans K1,E1,Sl1,by omega,by rw[hd];exact hM.step S1⟩
 | .seq x y=>fun F0 ρ0 H0 w0 nm ρk k0 rd ro nF hk0 hro tm L K a w h hI=>by
  have h:cSeqJ x (vcCode P T E N x) (vcCode P T E N y) k0 rd tm L K:=h
  have h:cJoin (vcCode P T E N x) (vcCode P T E N y) k0 rd tm L K:=cSeqJ_out h
  rcases h with h|⟨X,Inv,pat,h,hz⟩
  ·unfold cSeq at h
   refine wpIn_seq (wpIn_mono (vcCode_out hT hE hm x F0 ρ0 H0 w0 nm ρk k0 rd ro nF hk0 hro tm L _ a w h hI) fun e a' w' ⟨tm',L',hq,hI'⟩=>?_)
   cases e with
   |normal=>exact vcCode_out hT hE hm y F0 ρ0 H0 w0 nm ρk k0 rd ro nF hk0 hro tm' L' K a' w' hq hI'
   |_=>exact⟨tm',L',hq,hI'⟩
  ·refine wpIn_seq (wpIn_mono (vcCode_out hT hE hm x F0 ρ0 H0 w0 nm ρk k0 rd ro nF hk0 hro tm L _ a w h hI) fun e a' w' ⟨tm',L',hq,hI'⟩=>?_)
   cases e with
   |normal=>
    obtain⟨z,hI0,hwk⟩:=hq
    exact vcCode_out hT hE hm y F0 ρ0 H0 w0 nm ρk k0 rd ro nF hk0 hro _ _ K a' w' (hz z hI0) (hI'.weak hk0 hwk)
   |_=>exact⟨tm',L',hq,hI'⟩
 | .cond c x y=>fun F0 ρ0 H0 w0 nm ρk k0 rd ro nF hk0 hro tm L K a w h hI=>by
  have h:cCond c (vcCode P T E N x) (vcCode P T E N y) k0 rd tm L K:=h
  unfold cCond at h
  split at h
  ·rename_i b hb
   have hc:a.eval c=.bool b:=by
    obtain⟨F,ρ,_,_,_,Sl,_,_⟩:=hI
    have:=Sl.eval c
    rw[hb] at this
    exact this.v_out
   split at h
   ·rename_i t _
    have hs:∀ b',b=b'→In F0 ρ0 H0 w0 nm ρk k0 N ((t,.d (.v (.bool b')))::tm) L a w:=by
     rintro b' rfl
     obtain⟨F,ρ,h1,h2,h3,Sl,h4⟩:=hI
     exact⟨F,ρ,h1,h2,h3,Sl.same (.put hb),h4⟩
    exact wpIn_cond_split hc (fun hb=>vcCode_out hT hE hm x F0 ρ0 H0 w0 nm ρk k0 rd ro nF hk0 hro _ L K a w (h.1 hb) (hs _ hb)) fun hb=>vcCode_out hT hE hm y F0 ρ0 H0 w0 nm ρk k0 rd ro nF hk0 hro _ L K a w (h.2 hb) (hs _ hb)
   ·exact wpIn_cond_split hc (fun hb=>vcCode_out hT hE hm x F0 ρ0 H0 w0 nm ρk k0 rd ro nF hk0 hro tm L K a w (h.1 hb) hI) fun hb=>vcCode_out hT hE hm y F0 ρ0 H0 w0 nm ρk k0 rd ro nF hk0 hro tm L K a w (h.2 hb) hI
  ·exact h.elim
 | .block id c=>fun F0 ρ0 H0 w0 nm ρk k0 rd ro nF hk0 hro tm L K a w h hI=>by
  have h:cBlock id (vcCode P T E N c) k0 rd tm L K:=h
  unfold cBlock at h
  refine wpIn_block (wpIn_mono (vcCode_out hT hE hm c F0 ρ0 H0 w0 nm ρk k0 rd ro nF hk0 hro tm L _ a w h hI) fun e a' w' ⟨tm',L',hq,hI'⟩=>?_)
  cases e with
  |exit i=>
   unfold Exit.inBlock
   simp only at hq
   by_cases hid:i=id
   ·subst hid
    simp only[if_true]
    rw[show Nat.beq i i=true by simp] at hq
    exact⟨tm',L',hq,hI'⟩
   ·simp only[if_neg hid]
    have:Nat.beq i id=false:=by cases hb:Nat.beq i id with|false=>rfl|true=>exact absurd (Nat.eq_of_beq_eq_true hb) hid
    rw[this] at hq
    exact⟨tm',L',hq,hI'⟩
  |_=>exact⟨tm',L',hq,hI'⟩
 | .loop c=>fun F0 ρ0 H0 w0 nm ρk k0 rd ro nF hk0 hro tm L K a w h hI=>by
  have h:cLoop (vcCode P T E N c) k0 rd tm L K:=h
  unfold cLoop at h
  obtain⟨X,Inv,pat,meas,⟨x0,hx0,hw0⟩,hround⟩:=h
  refine wp_loop_ghost (nF:=nF) (fun x a w=>Inv x∧In F0 ρ0 H0 w0 nm ρk k0 N (pat x).1 (pat x).2 a w) meas (fun x a w hx=>?_) x0 a w ⟨hx0,hI.weak hk0 hw0⟩
  refine wpIn_mono (vcCode_out hT hE hm c F0 ρ0 H0 w0 nm ρk k0 rd ro nF hk0 hro _ _ _ a w (hround x hx.1) hx.2) fun e a' w' ⟨tm',L',hq,hI'⟩=>?_
  cases e with
  |normal=>
   obtain⟨y,hy,hlt,hwk⟩:=hq
   exact⟨y,⟨hy,hI'.weak hk0 hwk⟩,hlt⟩
  |_=>exact⟨tm',L',hq,hI'⟩
 | .exit id=>fun F0 ρ0 H0 w0 nm ρk k0 rd ro nF hk0 hro tm L K a w h hI=>wpIn_exit ⟨tm,L,h,hI⟩
 | .ret=>fun F0 ρ0 H0 w0 nm ρk k0 rd ro nF hk0 hro tm L K a w h hI=>wpIn_ret ⟨tm,L,h,hI⟩
 | .rangeFunc g ps assign body=>range_out hE (vcCode_out hT hE hm assign) (vcCode_out hT hE hm body)
 | .scope _=>fun _ _ _ _ _ _ _ _ _ _ _ _ _ _ _ _ _ h _=>h.elim
 | .goto _=>fun _ _ _ _ _ _ _ _ _ _ _ _ _ _ _ _ _ h _=>h.elim
 | .refuse _=>fun _ _ _ _ _ _ _ _ _ _ _ _ _ _ _ _ _ h _=>h.elim
end
end Go.Proofs.YtfbfpnfgabamfaaGreat
namespace Go.Proofs.YtfbfpnfgabamfaaGreat
set_option linter.unusedSimpArgs false
set_option linter.unusedVariables false
open Go.RowKit
def params:Nat→List AV→Tm
 |_,[]=>[]
 |i,x::r=>(i,x)::params (i+1) r
def resK (T:TypeId→TI) (L:List AObj):List ResultVar→Tm→(List AV→Prop)→Prop
 |[],_,k=>k []
 | .tmp t::r,tm,k=>fRes (lk tm t) fun x=>resK T L r tm fun l=>k (x::l)
 | .cell p ty::r,tm,k=>loadK (T ty) (lk tm p) L fun _ x=>resK T L r tm fun l=>k (x::l)
def wkR (L L':List AObj) (y r:AV):Prop:=
 match r with
 | .tup xs=>fAV y fun y=>match y with
  | .tup ys=>wkAs L L' ys xs
  |_=>False
 |r=>wkA L L' y r
def oneOr (l:List AV):AV:=match l with|[x]=>x|l=>.tup l
def EndS (k0:Nat) (r:AV) (H':List AObj) (y:AV) (L:List AObj):List (Nat × Nat)→Prop
 |[]=>wkR L H' y r∧(Nat.ble k0 H'.length && AV.lt H'.length r && AObj.lts H'.length H')=true∧wkL L H' L H'
 |(a,b)::s=>match Nat.beq b L.length with
  |true=>Nat.blt a L.length=true∧fAV (y.rn (mvN a b)) fun y=>EndS k0 r H' y (mvL a L) s
  |false=>match Nat.beq a b with
   |true=>(Nat.ble k0 a && Nat.ble a L.length)=true∧fAV (y.cut a) fun y=>EndS k0 r H' y (cutL a a L) s
   |false=>swOk k0 a b L=true∧fAV (y.rn (swN a b)) fun y=>EndS k0 r H' y (swL a b L) s
def retK (T:TypeId→TI) (res:List ResultVar) (k0:Nat) (r:AV) (H':List AObj) (e:Exit) (tm:Tm) (L:List AObj):Prop:=
 match e with
 | .normal=>resK T L res tm fun l=>fAV (oneOr l) fun y=>∃ sw,EndS k0 r H' y L sw
 | .ret=>resK T L res tm fun l=>fAV (oneOr l) fun y=>∃ sw,EndS k0 r H' y L sw
 |_=>False
section
variable {P:Program} {w w':World} {F F':Nat→Prop} {ρ ρ':Nat→Option Value} {L L':List AObj} {T:TypeId→TI} {E:Nat→Bool} {N:Nat} {tm tm':Tm} {a:Act}
theorem params_lk:∀ (xs:List AV) (i d:Nat),lk (params i xs) d=if i≤d then (xs[d-i]?).getD .any else .any
 |[],i,d=>by simp[params,lk]
 |x::r,i,d=>by
  rw[params,lk_cons,params_lk r (i+1) d]
  by_cases e:i=d
  ·subst e;simp
  ·rw[if_neg e]
   by_cases h:i+1≤d
   ·rw[if_pos h,if_pos (by omega),show d-i=(d-(i+1))+1 by omega];simp
   ·rw[if_neg h,if_neg (by omega)]
theorem wkR_out (En:Env F ρ (hp L) w) {y x:AV} {v:Value} (h:wkR L L' y x) (hl:AV.lt L'.length x=true) (hv:RA w F ρ y v):RA w (fun b=>F b∨frz ρ L L' b) (rlow ρ L.length L'.length) x v:=by
 unfold wkR at h
 split at h
 ·rename_i xs
  have h:=fAV_iff.1 h
  split at h
  ·cases hv with|tup hv=>exact .tup (wkAs_out En h (by simpa [AV.lt] using hl) hv)
  ·exact h.elim
 ·exact wkA_out En h hl hv
def getRes (tmps:Array Value):ResultVar→Sem Value
 | .tmp t=>pure (tmps.getD t undef)
 | .cell a t=>do loadVar t (←asAddr (tmps.getD a undef))
theorem resK_out {F:Nat→Prop} {ρ:Nat→Option Value} (En:Env F ρ (hp L) w) (Sl:Slots w F ρ N tm a):∀ {res:List ResultVar} {k:List AV→Prop},resK (tiOf P) L res tm k→∃ l vs,k l∧RAs w F ρ l vs∧(res.mapM (getRes a.tmps)).run P w=.ok vs w
 |[],k,h=>⟨[],[],h,.nil,by simp⟩
 | .tmp t::r,k,h=>by
  obtain⟨l,vs,h1,h2,h3⟩:=resK_out En Sl (fRes_out h)
  exact⟨_,_::vs,h1,.cons (Sl.1 t) h2,by simp[getRes,h3]⟩
 | .cell p ty::r,k,h=>by
  obtain⟨e,x,h,_,_,hr⟩:=loadK_run h
  obtain⟨l,vs,h1,h2,h3⟩:=resK_out En Sl h
  obtain⟨u,hu,hx⟩:=hr (hp L) F ρ w _ En (fun _ _=>rfl) (Sl.1 p)
  refine⟨_,u::vs,h1,.cons hx h2,?_⟩
  have hl:(getRes a.tmps (.cell p ty)).run P w=.ok u w:=by
   show (asAddr (a.tmps.getD p undef) >>= loadVar ty).run P w=.ok u w
   have hu:(Instr.sureAddr (a.tmps.getD p undef) >>= loadVar ty).run P w=.ok u w:=hu
   revert hu
   generalize a.tmps.getD p undef=q
   intro hu
   cases q with
   |pointer q=>
    cases q with
    |some q=>simpa [Instr.sureAddr,asAddr] using hu
    |none=>simp[Instr.sureAddr] at hu
   |_=>simp[Instr.sureAddr] at hu
  simp[hl,h3]
theorem run_results {fn:Func} {tmps:Array Value} {vs:List Value} (h:(fn.results.toList.mapM (getRes tmps)).run P w=.ok vs w):∃ v,(results fn tmps).run P w=.ok v w∧∀ F ρ l,RAs w F ρ l vs→RA w F ρ (oneOr l) v:=by
 have hr:(results fn tmps).run P w=.ok (if h:vs.toArray.size=1 then vs.toArray[0] else .tuple vs.toArray) w:=by
  have e:results fn tmps=(do let vs ←List.toArray <$> fn.results.toList.mapM (getRes tmps);pure (if h:vs.size=1 then vs[0] else .tuple vs)):=by
   unfold results
   rw[Array.mapM_eq_mapM_toList]
   congr 2
  rw[e]
  simp[h]
 refine⟨_,hr,fun F ρ l hl=>?_⟩
 have hlen:=hl.length
 cases hl with
 |nil=>simpa [oneOr] using RA.tup (F:=F) (ρ:=ρ) (w:=w) .nil
 |cons h1 hrest=>
  cases hrest with
  |nil=>simpa [oneOr] using h1
  |cons h2 hrest=>
   have:RA w F ρ (.tup _) (.tuple _):=.tup (.cons h1 (.cons h2 hrest))
   simpa [oneOr] using this
theorem EndS.out {k0:Nat} {r:AV} {H':List AObj} {v:Value}:∀ {sw:List (Nat × Nat)} {y:AV} {L:List AObj} {ρ:Nat→Option Value},EndS k0 r H' y L sw→k0≤L.length→Env F ρ (hp L) w→RA w F ρ y v →
  ∃ F' ρ',Step F ρ (hp L) w F' ρ' (hp H') w∧(∀ i h,i<k0→ρ i=some h→ρ' i=some h)∧Env F' ρ' (hp H') w∧RA w F' ρ' r v
 |[],y,L,ρ,h,hk,En,hv=>by
  obtain⟨h4,h5,h6⟩:=h
  simp only[Bool.and_eq_true,Nat.ble_eq] at h5
  obtain⟨S2,E2⟩:=En.weak h5.2 h6
  refine⟨_,_,S2,fun i u hi hu=>?_,E2,wkR_out En h4 h5.1.2 hv⟩
  unfold rlow
  rw[if_pos (by omega),if_pos (by omega)]
  exact hu
 |(c,d)::s,y,L,ρ,h,hk,En,hv=>by
  unfold EndS at h
  split at h
  ·rename_i hd
   have hd:=Nat.eq_of_beq_eq_true hd
   subst hd
   obtain⟨h1,h2⟩:=h
   obtain⟨S1,K1,f1,E1⟩:=En.mv (a:=c) (by simpa [Nat.blt_eq] using h1)
   obtain⟨F',ρ',S2,K2,E2,R2⟩:=EndS.out (fAV_iff.1 h2) (by rw[mvL_length];omega) E1 (hv.rn f1)
   exact⟨F',ρ',S1.trans S2,fun i u hi hu=>K2 i u hi (K1 i u hu),E2,R2⟩
  split at h
  ·obtain⟨h1,h2⟩:=h
   simp only[Bool.and_eq_true,Nat.ble_eq] at h1
   obtain⟨h1,hle⟩:=h1
   obtain⟨S1,E1⟩:=En.cut c
   obtain⟨F',ρ',S2,K2,E2,R2⟩:=EndS.out (fAV_iff.1 h2) (by rw[cutL_length hle];exact h1) E1 hv.cut
   exact⟨F',ρ',S1.trans S2,fun i u hi hu=>K2 i u hi (lo_in (by omega) hu),E2,R2⟩
  obtain⟨h1,h2⟩:=h
  obtain⟨g1,g2,g3,g4⟩:=swOk_out h1
  obtain⟨S1,E1⟩:=En.sw g3 g4
  obtain⟨F',ρ',S2,K2,E2,R2⟩:=EndS.out (fAV_iff.1 h2) (by rw[swL_length];exact hk) E1 hv.sw
  refine⟨F',ρ',S1.trans S2,fun i u hi hu=>K2 i u hi ?_,E2,R2⟩
  show ρ (swN c d i)=some u
  rw[swN_ne (by omega) (by omega)]
  exact hu
theorem leaves_marks {fn:Func} {tmps:Array Value} {R:Ending→World→Prop} {F0:Nat→Prop} {ρ0:Nat→Option Value} {H0 H:Hp} {w0:World}
  (hfin:∀ w',Step F0 ρ0 H0 w0 F ρ H w'→Env F ρ H w'→(∀ b,F b→w'.heap[b]?=w.heap[b]?)→∃ v,(results fn tmps).run P w'=.ok v w'∧R (.returned v) w') :
  ∀ (rs:List Nat) (w1:World),rs.Nodup→(∀ r∈rs,w0.heap.size≤r∧r<w1.heap.size∧¬F r∧¬Lv ρ H r∧w1.heap[r]?=some (.deferred (some [])))→Step F0 ρ0 H0 w0 F ρ H w1→Env F ρ H w1→(∀ b,F b→w1.heap[b]?=w.heap[b]?) →
   LeavesInM Fence.wide 0 P fn tmps R (rs.map markOf) .returning w1
 |[],w1,_,_,S,E,hF=>by
  obtain⟨v,h1,h2⟩:=hfin w1 S E hF
  exact⟨v,h1,h2⟩
 |r::rs,w1,hn,hr,S,E,hF=>by
  obtain⟨h1,h2,h3,h4,h5⟩:=hr r (List.mem_cons_self ..)
  have hne:∀ b,b≠r→(w1.putObj r (.deferred none)).heap[b]?=w1.heap[b]?:=fun b hb=>World.putObj_heap_other hb
  have hsz:(w1.putObj r (.deferred none)).heap.size=w1.heap.size:=by simp[World.putObj]
  have hn':=List.nodup_cons.1 hn
  refine⟨by simp,.inl ⟨r,_,rfl,run_takeDeferred h5,leaves_marks hfin rs _ hn'.2 (fun q hq=>?_) (S.others rfl rfl rfl (by omega) fun b hb=>hne b (by omega)) (E.others (by omega) fun b hb=>hne b ?_) fun b hb=>(hne b ?_).trans (hF b hb)⟩⟩
  ·obtain⟨g1,g2,g3,g4,g5⟩:=hr q (List.mem_cons_of_mem _ hq)
   exact⟨g1,by omega,g3,g4,(hne q fun e=>hn'.1 (e ▸ hq)).trans g5⟩
  ·rintro rfl
   exact hb.elim h3 h4
  ·rintro rfl
   exact h3 hb
theorem sat_of_vc {g:FuncId} {fn:Func} {c:Code} {args:List AV} {H H':List AObj} {r:AV} (hf:P.funcs[g]?=some fn) (hb:fn.body=some c) (hT:T=tiOf P) (hE:∀ g,E g=true→entersB P g=true) (hm:P.follows .mixedOrders=true)
  (hn:Nat.ble args.length fn.ntmps=true) (h:vcCode P T E fn.ntmps c H.length false (params 0 args) H (retK T fn.results.toList H.length r H')):Sat P g args H r H':=by
 intro F ρ w vals En hv
 have hl:=hv.length
 have hn:=Nat.le_of_ble_eq_true hn
 have hk0:∀ i v,ρ i=some v→i<H.length:=fun i v hi=>by
  rcases Nat.lt_or_ge i H.length with q|q
  ·exact q
  ·rw[En.abs i (List.getElem?_eq_none q)] at hi;cases hi
 refine (callsIn_wide (n:=0)).1 (callsIn_of_wp_marks hf hb trivial (wpIn_mono (vcCode_out hT hE hm c F ρ (hp H) w w.heap.size ρ H.length false none 0 hk0 (fun _=>⟨rfl,Nat.le_refl _⟩) _ H _ _ w h ⟨F,ρ,Step.refl _ _ _ _,Keep.refl ρ,En,⟨fun d=>?_,?_⟩,Nat.le_refl _,Marks.nil⟩) fun e a' w' ⟨tm',L',hq,F',ρ',S1,K1,E1,Sl1,hle,hM⟩=>?_))
 ·rw[params_lk,if_pos (Nat.zero_le _),Nat.sub_zero]
  cases hd:args[d]? with
  |none=>exact .any _
  |some x=>
   obtain⟨v,h1,h2⟩:=hv.get hd
   have hlt:=(List.getElem?_eq_some_iff.1 h1).1
   have:(vals.toArray++Array.replicate (fn.ntmps-vals.toArray.size) undef).getD d undef=v:=by
    rw[Array.getD_eq_getD_getElem?,Array.getElem?_append_left (by simpa using hlt)]
    simp[h1]
   rw[this];exact h2
 ·simp;omega
 ·have fin:(resK T L' fn.results.toList tm' fun l=>fAV (oneOr l) fun y=>∃ sw,EndS H.length r H' y L' sw) →
    LeavesInM Fence.wide 0 P fn a'.tmps (fun e w'=>∃ v,e=.returned v∧Post F ρ (hp H) w (hp H') r v w') a'.defers .returning w':=by
   intro h
   subst hT
   obtain⟨rs,hd,hnd,hrs⟩:=hM
   rw[hd]
   refine leaves_marks (w:=w') (fun w2 S2 E2 hF2=>?_) rs w' hnd hrs S1 E1 fun _ _=>rfl
   obtain⟨l,vs,h1,h2,h3⟩:=resK_out E2 (Sl1.others hF2) h
   obtain⟨sw,h4⟩:=fAV_iff.1 h1
   obtain⟨v,hrun,hv'⟩:=run_results h3
   obtain⟨F2,ρ2,S3,K2,E3,R2⟩:=h4.out hle E2 (hv' _ _ _ h2)
   exact⟨v,hrun,v,rfl,_,_,S2.trans S3,fun i u hi=>K2 i u (hk0 i u hi) (K1 i u hi),E3,R2⟩
  cases e with
  |normal=>exact fin hq
  |ret=>exact fin hq
  |_=>exact hq.elim
end
end Go.Proofs.YtfbfpnfgabamfaaGreat
/- Contracts at a call. No program is named here. -/
namespace Go.Proofs.YtfbfpnfgabamfaaGreat
set_option linter.unusedSimpArgs false
set_option linter.unusedVariables false
open Go.RowKit
mutual
theorem AV.rn_zero {f:Nat→Nat}:∀ (x:AV),AV.lt 0 x=true→x.rn f=x
 | .d x,_=>by rw[AV.rn]
 | .ptr i o,h=>by simp[AV.lt,Nat.blt] at h
 | .own i,h=>by simp[AV.lt,Nat.blt] at h
 | .ep i s q g,h=>by simp[AV.lt,Nat.blt] at h
 | .fp xs,_=>by rw[AV.rn]
 | .agg xs,h=>by rw[AV.rn,AV.rns_zero xs (by simpa [AV.lt] using h)]
 | .tup xs,h=>by rw[AV.rn,AV.rns_zero xs (by simpa [AV.lt] using h)]
 | .fn g a b,h=>by simp[AV.lt] at h;rw[AV.rn,AV.rns_zero a h.1,AV.rns_zero b h.2]
 | .mp i,h=>by simp[AV.lt,Nat.blt] at h
 | .rel i p,h=>by simp[AV.lt,Nat.blt] at h
 | .any,_=>by rw[AV.rn]
theorem AV.rns_zero {f:Nat→Nat}:∀ (xs:List AV),AV.lts 0 xs=true→AV.rns f xs=xs
 |[],_=>by rw[AV.rns]
 |x::r,h=>by simp[AV.lts] at h;rw[AV.rns,AV.rn_zero x h.1,AV.rns_zero r h.2]
end
section
variable {P:Program} {L:List AObj} {n:Nat} {g:FuncId} {args:List AV} {r:AV}
theorem Sat.pu (h:Sat P g args [] r []) (hi:AV.lts 0 args=true) (hr:AV.lt 0 r=true):CallOK P g args L n e0 r:=by
 have:=h.at_ [] L n rfl List.nodup_nil rfl rfl (by simp[hi,AObj.lts]) (fun j hj=>by simp at hj)
 rw[AV.rns_zero _ hi,AV.rn_zero _ hr] at this
 exact this
theorem Sat.nw {H':List AObj} (h:Sat P g args [] r H') (hi:AV.lts 0 args=true):CallOK P g args L n ⟨[],[],AObj.rns (sub [] n) H'⟩ (r.rn (sub [] n)):=by
 have:=h.at_ [] L n rfl List.nodup_nil rfl rfl (by simp[hi,AObj.lts]) (fun j hj=>by simp at hj)
 rw[AV.rns_zero _ hi] at this
 exact this
end
end Go.Proofs.YtfbfpnfgabamfaaGreat
