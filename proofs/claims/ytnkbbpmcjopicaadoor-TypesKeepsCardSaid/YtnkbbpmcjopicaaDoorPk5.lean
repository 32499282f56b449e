import Derived.Test.YtnkbbpmcjopicaaDoorPk4
import Derived.RowKit3
import Derived.Below
set_option linter.unusedVariables false
set_option linter.unusedSimpArgs false
open Nat renaming reduceEqDiff -> ZA,reduceAdd -> ZB,reduceMul -> ZC,reduceLeDiff -> ZD,reduceLT -> ZE
open Int renaming reduceEq -> ZF
open Bool renaming and_eq_true->Z0,or_eq_true->Z1,not_true->Z4,false_or->Z5,not_eq_true'->Z6,false_eq_true->Zj
open Array renaming getElem?_eq_some_iff->Z2,getElem?_push->Zb,replicate->Zf,ext'->Zi
open List renaming getElem?_eq_some_iff->Z3,getElem?_zipIdx->Z8,getElem?_append_left->Z9,range->Za,all_eq_true->Zd,getElem?_cons_succ->Ze,mem_iff_getElem?->Zg,length_filter_le->Zh,getElem?_map->Zk
open Nat renaming le_refl->Z7,lt_of_lt_of_le->Zc
open Option renaming some->Zl
namespace Go.Eng
def veq:Nat->Value->Value->Bool
 | _,.bool a,.bool b=>a == b
 | _,.int j a,.int k b=>j == k && a == b
 | _,.string a,.string b=>a.data.toList == b.data.toList
 | _,.pointer a,.pointer b=>a == b
 | _,.slice a n c,.slice b m d=>a == b && n == m && c == d
 | _,.map a,.map b=>a == b
 | _,.nilFunc,.nilFunc=>true
 | _,.nilIface,.nilIface=>true
 | n+1,.iface t v,.iface u w=>t == u && veq n v w
 | n+1,.agg a,.agg b=>veqs n a.toList b.toList
 | n+1,.tuple a,.tuple b=>veqs n a.toList b.toList
 | n+1,.func f a c,.func g b d=>f == g && veqs n a.toList b.toList && veqs n c.toList d.toList
 | _,_,_=>false
where
 veqs (n:Nat):List Value->List Value->Bool
  | [],[]=>true
  | x::l,y::m=>veq n x y && veqs n l m
  | _,_=>false
theorem bytes_eq {a b:ByteArray} (h:(a.data.toList == b.data.toList)=true):a=b:=by
 have:=beq_iff_eq.1 h;cases a;cases b;simp at this;rw[this]
theorem veqs_eq {n:Nat} (ih:∀ v w,veq n v w=true->v=w):∀ (l m:List Value),veq.veqs n l m=true->l=m:=by
 intro l
 induction l with
 | nil=>intro m h;cases m with
   | nil=>rfl
   | cons=>simp [veq.veqs] at h
 | cons x l ihl =>
   intro m h;cases m with
   | nil=>simp [veq.veqs] at h
   | cons y m =>
     simp only[veq.veqs,Z0] at h;rw[ih x y h.1,ihl m h.2]
theorem veq_eq:∀ (n:Nat) (v w:Value),veq n v w=true->v=w:=by
 intro n
 induction n with
 | zero =>
   intro v w h;unfold veq at h
   split at h<;>first|rfl|(rw[bytes_eq h];done)|(simp only[Z0,beq_iff_eq] at h;simp_all;done)|(simp at h;done)|(rename_i e;cases e)
 | succ n ih =>
   intro v w h;unfold veq at h
   split at h
   case h_9 k t v' u w' e =>
    cases e;simp only[Z0,beq_iff_eq] at h;rw[h.1,ih _ _ h.2]
   case h_10 k a b e =>
    cases e;rw[Zi (veqs_eq ih _ _ h)]
   case h_11 k a b e =>
    cases e;rw[Zi (veqs_eq ih _ _ h)]
   case h_12 k f a c g b d e =>
    cases e;simp only[Z0,beq_iff_eq] at h;rw[h.1.1,Zi (veqs_eq ih _ _ h.1.2),Zi (veqs_eq ih _ _ h.2)]
   all_goals first|rfl|(rw[bytes_eq h];done)|(simp only[Z0,beq_iff_eq] at h;simp_all;done)|(simp at h;done)
def bit (A:List Nat) (i j:Nat):Bool:=((A[i]?).getD 0).testBit j
def tempsOk (ops:Array Oper) (l:List Oper) (A:List Nat):Bool :=
 l.zipIdx.all fun (o,i) =>
  o.after.all (fun e=>!Region.binds .any e || decide (e.on<i)) &&
  l.zipIdx.all fun (o',j)=>i == j || match o'.dst with
   | none=>true
   | some t=>o.dst != some t && (!(o.looksAt ops).contains t || (if j<i then bit A i j else bit A j i))
def many (trs:List TR):Fin'->Nat
 | .norm _ _=>trs.length
 | .pan _ _=>trs.length-1
def allocOp (o:Oper):Bool :=
 match o.op with
 | .alloc _ | .box _ _ | .buildSlice _ _ _ | .makeMap _ none=>true
 | _=>false
theorem aread_alloc {P:Program} {env:List Value} {h h2:AH} {m:Nat} {o:Oper} (ha:allocOp o=true):aread P (ev env) h m o=aread P (ev env) h2 m o:=by
 obtain ⟨dst,op,type,pos,after,guard⟩:=o;unfold allocOp at ha;simp only at ha
 split at ha
 ·rfl
 ·rfl
 ·rfl
 ·rfl
 ·cases ha
def alOf (P:Program) (trs:List TR) (ops:Array Oper) (j:Nat):Bool :=
 match trs[j]?,ops[j]? with
 | some t,some o=>t.w && t.k && allocOp o && match aread P (ev t.env) t.h t.h.length o with
   | some (_,some _)=>true
   | _=>false
 | _,_=>false
def chainOk (n:Nat) (A:List Nat) (al:Nat->Bool) (trs:List TR) (fin:Fin'):Bool :=
 trs.zipIdx.all (fun (t,j)=>!t.k || al j || trs.zipIdx.all fun (t',i)=>!t'.k || !decide (i<j) || bit A j i) &&
 match fin with
 | .norm _ _=>true
 | .pan _ _=>(Za n).all fun j=>!decide (trs.length<=j) || bit A j (trs.length-1)
def flushOk (n:Nat) (A:List Nat) (al:Nat->Bool) (trs:List TR):Bool :=
 trs.zipIdx.all fun (t,a)=>!al a || (trs.zipIdx.all (fun (t',j)=>!decide (j<=a) || decide (t'.h.length<=t.h.length)) &&
  (Za n).all fun i=>!bit A i a || trs.zipIdx.all fun (t',j)=>!t'.k || !decide (j<a) || bit A i j)
def own (trs:List TR) (i:Nat):Nat:=(trs.take i).zipIdx.foldl (fun p (t,j)=>if t.k then j+1 else p) 0
def readAt (P:Program) (A:List Nat) (trs:List TR) (fin:Fin') (o:Oper) (t:TR) (i p:Nat):Bool :=
 p == own trs i ||
 trs.zipIdx.any (fun (t',j)=>t'.k && bit A i j && !decide (j<p)) ||
 trs.zipIdx.any (fun (t',j)=>t'.k && decide (j<p) && bit A j i) ||
 match aread P (ev t.env) (after1 trs fin p).2 (after1 trs fin p).2.length o with
 | some (v,none)=>veq 8 v t.v
 | _=>false
def readsOk (P:Program) (l:List Oper) (A:List Nat) (trs:List TR) (fin:Fin'):Bool :=
 (l.zip trs).zipIdx.all fun ((o,t),i)=>!t.w || t.k || (readAt P A trs fin o t i 0 && trs.zipIdx.all fun (t',j)=>!t'.k || !decide (j<many trs fin) || readAt P A trs fin o t i (j+1))
def adraw (P:Program) (keep:Bool) (F:FT):DT:=fun ops s =>
 match trace P F keep ops ops.toList s.env s.h with
 | some (trs,fin) =>
   if tempsOk ops ops.toList (ancs ops.toList) && chainOk ops.size (ancs ops.toList) (alOf P trs ops) trs fin && flushOk ops.size (ancs ops.toList) (alOf P trs ops) trs && readsOk P ops.toList (ancs ops.toList) trs fin then
    match fin with
    | .norm env h=>some (.norm,⟨env,h,s.ds⟩)
    | .pan v h=>some (.pan v,⟨[],h,s.ds⟩)
   else none
 | none=>none
theorem all_zipIdx {α:Type} {l:List α} {f:α × Nat->Bool} (h:l.zipIdx.all f=true) {i:Nat} {x:α} (hx:l[i]?=some x):f (x,i)=true:=by
 refine Zd.1 h (x,i) ?_;rw[Zg];exact ⟨i,by rw[Z8,hx];simp⟩
theorem any_zipIdx {α:Type} {l:List α} {f:α × Nat->Bool} (h:l.zipIdx.any f=true):∃ i x,l[i]?=some x/\f (x,i)=true:=by
 obtain ⟨⟨x,i⟩,h1,h2⟩:=List.any_eq_true.1 h;rw[Zg] at h1;obtain ⟨k,hk⟩:=h1;rw[Z8] at hk;cases hx:l[k]? with
 | none=>simp [hx] at hk
 | some y=>simp [hx] at hk;obtain ⟨rfl,rfl⟩:=hk;exact ⟨k,y,hx,h2⟩
def ReadsP (P:Program) (l:List Oper) (A:List Nat) (trs:List TR) (fin:Fin'):Prop :=
 ∀ (i:Nat) (o:Oper) (t:TR) (p:Nat),l[i]?=some o->trs[i]?=some t->t.w=true->t.k=false ->
   (p=0 \/ ∃ j tj,p=j+1/\trs[j]?=some tj/\tj.k=true/\j<many trs fin)->p≠own trs i ->
   (∀ (j:Nat) (tj:TR),trs[j]?=some tj->tj.k=true->bit A i j=true->j<p) ->
   (∀ (j:Nat) (tj:TR),trs[j]?=some tj->tj.k=true->j<p->bit A j i=false) ->
   aread P (ev t.env) (after1 trs fin p).2 (after1 trs fin p).2.length o=some (t.v,none)
theorem readsOk_P {P:Program} {l:List Oper} {A:List Nat} {trs:List TR} {fin:Fin'} (h:readsOk P l A trs fin=true):ReadsP P l A trs fin:=by
 intro i o t p hl ht hw hk hp hpo h1 h2;have hall:=all_zipIdx h (i:=i) (x:=(o,t)) (by rw[List.getElem?_zip_eq_some];exact ⟨hl,ht⟩);simp only[hw,hk,Z4,Z5,Z0] at hall;have hra:readAt P A trs fin o t i p=true:=by
  rcases hp with hp0|⟨j,tj,hpj,htj,hkj,hm⟩
  ·rw[hp0];exact hall.1
  ·have:=all_zipIdx hall.2 htj
   simp only[hkj,Z4,Z5,Z1,Z6,decide_eq_false_iff_not] at this;rw[hpj]
   rcases this with h3|h3
   ·exact absurd hm h3
   ·exact h3
 unfold readAt at hra;simp only[Z1,beq_iff_eq] at hra
 rcases hra with ((h3|h3)|h3)|h3
 ·exact absurd h3 hpo
 ·exfalso
  obtain ⟨j,tj,e1,e2⟩:=any_zipIdx h3;simp only[Z0,Z6,decide_eq_false_iff_not] at e2;exact e2.2 (h1 j tj e1 e2.1.1 e2.1.2)
 ·exfalso
  obtain ⟨j,tj,e1,e2⟩:=any_zipIdx h3;simp only[Z0,decide_eq_true_eq] at e2;have:=h2 j tj e1 e2.1.1 e2.1.2;rw[e2.2] at this;cases this
 ·split at h3
  ·rename_i v hav
   rw[veq_eq 8 v t.v h3] at hav;exact hav
  ·cases h3
theorem own_spec (trs:List TR):∀ (i:Nat),i<=trs.length->(∀ j tj,trs[j]?=some tj->tj.k=true->j<i->j<own trs i)/\own trs i<=i/\(own trs i=0 \/ ∃ j tj,own trs i=j+1/\trs[j]?=some tj/\tj.k=true):=by
 intro i
 induction i with
 | zero=>intro _;exact ⟨fun j tj _ _ h=>by omega,by simp [own],.inl (by simp [own])⟩
 | succ i ih =>
   intro hi;obtain ⟨h1,h2,h3⟩:=ih (by omega);have hlt:i<trs.length:=by omega
   have e:own trs (i+1)=if trs[i].k then i+1 else own trs i:=by
    unfold own;rw[List.take_succ_eq_append_getElem hlt,List.zipIdx_append,List.foldl_append];have hm:min i trs.length=i:=Nat.min_eq_left (by omega);simp [hm]
   rw[e];cases hk:trs[i].k with
   | true =>
     simp only[if_true];exact ⟨fun j tj _ _ h=>by omega,Z7 _,.inr ⟨i,trs[i],rfl,by simp [hlt],hk⟩⟩
   | false =>
     simp only[Zj,if_false];refine ⟨fun j tj a b h=>?_,by omega,h3⟩
     by_cases hj:j=i
     ·subst hj;rw[List.getElem?_eq_getElem hlt] at a;cases a;rw[hk] at b;cases b
     ·exact h1 j tj a b (by omega)
theorem heap_const {P:Program} {F:FT} {keep:Bool} {ops:Array Oper} {l:List Oper} {env:List Value} {h:AH} {trs:List TR} {fin:Fin'} (he:trace P F keep ops l env h=some (trs,fin)) {p:Nat} :
 ∀ (q:Nat),p<=q->q<=trs.length->(q=trs.length -> ∃ e2 h2,fin = .norm e2 h2)->(∀ j tj,trs[j]?=some tj->p<=j->j<q->tj.k=false)->(after1 trs fin q).2=(after1 trs fin p).2:=by
 intro q
 induction q with
 | zero=>intro hp _ _ _;rw[Nat.le_zero.1 hp]
 | succ q ih =>
   intro hp hq hnorm hno
   by_cases e:p=q+1
   ·rw[e]
   ·have hlt:q<trs.length:=by omega
    have hll:trs.length<=l.length:=by rcases trace_len _ _ _ _ _ he with ⟨_,_,_,hl⟩|⟨_,_,_,_,hl⟩<;>omega
    rw[<- ih (by omega) (by omega) (fun h=>by omega) (fun j tj a b c=>hno j tj a b (by omega))];have st:=trace_step _ _ _ _ _ he q trs[q] l[q] (by simp [hlt]) (by simp);have hk:=hno q trs[q] (by simp [hlt]) (by omega) (by omega);have haft:(after1 trs fin q).2=trs[q].h:=by simp [after1,hlt]
    rw[haft];obtain ⟨s1,s2,s3,s4⟩:=st;cases hw:trs[q].w with
    | false=>rw[(s2 hw).2.2]
    | true=>rw[(s3 hw hk).2]
end Go.Eng

namespace Go.Eng
def Pd (L al:Nat->Bool) (p j:Nat):Prop:=L j=true/\al j=true/\p<=j
def rAt (r:Rho) (al:Nat->Bool) (pl:Nat->Loc) (p j:Nat) (tj:TR):Rho:=if p<=j/\al j=true then r.upd tj.h.length (pl j) else r
structure Inv (P:Program) (ops:Array Oper) (s:St) (trs:List TR) (fin:Fin') (al:Nat->Bool) (r0:Rho) (w0:World) (L:Nat->Bool) (pl:Nat->Loc) (a:Act) (w:World) (p:Nat) (r:Rho):Prop where
 closed:Closed ops L
 sub:∀ i,L i=true->i<many trs fin
 ple:p<=many trs fin
 done:∀ j tj,trs[j]?=some tj->tj.k=true->j<many trs fin->(j<p->L j=true)/\(L j=true->j<p\/al j=true)
 pat:p=0 \/ ∃ j tj,p=j+1/\trs[j]?=some tj/\tj.k=true
 stp:Stp P r0 s.h w0 r (after1 trs fin p).2 w
 size:s.env.length<=a.tmps.size
 wrote:∀ j tj oj t,L j=true->trs[j]?=some tj->ops[j]?=some oj->oj.dst=some t->t<s.env.length -> ∃ v',a.tmps[t]?=some v'/\VR (rAt r al pl p j tj) tj.v v'
 kept:∀ t v,(∀ j oj,L j=true->ops[j]?=some oj->oj.dst≠some t)->s.env[t]?=some v -> ∃ v',a.tmps[t]?=some v'/\VR r v v'
 ds:DR r s.ds a.defers
 pend:∀ j tj oj,Pd L al p j->trs[j]?=some tj->ops[j]?=some oj -> ∃ B,aread P (ev tj.env) tj.h tj.h.length oj=some (tj.v,some B)/\B.live=true/\BO P (r.upd tj.h.length (pl j)) (pl j) B w.heap[(pl j).blk]? /\
  w0.heap.size<=(pl j).blk/\(pl j).blk<w.heap.size /\ ∀ b C x,(after1 trs fin p).2[b]?=some C->C.live=true->r b=some x->x.blk≠(pl j).blk
 pdist:∀ j j',Pd L al p j->Pd L al p j'->j≠j'->(pl j).blk≠(pl j').blk
 tab:∀ g,(Tab P g).isSome=true->g<w0.heap.size
theorem Rho.upd_mono {r r':Rho} (h:r.le r') (m:Nat) (x:Loc):(r.upd m x).le (r'.upd m x):=fun b y hb=>by
 by_cases e:b=m
 ·subst e;rw[Rho.upd_same] at hb ⊢;exact hb
 ·rw[Rho.upd_ne _ _ e] at hb ⊢;exact h b y hb
theorem Stp.adopt {P:Program} {r0 r:Rho} {h0 h:AH} {w0 w:World} (st:Stp P r0 h0 w0 r h w) {x:Loc} {B:Blk} (hl:B.live=true) (hx:x.blk<w.heap.size) (hB:BO P (r.upd h.length x) x B w.heap[x.blk]?)
 (hf:∀ b C y,h[b]?=some C->C.live=true->r b=some y->y.blk≠x.blk) (h0x:w0.heap.size<=x.blk)
 (hT:∀ g,(Tab P g).isSome=true->g<w0.heap.size):Stp P r0 h0 w0 (r.upd h.length x) (h++[B]) w:=by
 have hfree:=st.hr.free_end.2.1;have hle:=Rho.le_upd hfree x;have hget:∀ b C,(h++[B])[b]?=some C->b≠h.length->h[b]?=some C:=fun b C e hb=>by
  by_cases hlt:b<h.length
  ·rwa [Z9 hlt] at e
  ·rw[List.getElem?_append_right (by omega),List.getElem?_eq_none (by simp;omega)] at e;cases e
 refine ⟨st.le.trans hle,⟨?_,?_,?_,st.hr.lay,fun g b C y hg e hw hy=>?_⟩,st.fr,?_,by have:=st.len;simp;omega,fun k hk=>?_⟩
 ·intro b y e
  by_cases hb:b=h.length
  ·subst hb;rw[Rho.upd_same] at e;cases e;exact ⟨by simp,hx⟩
  ·rw[Rho.upd_ne _ _ hb] at e
   have:=st.hr.dom b y e;exact ⟨by simp;omega,this.2⟩
 ·intro b C e hC
  by_cases hb:b=h.length
  ·subst hb;simp at e;subst e;exact ⟨x,Rho.upd_same _ _ _,hB⟩
  ·obtain ⟨y,e1,e2⟩:=st.hr.blk b C (hget b C e hb) hC
   exact ⟨y,by rw[Rho.upd_ne _ _ hb];exact e1,e2.mono hle⟩
 ·intro b b' C C' y y' e e' hne hw hl' hy hy' heq
  by_cases hb:b=h.length
  ·subst hb
   have hb':b'≠h.length:=fun k=>hne k.symm
   rw[Rho.upd_same] at hy;cases hy;rw[Rho.upd_ne _ _ hb'] at hy';exact absurd heq.symm (hf b' C' y' (hget b' C' e' hb') hl' hy')
  ·rw[Rho.upd_ne _ _ hb] at hy
   by_cases hb':b'=h.length
   ·subst hb'
    rw[Rho.upd_same] at hy';cases hy';exact absurd heq (hf b C y (hget b C e hb) (Blk.live_of_wr hw) hy)
   ·rw[Rho.upd_ne _ _ hb'] at hy'
    exact st.hr.sep b b' C C' y y' (hget b C e hb) (hget b' C' e' hb') hne hw hl' hy hy' heq
 ·by_cases hb:b=h.length
  ·subst hb;rw[Rho.upd_same] at hy;cases hy
   have:=hT g hg;omega
  ·rw[Rho.upd_ne _ _ hb] at hy
   exact st.hr.nwr g b C y hg (hget b C e hb) hw hy
 ·intro b C y e hC hy hlt
  by_cases hb:b=h.length
  ·subst hb;rw[Rho.upd_same] at hy;cases hy;omega
  ·rw[Rho.upd_ne _ _ hb] at hy
   exact st.own b C y (hget b C e hb) hC hy hlt
 ·have:=st.gone k hk
  rw[Z9 (Z3.1 this).1];exact this
theorem Stp.idle {P:Program} {r0 r:Rho} {h0 h:AH} {w0 w w':World} (st:Stp P r0 h0 w0 r h w) {ob:Obj} (h1:w'.os=w.os) (h2:w'.tape=w.tape) (h3:w'.output=w.output) (h4:w'.heap=w.heap.push ob):Stp P r0 h0 w0 r h w':=by
 have hpush:∀ k,k<w.heap.size->w'.heap[k]?=w.heap[k]?:=fun k hk=>by rw[h4,Zb,if_neg (by omega)]
 have hsz:w'.heap.size=w.heap.size+1:=by rw[h4];simp
 refine ⟨st.le,⟨fun b x e=>?_,fun b B e hl=>?_,st.hr.sep,fun g cs hg=>?_,st.hr.nwr⟩,⟨h1.trans st.fr.os,h2.trans st.fr.tape,h3.trans st.fr.output,by have:=st.fr.size;omega,fun k hk hn=>?_⟩,st.own,st.len,st.gone⟩
 ·have:=st.hr.dom b x e;exact ⟨this.1,by omega⟩
 ·obtain ⟨x,e1,e2⟩:=st.hr.blk b B e hl
  exact ⟨x,e1,by rw[hpush _ (st.hr.dom b x e1).2];exact e2⟩
 ·obtain ⟨cur,e,fr,hc,hv⟩:=st.hr.lay g cs hg
  exact ⟨cur,e,fr,by rw[hpush g (Z2.1 hc).1];exact hc,hv⟩
 ·rw[hpush k (by have:=st.fr.size;omega)];exact st.fr.block k hk hn
def put1 (L:Nat->Bool) (i:Nat):Nat->Bool:=fun k=>k == i || L k
section
variable {P:Program} {F:FT} {keep:Bool} {ops:Array Oper} {s:St} {trs:List TR} {fin:Fin'} {r0:Rho} {w0:World} {al:Nat->Bool}
theorem many_le (trs:List TR) (fin:Fin'):many trs fin<=trs.length:=by cases fin<;>simp [many]
theorem temps_spec {l:List Oper} {A:List Nat} (h:tempsOk ops l A=true) {i:Nat} {o:Oper} (ho:l[i]?=some o) :
 (∀ e∈o.after,Region.binds .any e=true->e.on<i) /\
 (∀ j o' t,l[j]?=some o'->j≠i->o'.dst=some t->o.dst≠some t/\(t∈o.looksAt ops->if j<i then bit A i j=true else bit A j i=true)):=by
 have h1:=all_zipIdx h ho;simp only[Z0] at h1;refine ⟨fun e he hb=>?_,fun j o' t ho' hne hd=>?_⟩
 ·have:=Array.all_eq_true_iff_forall_mem.1 h1.1 e he
  simpa [hb] using this
 ·have h2:=all_zipIdx h1.2 ho'
  simp only[hd,Z1,beq_iff_eq,Z0,bne_iff_ne,ne_eq] at h2
  rcases h2 with h2|⟨h2,h3⟩
  ·exact absurd h2.symm hne
  ·refine ⟨h2,fun ht=>?_⟩
   rcases h3 with h3|h3
   ·simp at h3;exact absurd ht h3
   ·split
    ·rename_i hlt;rw[if_pos hlt] at h3;exact h3
    ·rename_i hlt;rw[if_neg hlt] at h3;exact h3
theorem Inv.look {L:Nat->Bool} {pl:Nat->Loc} {a:Act} {w:World} {p:Nat} {r:Rho} (hI:Inv P ops s trs fin al r0 w0 L pl a w p r) (he:trace P F keep ops ops.toList s.env s.h=some (trs,fin))
 (ht:tempsOk ops ops.toList (ancs ops.toList)=true) {i:Nat} {o:Oper} {tr:TR} (ho:ops[i]?=some o) (htr:trs[i]?=some tr) (hi:L i=false)
 (hanc:∀ j,bit (ancs ops.toList) i j=true->L j=true) (hnp:∀ j,bit (ancs ops.toList) i j=true -> ¬ Pd L al p j):∀ t∈o.looksAt ops,∀ v,tr.env[t]?=some v -> ∃ v',a.tmps[t]?=some v'/\VR r v v':=by
 intro t hlook v hv;have hlt:i<trs.length:=(Z3.1 htr).1;have haft:(after1 trs fin i).1=tr.env:=by simp [after1,htr]
 have hl:ops.toList[i]?=some o:=by simpa using ho
 obtain ⟨_,hts⟩:=temps_spec ht hl
 rcases trace_env he i (.inl hlt) t v (by rw[haft];exact hv) with ⟨j,tj,oj,h1,h2,h3,h4,h5,h6⟩|⟨h1,h2⟩
 ·have:=(hts j oj t h3 (by omega) h4).2 hlook
  rw[if_pos h1] at this;obtain ⟨v',e1,e2⟩:=hI.wrote j tj oj t (hanc j this) h2 (by simpa using h3) h4 h6;have hr:rAt r al pl p j tj=r:=by
   unfold rAt;rw[if_neg];rintro ⟨k1,k2⟩;exact hnp j this ⟨hanc j this,k2,k1⟩
  rw[hr] at e2;exact ⟨v',e1,by rw[<- h5];exact e2⟩
 ·refine hI.kept t v (fun j oj hj hoj hd=>?_) h2
  have hoj':ops.toList[j]?=some oj:=by simpa using hoj
  by_cases hji:j<i
  ·exact h1 j oj hji hoj' hd
  ·have hne:j≠i:=fun e=>by rw[e,hi] at hj;cases hj
   have:=(hts j oj t hoj' hne hd).2 hlook;rw[if_neg hji] at this;have:=hI.closed.anc hoj (hI.closed j oj hoj hj) i this;rw[hi] at this;cases this
def maskE (ts:List Tmp) (env:List Value):List Value:=env.zipIdx.map fun p=>if ts.contains p.2 then p.1 else undef
def maskT (ts:List Tmp) (t:Array Value):Array Value:=(t.toList.zipIdx.map fun p=>if ts.contains p.2 then p.1 else undef).toArray
theorem maskE_get (ts:List Tmp) (env:List Value) (t:Nat):(maskE ts env)[t]?=(env[t]?).map fun v=>if ts.contains t then v else undef:=by
 unfold maskE;rw[Zk,Z8];cases env[t]?<;>simp
theorem maskT_get (ts:List Tmp) (a:Array Value) (t:Nat):(maskT ts a)[t]?=(a[t]?).map fun v=>if ts.contains t then v else undef:=by
 unfold maskT;rw[List.getElem?_toArray,Zk,Z8,Array.getElem?_toList];cases a[t]?<;>simp
theorem mask_er {r:Rho} {ts:List Tmp} {env:List Value} {t:Array Value} (hs:env.length<=t.size) (h:∀ x∈ts,∀ v,env[x]?=some v -> ∃ v',t[x]?=some v'/\VR r v v'):ER r (maskE ts env) (maskT ts t):=by
 intro x v hv;rw[maskE_get] at hv;rw[maskT_get];cases hx:env[x]? with
 | none=>simp [hx] at hv
 | some u =>
   have hlt:x<t.size:=by have:=(Z3.1 hx).1;omega
   simp only[hx,Option.map_some,Zl.injEq] at hv
   by_cases hm:ts.contains x=true
   ·rw[if_pos hm] at hv;subst hv
    obtain ⟨v',e1,e2⟩:=h x (by simpa using hm) _ hx;have hm':x∈ts:=by simpa using hm
    exact ⟨v',by simp [e1,hm'],e2⟩
   ·rw[if_neg hm] at hv;subst hv
    have hm':¬ x∈ts:=by simpa using hm
    exact ⟨undef,by simp [hlt,hm'],undef_vr r⟩
theorem mask_ev {ts:List Tmp} {env:List Value} {x:Operand} (h:∀ t,x = .tmp t->t∈ts):ev env x=ev (maskE ts env) x:=by
 cases x with
 | tmp t =>
   have:=h t rfl;simp only[ev,maskE_get];cases env[t]?<;>simp [this]
 | _=>rfl
theorem mask_eval {ts:List Tmp} {a:Act} {x:Operand} (h:∀ t,x = .tmp t->t∈ts):({ a with tmps:=maskT ts a.tmps }:Act).eval x=a.eval x:=by
 cases x with
 | tmp t =>
   have:=h t rfl;simp only[Act.eval,Array.getD_eq_getD_getElem?,maskT_get];cases a.tmps[t]?<;>simp [this]
 | _=>rfl
theorem looks_op {o:Oper} {x:Operand} (hx:x∈o.op.operands):∀ t,x = .tmp t->t∈o.looksAt ops:=fun t e=>by
 subst e;exact List.mem_append_left _ (List.mem_filterMap.2 ⟨.tmp t,by simpa using hx,rfl⟩)
theorem aread_notSel {env:List Value} {h:AH} {m:Nat} {o:Oper} {res:RRes} (he:aread P (ev env) h m o=some res):∀ cs b,o.op ≠ .select cs b:=by
 intro cs b e;unfold aread at he;rw[e] at he;cases he
theorem aopv_notSel {env:List Value} {h:AH} {o:Oper} {x:Res × AH} (he:aopv P F keep env h o=some x):∀ cs b,o.op ≠ .select cs b:=by
 intro cs b e;obtain ⟨dst,op,type,pos,after,guard⟩:=o;simp only at e;subst e;unfold aopv at he;simp only[aread,awrite] at he;cases he
theorem want_mask {r:Rho} {env:List Value} {a:Act} {o:Oper} (h:∀ x∈o.looksAt ops,∀ v,env[x]?=some v -> ∃ v',a.tmps[x]?=some v'/\VR r v v') {b:Bool} (he:wantA ops env o=some b) :
 Region.wanted o (yielded ops a.tmps)=b:=by
 unfold wantA at he;unfold Region.wanted
 split at he
 ·rename_i hg;cases he;simp [hg]
 ·rename_i j want hg
  rw[hg]
  dsimp only
  unfold yielded
  split at he
  ·rename_i d hd
   have hmem:d∈o.looksAt ops:=by
    unfold Oper.looksAt;refine List.mem_append_right _ ?_;rw[hg];simp only[hd];simp
   rw[hd]
   split at he
   ·rename_i b' hb
    cases he;obtain ⟨v',h1,h2⟩:=h d hmem _ hb;rw[h2.bool_inv] at h1;simp [h1]
   ·cases he
   ·rename_i v hnb hnc hb
    cases he;obtain ⟨v',h1,h2⟩:=h d hmem _ hb;simp only[Option.bind_some,h1];cases h2<;>first|exact absurd rfl (hnb _)|exact absurd rfl (hnc _ _ _)|rfl
   ·cases he
  ·rename_i hd
   cases he;rw[hd];rfl
theorem Inv.next {L:Nat->Bool} {pl pl':Nat->Loc} {a:Act} {w w':World} {p p':Nat} {r r':Rho} (hI:Inv P ops s trs fin al r0 w0 L pl a w p r) (ht:tempsOk ops ops.toList (ancs ops.toList)=true)
 {i:Nat} {o:Oper} {tr:TR} (ho:ops[i]?=some o) (htr:trs[i]?=some tr) (hi:L i=false) (him:i<many trs fin) (hdeps:∀ e∈o.after,Region.binds .any e=true->L e.on=true)
 {v':Value} (hv:VR (rAt r' al pl' p' i tr) tr.v v') (hle:r.le r') (hst:Stp P r0 s.h w0 r' (after1 trs fin p').2 w')
 (hp:p'<=many trs fin) (hpat:p'=0 \/ ∃ j tj,p'=j+1/\trs[j]?=some tj/\tj.k=true)
 (hdone:∀ j tj,trs[j]?=some tj->tj.k=true->j<many trs fin->(j<p'->put1 L i j=true)/\(put1 L i j=true->j<p'\/al j=true))
 (hpl:∀ j,j≠i->pl' j=pl j) (hpp:p<=p') (hnone:∀ j,Pd L al p j->p'<=j)
 (hpend:∀ j tj oj,Pd (put1 L i) al p' j->trs[j]?=some tj->ops[j]?=some oj -> ∃ B,aread P (ev tj.env) tj.h tj.h.length oj=some (tj.v,some B)/\B.live=true/\BO P (r'.upd tj.h.length (pl' j)) (pl' j) B w'.heap[(pl' j).blk]? /\
  w0.heap.size<=(pl' j).blk/\(pl' j).blk<w'.heap.size /\ ∀ b C x,(after1 trs fin p').2[b]?=some C->C.live=true->r' b=some x->x.blk≠(pl' j).blk)
 (hpdist:∀ j j',Pd (put1 L i) al p' j->Pd (put1 L i) al p' j'->j≠j'->(pl' j).blk≠(pl' j').blk) :
 Inv P ops s trs fin al r0 w0 (put1 L i) pl' (a.put o.dst v') w' p' r':=by
 have hl:ops.toList[i]?=some o:=by simpa using ho
 obtain ⟨_,hts⟩:=temps_spec ht hl;have hsz:(a.put o.dst v').tmps.size=a.tmps.size:=by cases o.dst<;>simp [Act.put]
 have hother:∀ t,o.dst≠some t->(a.put o.dst v').tmps[t]?=a.tmps[t]?:=fun t h=>by
  cases hd:o.dst with
  | none=>rfl
  | some d=>simp [Act.put,Array.getElem?_setIfInBounds_ne (fun e:d=t=>h (by rw[hd,e]))]
 have hself:∀ t,o.dst=some t->t<a.tmps.size->(a.put o.dst v').tmps[t]?=some v':=fun t h hlt=>by simp [h,Act.put,hlt]
 refine ⟨fun k ok hk hLk e hem hb=>?_,fun k hk=>?_,hp,hdone,hpat,hst,by rw[hsz];exact hI.size,fun j tj oj t hj htj hoj hd hlt=>?_,fun t v hno hv0=>?_,by rw[put_defers];exact hI.ds.mono hle,hpend,hpdist,hI.tab⟩
 ·simp only[put1,Z1,beq_iff_eq] at hLk ⊢
  rcases hLk with rfl|hLk
  ·rw[ho] at hk;cases hk;exact .inr (hdeps e hem hb)
  ·exact .inr (hI.closed k ok hk hLk e hem hb)
 ·simp only[put1,Z1,beq_iff_eq] at hk
  rcases hk with rfl|hk
  ·exact him
  ·exact hI.sub k hk
 ·simp only[put1,Z1,beq_iff_eq] at hj
  by_cases hji:j=i
  ·subst hji
   rw[ho] at hoj;cases hoj;rw[htr] at htj;cases htj;exact ⟨v',hself t hd (Zc hlt hI.size),hv⟩
  ·have hLj:L j=true:=by rcases hj with hj|hj;exact absurd hj hji;exact hj
   obtain ⟨u,e1,e2⟩:=hI.wrote j tj oj t hLj htj hoj hd hlt;refine ⟨u,by rw[hother t (hts j oj t (by simpa using hoj) hji hd).1];exact e1,e2.mono ?_⟩;unfold rAt
   by_cases hc:p<=j/\al j=true
   ·have:=hnone j ⟨hLj,hc.2,hc.1⟩
    rw[if_pos hc,if_pos ⟨this,hc.2⟩,hpl j hji];exact Rho.upd_mono hle _ _
   ·rw[if_neg hc,if_neg (fun h=>hc ⟨Nat.le_trans hpp h.1,h.2⟩)]
    exact hle
 ·have hne:o.dst≠some t:=hno i o (by simp [put1]) ho
  obtain ⟨u,e1,e2⟩:=hI.kept t v (fun j oj hj hoj=>hno j oj (by simp [put1,hj]) hoj) hv0;exact ⟨u,by rw[hother t hne];exact e1,e2.mono hle⟩
theorem alOf_inv {trs:List TR} {j:Nat} (h:alOf P trs ops j=true):∃ t o v B,trs[j]?=some t/\ops[j]?=some o/\t.w=true/\t.k=true/\allocOp o=true/\aread P (ev t.env) t.h t.h.length o=some (v,some B):=by
 unfold alOf at h
 split at h
 ·rename_i t o h1 h2
  simp only[Z0] at h;obtain ⟨⟨⟨a1,a2⟩,a3⟩,a4⟩:=h
  split at a4
  ·rename_i v B h3
   exact ⟨t,o,v,B,h1,h2,a1,a2,a3,h3⟩
  ·cases a4
 ·cases h
theorem alOf_step (he:trace P F keep ops ops.toList s.env s.h=some (trs,fin)) {j:Nat} (h:alOf P trs ops j=true) :
 ∃ t o B,trs[j]?=some t/\ops[j]?=some o/\t.w=true/\t.k=true/\allocOp o=true/\aread P (ev t.env) t.h t.h.length o=some (t.v,some B)/\(after1 trs fin (j+1)).2=t.h++[B]/\aopv P F keep t.env t.h o=some (.ret t.v,t.h++[B]):=by
 obtain ⟨t,o,v,B,h1,h2,h3,h4,h5,h6⟩:=alOf_inv h;have st:=trace_step _ _ _ _ _ he j t o h1 (by simpa using h2);have hv:aopv P F keep t.env t.h o=some (.ret v,t.h++[B]):=by unfold aopv;rw[h6]
 rcases st.2.2.2 h3 h4 with ⟨e1,e2⟩|⟨_,v2,h',_,e2⟩
 ·rw[hv] at e1
  simp only[Zl.injEq,Prod.mk.injEq,Res.ret.injEq] at e1;obtain ⟨rfl,e3⟩:=e1;exact ⟨t,o,B,h1,h2,h3,h4,h5,h6,e3.symm,by rw[hv]⟩
 ·rw[hv] at e2;simp at e2
theorem first_k (trs:List TR) (p:Nat):∀ (j:Nat),p<=j->(∃ t,trs[j]?=some t/\t.k=true) -> ∃ j0 t,p<=j0/\j0<=j/\trs[j0]?=some t/\t.k=true /\ ∀ q tq,trs[q]?=some tq->p<=q->q<j0->tq.k=false:=by
 intro j
 induction j using Nat.strongRecOn with
 | _ j ih =>
   intro hp hj
   by_cases h:∃ q tq,trs[q]?=some tq/\p<=q/\q<j/\tq.k=true
   ·obtain ⟨q,tq,e1,e2,e3,e4⟩:=h
    obtain ⟨j0,t,f1,f2,f3⟩:=ih q e3 e2 ⟨tq,e1,e4⟩;exact ⟨j0,t,f1,by omega,f3⟩
   ·obtain ⟨t,e1,e2⟩:=hj
    refine ⟨j,t,hp,Z7 _,e1,e2,fun q tq a1 a2 a3=>?_⟩;cases hk:tq.k with
    | false=>rfl
    | true=>exact absurd ⟨q,tq,a1,a2,a3,hk⟩ h
theorem Inv.flush (he:trace P F keep ops ops.toList s.env s.h=some (trs,fin)) (hal:al=alOf P trs ops) {L:Nat->Bool} {pl:Nat->Loc} {a:Act} {w:World} :
 ∀ (n p:Nat) (r:Rho),trs.length-p<=n->Inv P ops s trs fin al r0 w0 L pl a w p r ->
   ∃ p' r',Inv P ops s trs fin al r0 w0 L pl a w p' r' /\ ∀ j,Pd L al p' j -> ∃ q tq,trs[q]?=some tq/\tq.k=true/\p'<=q/\q<j/\L q=false:=by
 intro n
 induction n with
 | zero =>
   intro p r hn hI;refine ⟨p,r,hI,fun j hj=>?_⟩;have h1:=hI.sub j hj.1;have h2:=many_le trs fin;have h3:=hj.2.2;omega
 | succ n ih =>
   intro p r hn hI
   by_cases hall:∀ j,Pd L al p j -> ∃ q tq,trs[q]?=some tq/\tq.k=true/\p<=q/\q<j/\L q=false
   ·exact ⟨p,r,hI,hall⟩
   ·have ⟨j,hj⟩:=Classical.not_forall.1 hall
    have ⟨hjp,hno⟩:=Classical.not_imp.1 hj;have hjal:=hjp.2.1;rw[hal] at hjal;obtain ⟨tj,oj,_,k1,k2,k3,k4,_⟩:=alOf_step he hjal;obtain ⟨j0,t,f1,f2,f3,f4,f5⟩:=first_k trs p j hjp.2.2 ⟨tj,k1,k4⟩;have hL0:L j0=true:=by
     by_cases e:j0=j
     ·rw[e];exact hjp.1
     ·cases hL:L j0 with
      | true=>rfl
      | false=>exact absurd ⟨j0,t,f3,f4,f1,by omega,hL⟩ hno
    have hm0:=hI.sub j0 hL0;have hmle:=many_le trs fin;have hal0:al j0=true:=by
     rcases (hI.done j0 t f3 f4 hm0).2 hL0 with h|h
     ·omega
     ·exact h
    have hp0:Pd L al p j0:=⟨hL0,hal0,f1⟩
    have hal0':=hal0;rw[hal] at hal0';obtain ⟨t',o,B',g1,g2,g3,g4,g5,g6,g7,g8⟩:=alOf_step he hal0';rw[f3] at g1;cases g1;have hheap:(after1 trs fin p).2=t.h:=by
     have:=heap_const he (p:=p) j0 f1 (by omega) (fun h=>by omega) (fun q tq a1 b1 c1=>f5 q tq a1 b1 c1);rw[<- this];simp [after1,f3]
    obtain ⟨B,b1,b2,b3,b4,b5,b6⟩:=hI.pend j0 t o hp0 f3 g2;rw[g6] at b1;simp only[Zl.injEq,Prod.mk.injEq,true_and] at b1;subst b1;have hst:=hI.stp;rw[hheap] at hst b6;have hst':=hst.adopt b2 b5 b3 b6 b4 hI.tab;have hfree:=hst.hr.free_end.2.1;have hle:=Rho.le_upd hfree (pl j0);refine ih (j0+1) (r.upd t.h.length (pl j0)) (by omega) ⟨hI.closed,hI.sub,hm0,fun q tq a1 a2 a3=>⟨fun hq=>?_,fun hq=>?_⟩,.inr ⟨j0,t,rfl,f3,f4⟩,by rw[g7];exact hst',hI.size,fun q tq oq tt a1 a2 a3 a4 a5=>?_,fun tt v a1 a2=>?_,hI.ds.mono hle,fun q tq oq a1 a2 a3=>?_,fun q q' a1 a2=>hI.pdist q q' ⟨a1.1,a1.2.1,by have:=a1.2.2;omega⟩ ⟨a2.1,a2.2.1,by have:=a2.2.2;omega⟩,hI.tab⟩
    ·by_cases h1:q<p
     ·exact (hI.done q tq a1 a2 a3).1 h1
     ·by_cases h2:q=j0
      ·rw[h2];exact hL0
      ·have:=f5 q tq a1 (by omega) (by omega)
       rw[this] at a2;cases a2
    ·rcases (hI.done q tq a1 a2 a3).2 hq with h|h
     ·exact .inl (by omega)
     ·exact .inr h
    ·obtain ⟨v',c1,c2⟩:=hI.wrote q tq oq tt a1 a2 a3 a4 a5
     refine ⟨v',c1,c2.mono ?_⟩;unfold rAt
     by_cases hc:p<=q/\al q=true
     ·rw[if_pos hc]
      by_cases hq:q=j0
      ·rw[if_neg (by omega),hq]
       rw[hq,f3] at a2;cases a2;exact .refl _
      ·have hq':j0+1<=q:=by
        apply Classical.byContradiction
        intro hlt;have hqk:=hc.2;rw[hal] at hqk;obtain ⟨tq',_,_,d1,_,_,d4,_⟩:=alOf_step he hqk;have:=f5 q tq' d1 hc.1 (by omega);rw[this] at d4;cases d4
       rw[if_pos ⟨hq',hc.2⟩];exact Rho.upd_mono hle _ _
     ·rw[if_neg hc,if_neg (fun h=>hc ⟨by omega,h.2⟩)]
      exact hle
    ·obtain ⟨v',c1,c2⟩:=hI.kept tt v a1 a2
     exact ⟨v',c1,c2.mono hle⟩
    ·have hpq:Pd L al p q:=⟨a1.1,a1.2.1,by have:=a1.2.2;omega⟩
     obtain ⟨C,c1,c2,c3,c4,c5,c6⟩:=hI.pend q tq oq hpq a2 a3;refine ⟨C,c1,c2,c3.mono (Rho.upd_mono hle _ _),c4,c5,fun b D x d1 d2 d3=>?_⟩;rw[g7] at d1;rw[hheap] at c6
     by_cases hb:b=t.h.length
     ·subst hb
      rw[Rho.upd_same] at d3;cases d3;exact hI.pdist j0 q hp0 hpq (by have:=a1.2.2;omega)
     ·rw[Rho.upd_ne _ _ hb] at d3
      have hlt:=(hst.hr.dom b x d3).1;rw[Z9 hlt] at d1;exact c6 b D x d1 d2 d3
theorem trace_last {env:List Value} {h:AH}:∀ {l:List Oper} {env:List Value} {h:AH} {trs:List TR} {v:Value} {h':AH},trace P F keep ops l env h=some (trs,.pan v h') ->
 ∃ t o,trs[trs.length-1]?=some t/\l[trs.length-1]?=some o/\t.w=true/\t.k=true/\aopv P F keep t.env t.h o=some (.pan v,h'):=by
 intro l
 induction l with
 | nil=>intro env h trs v h' he;cases he
 | cons o l ih =>
   intro env h trs v h' he;simp only[trace] at he;have go:∀ {e h2 t},(trace P F keep ops l e h2).map (cons1 t)=some (trs,.pan v h') -> ∃ t o',trs[trs.length-1]?=some t/\(o::l)[trs.length-1]?=some o'/\t.w=true/\t.k=true/\aopv P F keep t.env t.h o'=some (.pan v,h'):=by
    intro e h2 t hh;obtain ⟨⟨trs',fin'⟩,h1,h2⟩:=Option.map_eq_some_iff.1 hh;simp only[cons1,Prod.mk.injEq] at h2;obtain ⟨rfl,rfl⟩:=h2;obtain ⟨t',o',e1,e2,e3⟩:=ih h1;have hpos:0<trs'.length:=by have:=(Z3.1 e1).1;omega
    refine ⟨t',o',?_,?_,e3⟩
    ·rw[List.length_cons,show trs'.length+1-1=(trs'.length-1)+1 by omega,Ze]
     exact e1
    ·rw[List.length_cons,show trs'.length+1-1=(trs'.length-1)+1 by omega,Ze]
     exact e2
   split at he
   ·exact go he
   ·split at he
    ·exact go he
    ·split at he
     ·exact go he
     ·rename_i v1 h1 hv
      cases he;exact ⟨_,o,rfl,rfl,rfl,rfl,hv⟩
     ·cases he
   ·cases he
theorem draw_step (hF:FOk P F) (he:trace P F keep ops ops.toList s.env s.h=some (trs,fin)) (ht:tempsOk ops ops.toList (ancs ops.toList)=true) (hal:al=alOf P trs ops)
 (hc:chainOk ops.size (ancs ops.toList) al trs fin=true) (hfl:flushOk ops.size (ancs ops.toList) al trs=true) (hrd:ReadsP P ops.toList (ancs ops.toList) trs fin)
 {Q:Exit->Act->World->Prop} (hQ:∀ v h',fin = .pan v h' -> ∀ a v' w' r',Stp P r0 s.h w0 r' h' w'->VR r' v v'->DR r' s.ds a.defers->Q (.panic [entry v']) a w')
 {L:Nat->Bool} {pl:Nat->Loc} {a:Act} {w:World} {p0:Nat} {rr0:Rho} (hI0:Inv P ops s trs fin al r0 w0 L pl a w p0 rr0) {i:Nat} {o:Oper} (ho:ops[i]?=some o) (hi:L i=false)
 (hdeps:∀ e∈o.after,Region.binds .any e=true->L e.on=true) {K:Act->World->Prop}
 (hK:∀ a' w' p' r' pl',Inv P ops s trs fin al r0 w0 (put1 L i) pl' a' w' p' r'->K a' w'):wpOp P ops Q i K a w:=by
 obtain ⟨p,r,hI,hflush⟩:=Inv.flush he hal (trs.length-p0) p0 rr0 (Z7 _) hI0;have hl:ops.toList[i]?=some o:=by simpa using ho
 have hanc:∀ j,bit (ancs ops.toList) i j=true->L j=true:=hI.closed.anc ho hdeps;have hancL:∀ k ok,ops[k]?=some ok->L k=true -> ∀ j,bit (ancs ops.toList) k j=true->L j=true:=fun k ok hok hk=>hI.closed.anc hok (hI.closed k ok hok hk)
 have hisz:i<ops.size:=(Z2.1 ho).1;have hll:trs.length<=ops.size:=by
  have:ops.toList.length=ops.size:=by simp
  rcases trace_len _ _ _ _ _ he with ⟨_,_,_,hl⟩|⟨_,_,_,_,hl⟩<;>omega
 have hmle:=many_le trs fin;unfold chainOk at hc;simp only[Z0] at hc;have hnp:∀ j,bit (ancs ops.toList) i j=true -> ¬ Pd L al p j:=by
  intro j hb hp;obtain ⟨q,tq,e1,e2,e3,e4,e5⟩:=hflush j hp;have hal':=hp.2.1;rw[hal] at hal';obtain ⟨tj,_,_,_,k1,_⟩:=alOf_inv hal';have h1:=all_zipIdx hfl k1;simp only[hp.2.1,Z4,Z5,Z0] at h1;have h2:=Zd.1 h1.2 i (by simp [hisz]);simp only[hb,Z4,Z5] at h2;have h3:=all_zipIdx h2 e1;simp only[e2,e4,Z4,Z5,decide_true] at h3;have:=hanc q h3;rw[e5] at this;cases this
 have hreach:i<trs.length:=by
  rcases trace_len _ _ _ _ _ he with ⟨_,_,_,hl⟩|⟨v,h2,hfin,hpos,hl⟩
  ·have:ops.toList.length=ops.size:=by simp
   omega
  ·by_cases hlt:i<trs.length
   ·exact hlt
   ·exfalso
    have h2:=hc.2;rw[hfin] at h2;have h3:=Zd.1 h2 i (by simp [hisz]);simp only[Z1,Z6,decide_eq_false_iff_not] at h3
    rcases h3 with h3|h3
    ·omega
    ·have:=hI.sub _ (hanc _ h3)
     rw[hfin] at this;simp [many] at this
 have htr:trs[i]?=some trs[i]:=by simp [hreach]
 generalize htre:trs[i]=tr at htr;have st:=trace_step _ _ _ _ _ he i tr o htr hl;obtain ⟨s1,s2,s3,s4⟩:=st;have hlook:=hI.look he ht ho htr hi hanc hnp;have hwant:=want_mask hlook s1;have henvlen:tr.env.length=s.env.length:=trace_envlen _ _ _ _ _ he i tr htr;have her:ER r (maskE (o.looksAt ops) tr.env) (maskT (o.looksAt ops) a.tmps):=mask_er (by rw[henvlen];exact hI.size) hlook;have hev:∀ x∈o.op.operands,ev tr.env x=ev (maskE (o.looksAt ops) tr.env) x:=fun x hx=>mask_ev (looks_op hx)
 have hexec:(∀ cs b,o.op ≠ .select cs b)->execOp ({ a with tmps:=maskT (o.looksAt ops) a.tmps }:Act).eval o=execOp a.eval o:=fun hs=>execOp_congr o hs fun x hx=>mask_eval (looks_op hx)
 have hlast:∀ v h',fin = .pan v h'->i=trs.length-1->tr.w=true/\tr.k=true/\aopv P F keep tr.env tr.h o=some (.pan v,h'):=by
  intro v h' hfin hlast;rw[hfin] at he;obtain ⟨t,o',e1,e2,e3,e4,e5⟩:=trace_last (h:=s.h) (env:=s.env) he;rw[<- hlast,htr] at e1;cases e1;rw[<- hlast,hl] at e2;cases e2;exact ⟨e3,e4,e5⟩
 have him':(∀ v h',fin = .pan v h'->i≠trs.length-1)->i<many trs fin:=by
  intro h;cases hfin:fin with
  | norm=>simp [many,hreach]
  | pan v h' =>
    simp only[many];have:=h v h' hfin;omega
 have idle:al i=false->tr.k=false -> ∀ (v':Value) (w':World),Same w w'->VR r tr.v v'->i<many trs fin->Inv P ops s trs fin al r0 w0 (put1 L i) pl (a.put o.dst v') w' p r:=by
  intro hali hk v' w' hsame hv him;have hput:∀ j,Pd (put1 L i) al p j->Pd L al p j:=fun j hj=>⟨by
   have:=hj.1;simp only[put1,Z1,beq_iff_eq] at this
   rcases this with h|h
   ·have h2:=hj.2.1;rw[h,hali] at h2;cases h2
   ·exact h,hj.2.1,hj.2.2⟩
  refine hI.next ht ho htr hi him hdeps (by unfold rAt;rw[hali];simpa using hv) (.refl r) (hI.stp.trans (.same hI.stp.hr hsame)) hI.ple hI.pat (fun j tj a1 b1 c1=>?_) (fun _ _=>rfl) (Z7 _) (fun j hj=>hj.2.2) (fun j tj oj h1 h2 h3=>?_) (fun j j' h1 h2=>hI.pdist j j' (hput j h1) (hput j' h2))
  ·have:=hI.done j tj a1 b1 c1
   have hne:j≠i:=fun e=>by subst e;rw[htr] at a1;cases a1;rw[hk] at b1;cases b1
   simp only[put1,Z1,beq_iff_eq];exact ⟨fun h=>.inr (this.1 h),fun h=>this.2 (h.resolve_left hne)⟩
  ·rw[hsame.heap]
   exact hI.pend j tj oj (hput j h1) h2 h3
 have hkal:tr.k=false->al i=false:=fun hk=>by
  cases h:al i with
  | false=>rfl
  | true =>
    rw[hal] at h;obtain ⟨t,_,_,_,k1,_,_,k4,_⟩:=alOf_inv h;rw[htr] at k1;cases k1;rw[hk] at k4;cases k4
 unfold wpOp;simp only[ho,hwant];cases hw:tr.w with
 | false =>
   simp only[Zj,if_false];obtain ⟨hk,hv,hnx⟩:=s2 hw;have him:=him' fun v h' hfin hh=>by have:=(hlast v h' hfin hh).1;rw[hw] at this;cases this
   exact hK _ _ p r pl (idle (hkal hk) hk _ _ (.refl w) (by rw[hv];exact undef_vr r) him)
 | true =>
   simp only[if_true];refine .inl ?_;cases hk:tr.k with
   | false =>
     have him:=him' fun v h' hfin hh=>by have:=(hlast v h' hfin hh).2.1;rw[hk] at this;cases this
     obtain ⟨hread,hnx⟩:=s3 hw hk;have hat:∃ m,aread P (ev tr.env) (after1 trs fin p).2 m o=some (tr.v,none)/\r m=none:=by
      have hsp:=own_spec trs i (by omega);have hown:(after1 trs fin (own trs i)).2=tr.h:=by
       have:=heap_const he (p:=own trs i) i hsp.2.1 (by omega) (fun h=>by omega) (fun j tj a1 b1 c1=>by
        cases hkj:tj.k with
        | false=>rfl
        | true=>have:=hsp.1 j tj a1 hkj c1;omega)
       rw[<- this];simp [after1,htr]
      have hfree:=hI.stp.hr.free_end.2.1
      by_cases hpo:p=own trs i
      ·refine ⟨(after1 trs fin p).2.length,?_,hfree⟩
       rw[hpo,hown];exact hread
      ·refine ⟨_,hrd i o tr p hl htr hw hk ?_ hpo (fun j tj e1 e2 e3=>?_) (fun j tj e1 e2 e3=>?_),hfree⟩
       ·rcases hI.pat with hp0|⟨j,tj,hpj,htj,hkj⟩
        ·exact .inl hp0
        ·exact .inr ⟨j,tj,hpj,htj,hkj,by have:=hI.ple;omega⟩
       ·have hLj:=hanc j e3
        rcases (hI.done j tj e1 e2 (hI.sub j hLj)).2 hLj with h|h
        ·exact h
        ·by_cases hjp:j<p
         ·exact hjp
         ·exact absurd ⟨hLj,h,by omega⟩ (hnp j e3)
       ·cases hb:bit (ancs ops.toList) j i with
        | false=>rfl
        | true =>
          exfalso
          have hjm:j<many trs fin:=by have:=hI.ple;omega
          have hLj:=(hI.done j tj e1 e2 hjm).1 e3;have hjs:j<ops.size:=by have:=(Z3.1 e1).1;omega
          have:=hancL j ops[j] (by simp [hjs]) hLj i hb;rw[hi] at this;cases this
     obtain ⟨m,hm,hmf⟩:=hat;rw[aread_congr hev] at hm;obtain ⟨v',w',e1,e2,e3⟩:=aread_ok (a:={ a with tmps:=maskT (o.looksAt ops) a.tmps }) her.gr hI.stp.hr hmf hm;rw[hexec (aread_notSel hm)] at e1;unfold Oper.wp;rw[e1];exact hK _ _ p r pl (idle (hkal hk) hk _ _ e2 e3 him)
   | true =>
     cases hali:al i with
     | true =>
       have hali':=hali;rw[hal] at hali';obtain ⟨t,o',B,g1,g2,g3,g4,g5,g6,g7,g8⟩:=alOf_step he hali';rw[htr] at g1;cases g1;rw[ho] at g2;cases g2;have him:=him' fun v h' hfin hh=>by
        have:=(hlast v h' hfin hh).2.2;rw[g8] at this;simp at this
       have hpi:p<=i:=by
        apply Classical.byContradiction
        intro hlt;have:=(hI.done i tr htr hk him).1 (by omega);rw[hi] at this;cases this
       have hlens:=all_zipIdx hfl htr;simp only[hali,Z4,Z5,Z0] at hlens;have hfree:r tr.h.length=none:=by
        cases hx:r tr.h.length with
        | none=>rfl
        | some x =>
          exfalso
          have h1:=(hI.stp.hr.dom _ _ hx).1;have hpl:p<trs.length:=by omega
          have h2:=all_zipIdx hlens.1 (i:=p) (x:=trs[p]) (by simp [hpl]);simp only[Z1,Z6,decide_eq_false_iff_not,decide_eq_true_eq] at h2;have h3:(after1 trs fin p).2=trs[p].h:=by simp [after1,hpl]
          rw[h3] at h1
          rcases h2 with h2|h2<;>omega
       have hm:=g6;rw[aread_alloc (h2:=(after1 trs fin p).2) g5,aread_congr hev] at hm;obtain ⟨v',w',ob,x,e1,e2,e3,e4,e5,e6,e7,e8,e9,e10⟩:=aread_ok (a:={ a with tmps:=maskT (o.looksAt ops) a.tmps }) her.gr hI.stp.hr hfree hm;rw[hexec (aread_notSel hm)] at e1;unfold Oper.wp;rw[e1];have hpush:∀ k,k<w.heap.size->w'.heap[k]?=w.heap[k]?:=fun k hk=>by rw[e5,Zb,if_neg (by omega)]
       have hsz:w'.heap.size=w.heap.size+1:=by rw[e5];simp
       have hput:∀ j,j≠i->Pd (put1 L i) al p j->Pd L al p j:=fun j hne hj=>⟨by
        have:=hj.1;simp only[put1,Z1,beq_iff_eq] at this;exact this.resolve_left hne,hj.2.1,hj.2.2⟩
       have hold:∀ j,Pd L al p j->(pl j).blk<w.heap.size:=fun j hj=>by
        have h1:=hj.2.1;rw[hal] at h1;obtain ⟨tj,oj,_,_,k1,k2,_⟩:=alOf_inv h1;obtain ⟨_,_,_,_,_,h,_⟩:=hI.pend j tj oj hj k1 k2;exact h
       refine hK _ _ p r (fun j=>if j=i then x else pl j) (hI.next ht ho htr hi him hdeps (by unfold rAt;rw[if_pos ⟨hpi,hali⟩];simpa using e10) (.refl r) (hI.stp.idle e2 e3 e4 e5) hI.ple hI.pat (fun j tj a1 b1 c1=>?_) (fun j hne=>by simp [hne]) (Z7 _) (fun j hj=>hj.2.2) (fun j tj oj h1 h2 h3=>?_) (fun j j' h1 h2 hne=>?_))
       ·have:=hI.done j tj a1 b1 c1
        simp only[put1,Z1,beq_iff_eq];refine ⟨fun h=>.inr (this.1 h),fun h=>?_⟩
        rcases h with h|h
        ·rw[h];exact .inr hali
        ·exact this.2 h
       ·by_cases hji:j=i
        ·subst hji
         rw[htr] at h2;cases h2;rw[ho] at h3;cases h3;simp only[if_true];refine ⟨B,g6,e9,by rw[e6,e5,Zb,if_pos rfl];exact e7,by have:=hI.stp.fr.size;omega,by omega,fun b C y d1 d2 d3=>?_⟩;have:=(hI.stp.hr.dom b y d3).2;omega
        ·simp only[if_neg hji]
         obtain ⟨C,c1,c2,c3,c4,c5,c6⟩:=hI.pend j tj oj (hput j hji h1) h2 h3;exact ⟨C,c1,c2,by rw[hpush _ c5];exact c3,c4,by omega,c6⟩
       ·by_cases hji:j=i
        ·have hj'i:j'≠i:=fun h=>hne (by rw[hji,h])
         have:=hold j' (hput j' hj'i h2);rw[if_pos hji,if_neg hj'i];omega
        ·by_cases hj'i:j'=i
         ·have:=hold j (hput j hji h1)
          rw[if_neg hji,if_pos hj'i];omega
         ·rw[if_neg hji,if_neg hj'i]
          exact hI.pdist j j' (hput j hji h1) (hput j' hj'i h2) hne
     | false =>
       have hearlier:∀ j tj,trs[j]?=some tj->tj.k=true->j<i->L j=true:=fun j tj a1 b1 c1=>by
        have h1:=all_zipIdx hc.1 htr;simp only[hk,hali,Z4,Z5] at h1;have h2:=all_zipIdx h1 a1;simp only[b1,Z4,Z5,Z1,Z6,decide_eq_false_iff_not] at h2
        rcases h2 with h2|h2
        ·exact absurd c1 h2
        ·exact hanc j h2
       have hlater:∀ j tj,trs[j]?=some tj->tj.k=true->L j=true->j<i\/al j=true:=fun j tj a1 b1 c1=>by
        rcases Nat.lt_trichotomy j i with h1|h1|h1
        ·exact .inl h1
        ·subst h1;rw[hi] at c1;cases c1
        ·cases hj:al j with
         | true=>exact .inr rfl
         | false =>
           exfalso
           have h2:=all_zipIdx hc.1 a1;simp only[b1,hj,Z4,Z5] at h2;have h3:=all_zipIdx h2 htr;simp only[hk,Z4,Z5,Z1,Z6,decide_eq_false_iff_not] at h3
           rcases h3 with h3|h3
           ·omega
           ·have hjs:j<ops.size:=by have:=(Z3.1 a1).1;omega
            have:=hancL j ops[j] (by simp [hjs]) c1 i h3;rw[hi] at this;cases this
       have hpi:p<=i:=by
        rcases hI.pat with hp0|⟨j,tj,hpj,htj,hkj⟩
        ·omega
        ·by_cases him:i<many trs fin
         ·apply Classical.byContradiction
          intro hlt;have:=(hI.done i tr htr hk him).1 (by omega);rw[hi] at this;cases this
         ·have:=hI.ple;omega
       have hnopend:∀ j,Pd L al p j->i<j:=fun j hj=>by
        obtain ⟨q,tq,e1,e2,e3,e4,e5⟩:=hflush j hj
        apply Classical.byContradiction
        intro hlt;have hji:j≠i:=fun e=>by have:=hj.1;rw[e,hi] at this;cases this
        have:=hearlier q tq e1 e2 (by omega);rw[e5] at this;cases this
       have hheap:(after1 trs fin p).2=tr.h:=by
        have:=heap_const he (p:=p) i hpi (by omega) (fun h=>by omega) (fun j tj a1 b1 c1=>by
         cases hkj:tj.k with
         | false=>rfl
         | true =>
           exfalso
           have hLj:=hearlier j tj a1 hkj c1
           rcases (hI.done j tj a1 hkj (hI.sub j hLj)).2 hLj with h|h
           ·omega
           ·have:=hnopend j ⟨hLj,h,b1⟩
            omega)
        rw[<- this];simp [after1,htr]
       have hhr:HR P r tr.h w.heap:=by rw[<- hheap];exact hI.stp.hr
       rcases s4 hw hk with ⟨hv,hnx⟩|⟨hlast',v,h',hfin,hv⟩
       ·have him:=him' fun v h' hfin hh=>by
         have:=(hlast v h' hfin hh).2.2;rw[hv] at this;simp at this
        unfold Oper.wp;have hv':=hv;rw[aopv_congr hev] at hv;rw[<- hexec (aopv_notSel hv)];refine aopv_ok (a:={ a with tmps:=maskT (o.looksAt ops) a.tmps }) hF her hhr hv (fun v1 v' w' r' e1 st' hvr=>?_) (fun v1 v' w' r' e1=>by cases e1);cases e1;have hst:Stp P r0 s.h w0 r' (after1 trs fin (i+1)).2 w':=by
         refine hI.stp.trans ?_;rw[hheap];exact st'
        have hput:∀ j,Pd (put1 L i) al (i+1) j->Pd L al p j:=fun j hj=>⟨by
         have h1:=hj.1;have h2:=hj.2.2;simp only[put1,Z1,beq_iff_eq] at h1;exact h1.resolve_left (by omega),hj.2.1,by have:=hj.2.2;omega⟩
        refine hK _ _ (i+1) r' pl (hI.next ht ho htr hi him hdeps (by unfold rAt;rw[hali];simpa using hvr) st'.le hst him (.inr ⟨i,tr,rfl,htr,hk⟩) (fun j tj a1 b1 c1=>?_) (fun _ _=>rfl) (by omega) (fun j hj=>hnopend j hj) (fun j tj oj h1 h2 h3=>?_) (fun j j' h1 h2=>hI.pdist j j' (hput j h1) (hput j' h2)))
        ·simp only[put1,Z1,beq_iff_eq]
         constructor
         ·intro h1
          by_cases hj:j=i
          ·exact .inl hj
          ·exact .inr (hearlier j tj a1 b1 (by omega))
         ·rintro (h1|h1)
          ·exact .inl (by omega)
          ·rcases hlater j tj a1 b1 h1 with h|h
           ·exact .inl (by omega)
           ·exact .inr h
        ·obtain ⟨C,c1,c2,c3,c4,c5,c6⟩:=hI.pend j tj oj (hput j h1) h2 h3
         rw[hheap] at c6;have hsame:w'.heap[(pl j).blk]?=w.heap[(pl j).blk]?:=st'.fr.block _ c5 fun ⟨b,D,x,d1,d2,d3,d4⟩=>c6 b D x d1 (Blk.live_of_wr d2) d3 d4
         refine ⟨C,c1,c2,by rw[hsame];exact c3.mono (Rho.upd_mono st'.le _ _),c4,Zc c5 st'.fr.size,fun b D x d1 d2 d3 d4=>?_⟩;obtain ⟨b2,D2,y,f1,f2,f3,f4,_⟩:=st'.own b D x d1 d2 d3 (by rw[d4];exact c5);exact c6 b2 D2 y f1 f2 f3 (f4.trans d4)
       ·unfold Oper.wp
        rw[aopv_congr hev] at hv;rw[<- hexec (aopv_notSel hv)];refine aopv_ok (a:={ a with tmps:=maskT (o.looksAt ops) a.tmps }) hF her hhr hv (fun v1 v' w' r' e1=>by cases e1) (fun v1 v' w' r' e1 st' hvr=>?_);cases e1;refine hQ _ _ hfin a v' w' r' ?_ hvr (hI.ds.mono st'.le);refine hI.stp.trans ?_;rw[hheap];exact st'
def left (listed:Array Bool):Nat:=((Za listed.size).filter fun i=>!listed.getD i true).length
theorem left_set {listed:Array Bool} {i:Nat} (hi:i<listed.size) (h:listed.getD i true=false):left (listed.setIfInBounds i true)<left listed:=by
 unfold left;have hsz:(listed.setIfInBounds i true).size=listed.size:=by simp
 rw[hsz];have h1:((Za listed.size).filter fun k=>!(listed.setIfInBounds i true).getD k true)=(((Za listed.size).filter fun k=>!listed.getD k true).filter fun k=>k != i):=by
  rw[List.filter_filter]
  apply List.filter_congr
  intro k hk
  by_cases e:i=k
  ·subst e;simp [hi]
  ·rw[getD_set_ne true e]
   have:(k != i)=true:=by simp;exact fun h=>e h.symm
   simp [this]
 rw[h1];have hmem:i∈(Za listed.size).filter fun k=>!listed.getD k true:=by
  rw[List.mem_filter];exact ⟨by simpa using hi,by simp only[h];rfl⟩
 exact Nat.lt_of_le_of_ne (Zh _ _) fun e=>by
  have:=List.length_filter_eq_length_iff.1 e i hmem;simp at this
theorem draw_any (hF:FOk P F) (hm:P.follows .mixedOrders=true) (he:trace P F keep ops ops.toList s.env s.h=some (trs,fin)) (ht:tempsOk ops ops.toList (ancs ops.toList)=true)
 (hal:al=alOf P trs ops) (hc:chainOk ops.size (ancs ops.toList) al trs fin=true) (hfl:flushOk ops.size (ancs ops.toList) al trs=true) (hrd:ReadsP P ops.toList (ancs ops.toList) trs fin)
 {Q:Exit->Act->World->Prop} (hQ:∀ v h',fin = .pan v h' -> ∀ a v' w' r',Stp P r0 s.h w0 r' h' w'->VR r' v v'->DR r' s.ds a.defers->Q (.panic [entry v']) a w')
 (hN:∀ env h',fin = .norm env h' -> ∀ a w' r',Stp P r0 s.h w0 r' h' w'->ER r' env a.tmps->DR r' s.ds a.defers->Q .normal a w') :
 ∀ (fuel:Nat) (listed:Array Bool) (pl:Nat->Loc) (a:Act) (w:World) (p:Nat) (r:Rho),listed.size=ops.size->left listed<=fuel->Inv P ops s trs fin al r0 w0 (fun k=>listed.getD k false) pl a w p r ->
   wpAny P .any ops Q fuel listed a w:=by
 have hlen:ops.toList.length=ops.size:=by simp
 have fin_all:∀ (listed:Array Bool) (pl:Nat->Loc) (a:Act) (w:World) (p:Nat) (r:Rho),listed.size=ops.size->Region.ready .any ops listed=[]->Inv P ops s trs fin al r0 w0 (fun k=>listed.getD k false) pl a w p r->Q .normal a w:=by
  intro listed pl a w p0 rr0 hsz hready hI0;obtain ⟨p,r,hI,hflush⟩:=Inv.flush he hal (trs.length-p0) p0 rr0 (Z7 _) hI0;have hall:∀ i,i<ops.size->listed.getD i false=true:=by
   intro i
   induction i using Nat.strongRecOn with
   | _ i ih =>
     intro hi
     by_cases hl:listed.getD i false=true
     ·exact hl
     ·exfalso
      have hmem:i∈Region.ready .any ops listed:=by
       rw[mem_ready];refine ⟨?_,ops[i],by simp [hi],fun e hem hb=>?_⟩
       ·have hi':i<listed.size:=by omega
        simp [hi'] at hl ⊢;exact hl
       ·have:=(temps_spec ht (i:=i) (o:=ops[i]) (by simp [hi])).1 e hem hb
        exact ih e.on this (by omega)
      rw[hready] at hmem;cases hmem
  have hnone:∀ j,¬ Pd (fun k=>listed.getD k false) al p j:=fun j hj=>by
   obtain ⟨q,tq,e1,e2,e3,e4,e5⟩:=hflush j hj;have hq:q<ops.size:=by
    have h1:=(Z3.1 e1).1
    rcases trace_len _ _ _ _ _ he with ⟨_,_,_,hl⟩|⟨_,_,_,_,hl⟩<;>omega
   have:=hall q hq;rw[e5] at this;cases this
  rcases trace_len _ _ _ _ _ he with ⟨env,h2,hfin,hl⟩|⟨v,h2,hfin,hpos,hl⟩
  ·have hmany:many trs fin=ops.size:=by rw[hfin];simp [many];omega
   have hheap:(after1 trs fin p).2=h2:=by
    have:=heap_const he (p:=p) trs.length (by have:=hI.ple;omega) (Z7 _) (fun _=>⟨_,_,hfin⟩) (fun j tj a1 b1 c1=>by
     cases hkj:tj.k with
     | false=>rfl
     | true =>
       exfalso
       have hLj:=hall j (by omega)
       rcases (hI.done j tj a1 hkj (by omega)).2 hLj with h|h
       ·omega
       ·exact hnone j ⟨hLj,h,b1⟩)
    rw[<- this];simp [after1,hfin]
   refine hN env h2 hfin a w r (by rw[<- hheap];exact hI.stp) (fun t v hv=>?_) hI.ds;have haft:(after1 trs fin trs.length).1=env:=by simp [after1,hfin]
   rcases trace_env he trs.length (.inr ⟨rfl,_,_,hfin⟩) t v (by rw[haft];exact hv) with ⟨j,tj,oj,h1,h3,h4,h5,h6,h7⟩|⟨h1,h3⟩
   ·obtain ⟨v',e1,e2⟩:=hI.wrote j tj oj t (hall j (by omega)) h3 (by simpa using h4) h5 h7
    have hr:rAt r al pl p j tj=r:=by
     unfold rAt;rw[if_neg];rintro ⟨k1,k2⟩;exact hnone j ⟨hall j (by omega),k2,k1⟩
    rw[hr] at e2;exact ⟨v',e1,by rw[<- h6];exact e2⟩
   ·exact hI.kept t v (fun j oj hj hoj hd=>h1 j oj (by have:=(Z2.1 hoj).1;omega) (by simpa using hoj) hd) h3
  ·exfalso
   have:=hI.sub (trs.length-1) (hall _ (by omega));rw[hfin] at this;simp [many] at this
 intro fuel
 induction fuel with
 | zero =>
   intro listed pl a w p r hsz hleft hI;have hready:Region.ready .any ops listed=[]:=by
    cases hr:Region.ready .any ops listed with
    | nil=>rfl
    | cons i rest =>
      exfalso
      have hmem:i∈Region.ready .any ops listed:=by rw[hr];simp
      rw[mem_ready] at hmem;obtain ⟨h1,o,h2,_⟩:=hmem;have hi:i<listed.size:=by rw[hsz];exact (Z2.1 h2).1
      have:=left_set hi h1;omega
   exact ⟨hready,fin_all listed pl a w p r hsz hready hI⟩
 | succ fuel ih =>
   intro listed pl a w p r hsz hleft hI;refine ⟨fun hready=>fin_all listed pl a w p r hsz hready hI,fun i hi=>?_⟩;rw[mem_ready] at hi;obtain ⟨h1,o,h2,h3⟩:=hi;have hil:i<listed.size:=by rw[hsz];exact (Z2.1 h2).1
   have hLi:listed.getD i false=false:=by simp [hil] at h1 ⊢;exact h1
   refine draw_step hF he ht hal hc hfl hrd hQ hI h2 hLi h3 (fun a' w' p' r' pl' hI'=>ih _ pl' a' w' p' r' (by simp [hsz]) (by have:=left_set hil h1;omega) ?_);have hput:(fun k=>(listed.setIfInBounds i true).getD k false)=put1 (fun k=>listed.getD k false) i:=by
    funext k
    unfold put1
    by_cases e:i=k
    ·subst e;simp [hil]
    ·rw[getD_set_ne false e]
     have:(k == i)=false:=by simp;exact fun h=>e h.symm
     simp [this]
   rw[hput];exact hI'
end
theorem drawP_any {P:Program} {keep:Bool} {F:FT} (hm:P.follows .mixedOrders=true) (hF:FOk P F) {ops:Array Oper} {s:St} {trs:List TR} {fin:Fin'} (htr:trace P F keep ops ops.toList s.env s.h=some (trs,fin)) (ht:tempsOk ops ops.toList (ancs ops.toList)=true)
 (hc:chainOk ops.size (ancs ops.toList) (alOf P trs ops) trs fin=true) (hfl:flushOk ops.size (ancs ops.toList) (alOf P trs ops) trs=true) (hrd:ReadsP P ops.toList (ancs ops.toList) trs fin) {out:Out} {s':St}
 (he:(match fin with
  | .norm env h=>(Out.norm,(⟨env,h,s.ds⟩:St))
  | .pan v h=>(.pan v,⟨[],h,s.ds⟩))=(out,s')) (r:Rho) (a:Act) (w:World) (Q:Exit->Act->World->Prop) (hs:SR P r s a w) (hQ:Post P r s.h w out s' Q):wpAny P .any ops Q ops.size (Zf ops.size false) a { w with drawn:=w.drawn+1 }:=by
 have hstart:(after1 trs fin 0).2=s.h:=by
  rcases trace_ok _ _ _ _ _ htr with h2|⟨h2,h3⟩
  ·rw[h2]
  ·rcases trace_len _ _ _ _ _ htr with ⟨_,_,_,hl⟩|⟨_,_,_,hl,_⟩
   ·rw[h2] at hl;exact absurd (List.length_eq_zero_iff.1 hl.symm) h3
   ·rw[h2] at hl;simp at hl
 have hst:Stp P r s.h w r s.h { w with drawn:=w.drawn+1 }:=.same hs.hr (.drew w);have hsize:s.env.length<=a.tmps.size:=by
  by_cases h0:s.env.length=0
  ·omega
  ·obtain ⟨v',h1,_⟩:=hs.env (s.env.length-1) (s.env[s.env.length-1]'(by omega)) (by simp)
   have:=(Z2.1 h1).1;omega
 have hI:Inv P ops s trs fin (alOf P trs ops) r w (fun k=>(Zf ops.size false).getD k false) (fun _=>⟨0,0,0,0⟩) a { w with drawn:=w.drawn+1 } 0 r:=by
  have hf:∀ k,(Zf ops.size false).getD k false=false:=fun k=>by
   by_cases hk:k<ops.size<;>simp [hk]
  refine ⟨fun i o ho hL=>?_,fun i hL=>?_,Nat.zero_le _,fun j tj _ _ _=>?_,.inl rfl,by rw[hstart];exact hst,hsize,fun j tj oj t hL=>?_,fun t v _ hv=>?_,hs.ds,fun j tj oj hp=>?_,fun j j' hp=>?_,fun g hg=>hs.hr.tab_lt hg⟩
  ·rw[hf] at hL;cases hL
  ·rw[hf] at hL;cases hL
  ·rw[hf];simp
  ·rw[hf] at hL;cases hL
  ·exact hs.env t v hv
  ·have:=hp.1;simp only at this;rw[hf] at this;cases this
  ·have:=hp.1;simp only at this;rw[hf] at this;cases this
 refine draw_any (r0:=r) (w0:=w) hF hm htr ht rfl hc hfl hrd (fun v h' hfin a' v' w' r' st hv hd=>?_) (fun env h' hfin a' w' r' st hen hd=>?_) ops.size _ _ a _ 0 r (by simp) ?_ hI
 ·subst hfin
  cases he;exact hQ _ _ _ r' ⟨v',rfl,hv⟩ st ⟨fun i v h=>by simp at h,st.hr,hd⟩
 ·subst hfin
  cases he;exact hQ _ _ _ r' rfl st ⟨hen,st.hr,hd⟩
 ·unfold left
  exact Nat.le_trans (Zh _ _) (by simp)
theorem adraw_ok {P:Program} (hm:P.follows .mixedOrders=true) {keep:Bool} {F:FT} (hF:FOk P F):DOk P (adraw P keep F):=by
 intro ops s s' out he r a w id Q hs hQ;unfold adraw at he
 split at he
 case h_2=>cases he
 case h_1 trs fin htr =>
  split at he
  case isFalse=>cases he
  case isTrue hc =>
   simp only[Z0] at hc;obtain ⟨⟨⟨ht,hc⟩,hfl⟩,hrd⟩:=hc;refine wp_region_any hm (drawP_any hm hF htr ht hc hfl (readsOk_P hrd) ?_ r a w Q hs hQ);cases fin<;>(cases he;rfl)
end Go.Eng

namespace Go.Eng
open Go.RowKit
def TabOk (P:Program) (W:Array Obj):Prop:=∀ g cs,Tab P g=some cs -> ∃ cur e fr,W[g]?=some (.cells cur e fr)/\VL (fun _=>none) cs cur.toList
theorem HR.empty (P:Program) (W:Array Obj) (hT:TabOk P W):HR P (fun _=>none) [] W :=
 { dom:=fun b x h=>by cases h
   blk:=fun b B h=>by simp at h
   sep:=fun b b' B B' x x' h=>by simp at h
   lay:=hT
   nwr:=fun g b B x _ h=>by simp at h }
theorem Stp.below {P:Program} {r r':Rho} {h':AH} {w w':World} (s:Stp P r [] w r' h' w'):Below w.heap.size w w' :=
 ⟨s.fr.os,s.fr.tape,s.fr.output,s.fr.size,fun k hk=>s.fr.block k hk fun ⟨b,B,x,h,_⟩=>by simp at h⟩
def isTrue:Option (Res × AH)->Bool
 | some (.ret (.bool true),_)=>true
 | _=>false
theorem isTrue_inv:∀ {x:Option (Res × AH)},isTrue x=true -> ∃ h,x=some (.ret (.bool true),h)
 | some (.ret (.bool true),h),_=>⟨h,rfl⟩
end Go.Eng

namespace Go.Eng
open Go.RowKit
def Holds (P:Program) (f:FuncId) (args:List Value) (h:AH) (res:Res) (h':AH):Prop :=
 ∀ (r:Rho) (w:World) (args':Array Value),HR P r h w.heap->VL r args args'.toList ->
 ∀ (o:Oper) (a:Act) (K:Act->World->Prop) (Q:Exit->Act->World->Prop),
   (∀ v v' w' r',res = .ret v->Stp P r h w r' h' w'->VR r' v v'->K (a.put o.dst v') w') ->
   (∀ v v' w' r',res = .pan v->Stp P r h w r' h' w'->VR r' v v'->Q (.panic [entry v']) a w') ->
   o.upon P a K Q ((callFunc f args').run P w)
theorem FOk.holds {P:Program} {F:FT} (hF:FOk P F) {f:FuncId} {args:List Value} {h h':AH} {res:Res} {tg:Option Tmp} (he:F f args h tg=some (res,h')):Holds P f args h res h' :=
 fun r w args' hr ha o a K Q hK hQ=>hF f args h tg res h' he r w args' hr ha o a K Q hK hQ
theorem Holds.extB {P:Program} {f:FuncId} {args:List Value} {h h':AH} {res:Res} (he:aextB P f args h=some (res,h')):Holds P f args h res h' :=
 fun r w args' hr ha o a K Q hK hQ=>aextB_ok he hr ha hK
theorem Holds.closed {P:Program} {f:FuncId} {args:List Value} {h1:AH} {v:Value} (hc:Holds P f args [] (.ret v) h1) (hv:scal 8 v=true) (ha:args.all (scal 8)=true) (h:AH):Holds P f args h (.ret v) h:=by
 intro r w args' hr hargs o a K Q hK hQ;have hargs':args'=args.toArray:=all_scal_eq ha hargs;subst hargs';have h0:VL (fun _=>none:Rho) args args.toArray.toList:=by
  have h1:args.toArray.toList.all (scal 8)=true:=by simpa using ha
  have:=all_refl (r:=(fun _=>none:Rho)) (fun v=>scal_refl 8 v) h1
  simpa using this
 refine hc (fun _=>none) w args.toArray (HR.empty P w.heap hr.lay) h0 o a K Q (fun v1 v' w' r' e st hvr=>?_) (fun v1 v' w' r' e=>by cases e);cases e;rw[scal_eq 8 v v' hv hvr];have hb:=st.below;refine hK v v w' r rfl ⟨.refl r,⟨fun b x e=>?_,fun b B e hl=>?_,hr.sep,fun g cs hg=>?_,hr.nwr⟩,⟨hb.os,hb.tape,hb.output,hb.size,fun k hk _=>hb.block k hk⟩,fun b B x e hl hx _=>⟨b,B,x,e,hl,hx,rfl,id⟩,Z7 _,fun _ h=>h⟩ (scal_refl 8 v hv)
 ·have:=hr.dom b x e
  exact ⟨this.1,Zc this.2 hb.size⟩
 ·obtain ⟨x,e1,e2⟩:=hr.blk b B e hl
  exact ⟨x,e1,by rw[hb.block _ (hr.dom b x e1).2];exact e2⟩
 ·obtain ⟨cur,e,fr,hc,hv⟩:=hr.lay g cs hg
  exact ⟨cur,e,fr,by rw[hb.block g (Z2.1 hc).1];exact hc,hv⟩
def Does (P:Program) (c:Code) (s:St) (out:Out) (s':St):Prop :=
 ∀ (r:Rho) (a:Act) (w:World) (Q:Exit->Act->World->Prop),SR P r s a w->Post P r s.h w out s' Q->c.wp P Q a w
section
variable {P:Program} {s s1 s':St} {out:Out}
inductive Rounds (P:Program) (b:Code):Nat->St->Out->St->Prop
 | last {s s':St} {out:Out} (h:Does P b s out s') (hn:out ≠ .norm):Rounds P b 1 s out s'
 | more {n:Nat} {s s1 s':St} {out:Out} (h:Does P b s .norm s1) (k:Rounds P b n s1 out s'):Rounds P b (n+1) s out s'
theorem Holds.calls (hP:noGoroutines P=true) {f:FuncId} {fn:Func} {c:Code} (hf:P.funcs[f]?=some fn) (hb:fn.body=some c) {args:List Value} {h h':AH} {v:Value}
 (he:Holds P f args h (.ret v) h') {r:Rho} {w:World} {args':Array Value} (hr:HR P r h w.heap) (ha:VL r args args'.toList) :
 Calls P f args' w fun e w'=>∃ v' r',e = .returned v'/\Stp P r h w r' h' w'/\VR r' v v':=by
 have h1 := he r w args' hr ha ⟨some 0, .move (.const undef), 0, "", #[], none⟩ ⟨#[undef], []⟩ (fun a' w' => ∃ v' r', a'.tmps[0]? = some v' /\ Stp P r h w r' h' w' /\ VR r' v v') (fun _ _ _ => False)
  (fun v1 v' w' r' e st hv=>by cases e;exact ⟨v',r',rfl,st,hv⟩) (fun v1 v' w' r' e=>by cases e)
 rw[run_callFunc hP hf hb] at h1;refine Calls.mono h1 fun e w' he=>?_
 cases e with
 | returned u =>
   obtain ⟨v',r',e1,e2,e3⟩:=he;have:u=v':=by simpa [Act.put] using e1
   subst this;exact ⟨u,r',rfl,e2,e3⟩
 | panicked chain=>exact he.elim
 | outgrown=>obtain ⟨_,_,hh⟩:=he;exact hh.elim
end
theorem Stp.below' {P:Program} {r r':Rho} {h h':AH} {w w':World} (s:Stp P r h w r' h' w') (hn:∀ (b:Nat) (B:Blk),h[b]?=some B->B.wr=false):Below w.heap.size w w' :=
 ⟨s.fr.os,s.fr.tape,s.fr.output,s.fr.size,fun k hk=>s.fr.block k hk fun ⟨b,B,x,h1,h2,_⟩=>by rw[hn b B h1] at h2;cases h2⟩
end Go.Eng
