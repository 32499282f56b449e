import Derived.Test.YtnkbbpmcjopicaaDoorPk9
set_option linter.unusedVariables false
set_option linter.unusedSimpArgs false
open Nat renaming reduceEqDiff -> ZA,reduceAdd -> ZB,reduceMul -> ZC,reduceLeDiff -> ZD,reduceLT -> ZE
open Int renaming reduceEq -> ZF
open Bool renaming not_eq_true'->Z0,or_eq_true->Z1,and_eq_true->Z3,and_self->Ze
open List renaming mem_iff_getElem?->Z2,getElem?_eq_some_iff->Z5,all_eq_true->Z6,getElem?_zipIdx->Z8,mem_range->Z9,getElem?_zip_eq_some->Za,mem_of_getElem?->Zd,mem_cons->Zf,getElem?_map->Zj
open Option renaming map_eq_some_iff->Z4,isSome_some->Zh,isSome_none->Zi
open Array renaming getElem?_eq_some_iff->Z7,replicate->Zb,getElem?_eq_none->Zc
open Nat renaming lt_or_gt_of_ne->Zg
namespace Go.Eng
def dq (ops:Array Oper):Bool:=tempsOk ops ops.toList (ancs ops.toList)
theorem all_zi {α:Type} {l:List α} {f:α × Nat->Bool} (h:l.zipIdx.all f=true) {i:Nat} {x:α} (hx:l[i]?=some x):f (x,i)=true:=all_zipIdx h hx
theorem all_zi_of {α:Type} {l:List α} {f:α × Nat->Bool} (h:∀ (i:Nat) (x:α),l[i]?=some x->f (x,i)=true):l.zipIdx.all f=true:=by
 rw[Z6];intro p hp;obtain ⟨i,hi⟩:=Z2.1 hp;rw[Z8] at hi;obtain ⟨x,hx,rfl⟩:=Z4.1 hi
 simpa using h i x hx
section
variable {P:Program} {keep:Bool} {nm:List Nat} {N:Nat} {ops:Array Oper} {F:FT} {rl:List RO}
theorem annot_get (A:List Nat) (rl:List RO) (q:Nat):(annot A rl)[q]?=(rl[q]?).map fun o =>
 { o:=o,i:=q,w:=potK o.k
   chk:=if potK o.k then (rl.zipIdx.filterMap fun (o',j)=>if decide (j<q) && ldK o'.k && !bitA A q j && !sureBet A rl j q (fun p=>bitA A p j) then some j else none) else []
   old:=if ldK o.k then (rl.zipIdx.filterMap fun (o',j)=>if decide (j<q) && potK o'.k && !bitA A q j && !sureBet A rl j q (fun p=>bitA A q p) then some j else none) else [] }:=by
 unfold annot;rw[Zj,Z8];cases rl[q]?<;>simp
theorem annot_map (A:List Nat) (rl:List RO):(annot A rl).map (·.o)=rl:=by
 unfold annot;rw[List.map_map]
 apply List.ext_getElem?
 intro i;rw[Zj,Z8];cases rl[i]?<;>simp
theorem mem_fm {l:List RO} {f:RO × Nat->Option Nat} {j:Nat} {o:RO} (ho:l[j]?=some o) (hf:f (o,j)=some j):(l.zipIdx.filterMap f).contains j=true:=by
 rw[List.contains_iff_mem,List.mem_filterMap];refine ⟨(o,j),?_,hf⟩;rw[Z2];exact ⟨j,by rw[Z8,ho];simp⟩
theorem sureBet_inv {A:List Nat} {lo hi:Nat} {tied:Nat->Bool} (h:sureBet A rl lo hi tied=true):∃ j o,rl[j]?=some o/\lo<j/\j<hi/\sureK o=true/\tied j=true:=by
 unfold sureBet at h;obtain ⟨j,o,h1,h2⟩:=any_zipIdx h;simp only[Z3,decide_eq_true_eq] at h2;exact ⟨j,o,h1,h2.1.1.1,h2.1.1.2,h2.1.2,h2.2⟩
theorem anc_lt (ht:tempsOk ops ops.toList (ancs ops.toList)=true):∀ (i:Nat) (o:Oper),ops.toList[i]?=some o -> ∀ j,bit (ancs ops.toList) i j=true->j<i:=by
 intro i
 induction i using Nat.strongRecOn with
 | _ i ih =>
   intro o ho j hj;obtain ⟨e,he,hb,hje⟩:=anc_spec ho hj;have h1:=(temps_spec ht ho).1 e he hb
   rcases hje with rfl|⟨_,h2⟩
   ·exact h1
   ·have hl:e.on<ops.toList.length:=by
     have:=(Z5.1 ho).1;omega
    have:=ih e.on h1 ops.toList[e.on] (by simp [hl]) j h2;omega
set_option maxHeartbeats 1000000 in
theorem Run.checks {env:List Value} {h:AH} {trs:List TR} {fin:Fin'} (r:Run P keep ops F 0 (annot (ancs ops.toList) rl) ops.toList env h [] [] trs fin) (hres:resOps P nm N ops ops.toList=some rl) (ht:tempsOk ops ops.toList (ancs ops.toList)=true)
 (hs:drawS P ops (ancs ops.toList) rl=true) (hp:∀ v h',fin = .pan v h'->panS (ancs ops.toList) rl=true) :
 chainOk ops.size (ancs ops.toList) (alOf P trs ops) trs fin=true/\flushOk ops.size (ancs ops.toList) (alOf P trs ops) trs=true/\ReadsP P ops.toList (ancs ops.toList) trs fin:=by
 unfold drawS at hs;simp only[Z3] at hs;obtain ⟨⟨⟨⟨hop,hcalls⟩,hch⟩,hfl⟩,hrd⟩:=hs;have resget:∀ (os:List Oper) (xs:List RO),resOps P nm N ops os=some xs->xs.length=os.length /\ ∀ (q:Nat) (o:Oper) (x:RO),os[q]?=some o->xs[q]?=some x->resOp P nm N ops o=some x:=by
  intro os
  induction os with
  | nil=>intro xs hx;cases hx;exact ⟨rfl,fun q o x h=>by simp at h⟩
  | cons o os ih =>
    intro xs hx;simp only[resOps] at hx
    split at hx
    case h_2=>cases hx
    case h_1 y ys h1 h2 =>
     cases hx;obtain ⟨k1,k2⟩:=ih _ h2;refine ⟨by simp [k1],fun q o' x a b=>?_⟩;cases q with
     | zero=>simp at a b;subst a;subst b;exact h1
     | succ q=>exact k2 q o' x (by simpa using a) (by simpa using b)
 obtain ⟨hlen,hresq⟩:=resget _ _ hres;have hsz:rl.length=ops.size:=by simpa using hlen
 have htrl:trs.length<=ops.size:=by
  rcases trace_len _ _ _ _ _ r.trace with ⟨_,_,_,h1⟩|⟨_,_,_,_,h1⟩<;>(have:ops.toList.length=ops.size:=by simp)<;>omega
 have opq:∀ (q:Nat) (o:Oper) (x:RO),ops.toList[q]?=some o->rl[q]?=some x->opOk P o x.k=true:=by
  intro q o x h1 h2;refine Z6.1 hop (o,x) ?_;rw[Z2];exact ⟨q,by rw[Za];exact ⟨h1,h2⟩⟩
 have fact:∀ (q:Nat) (t:TR),trs[q]?=some t -> ∃ d ro o,(annot (ancs ops.toList) rl)[q]?=some d/\d.o=ro/\rl[q]?=some ro/\ops.toList[q]?=some o /\
  (t.k=true->t.w=true/\potK ro.k=true)/\(t.k=true->alK ro.k=true->allocOp o=true /\ ∃ u B,aread P (ev t.env) t.h t.h.length o=some (u,some B)) /\
  (t.w=true->t.k=false->freeK ro.k=true -> ∀ h2:AH,aread P (ev t.env) h2 h2.length o=some (t.v,none))/\(t.w=true->t.k=false -> ∃ v,aread P (ev t.env) t.h t.h.length o=some (v,none)) /\
  (t.w=true\/wantA ops t.env o=some false)/\(t.w=true->t.k=false->potK ro.k=false):=by
  intro q t ht;obtain ⟨d,o,h1,h2,h3,h4,h5,h6,h7,h8,h9⟩:=r.facts q t ht;have h1':=h1;rw[annot_get] at h1';obtain ⟨ro,e1,e2⟩:=Z4.1 h1';have e3:d.o=ro:=by rw[<- e2]
  rw[e3] at h4 h5 h6 h9;exact ⟨d,ro,o,h1,e3,e1,h2,h4,h5,h6,h7,h8,h9⟩
 have sure:∀ (q:Nat) (t:TR) (ro:RO),trs[q]?=some t->rl[q]?=some ro->sureK ro=true->t.k=true:=by
  intro q t ro ht hro hsu;obtain ⟨d,ro',o,_,_,e1,e2,e3,e4,e5,e6,e7,e8⟩:=fact q t ht;rw[hro] at e1;cases e1;unfold sureK at hsu;simp only[Z3,Option.isNone_iff_eq_none] at hsu;have hg:o.guard=none:=by
   have hr:=hresq q o ro e2 hro;unfold resOp at hr
   split at hr
   ·rename_i dd g k _ hg _
    cases hr;have:g=none:=hsu.1;subst this;unfold resG at hg
    split at hg
    ·assumption
    ·split at hg<;>cases hg
   ·cases hr
  have hw:t.w=true:=by
   rcases e7 with h|h
   ·exact h
   ·unfold wantA at h;rw[hg] at h;cases h
  cases hk:t.k with
  | true=>rfl
  | false =>
    exfalso
    have:=e8 hw hk;have h2:=hsu.2
    revert h2 this
    cases ro.k<;>intro a b<;>first|(cases a;done)|(cases b;done)
 have alOk:∀ (q:Nat) (t:TR) (ro:RO),trs[q]?=some t->rl[q]?=some ro->t.k=true->alK ro.k=true->alOf P trs ops q=true:=by
  intro q t ro ht hro hk ha;obtain ⟨d,ro',o,_,_,e1,e2,e3,e4,_⟩:=fact q t ht;rw[hro] at e1;cases e1;obtain ⟨h1,u,B,h2⟩:=e4 hk ha;have ho:ops[q]?=some o:=by simpa using e2
  unfold alOf;rw[ht,ho];simp only[(e3 hk).1,hk,h1,h2,Ze]
 have alInv:∀ (q:Nat),alOf P trs ops q=true -> ∃ t ro,trs[q]?=some t/\rl[q]?=some ro/\t.k=true/\alK ro.k=true:=by
  intro q hq;unfold alOf at hq
  split at hq
  ·rename_i t o ht ho
   simp only[Z3] at hq;obtain ⟨d,ro,o',_,_,e1,e2,_⟩:=fact q t ht
   have:o'=o:=by have:ops.toList[q]?=some o:=by simpa using ho
                 rw[this] at e2;cases e2;rfl
   subst this;have hoo:=opq q o' ro e2 e1;unfold opOk at hoo;simp only[Z3,beq_iff_eq] at hoo;exact ⟨t,ro,ht,e1,hq.1.1.2,by rw[hoo.1.1.2];exact hq.1.2⟩
  ·cases hq
 refine ⟨?_,?_,?_⟩
 ·
  unfold chainOk;rw[Z3];refine ⟨all_zi_of fun j t htj=>?_,?_⟩
  ·simp only[Z1,Z0]
   by_cases hk:t.k=true
   ·obtain ⟨d,ro,o,_,_,e1,e2,e3,_⟩:=fact j t htj
    by_cases ha:alK ro.k=true
    ·exact .inl (.inr (alOk j t ro htj e1 hk ha))
    ·refine .inr (all_zi_of fun i t' hti=>?_)
     simp only[Z1,Z0,decide_eq_false_iff_not]
     by_cases hk':t'.k=true
     ·by_cases hij:i<j
      ·obtain ⟨d',ro',o',_,_,e1',_,e3',_⟩:=fact i t' hti
       have h1:=all_zi hch e1;simp only[Z1,Z0,(e3 hk).2] at h1
       rcases h1 with (h1|h1)|h1
       ·cases h1
       ·exact absurd h1 ha
       ·have h2:=all_zi h1 e1'
        simp only[Z1,Z0,decide_eq_false_iff_not,(e3' hk').2] at h2
        rcases h2 with (h2|h2)|h2
        ·exact absurd hij h2
        ·cases h2
        ·exact .inr h2
      ·exact .inl (.inr hij)
     ·exact .inl (.inl (by simpa using hk'))
   ·exact .inl (.inl (by simpa using hk))
  ·cases hfin:fin with
   | norm e2 h2=>rfl
   | pan v h' =>
     have hpan:=hp v h' hfin;obtain ⟨q,d,f,ags,e1,e2,e3⟩:=r.panLast v h' hfin;simp only;rw[Z6];intro j hj;rw[Z9] at hj;simp only[Z1,Z0,decide_eq_false_iff_not]
     by_cases hlt:trs.length<=j
     ·right
      unfold panS at hpan;rw[annot_get] at e2;obtain ⟨ro,k1,k2⟩:=Z4.1 e2;have k3:ro.k = .call f ags:=by rw[<- e3,<- k2]
      have h1:=all_zi hpan k1;simp only[k3] at h1;have h2:=Z6.1 h1 j (by rw[Z9,hsz];exact hj);simp only[Z1,Z0,decide_eq_false_iff_not] at h2;rw[e1,Nat.add_sub_cancel]
      rcases h2 with h2|h2
      ·omega
      ·exact h2
     ·exact .inl hlt
 ·
  unfold flushOk;refine all_zi_of fun a t hta=>?_
  simp only[Z1,Z0,Z3]
  by_cases ha:alOf P trs ops a=true
  ·right
   obtain ⟨t',ro,h1,h2,h3,h4⟩:=alInv a ha;refine ⟨all_zi_of fun j tj htj=>?_,?_⟩
   ·simp only[Z1,Z0,decide_eq_false_iff_not,decide_eq_true_eq]
    by_cases hja:j<=a
    ·exact .inr (r.mono j a tj t hja htj hta)
    ·exact .inl hja
   ·rw[Z6]
    intro i hi;rw[Z9] at hi;simp only[Z1,Z0]
    by_cases hb:bit (ancs ops.toList) i a=true
    ·right
     refine all_zi_of fun j tj htj=>?_
     simp only[Z1,Z0,decide_eq_false_iff_not]
     by_cases hk:tj.k=true
     ·by_cases hja:j<a
      ·right
       obtain ⟨dj,roj,oj,_,_,k1,_,k3,_⟩:=fact j tj htj;have q1:=all_zi hfl h2;simp only[Z1,Z0,h4] at q1
       rcases q1 with q1|q1
       ·cases q1
       ·have q2:=Z6.1 q1 i (by rw[Z9,hsz];exact hi)
        simp only[Z1,Z0] at q2
        rcases q2 with q2|q2
        ·exact absurd (show bitA (ancs ops.toList) i a=true from hb) (by rw[q2];simp)
        ·have q3:=all_zi q2 k1
         simp only[Z1,Z0,decide_eq_false_iff_not,(k3 hk).2] at q3
         rcases q3 with (q3|q3)|q3
         ·exact absurd hja q3
         ·cases q3
         ·exact q3
      ·exact .inl (.inr hja)
     ·exact .inl (.inl (by simpa using hk))
    ·exact .inl (by simpa using hb)
  ·exact .inl (by simpa using ha)
 ·
  intro i o t p ho hti hw hk hpp hpo h1 h2;obtain ⟨d,ro,o',e0,ed,e1,e2,e3,e4,e5,e6,e7,e8⟩:=fact i t hti;rw[ho] at e2;cases e2;have hnp:=e8 hw hk;have hil:i<trs.length:=(Z5.1 hti).1;have hsp:=own_spec trs i (by omega);have late:own trs i<p -> ∃ j0 t0,p=j0+1/\i<j0/\trs[j0]?=some t0/\t0.k=true/\j0<many trs fin/\bit (ancs ops.toList) j0 i=false:=by
   intro hlt
   rcases hpp with h|⟨j0,t0,h,h3,h4,h5⟩
   ·omega
   ·refine ⟨j0,t0,h,?_,h3,h4,h5,h2 j0 t0 h3 h4 (by omega)⟩
    by_cases hji:j0<i
    ·have:=hsp.1 j0 t0 h3 h4 hji;omega
    ·by_cases hje:j0=i
     ·subst hje;rw[hti] at h3;cases h3;rw[hk] at h4;cases h4
     ·omega
  have soon:p<own trs i -> ∃ j1 t1,p<=j1/\j1<i/\trs[j1]?=some t1/\t1.k=true/\(after1 trs fin p).2=t1.h/\bit (ancs ops.toList) i j1=false:=by
   intro hlt
   rcases hsp.2.2 with h|⟨j,tj,h,h3,h4⟩
   ·omega
   ·obtain ⟨j1,t1,k1,k2,k3,k4,k5⟩:=first_k trs p j (by omega) ⟨tj,h3,h4⟩
    have hj1:j1<trs.length:=(Z5.1 k3).1;refine ⟨j1,t1,k1,by have:=hsp.2.1;omega,k3,k4,?_,?_⟩
    ·have:=heap_const r.trace (p:=p) j1 k1 (by omega) (fun hh=>by omega) (fun q tq a b c=>k5 q tq a b c)
     rw[<- this];simp [after1,k3]
    ·cases hb:bit (ancs ops.toList) i j1 with
     | false=>rfl
     | true=>have:=h1 j1 t1 k3 k4 hb;omega
  have hrdq:=all_zi hrd e1;simp only[Z1,hnp] at hrdq
  rcases hrdq with ((hh|hf)|hl)|hall
  ·cases hh
  ·exact e5 hw hk hf _
  ·
   have hdo:d=(annot (ancs ops.toList) rl)[i]?.getD d:=by rw[e0];rfl
   rcases Zg hpo with hlt|hgt
   ·obtain ⟨j1,t1,k1,k2,k3,k4,k5,k6⟩:=soon hlt
    obtain ⟨d1,ro1,o1,_,_,q1,_,q3,_⟩:=fact j1 t1 k3;have hc:d.old.contains (0+j1)=true:=by
     rw[annot_get,e1] at e0;simp only[Option.map_some,Option.some.injEq] at e0;subst e0;simp only[hl,if_true,Nat.zero_add];refine mem_fm q1 ?_;cases hsb:sureBet (ancs ops.toList) rl j1 i (fun p=>bitA (ancs ops.toList) i p) with
     | true =>
       exfalso
       obtain ⟨q,oq,m1,m2,m3,m4,m5⟩:=sureBet_inv hsb;have hq:q<trs.length:=by omega
       have hkq:=sure q trs[q] oq (by simp [hq]) m1 m4;have:=h1 q trs[q] (by simp [hq]) hkq m5;omega
     | false =>
       simp only[k2,decide_true,(q3 k4).2,show bitA (ancs ops.toList) i j1=false from k6,Bool.not_false,Ze,if_true]
    have:=(r.sooner i t d o hti hw hk e0 ho (by rw[ed];exact hl)).2 j1 t1 k2 k3 k4 hc;rw[k5];exact this
   ·obtain ⟨j0,t0,k1,k2,k3,k4,k5,k6⟩:=late hgt
    obtain ⟨d0,ro0,o0,q0,_,q1,_,q3,_⟩:=fact j0 t0 k3;have hc:d0.chk.contains (0+i)=true:=by
     have q0':=q0;rw[annot_get,q1] at q0';simp only[Option.map_some,Option.some.injEq] at q0';subst q0';simp only[(q3 k4).2,if_true,Nat.zero_add];refine mem_fm e1 ?_;cases hsb:sureBet (ancs ops.toList) rl i j0 (fun p=>bitA (ancs ops.toList) p i) with
     | true =>
       exfalso
       obtain ⟨q,oq,m1,m2,m3,m4,m5⟩:=sureBet_inv hsb;have hj0:j0<trs.length:=(Z5.1 k3).1;have hq:q<trs.length:=by omega
       have hkq:=sure q trs[q] oq (by simp [hq]) m1 m4;have:=h2 q trs[q] (by simp [hq]) hkq (by omega);rw[show bit (ancs ops.toList) q i=true from m5] at this;cases this
     | false =>
       simp only[k2,decide_true,hl,show bitA (ancs ops.toList) j0 i=false from k6,Bool.not_false,Ze,if_true]
    have:=(r.later j0 t0 d0 k3 k4 q0 k5).2 i t d o k2 hti e0 ho hw hk (by rw[ed];exact hl) hc;rw[k1];exact this _
  ·
   exfalso
   rcases Zg hpo with hlt|hgt
   ·obtain ⟨j1,t1,k1,k2,k3,k4,k5,k6⟩:=soon hlt
    obtain ⟨d1,ro1,o1,_,_,q1,q2,q3,_⟩:=fact j1 t1 k3;have h3:=all_zi hall q1;simp only[Z1,Z0,(q3 k4).2] at h3
    rcases h3 with (h3|h3)|h3
    ·cases h3
    ·rw[show bit (ancs ops.toList) i j1=true from h3] at k6;cases k6
    ·have:=anc_lt ht j1 o1 q2 i h3;omega
   ·obtain ⟨j0,t0,k1,k2,k3,k4,k5,k6⟩:=late hgt
    obtain ⟨d1,ro1,o1,_,_,q1,q2,q3,_⟩:=fact j0 t0 k3;have h3:=all_zi hall q1;simp only[Z1,Z0,(q3 k4).2] at h3
    rcases h3 with (h3|h3)|h3
    ·cases h3
    ·have:=anc_lt ht i o ho j0 h3;omega
    ·rw[show bit (ancs ops.toList) j0 i=true from h3] at k6;cases k6
def knownB (e l:PE) (t:Nat):Bool:=(look e t).isSome || (look l t).isSome
def env0 (e l:PE) (M:Nat):List Value:=(List.range M).map fun t=>match look e t with
 | some v=>v
 | none=>match look l t with
   | some v=>v
   | none=>undef
theorem wrN_mem {dl:List DO} {d:DO} {i:Nat} (h:d∈dl) (hd:d.o.d = .n i):(wrN dl).contains i=true:=by
 induction dl with
 | nil=>cases h
 | cons x dl ih =>
   simp only[wrN]
   rcases Zf.1 h with rfl|h
   ·rw[hd];simp
   ·split
    ·have:=ih h;simp only[List.contains_cons,this,Bool.or_true]
    ·exact ih h
theorem wrN_has {ops:Array Oper} {A:List Nat} {rl:List RO} (hres:resOps P nm N ops ops.toList=some rl) {t:Nat} (hn:nm.contains t=true) {o:Oper} (ho:o∈ops.toList) (hd:o.dst=some t):(wrN (annot A rl)).contains t=true:=by
 have key:∀ (os:List Oper) (xs:List RO),resOps P nm N ops os=some xs -> ∀ o∈os,o.dst=some t -> ∃ (q:Nat) (x:RO),xs[q]?=some x/\x.d = .n t:=by
  intro os
  induction os with
  | nil=>intro xs _ o h;cases h
  | cons o' os ih =>
    intro xs hx o h hd;simp only[resOps] at hx
    split at hx
    case h_2=>cases hx
    case h_1 x ys h1 h2 =>
     cases hx
     rcases Zf.1 h with rfl|h
     ·refine ⟨0,x,rfl,?_⟩
      unfold resOp at h1
      split at h1
      case h_2=>cases h1
      case h_1 d g k e1 e2 e3 =>
       cases h1;rw[hd] at e1;simp only[resDst] at e1
       split at e1
       ·cases e1;rfl
       ·cases e1
     ·obtain ⟨q,y,q1,q2⟩:=ih ys h2 o h hd
      exact ⟨q+1,y,by simpa using q1,q2⟩
 obtain ⟨q,x,q1,q2⟩:=key _ _ hres o ho hd;have hg:∃ d,(annot A rl)[q]?=some d/\d.o=x:=by
  rw[annot_get,q1];exact ⟨_,rfl,rfl⟩
 obtain ⟨d,g1,g2⟩:=hg;exact wrN_mem (Zd g1) (by rw[g2];exact q2)
theorem draw_ok' (hm:P.follows .mixedOrders=true) (N:Nat) (ops:Array Oper) (rl:List RO) (hD:dq ops=true) (hres:resOps P nm N ops ops.toList=some rl) (hds:drawS P ops (ancs ops.toList) rl=true) (Φ:Out->PS->Prop) (r:Rho) (s:PS) (a:Act) (w:World)
 (hs:SP P nm N r s a w) (hneed:∃ vs,rxs s.e s.l (needOf nm ops)=some vs) (hw:wpd P keep nm (drK (keepN (wrN (annot (ancs ops.toList) rl)) s.e) (if !panS (ancs ops.toList) rl then npK Φ else Φ)) (annot (ancs ops.toList) rl) [] [] s.e s.l s.h s.ds)
 (Q:Exit->Act->World->Prop) (hQ:PP P nm N r s.h w Φ Q):wpAny P .any ops Q ops.size (Zb ops.size false) a { w with drawn:=w.drawn+1 }:=by
 have ht:tempsOk ops ops.toList (ancs ops.toList)=true:=hD;have hEM:EM nm N s.e s.l (env0 s.e s.l a.tmps.size):=by
  have get:∀ t,t<a.tmps.size->(env0 s.e s.l a.tmps.size)[t]?=some (match look s.e t with
   | some v=>v
   | none=>match look s.l t with
     | some v=>v
     | none=>undef):=fun t h=>by simp [env0,h]
  refine ⟨fun t v h=>?_,fun t v h=>?_,hs.en,hs.ln,by simp [env0];exact hs.sz⟩
  ·obtain ⟨v',h1,_⟩:=hs.e t v h
   rw[get t (Z7.1 h1).1,h]
  ·obtain ⟨v',h1,_⟩:=hs.l t v h
   rw[get t (Z7.1 h1).1];have:look s.e t=none:=by
    cases he:look s.e t with
    | none=>rfl
    | some u=>have h2:=hs.en t u he;rw[hs.ln t v h] at h2;cases h2
   rw[this,h]
 let b:Act:={ a with tmps:=((List.range a.tmps.size).map fun t=>if knownB s.e s.l t then a.tmps.getD t undef else undef).toArray }
 have hb:∀ t,t<a.tmps.size->b.tmps[t]?=some (if knownB s.e s.l t then a.tmps.getD t undef else undef):=fun t h=>by simp [b,h]
 have hbs:b.tmps.size=a.tmps.size:=by simp [b]
 have hSR:SR P r ⟨env0 s.e s.l a.tmps.size,s.h,s.ds⟩ b w:=by
  refine ⟨fun t v hv=>?_,hs.hr,hs.ds⟩;have hlt:t<a.tmps.size:=by have:=(Z5.1 hv).1;simpa [env0] using this
  refine ⟨_,hb t hlt,?_⟩;have hv':(match look s.e t with
   | some v=>v
   | none=>match look s.l t with
     | some v=>v
     | none=>undef)=v:=by simpa [env0,hlt] using hv
  cases he:look s.e t with
  | some u =>
    rw[he] at hv';subst hv';obtain ⟨u',h1,h2⟩:=hs.e t u he;simp only[knownB,he,Zh,Bool.true_or,if_true]
    simpa [h1] using h2
  | none =>
    rw[he] at hv';cases hl:look s.l t with
    | some u =>
      rw[hl] at hv';subst hv';obtain ⟨u',h1,h2⟩:=hs.l t u hl;simp only[knownB,he,hl,Zh,Zi,Bool.or_true,if_true]
      simpa [h1] using h2
    | none =>
      rw[hl] at hv';subst hv';simp only[knownB,he,hl,Zi,Bool.or_self,Bool.false_eq_true,if_false];exact undef_vr r
 have hds':=hds;unfold drawS at hds';simp only[Z3] at hds';have opq:∀ (q:Nat) (d:DO) (o:Oper),(annot (ancs ops.toList) rl)[q]?=some d->ops.toList[q]?=some o->opOk P o d.o.k=true:=by
  intro q d o h1 h2;rw[annot_get] at h1;obtain ⟨ro,e1,rfl⟩:=Z4.1 h1;refine Z6.1 hds'.1.1.1.1 (o,ro) ?_;rw[Z2];exact ⟨q,by rw[Za];exact ⟨h2,e1⟩⟩
 obtain ⟨G,g1,g2,g3⟩:=wpd_run ops.toList (annot (ancs ops.toList) rl) 0 (by rw[annot_map];exact hres) (fun q d hq=>by
  rw[annot_get] at hq;obtain ⟨ro,_,rfl⟩:=Z4.1 hq;exact ⟨by simp,rfl⟩) opq hds'.1.1.1.2 _ _ _ _ [] [] hEM hw
 obtain ⟨trs,fin,hrun,hfin⟩:=g3 G.ft (G.ft_ext);have hnpan:∀ v h',fin = .pan v h'->panS (ancs ops.toList) rl=true/\Φ (.pan v) ⟨keepN (wrN (annot (ancs ops.toList) rl)) s.e,[],h',s.ds⟩:=by
  intro v h' hf;subst hf;cases hpn:panS (ancs ops.toList) rl with
  | true=>refine ⟨rfl,?_⟩;simpa [hpn,drK] using hfin
  | false=>simp [hpn,npK,drK] at hfin
 obtain ⟨c1,c2,c3⟩:=hrun.checks hres ht hds (fun v h' hf=>(hnpan v h' hf).1);have hsel:∀ (i:Nat) (o:Oper),ops[i]?=some o -> ∀ cs bb,o.op ≠ .select cs bb:=by
  intro i o ho cs bb e;have hl:rl.length=ops.size:=by
   have:∀ (os:List Oper) (xs:List RO),resOps P nm N ops os=some xs->xs.length=os.length:=by
    intro os
    induction os with
    | nil=>intro xs hx;cases hx;rfl
    | cons o os ih =>
      intro xs hx;simp only[resOps] at hx
      split at hx
      ·rename_i h1 h2;cases hx;simp [ih _ h2]
      ·cases hx
   simpa using this _ _ hres
  have hi:i<ops.size:=(Z7.1 ho).1;have h1:=opq i _ o (by rw[annot_get,List.getElem?_eq_getElem (by omega)];rfl) (by simpa using ho);unfold opOk at h1;simp only[Z3] at h1;have h2:=h1.2;unfold notSel1 at h2;rw[e] at h2;cases h2
 have hK:∀ (i:Nat) (o:Oper) (t:Nat),ops[i]?=some o->t∈o.looksAt ops->knownB s.e s.l t=true \/ ∃ (j:Nat) (oj:Oper),j<i/\ops[j]?=some oj/\oj.dst=some t:=by
  intro i o t ho htl
  by_cases hd:∃ (j:Nat) (oj:Oper),j<i/\ops[j]?=some oj/\oj.dst=some t
  ·exact .inr hd
  ·left
   obtain ⟨vs,hvs⟩:=hneed;have hmem:(if nm.contains t then RX.n t else RX.t t)∈needOf nm ops:=by
    unfold needOf;rw[List.mem_map];refine ⟨t,?_,rfl⟩;rw[List.mem_eraseDups,List.mem_flatMap];refine ⟨(o,i),?_,?_⟩
    ·rw[Z2]
     exact ⟨i,by rw[Z8];simp [ho]⟩
    ·simp only[List.mem_filter]
     refine ⟨htl,?_⟩;simp only[Z0,List.any_eq_false,beq_iff_eq];intro oj hoj hdj;obtain ⟨j,hj⟩:=Z2.1 hoj;rw[List.getElem?_take] at hj
     split at hj
     ·rename_i hlt;exact hd ⟨j,oj,hlt,by simpa using hj,hdj⟩
     ·cases hj
   have:∀ (xs:List RX) (vs:List Value),rxs s.e s.l xs=some vs -> ∀ x∈xs,∃ v,rx s.e s.l x=some v:=by
    intro xs
    induction xs with
    | nil=>intro vs _ x hx;cases hx
    | cons y ys ih =>
      intro vs hv x hx;simp only[rxs] at hv;obtain ⟨v,h1,h2⟩:=Option.bind_eq_some_iff.1 hv;obtain ⟨vs',h3,_⟩:=Z4.1 h2
      rcases Zf.1 hx with rfl|hx
      ·exact ⟨v,h1⟩
      ·exact ih vs' h3 x hx
   obtain ⟨v,hv⟩:=this _ _ hvs _ hmem;unfold knownB
   split at hv
   ·rw[show look s.e t=some v from hv];rfl
   ·rw[show look s.l t=some v from hv];simp
 let Q':Exit->Act->World->Prop:=fun ex b' w'=>ex ≠ .outgrown /\ ∀ (a1:Act) (listed:Array Bool),Ag (fun t=>knownB s.e s.l t=true) ops listed a a1 b'->(ex = .normal->Region.ready .any ops listed=[])->Q ex a1 w'
 have hstart:Ag (fun t=>knownB s.e s.l t=true) ops (Zb ops.size false) a a b:=by
  have hf:∀ k,(Zb ops.size false).getD k false=false:=fun k=>by
   by_cases hk:k<ops.size<;>simp [hk]
  refine ⟨hbs.symm,rfl,rfl,fun t htt=>?_,fun t _=>rfl,fun i o ho hL=>?_,by simp⟩
  ·rcases htt with h1|⟨i,o,_,h2,_⟩
   ·by_cases hlt:t<a.tmps.size
    ·rw[hb t hlt];simp only[h1,if_true];simp [hlt]
    ·rw[Zc (by omega),Zc (by omega)]
   ·rw[hf] at h2;cases h2
  ·simp only at hL;rw[hf] at hL;cases hL
 refine region_frame (K0:=fun t=>knownB s.e s.l t=true) (Q':=Q') ht hsel hK (fun ⟨a1,w1,h1,_⟩=>h1 rfl) (fun ex a1 b1 w1 listed hag hr hq=>hq.2 a1 listed hag hr) _ _ a b _ hstart ?_;have hdone:∀ (listed:Array Bool),listed.size=ops.size->Region.ready .any ops listed=[] -> ∀ i,i<ops.size->listed.getD i false=true:=by
  intro listed hsz hready i
  induction i using Nat.strongRecOn with
  | _ i ih =>
    intro hi
    by_cases hl:listed.getD i false=true
    ·exact hl
    ·exfalso
     have hmem:i∈Region.ready .any ops listed:=by
      rw[mem_ready];refine ⟨?_,ops[i],by simp [hi],fun e hem hbd=>?_⟩
      ·have hi':i<listed.size:=by omega
       simp [hi'] at hl ⊢;exact hl
      ·have:=(temps_spec ht (i:=i) (o:=ops[i]) (by simp [hi])).1 e hem hbd
       exact ih e.on this (by omega)
     rw[hready] at hmem;cases hmem
 cases hf:fin with
 | norm env' h' =>
   rw[hf] at hfin hrun c1 c3;obtain ⟨e',l',f1,f2,f3⟩:=hfin;have hΦ:Φ .norm ⟨e',l'.take 1,h',s.ds⟩:=by
    cases hpn:panS (ancs ops.toList) rl<;>simp [hpn,npK,drK] at f3<;>exact f3
   refine drawP_any (s:=⟨env0 s.e s.l a.tmps.size,s.h,s.ds⟩) hm (Ent.ft_ok g1) hrun.trace ht c1 c2 c3 (out:=.norm) (s':=⟨env',h',s.ds⟩) rfl r b w Q' hSR ?_;intro ex b1 w1 r1 ho st sr;cases ho;refine ⟨by simp,fun a1 listed hag hr=>?_⟩;have hall:=hdone listed hag.ls (hr rfl);have key:∀ t v,(look e' t=some v\/look l' t=some v) -> ∃ v',a1.tmps[t]?=some v'/\VR r1 v v':=by
    intro t v hv;have hev:env'[t]?=some v:=by rcases hv with h|h;exact f1.ee t v h;exact f1.ll t v h
    obtain ⟨v',q1,q2⟩:=sr.env t v hev;refine ⟨v',?_,q2⟩;rw[hag.ag t ?_];exact q1
    rcases f2 t v hv with ⟨u,h⟩|⟨u,h⟩|⟨o,hmo,hdo⟩
    ·left;simp [knownB,h]
    ·left;simp [knownB,h]
    ·right
     obtain ⟨i,hi⟩:=Z2.1 hmo;have hi2:ops[i]?=some o:=by simpa using hi
     exact ⟨i,o,hi2,hall i (Z7.1 hi2).1,hdo⟩
   refine hQ .norm _ hΦ _ _ _ r1 rfl st ⟨fun t v h=>key t v (.inl h),fun t v h=>key t v (.inr (look_take1 h)),f1.en,fun t v h=>f1.ln t v (look_take1 h),by rw[hag.s0];exact hs.sz,sr.hr,by rw[hag.df];exact sr.ds⟩
 | pan v h' =>
   obtain ⟨_,hΦ⟩:=hnpan v h' hf;rw[hf] at hrun c1 c3;refine drawP_any (s:=⟨env0 s.e s.l a.tmps.size,s.h,s.ds⟩) hm (Ent.ft_ok g1) hrun.trace ht c1 c2 c3 (out:=.pan v) (s':=⟨[],h',s.ds⟩) rfl r b w Q' hSR ?_;intro ex b1 w1 r1 ho st sr;obtain ⟨v',rfl,hv⟩:=ho;refine ⟨by simp,fun a1 listed hag hr=>?_⟩;refine hQ (.pan v) _ hΦ _ _ _ r1 ⟨v',rfl,hv⟩ st ⟨fun t u h=>?_,fun t v h=>(by cases h),fun t u h=>?_,fun t v h=>(by cases h),by rw[hag.s0];exact hs.sz,sr.hr,by rw[hag.df];exact sr.ds⟩
   ·have hn:=look_keepN_not h
    have hl:=(look_keepN h).resolve_right (by rw[hn];simp);obtain ⟨u',q1,q2⟩:=hs.e t u hl;refine ⟨u',?_,q2.mono st.le⟩;rw[hag.out t (fun i o ho hd=>?_)]
    ·exact q1
    ·have hw1:=wrN_has (A:=ancs ops.toList) hres (hs.en t u hl) (Zd (by simpa using ho)) hd
     rw[hw1] at hn;cases hn
   ·exact hs.en t u ((look_keepN h).resolve_right (by rw[look_keepN_not h];simp))
theorem draw_ok (hm:P.follows .mixedOrders=true) (N:Nat):DrawOk P keep nm N dq:=by
 intro ops rl hD hres hds id Φ r s a w hs hneed hw Q hQ;exact wp_region_any hm (hst_any (draw_ok' hm N _ rl hD hres hds Φ r s a w hs hneed hw Q hQ))
end
end Go.Eng
