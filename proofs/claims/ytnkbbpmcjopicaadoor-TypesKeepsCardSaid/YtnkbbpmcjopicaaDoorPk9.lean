import Derived.Test.YtnkbbpmcjopicaaDoorPk8
set_option linter.unusedVariables false
set_option linter.unusedSimpArgs false
open Nat renaming reduceEqDiff -> ZA,reduceAdd -> ZB,reduceMul -> ZC,reduceLeDiff -> ZD,reduceLT -> ZE
open Int renaming reduceEq -> ZF
open Option renaming map_eq_some_iff->Z0,bind_eq_some_iff->Z1,bind_some->Z5,map_some->Z8,some->Zd
open Array renaming getElem?_setIfInBounds_ne->Z2,getD_eq_getD_getElem?->Z9,size_setIfInBounds->Zb
open List renaming mem_cons_self->Z3,mem_cons_of_mem->Z4,mem_cons->Za
open Bool renaming and_eq_true->Z6,not_eq_true'->Zc
open Nat renaming le_refl->Z7
namespace Go.Eng
structure Ag (K0:Nat->Prop) (ops:Array Oper) (listed:Array Bool) (a0 a b:Act):Prop where
 sz:a.tmps.size=b.tmps.size
 s0:a.tmps.size=a0.tmps.size
 df:a.defers=b.defers
 ag:∀ t,(K0 t \/ ∃ (i:Nat) (o:Oper),ops[i]?=some o/\listed.getD i false=true/\o.dst=some t)->a.tmps[t]?=b.tmps[t]?
 out:∀ t,(∀ (i:Nat) (o:Oper),ops[i]?=some o->o.dst≠some t)->a.tmps[t]?=a0.tmps[t]?
 cl:Closed ops (fun i=>listed.getD i false)
 ls:listed.size=ops.size
theorem upon_ag {P:Program} {o:Oper} {a b:Act} {K K':Act->World->Prop} {Q Q':Exit->Act->World->Prop} {x:Result Next}
 (hK:∀ v w,K' (b.put o.dst v) w->K (a.put o.dst v) w) (hD:∀ d w,K' ({ b with defers:=d::b.defers }.put o.dst undef) w->K ({ a with defers:=d::a.defers }.put o.dst undef) w)
 (hQ:∀ c w,Q' (.panic c) b w->Q (.panic c) a w) (hL:LetsOut Q'->LetsOut Q) (h:o.upon P b K' Q' x):o.upon P a K Q x:=by
 cases x with
 | ok n w =>
   cases n<;>simp only[Oper.upon] at h ⊢<;>first|exact hK _ _ h|exact hD _ _ h|exact h.elim|skip
   case enter f args =>
    refine Calls.mono h fun e w' he=>?_
    cases e with
    | returned v=>exact hK _ _ he
    | panicked c=>exact hQ _ _ he
    | outgrown=>exact hL he
   case row r args=>exact Rows.mono h fun v w' he=>hK _ _ he
 | halt hh w =>
   cases hh<;>simp only[Oper.upon] at h ⊢<;>first|exact hQ _ _ h|exact h.elim
theorem region_frame {P:Program} {ops:Array Oper} (ht:tempsOk ops ops.toList (ancs ops.toList)=true) (hsel:∀ (i:Nat) (o:Oper),ops[i]?=some o -> ∀ cs b,o.op ≠ .select cs b) {K0:Nat->Prop}
 (hneed:∀ (i:Nat) (o:Oper) (t:Nat),ops[i]?=some o->t∈o.looksAt ops->K0 t \/ ∃ (j:Nat) (oj:Oper),j<i/\ops[j]?=some oj/\oj.dst=some t) {a0:Act} {Q Q':Exit->Act->World->Prop} (hL:¬ LetsOut Q')
 (hQ:∀ (ex:Exit) (a b:Act) (w:World) (listed:Array Bool),Ag K0 ops listed a0 a b->(ex = .normal->Region.ready .any ops listed=[])->Q' ex b w->Q ex a w) :
 ∀ (fuel:Nat) (listed:Array Bool) (a b:Act) (w:World),Ag K0 ops listed a0 a b->wpAny P .any ops Q' fuel listed b w->wpAny P .any ops Q fuel listed a w:=by
 intro fuel
 induction fuel with
 | zero=>intro listed a b w hag h;exact ⟨h.1,hQ _ a b w listed hag (fun _=>h.1) h.2⟩
 | succ fuel ih =>
   intro listed a b w hag h;refine ⟨fun hr=>hQ _ a b w listed hag (fun _=>hr) (h.1 hr),fun i hi=>?_⟩;have hop:=h.2 i hi;obtain ⟨h1,o,ho,hdeps⟩:=mem_ready.1 hi;have hisz:i<ops.size:=(Array.getElem?_eq_some_iff.1 ho).1;have hl:ops.toList[i]?=some o:=by simpa using ho
   have hancL:∀ j,bit (ancs ops.toList) i j=true->listed.getD j false=true:=hag.cl.anc ho (fun e he hb=>hdeps e he hb);have look:∀ t,t∈o.looksAt ops->a.tmps[t]?=b.tmps[t]?:=by
    intro t htl;refine hag.ag t ?_
    rcases hneed i o t ho htl with h2|⟨j,oj,hji,hoj,hd⟩
    ·exact .inl h2
    ·refine .inr ⟨j,oj,hoj,hancL j ?_,hd⟩
     have:=((temps_spec ht hl).2 j oj t (by simpa using hoj) (by omega) hd).2 htl;rw[if_pos hji] at this;exact this
   have hls:∀ j,listed.getD j false=true->(listed.setIfInBounds i true).getD j false=true:=by
    intro j hj
    by_cases e:i=j
    ·subst e;have:i<listed.size:=by rw[hag.ls];exact hisz
     simp [Array.getD,this]
    ·simp only[Z9,Z2 e] at hj ⊢;exact hj
   have hls':∀ j,j≠i->(listed.setIfInBounds i true).getD j false=true->listed.getD j false=true:=by
    intro j e hj;simp only[Z9,Z2 (Ne.symm e)] at hj ⊢;exact hj
   have step:∀ (v:Value) (dd:Option Deferred),Ag K0 ops (listed.setIfInBounds i true) a0 (({ a with defers:=dd.toList++a.defers }:Act).put o.dst v) (({ b with defers:=dd.toList++b.defers }:Act).put o.dst v):=by
    intro v dd;refine ⟨?_,?_,?_,fun t htt=>?_,fun t htt=>?_,fun i' o' ho' hL' e he hb=>?_,by simp [hag.ls]⟩
    ·cases o.dst with
     | none=>exact hag.sz
     | some d=>simp only[Act.put,Zb];exact hag.sz
    ·cases o.dst with
     | none=>exact hag.s0
     | some d=>simp only[Act.put,Zb];exact hag.s0
    ·rw[put_defers,put_defers];simp only[hag.df]
    ·have old:o.dst≠some t->a.tmps[t]?=b.tmps[t]?:=by
      intro hne;refine hag.ag t ?_
      rcases htt with h2|⟨j,oj,hoj,hlj,hd⟩
      ·exact .inl h2
      ·refine .inr ⟨j,oj,hoj,hls' j (fun e=>?_) hlj,hd⟩
       subst e;rw[ho] at hoj;cases hoj;exact hne hd
     cases hd:o.dst with
     | none=>simp only[Act.put];exact old (by rw[hd];simp)
     | some d =>
       simp only[Act.put]
       by_cases e:d=t
       ·subst e
        simp only[Array.getElem?_setIfInBounds,if_true,hag.sz]
       ·rw[Z2 e,Z2 e]
        exact old (by rw[hd];simpa using e)
    ·have h2:=htt i o ho
     cases hd:o.dst with
     | none=>simp only[Act.put];exact hag.out t htt
     | some d =>
       simp only[Act.put];rw[Z2 (by rintro rfl;exact h2 hd)];exact hag.out t htt
    ·by_cases e2:i'=i
     ·subst e2;rw[ho] at ho';cases ho';exact hls _ (hdeps e he hb)
     ·exact hls _ (hag.cl i' o' ho' (hls' i' e2 hL') e he hb)
   unfold wpOp at hop ⊢;rw[ho] at hop ⊢;simp only at hop ⊢;have hw:Region.wanted o (yielded ops a.tmps)=Region.wanted o (yielded ops b.tmps):=by
    unfold Region.wanted;cases hg:o.guard with
    | none=>rfl
    | some p =>
      obtain ⟨j,want⟩:=p;simp only;unfold yielded;cases hd:(ops[j]?).bind (·.dst) with
      | none=>rfl
      | some d =>
        have:a.tmps[d]?=b.tmps[d]?:=look d (by simp [Oper.looksAt,hg,hd]);simp only[Z5,this]
   rw[hw]
   split at hop
   ·rename_i hwt
    rw[if_pos hwt];refine .inl ?_;have hwp:o.wp P b w (wpAny P .any ops Q' fuel (listed.setIfInBounds i true)) Q':=by
     rcases hop with h2|⟨_,h2⟩
     ·exact h2
     ·exact absurd h2 hL
    unfold Oper.wp at hwp ⊢;have hex:execOp a.eval o=execOp b.eval o:=by
     refine execOp_congr o (hsel i o ho) fun x hx=>?_
     cases x with
     | tmp t =>
       have:=look t (by simp only[Oper.looksAt,List.mem_append,List.mem_filterMap];exact .inl ⟨.tmp t,by simpa using hx,rfl⟩);simp [Act.eval,this]
     | const v=>rfl
     | global g=>rfl
     | func f=>rfl
    rw[hex];exact upon_ag (fun v w' hk=>ih _ _ _ _ (step v none) hk) (fun d w' hk=>ih _ _ _ _ (step undef (some d)) hk) (fun c w' hq=>hQ _ a b w' listed hag (fun e=>by cases e) hq) (fun h2=>absurd h2 hL) hwp
   ·rename_i hwt
    rw[if_neg hwt];exact ih _ _ _ _ (step undef none) hop
section
variable {P:Program} {keep:Bool} {ops:Array Oper} {F:FT}
def Same1 (P:Program) (env:List Value) (o:Oper) (f:U) (p v:Value):Prop:=∀ h2 m m',uval P h2 m f p=some (v,none)->aread P (ev env) h2 m' o=some (v,none)
inductive Run (P:Program) (keep:Bool) (ops:Array Oper) (F:FT):Nat->List DO->List Oper->List Value->AH->List (Nat × AH)->List Rd->List TR->Fin'->Prop where
 | nil (n:Nat) (env:List Value) (h:AH) (hs:List (Nat × AH)) (rs:List Rd):Run P keep ops F n [] [] env h hs rs [] (.norm env h)
 | skip {n:Nat} {d:DO} {dl:List DO} {o:Oper} {os:List Oper} {env:List Value} {h:AH} {hs:List (Nat × AH)} {rs:List Rd} {trs:List TR} {fin:Fin'} (hw:wantA ops env o=some false)
  (k:Run P keep ops F (n+1) dl os (putv env o.dst undef) h hs rs trs fin):Run P keep ops F n (d::dl) (o::os) env h hs rs (⟨env,h,false,false,undef⟩::trs) fin
 | read {n:Nat} {d:DO} {dl:List DO} {o:Oper} {os:List Oper} {env:List Value} {h:AH} {hs hs':List (Nat × AH)} {rs rs':List Rd} {trs:List TR} {fin:Fin'} {v:Value} (hw:wantA ops env o=some true)
  (ha:aread P (ev env) h h.length o=some (v,none)) (hs1:∀ x∈hs,x∈hs') (hr1:∀ x∈rs,x∈rs') (hr2:ldK d.o.k=true -> ∃ f p,(n,f,p,v)∈rs'/\Same1 P env o f p v)
  (hold:ldK d.o.k=true -> ∀ x∈hs,d.old.contains x.1=true->aread P (ev env) x.2 x.2.length o=some (v,none))
  (hnp:potK d.o.k=false) (hfr:freeK d.o.k=true -> ∀ h2:AH,aread P (ev env) h2 h2.length o=some (v,none))
  (k:Run P keep ops F (n+1) dl os (putv env o.dst v) h hs' rs' trs fin):Run P keep ops F n (d::dl) (o::os) env h hs rs (⟨env,h,true,false,v⟩::trs) fin
 | write {n:Nat} {d:DO} {dl:List DO} {o:Oper} {os:List Oper} {env:List Value} {h h':AH} {hs hs':List (Nat × AH)} {rs rs':List Rd} {trs:List TR} {fin:Fin'} {v:Value} (hw:wantA ops env o=some true)
  (ha:∀ u,aread P (ev env) h h.length o≠some (u,none)) (ha2:aopv P F keep env h o=some (.ret v,h')) (hp:potK d.o.k=true) (hal:alK d.o.k=true->allocOp o=true /\ ∃ u B,aread P (ev env) h h.length o=some (u,some B))
  (hl:h.length<=h'.length) (hs1:∀ x∈hs,x∈hs') (hs2:(n,h)∈hs') (hr1:∀ x∈rs,x∈rs') (hchk:∀ x∈rs,d.chk.contains x.1=true->uval P h' h'.length x.2.1 x.2.2.1=some (x.2.2.2,none))
  (k:Run P keep ops F (n+1) dl os (putv env o.dst v) h' hs' rs' trs fin):Run P keep ops F n (d::dl) (o::os) env h hs rs (⟨env,h,true,true,v⟩::trs) fin
 | pan {n:Nat} {d:DO} {dl:List DO} {o:Oper} {os:List Oper} {env:List Value} {h h':AH} {hs:List (Nat × AH)} {rs:List Rd} {v:Value} (hw:wantA ops env o=some true)
  (ha:∀ u,aread P (ev env) h h.length o≠some (u,none)) (ha2:aopv P F keep env h o=some (.pan v,h')) (hp:∃ f ags,d.o.k = .call f ags):Run P keep ops F n (d::dl) (o::os) env h hs rs [⟨env,h,true,true,v⟩] (.pan v h')
variable {n:Nat} {dl:List DO} {os:List Oper} {env:List Value} {h:AH} {hs:List (Nat × AH)} {rs:List Rd} {trs:List TR} {fin:Fin'}
theorem Run.trace (r:Run P keep ops F n dl os env h hs rs trs fin):trace P F keep ops os env h=some (trs,fin):=by
 induction r with
 | nil=>rfl
 | skip hw k ih=>simp only[Eng.trace,hw,ih,Z8,cons1]
 | read hw ha _ _ _ _ _ _ k ih=>simp only[Eng.trace,hw,ha,ih,Z8,cons1]
 | @write n d dl o os env h h' hs hs' rs rs' trs fin v hw ha ha2 _ _ _ _ _ _ _ k ih =>
   cases hh:aread P (ev env) h h.length o with
   | none=>simp only[Eng.trace,hw,hh,ha2,ih,Z8,cons1]
   | some res =>
     obtain ⟨u,_|B⟩:=res
     ·exact absurd hh (ha u)
     ·simp only[Eng.trace,hw,hh,ha2,ih,Z8,cons1]
 | @pan n d dl o os env h h' hs rs v hw ha ha2 hp =>
   cases hh:aread P (ev env) h h.length o with
   | none=>simp only[Eng.trace,hw,hh,ha2]
   | some res =>
     obtain ⟨u,_|B⟩:=res
     ·exact absurd hh (ha u)
     ·simp only[Eng.trace,hw,hh,ha2]
theorem Run.head2 (r:Run P keep ops F n dl os env h hs rs trs fin):(after1 trs fin 0).2=h:=by
 cases r<;>rfl
theorem Run.facts (r:Run P keep ops F n dl os env h hs rs trs fin):∀ (q:Nat) (t:TR),trs[q]?=some t -> ∃ d o,dl[q]?=some d/\os[q]?=some o/\h.length<=t.h.length /\
 (t.k=true->t.w=true/\potK d.o.k=true)/\(t.k=true->alK d.o.k=true->allocOp o=true /\ ∃ u B,aread P (ev t.env) t.h t.h.length o=some (u,some B)) /\
 (t.w=true->t.k=false->freeK d.o.k=true -> ∀ h2:AH,aread P (ev t.env) h2 h2.length o=some (t.v,none))/\(t.w=true->t.k=false -> ∃ v,aread P (ev t.env) t.h t.h.length o=some (v,none))/\(t.w=true\/wantA ops t.env o=some false)/\(t.w=true->t.k=false->potK d.o.k=false):=by
 induction r with
 | nil=>intro q t ht;simp at ht
 | @skip n d dl o os env h hs rs trs fin hw k ih =>
   intro q t ht;cases q with
   | zero=>simp at ht;subst ht;exact ⟨d,o,rfl,rfl,Z7 _,(fun h=>by cases h),(fun h=>by cases h),(fun h=>by cases h),(fun h=>by cases h),.inr hw,(fun h=>by cases h)⟩
   | succ q=>exact ih q t (by simpa using ht)
 | @read n d dl o os env h hs hs' rs rs' trs fin v hw ha _ _ _ _ hnp hfr k ih =>
   intro q t ht;cases q with
   | zero=>simp at ht;subst ht;exact ⟨d,o,rfl,rfl,Z7 _,(fun h=>by cases h),(fun h=>by cases h),fun _ _ hf=>hfr hf,fun _ _=>⟨_,ha⟩,.inl rfl,fun _ _=>hnp⟩
   | succ q=>exact ih q t (by simpa using ht)
 | @write n d dl o os env h h' hs hs' rs rs' trs fin v hw ha ha2 hp hal hl _ _ _ _ k ih =>
   intro q t ht;cases q with
   | zero=>simp at ht;subst ht;exact ⟨d,o,rfl,rfl,Z7 _,fun _=>⟨rfl,hp⟩,fun _=>hal,(fun _ h=>by cases h),(fun _ h=>by cases h),.inl rfl,(fun _ h=>by cases h)⟩
   | succ q =>
     obtain ⟨d',o',e1,e2,e3,e4⟩:=ih q t (by simpa using ht);exact ⟨d',o',e1,e2,Nat.le_trans hl e3,e4⟩
 | @pan n d dl o os env h h' hs rs v hw ha ha2 hp =>
   intro q t ht;cases q with
   | zero =>
     simp at ht;subst ht;obtain ⟨f,ags,hk⟩:=hp;exact ⟨d,o,rfl,rfl,Z7 _,fun _=>⟨rfl,by rw[hk];rfl⟩,(fun _ ha=>by rw[hk] at ha;cases ha),(fun _ h=>by cases h),(fun _ h=>by cases h),.inl rfl,(fun _ h=>by cases h)⟩
   | succ q=>simp at ht
theorem Run.mono (r:Run P keep ops F n dl os env h hs rs trs fin):∀ (q q':Nat) (t t':TR),q<=q'->trs[q]?=some t->trs[q']?=some t'->t.h.length<=t'.h.length:=by
 induction r with
 | nil=>intro q q' t t' _ ht;simp at ht
 | skip hw k ih =>
   intro q q' t t' hq ht ht';cases q with
   | zero =>
     simp at ht;subst ht;cases q' with
     | zero=>simp at ht';subst ht';exact Z7 _
     | succ q'=>obtain ⟨_,_,_,_,h1,_⟩:=k.facts q' t' (by simpa using ht');exact h1
   | succ q =>
     cases q' with
     | zero=>omega
     | succ q'=>exact ih q q' t t' (by omega) (by simpa using ht) (by simpa using ht')
 | read _ _ _ _ _ _ _ _ k ih =>
   intro q q' t t' hq ht ht';cases q with
   | zero =>
     simp at ht;subst ht;cases q' with
     | zero=>simp at ht';subst ht';exact Z7 _
     | succ q'=>obtain ⟨_,_,_,_,h1,_⟩:=k.facts q' t' (by simpa using ht');exact h1
   | succ q =>
     cases q' with
     | zero=>omega
     | succ q'=>exact ih q q' t t' (by omega) (by simpa using ht) (by simpa using ht')
 | write _ _ _ _ _ hl _ _ _ _ k ih =>
   intro q q' t t' hq ht ht';cases q with
   | zero =>
     simp at ht;subst ht;cases q' with
     | zero=>simp at ht';subst ht';exact Z7 _
     | succ q'=>obtain ⟨_,_,_,_,h1,_⟩:=k.facts q' t' (by simpa using ht');exact Nat.le_trans hl h1
   | succ q =>
     cases q' with
     | zero=>omega
     | succ q'=>exact ih q q' t t' (by omega) (by simpa using ht) (by simpa using ht')
 | pan =>
   intro q q' t t' hq ht ht';cases q with
   | zero =>
     cases q' with
     | zero=>simp at ht ht';subst ht;subst ht';exact Z7 _
     | succ q'=>simp at ht'
   | succ q=>simp at ht
theorem Run.later (r:Run P keep ops F n dl os env h hs rs trs fin):∀ (q:Nat) (t:TR) (d:DO),trs[q]?=some t->t.k=true->dl[q]?=some d->q<many trs fin ->
 (∀ x∈rs,d.chk.contains x.1=true->uval P (after1 trs fin (q+1)).2 (after1 trs fin (q+1)).2.length x.2.1 x.2.2.1=some (x.2.2.2,none)) /\
 (∀ (q':Nat) (t':TR) (d':DO) (o':Oper),q'<q->trs[q']?=some t'->dl[q']?=some d'->os[q']?=some o'->t'.w=true->t'.k=false->ldK d'.o.k=true->d.chk.contains (n+q')=true ->
  ∀ m,aread P (ev t'.env) (after1 trs fin (q+1)).2 m o'=some (t'.v,none)):=by
 have sh:∀ (t:TR) (trs:List TR) (fin:Fin') (q:Nat),after1 (t::trs) fin (q+1)=after1 trs fin q:=fun t trs fin q=>by simp [after1]
 have sm:∀ (t:TR) (trs:List TR) (fin:Fin') (q:Nat),q+1<many (t::trs) fin->q<many trs fin:=fun t trs fin q h=>by cases fin<;>simp [many] at h ⊢<;>omega
 induction r with
 | nil=>intro q t d ht;simp at ht
 | @skip n d0 dl o os env h hs rs trs fin hw k ih =>
   intro q t d ht hk hd hq;cases q with
   | zero=>simp at ht;subst ht;cases hk
   | succ q =>
     obtain ⟨h1,h2⟩:=ih q t d (by simpa using ht) hk (by simpa using hd) (sm _ _ _ _ hq);refine ⟨fun x hx hc=>by rw[sh];exact h1 x hx hc,fun q' t' d' o' hlt ht' hd' ho' hw' hk' hl hc m=>?_⟩;cases q' with
     | zero=>simp at ht';subst ht';cases hw'
     | succ q'=>rw[sh];exact h2 q' t' d' o' (by omega) (by simpa using ht') (by simpa using hd') (by simpa using ho') hw' hk' hl (by rw[show n+1+q'=n+(q'+1) by omega];exact hc) m
 | @read n d0 dl o os env h hs hs' rs rs' trs fin v hw ha hs1 hr1 hr2 hold hnp hfr k ih =>
   intro q t d ht hk hd hq;cases q with
   | zero=>simp at ht;subst ht;cases hk
   | succ q =>
     obtain ⟨h1,h2⟩:=ih q t d (by simpa using ht) hk (by simpa using hd) (sm _ _ _ _ hq);refine ⟨fun x hx hc=>by rw[sh];exact h1 x (hr1 x hx) hc,fun q' t' d' o' hlt ht' hd' ho' hw' hk' hl hc m=>?_⟩;cases q' with
     | zero =>
       simp at ht' hd' ho';subst ht';subst hd';subst ho';obtain ⟨f,p,e1,e2⟩:=hr2 hl;rw[sh];exact e2 _ _ _ (h1 _ e1 (by simpa using hc))
     | succ q'=>rw[sh];exact h2 q' t' d' o' (by omega) (by simpa using ht') (by simpa using hd') (by simpa using ho') hw' hk' hl (by rw[show n+1+q'=n+(q'+1) by omega];exact hc) m
 | @write n d0 dl o os env h h' hs hs' rs rs' trs fin v hw ha ha2 hp hal hl hs1 hs2 hr1 hchk k ih =>
   intro q t d ht hk hd hq;cases q with
   | zero =>
     simp at ht hd;subst ht;subst hd;refine ⟨fun x hx hc=>?_,fun q' t' d' o' hlt=>by omega⟩;rw[sh,k.head2];exact hchk x hx hc
   | succ q =>
     obtain ⟨h1,h2⟩:=ih q t d (by simpa using ht) hk (by simpa using hd) (sm _ _ _ _ hq);refine ⟨fun x hx hc=>by rw[sh];exact h1 x (hr1 x hx) hc,fun q' t' d' o' hlt ht' hd' ho' hw' hk' hl hc m=>?_⟩;cases q' with
     | zero=>simp at ht';subst ht';cases hk'
     | succ q'=>rw[sh];exact h2 q' t' d' o' (by omega) (by simpa using ht') (by simpa using hd') (by simpa using ho') hw' hk' hl (by rw[show n+1+q'=n+(q'+1) by omega];exact hc) m
 | pan =>
   intro q t d ht hk hd hq;cases q with
   | zero=>simp [many] at hq
   | succ q=>simp at ht
theorem Run.sooner (r:Run P keep ops F n dl os env h hs rs trs fin):∀ (q:Nat) (t:TR) (d:DO) (o:Oper),trs[q]?=some t->t.w=true->t.k=false->dl[q]?=some d->os[q]?=some o->ldK d.o.k=true ->
 (∀ x∈hs,d.old.contains x.1=true->aread P (ev t.env) x.2 x.2.length o=some (t.v,none)) /\
 (∀ (q':Nat) (t':TR),q'<q->trs[q']?=some t'->t'.k=true->d.old.contains (n+q')=true->aread P (ev t.env) t'.h t'.h.length o=some (t.v,none)):=by
 induction r with
 | nil=>intro q t d o ht;simp at ht
 | @skip n d0 dl o0 os env h hs rs trs fin hw k ih =>
   intro q t d o ht hw' hk hd ho hl;cases q with
   | zero=>simp at ht;subst ht;cases hw'
   | succ q =>
     obtain ⟨h1,h2⟩:=ih q t d o (by simpa using ht) hw' hk (by simpa using hd) (by simpa using ho) hl;refine ⟨h1,fun q' t' hlt ht' hk' hc=>?_⟩;cases q' with
     | zero=>simp at ht';subst ht';cases hk'
     | succ q'=>exact h2 q' t' (by omega) (by simpa using ht') hk' (by rw[show n+1+q'=n+(q'+1) by omega];exact hc)
 | @read n d0 dl o0 os env h hs hs' rs rs' trs fin v hw ha hs1 hr1 hr2 hold hnp hfr k ih =>
   intro q t d o ht hw' hk hd ho hl;cases q with
   | zero =>
     simp at ht hd ho;subst ht;subst hd;subst ho;exact ⟨hold hl,fun q' t' hlt=>by omega⟩
   | succ q =>
     obtain ⟨h1,h2⟩:=ih q t d o (by simpa using ht) hw' hk (by simpa using hd) (by simpa using ho) hl;refine ⟨fun x hx hc=>h1 x (hs1 x hx) hc,fun q' t' hlt ht' hk' hc=>?_⟩;cases q' with
     | zero=>simp at ht';subst ht';cases hk'
     | succ q'=>exact h2 q' t' (by omega) (by simpa using ht') hk' (by rw[show n+1+q'=n+(q'+1) by omega];exact hc)
 | @write n d0 dl o0 os env h h' hs hs' rs rs' trs fin v hw ha ha2 hp hal hl0 hs1 hs2 hr1 hchk k ih =>
   intro q t d o ht hw' hk hd ho hl;cases q with
   | zero=>simp at ht;subst ht;cases hk
   | succ q =>
     obtain ⟨h1,h2⟩:=ih q t d o (by simpa using ht) hw' hk (by simpa using hd) (by simpa using ho) hl;refine ⟨fun x hx hc=>h1 x (hs1 x hx) hc,fun q' t' hlt ht' hk' hc=>?_⟩;cases q' with
     | zero=>simp at ht';subst ht';exact h1 _ hs2 (by simpa using hc)
     | succ q'=>exact h2 q' t' (by omega) (by simpa using ht') hk' (by rw[show n+1+q'=n+(q'+1) by omega];exact hc)
 | pan =>
   intro q t d o ht hw' hk;cases q with
   | zero=>simp at ht;subst ht;cases hk
   | succ q=>simp at ht
theorem Run.panLast (r:Run P keep ops F n dl os env h hs rs trs fin):∀ v h',fin = .pan v h' -> ∃ q d f ags,trs.length=q+1/\dl[q]?=some d/\d.o.k = .call f ags:=by
 induction r with
 | nil=>intro v h' e;cases e
 | skip _ _ ih=>intro v h' e;obtain ⟨q,d,f,ags,e1,e2,e3⟩:=ih v h' e;exact ⟨q+1,d,f,ags,by simp [e1],by simpa using e2,e3⟩
 | read _ _ _ _ _ _ _ _ _ ih=>intro v h' e;obtain ⟨q,d,f,ags,e1,e2,e3⟩:=ih v h' e;exact ⟨q+1,d,f,ags,by simp [e1],by simpa using e2,e3⟩
 | write _ _ _ _ _ _ _ _ _ _ _ ih=>intro v h' e;obtain ⟨q,d,f,ags,e1,e2,e3⟩:=ih v h' e;exact ⟨q+1,d,f,ags,by simp [e1],by simpa using e2,e3⟩
 | pan _ _ _ hp=>intro v h' e;obtain ⟨f,ags,hk⟩:=hp;exact ⟨0,_,f,ags,rfl,rfl,hk⟩
end
end Go.Eng

namespace Go.Eng
section
variable {P:Program} {keep:Bool} {nm:List Nat} {N:Nat} {e l:PE} {h:AH} {K Kp:Value->AH->Prop}
theorem noWr_spec {o:Oper} (h:noWr o=true):(∀ keep g hh,awrite P keep g hh o=none)/\(∀ c fo,o.op = .call c->c.callee ≠ .value fo) /\ ∀ x,o.op ≠ .panic x:=by
 obtain ⟨dst,op,type,pos,after,guard⟩:=o;cases op
 case call c =>
  refine ⟨fun keep g hh=>?_,fun c' fo e1 e2=>?_,fun x e=>by cases e⟩
  ·unfold noWr at h
   unfold awrite;simp only at h ⊢
   split<;>simp_all
  ·cases e1
   simp only[noWr,e2] at h;cases h
 all_goals first
  | (cases h;done)
  | exact ⟨fun _ _ _=>rfl,(fun c fo e=>by cases e),(fun x e=>by cases e)⟩
theorem noRd_spec {o:Oper} (h:noRd o=true) (g:Operand->Option Value) (hh:AH) (m:Nat):aread P g hh m o=none:=by
 obtain ⟨dst,op,type,pos,after,guard⟩:=o;cases op
 case call c =>
  unfold noRd at h;simp only[aread,rcall] at h ⊢
  split<;>simp_all
 all_goals first
  | (cases h;done)
  | rfl
theorem uval_free {f:U} (hf:freeU f=true) (h h2:AH) (m m2:Nat) (v:Value):uval P h m f v=uval P h2 m2 f v:=by
 cases f<;>try (cases hf;done)
 all_goals
  cases v<;>first
   | rfl
   | (rename_i a;rcases a with _|⟨b,o,_|s⟩<;>rfl)
   | (rename_i fn _ _;cases fn<;>rfl)
   | (rename_i a _ _;rcases a with _|⟨b,o,_|s⟩<;>rfl)
theorem uval_some {f:U} (h1:∀ e,f ≠ .bx e) (h2:∀ e,f ≠ .s2b e) {m:Nat} {p v:Value} {B:Option Blk} (hu:uval P h m f p=some (v,B)):B=none:=by
 unfold uval at hu
 split at hu
 all_goals first
  | (cases hu;rfl;done)
  | (exact absurd rfl (h1 _))
  | (exact absurd rfl (h2 _))
  | (cases hu;done)
  | (obtain ⟨x,_,hh⟩:=Z0.1 hu;cases hh;rfl;done)
  | (obtain ⟨cs,_,hh⟩:=Z1.1 hu;split at hh<;>first|(cases hh;rfl;done)|(cases hh;done))
  | skip
 all_goals
  split at hu
  all_goals first
   | (cases hu;rfl;done)
   | (cases hu;done)
   | (obtain ⟨cs,_,hh⟩:=Z1.1 hu;split at hh<;>first|(cases hh;done)|(obtain ⟨x,_,h3⟩:=Z0.1 hh;cases h3;rfl;done))
   | (split at hu<;>first|(cases hu;rfl;done)|(cases hu;done))
theorem bval_some {f:B} {p q v:Value} {Bl:Option Blk} (hu:bval P h f p q=some (v,Bl)):Bl=none:=by
 cases f
 case lk kt z ok =>
  simp only[bval] at hu
  split at hu
  ·split at hu
   ·obtain ⟨x,_,hh⟩:=Z0.1 hu;cases hh;rfl
   ·cases hu;rfl
   ·cases hu
  ·cases hu
 case er neg t =>
  have hu':(refV t p q).map (fun r=>(Value.bool (r != neg),(none:Option Blk)))=some (v,Bl):=hu;obtain ⟨x,_,hh⟩:=Z0.1 hu';cases hh;rfl
 case ei neg t =>
  have hu':(eiV P t p q).map (fun r=>(Value.bool (r != neg),(none:Option Blk)))=some (v,Bl):=hu;obtain ⟨x,_,hh⟩:=Z0.1 hu';cases hh;rfl
 case es neg ks =>
  obtain ⟨xs,ys,rfl,rfl,hb⟩:=bval_es hu;obtain ⟨x,_,hh⟩:=Z0.1 hb;cases hh;rfl
 all_goals
  unfold bval at hu
  split at hu
  all_goals first
   | (cases hu;done)
   | (cases hu;rfl;done)
   | (obtain ⟨x,_,hh⟩:=Z0.1 hu;cases hh;rfl;done)
   | (split at hu<;>first|(cases hu;rfl;done)|(cases hu;done)|(obtain ⟨x,_,hh⟩:=Z0.1 hu;cases hh;rfl;done))
   | (rename_i hh;cases hh;done)
theorem bval_free {f:B} (hf:freeB f=true) (h h2:AH) (p q:Value):bval P h f p q=bval P h2 f p q:=by
 cases f<;>try (cases hf;done)
 all_goals
  cases p<;>first
   | rfl
   | (cases q<;>rfl)
   | (rename_i a;rcases a with _|⟨b,o,_|s⟩<;>first|rfl|(cases q<;>rfl))
   | (rename_i a _ _;rcases a with _|⟨b,o,_|s⟩<;>first|rfl|(cases q<;>rfl))
theorem nonpot_one {k:RK} (hp:potK k=false) (hb:badK k=false) (hw:wpk P keep nm e l h K Kp k):∃ v,K v h /\ ∀ K' Kp':Value->AH->Prop,K' v h->wpk P keep nm e l h K' Kp' k:=by
 have vk:∀ {x:Option Value} {v:Value} {K:Value->Prop},x=some v->K v->vK x K:=fun h k=>by subst h;exact k
 have vsk:∀ {x:Option (List Value)} {v:List Value} {K:List Value->Prop},x=some v->K v->vsK x K:=fun h k=>by subst h;exact k
 have rk:∀ {x:Option RRes} {v:Value} {K:Value->AH->Prop},x=some (v,none)->K v h->rK x h K:=fun h k=>by subst h;exact k
 cases k<;>try (cases hp;done)
 case u f x =>
  obtain ⟨p,h1,hw⟩:=vK_inv hw;obtain ⟨⟨v,B⟩,h2,h3⟩:=rK_inv hw;have hB:B=none:=uval_some (fun e he=>by subst he;cases hp) (fun e he=>by subst he;cases hp) h2;subst hB;exact ⟨v,h3,fun K' _ q=>vk h1 (rk h2 q)⟩
 case b f x y =>
  obtain ⟨p,h1,hw⟩:=vK_inv hw;obtain ⟨p2,h1',hw⟩:=vK_inv hw;obtain ⟨⟨v,B⟩,h2,h3⟩:=rK_inv hw;have hB:=bval_some h2;subst hB;exact ⟨v,h3,fun K' _ q=>vk h1 (vk h1' (rk h2 q))⟩
 case pk c a b =>
  obtain ⟨u,h1,hw⟩:=vK_inv hw;obtain ⟨t,rfl,hw⟩:=bK_inv hw
  rcases br_inv hw with ⟨rfl,hw⟩|⟨rfl,hw⟩
  ·obtain ⟨v,h2,hw⟩:=vK_inv hw
   exact ⟨v,hw,fun K' _ q=>by simp only[wpk,h1,vK,bK,br,h2];exact q⟩
  ·obtain ⟨v,h2,hw⟩:=vK_inv hw
   exact ⟨v,hw,fun K' _ q=>by simp only[wpk,h1,vK,bK,br,h2];exact q⟩
 case bld z ps =>
  obtain ⟨vs,cs,h1,h2,hw⟩:=pK_inv hw;exact ⟨_,hw,fun K' _ q=>by simp only[wpk,pK,h1,h2];exact q⟩
 case mkf fn first cap =>
  obtain ⟨fs,h1,hw⟩:=vsK_inv hw;obtain ⟨cs,h2,hw⟩:=vsK_inv hw;exact ⟨_,hw,fun K' _ q=>vsk h1 (vsk h2 q)⟩
 case sls x lo hi =>
  obtain ⟨p,h1,hw⟩:=vK_inv hw;obtain ⟨⟨v,B⟩,h2,h3⟩:=rK_inv hw;have hB:B=none:=by
   obtain ⟨a1,_,h4⟩:=Z1.1 h2;obtain ⟨a2,_,h5⟩:=Z1.1 h4;unfold slsv at h5
   split at h5
   ·obtain ⟨a3,_,h6⟩:=Z1.1 h5
    obtain ⟨a4,_,h7⟩:=Z0.1 h6;cases h7;rfl
   ·cases h5
  subst hB;exact ⟨v,h3,fun K' _ q=>vk h1 (rk h2 q)⟩
 case sll t sz x lo hi =>
  obtain ⟨p,h1,hw⟩:=vK_inv hw;obtain ⟨⟨v,B⟩,h2,h3⟩:=rK_inv hw;have hB:B=none:=by
   obtain ⟨a1,_,h4⟩:=Z1.1 h2;obtain ⟨a2,_,h5⟩:=Z1.1 h4;unfold sllv at h5
   split at h5
   ·split at h5
    ·obtain ⟨a3,_,h6⟩:=Z1.1 h5
     obtain ⟨a4,_,h7⟩:=Z0.1 h6;cases h7;rfl
    ·cases h5
   ·obtain ⟨a3,_,h6⟩:=Z1.1 h5
    obtain ⟨a4,_,h7⟩:=Z0.1 h6;cases h7;rfl
   ·cases h5
  subst hB;exact ⟨v,h3,fun K' _ q=>vk h1 (rk h2 q)⟩
theorem inv_kind {o:Oper} {k:RK} {c:Call} {x:Operand} {name:String} (hk:resK P nm o=some k) (h1:o.op = .call c) (h2:c.callee = .invoke x name):k = .raw o \/ ∃ f ags,k = .call f ags:=by
 obtain ⟨dst,op,type,pos,after,guard⟩:=o;simp only at h1;subst h1;obtain ⟨callee,args,tys⟩:=c;simp only at h2;subst h2;cases x<;>simp only[resK,resCall] at hk
 case tmp t =>
  obtain ⟨ags,_,h3⟩:=Z0.1 hk;exact .inr ⟨_,_,h3.symm⟩
 all_goals exact .inl (Zd.inj hk).symm
theorem inv_bad {o:Oper} {k:RK} {c:Call} {x:Operand} {name:String} (hk:resK P nm o=some k) (h1:o.op = .call c) (h2:c.callee = .invoke x name) (hb:badK k=false) (hr:wrK k=false):False:=by
 rcases inv_kind hk h1 h2 with rfl|⟨f,ags,rfl⟩
 ·cases hb
 ·cases hr
theorem nonpot_read {k:RK} {o:Oper} {g:Operand->Option Value} (hg:GG nm e l g) (hk:resK P nm o=some k) (ho:opOk P o k=true) (hp:potK k=false) (hw:wpk P keep nm e l h K Kp k) :
 ∃ v,K v h/\aread P g h h.length o=some (v,none) /\ ∀ K' Kp':Value->AH->Prop,K' v h->wpk P keep nm e l h K' Kp' k:=by
 unfold opOk at ho;simp only[Z6,Bool.or_eq_true,Zc] at ho;obtain ⟨⟨⟨⟨⟨hb,h1⟩,h2⟩,h3⟩,h4⟩,h5⟩:=ho;have hwr:wrK k=false:=by cases k<;>first|rfl|cases hp
 obtain ⟨k1,k2,k3⟩:=noWr_spec (P:=P) (by rcases h1 with h1|h1;rw[hwr] at h1;cases h1;exact h1);obtain ⟨v,q1,q2⟩:=nonpot_one hp hb hw;refine ⟨v,q1,?_,q2⟩;have hw':=q2 (fun v1 h1=>v1=v/\h1=h) (fun _ _=>False) ⟨rfl,rfl⟩;have hnr:k ≠ .raw o:=fun e=>by subst e;cases hb
 cases wpk_okg hg hk hnr hw' with
 | rd res e1 e2 =>
   obtain ⟨u,_|B⟩:=res
   ·obtain ⟨rfl,_⟩:=e2;exact e1
   ·obtain ⟨_,e3⟩:=e2
    have:=congrArg List.length e3;simp at this
 | wr v h' h0 e1 e2=>rw[k1] at e1;cases e1
 | call c fo f first cap args res h' h0 h9 e1 e2=>exact absurd e2 (k2 c fo e1)
 | inv c x name t v f args res h' h0 h9 e1 e2=>exact (inv_bad hk e1 e2 hb hwr).elim
 | pan x t v h0 h9 e1=>exact absurd e1 (k3 x)
theorem free_any {k:RK} (hf:freeK k=true) (hw:wpk P keep nm e l h K Kp k) (h2:AH) {K2:Value->AH->Prop} (hK:∀ v,K v h->K2 v h2):wpk P keep nm e l h2 K2 Kp k:=by
 have vk:∀ {x:Option Value} {v:Value} {K:Value->Prop},x=some v->K v->vK x K:=fun h k=>by subst h;exact k
 have hp:potK k=false:=by
  cases k<;>first|rfl|(cases hf;done)|skip
  case u f x=>cases f<;>first|rfl|cases hf
 have hb:badK k=false:=by cases k<;>first|rfl|cases hf
 have hdone:=nonpot_one hp hb hw;cases k<;>try (cases hf;done)
 case u f x =>
  obtain ⟨p,e1,hw⟩:=vK_inv hw;obtain ⟨⟨v,B⟩,e2,e3⟩:=rK_inv hw;have hB:B=none:=uval_some (fun e he=>by subst he;cases hf) (fun e he=>by subst he;cases hf) e2;subst hB;have hfree:freeU f=true:=hf;refine vk e1 ?_;rw[uval_free hfree h2 h h2.length h.length,e2];exact hK v e3
 case b f x y =>
  obtain ⟨p,e1,hw⟩:=vK_inv hw;obtain ⟨p2,e1',hw⟩:=vK_inv hw;obtain ⟨⟨v,B⟩,e2,e3⟩:=rK_inv hw;have hB:=bval_some e2;subst hB;refine vk e1 (vk e1' ?_);rw[bval_free hf h2 h,e2];exact hK v e3
 case pk c a b =>
  obtain ⟨u,e1,hw⟩:=vK_inv hw;obtain ⟨t,rfl,hw⟩:=bK_inv hw
  rcases br_inv hw with ⟨rfl,hw⟩|⟨rfl,hw⟩
  ·obtain ⟨v,e2,hw⟩:=vK_inv hw
   simp only[wpk,e1,vK,bK,br,e2];exact hK v hw
  ·obtain ⟨v,e2,hw⟩:=vK_inv hw
   simp only[wpk,e1,vK,bK,br,e2];exact hK v hw
 case bld z ps =>
  obtain ⟨vs,cs,e1,e2,hw⟩:=pK_inv hw;simp only[wpk,pK,e1,e2];exact hK _ hw
 case mkf fn first cap =>
  obtain ⟨fs,e1,hw⟩:=vsK_inv hw;obtain ⟨cs,e2,hw⟩:=vsK_inv hw;simp only[wpk,vsK,e1,e2];exact hK _ hw
theorem ld_same {o:Oper} {f:U} {y:RX} {env:List Value} (hg:GG nm e l (ev env)) (hk:resK P nm o=some (.u f y)) (ho:opOk P o (.u f y)=true) (hf:isLd f=true) {p v:Value} (hp:rx e l y=some p):Same1 P env o f p v:=by
 unfold opOk at ho;simp only[Z6] at ho;have h4:=ho.1.2;obtain ⟨dst,op,type,pos,after,guard⟩:=o;cases f<;>try (cases hf;done)
 case ld =>
  cases op<;>try (cases h4;done)
  rename_i t x
  simp only[ldOk,beq_iff_eq] at h4;simp only[resK,h4] at hk;obtain ⟨y',h1,h2⟩:=res1_inv hk;cases h2;intro h2 m m' hu;simp only[aread,hg h1 hp,Z5];exact rload_ld h4 hu
 case ldn n =>
  cases op<;>try (cases h4;done)
  rename_i t x
  simp only[ldOk,Z6,beq_iff_eq] at h4;simp only[resK,h4.1,h4.2,Z5] at hk;obtain ⟨y',h1,h2⟩:=res1_inv hk;cases h2;intro h2 m m' hu;simp only[aread,hg h1 hp,Z5];exact rload_ldn h4.1 h4.2 hu
 case b2s =>
  cases op<;>try (cases h4;done)
  rename_i src dst' x
  simp only[resK] at hk
  split at hk
  case h_1 k1 k2 hs hd=>obtain ⟨y',h1,h2⟩:=res1_inv hk;cases h2
  case h_2 hs hd=>cases hk
  case h_3 e' hs hd =>
   split at hk
   case h_2=>cases hk
   case h_1 he =>
    obtain ⟨y',h1,h2⟩:=res1_inv hk;cases h2;have hv:=hg h1 hp;intro h2 m m' hu;simp only[aread,hv,Z5];cases p<;>try cases hu
    rename_i ad n c
    cases ad with
    | none =>
      cases n<;>cases c<;>try cases hu
      have:rconvert P h2 m' src dst' (.slice none 0 0)=none:=rfl;simp only[this,orElse];exact rscal_of rfl (fun q hq=>by simp [Op.operands] at hq;subst hq;simp [okScal,hv,scal]) (s:=convert src dst' (.slice none 0 0)) (by simp [execOp,hv,nv])
       (by simp only[convert,pureRun_bind,pureRun_underlying hs,pureRun_underlying hd,pureRun_underlying he,Z5];rfl) rfl
    | some ad =>
      obtain ⟨b,o,sp⟩:=ad;cases sp with
      | some sp=>cases hu
      | none =>
        simp only[uval] at hu;simp only[rconvert,hs,hd,he]
        by_cases h0:n=0
        ·simp only[h0,if_true] at hu ⊢;cases hu;rfl
        ·simp only[h0,if_false] at hu ⊢
         obtain ⟨cs,h1,h2⟩:=Z1.1 hu;simp only[h1]
         split at h2
         ·rename_i hc;simp only[hc,if_true];rw[h2];rfl
         ·cases h2
  all_goals
   first
   | (split at hk<;>first|(obtain ⟨y',h1,h2⟩:=res1_inv hk;cases h2)|(split at hk<;>first|(obtain ⟨y',h1,h2⟩:=res1_inv hk;cases h2)|cases hk)|cases hk)
   | cases hk
theorem al_grow {k:RK} (hp:potK k=true) (hwr:wrK k=false) (hb:badK k=false) (hw:wpk P keep nm e l h K Kp k):wpk P keep nm e l h (fun v h'=>K v h'/\h.length<h'.length) Kp k:=by
 cases k<;>try (cases hp;done)
 all_goals try (cases hwr;done)
 all_goals try (cases hb;done)
 case u f x =>
  obtain ⟨p,h1,hw⟩:=vK_inv hw;obtain ⟨⟨v,B⟩,h2,h3⟩:=rK_inv hw;simp only[wpk,vK,h1,rK,h2];cases f<;>try (cases hp;done)
  case bx t=>cases h2;exact ⟨h3,by simp⟩
  case s2b t=>cases p<;>cases h2;exact ⟨h3,by simp⟩
 case bsl t n z ps =>
  obtain ⟨vs,cs,h1,h2,hw⟩:=pK_inv hw;simp only[wpk,pK,h1,h2];exact ⟨hw,by simp⟩
 case al t z=>exact ⟨hw,by simp⟩
 case mm=>exact ⟨hw,by simp⟩
 case msl t z bytes x y =>
  obtain ⟨u,h1,hw⟩:=vK_inv hw;obtain ⟨v,h1',hw⟩:=vK_inv hw;obtain ⟨⟨v2,B⟩,h2,h3⟩:=rK_inv hw;simp only[wpk,vK,h1,h1',rK,h2];cases u<;>cases v<;>try (cases h2;done)
  simp only[mslv] at h2
  split at h2
  ·cases h2;exact ⟨h3,by simp⟩
  ·cases h2
theorem pan_call {k:RK} (hb:badK k=false) (hw:wpk P keep nm e l h (fun _ _=>False) Kp k):∃ f ags,k = .call f ags:=by
 have rk:∀ {x:Option RRes},rK x h (fun _ _=>False)->False:=fun hh=>by
  obtain ⟨⟨v,_|B⟩,_,h3⟩:=rK_inv hh<;>exact h3
 cases k<;>try (cases hb;done)
 case call f ags=>exact ⟨f,ags,rfl⟩
 all_goals exfalso
 case u f x=>obtain ⟨p,_,hw⟩:=vK_inv hw;exact rk hw
 case b f x y=>obtain ⟨p,_,hw⟩:=vK_inv hw;obtain ⟨p,_,hw⟩:=vK_inv hw;exact rk hw
 case pk c a b =>
  obtain ⟨u,_,hw⟩:=vK_inv hw;obtain ⟨t,rfl,hw⟩:=bK_inv hw
  rcases br_inv hw with ⟨_,hw⟩|⟨_,hw⟩<;>(obtain ⟨v,_,hw⟩:=vK_inv hw;exact hw)
 case bld z ps=>obtain ⟨vs,cs,_,_,hw⟩:=pK_inv hw;exact hw
 case bsl t n z ps=>obtain ⟨vs,cs,_,_,hw⟩:=pK_inv hw;exact hw
 case mkf fn a b=>obtain ⟨p,_,hw⟩:=vsK_inv hw;obtain ⟨p,_,hw⟩:=vsK_inv hw;exact hw
 case al=>exact hw
 case mm=>exact hw
 case msl t z bytes x y=>obtain ⟨p,_,hw⟩:=vK_inv hw;obtain ⟨p,_,hw⟩:=vK_inv hw;exact rk hw
 case sls x lo hi=>obtain ⟨p,_,hw⟩:=vK_inv hw;exact rk hw
 case sll t sz x lo hi=>obtain ⟨p,_,hw⟩:=vK_inv hw;exact rk hw
 case st n a x=>obtain ⟨p,_,hw⟩:=vK_inv hw;obtain ⟨p,_,hw⟩:=vK_inv hw;obtain ⟨p,_,hw⟩:=hK_inv hw;exact hw
 case app=>obtain ⟨p,_,hw⟩:=vK_inv hw;obtain ⟨p,_,hw⟩:=vK_inv hw;obtain ⟨p,_,_,hw⟩:=wK_inv hw;exact hw
 case clr=>obtain ⟨p,_,hw⟩:=vK_inv hw;obtain ⟨p,_,_,hw⟩:=wK_inv hw;exact hw
 case cpy=>obtain ⟨p,_,hw⟩:=vK_inv hw;obtain ⟨p,_,hw⟩:=vK_inv hw;obtain ⟨p,_,_,hw⟩:=wK_inv hw;exact hw
 case ust=>obtain ⟨p,_,hw⟩:=vK_inv hw;obtain ⟨p,_,hw⟩:=vK_inv hw;obtain ⟨p,_,_,hw⟩:=wK_inv hw;exact hw
 case mup=>obtain ⟨p,_,hw⟩:=vK_inv hw;obtain ⟨p,_,hw⟩:=vK_inv hw;obtain ⟨p,_,hw⟩:=vK_inv hw;obtain ⟨p,_,hw⟩:=hK_inv hw;exact hw
def Called (o:Oper) (f:FuncId):Prop:=callOf o=true
theorem called_inv {o:Oper} {c:Call} {x:Operand} {name:String} {f:FuncId} (h1:o.op = .call c) (h2:c.callee = .invoke x name):Called o f:=by
 unfold Called callOf;rw[h1];simp only[h2]
theorem called_of {env:List Value} {o:Oper} {c:Call} {fo:Operand} {f:FuncId} {first cap:Array Value} (h1:o.op = .call c) (h2:c.callee = .value fo) (h3:ev env fo=some (.func (.func f) first cap)):Called o f:=by
 unfold Called callOf;rw[h1];simp only;rw[h2]
theorem pot_write {k:RK} {o:Oper} {env:List Value} (hg:GG nm e l (ev env)) (hk:resK P nm o=some k) (ho:opOk P o k=true) (hp:potK k=true) (hw:wpk P keep nm e l h K Kp k) :
 (∀ u,aread P (ev env) h h.length o≠some (u,none)) /\
 ((∃ v h',K v h'/\h.length<=h'.length/\(alK k=true->allocOp o=true /\ ∃ u B,aread P (ev env) h h.length o=some (u,some B)) /\
   ((∀ F,aopv P F keep env h o=some (.ret v,h')) \/ ∃ f args,Called o f/\Holds P f args h (.ret v) h' /\ ∀ F:FT,F f args h o.dst=some (.ret v,h')->aopv P F keep env h o=some (.ret v,h'))) \/
 (∃ v h',Kp v h'/\h.length<=h'.length/\(∃ f ags,k = .call f ags) /\ ∃ f args,Called o f/\Holds P f args h (.pan v) h' /\ ∀ F:FT,F f args h o.dst=some (.pan v,h')->aopv P F keep env h o=some (.pan v,h'))):=by
 have ho':=ho;unfold opOk at ho;simp only[Z6,Bool.or_eq_true,Zc] at ho;obtain ⟨⟨⟨⟨⟨hb,h1⟩,h2⟩,h3⟩,h4⟩,h5⟩:=ho;have hnr:k ≠ .raw o:=fun e=>by subst e;cases hb
 have hnopan:∀ x,o.op ≠ .panic x:=by
  intro x hx
  rcases h1 with h1|h1
  ·rcases h2 with h2|h2
   ·rw[h1] at h2;cases h2
   ·unfold noRd at h2;rw[hx] at h2;cases h2
  ·exact (noWr_spec (P:=P) h1).2.2 x hx
 have hnotread:∀ u,aread P (ev env) h h.length o≠some (u,none):=by
  intro u hu;cases hwr:wrK k with
  | true =>
    rcases h2 with h2|h2
    ·rw[hwr] at h2;cases h2
    ·rw[noRd_spec h2] at hu;cases hu
  | false =>
    have hgrow:=al_grow hp hwr hb hw;cases wpk_okg hg hk hnr hgrow with
    | rd res e1 e2 =>
      rw[hu] at e1;cases e1;have:=e2.2;omega
    | wr v h' h0=>rw[hu] at h0;cases h0
    | call c fo f first cap args res h' h0=>rw[hu] at h0;cases h0
    | inv c x name t v f args res h' h0=>rw[hu] at h0;cases h0
    | pan x t v h0=>rw[hu] at h0;cases h0
 refine ⟨hnotread,?_⟩;have hal:alK k=true->allocOp o=true:=fun ha=>by rw[<- beq_iff_eq.1 h3];exact ha
 rcases wpk_one k hw with ⟨v,h',k1,k2,k3⟩|⟨v,h',k1,k2,k3⟩
 ·refine .inl ⟨v,h',k1,k2,?_⟩
  cases wpk_okg hg hk hnr (k3 (fun v1 h1=>v1=v/\h1=h') (fun _ _=>False) ⟨rfl,rfl⟩) with
  | rd res e1 e2 =>
    obtain ⟨u,_|B⟩:=res
    ·exact absurd e1 (hnotread u)
    ·obtain ⟨rfl,rfl⟩:=e2
     exact ⟨fun ha=>⟨hal ha,u,B,e1⟩,.inl fun F=>by simp only[aopv,e1]⟩
  | wr v1 h1' h0 e1 e2 =>
    obtain ⟨rfl,rfl⟩:=e2;refine ⟨fun ha=>?_,.inl fun F=>by simp only[aopv,h0,e1]⟩
    exfalso
    have hwr:wrK k=false:=by cases k<;>first|rfl|cases ha
    rcases h1 with h1|h1
    ·rw[hwr] at h1;cases h1
    ·rw[(noWr_spec (P:=P) h1).1] at e1;cases e1
  | call c fo f first cap args res h1' h0 h9 e1 e2 e3 e4 e5 e6 e7 =>
    cases e7 with
    | pan q=>exact q.elim
    | ret q =>
      obtain ⟨rfl,rfl⟩:=q;refine ⟨fun ha=>?_,.inr ⟨f,_,called_of e1 e2 e3,e5,fun F hF=>?_⟩⟩
      ·exfalso
       have:=hal ha;unfold allocOp at this;rw[e1] at this;cases this
      ·simp only[aopv,h0,h9,e1,acall1,e2,e3,e4]
       exact hF
  | inv c x name t v1 f args res h1' h0 h9 e1 e2 e3 hm e4 e5 e6 e7 =>
    cases e7 with
    | pan q=>exact q.elim
    | ret q =>
      obtain ⟨rfl,rfl⟩:=q;refine ⟨fun ha=>?_,.inr ⟨f,_,called_inv e1 e2,e5,fun F hF=>?_⟩⟩
      ·exfalso
       have:=hal ha;unfold allocOp at this;rw[e1] at this;cases this
      ·simp only[aopv,h0,h9,e1,acall1,e2,e3,hm,e4]
       exact hF
  | pan x t v1 h0 h9 e1=>exact absurd e1 (hnopan x)
 ·refine .inr ⟨v,h',k1,k2,pan_call hb (k3 (fun _ _=>False) (fun v1 h1=>v1=v/\h1=h') ⟨rfl,rfl⟩),?_⟩
  cases wpk_okg hg hk hnr (k3 (fun _ _=>False) (fun v1 h1=>v1=v/\h1=h') ⟨rfl,rfl⟩) with
  | rd res e1 e2=>obtain ⟨u,_|B⟩:=res<;>exact e2.elim
  | wr v1 h1' h0 e1 e2=>exact e2.elim
  | call c fo f first cap args res h1' h0 h9 e1 e2 e3 e4 e5 e6 e7 =>
    cases e7 with
    | ret q=>exact q.elim
    | pan q =>
      obtain ⟨rfl,rfl⟩:=q;refine ⟨f,_,called_of e1 e2 e3,e5,fun F hF=>?_⟩;simp only[aopv,h0,h9,e1,acall1,e2,e3,e4];exact hF
  | inv c x name t v1 f args res h1' h0 h9 e1 e2 e3 hm e4 e5 e6 e7 =>
    cases e7 with
    | ret q=>exact q.elim
    | pan q =>
      obtain ⟨rfl,rfl⟩:=q;refine ⟨f,_,called_inv e1 e2,e5,fun F hF=>?_⟩;simp only[aopv,h0,h9,e1,acall1,e2,e3,hm,e4];exact hF
  | pan x t v1 h0 h9 e1=>exact absurd e1 (hnopan x)
end
end Go.Eng

namespace Go.Eng
section
variable {P:Program} {keep:Bool} {nm:List Nat} {N:Nat}
structure EM (nm:List Nat) (N:Nat) (e l:PE) (env:List Value):Prop where
 ee:∀ t v,look e t=some v->env[t]?=some v
 ll:∀ t v,look l t=some v->env[t]?=some v
 en:∀ t v,look e t=some v->nm.contains t=true
 ln:∀ t v,look l t=some v->nm.contains t=false
 len:N<=env.length
theorem EM.gg {e l:PE} {env:List Value} (h:EM nm N e l env):GG nm e l (ev env):=by
 intro x y v hx hy;cases x with
 | tmp t =>
   simp only[resX] at hx
   split at hx
   ·cases hx;exact h.ee t v hy
   ·cases hx;exact h.ll t v hy
 | const u =>
   simp only[resX] at hx
   split at hx
   ·rename_i hs;cases hx;cases hy;simp only[ev,hs,if_true]
   ·cases hx
 | global g=>cases hx;cases hy;rfl
 | func f=>cases hx;cases hy;rfl
theorem putv_get (env:List Value) (d t:Nat) (v:Value) (hd:d<env.length):(putv env (some d) v)[t]?=if d=t then some v else env[t]?:=by
 simp only[putv];rw[List.getElem?_set]
 by_cases h:d=t
 ·subst h;simp [hd]
 ·simp [h]
theorem EM.put {e l:PE} {env:List Value} (hm:EM nm N e l env) {dst:Option Tmp} {d:D} (hd:resDst nm N dst=some d) (v:Value):EM nm N (pe d e v) (pl d l v) (putv env dst v):=by
 cases dst with
 | none=>cases hd;exact hm
 | some i =>
   simp only[resDst] at hd
   split at hd
   case isFalse=>cases hd
   case isTrue hi =>
    have hsz:i<env.length:=Nat.lt_of_lt_of_le hi hm.len;have hlen:N<=(putv env (some i) v).length:=by rw[putv_length];exact hm.len
    by_cases hn:nm.contains i=true
    ·rw[if_pos hn] at hd;cases hd
     refine ⟨fun t u h=>?_,fun t u h=>?_,fun t u h=>?_,hm.ln,hlen⟩
     ·simp only[pe,look_upd] at h
      rw[putv_get _ _ _ _ hsz]
      split at h
      ·rename_i e;rw[if_pos e];exact h
      ·rename_i e;rw[if_neg e];exact hm.ee t u h
     ·rw[putv_get _ _ _ _ hsz]
      by_cases e:i=t
      ·subst e;have:=hm.ln i u h;rw[hn] at this;cases this
      ·rw[if_neg e];exact hm.ll t u h
     ·simp only[pe,look_upd] at h
      split at h
      ·rename_i e;subst e;exact hn
      ·exact hm.en t u h
    ·rw[if_neg hn] at hd;cases hd
     have hn':nm.contains i=false:=by cases h:nm.contains i<;>simp_all
     refine ⟨fun t u h=>?_,fun t u h=>?_,hm.en,fun t u h=>?_,hlen⟩
     ·rw[putv_get _ _ _ _ hsz]
      by_cases e:i=t
      ·subst e;have:=hm.en i u h;rw[hn'] at this;cases this
      ·rw[if_neg e];exact hm.ee t u h
     ·simp only[pl,look] at h
      rw[putv_get _ _ _ _ hsz]
      split at h
      ·rename_i e;rw[if_pos e];exact h
      ·rename_i e;rw[if_neg e];exact hm.ll t u h
     ·simp only[pl,look] at h
      split at h
      ·rename_i e;subst e;exact hn'
      ·exact hm.ln t u h
theorem EM.want {e l:PE} {env:List Value} (hm:EM nm N e l env) {ops:Array Oper} {o:Oper} {g:Option (RX × Bool)} (hg:resG nm ops o.guard=some g) {A B:Prop} (h:gK g e l A B) :
 (wantA ops env o=some true/\A)\/(wantA ops env o=some false/\B):=by
 unfold resG at hg;unfold wantA
 split at hg
 ·rename_i hgd
  cases hg;rw[hgd];exact .inl ⟨rfl,h⟩
 ·rename_i j want hgd
  rw[hgd]
  dsimp only
  split at hg
  case h_2=>cases hg
  case h_1 d hd =>
   cases hg;rw[hd];obtain ⟨v,hv,h⟩:=vK_inv h
   rcases gB_inv h with ⟨b,rfl,h⟩|⟨⟨c,rfl⟩,h⟩
   case inr =>
    have hval:env[d]?=some (.tuple c):=by
     by_cases hn:nm.contains d=true
     ·rw[if_pos hn] at hv;exact hm.ee d _ hv
     ·rw[if_neg hn] at hv;exact hm.ll d _ hv
    exact .inr ⟨by simp only[hval],h⟩
   have hval:env[d]?=some (.bool b):=by
    by_cases hn:nm.contains d=true
    ·rw[if_pos hn] at hv;exact hm.ee d _ hv
    ·rw[if_neg hn] at hv;exact hm.ll d _ hv
   rcases br_inv h with ⟨h1,h2⟩|⟨h1,h2⟩
   ·exact .inl ⟨by simp only[hval,h1],h2⟩
   ·exact .inr ⟨by simp only[hval,h1],h2⟩
abbrev Ent:=Option Tmp->Option (FuncId × List Value × AH × Res × AH)
def Ent.Ok (P:Program) (G:Ent):Prop:=∀ t x,G t=some x->Holds P x.1 x.2.1 x.2.2.1 x.2.2.2.1 x.2.2.2.2
def Ent.Of (G:Ent) (os:List Oper):Prop:=∀ t x,G t=some x -> ∃ o∈os,Called o x.1/\o.dst=t
def Ext (F:FT) (G:Ent):Prop:=∀ t x,G t=some x->F x.1 x.2.1 x.2.2.1 t=some (x.2.2.2.1,x.2.2.2.2)
open Classical in
noncomputable def Ent.ft (G:Ent):FT:=fun f args h tg=>match G tg with
 | some x=>if x.1=f/\x.2.1=args/\x.2.2.1=h then some (x.2.2.2.1,x.2.2.2.2) else none
 | none=>none
theorem Ent.ft_ok {G:Ent} (h:G.Ok P):FOk P G.ft:=by
 intro f args hh tg res h' he;unfold Ent.ft at he
 split at he
 ·rename_i x hx
  split at he
  ·rename_i hc
   cases he;obtain ⟨rfl,rfl,rfl⟩:=hc;exact h tg x hx
  ·cases he
 ·cases he
theorem Ent.ft_ext (G:Ent):Ext G.ft G:=fun t x hx=>by simp [Ent.ft,hx]
theorem called_fresh {o:Oper} {os:List Oper} (hc:callsOk (o::os)=true) {f g:FuncId} (hf:Called o f):∀ o'∈os,Called o' g->o'.dst≠o.dst:=by
 intro o' ho' hf';simp only[callsOk,Z6] at hc;have h1:=hc.1;rw[show callOf o=true from hf] at h1;have:=List.all_eq_true.1 (by simpa only [Bool.not_true,Bool.false_or] using h1) o' ho';rw[show callOf o'=true from hf'] at this
 simpa using this
theorem chkK_inv {h:AH} {is:List Nat}:∀ {rs:List Rd} {K:Prop},chkK P h rs is K->(∀ x∈rs,is.contains x.1=true->uval P h h.length x.2.1 x.2.2.1=some (x.2.2.2,none))/\K:=by
 intro rs
 induction rs with
 | nil=>intro K hk;exact ⟨fun x hx=>(by cases hx),hk⟩
 | cons r rs ih =>
   intro K hk;obtain ⟨i,f,p,v⟩:=r;simp only[chkK] at hk
   split at hk
   ·rename_i hc
    obtain ⟨k1,k2⟩:=ih hk.2;refine ⟨fun x hx hcx=>?_,k2⟩
    rcases Za.1 hx with rfl|hx
    ·exact hk.1
    ·exact k1 x hx hcx
   ·rename_i hc
    obtain ⟨k1,k2⟩:=ih hk;refine ⟨fun x hx hcx=>?_,k2⟩
    rcases Za.1 hx with rfl|hx
    ·exact absurd hcx hc
    ·exact k1 x hx hcx
theorem oldK_inv {js:List Nat} {r:List Rd}:∀ {hs:List (Nat × AH)} {K:Prop},oldK P hs js r K->(∀ x∈hs,js.contains x.1=true -> ∀ y∈r,uval P x.2 x.2.length y.2.1 y.2.2.1=some (y.2.2.2,none))/\K:=by
 intro hs
 induction hs with
 | nil=>intro K hk;exact ⟨fun x hx=>(by cases hx),hk⟩
 | cons p hs ih =>
   intro K hk;obtain ⟨j,h⟩:=p;simp only[oldK] at hk
   split at hk
   ·rename_i hc
    obtain ⟨k1,k2⟩:=chkK_inv hk;obtain ⟨q1,q2⟩:=ih k2;refine ⟨fun x hx hcx y hy=>?_,q2⟩
    rcases Za.1 hx with rfl|hx
    ·exact k1 y hy (by simp only[List.contains_iff_mem];exact List.mem_map.2 ⟨y,hy,rfl⟩)
    ·exact q1 x hx hcx y hy
   ·rename_i hc
    obtain ⟨q1,q2⟩:=ih hk;refine ⟨fun x hx hcx y hy=>?_,q2⟩
    rcases Za.1 hx with rfl|hx
    ·exact absurd hcx hc
    ·exact q1 x hx hcx y hy
def KS (e l:PE) (os:List Oper) (e' l':PE):Prop:=∀ t v,(look e' t=some v\/look l' t=some v)->(∃ u,look e t=some u)\/(∃ u,look l t=some u) \/ ∃ o∈os,o.dst=some t
theorem KS.cons {e l:PE} {o:Oper} {os:List Oper} {d:D} (hd:resDst nm N o.dst=some d) {v:Value} {e' l':PE} (h:KS (pe d e v) (pl d l v) os e' l'):KS e l (o::os) e' l':=by
 intro t u hu;have back:((∃ u,look (pe d e v) t=some u) \/ ∃ u,look (pl d l v) t=some u)->(∃ u,look e t=some u)\/(∃ u,look l t=some u)\/o.dst=some t:=by
  intro hb;cases ho:o.dst with
  | none =>
    rw[ho] at hd;cases hd
    rcases hb with hb|hb
    ·exact .inl hb
    ·exact .inr (.inl hb)
  | some i =>
    rw[ho] at hd;simp only[resDst] at hd
    split at hd
    ·split at hd
     ·cases hd
      rcases hb with ⟨u,hb⟩|hb
      ·simp only[pe,look_upd] at hb
       split at hb
       ·rename_i e;subst e;exact .inr (.inr rfl)
       ·exact .inl ⟨u,hb⟩
      ·exact .inr (.inl hb)
     ·cases hd
      rcases hb with hb|⟨u,hb⟩
      ·exact .inl hb
      ·simp only[pl,look] at hb
       split at hb
       ·rename_i e;subst e;exact .inr (.inr rfl)
       ·exact .inr (.inl ⟨u,hb⟩)
    ·cases hd
 rcases h t u hu with h1|h1|⟨o',h1,h2⟩
 ·rcases back (.inl h1) with h|h|h
  ·exact .inl h
  ·exact .inr (.inl h)
  ·exact .inr (.inr ⟨o,Z3,h⟩)
 ·rcases back (.inr h1) with h|h|h
  ·exact .inl h
  ·exact .inr (.inl h)
  ·exact .inr (.inr ⟨o,Z3,h⟩)
 ·exact .inr (.inr ⟨o',Z4 _ h1,h2⟩)
theorem wpd_run {ops:Array Oper} {Φ:Out->PS->Prop} {ds:List Dfr}:∀ (os:List Oper) (dl:List DO) (n:Nat),resOps P nm N ops os=some (dl.map (·.o))->(∀ (q:Nat) (d:DO),dl[q]?=some d->d.i=n+q/\d.w=potK d.o.k) ->
 (∀ (q:Nat) (d:DO) (o:Oper),dl[q]?=some d->os[q]?=some o->opOk P o d.o.k=true)->callsOk os=true ->
 ∀ (env:List Value) (e l:PE) (h:AH) (hs:List (Nat × AH)) (rs:List Rd),EM nm N e l env->wpd P keep nm Φ dl hs rs e l h ds ->
 ∃ G:Ent,G.Ok P/\G.Of os /\ ∀ F:FT,Ext F G -> ∃ trs fin,Run P keep ops F n dl os env h hs rs trs fin/\match fin with
   | .norm env' h'=>∃ e' l',EM nm N e' l' env'/\KS e l os e' l'/\Φ .norm ⟨e',l'.take 1,h',ds⟩
   | .pan v h'=>Φ (.pan v) ⟨[],[],h',ds⟩:=by
 intro os
 induction os with
 | nil =>
   intro dl n hr _ _ _ env e l h hs rs hm hw;cases dl with
   | cons d dl=>cases hr
   | nil=>exact ⟨fun _=>none,(fun f x hx=>by cases hx),(fun f x hx=>by cases hx),fun F _=>⟨[],.norm env h,.nil n env h hs rs,e,l,hm,(fun t v h=>h.elim (fun h=>.inl ⟨v,h⟩) (fun h=>.inr (.inl ⟨v,h⟩))),hw⟩⟩
 | cons o os ih =>
   intro dl n hr hdl hop hc env e l h hs rs hm hw;cases dl with
   | nil=>simp only[resOps] at hr;split at hr<;>cases hr
   | cons d dl =>
     simp only[resOps,List.map_cons] at hr
     split at hr
     case h_2=>cases hr
     case h_1 x xs hx hxs =>
      have e1:x=d.o:=by have:=Zd.inj hr;exact (List.cons.inj this).1
      have e2:xs=dl.map (·.o):=by have:=Zd.inj hr;exact (List.cons.inj this).2
      subst e1;subst e2;have hdl':∀ (q:Nat) (d:DO),dl[q]?=some d->d.i=n+1+q/\d.w=potK d.o.k:=fun q d' hq=>by
       have:=hdl (q+1) d' (by simpa using hq);exact ⟨by rw[this.1];omega,this.2⟩
      have hop':∀ (q:Nat) (d:DO) (o:Oper),dl[q]?=some d->os[q]?=some o->opOk P o d.o.k=true:=fun q d' o' h1 h2=>hop (q+1) d' o' (by simpa using h1) (by simpa using h2)
      have hc':callsOk os=true:=by simp only[callsOk,Z6] at hc;exact hc.2
      obtain ⟨hi,hwf⟩:=hdl 0 d rfl;have ho:=hop 0 d o rfl rfl;obtain ⟨⟨dd,gg,k1⟩,di,dw,dchk,dold⟩:=d;simp only at hi hwf ho hx;have hi:di=n:=by simpa using hi
      subst hi;unfold resOp at hx
      split at hx
      case h_2=>cases hx
      case h_1 d1 g1 k1' hd hg hk =>
       cases hx;simp only[wpd] at hw;have mem':∀ {G:Ent},G.Of os->G.Of (o::os):=fun hG f x hx=>let ⟨o',m1,m2⟩:=hG f x hx;⟨o',Z4 _ m1,m2⟩
       have ksf:∀ {e1 l1:PE} {fin:Fin'},(∀ e' l',KS e1 l1 os e' l'->KS e l (o::os) e' l')->(match fin with
        | .norm env' h'=>∃ e' l',EM nm N e' l' env'/\KS e1 l1 os e' l'/\Φ .norm ⟨e',l'.take 1,h',ds⟩
        | .pan v h'=>Φ (.pan v) ⟨[],[],h',ds⟩)->(match fin with
        | .norm env' h'=>∃ e' l',EM nm N e' l' env'/\KS e l (o::os) e' l'/\Φ .norm ⟨e',l'.take 1,h',ds⟩
        | .pan v h'=>Φ (.pan v) ⟨[],[],h',ds⟩):=by
        intro e1 l1 fin hk hf;cases fin with
        | norm env' h'=>obtain ⟨e',l',f1,f2,f3⟩:=hf;exact ⟨e',l',f1,hk _ _ f2,f3⟩
        | pan v h'=>exact hf
       rcases hm.want hg hw with ⟨hw1,hw2⟩|⟨hw1,hw2⟩
       ·cases hp:potK k1 with
        | false =>
          obtain ⟨v,q1,q2,q3⟩:=nonpot_read hm.gg hk ho hp hw2;obtain ⟨c1,c2⟩:=chkK_inv q1;obtain ⟨d2,d3⟩:=oldK_inv c2;obtain ⟨G,g1',g2,g3⟩:=ih dl (di+1) hxs hdl' hop' hc' _ _ _ _ _ _ (hm.put hd v) d3;refine ⟨G,g1',mem' g2,fun F hF=>?_⟩;obtain ⟨trs,fin,r1,r2⟩:=g3 F hF;have hld:ldK k1=true -> ∃ f y p,k1 = .u f y/\isLd f=true/\rx e l y=some p/\rdOf e l di k1 v rs=(di,f,p,v)::rs/\rdOf e l di k1 v []=[(di,f,p,v)]:=by
           intro hl;cases k1<;>try (cases hl;done)
           rename_i f y
           obtain ⟨p,hp2,_⟩:=vK_inv hw2;refine ⟨f,y,p,rfl,hl,hp2,?_,?_⟩
           ·simp only[rdOf,show isLd f=true from hl,if_true,hp2]
           ·simp only[rdOf,show isLd f=true from hl,if_true,hp2]
          refine ⟨_,fin,.read hw1 q2 (fun x hx=>?_) (fun x hx=>?_) (fun hl=>?_) (fun hl=>?_) hp (fun hf h2=>?_) r1,ksf (fun _ _=>KS.cons hd) r2⟩
          ·split
           ·exact Z4 _ hx
           ·exact hx
          ·unfold rdOf
           split
           ·split
            ·split
             ·exact Z4 _ hx
             ·exact hx
            ·exact hx
           ·exact hx
          ·obtain ⟨f,y,p,rfl,h3,h4,h5,h6⟩:=hld hl
           exact ⟨f,p,by rw[h5];exact Z3,ld_same hm.gg hk ho h3 h4⟩
          ·obtain ⟨f,y,p,rfl,h3,h4,h5,h6⟩:=hld hl
           intro x hx hcx;exact ld_same hm.gg hk ho h3 h4 _ _ _ (d2 x hx hcx _ (by rw[h6];exact Z3))
          ·have hw3:=free_any (K2:=fun v1 _=>v1=v) hf (q3 (fun v1 _=>v1=v) (fun _ _=>False) rfl) h2 (fun v' hv'=>hv')
           obtain ⟨v'',e3,e4,_⟩:=nonpot_read hm.gg hk ho hp hw3;rw[e4,e3]
        | true =>
          obtain ⟨hnr,hcase⟩:=pot_write hm.gg hk ho hp hw2
          rcases hcase with ⟨v,h',k2,k3,k4,k5⟩|⟨v,h',k2,k3,k4,f,args,k5,k6,k7⟩
          ·obtain ⟨c1,c2⟩:=chkK_inv k2
           obtain ⟨d2,d3⟩:=oldK_inv c2;obtain ⟨G,g1',g2,g3⟩:=ih dl (di+1) hxs hdl' hop' hc' _ _ _ _ _ _ (hm.put hd v) d3;have fin1:∀ F:FT,Ext F G->aopv P F keep env h o=some (.ret v,h') -> ∃ trs fin,Run P keep ops F di (⟨⟨dd,gg,k1⟩,di,dw,dchk,dold⟩::dl) (o::os) env h hs rs trs fin/\match fin with
            | .norm env' h'=>∃ e' l',EM nm N e' l' env'/\KS e l (o::os) e' l'/\Φ .norm ⟨e',l'.take 1,h',ds⟩
            | .pan v h'=>Φ (.pan v) ⟨[],[],h',ds⟩:=by
            intro F hF ha;obtain ⟨trs,fin,r1,r2⟩:=g3 F hF;refine ⟨_,fin,.write hw1 hnr ha hp k4 k3 (fun x hx=>?_) ?_ (fun x hx=>?_) c1 r1,ksf (fun _ _=>KS.cons hd) r2⟩
            ·split
             ·exact Z4 _ hx
             ·exact hx
            ·rw[if_pos (by rw[hwf];exact hp)];exact Z3
            ·unfold rdOf
             split
             ·split
              ·split
               ·exact Z4 _ hx
               ·exact hx
              ·exact hx
             ·exact hx
           rcases k5 with k5|⟨f,args,k5,k6,k7⟩
           ·exact ⟨G,g1',mem' g2,fun F hF=>fin1 F hF (k5 F)⟩
           ·refine ⟨fun t=>if t=o.dst then some (f,args,h,.ret v,h') else G t,fun t x hx=>?_,fun t x hx=>?_,fun F hF=>?_⟩
            ·dsimp only at hx
             split at hx
             ·cases hx;exact k6
             ·exact g1' t x hx
            ·dsimp only at hx
             split at hx
             ·rename_i ef;subst ef;exact ⟨o,Z3,k5,rfl⟩
             ·exact mem' g2 t x hx
            ·refine fin1 F (fun t x hx=>?_) (k7 F ?_)
             ·have hne:t≠o.dst:=by
               obtain ⟨o',m1,m2,m3⟩:=g2 t x hx;rw[<- m3];exact called_fresh hc k5 o' m1 m2
              exact hF t x (by simp only;rw[if_neg hne];exact hx)
             ·exact hF o.dst (f,args,h,.ret v,h') (by simp)
          ·refine ⟨fun t=>if t=o.dst then some (f,args,h,.pan v,h') else none,fun t x hx=>?_,fun t x hx=>?_,fun F hF=>?_⟩
           ·dsimp only at hx
            split at hx
            ·cases hx;exact k6
            ·cases hx
           ·dsimp only at hx
            split at hx
            ·rename_i ef;subst ef;exact ⟨o,Z3,k5,rfl⟩
            ·cases hx
           ·exact ⟨_,.pan v h',.pan hw1 hnr (k7 F (hF o.dst (f,args,h,.pan v,h') (by simp))) k4,k2⟩
       ·obtain ⟨G,g1',g2,g3⟩:=ih dl (di+1) hxs hdl' hop' hc' _ _ _ _ _ _ (hm.put hd undef) hw2
        refine ⟨G,g1',mem' g2,fun F hF=>?_⟩;obtain ⟨trs,fin,r1,r2⟩:=g3 F hF;exact ⟨_,fin,.skip hw1 r1,ksf (fun _ _=>KS.cons hd) r2⟩
end
end Go.Eng
