import Derived.Test.YtnkbbpmcjopicaaDoorPk3
import Derived.Recover
import Derived.Laws.Externs
import Derived.Lib.MakeNoZero
import Derived.KernelRfl
set_option linter.unusedVariables false
set_option linter.unusedSimpArgs false
open Nat renaming reduceEqDiff -> ZA,reduceAdd -> ZB,reduceMul -> ZC,reduceLeDiff -> ZD,reduceLT -> ZE
open Int renaming reduceEq -> ZF
open Option renaming map_eq_some_iff->Z0,bind_eq_some_iff->Z5
open Array renaming replicate->Z1,mem_toList_iff->Z3
open List renaming replicate->Z2,getElem?_append_left->Z4,length_eq_zero_iff->Z6
open Bool renaming false_eq_true->Z7
open Nat renaming zero_add->Z8
namespace Go.Eng
inductive Res where
 | ret (v:Value)
 | pan (v:Value)
inductive Out where
 | norm
 | exit (id:Nat)
 | ret
 | pan (v:Value)
structure Dfr where
 fn:Fn
 cap:List Value
 args:List Value
structure St where
 env:List Value
 h:AH
 ds:List Dfr
abbrev FT:=FuncId->List Value->AH->Option Tmp->Option (Res × AH)
def entry (v:Value):PanicEntry:={ v:=v,recovered:=false }
def FOk (P:Program) (F:FT):Prop :=
 ∀ (f:FuncId) (args:List Value) (h:AH) (tg:Option Tmp) (res:Res) (h':AH),F f args h tg=some (res,h') ->
 ∀ (r:Rho) (w:World) (args':Array Value),HR P r h w.heap->VL r args args'.toList ->
 ∀ (o:Oper) (a:Act) (K:Act->World->Prop) (Q:Exit->Act->World->Prop),
   (∀ v v' w' r',res = .ret v->Stp P r h w r' h' w'->VR r' v v'->K (a.put o.dst v') w') ->
   (∀ v v' w' r',res = .pan v->Stp P r h w r' h' w'->VR r' v v'->Q (.panic [entry v']) a w') ->
   o.upon P a K Q ((callFunc f args').run P w)
def putv (env:List Value) (dst:Option Tmp) (v:Value):List Value :=
 match dst with
 | some d=>env.set d v
 | none=>env
def acall1 (P:Program) (F:FT) (env:List Value) (h:AH) (c:Call) (tg:Option Tmp):Option (Res × AH) :=
 match c.callee with
 | .value f=>match ev env f,evs (ev env) c.args.toList with
   | some (.func (.func g) first cap),some args=>F g (first.toList++args++cap.toList) h tg
   | _,_=>none
 | .invoke x name=>match ev env x,evs (ev env) c.args.toList with
   | some (.iface t v),some args=>match methF P t name with
     | some g=>F g (v::args) h tg
     | none=>none
   | _,_=>none
 | _=>none
def adefer (env:List Value) (c:Call):Option Dfr :=
 match c.callee with
 | .value f=>match ev env f,evs (ev env) c.args.toList with
   | some (.func fn first cap),some args=>some ⟨fn,cap.toList,first.toList++args⟩
   | _,_=>none
 | _=>none
def aopv (P:Program) (F:FT) (keep:Bool) (env:List Value) (h:AH) (o:Oper):Option (Res × AH) :=
 match aread P (ev env) h h.length o with
 | some (v,none)=>some (.ret v,h)
 | some (v,some B)=>some (.ret v,h++[B])
 | none =>
   match awrite P keep (ev env) h o with
   | some (v,h')=>some (.ret v,h')
   | none =>
     match o.op with
     | .call c=>acall1 P F env h c o.dst
     | .panic x=>match ev env x with
       | some (.iface t v)=>some (.pan (.iface t v),h)
       | _=>none
     | _=>none
def aop (P:Program) (F:FT) (keep:Bool) (o:Oper) (s:St):Option (Out × St) :=
 match o.op with
 | .defer c=>match adefer s.env c with
   | some d=>some (.norm,⟨putv s.env o.dst undef,s.h,d::s.ds⟩)
   | none=>none
 | _ =>
   match aopv P F keep s.env s.h o with
   | some (.ret v,h')=>some (.norm,⟨putv s.env o.dst v,h',s.ds⟩)
   | some (.pan v,h')=>some (.pan v,⟨s.env,h',s.ds⟩)
   | none=>none
def DR1 (r:Rho) (d:Dfr) (d':Deferred):Prop:=∃ cap' args',d'={ target:=.fn d.fn cap',args:=args' }/\VL r d.cap cap'.toList/\VL r d.args args'.toList
def DR (r:Rho):List Dfr->List Deferred->Prop
 | [],[]=>True
 | d::l,d'::l'=>DR1 r d d'/\DR r l l'
 | _,_=>False
theorem DR1.mono {r r':Rho} (hr:r.le r') {d:Dfr} {d':Deferred} (h:DR1 r d d'):DR1 r' d d':=by
 obtain ⟨a,b,c,e,f⟩:=h;exact ⟨a,b,c,e.mono hr,f.mono hr⟩
theorem DR.mono {r r':Rho} (hr:r.le r'):∀ {l:List Dfr} {l':List Deferred},DR r l l'->DR r' l l'
 | [],[],_=>trivial
 | _::_,_::_,h=>⟨h.1.mono hr,h.2.mono hr⟩
 | [],_::_,h=>h.elim
 | _::_,[],h=>h.elim
structure SR (P:Program) (r:Rho) (s:St) (a:Act) (w:World):Prop where
 env:ER r s.env a.tmps
 hr:HR P r s.h w.heap
 ds:DR r s.ds a.defers
def OE (r:Rho):Out->Exit->Prop
 | .norm,e=>e = .normal
 | .exit id,e=>e = .exit id
 | .ret,e=>e = .ret
 | .pan v,e=>∃ v',e = .panic [entry v']/\VR r v v'
theorem put_defers (a:Act) (dst:Option Tmp) (v:Value):(a.put dst v).defers=a.defers:=by cases dst<;>rfl
theorem SR.put {P:Program} {r r':Rho} {s:St} {a:Act} {w w':World} (h:SR P r s a w) {h':AH} (st:Stp P r s.h w r' h' w') {v v':Value} (hv:VR r' v v') (dst:Option Tmp) :
 SR P r' ⟨putv s.env dst v,h',s.ds⟩ (a.put dst v') w' :=
 ⟨(h.env.mono st.le).put hv dst,st.hr,by rw[put_defers];exact h.ds.mono st.le⟩
abbrev Post (P:Program) (r:Rho) (h:AH) (w:World) (out:Out) (s':St) (Q:Exit->Act->World->Prop):Prop :=
 ∀ e a' w' r',OE r' out e->Stp P r h w r' s'.h w'->SR P r' s' a' w'->Q e a' w'
theorem run_call {a:Act} {c:Call} {f:Operand} (hc:c.callee = .value f) {g:FuncId} {first cap:Array Value} (hf:a.eval f = .func (.func g) first cap) {dst:Option Tmp} {type:TypeId} {pos:String}
 {after:Array Edge} {guard:Option (Nat × Bool)}:execOp a.eval ⟨dst,.call c,type,pos,after,guard⟩=callFunc g (first++c.args.map a.eval++cap):=by
 simp [execOp,resolve,hc,hf,Deferred.ofValue,invoke]
theorem run_invoke {P:Program} {a:Act} {c:Call} {x:Operand} {name:String} (hc:c.callee = .invoke x name) {t:TypeId} {v:Value} (hx:a.eval x = .iface t v) {g:FuncId} (hg:methF P t name=some g) {dst:Option Tmp} {type:TypeId} {pos:String}
 {after:Array Edge} {guard:Option (Nat × Bool)} {w:World}:(execOp a.eval ⟨dst,.call c,type,pos,after,guard⟩).run P w=(callFunc g (#[v]++c.args.map a.eval)).run P w:=by
 have hm:=fun n=>method_run (P:=P) hg n v w
 have h1:(#[Value.iface t v]++c.args.map a.eval)[0]?=some (Value.iface t v):=by rw[Array.getElem?_append_left (by simp)];rfl
 have h2:(#[Value.iface t v]++c.args.map a.eval).extract 1 (#[Value.iface t v]++c.args.map a.eval).size=c.args.map a.eval:=by
  apply Array.toList_inj.1
  simp;rw[List.take_of_length_le (by simp)]
 simp only[execOp,resolve,hc,hx,invoke,callMethod,Made.depth,Sem.run_bind,Sem.run_pure,Result.andThen_ok];rw[h1];have h3:(#[Value.iface t v]++c.args.map a.eval).extract 1=c.args.map a.eval:=h2;have hp:Sem.run P program w = .ok P w:=rfl;have hm':Sem.run P (method (P.types.size+100) t v name) w = .ok (g,v) w:=hm (P.types.size+99);simp only[h3,Sem.run_bind,hp,Result.andThen_ok,hm']
theorem aopv_ok {P:Program} {F:FT} (hF:FOk P F) {keep:Bool} {r:Rho} {env:List Value} {h h':AH} {a a0:Act} {w:World} (her:ER r env a.tmps) (hr:HR P r h w.heap) {o:Oper} {res:Res}
 (he:aopv P F keep env h o=some (res,h')) {K:Act->World->Prop} {Q:Exit->Act->World->Prop}
 (hK:∀ v v' w' r',res = .ret v->Stp P r h w r' h' w'->VR r' v v'->K (a0.put o.dst v') w')
 (hQ:∀ v v' w' r',res = .pan v->Stp P r h w r' h' w'->VR r' v v'->Q (.panic [entry v']) a0 w'):o.upon P a0 K Q ((execOp a.eval o).run P w):=by
 unfold aopv at he
 split at he
 ·rename_i v hrd
  cases he;obtain ⟨v',w',h1,h2,h3⟩:=aread_ok (w:=w) her.gr hr hr.free_end.2.1 hrd;rw[h1];exact hK _ _ _ r rfl (Stp.same hr h2) h3
 ·rename_i v B hrd
  cases he;obtain ⟨v',w',ob,x,h1,h2,h3,h4,h5,h6,h7,h8,h9,h10⟩:=aread_ok (w:=w) her.gr hr hr.free_end.2.1 hrd;rw[h1];exact hK _ _ _ _ rfl (Stp.push hr h6 h7 h2 h3 h4 h5) h10
 ·split at he
  ·rename_i v h' hwr
   cases he;obtain ⟨n,v',w',r',h1,h2,h3,h4⟩:=awrite_ok her.gr hr hwr;rw[h1]
   rcases h2 with rfl|⟨rfl,rfl⟩
   ·exact hK _ _ _ _ rfl h3 h4
   ·exact hK _ _ _ _ rfl h3 h4
  ·obtain ⟨dst,op,type,pos,after,guard⟩:=o
   dsimp only at he
   split at he
   case h_1 c _ _ =>
    unfold acall1 at he
    split at he
    ·rename_i f hcal
     split at he
     ·rename_i g first cap args hf hargs
      obtain ⟨f',c',e1,e2,e3⟩:=(ev_ok her hf).func_inv;have hv:=evs_ok her.gr hargs;rw[run_call hcal e1];refine hF g _ h _ res h' he r w _ hr ?_ _ a0 K Q hK hQ
      simpa using (e2.append hv).append e3
     ·cases he
    ·rename_i x name hcal
     split at he
     ·rename_i t v args hx hargs
      split at he
      ·rename_i g hg
       obtain ⟨v',e1,e2⟩:=(ev_ok her hx).iface_inv;have hv:=evs_ok her.gr hargs;rw[run_invoke hcal e1 hg];refine hF g _ h _ res h' he r w _ hr ?_ _ a0 K Q hK hQ
       simpa using VL.cons e2 hv
      ·cases he
     ·cases he
    ·cases he
   case h_2 x _ _ =>
    split at he
    ·rename_i t v hx
     cases he;obtain ⟨v',e1,e2⟩:=(ev_ok her hx).iface_inv;have:(execOp a.eval ⟨dst,.panic x,type,pos,after,guard⟩).run P w = .halt (.panic (.iface t v')) w:=by
      simp [execOp,e1,Instr.panic]
     rw[this];exact hQ _ _ _ r rfl (.refl hr) (.iface e2)
    ·cases he
   case h_3=>cases he
theorem aop_ok {P:Program} {F:FT} (hF:FOk P F) {keep:Bool} {r:Rho} {s s':St} {a:Act} {w:World} (hs:SR P r s a w) {o:Oper} {out:Out} (he:aop P F keep o s=some (out,s'))
 {K:Act->World->Prop} {Q:Exit->Act->World->Prop} (hQ:out ≠ .norm->Post P r s.h w out s' Q) (hK:out = .norm -> ∀ a' w' r',Stp P r s.h w r' s'.h w'->SR P r' s' a' w'->K a' w'):o.wp P a w K Q:=by
 unfold aop at he
 split at he
 ·rename_i c hop
  split at he
  ·rename_i d hd
   cases he;obtain ⟨dst,op,type,pos,after,guard⟩:=o;simp only at hop;subst hop;unfold adefer at hd
   split at hd
   ·rename_i f hcal
    split at hd
    ·rename_i fn first cap args hf hargs
     cases hd;obtain ⟨f',c',e1,e2,e3⟩:=(ev_ok hs.env hf).func_inv;have hv:=evs_ok hs.env.gr hargs;have:(execOp a.eval ⟨dst,.defer c,type,pos,after,guard⟩).run P w = .ok (.defer { target:=.fn fn c',args:=f'++c.args.map a.eval }) w:=by
      simp [execOp,resolve,hcal,e1,Deferred.ofValue]
     unfold Oper.wp;rw[this];refine hK rfl _ _ r (.refl hs.hr) ⟨?_,hs.hr,?_⟩
     ·have h0:∀ ds:List Deferred,ER r s.env ({ tmps:=a.tmps,defers:=ds }:Act).tmps:=fun _=>hs.env
      exact (h0 ({ target:=.fn fn c',args:=f'++c.args.map a.eval }::a.defers)).put (undef_vr r) dst
     ·rw[put_defers]
      exact ⟨⟨c',_,rfl,e3,by simpa using e2.append hv⟩,hs.ds⟩
    ·cases hd
   ·cases hd
  ·cases he
 ·split at he
  ·rename_i v h' hv
   cases he;exact aopv_ok hF hs.env hs.hr hv (fun v1 v' w' r' e st hv=>by cases e;exact hK rfl _ _ r' st (hs.put st hv o.dst)) (fun v1 v' w' r' e=>by cases e)
  ·rename_i v h' hv
   cases he;exact aopv_ok hF hs.env hs.hr hv (fun v1 v' w' r' e=>by cases e) (fun v1 v' w' r' e st hv=>by
    cases e;exact hQ (by simp) _ _ _ r' ⟨v',rfl,hv⟩ st ⟨hs.env.mono st.le,st.hr,hs.ds.mono st.le⟩)
  ·cases he
def wantA (ops:Array Oper) (env:List Value) (o:Oper):Option Bool :=
 match o.guard with
 | none=>some true
 | some (j,want) =>
   match (ops[j]?).bind (·.dst) with
   | some d=>match env[d]? with
     | some (.bool b)=>some (b == want)
     | some (.complex _ _ _)=>none
     | some _=>some false
     | none=>none
   | none=>some false
theorem wantA_ok {r:Rho} {ops:Array Oper} {env:List Value} {a:Act} (h:ER r env a.tmps) {o:Oper} {b:Bool} (he:wantA ops env o=some b):Region.wanted o (yielded ops a.tmps)=b:=by
 unfold wantA at he;unfold Region.wanted
 split at he
 ·rename_i hg;cases he;simp [hg]
 ·rename_i j want hg
  rw[hg]
  dsimp only
  unfold yielded
  split at he
  ·rename_i d hd
   rw[hd]
   split at he
   ·rename_i b' hb
    cases he;obtain ⟨v',h1,h2⟩:=h d _ hb;rw[h2.bool_inv] at h1;simp [h1]
   ·cases he
   ·rename_i v hnb hnc hb
    cases he;obtain ⟨v',h1,h2⟩:=h d _ hb;simp only[Option.bind_some,h1];cases h2<;>first|exact absurd rfl (hnb _)|exact absurd rfl (hnc _ _ _)|rfl
   ·cases he
  ·rename_i hd
   cases he;rw[hd];rfl
def aops (P:Program) (F:FT) (keep:Bool) (ops:Array Oper):List Oper->St->Option (Out × St)
 | [],s=>some (.norm,s)
 | o::l,s =>
   match wantA ops s.env o with
   | some true=>match aop P F keep o s with
     | some (.norm,s')=>aops P F keep ops l s'
     | x=>x
   | some false=>aops P F keep ops l ⟨putv s.env o.dst undef,s.h,s.ds⟩
   | none=>none
theorem Post.trans {P:Program} {r r1:Rho} {h h1:AH} {w w1:World} {out:Out} {s':St} {Q:Exit->Act->World->Prop} (st:Stp P r h w r1 h1 w1) (hQ:Post P r h w out s' Q):Post P r1 h1 w1 out s' Q :=
 fun e a' w' r' ho st' sr=>hQ e a' w' r' ho (st.trans st') sr
theorem aops_ok {P:Program} {F:FT} (hF:FOk P F) {keep:Bool} {ops:Array Oper}:∀ (l:List Oper) {r:Rho} {s s':St} {a:Act} {w:World},SR P r s a w -> ∀ {out:Out},aops P F keep ops l s=some (out,s') ->
 ∀ {Q:Exit->Act->World->Prop},Post P r s.h w out s' Q->wpList P ops Q l a w:=by
 intro l
 induction l with
 | nil =>
   intro r s s' a w hs out he Q hQ;cases he;exact hQ _ _ _ r rfl (.refl hs.hr) hs
 | cons o l ih =>
   intro r s s' a w hs out he Q hQ;simp only[aops] at he
   split at he
   ·rename_i hw
    have hw':=wantA_ok hs.env hw;unfold wpList;rw[hw'];simp only[if_true];refine .inl ?_
    split at he
    ·rename_i s1 h1
     exact aop_ok hF hs h1 (fun k=>absurd rfl k) (fun _ a' w' r' st sr=>ih sr he (hQ.trans st))
    ·rename_i x hx
     exact aop_ok hF hs he (fun _=>hQ) (fun e=>by subst e;exact absurd he (hx s'))
   ·rename_i hw
    have hw':=wantA_ok hs.env hw;unfold wpList;rw[hw'];simp only[Z7,if_false];exact ih (hs.put (.refl hs.hr) (undef_vr r) o.dst) he hQ
   ·cases he
abbrev DT:=Array Oper->St->Option (Out × St)
def DOk (P:Program) (D:DT):Prop :=
 ∀ (ops:Array Oper) (s s':St) (out:Out),D ops s=some (out,s') -> ∀ (r:Rho) (a:Act) (w:World) (id:Nat) (Q:Exit->Act->World->Prop),
   SR P r s a w->Post P r s.h w out s' Q->(Code.region id ops true).wp P Q a w
def aloop (body:St->Option (Out × St)):Nat->St->Option (Out × St)
 | 0,_=>none
 | n+1,s=>match body s with
   | some (.norm,s')=>aloop body n s'
   | x=>x
def acode (P:Program) (F:FT) (D:DT) (keep:Bool):Nat->Code->St->Option (Out × St)
 | 0,_,_=>none
 | n+1,c,s=>match c with
   | .skip=>some (.norm,s)
   | .region _ ops false=>aops P F keep ops ops.toList s
   | .region _ ops true=>D ops s
   | .seq a b=>match acode P F D keep n a s with
     | some (.norm,s')=>acode P F D keep n b s'
     | x=>x
   | .cond c t e=>match ev s.env c with
     | some (.bool true)=>acode P F D keep n t s
     | some (.bool false)=>acode P F D keep n e s
     | _=>none
   | .block id b=>match acode P F D keep n b s with
     | some (.exit i,s')=>some (if i=id then .norm else .exit i,s')
     | x=>x
   | .loop b=>aloop (acode P F D keep n b) n s
   | .exit id=>some (.exit id,s)
   | .scope b=>acode P F D keep n b s
   | .ret=>some (.ret,s)
   | _=>none
def BOk (P:Program) (c:Code) (body:St->Option (Out × St)):Prop :=
 ∀ (s s':St) (out:Out),body s=some (out,s') -> ∀ (r:Rho) (a:Act) (w:World) (Q:Exit->Act->World->Prop),SR P r s a w->Post P r s.h w out s' Q->c.wp P Q a w
theorem aloop_ok {P:Program} {c:Code} {body:St->Option (Out × St)} (hb:BOk P c body):∀ (n:Nat) (s s':St) (out:Out),aloop body n s=some (out,s') ->
 ∀ (r:Rho) (a:Act) (w:World) (Q:Exit->Act->World->Prop),SR P r s a w->Post P r s.h w out s' Q->Code.rounds P c Q n a w:=by
 intro n
 induction n with
 | zero=>intro s s' out he;cases he
 | succ n ih =>
   intro s s' out he r a w Q hs hQ;rw[rounds_succ];simp only[aloop] at he
   split at he
   ·rename_i s1 h1
    refine hb s s1 .norm h1 r a w _ hs (fun e a' w' r' ho st sr=>?_);cases ho;exact ih s1 s' out he r' a' w' Q sr (hQ.trans st)
   ·rename_i x hx
    refine hb s s' out he r a w _ hs (fun e a' w' r' ho st sr=>?_);cases out with
    | norm=>exact absurd he (hx s')
    | exit id=>cases ho;exact hQ _ _ _ r' rfl st sr
    | ret=>cases ho;exact hQ _ _ _ r' rfl st sr
    | pan v=>obtain ⟨v',rfl,hv⟩:=ho;exact hQ _ _ _ r' ⟨v',rfl,hv⟩ st sr
theorem acode_ok {P:Program} {F:FT} (hF:FOk P F) {D:DT} (hD:DOk P D) {keep:Bool}:∀ (n:Nat) (c:Code),BOk P c (acode P F D keep n c):=by
 intro n
 induction n with
 | zero=>intro c s s' out he;cases he
 | succ n ih =>
   intro c s s' out he r a w Q hs hQ;unfold acode at he
   split at he
   ·cases he;exact wp_skip (hQ _ _ _ r rfl (.refl hs.hr) hs)
   ·exact wp_region_list (aops_ok hF _ hs he hQ)
   ·exact hD _ s s' out he r a w _ Q hs hQ
   ·rename_i x y
    refine wp_seq ?_
    split at he
    ·rename_i s1 h1
     refine ih x s s1 .norm h1 r a w _ hs (fun e a' w' r' ho st sr=>?_);cases ho;exact ih y s1 s' out he r' a' w' Q sr (hQ.trans st)
    ·rename_i z hz
     refine ih x s s' out he r a w _ hs (fun e a' w' r' ho st sr=>?_);cases out with
     | norm=>exact absurd he (hz s')
     | exit id=>cases ho;exact hQ _ _ _ r' rfl st sr
     | ret=>cases ho;exact hQ _ _ _ r' rfl st sr
     | pan v=>obtain ⟨v',rfl,hv⟩:=ho;exact hQ _ _ _ r' ⟨v',rfl,hv⟩ st sr
   ·rename_i c t e
    split at he
    ·rename_i hc;exact wp_cond_true (ev_ok hs.env hc).bool_inv (ih t s s' out he r a w Q hs hQ)
    ·rename_i hc;exact wp_cond_false (ev_ok hs.env hc).bool_inv (ih e s s' out he r a w Q hs hQ)
    ·cases he
   ·rename_i id b
    refine wp_block ?_
    split at he
    ·rename_i i s1 h1
     cases he;refine ih b s _ (.exit i) h1 r a w _ hs (fun e a' w' r' ho st sr=>?_);cases ho;simp only[Exit.inBlock]
     split
     ·rename_i hid
      subst hid;exact hQ _ _ _ r' (by simp [OE]) st sr
     ·rename_i hid
      exact hQ _ _ _ r' (by simp [OE,hid]) st sr
    ·rename_i z hz
     refine ih b s s' out he r a w _ hs (fun e a' w' r' ho st sr=>?_);cases out with
     | norm=>cases ho;exact hQ _ _ _ r' rfl st sr
     | exit id=>exact absurd he (hz id s')
     | ret=>cases ho;exact hQ _ _ _ r' rfl st sr
     | pan v=>obtain ⟨v',rfl,hv⟩:=ho;exact hQ _ _ _ r' ⟨v',rfl,hv⟩ st sr
   ·rename_i b
    exact wp_loop_rounds n (aloop_ok (ih b) n s s' out he r a w Q hs hQ)
   ·cases he;exact wp_exit (hQ _ _ _ r rfl (.refl hs.hr) hs)
   ·rename_i b
    refine wp_scope_straight (ih b s s' out he r a w _ hs (fun e a' w' r' ho st sr=>?_));cases out with
    | norm=>cases ho;exact hQ _ _ _ r' rfl st sr
    | exit id=>cases ho;exact hQ _ _ _ r' rfl st sr
    | ret=>cases ho;exact hQ _ _ _ r' rfl st sr
    | pan v=>obtain ⟨v',rfl,hv⟩:=ho;exact hQ _ _ _ r' ⟨v',rfl,hv⟩ st sr
   ·cases he;exact wp_ret (hQ _ _ _ r rfl (.refl hs.hr) hs)
   ·cases he
def ares (P:Program) (env:List Value) (h:AH):List ResultVar->Option (List Value)
 | []=>some []
 | .tmp t::l=>match env[t]?,ares P env h l with
   | some v,some vs=>some (v::vs)
   | _,_=>none
 | .cell t ty::l=>match (env[t]?).bind (rload P h ty),ares P env h l with
   | some (v,_),some vs=>some (v::vs)
   | _,_=>none
def tup:List Value->Value
 | [v]=>v
 | vs=>.tuple vs.toArray
def resF (tmps:Array Value):ResultVar->Sem Value
 | .tmp t=>pure (tmps.getD t undef)
 | .cell a t=>do loadVar t (<- asAddr (tmps.getD a undef))
theorem results_eq (fn:Func) (tmps:Array Value):results fn tmps=(do let vs <- fn.results.mapM (resF tmps);pure (if h:vs.size=1 then vs[0] else .tuple vs)):=by
 unfold results
 congr 1
theorem ares_ok {P:Program} {r:Rho} {env:List Value} {tmps:Array Value} (her:ER r env tmps) {h:AH} {w:World} (hr:HR P r h w.heap):∀ {l:List ResultVar} {vs:List Value},ares P env h l=some vs ->
 ∃ vs',(l.mapM (resF tmps)).run P w = .ok vs' w/\VL r vs vs':=by
 intro l
 induction l with
 | nil=>intro vs he;cases he;exact ⟨[],rfl,.nil r⟩
 | cons x l ih =>
   intro vs he;cases x with
   | tmp t =>
     simp only[ares] at he
     split at he
     ·rename_i v vs1 h1 h2
      cases he;obtain ⟨v',e1,e2⟩:=her t v h1;obtain ⟨vs',e3,e4⟩:=ih h2;refine ⟨v'::vs',?_,.cons e2 e4⟩;have k4:(resF tmps (.tmp t)).run P w = .ok v' w:=by simp [resF,e1]
      simp only[List.mapM_cons,Sem.run_bind,k4,Sem.run_pure,Result.andThen_ok,e3]
     ·cases he
   | cell t ty =>
     simp only[ares] at he
     split at he
     ·rename_i v B vs1 h1 h2
      cases he;obtain ⟨u,e0,e1⟩:=Z5.1 h1;obtain ⟨u',e2,e3⟩:=her t u e0;obtain ⟨vs',e4,e5⟩:=ih h2;obtain ⟨_,x',k1,k2⟩:=rload_ok2 hr e3 e1;have hu:∃ ad,u' = .pointer (some ad):=by
       unfold rload at e1
       split at e1
       ·obtain ⟨x,_,rfl⟩:=e3.ptr_inv;exact ⟨_,rfl⟩
       ·cases e3.gptr_inv;exact ⟨_,rfl⟩
       ·cases e1
      obtain ⟨ad,rfl⟩:=hu;refine ⟨x'::vs',?_,.cons k2 e5⟩;have hg:tmps.getD t undef = .pointer (some ad):=by simp [e2]
      have k3:(loadVar ty ad).run P w = .ok x' w:=by simpa [Instr.loadAt,Instr.sureAddr] using k1
      have k4:(resF tmps (.cell t ty)).run P w = .ok x' w:=by show (do loadVar ty (<- asAddr (tmps.getD t undef)):Sem Value).run P w=_;rw[hg];simp [asAddr,k3]
      simp only[List.mapM_cons,Sem.run_bind,k4,Result.andThen_ok,e4,Sem.run_pure]
     ·cases he
theorem tup_ok {P:Program} {r:Rho} {env:List Value} {tmps:Array Value} (her:ER r env tmps) {h:AH} {w:World} (hr:HR P r h w.heap) {fn:Func} {vs:List Value} (he:ares P env h fn.results.toList=some vs) :
 ∃ v',(results fn tmps).run P w = .ok v' w/\VR r (tup vs) v':=by
 obtain ⟨vs',h1,h2⟩:=ares_ok her hr he;have hm:(fn.results.mapM (resF tmps)).run P w = .ok vs'.toArray w:=by
  rw[Array.mapM_eq_mapM_toList];simp only[Sem.run_map,h1,Result.andThen_ok]
 rw[results_eq,Sem.run_bind];unfold tup;cases vs' with
 | nil =>
   cases vs with
   | nil=>exact ⟨.tuple #[],by rw[hm];simp,VR.tuple_l (.nil r)⟩
   | cons=>have:=h2.1;simp at this
 | cons v' l' =>
   cases vs with
   | nil=>have:=h2.1;simp at this
   | cons v l =>
     cases l' with
     | nil =>
       cases l with
       | nil=>exact ⟨v',by rw[hm];simp,h2.2 0 v v' rfl rfl⟩
       | cons=>have:=h2.1;simp at this
     | cons v2' l2' =>
       cases l with
       | nil=>have:=h2.1;simp at this
       | cons v2 l2=>exact ⟨.tuple (v'::v2'::l2').toArray,by rw[hm];simp,VR.tuple_l (by simpa using h2)⟩
def recOp (o:Oper):Bool :=
 match o.op,o.guard with
 | .call c,none=>match c.callee with
   | .builtin .recover=>true
   | _=>false
 | _,_=>false
def recHead (c:Code):Option (Oper × Code) :=
 match c with
 | .seq (.region _ ops false) rest=>match ops.toList with
   | [o]=>if recOp o then some (o,rest) else none
   | _=>none
 | _=>none
def adef (P:Program) (F:FT) (D:FT->DT) (keep:FuncId->Bool) (fuel:Nat) (d:Dfr) (m:Option Value) (h:AH):Option AH :=
 match d.fn with
 | .func g =>
   match P.funcs[g]? with
   | some fn =>
     match fn.body.bind recHead with
     | some (o,rest) =>
       match acode P F (D F) (keep g) fuel rest ⟨putv ((d.args++d.cap)++Z2 (fn.ntmps-(d.args++d.cap).length) undef) o.dst (m.getD .nilIface),h,[]⟩ with
       | some (.norm,⟨env,h',[]⟩)=>(ares P env h' fn.results.toList).map fun _=>h'
       | some (.ret,⟨env,h',[]⟩)=>(ares P env h' fn.results.toList).map fun _=>h'
       | _=>none
     | none=>none
   | none=>none
 | _=>none
def adefs (P:Program) (F:FT) (D:FT->DT) (keep:FuncId->Bool) (fuel:Nat):List Dfr->Option Value->AH->Option (Option Value × AH)
 | [],m,h=>some (m,h)
 | d::ds,m,h=>match adef P F D keep fuel d m h with
   | some h'=>adefs P F D keep fuel ds none h'
   | none=>none
def leftBy:Out->Option (Option Value)
 | .norm | .ret=>some none
 | .pan v=>some (some v)
 | .exit _=>none
def aext (P:Program) (f:FuncId) (args:List Value) (h:AH):Option (Res × AH) :=
 if args.all (scal 8) then
  match pureRun P (callFunc f args.toArray) with
  | some (.value v)=>if scal 8 v then some (.ret v,h) else none
  | _=>none
 else none
def unkV:Value:=.complex .f64 0 0
def aextB (P:Program) (f:FuncId) (args:List Value) (h:AH):Option (Res × AH) :=
 match P.funcs[f]? with
 | some fn =>
   if fn.body.isNone && ((Extern.allNextRows.lookup fn.origin).isNone) then
    if fn.name == "internal/abi.NoEscape" then
     match args with
     | [v]=>some (.ret v,h)
     | _=>none
    else if fn.name == "maps.clone" then
     match args with
     | [.iface t (.map (some b))]=>(hmap h b).map fun es=>(.ret (.iface t (.map (some h.length))),h++[.map es])
     | _=>none
    else if fn.name == "internal/bytealg.MakeNoZero" then
     match args,fn.resultTypes.toList with
     | [.int .i64 (.ofNat n)],[t]=>match P.underlying t with
       | some (.slice e)=>if sizeT P e=some 1/\bldT P e=false/\n<=140737488355328 then
        some (.ret (.slice (some ⟨h.length,0,none⟩) n n),h++[row e h.length (Z2 n unkV)]) else none
       | _=>none
     | _,_=>none
    else none
   else none
 | none=>none
theorem findNext_none {fn:Func} {N:String} (hn:fn.name=N) (h0:Extern.allNextRows.lookup N=none) (ho:(Extern.allNextRows.lookup fn.origin).isNone=true):Extern.findNext fn=none:=by
 have h1:Extern.allNextRows.lookup fn.origin=none:=by simpa using ho
 simp [Extern.findNext,hn,h0,h1]
theorem run_ext {P:Program} {f:FuncId} {fn:Func} (hf:P.funcs[f]?=some fn) (hb:fn.body.isNone=true) (ho:(Extern.allNextRows.lookup fn.origin).isNone=true) {N:String} (hn:fn.name=N) (h0:Extern.allNextRows.lookup N=none)
 (h1 : (N == "runtime.NumGoroutine") = false) {e : Array Value -> Sem Value} (he : Extern.find fn = some e) (args : Array Value) (w : World) : (callFunc f args).run P w = ((e args).run P w).andThen fun v w' => .ok (.value v) w' :=
 run_callFunc_extern hf (by rw[hn];exact h1) hb (findNext_none hn h0 ho) he args w
theorem digits_one:∀ (n t:Nat) (acc:Array Value),(∀ v∈acc.toList,v.oneCell'=true) -> ∀ v∈(Extern.BytealgMakeNoZero.digits n t acc).toList,v.oneCell'=true
 | 0,_,_,h=>h
 | n+1,t,acc,h=>by
   rw[Extern.BytealgMakeNoZero.digits];refine digits_one n _ _ fun v hv=>?_
   simp only[Array.toList_push,List.mem_append,List.mem_singleton] at hv
   rcases hv with hv|rfl
   ·exact h v hv
   ·rfl
theorem run_makeNoZero' {P:Program} {w:World} (ps:Array TypeId) (t e:TypeId) (ht:P.underlying t=some (.slice e)) (n:Nat) (hn:n<=281474976710656) :
 ∃ cs:Array Value,(Extern.BytealgMakeNoZero.makeNoZero ps #[t] #[.int .i64 n]).run P w = .ok (.slice (some ⟨w.heap.size,0,none⟩) n cs.size) (w.drew.drew.alloc (.cells cs e))/\n<=cs.size /\ ∀ v∈cs.toList,v.oneCell'=true:=by
 have hdef:Extern.BytealgMakeNoZero.makeNoZero ps #[t] #[.int .i64 n] =
  (do
   let .slice elem <- underlying t | stuck "bytealg.MakeNoZero: slice type expected"
   if (n : Int) < 0 || (n : Int) > 2 ^ 48 then runtimePanic (.error "makeslice: len out of range")
   let cap <- choose (.appendCap (n:Int).toNat 0 elem)
   askRoom cap
   let bytes <- choose (.extern "internal/bytealg.MakeNoZero.bytes" 0)
   let a <- newRow elem (Extern.BytealgMakeNoZero.digits cap bytes #[])
   pure (.slice (some a) (n:Int).toNat cap)):=rfl
 refine ⟨Extern.BytealgMakeNoZero.digits (grownCap w n 0 e) ((Question.extern "internal/bytealg.MakeNoZero.bytes" 0).cut (w.tape (w.drawn + 1) (.extern "internal/bytealg.MakeNoZero.bytes" 0))) #[], ?_, ?_, digits_one _ _ _ (by simp)⟩
 ·rw[hdef]
  have h1:¬ (n:Int)<0:=by omega
  have h2:¬ (281474976710656:Int)<(n:Int):=by omega
  simp [run_underlying ht,h1,h2,Question.forced,newRow,Lib.size_digits,grownCap]
 ·rw[Lib.size_digits]
  simpa using grownCap_ge w n 0 e
theorem aextB_ok {P:Program} {f:FuncId} {args:List Value} {h h':AH} {res:Res} (he:aextB P f args h=some (res,h')) {r:Rho} {w:World} {args':Array Value} (hr:HR P r h w.heap) (hargs:VL r args args'.toList)
 {o:Oper} {a:Act} {K:Act->World->Prop} {Q:Exit->Act->World->Prop} (hK:∀ v v' w' r',res = .ret v->Stp P r h w r' h' w'->VR r' v v'->K (a.put o.dst v') w'):o.upon P a K Q ((callFunc f args').run P w):=by
 unfold aextB at he
 split at he
 case h_2=>cases he
 case h_1 fn hf =>
  split at he
  case isFalse=>cases he
  case isTrue hc =>
   simp only[Bool.and_eq_true] at hc;obtain ⟨hb,ho⟩:=hc
   split at he
   ·rename_i hn
    have hn : fn.name = "internal/abi.NoEscape" := by simpa using hn
    split at he
    case h_2=>cases he
    case h_1 v =>
     cases he;obtain ⟨v',vs',e1,e2,e3⟩:=hargs.head;have e4:=e3.nil_left;subst e4;have e5:args' = #[v']:=by rw[<- e1]
     subst e5;rw[run_ext hf hb ho hn (by kernel_rfl) (by kernel_rfl) (e:=Extern.AbiNoEscape.same) (by unfold Extern.find;rw[hn];rfl)];exact hK v v' w r rfl (.refl hr) e2
   ·split at he
    ·rename_i hn
     have hn : fn.name = "maps.clone" := by simpa using hn
     split at he
     case h_2=>cases he
     case h_1 t b =>
      obtain ⟨es,h1,h2⟩:=Z0.1 he;cases h2;obtain ⟨v',vs',e1,e2,e3⟩:=hargs.head;have e4:=e3.nil_left;subst e4;have e5:args' = #[v']:=by rw[<- e1]
      subst e5;obtain ⟨u,rfl,e6⟩:=e2.iface_inv;obtain ⟨x,hb2,h0,rfl⟩:=e6.map_inv;obtain ⟨ms,clock,k1,k2,k3⟩:=hmap_ok hr h1 hb2;rw[run_ext hf hb ho hn (by kernel_rfl) (by kernel_rfl) (e:=Extern.MapsClone.clone) (by unfold Extern.find;rw[hn];rfl)];have hrun:(Extern.MapsClone.clone #[.iface t (.map (some x.blk))]).run P w = .ok (.iface t (.map (some w.heap.size))) (w.alloc (.map ms clock)):=by
       have hdef:Extern.MapsClone.clone #[.iface t (.map (some x.blk))]=(do
        let .map entries clock <- getObj x.blk | stuck "maps.clone: a map expected"
        pure (.iface t (.map (some (<- newObj (.map entries clock)))))):=rfl
       have hg:(getObj x.blk).run P w = .ok (.map ms clock) w:=by simp [getObj,Sem.run,k1]
       rw[hdef];simp [hg]
      rw[hrun];refine hK _ _ _ (r.upd h.length ⟨w.heap.size,0,0,0⟩) rfl (Stp.push hr (by rfl) ?_ rfl rfl rfl rfl) (.iface (.map (Rho.upd_same _ _ _) rfl));exact ⟨ms,clock,rfl,rfl,k2,fun i kv m a b=>⟨(k3 i kv m a b).1.mono (Rho.le_upd hr.free_end.2.1 _),(k3 i kv m a b).2.mono (Rho.le_upd hr.free_end.2.1 _)⟩⟩
    ·split at he
     ·rename_i hn
      have hn : fn.name = "internal/bytealg.MakeNoZero" := by simpa using hn
      split at he
      case h_2=>cases he
      case h_1 n t hts =>
       split at he
       case h_2=>cases he
       case h_1 e hu =>
        split at he
        case isFalse=>cases he
        case isTrue hcond =>
         obtain ⟨hsz,hnb,hle⟩:=hcond;cases he;obtain ⟨v',vs',e1,e2,e3⟩:=hargs.head;have e4:=e3.nil_left;subst e4;have e5:args' = #[v']:=by rw[<- e1]
         subst e5;cases e2.int_inv;have ht:fn.resultTypes = #[t]:=by rw[<- hts]
         obtain ⟨cs,k1,k2,k3⟩:=run_makeNoZero' (P:=P) (w:=w) fn.params t e hu n (by omega);rw[run_ext hf hb ho hn (by kernel_rfl) (by kernel_rfl) (e:=Extern.BytealgMakeNoZero.makeNoZero fn.params fn.resultTypes) (by unfold Extern.find;rw[hn];rfl),ht];rw[show (Value.int IntKind.i64 (Int.ofNat n)) = .int .i64 (n:Int) from rfl,k1];refine hK _ _ _ (r.upd h.length ⟨w.heap.size,0,cs.size,1⟩) rfl (Stp.push (w:=w) hr (by rfl) ?_ rfl rfl rfl rfl) (VR.slice (o:=0) (Rho.upd_same _ _ _) k2 (Nat.le_refl _) (by simp));refine ⟨cs,e,(0,0),rfl,fun _=>⟨rfl,rfl,rfl,fun _=>rfl⟩,hsz,by simp;exact k2,fun i v v' a b=>?_⟩;rw[List.getElem?_replicate] at a
         split at a
         ·cases a
          exact .unk _ _ _ (k3 v' (by simp only[Z8] at b;exact List.mem_of_getElem? (by simpa using b))) (fun e=>by cases e)
         ·cases a
     ·cases he
def afun (P:Program) (D:FT->DT) (keep:FuncId->Bool) (fuel:Nat):Nat->FT
 | 0=>fun _ _ _ _=>none
 | n+1=>fun f args h _ =>
   match P.funcs[f]? with
   | some fn =>
     match fn.body with
     | some c =>
       match acode P (afun P D keep fuel n) (D (afun P D keep fuel n)) (keep f) fuel c ⟨args++Z2 (fn.ntmps-args.length) undef,h,[]⟩ with
       | some (out,s')=>match leftBy out with
         | some m=>match adefs P (afun P D keep fuel n) D keep fuel s'.ds m s'.h with
           | some (none,h')=>(ares P s'.env h' fn.results.toList).map fun vs=>(.ret (tup vs),h')
           | some (some v,h')=>some (.pan v,h')
           | none=>none
         | none=>none
       | none=>none
     | none=>match aext P f args h with
       | some x=>some x
       | none=>aextB P f args h
   | none=>none
def noGoroutines (P : Program) : Bool := P.funcs.toList.all fun fn => !(fn.name == "runtime.NumGoroutine")
theorem run_callFunc {P:Program} (hP:noGoroutines P=true) {f:FuncId} {fn:Func} (hf:P.funcs[f]?=some fn) {c:Code} (hb:fn.body=some c) (args:Array Value) (w:World) :
 (callFunc f args).run P w = .ok (.enter f args) w:=by
 have h1:=List.all_eq_true.1 hP fn (by
  have:=Array.mem_of_getElem? hf;exact Z3.2 this)
 have h2 : (fn.name == "runtime.NumGoroutine") = false := by simpa using h1
 simp only[callFunc,Sem.run_bind,run_program,Result.andThen_ok,hf,h2,hb,Z7,if_false,Option.isNone_some,Sem.run_pure]
theorem DR.nil_inv {r:Rho} {l:List Deferred} (h:DR r [] l):l=[]:=by
 cases l with
 | nil=>rfl
 | cons=>exact h.elim
theorem start_env {P:Program} {r:Rho} {args:List Value} {args':Array Value} {h:AH} {w:World} (hargs:VL r args args'.toList) (k:Nat) :
 ER r (args++Z2 (k-args.length) undef) (args'++Z1 (k-args'.size) undef):=by
 intro i v hv;have hsize:args.length=args'.size:=by have:=hargs.1;simpa using this
 have:=hargs.append (VL.replicate (undef_vr r) (k-args.length));obtain ⟨v',h1,h2⟩:=this.get hv;refine ⟨v',?_,h2⟩;rw[hsize] at h1;rw[<- Array.getElem?_toList]
 simpa using h1
def MR (r:Rho):Option Value->FrameMode->Prop
 | none,u=>u = .returning
 | some v,u=>∃ v',u = .panicking [entry v']/\VR r v v'
theorem MR.ne_run {r:Rho} {m:Option Value} {u:FrameMode} (h:MR r m u):u ≠ .run:=by
 cases m with
 | none=>rw[h];simp
 | some v=>obtain ⟨v',rfl,_⟩:=h;simp
theorem recHead_inv {c:Code} {o:Oper} {rest:Code} (h:recHead c=some (o,rest)):∃ id,c = .seq (.region id #[o] false) rest/\recOp o=true:=by
 unfold recHead at h
 split at h
 ·rename_i id ops rest'
  split at h
  ·rename_i o' ho
   split at h
   ·rename_i hr
    cases h;have:ops = #[o]:=by
     apply Array.ext'
     simpa using ho
    subst this;exact ⟨id,rfl,hr⟩
   ·cases h
  ·cases h
 ·cases h
theorem recOp_run {P:Program} {o:Oper} (h:recOp o=true) (a:Act) (w:World):o.guard=none/\(execOp a.eval o).run P w = .ok .recover w:=by
 obtain ⟨dst,op,type,pos,after,guard⟩:=o;unfold recOp at h;simp only at h
 split at h
 ·rename_i c
  split at h
  ·rename_i hc
   refine ⟨rfl,?_⟩;simp [execOp,resolve,hc,invoke,builtin]
  ·cases h
 ·cases h
theorem adef_ok {P:Program} (hP:noGoroutines P=true) {F:FT} (hF:FOk P F) {D:FT->DT} (hD:DOk P (D F)) {keep:FuncId->Bool} {fuel:Nat} {d:Dfr} {m:Option Value} {h h':AH}
 (he:adef P F D keep fuel d m h=some h') {r:Rho} {w:World} (hr:HR P r h w.heap) {d':Deferred} (hd:DR1 r d d') {u:FrameMode} (hu:MR r m u) {fn:Func} {tmps:Array Value} {ds:List Deferred} {R:Ending->World->Prop}
 (hQ:∀ r' w',Stp P r h w r' h' w'->Leaves P fn tmps R ds .returning w'):Leaves P fn tmps R (d'::ds) u w:=by
 obtain ⟨cap',args',rfl,hcap,hargs⟩:=hd;unfold adef at he
 split at he
 case h_2=>cases he
 case h_1 g hg =>
  split at he
  case h_2=>cases he
  case h_1 fn2 hf =>
   split at he
   case h_2=>cases he
   case h_1 o rest hrest =>
    obtain ⟨c,hb,hc⟩:=Z5.1 hrest;obtain ⟨id,rfl,hrec⟩:=recHead_inv hc;rw[hg];refine leaves_cons hu.ne_run (f:=g) (args:=args'++cap') (run_callFunc hP hf hb _ w) ?_;refine callsD_of_wpS hf hb fun c₀ cs hc0=>?_
    have hall:VL r (d.args++d.cap) (args'++cap').toList:=by
     have:=hargs.append hcap
     simpa using this
    have her:=start_env (P:=P) (h:=h) (w:=w) hall fn2.ntmps;refine wpS_seq (wpS_region ?_);have hl:List.range (#[o]:Array Oper).size=[0]:=rfl;rw[hl];have h0:(#[o]:Array Oper)[0]?=some o:=rfl;obtain ⟨hgd,hrun⟩:=recOp_run (P:=P) hrec { tmps:=args'++cap'++Z1 (fn2.ntmps-(args'++cap').size) undef,defers:=[] } w;have hw:Region.wanted o (yielded #[o] (args'++cap'++Z1 (fn2.ntmps-(args'++cap').size) undef))=true:=by
     simp [Region.wanted,hgd]
    have key:∀ (v v':Value) (u':FrameMode),m.getD .nilIface=v->VR r v v'->settle u' = .returning->rest.wpS P (bodyPostS P fn2 c₀ cs fun
     | .returned _,u',w'=>Leaves P fn tmps R ds (settle u') w'
     | .panicked chain,u',w'=>Leaves P fn tmps R ds (raised u' chain) w'
     | .outgrown,_,w'=>R .outgrown w')
     (({ tmps:=args'++cap'++Z1 (fn2.ntmps-(args'++cap').size) undef,defers:=[] }:Act).put o.dst v') ({ c₀ with mode:=u' }::cs) w:=by
     intro v v' u' hv hvr hset;refine wpS_of_wp ?_;have hcode:=acode_ok hF hD (keep:=keep g) fuel rest;rw[hv] at he;have start:SR P r ⟨putv ((d.args++d.cap)++Z2 (fn2.ntmps-(d.args++d.cap).length) undef) o.dst v,h,[]⟩
      (({ tmps:=args'++cap'++Z1 (fn2.ntmps-(args'++cap').size) undef,defers:=[] }:Act).put o.dst v') w :=
      ⟨ER.put (a:={ tmps:=args'++cap'++Z1 (fn2.ntmps-(args'++cap').size) undef,defers:=[] }) her hvr o.dst,hr,by rw[put_defers];trivial⟩
     have finish:∀ {env:List Value} {h2:AH} {ex:Exit} {a':Act} {w':World} {r':Rho} {vs:List Value},(ex = .normal\/ex = .ret)->Stp P r h w r' h2 w'->SR P r' ⟨env,h2,[]⟩ a' w'->ares P env h2 fn2.results.toList=some vs ->
      h2=h'->bodyPostS P fn2 c₀ cs (fun
      | .returned _,u',w'=>Leaves P fn tmps R ds (settle u') w'
      | .panicked chain,u',w'=>Leaves P fn tmps R ds (raised u' chain) w'
      | .outgrown,_,w'=>R .outgrown w') ex a' ({ c₀ with mode:=u' }::cs) w':=by
      intro env h2 ex a' w' r' vs hex st sr hvs hh;subst hh;obtain ⟨v',e1,e2⟩:=tup_ok sr.env sr.hr hvs;have hdd:=sr.ds.nil_inv
      rcases hex with rfl|rfl
      ·exact ⟨hdd,u',rfl,v',e1,by show Leaves P fn tmps R ds (settle u') w';rw[hset];exact hQ _ _ st⟩
      ·exact ⟨hdd,u',rfl,v',e1,by show Leaves P fn tmps R ds (settle u') w';rw[hset];exact hQ _ _ st⟩
     split at he
     ·rename_i env h2 h1
      obtain ⟨vs,hvs,hh⟩:=Z0.1 he;refine hcode _ _ _ h1 r _ w _ start (fun e a' w' r' ho st sr=>?_);cases ho;exact finish (.inl rfl) st sr hvs hh
     ·rename_i env h2 h1
      obtain ⟨vs,hvs,hh⟩:=Z0.1 he;refine hcode _ _ _ h1 r _ w _ start (fun e a' w' r' ho st sr=>?_);cases ho;exact finish (.inr rfl) st sr hvs hh
     ·cases he
    simp only[wpOpsS,h0,hw,if_true,hrun];cases m with
    | none =>
      have hu':c₀.mode = .returning:=hc0.trans hu;have hn:recoverD (c₀::cs)=none:=by simp [recoverD,hu']
      rw[hn];have:=key .nilIface .nilIface .returning rfl .inil rfl;rw[<- hu'] at this;exact this
    | some v =>
      obtain ⟨v',hu1,hv⟩:=hu;have hu':c₀.mode = .panicking [entry v']:=hc0.trans hu1;have hn:recoverD (c₀::cs)=some (v',{ c₀ with mode:=.panicking [{ v:=v',recovered:=true }] }::cs):=by
       simp [recoverD,hu',entry]
      rw[hn];exact key v v' _ rfl hv (by simp [settle])
theorem adefs_ok {P:Program} (hP:noGoroutines P=true) {F:FT} (hF:FOk P F) {D:FT->DT} (hD:DOk P (D F)) {keep:FuncId->Bool} {fuel:Nat} {fn:Func} {tmps:Array Value} {R:Ending->World->Prop} :
 ∀ {ds:List Dfr} {m mo:Option Value} {h h':AH},adefs P F D keep fuel ds m h=some (mo,h') ->
 ∀ {r:Rho} {w:World},HR P r h w.heap -> ∀ {ds':List Deferred},DR r ds ds' -> ∀ {u:FrameMode},MR r m u ->
 (∀ r' w' u',Stp P r h w r' h' w'->MR r' mo u'->Leaves P fn tmps R [] u' w')->Leaves P fn tmps R ds' u w:=by
 intro ds
 induction ds with
 | nil =>
   intro m mo h h' he r w hr ds' hd u hu hQ;cases he;rw[hd.nil_inv];exact hQ r w u (Stp.refl hr) hu
 | cons d ds ih =>
   intro m mo h h' he r w hr ds' hd u hu hQ;cases ds' with
   | nil=>exact hd.elim
   | cons d' ds' =>
     simp only[adefs] at he
     split at he
     case h_2=>cases he
     case h_1 h1 e1 =>
      refine adef_ok hP hF hD e1 hr hd.1 hu fun r' w' st=>?_
      exact ih he st.hr (DR.mono st.le hd.2) (show MR r' none .returning from rfl) fun r2 w2 u2 st2 hm=>hQ r2 w2 u2 (st.trans st2) hm
theorem all_scal_eq {r:Rho} {args:List Value} {args':Array Value} (h:args.all (scal 8)=true) (k:VL r args args'.toList):args'=args.toArray:=by
 have h1:args.toArray.toList.all (scal 8)=true:=by simpa using h
 exact all_eq (fun v v'=>scal_eq 8 v v') h1 (by simpa using k)
theorem afun_ok {P:Program} (hP:noGoroutines P=true) {D:FT->DT} (hD:∀ F,FOk P F->DOk P (D F)) {keep:FuncId->Bool} {fuel:Nat}:∀ n,FOk P (afun P D keep fuel n):=by
 intro n
 induction n with
 | zero=>intro f args h tg res h' he;cases he
 | succ n ih =>
   intro f args h tg res h' he r w args' hr hargs o a K Q hK hQ;simp only[afun] at he
   split at he
   case h_2=>cases he
   case h_1 fn hf =>
    split at he
    case h_2 hb =>
     split at he
     case h_2=>exact aextB_ok he hr hargs hK
     case h_1 x hx =>
     cases he;unfold aext at hx
     split at hx
     ·rename_i hs
      split at hx
      ·rename_i v hp
       split at hx
       ·rename_i hv
        cases hx;rw[all_scal_eq hs hargs,pureRun_run hp];exact hK _ _ _ r rfl (Stp.refl hr) (scal_refl 8 v hv)
       ·cases hx
      ·cases hx
     ·cases hx
    case h_1 c hb =>
     rw[run_callFunc hP hf hb];have start:SR P r ⟨args++Z2 (fn.ntmps-args.length) undef,h,[]⟩ { tmps:=args'++Z1 (fn.ntmps-args'.size) undef,defers:=[] } w :=
      ⟨start_env (P:=P) (h:=h) (w:=w) hargs fn.ntmps,hr,trivial⟩
     refine calls_of_wp_defers hf hb ?_;have hcode:=acode_ok ih (hD _ ih) (keep:=keep f) fuel c
     split at he
     case h_2=>cases he
     case h_1 out s' h1 =>
      split at he
      case h_2=>cases he
      case h_1 m hm =>
       have behind:∀ {a':Act} {w':World} {r':Rho} {u:FrameMode},Stp P r h w r' s'.h w'->SR P r' s' a' w'->MR r' m u->Leaves P fn a'.tmps (fun
        | .returned v,w''=>K (a.put o.dst v) w''
        | .panicked chain,w''=>Q (.panic chain) a w''
        | .outgrown,_=>LetsOut Q) a'.defers u w':=by
        intro a' w' r' u st sr hu
        split at he
        ·rename_i h2 h3
         obtain ⟨vs,hvs,hh⟩:=Z0.1 he;cases hh;refine adefs_ok hP ih (hD _ ih) h3 sr.hr sr.ds hu fun r2 w2 u2 st2 hm2=>?_
         obtain ⟨v',e1,e2⟩:=tup_ok (sr.env.mono st2.le) st2.hr hvs;rw[show u2 = .returning from hm2];exact ⟨v',e1,hK _ _ _ _ rfl (st.trans st2) e2⟩
        ·rename_i v h2 h3
         cases he;refine adefs_ok hP ih (hD _ ih) h3 sr.hr sr.ds hu fun r2 w2 u2 st2 hm2=>?_
         obtain ⟨v',e1,e2⟩:=hm2;rw[e1];exact hQ _ _ _ _ rfl (st.trans st2) e2
        ·cases he
       refine hcode _ _ _ h1 r _ w _ start (fun e a' w' r' ho st sr=>?_);cases out with
       | norm=>cases ho;cases hm;exact behind st sr rfl
       | ret=>cases ho;cases hm;exact behind st sr rfl
       | pan v=>obtain ⟨v',rfl,hv⟩:=ho;cases hm;exact behind st sr ⟨v',rfl,hv⟩
       | exit id=>cases hm
end Go.Eng

namespace Go.Eng
theorem evs_congr {env env':List Value}:∀ {l:List Operand},(∀ x∈l,ev env x=ev env' x)->evs (ev env) l=evs (ev env') l:=by
 intro l
 induction l with
 | nil=>intro _;rfl
 | cons x l ih =>
   intro h;simp only[evs,h x (by simp),ih fun y hy=>h y (by simp [hy])]
theorem evp_congr {env env':List Value}:∀ {l:List (Nat × Operand)},(∀ x∈l,ev env x.2=ev env' x.2)->evp (ev env) l=evp (ev env') l:=by
 intro l
 induction l with
 | nil=>intro _;rfl
 | cons x l ih =>
   intro h;obtain ⟨i,x⟩:=x;simp only[evp,h (i,x) (by simp),ih fun y hy=>h y (by simp [hy])]
theorem all_congr {α:Type} {f g:α->Bool}:∀ {l:List α},(∀ x∈l,f x=g x)->l.all f=l.all g:=by
 intro l
 induction l with
 | nil=>intro _;rfl
 | cons x l ih=>intro h;simp only[List.all_cons,h x (by simp),ih fun y hy=>h y (by simp [hy])]
theorem rscal_congr {P:Program} {env env':List Value} {o:Oper} (hx:∀ x∈o.op.operands,ev env x=ev env' x):rscal P (ev env) o=rscal P (ev env') o:=by
 unfold rscal;rw[all_congr (g:=fun x=>okScal (ev env' x)) (fun x h=>by rw[hx x (by simpa using h)])]
 by_cases hs:notSel o.op=true
 ·rw[execOp_congr (ρ:=fun x=>(ev env x).getD undef) (ρ':=fun x=>(ev env' x).getD undef) o (fun cs b e=>by rw[e] at hs;cases hs) (fun x h=>by simp only[hx x h])]
 ·simp [hs]
theorem evo_congr {env env':List Value} {x:Option Operand} (h:∀ y∈x,ev env y=ev env' y):evo (ev env) x=evo (ev env') x:=by
 cases x with
 | none=>rfl
 | some x=>simp only[evo,h x rfl]
theorem aread_congr {P:Program} {env env':List Value} {h:AH} {m:Nat} {o:Oper} (hx:∀ x∈o.op.operands,ev env x=ev env' x):aread P (ev env) h m o=aread P (ev env') h m o:=by
 have hsc:=rscal_congr (P:=P) hx;obtain ⟨dst,op,type,pos,after,guard⟩:=o;simp only at hx;unfold aread;cases op<;>simp only[Op.operands] at hx<;>dsimp only
 case move x=>rw[hx x (by simp)]
 case assign x=>rw[hx x (by simp)]
 case pick c a b=>rw[hx c (by simp),hx a (by simp),hx b (by simp)]
 case box t x=>rw[hx x (by simp)]
 case build t ps=>rw[evp_congr (env':=env') fun p hp=>hx p.2 (by simp;exact ⟨p.1,by simpa using hp⟩)]
 case buildSlice t n ps=>rw[evp_congr (env':=env') fun p hp=>hx p.2 (by simp;exact ⟨p.1,by simpa using hp⟩)]
 case load t x=>rw[hx x (by simp)]
 case nilCheck x=>rw[hx x (by simp)]
 case binOp op t x y yt=>rw[hsc,hx x (by simp),hx y (by simp)]
 case unOp=>rw[hsc]
 case convert s d x=>rw[hsc,hx x (by simp)]
 case makeInterface t x=>rw[hx x (by simp)]
 case makeFunc fn f c=>rw[evs_congr (env':=env') (l:=f.toList) fun x hq=>hx x (by simp at hq;simp [hq]),evs_congr (env':=env') (l:=c.toList) fun x hq=>hx x (by simp at hq;simp [hq])]
 case makeMap t r=>cases r<;>rfl
 case makeSlice t l c=>rw[hx l (by simp),hx c (by simp)]
 case slice t x lo hi mx =>
  rw[hsc,hx x (by simp),evo_congr (env':=env') (x:=lo) fun y hy=>hx y (by simp at hy;subst hy;simp),evo_congr (env':=env') (x:=hi) fun y hy=>hx y (by simp at hy;subst hy;simp),
   evo_congr (env':=env') (x:=mx) fun y hy=>hx y (by simp at hy;subst hy;simp)]
 case fieldAddr t x f=>rw[hx x (by simp)]
 case field t x f=>rw[hx x (by simp)]
 case indexAddr t x i=>rw[hx x (by simp),hx i (by simp)]
 case index t x i=>rw[hsc,hx x (by simp),hx i (by simp)]
 case lookup t x k ok=>rw[hx x (by simp),hx k (by simp)]
 case typeAssert x t u ok=>rw[hx x (by simp)]
 case extract x i=>rw[hx x (by simp)]
 case call c =>
  unfold rcall
  split
  ·split
   ·rename_i x t ha ht
    have:x∈c.args:=by rw[<- Z3,ha];simp
    rw[hsc,hx x (by simp [Call.operands,this])]
   ·rfl
  ·rw[hsc]
  ·rw[hsc]
  ·rw[hsc]
  ·split
   ·rename_i x ha
    have:x∈c.args:=by rw[<- Z3,ha];simp
    rw[hx x (by simp [Call.operands,this])]
   ·rfl
  ·rfl
theorem awrite_congr {P:Program} {keep:Bool} {env env':List Value} {h:AH} {o:Oper} (hx:∀ x∈o.op.operands,ev env x=ev env' x):awrite P keep (ev env) h o=awrite P keep (ev env') h o:=by
 obtain ⟨dst,op,type,pos,after,guard⟩:=o;simp only at hx;unfold awrite;cases op<;>simp only[Op.operands] at hx<;>dsimp only
 case store t a x=>rw[hx a (by simp),hx x (by simp)]
 case mapUpdate t m k x=>rw[hx m (by simp),hx k (by simp),hx x (by simp)]
 case insert t m k x=>rw[hx m (by simp),hx k (by simp),hx x (by simp)]
 case call c =>
  have hm:∀ x∈c.args.toList,ev env x=ev env' x:=fun x hq=>hx x (by simp [Call.operands];right;simpa using hq)
  split
  ·rename_i ha ht;rw[ha] at hm;rw[hm _ (by simp),hm _ (by simp)]
  ·rename_i ha ht;rw[ha] at hm;rw[hm _ (by simp)]
  ·rename_i ha ht;rw[ha] at hm;rw[hm _ (by simp),hm _ (by simp)]
  ·rename_i ha ht;rw[ha] at hm;rw[hm _ (by simp),hm _ (by simp)]
  ·rename_i ha ht;rw[ha] at hm;rw[hm _ (by simp),hm _ (by simp)]
  ·rfl
theorem aopv_congr {P:Program} {F:FT} {keep:Bool} {env env':List Value} {h:AH} {o:Oper} (hx:∀ x∈o.op.operands,ev env x=ev env' x):aopv P F keep env h o=aopv P F keep env' h o:=by
 unfold aopv;rw[aread_congr hx,awrite_congr hx];obtain ⟨dst,op,type,pos,after,guard⟩:=o;simp only at hx
 dsimp only
 split<;>try rfl
 split<;>try rfl
 split
 ·rename_i c _ _
  simp only[Op.operands] at hx;unfold acall1
  split
  ·rename_i f hf
   rw[hx f (by simp [Call.operands,hf]),evs_congr (env':=env') fun x hq=>hx x (by simp [Call.operands];right;simpa using hq)]
  ·rename_i f nm hf
   rw[hx f (by simp [Call.operands,hf]),evs_congr (env':=env') fun x hq=>hx x (by simp [Call.operands];right;simpa using hq)]
  ·rfl
 ·rename_i x _ _
  simp only[Op.operands] at hx;rw[hx x (by simp)]
 ·rfl
end Go.Eng

namespace Go.Eng
def ancOf (ds:List Nat) (o:Oper):Nat :=
 o.after.toList.foldl (fun m e=>if Region.binds .any e then m ||| (2 ^ e.on ||| (ds[e.on]?).getD 0) else m) 0
def ancsGo:List Oper->List Nat->List Nat
 | [],ds=>ds
 | o::l,ds=>ancsGo l (ds++[ancOf ds o])
def ancs (l:List Oper):List Nat:=ancsGo l []
theorem ancsGo_pre:∀ (l:List Oper) (ds:List Nat) (i:Nat),i<ds.length->(ancsGo l ds)[i]?=ds[i]?:=by
 intro l
 induction l with
 | nil=>intro ds i _;rfl
 | cons o l ih =>
   intro ds i hi;simp only[ancsGo];rw[ih _ i (by simp;omega),Z4 hi]
theorem ancsGo_get:∀ (l:List Oper) (ds:List Nat) (k:Nat) (o:Oper),l[k]?=some o -> ∃ ds',(∀ j,j<ds.length+k->ds'[j]?=(ancsGo l ds)[j]?)/\ds'.length=ds.length+k/\(ancsGo l ds)[ds.length+k]?=some (ancOf ds' o):=by
 intro l
 induction l with
 | nil=>intro ds k o h;simp at h
 | cons x l ih =>
   intro ds k o h;cases k with
   | zero =>
     simp at h;subst h;refine ⟨ds,fun j hj=>?_,rfl,?_⟩
     ·simp only[ancsGo]
      rw[ancsGo_pre _ _ j (by simp;omega),Z4 (by omega)]
     ·simp only[ancsGo]
      rw[ancsGo_pre _ _ _ (by simp)];simp
   | succ k =>
     obtain ⟨ds',h1,h2,h3⟩:=ih (ds++[ancOf ds x]) k o (by simpa using h);simp only[List.length_append,List.length_cons,List.length_nil,Z8] at h1 h2 h3;refine ⟨ds',fun j hj=>?_,by omega,?_⟩
     ·simp only[ancsGo];exact h1 j (by omega)
     ·simp only[ancsGo];rw[show ds.length+(k+1)=ds.length+1+k by omega];exact h3
theorem fold_bit (ds:List Nat) (j:Nat):∀ (l:List Edge) (m:Nat),(l.foldl (fun m e=>if Region.binds .any e then m ||| (2 ^ e.on ||| (ds[e.on]?).getD 0) else m) m).testBit j=true ->
 m.testBit j=true \/ ∃ e∈l,Region.binds .any e=true/\(j=e.on\/((ds[e.on]?).getD 0).testBit j=true):=by
 intro l
 induction l with
 | nil=>intro m h;exact .inl h
 | cons e l ih =>
   intro m h;simp only[List.foldl_cons] at h
   rcases ih _ h with h|⟨e',h1,h2⟩
   ·split at h
    ·rename_i hb
     rw[Nat.testBit_or,Nat.testBit_or,Bool.or_eq_true,Bool.or_eq_true] at h
     rcases h with h|h|h
     ·exact .inl h
     ·rw[Nat.testBit_two_pow] at h
      exact .inr ⟨e,by simp,hb,.inl (by simpa [eq_comm] using h)⟩
     ·exact .inr ⟨e,by simp,hb,.inr h⟩
    ·exact .inl h
   ·exact .inr ⟨e',by simp [h1],h2⟩
theorem anc_spec {l:List Oper} {i j:Nat} {o:Oper} (ho:l[i]?=some o) (h:(((ancs l)[i]?).getD 0).testBit j=true) :
 ∃ e∈o.after,Region.binds .any e=true/\(j=e.on\/(e.on<i/\(((ancs l)[e.on]?).getD 0).testBit j=true)):=by
 obtain ⟨ds,h1,h2,h3⟩:=ancsGo_get l [] i o ho;simp only[List.length_nil,Z8] at h1 h2 h3;unfold ancs at h ⊢;rw[h3] at h;simp only[Option.getD_some] at h;unfold ancOf at h
 rcases fold_bit ds j _ _ h with h|⟨e,he,hb,hj⟩
 ·simp at h
 ·refine ⟨e,by simpa using he,hb,?_⟩
  rcases hj with rfl|hj
  ·exact .inl rfl
  ·by_cases hlt:e.on<i
   ·rw[h1 _ hlt] at hj;exact .inr ⟨hlt,hj⟩
   ·rw[List.getElem?_eq_none (by omega)] at hj;simp at hj
def Closed (ops:Array Oper) (L:Nat->Bool):Prop :=
 ∀ (i:Nat) (o:Oper),ops[i]?=some o->L i=true -> ∀ e∈o.after,Region.binds .any e=true->L e.on=true
theorem Closed.anc {ops:Array Oper} {L:Nat->Bool} (hL:Closed ops L) {i:Nat} {o:Oper} (ho:ops[i]?=some o) (hdeps:∀ e∈o.after,Region.binds .any e=true->L e.on=true) :
 ∀ j,(((ancs ops.toList)[i]?).getD 0).testBit j=true->L j=true:=by
 induction i using Nat.strongRecOn generalizing o with
 | _ i ih =>
   intro j hj;obtain ⟨e,he,hb,hje⟩:=anc_spec (by simpa using ho) hj
   rcases hje with rfl|⟨hlt,hj'⟩
   ·exact hdeps e he hb
   ·have hle:=hdeps e he hb
    cases hoe:ops[e.on]? with
    | none =>
      exfalso
      have hlt':¬ e.on<ops.size:=by
       intro hh;rw[Array.getElem?_eq_getElem hh] at hoe;cases hoe
      have hi:=(Array.getElem?_eq_some_iff.1 ho).1;omega
    | some oe=>exact ih e.on hlt hoe (fun e' he' hb'=>hL e.on oe hoe hle e' he' hb') j hj'
structure TR where
 env:List Value
 h:AH
 w:Bool
 k:Bool
 v:Value
inductive Fin' where
 | norm (env:List Value) (h:AH)
 | pan (v:Value) (h:AH)
def cons1 (t:TR) (x:List TR × Fin'):List TR × Fin':=(t::x.1,x.2)
def trace (P:Program) (F:FT) (keep:Bool) (ops:Array Oper):List Oper->List Value->AH->Option (List TR × Fin')
 | [],env,h=>some ([],.norm env h)
 | o::l,env,h =>
   match wantA ops env o with
   | some false=>(trace P F keep ops l (putv env o.dst undef) h).map (cons1 ⟨env,h,false,false,undef⟩)
   | some true =>
     match aread P (ev env) h h.length o with
     | some (v,none)=>(trace P F keep ops l (putv env o.dst v) h).map (cons1 ⟨env,h,true,false,v⟩)
     | _ =>
       match aopv P F keep env h o with
       | some (.ret v,h')=>(trace P F keep ops l (putv env o.dst v) h').map (cons1 ⟨env,h,true,true,v⟩)
       | some (.pan v,h')=>some ([⟨env,h,true,true,v⟩],.pan v h')
       | none=>none
   | none=>none
def after1 (trs:List TR) (fin:Fin') (i:Nat):List Value × AH :=
 match trs[i]? with
 | some t=>(t.env,t.h)
 | none=>match fin with
   | .norm env h=>(env,h)
   | .pan _ h=>([],h)
def StepF (P:Program) (F:FT) (keep:Bool) (ops:Array Oper) (o:Oper) (t:TR) (nx:List Value × AH) (last:Bool) (fin:Fin'):Prop :=
 wantA ops t.env o=some t.w /\
 (t.w=false->t.k=false/\t.v=undef/\nx=(putv t.env o.dst t.v,t.h)) /\
 (t.w=true->t.k=false->aread P (ev t.env) t.h t.h.length o=some (t.v,none)/\nx=(putv t.env o.dst t.v,t.h)) /\
 (t.w=true->t.k=true->(aopv P F keep t.env t.h o=some (.ret t.v,nx.2)/\nx.1=putv t.env o.dst t.v) \/
  (last=true /\ ∃ v h',fin = .pan v h'/\aopv P F keep t.env t.h o=some (.pan v,h')))
theorem trace_ok {P:Program} {F:FT} {keep:Bool} {ops:Array Oper}:∀ (l:List Oper) (env:List Value) (h:AH) (trs:List TR) (fin:Fin'),trace P F keep ops l env h=some (trs,fin) ->
 after1 trs fin 0=(env,h)\/(trs=[]/\l≠[]):=by
 intro l env h trs fin he;cases l with
 | nil=>cases he;exact .inl rfl
 | cons o l =>
   simp only[trace] at he;have go:∀ {e h2 t},t.env=env->t.h=h->(trace P F keep ops l e h2).map (cons1 t)=some (trs,fin)->after1 trs fin 0=(env,h):=by
    intro e h2 t h3 h4 hh;obtain ⟨⟨trs',fin'⟩,h1,h2⟩:=Z0.1 hh;simp only[cons1,Prod.mk.injEq] at h2;obtain ⟨rfl,rfl⟩:=h2;simp [after1,h3,h4]
   split at he
   ·exact .inl (go rfl rfl he)
   ·split at he
    ·exact .inl (go rfl rfl he)
    ·split at he
     ·exact .inl (go rfl rfl he)
     ·cases he;exact .inl rfl
     ·cases he
   ·cases he
theorem trace_len {P:Program} {F:FT} {keep:Bool} {ops:Array Oper}:∀ (l:List Oper) (env:List Value) (h:AH) (trs:List TR) (fin:Fin'),trace P F keep ops l env h=some (trs,fin) ->
 (∃ e2 h2,fin = .norm e2 h2/\trs.length=l.length)\/(∃ v h2,fin = .pan v h2/\0<trs.length/\trs.length<=l.length):=by
 intro l
 induction l with
 | nil=>intro env h trs fin he;cases he;exact .inl ⟨_,_,rfl,rfl⟩
 | cons o l ih =>
   intro env h trs fin he;simp only[trace] at he;have rec1:∀ {env h t},(trace P F keep ops l env h).map (cons1 t)=some (trs,fin)->(∃ e2 h2,fin = .norm e2 h2/\trs.length=(o::l).length)\/(∃ v h2,fin = .pan v h2/\0<trs.length/\trs.length<=(o::l).length):=by
    intro env h t hh;obtain ⟨⟨trs',fin'⟩,h1,h2⟩:=Z0.1 hh;simp only[cons1,Prod.mk.injEq] at h2;obtain ⟨rfl,rfl⟩:=h2
    rcases ih _ _ _ _ h1 with ⟨e2,h2,e,hl⟩|⟨v,h2,e,hl,hl'⟩
    ·exact .inl ⟨e2,h2,e,by simp [hl]⟩
    ·exact .inr ⟨v,h2,e,by simp,by simpa using hl'⟩
   split at he
   ·exact rec1 he
   ·split at he
    ·exact rec1 he
    ·split at he
     ·exact rec1 he
     ·cases he;exact .inr ⟨_,_,rfl,by simp,by simp⟩
     ·cases he
   ·cases he
theorem trace_step {P:Program} {F:FT} {keep:Bool} {ops:Array Oper}:∀ (l:List Oper) (env:List Value) (h:AH) (trs:List TR) (fin:Fin'),trace P F keep ops l env h=some (trs,fin) ->
 ∀ (i:Nat) (t:TR) (o:Oper),trs[i]?=some t->l[i]?=some o->StepF P F keep ops o t (after1 trs fin (i+1)) (decide (i+1=trs.length)) fin:=by
 intro l
 induction l with
 | nil=>intro env h trs fin he i t o hi;cases he;simp at hi
 | cons o l ih =>
   intro env h trs fin he i t o' hi ho;simp only[trace] at he;have aft:∀ {env h t0 trs' fin'},trace P F keep ops l env h=some (trs',fin')->after1 (t0::trs') fin' 1=(env,h):=by
    intro env h t0 trs' fin' h1;have:after1 (t0::trs') fin' 1=after1 trs' fin' 0:=by simp [after1]
    rw[this]
    rcases trace_ok _ _ _ _ _ h1 with h2|⟨h2,h3⟩
    ·exact h2
    ·rcases trace_len _ _ _ _ _ h1 with ⟨_,_,_,hl⟩|⟨_,_,_,hl,_⟩
     ·rw[h2] at hl;exact absurd (Z6.1 hl.symm) h3
     ·rw[h2] at hl;simp at hl
   have rec1:∀ {env h t0 trs' fin'},trace P F keep ops l env h=some (trs',fin')->trs=t0::trs'->fin=fin'->0<i->StepF P F keep ops o' t (after1 trs fin (i+1)) (decide (i+1=trs.length)) fin:=by
    intro env h t0 trs' fin' h1 e1 e2 hpos;subst e1;subst e2;obtain ⟨i,rfl⟩:∃ k,i=k+1:=⟨i-1,by omega⟩
    have:=ih _ _ _ _ h1 i t o' (by simpa using hi) (by simpa using ho);have e3:after1 (t0::trs') fin (i+1+1)=after1 trs' fin (i+1):=by simp [after1]
    have e4:decide (i+1+1=(t0::trs').length)=decide (i+1=trs'.length):=by simp
    rw[e3,e4];exact this
   split at he
   ·rename_i hw
    obtain ⟨⟨trs',fin'⟩,h1,h2⟩:=Z0.1 he;simp only[cons1,Prod.mk.injEq] at h2;obtain ⟨rfl,rfl⟩:=h2;cases i with
    | zero =>
      simp at hi ho;subst hi;subst ho;rw[aft h1];refine ⟨hw,fun _=>⟨rfl,rfl,rfl⟩,?_,?_⟩<;>(intro hh;simp at hh)
    | succ i=>exact rec1 h1 rfl rfl (by omega)
   ·rename_i hw
    split at he
    ·rename_i v hrd
     obtain ⟨⟨trs',fin'⟩,h1,h2⟩:=Z0.1 he;simp only[cons1,Prod.mk.injEq] at h2;obtain ⟨rfl,rfl⟩:=h2;cases i with
     | zero =>
       simp at hi ho;subst hi;subst ho;rw[aft h1];refine ⟨hw,?_,fun _ _=>⟨hrd,rfl⟩,?_⟩
       ·intro hh;simp at hh
       ·intro _ hh;simp at hh
     | succ i=>exact rec1 h1 rfl rfl (by omega)
    ·split at he
     ·rename_i v h' hv
      obtain ⟨⟨trs',fin'⟩,h1,h2⟩:=Z0.1 he;simp only[cons1,Prod.mk.injEq] at h2;obtain ⟨rfl,rfl⟩:=h2;cases i with
      | zero =>
        simp at hi ho;subst hi;subst ho;rw[aft h1];refine ⟨hw,?_,?_,fun _ _=>.inl ⟨hv,rfl⟩⟩
        ·intro hh;simp at hh
        ·intro _ hh;simp at hh
      | succ i=>exact rec1 h1 rfl rfl (by omega)
     ·rename_i v h' hv
      cases he;cases i with
      | zero =>
        simp at hi ho;subst hi;subst ho;refine ⟨hw,?_,?_,fun _ _=>.inr ⟨by simp,v,h',rfl,hv⟩⟩
        ·intro hh;simp at hh
        ·intro _ hh;simp at hh
      | succ i=>simp at hi
     ·cases he
   ·cases he
theorem putv_length (env:List Value) (dst:Option Tmp) (v:Value):(putv env dst v).length=env.length:=by cases dst<;>simp [putv]
theorem trace_envlen {P:Program} {F:FT} {keep:Bool} {ops:Array Oper}:∀ (l:List Oper) (env:List Value) (h:AH) (trs:List TR) (fin:Fin'),trace P F keep ops l env h=some (trs,fin) ->
 ∀ (i:Nat) (t:TR),trs[i]?=some t->t.env.length=env.length:=by
 intro l
 induction l with
 | nil=>intro env h trs fin he i t hi;cases he;simp at hi
 | cons o l ih =>
   intro env h trs fin he i t hi;simp only[trace] at he;have go:∀ {v h2 t0},t0.env=env->(trace P F keep ops l (putv env o.dst v) h2).map (cons1 t0)=some (trs,fin)->t.env.length=env.length:=by
    intro v h2 t0 h3 hh;obtain ⟨⟨trs',fin'⟩,h1,h2⟩:=Z0.1 hh;simp only[cons1,Prod.mk.injEq] at h2;obtain ⟨rfl,rfl⟩:=h2;cases i with
    | zero=>simp at hi;subst hi;rw[h3]
    | succ i=>rw[ih _ _ _ _ h1 i t (by simpa using hi),putv_length]
   split at he
   ·exact go rfl he
   ·split at he
    ·exact go rfl he
    ·split at he
     ·exact go rfl he
     ·cases he
      cases i with
      | zero=>simp at hi;subst hi;rfl
      | succ i=>simp at hi
     ·cases he
   ·cases he
theorem trace_env {P:Program} {F:FT} {keep:Bool} {ops:Array Oper} {l:List Oper} {env:List Value} {h:AH} {trs:List TR} {fin:Fin'} (he:trace P F keep ops l env h=some (trs,fin)) :
 ∀ (i:Nat),(i<trs.length\/(i=trs.length /\ ∃ e2 h2,fin = .norm e2 h2)) -> ∀ (t:Nat) (v:Value),(after1 trs fin i).1[t]?=some v ->
 (∃ j tj oj,j<i/\trs[j]?=some tj/\l[j]?=some oj/\oj.dst=some t/\tj.v=v/\t<env.length)\/((∀ j oj,j<i->l[j]?=some oj->oj.dst≠some t)/\env[t]?=some v):=by
 intro i
 induction i with
 | zero =>
   intro hi t v hv;have:after1 trs fin 0=(env,h):=by
    rcases trace_ok _ _ _ _ _ he with h2|⟨h2,h3⟩
    ·exact h2
    ·rcases trace_len _ _ _ _ _ he with ⟨_,_,_,hl⟩|⟨_,_,_,hl,_⟩
     ·rw[h2] at hl;exact absurd (Z6.1 hl.symm) h3
     ·rw[h2] at hl;simp at hl
   rw[this] at hv;exact .inr ⟨fun j oj h=>by omega,hv⟩
 | succ i ih =>
   intro hi t v hv;have hi':i<trs.length:=by rcases hi with hi|⟨hi,_⟩<;>omega
   have hll:trs.length<=l.length:=by rcases trace_len _ _ _ _ _ he with ⟨_,_,_,hl⟩|⟨_,_,_,_,hl⟩<;>omega
   have htr:trs[i]?=some trs[i]:=by simp [hi']
   have ho:l[i]?=some l[i]:=by simp
   have st:=trace_step _ _ _ _ _ he i _ _ htr ho;have haft:(after1 trs fin i).1=trs[i].env:=by simp [after1,hi']
   have hnx:(after1 trs fin (i+1)).1=putv trs[i].env (l[i]'(by omega)).dst trs[i].v:=by
    obtain ⟨s1,s2,s3,s4⟩:=st;cases hw:trs[i].w with
    | false=>rw[(s2 hw).2.2]
    | true =>
      cases hk:trs[i].k with
      | false=>rw[(s3 hw hk).2]
      | true =>
        rcases s4 hw hk with ⟨_,h4⟩|⟨hlast,v',h',hfin,_⟩
        ·exact h4
        ·exfalso
         simp at hlast
         rcases hi with hi|⟨_,e2,h2,e⟩
         ·omega
         ·rw[e] at hfin;cases hfin
   have hlen:trs[i].env.length=env.length:=trace_envlen _ _ _ _ _ he i _ htr;rw[hnx] at hv
   by_cases hd:(l[i]'(by omega)).dst=some t
   ·simp only[putv,hd] at hv
    rw[List.getElem?_set] at hv;simp only[if_true] at hv
    split at hv
    ·rename_i hlt
     cases hv;exact .inl ⟨i,trs[i],l[i],by omega,htr,ho,hd,rfl,by omega⟩
    ·cases hv
   ·have hv':trs[i].env[t]?=some v:=by
     unfold putv at hv
     split at hv
     ·rename_i d hd'
      rw[List.getElem?_set_ne (fun e=>hd (by rw[hd',e]))] at hv;exact hv
     ·exact hv
    rcases ih (.inl hi') t v (by rw[haft];exact hv') with ⟨j,tj,oj,h1,h2⟩|⟨h1,h2⟩
    ·exact .inl ⟨j,tj,oj,by omega,h2⟩
    ·refine .inr ⟨fun j oj hj hoj=>?_,h2⟩
     by_cases e:j=i
     ·subst e;rw[ho] at hoj;cases hoj;exact hd
     ·exact h1 j oj (by omega) hoj
end Go.Eng
