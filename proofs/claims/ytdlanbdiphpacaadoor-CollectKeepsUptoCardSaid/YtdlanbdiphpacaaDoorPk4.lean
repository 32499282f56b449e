import Derived.Test.YtdlanbdiphpacaaDoorPk3
import Derived.Recover
import Derived.Laws.Externs
import Derived.Lib.MakeNoZero
import Derived.KernelRfl
set_option linter.unusedVariables false
set_option linter.unusedSimpArgs false
open Nat renaming reduceEqDiff -> ZA,reduceAdd -> ZB,reduceMul -> ZC,reduceLeDiff -> ZD,reduceLT -> ZE
open Int renaming reduceEq -> ZF
open Option renaming map_eq_some_iff->Z0
open Array renaming mem_toList_iff->Z1
open List renaming getElem?_append_left->Z2,length_eq_zero_iff->Z3,replicate->Z4,mem_iff_getElem?->Z5,getElem?_zipIdx->Z6
open Nat renaming zero_add->Z7
open Bool renaming false_eq_true->Z8
namespace Go.Eng
inductive Res where
 | ret (v:Value)
 | pan (v:Value)
inductive Out where
 | norm
 | exit (id:Nat)
 | ret
 | pan (v:Value)
structure Dfr where
 fn:Fn
 cap:List Value
 args:List Value
structure St where
 env:List Value
 h:AH
 ds:List Dfr
abbrev FT:=FuncId->List Value->AH->Option Tmp->Option (Res × AH)
def entry (v:Value):PanicEntry:={ v:=v,recovered:=false }
def FOk (P:Program) (F:FT):Prop :=
 ∀ (f:FuncId) (args:List Value) (h:AH) (tg:Option Tmp) (res:Res) (h':AH),F f args h tg=some (res,h') ->
 ∀ (r:Rho) (w:World) (args':Array Value),HR P r h w.heap->VL r args args'.toList ->
 ∀ (o:Oper) (a:Act) (K:Act->World->Prop) (Q:Exit->Act->World->Prop),
   (∀ v v' w' r',res = .ret v->Stp P r h w r' h' w'->VR r' v v'->K (a.put o.dst v') w') ->
   (∀ v v' w' r',res = .pan v->Stp P r h w r' h' w'->VR r' v v'->Q (.panic [entry v']) a w') ->
   o.upon P a K Q ((callFunc f args').run P w)
def putv (env:List Value) (dst:Option Tmp) (v:Value):List Value :=
 match dst with
 | some d=>env.set d v
 | none=>env
def acall1 (P:Program) (F:FT) (env:List Value) (h:AH) (c:Call) (tg:Option Tmp):Option (Res × AH) :=
 match c.callee with
 | .value f=>match ev env f,evs (ev env) c.args.toList with
   | some (.func (.func g) first cap),some args=>F g (first.toList++args++cap.toList) h tg
   | _,_=>none
 | .invoke x name=>match ev env x,evs (ev env) c.args.toList with
   | some (.iface t v),some args=>match methF P t name with
     | some g=>F g (v::args) h tg
     | none=>none
   | _,_=>none
 | _=>none
def adefer (env:List Value) (c:Call):Option Dfr :=
 match c.callee with
 | .value f=>match ev env f,evs (ev env) c.args.toList with
   | some (.func fn first cap),some args=>some ⟨fn,cap.toList,first.toList++args⟩
   | _,_=>none
 | _=>none
def aopv (P:Program) (F:FT) (keep:Bool) (env:List Value) (h:AH) (o:Oper):Option (Res × AH) :=
 match aread P (ev env) h h.length o with
 | some (v,none)=>some (.ret v,h)
 | some (v,some B)=>some (.ret v,h++[B])
 | none =>
   match awrite P keep (ev env) h o with
   | some (v,h')=>some (.ret v,h')
   | none =>
     match o.op with
     | .call c=>acall1 P F env h c o.dst
     | .panic x=>match ev env x with
       | some (.iface t v)=>some (.pan (.iface t v),h)
       | _=>none
     | _=>none
def aop (P:Program) (F:FT) (keep:Bool) (o:Oper) (s:St):Option (Out × St) :=
 match o.op with
 | .defer c=>match adefer s.env c with
   | some d=>some (.norm,⟨putv s.env o.dst undef,s.h,d::s.ds⟩)
   | none=>none
 | _ =>
   match aopv P F keep s.env s.h o with
   | some (.ret v,h')=>some (.norm,⟨putv s.env o.dst v,h',s.ds⟩)
   | some (.pan v,h')=>some (.pan v,⟨s.env,h',s.ds⟩)
   | none=>none
def DR1 (r:Rho) (d:Dfr) (d':Deferred):Prop:=∃ cap' args',d'={ target:=.fn d.fn cap',args:=args' }/\VL r d.cap cap'.toList/\VL r d.args args'.toList
def DR (r:Rho):List Dfr->List Deferred->Prop
 | [],[]=>True
 | d::l,d'::l'=>DR1 r d d'/\DR r l l'
 | _,_=>False
theorem DR1.mono {r r':Rho} (hr:r.le r') {d:Dfr} {d':Deferred} (h:DR1 r d d'):DR1 r' d d':=by
 obtain ⟨a,b,c,e,f⟩:=h;exact ⟨a,b,c,e.mono hr,f.mono hr⟩
theorem DR.mono {r r':Rho} (hr:r.le r'):∀ {l:List Dfr} {l':List Deferred},DR r l l'->DR r' l l'
 | [],[],_=>trivial
 | _::_,_::_,h=>⟨h.1.mono hr,h.2.mono hr⟩
 | [],_::_,h=>h.elim
 | _::_,[],h=>h.elim
structure SR (P:Program) (r:Rho) (s:St) (a:Act) (w:World):Prop where
 env:ER r s.env a.tmps
 hr:HR P r s.h w.heap
 ds:DR r s.ds a.defers
def OE (r:Rho):Out->Exit->Prop
 | .norm,e=>e = .normal
 | .exit id,e=>e = .exit id
 | .ret,e=>e = .ret
 | .pan v,e=>∃ v',e = .panic [entry v']/\VR r v v'
theorem put_defers (a:Act) (dst:Option Tmp) (v:Value):(a.put dst v).defers=a.defers:=by cases dst<;>rfl
abbrev Post (P:Program) (r:Rho) (h:AH) (w:World) (out:Out) (s':St) (Q:Exit->Act->World->Prop):Prop :=
 ∀ e a' w' r',OE r' out e->Stp P r h w r' s'.h w'->SR P r' s' a' w'->Q e a' w'
theorem run_call {a:Act} {c:Call} {f:Operand} (hc:c.callee = .value f) {g:FuncId} {first cap:Array Value} (hf:a.eval f = .func (.func g) first cap) {dst:Option Tmp} {type:TypeId} {pos:String}
 {after:Array Edge} {guard:Option (Nat × Bool)}:execOp a.eval ⟨dst,.call c,type,pos,after,guard⟩=callFunc g (first++c.args.map a.eval++cap):=by
 simp [execOp,resolve,hc,hf,Deferred.ofValue,invoke]
theorem run_invoke {P:Program} {a:Act} {c:Call} {x:Operand} {name:String} (hc:c.callee = .invoke x name) {t:TypeId} {v:Value} (hx:a.eval x = .iface t v) {g:FuncId} (hg:methF P t name=some g) {dst:Option Tmp} {type:TypeId} {pos:String}
 {after:Array Edge} {guard:Option (Nat × Bool)} {w:World}:(execOp a.eval ⟨dst,.call c,type,pos,after,guard⟩).run P w=(callFunc g (#[v]++c.args.map a.eval)).run P w:=by
 have hm:=fun n=>method_run (P:=P) hg n v w
 have h1:(#[Value.iface t v]++c.args.map a.eval)[0]?=some (Value.iface t v):=by rw[Array.getElem?_append_left (by simp)];rfl
 have h2:(#[Value.iface t v]++c.args.map a.eval).extract 1 (#[Value.iface t v]++c.args.map a.eval).size=c.args.map a.eval:=by
  apply Array.toList_inj.1
  simp;rw[List.take_of_length_le (by simp)]
 simp only[execOp,resolve,hc,hx,invoke,callMethod,Made.depth,Sem.run_bind,Sem.run_pure,Result.andThen_ok];rw[h1];have h3:(#[Value.iface t v]++c.args.map a.eval).extract 1=c.args.map a.eval:=h2;have hp:Sem.run P program w = .ok P w:=rfl;have hm':Sem.run P (method (P.types.size+100) t v name) w = .ok (g,v) w:=hm (P.types.size+99);simp only[h3,Sem.run_bind,hp,Result.andThen_ok,hm']
theorem aopv_ok {P:Program} {F:FT} (hF:FOk P F) {keep:Bool} {r:Rho} {env:List Value} {h h':AH} {a a0:Act} {w:World} (her:ER r env a.tmps) (hr:HR P r h w.heap) {o:Oper} {res:Res}
 (he:aopv P F keep env h o=some (res,h')) {K:Act->World->Prop} {Q:Exit->Act->World->Prop}
 (hK:∀ v v' w' r',res = .ret v->Stp P r h w r' h' w'->VR r' v v'->K (a0.put o.dst v') w')
 (hQ:∀ v v' w' r',res = .pan v->Stp P r h w r' h' w'->VR r' v v'->Q (.panic [entry v']) a0 w'):o.upon P a0 K Q ((execOp a.eval o).run P w):=by
 unfold aopv at he
 split at he
 ·rename_i v hrd
  cases he;obtain ⟨v',w',h1,h2,h3⟩:=aread_ok (w:=w) her.gr hr hr.free_end.2.1 hrd;rw[h1];exact hK _ _ _ r rfl (Stp.same hr h2) h3
 ·rename_i v B hrd
  cases he;obtain ⟨v',w',ob,x,h1,h2,h3,h4,h5,h6,h7,h8,h9,h10⟩:=aread_ok (w:=w) her.gr hr hr.free_end.2.1 hrd;rw[h1];exact hK _ _ _ _ rfl (Stp.push hr h6 h7 h2 h3 h4 h5) h10
 ·split at he
  ·rename_i v h' hwr
   cases he;obtain ⟨n,v',w',r',h1,h2,h3,h4⟩:=awrite_ok her.gr hr hwr;rw[h1]
   rcases h2 with rfl|⟨rfl,rfl⟩
   ·exact hK _ _ _ _ rfl h3 h4
   ·exact hK _ _ _ _ rfl h3 h4
  ·obtain ⟨dst,op,type,pos,after,guard⟩:=o
   dsimp only at he
   split at he
   case h_1 c _ _ =>
    unfold acall1 at he
    split at he
    ·rename_i f hcal
     split at he
     ·rename_i g first cap args hf hargs
      obtain ⟨f',c',e1,e2,e3⟩:=(ev_ok her hf).func_inv;have hv:=evs_ok her.gr hargs;rw[run_call hcal e1];refine hF g _ h _ res h' he r w _ hr ?_ _ a0 K Q hK hQ
      simpa using (e2.append hv).append e3
     ·cases he
    ·rename_i x name hcal
     split at he
     ·rename_i t v args hx hargs
      split at he
      ·rename_i g hg
       obtain ⟨v',e1,e2⟩:=(ev_ok her hx).iface_inv;have hv:=evs_ok her.gr hargs;rw[run_invoke hcal e1 hg];refine hF g _ h _ res h' he r w _ hr ?_ _ a0 K Q hK hQ
       simpa using VL.cons e2 hv
      ·cases he
     ·cases he
    ·cases he
   case h_2 x _ _ =>
    split at he
    ·rename_i t v hx
     cases he;obtain ⟨v',e1,e2⟩:=(ev_ok her hx).iface_inv;have:(execOp a.eval ⟨dst,.panic x,type,pos,after,guard⟩).run P w = .halt (.panic (.iface t v')) w:=by
      simp [execOp,e1,Instr.panic]
     rw[this];exact hQ _ _ _ r rfl (.refl hr) (.iface e2)
    ·cases he
   case h_3=>cases he
def wantA (ops:Array Oper) (env:List Value) (o:Oper):Option Bool :=
 match o.guard with
 | none=>some true
 | some (j,want) =>
   match (ops[j]?).bind (·.dst) with
   | some d=>match env[d]? with
     | some (.bool b)=>some (b == want)
     | some (.complex _ _ _)=>none
     | some _=>some false
     | none=>none
   | none=>some false
def aops (P:Program) (F:FT) (keep:Bool) (ops:Array Oper):List Oper->St->Option (Out × St)
 | [],s=>some (.norm,s)
 | o::l,s =>
   match wantA ops s.env o with
   | some true=>match aop P F keep o s with
     | some (.norm,s')=>aops P F keep ops l s'
     | x=>x
   | some false=>aops P F keep ops l ⟨putv s.env o.dst undef,s.h,s.ds⟩
   | none=>none
abbrev DT:=Array Oper->St->Option (Out × St)
def aloop (body:St->Option (Out × St)):Nat->St->Option (Out × St)
 | 0,_=>none
 | n+1,s=>match body s with
   | some (.norm,s')=>aloop body n s'
   | x=>x
def acode (P:Program) (F:FT) (D:DT) (keep:Bool):Nat->Code->St->Option (Out × St)
 | 0,_,_=>none
 | n+1,c,s=>match c with
   | .skip=>some (.norm,s)
   | .region _ ops false=>aops P F keep ops ops.toList s
   | .region _ ops true=>D ops s
   | .seq a b=>match acode P F D keep n a s with
     | some (.norm,s')=>acode P F D keep n b s'
     | x=>x
   | .cond c t e=>match ev s.env c with
     | some (.bool true)=>acode P F D keep n t s
     | some (.bool false)=>acode P F D keep n e s
     | _=>none
   | .block id b=>match acode P F D keep n b s with
     | some (.exit i,s')=>some (if i=id then .norm else .exit i,s')
     | x=>x
   | .loop b=>aloop (acode P F D keep n b) n s
   | .exit id=>some (.exit id,s)
   | .scope b=>acode P F D keep n b s
   | .ret=>some (.ret,s)
   | _=>none
def ares (P:Program) (env:List Value) (h:AH):List ResultVar->Option (List Value)
 | []=>some []
 | .tmp t::l=>match env[t]?,ares P env h l with
   | some v,some vs=>some (v::vs)
   | _,_=>none
 | .cell t ty::l=>match (env[t]?).bind (rload P h ty),ares P env h l with
   | some (v,_),some vs=>some (v::vs)
   | _,_=>none
def tup:List Value->Value
 | [v]=>v
 | vs=>.tuple vs.toArray
def resF (tmps:Array Value):ResultVar->Sem Value
 | .tmp t=>pure (tmps.getD t undef)
 | .cell a t=>do loadVar t (<- asAddr (tmps.getD a undef))
theorem results_eq (fn:Func) (tmps:Array Value):results fn tmps=(do let vs <- fn.results.mapM (resF tmps);pure (if h:vs.size=1 then vs[0] else .tuple vs)):=by
 unfold results
 congr 1
def recOp (o:Oper):Bool :=
 match o.op,o.guard with
 | .call c,none=>match c.callee with
   | .builtin .recover=>true
   | _=>false
 | _,_=>false
def recHead (c:Code):Option (Oper × Code) :=
 match c with
 | .seq (.region _ ops false) rest=>match ops.toList with
   | [o]=>if recOp o then some (o,rest) else none
   | _=>none
 | _=>none
def adef (P:Program) (F:FT) (D:FT->DT) (keep:FuncId->Bool) (fuel:Nat) (d:Dfr) (m:Option Value) (h:AH):Option AH :=
 match d.fn with
 | .func g =>
   match P.funcs[g]? with
   | some fn =>
     match fn.body.bind recHead with
     | some (o,rest) =>
       match acode P F (D F) (keep g) fuel rest ⟨putv ((d.args++d.cap)++Z4 (fn.ntmps-(d.args++d.cap).length) undef) o.dst (m.getD .nilIface),h,[]⟩ with
       | some (.norm,⟨env,h',[]⟩)=>(ares P env h' fn.results.toList).map fun _=>h'
       | some (.ret,⟨env,h',[]⟩)=>(ares P env h' fn.results.toList).map fun _=>h'
       | _=>none
     | none=>none
   | none=>none
 | _=>none
def leftBy:Out->Option (Option Value)
 | .norm | .ret=>some none
 | .pan v=>some (some v)
 | .exit _=>none
def unkV:Value:=.complex .f64 0 0
def aextB (P:Program) (f:FuncId) (args:List Value) (h:AH):Option (Res × AH) :=
 match P.funcs[f]? with
 | some fn =>
   if fn.body.isNone && ((Extern.allNextRows.lookup fn.origin).isNone) then
    if fn.name == "internal/abi.NoEscape" then
     match args with
     | [v]=>some (.ret v,h)
     | _=>none
    else if fn.name == "maps.clone" then
     match args with
     | [.iface t (.map (some b))]=>(hmap h b).map fun es=>(.ret (.iface t (.map (some h.length))),h++[.map es])
     | _=>none
    else if fn.name == "internal/bytealg.MakeNoZero" then
     match args,fn.resultTypes.toList with
     | [.int .i64 (.ofNat n)],[t]=>match P.underlying t with
       | some (.slice e)=>if sizeT P e=some 1/\bldT P e=false/\n<=140737488355328 then
        some (.ret (.slice (some ⟨h.length,0,none⟩) n n),h++[row e h.length (Z4 n unkV)]) else none
       | _=>none
     | _,_=>none
    else none
   else none
 | none=>none
theorem findNext_none {fn:Func} {N:String} (hn:fn.name=N) (h0:Extern.allNextRows.lookup N=none) (ho:(Extern.allNextRows.lookup fn.origin).isNone=true):Extern.findNext fn=none:=by
 have h1:Extern.allNextRows.lookup fn.origin=none:=by simpa using ho
 simp [Extern.findNext,hn,h0,h1]
theorem run_ext {P:Program} {f:FuncId} {fn:Func} (hf:P.funcs[f]?=some fn) (hb:fn.body.isNone=true) (ho:(Extern.allNextRows.lookup fn.origin).isNone=true) {N:String} (hn:fn.name=N) (h0:Extern.allNextRows.lookup N=none)
 (h1 : (N == "runtime.NumGoroutine") = false) {e : Array Value -> Sem Value} (he : Extern.find fn = some e) (args : Array Value) (w : World) : (callFunc f args).run P w = ((e args).run P w).andThen fun v w' => .ok (.value v) w' :=
 run_callFunc_extern hf (by rw[hn];exact h1) hb (findNext_none hn h0 ho) he args w
theorem digits_one:∀ (n t:Nat) (acc:Array Value),(∀ v∈acc.toList,v.oneCell'=true) -> ∀ v∈(Extern.BytealgMakeNoZero.digits n t acc).toList,v.oneCell'=true
 | 0,_,_,h=>h
 | n+1,t,acc,h=>by
   rw[Extern.BytealgMakeNoZero.digits];refine digits_one n _ _ fun v hv=>?_
   simp only[Array.toList_push,List.mem_append,List.mem_singleton] at hv
   rcases hv with hv|rfl
   ·exact h v hv
   ·rfl
theorem run_makeNoZero' {P:Program} {w:World} (ps:Array TypeId) (t e:TypeId) (ht:P.underlying t=some (.slice e)) (n:Nat) (hn:n<=281474976710656) :
 ∃ cs:Array Value,(Extern.BytealgMakeNoZero.makeNoZero ps #[t] #[.int .i64 n]).run P w = .ok (.slice (some ⟨w.heap.size,0,none⟩) n cs.size) (w.drew.drew.alloc (.cells cs e))/\n<=cs.size /\ ∀ v∈cs.toList,v.oneCell'=true:=by
 have hdef:Extern.BytealgMakeNoZero.makeNoZero ps #[t] #[.int .i64 n] =
  (do
   let .slice elem <- underlying t | stuck "bytealg.MakeNoZero: slice type expected"
   if (n : Int) < 0 || (n : Int) > 2 ^ 48 then runtimePanic (.error "makeslice: len out of range")
   let cap <- choose (.appendCap (n:Int).toNat 0 elem)
   askRoom cap
   let bytes <- choose (.extern "internal/bytealg.MakeNoZero.bytes" 0)
   let a <- newRow elem (Extern.BytealgMakeNoZero.digits cap bytes #[])
   pure (.slice (some a) (n:Int).toNat cap)):=rfl
 refine ⟨Extern.BytealgMakeNoZero.digits (grownCap w n 0 e) ((Question.extern "internal/bytealg.MakeNoZero.bytes" 0).cut (w.tape (w.drawn + 1) (.extern "internal/bytealg.MakeNoZero.bytes" 0))) #[], ?_, ?_, digits_one _ _ _ (by simp)⟩
 ·rw[hdef]
  have h1:¬ (n:Int)<0:=by omega
  have h2:¬ (281474976710656:Int)<(n:Int):=by omega
  simp [run_underlying ht,h1,h2,Question.forced,newRow,Lib.size_digits,grownCap]
 ·rw[Lib.size_digits]
  simpa using grownCap_ge w n 0 e
theorem aextB_ok {P:Program} {f:FuncId} {args:List Value} {h h':AH} {res:Res} (he:aextB P f args h=some (res,h')) {r:Rho} {w:World} {args':Array Value} (hr:HR P r h w.heap) (hargs:VL r args args'.toList)
 {o:Oper} {a:Act} {K:Act->World->Prop} {Q:Exit->Act->World->Prop} (hK:∀ v v' w' r',res = .ret v->Stp P r h w r' h' w'->VR r' v v'->K (a.put o.dst v') w'):o.upon P a K Q ((callFunc f args').run P w):=by
 unfold aextB at he
 split at he
 case h_2=>cases he
 case h_1 fn hf =>
  split at he
  case isFalse=>cases he
  case isTrue hc =>
   simp only[Bool.and_eq_true] at hc;obtain ⟨hb,ho⟩:=hc
   split at he
   ·rename_i hn
    have hn : fn.name = "internal/abi.NoEscape" := by simpa using hn
    split at he
    case h_2=>cases he
    case h_1 v =>
     cases he;obtain ⟨v',vs',e1,e2,e3⟩:=hargs.head;have e4:=e3.nil_left;subst e4;have e5:args' = #[v']:=by rw[<- e1]
     subst e5;rw[run_ext hf hb ho hn (by kernel_rfl) (by kernel_rfl) (e:=Extern.AbiNoEscape.same) (by unfold Extern.find;rw[hn];rfl)];exact hK v v' w r rfl (.refl hr) e2
   ·split at he
    ·rename_i hn
     have hn : fn.name = "maps.clone" := by simpa using hn
     split at he
     case h_2=>cases he
     case h_1 t b =>
      obtain ⟨es,h1,h2⟩:=Z0.1 he;cases h2;obtain ⟨v',vs',e1,e2,e3⟩:=hargs.head;have e4:=e3.nil_left;subst e4;have e5:args' = #[v']:=by rw[<- e1]
      subst e5;obtain ⟨u,rfl,e6⟩:=e2.iface_inv;obtain ⟨x,hb2,h0,rfl⟩:=e6.map_inv;obtain ⟨ms,clock,k1,k2,k3⟩:=hmap_ok hr h1 hb2;rw[run_ext hf hb ho hn (by kernel_rfl) (by kernel_rfl) (e:=Extern.MapsClone.clone) (by unfold Extern.find;rw[hn];rfl)];have hrun:(Extern.MapsClone.clone #[.iface t (.map (some x.blk))]).run P w = .ok (.iface t (.map (some w.heap.size))) (w.alloc (.map ms clock)):=by
       have hdef:Extern.MapsClone.clone #[.iface t (.map (some x.blk))]=(do
        let .map entries clock <- getObj x.blk | stuck "maps.clone: a map expected"
        pure (.iface t (.map (some (<- newObj (.map entries clock)))))):=rfl
       have hg:(getObj x.blk).run P w = .ok (.map ms clock) w:=by simp [getObj,Sem.run,k1]
       rw[hdef];simp [hg]
      rw[hrun];refine hK _ _ _ (r.upd h.length ⟨w.heap.size,0,0,0⟩) rfl (Stp.push hr (by rfl) ?_ rfl rfl rfl rfl) (.iface (.map (Rho.upd_same _ _ _) rfl));exact ⟨ms,clock,rfl,rfl,k2,fun i kv m a b=>⟨(k3 i kv m a b).1.mono (Rho.le_upd hr.free_end.2.1 _),(k3 i kv m a b).2.mono (Rho.le_upd hr.free_end.2.1 _)⟩⟩
    ·split at he
     ·rename_i hn
      have hn : fn.name = "internal/bytealg.MakeNoZero" := by simpa using hn
      split at he
      case h_2=>cases he
      case h_1 n t hts =>
       split at he
       case h_2=>cases he
       case h_1 e hu =>
        split at he
        case isFalse=>cases he
        case isTrue hcond =>
         obtain ⟨hsz,hnb,hle⟩:=hcond;cases he;obtain ⟨v',vs',e1,e2,e3⟩:=hargs.head;have e4:=e3.nil_left;subst e4;have e5:args' = #[v']:=by rw[<- e1]
         subst e5;cases e2.int_inv;have ht:fn.resultTypes = #[t]:=by rw[<- hts]
         obtain ⟨cs,k1,k2,k3⟩:=run_makeNoZero' (P:=P) (w:=w) fn.params t e hu n (by omega);rw[run_ext hf hb ho hn (by kernel_rfl) (by kernel_rfl) (e:=Extern.BytealgMakeNoZero.makeNoZero fn.params fn.resultTypes) (by unfold Extern.find;rw[hn];rfl),ht];rw[show (Value.int IntKind.i64 (Int.ofNat n)) = .int .i64 (n:Int) from rfl,k1];refine hK _ _ _ (r.upd h.length ⟨w.heap.size,0,cs.size,1⟩) rfl (Stp.push (w:=w) hr (by rfl) ?_ rfl rfl rfl rfl) (VR.slice (o:=0) (Rho.upd_same _ _ _) k2 (Nat.le_refl _) (by simp));refine ⟨cs,e,(0,0),rfl,fun _=>⟨rfl,rfl,rfl,fun _=>rfl⟩,hsz,by simp;exact k2,fun i v v' a b=>?_⟩;rw[List.getElem?_replicate] at a
         split at a
         ·cases a
          exact .unk _ _ _ (k3 v' (by simp only[Z7] at b;exact List.mem_of_getElem? (by simpa using b))) (fun e=>by cases e)
         ·cases a
     ·cases he
def noGoroutines (P : Program) : Bool := P.funcs.toList.all fun fn => !(fn.name == "runtime.NumGoroutine")
theorem run_callFunc {P:Program} (hP:noGoroutines P=true) {f:FuncId} {fn:Func} (hf:P.funcs[f]?=some fn) {c:Code} (hb:fn.body=some c) (args:Array Value) (w:World) :
 (callFunc f args).run P w = .ok (.enter f args) w:=by
 have h1:=List.all_eq_true.1 hP fn (by
  have:=Array.mem_of_getElem? hf;exact Z1.2 this)
 have h2 : (fn.name == "runtime.NumGoroutine") = false := by simpa using h1
 simp only[callFunc,Sem.run_bind,run_program,Result.andThen_ok,hf,h2,hb,Z8,if_false,Option.isNone_some,Sem.run_pure]
theorem DR.nil_inv {r:Rho} {l:List Deferred} (h:DR r [] l):l=[]:=by
 cases l with
 | nil=>rfl
 | cons=>exact h.elim
theorem start_env {P:Program} {r:Rho} {args:List Value} {args':Array Value} {h:AH} {w:World} (hargs:VL r args args'.toList) (k:Nat) :
 ER r (args++Z4 (k-args.length) undef) (args'++Array.replicate (k-args'.size) undef):=by
 intro i v hv;have hsize:args.length=args'.size:=by have:=hargs.1;simpa using this
 have:=hargs.append (VL.replicate (undef_vr r) (k-args.length));obtain ⟨v',h1,h2⟩:=this.get hv;refine ⟨v',?_,h2⟩;rw[hsize] at h1;rw[<- Array.getElem?_toList]
 simpa using h1
def MR (r:Rho):Option Value->FrameMode->Prop
 | none,u=>u = .returning
 | some v,u=>∃ v',u = .panicking [entry v']/\VR r v v'
theorem MR.ne_run {r:Rho} {m:Option Value} {u:FrameMode} (h:MR r m u):u ≠ .run:=by
 cases m with
 | none=>rw[h];simp
 | some v=>obtain ⟨v',rfl,_⟩:=h;simp
theorem recHead_inv {c:Code} {o:Oper} {rest:Code} (h:recHead c=some (o,rest)):∃ id,c = .seq (.region id #[o] false) rest/\recOp o=true:=by
 unfold recHead at h
 split at h
 ·rename_i id ops rest'
  split at h
  ·rename_i o' ho
   split at h
   ·rename_i hr
    cases h;have:ops = #[o]:=by
     apply Array.ext'
     simpa using ho
    subst this;exact ⟨id,rfl,hr⟩
   ·cases h
  ·cases h
 ·cases h
theorem recOp_run {P:Program} {o:Oper} (h:recOp o=true) (a:Act) (w:World):o.guard=none/\(execOp a.eval o).run P w = .ok .recover w:=by
 obtain ⟨dst,op,type,pos,after,guard⟩:=o;unfold recOp at h;simp only at h
 split at h
 ·rename_i c
  split at h
  ·rename_i hc
   refine ⟨rfl,?_⟩;simp [execOp,resolve,hc,invoke,builtin]
  ·cases h
 ·cases h
theorem all_scal_eq {r:Rho} {args:List Value} {args':Array Value} (h:args.all (scal 8)=true) (k:VL r args args'.toList):args'=args.toArray:=by
 have h1:args.toArray.toList.all (scal 8)=true:=by simpa using h
 exact all_eq (fun v v'=>scal_eq 8 v v') h1 (by simpa using k)
end Go.Eng

namespace Go.Eng
theorem evs_congr {env env':List Value}:∀ {l:List Operand},(∀ x∈l,ev env x=ev env' x)->evs (ev env) l=evs (ev env') l:=by
 intro l
 induction l with
 | nil=>intro _;rfl
 | cons x l ih =>
   intro h;simp only[evs,h x (by simp),ih fun y hy=>h y (by simp [hy])]
theorem evp_congr {env env':List Value}:∀ {l:List (Nat × Operand)},(∀ x∈l,ev env x.2=ev env' x.2)->evp (ev env) l=evp (ev env') l:=by
 intro l
 induction l with
 | nil=>intro _;rfl
 | cons x l ih =>
   intro h;obtain ⟨i,x⟩:=x;simp only[evp,h (i,x) (by simp),ih fun y hy=>h y (by simp [hy])]
theorem all_congr {α:Type} {f g:α->Bool}:∀ {l:List α},(∀ x∈l,f x=g x)->l.all f=l.all g:=by
 intro l
 induction l with
 | nil=>intro _;rfl
 | cons x l ih=>intro h;simp only[List.all_cons,h x (by simp),ih fun y hy=>h y (by simp [hy])]
theorem rscal_congr {P:Program} {env env':List Value} {o:Oper} (hx:∀ x∈o.op.operands,ev env x=ev env' x):rscal P (ev env) o=rscal P (ev env') o:=by
 unfold rscal;rw[all_congr (g:=fun x=>okScal (ev env' x)) (fun x h=>by rw[hx x (by simpa using h)])]
 by_cases hs:notSel o.op=true
 ·rw[execOp_congr (ρ:=fun x=>(ev env x).getD undef) (ρ':=fun x=>(ev env' x).getD undef) o (fun cs b e=>by rw[e] at hs;cases hs) (fun x h=>by simp only[hx x h])]
 ·simp [hs]
theorem evo_congr {env env':List Value} {x:Option Operand} (h:∀ y∈x,ev env y=ev env' y):evo (ev env) x=evo (ev env') x:=by
 cases x with
 | none=>rfl
 | some x=>simp only[evo,h x rfl]
theorem aread_congr {P:Program} {env env':List Value} {h:AH} {m:Nat} {o:Oper} (hx:∀ x∈o.op.operands,ev env x=ev env' x):aread P (ev env) h m o=aread P (ev env') h m o:=by
 have hsc:=rscal_congr (P:=P) hx;obtain ⟨dst,op,type,pos,after,guard⟩:=o;simp only at hx;unfold aread;cases op<;>simp only[Op.operands] at hx<;>dsimp only
 case move x=>rw[hx x (by simp)]
 case assign x=>rw[hx x (by simp)]
 case pick c a b=>rw[hx c (by simp),hx a (by simp),hx b (by simp)]
 case box t x=>rw[hx x (by simp)]
 case build t ps=>rw[evp_congr (env':=env') fun p hp=>hx p.2 (by simp;exact ⟨p.1,by simpa using hp⟩)]
 case buildSlice t n ps=>rw[evp_congr (env':=env') fun p hp=>hx p.2 (by simp;exact ⟨p.1,by simpa using hp⟩)]
 case load t x=>rw[hx x (by simp)]
 case nilCheck x=>rw[hx x (by simp)]
 case binOp op t x y yt=>rw[hsc,hx x (by simp),hx y (by simp)]
 case unOp=>rw[hsc]
 case convert s d x=>rw[hsc,hx x (by simp)]
 case makeInterface t x=>rw[hx x (by simp)]
 case makeFunc fn f c=>rw[evs_congr (env':=env') (l:=f.toList) fun x hq=>hx x (by simp at hq;simp [hq]),evs_congr (env':=env') (l:=c.toList) fun x hq=>hx x (by simp at hq;simp [hq])]
 case makeMap t r=>cases r<;>rfl
 case makeSlice t l c=>rw[hx l (by simp),hx c (by simp)]
 case slice t x lo hi mx =>
  rw[hsc,hx x (by simp),evo_congr (env':=env') (x:=lo) fun y hy=>hx y (by simp at hy;subst hy;simp),evo_congr (env':=env') (x:=hi) fun y hy=>hx y (by simp at hy;subst hy;simp),
   evo_congr (env':=env') (x:=mx) fun y hy=>hx y (by simp at hy;subst hy;simp)]
 case fieldAddr t x f=>rw[hx x (by simp)]
 case field t x f=>rw[hx x (by simp)]
 case indexAddr t x i=>rw[hx x (by simp),hx i (by simp)]
 case index t x i=>rw[hsc,hx x (by simp),hx i (by simp)]
 case lookup t x k ok=>rw[hx x (by simp),hx k (by simp)]
 case typeAssert x t u ok=>rw[hx x (by simp)]
 case extract x i=>rw[hx x (by simp)]
 case call c =>
  unfold rcall
  split
  ·split
   ·rename_i x t ha ht
    have:x∈c.args:=by rw[<- Z1,ha];simp
    rw[hsc,hx x (by simp [Call.operands,this])]
   ·rfl
  ·rw[hsc]
  ·rw[hsc]
  ·rw[hsc]
  ·split
   ·rename_i x ha
    have:x∈c.args:=by rw[<- Z1,ha];simp
    rw[hx x (by simp [Call.operands,this])]
   ·rfl
  ·rfl
theorem awrite_congr {P:Program} {keep:Bool} {env env':List Value} {h:AH} {o:Oper} (hx:∀ x∈o.op.operands,ev env x=ev env' x):awrite P keep (ev env) h o=awrite P keep (ev env') h o:=by
 obtain ⟨dst,op,type,pos,after,guard⟩:=o;simp only at hx;unfold awrite;cases op<;>simp only[Op.operands] at hx<;>dsimp only
 case store t a x=>rw[hx a (by simp),hx x (by simp)]
 case mapUpdate t m k x=>rw[hx m (by simp),hx k (by simp),hx x (by simp)]
 case insert t m k x=>rw[hx m (by simp),hx k (by simp),hx x (by simp)]
 case call c =>
  have hm:∀ x∈c.args.toList,ev env x=ev env' x:=fun x hq=>hx x (by simp [Call.operands];right;simpa using hq)
  split
  ·rename_i ha ht;rw[ha] at hm;rw[hm _ (by simp),hm _ (by simp)]
  ·rename_i ha ht;rw[ha] at hm;rw[hm _ (by simp)]
  ·rename_i ha ht;rw[ha] at hm;rw[hm _ (by simp),hm _ (by simp)]
  ·rename_i ha ht;rw[ha] at hm;rw[hm _ (by simp),hm _ (by simp)]
  ·rename_i ha ht;rw[ha] at hm;rw[hm _ (by simp),hm _ (by simp)]
  ·rfl
theorem aopv_congr {P:Program} {F:FT} {keep:Bool} {env env':List Value} {h:AH} {o:Oper} (hx:∀ x∈o.op.operands,ev env x=ev env' x):aopv P F keep env h o=aopv P F keep env' h o:=by
 unfold aopv;rw[aread_congr hx,awrite_congr hx];obtain ⟨dst,op,type,pos,after,guard⟩:=o;simp only at hx
 dsimp only
 split<;>try rfl
 split<;>try rfl
 split
 ·rename_i c _ _
  simp only[Op.operands] at hx;unfold acall1
  split
  ·rename_i f hf
   rw[hx f (by simp [Call.operands,hf]),evs_congr (env':=env') fun x hq=>hx x (by simp [Call.operands];right;simpa using hq)]
  ·rename_i f nm hf
   rw[hx f (by simp [Call.operands,hf]),evs_congr (env':=env') fun x hq=>hx x (by simp [Call.operands];right;simpa using hq)]
  ·rfl
 ·rename_i x _ _
  simp only[Op.operands] at hx;rw[hx x (by simp)]
 ·rfl
end Go.Eng

namespace Go.Eng
def ancOf (ds:List Nat) (o:Oper):Nat :=
 o.after.toList.foldl (fun m e=>if Region.binds .any e then m ||| (2 ^ e.on ||| (ds[e.on]?).getD 0) else m) 0
def ancsGo:List Oper->List Nat->List Nat
 | [],ds=>ds
 | o::l,ds=>ancsGo l (ds++[ancOf ds o])
def ancs (l:List Oper):List Nat:=ancsGo l []
theorem ancsGo_pre:∀ (l:List Oper) (ds:List Nat) (i:Nat),i<ds.length->(ancsGo l ds)[i]?=ds[i]?:=by
 intro l
 induction l with
 | nil=>intro ds i _;rfl
 | cons o l ih =>
   intro ds i hi;simp only[ancsGo];rw[ih _ i (by simp;omega),Z2 hi]
theorem ancsGo_get:∀ (l:List Oper) (ds:List Nat) (k:Nat) (o:Oper),l[k]?=some o -> ∃ ds',(∀ j,j<ds.length+k->ds'[j]?=(ancsGo l ds)[j]?)/\ds'.length=ds.length+k/\(ancsGo l ds)[ds.length+k]?=some (ancOf ds' o):=by
 intro l
 induction l with
 | nil=>intro ds k o h;simp at h
 | cons x l ih =>
   intro ds k o h;cases k with
   | zero =>
     simp at h;subst h;refine ⟨ds,fun j hj=>?_,rfl,?_⟩
     ·simp only[ancsGo]
      rw[ancsGo_pre _ _ j (by simp;omega),Z2 (by omega)]
     ·simp only[ancsGo]
      rw[ancsGo_pre _ _ _ (by simp)];simp
   | succ k =>
     obtain ⟨ds',h1,h2,h3⟩:=ih (ds++[ancOf ds x]) k o (by simpa using h);simp only[List.length_append,List.length_cons,List.length_nil,Z7] at h1 h2 h3;refine ⟨ds',fun j hj=>?_,by omega,?_⟩
     ·simp only[ancsGo];exact h1 j (by omega)
     ·simp only[ancsGo];rw[show ds.length+(k+1)=ds.length+1+k by omega];exact h3
theorem fold_bit (ds:List Nat) (j:Nat):∀ (l:List Edge) (m:Nat),(l.foldl (fun m e=>if Region.binds .any e then m ||| (2 ^ e.on ||| (ds[e.on]?).getD 0) else m) m).testBit j=true ->
 m.testBit j=true \/ ∃ e∈l,Region.binds .any e=true/\(j=e.on\/((ds[e.on]?).getD 0).testBit j=true):=by
 intro l
 induction l with
 | nil=>intro m h;exact .inl h
 | cons e l ih =>
   intro m h;simp only[List.foldl_cons] at h
   rcases ih _ h with h|⟨e',h1,h2⟩
   ·split at h
    ·rename_i hb
     rw[Nat.testBit_or,Nat.testBit_or,Bool.or_eq_true,Bool.or_eq_true] at h
     rcases h with h|h|h
     ·exact .inl h
     ·rw[Nat.testBit_two_pow] at h
      exact .inr ⟨e,by simp,hb,.inl (by simpa [eq_comm] using h)⟩
     ·exact .inr ⟨e,by simp,hb,.inr h⟩
    ·exact .inl h
   ·exact .inr ⟨e',by simp [h1],h2⟩
theorem anc_spec {l:List Oper} {i j:Nat} {o:Oper} (ho:l[i]?=some o) (h:(((ancs l)[i]?).getD 0).testBit j=true) :
 ∃ e∈o.after,Region.binds .any e=true/\(j=e.on\/(e.on<i/\(((ancs l)[e.on]?).getD 0).testBit j=true)):=by
 obtain ⟨ds,h1,h2,h3⟩:=ancsGo_get l [] i o ho;simp only[List.length_nil,Z7] at h1 h2 h3;unfold ancs at h ⊢;rw[h3] at h;simp only[Option.getD_some] at h;unfold ancOf at h
 rcases fold_bit ds j _ _ h with h|⟨e,he,hb,hj⟩
 ·simp at h
 ·refine ⟨e,by simpa using he,hb,?_⟩
  rcases hj with rfl|hj
  ·exact .inl rfl
  ·by_cases hlt:e.on<i
   ·rw[h1 _ hlt] at hj;exact .inr ⟨hlt,hj⟩
   ·rw[List.getElem?_eq_none (by omega)] at hj;simp at hj
def Closed (ops:Array Oper) (L:Nat->Bool):Prop :=
 ∀ (i:Nat) (o:Oper),ops[i]?=some o->L i=true -> ∀ e∈o.after,Region.binds .any e=true->L e.on=true
theorem Closed.anc {ops:Array Oper} {L:Nat->Bool} (hL:Closed ops L) {i:Nat} {o:Oper} (ho:ops[i]?=some o) (hdeps:∀ e∈o.after,Region.binds .any e=true->L e.on=true) :
 ∀ j,(((ancs ops.toList)[i]?).getD 0).testBit j=true->L j=true:=by
 induction i using Nat.strongRecOn generalizing o with
 | _ i ih =>
   intro j hj;obtain ⟨e,he,hb,hje⟩:=anc_spec (by simpa using ho) hj
   rcases hje with rfl|⟨hlt,hj'⟩
   ·exact hdeps e he hb
   ·have hle:=hdeps e he hb
    cases hoe:ops[e.on]? with
    | none =>
      exfalso
      have hlt':¬ e.on<ops.size:=by
       intro hh;rw[Array.getElem?_eq_getElem hh] at hoe;cases hoe
      have hi:=(Array.getElem?_eq_some_iff.1 ho).1;omega
    | some oe=>exact ih e.on hlt hoe (fun e' he' hb'=>hL e.on oe hoe hle e' he' hb') j hj'
structure TR where
 env:List Value
 h:AH
 w:Bool
 k:Bool
 v:Value
inductive Fin' where
 | norm (env:List Value) (h:AH)
 | pan (v:Value) (h:AH)
def cons1 (t:TR) (x:List TR × Fin'):List TR × Fin':=(t::x.1,x.2)
def trace (P:Program) (F:FT) (keep:Bool) (ops:Array Oper):List Oper->List Value->AH->Option (List TR × Fin')
 | [],env,h=>some ([],.norm env h)
 | o::l,env,h =>
   match wantA ops env o with
   | some false=>(trace P F keep ops l (putv env o.dst undef) h).map (cons1 ⟨env,h,false,false,undef⟩)
   | some true =>
     match aread P (ev env) h h.length o with
     | some (v,none)=>(trace P F keep ops l (putv env o.dst v) h).map (cons1 ⟨env,h,true,false,v⟩)
     | _ =>
       match aopv P F keep env h o with
       | some (.ret v,h')=>(trace P F keep ops l (putv env o.dst v) h').map (cons1 ⟨env,h,true,true,v⟩)
       | some (.pan v,h')=>some ([⟨env,h,true,true,v⟩],.pan v h')
       | none=>none
   | none=>none
def after1 (trs:List TR) (fin:Fin') (i:Nat):List Value × AH :=
 match trs[i]? with
 | some t=>(t.env,t.h)
 | none=>match fin with
   | .norm env h=>(env,h)
   | .pan _ h=>([],h)
def StepF (P:Program) (F:FT) (keep:Bool) (ops:Array Oper) (o:Oper) (t:TR) (nx:List Value × AH) (last:Bool) (fin:Fin'):Prop :=
 wantA ops t.env o=some t.w /\
 (t.w=false->t.k=false/\t.v=undef/\nx=(putv t.env o.dst t.v,t.h)) /\
 (t.w=true->t.k=false->aread P (ev t.env) t.h t.h.length o=some (t.v,none)/\nx=(putv t.env o.dst t.v,t.h)) /\
 (t.w=true->t.k=true->(aopv P F keep t.env t.h o=some (.ret t.v,nx.2)/\nx.1=putv t.env o.dst t.v) \/
  (last=true /\ ∃ v h',fin = .pan v h'/\aopv P F keep t.env t.h o=some (.pan v,h')))
theorem trace_ok {P:Program} {F:FT} {keep:Bool} {ops:Array Oper}:∀ (l:List Oper) (env:List Value) (h:AH) (trs:List TR) (fin:Fin'),trace P F keep ops l env h=some (trs,fin) ->
 after1 trs fin 0=(env,h)\/(trs=[]/\l≠[]):=by
 intro l env h trs fin he;cases l with
 | nil=>cases he;exact .inl rfl
 | cons o l =>
   simp only[trace] at he;have go:∀ {e h2 t},t.env=env->t.h=h->(trace P F keep ops l e h2).map (cons1 t)=some (trs,fin)->after1 trs fin 0=(env,h):=by
    intro e h2 t h3 h4 hh;obtain ⟨⟨trs',fin'⟩,h1,h2⟩:=Z0.1 hh;simp only[cons1,Prod.mk.injEq] at h2;obtain ⟨rfl,rfl⟩:=h2;simp [after1,h3,h4]
   split at he
   ·exact .inl (go rfl rfl he)
   ·split at he
    ·exact .inl (go rfl rfl he)
    ·split at he
     ·exact .inl (go rfl rfl he)
     ·cases he;exact .inl rfl
     ·cases he
   ·cases he
theorem trace_len {P:Program} {F:FT} {keep:Bool} {ops:Array Oper}:∀ (l:List Oper) (env:List Value) (h:AH) (trs:List TR) (fin:Fin'),trace P F keep ops l env h=some (trs,fin) ->
 (∃ e2 h2,fin = .norm e2 h2/\trs.length=l.length)\/(∃ v h2,fin = .pan v h2/\0<trs.length/\trs.length<=l.length):=by
 intro l
 induction l with
 | nil=>intro env h trs fin he;cases he;exact .inl ⟨_,_,rfl,rfl⟩
 | cons o l ih =>
   intro env h trs fin he;simp only[trace] at he;have rec1:∀ {env h t},(trace P F keep ops l env h).map (cons1 t)=some (trs,fin)->(∃ e2 h2,fin = .norm e2 h2/\trs.length=(o::l).length)\/(∃ v h2,fin = .pan v h2/\0<trs.length/\trs.length<=(o::l).length):=by
    intro env h t hh;obtain ⟨⟨trs',fin'⟩,h1,h2⟩:=Z0.1 hh;simp only[cons1,Prod.mk.injEq] at h2;obtain ⟨rfl,rfl⟩:=h2
    rcases ih _ _ _ _ h1 with ⟨e2,h2,e,hl⟩|⟨v,h2,e,hl,hl'⟩
    ·exact .inl ⟨e2,h2,e,by simp [hl]⟩
    ·exact .inr ⟨v,h2,e,by simp,by simpa using hl'⟩
   split at he
   ·exact rec1 he
   ·split at he
    ·exact rec1 he
    ·split at he
     ·exact rec1 he
     ·cases he;exact .inr ⟨_,_,rfl,by simp,by simp⟩
     ·cases he
   ·cases he
theorem trace_step {P:Program} {F:FT} {keep:Bool} {ops:Array Oper}:∀ (l:List Oper) (env:List Value) (h:AH) (trs:List TR) (fin:Fin'),trace P F keep ops l env h=some (trs,fin) ->
 ∀ (i:Nat) (t:TR) (o:Oper),trs[i]?=some t->l[i]?=some o->StepF P F keep ops o t (after1 trs fin (i+1)) (decide (i+1=trs.length)) fin:=by
 intro l
 induction l with
 | nil=>intro env h trs fin he i t o hi;cases he;simp at hi
 | cons o l ih =>
   intro env h trs fin he i t o' hi ho;simp only[trace] at he;have aft:∀ {env h t0 trs' fin'},trace P F keep ops l env h=some (trs',fin')->after1 (t0::trs') fin' 1=(env,h):=by
    intro env h t0 trs' fin' h1;have:after1 (t0::trs') fin' 1=after1 trs' fin' 0:=by simp [after1]
    rw[this]
    rcases trace_ok _ _ _ _ _ h1 with h2|⟨h2,h3⟩
    ·exact h2
    ·rcases trace_len _ _ _ _ _ h1 with ⟨_,_,_,hl⟩|⟨_,_,_,hl,_⟩
     ·rw[h2] at hl;exact absurd (Z3.1 hl.symm) h3
     ·rw[h2] at hl;simp at hl
   have rec1:∀ {env h t0 trs' fin'},trace P F keep ops l env h=some (trs',fin')->trs=t0::trs'->fin=fin'->0<i->StepF P F keep ops o' t (after1 trs fin (i+1)) (decide (i+1=trs.length)) fin:=by
    intro env h t0 trs' fin' h1 e1 e2 hpos;subst e1;subst e2;obtain ⟨i,rfl⟩:∃ k,i=k+1:=⟨i-1,by omega⟩
    have:=ih _ _ _ _ h1 i t o' (by simpa using hi) (by simpa using ho);have e3:after1 (t0::trs') fin (i+1+1)=after1 trs' fin (i+1):=by simp [after1]
    have e4:decide (i+1+1=(t0::trs').length)=decide (i+1=trs'.length):=by simp
    rw[e3,e4];exact this
   split at he
   ·rename_i hw
    obtain ⟨⟨trs',fin'⟩,h1,h2⟩:=Z0.1 he;simp only[cons1,Prod.mk.injEq] at h2;obtain ⟨rfl,rfl⟩:=h2;cases i with
    | zero =>
      simp at hi ho;subst hi;subst ho;rw[aft h1];refine ⟨hw,fun _=>⟨rfl,rfl,rfl⟩,?_,?_⟩<;>(intro hh;simp at hh)
    | succ i=>exact rec1 h1 rfl rfl (by omega)
   ·rename_i hw
    split at he
    ·rename_i v hrd
     obtain ⟨⟨trs',fin'⟩,h1,h2⟩:=Z0.1 he;simp only[cons1,Prod.mk.injEq] at h2;obtain ⟨rfl,rfl⟩:=h2;cases i with
     | zero =>
       simp at hi ho;subst hi;subst ho;rw[aft h1];refine ⟨hw,?_,fun _ _=>⟨hrd,rfl⟩,?_⟩
       ·intro hh;simp at hh
       ·intro _ hh;simp at hh
     | succ i=>exact rec1 h1 rfl rfl (by omega)
    ·split at he
     ·rename_i v h' hv
      obtain ⟨⟨trs',fin'⟩,h1,h2⟩:=Z0.1 he;simp only[cons1,Prod.mk.injEq] at h2;obtain ⟨rfl,rfl⟩:=h2;cases i with
      | zero =>
        simp at hi ho;subst hi;subst ho;rw[aft h1];refine ⟨hw,?_,?_,fun _ _=>.inl ⟨hv,rfl⟩⟩
        ·intro hh;simp at hh
        ·intro _ hh;simp at hh
      | succ i=>exact rec1 h1 rfl rfl (by omega)
     ·rename_i v h' hv
      cases he;cases i with
      | zero =>
        simp at hi ho;subst hi;subst ho;refine ⟨hw,?_,?_,fun _ _=>.inr ⟨by simp,v,h',rfl,hv⟩⟩
        ·intro hh;simp at hh
        ·intro _ hh;simp at hh
      | succ i=>simp at hi
     ·cases he
   ·cases he
theorem putv_length (env:List Value) (dst:Option Tmp) (v:Value):(putv env dst v).length=env.length:=by cases dst<;>simp [putv]
theorem trace_envlen {P:Program} {F:FT} {keep:Bool} {ops:Array Oper}:∀ (l:List Oper) (env:List Value) (h:AH) (trs:List TR) (fin:Fin'),trace P F keep ops l env h=some (trs,fin) ->
 ∀ (i:Nat) (t:TR),trs[i]?=some t->t.env.length=env.length:=by
 intro l
 induction l with
 | nil=>intro env h trs fin he i t hi;cases he;simp at hi
 | cons o l ih =>
   intro env h trs fin he i t hi;simp only[trace] at he;have go:∀ {v h2 t0},t0.env=env->(trace P F keep ops l (putv env o.dst v) h2).map (cons1 t0)=some (trs,fin)->t.env.length=env.length:=by
    intro v h2 t0 h3 hh;obtain ⟨⟨trs',fin'⟩,h1,h2⟩:=Z0.1 hh;simp only[cons1,Prod.mk.injEq] at h2;obtain ⟨rfl,rfl⟩:=h2;cases i with
    | zero=>simp at hi;subst hi;rw[h3]
    | succ i=>rw[ih _ _ _ _ h1 i t (by simpa using hi),putv_length]
   split at he
   ·exact go rfl he
   ·split at he
    ·exact go rfl he
    ·split at he
     ·exact go rfl he
     ·cases he
      cases i with
      | zero=>simp at hi;subst hi;rfl
      | succ i=>simp at hi
     ·cases he
   ·cases he
theorem trace_env {P:Program} {F:FT} {keep:Bool} {ops:Array Oper} {l:List Oper} {env:List Value} {h:AH} {trs:List TR} {fin:Fin'} (he:trace P F keep ops l env h=some (trs,fin)) :
 ∀ (i:Nat),(i<trs.length\/(i=trs.length /\ ∃ e2 h2,fin = .norm e2 h2)) -> ∀ (t:Nat) (v:Value),(after1 trs fin i).1[t]?=some v ->
 (∃ j tj oj,j<i/\trs[j]?=some tj/\l[j]?=some oj/\oj.dst=some t/\tj.v=v/\t<env.length)\/((∀ j oj,j<i->l[j]?=some oj->oj.dst≠some t)/\env[t]?=some v):=by
 intro i
 induction i with
 | zero =>
   intro hi t v hv;have:after1 trs fin 0=(env,h):=by
    rcases trace_ok _ _ _ _ _ he with h2|⟨h2,h3⟩
    ·exact h2
    ·rcases trace_len _ _ _ _ _ he with ⟨_,_,_,hl⟩|⟨_,_,_,hl,_⟩
     ·rw[h2] at hl;exact absurd (Z3.1 hl.symm) h3
     ·rw[h2] at hl;simp at hl
   rw[this] at hv;exact .inr ⟨fun j oj h=>by omega,hv⟩
 | succ i ih =>
   intro hi t v hv;have hi':i<trs.length:=by rcases hi with hi|⟨hi,_⟩<;>omega
   have hll:trs.length<=l.length:=by rcases trace_len _ _ _ _ _ he with ⟨_,_,_,hl⟩|⟨_,_,_,_,hl⟩<;>omega
   have htr:trs[i]?=some trs[i]:=by simp [hi']
   have ho:l[i]?=some l[i]:=by simp
   have st:=trace_step _ _ _ _ _ he i _ _ htr ho;have haft:(after1 trs fin i).1=trs[i].env:=by simp [after1,hi']
   have hnx:(after1 trs fin (i+1)).1=putv trs[i].env (l[i]'(by omega)).dst trs[i].v:=by
    obtain ⟨s1,s2,s3,s4⟩:=st;cases hw:trs[i].w with
    | false=>rw[(s2 hw).2.2]
    | true =>
      cases hk:trs[i].k with
      | false=>rw[(s3 hw hk).2]
      | true =>
        rcases s4 hw hk with ⟨_,h4⟩|⟨hlast,v',h',hfin,_⟩
        ·exact h4
        ·exfalso
         simp at hlast
         rcases hi with hi|⟨_,e2,h2,e⟩
         ·omega
         ·rw[e] at hfin;cases hfin
   have hlen:trs[i].env.length=env.length:=trace_envlen _ _ _ _ _ he i _ htr;rw[hnx] at hv
   by_cases hd:(l[i]'(by omega)).dst=some t
   ·simp only[putv,hd] at hv
    rw[List.getElem?_set] at hv;simp only[if_true] at hv
    split at hv
    ·rename_i hlt
     cases hv;exact .inl ⟨i,trs[i],l[i],by omega,htr,ho,hd,rfl,by omega⟩
    ·cases hv
   ·have hv':trs[i].env[t]?=some v:=by
     unfold putv at hv
     split at hv
     ·rename_i d hd'
      rw[List.getElem?_set_ne (fun e=>hd (by rw[hd',e]))] at hv;exact hv
     ·exact hv
    rcases ih (.inl hi') t v (by rw[haft];exact hv') with ⟨j,tj,oj,h1,h2⟩|⟨h1,h2⟩
    ·exact .inl ⟨j,tj,oj,by omega,h2⟩
    ·refine .inr ⟨fun j oj hj hoj=>?_,h2⟩
     by_cases e:j=i
     ·subst e;rw[ho] at hoj;cases hoj;exact hd
     ·exact h1 j oj (by omega) hoj
end Go.Eng

namespace Go.Eng
def bit (A:List Nat) (i j:Nat):Bool:=((A[i]?).getD 0).testBit j
def tempsOk (ops:Array Oper) (l:List Oper) (A:List Nat):Bool :=
 l.zipIdx.all fun (o,i) =>
  o.after.all (fun e=>!Region.binds .any e || decide (e.on<i)) &&
  l.zipIdx.all fun (o',j)=>i == j || match o'.dst with
   | none=>true
   | some t=>o.dst != some t && (!(o.looksAt ops).contains t || (if j<i then bit A i j else bit A j i))
def many (trs:List TR):Fin'->Nat
 | .norm _ _=>trs.length
 | .pan _ _=>trs.length-1
def allocOp (o:Oper):Bool :=
 match o.op with
 | .alloc _ | .box _ _ | .buildSlice _ _ _ | .makeMap _ none=>true
 | _=>false
theorem aread_alloc {P:Program} {env:List Value} {h h2:AH} {m:Nat} {o:Oper} (ha:allocOp o=true):aread P (ev env) h m o=aread P (ev env) h2 m o:=by
 obtain ⟨dst,op,type,pos,after,guard⟩:=o;unfold allocOp at ha;simp only at ha
 split at ha
 ·rfl
 ·rfl
 ·rfl
 ·rfl
 ·cases ha
def alOf (P:Program) (trs:List TR) (ops:Array Oper) (j:Nat):Bool :=
 match trs[j]?,ops[j]? with
 | some t,some o=>t.w && t.k && allocOp o && match aread P (ev t.env) t.h t.h.length o with
   | some (_,some _)=>true
   | _=>false
 | _,_=>false
def chainOk (n:Nat) (A:List Nat) (al:Nat->Bool) (trs:List TR) (fin:Fin'):Bool :=
 trs.zipIdx.all (fun (t,j)=>!t.k || al j || trs.zipIdx.all fun (t',i)=>!t'.k || !decide (i<j) || bit A j i) &&
 match fin with
 | .norm _ _=>true
 | .pan _ _=>(List.range n).all fun j=>!decide (trs.length<=j) || bit A j (trs.length-1)
def flushOk (n:Nat) (A:List Nat) (al:Nat->Bool) (trs:List TR):Bool :=
 trs.zipIdx.all fun (t,a)=>!al a || (trs.zipIdx.all (fun (t',j)=>!decide (j<=a) || decide (t'.h.length<=t.h.length)) &&
  (List.range n).all fun i=>!bit A i a || trs.zipIdx.all fun (t',j)=>!t'.k || !decide (j<a) || bit A i j)
def own (trs:List TR) (i:Nat):Nat:=(trs.take i).zipIdx.foldl (fun p (t,j)=>if t.k then j+1 else p) 0
theorem all_zipIdx {α:Type} {l:List α} {f:α × Nat->Bool} (h:l.zipIdx.all f=true) {i:Nat} {x:α} (hx:l[i]?=some x):f (x,i)=true:=by
 refine List.all_eq_true.1 h (x,i) ?_;rw[Z5];exact ⟨i,by rw[Z6,hx];simp⟩
theorem any_zipIdx {α:Type} {l:List α} {f:α × Nat->Bool} (h:l.zipIdx.any f=true):∃ i x,l[i]?=some x/\f (x,i)=true:=by
 obtain ⟨⟨x,i⟩,h1,h2⟩:=List.any_eq_true.1 h;rw[Z5] at h1;obtain ⟨k,hk⟩:=h1;rw[Z6] at hk;cases hx:l[k]? with
 | none=>simp [hx] at hk
 | some y=>simp [hx] at hk;obtain ⟨rfl,rfl⟩:=hk;exact ⟨k,y,hx,h2⟩
def ReadsP (P:Program) (l:List Oper) (A:List Nat) (trs:List TR) (fin:Fin'):Prop :=
 ∀ (i:Nat) (o:Oper) (t:TR) (p:Nat),l[i]?=some o->trs[i]?=some t->t.w=true->t.k=false ->
   (p=0 \/ ∃ j tj,p=j+1/\trs[j]?=some tj/\tj.k=true/\j<many trs fin)->p≠own trs i ->
   (∀ (j:Nat) (tj:TR),trs[j]?=some tj->tj.k=true->bit A i j=true->j<p) ->
   (∀ (j:Nat) (tj:TR),trs[j]?=some tj->tj.k=true->j<p->bit A j i=false) ->
   aread P (ev t.env) (after1 trs fin p).2 (after1 trs fin p).2.length o=some (t.v,none)
theorem own_spec (trs:List TR):∀ (i:Nat),i<=trs.length->(∀ j tj,trs[j]?=some tj->tj.k=true->j<i->j<own trs i)/\own trs i<=i/\(own trs i=0 \/ ∃ j tj,own trs i=j+1/\trs[j]?=some tj/\tj.k=true):=by
 intro i
 induction i with
 | zero=>intro _;exact ⟨fun j tj _ _ h=>by omega,by simp [own],.inl (by simp [own])⟩
 | succ i ih =>
   intro hi;obtain ⟨h1,h2,h3⟩:=ih (by omega);have hlt:i<trs.length:=by omega
   have e:own trs (i+1)=if trs[i].k then i+1 else own trs i:=by
    unfold own;rw[List.take_succ_eq_append_getElem hlt,List.zipIdx_append,List.foldl_append];have hm:min i trs.length=i:=Nat.min_eq_left (by omega);simp [hm]
   rw[e];cases hk:trs[i].k with
   | true =>
     simp only[if_true];exact ⟨fun j tj _ _ h=>by omega,Nat.le_refl _,.inr ⟨i,trs[i],rfl,by simp [hlt],hk⟩⟩
   | false =>
     simp only[Z8,if_false];refine ⟨fun j tj a b h=>?_,by omega,h3⟩
     by_cases hj:j=i
     ·subst hj;rw[List.getElem?_eq_getElem hlt] at a;cases a;rw[hk] at b;cases b
     ·exact h1 j tj a b (by omega)
theorem heap_const {P:Program} {F:FT} {keep:Bool} {ops:Array Oper} {l:List Oper} {env:List Value} {h:AH} {trs:List TR} {fin:Fin'} (he:trace P F keep ops l env h=some (trs,fin)) {p:Nat} :
 ∀ (q:Nat),p<=q->q<=trs.length->(q=trs.length -> ∃ e2 h2,fin = .norm e2 h2)->(∀ j tj,trs[j]?=some tj->p<=j->j<q->tj.k=false)->(after1 trs fin q).2=(after1 trs fin p).2:=by
 intro q
 induction q with
 | zero=>intro hp _ _ _;rw[Nat.le_zero.1 hp]
 | succ q ih =>
   intro hp hq hnorm hno
   by_cases e:p=q+1
   ·rw[e]
   ·have hlt:q<trs.length:=by omega
    have hll:trs.length<=l.length:=by rcases trace_len _ _ _ _ _ he with ⟨_,_,_,hl⟩|⟨_,_,_,_,hl⟩<;>omega
    rw[<- ih (by omega) (by omega) (fun h=>by omega) (fun j tj a b c=>hno j tj a b (by omega))];have st:=trace_step _ _ _ _ _ he q trs[q] l[q] (by simp [hlt]) (by simp);have hk:=hno q trs[q] (by simp [hlt]) (by omega) (by omega);have haft:(after1 trs fin q).2=trs[q].h:=by simp [after1,hlt]
    rw[haft];obtain ⟨s1,s2,s3,s4⟩:=st;cases hw:trs[q].w with
    | false=>rw[(s2 hw).2.2]
    | true=>rw[(s3 hw hk).2]
end Go.Eng
