import Derived.Test.YtnkbbpmcjopicaaDoorPk7
set_option linter.unusedVariables false
set_option linter.unusedSimpArgs false
open Nat renaming reduceEqDiff -> ZA,reduceAdd -> ZB,reduceMul -> ZC,reduceLeDiff -> ZD,reduceLT -> ZE
open Int renaming reduceEq -> ZF
open Nat renaming le_refl->Z0,le_trans->Ze
open Option renaming map_eq_some_iff->Z1,bind_eq_some_iff->Z3
open List renaming idxOf_lt_length_of_mem->Z2,range->Z4,all_eq_true->Z7,getElem_idxOf->Za,getElem?_eq_some_iff->Zc,getElem?_eq_getElem->Zd
open Array renaming getElem?_eq_none->Z5,getElem?_eq_some_iff->Z8,getElem?_setIfInBounds->Z9,getD_eq_getD_getElem?->Zb,replicate->Zf
open Bool renaming and_eq_true->Z6
namespace Go.Eng
section
variable {P:Program} {keep:Bool} {nm:List Nat} {N:Nat} {r r':Rho} {s:PS} {a:Act} {w w':World}
theorem ops_upon {g:Operand->Option Value} {h:AH} {o:Oper} {K Kp:Value->AH->Prop} (hg:GR r g a) (hr:HR P r h w.heap) (hop:OpS P keep g h o K Kp) {Ka:Act->World->Prop} {Q:Exit->Act->World->Prop}
 (hK:∀ v h',K v h' -> ∀ v' w' r',Stp P r h w r' h' w'->VR r' v v'->Ka (a.put o.dst v') w')
 (hQ:∀ v h',Kp v h' -> ∀ v' w' r',Stp P r h w r' h' w'->VR r' v v'->Q (.panic [entry v']) a w'):o.upon P a Ka Q ((execOp a.eval o).run P w):=by
 cases hop with
 | rd res h1 k =>
   obtain ⟨v,_|B⟩:=res
   ·obtain ⟨v',w',h1,h2,h3⟩:=aread_ok (w:=w) hg hr hr.free_end.2.1 h1
    rw[h1];exact hK v h k _ _ r (Stp.same hr h2) h3
   ·obtain ⟨v',w',ob,x,h1,h2,h3,h4,h5,h6,h7,h8,h9,h10⟩:=aread_ok (w:=w) hg hr hr.free_end.2.1 h1
    rw[h1];exact hK v _ k _ _ _ (Stp.push hr h6 h7 h2 h3 h4 h5) h10
 | wr v h' h0 h1 k =>
   obtain ⟨n,v',w',r',h1,h2,h3,h4⟩:=awrite_ok hg hr h1;rw[h1]
   rcases h2 with rfl|⟨rfl,rfl⟩
   ·exact hK v h' k _ _ _ h3 h4
   ·exact hK v h' k _ _ _ h3 h4
 | call c fo f first cap args res h' h0 h9 h1 h2 h3 h4 h5 h6 k =>
   obtain ⟨dst,op,type,pos,after,guard⟩:=o;simp only at h1;subst h1;obtain ⟨f',c',e1,e2,e3⟩:=(hg _ _ h3).func_inv;have hv:=evs_ok hg h4;rw[run_call h2 e1];refine h5 r w _ hr ?_ _ a Ka Q (fun v v' w' r' e st hvr=>?_) (fun v v' w' r' e st hvr=>?_)
   ·simpa using (e2.append hv).append e3
   ·subst e;cases k with|ret k=>exact hK v h' k _ _ _ st hvr
   ·subst e;cases k with|pan k=>exact hQ v h' k _ _ _ st hvr
 | inv c x name t v f args res h' h0 h9 h1 h2 h3 hm h4 h5 h6 k =>
   obtain ⟨dst,op,type,pos,after,guard⟩:=o;simp only at h1;subst h1;obtain ⟨v',e1,e2⟩:=(hg _ _ h3).iface_inv;have hv:=evs_ok hg h4;rw[run_invoke h2 e1 hm];refine h5 r w _ hr ?_ _ a Ka Q (fun v v' w' r' e st hvr=>?_) (fun v v' w' r' e st hvr=>?_)
   ·simpa using VL.cons e2 hv
   ·subst e;cases k with|ret k=>exact hK v h' k _ _ _ st hvr
   ·subst e;cases k with|pan k=>exact hQ v h' k _ _ _ st hvr
 | pan x t v h0 h9 h1 h2 k =>
   obtain ⟨dst,op,type,pos,after,guard⟩:=o;simp only at h1;subst h1;obtain ⟨v',e1,e2⟩:=(hg _ _ h2).iface_inv;have:(execOp a.eval ⟨dst,.panic x,type,pos,after,guard⟩).run P w = .halt (.panic (.iface t v')) w:=by
    simp [execOp,e1,Instr.panic]
   rw[this];exact hQ _ h k _ _ r (.refl hr) (.iface e2)
theorem wpo_dfr {f:RX} {args:List RX} {e l:PE} {h:AH} {ds:List Dfr} {Kd:Dfr->Prop} {K Kp:Value->AH->Prop} (hw:wpo P keep nm e l h ds Kd K Kp (.dfr f args)) :
 ∃ fn first cap ags,rx e l f=some (.func fn first cap)/\rxs e l args=some ags/\Kd ⟨fn,cap.toList,first.toList++ags⟩:=by
 obtain ⟨fv,h1,hw⟩:=vK_inv hw;obtain ⟨ags,h2,hw⟩:=vsK_inv hw;cases fv<;>try exact hw.elim
 exact ⟨_,_,_,ags,h1,h2,hw⟩
theorem resK_dfr {op:Op} {dst:Option Tmp} {type:TypeId} {pos:String} {after:Array Edge} {guard:Option (Nat × Bool)} {f:RX} {args:List RX} (hk:resK P nm ⟨dst,op,type,pos,after,guard⟩=some (.dfr f args)) :
 ∃ c fo as',op = .defer c/\c.callee = .value fo/\resX nm fo=some f/\resXs nm c.args.toList=some as'/\as'=args:=by
 have u:∀ {x:Operand} {g:U},res1 nm g x≠some (.dfr f args):=fun h=>by obtain ⟨y,_,h2⟩:=res1_inv h;cases h2
 have b:∀ {x y:Operand} {g:B},res2 nm g x y≠some (.dfr f args):=fun h=>by obtain ⟨y,_,_,_,h2⟩:=res2_inv h;cases h2
 have bd:∀ {α:Type} {o:Option α} {g:α->Option RK},(∀ x,g x≠some (.dfr f args))->o.bind g≠some (.dfr f args):=fun hg h=>by obtain ⟨x,_,h2⟩:=Z3.1 h;exact hg x h2
 have mp:∀ {α:Type} {o:Option α} {g:α->RK},(∀ x,g x ≠ .dfr f args)->o.map g≠some (.dfr f args):=fun hg h=>by obtain ⟨x,_,h2⟩:=Z1.1 h;exact hg x h2
 have no:∀ {x:RK},x ≠ .dfr f args->some x≠some (.dfr f args):=fun hg h=>hg (Option.some.inj h)
 cases op
 case defer c =>
  simp only[resK] at hk
  split at hk
  ·rename_i fo hcal
   split at hk
   ·rename_i f' as' h1 h2
    cases hk;exact ⟨c,fo,_,rfl,hcal,h1,h2,rfl⟩
   ·cases hk
  ·cases hk
 all_goals
  exfalso
  simp only[resK,resCall] at hk
 all_goals
  revert hk
  repeat' split
  all_goals first
   | exact u
   | exact b
   | exact bd fun _=>u
   | exact bd fun _=>b
   | exact mp (fun _ h=>by cases h)
   | exact bd fun _=>mp (fun _ h=>by cases h)
   | (intro _;contradiction)
   | exact no (fun h=>by cases h)
   | exact (fun h=>by cases h)
theorem wpr_ok {ops:Array Oper} {Φ:Out->PS->Prop}:∀ (os:List Oper) {rl:List RO},resOps P nm N ops os=some rl -> ∀ {r:Rho} {s:PS} {a:Act} {w:World},SP P nm N r s a w ->
 wpr P keep nm Φ rl s.e s.l s.h s.ds -> ∀ {Q:Exit->Act->World->Prop},PP P nm N r s.h w Φ Q->wpList P ops Q os a w:=by
 intro os
 induction os with
 | nil =>
   intro rl hl r s a w hs hw Q hQ;cases hl;exact hQ .norm _ hw _ _ _ r rfl (.refl hs.hr) ⟨hs.e,fun t v h=>hs.l t v (look_take1 h),hs.en,fun t v h=>hs.ln t v (look_take1 h),hs.sz,hs.hr,hs.ds⟩
 | cons o os ih =>
   intro rl hl r s a w hs hw Q hQ;simp only[resOps] at hl
   split at hl
   case h_2=>cases hl
   case h_1 x xs hx hxs =>
    cases hl;unfold resOp at hx
    split at hx
    case h_2=>cases hx
    case h_1 d g k hd hg hk =>
     cases hx;simp only[wpr] at hw;unfold wpList
     rcases resG_want hg hs hw with ⟨h1,h2⟩|⟨h1,h2⟩
     ·rw[h1]
      simp only[if_true];refine .inl ?_
      by_cases hdf:∃ f args,k = .dfr f args
      ·obtain ⟨f,args,rfl⟩:=hdf
       obtain ⟨fn,first,cap,ags,e1,e2,e3⟩:=wpo_dfr h2;obtain ⟨dst,op,type,pos,after,guard⟩:=o;have hop:∃ c fo as',op = .defer c/\c.callee = .value fo/\resX nm fo=some f/\resXs nm c.args.toList=some as'/\as'=args:=by
        exact resK_dfr hk
       obtain ⟨c,fo,as',rfl,hcal,hfo,has,rfl⟩:=hop;obtain ⟨f',c',k1,k2,k3⟩:=(hs.rx hfo e1).func_inv;have hv:=evs_ok hs.gr (evs_gof GG.gof has e2);have hrun:(execOp a.eval ⟨dst,.defer c,type,pos,after,guard⟩).run P w = .ok (.defer { target:=.fn fn c',args:=f'++c.args.map a.eval }) w:=by
        simp [execOp,resolve,hcal,k1,Deferred.ofValue]
       unfold Oper.wp;rw[hrun];refine ih hxs (s:=⟨pe d s.e undef,pl d s.l undef,s.h,⟨fn,cap.toList,first.toList++ags⟩::s.ds⟩) (r:=r) ?_ e3 hQ;have h0:SP P nm N r ⟨s.e,s.l,s.h,⟨fn,cap.toList,first.toList++ags⟩::s.ds⟩ { a with defers:={ target:=.fn fn c',args:=f'++c.args.map a.eval }::a.defers } w :=
        ⟨hs.e,hs.l,hs.en,hs.ln,hs.sz,hs.hr,⟨⟨c',_,rfl,k3,by simpa using k2.append hv⟩,hs.ds⟩⟩
       exact h0.put hd (.refl hs.hr) (undef_vr r)
      ·have hw':wpk P keep nm s.e s.l s.h (fun v h'=>wpr P keep nm Φ xs (pe d s.e v) (pl d s.l v) h' s.ds) (fun v h'=>Φ (.pan v) ⟨s.e,[],h',s.ds⟩) k:=by
        cases k<;>first|exact h2|exact absurd ⟨_,_,rfl⟩ hdf
       refine ops_upon hs.gr hs.hr (wpk_ok hk hw') (fun v h' kk v' w' r' st hv=>?_) (fun v h' kk v' w' r' st hv=>?_)
       ·exact ih hxs (hs.put hd st hv) kk (hQ.trans st)
       ·exact hQ _ _ kk _ _ _ r' ⟨v',rfl,hv⟩ st ⟨fun t u h=>let ⟨u',h1,h2⟩:=hs.e t u h;⟨u',h1,h2.mono st.le⟩,fun t u h=>(by cases h),hs.en,fun t u h=>(by cases h),hs.sz,st.hr,hs.ds.mono st.le⟩
     ·rw[h1]
      simp only[Bool.false_eq_true,if_false];exact ih hxs (hs.put hd (.refl hs.hr) (undef_vr r)) h2 hQ
def needOf (nm:List Nat) (ops:Array Oper):List RX :=
 ((ops.toList.zipIdx.flatMap fun (o,i)=>(o.looksAt ops).filter fun t=>!(ops.toList.take i).any fun o'=>o'.dst == some t).eraseDups).map fun t=>if nm.contains t then .n t else .t t
def potK:RK->Bool
 | .u (.bx _) _ | .u (.s2b _) _=>true
 | .u _ _ | .b _ _ _ | .pk _ _ _ | .bld _ _ | .mkf _ _ _ | .sls _ _ _ | .sll _ _ _ _ _=>false
 | _=>true
def alK:RK->Bool
 | .u (.bx _) _ | .al _ _ | .bsl _ _ _ _ | .mm=>true
 | _=>false
def sureK (o:RO):Bool:=o.g.isNone && match o.k with
 | .st _ _ _ | .call _ _=>true
 | _=>false
def ldK:RK->Bool
 | .u f _=>isLd f
 | _=>false
def freeU:U->Bool
 | .mv | .fa _ | .fd _ | .fdn _ _ | .ex _ | .nk | .nt | .ng | .cv _ | .lenS | .lenL | .ifc _ | .asn _ _ _=>true
 | _=>false
def freeB:B->Bool
 | .lk _ _ _=>false
 | _=>true
def freeK:RK->Bool
 | .u f _=>freeU f
 | .b f _ _=>freeB f
 | .pk _ _ _ | .bld _ _ | .mkf _ _ _=>true
 | _=>false
def badK:RK->Bool
 | .raw _ | .dfr _ _ | .pan _=>true
 | _=>false
def bitA (A:List Nat) (i j:Nat):Bool:=((A[i]?).getD 0).testBit j
def sureBet (A:List Nat) (rl:List RO) (lo hi:Nat) (tied:Nat->Bool):Bool:=rl.zipIdx.any fun (o,j)=>decide (lo<j) && decide (j<hi) && sureK o && tied j
def annot (A:List Nat) (rl:List RO):List DO :=
 rl.zipIdx.map fun (o,i) =>
  { o:=o,i:=i,w:=potK o.k
    chk:=if potK o.k then (rl.zipIdx.filterMap fun (o',j)=>if decide (j<i) && ldK o'.k && !bitA A i j && !sureBet A rl j i (fun q=>bitA A q j) then some j else none) else []
    old:=if ldK o.k then (rl.zipIdx.filterMap fun (o',j)=>if decide (j<i) && potK o'.k && !bitA A i j && !sureBet A rl j i (fun q=>bitA A i q) then some j else none) else [] }
def callOf:Oper->Bool:=fun o=>match o.op with
 | .call c=>match c.callee with
   | .value _ | .invoke _ _=>true
   | _=>false
 | _=>false
def callsOk:List Oper->Bool
 | []=>true
 | o::os=>(!callOf o || os.all fun o'=>!callOf o' || o'.dst != o.dst) && callsOk os
def wrK:RK->Bool
 | .st _ _ _ | .app _ _ _ _ _ _ _ | .clr _ _ _ | .cpy _ _ _ _ | .mup _ _ _ _ | .ust _ _ _ | .call _ _=>true
 | _=>false
def noWr (o:Oper):Bool:=match o.op with
 | .store _ _ _ | .mapUpdate _ _ _ _ | .insert _ _ _ _ | .panic _=>false
 | .call c=>match c.callee with
   | .builtin .append | .builtin .clear | .builtin .delete | .builtin .copy | .builtin .unsafeString | .value _ | .invoke _ _=>false
   | _=>true
 | _=>true
def noRd (o:Oper):Bool:=match o.op with
 | .store _ _ _ | .mapUpdate _ _ _ _ | .insert _ _ _ _=>true
 | .call c=>match c.callee with
   | .builtin .append | .builtin .clear | .builtin .delete | .builtin .copy | .builtin .unsafeString | .value _ | .invoke _ _=>true
   | _=>false
 | _=>false
def ldOk (P:Program) (o:Oper) (k:RK):Bool:=match k with
 | .u .ld _=>match o.op with
   | .load t _=>isAggT P t == some false
   | _=>false
 | .u (.ldn n) _=>match o.op with
   | .load t _=>isAggT P t == some true && sizeT P t == some n
   | _=>false
 | .u .b2s _=>match o.op with
   | .convert _ _ _=>true
   | _=>false
 | _=>true
def notSel1 (o:Oper):Bool:=match o.op with
 | .select _ _=>false
 | _=>true
def opOk (P:Program) (o:Oper) (k:RK):Bool:=!badK k && (wrK k || noWr o) && (!wrK k || noRd o) && (alK k == allocOp o) && ldOk P o k && notSel1 o
def drawS (P:Program) (ops:Array Oper) (A:List Nat) (rl:List RO):Bool :=
 (ops.toList.zip rl).all (fun p=>opOk P p.1 p.2.k) && callsOk ops.toList &&
 rl.zipIdx.all (fun (o,j)=>!potK o.k || alK o.k || rl.zipIdx.all fun (o',i)=>!decide (i<j) || !potK o'.k || bitA A j i) &&
 rl.zipIdx.all (fun (o,a)=>!alK o.k || (Z4 rl.length).all fun i=>!bitA A i a || rl.zipIdx.all fun (o',j)=>!decide (j<a) || !potK o'.k || bitA A i j) &&
 rl.zipIdx.all (fun (o,i)=>potK o.k || freeK o.k || ldK o.k || rl.zipIdx.all fun (o',j)=>!potK o'.k || bitA A i j || bitA A j i)
def panS (A:List Nat) (rl:List RO):Bool:=rl.zipIdx.all fun (o,i)=>match o.k with
 | .call _ _=>(Z4 rl.length).all fun j=>!decide (i<j) || bitA A j i
 | _=>true
def pickQ (n:Nat) (A:List Nat) (hl:Nat->Bool):Nat->List Nat->List Nat
 | 0,acc=>acc.reverse
 | f+1,acc=>match (Z4 n).find? (fun j=>!acc.contains j && hl j && (Z4 n).all fun i=>i == j || !bitA A j i || acc.contains i) with
   | some j=>pickQ n A hl f (j::acc)
   | none=>match (Z4 n).find? (fun j=>!acc.contains j) with
     | some j=>pickQ n A hl f (j::acc)
     | none=>acc.reverse
def rnO (q:List Nat) (o:Oper):Oper:={ o with after:=o.after.map fun e=>{ e with on:=q.idxOf e.on },guard:=o.guard.map fun g=>(q.idxOf g.1,g.2) }
def permQ (q:List Nat) (ops:Array Oper):Array Oper:=(q.map fun i=>rnO q (ops[i]?.getD default)).toArray
def goodQ (q:List Nat) (n:Nat):Bool:=q.length == n && (Z4 n).all q.contains && q.all (fun i=>decide (i<n)) && (Z4 n).all fun i=>q.idxOf (q[i]?.getD n) == i
def draw2 (P:Program) (nm:List Nat) (N:Nat) (ops:Array Oper):Bool:=match resOps P nm N ops ops.toList with
 | some rl=>drawS P ops (ancs ops.toList) rl
 | none=>false
def hstQ (P:Program) (nm:List Nat) (N:Nat) (ops:Array Oper):Option (List Nat) :=
 match resOps P nm N ops ops.toList with
 | some rl=>if panS (ancs ops.toList) rl then none else
   (fun q=>if goodQ q ops.size && draw2 P nm N (permQ q ops) then some q else none) (pickQ ops.size (ancs ops.toList) (fun j=>match rl[j]? with
    | some o=>freeK o.k || ldK o.k || alK o.k
    | none=>false) ops.size [])
 | none=>none
def hst (P:Program) (nm:List Nat) (N:Nat) (ops:Array Oper):Array Oper:=match hstQ P nm N ops with
 | some q=>permQ q ops
 | none=>ops
theorem permQ_get {q:List Nat} {ops:Array Oper} (hg:goodQ q ops.size=true) {i:Nat} (hi:i<ops.size):(permQ q ops)[q.idxOf i]?=(ops[i]?).map (rnO q):=by
 simp only[goodQ,Z6] at hg;obtain ⟨⟨⟨h1,h2⟩,h3⟩,h4⟩:=hg;have hm:i∈q:=by
  have:=Z7.1 h2 i (by simp;exact hi)
  simpa using this
 have hl:=Z2 hm;unfold permQ;rw[List.getElem?_toArray,List.getElem?_map,Zd hl];simp [Za hl,Array.getElem?_eq_getElem hi]
theorem goodQ_mem {q:List Nat} {n:Nat} (hg:goodQ q n=true) {i:Nat}:i∈q ↔ i<n:=by
 simp only[goodQ,Z6] at hg;obtain ⟨⟨⟨h1,h2⟩,h3⟩,h4⟩:=hg
 constructor
 ·intro h;have:=Z7.1 h3 i h;simpa using this
 ·intro h;have:=Z7.1 h2 i (by simp;exact h);simpa using this
theorem goodQ_len {q:List Nat} {n:Nat} (hg:goodQ q n=true):q.length=n:=by
 simp only[goodQ,Z6] at hg
 simpa using hg.1.1.1
theorem goodQ_back {q:List Nat} {n:Nat} (hg:goodQ q n=true) {k:Nat} (hk:k<n):∃ i,i<n/\q.idxOf i=k:=by
 have hl:=goodQ_len hg;have hm:=(goodQ_mem hg (i:=q[k]'(by omega))).1 (List.getElem_mem _);refine ⟨q[k]'(by omega),hm,?_⟩;simp only[goodQ,Z6] at hg;have:=Z7.1 hg.2 k (by simp;exact hk)
 simpa [Zd (show k<q.length by omega)] using this
theorem idxOf_out {q:List Nat} {n:Nat} (hg:goodQ q n=true) {i:Nat} (hi:¬ i<n):q.idxOf i=n:=by
 have hm:i ∉ q:=fun h=>hi ((goodQ_mem hg).1 h)
 rw[List.idxOf_eq_length hm,goodQ_len hg]
theorem perm_any {P:Program} {q:List Nat} {ops:Array Oper} (hg:goodQ q ops.size=true) {md:Region.Mode} {Q:Exit->Act->World->Prop}:∀ (fuel:Nat) (listed listed':Array Bool) (a:Act) (w:World),listed.size=ops.size->listed'.size=ops.size ->
 (∀ i,i<ops.size->listed[i]?=listed'[q.idxOf i]?)->wpAny P md (permQ q ops) Q fuel listed' a w->wpAny P md ops Q fuel listed a w:=by
 have hps:(permQ q ops).size=ops.size:=by simp [permQ,goodQ_len hg]
 have hlt:∀ {i:Nat},i<ops.size->q.idxOf i<ops.size:=fun {i} hi=>by
  have:=Z2 ((goodQ_mem hg).2 hi);rw[goodQ_len hg] at this;exact this
 have hinj:∀ {i j:Nat},i<ops.size->j<ops.size->q.idxOf i=q.idxOf j->i=j:=fun {i j} hi hj e=>by
  have h1:=Za (Z2 ((goodQ_mem hg).2 hi));have h2:=Za (Z2 ((goodQ_mem hg).2 hj));rw[<- h1,<- h2];simp only[e]
 have hget:∀ (listed listed':Array Bool),listed.size=ops.size->listed'.size=ops.size->(∀ i,i<ops.size->listed[i]?=listed'[q.idxOf i]?) -> ∀ (i:Nat) (d:Bool),listed.getD i d=listed'.getD (q.idxOf i) d:=by
  intro listed listed' s1 s2 h i d
  by_cases hi:i<ops.size
  ·have:=h i hi
   simp only[Zb,this]
  ·rw[idxOf_out hg hi]
   simp [Zb,Z5 (show listed.size<=i by omega),Z5 (show listed'.size<=ops.size by omega)]
 have hready:∀ (listed listed':Array Bool),listed.size=ops.size->listed'.size=ops.size->(∀ i,i<ops.size->listed[i]?=listed'[q.idxOf i]?) -> ∀ i,i<ops.size->(i∈Region.ready md ops listed ↔ q.idxOf i∈Region.ready md (permQ q ops) listed'):=by
  intro listed listed' s1 s2 h i hi;have hg2:=hget listed listed' s1 s2 h;rw[mem_ready,mem_ready,<- hg2,permQ_get hg hi];refine and_congr_right fun _=>?_
  constructor
  ·rintro ⟨o,h1,h2⟩
   refine ⟨rnO q o,by rw[h1];rfl,fun e he hb=>?_⟩;simp only[rnO,Array.mem_map] at he;obtain ⟨e0,he0,rfl⟩:=he;rw[<- hg2];exact h2 e0 he0 hb
  ·rintro ⟨o',h1,h2⟩
   obtain ⟨o,h3,rfl⟩:=Z1.1 h1;refine ⟨o,h3,fun e he hb=>?_⟩;rw[hg2];exact h2 _ (show ({ e with on:=q.idxOf e.on }:Edge)∈(rnO q o).after from Array.mem_map.2 ⟨e,he,rfl⟩) hb
 have hnil:∀ (listed listed':Array Bool),listed.size=ops.size->listed'.size=ops.size->(∀ i,i<ops.size->listed[i]?=listed'[q.idxOf i]?)->Region.ready md ops listed=[]->Region.ready md (permQ q ops) listed'=[]:=by
  intro listed listed' s1 s2 h h0;cases hr:Region.ready md (permQ q ops) listed' with
  | nil=>rfl
  | cons k l =>
    exfalso
    have hm:k∈Region.ready md (permQ q ops) listed':=by rw[hr];simp
    have hk:k<ops.size:=by
     obtain ⟨_,o,h2,_⟩:=mem_ready.1 hm;have:=(Z8.1 h2).1;omega
    obtain ⟨i,hi,rfl⟩:=goodQ_back hg hk;have:=(hready listed listed' s1 s2 h i hi).2 hm;rw[h0] at this;cases this
 have hyield:∀ (t:Array Value) (j:Nat),yielded (permQ q ops) t (q.idxOf j)=yielded ops t j:=by
  intro t j;unfold yielded
  by_cases hj:j<ops.size
  ·rw[permQ_get hg hj]
   cases ops[j]?<;>rfl
  ·rw[idxOf_out hg hj,Z5 (by omega),Z5 (by omega)]
 have hwant:∀ (t:Array Value) (o:Oper),Region.wanted (rnO q o) (yielded (permQ q ops) t)=Region.wanted o (yielded ops t):=by
  intro t o;unfold Region.wanted;cases hgd:o.guard with
  | none=>simp [rnO,hgd]
  | some g=>obtain ⟨j,b⟩:=g;simp [rnO,hgd,hyield]
 intro fuel
 induction fuel with
 | zero =>
   intro listed listed' a w s1 s2 h hw;refine ⟨?_,hw.2⟩;cases hr:Region.ready md ops listed with
   | nil=>rfl
   | cons k l =>
     exfalso
     have hm:k∈Region.ready md ops listed:=by rw[hr];simp
     have hk:k<ops.size:=by
      obtain ⟨_,o,h2,_⟩:=mem_ready.1 hm;exact (Z8.1 h2).1
     have:=(hready listed listed' s1 s2 h k hk).1 hm;rw[hw.1] at this;cases this
 | succ fuel ih =>
   intro listed listed' a w s1 s2 h hw;refine ⟨fun h0=>hw.1 (hnil listed listed' s1 s2 h h0),fun i hi=>?_⟩;have hlt':i<ops.size:=by
    obtain ⟨_,o,h2,_⟩:=mem_ready.1 hi;exact (Z8.1 h2).1
   have hw2:=hw.2 (q.idxOf i) ((hready listed listed' s1 s2 h i hlt').1 hi);have hk:∀ a w,wpAny P md (permQ q ops) Q fuel (listed'.setIfInBounds (q.idxOf i) true) a w->wpAny P md ops Q fuel (listed.setIfInBounds i true) a w:=by
    intro a w hh;refine ih _ _ a w (by simp [s1]) (by simp [s2]) (fun j hj=>?_) hh;rw[Z9,Z9]
    by_cases e:i=j
    ·subst e;simp [s1,s2,hlt',hlt hlt']
    ·rw[if_neg e,if_neg (fun e2=>e (hinj hlt' hj e2))];exact h j hj
   unfold wpOp at hw2 ⊢;rw[permQ_get hg hlt'] at hw2;cases ho:ops[i]? with
   | none=>rw[ho] at hw2;exact hk _ _ hw2
   | some o =>
     rw[ho] at hw2;simp only[Option.map_some] at hw2;rw[hwant] at hw2;simp only
     split at hw2
     ·rename_i hc
      rw[if_pos hc];exact Or.imp (fun h3=>Oper.wp_mono hk h3) _root_.id hw2
     ·rename_i hc
      rw[if_neg hc];exact hk _ _ hw2
theorem hst_any {P:Program} {nm:List Nat} {N:Nat} {ops:Array Oper} {md:Region.Mode} {Q:Exit->Act->World->Prop} {a:Act} {w:World} (h:wpAny P md (hst P nm N ops) Q (hst P nm N ops).size (Zf (hst P nm N ops).size false) a w) :
 wpAny P md ops Q ops.size (Zf ops.size false) a w:=by
 unfold hst at h;cases hq:hstQ P nm N ops with
 | none=>rw[hq] at h;exact h
 | some q =>
   rw[hq] at h;simp only at h;have hg:goodQ q ops.size=true:=by
    unfold hstQ at hq
    split at hq
    ·split at hq
     ·cases hq
     ·simp only at hq
      split at hq
      ·rename_i hg;cases hq;exact (Z6 _ _ ▸ hg).1
      ·cases hq
    ·cases hq
   have hps:(permQ q ops).size=ops.size:=by simp [permQ,goodQ_len hg]
   rw[hps] at h;refine perm_any hg ops.size _ _ a w (by simp) (by simp) (fun i hi=>?_) h;have:=Z2 ((goodQ_mem hg).2 hi);rw[goodQ_len hg] at this;simp [hi,this]
def orBad:Option RC->Option RC
 | some x=>some x
 | none=>some .bad
theorem orBad_inv {x:Option RC} {rc:RC} (h:orBad x=some rc):x=some rc\/rc = .bad:=by
 cases x with
 | none=>cases h;exact .inr rfl
 | some y=>exact .inl h
def resC (P:Program) (nm:List Nat) (N:Nat) (D:Array Oper->Bool):Code->Option RC
 | .skip=>some .skip
 | .ret=>some .ret
 | .exit id=>some (.exit id)
 | .region _ ops false=>orBad ((resOps P nm N ops ops.toList).map .rg)
 | .region _ ops true=>orBad (if D (hst P nm N ops) then (resOps P nm N (hst P nm N ops) (hst P nm N ops).toList).bind fun rl=>if drawS P (hst P nm N ops) (ancs (hst P nm N ops).toList) rl then some (.dr (needOf nm (hst P nm N ops)) (!panS (ancs (hst P nm N ops).toList) rl) (annot (ancs (hst P nm N ops).toList) rl)) else none else none)
 | .seq a b=>match resC P nm N D a,resC P nm N D b with
   | some x,some y=>some (.sq x y)
   | _,_=>none
 | .cond c t e=>match resX nm c,resC P nm N D t,resC P nm N D e with
   | some c,some x,some y=>some (.ite c x y)
   | _,_,_=>none
 | .block id b=>(resC P nm N D b).map (.blk id)
 | .loop b=>(resC P nm N D b).map .loop
 | .scope b=>resC P nm N D b
 | _=>some .bad
def DrawOk (P:Program) (keep:Bool) (nm:List Nat) (N:Nat) (D:Array Oper->Bool):Prop :=
 ∀ (ops:Array Oper) (rl:List RO),D (hst P nm N ops)=true->resOps P nm N (hst P nm N ops) (hst P nm N ops).toList=some rl->drawS P (hst P nm N ops) (ancs (hst P nm N ops).toList) rl=true -> ∀ (id:Nat) (Φ:Out->PS->Prop) (r:Rho) (s:PS) (a:Act) (w:World),SP P nm N r s a w->(∃ vs,rxs s.e s.l (needOf nm (hst P nm N ops))=some vs)->wpd P keep nm (drK (keepN (wrN (annot (ancs (hst P nm N ops).toList) rl)) s.e) (if !panS (ancs (hst P nm N ops).toList) rl then npK Φ else Φ)) (annot (ancs (hst P nm N ops).toList) rl) [] [] s.e s.l s.h s.ds ->
   ∀ (Q:Exit->Act->World->Prop),PP P nm N r s.h w Φ Q->(Code.region id ops true).wp P Q a w
theorem loopN_ok {b:Code} {body:(Out->PS->Prop)->PS->Prop} (hb:∀ (Φ:Out->PS->Prop) (r:Rho) (s:PS) (a:Act) (w:World),SP P nm N r s a w->body Φ s -> ∀ (Q:Exit->Act->World->Prop),PP P nm N r s.h w Φ Q->b.wp P Q a w)
 {Φ:Out->PS->Prop}:∀ (n:Nat) (r:Rho) (s:PS) (a:Act) (w:World),SP P nm N r s a w->loopN body Φ n s -> ∀ (Q:Exit->Act->World->Prop),PP P nm N r s.h w Φ Q->Code.rounds P b Q n a w:=by
 intro n
 induction n with
 | zero=>intro r s a w hs h;exact h.elim
 | succ n ih =>
   intro r s a w hs h Q hQ;rw[rounds_succ];obtain ⟨s0,hl,h⟩:=h;have hs0:SP P nm N r s0 a w:=⟨fun t v hv=>hs.e t v (hl.e t v hv),fun t v hv=>hs.l t v (hl.l t v hv),fun t v hv=>hs.en t v (hl.e t v hv),fun t v hv=>hs.ln t v (hl.l t v hv),hs.sz,by rw[hl.h];exact hs.hr,by rw[hl.ds];exact hs.ds⟩
   rw[<- hl.h] at hQ;refine hb _ r s0 a w hs0 h _ (fun out s' hp ex a' w' r' ho st sr=>?_);cases out with
   | norm=>cases ho;exact ih r' s' a' w' sr hp Q (hQ.trans st)
   | exit id=>cases ho;exact hQ (.exit id) s' hp _ _ _ r' rfl st sr
   | ret=>cases ho;exact hQ .ret s' hp _ _ _ r' rfl st sr
   | pan v=>obtain ⟨v',rfl,hv⟩:=ho;exact hQ (.pan v) s' hp _ _ _ r' ⟨v',rfl,hv⟩ st sr
theorem wpc_ok {D:Array Oper->Bool} (hD:DrawOk P keep nm N D):∀ (c:Code) {rc:RC},resC P nm N D c=some rc -> ∀ (Φ:Out->PS->Prop) (r:Rho) (s:PS) (a:Act) (w:World),SP P nm N r s a w->wpc P keep nm rc Φ s ->
 ∀ (Q:Exit->Act->World->Prop),PP P nm N r s.h w Φ Q->c.wp P Q a w:=by
 intro c
 induction c with
 | skip=>intro rc hc Φ r s a w hs hw Q hQ;cases hc;exact wp_skip (hQ .norm s hw _ _ _ r rfl (.refl hs.hr) hs)
 | ret=>intro rc hc Φ r s a w hs hw Q hQ;cases hc;exact wp_ret (hQ .ret s hw _ _ _ r rfl (.refl hs.hr) hs)
 | exit id=>intro rc hc Φ r s a w hs hw Q hQ;cases hc;exact wp_exit (hQ (.exit id) s hw _ _ _ r rfl (.refl hs.hr) hs)
 | region id ops d =>
   intro rc hc Φ r s a w hs hw Q hQ;cases d with
   | false =>
     rcases orBad_inv hc with hc|rfl
     case inr=>exact hw.elim
     obtain ⟨rl,h1,rfl⟩:=Z1.1 hc;exact wp_region_list (wpr_ok ops.toList h1 hs hw hQ)
   | true =>
     simp only[resC] at hc
     rcases orBad_inv hc with hc|rfl
     case inr=>exact hw.elim
     split at hc
     case isFalse=>cases hc
     case isTrue hd =>
      obtain ⟨rl,h1,hc⟩:=Z3.1 hc
      split at hc
      case isFalse=>cases hc
      case isTrue hds =>
       cases hc;obtain ⟨vs,h2,hw⟩:=vsK_inv hw;exact hD ops rl hd h1 hds id Φ r s a w hs ⟨vs,h2⟩ hw Q hQ
 | seq x y ihx ihy =>
   intro rc hc Φ r s a w hs hw Q hQ;simp only[resC] at hc
   split at hc
   case h_2=>cases hc
   case h_1 x' y' hx hy =>
    cases hc;refine wp_seq (ihx hx _ r s a w hs hw _ (fun out s' hp ex a' w' r' ho st sr=>?_));cases out with
    | norm=>cases ho;exact ihy hy Φ r' s' a' w' sr hp Q (hQ.trans st)
    | exit id=>cases ho;exact hQ (.exit id) s' hp _ _ _ r' rfl st sr
    | ret=>cases ho;exact hQ .ret s' hp _ _ _ r' rfl st sr
    | pan v=>obtain ⟨v',rfl,hv⟩:=ho;exact hQ (.pan v) s' hp _ _ _ r' ⟨v',rfl,hv⟩ st sr
 | cond x t e iht ihe =>
   intro rc hc Φ r s a w hs hw Q hQ;simp only[resC] at hc
   split at hc
   case h_2=>cases hc
   case h_1 x' t' e' hx ht he =>
    cases hc;obtain ⟨v,hv,hw⟩:=vK_inv hw;obtain ⟨b,rfl,hw⟩:=bK_inv hw;have hval:=(hs.rx hx hv).bool_inv
    rcases br_inv hw with ⟨rfl,h⟩|⟨rfl,h⟩
    ·exact wp_cond_true hval (iht ht Φ r s a w hs h Q hQ)
    ·exact wp_cond_false hval (ihe he Φ r s a w hs h Q hQ)
 | block id b ih =>
   intro rc hc Φ r s a w hs hw Q hQ;obtain ⟨b',h1,rfl⟩:=Z1.1 hc;refine wp_block (ih h1 _ r s a w hs hw _ (fun out s' hp ex a' w' r' ho st sr=>?_));cases out with
   | norm=>cases ho;exact hQ .norm s' hp _ _ _ r' rfl st sr
   | exit i =>
     cases ho;simp only[Exit.inBlock];simp only[blkK] at hp
     split at hp
     ·rename_i hid;subst hid;rw[if_pos rfl];exact hQ .norm s' hp _ _ _ r' rfl st sr
     ·rename_i hid;rw[if_neg hid];exact hQ (.exit i) s' hp _ _ _ r' rfl st sr
   | ret=>cases ho;exact hQ .ret s' hp _ _ _ r' rfl st sr
   | pan v=>obtain ⟨v',rfl,hv⟩:=ho;exact hQ (.pan v) s' hp _ _ _ r' ⟨v',rfl,hv⟩ st sr
 | loop b ih =>
   intro rc hc Φ r s a w hs hw Q hQ;obtain ⟨b',h1,rfl⟩:=Z1.1 hc;obtain ⟨n,hw⟩:=hw;exact wp_loop_rounds n (loopN_ok (fun Φ r s a w hs h Q hQ=>ih h1 Φ r s a w hs h Q hQ) n r s a w hs hw Q hQ)
 | scope b ih =>
   intro rc hc Φ r s a w hs hw Q hQ;refine wp_scope_straight (ih hc Φ r s a w hs hw _ (fun out s' hp ex a' w' r' ho st sr=>?_));cases out with
   | norm=>cases ho;exact hQ .norm s' hp _ _ _ r' rfl st sr
   | exit id=>cases ho;exact hQ (.exit id) s' hp _ _ _ r' rfl st sr
   | ret=>cases ho;exact hQ .ret s' hp _ _ _ r' rfl st sr
   | pan v=>obtain ⟨v',rfl,hv⟩:=ho;exact hQ (.pan v) s' hp _ _ _ r' ⟨v',rfl,hv⟩ st sr
 | _=>intro rc hc Φ r s a w hs hw;cases hc;exact hw.elim
end
end Go.Eng

namespace Go.Eng
theorem hstore_len {h h':AH} {b i:Nat} {vs:List Value} (he:hstore h b i vs=some h'):h'.length=h.length:=by
 unfold hstore at he
 split at he
 ·split at he
  ·cases he;split<;>simp
  ·cases he
 ·cases he
theorem hprep_len (keep:Bool) (h:AH) (b:Nat) (solo:Bool) (grp del:Nat) (e:TypeId) (cs:List Value) (k:Nat):(hprep keep h b solo grp del e cs k).length=h.length:=by
 unfold hprep;split<;>simp
theorem appv_len {keep:Bool} {h h':AH} {str:Bool} {e:TypeId} {sz bytes:Nat} {s x v:Value} (he:appv keep h str e sz bytes s x=some (v,h')):h.length<=h'.length:=by
 unfold appv at he;obtain ⟨⟨n,xs⟩,_,he⟩:=Z3.1 he;simp only at he
 split at he
 ·split at he
  ·cases he;exact Z0 _
  ·split at he
   ·cases he;simp
   ·cases he
 ·split at he
  ·cases he;exact Z0 _
  ·split at he
   ·split at he
    ·split at he
     ·obtain ⟨h1,h2,h3⟩:=Z1.1 he
      cases h3;rw[hstore_len h2];exact Z0 _
     ·split at he
      ·cases he;simp [hprep_len]
      ·cases he
    ·cases he
   ·cases he
 ·cases he
theorem clrv_len {h h':AH} {z:List Value} {v:Value} (he:clrv h z v=some h'):h.length<=h'.length:=by
 unfold clrv at he
 split at he
 ·cases he;exact Z0 _
 ·split at he
  ·cases he;exact Z0 _
  ·rw[hstore_len he];exact Z0 _
 ·cases he
theorem cpyv_len {h h':AH} {sz:Nat} {str:Bool} {d s v:Value} (he:cpyv h sz str d s=some (v,h')):h.length<=h'.length:=by
 unfold cpyv at he;obtain ⟨⟨n,xs⟩,_,he⟩:=Z3.1 he;simp only at he
 split at he
 ·cases he;exact Z0 _
 ·split at he
  ·split at he
   ·cases he;exact Z0 _
   ·obtain ⟨h1,h2,h3⟩:=Z1.1 he
    cases h3;rw[hstore_len h2];exact Z0 _
  ·cases he
 ·cases he
theorem ustv_len {h h':AH} {e:TypeId} {u v r:Value} (he:ustv h e u v=some (r,h')):h.length<=h'.length:=by
 unfold ustv at he
 split at he
 ·split at he
  ·cases he;exact Z0 _
  ·cases he
 ·split at he
  ·cases he;exact Z0 _
  ·split at he
   ·split at he
    ·obtain ⟨h1,h2,h3⟩:=Z1.1 he
     cases h3;simp
    ·cases he
   ·cases he
 ·cases he
theorem stv_len {h h':AH} {n:Nat} {u v:Value} (he:stv h n u v=some h'):h.length<=h'.length:=by
 unfold stv at he
 split at he
 ·split at he
  ·rw[hstore_len he];exact Z0 _
  ·cases he
 ·cases he
theorem mup_len {P:Program} {h h':AH} {t:TypeId} {u k v:Value} (he:wmapUpdate P h t u k v=some h'):h.length<=h'.length:=by
 unfold wmapUpdate at he
 repeat' (split at he)
 all_goals first
  | (cases he;done)
  | (simp at he;subst he;simp)
  | (obtain ⟨h1,h2,h3⟩:=Z1.1 he;subst h3;simp)
  | (cases he;simp)
section
variable {P:Program} {keep:Bool} {nm:List Nat}
theorem wpk_one {e l:PE} {h:AH} {K Kp:Value->AH->Prop}:∀ (k:RK),wpk P keep nm e l h K Kp k ->
 (∃ v h',K v h'/\h.length<=h'.length /\ ∀ K' Kp':Value->AH->Prop,K' v h'->wpk P keep nm e l h K' Kp' k) \/
 (∃ v h',Kp v h'/\h.length<=h'.length /\ ∀ K' Kp':Value->AH->Prop,Kp' v h'->wpk P keep nm e l h K' Kp' k):=by
 have vk:∀ {x:Option Value} {v:Value} {K:Value->Prop},x=some v->K v->vK x K:=fun h k=>by subst h;exact k
 have vsk:∀ {x:Option (List Value)} {v:List Value} {K:List Value->Prop},x=some v->K v->vsK x K:=fun h k=>by subst h;exact k
 have rk:∀ {x:Option RRes} {res:RRes} {K:Value->AH->Prop},x=some res->RR res h K -> ∃ v h',K v h'/\h.length<=h'.length /\ ∀ K':Value->AH->Prop,K' v h'->rK x h K':=by
  intro x res K h1 h2;subst h1;obtain ⟨v,_|B⟩:=res
  ·exact ⟨v,h,h2,Z0 _,fun _ k=>k⟩
  ·exact ⟨v,h++[B],h2,by simp,fun _ k=>k⟩
 intro k hw;cases k with
 | u f x =>
   obtain ⟨v,h1,hw⟩:=vK_inv hw;obtain ⟨res,h2,h3⟩:=rK_inv hw;obtain ⟨v',h',k1,k2,k3⟩:=rk h2 h3;exact .inl ⟨v',h',k1,k2,fun K' _ q=>vk h1 (k3 K' q)⟩
 | b f x y =>
   obtain ⟨u,h1,hw⟩:=vK_inv hw;obtain ⟨v,h1',hw⟩:=vK_inv hw;obtain ⟨res,h2,h3⟩:=rK_inv hw;obtain ⟨v',h',k1,k2,k3⟩:=rk h2 h3;exact .inl ⟨v',h',k1,k2,fun K' _ q=>vk h1 (vk h1' (k3 K' q))⟩
 | pk c a b =>
   obtain ⟨u,h1,hw⟩:=vK_inv hw;obtain ⟨t,rfl,hw⟩:=bK_inv hw
   rcases br_inv hw with ⟨rfl,hw⟩|⟨rfl,hw⟩
   ·obtain ⟨v,h2,hw⟩:=vK_inv hw
    exact .inl ⟨v,h,hw,Z0 _,fun K' _ q=>by simp only[wpk,h1,vK,bK,br,h2];exact q⟩
   ·obtain ⟨v,h2,hw⟩:=vK_inv hw
    exact .inl ⟨v,h,hw,Z0 _,fun K' _ q=>by simp only[wpk,h1,vK,bK,br,h2];exact q⟩
 | bld z ps =>
   obtain ⟨vs,cs,h1,h2,hw⟩:=pK_inv hw;exact .inl ⟨_,h,hw,Z0 _,fun K' _ q=>by simp only[wpk,pK,h1,h2];exact q⟩
 | bsl t n z ps =>
   obtain ⟨vs,cs,h1,h2,hw⟩:=pK_inv hw;exact .inl ⟨_,_,hw,by simp,fun K' _ q=>by simp only[wpk,pK,h1,h2];exact q⟩
 | mkf fn first cap =>
   obtain ⟨fs,h1,hw⟩:=vsK_inv hw;obtain ⟨cs,h2,hw⟩:=vsK_inv hw;exact .inl ⟨_,h,hw,Z0 _,fun K' _ q=>vsk h1 (vsk h2 q)⟩
 | al t z=>exact .inl ⟨_,_,hw,by simp,fun K' _ q=>q⟩
 | mm=>exact .inl ⟨_,_,hw,by simp,fun K' _ q=>q⟩
 | msl t z bytes x y =>
   obtain ⟨u,h1,hw⟩:=vK_inv hw;obtain ⟨v,h1',hw⟩:=vK_inv hw;obtain ⟨res,h2,h3⟩:=rK_inv hw;obtain ⟨v',h',k1,k2,k3⟩:=rk h2 h3;exact .inl ⟨v',h',k1,k2,fun K' _ q=>vk h1 (vk h1' (k3 K' q))⟩
 | sls x lo hi =>
   obtain ⟨u,h1,hw⟩:=vK_inv hw;obtain ⟨res,h2,h3⟩:=rK_inv hw;obtain ⟨v',h',k1,k2,k3⟩:=rk h2 h3;exact .inl ⟨v',h',k1,k2,fun K' _ q=>vk h1 (k3 K' q)⟩
 | sll t sz x lo hi =>
   obtain ⟨u,h1,hw⟩:=vK_inv hw;obtain ⟨res,h2,h3⟩:=rK_inv hw;obtain ⟨v',h',k1,k2,k3⟩:=rk h2 h3;exact .inl ⟨v',h',k1,k2,fun K' _ q=>vk h1 (k3 K' q)⟩
 | st n a x =>
   obtain ⟨u,h1,hw⟩:=vK_inv hw;obtain ⟨v,h1',hw⟩:=vK_inv hw;obtain ⟨h',h2,hw⟩:=hK_inv hw;exact .inl ⟨_,h',hw,stv_len h2,fun K' _ q=>vk h1 (vk h1' (by rw[h2];exact q))⟩
 | app str t sz bytes z s x =>
   obtain ⟨u,h1,hw⟩:=vK_inv hw;obtain ⟨v,h1',hw⟩:=vK_inv hw;obtain ⟨v',h',h2,hw⟩:=wK_inv hw;exact .inl ⟨_,h',hw,appv_len h2,fun K' _ q=>vk h1 (vk h1' (by rw[h2];exact q))⟩
 | clr t z x =>
   obtain ⟨u,h1,hw⟩:=vK_inv hw;obtain ⟨v',h',h2,hw⟩:=wK_inv hw;obtain ⟨h1',h3,h4⟩:=Z1.1 h2;cases h4;exact .inl ⟨_,_,hw,clrv_len h3,fun K' _ q=>vk h1 (by rw[h2];exact q)⟩
 | cpy sz str d s =>
   obtain ⟨u,h1,hw⟩:=vK_inv hw;obtain ⟨v,h1',hw⟩:=vK_inv hw;obtain ⟨v',h',h2,hw⟩:=wK_inv hw;exact .inl ⟨_,h',hw,cpyv_len h2,fun K' _ q=>vk h1 (vk h1' (by rw[h2];exact q))⟩
 | ust t p n =>
   obtain ⟨u,h1,hw⟩:=vK_inv hw;obtain ⟨v,h1',hw⟩:=vK_inv hw;obtain ⟨v',h',h2,hw⟩:=wK_inv hw;exact .inl ⟨_,h',hw,ustv_len h2,fun K' _ q=>vk h1 (vk h1' (by rw[h2];exact q))⟩
 | mup t m k x =>
   obtain ⟨u,h1,hw⟩:=vK_inv hw;obtain ⟨kv,h1',hw⟩:=vK_inv hw;obtain ⟨v,h1'',hw⟩:=vK_inv hw;obtain ⟨h',h2,hw⟩:=hK_inv hw;exact .inl ⟨_,h',hw,mup_len h2,fun K' _ q=>vk h1 (vk h1' (vk h1'' (by rw[h2];exact q)))⟩
 | call f args =>
   obtain ⟨fv,h1,hw⟩:=vK_inv hw;obtain ⟨ags,h2,hw⟩:=vsK_inv hw;obtain ⟨g,first,cap,res,h',rfl,k1,k2,k3⟩:=hw;cases k3 with
   | ret k=>exact .inl ⟨_,h',k,k2,fun K' _ q=>vk h1 (vsk h2 ⟨g,first,cap,_,h',rfl,k1,k2,.ret q⟩)⟩
   | pan k=>exact .inr ⟨_,h',k,k2,fun _ Kp' q=>vk h1 (vsk h2 ⟨g,first,cap,_,h',rfl,k1,k2,.pan q⟩)⟩
 | dfr=>exact hw.elim
 | pan x =>
   obtain ⟨v,h1,hw⟩:=vK_inv hw;cases v<;>try exact hw.elim
   exact .inr ⟨_,h,hw,Z0 _,fun _ Kp' q=>vk h1 q⟩
 | raw o =>
   obtain ⟨res,h2,h3⟩:=rK_inv hw;obtain ⟨v',h',k1,k2,k3⟩:=rk h2 h3;exact .inl ⟨v',h',k1,k2,fun K' _ q=>k3 K' q⟩
theorem gK_one {g:Option (RX × Bool)} {e l:PE} {A B:Prop} (h:gK g e l A B):(A /\ ∀ A' B':Prop,A'->gK g e l A' B')\/(B /\ ∀ A' B':Prop,B'->gK g e l A' B'):=by
 cases g with
 | none=>exact .inl ⟨h,fun _ _ q=>q⟩
 | some p =>
   obtain ⟨x,want⟩:=p;obtain ⟨v,h1,h⟩:=vK_inv h
   rcases gB_inv h with ⟨b,rfl,h⟩|⟨⟨c,rfl⟩,h⟩
   case inr=>exact .inr ⟨h,fun A' B' q=>by simp only[gK,vK,h1,gB];exact q⟩
   rcases br_inv h with ⟨h2,h⟩|⟨h2,h⟩
   ·exact .inl ⟨h,fun A' B' q=>by simp only[gK,vK,h1,gB,br,h2];exact q⟩
   ·exact .inr ⟨h,fun A' B' q=>by simp only[gK,vK,h1,gB,br,h2];exact q⟩
theorem wpr_one {Φ:Out->PS->Prop}:∀ (rl:List RO) (e l:PE) (h:AH) (ds:List Dfr),wpr P keep nm Φ rl e l h ds ->
 ∃ out s',Φ out s'/\h.length<=s'.h.length /\ ∀ Φ':Out->PS->Prop,Φ' out s'->wpr P keep nm Φ' rl e l h ds:=by
 intro rl
 induction rl with
 | nil=>intro e l h ds hw;exact ⟨_,_,hw,Z0 _,fun _ q=>q⟩
 | cons o os ih =>
   intro e l h ds hw
   rcases gK_one hw with ⟨h1,h2⟩|⟨h1,h2⟩
   ·by_cases hdf:∃ f args,o.k = .dfr f args
    ·obtain ⟨f,args,hk⟩:=hdf
     rw[hk] at h1;obtain ⟨fn,first,cap,ags,e1,e2,e3⟩:=wpo_dfr h1;obtain ⟨out,s',k1,k2,k3⟩:=ih _ _ _ _ e3;refine ⟨out,s',k1,k2,fun Φ' q=>h2 _ _ ?_⟩;rw[hk];simp only[wpo,vK,e1,vsK,e2,dK];exact k3 Φ' q
    ·have hw':wpk P keep nm e l h (fun v h'=>wpr P keep nm Φ os (pe o.d e v) (pl o.d l v) h' ds) (fun v h'=>Φ (.pan v) ⟨e,[],h',ds⟩) o.k:=by
      revert h1 hdf
      cases o.k<;>intro h1 hdf<;>first|exact h1|exact absurd ⟨_,_,rfl⟩ hdf
     have back:∀ {Kd:Dfr->Prop} {K' Kp':Value->AH->Prop},wpk P keep nm e l h K' Kp' o.k->wpo P keep nm e l h ds Kd K' Kp' o.k:=by
      intro Kd K' Kp'
      revert hdf
      cases o.k<;>intro hdf hh<;>first|exact hh|exact absurd ⟨_,_,rfl⟩ hdf
     rcases wpk_one _ hw' with ⟨v,h',k1,k2,k3⟩|⟨v,h',k1,k2,k3⟩
     ·obtain ⟨out,s',q1,q2,q3⟩:=ih _ _ _ _ k1
      exact ⟨out,s',q1,Ze k2 q2,fun Φ' q=>h2 _ _ (back (k3 _ _ (q3 Φ' q)))⟩
     ·exact ⟨.pan v,⟨e,[],h',ds⟩,k1,k2,fun Φ' q=>h2 _ _ (back (k3 _ _ q))⟩
   ·obtain ⟨out,s',k1,k2,k3⟩:=ih _ _ _ _ h1
    exact ⟨out,s',k1,k2,fun Φ' q=>h2 _ _ (k3 Φ' q)⟩
theorem chkK_one {h:AH} {is:List Nat}:∀ {rs:List Rd} {K:Prop},chkK P h rs is K->K /\ ∀ K':Prop,K'->chkK P h rs is K':=by
 intro rs
 induction rs with
 | nil=>intro K hk;exact ⟨hk,fun _ q=>q⟩
 | cons r rs ih =>
   intro K hk;obtain ⟨i,f,p,v⟩:=r;simp only[chkK] at hk
   by_cases hc:is.contains i=true
   ·rw[if_pos hc] at hk
    obtain ⟨k1,k2⟩:=ih hk.2;exact ⟨k1,fun K' q=>by simp only[chkK];rw[if_pos hc];exact ⟨hk.1,k2 K' q⟩⟩
   ·rw[if_neg hc] at hk
    obtain ⟨k1,k2⟩:=ih hk;exact ⟨k1,fun K' q=>by simp only[chkK];rw[if_neg hc];exact k2 K' q⟩
theorem oldK_one {js:List Nat} {r:List Rd}:∀ {hs:List (Nat × AH)} {K:Prop},oldK P hs js r K->K /\ ∀ K':Prop,K'->oldK P hs js r K':=by
 intro hs
 induction hs with
 | nil=>intro K hk;exact ⟨hk,fun _ q=>q⟩
 | cons p hs ih =>
   intro K hk;obtain ⟨j,h⟩:=p;simp only[oldK] at hk
   by_cases hc:js.contains j=true
   ·rw[if_pos hc] at hk
    obtain ⟨k1,k2⟩:=chkK_one hk;obtain ⟨q1,q2⟩:=ih k1;exact ⟨q1,fun K' q=>by simp only[oldK];rw[if_pos hc];exact k2 _ (q2 K' q)⟩
   ·rw[if_neg hc] at hk
    obtain ⟨k1,k2⟩:=ih hk;exact ⟨k1,fun K' q=>by simp only[oldK];rw[if_neg hc];exact k2 K' q⟩
theorem wpd_one {Φ:Out->PS->Prop}:∀ (os:List DO) (hs:List (Nat × AH)) (rs:List Rd) (e l:PE) (h:AH) (ds:List Dfr),wpd P keep nm Φ os hs rs e l h ds ->
 ∃ out s',Φ out s'/\h.length<=s'.h.length /\ ∀ Φ':Out->PS->Prop,Φ' out s'->wpd P keep nm Φ' os hs rs e l h ds:=by
 intro os
 induction os with
 | nil=>intro hs rs e l h ds hw;exact ⟨_,_,hw,Z0 _,fun _ q=>q⟩
 | cons o os ih =>
   intro hs rs e l h ds hw
   rcases gK_one hw with ⟨h1,h2⟩|⟨h1,h2⟩
   ·rcases wpk_one _ h1 with ⟨v,h',k1,k2,k3⟩|⟨v,h',k1,k2,k3⟩
    ·obtain ⟨c1,c2⟩:=chkK_one k1
     obtain ⟨d1,d2⟩:=oldK_one c1;obtain ⟨out,s',q1,q2,q3⟩:=ih _ _ _ _ _ _ d1;exact ⟨out,s',q1,Ze k2 q2,fun Φ' q=>h2 _ _ (k3 _ _ (c2 _ (d2 _ (q3 Φ' q))))⟩
    ·exact ⟨.pan v,⟨[],[],h',ds⟩,k1,k2,fun Φ' q=>h2 _ _ (k3 _ _ q)⟩
   ·obtain ⟨out,s',k1,k2,k3⟩:=ih _ _ _ _ _ _ h1
    exact ⟨out,s',k1,k2,fun Φ' q=>h2 _ _ (k3 Φ' q)⟩
theorem loopN_one {body:(Out->PS->Prop)->PS->Prop} (hb:∀ (Φ:Out->PS->Prop) (s:PS),body Φ s -> ∃ out s',Φ out s'/\s.h.length<=s'.h.length /\ ∀ Φ':Out->PS->Prop,Φ' out s'->body Φ' s) {Φ:Out->PS->Prop} :
 ∀ (n:Nat) (s:PS),loopN body Φ n s -> ∃ out s',Φ out s'/\s.h.length<=s'.h.length /\ ∀ Φ':Out->PS->Prop,Φ' out s'->loopN body Φ' n s:=by
 intro n
 induction n with
 | zero=>intro s h;exact h.elim
 | succ n ih =>
   intro s h;obtain ⟨s0,hl,h⟩:=h;obtain ⟨out,s',k1,k2,k3⟩:=hb _ _ h;rw[hl.h] at k2;cases out with
   | norm =>
     obtain ⟨out,s2,q1,q2,q3⟩:=ih s' k1;exact ⟨out,s2,q1,Ze k2 q2,fun Φ' q=>⟨s0,hl,k3 _ (q3 Φ' q)⟩⟩
   | exit id=>exact ⟨.exit id,s',k1,k2,fun Φ' q=>⟨s0,hl,k3 _ q⟩⟩
   | ret=>exact ⟨.ret,s',k1,k2,fun Φ' q=>⟨s0,hl,k3 _ q⟩⟩
   | pan v=>exact ⟨.pan v,s',k1,k2,fun Φ' q=>⟨s0,hl,k3 _ q⟩⟩
theorem wpc_one:∀ (c:RC) (Φ:Out->PS->Prop) (s:PS),wpc P keep nm c Φ s -> ∃ out s',Φ out s'/\s.h.length<=s'.h.length /\ ∀ Φ':Out->PS->Prop,Φ' out s'->wpc P keep nm c Φ' s:=by
 intro c
 induction c with
 | skip=>intro Φ s hw;exact ⟨_,_,hw,Z0 _,fun _ q=>q⟩
 | bad=>intro Φ s hw;exact hw.elim
 | ret=>intro Φ s hw;exact ⟨_,_,hw,Z0 _,fun _ q=>q⟩
 | exit id=>intro Φ s hw;exact ⟨_,_,hw,Z0 _,fun _ q=>q⟩
 | rg l=>intro Φ s hw;exact wpr_one l _ _ _ _ hw
 | dr need np l =>
   intro Φ s hw;obtain ⟨vs,h1,hw⟩:=vsK_inv hw;obtain ⟨out,s',k1,k2,k3⟩:=wpd_one l _ _ _ _ _ _ hw;cases np with
   | false =>
     cases out with
     | pan v=>exact ⟨.pan v,⟨keepN (wrN l) s.e,[],s'.h,s'.ds⟩,k1,k2,fun Φ' q=>by simp only[wpc,vsK,h1];exact k3 (drK (keepN (wrN l) s.e) Φ') q⟩
     | norm=>exact ⟨.norm,s',k1,k2,fun Φ' q=>by simp only[wpc,vsK,h1];exact k3 (drK (keepN (wrN l) s.e) Φ') q⟩
     | ret=>exact ⟨.ret,s',k1,k2,fun Φ' q=>by simp only[wpc,vsK,h1];exact k3 (drK (keepN (wrN l) s.e) Φ') q⟩
     | exit id=>exact ⟨.exit id,s',k1,k2,fun Φ' q=>by simp only[wpc,vsK,h1];exact k3 (drK (keepN (wrN l) s.e) Φ') q⟩
   | true =>
     cases out with
     | pan v=>exact k1.elim
     | norm=>exact ⟨.norm,s',k1,k2,fun Φ' q=>by simp only[wpc,vsK,h1];exact k3 (drK (keepN (wrN l) s.e) (npK Φ')) q⟩
     | ret=>exact ⟨.ret,s',k1,k2,fun Φ' q=>by simp only[wpc,vsK,h1];exact k3 (drK (keepN (wrN l) s.e) (npK Φ')) q⟩
     | exit id=>exact ⟨.exit id,s',k1,k2,fun Φ' q=>by simp only[wpc,vsK,h1];exact k3 (drK (keepN (wrN l) s.e) (npK Φ')) q⟩
 | sq a b iha ihb =>
   intro Φ s hw;obtain ⟨out,s',k1,k2,k3⟩:=iha _ s hw;cases out with
   | norm =>
     obtain ⟨out,s2,q1,q2,q3⟩:=ihb _ s' k1;exact ⟨out,s2,q1,Ze k2 q2,fun Φ' q=>k3 _ (q3 Φ' q)⟩
   | exit id=>exact ⟨.exit id,s',k1,k2,fun Φ' q=>k3 _ q⟩
   | ret=>exact ⟨.ret,s',k1,k2,fun Φ' q=>k3 _ q⟩
   | pan v=>exact ⟨.pan v,s',k1,k2,fun Φ' q=>k3 _ q⟩
 | ite x a b iha ihb =>
   intro Φ s hw;obtain ⟨v,h1,hw⟩:=vK_inv hw;obtain ⟨t,rfl,hw⟩:=bK_inv hw
   rcases br_inv hw with ⟨rfl,hw⟩|⟨rfl,hw⟩
   ·obtain ⟨out,s',k1,k2,k3⟩:=iha Φ s hw
    exact ⟨out,s',k1,k2,fun Φ' q=>by simp only[wpc,vK,h1,bK,br];exact k3 Φ' q⟩
   ·obtain ⟨out,s',k1,k2,k3⟩:=ihb Φ s hw
    exact ⟨out,s',k1,k2,fun Φ' q=>by simp only[wpc,vK,h1,bK,br];exact k3 Φ' q⟩
 | blk id b ih =>
   intro Φ s hw;obtain ⟨out,s',k1,k2,k3⟩:=ih _ s hw;cases out with
   | norm=>exact ⟨.norm,s',k1,k2,fun Φ' q=>k3 _ q⟩
   | exit i =>
     simp only[blkK] at k1
     split at k1
     ·rename_i hi;exact ⟨.norm,s',k1,k2,fun Φ' q=>k3 _ (by simp only[blkK,if_pos hi];exact q)⟩
     ·rename_i hi;exact ⟨.exit i,s',k1,k2,fun Φ' q=>k3 _ (by simp only[blkK,if_neg hi];exact q)⟩
   | ret=>exact ⟨.ret,s',k1,k2,fun Φ' q=>k3 _ q⟩
   | pan v=>exact ⟨.pan v,s',k1,k2,fun Φ' q=>k3 _ q⟩
 | loop b ih =>
   intro Φ s hw;obtain ⟨n,hw⟩:=hw;obtain ⟨out,s',k1,k2,k3⟩:=loopN_one ih n s hw;exact ⟨out,s',k1,k2,fun Φ' q=>⟨n,k3 Φ' q⟩⟩
 | rf g ps asg body _ _ =>
   intro Φ s hw;obtain ⟨h0,f,cap,out,h',h1,h2,h3,h4⟩:=hw;exact ⟨out,_,h4,h3,fun Φ' q=>⟨h0,f,cap,out,h',h1,h2,h3,q⟩⟩
inductive RV where
 | v (x:RX)
 | c (x:RX) (u:U)
def resRV (P:Program) (nm:List Nat):ResultVar->Option RV
 | .tmp t=>some (.v (if nm.contains t then .n t else .t t))
 | .cell t ty=>match isAggT P ty with
   | some true=>(sizeT P ty).map fun n=>.c (if nm.contains t then .n t else .t t) (.ldn n)
   | some false=>some (.c (if nm.contains t then .n t else .t t) .ld)
   | none=>none
def resRVs (P:Program) (nm:List Nat):List ResultVar->Option (List RV)
 | []=>some []
 | x::xs=>match resRV P nm x,resRVs P nm xs with
   | some y,some ys=>some (y::ys)
   | _,_=>none
def rvK (P:Program) (s:PS):List RV->(List Value->Prop)->Prop
 | [],K=>K []
 | .v x::l,K=>vK (rx s.e s.l x) fun v=>rvK P s l fun vs=>K (v::vs)
 | .c x u::l,K=>vK (rx s.e s.l x) fun p=>rK (uval P s.h s.h.length u p) s.h fun v _=>rvK P s l fun vs=>K (v::vs)
def finK (P:Program) (rvs:List RV) (Φ:Res->AH->Prop):Out->PS->Prop
 | .norm,s=>s.ds=[]/\rvK P s rvs fun vs=>Φ (.ret (tup vs)) s.h
 | .ret,s=>s.ds=[]/\rvK P s rvs fun vs=>Φ (.ret (tup vs)) s.h
 | .pan v,s=>s.ds=[]/\Φ (.pan v) s.h
 | .exit _,_=>False
def Gets (P:Program) (f:FuncId) (args:List Value) (h:AH) (Φ:Res->AH->Prop):Prop:=∃ res h',Holds P f args h res h'/\h.length<=h'.length/\Φ res h'
theorem Gets.mono {f:FuncId} {args:List Value} {h:AH} {Φ Φ':Res->AH->Prop} (hg:Gets P f args h Φ) (k:∀ res h',h.length<=h'.length->Φ res h'->Φ' res h'):Gets P f args h Φ' :=
 let ⟨res,h',h1,h2,h3⟩:=hg;⟨res,h',h1,h2,k res h' h2 h3⟩
end
end Go.Eng

namespace Go.Eng
section
variable {P:Program} {keep:Bool} {nm:List Nat} {N:Nat} {r:Rho} {s:PS} {a:Act} {w:World}
theorem rvK_one:∀ (rvs:List RV) {K:List Value->Prop},rvK P s rvs K -> ∃ vs,K vs/\rvK P s rvs (· = vs):=by
 intro rvs
 induction rvs with
 | nil=>intro K h;exact ⟨[],h,rfl⟩
 | cons x l ih =>
   intro K h;have mono:∀ {K K':List Value->Prop} {l:List RV},rvK P s l K->(∀ vs,K vs->K' vs)->rvK P s l K':=by
    intro K K' l
    induction l generalizing K K' with
    | nil=>intro h k;exact k _ h
    | cons x l ih =>
      intro h k;cases x with
      | v x=>obtain ⟨v,h1,h⟩:=vK_inv h;simp only[rvK,vK,h1];exact ih h fun vs q=>k _ q
      | c x u =>
        obtain ⟨v,h1,h⟩:=vK_inv h;obtain ⟨⟨v2,B⟩,h2,h⟩:=rK_inv h;simp only[rvK,vK,h1,rK,h2];cases B<;>exact ih h fun vs q=>k _ q
   cases x with
   | v x =>
     obtain ⟨v,h1,h⟩:=vK_inv h;obtain ⟨vs,k1,k2⟩:=ih h;refine ⟨v::vs,k1,?_⟩;simp only[rvK,vK,h1];exact mono k2 fun vs' e=>by rw[e]
   | c x u =>
     obtain ⟨v,h1,h⟩:=vK_inv h;obtain ⟨⟨v2,B⟩,h2,h⟩:=rK_inv h;have h':rvK P s l fun vs=>K (v2::vs):=by cases B<;>exact h
     obtain ⟨vs,k1,k2⟩:=ih h';refine ⟨v2::vs,k1,?_⟩;simp only[rvK,vK,h1,rK,h2];cases B<;>exact mono k2 fun vs' e=>by rw[e]
theorem SP.at (hs:SP P nm N r s a w) {t:Nat} {v:Value} (h:Go.Eng.rx s.e s.l (if nm.contains t then .n t else .t t)=some v):∃ v',a.tmps[t]?=some v'/\VR r v v':=by
 split at h
 ·exact hs.e t v h
 ·exact hs.l t v h
theorem rvs_ok (hs:SP P nm N r s a w):∀ {l:List ResultVar} {rvs:List RV} {vs:List Value},resRVs P nm l=some rvs->rvK P s rvs (· = vs) ->
 ∃ vs',(l.mapM (resF a.tmps)).run P w = .ok vs' w/\VL r vs vs':=by
 intro l
 induction l with
 | nil=>intro rvs vs h hk;cases h;cases hk;exact ⟨[],rfl,.nil r⟩
 | cons x l ih =>
   intro rvs vs h hk;simp only[resRVs] at h
   split at h
   case h_2=>cases h
   case h_1 y ys hy hys =>
    cases h;cases x with
    | tmp t =>
      cases hy;obtain ⟨v,h1,hk⟩:=vK_inv hk;obtain ⟨vs1,k1,k2⟩:=rvK_one _ hk;subst k1;obtain ⟨v',e1,e2⟩:=hs.at h1;obtain ⟨vs',e3,e4⟩:=ih hys k2;refine ⟨v'::vs',?_,.cons e2 e4⟩;have k4:(resF a.tmps (.tmp t)).run P w = .ok v' w:=by simp [resF,e1]
      simp only[List.mapM_cons,Sem.run_bind,k4,Sem.run_pure,Result.andThen_ok,e3]
    | cell t ty =>
      have main:∀ {u:U} {ys:List RV} {vs:List Value},(∀ p res,uval P s.h s.h.length u p=some res->rload P s.h ty p=some res)->rvK P s (.c (if nm.contains t then .n t else .t t) u::ys) (· = vs)->resRVs P nm l=some ys ->
       ∃ vs',((ResultVar.cell t ty::l).mapM (resF a.tmps)).run P w = .ok vs' w/\VL r vs vs':=by
       intro u ys vs hu hk hys;obtain ⟨p,h1,hk⟩:=vK_inv hk;obtain ⟨⟨v,B⟩,h2,hk⟩:=rK_inv hk;have hk':rvK P s ys fun q=>v::q=vs:=by cases B<;>exact hk
       obtain ⟨vs1,k1,k2⟩:=rvK_one _ hk';subst k1;have e1:=hu _ _ h2;obtain ⟨u',e2,e3⟩:=hs.at h1;obtain ⟨vs',e4,e5⟩:=ih hys k2;obtain ⟨_,x',q1,q2⟩:=rload_ok2 hs.hr e3 e1;have hpt:∃ ad,u' = .pointer (some ad):=by
        unfold rload at e1
        split at e1
        ·obtain ⟨x,_,rfl⟩:=e3.ptr_inv;exact ⟨_,rfl⟩
        ·cases e3.gptr_inv;exact ⟨_,rfl⟩
        ·cases e1
       obtain ⟨ad,rfl⟩:=hpt;refine ⟨x'::vs',?_,.cons q2 e5⟩;have hg:a.tmps.getD t undef = .pointer (some ad):=by simp [e2]
       have k3:(loadVar ty ad).run P w = .ok x' w:=by simpa [Instr.loadAt,Instr.sureAddr] using q1
       have k4:(resF a.tmps (.cell t ty)).run P w = .ok x' w:=by show (do loadVar ty (<- asAddr (a.tmps.getD t undef)):Sem Value).run P w=_;rw[hg];simp [asAddr,k3]
       simp only[List.mapM_cons,Sem.run_bind,k4,Result.andThen_ok,e4,Sem.run_pure]
      simp only[resRV] at hy
      split at hy
      ·rename_i ha
       obtain ⟨n,h1,rfl⟩:=Z1.1 hy;exact main (fun p res hu=>rload_ldn ha h1 hu) hk hys
      ·rename_i ha
       cases hy;exact main (fun p res hu=>rload_ld ha hu) hk hys
      ·cases hy
theorem rtup_ok (hs:SP P nm N r s a w) {fn:Func} {rvs:List RV} {vs:List Value} (hr:resRVs P nm fn.results.toList=some rvs) (hk:rvK P s rvs (· = vs)) :
 ∃ v',(results fn a.tmps).run P w = .ok v' w/\VR r (tup vs) v':=by
 obtain ⟨vs',h1,h2⟩:=rvs_ok hs hr hk;have hm:(fn.results.mapM (resF a.tmps)).run P w = .ok vs'.toArray w:=by
  rw[Array.mapM_eq_mapM_toList];simp only[Sem.run_map,h1,Result.andThen_ok]
 rw[results_eq,Sem.run_bind];unfold tup;cases vs' with
 | nil =>
   cases vs with
   | nil=>exact ⟨.tuple #[],by rw[hm];simp,VR.tuple_l (.nil r)⟩
   | cons=>have:=h2.1;simp at this
 | cons v' l' =>
   cases vs with
   | nil=>have:=h2.1;simp at this
   | cons v l =>
     cases l' with
     | nil =>
       cases l with
       | nil=>exact ⟨v',by rw[hm];simp,h2.2 0 v v' rfl rfl⟩
       | cons=>have:=h2.1;simp at this
     | cons v2' l2' =>
       cases l with
       | nil=>have:=h2.1;simp at this
       | cons v2 l2=>exact ⟨.tuple (v'::v2'::l2').toArray,by rw[hm];simp,VR.tuple_l (by simpa using h2)⟩
theorem look_argE:∀ (l:List Value) (k t:Nat) (v:Value),look (argE k l) t=some v->k<=t/\l[t-k]?=some v:=by
 intro l
 induction l with
 | nil=>intro k t v h;cases h
 | cons x l ih =>
   intro k t v h;simp only[argE,look] at h
   split at h
   ·rename_i e;subst e;cases h;exact ⟨Z0 _,by simp⟩
   ·rename_i e
    obtain ⟨h1,h2⟩:=ih (k+1) t v h;refine ⟨by omega,?_⟩;have:t-k=(t-(k+1))+1:=by omega
    rw[this];simpa using h2
theorem start_sp {args:List Value} {args':Array Value} {h:AH} (hr:HR P r h w.heap) (hargs:VL r args args'.toList) (hnm:((Z4 args.length).all nm.contains)=true) :
 SP P nm N r ⟨argE 0 args,[],h,[]⟩ { tmps:=args'++Zf (N-args'.size) undef,defers:=[] } w:=by
 refine ⟨fun t v hv=>?_,fun t v hv=>?_,fun t v hv=>?_,fun t v hv=>?_,by simp;omega,hr,trivial⟩
 ·obtain ⟨_,h1⟩:=look_argE _ _ _ _ hv
  have hh:=start_env (P:=P) (h:=h) (w:=w) hargs N t v (by
   rw[List.getElem?_append_left]
   ·simpa using h1
   ·have:=(Zc.1 h1).1;simpa using this)
  exact hh
 ·cases hv
 ·obtain ⟨_,h1⟩:=look_argE _ _ _ _ hv
  have:=(Zc.1 h1).1;exact Z7.1 hnm t (by simp;omega)
 ·cases hv
theorem Gets.fn (hP:noGoroutines P=true) {f:FuncId} {fn:Func} {c:Code} (hf:P.funcs[f]?=some fn) (hb:fn.body=some c) {D:Array Oper->Bool} (hD:DrawOk P keep nm fn.ntmps D) {rc:RC} (hc:resC P nm fn.ntmps D c=some rc)
 {rvs:List RV} (hr:resRVs P nm fn.results.toList=some rvs) {args:List Value} (hnm:((Z4 args.length).all nm.contains)=true) {h:AH} {Φ:Res->AH->Prop}
 (hw:wpc P keep nm rc (finK P rvs Φ) ⟨argE 0 args,[],h,[]⟩):Gets P f args h Φ:=by
 obtain ⟨out,s',k1,k2,k3⟩:=wpc_one rc _ _ hw;have norm:∀ {vs:List Value},(out = .norm\/out = .ret)->s'.ds=[]->rvK P s' rvs (· = vs)->Holds P f args h (.ret (tup vs)) s'.h:=by
  intro vs ho hds hk r w args' hr' ha o a K Q hK hQ;rw[run_callFunc hP hf hb];refine calls_of_wp hf hb ?_;refine wpc_ok hD c hc (fun o' t=>o'=out/\t=s') r _ _ w (start_sp (N:=fn.ntmps) hr' ha hnm) (k3 _ ⟨rfl,rfl⟩) _ (fun o' t hp ex a' w' r' hoe st sr=>?_);obtain ⟨rfl,rfl⟩:=hp;obtain ⟨v',e1,e2⟩:=rtup_ok sr hr hk;have hdd:=(show DR r' [] a'.defers from hds ▸ sr.ds).nil_inv
  rcases ho with rfl|rfl
  ·cases hoe;exact ⟨hdd,v',e1,hK _ _ _ _ rfl st e2⟩
  ·cases hoe;exact ⟨hdd,v',e1,hK _ _ _ _ rfl st e2⟩
 cases out with
 | norm =>
   obtain ⟨hds,hk⟩:=k1;obtain ⟨vs,q1,q2⟩:=rvK_one _ hk;exact ⟨_,_,norm (.inl rfl) hds q2,k2,q1⟩
 | ret =>
   obtain ⟨hds,hk⟩:=k1;obtain ⟨vs,q1,q2⟩:=rvK_one _ hk;exact ⟨_,_,norm (.inr rfl) hds q2,k2,q1⟩
 | exit id=>exact k1.elim
 | pan v =>
   obtain ⟨hds,hk⟩:=k1;refine ⟨.pan v,s'.h,?_,k2,hk⟩;intro r w args' hr' ha o a K Q hK hQ;rw[run_callFunc hP hf hb];refine calls_of_wp hf hb ?_;refine wpc_ok hD c hc (fun o' t=>o' = .pan v/\t=s') r _ _ w (start_sp (N:=fn.ntmps) hr' ha hnm) (k3 _ ⟨rfl,rfl⟩) _ (fun o' t hp ex a' w' r' hoe st sr=>?_);obtain ⟨rfl,rfl⟩:=hp;obtain ⟨v',rfl,hv⟩:=hoe;have hdd:=(show DR r' [] a'.defers from hds ▸ sr.ds).nil_inv;exact ⟨hdd,hQ _ _ _ _ rfl st hv⟩
end
end Go.Eng
