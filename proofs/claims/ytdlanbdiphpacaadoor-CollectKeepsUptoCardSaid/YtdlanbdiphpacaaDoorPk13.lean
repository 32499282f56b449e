import Derived.Test.YtdlanbdiphpacaaDoorPk12
import Derived.RangeFuncIn
import Derived.RangeFuncLeaves
import Derived.RangeFuncRecord
import Derived.LoopNIn
import Derived.Scope
import Derived.OrdersIn
import Derived.Test.YtdlanbdiphpacaaDoorPk11
set_option linter.unusedVariables false
set_option linter.unusedSimpArgs false
open Nat renaming reduceEqDiff -> ZA,reduceAdd -> ZB,reduceMul -> ZC,reduceLeDiff -> ZD,reduceLT -> ZE
open Int renaming reduceEq -> ZF
open Option renaming map_eq_some_iff->Z0,bind_eq_some_iff->Z6
open Array renaming getElem?_eq_some_iff->Z1,getElem?_eq_getElem->Z2,toList_eq_nil_iff->Z3,getElem?_push_lt->Z8,all_eq_true'->Za,length_toList->Zf
open List renaming mem_cons_of_mem->Z4,mem_cons_self->Z5,flatMap_cons->Z7,getElem?_eq_some_iff->Zb,take_append->Zc,take_of_length_le->Zd,append_assoc->Zg
open Bool renaming and_eq_true->Z9
open Nat renaming mul_le_mul_right->Ze
namespace Go.Eng
def idl:Obj->Bool
 | .loop _=>true
 | .deferred _=>true
 | _=>false
theorem BO.noIdl {P:Program} {r:Rho} {x:Loc} {B:Blk} {o:Obj} (h:BO P r x B (some o)) (hl:B.live=true):idl o=false:=by
 cases B with
 | gone=>cases hl
 | cells=>obtain ⟨_,_,_,e,_⟩:=h;cases e;rfl
 | map=>obtain ⟨_,_,e,_⟩:=h;cases e;rfl
section
variable {P:Program} {r r' r0:Rho} {h h' h0:AH} {w w' w0:World}
theorem HR.put_idl (hr:HR P r h w.heap) {l:Nat} {o:Obj} (hl:w.heap[l]?=some o) (hi:idl o=true) (o':Obj):HR P r h (w.putObj l o').heap:=by
 have ne:∀ {k:Nat} {o2:Obj},w.heap[k]?=some o2->idl o2=false->k≠l:=fun hk h2 e=>by subst e;rw[hl] at hk;cases hk;rw[hi] at h2;cases h2
 refine ⟨fun b x hb=>?_,fun b B hb hB=>?_,hr.sep,fun g cs hg=>?_,hr.nwr⟩
 ·rw[World.putObj_size];exact hr.dom b x hb
 ·obtain ⟨x,h1,h2⟩:=hr.blk b B hb hB
  refine ⟨x,h1,?_⟩;have hx:∃ o2,w.heap[x.blk]?=some o2:=⟨_,Z2 (hr.dom b x h1).2⟩
  obtain ⟨o2,h3⟩:=hx;rw[h3] at h2;rw[World.putObj_heap_other (ne h3 (h2.noIdl hB)),h3];exact h2
 ·obtain ⟨cur,e,fr,h1,h2⟩:=hr.lay g cs hg
  exact ⟨cur,e,fr,by rw[World.putObj_heap_other (ne h1 rfl)];exact h1,h2⟩
theorem HR.push_idl (hr:HR P r h w.heap) (o:Obj):HR P r h (w.alloc o).heap:=by
 have get:∀ {k:Nat} {o2:Obj},w.heap[k]?=some o2->(w.alloc o).heap[k]?=some o2:=fun {k o2} hk=>by
  have:=(Z1.1 hk).1
  show (w.heap.push o)[k]?=some o2
  rw[Z8 this,<- Z2 this];exact hk
 refine ⟨fun b x hb=>?_,fun b B hb hB=>?_,hr.sep,fun g cs hg=>?_,hr.nwr⟩
 ·rw[World.size_alloc];have:=hr.dom b x hb;exact ⟨this.1,by omega⟩
 ·obtain ⟨x,h1,h2⟩:=hr.blk b B hb hB
  obtain ⟨o2,h3⟩:∃ o2,w.heap[x.blk]?=some o2:=⟨_,Z2 (hr.dom b x h1).2⟩
  refine ⟨x,h1,?_⟩;rw[get h3];rw[h3] at h2;exact h2
 ·obtain ⟨cur,e,fr,h1,h2⟩:=hr.lay g cs hg
  exact ⟨cur,e,fr,get h1,h2⟩
theorem Stp.keepIdl (st:Stp P r h w r' h' w') (hr:HR P r h w.heap) {k:Nat} {o:Obj} (hk:w.heap[k]?=some o) (hi:idl o=true):w'.heap[k]?=some o:=by
 rw[st.fr.block k (Z1.1 hk).1 ?_];· exact hk
 rintro ⟨b,B,x,h1,h2,h3,rfl⟩;obtain ⟨y,h4,h5⟩:=hr.blk b B h1 (Blk.live_of_wr h2);rw[h3] at h4;cases h4;rw[hk] at h5;rw[h5.noIdl (Blk.live_of_wr h2)] at hi;cases hi
theorem Stp.putIdl (st:Stp P r0 h0 w0 r h w) {l:Nat} {o:Obj} (hl:w.heap[l]?=some o) (hi:idl o=true) (hlt:w0.heap.size<=l) (o':Obj):Stp P r0 h0 w0 r h (w.putObj l o') :=
 ⟨st.le,st.hr.put_idl hl hi o',⟨st.fr.os,st.fr.tape,st.fr.output,by rw[World.putObj_size];exact st.fr.size,fun k hk hn=>by
  rw[World.putObj_heap_other (by omega)];exact st.fr.block k hk hn⟩,st.own,st.len,st.gone⟩
theorem Stp.pushIdl (st:Stp P r0 h0 w0 r h w) (o:Obj):Stp P r0 h0 w0 r h (w.alloc o) :=
 ⟨st.le,st.hr.push_idl o,⟨st.fr.os,st.fr.tape,st.fr.output,by rw[World.size_alloc];have:=st.fr.size;omega,fun k hk hn=>by
  have:=st.fr.size;have e:(w.alloc o).heap[k]?=w.heap[k]?:=by
   show (w.heap.push o)[k]?=w.heap[k]?
   rw[Z8 (by omega),<- Z2 (by omega)]
  rw[e];exact st.fr.block k hk hn⟩,st.own,st.len,st.gone⟩
end
abbrev FW (ro:Option Nat):Fence:={ Fence.wide with round:=ro }
theorem rows_in {P:Program} {ro:Option Nat} {n:Nat} {row:String} {args:Array Value} {w:World} {R:Value->World->Prop} (h:Rows P row args w R):RowsIn (FW ro) n P row args w R :=
 fun c cs _=>let ⟨v,w',a,b⟩:=h c cs;⟨v,w',a,stepsIn_wide.2 b⟩
theorem calls_in {P:Program} {ro:Option Nat} {n:Nat} {f:FuncId} {args:Array Value} {w:World} {R:Ending->World->Prop} (h:Calls P f args w R):CallsIn (FW ro) n P f args w R :=
 (callsIn_wide (n:=n)).2 h
theorem FW_depth {ro:Option Nat} {n:Nat}:((FW ro).depth.isSome=true->1<=n):=fun h=>by cases h
theorem op_in {P:Program} {ro:Option Nat} {n:Nat} {o:Oper} {tm:Array Value} {X:List Deferred} {K K':Act->World->Prop} {Q':Exit->Act->World->Prop} {res:Result Next}
 (h:o.upon P ⟨tm,[]⟩ K (fun _ _ _=>False) res) (kd:∀ a w,K a w->a.defers=[]) (k:∀ v w',K (Act.put ⟨tm,[]⟩ o.dst v) w'->K' (Act.put ⟨tm,X⟩ o.dst v) w') :
 o.uponIn (FW ro) n P ⟨tm,X⟩ K' Q' res:=by
 unfold Oper.upon at h
 split at h
 ·exact k _ _ h
 ·exact k _ _ h
 ·rename_i d w'
  have:=kd _ _ h;rw[put_defers] at this;cases this
 ·refine ⟨FW_depth,CallsIn.mono (calls_in h) fun e w' he=>?_⟩
  cases e with
  | returned v=>exact k _ _ he
  | panicked chain=>exact he.elim
  | outgrown=>obtain ⟨_,_,hh⟩:=he;exact hh.elim
 ·exact ⟨FW_depth,RowsIn.mono (rows_in h) fun v w' he=>k _ _ he⟩
 ·exact h.elim
 ·exact h.elim
theorem wpAny_defers {P:Program} {md:Region.Mode} {ops:Array Oper} {G:Act->World->Prop}:∀ (fuel:Nat) (listed:Array Bool) (a:Act) (w:World),
 wpAny P md ops (fun e a w=>e = .normal/\a.defers=[]/\G a w) fuel listed a w->a.defers=[]:=by
 intro fuel
 induction fuel with
 | zero=>intro listed a w h;exact h.2.2.1
 | succ fuel ih =>
   intro listed a w h;obtain ⟨h0,h1⟩:=h;cases hr:Region.ready md ops listed with
   | nil=>exact (h0 hr).2.1
   | cons i l =>
     have h2:=h1 i (by rw[hr];exact Z5);unfold wpOp at h2
     split at h2
     ·exact ih _ _ _ h2
     ·rename_i o ho
      have letsF:∀ {X:Prop},LetsOut (fun (e:Exit) (a:Act) (w:World)=>e = .normal/\a.defers=[]/\G a w)->X:=fun ⟨_,_,hh⟩=>by cases hh.1
      split at h2
      ·rcases h2 with h2|⟨_,h2⟩
       case inr=>exact letsF h2
       unfold Oper.wp Oper.upon at h2
       split at h2
       ·have:=ih _ _ _ h2;rwa [put_defers] at this
       ·have:=ih _ _ _ h2;rwa [put_defers] at this
       ·have:=ih _ _ _ h2;rw[put_defers] at this;cases this
       ·obtain ⟨e,w',fr,hR,_⟩:=h2 []
        cases e with
        | returned v=>have:=ih _ _ _ hR;rwa [put_defers] at this
        | panicked chain=>cases hR.1
        | outgrown=>exact letsF hR
       ·obtain ⟨v,w',hR,_⟩:=h2 default []
        have:=ih _ _ _ hR;rwa [put_defers] at this
       ·cases h2.1
       ·exact h2.elim
      ·have:=ih _ _ _ h2;rwa [put_defers] at this
theorem any_in {P:Program} {ro:Option Nat} {n:Nat} {md:Region.Mode} {ops:Array Oper} {G:Act->World->Prop} {X:List Deferred} {Q':Exit->Act->World->Prop} (hn:∀ o∈ops,∀ c,o.op ≠ .defer c) (hq:∀ tm w,G ⟨tm,[]⟩ w->Q' .normal ⟨tm,X⟩ w) :
 ∀ (fuel:Nat) (listed:Array Bool) (tm:Array Value) (w:World),wpAny P md ops (fun e a w=>e = .normal/\a.defers=[]/\G a w) fuel listed ⟨tm,[]⟩ w->wpAnyIn (FW ro) n P md ops Q' fuel listed ⟨tm,X⟩ w:=by
 intro fuel
 induction fuel with
 | zero=>intro listed tm w h;exact ⟨h.1,hq _ _ h.2.2.2⟩
 | succ fuel ih =>
   intro listed tm w h;obtain ⟨h0,h1⟩:=h;refine ⟨fun e=>hq _ _ (h0 e).2.2,fun i hi=>?_⟩;have h2:=h1 i hi;have shape:∀ (d:Option Tmp) (v:Value) (Y:List Deferred),∃ tm',Act.put ⟨tm,Y⟩ d v=⟨tm',Y⟩ /\ ∀ Z,Act.put ⟨tm,Z⟩ d v=⟨tm',Z⟩:=fun d v Y=>by cases d<;>exact ⟨_,rfl,fun Z=>rfl⟩
   unfold wpOp at h2;unfold wpOpIn
   split at h2
   ·rename_i ho;rw[ho];exact ih _ _ _ h2
   ·rename_i o ho
    rw[ho];have hno:=hn o (Array.mem_of_getElem? ho)
    show if Region.wanted o (yielded ops tm)=true then _ else _
    split at h2
    ·rename_i hw
     rw[if_pos hw]
     rcases h2 with h2|⟨_,h2⟩
     case inr=>obtain ⟨_,_,hh⟩:=h2;cases hh.1
     refine ⟨fun _ _=>trivial,?_⟩;rw[Oper.semAt_eq _ _ _ hno];refine op_in (X:=X) (o:=o) (tm:=tm) (K:=wpAny P md ops (fun e a w=>e = .normal/\a.defers=[]/\G a w) fuel (listed.setIfInBounds i true)) ?_ (fun a w hk=>wpAny_defers _ _ _ _ hk) (fun v w' hk=>?_)
     ·have:∀ {res:Result Next} {K:Act->World->Prop},o.upon P ⟨tm,[]⟩ K (fun e a w=>e = .normal/\a.defers=[]/\G a w) res->o.upon P ⟨tm,[]⟩ K (fun _ _ _=>False) res:=by
       intro res K hu;unfold Oper.upon at hu ⊢
       split at hu
       ·exact hu
       ·exact hu
       ·exact hu
       ·refine Calls.mono hu fun e w' he=>?_
        cases e with
        | returned v=>exact he
        | panicked chain=>cases he.1
        | outgrown=>obtain ⟨_,_,hh⟩:=he;cases hh.1
       ·exact hu
       ·cases hu.1
       ·exact hu.elim
      exact this h2
     ·obtain ⟨tm',e1,e2⟩:=shape o.dst v []
      rw[e1] at hk;rw[e2 X];exact ih _ _ _ hk
    ·rename_i hw
     rw[if_neg hw];obtain ⟨tm',e1,e2⟩:=shape o.dst undef [];rw[e1] at h2;refine ⟨fun _ _=>trivial,?_⟩;rw[e2 X];exact ih _ _ _ h2
section
variable {P:Program} {F:Fence} {n:Nat} {Q:Exit->Act->World->Prop} {a:Act} {w:World}
theorem wpIn_scope {c:Code} (h:c.wpIn F n P (Exit.noGoto Q) a w):(Code.scope c).wpIn F n P Q a w:=by
 intro b k cs hro hb hr;have s1:∀ {a:Act} {w:World},step P (lone (b.atR a (.code (.scope c)::k)) cs w) = .next (lone (b.atR a (.code c :: .inScope c::k)) cs w):=fun {a w}=>step_lone_go (by simp [stepG,stepG.exec,Frame.atR])
 have s2:∀ {a:Act} {w:World},step P (lone (b.atR a (.inScope c::k)) cs w) = .next (lone (b.atR a k) cs w):=fun {a w}=>step_lone_go (by simp [stepG,stepG.exec,Frame.atR])
 have h0:(lone (b.atR a (.code (.scope c)::k)) cs w).fenced P F:=fenced_calm hb hr rfl;obtain ⟨e,a₁,w₁,hq,harr⟩:=h b (.inScope c::k) cs hro hb hr;cases e with
 | normal=>exact ⟨.normal,a₁,w₁,hq,.head h0 s1 (StepsIn.trans harr (.one (fenced_calm (fr:=b.atR a₁ (.inScope c::k)) hb hr rfl) s2))⟩
 | exit id=>exact ⟨.exit id,a₁,w₁,hq,.of_steps (.one h0 s1) ⟨fun k' hk=>harr.1 k' (by simp [exitTo,hk]),fun hx hk=>harr.2 hx (by simp [exitTo,hk])⟩⟩
 | goto l=>exact hq.elim
 | ret=>exact ⟨_,a₁,w₁,hq,.of_steps (.one h0 s1) harr⟩
 | panic ch=>exact ⟨_,a₁,w₁,hq,.of_steps (.one h0 s1) harr⟩
 | outgrown=>exact ⟨_,a₁,w₁,hq,.of_steps (.one h0 s1) harr⟩
end
end Go.Eng

namespace Go.Eng
structure SI where
 env:List Value
 h:AH
 pe:Option Code
 mr:Bool
 ys:List Tmp
abbrev RT:=List Value->AH->Option (Option Code × AH)
abbrev HT:=Option RT
abbrev CX:=Rho->List Tmp->Option Code->Bool->Act->World->Prop
structure RI (P:Program) (r0:Rho) (h0:AH) (w0:World) (C:CX) (r:Rho) (s:SI) (a:Act) (w:World):Prop where
 env:ER r s.env a.tmps
 st:Stp P r0 h0 w0 r s.h w
 cx:C r s.ys s.pe s.mr a w
structure CxOk (P:Program) (r0:Rho) (h0:AH) (w0:World) (ro:Option Nat) (H:HT) (C:CX):Prop where
 step:∀ {r h w r' h' w' ys pe mk} {a a':Act},HR P r h w.heap->Stp P r h w r' h' w'->a'.defers=a.defers->(∀ t∈ys,a'.tmps[t]?=a.tmps[t]?)->C r ys pe mk a w->C r' ys pe mk a' w'
 mv:∀ {r ys pe mk} {a:Act} {w:World} {t d:Tmp} {v:Value},C r ys pe mk a w->t∈ys->a.tmps[t]?=some v->C r (d::ys) pe mk (a.put (some d) v) w
 one:∀ {r ys pe mk} {a:Act} {w:World} {t:Tmp} {v:Value},C r ys pe mk a w->t∈ys->a.tmps[t]?=some v->v.oneCell'=true
 dfr:∀ {r ys pe a w},C r ys pe false a w->a.defers=[]
 hook:∀ R,H=some R -> ∀ {vs h1 j h2},R vs h1=some (j,h2) -> ∀ {r ys mk} {a:Act} {w:World} {args':Array Value} {t:Tmp} {v:Value},Stp P r0 h0 w0 r h1 w->C r ys none mk a w->VL r vs args'.toList->t∈ys->a.tmps[t]?=some v ->
  ∃ l f tm asg bd,v = .func (.yield l) #[] #[]/\(Instr.yield l args').run P w = .ok (.round l f tm asg bd) w /\
    ∀ n,RoundIn (FW ro) n P l f tm asg bd w (fun e w'=>∃ r',e = .returned (.bool j.isNone)/\r.le r'/\Stp P r0 h0 w0 r' h2 w'/\C r' ys j mk a w')
section
variable {P:Program} {r0:Rho} {h0:AH} {w0:World} {ro:Option Nat} {H:HT} {C:CX} {F:FT} {keep:Bool}
theorem put_tm (tm:Array Value) (X Y:List Deferred) (d:Option Tmp) (v:Value):(Act.put ⟨tm,X⟩ d v).tmps=(Act.put ⟨tm,Y⟩ d v).tmps:=by cases d<;>rfl
theorem notD_nd {o:Oper} (h:notD o=true):∀ c,o.op ≠ .defer c:=by
 intro c e;unfold notD at h;rw[e] at h;cases h
def recL (fn:FuncId) (tm:Array Value) (ps:Array Tmp) (assign body:Code) (D:Nat) (pe:Option Code):Loop:={ state:=if pe.isNone then .ready else .done,pending:=pe,fn,tmps:=tm,params:=ps,assign,body,defers:=D }
end
end Go.Eng

namespace Go.Eng
section
variable {P:Program} {r0:Rho} {h0:AH} {w0:World}
end
end Go.Eng

namespace Go.Eng
open Go.RowKit
section
variable {P:Program}
end
end Go.Eng

namespace Go.Eng
theorem flat_set {α:Type} {f:α->List Value} {k:Nat} (hf:∀ x,(f x).length=k):∀ {xs:List α} {i:Nat} {x x':α} {j:Nat} {vs:List Value},xs[i]?=some x->j+vs.length<=k ->
 f x'=(f x).take j++vs++(f x).drop (j+vs.length)->(xs.flatMap f).take (i*k+j)++vs++(xs.flatMap f).drop (i*k+j+vs.length)=(xs.set i x').flatMap f:=by
 intro xs
 induction xs with
 | nil=>intro i x x' j vs h;simp at h
 | cons y xs ih =>
   intro i x x' j vs h hj hx;cases i with
   | zero =>
     simp at h;subst h;rw[Nat.zero_mul,Nat.zero_add,Z7,List.set_cons_zero,Z7,hx,List.take_append_of_le_length (by rw[hf];omega),List.drop_append_of_le_length (by rw[hf];omega)];simp
   | succ i =>
     have e:=ih (i:=i) (by simpa using h) hj hx;rw[Z7,List.set_cons_succ,Z7,<- e];have h1:(i+1)*k+j=(f y).length+(i*k+j):=by rw[hf,Nat.add_mul];omega
     have h2:(i+1)*k+j+vs.length=(f y).length+(i*k+j+vs.length):=by rw[h1];omega
     have t1:∀ m,(f y++xs.flatMap f).take ((f y).length+m)=f y++(xs.flatMap f).take m:=fun m=>by simp [Zc,Zd]
     have t2:∀ m,(f y++xs.flatMap f).drop ((f y).length+m)=(xs.flatMap f).drop m:=fun m=>by rw[<- List.drop_drop,List.drop_left]
     rw[h1,Nat.add_assoc (f y).length,t1,t2];simp
section
variable {α:Type} {f:α->List Value} {k:Nat} {h:AH} {e:TypeId} {v:Value} {xs:List α}
theorem Ows.setAt (hf:∀ x,(f x).length=k) (ho:Ows h e k v xs.length (xs.flatMap f)) {i:Nat} {x x':α} {j:Nat} {vs:List Value} (hx:xs[i]?=some x) (hj:j+vs.length<=k)
 (hv:f x'=(f x).take j++vs++(f x).drop (j+vs.length)) (h1:vs.all Value.oneCell'=true) :
 ∃ b c h',v = .slice (some ⟨b,0,none⟩) xs.length c/\hstore h b (i*k+j) vs=some h'/\Ows h' e k v xs.length ((xs.set i x').flatMap f)/\Keep (bk v) h h'/\h'.length=h.length:=by
 have hi:i<xs.length:=(Zb.1 hx).1;generalize hn:xs.length=n at ho hi;generalize hcs:xs.flatMap f=cs at ho;cases ho with
 | nil=>omega
 | @mk b n c all cs hb hl hn2 hx2 =>
   have hle:i*k+k<=n*k:=by
    have:=Ze k (show i+1<=n by omega)
    rwa [Nat.add_mul,Nat.one_mul] at this
   have hnc:n*k<=all.length:=by rw[hl];exact Ze _ hn2
   obtain ⟨h',a1,a2,a3,a4⟩:=hb.store (i:=i*k+j) (vs:=vs) (by omega) h1;refine ⟨b,c,h',rfl,a1,.mk a2 ?_ hn2 ?_,a3.mono fun q e=>e,a4⟩
   ·simp only[List.length_append,List.length_take,List.length_drop];omega
   ·rw[<- flat_set hf hx hj hv,hcs,<- hx2]
    have e1:(all.take (i*k+j)).length=i*k+j:=by rw[List.length_take];omega
    have m1:min (n*k) (i*k+j)=i*k+j:=Nat.min_eq_right (by omega);have m2:min (i*k+j) (n*k)=i*k+j:=Nat.min_eq_left (by omega);rw[Zg,Zg,Zc,Zc,e1,List.take_take,List.take_take,m1,m2,Zd (l:=vs) (by omega),List.drop_take]
    congr 3
    omega
theorem XH_row {P:Program} {keep:Bool} {nm:List Nat} {Φ:Out->PS->Prop} {d:D} {cc:_} {kk:_} {en l:PE} {ds:List Dfr} (hf:∀ x,(f x).length=k) (ho:Ows h e k v xs.length (xs.flatMap f)) {b c i o m:Nat} {x x':α} {j:Nat} {u:Value}
 (hv0:v = .slice (some ⟨b,0,none⟩) xs.length c) (hx:xs[i]?=some x) (hm:m=u.cells.size) (hoo:o=i*k+j) (hj:j+u.cells.toList.length<=k)
 (hx':f x'=(f x).take j++u.cells.toList++(f x).drop (j+u.cells.toList.length)) (h1:u.cells.toList.all Value.oneCell'=true)
 (hk:∀ h',Ows h' e k v xs.length ((xs.set i x').flatMap f)->Keep (bk v) h h'->h'.length=h.length->XV P keep nm Φ undef d cc kk en l h' ds):XH P keep nm Φ (stv h m (.pointer (some ⟨b,o,none⟩)) u) d cc kk en l ds:=by
 obtain ⟨b',c',h',e0,a1,a2,a3,a4⟩:=ho.setAt hf hx hj hx' h1;rw[hv0] at e0;cases e0;subst hoo;simp only[stv,if_pos hm,a1];exact hk h' a2 a3 a4
theorem Rds.cellsAt (hf:∀ x,(f x).length=k) (hr:Rds h k v xs.length (xs.flatMap f)) {i:Nat} {x:α} (hx:xs[i]?=some x) {j m:Nat} (hj:j+m<=k) :
 ∃ b o c,v = .slice (some ⟨b,o,none⟩) xs.length c/\ldcs h b (o+i*k+j) m=some (((f x).drop j).take m):=by
 obtain ⟨b,o,c,e,hl⟩:=rds_sub hr (Zb.1 hx).1 hj;exact ⟨b,o,c,e,by rw[hl,flat_at hf hx hj]⟩
end
end Go.Eng

namespace Go.Eng
structure CS (P:Program) {σ:Type} (C:σ->Act->World->Prop):Prop where
 st:∀ {p:σ} {a a':Act} {r:Rho} {h:AH} {w:World} {r':Rho} {h':AH} {w':World},HR P r h w.heap->Stp P r h w r' h' w'->a'.defers=a.defers->C p a w->C p a' w'
structure SPI (P:Program) (nm:List Nat) (N:Nat) (r0:Rho) (h0:AH) (w0:World) {σ:Type} (dv:σ->List Dfr) (C:σ->Act->World->Prop) (r:Rho) (s:PS) (p:σ) (a:Act) (w:World):Prop where
 sp:SP P nm N r ⟨s.e,s.l,s.h,[]⟩ ⟨a.tmps,[]⟩ w
 ds:s.ds=dv p
 st:Stp P r0 h0 w0 r s.h w
 cx:C p a w
structure HookOk (P:Program) (r0:Rho) (h0:AH) (w0:World) (ro:Option Nat) (Y:YT) (C:Out->Act->World->Prop):Prop where
 hk:∀ {l:Nat} {vs:List Value} {h:AH} {K:Out->AH->Prop},Y l vs h K -> ∀ {r:Rho} {a:Act} {w:World} {args':Array Value},Stp P r0 h0 w0 r h w->C .norm a w->VL r vs args'.toList ->
  ∃ f tm asg bd,(Instr.yield l args').run P w = .ok (.round l f tm asg bd) w /\
    ∀ n,RoundIn (FW ro) n P l f tm asg bd w (fun e w'=>∃ j h' r',K j h'/\e = .returned (.bool (goesOn j))/\r.le r'/\Stp P r0 h0 w0 r' h' w'/\C j a w')
def YF:YT:=fun _ _ _ _=>False
theorem hookF {P:Program} {r0:Rho} {h0:AH} {w0:World} {ro:Option Nat} {C:Out->Act->World->Prop}:HookOk P r0 h0 w0 ro YF C:=⟨fun h=>h.elim⟩
section
variable {P:Program} {keep:Bool} {nm:List Nat} {N:Nat} {r0:Rho} {h0:AH} {w0:World} {ro:Option Nat} {r r':Rho} {s:PS} {a a':Act} {w w':World}
theorem SPI.next {σ:Type} {dv:σ->List Dfr} {C:σ->Act->World->Prop} {p p':σ} (hs:SPI P nm N r0 h0 w0 dv C r s p a w) {dst:Option Tmp} {d:D} (hd:resDst nm N dst=some d) {h':AH} (st:Stp P r s.h w r' h' w') {v v':Value} (hv:VR r' v v')
 (ha:a'.tmps=(Act.put ⟨a.tmps,[]⟩ dst v').tmps) (hcx:C p' a' w') {ds:List Dfr} (hds:ds=dv p'):SPI P nm N r0 h0 w0 dv C r' ⟨pe d s.e v,pl d s.l v,h',ds⟩ p' a' w':=by
 refine ⟨?_,hds,hs.st.trans st,hcx⟩;have h1:=hs.sp.put hd (v:=v) (v':=v') st hv;have:(⟨a'.tmps,[]⟩:Act)=Act.put ⟨a.tmps,[]⟩ dst v':=by
  cases dst with
  | none=>rw[ha];rfl
  | some i=>rw[ha];rfl
 rw[this];exact h1
theorem resK_call {op:Op} {dst:Option Tmp} {type:TypeId} {pos:String} {after:Array Edge} {guard:Option (Nat × Bool)} {f:RX} {args:List RX} (hk:resK P nm ⟨dst,op,type,pos,after,guard⟩=some (.call f args)) :
 ∃ c ags',op = .call c/\resXs nm c.args.toList=some ags'/\ags'=args/\((∃ fo,c.callee = .value fo/\resX nm fo=some f) \/ ∃ b i tb,f = .m b i tb):=by
 have u:∀ {x:Operand} {g:U},res1 nm g x≠some (.call f args):=fun h=>by obtain ⟨y,_,h2⟩:=res1_inv h;cases h2
 have b:∀ {x y:Operand} {g:B},res2 nm g x y≠some (.call f args):=fun h=>by obtain ⟨y,_,_,_,h2⟩:=res2_inv h;cases h2
 have bd:∀ {α:Type} {o:Option α} {g:α->Option RK},(∀ x,g x≠some (.call f args))->o.bind g≠some (.call f args):=fun hg h=>by obtain ⟨x,_,h2⟩:=Z6.1 h;exact hg x h2
 have mp:∀ {α:Type} {o:Option α} {g:α->RK},(∀ x,g x ≠ .call f args)->o.map g≠some (.call f args):=fun hg h=>by obtain ⟨x,_,h2⟩:=Z0.1 h;exact hg x h2
 have no:∀ {x:RK},x ≠ .call f args->some x≠some (.call f args):=fun hg h=>hg (Option.some.inj h)
 cases op
 case call c =>
  obtain ⟨callee,cargs,argTypes⟩:=c;simp only[resK,resCall] at hk
  revert hk
  repeat' split
  all_goals first
   | (intro hk;cases hk;exact ⟨_,_,rfl,by assumption,rfl,.inl ⟨_,rfl,by assumption⟩⟩)
   | (intro hk;obtain ⟨x,h1,h2⟩:=Z0.1 hk;cases h2;exact ⟨_,_,rfl,h1,rfl,.inr ⟨_,_,_,rfl⟩⟩)
   | (intro hk;exact absurd hk u)
   | (intro hk;exact absurd hk b)
   | (intro hk;exact absurd hk (bd fun _=>u))
   | (intro hk;exact absurd hk (mp (fun _ h=>by cases h)))
   | (intro hk;exact absurd hk (bd fun _=>mp (fun _ h=>by cases h)))
   | (intro hk;cases hk)
 all_goals
  exfalso
  simp only[resK] at hk
 all_goals
  revert hk
  repeat' split
  all_goals first
   | exact u
   | exact b
   | exact bd fun _=>u
   | exact bd fun _=>b
   | exact mp (fun _ h=>by cases h)
   | exact bd fun _=>mp (fun _ h=>by cases h)
   | (intro _;contradiction)
   | exact no (fun h=>by cases h)
   | exact (fun h=>by cases h)
theorem wpk_mono {e l:PE} {h:AH} {K K' Kp Kp':Value->AH->Prop} {k:RK} (hk:∀ v h',K v h'->K' v h') (hp:∀ v h',Kp v h'->Kp' v h') (hw:wpk P keep nm e l h K Kp k):wpk P keep nm e l h K' Kp' k:=by
 rcases wpk_one _ hw with ⟨v,h',k1,_,k3⟩|⟨v,h',k1,_,k3⟩
 ·exact k3 _ _ (hk _ _ k1)
 ·exact k3 _ _ (hp _ _ k1)
theorem yK_of {p:Out} {Y:YT} {fv:Value} {ags:List Value} {h:AH} {K:Value->AH->Out->Prop} {Kp:Value->AH->Prop} (hp:∀ v h',¬ Kp v h') (hc:cK P fv ags h (fun v h'=>K v h' p) Kp):yK P Y p fv ags h K:=by
 obtain ⟨g,first,cap,res,h',rfl,k1,k2,k3⟩:=hc;refine ⟨g,first,cap,res,h',rfl,k1,k2,?_⟩;cases k3 with
 | ret k=>exact .ret k
 | pan k=>exact absurd k (hp _ _)
theorem yK_inv {p:Out} {Y:YT} {fv:Value} {ags:List Value} {h:AH} {K:Value->AH->Out->Prop} (hy:yK P Y p fv ags h K) :
 (∃ l,fv = .func (.yield l) #[] #[]/\p = .norm/\Y l ags h fun j h'=>K (.bool (goesOn j)) h' j)\/cK P fv ags h (fun v h'=>K v h' p) (fun _ _=>False):=by
 unfold yK at hy
 split at hy
 ·rename_i l first cap
  obtain ⟨h1,h2,h3,h4⟩:=hy;have e1:first = #[]:=Z3.1 h1
  have e2:cap = #[]:=Z3.1 h2;subst e1;subst e2;exact .inl ⟨l,rfl,h3,h4⟩
 ·exact .inr hy
theorem op_one {σ:Type} {dv:σ->List Dfr} {C:σ->Act->World->Prop} (hC:CS P C) {p:σ} (hs:SPI P nm N r0 h0 w0 dv C r s p a w) {o:Oper} {d:D} {k:RK} (hnd:notD o=true) (hd:resDst nm N o.dst=some d) (hk:resK P nm o=some k)
 {K:Value->AH->Prop} (hw:wpk P keep nm s.e s.l s.h K (fun _ _=>False) k) {K':Act->World->Prop} {Q':Exit->Act->World->Prop} (n:Nat)
 (hK:∀ v h' a' w' r',K v h'->r.le r'->SPI P nm N r0 h0 w0 dv C r' ⟨pe d s.e v,pl d s.l v,h',s.ds⟩ p a' w'->K' a' w'):o.wpIn (FW ro) n P a w K' Q':=by
 refine ⟨fun _ _=>trivial,?_⟩;rw[Oper.semAt_eq _ _ _ (notD_nd hnd)];obtain ⟨tm,X⟩:=a;have hup:=ops_upon (a:=⟨tm,[]⟩) (w:=w) hs.sp.gr hs.sp.hr (wpk_ok hk hw)
  (Ka:=fun a1 w1=>∃ v h' v' r',K v h'/\Stp P r s.h w r' h' w1/\VR r' v v'/\a1=(⟨tm,[]⟩:Act).put o.dst v') (Q:=fun _ _ _=>False) (fun v h' kk v' w' r' st hv=>⟨v,h',v',r',kk,st,hv,rfl⟩) (fun v h' kk=>kk.elim)
 refine op_in (X:=X) hup (fun a1 w1 ⟨_,_,v',_,_,_,_,e⟩=>by rw[e];exact put_defers _ _ _) (fun v1 w1 hk1=>?_);obtain ⟨v,h',v',r',kk,st,hv,e⟩:=hk1;refine hK v h' _ w1 r' kk st.le (hs.next hd st hv ?_ (hC.st hs.st.hr st (put_defers _ _ _) hs.cx) hs.ds);rw[put_tm tm X [] o.dst v1,e]
theorem wprY_ok {C:Out->Act->World->Prop} (hC:CS P C) {Y:YT} (hY:HookOk P r0 h0 w0 ro Y C) {ops:Array Oper} {Φ:Out->PS->Out->Prop}:∀ (os:List Oper) {rl:List RO},resOps P nm N ops os=some rl->(∀ o∈os,notD o=true) ->
 ∀ {r:Rho} {s:PS} {p:Out} {a:Act} {w:World},SPI P nm N r0 h0 w0 (fun _=>[]) C r s p a w->wprY P keep nm Y Φ rl s.e s.l s.h p ->
 ∀ {Q:Exit->Act->World->Prop},(∀ s' p' a' w' r',Φ .norm s' p'->r.le r'->SPI P nm N r0 h0 w0 (fun _=>[]) C r' s' p' a' w'->Q .normal a' w') -> ∀ n,wpListIn (FW ro) n P ops Q os a w:=by
 intro os
 induction os with
 | nil =>
   intro rl hl hn r s p a w hs hw Q hQ n;cases hl;exact hQ _ _ _ _ r hw (.refl r) ⟨⟨hs.sp.e,fun t v h=>hs.sp.l t v (look_take1 h),hs.sp.en,fun t v h=>hs.sp.ln t v (look_take1 h),hs.sp.sz,hs.sp.hr,trivial⟩,rfl,hs.st,hs.cx⟩
 | cons o os ih =>
   intro rl hl hn r s p a w hs hw Q hQ n;have hno:=hn o Z5;simp only[resOps] at hl
   split at hl
   case h_2=>cases hl
   case h_1 x xs hx hxs =>
   cases hl;unfold resOp at hx
   split at hx
   case h_2=>cases hx
   case h_1 d g k hd hg hk =>
   cases hx;simp only[wprY] at hw;unfold wpListIn;have hwant:=resG_want hg hs.sp hw
   rcases hwant with ⟨h1,h2⟩|⟨h1,h2⟩
   ·rw[show Region.wanted o (yielded ops a.tmps)=true from h1]
    simp only[if_true];have hdf:∀ f args,k ≠ .dfr f args:=fun f args e=>by subst e;exact h2.elim
    have plain:wpk P keep nm s.e s.l s.h (fun v h'=>wprY P keep nm Y Φ xs (pe d s.e v) (pl d s.l v) h' p) (fun _ _=>False) k->o.wpIn (FW ro) n P a w (wpListIn (FW ro) n P ops Q os) Q:=fun hk' =>
     op_one hC hs hno hd hk hk' n fun v h' a' w' r' kk hle hs'=>ih hxs (fun o ho=>hn o (Z4 _ ho)) (s:=⟨pe d s.e v,pl d s.l v,h',s.ds⟩) hs' kk (fun s' p' a2 w2 r2 q1 q2 q3=>hQ s' p' a2 w2 r2 q1 (hle.trans q2) q3) n
    by_cases hc:∃ f args,k = .call f args
    case neg =>
     refine plain ?_;cases k<;>first|exact h2|exact absurd ⟨_,_,rfl⟩ hc|exact absurd rfl (hdf _ _)
    case pos =>
    obtain ⟨f,args,rfl⟩:=hc;obtain ⟨fv,hfv,h2⟩:=vK_inv h2;obtain ⟨vs,hvs,h2⟩:=vsK_inv h2
    rcases yK_inv h2 with ⟨l,rfl,hp,h5⟩|h5
    case inr=>exact plain (by simp only[wpk,hfv,vK,hvs,vsK];exact h5)
    case inl =>
    subst hp;obtain ⟨dst,op,type,pos,after,guard⟩:=o;obtain ⟨c,ags',rfl,hargs,rfl,hcal⟩:=resK_call hk
    rcases hcal with ⟨fo,hcal,hfo⟩|⟨b,i,tb,rfl⟩
    case inr =>
     exfalso
     simp only[rx] at hfv;obtain ⟨u,_,hu⟩:=Z6.1 hfv;unfold mfv at hu
     split at hu
     ·obtain ⟨g',_,e⟩:=Z0.1 hu;cases e
     ·cases hu
    refine ⟨fun _ _=>trivial,?_⟩;rw[Oper.semAt_eq _ _ _ (notD_nd hno)];obtain ⟨f',c',e1,e2,e3⟩:=(hs.sp.rx hfo hfv).func_inv;have hf':f' = #[]:=Z3.1 (show VL r [] f'.toList from e2).nil_left;have hc':c' = #[]:=Z3.1 (show VL r [] c'.toList from e3).nil_left;subst hf';subst hc';have hev:a.eval fo = .func (.yield l) #[] #[]:=e1;have hvl:VL r vs (List.map a.eval c.args.toList):=evs_ok hs.sp.gr (evs_gof GG.gof hargs hvs);obtain ⟨f2,tm,asg,bd,k1,k2⟩:=hY.hk h5 (args':=c.args.map a.eval) hs.st hs.cx (by simpa using hvl);have hrun:(execOp a.eval ⟨dst,.call c,type,pos,after,guard⟩).run P w = .ok (.round l f2 tm asg bd) w:=by
     simp only[execOp,resolve,hcal,hev,Sem.run_bind,Sem.run_pure,Result.andThen_ok,Deferred.ofValue,invoke]
     simpa using k1
    rw[hrun,Oper.uponIn_round];refine ⟨FW_depth,RoundIn.mono (k2 _) fun e w' ⟨j,h',r',q1,q2,q3,q4,q5⟩=>?_⟩;subst q2;have hsp:SP P nm N r' ⟨s.e,s.l,h',[]⟩ ⟨a.tmps,[]⟩ w':=⟨fun t v hv=>let ⟨v',x1,x2⟩:=hs.sp.e t v hv;⟨v',x1,x2.mono q3⟩,fun t v hv=>let ⟨v',x1,x2⟩:=hs.sp.l t v hv;⟨v',x1,x2.mono q3⟩,hs.sp.en,hs.sp.ln,hs.sp.sz,q4.hr,trivial⟩
    have hs2:SPI P nm N r0 h0 w0 (fun _=>[]) C r' ⟨s.e,s.l,h',[]⟩ j a w':=⟨hsp,rfl,q4,q5⟩
    have hs3:=hs2.next (p':=j) (a':=Act.put a dst (.bool (goesOn j))) hd (.refl q4.hr) (.bool (goesOn j)) (by obtain ⟨tm,X⟩:=a;exact put_tm tm X [] dst _) (hC.st q4.hr (.refl q4.hr) (put_defers _ _ _) q5) (ds:=[]) rfl
    exact ih hxs (fun o ho=>hn o (Z4 _ ho)) (s:=⟨pe d s.e (.bool (goesOn j)),pl d s.l (.bool (goesOn j)),h',[]⟩) hs3 q1 (fun s' p' a2 w2 r2 y1 y2 y3=>hQ s' p' a2 w2 r2 y1 (q3.trans y2) y3) n
   ·rw[show Region.wanted o (yielded ops a.tmps)=false from h1]
    simp only[Bool.false_eq_true,if_false];obtain ⟨tm,X⟩:=a;refine ⟨fun _ _=>trivial,ih hxs (fun o ho=>hn o (Z4 _ ho)) (s:=⟨pe d s.e undef,pl d s.l undef,s.h,[]⟩) (hs.next hd (.refl hs.st.hr) (undef_vr r) (put_tm tm X [] o.dst undef) (hC.st hs.st.hr (.refl hs.st.hr) (put_defers _ _ _) hs.cx) rfl) h2 hQ n⟩
def CIY (P:Program) (nm:List Nat) (N:Nat) (r0:Rho) (h0:AH) (w0:World) (ro:Option Nat) (C:Out->Act->World->Prop) (c:Code) (run:(Out->PS->Out->Prop)->PS->Out->Prop):Prop :=
 ∀ (Φ:Out->PS->Out->Prop),(∀ v s p,¬ Φ (.pan v) s p) -> ∀ (r:Rho) (s:PS) (p:Out) (a:Act) (w:World),SPI P nm N r0 h0 w0 (fun _=>[]) C r s p a w->run Φ s p -> ∀ (Q:Exit->Act->World->Prop),
   (∀ out s' p' e a' w' r',Φ out s' p'->OE r' out e->r.le r'->SPI P nm N r0 h0 w0 (fun _=>[]) C r' s' p' a' w'->Q e a' w') -> ∀ n,c.wpIn (FW ro) n P Q a w
theorem loopY_ok {C:Out->Act->World->Prop} {b:Code} {body:(Out->PS->Out->Prop)->PS->Out->Prop} (hb:CIY P nm N r0 h0 w0 ro C b body) {Φ:Out->PS->Out->Prop} (hnp:∀ v s p,¬ Φ (.pan v) s p):∀ (m:Nat) (r:Rho) (s:PS) (p:Out) (a:Act) (w:World),
 SPI P nm N r0 h0 w0 (fun _=>[]) C r s p a w->loopY body Φ m s p -> ∀ (Q:Exit->Act->World->Prop),(∀ out s' p' e a' w' r',Φ out s' p'->OE r' out e->r.le r'->SPI P nm N r0 h0 w0 (fun _=>[]) C r' s' p' a' w'->Q e a' w') -> ∀ n,Code.roundsIn (FW ro) n P b Q m a w:=by
 intro m
 induction m with
 | zero=>intro r s p a w hs h;exact h.elim
 | succ m ih =>
   intro r s p a w hs h Q hQ n;rw[roundsIn_succ];obtain ⟨s0,hl,h⟩:=h;have hs0:SPI P nm N r0 h0 w0 (fun _=>[]) C r s0 p a w:=⟨⟨fun t v hv=>hs.sp.e t v (hl.e t v hv),fun t v hv=>hs.sp.l t v (hl.l t v hv),fun t v hv=>hs.sp.en t v (hl.e t v hv),fun t v hv=>hs.sp.ln t v (hl.l t v hv),hs.sp.sz,by show HR P r s0.h w.heap;rw[hl.h];exact hs.sp.hr,trivial⟩,by rw[hl.ds];exact hs.ds,by rw[hl.h];exact hs.st,hs.cx⟩
   refine hb _ (by intro v s p hh;exact hnp v s p hh) r s0 p a w hs0 h _ (fun out s' p' e a' w' r' hp ho hle hs'=>?_) n;cases out with
   | norm=>cases ho;exact ih r' s' p' a' w' hs' hp Q (fun out s2 p2 e2 a2 w2 r2 y1 y2 y3 y4=>hQ out s2 p2 e2 a2 w2 r2 y1 y2 (hle.trans y3) y4) n
   | exit id=>cases ho;exact hQ (.exit id) s' p' _ _ _ r' hp rfl hle hs'
   | ret=>cases ho;exact hQ .ret s' p' _ _ _ r' hp rfl hle hs'
   | pan v=>exact absurd hp (hnp _ _ _)
theorem wpcY_ok {C:Out->Act->World->Prop} (hC:CS P C) {Y:YT} (hY:HookOk P r0 h0 w0 ro Y C):∀ (c:Code) {rc:RC},resC0 P nm N c=some rc->noDf c=true->CIY P nm N r0 h0 w0 ro C c (wpcY P keep nm Y rc):=by
 intro c
 induction c with
 | skip=>intro rc hc hn Φ hnp r s p a w hs hw Q hQ n;cases hc;exact wpIn_skip (hQ .norm s p _ _ _ r hw rfl (.refl r) hs)
 | ret=>intro rc hc hn Φ hnp r s p a w hs hw Q hQ n;cases hc;exact wpIn_ret (hQ .ret s p _ _ _ r hw rfl (.refl r) hs)
 | exit id=>intro rc hc hn Φ hnp r s p a w hs hw Q hQ n;cases hc;exact wpIn_exit (hQ (.exit id) s p _ _ _ r hw rfl (.refl r) hs)
 | region id ops d =>
   intro rc hc hn Φ hnp r s p a w hs hw Q hQ n;cases d with
   | true=>cases hc;exact hw.elim
   | false =>
     obtain ⟨rl,h1,rfl⟩:=Z0.1 hc;have hn':∀ o∈ops.toList,notD o=true:=fun o ho=>Za.1 hn o (by simpa using ho)
     exact wpIn_region_list (wprY_ok hC hY ops.toList h1 hn' hs hw (fun s' p' a' w' r' y1 y2 y3=>hQ .norm s' p' _ a' w' r' y1 rfl y2 y3) n)
 | seq x y ihx ihy =>
   intro rc hc hn Φ hnp r s p a w hs hw Q hQ n;simp only[noDf,Z9] at hn;simp only[resC0] at hc
   split at hc
   case h_2=>cases hc
   case h_1 x' y' hx hy =>
    cases hc;refine wpIn_seq (ihx hx hn.1 _ (by intro v s p h;exact hnp v s p h) r s p a w hs hw _ (fun out s' p' e a' w' r' hp ho hle hs'=>?_) n);cases out with
    | norm=>cases ho;exact ihy hy hn.2 Φ hnp r' s' p' a' w' hs' hp Q (fun out s2 p2 e2 a2 w2 r2 y1 y2 y3 y4=>hQ out s2 p2 e2 a2 w2 r2 y1 y2 (hle.trans y3) y4) n
    | exit id=>cases ho;exact hQ (.exit id) s' p' _ _ _ r' hp rfl hle hs'
    | ret=>cases ho;exact hQ .ret s' p' _ _ _ r' hp rfl hle hs'
    | pan v=>exact absurd hp (hnp _ _ _)
 | cond x t e iht ihe =>
   intro rc hc hn Φ hnp r s p a w hs hw Q hQ n;simp only[noDf,Z9] at hn;simp only[resC0] at hc
   split at hc
   case h_2=>cases hc
   case h_1 x' t' e' hx ht he =>
    cases hc;obtain ⟨v,hv,hw⟩:=vK_inv hw;obtain ⟨b,rfl,hw⟩:=bK_inv hw;have hval:a.eval x = .bool b:=(hs.sp.rx hx hv).bool_inv
    rcases br_inv hw with ⟨rfl,h⟩|⟨rfl,h⟩
    ·exact wpIn_cond_true hval (iht ht hn.1 Φ hnp r s p a w hs h Q hQ n)
    ·exact wpIn_cond_false hval (ihe he hn.2 Φ hnp r s p a w hs h Q hQ n)
 | block id b ih =>
   intro rc hc hn Φ hnp r s p a w hs hw Q hQ n;obtain ⟨b',h1,rfl⟩:=Z0.1 hc;refine wpIn_block (ih h1 hn _ (by intro v s p h;exact hnp v s p h) r s p a w hs hw _ (fun out s' p' e a' w' r' hp ho hle hs'=>?_) n);cases out with
   | norm=>cases ho;exact hQ .norm s' p' _ _ _ r' hp rfl hle hs'
   | exit i =>
     cases ho;simp only[Exit.inBlock];simp only[blkY] at hp
     split at hp
     ·rename_i hid;subst hid;rw[if_pos rfl];exact hQ .norm s' p' _ _ _ r' hp rfl hle hs'
     ·rename_i hid;rw[if_neg hid];exact hQ (.exit i) s' p' _ _ _ r' hp rfl hle hs'
   | ret=>cases ho;exact hQ .ret s' p' _ _ _ r' hp rfl hle hs'
   | pan v=>exact absurd hp (hnp _ _ _)
 | loop b ih =>
   intro rc hc hn Φ hnp r s p a w hs hw Q hQ n;obtain ⟨b',h1,rfl⟩:=Z0.1 hc;obtain ⟨m,hw⟩:=hw;exact wpIn_loop_rounds m (loopY_ok (ih h1 hn) hnp m r s p a w hs hw Q hQ n)
 | scope b ih =>
   intro rc hc hn Φ hnp r s p a w hs hw Q hQ n;refine wpIn_scope (ih hc hn Φ hnp r s p a w hs hw _ (fun out s' p' e a' w' r' hp ho hle hs'=>?_) n);cases out with
   | norm=>cases ho;exact hQ .norm s' p' _ _ _ r' hp rfl hle hs'
   | exit id=>cases ho;exact hQ (.exit id) s' p' _ _ _ r' hp rfl hle hs'
   | ret=>cases ho;exact hQ .ret s' p' _ _ _ r' hp rfl hle hs'
   | pan v=>exact absurd hp (hnp _ _ _)
 | _=>intro rc hc hn Φ hnp r s p a w hs hw;cases hc;exact hw.elim
end
end Go.Eng

namespace Go.Eng
section
variable {P:Program} {keep:Bool} {nm:List Nat} {N:Nat} {r0:Rho} {h0:AH} {w0:World} {ro:Option Nat} {r r':Rho} {s:PS} {a a':Act} {w w':World}
theorem wpr_Y {ops:Array Oper} {Φ:Out->PS->Prop} (hnp:∀ v s,¬ Φ (.pan v) s) {p:Out} {ds:List Dfr}:∀ (os:List Oper) {rl:List RO},resOps P nm N ops os=some rl->(∀ o∈os,notD o=true) -> ∀ {e l:PE} {h:AH},
 wpr P keep nm Φ rl e l h ds->wprY P keep nm YF (fun o s p'=>p'=p/\Φ .norm ⟨s.e,s.l,s.h,ds⟩) rl e l h p:=by
 intro os
 induction os with
 | nil=>intro rl hl hn e l h hw;cases hl;exact ⟨rfl,hw⟩
 | cons o os ih =>
   intro rl hl hn e l h hw;simp only[resOps] at hl
   split at hl
   case h_2=>cases hl
   case h_1 x xs hx hxs =>
   cases hl;unfold resOp at hx
   split at hx
   case h_2=>cases hx
   case h_1 d g k hd hg hk =>
   cases hx;simp only[wpr] at hw;simp only[wprY];have hn':=fun o ho=>hn o (Z4 _ ho)
   rcases gK_one hw with ⟨g1,g2⟩|⟨g1,g2⟩
   ·refine g2 _ _ ?_
    by_cases hdf:∃ f args,k = .dfr f args
    ·obtain ⟨f,args,rfl⟩:=hdf
     obtain ⟨dst,op,type,pos,after,guard⟩:=o;obtain ⟨c,_,_,rfl,_⟩:=resK_dfr hk;exact absurd (hn _ Z5) (by simp [notD])
    have hw':wpk P keep nm e l h (fun v h'=>wpr P keep nm Φ xs (pe d e v) (pl d l v) h' ds) (fun v h'=>Φ (.pan v) ⟨e,[],h',ds⟩) k:=by
     cases k<;>first|exact g1|exact absurd ⟨_,_,rfl⟩ hdf
    have hw2:=wpk_mono (K':=fun v h'=>wprY P keep nm YF (fun o s p'=>p'=p/\Φ .norm ⟨s.e,s.l,s.h,ds⟩) xs (pe d e v) (pl d l v) h' p) (Kp':=fun _ _=>False) (fun v h' kk=>ih hxs hn' kk) (fun v h' kk=>absurd kk (hnp _ _)) hw'
    by_cases hc:∃ f args,k = .call f args
    ·obtain ⟨f,args,rfl⟩:=hc
     obtain ⟨fv,hfv,hw2⟩:=vK_inv hw2;obtain ⟨vs,hvs,hw2⟩:=vsK_inv hw2;simp only[wpkY,hfv,vK,hvs,vsK];exact yK_of (fun _ _ h=>h) hw2
    ·cases k<;>first|exact hw2|exact absurd ⟨_,_,rfl⟩ hc|exact absurd ⟨_,_,rfl⟩ hdf
   ·exact g2 _ _ (ih hxs hn' g1)
def resCI (P:Program) (nm:List Nat) (N:Nat):Bool->Code->Option RC
 | _,.skip=>some .skip
 | _,.ret=>some .ret
 | _,.exit id=>some (.exit id)
 | _,.region id ops d=>if ops.all notD then resC P nm N dq (.region id ops d) else some .bad
 | O,.seq a b=>match resCI P nm N O a,resCI P nm N O b with
   | some x,some y=>some (.sq x y)
   | _,_=>none
 | O,.cond c t e=>match resX nm c,resCI P nm N O t,resCI P nm N O e with
   | some c,some x,some y=>some (.ite c x y)
   | _,_,_=>none
 | O,.block id b=>(resCI P nm N O b).map (.blk id)
 | O,.loop b=>(resCI P nm N O b).map .loop
 | O,.scope b=>resCI P nm N O b
 | O,.rangeFunc g ps asg body=>if O && ps.toList.all (fun t=>nm.contains t && decide (t<N)) then match resX nm g,resCI P nm N false asg,resCI P nm N false body with
  | some g,some x,some y=>some (.rf g ps.toList x y)
  | _,_,_=>none
   else some .bad
 | _,_=>some .bad
def dvB:Bool->List Dfr
 | false=>[]
 | true=>[mkD]
def CIB (P:Program) (nm:List Nat) (N:Nat) (r0:Rho) (h0:AH) (w0:World) (ro:Option Nat) (C:Bool->Act->World->Prop) (c:Code) (run:(Out->PS->Prop)->PS->Prop):Prop :=
 ∀ (Φ:Out->PS->Prop),(∀ v s,¬ Φ (.pan v) s) -> ∀ (r:Rho) (s:PS) (p:Bool) (a:Act) (w:World),SPI P nm N r0 h0 w0 dvB C r s p a w->run Φ s -> ∀ (Q:Exit->Act->World->Prop),
   (∀ out s' p' e a' w' r',Φ out s'->OE r' out e->r.le r'->SPI P nm N r0 h0 w0 dvB C r' s' p' a' w'->Q e a' w') -> ∀ n,c.wpIn (FW ro) n P Q a w
theorem loopN_okI {C:Bool->Act->World->Prop} {b:Code} {body:(Out->PS->Prop)->PS->Prop} (hb:CIB P nm N r0 h0 w0 ro C b body) {Φ:Out->PS->Prop} (hnp:∀ v s,¬ Φ (.pan v) s):∀ (m:Nat) (r:Rho) (s:PS) (p:Bool) (a:Act) (w:World),
 SPI P nm N r0 h0 w0 dvB C r s p a w->loopN body Φ m s -> ∀ (Q:Exit->Act->World->Prop),(∀ out s' p' e a' w' r',Φ out s'->OE r' out e->r.le r'->SPI P nm N r0 h0 w0 dvB C r' s' p' a' w'->Q e a' w') -> ∀ n,Code.roundsIn (FW ro) n P b Q m a w:=by
 intro m
 induction m with
 | zero=>intro r s p a w hs h;exact h.elim
 | succ m ih =>
   intro r s p a w hs h Q hQ n;rw[roundsIn_succ];obtain ⟨s0,hl,h⟩:=h;have hs0:SPI P nm N r0 h0 w0 dvB C r s0 p a w:=⟨⟨fun t v hv=>hs.sp.e t v (hl.e t v hv),fun t v hv=>hs.sp.l t v (hl.l t v hv),fun t v hv=>hs.sp.en t v (hl.e t v hv),fun t v hv=>hs.sp.ln t v (hl.l t v hv),hs.sp.sz,by show HR P r s0.h w.heap;rw[hl.h];exact hs.sp.hr,trivial⟩,by rw[hl.ds];exact hs.ds,by rw[hl.h];exact hs.st,hs.cx⟩
   refine hb _ (by intro v s hh;exact hnp v s hh) r s0 p a w hs0 h _ (fun out s' p' e a' w' r' hp ho hle hs'=>?_) n;cases out with
   | norm=>cases ho;exact ih r' s' p' a' w' hs' hp Q (fun out s2 p2 e2 a2 w2 r2 y1 y2 y3 y4=>hQ out s2 p2 e2 a2 w2 r2 y1 y2 (hle.trans y3) y4) n
   | exit id=>cases ho;exact hQ (.exit id) s' p' _ _ _ r' hp rfl hle hs'
   | ret=>cases ho;exact hQ .ret s' p' _ _ _ r' hp rfl hle hs'
   | pan v=>exact absurd hp (hnp _ _)
def jmp:Out->Option Code
 | .exit id=>some (.exit id)
 | .ret=>some .ret
 | _=>none
def CR (l D:Nat) (o:Loop):Bool->Act->World->Prop:=fun p a w=>p=false/\a.defers=[]/\w.heap[l]?=some (.loop o)/\w.heap[D]?=some (.deferred (some []))
theorem cR_ok {l D:Nat} {o:Loop}:CS P (CR l D o):=⟨fun hr st hd ⟨e0,e1,e2,e3⟩=>⟨e0,hd.trans e1,st.keepIdl hr e2 rfl,st.keepIdl hr e3 rfl⟩⟩
def CH (l D:Nat) (rec:Option Code->Loop):Out->Act->World->Prop:=fun p a w=>a.defers=[]/\w.heap[l]?=some (.loop (rec (jmp p)))/\w.heap[D]?=some (.deferred (some []))
theorem cH_ok {l D:Nat} {rec:Option Code->Loop}:CS P (CH l D rec):=⟨fun hr st hd ⟨e1,e2,e3⟩=>⟨hd.trans e1,st.keepIdl hr e2 rfl,st.keepIdl hr e3 rfl⟩⟩
def COf (w0:World):Bool->Act->World->Prop:=fun p a w=>(p=false->a.defers=[])/\(p=true -> ∃ Dk,w0.heap.size<=Dk/\a.defers=[{ target:=.collected Dk,args:=#[] }]/\w.heap[Dk]?=some (.deferred (some [])))
theorem cO_ok {w0:World}:CS P (COf w0):=⟨fun hr st hd ⟨e1,e2⟩=>⟨fun h=>hd.trans (e1 h),fun h=>by obtain ⟨Dk,g1,g2,g3⟩:=e2 h;exact ⟨Dk,g1,hd.trans g2,st.keepIdl hr g3 rfl⟩⟩⟩
theorem updps_sp:∀ (ps:List Nat) (vs vs':List Value),VL r vs vs'->(∀ t∈ps,nm.contains t=true/\t<N) -> ∀ {e:PE} {h:AH} {tm:Array Value},SP P nm N r ⟨e,[],h,[]⟩ ⟨tm,[]⟩ w ->
 SP P nm N r ⟨updps e ps vs,[],h,[]⟩ ⟨(ps.zip vs').foldl (fun t (p,v)=>t.setIfInBounds p v) tm,[]⟩ w:=by
 intro ps
 induction ps with
 | nil=>intro vs vs' hv hp e h tm hs;simpa [updps] using hs
 | cons t ps ih =>
   intro vs vs' hv hp e h tm hs;cases vs with
   | nil=>have:=hv.nil_left;subst this;simpa [updps] using hs
   | cons v vs =>
     obtain ⟨v',l',rfl,h1,h2⟩:=hv.head;simp only[updps,List.zip_cons_cons,List.foldl_cons];obtain ⟨n1,n2⟩:=hp t Z5;refine ih vs l' h2 (fun t ht=>hp t (Z4 _ ht)) ?_;have:=hs.put (dst:=some t) (d:=.n t) (by simp only[resDst,n2,if_true,n1]) (Stp.refl hs.hr) h1;exact this
theorem round_ok {fn:FuncId} {ps:Array Tmp} {asg body:Code} {xa xb:RC} {Dk:Nat}
 (iha:∀ (C:Bool->Act->World->Prop),CS P C->CIB P nm N r h0 w0 (some (Dk+1)) C asg (wpc P keep nm xa))
 (ihb:∀ (C:Bool->Act->World->Prop),CS P C->CIB P nm N r h0 w0 (some (Dk+1)) C body (wpc P keep nm xb))
 (hps:∀ t∈ps.toList,nm.contains t=true/\t<N) {e:PE} {tm:Array Value} (hsp:SP P nm N r ⟨e,[],h0,[]⟩ ⟨tm,[]⟩ w0) (hD:w0.heap.size<=Dk) :
 HookOk P r h0 w0 none (fun l' ags hh K=>l'=Dk+1 /\ ∃ j h2,RndH nm (wpc P keep nm xa) (wpc P keep nm xb) e ps.toList ags hh j h2/\hh.length<=h2.length/\K j h2) (CH (Dk+1) Dk (recL fn tm ps asg body Dk)):=by
 constructor
 intro l vs h K hY r1 a1 w1 args' st hc hvl;obtain ⟨rfl,j,h2,⟨hlen,_,hR⟩,_,hK⟩:=hY;obtain ⟨e1,e5,e6⟩:=hc;have hsz:args'.size=(recL fn tm ps asg body Dk none).params.size:=by
  have:=hvl.1;simp only[Zf] at this
  show args'.size=ps.size
  simp only[Zf] at hlen;omega
 refine ⟨_,_,_,_,run_yield e5 hsz,fun n2=>?_⟩;have hsp1:SP P nm N r1 ⟨e,[],h,[]⟩ ⟨tm,[]⟩ w1:=⟨fun t v hv=>let ⟨v',x1,x2⟩:=hsp.e t v hv;⟨v',x1,x2.mono st.le⟩,fun t v hv=>(by cases hv),hsp.en,fun t v hv=>(by cases hv),hsp.sz,st.hr,trivial⟩
 have hsp2:=updps_sp ps.toList vs args'.toList hvl hps hsp1;rw[<- Array.toList_zip,Array.foldl_toList] at hsp2;have hin:SPI P nm N r h0 w0 dvB (CR (Dk+1) Dk (recL fn tm ps asg body Dk none)) r1 ⟨updps e ps.toList vs,[],h,[]⟩ false ⟨(ps.zip args').foldl (fun t (p,v)=>t.setIfInBounds p v) tm,[]⟩ w1 :=
  ⟨hsp2,rfl,st,rfl,rfl,e5,e6⟩
 refine roundIn_of_wpIn (F:=FW none) trivial (iha _ cR_ok _ (fun v s hh=>by cases hh.1) r1 _ false _ w1 hin hR _ (fun out s1 p1 ex a2 w2 r2 hp ho hle hs1=>?_) _);obtain ⟨rfl,hR⟩:=hp;cases ho;obtain ⟨f0,f2,f5,f6⟩:=hs1.cx;subst f0;refine ⟨_,run_beginRound f5 rfl,?_⟩;have hlt1:Dk+1<w2.heap.size:=(Z1.1 f5).1;obtain ⟨bz,hbz⟩:∃ bz:Loop,bz={ recL fn tm ps asg body Dk none with state:=.busy }:=⟨_,rfl⟩
 rw[<- hbz];have hst2:=hs1.st.putIdl f5 rfl (by omega) (.loop bz);have hin2:SPI P nm N r h0 w0 dvB (CR (Dk+1) Dk bz) r2 s1 false a2 (w2.putObj (Dk+1) (.loop bz)) :=
  ⟨⟨hs1.sp.e,hs1.sp.l,hs1.sp.en,hs1.sp.ln,hs1.sp.sz,hst2.hr,trivial⟩,hs1.ds,hst2,rfl,f2,World.putObj_heap_same hlt1,by rw[World.putObj_heap_other (by omega)];exact f6⟩
 refine ihb _ cR_ok _ (by intro v s hh;exact hh.2.2 v rfl) r2 s1 false a2 _ hin2 hR _ (fun out s2 p2 ex a3 w3 r3 hp ho hle2 hs2=>?_) _;obtain ⟨rfl,rfl,hnp⟩:=hp;obtain ⟨g0,g2,g5,g6⟩:=hs2.cx;have hlt2:Dk+1<w3.heap.size:=(Z1.1 g5).1;have fin:goesOn out=(jmp out).isNone -> ∃ v w',(Instr.endRound (Dk+1) (jmp out)).run P w3 = .ok v w' /\ ∃ j h' r',K j h'/\Ending.returned v = .returned (.bool (goesOn j))/\r1.le r'/\Stp P r h0 w0 r' h' w'/\CH (Dk+1) Dk (recL fn tm ps asg body Dk) j a1 w':=by
  intro hgo;refine ⟨_,_,run_endRound (jmp out) g5,out,s2.h,r3,hK,by rw[hgo],hle.trans hle2,hs2.st.putIdl g5 rfl (by omega) _,e1,?_,?_⟩
  ·rw[World.putObj_heap_same hlt2,hbz];rfl
  ·rw[World.putObj_heap_other (by omega)];exact g6
 cases out with
 | norm=>cases ho;exact fin rfl
 | exit id=>cases ho;exact fin rfl
 | ret=>cases ho;exact fin rfl
 | pan v=>exact absurd rfl (hnp v)
end
end Go.Eng

namespace Go.Eng
section
variable {P:Program} {keep:Bool} {nm:List Nat} {N:Nat} {r0:Rho} {h0:AH} {w0:World} {ro:Option Nat} {r r':Rho} {s:PS} {a a':Act} {w w':World}
structure MO (w0:World) (ro:Option Nat) (C:Bool->Act->World->Prop):Prop where
 ro:ro=none
 df:∀ a w,C false a w->a.defers=[]
 mrk:∀ (a:Act) (w:World) (Dk:Nat),w0.heap.size<=Dk->a.defers=[{ target:=.collected Dk,args:=#[] }]->w.heap[Dk]?=some (.deferred (some []))->C true a w
theorem mkD_ne {p:Bool} (h:[]=dvB p):p=false:=by cases p<;>first|rfl|cases h
theorem wpcI_ok (hP:noGoroutines P=true) (hm:P.follows .mixedOrders=true):∀ (c:Code) (r0:Rho) (h0:AH) (w0:World) (ro:Option Nat) (C:Bool->Act->World->Prop) (O:Bool) {rc:RC},CS P C->(O=true->MO w0 ro C)->resCI P nm N O c=some rc ->
 CIB P nm N r0 h0 w0 ro C c (wpc P keep nm rc):=by
 intro c
 induction c with
 | skip=>intro r0 h0 w0 ro C O rc hC hO hc Φ hnp r s p a w hs hw Q hQ n;cases hc;exact wpIn_skip (hQ .norm s p _ _ _ r hw rfl (.refl r) hs)
 | ret=>intro r0 h0 w0 ro C O rc hC hO hc Φ hnp r s p a w hs hw Q hQ n;cases hc;exact wpIn_ret (hQ .ret s p _ _ _ r hw rfl (.refl r) hs)
 | exit id=>intro r0 h0 w0 ro C O rc hC hO hc Φ hnp r s p a w hs hw Q hQ n;cases hc;exact wpIn_exit (hQ (.exit id) s p _ _ _ r hw rfl (.refl r) hs)
 | region id ops d =>
   intro r0 h0 w0 ro C O rc hC hO hc Φ hnp r s p a w hs hw Q hQ n;simp only[resCI] at hc
   split at hc
   case isFalse=>cases hc;exact hw.elim
   case isTrue hn =>
   have hn':∀ o∈ops.toList,notD o=true:=fun o ho=>Za.1 hn o (by simpa using ho)
   cases d with
   | false =>
     rcases orBad_inv hc with hc|rfl
     case inr=>exact hw.elim
     obtain ⟨rl,h1,rfl⟩:=Z0.1 hc;have hw2:=wpr_Y (p:=.norm) hnp ops.toList h1 hn' hw;refine wpIn_region_list (wprY_ok (C:=fun _=>C p) ⟨fun hr st hd hc=>hC.st hr st hd hc⟩ hookF ops.toList h1 hn' (s:=⟨s.e,s.l,s.h,[]⟩) (p:=.norm) ⟨hs.sp,rfl,hs.st,hs.cx⟩ hw2 (fun s' p' a' w' r' ⟨y0,y1⟩ y2 y3=>?_) n);exact hQ .norm _ p _ a' w' r' y1 rfl y2 ⟨y3.sp,hs.ds,y3.st,y3.cx⟩
   | true =>
     simp only[resC] at hc
     rcases orBad_inv hc with hc|rfl
     case inr=>exact hw.elim
     split at hc
     case isFalse=>cases hc
     case isTrue hd =>
     obtain ⟨rl,h1,hc⟩:=Z6.1 hc
     split at hc
     case isFalse=>cases hc
     case isTrue hds =>
     cases hc;obtain ⟨vs,h2,hw⟩:=vsK_inv hw;have hw3:wpd P keep nm (drK (keepN (wrN (annot (ancs (hst P nm N ops).toList) rl)) s.e) (if !panS (ancs (hst P nm N ops).toList) rl then npK (fun o t=>o = .norm/\t.ds=[]/\Φ .norm ⟨t.e,t.l,t.h,s.ds⟩) else (fun o t=>o = .norm/\t.ds=[]/\Φ .norm ⟨t.e,t.l,t.h,s.ds⟩)))
      (annot (ancs (hst P nm N ops).toList) rl) [] [] s.e s.l s.h []:=by
      have key:∀ (os:List DO) (hs:List (Nat × AH)) (rs:List Rd) (e l:PE) (h:AH),wpd P keep nm (drK (keepN (wrN (annot (ancs (hst P nm N ops).toList) rl)) s.e) (if !panS (ancs (hst P nm N ops).toList) rl then npK Φ else Φ)) os hs rs e l h s.ds ->
       wpd P keep nm (drK (keepN (wrN (annot (ancs (hst P nm N ops).toList) rl)) s.e) (if !panS (ancs (hst P nm N ops).toList) rl then npK (fun o t=>o = .norm/\t.ds=[]/\Φ .norm ⟨t.e,t.l,t.h,s.ds⟩) else (fun o t=>o = .norm/\t.ds=[]/\Φ .norm ⟨t.e,t.l,t.h,s.ds⟩))) os hs rs e l h []:=by
       intro os
       induction os with
       | nil =>
         intro hs rs e l h hw;simp only[wpd] at hw ⊢;cases hb:(!panS (ancs (hst P nm N ops).toList) rl) with
         | true=>rw[hb] at hw;exact ⟨rfl,rfl,hw⟩
         | false=>rw[hb] at hw;exact ⟨rfl,rfl,hw⟩
       | cons o os ih =>
         intro hs rs e l h hw;simp only[wpd] at hw ⊢
         rcases gK_one hw with ⟨g1,g2⟩|⟨g1,g2⟩
         ·rcases wpk_one _ g1 with ⟨v,h',k1,k2,k3⟩|⟨v,h',k1,k2,k3⟩
          ·obtain ⟨c1,c2⟩:=chkK_one k1
           obtain ⟨d1,d2⟩:=oldK_one c1;exact g2 _ _ (k3 _ _ (c2 _ (d2 _ (ih _ _ _ _ _ d1))))
          ·exfalso
           cases hb:(!panS (ancs (hst P nm N ops).toList) rl) with
           | true=>rw[hb] at k1;exact k1
           | false=>rw[hb] at k1;exact hnp _ _ k1
         ·exact g2 _ _ (ih _ _ _ _ _ g1)
      exact key _ _ _ _ _ _ hw
     have hany:=hst_any (draw_ok' hm N _ rl hd h1 hds (fun o t=>o = .norm/\t.ds=[]/\Φ .norm ⟨t.e,t.l,t.h,s.ds⟩) r ⟨s.e,s.l,s.h,[]⟩ ⟨a.tmps,[]⟩ w hs.sp ⟨vs,h2⟩ hw3
      (fun e a' w'=>e = .normal/\a'.defers=[] /\ ∃ (r':Rho) (s':PS),Φ .norm ⟨s'.e,s'.l,s'.h,s.ds⟩/\Stp P r s.h w r' s'.h w'/\SP P nm N r' ⟨s'.e,s'.l,s'.h,[]⟩ ⟨a'.tmps,[]⟩ w') (fun out s' ⟨hp,hz,hp2⟩ ex a' w' r' ho st sr=>by
       subst hp;cases ho;obtain ⟨tm',X'⟩:=a';have hX:=(show DR r' [] X' from hz ▸ sr.ds).nil_inv;subst hX;exact ⟨rfl,rfl,r',s',hp2,st,⟨sr.e,sr.l,sr.en,sr.ln,sr.sz,sr.hr,trivial⟩⟩))
     obtain ⟨tm,X⟩:=a;refine wpIn_region_any hm (any_in (X:=X) (fun o ho=>notD_nd (Za.1 hn o ho)) (fun tm' w' ⟨r',s',hp,st,sp⟩=>?_) _ _ tm _ hany);exact hQ .norm ⟨s'.e,s'.l,s'.h,s.ds⟩ p _ _ w' r' hp rfl st.le ⟨sp,hs.ds,hs.st.trans st,hC.st (a:=⟨tm,X⟩) hs.st.hr st rfl hs.cx⟩
 | seq x y ihx ihy =>
   intro r0 h0 w0 ro C O rc hC hO hc Φ hnp r s p a w hs hw Q hQ n;simp only[resCI] at hc
   split at hc
   case h_2=>cases hc
   case h_1 x' y' hx hy =>
    cases hc;refine wpIn_seq (ihx r0 h0 w0 ro C O hC hO hx _ (by intro v s h;exact hnp v s h) r s p a w hs hw _ (fun out s' p' e a' w' r' hp ho hle hs'=>?_) n);cases out with
    | norm=>cases ho;exact ihy r0 h0 w0 ro C O hC hO hy Φ hnp r' s' p' a' w' hs' hp Q (fun out s2 p2 e2 a2 w2 r2 y1 y2 y3 y4=>hQ out s2 p2 e2 a2 w2 r2 y1 y2 (hle.trans y3) y4) n
    | exit id=>cases ho;exact hQ (.exit id) s' p' _ _ _ r' hp rfl hle hs'
    | ret=>cases ho;exact hQ .ret s' p' _ _ _ r' hp rfl hle hs'
    | pan v=>exact absurd hp (hnp _ _)
 | cond x t e iht ihe =>
   intro r0 h0 w0 ro C O rc hC hO hc Φ hnp r s p a w hs hw Q hQ n;simp only[resCI] at hc
   split at hc
   case h_2=>cases hc
   case h_1 x' t' e' hx ht he =>
    cases hc;obtain ⟨v,hv,hw⟩:=vK_inv hw;obtain ⟨b,rfl,hw⟩:=bK_inv hw;have hval:a.eval x = .bool b:=(hs.sp.rx hx hv).bool_inv
    rcases br_inv hw with ⟨rfl,h⟩|⟨rfl,h⟩
    ·exact wpIn_cond_true hval (iht r0 h0 w0 ro C O hC hO ht Φ hnp r s p a w hs h Q hQ n)
    ·exact wpIn_cond_false hval (ihe r0 h0 w0 ro C O hC hO he Φ hnp r s p a w hs h Q hQ n)
 | block id b ih =>
   intro r0 h0 w0 ro C O rc hC hO hc Φ hnp r s p a w hs hw Q hQ n;obtain ⟨b',h1,rfl⟩:=Z0.1 hc;refine wpIn_block (ih r0 h0 w0 ro C O hC hO h1 _ (by intro v s h;exact hnp v s h) r s p a w hs hw _ (fun out s' p' e a' w' r' hp ho hle hs'=>?_) n);cases out with
   | norm=>cases ho;exact hQ .norm s' p' _ _ _ r' hp rfl hle hs'
   | exit i =>
     cases ho;simp only[Exit.inBlock];simp only[blkK] at hp
     split at hp
     ·rename_i hid;subst hid;rw[if_pos rfl];exact hQ .norm s' p' _ _ _ r' hp rfl hle hs'
     ·rename_i hid;rw[if_neg hid];exact hQ (.exit i) s' p' _ _ _ r' hp rfl hle hs'
   | ret=>cases ho;exact hQ .ret s' p' _ _ _ r' hp rfl hle hs'
   | pan v=>exact absurd hp (hnp _ _)
 | loop b ih =>
   intro r0 h0 w0 ro C O rc hC hO hc Φ hnp r s p a w hs hw Q hQ n;obtain ⟨b',h1,rfl⟩:=Z0.1 hc;obtain ⟨m,hw⟩:=hw;exact wpIn_loop_rounds m (loopN_okI (ih r0 h0 w0 ro C O hC hO h1) hnp m r s p a w hs hw Q hQ n)
 | scope b ih =>
   intro r0 h0 w0 ro C O rc hC hO hc Φ hnp r s p a w hs hw Q hQ n;refine wpIn_scope (ih r0 h0 w0 ro C O hC hO hc Φ hnp r s p a w hs hw _ (fun out s' p' e a' w' r' hp ho hle hs'=>?_) n);cases out with
   | norm=>cases ho;exact hQ .norm s' p' _ _ _ r' hp rfl hle hs'
   | exit id=>cases ho;exact hQ (.exit id) s' p' _ _ _ r' hp rfl hle hs'
   | ret=>cases ho;exact hQ .ret s' p' _ _ _ r' hp rfl hle hs'
   | pan v=>exact absurd hp (hnp _ _)
 | rangeFunc g ps asg body iha ihb =>
   intro r0 h0 w0 ro C O rc hC hO hc Φ hnp r s p a w hs hw Q hQ m;simp only[resCI] at hc
   split at hc
   case isFalse=>cases hc;exact hw.elim
   case isTrue hcc =>
   simp only[Z9,List.all_eq_true,decide_eq_true_eq] at hcc;obtain ⟨rfl,hps⟩:=hcc
   split at hc
   case h_2=>cases hc
   case h_1 g' xa xb hg hxa hxb =>
   cases hc;obtain ⟨hro,hdf0,hMk⟩:=hO rfl;subst hro;obtain ⟨hds,f,cap,out,h',hgf,hR,hlen,hΦ⟩:=hw;have hp0:p=false:=mkD_ne (by rw[<- hds,hs.ds]);subst hp0;have hdf:=hdf0 _ _ hs.cx;obtain ⟨f',c',e1,e2,e3⟩:=(hs.sp.rx hg hgf).func_inv;have hf':f' = #[]:=Z3.1 (show VL r [] f'.toList from e2).nil_left;subst hf';obtain ⟨nmi,rci,hit,hnmi,hrun⟩:=hR;unfold it0 at hit
   split at hit
   case h_2=>cases hit
   case h_1 fi hfi =>
   split at hit
   case h_2=>cases hit
   case h_1 ci hci =>
   split at hit
   case isFalse=>cases hit
   case isTrue hres =>
   simp only[Z9] at hres;obtain ⟨hres,hndf⟩:=hres;have e1:a.eval g = .func (.func f) #[] c':=e1;refine wpIn_rangeFunc (fun fn _=>?_);obtain ⟨W1,hW1⟩:∃ W1,(w.alloc (.deferred (some []))).alloc (.loop (recL fn a.tmps ps asg body w.heap.size none))=W1:=⟨_,rfl⟩
   have hL1:W1.heap[w.heap.size+1]?=some (.loop (recL fn a.tmps ps asg body w.heap.size none)):=by
    rw[<- hW1];have:=World.alloc_heap_new (w.alloc (.deferred (some []))) (.loop (recL fn a.tmps ps asg body w.heap.size none));rwa [World.size_alloc] at this
   have hK1:W1.heap[w.heap.size]?=some (.deferred (some [])):=by
    rw[<- hW1];have h1:=World.alloc_heap_new w (.deferred (some []));have h2:w.heap.size<(w.alloc (.deferred (some []))).heap.size:=by rw[World.size_alloc];omega
    show ((w.alloc (.deferred (some []))).heap.push _)[w.heap.size]?=_
    rw[Z8 h2,<- Z2 h2];exact h1
   have st1:Stp P r s.h w r s.h W1:=by rw[<- hW1];exact ((Stp.refl hs.st.hr).pushIdl _).pushIdl _
   refine ⟨w.heap.size+1,[{ target:=.collected w.heap.size,args:=#[] }],W1,{ target:=.fn (.func f) c',args:=#[.func (.yield (w.heap.size+1)) #[] #[]] },W1,f,
    #[.func (.yield (w.heap.size+1)) #[] #[]]++c',W1,?_,?_,fun _ _=>trivial,?_,FW_depth,?_⟩
   ·rw[<- hW1];exact run_enterLoop_outer _ _ _ _ _
   ·simp only[resolve,rangeCall,e1,Deferred.ofValue]
    simp [Act.eval]
   ·simp only[invoke,Sem.run_bind,Sem.run_pure,Result.andThen_ok]
    exact run_callFunc hP hfi hci _ _
   ·have hargs:VL r (.func (.yield (w.heap.size+1)) #[] #[]::cap.toList) (#[Value.func (.yield (w.heap.size+1)) #[] #[]]++c').toList:=by
     rw[Array.toList_append];exact VL.cons (VR.func_l (.nil r) (.nil r)) e3
    have hsp0:=start_sp (P:=P) (N:=fi.ntmps) (nm:=nmi) st1.hr hargs (by simpa using hnmi);have hin:SPI P nmi fi.ntmps r s.h w (fun _=>[]) (CH (w.heap.size+1) w.heap.size (recL fn a.tmps ps asg body w.heap.size)) r ⟨argE 0 (.func (.yield (w.heap.size+1)) #[] #[]::cap.toList),[],s.h,[]⟩ .norm
     { tmps:=(#[Value.func (.yield (w.heap.size+1)) #[] #[]]++c')++Array.replicate (fi.ntmps-(#[Value.func (.yield (w.heap.size+1)) #[] #[]]++c').size) undef,defers:=[] } W1 :=
     ⟨hsp0,rfl,st1,rfl,hL1,hK1⟩
    have hhook:=round_ok (P:=P) (keep:=keep) (nm:=nm) (N:=N) (r:=r) (h0:=s.h) (w0:=w) (fn:=fn) (ps:=ps) (asg:=asg) (body:=body) (xa:=xa) (xb:=xb) (Dk:=w.heap.size)
     (fun C hC=>iha r s.h w _ C false hC (fun e=>by cases e) hxa) (fun C hC=>ihb r s.h w _ C false hC (fun e=>by cases e) hxb) hps (e:=s.e) (tm:=a.tmps)
     ⟨hs.sp.e,fun t v h=>(by cases h),hs.sp.en,fun t v h=>(by cases h),hs.sp.sz,hs.sp.hr,trivial⟩ (Nat.le_refl _)
    refine callsIn_of_wp (F:=FW none) hfi hci trivial (wpcY_ok (keep:=false) cH_ok hhook ci hit hndf _ (by rintro v s p ⟨h|h,_⟩<;>cases h) r _ .norm _ W1 hin (hrun (w.heap.size+1)) _ (fun o s1 p1 e a' w' r' hp ho hle hs'=>?_) _);obtain ⟨hoo,rfl,hh⟩:=hp;obtain ⟨g2,g5,g6⟩:=hs'.cx;have hlt:w.heap.size+1<w'.heap.size:=(Z1.1 g5).1;have fin:(match jmp p1 with
     | none=>Q .normal { a with defers:=[{ target:=.collected w.heap.size,args:=#[] }]++a.defers } (w'.putObj (w.heap.size+1) (.loop { recL fn a.tmps ps asg body w.heap.size (jmp p1) with state:=.exhausted }))
     | some c=>c.wpIn (FW none) m P Q { a with defers:=[{ target:=.collected w.heap.size,args:=#[] }]++a.defers } (w'.putObj (w.heap.size+1) (.loop { recL fn a.tmps ps asg body w.heap.size (jmp p1) with state:=.exhausted }))) ->
     a'.defers=[] /\ ∃ v,(results fi a'.tmps).run P w' = .ok v w'/\rangePost (FW none) m P (w.heap.size+1) Q { a with defers:=[{ target:=.collected w.heap.size,args:=#[] }]++a.defers } (.returned v) w':=by
     intro hq;have hvs:resRVs P nmi fi.results.toList=some []:=by
      have:fi.results.toList=[]:=by simpa using hres
      rw[this];rfl
     obtain ⟨v',q1,_⟩:=rtup_ok (P:=P) hs'.sp (vs:=[]) hvs rfl;refine ⟨g2,v',q1,jmp p1,_,run_endLoop g5 (by unfold recL;cases (jmp p1)<;>simp),hq⟩
    have hst3:Stp P r s.h w r' h' (w'.putObj (w.heap.size+1) (.loop { recL fn a.tmps ps asg body w.heap.size (jmp p1) with state:=.exhausted })):=by
     have:=hs'.st;rw[hh] at this;exact this.putIdl g5 rfl (by omega) _
    have hri:SPI P nm N r0 h0 w0 dvB C r' ⟨s.e,[],h',[mkD]⟩ true { a with defers:=[{ target:=.collected w.heap.size,args:=#[] }]++a.defers } (w'.putObj (w.heap.size+1) (.loop { recL fn a.tmps ps asg body w.heap.size (jmp p1) with state:=.exhausted })):=by
     refine ⟨⟨fun t v hv=>let ⟨v',x1,x2⟩:=hs.sp.e t v hv;⟨v',x1,x2.mono hst3.le⟩,fun t v h=>(by cases h),hs.sp.en,fun t v h=>(by cases h),hs.sp.sz,hst3.hr,trivial⟩,rfl,hs.st.trans hst3,hMk _ _ w.heap.size ?_ (by simp [hdf]) ?_⟩
     ·have:=hs.st.fr.size;omega
     ·rw[World.putObj_heap_other (by omega)];exact g6
    have main:(e = .normal\/e = .ret)->bodyPost P fi (rangePost (FW none) m P (w.heap.size+1) Q { a with defers:=[{ target:=.collected w.heap.size,args:=#[] }]++a.defers }) e a' w':=by
     intro hee;have hfin:=fin (by
      cases p1 with
      | norm=>exact hQ _ _ _ _ _ _ r' hΦ rfl hst3.le hri
      | exit id=>exact wpIn_exit (hQ _ _ _ _ _ _ r' hΦ rfl hst3.le hri)
      | ret=>exact wpIn_ret (hQ _ _ _ _ _ _ r' hΦ rfl hst3.le hri)
      | pan v=>exact absurd hΦ (hnp _ _))
     rcases hee with rfl|rfl
     ·exact hfin
     ·exact hfin
    rcases hoo with rfl|rfl
    ·cases ho;exact main (.inl rfl)
    ·cases ho;exact main (.inr rfl)
 | _=>intro r0 h0 w0 ro C O rc hC hO hc Φ hnp r s p a w hs hw;cases hc;exact hw.elim
end
end Go.Eng

namespace Go.Eng
def lookI (P:Program) (f:FuncId) (nm:List Nat):Option (RC × List RV) :=
 match P.funcs[f]? with
 | some fn=>match fn.body with
   | some c=>match resCI P nm fn.ntmps true c,resRVs P nm fn.results.toList with
     | some rc,some rvs=>some (rc,rvs)
     | _,_=>none
   | none=>none
 | none=>none
def finKI (P:Program) (rvs:List RV) (Φ:Res->AH->Prop):Out->PS->Prop
 | .norm,s=>(s.ds=[]\/s.ds=[mkD])/\rvK P s rvs fun vs=>Φ (.ret (tup vs)) s.h
 | .ret,s=>(s.ds=[]\/s.ds=[mkD])/\rvK P s rvs fun vs=>Φ (.ret (tup vs)) s.h
 | _,_=>False
section
variable {P:Program} {keep:Bool} {nm:List Nat}
theorem rvK_ds {e l:PE} {h:AH} {ds ds':List Dfr}:∀ {rvs:List RV} {K:List Value->Prop},rvK P ⟨e,l,h,ds⟩ rvs K->rvK P ⟨e,l,h,ds'⟩ rvs K:=by
 intro rvs
 induction rvs with
 | nil=>intro K h;exact h
 | cons x rvs ih =>
   intro K h;cases x with
   | v x=>obtain ⟨v,h1,h⟩:=vK_inv h;simp only[rvK,vK,h1];exact ih h
   | c x u =>
     obtain ⟨v,h1,h⟩:=vK_inv h;obtain ⟨⟨v2,B⟩,h2,h⟩:=rK_inv h;simp only[rvK,vK,h1,rK,h2];cases B<;>exact ih h
theorem Gets.fnI (hP:noGoroutines P=true) (hm:P.follows .mixedOrders=true) {f:FuncId} {rc:RC} {rvs:List RV} (hk:lookI P f nm=some (rc,rvs)) {args:List Value} (hnm:((List.range args.length).all nm.contains)=true) {h:AH} {Φ:Res->AH->Prop}
 (hw:wpc P keep nm rc (finKI P rvs Φ) ⟨argE 0 args,[],h,[]⟩):Gets P f args h Φ:=by
 unfold lookI at hk
 split at hk
 case h_2=>cases hk
 case h_1 fn hf =>
 split at hk
 case h_2=>cases hk
 case h_1 c hb =>
 split at hk
 case h_2=>cases hk
 case h_1 rc' rvs' hc hr =>
 cases hk;obtain ⟨out,s',k1,k2,k3⟩:=wpc_one rc _ _ hw;have norm:∀ {vs:List Value},(out = .norm\/out = .ret)->(s'.ds=[]\/s'.ds=[mkD])->rvK P s' rvs (· = vs)->Holds P f args h (.ret (tup vs)) s'.h:=by
  intro vs ho hds hk r w args' hr' ha o a K Q hK hQ;rw[run_callFunc hP hf hb];refine (callsIn_wide (n:=0)).1 (callsIn_of_wp_marks hf hb trivial ?_);have start:SPI P nm fn.ntmps r h w dvB (COf w) r ⟨argE 0 args,[],h,[]⟩ false { tmps:=args'++Array.replicate (fn.ntmps-args'.size) undef,defers:=[] } w :=
   ⟨start_sp (N:=fn.ntmps) hr' ha hnm,rfl,.refl hr',fun _=>rfl,fun e=>by cases e⟩
  have mo:MO w none (COf w):=⟨rfl,fun a w h=>h.1 rfl,fun a w Dk h1 h2 h3=>⟨fun e=>(by cases e),fun _=>⟨Dk,h1,h2,h3⟩⟩⟩
  have hcode:=wpcI_ok (keep:=keep) (nm:=nm) (N:=fn.ntmps) hP hm c r h w none (COf w) true cO_ok (fun _=>mo) hc;refine hcode (fun o' t=>o'=out/\t=s') (fun v t hh=>?_) r _ false _ w start (k3 _ ⟨rfl,rfl⟩) _ (fun o' t p' e a' w' r' hp ho2 hle hs=>?_) 0
  ·obtain ⟨e1,_⟩:=hh;rw[<- e1] at ho;rcases ho with e|e<;>cases e
  obtain ⟨rfl,rfl⟩:=hp;obtain ⟨te,tl,th,tds⟩:=t;have behind:LeavesInM Fence.wide 0 P fn a'.tmps (fun
   | .returned v,w''=>K (a.put o.dst v) w''
   | .panicked chain,w''=>Q (.panic chain) a w''
   | .outgrown,_=>LetsOut Q) a'.defers .returning w':=by
   obtain ⟨c1,c2⟩:=hs.cx;cases p' with
   | false =>
     rw[c1 rfl];obtain ⟨v',e1,e2⟩:=rtup_ok hs.sp hr (rvK_ds hk);exact ⟨v',e1,hK _ _ _ _ rfl hs.st e2⟩
   | true =>
     obtain ⟨Dk,g1,g2,g3⟩:=c2 rfl;rw[g2];have st2:=hs.st.putIdl g3 rfl g1 (.deferred none);have sp2:SP P nm fn.ntmps r' ⟨te,tl,th,[]⟩ ⟨a'.tmps,[]⟩ (w'.putObj Dk (.deferred none)):=⟨hs.sp.e,hs.sp.l,hs.sp.en,hs.sp.ln,hs.sp.sz,st2.hr,trivial⟩
     obtain ⟨v',e1,e2⟩:=rtup_ok sp2 hr (rvK_ds hk);exact ⟨by simp,.inl ⟨Dk,_,rfl,run_takeDeferred g3,v',e1,hK _ _ _ _ rfl st2 e2⟩⟩
  rcases ho with rfl|rfl
  ·cases ho2;exact behind
  ·cases ho2;exact behind
 cases out with
 | norm =>
   obtain ⟨hds,hk⟩:=k1;obtain ⟨vs,q1,q2⟩:=rvK_one _ hk;exact ⟨_,_,norm (.inl rfl) hds q2,k2,q1⟩
 | ret =>
   obtain ⟨hds,hk⟩:=k1;obtain ⟨vs,q1,q2⟩:=rvK_one _ hk;exact ⟨_,_,norm (.inr rfl) hds q2,k2,q1⟩
 | exit id=>exact k1.elim
 | pan v=>exact k1.elim
theorem Gets.ofI (hP:noGoroutines P=true) (hm:P.follows .mixedOrders=true) {f:FuncId} {rc:RC} {rvs:List RV} (hk:lookI P f nm=some (rc,rvs)) {args:List Value} (hnm:((List.range args.length).all nm.contains)=true) {h:AH} {Φ:Res->AH->Prop}
 (hw:∀ Ψ:Out->PS->Prop,(∀ o s,finKI P rvs Φ o s->Ψ o s)->XC P keep nm Ψ rc [] (argE 0 args) [] h []):Gets P f args h Φ :=
 Gets.fnI hP hm hk hnm (hw _ fun _ _ h=>h)
theorem finI_ret {rvs:List RV} {Φ:Res->AH->Prop} {e l:PE} {h:AH} {ds:List Dfr} (hd:ds=[]\/ds=[mkD]) (hr:rvK P ⟨e,l,h,ds⟩ rvs fun vs=>Φ (.ret (tup vs)) h):finKI P rvs Φ .ret ⟨e,l,h,ds⟩:=⟨hd,hr⟩
def XRf (P:Program) (keep:Bool) (nm:List Nat) (Φ:Out->PS->Prop) (g:Option Value) (ps:List Nat) (xa xb:RC) (k:List Fm) (e:PE) (h:AH) (ds:List Dfr):Prop :=
 ds=[] /\ ∃ f cap out h',g=some (.func (.func f) #[] cap)/\RngH P (RndH nm (wpc P keep nm xa) (wpc P keep nm xb) e ps) f cap.toList h out h'/\h.length<=h'.length/\XE P keep nm Φ out k e [] h' [mkD]
theorem XC_rf {Φ:Out->PS->Prop} {g:RX} {ps:List Nat} {xa xb:RC} {k:List Fm} {e l:PE} {h:AH} {ds:List Dfr}:XC P keep nm Φ (.rf g ps xa xb) k e l h ds=XRf P keep nm Φ (rx e l g) ps xa xb k e h ds:=rr rfl
end
end Go.Eng
