import Derived.Test.YtjacebjfidhcoaaPk5
import Derived.Test.YtjacebjfidhcoaaPk8
import Derived.Test.YtjacebjfidhcoaaPk12
set_option linter.unusedVariables false
set_option linter.unusedSimpArgs false
open Nat renaming reduceEqDiff -> ZA,reduceAdd -> ZB,reduceMul -> ZC,reduceLeDiff -> ZD,reduceLT -> ZE
open Int renaming reduceEq -> ZF
open List renaming getElem?_eq_some_iff->Z0,getElem?_eq_getElem->Z3,flatMap_cons->Z4,getElem?_eq_none_iff->Z5,take_append->Z8,take_of_length_le->Za,mem_cons_self->Zc,append_assoc->Zd,range->Ze
open Array renaming getD_eq_getD_getElem?->Z1,getElem?_eq_none->Z2
open Bool renaming and_eq_true->Z6
open Option renaming getD_some->Z7,map_some->Z9
open Nat renaming mul_le_mul_right->Zb
namespace Go.Eng
open Go.RowKit
def reOp (inv:List Nat) (o:Oper):Oper:={ o with after:=o.after.map fun e=>{ e with on:=(inv[e.on]?).getD e.on },guard:=o.guard.map fun p=>((inv[p.1]?).getD p.1,p.2) }
def reOps (sg inv:List Nat) (ops:Array Oper):Array Oper:=(sg.map fun k=>reOp inv ((ops[k]?).getD default)).toArray
def permOk (n:Nat) (sg inv:List Nat):Bool:=sg.length == n && inv.length == n && (Ze n).all fun k=>((sg[k]?).bind (inv[·]?)) == some k && ((inv[k]?).bind (sg[·]?)) == some k
structure Perm (n:Nat) (sg inv:List Nat):Prop where
 ls:sg.length=n
 li:inv.length=n
 si:∀ (k i:Nat),sg[k]?=some i->inv[i]?=some k
 is:∀ (i k:Nat),inv[i]?=some k->sg[k]?=some i
theorem permOk_inv {n:Nat} {sg inv:List Nat} (h:permOk n sg inv=true):Perm n sg inv:=by
 simp only[permOk,Z6,beq_iff_eq,List.all_eq_true,List.mem_range] at h;obtain ⟨⟨h1,h2⟩,h3⟩:=h;refine ⟨h1,h2,fun k i hk=>?_,fun i k hi=>?_⟩
 ·have hlt:=(Z0.1 hk).1
  have:=(h3 k (by omega)).1;rw[hk,Option.bind_some] at this;exact this
 ·have hlt:=(Z0.1 hi).1
  have:=(h3 i (by omega)).2;rw[hi,Option.bind_some] at this;exact this
section
variable {P:Program} {ops:Array Oper} {Q:Exit->Act->World->Prop} {md:Region.Mode} {sg inv:List Nat}
theorem reOps_size (hp:Perm ops.size sg inv):(reOps sg inv ops).size=ops.size:=by simp [reOps,hp.ls]
theorem reOps_get (hp:Perm ops.size sg inv) {i k:Nat} (h:sg[k]?=some i):(reOps sg inv ops)[k]?=(ops[i]?).map (reOp inv):=by
 have hi:=hp.si k i h;have hlt:i<ops.size:=by have:=(Z0.1 hi).1;have:=hp.li;omega
 simp [reOps,h,Array.getElem?_eq_getElem hlt]
theorem reOps_none (hp:Perm ops.size sg inv) {j:Nat} (h:inv[j]?=none):(reOps sg inv ops)[j]?=none/\ops[j]?=none:=by
 have:=Z5.1 h;have h2:=reOps_size hp;have:=hp.li;exact ⟨Z2 (by omega),Z2 (by omega)⟩
theorem reOps_yield (hp:Perm ops.size sg inv) (t:Array Value) (j:Nat):yielded (reOps sg inv ops) t ((inv[j]?).getD j)=yielded ops t j:=by
 unfold yielded;cases hj:inv[j]? with
 | none =>
   obtain ⟨e1,e2⟩:=reOps_none hp hj;rw[Option.getD_none,e1,e2]
 | some k =>
   rw[Z7,reOps_get hp (hp.is j k hj)];cases ops[j]?<;>rfl
theorem reOp_wanted (hp:Perm ops.size sg inv) (t:Array Value) (o:Oper):Region.wanted (reOp inv o) (yielded (reOps sg inv ops) t)=Region.wanted o (yielded ops t):=by
 unfold Region.wanted;obtain ⟨dst,op,type,pos,after,guard⟩:=o;cases guard with
 | none=>rfl
 | some p =>
   simp only[reOp,Z9];rw[reOps_yield hp]
theorem wpOp_re (hp:Perm ops.size sg inv) {i k:Nat} (h:sg[k]?=some i) {K:Act->World->Prop} {a:Act} {w:World} (hw:wpOp P (reOps sg inv ops) Q k K a w):wpOp P ops Q i K a w:=by
 unfold wpOp at hw ⊢;rw[reOps_get hp h] at hw;cases ho:ops[i]? with
 | none=>rw[ho] at hw;exact hw
 | some o =>
   rw[ho] at hw;simp only[Z9] at hw ⊢;rw[reOp_wanted hp] at hw;exact hw
def Same' (sg:List Nat) (L L':Array Bool):Prop:=∀ (k i:Nat),sg[k]?=some i -> ∀ b,L'.getD k b=L.getD i b
theorem mem_rdy {L:Array Bool} {i:Nat}:i∈Region.ready md ops L ↔ i<ops.size/\L.getD i true=false/\((ops[i]?).map (·.after.all fun e=>!Region.binds md e || L.getD e.on false)).getD false=true:=by
 unfold Region.ready;rw[List.mem_filter,List.mem_range,Z6,Bool.not_eq_true']
theorem ready_re (hp:Perm ops.size sg inv) {L L':Array Bool} (hs:L.size=ops.size) (hs':L'.size=ops.size) (hL:Same' sg L L') {i k:Nat} (h:sg[k]?=some i):k∈Region.ready md (reOps sg inv ops) L' ↔ i∈Region.ready md ops L:=by
 have hi:=hp.si k i h;have h1:i<ops.size:=by have:=(Z0.1 hi).1;have:=hp.li;omega
 have h2:k<(reOps sg inv ops).size:=by have:=(Z0.1 h).1;have:=hp.ls;rw[reOps_size hp];omega
 rw[mem_rdy,mem_rdy,hL k i h,reOps_get hp h];have e:((ops[i]?.map (reOp inv)).map (·.after.all fun e=>!Region.binds md e || L'.getD e.on false)).getD false=((ops[i]?).map (·.after.all fun e=>!Region.binds md e || L.getD e.on false)).getD false:=by
  cases ho:ops[i]? with
  | none=>rfl
  | some o =>
    simp only[Z9,Z7,reOp,Array.all_map]
    congr 1
    funext e
    simp only[Function.comp];have hb:Region.binds md { e with on:=(inv[e.on]?).getD e.on }=Region.binds md e:=rfl;rw[hb]
    congr 1
    cases hj:inv[e.on]? with
    | none =>
      have:=Z5.1 hj;have:=hp.li;rw[Option.getD_none,Z1,Z1,Z2 (by omega),Z2 (by omega)]
    | some j=>rw[Z7];exact hL j e.on (hp.is _ _ hj) false
 rw[e];exact ⟨fun x=>⟨h1,x.2⟩,fun x=>⟨h2,x.2⟩⟩
theorem ready_nil (hp:Perm ops.size sg inv) {L L':Array Bool} (hs:L.size=ops.size) (hs':L'.size=ops.size) (hL:Same' sg L L') (h:Region.ready md ops L=[]):Region.ready md (reOps sg inv ops) L'=[]:=by
 cases hr:Region.ready md (reOps sg inv ops) L' with
 | nil=>rfl
 | cons k r =>
   have hk:k∈Region.ready md (reOps sg inv ops) L':=by rw[hr];exact Zc
   have h2:=(mem_rdy.1 hk).1;rw[reOps_size hp] at h2;obtain ⟨i,hi⟩:∃ i,sg[k]?=some i:=⟨_,Z3 (by have:=hp.ls;omega)⟩
   have:=(ready_re hp hs hs' hL hi).1 hk;rw[h] at this;cases this
theorem wpAny_re (hp:Perm ops.size sg inv):∀ (fuel:Nat) (L L':Array Bool) (a:Act) (w:World),L.size=ops.size->L'.size=ops.size->Same' sg L L'->wpAny P md (reOps sg inv ops) Q fuel L' a w->wpAny P md ops Q fuel L a w:=by
 intro fuel
 induction fuel with
 | zero =>
   intro L L' a w hs hs' hL hw;refine ⟨?_,hw.2⟩;cases hr:Region.ready md ops L with
   | nil=>rfl
   | cons i r =>
     have hi:i∈Region.ready md ops L:=by rw[hr];exact Zc
     have h1:=(mem_rdy.1 hi).1;obtain ⟨k,hk⟩:∃ k,inv[i]?=some k:=⟨_,Z3 (by have:=hp.li;omega)⟩
     have:=(ready_re hp hs hs' hL (hp.is i k hk)).2 hi;rw[hw.1] at this;cases this
 | succ fuel ih =>
   intro L L' a w hs hs' hL hw;refine ⟨fun hn=>hw.1 (ready_nil hp hs hs' hL hn),fun i hi=>?_⟩;have h1:=(mem_rdy.1 hi).1;obtain ⟨k,hk⟩:∃ k,inv[i]?=some k:=⟨_,Z3 (by have:=hp.li;omega)⟩
   have hsk:=hp.is i k hk;have hwk:=hw.2 k ((ready_re hp hs hs' hL hsk).2 hi);refine wpOp_re hp hsk (wpOp_mono (fun a w hx=>?_) hwk);refine ih _ _ a w (by simpa using hs) (by simpa using hs') (fun k2 i2 h2 b=>?_) hx;have hk2:=(Z0.1 h2).1;have hi2:=(Z0.1 (hp.si _ _ h2)).1;have hkl:=(Z0.1 hsk).1;have:=hp.ls;have:=hp.li
   by_cases e:i=i2
   ·subst e
    have e2:k2=k:=by have:=hp.si _ _ h2;rw[hk] at this;cases this;rfl
    subst e2;simp [Z1,show k2<L'.size by omega,show i<L.size by omega]
   ·have e2:k≠k2:=by rintro rfl;rw[hsk] at h2;cases h2;exact e rfl
    rw[getD_set_ne b e,getD_set_ne b e2];exact hL k2 i2 h2 b
end
def lateGo (al:Nat->Bool) (A:List Nat):List Nat->List Nat->List Nat->List Nat
 | [],d,acc=>acc++d
 | i::l,d,acc=>if al i then lateGo al A l (d++[i]) acc else lateGo al A l (d.filter fun j=>!bit A i j) (acc++d.filter (fun j=>bit A i j)++[i])
def lateSg (ops:Array Oper):List Nat:=lateGo (fun i=>((ops[i]?).map allocOp).getD false) (ancs ops.toList) (Ze ops.size) [] []
def invOf (n:Nat) (sg:List Nat):List Nat:=(Ze n).map fun i=>sg.findIdx (· == i)
def adrawL (P:Program) (keep:Bool) (F:FT):DT:=fun ops s =>
 match adraw P keep F ops s with
 | some x=>some x
 | none =>
   let sg:=lateSg ops
   let inv:=invOf ops.size sg
   if permOk ops.size sg inv then adraw P keep F (reOps sg inv ops) s else none
theorem adrawL_ok {P:Program} (hm:P.follows .mixedOrders=true) {keep:Bool} {F:FT} (hF:FOk P F):DOk P (adrawL P keep F):=by
 intro ops s s' out he r a w id Q hs hQ;unfold adrawL at he
 split at he
 ·rename_i x hx
  cases he;exact adraw_ok hm hF ops s s' out hx r a w id Q hs hQ
 ·simp only at he
  split at he
  ·rename_i hp
   have hp:=permOk_inv hp;unfold adraw at he
   split at he
   case h_2=>cases he
   case h_1 trs fin htr =>
    split at he
    case isFalse=>cases he
    case isTrue hc =>
     simp only[Z6] at hc;obtain ⟨⟨⟨ht,hc⟩,hfl⟩,hrd⟩:=hc;refine wp_region_any hm ?_;have hd:=drawP_any hm hF htr ht hc hfl (readsOk_P hrd) (out:=out) (s':=s') (by cases fin<;>(cases he;rfl)) r a w Q hs hQ;rw[reOps_size hp] at hd;refine wpAny_re hp ops.size _ _ a _ (by simp) (by simp) (fun k i h b=>?_) hd;have hk:=(Z0.1 h).1;have hi:=(Z0.1 (hp.si _ _ h)).1;have:=hp.ls;have:=hp.li;simp [Z1,show k<ops.size by omega,show i<ops.size by omega]
  ·cases he
theorem closed_getsL {P:Program} {f:FuncId} {keep:FuncId->Bool} {n fuel:Nat} (hP:noGoroutines P=true) (hm:P.follows .mixedOrders=true) (hr:isTrue (afun P (adrawL P false) keep fuel n f [] [] none)=true) (h:AH):Gets P f [] h (fun res h'=>h'=h/\res = .ret (.bool true)):=by
 obtain ⟨h1,he⟩:=isTrue_inv hr;exact ⟨_,h,Holds.closed ((afun_ok hP (fun F hF=>adrawL_ok hm hF) n).holds he) rfl rfl h,Nat.le_refl _,rfl,rfl⟩
end Go.Eng

namespace Go.Eng
theorem flat_set {α:Type} {f:α->List Value} {k:Nat} (hf:∀ x,(f x).length=k):∀ {xs:List α} {i:Nat} {x x':α} {j:Nat} {vs:List Value},xs[i]?=some x->j+vs.length<=k ->
 f x'=(f x).take j++vs++(f x).drop (j+vs.length)->(xs.flatMap f).take (i*k+j)++vs++(xs.flatMap f).drop (i*k+j+vs.length)=(xs.set i x').flatMap f:=by
 intro xs
 induction xs with
 | nil=>intro i x x' j vs h;simp at h
 | cons y xs ih =>
   intro i x x' j vs h hj hx;cases i with
   | zero =>
     simp at h;subst h;rw[Nat.zero_mul,Nat.zero_add,Z4,List.set_cons_zero,Z4,hx,List.take_append_of_le_length (by rw[hf];omega),List.drop_append_of_le_length (by rw[hf];omega)];simp
   | succ i =>
     have e:=ih (i:=i) (by simpa using h) hj hx;rw[Z4,List.set_cons_succ,Z4,<- e];have h1:(i+1)*k+j=(f y).length+(i*k+j):=by rw[hf,Nat.add_mul];omega
     have h2:(i+1)*k+j+vs.length=(f y).length+(i*k+j+vs.length):=by rw[h1];omega
     have t1:∀ m,(f y++xs.flatMap f).take ((f y).length+m)=f y++(xs.flatMap f).take m:=fun m=>by simp [Z8,Za]
     have t2:∀ m,(f y++xs.flatMap f).drop ((f y).length+m)=(xs.flatMap f).drop m:=fun m=>by rw[<- List.drop_drop,List.drop_left]
     rw[h1,Nat.add_assoc (f y).length,t1,t2];simp
section
variable {α:Type} {f:α->List Value} {k:Nat} {h:AH} {e:TypeId} {v:Value} {xs:List α}
theorem Ows.setAt (hf:∀ x,(f x).length=k) (ho:Ows h e k v xs.length (xs.flatMap f)) {i:Nat} {x x':α} {j:Nat} {vs:List Value} (hx:xs[i]?=some x) (hj:j+vs.length<=k)
 (hv:f x'=(f x).take j++vs++(f x).drop (j+vs.length)) (h1:vs.all Value.oneCell'=true) :
 ∃ b c h',v = .slice (some ⟨b,0,none⟩) xs.length c/\hstore h b (i*k+j) vs=some h'/\Ows h' e k v xs.length ((xs.set i x').flatMap f)/\Keep (bk v) h h'/\h'.length=h.length:=by
 have hi:i<xs.length:=(Z0.1 hx).1;generalize hn:xs.length=n at ho hi;generalize hcs:xs.flatMap f=cs at ho;cases ho with
 | nil=>omega
 | @mk b n c all cs hb hl hn2 hx2 =>
   have hle:i*k+k<=n*k:=by
    have:=Zb k (show i+1<=n by omega)
    rwa [Nat.add_mul,Nat.one_mul] at this
   have hnc:n*k<=all.length:=by rw[hl];exact Zb _ hn2
   obtain ⟨h',a1,a2,a3,a4⟩:=hb.store (i:=i*k+j) (vs:=vs) (by omega) h1;refine ⟨b,c,h',rfl,a1,.mk a2 ?_ hn2 ?_,a3.mono fun q e=>e,a4⟩
   ·simp only[List.length_append,List.length_take,List.length_drop];omega
   ·rw[<- flat_set hf hx hj hv,hcs,<- hx2]
    have e1:(all.take (i*k+j)).length=i*k+j:=by rw[List.length_take];omega
    have m1:min (n*k) (i*k+j)=i*k+j:=Nat.min_eq_right (by omega);have m2:min (i*k+j) (n*k)=i*k+j:=Nat.min_eq_left (by omega);rw[Zd,Zd,Z8,Z8,e1,List.take_take,List.take_take,m1,m2,Za (l:=vs) (by omega),List.drop_take]
    congr 3
    omega
theorem XH_row {P:Program} {keep:Bool} {nm:List Nat} {Φ:Out->PS->Prop} {d:D} {cc:_} {kk:_} {en l:PE} {ds:List Dfr} (hf:∀ x,(f x).length=k) (ho:Ows h e k v xs.length (xs.flatMap f)) {b c i o m:Nat} {x x':α} {j:Nat} {u:Value}
 (hv0:v = .slice (some ⟨b,0,none⟩) xs.length c) (hx:xs[i]?=some x) (hm:m=u.cells.size) (hoo:o=i*k+j) (hj:j+u.cells.toList.length<=k)
 (hx':f x'=(f x).take j++u.cells.toList++(f x).drop (j+u.cells.toList.length)) (h1:u.cells.toList.all Value.oneCell'=true)
 (hk:∀ h',Ows h' e k v xs.length ((xs.set i x').flatMap f)->Keep (bk v) h h'->h'.length=h.length->XV P keep nm Φ undef d cc kk en l h' ds):XH P keep nm Φ (stv h m (.pointer (some ⟨b,o,none⟩)) u) d cc kk en l ds:=by
 obtain ⟨b',c',h',e0,a1,a2,a3,a4⟩:=ho.setAt hf hx hj hx' h1;rw[hv0] at e0;cases e0;subst hoo;simp only[stv,if_pos hm,a1];exact hk h' a2 a3 a4
theorem Rds.cellsAt (hf:∀ x,(f x).length=k) (hr:Rds h k v xs.length (xs.flatMap f)) {i:Nat} {x:α} (hx:xs[i]?=some x) {j m:Nat} (hj:j+m<=k) :
 ∃ b o c,v = .slice (some ⟨b,o,none⟩) xs.length c/\ldcs h b (o+i*k+j) m=some (((f x).drop j).take m):=by
 obtain ⟨b,o,c,e,hl⟩:=rds_sub hr (Z0.1 hx).1 hj;exact ⟨b,o,c,e,by rw[hl,flat_at hf hx hj]⟩
theorem Rds.cellAt (hf:∀ x,(f x).length=k) (hr:Rds h k v xs.length (xs.flatMap f)) {i:Nat} {x:α} (hx:xs[i]?=some x) :
 ∃ b o c,v = .slice (some ⟨b,o,none⟩) xs.length c /\ ∀ j,j<k->ldc h b (o+i*k+j)=(f x)[j]?:=by
 have hi:=(Z0.1 hx).1;obtain ⟨b,o,c,e,kk⟩:=hr.at hi;refine ⟨b,o,c,e,fun j hj=>?_⟩;rw[kk j hj];have:=flat_at hf hx (j:=j) (m:=1) (by omega);have h2:=congrArg (fun l:List Value=>l[0]?) this
 simpa [List.getElem?_take,List.getElem?_drop] using h2
end
end Go.Eng
