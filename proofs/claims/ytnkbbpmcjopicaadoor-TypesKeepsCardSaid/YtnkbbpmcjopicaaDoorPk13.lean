import Derived.Test.YtnkbbpmcjopicaaDoorPk12
import Derived.Test.YtnkbbpmcjopicaaDoorPk11
set_option linter.unusedVariables false
set_option linter.unusedSimpArgs false
open Nat renaming reduceEqDiff -> ZA,reduceAdd -> ZB,reduceMul -> ZC,reduceLeDiff -> ZD,reduceLT -> ZE
open Int renaming reduceEq -> ZF
open Option renaming bind_some->Z0,map_some->Z2
open List renaming getElem?_eq_some_iff->Z1,flatMap_cons->Z3,take_append->Z4,take_of_length_le->Z5,map_cons->Z7,set_cons_zero->Z8,set_cons_succ->Z9,append_assoc->Za
open Nat renaming mul_le_mul_right->Z6
namespace Go.Eng
theorem flat_set {α:Type} {f:α->List Value} {k:Nat} (hf:∀ x,(f x).length=k):∀ {xs:List α} {i:Nat} {x x':α} {j:Nat} {vs:List Value},xs[i]?=some x->j+vs.length<=k ->
 f x'=(f x).take j++vs++(f x).drop (j+vs.length)->(xs.flatMap f).take (i*k+j)++vs++(xs.flatMap f).drop (i*k+j+vs.length)=(xs.set i x').flatMap f:=by
 intro xs
 induction xs with
 | nil=>intro i x x' j vs h;simp at h
 | cons y xs ih =>
   intro i x x' j vs h hj hx;cases i with
   | zero =>
     simp at h;subst h;rw[Nat.zero_mul,Nat.zero_add,Z3,Z8,Z3,hx,List.take_append_of_le_length (by rw[hf];omega),List.drop_append_of_le_length (by rw[hf];omega)];simp
   | succ i =>
     have e:=ih (i:=i) (by simpa using h) hj hx;rw[Z3,Z9,Z3,<- e];have h1:(i+1)*k+j=(f y).length+(i*k+j):=by rw[hf,Nat.add_mul];omega
     have h2:(i+1)*k+j+vs.length=(f y).length+(i*k+j+vs.length):=by rw[h1];omega
     have t1:∀ m,(f y++xs.flatMap f).take ((f y).length+m)=f y++(xs.flatMap f).take m:=fun m=>by simp [Z4,Z5]
     have t2:∀ m,(f y++xs.flatMap f).drop ((f y).length+m)=(xs.flatMap f).drop m:=fun m=>by rw[<- List.drop_drop,List.drop_left]
     rw[h1,Nat.add_assoc (f y).length,t1,t2];simp
section
variable {α:Type} {f:α->List Value} {k:Nat} {h:AH} {e:TypeId} {v:Value} {xs:List α}
theorem Ows.setAt (hf:∀ x,(f x).length=k) (ho:Ows h e k v xs.length (xs.flatMap f)) {i:Nat} {x x':α} {j:Nat} {vs:List Value} (hx:xs[i]?=some x) (hj:j+vs.length<=k)
 (hv:f x'=(f x).take j++vs++(f x).drop (j+vs.length)) (h1:vs.all Value.oneCell'=true) :
 ∃ b c h',v = .slice (some ⟨b,0,none⟩) xs.length c/\hstore h b (i*k+j) vs=some h'/\Ows h' e k v xs.length ((xs.set i x').flatMap f)/\Keep (bk v) h h'/\h'.length=h.length:=by
 have hi:i<xs.length:=(Z1.1 hx).1;generalize hn:xs.length=n at ho hi;generalize hcs:xs.flatMap f=cs at ho;cases ho with
 | nil=>omega
 | @mk b n c all cs hb hl hn2 hx2 =>
   have hle:i*k+k<=n*k:=by
    have:=Z6 k (show i+1<=n by omega)
    rwa [Nat.add_mul,Nat.one_mul] at this
   have hnc:n*k<=all.length:=by rw[hl];exact Z6 _ hn2
   obtain ⟨h',a1,a2,a3,a4⟩:=hb.store (i:=i*k+j) (vs:=vs) (by omega) h1;refine ⟨b,c,h',rfl,a1,.mk a2 ?_ hn2 ?_,a3.mono fun q e=>e,a4⟩
   ·simp only[List.length_append,List.length_take,List.length_drop];omega
   ·rw[<- flat_set hf hx hj hv,hcs,<- hx2]
    have e1:(all.take (i*k+j)).length=i*k+j:=by rw[List.length_take];omega
    have m1:min (n*k) (i*k+j)=i*k+j:=Nat.min_eq_right (by omega);have m2:min (i*k+j) (n*k)=i*k+j:=Nat.min_eq_left (by omega);rw[Za,Za,Z4,Z4,e1,List.take_take,List.take_take,m1,m2,Z5 (l:=vs) (by omega),List.drop_take]
    congr 3
    omega
theorem XH_row {P:Program} {keep:Bool} {nm:List Nat} {Φ:Out->PS->Prop} {d:D} {cc:_} {kk:_} {en l:PE} {ds:List Dfr} (hf:∀ x,(f x).length=k) (ho:Ows h e k v xs.length (xs.flatMap f)) {b c i o m:Nat} {x x':α} {j:Nat} {u:Value}
 (hv0:v = .slice (some ⟨b,0,none⟩) xs.length c) (hx:xs[i]?=some x) (hm:m=u.cells.size) (hoo:o=i*k+j) (hj:j+u.cells.toList.length<=k)
 (hx':f x'=(f x).take j++u.cells.toList++(f x).drop (j+u.cells.toList.length)) (h1:u.cells.toList.all Value.oneCell'=true)
 (hk:∀ h',Ows h' e k v xs.length ((xs.set i x').flatMap f)->Keep (bk v) h h'->h'.length=h.length->XV P keep nm Φ undef d cc kk en l h' ds):XH P keep nm Φ (stv h m (.pointer (some ⟨b,o,none⟩)) u) d cc kk en l ds:=by
 obtain ⟨b',c',h',e0,a1,a2,a3,a4⟩:=ho.setAt hf hx hj hx' h1;rw[hv0] at e0;cases e0;subst hoo;simp only[stv,if_pos hm,a1];exact hk h' a2 a3 a4
theorem Rds.cellsAt (hf:∀ x,(f x).length=k) (hr:Rds h k v xs.length (xs.flatMap f)) {i:Nat} {x:α} (hx:xs[i]?=some x) {j m:Nat} (hj:j+m<=k) :
 ∃ b o c,v = .slice (some ⟨b,o,none⟩) xs.length c/\ldcs h b (o+i*k+j) m=some (((f x).drop j).take m):=by
 obtain ⟨b,o,c,e,hl⟩:=rds_sub hr (Z1.1 hx).1 hj;exact ⟨b,o,c,e,by rw[hl,flat_at hf hx hj]⟩
theorem Rds.cellAt (hf:∀ x,(f x).length=k) (hr:Rds h k v xs.length (xs.flatMap f)) {i:Nat} {x:α} (hx:xs[i]?=some x) :
 ∃ b o c,v = .slice (some ⟨b,o,none⟩) xs.length c /\ ∀ j,j<k->ldc h b (o+i*k+j)=(f x)[j]?:=by
 have hi:=(Z1.1 hx).1;obtain ⟨b,o,c,e,kk⟩:=hr.at hi;refine ⟨b,o,c,e,fun j hj=>?_⟩;rw[kk j hj];have:=flat_at hf hx (j:=j) (m:=1) (by omega);have h2:=congrArg (fun l:List Value=>l[0]?) this
 simpa [List.getElem?_take,List.getElem?_drop] using h2
end
end Go.Eng

namespace Go.Eng
structure CS (P:Program) {σ:Type} (C:σ->Act->World->Prop):Prop where
 st:∀ {p:σ} {a a':Act} {r:Rho} {h:AH} {w:World} {r':Rho} {h':AH} {w':World},HR P r h w.heap->Stp P r h w r' h' w'->a'.defers=a.defers->C p a w->C p a' w'
structure SPI (P:Program) (nm:List Nat) (N:Nat) (r0:Rho) (h0:AH) (w0:World) {σ:Type} (dv:σ->List Dfr) (C:σ->Act->World->Prop) (r:Rho) (s:PS) (p:σ) (a:Act) (w:World):Prop where
 sp:SP P nm N r ⟨s.e,s.l,s.h,[]⟩ ⟨a.tmps,[]⟩ w
 ds:s.ds=dv p
 st:Stp P r0 h0 w0 r s.h w
 cx:C p a w
structure HookOk (P:Program) (r0:Rho) (h0:AH) (w0:World) (ro:Option Nat) (Y:YT) (C:Out->Act->World->Prop):Prop where
 hk:∀ {l:Nat} {vs:List Value} {h:AH} {K:Out->AH->Prop},Y l vs h K -> ∀ {r:Rho} {a:Act} {w:World} {args':Array Value},Stp P r0 h0 w0 r h w->C .norm a w->VL r vs args'.toList ->
  ∃ f tm asg bd,(Instr.yield l args').run P w = .ok (.round l f tm asg bd) w /\
    ∀ n,RoundIn (FW ro) n P l f tm asg bd w (fun e w'=>∃ j h' r',K j h'/\e = .returned (.bool (goesOn j))/\r.le r'/\Stp P r0 h0 w0 r' h' w'/\C j a w')
section
variable {P:Program} {keep:Bool} {nm:List Nat} {N:Nat} {r0:Rho} {h0:AH} {w0:World} {ro:Option Nat} {r r':Rho} {s:PS} {a a':Act} {w w':World}
end
end Go.Eng

namespace Go.Eng
section
variable {P:Program} {keep:Bool} {nm:List Nat} {N:Nat} {r0:Rho} {h0:AH} {w0:World} {ro:Option Nat} {r r':Rho} {s:PS} {a a':Act} {w w':World}
end
end Go.Eng

namespace Go.Eng
section
variable {P:Program} {keep:Bool} {nm:List Nat} {N:Nat} {r0:Rho} {h0:AH} {w0:World} {ro:Option Nat} {r r':Rho} {s:PS} {a a':Act} {w w':World}
structure MO (w0:World) (ro:Option Nat) (C:Bool->Act->World->Prop):Prop where
 ro:ro=none
 df:∀ a w,C false a w->a.defers=[]
 mrk:∀ (a:Act) (w:World) (Dk:Nat),w0.heap.size<=Dk->a.defers=[{ target:=.collected Dk,args:=#[] }]->w.heap[Dk]?=some (.deferred (some []))->C true a w
end
end Go.Eng

namespace Go.Eng
section
variable {P:Program} {keep:Bool} {nm:List Nat}
end
end Go.Eng

namespace Go.Eng
def pv (x:Int × Int):Value:=.agg #[iv x.1,iv x.2]
section
variable {P:Program} {kt:TypeId}
structure T2 (P:Program) (kt:TypeId) (fs:Array Field):Prop where
 u:P.underlying kt=some (.struct fs)
 s:P.stoodInHeld kt=false
 k:flatKs P fs.toList 0=some [0,0]
variable {fs:Array Field}
theorem ceq_pv {a b:Int × Int}:ceq [0,0] [iv a.1,iv a.2] [iv b.1,iv b.2]=some (decide (a=b)):=by
 obtain ⟨a1,a2⟩:=a;obtain ⟨b1,b2⟩:=b;simp only[ceq,if_true,Z2,Option.some.injEq,Prod.mk.injEq]
 by_cases h1:a1=b1
 ·by_cases h2:a2=b2<;>simp [h1,h2]
 ·simp [h1]
theorem equal_pv (t:T2 P kt fs) (a b:Int × Int):pureRun P (Op.equal kt (pv a) (pv b))=some (decide (a=b)):=by
 show pureRun P (Op.equalIn (9998+2) kt _ _)=_
 exact equal_flat 9998 t.u t.s t.k _ _ ceq_pv
theorem check_in (hu:∃ kd,P.underlying kt=some (.int kd)) (e:Bool) (n:Nat) (v:Value):pureRun P (Instr.checkKey e (n+1) kt v)=some ():=by
 obtain ⟨kd,hu⟩:=hu;rw[Instr.checkKey];simp only[pureRun_bind,pureRun_underlying hu,Z0];rfl
theorem check_pv (t:T2 P kt fs) (e:Bool) (k:Int × Int):pureRun P (Instr.checkKey e 10000 kt (pv k))=some ():=by
 show pureRun P (Instr.checkKey e (9999+1) kt (pv k))=some ()
 rw[Instr.checkKey];have hk:=t.k;obtain ⟨f0,f1,hl⟩:∃ f0 f1,fs.toList=[f0,f1]:=by
  generalize fs.toList=l at hk
  match l with
  | []=>cases hk
  | [a]=>cases h:flatK P a 0<;>simp [flatKs,h] at hk
  | [a,b]=>exact ⟨a,b,rfl⟩
  | a::b::c::l=>cases h0:flatK P a 0<;>cases h1:flatK P b 1<;>cases h2:flatK P c 2<;>cases h3:flatKs P l 3<;>simp [flatKs,h0,h1,h2,h3] at hk
 rw[hl] at hk;simp only[flatKs] at hk;have hk0:∃ k0,flatK P f0 0=some k0:=by cases h:flatK P f0 0 with|none=>rw[h] at hk;simp at hk|some v=>exact ⟨v,rfl⟩
 obtain ⟨k0,hk0⟩:=hk0;have hk1:∃ k1,flatK P f1 1=some k1:=by cases h:flatK P f1 1 with|none=>rw[hk0,h] at hk;simp at hk|some v=>exact ⟨v,rfl⟩
 obtain ⟨k1,hk1⟩:=hk1;rw[hk0,hk1] at hk;simp at hk;obtain ⟨rfl,rfl⟩:=hk;have i0:∃ kd,P.underlying f0.type=some (.int kd):=by
  obtain ⟨_,_,h⟩:=flatK_inv hk0
  rcases h with ⟨kd,h,_⟩|⟨_,h⟩|⟨_,h⟩
  ·exact ⟨kd,h⟩
  ·cases h
  ·cases h
 have i1:∃ kd,P.underlying f1.type=some (.int kd):=by
  obtain ⟨_,_,h⟩:=flatK_inv hk1
  rcases h with ⟨kd,h,_⟩|⟨_,h⟩|⟨_,h⟩
  ·exact ⟨kd,h⟩
  ·cases h
  ·cases h
 have p0:=flatK_part (P:=P) hk0 (xs:=#[iv k.1,iv k.2]) (u:=iv k.1) rfl;have p1:=flatK_part (P:=P) hk1 (xs:=#[iv k.1,iv k.2]) (u:=iv k.2) rfl;simp only[pureRun_bind,pureRun_underlying t.u,Z0,pv,<- Array.forIn_toList,hl,List.forIn_cons,List.forIn_nil,(flatK_inv hk0).1,(flatK_inv hk1).1,ne_eq,not_false_eq_true,if_true,p0,p1,check_in i0 e 9998,check_in i1 e 9998,pureRun_pure]
end
section
variable {P:Program} {keep:Bool} {nm:List Nat}
end
end Go.Eng

namespace Go.Eng
section
variable {P:Program} {g:Operand->Option Value} {h:AH} {m:Nat} {x y:Operand} {a b:Int} {dst:Option Tmp} {ts:Array TypeId} {ty:TypeId} {pos:String} {after:Array Edge} {guard:Option (Nat × Bool)}
theorem rd_min (hx:g x=some (iv a)) (hy:g y=some (iv b)):aread P g h m ⟨dst,.call ⟨.builtin .min,#[x,y],ts⟩,ty,pos,after,guard⟩=some (iv (min a b),none):=by
 show rscal P g _=_
 unfold rscal;rw[if_pos (by simp [Op.operands,Call.operands,notSel,okScal,hx,hy,scal])];have e:pureRun P (execOp (fun x=>(g x).getD undef) ⟨dst,.call ⟨.builtin .min,#[x,y],ts⟩,ty,pos,after,guard⟩)=some (.value (iv (min a b))):=by
  simp only[execOp,resolve,invoke,builtin,Builtin.min_,hx,hy,List.map_toArray,Z7,List.map_nil,Option.getD_some,List.foldlM_cons,List.foldlM_nil,bind_pure];have e2:(if b<a then b else a)=min a b:=by split<;>omega
  rw[<- e2];rfl
 rw[e];simp [scal]
end
end Go.Eng

namespace Go.Eng
section
variable {K V:Type} [DecidableEq K]
def mpG (kf:K->Value) (vf:V->Value) (l:List (K × V)):List (Value × Value):=l.map fun p=>(kf p.1,vf p.2)
def mixG (k:K):List (K × V)->Nat->Option Nat
 | [],_=>none
 | p::l,i=>if p.1=k then some i else mixG k l (i+1)
def mgetG (k:K):List (K × V)->Option V
 | []=>none
 | p::l=>if p.1=k then some p.2 else mgetG k l
theorem mixG_get {k:K}:∀ {l:List (K × V)} {i j:Nat},mixG k l i=some j->i<=j /\ ∃ v,l[j-i]?=some (k,v)/\mgetG k l=some v /\ ∀ (w:V) (x:K),mgetG x (l.set (j-i) (k,w))=if x=k then some w else mgetG x l:=by
 intro l
 induction l with
 | nil=>intro i j h;cases h
 | cons p l ih =>
   intro i j h;simp only[mixG] at h
   split at h
   ·rename_i e
    cases h;refine ⟨Nat.le_refl _,p.2,by rw[Nat.sub_self];obtain ⟨a,b⟩:=p;simp at e;subst e;rfl,by simp [mgetG,e],fun w x=>?_⟩;rw[Nat.sub_self,Z8];simp only[mgetG,e]
    by_cases hx:x=k
    ·simp [hx]
    ·rw[if_neg (fun e=>hx e.symm),if_neg hx,if_neg (fun e=>hx e.symm)]
   ·rename_i e
    obtain ⟨h1,v,h2,h3,h4⟩:=ih h;have e1:j-i=(j-(i+1))+1:=by omega
    refine ⟨by omega,v,by rw[e1];simpa using h2,by simp [mgetG,e,h3],fun w x=>?_⟩;rw[e1,Z9];simp only[mgetG,h4 w x]
    by_cases hx:x=k
    ·rw[if_pos hx,if_neg (by rw[hx];exact e),if_pos hx]
    ·simp [hx]
theorem mixG_none {k:K}:∀ {l:List (K × V)} {i:Nat},mixG k l i=none->mgetG k l=none:=by
 intro l
 induction l with
 | nil=>intro i h;rfl
 | cons p l ih =>
   intro i h;simp only[mixG] at h
   split at h
   ·cases h
   ·rename_i e;simp [mgetG,e,ih h]
theorem mgetG_app {k:K} {l m:List (K × V)}:mgetG k (l++m)=match mgetG k l with
 | some v=>some v
 | none=>mgetG k m:=by
 induction l with
 | nil=>rfl
 | cons p l ih =>
   simp only[List.cons_append,mgetG]
   split
   ·rfl
   ·exact ih
structure KeyOK (P:Program) (kt:TypeId) (kf:K->Value):Prop where
 rf:∀ {V:Type} (vf:V->Value) (k:K) (l:List (K × V)),rfind P kt (kf k) (mpG kf vf l)=some (mixG k l 0)
 ck:∀ (e:Bool) (k:K),pureRun P (Instr.checkKey e 10000 kt (kf k))=some ()
variable {P:Program} {kt:TypeId} {kf:K->Value}
theorem KeyOK.now {kd:TypeDesc} (hu:P.underlying kt=some kd) (hs:∀ a b,Instr.sameNow kd (kf a) (kf b)=some (decide (a=b))) (hsc:∀ k,scal 8 (kf k)=true) (hc:∀ (e:Bool) (k:K),pureRun P (Instr.checkKey e 10000 kt (kf k))=some ()):KeyOK P kt kf:=by
 refine ⟨fun {V} vf k l=>?_,hc⟩;have hf:∀ (l:List (K × V)) (i:Nat),Instr.findNow kd (kf k) ((mpG kf vf l).map entryOf) i=some ((mixG k l i).bind fun j=>(l[j-i]?).map fun p=>(j,vf p.2)):=by
  intro l
  induction l with
  | nil=>intro i;rfl
  | cons p l ih =>
    intro i;obtain ⟨a,b⟩:=p;simp only[mpG,Z7,Instr.findNow,entryOf,mixG,hs]
    by_cases e:a=k
    ·subst e;simp
    ·have:decide (k=a)=false:=decide_eq_false (fun h=>e h.symm)
     simp only[this,e,if_false];have h2:=ih (i+1);simp only[mpG] at h2;rw[h2];cases hm:mixG k l (i+1) with
     | none=>rfl
     | some j =>
       obtain ⟨h3,v,h4,_⟩:=mixG_get hm;simp only[Z0,h4,Z2];rw[show j-i=(j-(i+1))+1 by omega];simp [h4]
 have hk:pureRun P (Instr.findKey kt (kf k) ((mpG kf vf l).map entryOf))=some ((mixG k l 0).bind fun j=>(l[j-0]?).map fun p=>(j,vf p.2)):=by
  simp only[Instr.findKey,pureRun_bind,pureRun_underlying hu,Z0,hf];rfl
 unfold rfind;rw[if_pos (by simp [keysScal,mpG,hsc]),hc,hk];cases hm:mixG k l 0 with
 | none=>rfl
 | some j =>
   obtain ⟨_,v,h4,_⟩:=mixG_get hm;simp only[Z0,h4,Z2]
end
section
variable {P:Program} {kt:TypeId} {fs:Array Field}
theorem KeyOK.nat (hu:P.underlying kt=some (.int .i64)):KeyOK P kt (fun n:Nat=>iv (n:Int)) :=
 .now hu (fun a b=>by
  simp only[Instr.sameNow,if_true]
  by_cases e:a=b
  ·subst e;simp
  ·have:(a:Int)≠b:=by omega
   simp [e,this]) (fun k=>rfl) (fun e k=>check_int hu e k)
theorem KeyOK.str (hu:P.underlying kt=some .string) {K:Type} [DecidableEq K] {g:K->ByteArray} (hg:∀ a b,(g a == g b)=decide (a=b)):KeyOK P kt (fun l:K=>Value.string (g l)) :=
 .now hu (fun a b=>by simp only[Instr.sameNow,hg]) (fun k=>rfl) (fun e k=>by
  show pureRun P (Instr.checkKey e (9999+1) kt (.string (g k)))=some ()
  rw[Instr.checkKey];simp only[pureRun_bind,pureRun_underlying hu,Z0];rfl)
theorem KeyOK.pair (t:T2 P kt fs):KeyOK P kt (fun x:Int × Int=>pv x):=by
 refine ⟨fun {V} vf k l=>?_,fun e k=>check_pv t e k⟩;have ha:∀ (l:List ((Int × Int) × V)) (i:Nat),pureRun P (Instr.findAsking kt (pv k) ((mpG (fun x:Int × Int=>pv x) vf l).map entryOf) i)=some ((mixG k l i).bind fun j=>(l[j-i]?).map fun p=>(j,vf p.2)):=by
  intro l
  induction l with
  | nil=>intro i;rfl
  | cons p l ih =>
    intro i;obtain ⟨a,b⟩:=p;simp only[mpG,Z7,Instr.findAsking,entryOf,mixG,pureRun_bind,equal_pv t,Z0]
    by_cases e:a=k
    ·subst e
     simp [pureRun_pure]
    ·have:decide (k=a)=false:=decide_eq_false (fun h=>e h.symm)
     simp only[this,Bool.false_eq_true,if_false,e];have h2:=ih (i+1);simp only[mpG] at h2;rw[h2];cases hm:mixG k l (i+1) with
     | none=>rfl
     | some j =>
       obtain ⟨h3,v,h4,_⟩:=mixG_get hm;simp only[Z0,h4,Z2];rw[show j-i=(j-(i+1))+1 by omega];simp [h4]
 have hk:pureRun P (Instr.findKey kt (pv k) ((mpG (fun x:Int × Int=>pv x) vf l).map entryOf))=some ((mixG k l 0).bind fun j=>(l[j-0]?).map fun p=>(j,vf p.2)):=by
  simp only[Instr.findKey,pureRun_bind,pureRun_underlying t.u,Z0];cases l with
  | nil=>rfl
  | cons p l =>
    have h1:=ha (p::l) 0;have:Instr.findNow (.struct fs) (pv k) ((mpG (fun x:Int × Int=>pv x) vf (p::l)).map entryOf) 0=none:=by simp [mpG,Instr.findNow,entryOf,pv,Instr.sameNow]
    rw[this];exact h1
 unfold rfind;rw[if_pos (by simp [keysScal,mpG,scal,pv]),check_pv t,hk];cases hm:mixG k l 0 with
 | none=>rfl
 | some j =>
   obtain ⟨_,v,h4,_⟩:=mixG_get hm;simp only[Z0,h4,Z2]
end
section
variable {K V:Type} {P:Program} {kt:TypeId} {kf:K->Value} {vf:V->Value}
def MOG (kf:K->Value) (vf:V->Value) (h:AH) (b:Nat) (l:List (K × V)):Prop:=h[b]?=some (.map (mpG kf vf l))
theorem MOG.lt {h:AH} {b:Nat} {l:List (K × V)} (m:MOG kf vf h b l):b<h.length:=(Z1.1 m).1
theorem MOG.keep {S:Nat->Prop} {h h':AH} {b:Nat} {l:List (K × V)} (m:MOG kf vf h b l) (k:Keep S h h') (hs:¬ S b):MOG kf vf h' b l:=k.get m hs
theorem MOG.new (h:AH):MOG kf vf (h++[.map []]) h.length ([]:List (K × V)):=by simp [MOG,mpG]
variable [DecidableEq K]
theorem MOG.lks {h:AH} {b:Nat} {l:List (K × V)} {k:K} {v:V} {z:Value} {ok:Bool} (t:KeyOK P kt kf) (m:MOG kf vf h b l) (hg:mgetG k l=some v) :
 bval P h (.lk kt z ok) (.map (some b)) (kf k)=some (if ok then .tuple #[vf v,.bool true] else vf v,none):=by
 have hm:hmap h b=some (mpG kf vf l):=by simp [hmap,show h[b]?=_ from m]
 simp only[bval,hm,t.rf];cases hx:mixG k l 0 with
 | none=>rw[mixG_none hx] at hg;cases hg
 | some j =>
   obtain ⟨_,v',h4,h5,_⟩:=mixG_get hx;rw[hg] at h5;cases h5;simp only[Nat.sub_zero] at h4;simp [mpG,h4]
theorem MOG.lkn {h:AH} {b:Nat} {l:List (K × V)} {k:K} {z:Value} {ok:Bool} (t:KeyOK P kt kf) (m:MOG kf vf h b l) (hg:mgetG k l=none) :
 bval P h (.lk kt z ok) (.map (some b)) (kf k)=some (if ok then .tuple #[z,.bool false] else z,none):=by
 have hm:hmap h b=some (mpG kf vf l):=by simp [hmap,show h[b]?=_ from m]
 simp only[bval,hm,t.rf];cases hx:mixG k l 0 with
 | none=>rfl
 | some j =>
   obtain ⟨_,v',h4,h5,_⟩:=mixG_get hx;rw[hg] at h5;cases h5
theorem MOG.up {h:AH} {b:Nat} {mt et:TypeId} {l:List (K × V)} (k:K) (v:V) (ht:P.underlying mt=some (.map kt et)) (t:KeyOK P kt kf) (hb:∀ k,Instr.sameBits 10000 (kf k) (kf k)=true) (m:MOG kf vf h b l) :
 ∃ h' l',wmapUpdate P h mt (.map (some b)) (kf k) (vf v)=some h'/\MOG kf vf h' b l'/\(∀ x,mgetG x l'=if x=k then some v else mgetG x l)/\(mgetG k l=none->l'=l++[(k,v)])/\Keep (· = b) h h'/\h'.length=h.length:=by
 have hm:hmap h b=some (mpG kf vf l):=by simp [hmap,show h[b]?=_ from m]
 have hlt:=m.lt;cases hx:mixG k l 0 with
 | none =>
   refine ⟨h.set b (.map (mpG kf vf l++[(kf k,vf v)])),l++[(k,v)],?_,?_,fun x=>?_,fun _=>rfl,.set h b _,by simp⟩
   ·simp only[wmapUpdate,ht,hm,t.rf,hx,t.ck]
   ·simp [MOG,mpG,hlt]
   ·rw[mgetG_app]
    by_cases e:x=k
    ·subst e;rw[mixG_none hx];simp [mgetG]
    ·rw[if_neg e]
     cases mgetG x l with
     | none=>simp only[mgetG];rw[if_neg (fun h=>e h.symm)]
     | some w=>rfl
 | some j =>
   obtain ⟨_,v',h4,h5,h6⟩:=mixG_get hx;simp only[Nat.sub_zero] at h4 h6;refine ⟨h.set b (.map ((mpG kf vf l).set j (kf k,vf v))),l.set j (k,v),?_,?_,h6 v,fun e=>(by rw[e] at h5;cases h5),.set h b _,by simp⟩
   ·have hes:(mpG kf vf l)[j]?=some (kf k,vf v'):=by simp [mpG,h4]
    simp only[wmapUpdate,ht,hm,t.rf,hx,t.ck,hes,hb k,if_true]
   ·simp [MOG,mpG,hlt]
end
end Go.Eng
