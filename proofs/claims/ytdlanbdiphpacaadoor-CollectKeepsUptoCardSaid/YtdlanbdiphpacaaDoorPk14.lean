import Derived.Test.YtdlanbdiphpacaaDoorPk12
import Derived.Test.YtdlanbdiphpacaaDoorPk13
import Derived.Test.YtdlanbdiphpacaaDoorPk11
set_option linter.unusedVariables false
set_option linter.unusedSimpArgs false
open Nat renaming reduceEqDiff -> ZA,reduceAdd -> ZB,reduceMul -> ZC,reduceLeDiff -> ZD,reduceLT -> ZE
open Int renaming reduceEq -> ZF
open List renaming getElem?_eq_some_iff->Z0,getElem?_eq_getElem->Z1,getElem?_eq_none->Z3,mem_cons_of_mem->Z5
open Option renaming bind_some->Z2,map_some->Z4
namespace Go.Eng
def pv (x:Int × Int):Value:=.agg #[iv x.1,iv x.2]
def mp2 (l:List ((Int × Int) × Int)):List (Value × Value):=l.map fun p=>(pv p.1,iv p.2)
def mix2 (k:Int × Int):List ((Int × Int) × Int)->Nat->Option Nat
 | [],_=>none
 | p::l,i=>if p.1=k then some i else mix2 k l (i+1)
def mget2 (k:Int × Int):List ((Int × Int) × Int)->Option Int
 | []=>none
 | p::l=>if p.1=k then some p.2 else mget2 k l
theorem mix2_get {k:Int × Int}:∀ {l:List ((Int × Int) × Int)} {i j:Nat},mix2 k l i=some j->i<=j /\ ∃ v,l[j-i]?=some (k,v)/\mget2 k l=some v:=by
 intro l
 induction l with
 | nil=>intro i j h;cases h
 | cons p l ih =>
   intro i j h;simp only[mix2] at h
   split at h
   ·rename_i e
    cases h;refine ⟨Nat.le_refl _,p.2,by rw[Nat.sub_self];obtain ⟨a,b⟩:=p;simp at e;subst e;rfl,by simp [mget2,e]⟩
   ·rename_i e
    obtain ⟨h1,v,h2,h3⟩:=ih h;refine ⟨by omega,v,?_,by simp [mget2,e,h3]⟩;rw[show j-i=(j-(i+1))+1 by omega];simpa using h2
theorem mix2_none {k:Int × Int}:∀ {l:List ((Int × Int) × Int)} {i:Nat},mix2 k l i=none->mget2 k l=none:=by
 intro l
 induction l with
 | nil=>intro i h;rfl
 | cons p l ih =>
   intro i h;simp only[mix2] at h
   split at h
   ·cases h
   ·rename_i e;simp [mget2,e,ih h]
section
variable {P:Program} {kt:TypeId}
structure T2 (P:Program) (kt:TypeId) (fs:Array Field):Prop where
 u:P.underlying kt=some (.struct fs)
 s:P.stoodInHeld kt=false
 k:flatKs P fs.toList 0=some [0,0]
variable {fs:Array Field}
theorem ceq_pv {a b:Int × Int}:ceq [0,0] [iv a.1,iv a.2] [iv b.1,iv b.2]=some (decide (a=b)):=by
 obtain ⟨a1,a2⟩:=a;obtain ⟨b1,b2⟩:=b;simp only[ceq,if_true,Z4,Option.some.injEq,Prod.mk.injEq]
 by_cases h1:a1=b1
 ·by_cases h2:a2=b2<;>simp [h1,h2]
 ·simp [h1]
theorem equal_pv (t:T2 P kt fs) (a b:Int × Int):pureRun P (Op.equal kt (pv a) (pv b))=some (decide (a=b)):=by
 show pureRun P (Op.equalIn (9998+2) kt _ _)=_
 exact equal_flat 9998 t.u t.s t.k _ _ ceq_pv
theorem ask_pv (t:T2 P kt fs) (k:Int × Int):∀ (l:List ((Int × Int) × Int)) (i:Nat),pureRun P (Instr.findAsking kt (pv k) ((mp2 l).map entryOf) i)=some ((mix2 k l i).bind fun j=>(l[j-i]?).map fun p=>(j,iv p.2)):=by
 intro l
 induction l with
 | nil=>intro i;rfl
 | cons p l ih =>
   intro i;obtain ⟨a,b⟩:=p;simp only[mp2,List.map_cons,Instr.findAsking,entryOf,mix2,pureRun_bind,equal_pv t,Z2]
   by_cases e:a=k
   ·subst e
    simp [pureRun_pure]
   ·have:decide (k=a)=false:=decide_eq_false (fun h=>e h.symm)
    simp only[this,Bool.false_eq_true,if_false,e];have h2:=ih (i+1);simp only[mp2] at h2;rw[h2];cases hm:mix2 k l (i+1) with
    | none=>rfl
    | some j =>
      obtain ⟨h3,v,h4,_⟩:=mix2_get hm;simp only[Z2,h4,Z4];rw[show j-i=(j-(i+1))+1 by omega];simp [h4]
theorem keys_mp2 (l:List ((Int × Int) × Int)):keysScal (mp2 l)=true:=by
 simp [keysScal,mp2,pv,scal]
theorem check_in (hu:∃ kd,P.underlying kt=some (.int kd)) (e:Bool) (n:Nat) (v:Value):pureRun P (Instr.checkKey e (n+1) kt v)=some ():=by
 obtain ⟨kd,hu⟩:=hu;rw[Instr.checkKey];simp only[pureRun_bind,pureRun_underlying hu,Z2];rfl
theorem check_pv (t:T2 P kt fs) (e:Bool) (k:Int × Int):pureRun P (Instr.checkKey e 10000 kt (pv k))=some ():=by
 show pureRun P (Instr.checkKey e (9999+1) kt (pv k))=some ()
 rw[Instr.checkKey];have hk:=t.k;obtain ⟨f0,f1,hl⟩:∃ f0 f1,fs.toList=[f0,f1]:=by
  generalize fs.toList=l at hk
  match l with
  | []=>cases hk
  | [a]=>cases h:flatK P a 0<;>simp [flatKs,h] at hk
  | [a,b]=>exact ⟨a,b,rfl⟩
  | a::b::c::l=>cases h0:flatK P a 0<;>cases h1:flatK P b 1<;>cases h2:flatK P c 2<;>cases h3:flatKs P l 3<;>simp [flatKs,h0,h1,h2,h3] at hk
 rw[hl] at hk;simp only[flatKs] at hk;have hk0:∃ k0,flatK P f0 0=some k0:=by cases h:flatK P f0 0 with|none=>rw[h] at hk;simp at hk|some v=>exact ⟨v,rfl⟩
 obtain ⟨k0,hk0⟩:=hk0;have hk1:∃ k1,flatK P f1 1=some k1:=by cases h:flatK P f1 1 with|none=>rw[hk0,h] at hk;simp at hk|some v=>exact ⟨v,rfl⟩
 obtain ⟨k1,hk1⟩:=hk1;rw[hk0,hk1] at hk;simp at hk;obtain ⟨rfl,rfl⟩:=hk;have i0:∃ kd,P.underlying f0.type=some (.int kd):=by
  obtain ⟨_,_,h⟩:=flatK_inv hk0
  rcases h with ⟨kd,h,_⟩|⟨_,h⟩|⟨_,h⟩
  ·exact ⟨kd,h⟩
  ·cases h
  ·cases h
 have i1:∃ kd,P.underlying f1.type=some (.int kd):=by
  obtain ⟨_,_,h⟩:=flatK_inv hk1
  rcases h with ⟨kd,h,_⟩|⟨_,h⟩|⟨_,h⟩
  ·exact ⟨kd,h⟩
  ·cases h
  ·cases h
 have p0:=flatK_part (P:=P) hk0 (xs:=#[iv k.1,iv k.2]) (u:=iv k.1) rfl;have p1:=flatK_part (P:=P) hk1 (xs:=#[iv k.1,iv k.2]) (u:=iv k.2) rfl;simp only[pureRun_bind,pureRun_underlying t.u,Z2,pv,<- Array.forIn_toList,hl,List.forIn_cons,List.forIn_nil,(flatK_inv hk0).1,(flatK_inv hk1).1,ne_eq,not_false_eq_true,if_true,p0,p1,check_in i0 e 9998,check_in i1 e 9998,pureRun_pure]
theorem rfind_pv (t:T2 P kt fs) (k:Int × Int) (l:List ((Int × Int) × Int)):rfind P kt (pv k) (mp2 l)=some (mix2 k l 0):=by
 have hk:pureRun P (Instr.findKey kt (pv k) ((mp2 l).map entryOf))=some ((mix2 k l 0).bind fun j=>(l[j-0]?).map fun p=>(j,iv p.2)):=by
  simp only[Instr.findKey,pureRun_bind,pureRun_underlying t.u,Z2];cases l with
  | nil=>rfl
  | cons p l =>
    have h1:=ask_pv t k (p::l) 0;have:Instr.findNow (.struct fs) (pv k) ((mp2 (p::l)).map entryOf) 0=none:=by simp [mp2,Instr.findNow,entryOf,pv,Instr.sameNow]
    rw[this];exact h1
 unfold rfind;rw[if_pos (by simp [keys_mp2,scal,pv]),check_pv t,hk];cases hm:mix2 k l 0 with
 | none=>rfl
 | some j =>
   obtain ⟨_,v,h4,_⟩:=mix2_get hm;simp only[Z2,h4,Z4]
def MOwn2 (h:AH) (b:Nat) (l:List ((Int × Int) × Int)):Prop:=h[b]?=some (.map (mp2 l))
theorem MOwn2.lt {h:AH} {b:Nat} {l:List ((Int × Int) × Int)} (m:MOwn2 h b l):b<h.length:=(Z0.1 m).1
theorem MOwn2.keep {S:Nat->Prop} {h h':AH} {b:Nat} {l:List ((Int × Int) × Int)} (m:MOwn2 h b l) (k:Keep S h h') (hs:¬ S b):MOwn2 h' b l:=k.get m hs
theorem MOwn2.new (h:AH):MOwn2 (h++[.map []]) h.length []:=by simp [MOwn2,mp2]
theorem lk2_some {h:AH} {b:Nat} {l:List ((Int × Int) × Int)} {k:Int × Int} {v:Int} {z:Value} {ok:Bool} (t:T2 P kt fs) (m:MOwn2 h b l) (hg:mget2 k l=some v) :
 bval P h (.lk kt z ok) (.map (some b)) (pv k)=some (if ok then .tuple #[iv v,.bool true] else iv v,none):=by
 have hm:hmap h b=some (mp2 l):=by simp [hmap,show h[b]?=_ from m]
 simp only[bval,hm,rfind_pv t];cases hx:mix2 k l 0 with
 | none=>rw[mix2_none hx] at hg;cases hg
 | some j =>
   obtain ⟨_,v',h4,h5⟩:=mix2_get hx;rw[hg] at h5;cases h5;simp only[Nat.sub_zero] at h4;simp [mp2,h4]
theorem lk2_none {h:AH} {b:Nat} {l:List ((Int × Int) × Int)} {k:Int × Int} {z:Value} {ok:Bool} (t:T2 P kt fs) (m:MOwn2 h b l) (hg:mget2 k l=none) :
 bval P h (.lk kt z ok) (.map (some b)) (pv k)=some (if ok then .tuple #[z,.bool false] else z,none):=by
 have hm:hmap h b=some (mp2 l):=by simp [hmap,show h[b]?=_ from m]
 simp only[bval,hm,rfind_pv t];cases hx:mix2 k l 0 with
 | none=>rfl
 | some j =>
   obtain ⟨_,v',h4,h5⟩:=mix2_get hx;rw[hg] at h5;cases h5
theorem mup2_new {h:AH} {b:Nat} {mt et:TypeId} {l:List ((Int × Int) × Int)} {k:Int × Int} {v:Int} (ht:P.underlying mt=some (.map kt et)) (t:T2 P kt fs) (m:MOwn2 h b l) (hg:mget2 k l=none) :
 ∃ h',wmapUpdate P h mt (.map (some b)) (pv k) (iv v)=some h'/\MOwn2 h' b (l++[(k,v)])/\Keep (· = b) h h'/\h'.length=h.length:=by
 have hm:hmap h b=some (mp2 l):=by simp [hmap,show h[b]?=_ from m]
 have hx:mix2 k l 0=none:=by
  cases hx:mix2 k l 0 with
  | none=>rfl
  | some j =>
    obtain ⟨_,v',_,h5⟩:=mix2_get hx;rw[hg] at h5;cases h5
 refine ⟨h.set b (.map (mp2 l++[(pv k,iv v)])),?_,?_,.set h b _,by simp⟩
 ·simp only[wmapUpdate,ht,hm,rfind_pv t,hx,check_pv t]
 ·have:=m.lt
  simp [MOwn2,mp2,this]
end
section
variable {P:Program} {keep:Bool} {nm:List Nat}
theorem wpr_two {Φ Φ':Out->PS->Prop} (h1:∀ s,Φ .norm s->Φ' .norm s) (h2:∀ v s,Φ (.pan v) s->Φ' (.pan v) s):∀ (os:List RO),(∀ o∈os,∀ f ags,o.k ≠ .dfr f ags) -> ∀ (e l:PE) (h:AH) (ds:List Dfr),wpr P keep nm Φ os e l h ds->wpr P keep nm Φ' os e l h ds:=by
 intro os
 induction os with
 | nil=>intro hn e l h ds hw;exact h1 _ hw
 | cons o os ih =>
   intro hn e l h ds hw;have hno:=hn o List.mem_cons_self;simp only[wpr] at hw ⊢
   rcases gK_one hw with ⟨g1,g2⟩|⟨g1,g2⟩
   ·refine g2 _ _ ?_
    have hw':wpk P keep nm e l h (fun v h'=>wpr P keep nm Φ os (pe o.d e v) (pl o.d l v) h' ds) (fun v h'=>Φ (.pan v) ⟨e,[],h',ds⟩) o.k:=by
     obtain ⟨d,g,k⟩:=o;cases k<;>first|exact g1|exact absurd rfl (hno _ _)
    have hw2:=wpk_mono (K':=fun v h'=>wpr P keep nm Φ' os (pe o.d e v) (pl o.d l v) h' ds) (Kp':=fun v h'=>Φ' (.pan v) ⟨e,[],h',ds⟩) (fun v h' kk=>ih (fun o ho=>hn o (Z5 _ ho)) _ _ _ _ kk) (fun v h' kk=>h2 _ _ kk) hw';obtain ⟨d,g,k⟩:=o;cases k<;>first|exact hw2|exact absurd rfl (hno _ _)
   ·exact g2 _ _ (ih (fun o ho=>hn o (Z5 _ ho)) _ _ _ _ g1)
theorem RndH.asg {e:PE} {ps:List Nat} {la:List RO} {xb:RC} {ags:List Value} {h h':AH} {j:Out} (hl:ags.length=ps.length) (hps:∀ t∈ps,nm.contains t=true) (hn:∀ o∈la,∀ f ags,o.k ≠ .dfr f ags) (hj:∀ v,j ≠ .pan v)
 (hw:∀ Ψ:Out->PS->Prop,(∀ o e l ds,o=j->Ψ o ⟨e,l,h',ds⟩)->XC P keep nm Ψ (.sq (.rg la) xb) [] (updps e ps ags) [] h []):RndH nm (wpc P keep nm (.rg la)) (wpc P keep nm xb) e ps ags h j h':=by
 refine ⟨hl,hps,?_⟩;have h1:=hw (fun o s=>o=j/\s.h=h' /\ ∀ v,o ≠ .pan v) (fun o e l ds ho=>⟨ho,rfl,fun v e=>hj v (ho ▸ e)⟩);exact wpr_two (fun s hs=>⟨rfl,hs⟩) (fun v s hs=>absurd rfl (hs.2.2 v)) la hn _ _ _ _ h1
end
end Go.Eng

namespace Go.Eng
section
variable (P:Program) (keep:Bool) (nm:List Nat) (Y:YT) (Φ:Out->PS->Out->Prop)
def YO (os:List RO) (e l:PE) (h:AH) (p:Out):Prop:=wprY P keep nm Y Φ os e l h p
def YC (c:RC) (e l:PE) (h:AH) (p:Out):Prop:=wpcY P keep nm Y c Φ ⟨e,l,h,[]⟩ p
def YE (out:Out) (e l:PE) (h:AH) (p:Out):Prop:=Φ out ⟨e,l,h,[]⟩ p
def YV (v:Value) (d:D) (os:List RO) (e l:PE) (h:AH) (p:Out):Prop:=YO P keep nm Y Φ os (pe d e v) (pl d l v) h p
def YR (x:Option RRes) (d:D) (os:List RO) (e l:PE) (h:AH) (p:Out):Prop:=rK x h fun v h'=>YV P keep nm Y Φ v d os e l h' p
def YU (f:U) (x:Option Value) (d:D) (os:List RO) (e l:PE) (h:AH) (p:Out):Prop:=vK x fun v=>YR P keep nm Y Φ (uval P h h.length f v) d os e l h p
def YB (f:B) (x y:Option Value) (d:D) (os:List RO) (e l:PE) (h:AH) (p:Out):Prop:=vK x fun u=>vK y fun v=>YR P keep nm Y Φ (bval P h f u v) d os e l h p
def YH (x:Option AH) (d:D) (os:List RO) (e l:PE) (p:Out):Prop:=hK x fun v h'=>YV P keep nm Y Φ v d os e l h' p
def YS (n:Nat) (a x:Option Value) (d:D) (os:List RO) (e l:PE) (h:AH) (p:Out):Prop:=vK a fun u=>vK x fun v=>YH P keep nm Y Φ (stv h n u v) d os e l p
def YCa (f:Option Value) (vs:Option (List Value)) (d:D) (os:List RO) (e l:PE) (h:AH) (p:Out):Prop:=vK f fun fv=>vsK vs fun vs=>yK P Y p fv vs h fun v h' p'=>YV P keep nm Y Φ v d os e l h' p'
def YX (f:FuncId) (vs:List Value) (d:D) (os:List RO) (e l:PE) (h:AH) (p:Out):Prop:=∃ v h',Holds P f vs h (.ret v) h'/\h.length<=h'.length/\YV P keep nm Y Φ v d os e l h' p
def YY (n:Nat) (vs:List Value) (d:D) (os:List RO) (e l:PE) (h:AH) (p:Out):Prop:=p = .norm/\Y n vs h fun j h'=>YV P keep nm Y Φ (.bool (goesOn j)) d os e l h' j
def YI (x:Option Value) (a b:RC) (e l:PE) (h:AH) (p:Out):Prop:=vK x fun v=>bK v fun t=>br t (YC P keep nm Y Φ a e l h p) (YC P keep nm Y Φ b e l h p)
variable {P keep nm Y Φ}
variable {os:List RO} {e l:PE} {h:AH} {p:Out} {d:D}
theorem YC_skip:YC P keep nm Y Φ .skip e l h p=YE Φ .norm e l h p:=rr rfl
theorem YC_ret:YC P keep nm Y Φ .ret e l h p=YE Φ .ret e l h p:=rr rfl
theorem YC_exit {id:Nat}:YC P keep nm Y Φ (.exit id) e l h p=YE Φ (.exit id) e l h p:=rr rfl
theorem YC_rg:YC P keep nm Y Φ (.rg os) e l h p=YO P keep nm Y Φ os e l h p:=rr rfl
theorem YC_sq {a b:RC}:YC P keep nm Y Φ (.sq a b) e l h p=YC P keep nm Y (seqY (wpcY P keep nm Y b Φ) Φ) a e l h p:=rr rfl
theorem YC_ite {x:RX} {a b:RC}:YC P keep nm Y Φ (.ite x a b) e l h p=YI P keep nm Y Φ (rx e l x) a b e l h p:=rr rfl
theorem YC_blk {id:Nat} {b:RC}:YC P keep nm Y Φ (.blk id b) e l h p=YC P keep nm Y (blkY id Φ) b e l h p:=rr rfl
theorem YE_seq_norm {b:RC} {Φ':Out->PS->Out->Prop}:YE (seqY (wpcY P keep nm Y b Φ') Φ) .norm e l h p=YC P keep nm Y Φ' b e l h p:=rr rfl
theorem YE_seq_ret {k:PS->Out->Prop}:YE (seqY k Φ) .ret e l h p=YE Φ .ret e l h p:=rr rfl
theorem YE_seq_exit {k:PS->Out->Prop} {id:Nat}:YE (seqY k Φ) (.exit id) e l h p=YE Φ (.exit id) e l h p:=rr rfl
theorem YE_blk_norm {i:Nat}:YE (blkY i Φ) .norm e l h p=YE Φ .norm e l h p:=rr rfl
theorem YE_blk_ret {i:Nat}:YE (blkY i Φ) .ret e l h p=YE Φ .ret e l h p:=rr rfl
theorem YE_blk_exit {i id:Nat}:YE (blkY i Φ) (.exit id) e l h p=if id=i then YE Φ .norm e l h p else YE Φ (.exit id) e l h p:=rr rfl
theorem YO_nil:YO P keep nm Y Φ [] e l h p=YE Φ .norm e (l.take 1) h p:=rr rfl
theorem YO_u {f:U} {x:RX}:YO P keep nm Y Φ (⟨d,none,.u f x⟩::os) e l h p=YU P keep nm Y Φ f (rx e l x) d os e l h p:=rr rfl
theorem YO_b {f:B} {x y:RX}:YO P keep nm Y Φ (⟨d,none,.b f x y⟩::os) e l h p=YB P keep nm Y Φ f (rx e l x) (rx e l y) d os e l h p:=rr rfl
theorem YO_al {t:TypeId} {z:List Value}:YO P keep nm Y Φ (⟨d,none,.al t z⟩::os) e l h p=YV P keep nm Y Φ (.pointer (some ⟨h.length,0,none⟩)) d os e l (h++[row t h.length z]) p:=rr rfl
theorem YO_st {n:Nat} {a x:RX}:YO P keep nm Y Φ (⟨d,none,.st n a x⟩::os) e l h p=YS P keep nm Y Φ n (rx e l a) (rx e l x) d os e l h p:=rr rfl
theorem YO_call {f:RX} {xs:List RX}:YO P keep nm Y Φ (⟨d,none,.call f xs⟩::os) e l h p=YCa P keep nm Y Φ (rx e l f) (rxs e l xs) d os e l h p:=rr rfl
theorem YU_some {f:U} {v:Value}:YU P keep nm Y Φ f (some v) d os e l h p=YR P keep nm Y Φ (uval P h h.length f v) d os e l h p:=rr rfl
theorem YB_some {f:B} {u v:Value}:YB P keep nm Y Φ f (some u) (some v) d os e l h p=YR P keep nm Y Φ (bval P h f u v) d os e l h p:=rr rfl
theorem YS_some {n:Nat} {u v:Value}:YS P keep nm Y Φ n (some u) (some v) d os e l h p=YH P keep nm Y Φ (stv h n u v) d os e l p:=rr rfl
theorem YH_some {h':AH}:YH P keep nm Y Φ (some h') d os e l p=YV P keep nm Y Φ undef d os e l h' p:=rr rfl
theorem YR_v {v:Value}:YR P keep nm Y Φ (some (v,none)) d os e l h p=YV P keep nm Y Φ v d os e l h p:=rr rfl
theorem YR_b {v:Value} {B:Blk}:YR P keep nm Y Φ (some (v,some B)) d os e l h p=YV P keep nm Y Φ v d os e l (h++[B]) p:=rr rfl
theorem YV_n {v:Value} {i:Nat}:YV P keep nm Y Φ v (.n i) os e l h p=YO P keep nm Y Φ os (upd e i v) l h p:=rr rfl
theorem YV_t {v:Value} {i:Nat}:YV P keep nm Y Φ v (.t i) os e l h p=YO P keep nm Y Φ os e ((i,v)::l) h p:=rr rfl
theorem YV_z {v:Value}:YV P keep nm Y Φ v .z os e l h p=YO P keep nm Y Φ os e l h p:=rr rfl
theorem YI_true {a b:RC}:YI P keep nm Y Φ (some (.bool true)) a b e l h p=YC P keep nm Y Φ a e l h p:=rr rfl
theorem YI_false {a b:RC}:YI P keep nm Y Φ (some (.bool false)) a b e l h p=YC P keep nm Y Φ b e l h p:=rr rfl
theorem YCa_f {f:FuncId} {vs:List Value}:YCa P keep nm Y Φ (some (.func (.func f) #[] #[])) (some vs) d os e l h p=YX P keep nm Y Φ f vs d os e l h p:=by
 apply propext
 constructor
 ·rintro ⟨g,first,cap,res,h',he,h1,h2,h3⟩
  cases he;cases h3 with
  | ret k=>exact ⟨_,h',by simpa using h1,h2,k⟩
  | pan k=>exact k.elim
 ·rintro ⟨v,h',h1,h2,h3⟩
  exact ⟨f,#[],#[],_,h',rfl,by simpa using h1,h2,.ret h3⟩
theorem YCa_y {n:Nat} {vs:List Value}:YCa P keep nm Y Φ (some (.func (.yield n) #[] #[])) (some vs) d os e l h p=YY P keep nm Y Φ n vs d os e l h p:=by
 apply propext
 constructor
 ·rintro ⟨_,_,h1,h2⟩;exact ⟨h1,h2⟩
 ·rintro ⟨h1,h2⟩;exact ⟨rfl,rfl,h1,h2⟩
theorem YX_of {f:FuncId} {vs:List Value} {v:Value} {h':AH} (h1:Holds P f vs h (.ret v) h') (h2:h.length<=h'.length) (k:YV P keep nm Y Φ v d os e l h' p):YX P keep nm Y Φ f vs d os e l h p:=⟨v,h',h1,h2,k⟩
theorem YY_of {n:Nat} {vs:List Value} (hy:Y n vs h fun j h'=>YV P keep nm Y Φ (.bool (goesOn j)) d os e l h' j):YY P keep nm Y Φ n vs d os e l h .norm:=⟨rfl,hy⟩
end
theorem ymach:type_of% @YC_skip/\type_of% @YC_ret/\type_of% @YC_exit/\type_of% @YC_rg/\type_of% @YC_sq/\type_of% @YC_ite/\type_of% @YC_blk/\type_of% @YE_seq_norm/\type_of% @YE_seq_ret/\type_of% @YE_seq_exit/\type_of% @YE_blk_norm/\type_of% @YE_blk_ret/\type_of% @YE_blk_exit /\
 type_of% @YO_nil/\type_of% @YO_u/\type_of% @YO_b/\type_of% @YO_al/\type_of% @YO_st/\type_of% @YO_call/\type_of% @YU_some/\type_of% @YB_some/\type_of% @YS_some/\type_of% @YH_some/\type_of% @YR_v/\type_of% @YR_b/\type_of% @YV_n/\type_of% @YV_t/\type_of% @YV_z/\type_of% @YI_true/\type_of% @YI_false/\type_of% @YCa_f/\type_of% @YCa_y :=
 ⟨@YC_skip,@YC_ret,@YC_exit,@YC_rg,@YC_sq,@YC_ite,@YC_blk,@YE_seq_norm,@YE_seq_ret,@YE_seq_exit,@YE_blk_norm,@YE_blk_ret,@YE_blk_exit,@YO_nil,@YO_u,@YO_b,@YO_al,@YO_st,@YO_call,@YU_some,@YB_some,@YS_some,@YH_some,@YR_v,@YR_b,@YV_n,@YV_t,@YV_z,@YI_true,@YI_false,@YCa_f,@YCa_y⟩
end Go.Eng

namespace Go.Eng
def Wkv (v x:Value):Prop:=∀ r v',VR r v v'->VR r x v'
theorem Wkv.refl (v:Value):Wkv v v:=fun _ _ h=>h
theorem Wkv.slice {b n c:Nat} (h:n<=c):Wkv (.slice (some ⟨b,0,none⟩) n c) (.slice (some ⟨b,0,none⟩) n n):=by
 intro r v' h';cases h' with
 | slice h1 hc hn hl=>exact .slice h1 (by omega) (Nat.le_refl _) hl
 | sempty hn hc=>exact .sempty hn hc
def Wkc (cs xs:List Value):Prop:=xs.length<=cs.length /\ ∀ (i:Nat) (x:Value),xs[i]?=some x -> ∃ v,cs[i]?=some v/\Wkv v x
theorem Wkc.take (cs:List Value) (n:Nat):Wkc cs (cs.take n):=by
 refine ⟨by simp;omega,fun i x h=>?_⟩;rw[List.getElem?_take] at h
 split at h
 ·exact ⟨x,h,Wkv.refl x⟩
 ·cases h
def Wkb (B X:Blk):Prop:=X = .gone \/ ∃ own g g' d e cs xs,B = .cells own true g d e cs/\X = .cells own true g' d e xs/\Wkc cs xs
def isGone:Option Blk->Bool
 | some .gone=>true
 | _=>false
theorem isGone_iff {o:Option Blk}:isGone o=true ↔ o=some .gone:=by
 unfold isGone;split
 ·simp
 ·rename_i h;exact ⟨fun e=>(by cases e),fun e=>absurd e h⟩
def mend (h hx h':AH):AH:=(List.range h'.length).map fun q=>if isGone hx[q]? then h[q]?.getD .gone else h'[q]?.getD .gone
theorem mend_len (h hx h':AH):(mend h hx h').length=h'.length:=by simp [mend]
theorem mend_at {h hx h':AH} (hl:hx.length=h.length) (hle:h.length<=h'.length) (q:Nat):(mend h hx h')[q]?=if isGone hx[q]? then h[q]? else h'[q]?:=by
 unfold mend;rw[List.getElem?_map]
 by_cases hq:q<h'.length
 ·rw[List.getElem?_range hq,Z4]
  split
  ·rename_i e
   have:=(Z0.1 (isGone_iff.1 e)).1;rw[Z1 (by omega:q<h.length)];rfl
  ·rw[Z1 hq];rfl
 ·rw[Z3 (by simp;omega),Option.map_none]
  split
  ·rw[Z3 (by omega)]
  ·rw[Z3 (by omega)]
section
variable {P:Program} {h hx h':AH}
theorem Wkb.inv {B X:Blk} (w:Wkb B X) (hl:X.live=true):∃ own g g' d e cs xs,B = .cells own true g d e cs/\X = .cells own true g' d e xs/\Wkc cs xs:=by
 rcases w with rfl|w
 ·cases hl
 ·exact w
theorem HR.less {r:Rho} {W:Array Obj} (hr:HR P r h W) (hl:hx.length=h.length) (hw:∀ (q:Nat) (B X:Blk),h[q]?=some B->hx[q]?=some X->Wkb B X):HR P r hx W:=by
 have up:∀ (q:Nat) (X:Blk),hx[q]?=some X->X.live=true -> ∃ own g g' d e cs xs,h[q]?=some (.cells own true g d e cs)/\X = .cells own true g' d e xs/\Wkc cs xs:=by
  intro q X hX hlv;have hq:=(Z0.1 hX).1;have e:=Z1 (show q<h.length by omega);obtain ⟨own,g,g',d,e',cs,xs,e1,e2,e3⟩:=(hw q _ _ e hX).inv hlv;exact ⟨own,g,g',d,e',cs,xs,by rw[e,e1],e2,e3⟩
 refine ⟨fun b x e=>?_,fun b X hX hlv=>?_,fun b b' X X' x x' hX hX' hne hwr hlv hx1 hx2 heq=>?_,hr.lay,fun g b X x hg hX hwr hx1=>?_⟩
 ·have:=hr.dom b x e;exact ⟨by omega,this.2⟩
 ·obtain ⟨own,g,g',d,e',cs,xs,e1,rfl,e3⟩:=up b X hX hlv
  obtain ⟨x,hx1,cur,t,fr,a1,a2,a3,a4,a5⟩:=hr.blk b _ e1 rfl;refine ⟨x,hx1,cur,t,fr,a1,a2,a3,by have:=e3.1;omega,fun i v v' hv hv'=>?_⟩;obtain ⟨u,hu,hwk⟩:=e3.2 i v hv;exact hwk r v' (a5 i u v' hu hv')
 ·obtain ⟨own,g,g',d,e',cs,xs,e1,rfl,_⟩:=up b X hX (Blk.live_of_wr hwr)
  obtain ⟨own2,g2,g2',d2,e2',cs2,xs2,f1,rfl,_⟩:=up b' X' hX' hlv;obtain ⟨_,_,_,_,_,_,_,a,_⟩:=hr.sep b b' _ _ x x' e1 f1 hne hwr rfl hx1 hx2 heq;simp at a
 ·obtain ⟨own,g',_,d,e',cs,xs,e1,rfl,_⟩:=up b X hX (Blk.live_of_wr hwr)
  exact hr.nwr g b _ x hg e1 hwr hx1
theorem Holds.frame {f:FuncId} {args:List Value} {v:Value} (hl:hx.length=h.length) (hw:∀ (q:Nat) (B X:Blk),h[q]?=some B->hx[q]?=some X->Wkb B X) (hc:Holds P f args hx (.ret v) h'):Holds P f args h (.ret v) (mend h hx h'):=by
 intro r w args' hr ha o a K Q hK hQ;refine hc r w args' (hr.less hl hw) ha o a K Q (fun v1 v' w' r' e st hvr=>?_) (fun v1 v' w' r' e=>by cases e);cases e;refine hK v v' w' r' rfl ?_ hvr;have hle:h.length<=h'.length:=by rw[<- hl];exact st.len
 have at':=mend_at (h:=h) (h':=h') hl hle;have up:∀ (q:Nat) (X:Blk),hx[q]?=some X->X.live=true -> ∃ own g g' d e cs xs,h[q]?=some (.cells own true g d e cs)/\X = .cells own true g' d e xs/\Wkc cs xs:=by
  intro q X hX hlv;have hq:=(Z0.1 hX).1;have e:=Z1 (show q<h.length by omega);obtain ⟨own,g,g',d,e',cs,xs,e1,e2,e3⟩:=(hw q _ _ e hX).inv hlv;exact ⟨own,g,g',d,e',cs,xs,by rw[e,e1],e2,e3⟩
 have no:∀ (C:Blk) (d d':Nat) (own:Bool) (g k:Nat) (e:TypeId) (cs:List Value),¬ Ali (.cells own true g k e cs) d C d':=by
  rintro C d d' own g k e cs ⟨_,_,_,_,_,_,_,a,_⟩;simp at a
 have no2:∀ (C:Blk) (d d':Nat) (own:Bool) (g k:Nat) (e:TypeId) (cs:List Value),¬ Ali C d (.cells own true g k e cs) d':=by
  rintro C d d' own g k e cs ⟨_,_,_,_,_,_,_,_,a,_⟩;simp at a
 have rest:∀ (q:Nat) (C:Blk),hx[q]?=some .gone->h[q]?=some C->C.live=true -> ∃ x,r q=some x/\r' q=some x/\x.blk<w.heap.size/\BO P r' x C w'.heap[x.blk]?:=by
  intro q C hg hC hlv;obtain ⟨x,hx1,bo⟩:=hr.blk q C hC hlv;have hlt:=(hr.dom q x hx1).2;refine ⟨x,hx1,st.le q x hx1,hlt,?_⟩;rw[st.fr.block x.blk hlt (fun hwr=>?_)]
  ·exact bo.mono st.le
  ·obtain ⟨b,B,y,hB,hBw,hy,hyx⟩:=hwr
   obtain ⟨own,g,g',d,e',cs,xs,e1,rfl,_⟩:=up b B hB (Blk.live_of_wr hBw);have hne:b≠q:=fun e=>by subst e;rw[hg] at hB;cases hB
   exact no _ _ _ _ _ _ _ _ (hr.sep b q _ C y x e1 hC hne hBw hlv hy hx1 hyx)
 refine ⟨st.le,⟨fun b x e=>?_,fun b C hC hlv=>?_,fun b b' C C' x x' hC hC' hne hwr hlv hx1 hx2 heq=>?_,st.hr.lay,fun g b C x hg hC hwr hx1=>?_⟩,?_,fun b' C x hC hlv hx1 hlt=>?_,by rw[mend_len];exact hle,fun b hb=>?_⟩
 ·rw[mend_len];exact st.hr.dom b x e
 ·rw[at'] at hC
  split at hC
  ·rename_i hg
   replace hg:=isGone_iff.1 hg
   obtain ⟨x,_,x2,_,bo⟩:=rest b C hg hC hlv;exact ⟨x,x2,bo⟩
  ·exact st.hr.blk b C hC hlv
 ·rw[at'] at hC hC'
  split at hC
  ·rename_i hg
   replace hg:=isGone_iff.1 hg
   obtain ⟨y,y1,y2,y3,_⟩:=rest b C hg hC (Blk.live_of_wr hwr);rw[hx1] at y2;cases y2
   split at hC'
   ·rename_i hg'
    replace hg':=isGone_iff.1 hg'
    obtain ⟨z,z1,z2,_,_⟩:=rest b' C' hg' hC' hlv;rw[hx2] at z2;cases z2;exact hr.sep b b' C C' x x' hC hC' hne hwr hlv y1 z1 heq
   ·obtain ⟨b0,B0,z,q1,q2,q3,q4,_⟩:=st.own b' C' x' hC' hlv hx2 (by omega)
    obtain ⟨own,g,g',d,e',cs,xs,e1,rfl,_⟩:=up b0 B0 q1 q2;have hne2:b≠b0:=fun e=>by subst e;rw[hg] at q1;cases q1
    exact (no2 _ _ _ _ _ _ _ _ (hr.sep b b0 C _ x z hC e1 hne2 hwr rfl y1 q3 (by omega))).elim
  ·split at hC'
   ·rename_i hg'
    replace hg':=isGone_iff.1 hg'
    obtain ⟨z,z1,z2,z3,_⟩:=rest b' C' hg' hC' hlv;rw[hx2] at z2;cases z2;obtain ⟨b0,B0,y,q1,q2,q3,q4,q5⟩:=st.own b C x hC (Blk.live_of_wr hwr) hx1 (by omega);obtain ⟨own,g,g',d,e',cs,xs,e1,rfl,_⟩:=up b0 B0 q1 q2;have hne2:b0≠b':=fun e=>by subst e;rw[hg'] at q1;cases q1
    exact (no _ _ _ _ _ _ _ _ (hr.sep b0 b' _ C' y x' e1 hC' hne2 (q5 hwr) hlv q3 z1 (by omega))).elim
   ·exact st.hr.sep b b' C C' x x' hC hC' hne hwr hlv hx1 hx2 heq
 ·rw[at'] at hC
  split at hC
  ·rename_i hg'
   replace hg':=isGone_iff.1 hg'
   obtain ⟨y,y1,y2,_,_⟩:=rest b C hg' hC (Blk.live_of_wr hwr);rw[hx1] at y2;cases y2;exact hr.nwr g b C x hg hC hwr y1
  ·exact st.hr.nwr g b C x hg hC hwr hx1
 ·refine ⟨st.fr.os,st.fr.tape,st.fr.output,st.fr.size,fun k hk hn=>st.fr.block k hk (fun hwr=>hn ?_)⟩
  obtain ⟨b,B,y,hB,hBw,hy,hyx⟩:=hwr;obtain ⟨own,g,g',d,e',cs,xs,e1,rfl,_⟩:=up b B hB (Blk.live_of_wr hBw);exact ⟨b,_,y,e1,hBw,hy,hyx⟩
 ·rw[at'] at hC
  split at hC
  ·rename_i hg
   replace hg:=isGone_iff.1 hg
   obtain ⟨y,y1,y2,_,_⟩:=rest b' C hg hC hlv;rw[hx1] at y2;cases y2;exact ⟨b',C,x,hC,hlv,y1,rfl,fun e=>e⟩
  ·obtain ⟨b0,B0,y,q1,q2,q3,q4,q5⟩:=st.own b' C x hC hlv hx1 hlt
   obtain ⟨own,g,g',d,e',cs,xs,e1,rfl,_⟩:=up b0 B0 q1 q2;exact ⟨b0,_,y,e1,rfl,q3,q4,q5⟩
 ·have hq:=(Z0.1 hb).1
  have e:=Z1 (show b<hx.length by omega);have hg:hx[b]?=some .gone:=by
   rcases hw b _ _ hb e with e2|⟨_,_,_,_,_,_,_,e2,_⟩
   ·rw[e,e2]
   ·cases e2
  rw[at',if_pos (isGone_iff.2 hg)];exact hb
theorem Gets.frame {f:FuncId} {args:List Value} {v:Value} {Φ:AH->Prop} (hl:hx.length=h.length) (hw:∀ (q:Nat) (B X:Blk),h[q]?=some B->hx[q]?=some X->Wkb B X)
 (hg:Gets P f args hx (fun res h'=>res = .ret v/\Φ h')):Gets P f args h (fun res h'=>res = .ret v /\ ∃ h1,Φ h1/\h'=mend h hx h1/\h.length<=h1.length):=by
 obtain ⟨res,h1,a,b,rfl,c⟩:=hg;exact ⟨_,_,a.frame hl hw,by rw[mend_len];omega,rfl,h1,c,rfl,by omega⟩
end
end Go.Eng
