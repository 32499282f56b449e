import Derived.Test.YtjacebjfidhcoaaPk16
import Derived.Test.YtjacebjfidhcoaaPk15
set_option linter.unusedVariables false
set_option linter.unusedSimpArgs false
open Nat renaming reduceEqDiff -> ZA,reduceAdd -> ZB,reduceMul -> ZC,reduceLeDiff -> ZD,reduceLT -> ZE
open Int renaming reduceEq -> ZF
open List renaming getElem?_eq_getElem->Z0,getElem?_cons_succ->Z8,getElem?_cons_zero->Z9
open Option renaming bind_some->Z1
open Int renaming toNat_natCast->Z2,le_refl->Z3,cast_ofNat_Int->Z5,natCast_add->Z6
open Nat renaming mul_one->Z4,zero_le->Z7
namespace Go.S18
open Go Go.Eng Go.Proofs Go.Chk
theorem rvc2 {e l:PE} {h:AH} {ds:List Dfr} {x y:RX} {f g:U} {p q u v:Value} {K:List Value->Prop} (hx:rx e l x=some p) (hu:uval Try.prog h h.length f p=some (u,none)) (hy:rx e l y=some q) (hv:uval Try.prog h h.length g q=some (v,none)) (hk:K [u,v]) :
 rvK Try.prog ⟨e,l,h,ds⟩ [.c x f,.c y g] K:=by
 simp only[rvK,hx,vK,hu,rK,hy,hv];exact hk
theorem small_ok (h:AH) (c:Int):Gets Try.prog 82 [iv c] h (fun res h'=>h'=h/\res = .ret (.bool (decide (¬ (0<=c/\c<=8))))):=by
 refine Gets.of (keep:=false) hP (draw_ok hM) k82 (by rfl) (fun Ψ hΨ=>?_)
 by_cases h0:c<0
 ·simp only[ZG,↓reduceIte,ZA,ZB,ZC,r82,YE,YC,YO,YA,YL,YX,YS,Ya,Yb,Yl,Yf,Yg,Yi,Ym,Yk,Yt,Yn,Yz,Yp,Yq,Yd,h0]
  exact hΨ _ _ (fin_ret (rv1 rfl ⟨rfl,by simp [tup];omega⟩))
 ·simp only[ZG,↓reduceIte,ZA,ZB,ZC,r82,YE,YC,YO,YA,YL,YX,YS,Ya,Yb,Yl,Yf,Yg,Yi,Ym,Yk,Yt,Yn,Yz,Yp,Yq,Yd,h0]
  exact hΨ _ _ (fin_ret (rv1 rfl ⟨rfl,by simp [tup];omega⟩))
section
variable {h:AH} {b:Nat} {C:Cx} {vi vc vt vp vk:Value} {p:Nat}
theorem index_ok (im:Img h C vi vc vt vp vk) (hm:C.cons.length<=9223372036854775807):Gets Try.prog 86 [vk,.func (.func 82) #[] #[]] h (fun res h'=>h'=h /\ ∃ i,res = .ret (iv i)/\(0<=i ↔ ¬ consOk C)):=by
 refine Gets.of (keep:=false) hP (draw_ok hM) k86 (by rfl) (fun Ψ hΨ=>?_);obtain ⟨ka,kc,hvk⟩:=row_shape im.rk;subst hvk;simp only[ZG,↓reduceIte,ZA,ZB,ZC,r86,YE,YC,YO,YA,YL,YX,YS,Ya,Yb,Yl,Yf,Yg,Yi,Ym,Yk,Yt,Yn,Yz,Yp,Yq,Yd];refine XLo_rule (α:=Nat) (fun i=>[(0,.slice ka C.cons.length kc),(1,.func (.func 82) #[] #[]),(7,iv C.cons.length),(8,iv i)])
  (fun i h'=>i<=C.cons.length/\h'=h /\ ∀ j,j<i -> ∀ c,C.cons[j]?=some c->0<=c/\c<=8) (fun i=>C.cons.length-i) 0 ⟨Z7 _,rfl,fun j hj=>by omega⟩ ⟨rfl,rfl,rfl,rfl,trivial⟩ ?_
 rintro i h1 Ψ2 ⟨i1,rfl,hall⟩ next out
 by_cases hi:(i:Int)<(C.cons.length:Int)
 ·have h0:0<=(i:Int):=by omega
  have hw:IntKind.i64.wrap ((i:Int)+1)=i+1:=i64w (by omega) (by omega);have hx:C.cons[(i:Int).toNat]?=some C.cons[i]:=by rw[Z2];exact Z0 (by omega)
  obtain ⟨b1,o1,c1,e1,_,hld⟩:=rds_ix im.rk h0 hx;cases e1;rw[Z2] at hld;simp only[ZG,↓reduceIte,ZA,ZB,ZC,hi,h0,and_self,Z2,Z4,hld,List.append_nil,List.nil_append];refine XX_val (small_ok h1 _) ?_
  by_cases hc:0<=C.cons[i]/\C.cons[i]<=8
  ·simp only[ZG,↓reduceIte,ZA,ZB,ZC,hc,and_self,not_true,hw]
   refine next (i+1) _ _ _ ⟨by omega,rfl,fun j hj c hcj=>?_⟩ ⟨rfl,rfl,rfl,?_,trivial⟩ (by omega)
   ·by_cases hji:j<i
    ·exact hall j hji c hcj
    ·have:j=i:=by omega
     subst this;rw[Z0 (by omega)] at hcj;cases hcj;exact hc
   ·simp only[Z6,Z5];rfl
  ·simp only[ZG,↓reduceIte,ZA,ZB,ZC,hc,not_false_eq_true]
   refine out .ret _ _ _ _ (by intro e;cases e) ?_;simp only[ZG,↓reduceIte,ZA,ZB,ZC];refine hΨ _ _ (fin_ret (rv1 rfl ⟨rfl,_,rfl,?_⟩))
   constructor
   ·intro _ hco;exact hc (hco _ (List.getElem_mem _))
   ·intro _;omega
 ·have hie:i=C.cons.length:=by omega
  simp only[ZG,↓reduceIte,ZA,ZB,ZC,hi];refine out (.exit 0) _ _ _ _ (by intro e;cases e) ?_;simp only[ZG,↓reduceIte,ZA,ZB,ZC];refine hΨ _ _ (fin_ret (rv1 rfl ⟨rfl,_,rfl,?_⟩))
  constructor
  ·intro e;omega
  ·intro e
   exfalso;refine e (fun c hc=>?_)
   obtain ⟨j,hj,rfl⟩:=List.getElem_of_mem hc;exact hall j (by omega) _ (Z0 hj)
theorem contains_ok (im:Img h C vi vc vt vp vk) (hm:C.cons.length<=9223372036854775807):Gets Try.prog 81 [vk,.func (.func 82) #[] #[]] h (fun res h'=>h'=h/\res = .ret (.bool (decide (¬ consOk C)))):=by
 refine Gets.of (keep:=false) hP (draw_ok hM) k81 (by rfl) (fun Ψ hΨ=>?_);simp only[ZG,↓reduceIte,ZA,ZB,ZC,r81,YE,YC,YO,YA,YL,YX,YS,Ya,Yb,Yl,Yf,Yg,Yi,Ym,Yk,Yt,Yn,Yz,Yp,Yq,Yd];refine XX_of (index_ok im hm) (fun res h' _ hn=>?_);obtain ⟨rfl,i,rfl,hi⟩:=hn;refine .ret ?_;simp only[ZG,↓reduceIte,ZA,ZB,ZC];refine hΨ _ _ (fin_ret (rv1 rfl ⟨rfl,?_⟩));simp only[tup]
 congr 2
 exact decide_eq_decide.2 hi
def EndO (h:AH) (C:Cx) (res:Res) (h':AH):Prop:=Keep (fun _=>False) h h'/\match ends C with
 | some l=>∃ v,res = .ret (.tuple #[v,iv 0])/\Ows h' 3 1 v l.length (ns (l.map Int.ofNat)) /\ ∀ q,bk v q->h.length<=q
 | none=>res = .ret (.tuple #[.slice none 0 0,iv 7])
def Cx.fits (C:Cx):Prop:=C.infos.length<=9223372036854775807/\C.code.length<=9223372036854775807/\C.tops.length<=9223372036854775807/\C.cons.length<=9223372036854775807
abbrev rsE:List RV:=[.c (.n 2) .ld,.c (.n 3) .ld]
theorem ends_fail {Ψ:Out->PS->Prop} (hΨ:∀ o s,finD Try.prog false 79 [0,1,4,5,9,10] (.n 5) r79 [] rsE (EndO h C) o s->Ψ o s) {e l:PE} {h':AH} {bL bE:Nat} {x y:Value} (v:{v:Value // v = .agg #[]})
 (h2:Eng.look e 2=some (.pointer (some ⟨bL,0,none⟩))) (h3:Eng.look e 3=some (.pointer (some ⟨bE,0,none⟩))) (o2:Own h' bL 24 [x]) (o3:Own h' bE 30 [y]) (hLE:bL≠bE) (g2:h.length<=bL) (g3:h.length<=bE) (kp:Keep (fun _=>False) h h') (hn:ends C=none) :
 Ψ (.pan (.iface 108 v.1)) ⟨e,l,h',[⟨.func 79,[.pointer (some ⟨bL,0,none⟩),.pointer (some ⟨bE,0,none⟩)],[]⟩]⟩:=by
 obtain ⟨v,rfl⟩:=v;refine hΨ _ _ (dfr_of (by rfl) (fun Ψ2 hΨ2=>?_));simp only[ZG,↓reduceIte,ZA,ZB,ZC,r79,YE,YC,YO,YA,YL,YX,YS,Ya,Yb,Yl,Yf,Yg,Yi,Ym,Yk,Yt,Yn,Yz,Yp,Yq,Yd,Option.getD_some,mbl,ZD,ZE,ZF];have on:=Own.new h' 108 h'.length [];have k0:Keep (fun _=>False) h' (h'++[row 108 h'.length []]):=Keep.push _ _ _;have o2':=o2.keep k0 (fun e=>e);have o3':=o3.keep k0 (fun e=>e);refine XH_own on rfl (by simp [Value.cells]) rfl (fun h4 q1 q2 q3=>?_);have lb2:=o2.lt;have lb3:=o3.lt;have o24:=o2'.keep q2 (fun e=>by omega);have o34:=o3'.keep q2 (fun e=>by omega);simp only[ZG,↓reduceIte,ZA,ZB,ZC];refine XH_own o24 rfl (by simp [Value.cells]) rfl (fun h5 p1 p2 p3=>?_);have o25:Own h5 bL 24 [.slice none 0 0]:=by simpa [Value.cells] using p1
 have o35:=o34.keep p2 (fun e=>hLE e.symm);simp only[ZG,↓reduceIte,ZA,ZB,ZC];refine XH_own o35 rfl (by simp [Value.cells]) rfl (fun h6 t1 t2 t3=>?_);have o36:Own h6 bE 30 [iv 7]:=by simpa [Value.cells] using t1
 have o26:=o25.keep t2 (fun e=>hLE e);simp only[ZG,↓reduceIte,ZA,ZB,ZC];have l4:h'.length<=h4.length:=by rw[q3];simp
 have kk:Keep (fun _=>False) h h6:=(((kp.trans k0).trans' q2 (fun c hc e=>by have:=kp.len;omega)).trans' p2 (fun c hc e=>by omega)).trans' t2 (fun c hc e=>by omega);refine hΨ2 _ _ ⟨.inl rfl,rfl,?_,⟨[],rfl⟩,rvc2 (p:=.pointer (some ⟨bL,0,none⟩)) (q:=.pointer (some ⟨bE,0,none⟩)) (u:=.slice none 0 0) (v:=iv 7) h2 ?_ h3 ?_ ⟨kk,?_⟩⟩
 ·show h'.length<=h6.length;rw[t3,p3];exact l4
 ·simp only[uval];rw[o26.cells.ld];rfl
 ·simp only[uval];rw[o36.cells.ld];rfl
 ·rw[hn];rfl
end
end Go.S18

namespace Go.S18
open Go Go.Eng Go.Proofs Go.Chk
section
variable {h:AH} {b:Nat} {C:Cx} {vi vc vt vp vk:Value} {p:Nat}
structure Mid (h:AH) (C:Cx) (vi vc vt vp vk:Value) (bI bL bE bR:Nat) (a:Nat × Nat × Value × List Nat) (h':AH):Prop where
 i1:a.1<=C.infos.length
 s:Rdr h' bR C vi vc vt vp vk a.2.1
 oI:Own h' bI 27 [vi,vc,vt,vp,iv C.main,vk]
 oL:Own h' bL 24 [a.2.2.1]
 oE:Own h' bE 30 [iv 0]
 ow:Ows h' 3 1 a.2.2.1 a.1 (ns (a.2.2.2.map Int.ofNat))
 fr:∀ q,bk a.2.2.1 q->bR<q
 ln:a.2.2.2.length=a.1
 kp:Keep (fun _=>False) h h'
 pl:a.2.1<=C.code.length
 bl:a.1<=a.2.1
 eq:∀ x,blocks C (C.code.length+1) (C.infos.drop a.1) a.2.1=x->blocks C (C.code.length+1) C.infos 0=(match x with
  | some (e,r)=>some (a.2.2.2++e,r)
  | none=>none)
set_option maxHeartbeats 2000000 in
theorem Ends_ok (im:Img h C vi vc vt vp vk) (fit:Cx.fits C):Gets Try.prog 68 [.agg #[vi,vc,vt,vp,iv C.main,vk]] h (EndO h C):=by
 refine Gets.ofd (keep:=false) (keepg:=false) hP (draw_ok hM) (draw_ok hM) k68 k79 (by rfl) (fun Ψ hΨ=>?_);obtain ⟨fi,fc,fp,fk⟩:=fit;obtain ⟨ia,ic,hvi⟩:=row_shape im.ri;obtain ⟨ca,cc,hvc⟩:=row_shape im.rc;obtain ⟨pa,pc,hvp⟩:=row_shape im.rp;have oI0:=Own.new h 27 h.length [vi,vc,vt,vp,iv C.main,vk];have kp1:Keep (fun _=>False) h (h++[row 27 h.length [vi,vc,vt,vp,iv C.main,vk]]):=Keep.push _ _ _;simp only[ZG,↓reduceIte,ZA,ZB,ZC,r68,YE,YC,YO,YA,YL,YX,YS,Ya,Yb,Yl,Yf,Yg,Yi,Ym,Yk,Yt,Yn,Yz,Yp,Yq,Yd,mbl,ZD,ZE,ZF];generalize hh1:h++[row 27 h.length [vi,vc,vt,vp,iv C.main,vk]]=h1 at oI0 kp1 ⊢;have hl1:h1.length=h.length+1:=by rw[<- hh1];simp
 have oL0:=Own.new h1 24 h1.length [.slice none 0 0];have kp2:Keep (fun _=>False) h1 (h1++[row 24 h1.length [.slice none 0 0]]):=Keep.push _ _ _;generalize hh2:h1++[row 24 h1.length [.slice none 0 0]]=h2 at oL0 kp2 ⊢;have hl2:h2.length=h1.length+1:=by rw[<- hh2];simp
 have oE:=Own.new h2 30 h2.length [iv 0];have kp3:Keep (fun _=>False) h2 (h2++[row 30 h2.length [iv 0]]):=Keep.push _ _ _;generalize hh3:h2++[row 30 h2.length [iv 0]]=h3 at oE kp3 ⊢;have hl3:h3.length=h2.length+1:=by rw[<- hh3];simp
 have oI:=(oI0.keep kp2 (fun e=>e)).keep kp3 (fun e=>e);have oL:=oL0.keep kp3 (fun e=>e);have kp:Keep (fun _=>False) h h3:=(kp1.trans kp2).trans kp3;have im3:=im.keep kp (fun _ _ e=>e);have hLE:h1.length≠h2.length:=by omega
 have fail0:=fun e l v e2 e3 hn=>ends_fail hΨ (e:=e) (l:=l) v e2 e3 oL oE hLE (by omega) (by omega) kp hn
 by_cases c1:0<=C.main
 case neg =>
  simp only[ZG,↓reduceIte,ZA,ZB,ZC,oI.cells.ld,mbl,ZD,ZE,ZF,hvp,hvi,hvc,c1];refine XX_of (must_false h3) (fun res hm hle hn=>?_);obtain ⟨rfl,v,rfl⟩:=hn;refine .pan ?_;simp only[ZG,↓reduceIte,ZA,ZB,ZC];exact fail0 _ _ v rfl rfl (by unfold ends;rw[if_neg];rintro ⟨⟨e,_⟩,_⟩;exact c1 e)
 by_cases c2:C.main<(C.tops.length:Int)
 case neg =>
  simp only[ZG,↓reduceIte,ZA,ZB,ZC,oI.cells.ld,mbl,ZD,ZE,ZF,hvp,hvi,hvc,c1,c2];refine XX_of (must_false h3) (fun res hm hle hn=>?_);obtain ⟨rfl,v,rfl⟩:=hn;refine .pan ?_;simp only[ZG,↓reduceIte,ZA,ZB,ZC];exact fail0 _ _ v rfl rfl (by unfold ends;rw[if_neg];rintro ⟨⟨_,e,_⟩,_⟩;exact c2 e)
 by_cases c3:(C.tops.length:Int)<=(C.infos.length:Int)
 case neg =>
  simp only[ZG,↓reduceIte,ZA,ZB,ZC,oI.cells.ld,mbl,ZD,ZE,ZF,hvp,hvi,hvc,c1,c2,c3];refine XX_of (must_false h3) (fun res hm hle hn=>?_);obtain ⟨rfl,v,rfl⟩:=hn;refine .pan ?_;simp only[ZG,↓reduceIte,ZA,ZB,ZC];exact fail0 _ _ v rfl rfl (by unfold ends;rw[if_neg];rintro ⟨⟨_,_,e,_⟩,_⟩;exact c3 (by omega))
 by_cases c4:(C.code.length:Int)<=200000
 case neg =>
  simp only[ZG,↓reduceIte,ZA,ZB,ZC,oI.cells.ld,mbl,ZD,ZE,ZF,hvp,hvi,hvc,c1,c2,c3,c4];refine XX_of (must_false h3) (fun res hm hle hn=>?_);obtain ⟨rfl,v,rfl⟩:=hn;refine .pan ?_;simp only[ZG,↓reduceIte,ZA,ZB,ZC];exact fail0 _ _ v rfl rfl (by unfold ends;rw[if_neg];rintro ⟨⟨_,_,_,e⟩,_⟩;exact c4 (by omega))
 have hd:headOk C:=⟨c1,c2,by omega,by omega⟩
 simp only[ZG,↓reduceIte,ZA,ZB,ZC,oI.cells.ld,mbl,ZD,ZE,ZF,hvp,hvi,hvc,c1,c2,c3,c4];refine XX_val (must_true h3) ?_;simp only[ZG,↓reduceIte,ZA,ZB,ZC,oI.cells.ld,mbl,ZD,ZE,ZF];refine XX_val (contains_ok im3 fk) ?_
 by_cases hc:consOk C
 case neg =>
  simp only[ZG,↓reduceIte,ZA,ZB,ZC,hc,not_false_eq_true];refine XX_of (must_false h3) (fun res hm hle hn=>?_);obtain ⟨rfl,v,rfl⟩:=hn;refine .pan ?_;simp only[ZG,↓reduceIte,ZA,ZB,ZC];exact fail0 _ _ v rfl rfl (by unfold ends;rw[if_neg];rintro ⟨_,e,_⟩;exact hc e)
 simp only[ZG,↓reduceIte,ZA,ZB,ZC,hc,not_true];refine XX_val (must_true h3) ?_;simp only[ZG,↓reduceIte,ZA,ZB,ZC,oI.cells.ld,mbl,ZD,ZE,ZF,hvp];refine XLo_rule (α:=Nat) (fun i=>[(1,.pointer (some ⟨h.length,0,none⟩)),(2,.pointer (some ⟨h1.length,0,none⟩)),(3,.pointer (some ⟨h2.length,0,none⟩)),(43,.slice pa C.tops.length pc),(44,iv C.tops.length),(45,iv i)])
  (fun i h'=>i<=C.tops.length/\h'=h3 /\ ∀ j,j<i->topOk C j) (fun i=>C.tops.length-i) 0 ⟨Z7 _,rfl,fun j hj=>by omega⟩ ⟨rfl,rfl,rfl,rfl,rfl,rfl,trivial⟩ ?_
 rintro i h' Ψ2 ⟨i1,rfl,hall⟩ next out
 by_cases hi:(i:Int)<(C.tops.length:Int)
 ·have h0:0<=(i:Int):=by omega
  have hw:IntKind.i64.wrap ((i:Int)+1)=i+1:=i64w (by omega) (by omega);have hx:C.tops[(i:Int).toNat]?=some C.tops[i]:=by rw[Z2];exact Z0 (by omega)
  obtain ⟨b1,o1,cc1,e1,_,hld⟩:=rds_ix im3.rp h0 hx;rw[Z2] at hld;have e1':=hvp.symm.trans e1;simp only[Value.slice.injEq] at e1';obtain ⟨rfl,_,rfl⟩:=e1';have hxi:C.infos[i]?=some C.infos[i]:=Z0 (by omega);obtain ⟨b2,o2,cc2,e2,hlt2,hf⟩:=rds_fld (by omega) Inf.len im3.ri hxi;have hf2:=hf 2 (by omega);simp only[Inf.cells,Z8,Z9,Option.map_some] at hf2;have hii:(i:Int)<(C.infos.length:Int):=by omega
  by_cases x1:C.tops[i]=(i:Int)
  case neg =>
   simp only[ZG,↓reduceIte,ZA,ZB,ZC,hi,h0,and_self,Z2,Z4,hld,x1];refine XX_of (must_false h') (fun res hm hle hn=>?_);obtain ⟨rfl,v,rfl⟩:=hn;refine .pan ?_;simp only[ZG,↓reduceIte,ZA,ZB,ZC];refine out (.pan _) _ _ _ _ (by intro e;cases e) ?_;simp only[ZG,↓reduceIte,ZA,ZB,ZC];exact fail0 _ _ v rfl rfl (by unfold ends;rw[if_neg];rintro ⟨_,_,e⟩;have:=(e i (by omega)).1;rw[Z0 (by omega)] at this;exact x1 (Option.some.inj this))
  rw[x1] at hld
  by_cases x2:C.infos[i].f=0
  case neg =>
   simp only[ZG,↓reduceIte,ZA,ZB,ZC,hi,h0,and_self,Z2,Z4,hld,oI.cells.ld,mbl,ZD,ZE,ZF,e2,hii,hf2,x2];refine XX_of (must_false h') (fun res hm hle hn=>?_);obtain ⟨rfl,v,rfl⟩:=hn;refine .pan ?_;simp only[ZG,↓reduceIte,ZA,ZB,ZC];refine out (.pan _) _ _ _ _ (by intro e;cases e) ?_;simp only[ZG,↓reduceIte,ZA,ZB,ZC];exact fail0 _ _ v rfl rfl (by unfold ends;rw[if_neg];rintro ⟨_,_,e⟩;have:=(e i (by omega)).2;rw[hxi] at this;exact x2 (by simpa using this))
  simp only[ZG,↓reduceIte,ZA,ZB,ZC,hi,h0,and_self,Z2,Z4,hld,oI.cells.ld,mbl,ZD,ZE,ZF,e2,hii,hf2,x2];refine XX_val (must_true h') ?_;simp only[ZG,↓reduceIte,ZA,ZB,ZC,hw];refine next (i+1) _ _ _ ⟨by omega,rfl,fun j hj=>?_⟩ ⟨rfl,rfl,rfl,rfl,rfl,?_,trivial⟩ (by omega)
  ·by_cases hji:j<i
   ·exact hall j hji
   ·have:j=i:=by omega
    subst this;exact ⟨by rw[Z0 (by omega),x1],by rw[hxi];simp [x2]⟩
  ·simp only[Z6,Z5];rfl
 simp only[ZG,↓reduceIte,ZA,ZB,ZC,hi];refine out (.exit 0) _ _ _ _ (by intro e;cases e) ?_;have htops:topsOk C:=fun j hj=>hall j (by omega)
 have hcond:headOk C/\consOk C/\topsOk C:=⟨hd,hc,htops⟩
 have eqE:ends C=(match blocks C (C.code.length+1) C.infos 0 with
  | some (e,r)=>if r=C.code.length then some e else none
  | none=>none):=by unfold ends;rw[if_pos hcond];rfl
 have s0:=Own.new h' 113 h'.length [vi,vc,vt,vp,iv C.main,vk,iv 0];have kp4:Keep (fun _=>False) h' (h'++[row 113 h'.length [vi,vc,vt,vp,iv C.main,vk,iv 0]]):=Keep.push _ _ _;simp only[ZG,↓reduceIte,ZA,ZB,ZC,oI.cells.lds 0 6 (by simp),mbl,ZD,ZE,ZF,hvi];rw[<- hvi];generalize hh4:h'++[row 113 h'.length [vi,vc,vt,vp,iv C.main,vk,iv 0]]=h4 at s0 kp4 ⊢;have hl4:h4.length=h'.length+1:=by rw[<- hh4];simp
 have kp04:=kp.trans kp4;have r0:Rdr h4 h'.length C vi vc vt vp vk 0:=⟨s0,im3.keep kp4 (fun _ _ e=>e),fun q e=>by have:=im3.lt q e;omega,by omega⟩
 simp only[ZG,↓reduceIte,ZA,ZB,ZC,(oI.keep kp4 (fun e=>e)).cells.ld,mbl,ZD,ZE,ZF,hvi];rw[<- hvi];refine XLo_rule (α:=Nat × Nat × Value × List Nat) (fun a=>[(1,.pointer (some ⟨h.length,0,none⟩)),(2,.pointer (some ⟨h1.length,0,none⟩)),(3,.pointer (some ⟨h2.length,0,none⟩)),(6,.pointer (some ⟨h'.length,0,none⟩)),(68,vi),(69,iv C.infos.length),(70,iv a.1)])
  (Mid h C vi vc vt vp vk h.length h1.length h2.length h'.length) (fun a=>C.infos.length-a.1) (0,0,.slice none 0 0,[])
  ⟨Z7 _,r0,oI.keep kp4 (fun e=>e),oL.keep kp4 (fun e=>e),oE.keep kp4 (fun e=>e),.nil,fun q e=>e.elim,rfl,kp04,Z7 _,Nat.le_refl _,fun x hx=>by
   rw[show blocks C (C.code.length+1) C.infos 0=x from hx];cases x with
   | none=>rfl
   | some y=>rfl⟩ ⟨rfl,rfl,rfl,rfl,by rw[hvi];rfl,rfl,rfl,trivial⟩ ?_
 rintro ⟨i,p,lv,l⟩ h5 Ψ3 ⟨j1,s5,oI5,oL5,oE5,ow5,fr5,ln5,kp5,pl5,bl5,eq5⟩ next2 out2;simp only at j1 s5 oL5 ow5 fr5 ln5 pl5 bl5 eq5;have lb:h'.length<h5.length:=s5.own.lt
 by_cases hi2:(i:Int)<(C.infos.length:Int)
 ·have h0:0<=(i:Int):=by omega
  have hw:IntKind.i64.wrap ((i:Int)+1)=i+1:=i64w (by omega) (by omega);have hil:i<C.infos.length:=by omega
  obtain ⟨⟨k,a,f,c⟩,hxi⟩:∃ x,C.infos[i]?=some x:=⟨_,Z0 hil⟩
  have hdr:C.infos.drop i=⟨k,a,f,c⟩::C.infos.drop (i+1):=by
   rw[List.drop_eq_getElem_cons hil];have:=Z0 hil;rw[hxi] at this;rw[<- Option.some.inj this]
  obtain ⟨b8,o8,c8,e8,hlt8,hld8⟩:=rds_str (by omega) Inf.len s5.im.ri hxi;simp only[Inf.cells,ns,List.map_cons,List.map_nil] at hld8;simp only[ZG,↓reduceIte,ZA,ZB,ZC,hi2,e8,h0,and_self,hld8,Z2,mbl,ZD,ZE,ZF];have on:=Own.new h5 34 h5.length [iv 0,iv 0,iv 0,iv 0];refine XH_own on rfl (by simp [Value.cells]) rfl (fun h8 q1 q2 q3=>?_);have on8:Own h8 h5.length 34 [iv k,iv a,iv f,iv c]:=by simpa [Value.cells] using q1
  have kp8:Keep (fun q=>q=h5.length) h5 h8:=((Keep.push (fun _=>False) h5 _).mono (fun _ e=>e.elim)).trans q2;have ll8:h8.length=h5.length+1:=by rw[q3];simp
  have s8:=s5.keep kp8 (by rintro q0 (rfl|e) e2;omega;have:=s5.im.lt _ e;omega);have oI8:=oI5.keep kp8 (fun e=>by have:=oI5.lt;omega);have oL8:=oL5.keep kp8 (fun e=>by have:=oL5.lt;omega);have oE8:=oE5.keep kp8 (fun e=>by have:=oE5.lt;omega);have ow8:=ow5.keep kp8 (fun q0 e e2=>by have:=ow5.lt q0 e;omega);have kph8:Keep (fun _=>False) h h8:=kp5.trans' kp8 (fun c hc e=>by have:=kp5.len;omega);have fail8:=fun e l v e2 e3 hn=>ends_fail hΨ (e:=e) (l:=l) v e2 e3 oL8 oE8 hLE (by omega) (by omega) kph8 hn
  have noI:¬ infoOk ⟨k,a,f,c⟩ p->ends C=none:=fun hno=>by
   have:=eq5 none (by rw[hdr,blocks,if_neg hno]);rw[eqE,this]
  by_cases k2:k=2
  ·by_cases a0:a=0
   ·simp only[ZG,↓reduceIte,ZA,ZB,ZC,on8.cells.ld,mbl,ZD,ZE,ZF,k2,a0]
    refine XX_val (must_true h8) ?_
    by_cases f0:0<=f
    case neg =>
     simp only[ZG,↓reduceIte,ZA,ZB,ZC,on8.cells.ld,mbl,ZD,ZE,ZF,f0];refine XX_of (must_false h8) (fun res hm hle hn=>?_);obtain ⟨rfl,v,rfl⟩:=hn;refine .pan ?_;simp only[ZG,↓reduceIte,ZA,ZB,ZC];refine out2 (.pan _) _ _ _ _ (by intro e;cases e) ?_;simp only[ZG,↓reduceIte,ZA,ZB,ZC];exact fail8 _ _ v rfl rfl (noI (by rintro ⟨_,e,_⟩;exact f0 e))
    by_cases cp:c=(p:Int)
    case neg =>
     simp only[ZG,↓reduceIte,ZA,ZB,ZC,on8.cells.ld,s8.own.cells.ld,mbl,ZD,ZE,ZF,f0,cp];refine XX_of (must_false h8) (fun res hm hle hn=>?_);obtain ⟨rfl,v,rfl⟩:=hn;refine .pan ?_;simp only[ZG,↓reduceIte,ZA,ZB,ZC];refine out2 (.pan _) _ _ _ _ (by intro e;cases e) ?_;simp only[ZG,↓reduceIte,ZA,ZB,ZC];exact fail8 _ _ v rfl rfl (noI (by rintro ⟨_,_,e⟩;exact cp e))
    have hio:infoOk ⟨k,a,f,c⟩ p:=⟨.inl ⟨k2,a0⟩,f0,cp⟩
    simp only[ZG,↓reduceIte,ZA,ZB,ZC,on8.cells.ld,s8.own.cells.ld,mbl,ZD,ZE,ZF,f0,cp];refine XX_val (must_true h8) ?_;simp only[ZG,↓reduceIte,ZA,ZB,ZC,on8.cells.ld,mbl,ZD,ZE,ZF];refine XX_of (expr_ok f (C.code.length+1) h8 p a (by omega) pl5 s8) (fun res h9 hle9 hn=>?_);obtain ⟨kp9,hn⟩:=hn;have kph9:Keep (fun _=>False) h h9:=kph8.trans' kp9 (fun c hc e=>by omega);have oL9:=oL8.keep kp9 (fun e=>by omega);have oE9:=oE8.keep kp9 (fun e=>by omega);have oI9:=oI8.keep kp9 (fun e=>by omega);have ow9:=ow8.keep kp9 (fun q0 e e2=>by have:=fr5 q0 e;omega);cases hx9:expr C (C.code.length+1) a f p with
    | none =>
      rw[hx9] at hn;obtain ⟨v9,rfl⟩:=hn;refine .pan ?_;simp only[ZG,↓reduceIte,ZA,ZB,ZC];refine out2 (.pan _) _ _ _ _ (by intro e;cases e) ?_;simp only[ZG,↓reduceIte,ZA,ZB,ZC];refine ends_fail hΨ v9 rfl rfl oL9 oE9 hLE (by omega) (by omega) kph9 ?_;have:=eq5 none (by rw[hdr,blocks,if_pos hio];simp only[hx9]);rw[eqE,this]
    | some q9 =>
      rw[hx9] at hn;obtain ⟨rfl,s9⟩:=hn;refine .ret ?_;have hon:=expr_on _ _ _ _ hx9;obtain ⟨v6,h6,k1,k2,k3,k4⟩:=app1 (bytes:=8) ow9 (xs:=[iv q9]) rfl rfl (by have:=s9.hl;omega) (by omega);simp only[ZG,↓reduceIte,ZA,ZB,ZC,oL9.cells.ld,s9.own.cells.ld,mbl,ZD,ZE,ZF,ct1,(oL9.keep (Keep.push (fun _=>False) h9 (row 3 h9.length [iv q9])) (fun e=>e)).cells.ld,k1];obtain ⟨va6,vc6,hv6⟩:=row_shape k2.rds;have l9:=kp9.len;have hb9:∀ q0,bk lv q0->h'.length<q0:=fr5;have oL6:=oL9.keep k3 (fun e=>by have:=hb9 _ e;have:=oL9.lt;omega);have kph6:Keep (fun _=>False) h h6:=kph9.trans' k3 (fun c hc e=>by have:=hb9 _ e;have:=kp5.len;omega);refine XH_own oL6 (by rw[hv6];rfl) (by rw[hv6];simp [Value.cells]) (by rw[hv6];rfl) (fun h7 t1 t2 t3=>?_);have oL7:Own h7 h1.length 24 [v6]:=by rw[hv6];simpa [Value.cells,hv6] using t1
      simp only[ZG,↓reduceIte,ZA,ZB,ZC,hw];have fr6:∀ q0,bk v6 q0->h'.length<q0:=fun q0 e=>by
       rcases k4 q0 e with e|e
       ·exact hb9 q0 e
       ·omega
      refine next2 (i+1,q9,v6,l++[q9]) _ _ _ ⟨by simp only;omega,?_,?_,oL7,?_,?_,fr6,by simp [ln5],kph6.trans' t2 (fun c hc e=>by omega),hon.2,by simp only;omega,?_⟩ ⟨rfl,rfl,rfl,rfl,by rw[e8];rfl,rfl,?_,trivial⟩ (by simp only;omega)
      ·refine (s9.keep k3 ?_).keep t2 ?_
       ·rintro q0 (rfl|e) e2
        ·have:=hb9 _ e2;omega
        ·have:=hb9 _ e2;have:=im3.lt _ e;omega
       ·rintro q0 (rfl|e) e2
        ·omega
        ·have:=im.lt _ e;omega
      ·exact (oI9.keep k3 (fun e=>by have:=hb9 _ e;omega)).keep t2 (fun e=>by omega)
      ·exact (oE9.keep k3 (fun e=>by have:=hb9 _ e;omega)).keep t2 (fun e=>by omega)
      ·have:=k2.keep t2 (fun q0 e e2=>by have:=fr6 _ e;omega)
       simpa [ns] using this
      ·intro x hx
       simp only at hx;cases x with
       | none =>
         have:=eq5 none (by rw[hdr,blocks,if_pos hio];simp only[hx9,hx]);rw[this]
       | some y =>
         obtain ⟨ye,yr⟩:=y;have:=eq5 (some (q9::ye,yr)) (by rw[hdr,blocks,if_pos hio];simp only[hx9,hx]);rw[this];simp
      ·simp only[Z6,Z5];rfl
   ·simp only[ZG,↓reduceIte,ZA,ZB,ZC,on8.cells.ld,mbl,ZD,ZE,ZF,k2,a0]
    refine XX_of (must_false h8) (fun res hm hle hn=>?_);obtain ⟨rfl,v,rfl⟩:=hn;refine .pan ?_;simp only[ZG,↓reduceIte,ZA,ZB,ZC];refine out2 (.pan _) _ _ _ _ (by intro e;cases e) ?_;simp only[ZG,↓reduceIte,ZA,ZB,ZC];exact fail8 _ _ v rfl rfl (noI (by rintro ⟨e|e,_⟩<;>simp only at e<;>omega))
  by_cases k1:k=1
  ·by_cases a1:0<a
   ·by_cases a8:a<=8
    ·simp only[ZG,↓reduceIte,ZA,ZB,ZC,on8.cells.ld,mbl,ZD,ZE,ZF,k2,k1,a1,a8]
     refine XX_val (must_true h8) ?_
     by_cases f0:0<=f
     case neg =>
      simp only[ZG,↓reduceIte,ZA,ZB,ZC,on8.cells.ld,mbl,ZD,ZE,ZF,f0];refine XX_of (must_false h8) (fun res hm hle hn=>?_);obtain ⟨rfl,v,rfl⟩:=hn;refine .pan ?_;simp only[ZG,↓reduceIte,ZA,ZB,ZC];refine out2 (.pan _) _ _ _ _ (by intro e;cases e) ?_;simp only[ZG,↓reduceIte,ZA,ZB,ZC];exact fail8 _ _ v rfl rfl (noI (by rintro ⟨_,e,_⟩;exact f0 e))
     by_cases cp:c=(p:Int)
     case neg =>
      simp only[ZG,↓reduceIte,ZA,ZB,ZC,on8.cells.ld,s8.own.cells.ld,mbl,ZD,ZE,ZF,f0,cp];refine XX_of (must_false h8) (fun res hm hle hn=>?_);obtain ⟨rfl,v,rfl⟩:=hn;refine .pan ?_;simp only[ZG,↓reduceIte,ZA,ZB,ZC];refine out2 (.pan _) _ _ _ _ (by intro e;cases e) ?_;simp only[ZG,↓reduceIte,ZA,ZB,ZC];exact fail8 _ _ v rfl rfl (noI (by rintro ⟨_,_,e⟩;exact cp e))
     have hio:infoOk ⟨k,a,f,c⟩ p:=⟨.inr ⟨k1,a1,a8⟩,f0,cp⟩
     simp only[ZG,↓reduceIte,ZA,ZB,ZC,on8.cells.ld,s8.own.cells.ld,mbl,ZD,ZE,ZF,f0,cp];refine XX_val (must_true h8) ?_;simp only[ZG,↓reduceIte,ZA,ZB,ZC,on8.cells.ld,mbl,ZD,ZE,ZF];refine XX_of (expr_ok f (C.code.length+1) h8 p a (by omega) pl5 s8) (fun res h9 hle9 hn=>?_);obtain ⟨kp9,hn⟩:=hn;have kph9:Keep (fun _=>False) h h9:=kph8.trans' kp9 (fun c hc e=>by omega);have oL9:=oL8.keep kp9 (fun e=>by omega);have oE9:=oE8.keep kp9 (fun e=>by omega);have oI9:=oI8.keep kp9 (fun e=>by omega);have ow9:=ow8.keep kp9 (fun q0 e e2=>by have:=fr5 q0 e;omega);cases hx9:expr C (C.code.length+1) a f p with
     | none =>
       rw[hx9] at hn;obtain ⟨v9,rfl⟩:=hn;refine .pan ?_;simp only[ZG,↓reduceIte,ZA,ZB,ZC];refine out2 (.pan _) _ _ _ _ (by intro e;cases e) ?_;simp only[ZG,↓reduceIte,ZA,ZB,ZC];refine ends_fail hΨ v9 rfl rfl oL9 oE9 hLE (by omega) (by omega) kph9 ?_;have:=eq5 none (by rw[hdr,blocks,if_pos hio];simp only[hx9]);rw[eqE,this]
     | some q9 =>
       rw[hx9] at hn;obtain ⟨rfl,s9⟩:=hn;refine .ret ?_;have hon:=expr_on _ _ _ _ hx9;obtain ⟨v6,h6,k1,k2,k3,k4⟩:=app1 (bytes:=8) ow9 (xs:=[iv q9]) rfl rfl (by have:=s9.hl;omega) (by omega);simp only[ZG,↓reduceIte,ZA,ZB,ZC,oL9.cells.ld,s9.own.cells.ld,mbl,ZD,ZE,ZF,ct1,(oL9.keep (Keep.push (fun _=>False) h9 (row 3 h9.length [iv q9])) (fun e=>e)).cells.ld,k1];obtain ⟨va6,vc6,hv6⟩:=row_shape k2.rds;have l9:=kp9.len;have hb9:∀ q0,bk lv q0->h'.length<q0:=fr5;have oL6:=oL9.keep k3 (fun e=>by have:=hb9 _ e;have:=oL9.lt;omega);have kph6:Keep (fun _=>False) h h6:=kph9.trans' k3 (fun c hc e=>by have:=hb9 _ e;have:=kp5.len;omega);refine XH_own oL6 (by rw[hv6];rfl) (by rw[hv6];simp [Value.cells]) (by rw[hv6];rfl) (fun h7 t1 t2 t3=>?_);have oL7:Own h7 h1.length 24 [v6]:=by rw[hv6];simpa [Value.cells,hv6] using t1
       simp only[ZG,↓reduceIte,ZA,ZB,ZC,hw];have fr6:∀ q0,bk v6 q0->h'.length<q0:=fun q0 e=>by
        rcases k4 q0 e with e|e
        ·exact hb9 q0 e
        ·omega
       refine next2 (i+1,q9,v6,l++[q9]) _ _ _ ⟨by simp only;omega,?_,?_,oL7,?_,?_,fr6,by simp [ln5],kph6.trans' t2 (fun c hc e=>by omega),hon.2,by simp only;omega,?_⟩ ⟨rfl,rfl,rfl,rfl,by rw[e8];rfl,rfl,?_,trivial⟩ (by simp only;omega)
       ·refine (s9.keep k3 ?_).keep t2 ?_
        ·rintro q0 (rfl|e) e2
         ·have:=hb9 _ e2;omega
         ·have:=hb9 _ e2;have:=im3.lt _ e;omega
        ·rintro q0 (rfl|e) e2
         ·omega
         ·have:=im.lt _ e;omega
       ·exact (oI9.keep k3 (fun e=>by have:=hb9 _ e;omega)).keep t2 (fun e=>by omega)
       ·exact (oE9.keep k3 (fun e=>by have:=hb9 _ e;omega)).keep t2 (fun e=>by omega)
       ·have:=k2.keep t2 (fun q0 e e2=>by have:=fr6 _ e;omega)
        simpa [ns] using this
       ·intro x hx
        simp only at hx;cases x with
        | none =>
          have:=eq5 none (by rw[hdr,blocks,if_pos hio];simp only[hx9,hx]);rw[this]
        | some y =>
          obtain ⟨ye,yr⟩:=y;have:=eq5 (some (q9::ye,yr)) (by rw[hdr,blocks,if_pos hio];simp only[hx9,hx]);rw[this];simp
       ·simp only[Z6,Z5];rfl
    ·simp only[ZG,↓reduceIte,ZA,ZB,ZC,on8.cells.ld,mbl,ZD,ZE,ZF,k2,k1,a1,a8]
     refine XX_of (must_false h8) (fun res hm hle hn=>?_);obtain ⟨rfl,v,rfl⟩:=hn;refine .pan ?_;simp only[ZG,↓reduceIte,ZA,ZB,ZC];refine out2 (.pan _) _ _ _ _ (by intro e;cases e) ?_;simp only[ZG,↓reduceIte,ZA,ZB,ZC];exact fail8 _ _ v rfl rfl (noI (by rintro ⟨e|e,_⟩<;>simp only at e<;>omega))
   ·simp only[ZG,↓reduceIte,ZA,ZB,ZC,on8.cells.ld,mbl,ZD,ZE,ZF,k2,k1,a1]
    refine XX_of (must_false h8) (fun res hm hle hn=>?_);obtain ⟨rfl,v,rfl⟩:=hn;refine .pan ?_;simp only[ZG,↓reduceIte,ZA,ZB,ZC];refine out2 (.pan _) _ _ _ _ (by intro e;cases e) ?_;simp only[ZG,↓reduceIte,ZA,ZB,ZC];exact fail8 _ _ v rfl rfl (noI (by rintro ⟨e|e,_⟩<;>simp only at e<;>omega))
  ·simp only[ZG,↓reduceIte,ZA,ZB,ZC,on8.cells.ld,mbl,ZD,ZE,ZF,k2,k1]
   refine XX_of (must_false h8) (fun res hm hle hn=>?_);obtain ⟨rfl,v,rfl⟩:=hn;refine .pan ?_;simp only[ZG,↓reduceIte,ZA,ZB,ZC];refine out2 (.pan _) _ _ _ _ (by intro e;cases e) ?_;simp only[ZG,↓reduceIte,ZA,ZB,ZC];exact fail8 _ _ v rfl rfl (noI (by rintro ⟨e|e,_⟩<;>simp only at e<;>omega))
 ·have hin:i=C.infos.length:=by omega
  subst hin;have eqB:=eq5 (some ([],p)) (by rw[List.drop_length];rfl);simp only[List.append_nil] at eqB;simp only[ZG,↓reduceIte,ZA,ZB,ZC,hi2];refine out2 (.exit 2) _ _ _ _ (by intro e;cases e) ?_;have fail5:=fun e l v e2 e3 hn=>ends_fail hΨ (e:=e) (l:=l) v e2 e3 oL5 oE5 hLE (by omega) (by omega) kp5 hn
  by_cases hpn:(p:Int)=(C.code.length:Int)
  ·simp only[ZG,↓reduceIte,ZA,ZB,ZC,s5.own.cells.ld,oI5.cells.ld,mbl,ZD,ZE,ZF,hvc,hpn]
   refine XX_val (must_true h5) ?_;obtain ⟨va5,vc5,hv5⟩:=row_shape ow5.rds;simp only[ZG,↓reduceIte,ZA,ZB,ZC,oL5.cells.ld,mbl,ZD,ZE,ZF];refine XH_own oL5 (by rw[hv5];rfl) (by rw[hv5];simp [Value.cells]) (by rw[hv5];rfl) (fun h6 t1 t2 t3=>?_);have oL6:Own h6 h1.length 24 [lv]:=by rw[hv5];simpa [Value.cells,hv5] using t1
   have oE6:=oE5.keep t2 (fun e=>by omega);have ow6:=ow5.keep t2 (fun q0 e e2=>by have:=fr5 q0 e;omega);simp only[ZG,↓reduceIte,ZA,ZB,ZC];refine XH_own oE6 rfl (by simp [Value.cells]) rfl (fun h7 u1 u2 u3=>?_);have oE7:Own h7 h2.length 30 [iv 0]:=by simpa [Value.cells] using u1
   have oL7:=oL6.keep u2 (fun e=>by omega);have ow7:=ow6.keep u2 (fun q0 e e2=>by have:=fr5 q0 e;omega);have kph7:Keep (fun _=>False) h h7:=(kp5.trans' t2 (fun c hc e=>by omega)).trans' u2 (fun c hc e=>by omega);simp only[ZG,↓reduceIte,ZA,ZB,ZC];refine hΨ _ _ (dfr_of (by rfl) (fun Ψ4 hΨ4=>?_));simp only[ZG,↓reduceIte,ZA,ZB,ZC,r79,YE,YC,YO,YA,YL,YX,YS,Ya,Yb,Yl,Yf,Yg,Yi,Ym,Yk,Yt,Yn,Yz,Yp,Yq,Yd,Option.getD_none,mbl,ZD,ZE,ZF];refine hΨ4 _ _ ⟨.inl rfl,rfl,Nat.le_refl _,⟨[],rfl⟩,rvc2 (p:=.pointer (some ⟨h1.length,0,none⟩)) (q:=.pointer (some ⟨h2.length,0,none⟩)) (u:=lv) (v:=iv 0) rfl ?_ rfl ?_ ⟨kph7,?_⟩⟩
   ·simp only[uval];rw[oL7.cells.ld];rfl
   ·simp only[uval];rw[oE7.cells.ld];rfl
   ·have:ends C=some l:=by rw[eqE,eqB];simp only;rw[if_pos (by omega)]
    rw[this];refine ⟨lv,rfl,by rw[ln5];exact ow7,fun q0 e=>by have:=fr5 q0 e;omega⟩
  ·simp only[ZG,↓reduceIte,ZA,ZB,ZC,s5.own.cells.ld,oI5.cells.ld,mbl,ZD,ZE,ZF,hvc,hpn]
   refine XX_of (must_false h5) (fun res hm hle hn=>?_);obtain ⟨rfl,v,rfl⟩:=hn;refine .pan ?_;simp only[ZG,↓reduceIte,ZA,ZB,ZC,wrN_t,wrN_n,wrN_z,wrN_nil,keepN_no];exact fail5 _ _ v rfl rfl (by rw[eqE,eqB];simp only;rw[if_neg (by omega)])
theorem Check_ok (im:Img h C vi vc vt vp vk) (fit:Cx.fits C):Gets Try.prog 30 [.agg #[vi,vc,vt,vp,iv C.main,vk]] h (fun res h'=>Keep (fun _=>False) h h'/\res = .ret (iv (if (ends C).isSome then 0 else 7))):=by
 refine Gets.of (keep:=false) hP (draw_ok hM) k30 (by rfl) (fun Ψ hΨ=>?_);obtain ⟨ia,ic,hvi⟩:=row_shape im.ri;have oI:=Own.new h 27 h.length [vi,vc,vt,vp,iv C.main,vk];have kp1:Keep (fun _=>False) h (h++[row 27 h.length [vi,vc,vt,vp,iv C.main,vk]]):=Keep.push _ _ _;simp only[ZG,↓reduceIte,ZA,ZB,ZC,r30,YE,YC,YO,YA,YL,YX,YS,Ya,Yb,Yl,Yf,Yg,Yi,Ym,Yk,Yt,Yn,Yz,Yp,Yq,Yd,mbl,ZD,ZE,ZF];generalize hh1:h++[row 27 h.length [vi,vc,vt,vp,iv C.main,vk]]=h1 at oI kp1 ⊢;simp only[ZG,↓reduceIte,ZA,ZB,ZC,oI.cells.lds 0 6 (by simp),mbl,ZD,ZE,ZF];refine XX_of (Ends_ok (im.keep kp1 (fun _ _ e=>e)) fit) (fun res h2 hle hn=>?_);obtain ⟨kp2,hn⟩:=hn;cases he:ends C with
 | none =>
   rw[he] at hn;subst hn;refine .ret ?_;simp only[ZG,↓reduceIte,ZA,ZB,ZC,mbl,ZD,ZE,ZF];exact hΨ _ _ (fin_ret (rv1 rfl ⟨kp1.trans kp2,by simp [he,tup]⟩))
 | some l =>
   rw[he] at hn;obtain ⟨v,rfl,_,_⟩:=hn;refine .ret ?_;simp only[ZG,↓reduceIte,ZA,ZB,ZC,mbl,ZD,ZE,ZF];exact hΨ _ _ (fin_ret (rv1 rfl ⟨kp1.trans kp2,by simp [he,tup]⟩))
end
end Go.S18

namespace Go.S18.V
open Go Go.Eng Go.Proofs Go.Chk
structure Rf (h:AH) (b:Nat) (C:Cx) (vi vc vt vp vk:Value) (p:Nat) (bad:Bool):Prop where
 own:Own h b 119 [vi,vc,vt,vp,iv C.main,vk,iv p,.bool bad]
 im:Img h C vi vc vt vp vk
 ne:∀ q,(rb vi q\/rb vc q\/rb vp q\/rb vk q)->q≠b
 hl:C.code.length<=200000
 le:p<=C.code.length
theorem Rf.keep {S:Nat->Prop} {h h':AH} {b:Nat} {C:Cx} {vi vc vt vp vk:Value} {p:Nat} {bad:Bool} (s:Rf h b C vi vc vt vp vk p bad) (k:Keep S h h') (hs:∀ q,(q=b\/rb vi q\/rb vc q\/rb vp q\/rb vk q) -> ¬ S q):Rf h' b C vi vc vt vp vk p bad :=
 ⟨s.own.keep k (hs _ (.inl rfl)),s.im.keep k (fun q e=>hs q (.inr e)),s.ne,s.hl,s.le⟩
def Ro (h:AH) (b:Nat) (C:Cx) (vi vc vt vp vk:Value):Option Nat->Prop
 | some p=>Rf h b C vi vc vt vp vk p false
 | none=>∃ p,Rf h b C vi vc vt vp vk p true
theorem Ro.any {h:AH} {b:Nat} {C:Cx} {vi vc vt vp vk:Value} {o:Option Nat} (s:Ro h b C vi vc vt vp vk o):∃ p bad,Rf h b C vi vc vt vp vk p bad:=by
 cases o with
 | some p=>exact ⟨p,_,s⟩
 | none=>obtain ⟨p,s⟩:=s;exact ⟨p,_,s⟩
theorem Ro.keep {S:Nat->Prop} {h h':AH} {b:Nat} {C:Cx} {vi vc vt vp vk:Value} {o:Option Nat} (s:Ro h b C vi vc vt vp vk o) (k:Keep S h h') (hs:∀ q,(q=b\/rb vi q\/rb vc q\/rb vp q\/rb vk q) -> ¬ S q):Ro h' b C vi vc vt vp vk o:=by
 cases o with
 | some p=>exact Rf.keep s k hs
 | none=>obtain ⟨p,s⟩:=s;exact ⟨p,s.keep k hs⟩
def RfO (h:AH) (b:Nat) (C:Cx) (vi vc vt vp vk:Value) (o:Option Nat) (res:Res) (h':AH):Prop :=
 Keep (· = b) h h'/\res = .ret (.tuple #[])/\Ro h' b C vi vc vt vp vk o
def RfN (h:AH) (b:Nat) (C:Cx) (vi vc vt vp vk:Value) (x:Int × Option Nat) (res:Res) (h':AH):Prop :=
 Keep (· = b) h h'/\res = .ret (iv x.1)/\Ro h' b C vi vc vt vp vk x.2
section
variable {h:AH} {b:Nat} {C:Cx} {vi vc vt vp vk:Value}
theorem rnext_ok {o:Option Nat} (s:Ro h b C vi vc vt vp vk o):Gets Try.prog 100 [.pointer (some ⟨b,0,none⟩)] h (RfN h b C vi vc vt vp vk (Chk.nt C o)):=by
 refine Gets.of (keep:=false) hP (draw_ok hM) k100 (by rfl) (fun Ψ hΨ=>?_);cases o with
 | none =>
   obtain ⟨p,s⟩:=s;simp only[ZG,↓reduceIte,ZA,ZB,ZC,r100,YE,YC,YO,YA,YL,YX,YS,Ya,Yb,Yl,Yf,Yg,Yi,Ym,Yk,Yt,Yn,Yz,Yp,Yq,Yd,s.own.cells.ld,mbl,ZD,ZE,ZF];refine XH_own s.own rfl (by simp [Value.cells]) rfl (fun h' q1 q2 q3=>?_);have o':Own h' b 119 [vi,vc,vt,vp,iv C.main,vk,iv p,.bool true]:=by simpa [Value.cells] using q1
   simp only[ZG,↓reduceIte,ZA,ZB,ZC,o'.cells.ld,mbl,ZD,ZE,ZF];exact hΨ _ _ (fin_ret (rv1 rfl ⟨q2,rfl,p,o',s.im.keep q2 s.ne,s.ne,s.hl,s.le⟩))
 | some p =>
   have s:Rf h b C vi vc vt vp vk p false:=s;obtain ⟨ca,cc,hvc⟩:=row_shape s.im.rc;have hl:=s.hl
   by_cases hp:p<C.code.length
   ·have hp':¬ (p:Int) ≥ (C.code.length:Int):=by omega
    have hp3:(p:Int)<(C.code.length:Int):=by omega
    have hw:IntKind.i64.wrap ((p:Int)+1)=((p+1:Nat):Int):=by rw[i64w (by omega) (by omega)];omega
    have hw2:IntKind.i64.wrap (((p+1:Nat):Int)-1)=(p:Int):=by rw[i64w (by omega) (by omega)];omega
    have hx:C.code[(p:Int).toNat]?=some C.code[p]:=by rw[Z2];exact Z0 hp
    obtain ⟨b1,o1,c1,e1,hlt,hld⟩:=rds_ix s.im.rc (by omega) hx;rw[Z2] at hld;simp only[ZG,↓reduceIte,ZA,ZB,ZC,r100,YE,YC,YO,YA,YL,YX,YS,Ya,Yb,Yl,Yf,Yg,Yi,Ym,Yk,Yt,Yn,Yz,Yp,Yq,Yd,s.own.cells.ld,mbl,ZD,ZE,ZF,e1,hp',hw];refine XH_own s.own rfl (by simp [Value.cells]) rfl (fun h' q1 q2 q3=>?_);have o':Own h' b 119 [vi,vc,vt,vp,iv C.main,vk,iv ((p+1:Nat):Int),.bool false]:=by simpa [Value.cells] using q1
    have h0:0<=(p:Int):=by omega
    have hld':ldc h' b1 (o1+p)=some (iv C.code[p]):=by
     obtain ⟨b2,o2,c2,e2,_,hld2⟩:=rds_ix (s.im.rc.keep q2 (fun q e=>s.ne q (.inr (.inl e)))) (by omega) hx;rw[e1] at e2;cases e2;rw[Z2] at hld2;exact hld2
    simp only[ZG,↓reduceIte,ZA,ZB,ZC,o'.cells.ld,mbl,ZD,ZE,ZF,hw2,e1,h0,hp3,and_self,Z2,Z4,hld'];refine hΨ _ _ (fin_ret (rv1 rfl ⟨q2,?_⟩));rw[show Chk.nt C (some p)=(C.code[p],some (p+1)) by unfold Chk.nt nx;simp only;rw[Z0 hp]];exact ⟨rfl,o',s.im.keep q2 s.ne,s.ne,s.hl,by omega⟩
   ·have hp':(p:Int) ≥ (C.code.length:Int):=by omega
    simp only[ZG,↓reduceIte,ZA,ZB,ZC,r100,YE,YC,YO,YA,YL,YX,YS,Ya,Yb,Yl,Yf,Yg,Yi,Ym,Yk,Yt,Yn,Yz,Yp,Yq,Yd,s.own.cells.ld,mbl,ZD,ZE,ZF,hvc,eq_true hp'];refine XH_own s.own rfl (by simp [Value.cells]) rfl (fun h' q1 q2 q3=>?_);have o':Own h' b 119 [vi,vc,vt,vp,iv C.main,vk,iv p,.bool true]:=by simpa [Value.cells] using q1
    simp only[ZG,↓reduceIte,ZA,ZB,ZC,o'.cells.ld,mbl,ZD,ZE,ZF];refine hΨ _ _ (fin_ret (rv1 rfl ⟨q2,?_⟩));rw[show Chk.nt C (some p)=(0,none) by unfold Chk.nt nx;simp only;rw[List.getElem?_eq_none (by omega)]];exact ⟨rfl,p,o',s.im.keep q2 s.ne,s.ne,s.hl,s.le⟩
theorem want_ok {o:Option Nat} (s:Ro h b C vi vc vt vp vk o) (lo hi:Int) (h0:0<=lo):Gets Try.prog 95 [.pointer (some ⟨b,0,none⟩),iv lo,iv hi] h (RfN h b C vi vc vt vp vk (Chk.wt C lo hi o)):=by
 refine Gets.of (keep:=false) hP (draw_ok hM) k95 (by rfl) (fun Ψ hΨ=>?_);simp only[ZG,↓reduceIte,ZA,ZB,ZC,r95,YE,YC,YO,YA,YL,YX,YS,Ya,Yb,Yl,Yf,Yg,Yi,Ym,Yk,Yt,Yn,Yz,Yp,Yq,Yd];refine XX_of (rnext_ok s) (fun res h1 hle hn=>?_);obtain ⟨kp,rfl,s1⟩:=hn;refine .ret ?_;have hcase:(∃ x q,Chk.nt C o=(x,some q)/\Chk.wt C lo hi o=if lo<=x/\x<=hi then (x,some q) else (lo,none))\/(Chk.nt C o=(0,none)/\Chk.wt C lo hi o=(lo,none)):=by
  cases o with
  | none=>exact .inr ⟨rfl,rfl⟩
  | some p =>
    unfold Chk.nt Chk.wt;simp only;cases nx C p with
    | none=>exact .inr ⟨rfl,rfl⟩
    | some v=>exact .inl ⟨v.1,v.2,rfl,rfl⟩
 rcases hcase with ⟨x,q,e1,e2⟩|⟨e1,e2⟩
 ·rw[e1] at s1 ⊢
  rw[e2] at hΨ
  by_cases c1:x<lo
  ·rw[if_neg (by omega)] at hΨ
   simp only[ZG,↓reduceIte,ZA,ZB,ZC,eq_true c1,mbl,ZD,ZE,ZF];obtain ⟨p,bad,s⟩:=s1.any;refine XH_own s.own rfl (by simp [Value.cells]) rfl (fun h' q1 q2 q3=>?_);have o':Own h' b 119 [vi,vc,vt,vp,iv C.main,vk,iv p,.bool true]:=by simpa [Value.cells] using q1
   simp only[ZG,↓reduceIte,ZA,ZB,ZC,o'.cells.ld,mbl,ZD,ZE,ZF];exact hΨ _ _ (fin_ret (rv1 rfl ⟨kp.trans q2,rfl,p,o',s.im.keep q2 s.ne,s.ne,s.hl,s.le⟩))
  ·by_cases c2:x > hi
   ·rw[if_neg (by omega)] at hΨ
    simp only[ZG,↓reduceIte,ZA,ZB,ZC,c1,eq_true c2,mbl,ZD,ZE,ZF];obtain ⟨p,bad,s⟩:=s1.any;refine XH_own s.own rfl (by simp [Value.cells]) rfl (fun h' q1 q2 q3=>?_);have o':Own h' b 119 [vi,vc,vt,vp,iv C.main,vk,iv p,.bool true]:=by simpa [Value.cells] using q1
    simp only[ZG,↓reduceIte,ZA,ZB,ZC,o'.cells.ld,mbl,ZD,ZE,ZF];exact hΨ _ _ (fin_ret (rv1 rfl ⟨kp.trans q2,rfl,p,o',s.im.keep q2 s.ne,s.ne,s.hl,s.le⟩))
   ·rw[if_pos (by omega)] at hΨ
    simp only[ZG,↓reduceIte,ZA,ZB,ZC,c1,c2,mbl,ZD,ZE,ZF];exact hΨ _ _ (fin_ret (rv1 rfl ⟨kp,rfl,s1⟩))
 ·rw[e1] at s1 ⊢
  rw[e2] at hΨ
  by_cases c1:(0:Int)<lo
  ·simp only[ZG,↓reduceIte,ZA,ZB,ZC,eq_true c1,mbl,ZD,ZE,ZF]
   obtain ⟨p,bad,s⟩:=s1.any;refine XH_own s.own rfl (by simp [Value.cells]) rfl (fun h' q1 q2 q3=>?_);have o':Own h' b 119 [vi,vc,vt,vp,iv C.main,vk,iv p,.bool true]:=by simpa [Value.cells] using q1
   simp only[ZG,↓reduceIte,ZA,ZB,ZC,o'.cells.ld,mbl,ZD,ZE,ZF];exact hΨ _ _ (fin_ret (rv1 rfl ⟨kp.trans q2,rfl,p,o',s.im.keep q2 s.ne,s.ne,s.hl,s.le⟩))
  ·obtain rfl:lo=0:=by omega
   by_cases c2:(0:Int) > hi
   ·simp only[ZG,↓reduceIte,ZA,ZB,ZC,c1,eq_true c2,mbl,ZD,ZE,ZF]
    obtain ⟨p,bad,s⟩:=s1.any;refine XH_own s.own rfl (by simp [Value.cells]) rfl (fun h' q1 q2 q3=>?_);have o':Own h' b 119 [vi,vc,vt,vp,iv C.main,vk,iv p,.bool true]:=by simpa [Value.cells] using q1
    simp only[ZG,↓reduceIte,ZA,ZB,ZC,o'.cells.ld,mbl,ZD,ZE,ZF];exact hΨ _ _ (fin_ret (rv1 rfl ⟨kp.trans q2,rfl,p,o',s.im.keep q2 s.ne,s.ne,s.hl,s.le⟩))
   ·simp only[ZG,↓reduceIte,ZA,ZB,ZC,c1,c2,mbl,ZD,ZE,ZF]
    exact hΨ _ _ (fin_ret (rv1 rfl ⟨kp,rfl,s1⟩))
theorem rcon_ok {o:Option Nat} (s:Ro h b C vi vc vt vp vk o) (hk:C.cons.length<=9223372036854775807):Gets Try.prog 102 [.pointer (some ⟨b,0,none⟩),iv 0] h (RfO h b C vi vc vt vp vk (o.bind (con0 C))):=by
 refine Gets.of (keep:=false) hP (draw_ok hM) k102 (by rfl) (fun Ψ hΨ=>?_);obtain ⟨p0,bad0,s0⟩:=s.any;obtain ⟨ka,kc,hvk⟩:=row_shape s0.im.rk;have hw:IntKind.i64.wrap ((C.cons.length:Int)-1)=(C.cons.length:Int)-1:=i64w (by omega) (by omega);simp only[ZG,↓reduceIte,ZA,ZB,ZC,r102,YE,YC,YO,YA,YL,YX,YS,Ya,Yb,Yl,Yf,Yg,Yi,Ym,Yk,Yt,Yn,Yz,Yp,Yq,Yd,s0.own.cells.ld,mbl,ZD,ZE,ZF,hvk,hw];refine XX_of (want_ok s 0 _ (Z3 _)) (fun res h1 hle hn=>?_);obtain ⟨kp,rfl,s1⟩:=hn;refine .ret ?_;cases hx:o.bind (fun p=>bl C C.cons.length p) with
 | none =>
   have e:Chk.wt C 0 ((C.cons.length:Int)-1) o=(0,none):=by
    cases o with
    | none=>rfl
    | some p=>rw[wt_bl];rw[Z1] at hx;rw[hx]
   have e2:o.bind (con0 C)=none:=by
    cases o with
    | none=>rfl
    | some p=>rw[Z1] at hx ⊢;rw[con0,hx]
   rw[e] at s1 ⊢;rw[e2] at hΨ;obtain ⟨p,s1⟩:=s1;simp only[ZG,↓reduceIte,ZA,ZB,ZC,s1.own.cells.ld,mbl,ZD,ZE,ZF];exact hΨ _ _ (fin_norm ⟨kp,rfl,p,s1⟩)
 | some v =>
   obtain ⟨c,q⟩:=v;obtain ⟨p,rfl,hx2⟩:=Option.bind_eq_some_iff.1 hx;have e:Chk.wt C 0 ((C.cons.length:Int)-1) (some p)=(c,some q):=by rw[wt_bl,hx2]
   rw[e] at s1 ⊢;have s1:Rf h1 b C vi vc vt vp vk q false:=s1;obtain ⟨_,_,_,c0,c1⟩:=bl_inv hx2;obtain ⟨kb,ko,kc2,ke,kl,kd⟩:=rds_ix s1.im.rk c0 (cn_at c0 c1);have hvk2:=ke.symm.trans hvk;cases hvk2
   by_cases z:cn C c=0
   ·have e2:(some p).bind (con0 C)=some q:=by rw[Z1,con0,hx2];simp only[z,if_true]
    rw[e2] at hΨ;simp only[ZG,↓reduceIte,ZA,ZB,ZC,s1.own.cells.ld,mbl,ZD,ZE,ZF,ke,c0,kl,c1,and_self,Z4,kd,z];exact hΨ _ _ (fin_norm ⟨kp,rfl,s1⟩)
   ·have e2:(some p).bind (con0 C)=none:=by rw[Z1,con0,hx2];simp only[z,if_false]
    rw[e2] at hΨ;have s:=s1;simp only[ZG,↓reduceIte,ZA,ZB,ZC,s1.own.cells.ld,mbl,ZD,ZE,ZF,ke,c0,kl,c1,and_self,Z4,kd,z];refine XH_own s.own rfl (by simp [Value.cells]) rfl (fun h' q1 q2 q3=>?_);have o':Own h' b 119 [vi,vc,vt,vp,iv C.main,vk,iv q,.bool true]:=by simpa [Value.cells] using q1
    simp only[ZG,↓reduceIte,ZA,ZB,ZC,o'.cells.ld,mbl,ZD,ZE,ZF];exact hΨ _ _ (fin_norm ⟨kp.trans q2,rfl,q,o',s.im.keep q2 s.ne,s.ne,s.hl,s.le⟩)
end
end Go.S18.V

namespace Go.S18.V
open Go Go.Eng Go.Proofs Go.Chk
structure Sz (C:Cx):Prop where
 tops:C.tops.length<=9223372036854775807
 cons:C.cons.length<=9223372036854775807
 infos:C.infos.length<=9223372036854775807
 nt:C.nt<=9223372036854775807
theorem wt_cases (C:Cx) (lo hi:Int) (o:Option Nat):(∃ p x q,o=some p/\nx C p=some (x,q)/\lo<=x/\x<=hi/\wt C lo hi o=(x,some q))\/(wt C lo hi o=(lo,none) /\ ∀ p x q,o=some p->nx C p=some (x,q) -> ¬ (lo<=x/\x<=hi)):=by
 cases o with
 | none=>exact .inr ⟨rfl,fun p x q e=>by cases e⟩
 | some p =>
   cases hn:nx C p with
   | none=>exact .inr ⟨by simp only[wt,hn],fun p' x q e h=>by cases e;rw[hn] at h;cases h⟩
   | some v =>
     obtain ⟨x,q⟩:=v
     by_cases c:lo<=x/\x<=hi
     ·exact .inl ⟨p,x,q,rfl,hn,c.1,c.2,by simp only[wt,hn,if_pos c]⟩
     ·exact .inr ⟨by simp only[wt,hn,if_neg c],fun p' x' q' e h=>by cases e;rw[hn] at h;cases h;exact c⟩
theorem bind_no {C:Cx} {o:Option Nat} {f:Nat->Option Nat} (h:∀ p,o=some p->f p=none):o.bind f=none:=by
 cases o with
 | none=>rfl
 | some p=>exact h p rfl
theorem lenw {n:Nat} (h:n<=9223372036854775807):IntKind.i64.wrap ((n:Int)-1)=(n:Int)-1:=i64w (by omega) (by omega)
section
variable {h:AH} {b:Nat} {C:Cx} {vi vc vt vp vk:Value}
theorem roperand_ok {o:Option Nat} (s:Ro h b C vi vc vt vp vk o) (z:Sz C) (d w:Int) (hd : -9000000000000000000<=d) (hd2:d<=9223372036854775807) (hw : -9000000000000000000<=w) (hw2:w<=9223372036854775807) :
 Gets Try.prog 96 [.pointer (some ⟨b,0,none⟩),iv d,iv w] h (RfO h b C vi vc vt vp vk (o.bind (oprnd C d w))):=by
 refine Gets.of (keep:=false) hP (draw_ok hM) k96 (by rfl) (fun Ψ hΨ=>?_);obtain ⟨p0,bad0,s0⟩:=s.any;obtain ⟨pa,pc,hvp⟩:=row_shape s0.im.rp;simp only[ZG,↓reduceIte,ZA,ZB,ZC,r96,YE,YC,YO,YA,YL,YX,YS,Ya,Yb,Yl,Yf,Yg,Yi,Ym,Yk,Yt,Yn,Yz,Yp,Yq,Yd];refine XX_of (want_ok s 0 4 (Z3 _)) (fun res h1 hle hn=>?_);obtain ⟨kp,rfl,s1⟩:=hn;refine .ret ?_
 rcases wt_cases C 0 4 o with ⟨p,x,q,rfl,e1,x0,x4,e2⟩|⟨e2,hno⟩
 ·rw[e2] at s1 ⊢
  rw[Z1] at hΨ;have s1:Rf h1 b C vi vc vt vp vk q false:=s1;have s1':Ro h1 b C vi vc vt vp vk (some q):=s1
  by_cases d0:x=0
  ·have hw1:IntKind.i64.wrap (d-1)=d-1:=i64w (by omega) (by omega)
   simp only[ZG,↓reduceIte,ZA,ZB,ZC,s1.own.cells.ld,mbl,ZD,ZE,ZF,eq_true d0,hw1];refine XX_of (want_ok s1' 0 _ (Z3 _)) (fun res h2 hle2 hn=>?_);obtain ⟨kp2,rfl,s2⟩:=hn;refine .ret ?_;simp only[ZG,↓reduceIte,ZA,ZB,ZC,mbl,ZD,ZE,ZF];refine hΨ _ _ (fin_norm ⟨kp.trans kp2,rfl,?_⟩);rw[wt_bl2,Z1] at s2;rw[show oprnd C d w p=sn (bl C d q) by simp [oprnd,e1,d0]];exact s2
  by_cases d1:x=1
  ·have hw1:IntKind.i64.wrap (w-1)=w-1:=i64w (by omega) (by omega)
   simp only[ZG,↓reduceIte,ZA,ZB,ZC,s1.own.cells.ld,mbl,ZD,ZE,ZF,d0,eq_true d1,hw1];refine XX_of (want_ok s1' 0 _ (Z3 _)) (fun res h2 hle2 hn=>?_);obtain ⟨kp2,rfl,s2⟩:=hn;refine .ret ?_;simp only[ZG,↓reduceIte,ZA,ZB,ZC,mbl,ZD,ZE,ZF];refine hΨ _ _ (fin_norm ⟨kp.trans kp2,rfl,?_⟩);rw[wt_bl2,Z1] at s2;rw[show oprnd C d w p=sn (bl C w q) by simp [oprnd,e1,d0,d1]];exact s2
  by_cases d2:x=2
  ·simp only[ZG,↓reduceIte,ZA,ZB,ZC,s1.own.cells.ld,mbl,ZD,ZE,ZF,d0,d1,eq_true d2,hvp,lenw z.tops]
   refine XX_of (want_ok s1' 0 _ (Z3 _)) (fun res h2 hle2 hn=>?_);obtain ⟨kp2,rfl,s2⟩:=hn;refine .ret ?_;simp only[ZG,↓reduceIte,ZA,ZB,ZC,mbl,ZD,ZE,ZF];refine hΨ _ _ (fin_norm ⟨kp.trans kp2,rfl,?_⟩);rw[wt_bl2,Z1] at s2;rw[show oprnd C d w p=sn (bl C C.tops.length q) by simp [oprnd,e1,d0,d1,d2]];exact s2
  by_cases d3:x=3
  ·simp only[ZG,↓reduceIte,ZA,ZB,ZC,s1.own.cells.ld,mbl,ZD,ZE,ZF,d0,d1,d2,eq_true d3]
   refine XX_of (rnext_ok s1') (fun res h2 hle2 hn=>?_);obtain ⟨kp2,rfl,s2⟩:=hn;refine .ret ?_;simp only[ZG,↓reduceIte,ZA,ZB,ZC,mbl,ZD,ZE,ZF];refine hΨ _ _ (fin_norm ⟨kp.trans kp2,rfl,?_⟩);rw[nt_2,Z1] at s2;rw[show oprnd C d w p=sn (nx C q) by simp [oprnd,e1,d0,d1,d2,d3]];exact s2
  ·have d4:x=4:=by omega
   simp only[ZG,↓reduceIte,ZA,ZB,ZC,s1.own.cells.ld,mbl,ZD,ZE,ZF,d0,d1,d2,d3];refine XX_of (rcon_ok s1' z.cons) (fun res h2 hle2 hn=>?_);obtain ⟨kp2,rfl,s2⟩:=hn;refine .ret ?_;simp only[ZG,↓reduceIte,ZA,ZB,ZC,mbl,ZD,ZE,ZF];refine hΨ _ _ (fin_norm ⟨kp.trans kp2,rfl,?_⟩);rw[Z1] at s2;rw[show oprnd C d w p=con0 C q by unfold oprnd;rw[e1];simp only;rw[if_neg d0,if_neg d1,if_neg d2,if_neg d3,if_pos d4];rfl];exact s2
 ·rw[e2] at s1 ⊢
  rw[bind_no (C:=C) (f:=oprnd C d w) (fun p hp=>?_)] at hΨ
  rotate_left
  ·unfold oprnd
   cases hn:nx C p with
   | none=>rfl
   | some v =>
     have:=hno p v.1 v.2 hp hn;simp only;rw[if_neg (by omega),if_neg (by omega),if_neg (by omega),if_neg (by omega),if_neg (by omega)]
  obtain ⟨p,s1⟩:=s1;simp only[ZG,↓reduceIte,ZA,ZB,ZC,s1.own.cells.ld,mbl,ZD,ZE,ZF];exact hΨ _ _ (fin_norm ⟨kp,rfl,p,s1⟩)
theorem roperands_ok {o:Option Nat} (s:Ro h b C vi vc vt vp vk o) (z:Sz C) (n d w:Int) (hd : -9000000000000000000<=d) (hd2:d<=9223372036854775807) (hw : -9000000000000000000<=w) (hw2:w<=9223372036854775807) :
 Gets Try.prog 97 [.pointer (some ⟨b,0,none⟩),iv n,iv d,iv w] h (RfO h b C vi vc vt vp vk (o.bind (oprnds C d w n.toNat))):=by
 refine Gets.of (keep:=false) hP (draw_ok hM) k97 (by rfl) (fun Ψ hΨ=>?_);simp only[ZG,↓reduceIte,ZA,ZB,ZC,r97,YE,YC,YO,YA,YL,YX,YS,Ya,Yb,Yl,Yf,Yg,Yi,Ym,Yk,Yt,Yn,Yz,Yp,Yq,Yd];refine XLo_rule (α:=Nat × Option Nat) (fun a=>[(0,.pointer (some ⟨b,0,none⟩)),(1,iv n),(2,iv d),(3,iv w),(8,iv a.1)])
  (fun a h'=>a.1<=n.toNat/\Keep (· = b) h h'/\Ro h' b C vi vc vt vp vk a.2/\(∀ q,a.2=some q->a.1<=q)/\o.bind (oprnds C d w n.toNat)=a.2.bind (oprnds C d w (n.toNat-a.1))) (fun a=>n.toNat-a.1) (0,o)
  ⟨by omega,.refl _ _,s,fun q _=>Z7 _,rfl⟩ ⟨rfl,rfl,rfl,rfl,rfl,trivial⟩ ?_
 rintro ⟨i,o1⟩ h1 Ψ2 ⟨i1,kp,s1,i2,eq⟩ next out
 simp only at i1 s1 i2 eq;obtain ⟨p1,bad1,s1r⟩:=s1.any
 by_cases hi:(i:Int)<n
 ·cases o1 with
  | none =>
    obtain ⟨p1,s1⟩:=s1;simp only[ZG,↓reduceIte,ZA,ZB,ZC,hi,s1.own.cells.ld,mbl,ZD,ZE,ZF];refine out (.exit 0) _ _ _ _ (by intro e;cases e) ?_;simp only[ZG,↓reduceIte,ZA,ZB,ZC];refine hΨ _ _ (fin_norm ⟨kp,rfl,?_⟩);rw[eq];exact ⟨p1,s1⟩
  | some p1 =>
    have s1r:Rf h1 b C vi vc vt vp vk p1 false:=s1;have i3:=i2 p1 rfl;have:=s1r.le;have:=s1r.hl;have hw1:IntKind.i64.wrap ((i:Int)+1)=i+1:=i64w (by omega) (by omega);simp only[ZG,↓reduceIte,ZA,ZB,ZC,hi,s1r.own.cells.ld,mbl,ZD,ZE,ZF];refine XX_of (roperand_ok s1 z d w hd hd2 hw hw2) (fun res h2 hle hn2=>?_);obtain ⟨kp2,rfl,s2⟩:=hn2;refine .ret ?_;have e1:n.toNat-i=(n.toNat-(i+1))+1:=by omega
    simp only[ZG,↓reduceIte,ZA,ZB,ZC,hw1];refine next (i+1,oprnd C d w p1) _ _ _ ⟨by omega,kp.trans kp2,s2,fun q hq=>?_,?_⟩ ⟨rfl,rfl,rfl,rfl,?_,trivial⟩ (by simp only;omega)
    ·have:=oprnd_on q hq
     simp only;omega
    ·rw[eq,Z1,e1,oprnds]
     cases oprnd C d w p1<;>rfl
    ·simp only[Z6,Z5];rfl
 ·have e1:n.toNat-i=0:=by omega
  simp only[ZG,↓reduceIte,ZA,ZB,ZC,hi];refine out (.exit 0) _ _ _ _ (by intro e;cases e) ?_;simp only[ZG,↓reduceIte,ZA,ZB,ZC];refine hΨ _ _ (fin_norm ⟨kp,rfl,?_⟩);rw[eq,e1];cases o1<;>exact s1
theorem rfields_ok {o:Option Nat} (s:Ro h b C vi vc vt vp vk o) (z:Sz C) (hc:consOk C) (d w:Int) (hd : -9000000000000000000<=d) (hd2:d<=9223372036854775807) (hw : -9000000000000000000<=w) (hw2:w<=9223372036854775807) :
 Gets Try.prog 98 [.pointer (some ⟨b,0,none⟩),iv d,iv w] h (RfO h b C vi vc vt vp vk (o.bind (flds C d w))):=by
 refine Gets.of (keep:=false) hP (draw_ok hM) k98 (by rfl) (fun Ψ hΨ=>?_);obtain ⟨p0,bad0,s0⟩:=s.any;obtain ⟨ka,kc,hvk⟩:=row_shape s0.im.rk;simp only[ZG,↓reduceIte,ZA,ZB,ZC,r98,YE,YC,YO,YA,YL,YX,YS,Ya,Yb,Yl,Yf,Yg,Yi,Ym,Yk,Yt,Yn,Yz,Yp,Yq,Yd,s0.own.cells.ld,mbl,ZD,ZE,ZF,hvk,lenw z.cons];refine XX_of (want_ok s 0 _ (Z3 _)) (fun res h1 hle hn=>?_);obtain ⟨kp,rfl,s1⟩:=hn;refine .ret ?_;simp only[ZG,↓reduceIte,ZA,ZB,ZC,mbl,ZD,ZE,ZF];refine XX_of (want_ok s1 1 8 (by omega)) (fun res h2 hle2 hn=>?_);obtain ⟨kp2,rfl,s2⟩:=hn;refine .ret ?_
 rcases wt_cases C 1 8 (wt C 0 ((C.cons.length:Int)-1) o).2 with ⟨p1,n,q,eo,e1,x0,x8,e2⟩|⟨e2,hno⟩
 ·rw[e2] at s2 ⊢
  have s2r:Rf h2 b C vi vc vt vp vk q false:=s2;have s2':Ro h2 b C vi vc vt vp vk (some q):=s2;obtain ⟨p,rfl,hb⟩:∃ p,o=some p /\ ∃ c,bl C C.cons.length p=some (c,p1):=by
   cases o with
   | none=>cases eo
   | some p =>
     rw[wt_bl] at eo;cases hb:bl C C.cons.length p with
     | none=>rw[hb] at eo;cases eo
     | some v=>rw[hb] at eo;cases eo;exact ⟨p,rfl,v.1,hb⟩
  obtain ⟨c,hb⟩:=hb;have ec:(wt C 0 ((C.cons.length:Int)-1) (some p)).1=c:=by rw[wt_bl,hb]
  rw[ec];obtain ⟨_,_,_,c0,c1⟩:=bl_inv hb;obtain ⟨kb,ko,kc2,ke,kl,kd⟩:=rds_ix s2r.im.rk c0 (cn_at c0 c1);have hvk2:=ke.symm.trans hvk;cases hvk2;rw[Z1] at hΨ
  by_cases y:cn C c=n
  ·simp only[ZG,↓reduceIte,ZA,ZB,ZC,s2r.own.cells.ld,mbl,ZD,ZE,ZF,ke,c0,kl,c1,and_self,Z4,kd,eq_true y]
   refine XX_of (roperands_ok s2' z n d w hd hd2 hw hw2) (fun res h3 hle3 hn=>?_);obtain ⟨kp3,rfl,s3⟩:=hn;refine .ret ?_;simp only[ZG,↓reduceIte,ZA,ZB,ZC,mbl,ZD,ZE,ZF];refine hΨ _ _ (fin_norm ⟨(kp.trans kp2).trans kp3,rfl,?_⟩);rw[show flds C d w p=oprnds C d w n.toNat q by
    unfold flds;rw[hb];simp only;rw[if_pos (by omega),show exc C (cn C c) p1=some q by unfold exc;rw[e1];simp only;rw[if_pos y.symm],y]]
   exact s3
  ·simp only[ZG,↓reduceIte,ZA,ZB,ZC,s2r.own.cells.ld,mbl,ZD,ZE,ZF,ke,c0,kl,c1,and_self,Z4,kd,y]
   refine XH_own s2r.own rfl (by simp [Value.cells]) rfl (fun h' q1 q2 q3=>?_);have o':Own h' b 119 [vi,vc,vt,vp,iv C.main,vk,iv q,.bool true]:=by simpa [Value.cells] using q1
   simp only[ZG,↓reduceIte,ZA,ZB,ZC,mbl,ZD,ZE,ZF];refine hΨ _ _ (fin_ret (rv0 ⟨(kp.trans kp2).trans q2,rfl,?_⟩));rw[show flds C d w p=none by
    unfold flds;rw[hb];simp only
    split
    ·rw[show exc C (cn C c) p1=none by unfold exc;rw[e1];simp only;rw[if_neg (fun e=>y e.symm)]]
    ·rfl]
   exact ⟨q,o',s2r.im.keep q2 s2r.ne,s2r.ne,s2r.hl,s2r.le⟩
 ·rw[e2] at s2 ⊢
  obtain ⟨q,s2⟩:=s2;rw[bind_no (C:=C) (f:=flds C d w) (fun p hp=>?_)] at hΨ
  rotate_left
  ·subst hp
   unfold flds;cases hb:bl C C.cons.length p with
   | none=>rfl
   | some v =>
     obtain ⟨c,p1⟩:=v;simp only
     split
     ·rename_i c0
      rw[show exc C (cn C c) p1=none by
       unfold exc;cases hn:nx C p1 with
       | none=>rfl
       | some v =>
         simp only;rw[if_neg];intro e;have h1:=hno p1 v.1 v.2 (by rw[wt_bl,hb]) hn;have h2:cn C c<=8:=by
          obtain ⟨_,_,_,c0,c1⟩:=bl_inv hb;have:=cn_at c0 c1;exact (hc _ (List.mem_of_getElem? this)).2
         omega]
     ·rfl
  simp only[ZG,↓reduceIte,ZA,ZB,ZC,s2.own.cells.ld,mbl,ZD,ZE,ZF];refine XH_own s2.own rfl (by simp [Value.cells]) rfl (fun h' q1 q2 q3=>?_);have o':Own h' b 119 [vi,vc,vt,vp,iv C.main,vk,iv q,.bool true]:=by simpa [Value.cells] using q1
  simp only[ZG,↓reduceIte,ZA,ZB,ZC,mbl,ZD,ZE,ZF];exact hΨ _ _ (fin_ret (rv0 ⟨(kp.trans kp2).trans q2,rfl,q,o',s2.im.keep q2 s2.ne,s2.ne,s2.hl,s2.le⟩))
end
end Go.S18.V

namespace Go.S18.V
open Go Go.Eng Go.Proofs Go.Chk
section
variable {h:AH} {b:Nat} {C:Cx} {vi vc vt vp vk:Value}
theorem rthing_ok {o:Option Nat} (s:Ro h b C vi vc vt vp vk o) (z:Sz C) (hc:consOk C) (d w:Int) (hd : -9000000000000000000<=d) (hd2:d<=9223372036854775807) (hw : -9000000000000000000<=w) (hw2:w<=9223372036854775807) :
 Gets Try.prog 99 [.pointer (some ⟨b,0,none⟩),iv d,iv w] h (RfO h b C vi vc vt vp vk (o.bind (thing C d w))):=by
 refine Gets.of (keep:=false) hP (draw_ok hM) k99 (by rfl) (fun Ψ hΨ=>?_);obtain ⟨p0,bad0,s0⟩:=s.any;obtain ⟨ia,ic,hvi⟩:=row_shape s0.im.ri;obtain ⟨ta,tc,hvt⟩:=s0.im.rt;simp only[ZG,↓reduceIte,ZA,ZB,ZC,r99,YE,YC,YO,YA,YL,YX,YS,Ya,Yb,Yl,Yf,Yg,Yi,Ym,Yk,Yt,Yn,Yz,Yp,Yq,Yd];refine XX_of (want_ok s 0 4 (Z3 _)) (fun res h1 hle hn=>?_);obtain ⟨kp,rfl,s1⟩:=hn;refine .ret ?_
 rcases wt_cases C 0 4 o with ⟨p,x,q,rfl,e1,x0,x4,e2⟩|⟨e2,hno⟩
 ·rw[e2] at s1 ⊢
  rw[Z1] at hΨ;have s1r:Rf h1 b C vi vc vt vp vk q false:=s1;have s1':Ro h1 b C vi vc vt vp vk (some q):=s1
  by_cases d0:x=0
  ·simp only[ZG,↓reduceIte,ZA,ZB,ZC,s1r.own.cells.ld,mbl,ZD,ZE,ZF,eq_true d0,hvi,lenw z.infos]
   refine XX_of (want_ok s1' 0 _ (Z3 _)) (fun res h2 hle2 hn=>?_);obtain ⟨kp2,rfl,s2⟩:=hn;refine .ret ?_;simp only[ZG,↓reduceIte,ZA,ZB,ZC,mbl,ZD,ZE,ZF];refine XX_of (rnext_ok s2) (fun res h3 hle3 hn=>?_);obtain ⟨kp3,rfl,s3⟩:=hn;refine .ret ?_;have kq:=(kp.trans kp2).trans kp3;cases hb:bl C C.infos.length q with
   | none =>
     have ew:wt C 0 ((C.infos.length:Int)-1) (some q)=(0,none):=by rw[wt_bl,hb]
     rw[ew,nt_none] at s3 ⊢;obtain ⟨px,sx⟩:=s3;simp only[ZG,↓reduceIte,ZA,ZB,ZC,sx.own.cells.ld,mbl,ZD,ZE,ZF];refine XH_own sx.own rfl (by simp [Value.cells]) rfl (fun h' q1 q2 q3=>?_);have o':Own h' b 119 [vi,vc,vt,vp,iv C.main,vk,iv px,.bool true]:=by simpa [Value.cells] using q1
     simp only[ZG,↓reduceIte,ZA,ZB,ZC,mbl,ZD,ZE,ZF];refine hΨ _ _ (fin_ret (rv0 ⟨kq.trans q2,rfl,?_⟩));rw[show thing C d w p=none by simp [thing,e1,d0,hb]];exact ⟨px,o',sx.im.keep q2 sx.ne,sx.ne,sx.hl,sx.le⟩
   | some v =>
     obtain ⟨i,r⟩:=v;have ew:wt C 0 ((C.infos.length:Int)-1) (some q)=(i,some r):=by rw[wt_bl,hb]
     rw[ew] at s3 ⊢;simp only at s3 ⊢;cases hx:nx C r with
     | none =>
       have en:Chk.nt C (some r)=(0,none):=by simp only[Chk.nt,hx]
       rw[en] at s3 ⊢;obtain ⟨px,sx⟩:=s3;simp only[ZG,↓reduceIte,ZA,ZB,ZC,sx.own.cells.ld,mbl,ZD,ZE,ZF];refine XH_own sx.own rfl (by simp [Value.cells]) rfl (fun h' q1 q2 q3=>?_);have o':Own h' b 119 [vi,vc,vt,vp,iv C.main,vk,iv px,.bool true]:=by simpa [Value.cells] using q1
       simp only[ZG,↓reduceIte,ZA,ZB,ZC,mbl,ZD,ZE,ZF];refine hΨ _ _ (fin_ret (rv0 ⟨kq.trans q2,rfl,?_⟩));rw[show thing C d w p=none by simp [thing,e1,d0,hb,exc,hx]];exact ⟨px,o',sx.im.keep q2 sx.ne,sx.ne,sx.hl,sx.le⟩
     | some v =>
       obtain ⟨n,px⟩:=v;have en:Chk.nt C (some r)=(n,some px):=by simp only[Chk.nt,hx]
       rw[en] at s3 ⊢;have sx:Rf h3 b C vi vc vt vp vk px false:=s3;have sx':Ro h3 b C vi vc vt vp vk (some px):=s3;obtain ⟨_,_,_,c0,c1⟩:=bl_inv hb;obtain ⟨y,yx,yf⟩:=fr_at c0 c1;obtain ⟨kb,ko,kc,ke,kl,kd⟩:=rds_fld (by omega) Inf.len sx.im.ri yx;have kd2:=kd 2 (by omega);simp only[Inf.cells,Z8,Z9,Option.map_some,yf] at kd2;have hv2:=ke.symm.trans hvi;cases hv2
       by_cases dn:n=fr C i
       ·simp only[ZG,↓reduceIte,ZA,ZB,ZC,sx.own.cells.ld,mbl,ZD,ZE,ZF,ke,hvi,c0,c1,and_self,kd2,eq_true dn]
        refine XX_of (roperands_ok sx' z n d w hd hd2 hw hw2) (fun res h4 hle4 hn=>?_);obtain ⟨kp4,rfl,s4⟩:=hn;refine .ret ?_;simp only[ZG,↓reduceIte,ZA,ZB,ZC,mbl,ZD,ZE,ZF];refine hΨ _ _ (fin_norm ⟨kq.trans kp4,rfl,?_⟩);rw[show thing C d w p=oprnds C d w n.toNat px by simp [thing,e1,d0,hb,exc,hx,dn]];exact s4
       ·simp only[ZG,↓reduceIte,ZA,ZB,ZC,sx.own.cells.ld,mbl,ZD,ZE,ZF,ke,hvi,c0,c1,and_self,kd2,dn]
        refine XH_own sx.own rfl (by simp [Value.cells]) rfl (fun h' q1 q2 q3=>?_);have o':Own h' b 119 [vi,vc,vt,vp,iv C.main,vk,iv px,.bool true]:=by simpa [Value.cells] using q1
        simp only[ZG,↓reduceIte,ZA,ZB,ZC,mbl,ZD,ZE,ZF];refine hΨ _ _ (fin_ret (rv0 ⟨kq.trans q2,rfl,?_⟩));rw[show thing C d w p=none by simp [thing,e1,d0,hb,exc,hx,dn]];exact ⟨px,o',sx.im.keep q2 sx.ne,sx.ne,sx.hl,sx.le⟩
  by_cases d1:x=1
  ·simp only[ZG,↓reduceIte,ZA,ZB,ZC,s1r.own.cells.ld,mbl,ZD,ZE,ZF,d0,eq_true d1]
   refine XX_of (rfields_ok s1' z hc d w hd hd2 hw hw2) (fun res h2 hle2 hn=>?_);obtain ⟨kp2,rfl,s2⟩:=hn;refine .ret ?_;simp only[ZG,↓reduceIte,ZA,ZB,ZC,mbl,ZD,ZE,ZF];refine hΨ _ _ (fin_norm ⟨kp.trans kp2,rfl,?_⟩);rw[show thing C d w p=flds C d w q by simp [thing,e1,d0,d1]];exact s2
  by_cases d2:x=2
  ·simp only[ZG,↓reduceIte,ZA,ZB,ZC,s1r.own.cells.ld,mbl,ZD,ZE,ZF,d0,d1,eq_true d2,hvt,lenw z.nt]
   refine XX_of (want_ok s1' 0 _ (Z3 _)) (fun res h2 hle2 hn=>?_);obtain ⟨kp2,rfl,s2⟩:=hn;refine .ret ?_;simp only[ZG,↓reduceIte,ZA,ZB,ZC,mbl,ZD,ZE,ZF];refine XX_of (want_ok s2 0 0 (Z3 _)) (fun res h3 hle3 hn=>?_);rw[wt_bl2] at hn;obtain ⟨kp3,rfl,s3⟩:=hn;refine .ret ?_;simp only[ZG,↓reduceIte,ZA,ZB,ZC,mbl,ZD,ZE,ZF];refine hΨ _ _ (fin_norm ⟨(kp.trans kp2).trans kp3,rfl,?_⟩);rw[wt_exc'] at s3;rw[show thing C d w p=((some q).bind fun p=>sn (bl C C.nt p)).bind (exc C 0) by simp only[thing,e1,d0,d1,d2,if_true,if_false,Z1];cases bl C C.nt q<;>rfl];exact s3
  by_cases d3:x=3
  ·simp only[ZG,↓reduceIte,ZA,ZB,ZC,s1r.own.cells.ld,mbl,ZD,ZE,ZF,d0,d1,d2,eq_true d3]
   refine XX_of (rcon_ok s1' z.cons) (fun res h2 hle2 hn=>?_);obtain ⟨kp2,rfl,s2⟩:=hn;refine .ret ?_;simp only[ZG,↓reduceIte,ZA,ZB,ZC,mbl,ZD,ZE,ZF];refine XX_of (want_ok s2 0 0 (Z3 _)) (fun res h3 hle3 hn=>?_);have e3:thing C d w p=((some q).bind (con0 C)).bind (exc C 0):=by
    unfold thing;rw[e1];simp only;rw[if_neg d0,if_neg d1,if_neg d2,if_pos d3,Z1];unfold con0;cases bl C C.cons.length q with
    | none=>rfl
    | some v =>
      simp only
      by_cases c:cn C v.1=0
      ·rw[if_pos c,if_pos c];rfl
      ·rw[if_neg c,if_neg c];rfl
   obtain ⟨kp3,rfl,s3⟩:=hn;refine .ret ?_;simp only[ZG,↓reduceIte,ZA,ZB,ZC,mbl,ZD,ZE,ZF];refine hΨ _ _ (fin_norm ⟨(kp.trans kp2).trans kp3,rfl,?_⟩);rw[wt_exc'] at s3;rw[show thing C d w p=((some q).bind (con0 C)).bind (exc C 0) from e3];exact s3
  ·have d4:x=4:=by omega
   simp only[ZG,↓reduceIte,ZA,ZB,ZC,s1r.own.cells.ld,mbl,ZD,ZE,ZF,d0,d1,d2,d3,eq_true d4];refine XX_of (rnext_ok s1') (fun res h2 hle2 hn=>?_);obtain ⟨kp2,rfl,s2⟩:=hn;refine .ret ?_;simp only[ZG,↓reduceIte,ZA,ZB,ZC,mbl,ZD,ZE,ZF];refine XX_of (want_ok s2 0 0 (Z3 _)) (fun res h3 hle3 hn=>?_);rw[nt_2] at hn;obtain ⟨kp3,rfl,s3⟩:=hn;refine .ret ?_;simp only[ZG,↓reduceIte,ZA,ZB,ZC,mbl,ZD,ZE,ZF];refine hΨ _ _ (fin_norm ⟨(kp.trans kp2).trans kp3,rfl,?_⟩);rw[wt_exc'] at s3;rw[show thing C d w p=((some q).bind fun p=>sn (nx C p)).bind (exc C 0) by simp only[thing,e1,d0,d1,d2,d3,eq_true d4,if_true,if_false,Z1];cases nx C q<;>rfl];exact s3
 ·rw[e2] at s1 ⊢
  rw[bind_no (C:=C) (f:=thing C d w) (fun p hp=>?_)] at hΨ
  rotate_left
  ·unfold thing
   cases hn:nx C p with
   | none=>rfl
   | some v =>
     have:=hno p v.1 v.2 hp hn;simp only;rw[if_neg (by omega),if_neg (by omega),if_neg (by omega),if_neg (by omega),if_neg (by omega)]
  obtain ⟨p,s1⟩:=s1;simp only[ZG,↓reduceIte,ZA,ZB,ZC,s1.own.cells.ld,mbl,ZD,ZE,ZF];exact hΨ _ _ (fin_ret (rv0 ⟨kp,rfl,p,s1⟩))
end
end Go.S18.V
