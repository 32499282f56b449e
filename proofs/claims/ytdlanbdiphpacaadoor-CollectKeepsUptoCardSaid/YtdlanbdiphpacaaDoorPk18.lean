import Derived.Test.YtdlanbdiphpacaaDoorPk17
import Derived.Test.YtdlanbdiphpacaaDoorPk12
set_option linter.unusedVariables false
set_option linter.unusedSimpArgs false
open Nat renaming reduceEqDiff -> ZA,reduceAdd -> ZB,reduceMul -> ZC,reduceLeDiff -> ZD,reduceLT -> ZE
open Int renaming reduceEq -> ZF
open List renaming getElem?_eq_getElem->Z0,length_set->Z4,take_append->Z5,take_of_length_le->Z8,length_append->Za,append_assoc->Zb
open Int renaming toNat_natCast->Z1,cast_ofNat_Int->Z2,natCast_add->Z3
open Nat renaming zero_le->Z6,mul_one->Z7,lt_of_lt_of_le->Z9
namespace Go.S19
open Go Go.Eng Go.Proofs Go.Chk
theorem rvc2 {e l:PE} {h:AH} {ds:List Dfr} {x y:RX} {f g:U} {p q u v:Value} {K:List Value->Prop} (hx:rx e l x=some p) (hu:uval Tryd.prog h h.length f p=some (u,none)) (hy:rx e l y=some q) (hv:uval Tryd.prog h h.length g q=some (v,none)) (hk:K [u,v]) :
 rvK Tryd.prog ⟨e,l,h,ds⟩ [.c x f,.c y g] K:=by
 simp only[rvK,hx,vK,hu,rK,hy,hv];exact hk
theorem small_ok (h:AH) (c:Int):Gets Tryd.prog 77 [iv c] h (fun res h'=>h'=h/\res = .ret (.bool (decide (¬ (0<=c/\c<=8))))):=by
 refine Gets.of (keep:=false) hP (draw_ok hM) k77 (by rfl) (fun Ψ hΨ=>?_)
 by_cases h0:c<0
 ·simp only[ZG,↓reduceIte,ZA,ZB,ZC,r77,YE,YC,YO,YA,YL,YX,YS,Ya,Yb,Yl,Yf,Yg,Yi,Ym,Yk,Yt,Yn,Yz,Yp,Yq,Yd,h0]
  exact hΨ _ _ (fin_ret (rv1 rfl ⟨rfl,by simp [tup];omega⟩))
 ·simp only[ZG,↓reduceIte,ZA,ZB,ZC,r77,YE,YC,YO,YA,YL,YX,YS,Ya,Yb,Yl,Yf,Yg,Yi,Ym,Yk,Yt,Yn,Yz,Yp,Yq,Yd,h0]
  exact hΨ _ _ (fin_ret (rv1 rfl ⟨rfl,by simp [tup];omega⟩))
section
variable {h:AH} {b:Nat} {C:Cx} {vi vc vt vp vk:Value} {p:Nat}
theorem index_ok (im:Img h C vi vc vt vp vk) (hm:C.cons.length<=9223372036854775807):Gets Tryd.prog 85 [vk,.func (.func 77) #[] #[]] h (fun res h'=>h'=h /\ ∃ i,res = .ret (iv i)/\(0<=i ↔ ¬ consOk C)):=by
 refine Gets.of (keep:=false) hP (draw_ok hM) k85 (by rfl) (fun Ψ hΨ=>?_);obtain ⟨ka,kc,hvk⟩:=row_shape im.rk;subst hvk;simp only[ZG,↓reduceIte,ZA,ZB,ZC,r85,YE,YC,YO,YA,YL,YX,YS,Ya,Yb,Yl,Yf,Yg,Yi,Ym,Yk,Yt,Yn,Yz,Yp,Yq,Yd];refine XLo_rule (α:=Nat) (fun i=>[(0,.slice ka C.cons.length kc),(1,.func (.func 77) #[] #[]),(7,iv C.cons.length),(8,iv i)])
  (fun i h'=>i<=C.cons.length/\h'=h /\ ∀ j,j<i -> ∀ c,C.cons[j]?=some c->0<=c/\c<=8) (fun i=>C.cons.length-i) 0 ⟨Z6 _,rfl,fun j hj=>by omega⟩ ⟨rfl,rfl,rfl,rfl,trivial⟩ ?_
 rintro i h1 Ψ2 ⟨i1,rfl,hall⟩ next out
 by_cases hi:(i:Int)<(C.cons.length:Int)
 ·have h0:0<=(i:Int):=by omega
  have hw:IntKind.i64.wrap ((i:Int)+1)=i+1:=i64w (by omega) (by omega);have hx:C.cons[(i:Int).toNat]?=some C.cons[i]:=by rw[Z1];exact Z0 (by omega)
  obtain ⟨b1,o1,c1,e1,_,hld⟩:=rds_ix im.rk h0 hx;cases e1;rw[Z1] at hld;simp only[ZG,↓reduceIte,ZA,ZB,ZC,hi,h0,and_self,Z1,Z7,hld,List.append_nil,List.nil_append];refine XX_val (small_ok h1 _) ?_
  by_cases hc:0<=C.cons[i]/\C.cons[i]<=8
  ·simp only[ZG,↓reduceIte,ZA,ZB,ZC,hc,and_self,not_true,hw]
   refine next (i+1) _ _ _ ⟨by omega,rfl,fun j hj c hcj=>?_⟩ ⟨rfl,rfl,rfl,?_,trivial⟩ (by omega)
   ·by_cases hji:j<i
    ·exact hall j hji c hcj
    ·have:j=i:=by omega
     subst this;rw[Z0 (by omega)] at hcj;cases hcj;exact hc
   ·simp only[Z3,Z2];rfl
  ·simp only[ZG,↓reduceIte,ZA,ZB,ZC,hc,not_false_eq_true]
   refine out .ret _ _ _ _ (by intro e;cases e) ?_;simp only[ZG,↓reduceIte,ZA,ZB,ZC];refine hΨ _ _ (fin_ret (rv1 rfl ⟨rfl,_,rfl,?_⟩))
   constructor
   ·intro _ hco;exact hc (hco _ (List.getElem_mem _))
   ·intro _;omega
 ·have hie:i=C.cons.length:=by omega
  simp only[ZG,↓reduceIte,ZA,ZB,ZC,hi];refine out (.exit 0) _ _ _ _ (by intro e;cases e) ?_;simp only[ZG,↓reduceIte,ZA,ZB,ZC];refine hΨ _ _ (fin_ret (rv1 rfl ⟨rfl,_,rfl,?_⟩))
  constructor
  ·intro e;omega
  ·intro e
   exfalso;refine e (fun c hc=>?_)
   obtain ⟨j,hj,rfl⟩:=List.getElem_of_mem hc;exact hall j (by omega) _ (Z0 hj)
theorem contains_ok (im:Img h C vi vc vt vp vk) (hm:C.cons.length<=9223372036854775807):Gets Tryd.prog 76 [vk,.func (.func 77) #[] #[]] h (fun res h'=>h'=h/\res = .ret (.bool (decide (¬ consOk C)))):=by
 refine Gets.of (keep:=false) hP (draw_ok hM) k76 (by rfl) (fun Ψ hΨ=>?_);simp only[ZG,↓reduceIte,ZA,ZB,ZC,r76,YE,YC,YO,YA,YL,YX,YS,Ya,Yb,Yl,Yf,Yg,Yi,Ym,Yk,Yt,Yn,Yz,Yp,Yq,Yd];refine XX_of (index_ok im hm) (fun res h' _ hn=>?_);obtain ⟨rfl,i,rfl,hi⟩:=hn;refine .ret ?_;simp only[ZG,↓reduceIte,ZA,ZB,ZC];refine hΨ _ _ (fin_ret (rv1 rfl ⟨rfl,?_⟩));simp only[tup]
 congr 2
 exact decide_eq_decide.2 hi
def EndO (h:AH) (C:Cx) (res:Res) (h':AH):Prop:=Keep (fun _=>False) h h'/\match ends C with
 | some l=>∃ v,res = .ret (.tuple #[v,iv 0])/\Ows h' 3 1 v l.length (ns (l.map Int.ofNat)) /\ ∀ q,bk v q->h.length<=q
 | none=>res = .ret (.tuple #[.slice none 0 0,iv 7])
def Cx.fits (C:Cx):Prop:=C.infos.length<=9223372036854775807/\C.code.length<=9223372036854775807/\C.tops.length<=9223372036854775807/\C.cons.length<=9223372036854775807
abbrev rsE:List RV:=[.c (.n 2) .ld,.c (.n 3) .ld]
theorem ends_fail {Ψ:Out->PS->Prop} (hΨ:∀ o s,finD Tryd.prog false 74 [0,1,4,5,9,10] (.n 5) r74 [] rsE (EndO h C) o s->Ψ o s) {e l:PE} {h':AH} {bL bE:Nat} {x y:Value} (v:{v:Value // v = .agg #[]})
 (h2:Eng.look e 2=some (.pointer (some ⟨bL,0,none⟩))) (h3:Eng.look e 3=some (.pointer (some ⟨bE,0,none⟩))) (o2:Own h' bL 23 [x]) (o3:Own h' bE 32 [y]) (hLE:bL≠bE) (g2:h.length<=bL) (g3:h.length<=bE) (kp:Keep (fun _=>False) h h') (hn:ends C=none) :
 Ψ (.pan (.iface 126 v.1)) ⟨e,l,h',[⟨.func 74,[.pointer (some ⟨bL,0,none⟩),.pointer (some ⟨bE,0,none⟩)],[]⟩]⟩:=by
 obtain ⟨v,rfl⟩:=v;refine hΨ _ _ (dfr_of (by rfl) (fun Ψ2 hΨ2=>?_));simp only[ZG,↓reduceIte,ZA,ZB,ZC,r74,YE,YC,YO,YA,YL,YX,YS,Ya,Yb,Yl,Yf,Yg,Yi,Ym,Yk,Yt,Yn,Yz,Yp,Yq,Yd,Option.getD_some,mbl,ZD,ZE,ZF];have on:=Own.new h' 126 h'.length [];have k0:Keep (fun _=>False) h' (h'++[row 126 h'.length []]):=Keep.push _ _ _;have o2':=o2.keep k0 (fun e=>e);have o3':=o3.keep k0 (fun e=>e);refine XH_own on rfl (by simp [Value.cells]) rfl (fun h4 q1 q2 q3=>?_);have lb2:=o2.lt;have lb3:=o3.lt;have o24:=o2'.keep q2 (fun e=>by omega);have o34:=o3'.keep q2 (fun e=>by omega);simp only[ZG,↓reduceIte,ZA,ZB,ZC];refine XH_own o24 rfl (by simp [Value.cells]) rfl (fun h5 p1 p2 p3=>?_);have o25:Own h5 bL 23 [.slice none 0 0]:=by simpa [Value.cells] using p1
 have o35:=o34.keep p2 (fun e=>hLE e.symm);simp only[ZG,↓reduceIte,ZA,ZB,ZC];refine XH_own o35 rfl (by simp [Value.cells]) rfl (fun h6 t1 t2 t3=>?_);have o36:Own h6 bE 32 [iv 7]:=by simpa [Value.cells] using t1
 have o26:=o25.keep t2 (fun e=>hLE e);simp only[ZG,↓reduceIte,ZA,ZB,ZC];have l4:h'.length<=h4.length:=by rw[q3];simp
 have kk:Keep (fun _=>False) h h6:=(((kp.trans k0).trans' q2 (fun c hc e=>by have:=kp.len;omega)).trans' p2 (fun c hc e=>by omega)).trans' t2 (fun c hc e=>by omega);refine hΨ2 _ _ ⟨.inl rfl,rfl,?_,⟨[],rfl⟩,rvc2 (p:=.pointer (some ⟨bL,0,none⟩)) (q:=.pointer (some ⟨bE,0,none⟩)) (u:=.slice none 0 0) (v:=iv 7) h2 ?_ h3 ?_ ⟨kk,?_⟩⟩
 ·show h'.length<=h6.length;rw[t3,p3];exact l4
 ·simp only[uval];rw[o26.cells.ld];rfl
 ·simp only[uval];rw[o36.cells.ld];rfl
 ·rw[hn];rfl
end
end Go.S19

namespace Go.S19
open Go Go.Eng Go.Proofs Go.Chk
section
variable {h:AH} {b:Nat} {C:Cx} {vi vc vt vp vk:Value} {p:Nat}
structure Mid (h:AH) (C:Cx) (vi vc vt vp vk:Value) (bI bL bE bR:Nat) (a:Nat × Nat × Value × List Nat) (h':AH):Prop where
 i1:a.1<=C.infos.length
 s:Rdr h' bR C vi vc vt vp vk a.2.1
 oI:Own h' bI 26 [vi,vc,vt,vp,iv C.main,vk]
 oL:Own h' bL 23 [a.2.2.1]
 oE:Own h' bE 32 [iv 0]
 ow:Ows h' 3 1 a.2.2.1 a.1 (ns (a.2.2.2.map Int.ofNat))
 fr:∀ q,bk a.2.2.1 q->bR<q
 ln:a.2.2.2.length=a.1
 kp:Keep (fun _=>False) h h'
 pl:a.2.1<=C.code.length
 bl:a.1<=a.2.1
 eq:∀ x,blocks C (C.code.length+1) (C.infos.drop a.1) a.2.1=x->blocks C (C.code.length+1) C.infos 0=(match x with
  | some (e,r)=>some (a.2.2.2++e,r)
  | none=>none)
set_option maxHeartbeats 2000000 in
theorem Ends_ok (im:Img h C vi vc vt vp vk) (fit:Cx.fits C):Gets Tryd.prog 68 [.agg #[vi,vc,vt,vp,iv C.main,vk]] h (EndO h C):=by
 refine Gets.ofd (keep:=false) (keepg:=false) hP (draw_ok hM) (draw_ok hM) k68 k74 (by rfl) (fun Ψ hΨ=>?_);obtain ⟨fi,fc,fp,fk⟩:=fit;obtain ⟨ia,ic,hvi⟩:=row_shape im.ri;obtain ⟨ca,cc,hvc⟩:=row_shape im.rc;obtain ⟨pa,pc,hvp⟩:=row_shape im.rp;have oI0:=Own.new h 26 h.length [vi,vc,vt,vp,iv C.main,vk];have kp1:Keep (fun _=>False) h (h++[row 26 h.length [vi,vc,vt,vp,iv C.main,vk]]):=Keep.push _ _ _;simp only[ZG,↓reduceIte,ZA,ZB,ZC,r68,YE,YC,YO,YA,YL,YX,YS,Ya,Yb,Yl,Yf,Yg,Yi,Ym,Yk,Yt,Yn,Yz,Yp,Yq,Yd,mbl,ZD,ZE,ZF];generalize hh1:h++[row 26 h.length [vi,vc,vt,vp,iv C.main,vk]]=h1 at oI0 kp1 ⊢;have hl1:h1.length=h.length+1:=by rw[<- hh1];simp
 have oL0:=Own.new h1 23 h1.length [.slice none 0 0];have kp2:Keep (fun _=>False) h1 (h1++[row 23 h1.length [.slice none 0 0]]):=Keep.push _ _ _;generalize hh2:h1++[row 23 h1.length [.slice none 0 0]]=h2 at oL0 kp2 ⊢;have hl2:h2.length=h1.length+1:=by rw[<- hh2];simp
 have oE:=Own.new h2 32 h2.length [iv 0];have kp3:Keep (fun _=>False) h2 (h2++[row 32 h2.length [iv 0]]):=Keep.push _ _ _;generalize hh3:h2++[row 32 h2.length [iv 0]]=h3 at oE kp3 ⊢;have hl3:h3.length=h2.length+1:=by rw[<- hh3];simp
 have oI:=(oI0.keep kp2 (fun e=>e)).keep kp3 (fun e=>e);have oL:=oL0.keep kp3 (fun e=>e);have kp:Keep (fun _=>False) h h3:=(kp1.trans kp2).trans kp3;have im3:=im.keep kp (fun _ _ e=>e);have hLE:h1.length≠h2.length:=by omega
 have fail0:=fun e l v e2 e3 hn=>ends_fail hΨ (e:=e) (l:=l) v e2 e3 oL oE hLE (by omega) (by omega) kp hn
 by_cases c1:0<=C.main
 case neg =>
  simp only[ZG,↓reduceIte,ZA,ZB,ZC,oI.cells.ld,mbl,ZD,ZE,ZF,hvp,hvi,hvc,c1];refine XX_of (must_false h3) (fun res hm hle hn=>?_);obtain ⟨rfl,v,rfl⟩:=hn;refine .pan ?_;simp only[ZG,↓reduceIte,ZA,ZB,ZC];exact fail0 _ _ v rfl rfl (by unfold ends;rw[if_neg];rintro ⟨⟨e,_⟩,_⟩;exact c1 e)
 by_cases c2:C.main<(C.tops.length:Int)
 case neg =>
  simp only[ZG,↓reduceIte,ZA,ZB,ZC,oI.cells.ld,mbl,ZD,ZE,ZF,hvp,hvi,hvc,c1,c2];refine XX_of (must_false h3) (fun res hm hle hn=>?_);obtain ⟨rfl,v,rfl⟩:=hn;refine .pan ?_;simp only[ZG,↓reduceIte,ZA,ZB,ZC];exact fail0 _ _ v rfl rfl (by unfold ends;rw[if_neg];rintro ⟨⟨_,e,_⟩,_⟩;exact c2 e)
 by_cases c3:(C.tops.length:Int)<=(C.infos.length:Int)
 case neg =>
  simp only[ZG,↓reduceIte,ZA,ZB,ZC,oI.cells.ld,mbl,ZD,ZE,ZF,hvp,hvi,hvc,c1,c2,c3];refine XX_of (must_false h3) (fun res hm hle hn=>?_);obtain ⟨rfl,v,rfl⟩:=hn;refine .pan ?_;simp only[ZG,↓reduceIte,ZA,ZB,ZC];exact fail0 _ _ v rfl rfl (by unfold ends;rw[if_neg];rintro ⟨⟨_,_,e,_⟩,_⟩;exact c3 (by omega))
 by_cases c4:(C.code.length:Int)<=200000
 case neg =>
  simp only[ZG,↓reduceIte,ZA,ZB,ZC,oI.cells.ld,mbl,ZD,ZE,ZF,hvp,hvi,hvc,c1,c2,c3,c4];refine XX_of (must_false h3) (fun res hm hle hn=>?_);obtain ⟨rfl,v,rfl⟩:=hn;refine .pan ?_;simp only[ZG,↓reduceIte,ZA,ZB,ZC];exact fail0 _ _ v rfl rfl (by unfold ends;rw[if_neg];rintro ⟨⟨_,_,_,e⟩,_⟩;exact c4 (by omega))
 have hd:headOk C:=⟨c1,c2,by omega,by omega⟩
 simp only[ZG,↓reduceIte,ZA,ZB,ZC,oI.cells.ld,mbl,ZD,ZE,ZF,hvp,hvi,hvc,c1,c2,c3,c4];refine XX_val (must_true h3) ?_;simp only[ZG,↓reduceIte,ZA,ZB,ZC,oI.cells.ld,mbl,ZD,ZE,ZF];refine XX_val (contains_ok im3 fk) ?_
 by_cases hc:consOk C
 case neg =>
  simp only[ZG,↓reduceIte,ZA,ZB,ZC,hc,not_false_eq_true];refine XX_of (must_false h3) (fun res hm hle hn=>?_);obtain ⟨rfl,v,rfl⟩:=hn;refine .pan ?_;simp only[ZG,↓reduceIte,ZA,ZB,ZC];exact fail0 _ _ v rfl rfl (by unfold ends;rw[if_neg];rintro ⟨_,e,_⟩;exact hc e)
 simp only[ZG,↓reduceIte,ZA,ZB,ZC,hc,not_true];refine XX_val (must_true h3) ?_;simp only[ZG,↓reduceIte,ZA,ZB,ZC,oI.cells.ld,mbl,ZD,ZE,ZF,hvp];refine XLo_rule (α:=Nat) (fun i=>[(1,.pointer (some ⟨h.length,0,none⟩)),(2,.pointer (some ⟨h1.length,0,none⟩)),(3,.pointer (some ⟨h2.length,0,none⟩)),(43,.slice pa C.tops.length pc),(44,iv C.tops.length),(45,iv i)])
  (fun i h'=>i<=C.tops.length/\h'=h3 /\ ∀ j,j<i->topOk C j) (fun i=>C.tops.length-i) 0 ⟨Z6 _,rfl,fun j hj=>by omega⟩ ⟨rfl,rfl,rfl,rfl,rfl,rfl,trivial⟩ ?_
 rintro i h' Ψ2 ⟨i1,rfl,hall⟩ next out
 by_cases hi:(i:Int)<(C.tops.length:Int)
 ·have h0:0<=(i:Int):=by omega
  have hw:IntKind.i64.wrap ((i:Int)+1)=i+1:=i64w (by omega) (by omega);have hx:C.tops[(i:Int).toNat]?=some C.tops[i]:=by rw[Z1];exact Z0 (by omega)
  obtain ⟨b1,o1,cc1,e1,_,hld⟩:=rds_ix im3.rp h0 hx;rw[Z1] at hld;have e1':=hvp.symm.trans e1;simp only[Value.slice.injEq] at e1';obtain ⟨rfl,_,rfl⟩:=e1';have hxi:C.infos[i]?=some C.infos[i]:=Z0 (by omega);obtain ⟨b2,o2,cc2,e2,hlt2,hf⟩:=rds_fld (by omega) Inf.len im3.ri hxi;have hf2:=hf 2 (by omega);simp only[Inf.cells,List.getElem?_cons_succ,List.getElem?_cons_zero,Option.map_some] at hf2;have hii:(i:Int)<(C.infos.length:Int):=by omega
  by_cases x1:C.tops[i]=(i:Int)
  case neg =>
   simp only[ZG,↓reduceIte,ZA,ZB,ZC,hi,h0,and_self,Z1,Z7,hld,x1];refine XX_of (must_false h') (fun res hm hle hn=>?_);obtain ⟨rfl,v,rfl⟩:=hn;refine .pan ?_;simp only[ZG,↓reduceIte,ZA,ZB,ZC];refine out (.pan _) _ _ _ _ (by intro e;cases e) ?_;simp only[ZG,↓reduceIte,ZA,ZB,ZC];exact fail0 _ _ v rfl rfl (by unfold ends;rw[if_neg];rintro ⟨_,_,e⟩;have:=(e i (by omega)).1;rw[Z0 (by omega)] at this;exact x1 (Option.some.inj this))
  rw[x1] at hld
  by_cases x2:C.infos[i].f=0
  case neg =>
   simp only[ZG,↓reduceIte,ZA,ZB,ZC,hi,h0,and_self,Z1,Z7,hld,oI.cells.ld,mbl,ZD,ZE,ZF,e2,hii,hf2,x2];refine XX_of (must_false h') (fun res hm hle hn=>?_);obtain ⟨rfl,v,rfl⟩:=hn;refine .pan ?_;simp only[ZG,↓reduceIte,ZA,ZB,ZC];refine out (.pan _) _ _ _ _ (by intro e;cases e) ?_;simp only[ZG,↓reduceIte,ZA,ZB,ZC];exact fail0 _ _ v rfl rfl (by unfold ends;rw[if_neg];rintro ⟨_,_,e⟩;have:=(e i (by omega)).2;rw[hxi] at this;exact x2 (by simpa using this))
  simp only[ZG,↓reduceIte,ZA,ZB,ZC,hi,h0,and_self,Z1,Z7,hld,oI.cells.ld,mbl,ZD,ZE,ZF,e2,hii,hf2,x2];refine XX_val (must_true h') ?_;simp only[ZG,↓reduceIte,ZA,ZB,ZC,hw];refine next (i+1) _ _ _ ⟨by omega,rfl,fun j hj=>?_⟩ ⟨rfl,rfl,rfl,rfl,rfl,?_,trivial⟩ (by omega)
  ·by_cases hji:j<i
   ·exact hall j hji
   ·have:j=i:=by omega
    subst this;exact ⟨by rw[Z0 (by omega),x1],by rw[hxi];simp [x2]⟩
  ·simp only[Z3,Z2];rfl
 simp only[ZG,↓reduceIte,ZA,ZB,ZC,hi];refine out (.exit 0) _ _ _ _ (by intro e;cases e) ?_;have htops:topsOk C:=fun j hj=>hall j (by omega)
 have hcond:headOk C/\consOk C/\topsOk C:=⟨hd,hc,htops⟩
 have eqE:ends C=(match blocks C (C.code.length+1) C.infos 0 with
  | some (e,r)=>if r=C.code.length then some e else none
  | none=>none):=by unfold ends;rw[if_pos hcond];rfl
 have s0:=Own.new h' 132 h'.length [vi,vc,vt,vp,iv C.main,vk,iv 0];have kp4:Keep (fun _=>False) h' (h'++[row 132 h'.length [vi,vc,vt,vp,iv C.main,vk,iv 0]]):=Keep.push _ _ _;simp only[ZG,↓reduceIte,ZA,ZB,ZC,oI.cells.lds 0 6 (by simp),mbl,ZD,ZE,ZF,hvi];rw[<- hvi];generalize hh4:h'++[row 132 h'.length [vi,vc,vt,vp,iv C.main,vk,iv 0]]=h4 at s0 kp4 ⊢;have hl4:h4.length=h'.length+1:=by rw[<- hh4];simp
 have kp04:=kp.trans kp4;have r0:Rdr h4 h'.length C vi vc vt vp vk 0:=⟨s0,im3.keep kp4 (fun _ _ e=>e),fun q e=>by have:=im3.lt q e;omega,by omega⟩
 simp only[ZG,↓reduceIte,ZA,ZB,ZC,(oI.keep kp4 (fun e=>e)).cells.ld,mbl,ZD,ZE,ZF,hvi];rw[<- hvi];refine XLo_rule (α:=Nat × Nat × Value × List Nat) (fun a=>[(1,.pointer (some ⟨h.length,0,none⟩)),(2,.pointer (some ⟨h1.length,0,none⟩)),(3,.pointer (some ⟨h2.length,0,none⟩)),(6,.pointer (some ⟨h'.length,0,none⟩)),(68,vi),(69,iv C.infos.length),(70,iv a.1)])
  (Mid h C vi vc vt vp vk h.length h1.length h2.length h'.length) (fun a=>C.infos.length-a.1) (0,0,.slice none 0 0,[])
  ⟨Z6 _,r0,oI.keep kp4 (fun e=>e),oL.keep kp4 (fun e=>e),oE.keep kp4 (fun e=>e),.nil,fun q e=>e.elim,rfl,kp04,Z6 _,Nat.le_refl _,fun x hx=>by
   rw[show blocks C (C.code.length+1) C.infos 0=x from hx];cases x with
   | none=>rfl
   | some y=>rfl⟩ ⟨rfl,rfl,rfl,rfl,by rw[hvi];rfl,rfl,rfl,trivial⟩ ?_
 rintro ⟨i,p,lv,l⟩ h5 Ψ3 ⟨j1,s5,oI5,oL5,oE5,ow5,fr5,ln5,kp5,pl5,bl5,eq5⟩ next2 out2;simp only at j1 s5 oL5 ow5 fr5 ln5 pl5 bl5 eq5;have lb:h'.length<h5.length:=s5.own.lt
 by_cases hi2:(i:Int)<(C.infos.length:Int)
 ·have h0:0<=(i:Int):=by omega
  have hw:IntKind.i64.wrap ((i:Int)+1)=i+1:=i64w (by omega) (by omega);have hil:i<C.infos.length:=by omega
  obtain ⟨⟨k,a,f,c⟩,hxi⟩:∃ x,C.infos[i]?=some x:=⟨_,Z0 hil⟩
  have hdr:C.infos.drop i=⟨k,a,f,c⟩::C.infos.drop (i+1):=by
   rw[List.drop_eq_getElem_cons hil];have:=Z0 hil;rw[hxi] at this;rw[<- Option.some.inj this]
  obtain ⟨b8,o8,c8,e8,hlt8,hld8⟩:=rds_str (by omega) Inf.len s5.im.ri hxi;simp only[Inf.cells,ns,List.map_cons,List.map_nil] at hld8;simp only[ZG,↓reduceIte,ZA,ZB,ZC,hi2,e8,h0,and_self,hld8,Z1,mbl,ZD,ZE,ZF];have on:=Own.new h5 91 h5.length [iv 0,iv 0,iv 0,iv 0];refine XH_own on rfl (by simp [Value.cells]) rfl (fun h8 q1 q2 q3=>?_);have on8:Own h8 h5.length 91 [iv k,iv a,iv f,iv c]:=by simpa [Value.cells] using q1
  have kp8:Keep (fun q=>q=h5.length) h5 h8:=((Keep.push (fun _=>False) h5 _).mono (fun _ e=>e.elim)).trans q2;have ll8:h8.length=h5.length+1:=by rw[q3];simp
  have s8:=s5.keep kp8 (by rintro q0 (rfl|e) e2;omega;have:=s5.im.lt _ e;omega);have oI8:=oI5.keep kp8 (fun e=>by have:=oI5.lt;omega);have oL8:=oL5.keep kp8 (fun e=>by have:=oL5.lt;omega);have oE8:=oE5.keep kp8 (fun e=>by have:=oE5.lt;omega);have ow8:=ow5.keep kp8 (fun q0 e e2=>by have:=ow5.lt q0 e;omega);have kph8:Keep (fun _=>False) h h8:=kp5.trans' kp8 (fun c hc e=>by have:=kp5.len;omega);have fail8:=fun e l v e2 e3 hn=>ends_fail hΨ (e:=e) (l:=l) v e2 e3 oL8 oE8 hLE (by omega) (by omega) kph8 hn
  have noI:¬ infoOk ⟨k,a,f,c⟩ p->ends C=none:=fun hno=>by
   have:=eq5 none (by rw[hdr,blocks,if_neg hno]);rw[eqE,this]
  by_cases k2:k=2
  ·by_cases a0:a=0
   ·simp only[ZG,↓reduceIte,ZA,ZB,ZC,on8.cells.ld,mbl,ZD,ZE,ZF,k2,a0]
    refine XX_val (must_true h8) ?_
    by_cases f0:0<=f
    case neg =>
     simp only[ZG,↓reduceIte,ZA,ZB,ZC,on8.cells.ld,mbl,ZD,ZE,ZF,f0];refine XX_of (must_false h8) (fun res hm hle hn=>?_);obtain ⟨rfl,v,rfl⟩:=hn;refine .pan ?_;simp only[ZG,↓reduceIte,ZA,ZB,ZC];refine out2 (.pan _) _ _ _ _ (by intro e;cases e) ?_;simp only[ZG,↓reduceIte,ZA,ZB,ZC];exact fail8 _ _ v rfl rfl (noI (by rintro ⟨_,e,_⟩;exact f0 e))
    by_cases cp:c=(p:Int)
    case neg =>
     simp only[ZG,↓reduceIte,ZA,ZB,ZC,on8.cells.ld,s8.own.cells.ld,mbl,ZD,ZE,ZF,f0,cp];refine XX_of (must_false h8) (fun res hm hle hn=>?_);obtain ⟨rfl,v,rfl⟩:=hn;refine .pan ?_;simp only[ZG,↓reduceIte,ZA,ZB,ZC];refine out2 (.pan _) _ _ _ _ (by intro e;cases e) ?_;simp only[ZG,↓reduceIte,ZA,ZB,ZC];exact fail8 _ _ v rfl rfl (noI (by rintro ⟨_,_,e⟩;exact cp e))
    have hio:infoOk ⟨k,a,f,c⟩ p:=⟨.inl ⟨k2,a0⟩,f0,cp⟩
    simp only[ZG,↓reduceIte,ZA,ZB,ZC,on8.cells.ld,s8.own.cells.ld,mbl,ZD,ZE,ZF,f0,cp];refine XX_val (must_true h8) ?_;simp only[ZG,↓reduceIte,ZA,ZB,ZC,on8.cells.ld,mbl,ZD,ZE,ZF];refine XX_of (expr_ok f (C.code.length+1) h8 p a (by omega) pl5 s8) (fun res h9 hle9 hn=>?_);obtain ⟨kp9,hn⟩:=hn;have kph9:Keep (fun _=>False) h h9:=kph8.trans' kp9 (fun c hc e=>by omega);have oL9:=oL8.keep kp9 (fun e=>by omega);have oE9:=oE8.keep kp9 (fun e=>by omega);have oI9:=oI8.keep kp9 (fun e=>by omega);have ow9:=ow8.keep kp9 (fun q0 e e2=>by have:=fr5 q0 e;omega);cases hx9:expr C (C.code.length+1) a f p with
    | none =>
      rw[hx9] at hn;obtain ⟨v9,rfl⟩:=hn;refine .pan ?_;simp only[ZG,↓reduceIte,ZA,ZB,ZC];refine out2 (.pan _) _ _ _ _ (by intro e;cases e) ?_;simp only[ZG,↓reduceIte,ZA,ZB,ZC];refine ends_fail hΨ v9 rfl rfl oL9 oE9 hLE (by omega) (by omega) kph9 ?_;have:=eq5 none (by rw[hdr,blocks,if_pos hio];simp only[hx9]);rw[eqE,this]
    | some q9 =>
      rw[hx9] at hn;obtain ⟨rfl,s9⟩:=hn;refine .ret ?_;have hon:=expr_on _ _ _ _ hx9;obtain ⟨v6,h6,k1,k2,k3,k4⟩:=app1 (bytes:=8) ow9 (xs:=[iv q9]) rfl rfl (by have:=s9.hl;omega) (by omega);simp only[ZG,↓reduceIte,ZA,ZB,ZC,oL9.cells.ld,s9.own.cells.ld,mbl,ZD,ZE,ZF,ct1,(oL9.keep (Keep.push (fun _=>False) h9 (row 3 h9.length [iv q9])) (fun e=>e)).cells.ld,k1];obtain ⟨va6,vc6,hv6⟩:=row_shape k2.rds;have l9:=kp9.len;have hb9:∀ q0,bk lv q0->h'.length<q0:=fr5;have oL6:=oL9.keep k3 (fun e=>by have:=hb9 _ e;have:=oL9.lt;omega);have kph6:Keep (fun _=>False) h h6:=kph9.trans' k3 (fun c hc e=>by have:=hb9 _ e;have:=kp5.len;omega);refine XH_own oL6 (by rw[hv6];rfl) (by rw[hv6];simp [Value.cells]) (by rw[hv6];rfl) (fun h7 t1 t2 t3=>?_);have oL7:Own h7 h1.length 23 [v6]:=by rw[hv6];simpa [Value.cells,hv6] using t1
      simp only[ZG,↓reduceIte,ZA,ZB,ZC,hw];have fr6:∀ q0,bk v6 q0->h'.length<q0:=fun q0 e=>by
       rcases k4 q0 e with e|e
       ·exact hb9 q0 e
       ·omega
      refine next2 (i+1,q9,v6,l++[q9]) _ _ _ ⟨by simp only;omega,?_,?_,oL7,?_,?_,fr6,by simp [ln5],kph6.trans' t2 (fun c hc e=>by omega),hon.2,by simp only;omega,?_⟩ ⟨rfl,rfl,rfl,rfl,by rw[e8];rfl,rfl,?_,trivial⟩ (by simp only;omega)
      ·refine (s9.keep k3 ?_).keep t2 ?_
       ·rintro q0 (rfl|e) e2
        ·have:=hb9 _ e2;omega
        ·have:=hb9 _ e2;have:=im3.lt _ e;omega
       ·rintro q0 (rfl|e) e2
        ·omega
        ·have:=im.lt _ e;omega
      ·exact (oI9.keep k3 (fun e=>by have:=hb9 _ e;omega)).keep t2 (fun e=>by omega)
      ·exact (oE9.keep k3 (fun e=>by have:=hb9 _ e;omega)).keep t2 (fun e=>by omega)
      ·have:=k2.keep t2 (fun q0 e e2=>by have:=fr6 _ e;omega)
       simpa [ns] using this
      ·intro x hx
       simp only at hx;cases x with
       | none =>
         have:=eq5 none (by rw[hdr,blocks,if_pos hio];simp only[hx9,hx]);rw[this]
       | some y =>
         obtain ⟨ye,yr⟩:=y;have:=eq5 (some (q9::ye,yr)) (by rw[hdr,blocks,if_pos hio];simp only[hx9,hx]);rw[this];simp
      ·simp only[Z3,Z2];rfl
   ·simp only[ZG,↓reduceIte,ZA,ZB,ZC,on8.cells.ld,mbl,ZD,ZE,ZF,k2,a0]
    refine XX_of (must_false h8) (fun res hm hle hn=>?_);obtain ⟨rfl,v,rfl⟩:=hn;refine .pan ?_;simp only[ZG,↓reduceIte,ZA,ZB,ZC];refine out2 (.pan _) _ _ _ _ (by intro e;cases e) ?_;simp only[ZG,↓reduceIte,ZA,ZB,ZC];exact fail8 _ _ v rfl rfl (noI (by rintro ⟨e|e,_⟩<;>simp only at e<;>omega))
  by_cases k1:k=1
  ·by_cases a1:0<a
   ·by_cases a8:a<=8
    ·simp only[ZG,↓reduceIte,ZA,ZB,ZC,on8.cells.ld,mbl,ZD,ZE,ZF,k2,k1,a1,a8]
     refine XX_val (must_true h8) ?_
     by_cases f0:0<=f
     case neg =>
      simp only[ZG,↓reduceIte,ZA,ZB,ZC,on8.cells.ld,mbl,ZD,ZE,ZF,f0];refine XX_of (must_false h8) (fun res hm hle hn=>?_);obtain ⟨rfl,v,rfl⟩:=hn;refine .pan ?_;simp only[ZG,↓reduceIte,ZA,ZB,ZC];refine out2 (.pan _) _ _ _ _ (by intro e;cases e) ?_;simp only[ZG,↓reduceIte,ZA,ZB,ZC];exact fail8 _ _ v rfl rfl (noI (by rintro ⟨_,e,_⟩;exact f0 e))
     by_cases cp:c=(p:Int)
     case neg =>
      simp only[ZG,↓reduceIte,ZA,ZB,ZC,on8.cells.ld,s8.own.cells.ld,mbl,ZD,ZE,ZF,f0,cp];refine XX_of (must_false h8) (fun res hm hle hn=>?_);obtain ⟨rfl,v,rfl⟩:=hn;refine .pan ?_;simp only[ZG,↓reduceIte,ZA,ZB,ZC];refine out2 (.pan _) _ _ _ _ (by intro e;cases e) ?_;simp only[ZG,↓reduceIte,ZA,ZB,ZC];exact fail8 _ _ v rfl rfl (noI (by rintro ⟨_,_,e⟩;exact cp e))
     have hio:infoOk ⟨k,a,f,c⟩ p:=⟨.inr ⟨k1,a1,a8⟩,f0,cp⟩
     simp only[ZG,↓reduceIte,ZA,ZB,ZC,on8.cells.ld,s8.own.cells.ld,mbl,ZD,ZE,ZF,f0,cp];refine XX_val (must_true h8) ?_;simp only[ZG,↓reduceIte,ZA,ZB,ZC,on8.cells.ld,mbl,ZD,ZE,ZF];refine XX_of (expr_ok f (C.code.length+1) h8 p a (by omega) pl5 s8) (fun res h9 hle9 hn=>?_);obtain ⟨kp9,hn⟩:=hn;have kph9:Keep (fun _=>False) h h9:=kph8.trans' kp9 (fun c hc e=>by omega);have oL9:=oL8.keep kp9 (fun e=>by omega);have oE9:=oE8.keep kp9 (fun e=>by omega);have oI9:=oI8.keep kp9 (fun e=>by omega);have ow9:=ow8.keep kp9 (fun q0 e e2=>by have:=fr5 q0 e;omega);cases hx9:expr C (C.code.length+1) a f p with
     | none =>
       rw[hx9] at hn;obtain ⟨v9,rfl⟩:=hn;refine .pan ?_;simp only[ZG,↓reduceIte,ZA,ZB,ZC];refine out2 (.pan _) _ _ _ _ (by intro e;cases e) ?_;simp only[ZG,↓reduceIte,ZA,ZB,ZC];refine ends_fail hΨ v9 rfl rfl oL9 oE9 hLE (by omega) (by omega) kph9 ?_;have:=eq5 none (by rw[hdr,blocks,if_pos hio];simp only[hx9]);rw[eqE,this]
     | some q9 =>
       rw[hx9] at hn;obtain ⟨rfl,s9⟩:=hn;refine .ret ?_;have hon:=expr_on _ _ _ _ hx9;obtain ⟨v6,h6,k1,k2,k3,k4⟩:=app1 (bytes:=8) ow9 (xs:=[iv q9]) rfl rfl (by have:=s9.hl;omega) (by omega);simp only[ZG,↓reduceIte,ZA,ZB,ZC,oL9.cells.ld,s9.own.cells.ld,mbl,ZD,ZE,ZF,ct1,(oL9.keep (Keep.push (fun _=>False) h9 (row 3 h9.length [iv q9])) (fun e=>e)).cells.ld,k1];obtain ⟨va6,vc6,hv6⟩:=row_shape k2.rds;have l9:=kp9.len;have hb9:∀ q0,bk lv q0->h'.length<q0:=fr5;have oL6:=oL9.keep k3 (fun e=>by have:=hb9 _ e;have:=oL9.lt;omega);have kph6:Keep (fun _=>False) h h6:=kph9.trans' k3 (fun c hc e=>by have:=hb9 _ e;have:=kp5.len;omega);refine XH_own oL6 (by rw[hv6];rfl) (by rw[hv6];simp [Value.cells]) (by rw[hv6];rfl) (fun h7 t1 t2 t3=>?_);have oL7:Own h7 h1.length 23 [v6]:=by rw[hv6];simpa [Value.cells,hv6] using t1
       simp only[ZG,↓reduceIte,ZA,ZB,ZC,hw];have fr6:∀ q0,bk v6 q0->h'.length<q0:=fun q0 e=>by
        rcases k4 q0 e with e|e
        ·exact hb9 q0 e
        ·omega
       refine next2 (i+1,q9,v6,l++[q9]) _ _ _ ⟨by simp only;omega,?_,?_,oL7,?_,?_,fr6,by simp [ln5],kph6.trans' t2 (fun c hc e=>by omega),hon.2,by simp only;omega,?_⟩ ⟨rfl,rfl,rfl,rfl,by rw[e8];rfl,rfl,?_,trivial⟩ (by simp only;omega)
       ·refine (s9.keep k3 ?_).keep t2 ?_
        ·rintro q0 (rfl|e) e2
         ·have:=hb9 _ e2;omega
         ·have:=hb9 _ e2;have:=im3.lt _ e;omega
        ·rintro q0 (rfl|e) e2
         ·omega
         ·have:=im.lt _ e;omega
       ·exact (oI9.keep k3 (fun e=>by have:=hb9 _ e;omega)).keep t2 (fun e=>by omega)
       ·exact (oE9.keep k3 (fun e=>by have:=hb9 _ e;omega)).keep t2 (fun e=>by omega)
       ·have:=k2.keep t2 (fun q0 e e2=>by have:=fr6 _ e;omega)
        simpa [ns] using this
       ·intro x hx
        simp only at hx;cases x with
        | none =>
          have:=eq5 none (by rw[hdr,blocks,if_pos hio];simp only[hx9,hx]);rw[this]
        | some y =>
          obtain ⟨ye,yr⟩:=y;have:=eq5 (some (q9::ye,yr)) (by rw[hdr,blocks,if_pos hio];simp only[hx9,hx]);rw[this];simp
       ·simp only[Z3,Z2];rfl
    ·simp only[ZG,↓reduceIte,ZA,ZB,ZC,on8.cells.ld,mbl,ZD,ZE,ZF,k2,k1,a1,a8]
     refine XX_of (must_false h8) (fun res hm hle hn=>?_);obtain ⟨rfl,v,rfl⟩:=hn;refine .pan ?_;simp only[ZG,↓reduceIte,ZA,ZB,ZC];refine out2 (.pan _) _ _ _ _ (by intro e;cases e) ?_;simp only[ZG,↓reduceIte,ZA,ZB,ZC];exact fail8 _ _ v rfl rfl (noI (by rintro ⟨e|e,_⟩<;>simp only at e<;>omega))
   ·simp only[ZG,↓reduceIte,ZA,ZB,ZC,on8.cells.ld,mbl,ZD,ZE,ZF,k2,k1,a1]
    refine XX_of (must_false h8) (fun res hm hle hn=>?_);obtain ⟨rfl,v,rfl⟩:=hn;refine .pan ?_;simp only[ZG,↓reduceIte,ZA,ZB,ZC];refine out2 (.pan _) _ _ _ _ (by intro e;cases e) ?_;simp only[ZG,↓reduceIte,ZA,ZB,ZC];exact fail8 _ _ v rfl rfl (noI (by rintro ⟨e|e,_⟩<;>simp only at e<;>omega))
  ·simp only[ZG,↓reduceIte,ZA,ZB,ZC,on8.cells.ld,mbl,ZD,ZE,ZF,k2,k1]
   refine XX_of (must_false h8) (fun res hm hle hn=>?_);obtain ⟨rfl,v,rfl⟩:=hn;refine .pan ?_;simp only[ZG,↓reduceIte,ZA,ZB,ZC];refine out2 (.pan _) _ _ _ _ (by intro e;cases e) ?_;simp only[ZG,↓reduceIte,ZA,ZB,ZC];exact fail8 _ _ v rfl rfl (noI (by rintro ⟨e|e,_⟩<;>simp only at e<;>omega))
 ·have hin:i=C.infos.length:=by omega
  subst hin;have eqB:=eq5 (some ([],p)) (by rw[List.drop_length];rfl);simp only[List.append_nil] at eqB;simp only[ZG,↓reduceIte,ZA,ZB,ZC,hi2];refine out2 (.exit 2) _ _ _ _ (by intro e;cases e) ?_;have fail5:=fun e l v e2 e3 hn=>ends_fail hΨ (e:=e) (l:=l) v e2 e3 oL5 oE5 hLE (by omega) (by omega) kp5 hn
  by_cases hpn:(p:Int)=(C.code.length:Int)
  ·simp only[ZG,↓reduceIte,ZA,ZB,ZC,s5.own.cells.ld,oI5.cells.ld,mbl,ZD,ZE,ZF,hvc,hpn]
   refine XX_val (must_true h5) ?_;obtain ⟨va5,vc5,hv5⟩:=row_shape ow5.rds;simp only[ZG,↓reduceIte,ZA,ZB,ZC,oL5.cells.ld,mbl,ZD,ZE,ZF];refine XH_own oL5 (by rw[hv5];rfl) (by rw[hv5];simp [Value.cells]) (by rw[hv5];rfl) (fun h6 t1 t2 t3=>?_);have oL6:Own h6 h1.length 23 [lv]:=by rw[hv5];simpa [Value.cells,hv5] using t1
   have oE6:=oE5.keep t2 (fun e=>by omega);have ow6:=ow5.keep t2 (fun q0 e e2=>by have:=fr5 q0 e;omega);simp only[ZG,↓reduceIte,ZA,ZB,ZC];refine XH_own oE6 rfl (by simp [Value.cells]) rfl (fun h7 u1 u2 u3=>?_);have oE7:Own h7 h2.length 32 [iv 0]:=by simpa [Value.cells] using u1
   have oL7:=oL6.keep u2 (fun e=>by omega);have ow7:=ow6.keep u2 (fun q0 e e2=>by have:=fr5 q0 e;omega);have kph7:Keep (fun _=>False) h h7:=(kp5.trans' t2 (fun c hc e=>by omega)).trans' u2 (fun c hc e=>by omega);simp only[ZG,↓reduceIte,ZA,ZB,ZC];refine hΨ _ _ (dfr_of (by rfl) (fun Ψ4 hΨ4=>?_));simp only[ZG,↓reduceIte,ZA,ZB,ZC,r74,YE,YC,YO,YA,YL,YX,YS,Ya,Yb,Yl,Yf,Yg,Yi,Ym,Yk,Yt,Yn,Yz,Yp,Yq,Yd,Option.getD_none,mbl,ZD,ZE,ZF];refine hΨ4 _ _ ⟨.inl rfl,rfl,Nat.le_refl _,⟨[],rfl⟩,rvc2 (p:=.pointer (some ⟨h1.length,0,none⟩)) (q:=.pointer (some ⟨h2.length,0,none⟩)) (u:=lv) (v:=iv 0) rfl ?_ rfl ?_ ⟨kph7,?_⟩⟩
   ·simp only[uval];rw[oL7.cells.ld];rfl
   ·simp only[uval];rw[oE7.cells.ld];rfl
   ·have:ends C=some l:=by rw[eqE,eqB];simp only;rw[if_pos (by omega)]
    rw[this];refine ⟨lv,rfl,by rw[ln5];exact ow7,fun q0 e=>by have:=fr5 q0 e;omega⟩
  ·simp only[ZG,↓reduceIte,ZA,ZB,ZC,s5.own.cells.ld,oI5.cells.ld,mbl,ZD,ZE,ZF,hvc,hpn]
   refine XX_of (must_false h5) (fun res hm hle hn=>?_);obtain ⟨rfl,v,rfl⟩:=hn;refine .pan ?_;simp only[ZG,↓reduceIte,ZA,ZB,ZC,wrN_t,wrN_n,wrN_z,wrN_nil,keepN_no];exact fail5 _ _ v rfl rfl (by rw[eqE,eqB];simp only;rw[if_neg (by omega)])
theorem Check_ok (im:Img h C vi vc vt vp vk) (fit:Cx.fits C):Gets Tryd.prog 42 [.agg #[vi,vc,vt,vp,iv C.main,vk]] h (fun res h'=>Keep (fun _=>False) h h'/\res = .ret (iv (if (ends C).isSome then 0 else 7))):=by
 refine Gets.of (keep:=false) hP (draw_ok hM) k42 (by rfl) (fun Ψ hΨ=>?_);obtain ⟨ia,ic,hvi⟩:=row_shape im.ri;have oI:=Own.new h 26 h.length [vi,vc,vt,vp,iv C.main,vk];have kp1:Keep (fun _=>False) h (h++[row 26 h.length [vi,vc,vt,vp,iv C.main,vk]]):=Keep.push _ _ _;simp only[ZG,↓reduceIte,ZA,ZB,ZC,r42,YE,YC,YO,YA,YL,YX,YS,Ya,Yb,Yl,Yf,Yg,Yi,Ym,Yk,Yt,Yn,Yz,Yp,Yq,Yd,mbl,ZD,ZE,ZF];generalize hh1:h++[row 26 h.length [vi,vc,vt,vp,iv C.main,vk]]=h1 at oI kp1 ⊢;simp only[ZG,↓reduceIte,ZA,ZB,ZC,oI.cells.lds 0 6 (by simp),mbl,ZD,ZE,ZF];refine XX_of (Ends_ok (im.keep kp1 (fun _ _ e=>e)) fit) (fun res h2 hle hn=>?_);obtain ⟨kp2,hn⟩:=hn;cases he:ends C with
 | none =>
   rw[he] at hn;subst hn;refine .ret ?_;simp only[ZG,↓reduceIte,ZA,ZB,ZC,mbl,ZD,ZE,ZF];exact hΨ _ _ (fin_ret (rv1 rfl ⟨kp1.trans kp2,by simp [he,tup]⟩))
 | some l =>
   rw[he] at hn;obtain ⟨v,rfl,_,_⟩:=hn;refine .ret ?_;simp only[ZG,↓reduceIte,ZA,ZB,ZC,mbl,ZD,ZE,ZF];exact hΨ _ _ (fin_ret (rv1 rfl ⟨kp1.trans kp2,by simp [he,tup]⟩))
end
end Go.S19

namespace Go.S19
open Go Go.Eng Go.Proofs
def wc (x:Int × Int):List Int:=[x.1,x.2]
theorem wc_len (x:Int × Int):(wc x).length=2:=rfl
def wv (x:Int × Int):Value:=.agg #[iv x.1,iv x.2]
abbrev ww (xs:List (Int × Int)):List Value:=rowsOf wc xs
theorem ww_len (xs:List (Int × Int)):(ww xs).length=xs.length*2:=rowsOf_len wc_len xs
def wat (xs:List (Int × Int)) (i:Int):Int × Int:=xs[i.toNat]?.getD (0,0)
theorem wat_at {xs:List (Int × Int)} {i:Int} (h0:0<=i) (h1:i<xs.length):xs[i.toNat]?=some (wat xs i):=by
 rw[wat,Z0 (show i.toNat<xs.length by omega)];rfl
def gw (xs:List (Int × Int)) (i:Int):Value:=if 0<=i/\i<xs.length then .tuple #[wv (wat xs i),iv 0] else .tuple #[wv (0,0),iv 2]
theorem rvw {e l:PE} {h:AH} {ds:List Dfr} {x y:RX} {b:Nat} {t:TypeId} {a1 a2 v:Value} {K:List Value->Prop} (hx:rx e l x=some (.pointer (some ⟨b,0,none⟩))) (hb:Own h b t [a1,a2]) (hy:rx e l y=some v) (hk:K [.agg #[a1,a2],v]) :
 rvK Tryd.prog ⟨e,l,h,ds⟩ [.c x (.ldn 2),.v y] K:=by
 have hc:hcell h b=some [a1,a2]:=hb.cells;simp only[rvK,hx,vK,uval,hc,Option.bind_some,rK,hy];exact hk
theorem rds_w {h:AH} {v:Value} {n:Nat} {xs:List (Int × Int)} (hr:Rds h 2 v n (ww xs)) {i:Int} (h0:0<=i) (h1:i<xs.length) :
 ∃ b o c,v = .slice (some ⟨b,o,none⟩) n c/\i<n/\ldcs h b (o+i.toNat*2) 2=some [iv (wat xs i).1,iv (wat xs i).2]:=by
 obtain ⟨b,o,c,e,hn,hl⟩:=rds_str (by omega) wc_len hr (wat_at h0 h1);exact ⟨b,o,c,e,by omega,by simpa [wc,ns] using hl⟩
theorem within_ok {h:AH} {b o:Nat} {all:List Value} {v:Value} {n:Nat} {cs:List Value} (hb:Cells h b all) (ho:all[o]?=some v) (hr:Rds h 2 v n cs) (i:Int) :
 Gets Tryd.prog 79 [.pointer (some ⟨b,o,none⟩),iv i] h (fun res h'=>h'=h/\res = .ret (.bool (decide (0<=i) && decide (i<n)))):=by
 refine Gets.of (keep:=false) hP (draw_ok hM) k79 (by rfl) (fun Ψ hΨ=>?_);obtain ⟨a,c,rfl⟩:=row_shape hr
 by_cases h0:0<=i
 ·simp only[ZG,↓reduceIte,ZA,ZB,ZC,r79,YE,YC,YO,YA,YL,YX,YS,Ya,Yb,Yl,Yf,Yg,Yi,Ym,Yk,Yt,Yn,Yz,Yp,Yq,Yd,h0,hb.ld,ho]
  exact hΨ _ _ (fin_ret (rv1 rfl ⟨rfl,by simp [tup,h0]⟩))
 ·simp only[ZG,↓reduceIte,ZA,ZB,ZC,r79,YE,YC,YO,YA,YL,YX,YS,Ya,Yb,Yl,Yf,Yg,Yi,Ym,Yk,Yt,Yn,Yz,Yp,Yq,Yd,h0]
  exact hΨ _ _ (fin_ret (rv1 rfl ⟨rfl,by simp [tup,h0]⟩))
theorem hget_ok {h:AH} {b o:Nat} {all:List Value} {v:Value} {xs:List (Int × Int)} (hb:Cells h b all) (ho:all[o]?=some v) (hr:Rds h 2 v xs.length (ww xs)) (i:Int) :
 Gets Tryd.prog 70 [.pointer (some ⟨b,o,none⟩),iv i] h (fun res h'=>Keep (fun _=>False) h h'/\res = .ret (gw xs i)):=by
 refine Gets.of (keep:=false) hP (draw_ok hM) k70 (by rfl) (fun Ψ hΨ=>?_);have on:=Own.new h 44 h.length [iv 0,iv 0];have kp:Keep (fun _=>False) h (h++[row 44 h.length [iv 0,iv 0]]):=Keep.push _ _ _;have hb1:=hb.keep kp (fun e=>e);have hr1:=hr.keep kp (fun _ _ e=>e);simp only[ZG,↓reduceIte,ZA,ZB,ZC,r70,YE,YC,YO,YA,YL,YX,YS,Ya,Yb,Yl,Yf,Yg,Yi,Ym,Yk,Yt,Yn,Yz,Yp,Yq,Yd];generalize h++[row 44 h.length [iv 0,iv 0]]=h1 at on kp hb1 hr1 ⊢;have hw:=within_ok hb1 ho hr1 i
 by_cases hin:0<=i/\i<xs.length
 ·rw[show (decide (0<=i) && decide (i<(xs.length:Int)))=true by simp [hin]] at hw
  refine XX_val hw ?_;obtain ⟨b1,o1,c1,e1,hn1,hld⟩:=rds_w hr1 hin.1 hin.2;subst e1;simp only[ZG,↓reduceIte,ZA,ZB,ZC,hb1.ld,ho,hin,and_self,hld];refine XH_own on rfl (by simp [Value.cells]) rfl (fun h2 q1 q2 q3=>?_);have on2:Own h2 h.length 44 [iv (wat xs i).1,iv (wat xs i).2]:=by simpa [Value.cells] using q1
  simp only[ZG,↓reduceIte,ZA,ZB,ZC];refine hΨ _ _ (fin_ret (rvw rfl on2 rfl ⟨kp.trans' q2 (fun c hc e=>by omega),?_⟩));rw[gw,if_pos hin];rfl
 ·rw[show (decide (0<=i) && decide (i<(xs.length:Int)))=false by simp;omega] at hw
  refine XX_val hw ?_;simp only[ZG,↓reduceIte,ZA,ZB,ZC,on.cells.lds 0 2 (by simp),mbl,ZD,ZE,ZF];refine XH_own on rfl (by simp [Value.cells]) rfl (fun h2 q1 q2 q3=>?_);have on2:Own h2 h.length 44 [iv 0,iv 0]:=by simpa [Value.cells] using q1
  simp only[ZG,↓reduceIte,ZA,ZB,ZC];refine hΨ _ _ (fin_ret (rvw rfl on2 rfl ⟨kp.trans' q2 (fun c hc e=>by omega),?_⟩));rw[gw,if_neg hin];rfl
theorem ows_openw {h:AH} {e n:Nat} {v:Value} {cs:List Value} (ho:Ows h e 2 v n cs) (hn:0<n):∃ b c all,v = .slice (some ⟨b,0,none⟩) n c/\Own h b e all/\all.length=c*2/\n<=c/\all.take (n*2)=cs:=by
 cases ho with
 | nil=>omega
 | @mk b n c all cs h1 h2 h3 h4=>exact ⟨b,c,all,rfl,h1,h2,h3,h4⟩
theorem wset {xs:List (Int × Int)} {i:Nat} {x:Int × Int} (hi:i<xs.length):ww (xs.set i x)=(ww xs).take (i*2)++ns (wc x)++(ww xs).drop (i*2+2):=by
 induction xs generalizing i with
 | nil=>simp at hi
 | cons y xs ih =>
   have e:∀ z (l:List (Int × Int)),ww (z::l)=ns (wc z)++ww l:=fun z l=>by simp [ww,rowsOf]
   cases i with
   | zero=>rw[List.set_cons_zero,e,e];simp [ns,wc]
   | succ i =>
     rw[List.set_cons_succ,e,e,ih (by simpa using hi)];rw[show (i+1)*2=2+i*2 by omega,show 2+i*2+2=2+(i*2+2) by omega];have l2:(ns (wc y)).length=2:=rfl;rw[Z5,List.drop_append,l2];simp [Z8,ns,wc,List.drop_eq_nil_of_le]
theorem hset_ok {h:AH} {b o:Nat} {all:List Value} {v:Value} {xs:List (Int × Int)} (hb:Own h b 115 all) (ho:all[o]?=some v) (hr:Ows h 44 2 v xs.length (ww xs)) (hne:∀ q,bk v q->q≠b) (i:Int) (x:Int × Int) :
 Gets Tryd.prog 69 [.pointer (some ⟨b,o,none⟩),iv i,wv x] h (fun res h'=>Keep (bk v) h h'/\if 0<=i/\i<xs.length then res = .ret (iv 0)/\Ows h' 44 2 v xs.length (ww (xs.set i.toNat x)) else res = .ret (iv 2)/\Keep (fun _=>False) h h'):=by
 refine Gets.of (keep:=false) hP (draw_ok hM) k69 (by rfl) (fun Ψ hΨ=>?_);have on:=Own.new h 44 h.length [iv x.1,iv x.2];have kp:Keep (fun _=>False) h (h++[row 44 h.length [iv x.1,iv x.2]]):=Keep.push _ _ _;have hb1:=hb.keep kp (fun e=>e);have hr1:=hr.keep kp (fun _ _ e=>e);simp only[ZG,↓reduceIte,ZA,ZB,ZC,r69,YE,YC,YO,YA,YL,YX,YS,Ya,Yb,Yl,Yf,Yg,Yi,Ym,Yk,Yt,Yn,Yz,Yp,Yq,Yd,wv,mbl,ZD,ZE,ZF];generalize h++[row 44 h.length [iv x.1,iv x.2]]=h1 at on kp hb1 hr1 ⊢;have hw:=within_ok hb1.cells ho hr1.rds i
 by_cases hin:0<=i/\i<xs.length
 ·rw[show (decide (0<=i) && decide (i<(xs.length:Int)))=true by simp [hin]] at hw
  refine XX_val hw ?_;obtain ⟨b1,c1,al,e1,o1,l1,n1,t1⟩:=ows_openw hr1 (by omega);subst e1;simp only[ZG,↓reduceIte,ZA,ZB,ZC,hb1.cells.ld,ho,hin,and_self,on.cells.lds 0 2 (by simp),mbl,ZD,ZE,ZF];refine XH_own o1 rfl (by simp [Value.cells];omega) rfl (fun h2 q1 q2 q3=>?_);simp only[ZG,↓reduceIte,ZA,ZB,ZC];have kq:Keep (bk (.slice (some ⟨b1,0,none⟩) xs.length c1)) h h2:=kp.mono (fun _ e=>e.elim) |>.trans q2;refine hΨ _ _ (fin_ret (rv1 rfl ⟨kq,?_⟩));rw[if_pos hin];have hi:i.toNat<xs.length:=by omega
  have q1':Own h2 b1 44 (al.take (i.toNat*2)++[iv x.1,iv x.2]++al.drop (i.toNat*2+2)):=by simpa [Value.cells] using q1
  refine ⟨rfl,.mk q1' (by simp;omega) n1 ?_⟩;rw[wset hi,<- t1];have e1:ns (wc x)=[iv x.1,iv x.2]:=rfl;rw[e1,Zb,Zb,Z5,List.length_take,show min (i.toNat*2) al.length=i.toNat*2 by omega];rw[List.take_take,List.take_take,show min (xs.length*2) (i.toNat*2)=i.toNat*2 by omega,show min (i.toNat*2) (xs.length*2)=i.toNat*2 by omega]
  congr 1
  rw[Z5,Z8 (show [iv x.1,iv x.2].length<=_ by simp;omega),List.drop_take]
  congr 1
 ·rw[show (decide (0<=i) && decide (i<(xs.length:Int)))=false by simp;omega] at hw
  refine XX_val hw ?_;simp only[ZG,↓reduceIte,ZA,ZB,ZC];refine hΨ _ _ (fin_ret (rv1 rfl ⟨kp.mono (fun _ e=>e.elim),?_⟩));rw[if_neg hin];exact ⟨rfl,kp⟩
structure WS (h:AH) (b:Nat) (size side:Int) (v0 v1:Value) (now old:List (Int × Int)):Prop where
 own:Own h b 115 [v0,v1,iv size,iv side]
 rn:Ows h 44 2 (if side=0 then v0 else v1) now.length (ww now)
 ro:Ows h 44 2 (if side=0 then v1 else v0) old.length (ww old)
 d:∀ q,bk v0 q -> ¬ bk v1 q
 d0:∀ q,bk v0 q->q≠b
 d1:∀ q,bk v1 q->q≠b
 sd:side=0\/side=1
 sz:0<=size/\size<=1048576
 ln:(now.length:Int)<=size
 lo:(old.length:Int)<=size
def WOwns (b:Nat) (v0 v1:Value) (q:Nat):Prop:=q=b\/bk v0 q\/bk v1 q
theorem WS.keep {S:Nat->Prop} {h h':AH} {b:Nat} {size side:Int} {v0 v1:Value} {now old:List (Int × Int)} (s:WS h b size side v0 v1 now old) (k:Keep S h h') (hs:∀ q,WOwns b v0 v1 q -> ¬ S q):WS h' b size side v0 v1 now old:=by
 refine ⟨s.own.keep k (hs _ (.inl rfl)),s.rn.keep k (fun q hq=>hs q ?_),s.ro.keep k (fun q hq=>hs q ?_),s.d,s.d0,s.d1,s.sd,s.sz,s.ln,s.lo⟩
 ·split at hq
  ·exact .inr (.inl hq)
  ·exact .inr (.inr hq)
 ·split at hq
  ·exact .inr (.inr hq)
  ·exact .inr (.inl hq)
theorem WS.lt {h:AH} {b:Nat} {size side:Int} {v0 v1:Value} {now old:List (Int × Int)} (s:WS h b size side v0 v1 now old):∀ q,WOwns b v0 v1 q->q<h.length:=by
 rintro q (e|e|e)
 ·rw[e];exact s.own.lt
 ·rcases s.sd with hs|hs
  ·exact s.rn.lt q (by rw[hs];exact e)
  ·exact s.ro.lt q (by rw[hs];exact e)
 ·rcases s.sd with hs|hs
  ·exact s.ro.lt q (by rw[hs];exact e)
  ·exact s.rn.lt q (by rw[hs];exact e)
theorem a20:(0<=(0:Int)/\(0:Int)<((2:Nat):Int))=True:=by simp
theorem a21:(0<=(1:Int)/\(1:Int)<((2:Nat):Int))=True:=by simp
theorem z0:Int.toNat 0*1=0:=rr rfl
theorem z1:Int.toNat 1*1=1:=rr rfl
theorem w10:IntKind.i64.wrap (1-0)=1:=rr rfl
theorem w11:IntKind.i64.wrap (1-1)=0:=rr rfl
theorem f10':((1:Int)=0)=False:=by simp
section
variable {h:AH} {b:Nat} {size side:Int} {v0 v1:Value} {now old:List (Int × Int)}
theorem wUsed_ok (s:WS h b size side v0 v1 now old):Gets Tryd.prog 34 [.pointer (some ⟨b,0,none⟩)] h (fun res h'=>h'=h/\res = .ret (iv now.length)):=by
 refine Gets.of (keep:=false) hP (draw_ok hM) k34 (by rfl) (fun Ψ hΨ=>?_);have rn:=s.rn;have ro:=s.ro
 rcases s.sd with rfl|rfl
 ·simp only[if_true] at rn ro
  obtain ⟨a,c,hv⟩:=row_shape rn.rds;simp only[ZG,↓reduceIte,ZA,ZB,ZC,r34,YE,YC,YO,YA,YL,YX,YS,Ya,Yb,Yl,Yf,Yg,Yi,Ym,Yk,Yt,Yn,Yz,Yp,Yq,Yd,s.own.cells.ld,mbl,ZD,ZE,ZF,a20,a21,z0,z1,w10,w11,hv];exact hΨ _ _ (fin_ret (rv1 rfl ⟨rfl,rfl⟩))
 ·simp only[f10',if_false] at rn ro
  obtain ⟨a,c,hv⟩:=row_shape rn.rds;simp only[ZG,↓reduceIte,ZA,ZB,ZC,r34,YE,YC,YO,YA,YL,YX,YS,Ya,Yb,Yl,Yf,Yg,Yi,Ym,Yk,Yt,Yn,Yz,Yp,Yq,Yd,s.own.cells.ld,mbl,ZD,ZE,ZF,a20,a21,z0,z1,w10,w11,hv];exact hΨ _ _ (fin_ret (rv1 rfl ⟨rfl,rfl⟩))
theorem wGet_ok (s:WS h b size side v0 v1 now old) (i:Int):Gets Tryd.prog 50 [.pointer (some ⟨b,0,none⟩),iv i] h (fun res h'=>Keep (fun _=>False) h h'/\res = .ret (gw now i)):=by
 refine Gets.of (keep:=false) hP (draw_ok hM) k50 (by rfl) (fun Ψ hΨ=>?_);have on:=Own.new h 44 h.length [iv 0,iv 0];have kp:Keep (fun _=>False) h (h++[row 44 h.length [iv 0,iv 0]]):=Keep.push _ _ _;have s1:=s.keep kp (fun _ _ e=>e);have rn:=s1.rn;have ro:=s1.ro;simp only[ZG,↓reduceIte,ZA,ZB,ZC,r50,YE,YC,YO,YA,YL,YX,YS,Ya,Yb,Yl,Yf,Yg,Yi,Ym,Yk,Yt,Yn,Yz,Yp,Yq,Yd];generalize h++[row 44 h.length [iv 0,iv 0]]=h1 at on kp s1 rn ro ⊢;have on1:h.length<h1.length:=on.lt
 rcases s.sd with rfl|rfl
 ·simp only[if_true] at rn ro
  have hg:=hget_ok s1.own.cells (o:=0) rfl rn.rds i;simp only[ZG,↓reduceIte,ZA,ZB,ZC,s1.own.cells.ld,mbl,ZD,ZE,ZF,a20,a21,z0,z1,w10,w11];refine XX_of hg (fun res h2 hle hn=>?_);obtain ⟨kp2,rfl⟩:=hn;refine .ret ?_;have on2:=on.keep kp2 (fun e=>e)
  by_cases hin:0<=i/\i<now.length
  ·simp only[ZG,↓reduceIte,ZA,ZB,ZC,gw,hin,and_self,mbl,ZD,ZE,ZF,wv]
   refine XH_own on2 rfl (by simp [Value.cells]) rfl (fun h3 q1 q2 q3=>?_);have on3:Own h3 h.length 44 [iv (wat now i).1,iv (wat now i).2]:=by simpa [Value.cells] using q1
   simp only[ZG,↓reduceIte,ZA,ZB,ZC];refine hΨ _ _ (fin_ret (rvw rfl on3 rfl ⟨(kp.trans kp2).trans' q2 (fun c hc e=>by omega),?_⟩));rw[gw,if_pos hin];rfl
  ·simp only[ZG,↓reduceIte,ZA,ZB,ZC,gw,hin,mbl,ZD,ZE,ZF,wv]
   refine XH_own on2 rfl (by simp [Value.cells]) rfl (fun h3 q1 q2 q3=>?_);have on3:Own h3 h.length 44 [iv 0,iv 0]:=by simpa [Value.cells] using q1
   simp only[ZG,↓reduceIte,ZA,ZB,ZC];refine hΨ _ _ (fin_ret (rvw rfl on3 rfl ⟨(kp.trans kp2).trans' q2 (fun c hc e=>by omega),?_⟩));rw[gw,if_neg hin];rfl
 ·simp only[f10',if_false] at rn ro
  have hg:=hget_ok s1.own.cells (o:=1) rfl rn.rds i;simp only[ZG,↓reduceIte,ZA,ZB,ZC,s1.own.cells.ld,mbl,ZD,ZE,ZF,a20,a21,z0,z1,w10,w11];refine XX_of hg (fun res h2 hle hn=>?_);obtain ⟨kp2,rfl⟩:=hn;refine .ret ?_;have on2:=on.keep kp2 (fun e=>e)
  by_cases hin:0<=i/\i<now.length
  ·simp only[ZG,↓reduceIte,ZA,ZB,ZC,gw,hin,and_self,mbl,ZD,ZE,ZF,wv]
   refine XH_own on2 rfl (by simp [Value.cells]) rfl (fun h3 q1 q2 q3=>?_);have on3:Own h3 h.length 44 [iv (wat now i).1,iv (wat now i).2]:=by simpa [Value.cells] using q1
   simp only[ZG,↓reduceIte,ZA,ZB,ZC];refine hΨ _ _ (fin_ret (rvw rfl on3 rfl ⟨(kp.trans kp2).trans' q2 (fun c hc e=>by omega),?_⟩));rw[gw,if_pos hin];rfl
  ·simp only[ZG,↓reduceIte,ZA,ZB,ZC,gw,hin,mbl,ZD,ZE,ZF,wv]
   refine XH_own on2 rfl (by simp [Value.cells]) rfl (fun h3 q1 q2 q3=>?_);have on3:Own h3 h.length 44 [iv 0,iv 0]:=by simpa [Value.cells] using q1
   simp only[ZG,↓reduceIte,ZA,ZB,ZC];refine hΨ _ _ (fin_ret (rvw rfl on3 rfl ⟨(kp.trans kp2).trans' q2 (fun c hc e=>by omega),?_⟩));rw[gw,if_neg hin];rfl
theorem wOld_ok (s:WS h b size side v0 v1 now old) (i:Int):Gets Tryd.prog 54 [.pointer (some ⟨b,0,none⟩),iv i] h (fun res h'=>Keep (fun _=>False) h h'/\res = .ret (gw old i)):=by
 refine Gets.of (keep:=false) hP (draw_ok hM) k54 (by rfl) (fun Ψ hΨ=>?_);have on:=Own.new h 44 h.length [iv 0,iv 0];have kp:Keep (fun _=>False) h (h++[row 44 h.length [iv 0,iv 0]]):=Keep.push _ _ _;have s1:=s.keep kp (fun _ _ e=>e);have rn:=s1.rn;have ro:=s1.ro;simp only[ZG,↓reduceIte,ZA,ZB,ZC,r54,YE,YC,YO,YA,YL,YX,YS,Ya,Yb,Yl,Yf,Yg,Yi,Ym,Yk,Yt,Yn,Yz,Yp,Yq,Yd];generalize h++[row 44 h.length [iv 0,iv 0]]=h1 at on kp s1 rn ro ⊢;have on1:h.length<h1.length:=on.lt
 rcases s.sd with rfl|rfl
 ·simp only[if_true] at rn ro
  have hg:=hget_ok s1.own.cells (o:=1) rfl ro.rds i;simp only[ZG,↓reduceIte,ZA,ZB,ZC,s1.own.cells.ld,mbl,ZD,ZE,ZF,a20,a21,z0,z1,w10,w11];refine XX_of hg (fun res h2 hle hn=>?_);obtain ⟨kp2,rfl⟩:=hn;refine .ret ?_;have on2:=on.keep kp2 (fun e=>e)
  by_cases hin:0<=i/\i<old.length
  ·simp only[ZG,↓reduceIte,ZA,ZB,ZC,gw,hin,and_self,mbl,ZD,ZE,ZF,wv]
   refine XH_own on2 rfl (by simp [Value.cells]) rfl (fun h3 q1 q2 q3=>?_);have on3:Own h3 h.length 44 [iv (wat old i).1,iv (wat old i).2]:=by simpa [Value.cells] using q1
   simp only[ZG,↓reduceIte,ZA,ZB,ZC];refine hΨ _ _ (fin_ret (rvw rfl on3 rfl ⟨(kp.trans kp2).trans' q2 (fun c hc e=>by omega),?_⟩));rw[gw,if_pos hin];rfl
  ·simp only[ZG,↓reduceIte,ZA,ZB,ZC,gw,hin,mbl,ZD,ZE,ZF,wv]
   refine XH_own on2 rfl (by simp [Value.cells]) rfl (fun h3 q1 q2 q3=>?_);have on3:Own h3 h.length 44 [iv 0,iv 0]:=by simpa [Value.cells] using q1
   simp only[ZG,↓reduceIte,ZA,ZB,ZC];refine hΨ _ _ (fin_ret (rvw rfl on3 rfl ⟨(kp.trans kp2).trans' q2 (fun c hc e=>by omega),?_⟩));rw[gw,if_neg hin];rfl
 ·simp only[f10',if_false] at rn ro
  have hg:=hget_ok s1.own.cells (o:=0) rfl ro.rds i;simp only[ZG,↓reduceIte,ZA,ZB,ZC,s1.own.cells.ld,mbl,ZD,ZE,ZF,a20,a21,z0,z1,w10,w11];refine XX_of hg (fun res h2 hle hn=>?_);obtain ⟨kp2,rfl⟩:=hn;refine .ret ?_;have on2:=on.keep kp2 (fun e=>e)
  by_cases hin:0<=i/\i<old.length
  ·simp only[ZG,↓reduceIte,ZA,ZB,ZC,gw,hin,and_self,mbl,ZD,ZE,ZF,wv]
   refine XH_own on2 rfl (by simp [Value.cells]) rfl (fun h3 q1 q2 q3=>?_);have on3:Own h3 h.length 44 [iv (wat old i).1,iv (wat old i).2]:=by simpa [Value.cells] using q1
   simp only[ZG,↓reduceIte,ZA,ZB,ZC];refine hΨ _ _ (fin_ret (rvw rfl on3 rfl ⟨(kp.trans kp2).trans' q2 (fun c hc e=>by omega),?_⟩));rw[gw,if_pos hin];rfl
  ·simp only[ZG,↓reduceIte,ZA,ZB,ZC,gw,hin,mbl,ZD,ZE,ZF,wv]
   refine XH_own on2 rfl (by simp [Value.cells]) rfl (fun h3 q1 q2 q3=>?_);have on3:Own h3 h.length 44 [iv 0,iv 0]:=by simpa [Value.cells] using q1
   simp only[ZG,↓reduceIte,ZA,ZB,ZC];refine hΨ _ _ (fin_ret (rvw rfl on3 rfl ⟨(kp.trans kp2).trans' q2 (fun c hc e=>by omega),?_⟩));rw[gw,if_neg hin];rfl
theorem wSet_ok (s:WS h b size side v0 v1 now old) (i:Int) (x:Int × Int):Gets Tryd.prog 47 [.pointer (some ⟨b,0,none⟩),iv i,wv x] h (fun res h'=>Keep (WOwns b v0 v1) h h' /\
 if 0<=i/\i<now.length then res = .ret (iv 0)/\WS h' b size side v0 v1 (now.set i.toNat x) old else res = .ret (iv 2)/\Keep (fun _=>False) h h'):=by
 refine Gets.of (keep:=false) hP (draw_ok hM) k47 (by rfl) (fun Ψ hΨ=>?_);have on:=Own.new h 44 h.length [iv x.1,iv x.2];have kp:Keep (fun _=>False) h (h++[row 44 h.length [iv x.1,iv x.2]]):=Keep.push _ _ _;have s1:=s.keep kp (fun _ _ e=>e);have rn:=s1.rn;have ro:=s1.ro;simp only[ZG,↓reduceIte,ZA,ZB,ZC,r47,YE,YC,YO,YA,YL,YX,YS,Ya,Yb,Yl,Yf,Yg,Yi,Ym,Yk,Yt,Yn,Yz,Yp,Yq,Yd,wv,mbl,ZD,ZE,ZF];generalize h++[row 44 h.length [iv x.1,iv x.2]]=h1 at on kp s1 rn ro ⊢
 rcases s.sd with rfl|rfl
 ·simp only[if_true] at rn ro
  have hg:=hset_ok s1.own (o:=0) rfl rn (fun q e=>s.d0 q e) i x;simp only[ZG,↓reduceIte,ZA,ZB,ZC,s1.own.cells.ld,on.cells.lds 0 2 (by simp),mbl,ZD,ZE,ZF,a20,a21,z0,z1,w10,w11];refine XX_of hg (fun res h2 hle hn=>?_);obtain ⟨kp2,hn⟩:=hn;have kq:Keep (WOwns b v0 v1) h h2:=(kp.mono (fun _ e=>e.elim)).trans (kp2.mono (fun q e=>.inr (.inl e)))
  by_cases hin:0<=i/\i<now.length
  ·rw[if_pos hin] at hn
   obtain ⟨rfl,o2⟩:=hn;refine .ret ?_;simp only[ZG,↓reduceIte,ZA,ZB,ZC];refine hΨ _ _ (fin_ret (rv1 rfl ⟨kq,?_⟩));rw[if_pos hin];refine ⟨rfl,s1.own.keep kp2 (fun e=>s.d0 b e rfl),?_,?_,s.d,s.d0,s.d1,s.sd,s.sz,by simpa using s.ln,s.lo⟩
   ·simp only[if_true];rw[Z4];exact o2
   ·simp only[if_true];exact ro.keep kp2 (fun q e e2=>s.d q e2 e)
  ·rw[if_neg hin] at hn
   obtain ⟨rfl,kp3⟩:=hn;refine .ret ?_;simp only[ZG,↓reduceIte,ZA,ZB,ZC];refine hΨ _ _ (fin_ret (rv1 rfl ⟨kq,?_⟩));rw[if_neg hin];exact ⟨rfl,kp.trans kp3⟩
 ·simp only[f10',if_false] at rn ro
  have hg:=hset_ok s1.own (o:=1) rfl rn (fun q e=>s.d1 q e) i x;simp only[ZG,↓reduceIte,ZA,ZB,ZC,s1.own.cells.ld,on.cells.lds 0 2 (by simp),mbl,ZD,ZE,ZF,a20,a21,z0,z1,w10,w11];refine XX_of hg (fun res h2 hle hn=>?_);obtain ⟨kp2,hn⟩:=hn;have kq:Keep (WOwns b v0 v1) h h2:=(kp.mono (fun _ e=>e.elim)).trans (kp2.mono (fun q e=>.inr (.inr e)))
  by_cases hin:0<=i/\i<now.length
  ·rw[if_pos hin] at hn
   obtain ⟨rfl,o2⟩:=hn;refine .ret ?_;simp only[ZG,↓reduceIte,ZA,ZB,ZC];refine hΨ _ _ (fin_ret (rv1 rfl ⟨kq,?_⟩));rw[if_pos hin];refine ⟨rfl,s1.own.keep kp2 (fun e=>s.d1 b e rfl),?_,?_,s.d,s.d0,s.d1,s.sd,s.sz,by simpa using s.ln,s.lo⟩
   ·simp only[f10',if_false];rw[Z4];exact o2
   ·simp only[f10',if_false];exact ro.keep kp2 (fun q e e2=>s.d q e e2)
  ·rw[if_neg hin] at hn
   obtain ⟨rfl,kp3⟩:=hn;refine .ret ?_;simp only[ZG,↓reduceIte,ZA,ZB,ZC];refine hΨ _ _ (fin_ret (rv1 rfl ⟨kq,?_⟩));rw[if_neg hin];exact ⟨rfl,kp.trans kp3⟩
theorem wSetOld_ok (s:WS h b size side v0 v1 now old) (i:Int) (x:Int × Int):Gets Tryd.prog 55 [.pointer (some ⟨b,0,none⟩),iv i,wv x] h (fun res h'=>Keep (WOwns b v0 v1) h h' /\
 if 0<=i/\i<old.length then res = .ret (iv 0)/\WS h' b size side v0 v1 now (old.set i.toNat x) else res = .ret (iv 2)/\Keep (fun _=>False) h h'):=by
 refine Gets.of (keep:=false) hP (draw_ok hM) k55 (by rfl) (fun Ψ hΨ=>?_);have on:=Own.new h 44 h.length [iv x.1,iv x.2];have kp:Keep (fun _=>False) h (h++[row 44 h.length [iv x.1,iv x.2]]):=Keep.push _ _ _;have s1:=s.keep kp (fun _ _ e=>e);have rn:=s1.rn;have ro:=s1.ro;simp only[ZG,↓reduceIte,ZA,ZB,ZC,r55,YE,YC,YO,YA,YL,YX,YS,Ya,Yb,Yl,Yf,Yg,Yi,Ym,Yk,Yt,Yn,Yz,Yp,Yq,Yd,wv,mbl,ZD,ZE,ZF];generalize h++[row 44 h.length [iv x.1,iv x.2]]=h1 at on kp s1 rn ro ⊢
 rcases s.sd with rfl|rfl
 ·simp only[if_true] at rn ro
  have hg:=hset_ok s1.own (o:=1) rfl ro (fun q e=>s.d1 q e) i x;simp only[ZG,↓reduceIte,ZA,ZB,ZC,s1.own.cells.ld,on.cells.lds 0 2 (by simp),mbl,ZD,ZE,ZF,a20,a21,z0,z1,w10,w11];refine XX_of hg (fun res h2 hle hn=>?_);obtain ⟨kp2,hn⟩:=hn;have kq:Keep (WOwns b v0 v1) h h2:=(kp.mono (fun _ e=>e.elim)).trans (kp2.mono (fun q e=>.inr (.inr e)))
  by_cases hin:0<=i/\i<old.length
  ·rw[if_pos hin] at hn
   obtain ⟨rfl,o2⟩:=hn;refine .ret ?_;simp only[ZG,↓reduceIte,ZA,ZB,ZC];refine hΨ _ _ (fin_ret (rv1 rfl ⟨kq,?_⟩));rw[if_pos hin];refine ⟨rfl,s1.own.keep kp2 (fun e=>s.d1 b e rfl),?_,?_,s.d,s.d0,s.d1,s.sd,s.sz,s.ln,by simpa using s.lo⟩
   ·simp only[if_true];exact rn.keep kp2 (fun q e e2=>s.d q e e2)
   ·simp only[if_true];rw[Z4];exact o2
  ·rw[if_neg hin] at hn
   obtain ⟨rfl,kp3⟩:=hn;refine .ret ?_;simp only[ZG,↓reduceIte,ZA,ZB,ZC];refine hΨ _ _ (fin_ret (rv1 rfl ⟨kq,?_⟩));rw[if_neg hin];exact ⟨rfl,kp.trans kp3⟩
 ·simp only[f10',if_false] at rn ro
  have hg:=hset_ok s1.own (o:=0) rfl ro (fun q e=>s.d0 q e) i x;simp only[ZG,↓reduceIte,ZA,ZB,ZC,s1.own.cells.ld,on.cells.lds 0 2 (by simp),mbl,ZD,ZE,ZF,a20,a21,z0,z1,w10,w11];refine XX_of hg (fun res h2 hle hn=>?_);obtain ⟨kp2,hn⟩:=hn;have kq:Keep (WOwns b v0 v1) h h2:=(kp.mono (fun _ e=>e.elim)).trans (kp2.mono (fun q e=>.inr (.inl e)))
  by_cases hin:0<=i/\i<old.length
  ·rw[if_pos hin] at hn
   obtain ⟨rfl,o2⟩:=hn;refine .ret ?_;simp only[ZG,↓reduceIte,ZA,ZB,ZC];refine hΨ _ _ (fin_ret (rv1 rfl ⟨kq,?_⟩));rw[if_pos hin];refine ⟨rfl,s1.own.keep kp2 (fun e=>s.d0 b e rfl),?_,?_,s.d,s.d0,s.d1,s.sd,s.sz,s.ln,by simpa using s.lo⟩
   ·simp only[f10',if_false];exact rn.keep kp2 (fun q e e2=>s.d q e2 e)
   ·simp only[f10',if_false];rw[Z4];exact o2
  ·rw[if_neg hin] at hn
   obtain ⟨rfl,kp3⟩:=hn;refine .ret ?_;simp only[ZG,↓reduceIte,ZA,ZB,ZC];refine hΨ _ _ (fin_ret (rv1 rfl ⟨kq,?_⟩));rw[if_neg hin];exact ⟨rfl,kp.trans kp3⟩
theorem wAlloc_ok {u:Value} {ys:List (Int × Int)} (s:WS h b size side v0 v1 now old) (hu:Rds h 2 u ys.length (ww ys)) :
 Gets Tryd.prog 67 [.pointer (some ⟨b,0,none⟩),u] h (fun res h' =>
  if size-(now.length:Int)<ys.length then h'=h/\res = .ret (.tuple #[iv 0,iv 3])
  else res = .ret (.tuple #[iv now.length,iv 0])/\Keep (WOwns b v0 v1) h h' /\ ∃ v0' v1',WS h' b size side v0' v1' (now++ys) old /\ ∀ q,WOwns b v0' v1' q->WOwns b v0 v1 q\/h.length<=q):=by
 refine Gets.of (keep:=false) hP (draw_ok hM) k67 (by rfl) (fun Ψ hΨ=>?_);obtain ⟨ua,uc,rfl⟩:=row_shape hu;obtain ⟨_,hsrc,rfl⟩:=hu.src (rowsOf_one ys);have hsz:=s.sz;have hl0:=s.ln;have hw:IntKind.i64.wrap (size-(now.length:Int))=size-now.length:=i64w (by omega) (by omega);have rn:=s.rn;have ro:=s.ro
 rcases s.sd with rfl|rfl
 ·simp only[if_true] at rn ro
  obtain ⟨a0,c0,hv0⟩:=row_shape rn.rds
  by_cases hf:size-(now.length:Int)<(ys.length:Int)
  ·simp only[ZG,↓reduceIte,ZA,ZB,ZC,r67,YE,YC,YO,YA,YL,YX,YS,Ya,Yb,Yl,Yf,Yg,Yi,Ym,Yk,Yt,Yn,Yz,Yp,Yq,Yd,s.own.cells.ld,mbl,ZD,ZE,ZF,a20,a21,z0,z1,w10,w11,hv0,hw,hf]
   refine hΨ _ _ (fin_ret (rv2 rfl rfl ?_));rw[if_pos hf];exact ⟨rfl,rfl⟩
  ·obtain ⟨s',h',k1,k2,k3,k4⟩:=rn.app (bytes:=16) hsrc (by rw[ww_len]) (rowsOf_one ys) (by omega) (by omega)
   have hown:=s.own.keep k3 (fun q=>s.d0 b q rfl);have hoth:=ro.keep k3 (fun q hq e=>s.d q e hq);obtain ⟨a2,c2,hs'⟩:=row_shape k2.rds;subst hv0;simp only[ZG,↓reduceIte,ZA,ZB,ZC,r67,YE,YC,YO,YA,YL,YX,YS,Ya,Yb,Yl,Yf,Yg,Yi,Ym,Yk,Yt,Yn,Yz,Yp,Yq,Yd,s.own.cells.ld,mbl,ZD,ZE,ZF,a20,a21,z0,z1,w10,w11,hw,hf,k1];subst hs';refine XH_own hown rfl (by simp [Value.cells]) rfl (fun h2 q1 q2 q3=>?_);simp only[ZG,↓reduceIte,ZA,ZB,ZC];refine hΨ _ _ (fin_ret (rv2 rfl rfl ?_));have hnb:∀ q,bk (.slice a2 (now.length+ys.length) c2) q->q≠b:=by
    intro q hq e
    rcases k4 q hq with k|k
    ·exact s.d0 q k e
    ·have:=s.own.lt;omega
   have hd2:∀ q,bk (.slice a2 (now.length+ys.length) c2) q -> ¬ bk v1 q:=by
    intro q hq e
    rcases k4 q hq with k|k
    ·exact s.d q k e
    ·have:=ro.lt q e;omega
   rw[if_neg hf];refine ⟨rfl,⟨by rw[q3];exact k3.len,fun q hq hs=>?_⟩,_,v1,⟨q1,?_,?_,hd2,hnb,s.d1,s.sd,s.sz,by simp;omega,s.lo⟩,?_⟩
   ·rw[q2.same q (Z9 hq k3.len) (fun e=>hs (.inl e)),k3.same q hq (fun e=>hs (.inr (.inl e)))]
   ·simp only[if_true,Za]
    rw[show ww (now++ys)=ww now++ww ys from rowsOf_app now ys];exact k2.keep q2 (fun q hq e=>hnb q hq e)
   ·simp only[if_true]
    exact hoth.keep q2 (fun q hq e=>s.d1 q hq e)
   ·rintro q (e|e|e)
    ·exact .inl (.inl e)
    ·exact (k4 q e).elim (fun e=>.inl (.inr (.inl e))) .inr
    ·exact .inl (.inr (.inr e))
 ·simp only[f10',if_false] at rn ro
  obtain ⟨a0,c0,hv0⟩:=row_shape rn.rds
  by_cases hf:size-(now.length:Int)<(ys.length:Int)
  ·simp only[ZG,↓reduceIte,ZA,ZB,ZC,r67,YE,YC,YO,YA,YL,YX,YS,Ya,Yb,Yl,Yf,Yg,Yi,Ym,Yk,Yt,Yn,Yz,Yp,Yq,Yd,s.own.cells.ld,mbl,ZD,ZE,ZF,a20,a21,z0,z1,w10,w11,hv0,hw,hf]
   refine hΨ _ _ (fin_ret (rv2 rfl rfl ?_));rw[if_pos hf];exact ⟨rfl,rfl⟩
  ·obtain ⟨s',h',k1,k2,k3,k4⟩:=rn.app (bytes:=16) hsrc (by rw[ww_len]) (rowsOf_one ys) (by omega) (by omega)
   have hown:=s.own.keep k3 (fun q=>s.d1 b q rfl);have hoth:=ro.keep k3 (fun q hq e=>s.d q hq e);obtain ⟨a2,c2,hs'⟩:=row_shape k2.rds;subst hv0;simp only[ZG,↓reduceIte,ZA,ZB,ZC,r67,YE,YC,YO,YA,YL,YX,YS,Ya,Yb,Yl,Yf,Yg,Yi,Ym,Yk,Yt,Yn,Yz,Yp,Yq,Yd,s.own.cells.ld,mbl,ZD,ZE,ZF,a20,a21,z0,z1,w10,w11,hw,hf,k1];subst hs';refine XH_own hown rfl (by simp [Value.cells]) rfl (fun h2 q1 q2 q3=>?_);simp only[ZG,↓reduceIte,ZA,ZB,ZC];refine hΨ _ _ (fin_ret (rv2 rfl rfl ?_));have hnb:∀ q,bk (.slice a2 (now.length+ys.length) c2) q->q≠b:=by
    intro q hq e
    rcases k4 q hq with k|k
    ·exact s.d1 q k e
    ·have:=s.own.lt;omega
   have hd2:∀ q,bk (.slice a2 (now.length+ys.length) c2) q -> ¬ bk v0 q:=by
    intro q hq e
    rcases k4 q hq with k|k
    ·exact s.d q e k
    ·have:=ro.lt q e;omega
   rw[if_neg hf];refine ⟨rfl,⟨by rw[q3];exact k3.len,fun q hq hs=>?_⟩,v0,_,⟨q1,?_,?_,fun q a b2=>hd2 q b2 a,s.d0,hnb,s.sd,s.sz,by simp;omega,s.lo⟩,?_⟩
   ·rw[q2.same q (Z9 hq k3.len) (fun e=>hs (.inl e)),k3.same q hq (fun e=>hs (.inr (.inr e)))]
   ·simp only[f10',if_false,Za]
    rw[show ww (now++ys)=ww now++ww ys from rowsOf_app now ys];exact k2.keep q2 (fun q hq e=>hnb q hq e)
   ·simp only[f10',if_false]
    exact hoth.keep q2 (fun q hq e=>s.d0 q hq e)
   ·rintro q (e|e|e)
    ·exact .inl (.inl e)
    ·exact .inl (.inr (.inl e))
    ·exact (k4 q e).elim (fun e=>.inl (.inr (.inr e))) .inr
end
theorem wNew_ok (h:AH) (size:Int) (hs:0<=size/\size<=1048576):Gets Tryd.prog 43 [iv size] h (fun res h'=>res = .ret (.tuple #[.pointer (some ⟨h.length,0,none⟩),iv 0])/\Keep (fun _=>False) h h'/\h'.length=h.length+1/\WS h' h.length size 0 (.slice none 0 0) (.slice none 0 0) [] []):=by
 refine Gets.of (keep:=false) hP (draw_ok hM) k43 (by rfl) (fun Ψ hΨ=>?_);have h0:¬ size<0:=by omega
 have h1:¬ (1048576:Int)<size:=by omega
 simp only[ZG,↓reduceIte,ZA,ZB,ZC,r43,YE,YC,YO,YA,YL,YX,YS,Ya,Yb,Yl,Yf,Yg,Yi,Ym,Yk,Yt,Yn,Yz,Yp,Yq,Yd,h0,h1,mbl,ZD,ZE,ZF];refine hΨ _ _ (fin_ret (rv2 rfl rfl ⟨rfl,Keep.push _ _ _,by simp,Own.new h _ _ _,.nil,.nil,fun q e=>e.elim,fun q e=>e.elim,fun q e=>e.elim,.inl rfl,hs,by simpa using hs.1,by simpa using hs.1⟩))
end Go.S19
