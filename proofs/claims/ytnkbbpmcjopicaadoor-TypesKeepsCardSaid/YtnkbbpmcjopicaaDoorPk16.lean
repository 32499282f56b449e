import Derived.Test.YtnkbbpmcjopicaaDoorPk15
import Derived.Test.YtnkbbpmcjopicaaDoorPk12
import Derived.Lib.SmallJoins
import Derived.Test.YtnkbbpmcjopicaaDoorPk13
import Derived.Lib.ItoaLen
set_option linter.unusedVariables false
set_option linter.unusedSimpArgs false
open Nat renaming reduceEqDiff -> ZA,reduceAdd -> ZB,reduceMul -> ZC,reduceLeDiff -> ZD,reduceLT -> ZE
open Int renaming reduceEq -> ZF
open List renaming getElem?_eq_getElem->Z0,length_append->Z1,take_succ_cons->Z2,replicate->Z3,getElem?_eq_some_iff->Z4,length_cons->Z6,getElem?_append_right->Z9,getElem?_append_left->Za,length_nil->Zf,map_cons->Zh,sum_cons->Zi,take_add_one->Zk
open Int renaming min_eq_right->Z5,toNat_natCast->Z8,min_eq_left->Zb,cast_ofNat_Int->Zc,natCast_add->Ze
open Nat renaming le_refl->Z7,mul_one->Zg,zero_le->Zj
open Bool renaming false_eq_true->Zd
namespace Go.S11
open Go Go.Eng Go.Proofs Go.Scn Go.Typ
section
variable {h h':AH} {b:Nat} {L:TL} {cs:List Ce} {T:List Tm} {ρ:Nat->Nat} {sp:Bool}
theorem tlen_ok (s:TH h b L cs T ρ sp):Gets Tryd.prog 39 [.pointer (some ⟨L.bs,0,none⟩)] h (fun res h'=>h'=h/\res = .ret (iv (T.length:Int))):=by
 refine Gets.of (keep:=false) hP (draw_ok hM) k39 (by rfl) (fun Ψ hΨ=>?_);obtain ⟨k0,os⟩:=s.os;obtain ⟨va,vc,hv⟩:=row_shape s.oc.rds;simp only[ZG,↓reduceIte,ZA,ZB,ZC,r39,YE,YC,YO,YA,YL,YX,YS,Ya,Yb,Yl,Yf,Yg,Yi,Ym,Yk,Yt,Yn,Yz,Yp,Yq,Yd,os.cells.ld,hv,mbl,ZD,ZE,ZF];exact hΨ _ _ (fin_ret (rv1 rfl ⟨rfl,by rw[<- s.len];rfl⟩))
theorem out_ok (s:TH h b L cs T ρ sp) {q t:Nat} (oq:Own h q t [.pointer (some ⟨b,0,none⟩)]) {a:Nat} (ha:a<T.length):Gets Tryd.prog 38 [iv (a:Int),.pointer (some ⟨q,0,none⟩)] h (fun res h'=>h'=h/\res = .ret (.bool false)):=by
 refine Gets.of (keep:=false) hP (draw_ok hM) k38 (by rfl) (fun Ψ hΨ=>?_);have d0:((a:Int)<0)=False:=by simp
 have d1:((T.length:Int)<=(a:Int))=False:=by simp;omega
 simp only[ZG,↓reduceIte,ZA,ZB,ZC,r38,YE,YC,YO,YA,YL,YX,YS,Ya,Yb,Yl,Yf,Yg,Yi,Ym,Yk,Yt,Yn,Yz,Yp,Yq,Yd,d0,oq.cells.ld,s.own.cells.ld,mbl,ZD,ZE,ZF];refine XX_val (tlen_ok s) ?_;simp only[ZG,↓reduceIte,ZA,ZB,ZC,d1];exact hΨ _ _ (fin_ret (rv1 rfl ⟨rfl,rfl⟩))
theorem indexOut_ok (s:TH h b L cs T ρ sp) {q t:Nat} (oq:Own h q t [.pointer (some ⟨b,0,none⟩)]) {l:List Nat} {u:Value} (hu:Rds h 1 u l.length (nn l)) (hn:l.length<=1000000000) (hl:∀ a∈l,a<T.length):Gets Tryd.prog 54 [u,.func (.func 38) #[] #[.pointer (some ⟨q,0,none⟩)]] h (fun res h'=>h'=h/\res = .ret (iv (-1))):=by
 refine Gets.of (keep:=false) hP (draw_ok hM) k54 (by rfl) (fun Ψ hΨ=>?_);obtain ⟨ua,uc,hue⟩:=row_shape hu;simp only[ZG,↓reduceIte,ZA,ZB,ZC,r54,YE,YC,YO,YA,YL,YX,YS,Ya,Yb,Yl,Yf,Yg,Yi,Ym,Yk,Yt,Yn,Yz,Yp,Yq,Yd,mbl,ZD,ZE,ZF,hue];rw[<- hue];refine XLo_rule (α:=Nat) (fun i=>[(0,u),(1,.func (.func 38) #[] #[.pointer (some ⟨q,0,none⟩)]),(7,iv l.length),(8,iv i)]) (fun i h'=>i<=l.length/\h'=h) (fun i=>l.length-i) 0 ⟨Zj _,rfl⟩ ⟨by rw[hue];rfl,rfl,rfl,rfl,trivial⟩ ?_;rintro i h1 Ψ2 ⟨hi,rfl⟩ next out
 by_cases hil:i<l.length
 case neg =>
  have d1:((i:Int)<((l.length:Nat):Int))=False:=by simp;omega
  simp only[ZG,↓reduceIte,ZA,ZB,ZC,d1];refine out (.exit 0) _ _ _ _ (by intro e;cases e) ?_;simp only[ZG,↓reduceIte,ZA,ZB,ZC];exact hΨ _ _ (fin_ret (rv1 rfl ⟨rfl,rfl⟩))
 case pos =>
 have d1:((i:Int)<((l.length:Nat):Int))=True:=by simp;omega
 have d0:(0<=(i:Int))=True:=by simp
 have hx:l[i]?=some l[i]:=Z0 hil;have hw:IntKind.i64.wrap ((i:Int)+1)=i+1:=i64w (by omega) (by omega);obtain ⟨b1,o1,c1,e1,l1⟩:=nn_at hu hx;simp only[ZG,↓reduceIte,ZA,ZB,ZC,d1,e1,d0,and_self,Z8,Zg,mbl,ZD,ZE,ZF,l1];refine XX_val (out_ok s oq (hl _ (List.getElem_mem _))) ?_;simp only[ZG,↓reduceIte,ZA,ZB,ZC,hw];exact next (i+1) _ _ _ ⟨by omega,rfl⟩ ⟨by rw[e1];rfl,rfl,rfl,by simp only[Ze,Zc];rfl,trivial⟩ (by omega)
theorem containsOut_ok (s:TH h b L cs T ρ sp) {q t:Nat} (oq:Own h q t [.pointer (some ⟨b,0,none⟩)]) {l:List Nat} {u:Value} (hu:Rds h 1 u l.length (nn l)) (hn:l.length<=1000000000) (hl:∀ a∈l,a<T.length):Gets Tryd.prog 37 [u,.func (.func 38) #[] #[.pointer (some ⟨q,0,none⟩)]] h (fun res h'=>h'=h/\res = .ret (.bool false)):=by
 refine Gets.of (keep:=false) hP (draw_ok hM) k37 (by rfl) (fun Ψ hΨ=>?_);simp only[ZG,↓reduceIte,ZA,ZB,ZC,r37,YE,YC,YO,YA,YL,YX,YS,Ya,Yb,Yl,Yf,Yg,Yi,Ym,Yk,Yt,Yn,Yz,Yp,Yq,Yd];refine XX_val (indexOut_ok s oq hu hn hl) ?_;simp only[ZG,↓reduceIte,ZA,ZB,ZC,show ((0:Int) <= -1)=False by simp];exact hΨ _ _ (fin_ret (rv1 rfl ⟨rfl,rfl⟩))
def spE (sp:Bool):Int:=if sp then 10 else 0
theorem look_ok (s:TH h b L cs T ρ sp) {l:List Nat} {u:Value} (hu:Rds h 1 u l.length (nn l)) (hn:l.length<=1000000000) (hl:∀ a∈l,a<T.length):Gets Tryd.prog 21 [.pointer (some ⟨b,0,none⟩),u] h (fun res h'=>Keep (fun _=>False) h h'/\res = .ret (iv (spE sp))):=by
 refine Gets.of (keep:=false) hP (draw_ok hM) k21 (by rfl) (fun Ψ hΨ=>?_);have oN:=Own.new h 23 h.length [.pointer (some ⟨b,0,none⟩)];have kN:Keep (fun _=>False) h (h++[row 23 h.length [.pointer (some ⟨b,0,none⟩)]]):=Keep.push _ _ _;simp only[ZG,↓reduceIte,ZA,ZB,ZC,r21,YE,YC,YO,YA,YL,YX,YS,Ya,Yb,Yl,Yf,Yg,Yi,Ym,Yk,Yt,Yn,Yz,Yp,Yq,Yd,mbl,ZD,ZE,ZF];generalize h++[row 23 h.length [.pointer (some ⟨b,0,none⟩)]]=h1 at oN kN ⊢;have s1:=s.keepF kN;cases sp with
 | true =>
   simp only[ZG,↓reduceIte,ZA,ZB,ZC,oN.cells.ld,mbl,ZD,ZE,ZF,s1.own.cells.ld];exact hΨ _ _ (fin_ret (rv1 rfl ⟨kN,rfl⟩))
 | false =>
   simp only[ZG,↓reduceIte,ZA,ZB,ZC,oN.cells.ld,mbl,ZD,ZE,ZF,s1.own.cells.ld];refine XX_val (containsOut_ok s1 oN (hu.keep kN (fun _ _ e=>e)) hn hl) ?_;simp only[ZG,↓reduceIte,ZA,ZB,ZC];exact hΨ _ _ (fin_ret (rv1 rfl ⟨kN,rfl⟩))
end
end Go.S11

namespace Go.S11
open Go Go.Eng Go.Proofs Go.Scn Go.Typ
def bkB:Value->Nat->Bool
 | .slice (some ⟨b,_,_⟩) _ _,c=>c == b
 | _,_=>false
def rbB:Value->Nat->Bool
 | .slice (some ⟨b,_,_⟩) n _,c=>c == b && decide (0<n)
 | _,_=>false
theorem bkB_iff {v:Value} {q:Nat}:bkB v q=true ↔ bk v q:=by
 unfold bkB bk;split<;>simp
theorem rbB_iff {v:Value} {q:Nat}:rbB v q=true ↔ rb v q:=by
 unfold rbB rb;split<;>simp
structure Grew (h h':AH) (b:Nat) (L L':TL) (T:List Tm) (x:Tm) (u:Value) (ρ:Nat->Nat) (sp:Bool):Prop where
 th:∃ cs',TH h' b L' cs' (T++[x]) ρ sp
 kp:Keep (TMine L) h h'
 sm:∀ q,q<h.length->(L'.cls q=0 ↔ L.cls q=0 /\ ¬ rb u q)
 mn:∀ q,q<h.length->TMine L' q->TMine L q
section
variable {h h':AH} {b:Nat} {L:TL} {cs:List Ce} {T:List Tm} {ρ:Nat->Nat} {sp:Bool}
set_option maxHeartbeats 2000000 in
theorem add_ok (s:TH h b L cs T ρ sp) (hT:T.length<1000000000) {nm:Bs} {al:List Nat} {u:Value} (hu:Rds h 1 u al.length (nn al)) (hz:∀ q,rb u q->L.cls q=0) (hok:okN ⟨nm,al⟩):Gets Tryd.prog 43 [.pointer (some ⟨L.bs,0,none⟩),.agg #[tv nm,u]] h
 (fun res h'=>res = .ret (.tuple #[iv (T.length:Int),iv 0]) /\ ∃ L',Grew h h' b L L' T ⟨nm,al⟩ u ρ sp):=by
 refine Gets.of (keep:=false) hP (draw_ok hM) k43 (by rfl) (fun Ψ hΨ=>?_);obtain ⟨ua,uc,hue⟩:=row_shape hu;have oN:=Own.new h 46 h.length [tv nm,u];have kN:Keep (fun _=>False) h (h++[row 46 h.length [tv nm,u]]):=Keep.push _ _ _;simp only[ZG,↓reduceIte,ZA,ZB,ZC,r43,YE,YC,YO,YA,YL,YX,YS,Ya,Yb,Yl,Yf,Yg,Yi,Ym,Yk,Yt,Yn,Yz,Yp,Yq,Yd,mbl,ZD,ZE,ZF,hue];rw[<- hue];generalize h++[row 46 h.length [tv nm,u]]=h1 at oN kN ⊢;have s1:=s.keepF kN;obtain ⟨k0,os⟩:=s1.os;obtain ⟨va,vc,hv⟩:=row_shape s1.oc.rds;have hone:u.oneCell'=true:=by rw[hue];rfl
 have hlc:=s.len;have n3:∀ q,L.cls q≠3 -> ¬ bk L.vc q:=fun q e1 e2=>e1 (s.c3 q e2)
 have kR:Keep (fun _=>False) h1 (h1++[row ceT h1.length [iv (cs.length:Int),iv (cs.length:Int),tv nm,u]]):=Keep.push _ _ _;obtain ⟨v',h2,a1,a2,a3,a4⟩:=app1 (bytes:=56) (e:=ceT) s1.oc (xs:=[iv (cs.length:Int),iv (cs.length:Int),tv nm,u]) rfl (by show (true && (true && (true && (u.oneCell' && true))))=true;rw[hone];rfl) (by omega) (by omega);rw[hv] at a1;obtain ⟨va2,vc2,hv2⟩:=row_shape a2.rds;have nc:([4]:List Nat).contains 7=false:=rfl;have nc4:([4]:List Nat).contains 4=true:=rfl;simp only[ZG,↓reduceIte,ZA,ZB,ZC,os.cells.ld,hv,mbl,ZD,ZE,ZF,oN.cells.lds 0 2 (by simp),nc,nc4,(os.keep kR (fun e=>e)).cells.ld,a1];have os2:=os.keep a3 (n3 _ (by rw[s.c2];omega));rw[hv2];refine XH_own os2 rfl (by simp [Value.cells]) rfl (fun h3 q1 q2 q3=>?_);rw[<- hv2] at q1;have os3:Own h3 L.bs 79 [v',iv k0]:=by rw[hv2] at q1 ⊢;simpa [Value.cells] using q1
 simp only[ZG,↓reduceIte,ZA,ZB,ZC,os3.cells.ld,mbl,ZD,ZE,ZF];refine XH_own os3 rfl (by simp [Value.cells]) rfl (fun h4 r1 r2 r3=>?_);simp only[ZG,↓reduceIte,ZA,ZB,ZC];have hul:∀ q,rb u q->q<h.length:=hu.lt;have hl1:=kN.len;have k14:Keep (fun q=>bk L.vc q\/q=L.bs) h1 h4:=((a3.mono (fun _ e=>.inl e)).trans (q2.mono (fun _ e=>.inr e))).trans (r2.mono (fun _ e=>.inr e));have k04:Keep (fun q=>bk L.vc q\/q=L.bs) h h4:=(kN.mono (fun _ e=>e.elim)).trans k14;have l4:=k04.len;have hub:∀ q,rb u q -> ¬ bk v' q:=fun q e e2=>by
  rcases a4 q e2 with e3|e3
  ·have:=s.c3 q e3;have:=hz q e;omega
  ·have:=hul q e;omega
 have hnb:∀ q,q<h.length->bk v' q->bk L.vc q:=fun q hq e=>(a4 q e).elim id (fun e=>by omega)
 have out:∀ q,L.cls q≠3->L.cls q≠2 -> ¬ (bk L.vc q\/q=L.bs):=fun q e1 e2 e=>e.elim (fun e=>e1 (s.c3 q e)) (fun e=>e2 (by rw[e];exact s.c2))
 have bl:=s.own.lt;have bsl:L.bs<h.length:=by obtain ⟨_,o⟩:=s.os;exact o.lt
 have vbs:¬ bk v' L.bs:=fun e=>by have:=s.c3 _ (hnb _ bsl e);have:=s.c2;omega
 have oc4:Ows h4 ceT 4 v' (cs++[(⟨cs.length,cs.length,nm,u⟩:Ce)]).length ((cs++[(⟨cs.length,cs.length,nm,u⟩:Ce)]).flatMap Ce.cells):=by
  have:=(a2.keep q2 (fun q e e2=>vbs (e2 ▸ e))).keep r2 (fun q e e2=>vbs (e2 ▸ e));rw[List.flatMap_append,Z1];simpa [Ce.cells] using this
 have os4:Own h4 L.bs 79 [v',iv (IntKind.i64.wrap (k0+1))]:=by rw[hv2] at r1 ⊢;simpa [Value.cells] using r1
 refine hΨ _ _ (fin_ret (rv2 rfl rfl ⟨by rw[<- hlc];rfl,⟨L.bs,v',fun q=>if rbB u q then 4 else if bkB v' q then 3 else L.cls q⟩,⟨cs++[(⟨cs.length,cs.length,nm,u⟩:Ce)],?_⟩,?_,fun q hq=>?_,fun q hq e=>?_⟩))
 ·have cl:∀ q,q<h.length -> ¬ rb u q->L.cls q≠3->(if rbB u q then 4 else if bkB v' q then 3 else L.cls q)=L.cls q:=fun q hq e1 e2=>by
   rw[if_neg (by rw[rbB_iff];exact e1),if_neg (by rw[bkB_iff];exact fun e=>e2 (s.c3 q (hnb q hq e)))]
  refine ⟨s.own.keep k04 (out _ (by rw[s.c1];omega) (by rw[s.c1];omega)),⟨_,os4⟩,oc4,by simp [hlc],by simp;omega,fun i t ht=>?_,fun i c t hc ht=>?_,fun i c hc=>?_,fun i hi=>s.rf i (by simp at hi;omega),?_,?_,fun q e=>?_,fun q hq=>?_⟩
  ·by_cases hi:i<T.length
   ·rw[Za hi] at ht;exact s.ok i t ht
   ·have hi2:i=T.length:=by
     have:=(Z4.1 ht).1;simp at this;omega
    subst hi2;rw[Z9 (by omega)] at ht;simp at ht;subst ht;exact hok
  ·by_cases hi:i<T.length
   ·rw[Za (by omega)] at hc ht
    obtain ⟨x,y,z⟩:=s.tm i c t hc ht;refine ⟨x,y.keep k04 (fun q e=>out q (by rw[z q e];omega) (by rw[z q e];omega)),fun q e=>?_⟩;have hq:=y.lt q e;have z4:=z q e;simp only;rw[cl q hq (fun e2=>by have:=hz q e2;omega) (by omega)];exact z4
   ·have hi2:i=T.length:=by
     have:=(Z4.1 ht).1;simp at this;omega
    subst hi2;rw[Z9 (by omega)] at hc ht;simp [hlc] at hc ht;subst hc;subst ht;exact ⟨rfl,hu.keep k04 (fun q e=>out q (by rw[hz q e];omega) (by rw[hz q e];omega)),fun q e=>by simp only;rw[if_pos (by rw[rbB_iff];exact e)]⟩
  ·by_cases hi:i<T.length
   ·rw[Za (by omega)] at hc;exact s.uf i c hc
   ·have hi2:i=T.length:=by
     have:=(Z4.1 hc).1;simp at this;omega
    subst hi2;rw[Z9 (by omega)] at hc;simp [hlc] at hc;subst hc;exact ⟨Z7 _,rfl,fun _=>s.rf _ (Z7 _),fun _=>rfl⟩
  ·simp only;rw[cl b bl (fun e=>by have:=hz b e;have:=s.c1;omega) (by rw[s.c1];omega)];exact s.c1
  ·simp only;rw[cl _ bsl (fun e=>by have:=hz _ e;have:=s.c2;omega) (by rw[s.c2];omega)];exact s.c2
  ·simp only;rw[if_neg (by rw[rbB_iff];exact fun e2=>hub q e2 e),if_pos (by rw[bkB_iff];exact e)]
  ·simp only
   rw[if_neg (by rw[rbB_iff];exact fun e2=>by have:=hul q e2;omega),if_neg (by rw[bkB_iff];exact fun e2=>by have:=oc4.lt q e2;omega)];exact s.c0 q (by omega)
 ·exact k04.mono fun q e=>e.elim (fun e=>.inr (s.c3 q e)) (fun e=>by rw[e];exact .inl s.c2)
 ·simp only
  by_cases e:rb u q
  ·rw[if_pos (by rw[rbB_iff];exact e)];exact ⟨fun e2=>(by cases e2),fun e2=>absurd e e2.2⟩
  ·rw[if_neg (by rw[rbB_iff];exact e)]
   by_cases e2:bk v' q
   ·rw[if_pos (by rw[bkB_iff];exact e2)]
    have:=s.c3 q (hnb q hq e2);exact ⟨fun e=>(by cases e),fun e=>by omega⟩
   ·rw[if_neg (by rw[bkB_iff];exact e2)];exact ⟨fun x=>⟨x,e⟩,fun x=>x.1⟩
 ·simp only[TMine] at e ⊢
  by_cases e1:rb u q
  ·rw[if_pos (by rw[rbB_iff];exact e1)] at e;omega
  ·rw[if_neg (by rw[rbB_iff];exact e1)] at e
   by_cases e2:bk v' q
   ·exact .inr (s.c3 q (hnb q hq e2))
   ·rw[if_neg (by rw[bkB_iff];exact e2)] at e;exact e
end
end Go.S11

namespace Go.S11
open Go Go.Eng Go.Proofs Go.Scn Go.Typ
theorem cloneInts_ok {h:AH} {u:Value} {n:Nat} {cs:List Value} (hu:Rds h 1 u n cs) (h1:cs.all Value.oneCell'=true) (hb:n*8<=140737488355328):Gets Tryd.prog 35 [u] h (fun res h'=>Keep (fun _=>False) h h' /\ ∃ v,res = .ret v/\Ows h' 3 1 v n cs /\ ∀ q,bk v q->h.length<=q/\q<h'.length):=by
 refine Gets.of (keep:=false) hP (draw_ok hM) k35 (by rfl) (fun Ψ hΨ=>?_);have k1:Keep (fun _=>False) h (h++[row 3 h.length []]):=Keep.push _ _ _;have o1:Ows (h++[row 3 h.length []]) 3 1 (.slice (some ⟨h.length,0,none⟩) 0 0) 0 []:=.mk (Own.new h 3 h.length []) rfl (Z7 _) rfl;obtain ⟨_,hsrc,rfl⟩:=(hu.keep k1 (fun _ _ e=>e)).src h1;obtain ⟨v2,h2,p1,p2,p3,p4⟩:=o1.app (bytes:=8) hsrc ((hu.keep k1 (fun _ _ e=>e)).len) h1 (by omega) (by omega);have k2:Keep (fun _=>False) h h2:=k1.trans' p3 (fun c hc e=>by have:c=h.length:=e;omega);have hq:∀ q,bk v2 q->h.length<=q/\q<h2.length:=fun q e=>⟨(p4 q e).elim (fun e=>by have:q=h.length:=e;omega) (fun e=>by simp at e;omega),p2.lt q e⟩
 simp only[Nat.zero_add,List.nil_append] at p2;obtain ⟨ua,uc,rfl⟩:=row_shape hu;cases ua with
 | none =>
   cases hu;simp only[ZG,↓reduceIte,ZA,ZB,ZC,r35,YE,YC,YO,YA,YL,YX,YS,Ya,Yb,Yl,Yf,Yg,Yi,Ym,Yk,Yt,Yn,Yz,Yp,Yq,Yd,mbl,ZD,ZE,ZF];exact hΨ _ _ (fin_ret (rv1 rfl ⟨.refl _ _,_,rfl,.nil,fun q e=>e.elim⟩))
 | some a =>
   simp only[ZG,↓reduceIte,ZA,ZB,ZC,r35,YE,YC,YO,YA,YL,YX,YS,Ya,Yb,Yl,Yf,Yg,Yi,Ym,Yk,Yt,Yn,Yz,Yp,Yq,Yd,mbl,ZD,ZE,ZF,p1];exact hΨ _ _ (fin_ret (rv1 rfl ⟨k2,_,rfl,p2,hq⟩))
theorem extra:Builder.Extra Tryd.prog Tryd.laysRepeat_ren:={ sizeBuilder:=by kernel_rfl,liesBuilder:=by kernel_rfl,t5:=Tryd.laysRepeat.t5,a5:=Tryd.laysRepeat.a5,z5:=Tryd.laysRepeat.z5,v5:=Tryd.laysRepeat.v5,infoByte:=by kernel_rfl,cellsByte:=by kernel_rfl,sizeByte:=by kernel_rfl,neB5:=by decide }
theorem rep_commas:∀ c,Lib.repeatL [44] c=Z3 c 44:=by
 intro c
 induction c with
 | zero=>rfl
 | succ c ih=>rw[Lib.repeatL,ih];rfl
set_option maxRecDepth 100000 in
theorem repeat_ok (c:Nat) (hc:c<=1000000000) (h:AH):Gets Tryd.prog 69 [tv [44],iv (c:Int)] h (fun res h'=>h'=h/\res = .ret (tv (Z3 c 44))):=by
 refine Gets.ofCalls (args:=[tv [44],iv (c:Int)]) (v:=tv (Z3 c 44)) (fn:=Tryd.prog.funcs[69]!) hP (by kernel_rfl) (c:=(Tryd.prog.funcs[69]!).body.getD .skip) (by kernel_rfl) rfl rfl (fun W hT=>?_) h;refine Calls.mono (Any.strings_Repeat (P:=Tryd.prog) Tryd.laysRepeat extra (tx [44]) c W (by omega) (by rw[tx_size];simp;omega)) fun e w' he=>?_
 obtain ⟨rfl,hw⟩:=he;refine ⟨?_,hw⟩;have e:(tx [44]).data.toList=[44]:=by simp [tx]
 rw[e,rep_commas];rfl
set_option maxRecDepth 100000 in
theorem cutPrefix_ok (s p:Bs) (h:AH):Gets Tryd.prog 63 [tv s,tv p] h (fun res h'=>h'=h/\res = .ret (.tuple #[tv (Lib.trimPrefix s p),.bool (Lib.hasPrefix s p)])):=by
 refine Gets.ofCalls (args:=[tv s,tv p]) (v:=.tuple #[tv (Lib.trimPrefix s p),.bool (Lib.hasPrefix s p)]) (fn:=Tryd.prog.funcs[63]!) hP (by kernel_rfl) (c:=(Tryd.prog.funcs[63]!).body.getD .skip) (by kernel_rfl) rfl rfl (fun W hT=>?_) h;refine Calls.mono (Any.strings_CutPrefix (P:=Tryd.prog) Tryd.laysCutPrefix (tx s) (tx p) W) fun e w' he=>?_
 obtain ⟨rfl,rfl⟩:=he;exact ⟨rfl,⟨rfl,rfl,rfl,Z7 _,fun i hi=>rfl⟩⟩
theorem tuple_ok {n:Nat} (h1:1<=n) (hn:n<=1000000000) (h:AH):Gets Tryd.prog 53 [iv (n:Int)] h (fun res h'=>h'=h/\res = .ret (tv (tuple n))):=by
 refine Gets.of (keep:=false) hP (draw_ok hM) k53 (by rfl) (fun Ψ hΨ=>?_);have w:IntKind.i64.wrap ((n:Int)-1)=((n-1:Nat):Int):=by rw[i64w (by omega) (by omega)];omega
 simp only[ZG,↓reduceIte,ZA,ZB,ZC,r53,YE,YC,YO,YA,YL,YX,YS,Ya,Yb,Yl,Yf,Yg,Yi,Ym,Yk,Yt,Yn,Yz,Yp,Yq,Yd,w];refine XX_val (repeat_ok (n-1) (by omega) h) ?_;have e1:sbin .add (⟨#[40]⟩:ByteArray) (tx (Z3 (n-1) 44))=some (tv (40::Z3 (n-1) 44)):=s_add (a:=[40]) (b:=Z3 (n-1) 44) (by simp;omega);have e2:sbin .add (tx (40::Z3 (n-1) 44)) (⟨#[41]⟩:ByteArray)=some (tv (tuple n)):=s_add (a:=40::Z3 (n-1) 44) (b:=[41]) (by simp;omega);simp only[ZG,↓reduceIte,ZA,ZB,ZC,e1,e2];exact hΨ _ _ (fin_ret (rv1 rfl ⟨rfl,rfl⟩))
set_option maxHeartbeats 2000000 in
theorem sound_ok (nm:Bs) (hl:nm.length<=1000000000) (n:Nat) (hn:n<=1000000000) (h:AH):Gets Tryd.prog 34 [tv nm,iv (n:Int)] h (fun res h'=>h'=h/\res = .ret (.bool (snd nm n))):=by
 refine Gets.of (keep:=false) hP (draw_ok hM) k34 (by rfl) (fun Ψ hΨ=>?_);simp only[ZG,↓reduceIte,ZA,ZB,ZC,r34,YE,YC,YO,YA,YL,YX,YS,Ya,Yb,Yl,Yf,Yg,Yi,Ym,Yk,Yt,Yn,Yz,Yp,Yq,Yd];refine XX_val (name_ok nm (by omega) h) ?_
 by_cases hc:nameK nm=2
 ·have hs:snd nm n=decide (n<=8):=by unfold snd conN;rw[if_pos (by simp [hc])]
  by_cases h8:(n:Int)<=8
  ·simp only[ZG,↓reduceIte,ZA,ZB,ZC,hc,h8]
   exact hΨ _ _ (fin_ret (rv1 rfl ⟨rfl,congrArg (fun b=>Res.ret (.bool b)) (by rw[hs];exact (decide_eq_true (by omega)).symm)⟩))
  ·simp only[ZG,↓reduceIte,ZA,ZB,ZC,hc,h8]
   exact hΨ _ _ (fin_ret (rv1 rfl ⟨rfl,congrArg (fun b=>Res.ret (.bool b)) (by rw[hs];exact (decide_eq_false (by omega)).symm)⟩))
 have hs:snd nm n=((decide (2<=n/\n<=8/\nm=tuple n)) || (decide (nm=[40,41]/\n=0) || (decide (nm=[91,93]/\n=1) || decide (nm=arrow/\n=2)))):=by unfold snd conN;rw[if_neg (by simp [hc])]
 by_cases g1:2<=n
 case neg =>
  have ht:decide (2<=n/\n<=8/\nm=tuple n)=false:=decide_eq_false (fun e=>g1 e.1);simp only[ZG,↓reduceIte,ZA,ZB,ZC,hc,show ((2:Int)<=(n:Int))=False by simp;omega];cases a0:(nm == ([40,41]:Bs)) with
  | true =>
    have p0:=eq_of_beq a0;have a1:(nm == ([91,93]:Bs))=false:=by rw[p0];rfl
    have a2:(nm == ([45,62]:Bs))=false:=by rw[p0];rfl
    by_cases z0:n=0
    ·simp only[ZG,↓reduceIte,ZA,ZB,ZC,tx_toList,mk_toList,show ((n:Int)=0)=True by simp;omega,a0]
     exact hΨ _ _ (fin_ret (rv1 rfl ⟨rfl,congrArg (fun b=>Res.ret (.bool b)) (by rw[hs,ht];simp [p0,z0,arrow])⟩))
    ·simp only[ZG,↓reduceIte,ZA,ZB,ZC,tx_toList,mk_toList,show ((n:Int)=0)=False by simp;omega,a0,a1,a2]
     exact hΨ _ _ (fin_ret (rv1 rfl ⟨rfl,congrArg (fun b=>Res.ret (.bool b)) (by rw[hs,ht];simp [p0,z0,arrow])⟩))
  | false =>
    have n0:nm≠[40,41]:=by simpa using a0
    cases a1:(nm == ([91,93]:Bs)) with
    | true =>
      have p1:=eq_of_beq a1;have a2:(nm == ([45,62]:Bs))=false:=by rw[p1];rfl
      by_cases z1:n=1
      ·simp only[ZG,↓reduceIte,ZA,ZB,ZC,tx_toList,mk_toList,show ((n:Int)=1)=True by simp;omega,a0,a1]
       exact hΨ _ _ (fin_ret (rv1 rfl ⟨rfl,congrArg (fun b=>Res.ret (.bool b)) (by rw[hs,ht];simp [p1,z1,arrow])⟩))
      ·simp only[ZG,↓reduceIte,ZA,ZB,ZC,tx_toList,mk_toList,show ((n:Int)=1)=False by simp;omega,a0,a1,a2]
       exact hΨ _ _ (fin_ret (rv1 rfl ⟨rfl,congrArg (fun b=>Res.ret (.bool b)) (by rw[hs,ht];simp [p1,z1,arrow])⟩))
    | false =>
      have n1:nm≠[91,93]:=by simpa using a1
      cases a2:(nm == ([45,62]:Bs)) with
      | true =>
        have p2:=eq_of_beq a2
        by_cases z2:n=2
        ·simp only[ZG,↓reduceIte,ZA,ZB,ZC,tx_toList,mk_toList,show ((n:Int)=2)=True by simp;omega,a0,a1,a2]
         exact hΨ _ _ (fin_ret (rv1 rfl ⟨rfl,congrArg (fun b=>Res.ret (.bool b)) (by rw[hs,ht];simp [p2,z2,arrow])⟩))
        ·simp only[ZG,↓reduceIte,ZA,ZB,ZC,tx_toList,mk_toList,show ((n:Int)=2)=False by simp;omega,a0,a1,a2]
         exact hΨ _ _ (fin_ret (rv1 rfl ⟨rfl,congrArg (fun b=>Res.ret (.bool b)) (by rw[hs,ht];simp [p2,z2,arrow])⟩))
      | false =>
        have n2:nm≠[45,62]:=by simpa using a2
        simp only[ZG,↓reduceIte,ZA,ZB,ZC,tx_toList,mk_toList,a0,a1,a2];exact hΨ _ _ (fin_ret (rv1 rfl ⟨rfl,congrArg (fun b=>Res.ret (.bool b)) (by rw[hs,ht];simp [n0,n1,n2,arrow])⟩))
 case pos =>
 by_cases g2:n<=8
 case neg =>
  have ht:decide (2<=n/\n<=8/\nm=tuple n)=false:=decide_eq_false (fun e=>g2 e.2.1);simp only[ZG,↓reduceIte,ZA,ZB,ZC,hc,show ((2:Int)<=(n:Int))=True by simp;omega,show ((n:Int)<=8)=False by simp;omega];cases a0:(nm == ([40,41]:Bs)) with
  | true =>
    have p0:=eq_of_beq a0;have a1:(nm == ([91,93]:Bs))=false:=by rw[p0];rfl
    have a2:(nm == ([45,62]:Bs))=false:=by rw[p0];rfl
    by_cases z0:n=0
    ·simp only[ZG,↓reduceIte,ZA,ZB,ZC,tx_toList,mk_toList,show ((n:Int)=0)=True by simp;omega,a0]
     exact hΨ _ _ (fin_ret (rv1 rfl ⟨rfl,congrArg (fun b=>Res.ret (.bool b)) (by rw[hs,ht];simp [p0,z0,arrow])⟩))
    ·simp only[ZG,↓reduceIte,ZA,ZB,ZC,tx_toList,mk_toList,show ((n:Int)=0)=False by simp;omega,a0,a1,a2]
     exact hΨ _ _ (fin_ret (rv1 rfl ⟨rfl,congrArg (fun b=>Res.ret (.bool b)) (by rw[hs,ht];simp [p0,z0,arrow])⟩))
  | false =>
    have n0:nm≠[40,41]:=by simpa using a0
    cases a1:(nm == ([91,93]:Bs)) with
    | true =>
      have p1:=eq_of_beq a1;have a2:(nm == ([45,62]:Bs))=false:=by rw[p1];rfl
      by_cases z1:n=1
      ·simp only[ZG,↓reduceIte,ZA,ZB,ZC,tx_toList,mk_toList,show ((n:Int)=1)=True by simp;omega,a0,a1]
       exact hΨ _ _ (fin_ret (rv1 rfl ⟨rfl,congrArg (fun b=>Res.ret (.bool b)) (by rw[hs,ht];simp [p1,z1,arrow])⟩))
      ·simp only[ZG,↓reduceIte,ZA,ZB,ZC,tx_toList,mk_toList,show ((n:Int)=1)=False by simp;omega,a0,a1,a2]
       exact hΨ _ _ (fin_ret (rv1 rfl ⟨rfl,congrArg (fun b=>Res.ret (.bool b)) (by rw[hs,ht];simp [p1,z1,arrow])⟩))
    | false =>
      have n1:nm≠[91,93]:=by simpa using a1
      cases a2:(nm == ([45,62]:Bs)) with
      | true =>
        have p2:=eq_of_beq a2
        by_cases z2:n=2
        ·simp only[ZG,↓reduceIte,ZA,ZB,ZC,tx_toList,mk_toList,show ((n:Int)=2)=True by simp;omega,a0,a1,a2]
         exact hΨ _ _ (fin_ret (rv1 rfl ⟨rfl,congrArg (fun b=>Res.ret (.bool b)) (by rw[hs,ht];simp [p2,z2,arrow])⟩))
        ·simp only[ZG,↓reduceIte,ZA,ZB,ZC,tx_toList,mk_toList,show ((n:Int)=2)=False by simp;omega,a0,a1,a2]
         exact hΨ _ _ (fin_ret (rv1 rfl ⟨rfl,congrArg (fun b=>Res.ret (.bool b)) (by rw[hs,ht];simp [p2,z2,arrow])⟩))
      | false =>
        have n2:nm≠[45,62]:=by simpa using a2
        simp only[ZG,↓reduceIte,ZA,ZB,ZC,tx_toList,mk_toList,a0,a1,a2];exact hΨ _ _ (fin_ret (rv1 rfl ⟨rfl,congrArg (fun b=>Res.ret (.bool b)) (by rw[hs,ht];simp [n0,n1,n2,arrow])⟩))
 case pos =>
 simp only[ZG,↓reduceIte,ZA,ZB,ZC,hc,show ((2:Int)<=(n:Int))=True by simp;omega,show ((n:Int)<=8)=True by simp;omega];refine XX_val (tuple_ok (by omega) (by omega) h) ?_;cases at_:(nm == tuple n) with
 | true =>
   have pt:=eq_of_beq at_;simp only[ZG,↓reduceIte,ZA,ZB,ZC,tx_toList,at_];exact hΨ _ _ (fin_ret (rv1 rfl ⟨rfl,congrArg (fun b=>Res.ret (.bool b)) (by rw[hs,decide_eq_true (show 2<=n/\n<=8/\nm=tuple n from ⟨g1,g2,pt⟩)];rfl)⟩))
 | false =>
   have nt:nm≠tuple n:=by simpa using at_
   have ht:decide (2<=n/\n<=8/\nm=tuple n)=false:=decide_eq_false (fun e=>nt e.2.2);simp only[ZG,↓reduceIte,ZA,ZB,ZC,tx_toList,at_];cases a0:(nm == ([40,41]:Bs)) with
   | true =>
     have p0:=eq_of_beq a0;have a1:(nm == ([91,93]:Bs))=false:=by rw[p0];rfl
     have a2:(nm == ([45,62]:Bs))=false:=by rw[p0];rfl
     by_cases z0:n=0
     ·simp only[ZG,↓reduceIte,ZA,ZB,ZC,tx_toList,mk_toList,show ((n:Int)=0)=True by simp;omega,a0]
      exact hΨ _ _ (fin_ret (rv1 rfl ⟨rfl,congrArg (fun b=>Res.ret (.bool b)) (by rw[hs,ht];simp [p0,z0,arrow])⟩))
     ·simp only[ZG,↓reduceIte,ZA,ZB,ZC,tx_toList,mk_toList,show ((n:Int)=0)=False by simp;omega,a0,a1,a2]
      exact hΨ _ _ (fin_ret (rv1 rfl ⟨rfl,congrArg (fun b=>Res.ret (.bool b)) (by rw[hs,ht];simp [p0,z0,arrow])⟩))
   | false =>
     have n0:nm≠[40,41]:=by simpa using a0
     cases a1:(nm == ([91,93]:Bs)) with
     | true =>
       have p1:=eq_of_beq a1;have a2:(nm == ([45,62]:Bs))=false:=by rw[p1];rfl
       by_cases z1:n=1
       ·simp only[ZG,↓reduceIte,ZA,ZB,ZC,tx_toList,mk_toList,show ((n:Int)=1)=True by simp;omega,a0,a1]
        exact hΨ _ _ (fin_ret (rv1 rfl ⟨rfl,congrArg (fun b=>Res.ret (.bool b)) (by rw[hs,ht];simp [p1,z1,arrow])⟩))
       ·simp only[ZG,↓reduceIte,ZA,ZB,ZC,tx_toList,mk_toList,show ((n:Int)=1)=False by simp;omega,a0,a1,a2]
        exact hΨ _ _ (fin_ret (rv1 rfl ⟨rfl,congrArg (fun b=>Res.ret (.bool b)) (by rw[hs,ht];simp [p1,z1,arrow])⟩))
     | false =>
       have n1:nm≠[91,93]:=by simpa using a1
       cases a2:(nm == ([45,62]:Bs)) with
       | true =>
         have p2:=eq_of_beq a2
         by_cases z2:n=2
         ·simp only[ZG,↓reduceIte,ZA,ZB,ZC,tx_toList,mk_toList,show ((n:Int)=2)=True by simp;omega,a0,a1,a2]
          exact hΨ _ _ (fin_ret (rv1 rfl ⟨rfl,congrArg (fun b=>Res.ret (.bool b)) (by rw[hs,ht];simp [p2,z2,arrow])⟩))
         ·simp only[ZG,↓reduceIte,ZA,ZB,ZC,tx_toList,mk_toList,show ((n:Int)=2)=False by simp;omega,a0,a1,a2]
          exact hΨ _ _ (fin_ret (rv1 rfl ⟨rfl,congrArg (fun b=>Res.ret (.bool b)) (by rw[hs,ht];simp [p2,z2,arrow])⟩))
       | false =>
         have n2:nm≠[45,62]:=by simpa using a2
         simp only[ZG,↓reduceIte,ZA,ZB,ZC,tx_toList,mk_toList,a0,a1,a2];exact hΨ _ _ (fin_ret (rv1 rfl ⟨rfl,congrArg (fun b=>Res.ret (.bool b)) (by rw[hs,ht];simp [n0,n1,n2,arrow])⟩))
end Go.S11

namespace Go.S11
open Go Go.Eng Go.Proofs Go.Scn Go.Typ
structure Grn (h h':AH) (b:Nat) (L L':TL) (T':List Tm) (ρ:Nat->Nat) (sp:Bool):Prop where
 th:∃ cs',TH h' b L' cs' T' ρ sp
 kp:Keep (TMine L) h h'
 sm:∀ q,q<h.length->(L'.cls q=0 ↔ L.cls q=0)
 mn:∀ q,q<h.length->TMine L' q->TMine L q
theorem Grn.trans {h h1 h2:AH} {b:Nat} {L L1 L2:TL} {T1 T2:List Tm} {ρ:Nat->Nat} {sp:Bool} (x:Grn h h1 b L L1 T1 ρ sp) (y:Grn h1 h2 b L1 L2 T2 ρ sp):Grn h h2 b L L2 T2 ρ sp :=
 ⟨y.th,x.kp.trans' y.kp x.mn,fun q hq=>(y.sm q (by have:=x.kp.len;omega)).trans (x.sm q hq),fun q hq e=>x.mn q hq (y.mn q (by have:=x.kp.len;omega) e)⟩
theorem Grn.refl {h:AH} {b:Nat} {L:TL} {T:List Tm} {ρ:Nat->Nat} {sp:Bool} {cs:List Ce} (s:TH h b L cs T ρ sp):Grn h h b L L T ρ sp:=⟨⟨_,s⟩,.refl _ _,fun _ _=>Iff.rfl,fun _ _ e=>e⟩
theorem Grn.keepF {h h1 h2:AH} {b:Nat} {L L1:TL} {T1:List Tm} {ρ:Nat->Nat} {sp:Bool} (x:Grn h h1 b L L1 T1 ρ sp) (k:Keep (fun _=>False) h1 h2):Grn h h2 b L L1 T1 ρ sp:=by
 obtain ⟨cs,t⟩:=x.th;exact ⟨⟨cs,t.keepF k⟩,x.kp.trans (k.mono (fun _ e=>e.elim)),x.sm,x.mn⟩
theorem okN_var:okN ⟨[],[]⟩:=⟨fun _=>rfl,fun e=>(by cases e),fun e=>(by cases e),by simp,by simp⟩
section
variable {h h':AH} {b:Nat} {L:TL} {cs:List Ce} {T:List Tm} {ρ:Nat->Nat} {sp:Bool}
theorem put_ok (s:TH h b L cs T ρ sp) (hT:T.length<1000000000) {nm:Bs} {al:List Nat} {u:Value} (hu:Rds h 1 u al.length (nn al)) (hz:∀ q,rb u q->L.cls q=0) (hok:okN ⟨nm,al⟩):Gets Tryd.prog 24 [.pointer (some ⟨b,0,none⟩),tv nm,u] h
 (fun res h'=>res = .ret (iv (T.length:Int)) /\ ∃ L',Grew h h' b L L' T ⟨nm,al⟩ u ρ sp):=by
 refine Gets.of (keep:=false) hP (draw_ok hM) k24 (by rfl) (fun Ψ hΨ=>?_);obtain ⟨ua,uc,hue⟩:=row_shape hu;simp only[ZG,↓reduceIte,ZA,ZB,ZC,r24,YE,YC,YO,YA,YL,YX,YS,Ya,Yb,Yl,Yf,Yg,Yi,Ym,Yk,Yt,Yn,Yz,Yp,Yq,Yd,s.own.cells.ld,mbl,ZD,ZE,ZF,hue];rw[<- hue];refine XX_of (add_ok s hT hu hz hok) (fun res h1 hle hn=>?_);obtain ⟨rfl,L',g⟩:=hn;refine .ret ?_;simp only[ZG,↓reduceIte,ZA,ZB,ZC];exact hΨ _ _ (fin_ret (rv1 rfl ⟨rfl,L',g⟩))
theorem var_ok (s:TH h b L cs T ρ false) (hT:T.length<1000000000):Gets Tryd.prog 12 [.pointer (some ⟨b,0,none⟩)] h
 (fun res h'=>res = .ret (.tuple #[iv (T.length:Int),iv 0]) /\ ∃ L',Grn h h' b L L' (T++[⟨[],[]⟩]) ρ false):=by
 refine Gets.of (keep:=false) hP (draw_ok hM) k12 (by rfl) (fun Ψ hΨ=>?_);simp only[ZG,↓reduceIte,ZA,ZB,ZC,r12,YE,YC,YO,YA,YL,YX,YS,Ya,Yb,Yl,Yf,Yg,Yi,Ym,Yk,Yt,Yn,Yz,Yp,Yq,Yd];refine XX_of (look_ok s (l:=[]) (u:=.slice none 0 0) .nil (by simp) (fun a ha=>by cases ha)) (fun res h1 hle hn=>?_);obtain ⟨k1,rfl⟩:=hn;refine .ret ?_;have s1:=s.keepF k1;simp only[ZG,↓reduceIte,ZA,ZB,ZC,mbl,ZD,ZE,ZF,spE,Zd];refine XX_of (put_ok s1 hT (nm:=[]) (al:=[]) (u:=.slice none 0 0) .nil (fun q e=>e.elim) okN_var) (fun res h2 hle2 hn=>?_);obtain ⟨rfl,L',g⟩:=hn;refine .ret ?_;simp only[ZG,↓reduceIte,ZA,ZB,ZC];refine hΨ _ _ (fin_ret (rv2 rfl rfl ⟨rfl,L',g.th,(k1.mono (fun _ e=>e.elim)).trans g.kp,fun q hq=>?_,fun q hq=>g.mn q (by have:=k1.len;omega)⟩));have:=g.sm q (by have:=k1.len;omega);exact this.trans ⟨fun x=>x.1,fun x=>⟨x,fun e=>e.elim⟩⟩
theorem con_ok (s:TH h b L cs T ρ false) (hT:T.length<1000000000) (nm:Bs) (hnm:nm.length<=1000000000) {al:List Nat} {u:Value} (hu:Rds h 1 u al.length (nn al)) (hn:al.length<=1000000000) (hl:∀ a∈al,a<T.length):Gets Tryd.prog 17 [.pointer (some ⟨b,0,none⟩),tv nm,u] h
 (fun res h'=>if snd nm al.length=true then res = .ret (.tuple #[iv (T.length:Int),iv 0]) /\ ∃ L',Grn h h' b L L' (T++[⟨nm,al⟩]) ρ false else Keep (fun _=>False) h h'/\res = .ret (.tuple #[iv 0,iv 1])):=by
 refine Gets.of (keep:=false) hP (draw_ok hM) k17 (by rfl) (fun Ψ hΨ=>?_);obtain ⟨ua,uc,hue⟩:=row_shape hu;simp only[ZG,↓reduceIte,ZA,ZB,ZC,r17,YE,YC,YO,YA,YL,YX,YS,Ya,Yb,Yl,Yf,Yg,Yi,Ym,Yk,Yt,Yn,Yz,Yp,Yq,Yd];refine XX_of (look_ok s (l:=[]) (u:=.slice none 0 0) .nil (by simp) (fun a ha=>by cases ha)) (fun res h1 hle hn1=>?_);obtain ⟨k1,rfl⟩:=hn1;refine .ret ?_;have s1:=s.keepF k1;simp only[ZG,↓reduceIte,ZA,ZB,ZC,mbl,ZD,ZE,ZF,spE,Zd,hue];refine XX_val (sound_ok nm hnm al.length hn h1) ?_;cases hs:snd nm al.length with
 | false =>
   simp only[ZG,↓reduceIte,ZA,ZB,ZC];exact hΨ _ _ (fin_ret (rv2 rfl rfl (by rw[if_neg (by simp [hs])];exact ⟨k1,rfl⟩)))
 | true =>
 simp only[ZG,↓reduceIte,ZA,ZB,ZC];rw[<- hue];refine XX_of (look_ok s1 (hu.keep k1 (fun _ _ e=>e)) hn hl) (fun res h2 hle2 hn2=>?_);obtain ⟨k2,rfl⟩:=hn2;refine .ret ?_;have s2:=s1.keepF k2;simp only[ZG,↓reduceIte,ZA,ZB,ZC,spE,Zd];refine XX_of (cloneInts_ok ((hu.keep k1 (fun _ _ e=>e)).keep k2 (fun _ _ e=>e)) (nn_one _) (by omega)) (fun res h3 hle3 hn3=>?_);obtain ⟨k3,v,rfl,ov,fv⟩:=hn3;refine .ret ?_;have s3:=s2.keepF k3;have k03:=(k1.trans k2).trans k3;simp only[ZG,↓reduceIte,ZA,ZB,ZC];refine XX_of (put_ok s3 hT (nm:=nm) ov.rds (fun q e=>s2.c0 q (fv q e.bk).1) (snd_ok hs).1) (fun res h4 hle4 hn4=>?_);obtain ⟨rfl,L',g⟩:=hn4;refine .ret ?_;simp only[ZG,↓reduceIte,ZA,ZB,ZC];refine hΨ _ _ (fin_ret (rv2 rfl rfl (by
  rw[if_pos hs];refine ⟨rfl,L',g.th,(k03.mono (fun _ e=>e.elim)).trans g.kp,fun q hq=>?_,fun q hq=>g.mn q (by have:=k03.len;omega)⟩;have:=g.sm q (by have:=k03.len;omega);exact this.trans ⟨fun x=>x.1,fun x=>⟨x,fun e=>by have:=(fv q e.bk).1;have:=(k1.trans k2).len;omega⟩⟩)))
end
end Go.S11

namespace Go.S11
open Go Go.Eng Go.Proofs Go.Scn Go.Typ
def szr (room:Int) (n:Nat):Int:=if room<=0 then 0 else min room (n:Int)
theorem szr_one {room:Int} (h:¬ room<=0) {n:Nat}:szr room (sz (.var n))=1:=by
 unfold szr;rw[if_neg h,sz];exact Z5 (by omega)
theorem szr_pos {room:Int} (h:¬ room<=0) (n:Nat):szr room n=min room (n:Int):=by unfold szr;rw[if_neg h]
theorem szr_add {room:Int} (h:¬ room<=0) (a n:Nat):min room (a:Int)+szr (room-min room (a:Int)) n=min room ((a+n:Nat):Int):=by
 rcases Int.lt_or_le (a:Int) room with h1|h1
 ·rw[Z5 (by omega),szr_pos (by omega)]
  rcases Int.lt_or_le (n:Int) (room-a) with h2|h2
  ·rw[Z5 (by omega),Z5 (by omega)];omega
  ·rw[Zb (by omega),Zb (by omega)];omega
 ·rw[Zb h1,Zb (by omega)]
  unfold szr;rw[if_pos (by omega)];omega
theorem szs_take {ts:List Ty}:∀ {i:Nat} {t:Ty},ts[i]?=some t->szs (ts.take (i+1))=szs (ts.take i)+sz t:=by
 induction ts with
 | nil=>intro i t h;simp at h
 | cons u l ih =>
   intro i t h;cases i with
   | zero=>simp at h;subst h;simp [szs]
   | succ i=>rw[Z2,Z2,szs,szs,ih (by simpa using h)];omega
theorem szs_le:∀ (ts:List Ty) (i:Nat),szs (ts.take i)<=szs ts:=by
 intro ts
 induction ts with
 | nil=>intro i;simp
 | cons t l ih =>
   intro i;cases i with
   | zero=>simp [szs]
   | succ i=>rw[Z2,szs,szs];have:=ih i;omega
theorem vss_take {ts:List Ty}:∀ {i:Nat} {t:Ty} {l:List Nat},ts[i]?=some t->vss (ts.take (i+1)) l=vs t (vss (ts.take i) l):=by
 induction ts with
 | nil=>intro i t l h;simp at h
 | cons u m ih =>
   intro i t l h;cases i with
   | zero=>simp at h;subst h;simp [vss]
   | succ i=>rw[Z2,Z2,vss,vss,ih (by simpa using h)]
theorem szs_all (ts:List Ty):szs (ts.take ts.length)=szs ts:=by rw[List.take_length]
section
variable {b:Nat} {L:TL} {T:List Tm} {ρ:Nat->Nat} {sp:Bool}
set_option maxHeartbeats 2000000 in
theorem size_ok {n:Nat} {t:Ty} (ht:Tr T ρ n t):∀ {h:AH} {cs:List Ce} (s:TH h b L cs T ρ sp) (room:Int),-1000<=room->room<=1000->Gets Tryd.prog 36 [.pointer (some ⟨b,0,none⟩),iv (n:Int),iv room] h
 (fun res h'=>Keep (bk L.vc) h h'/\res = .ret (iv (szr room (sz t))) /\ ∃ cs',TH h' b L cs' T ρ sp):=by
 induction ht with
 | @var n hn hT =>
   intro h cs s room hr1 hr2;refine Gets.of (keep:=false) hP (draw_ok hM) k36 (by rfl) (fun Ψ hΨ=>?_)
   by_cases hr:room<=0
   ·simp only[ZG,↓reduceIte,ZA,ZB,ZC,r36,YE,YC,YO,YA,YL,YX,YS,Ya,Yb,Yl,Yf,Yg,Yi,Ym,Yk,Yt,Yn,Yz,Yp,Yq,Yd,hr]
    exact hΨ _ _ (fin_ret (rv1 rfl ⟨.refl _ _,by unfold szr;rw[if_pos hr];rfl,_,s⟩))
   simp only[ZG,↓reduceIte,ZA,ZB,ZC,r36,YE,YC,YO,YA,YL,YX,YS,Ya,Yb,Yl,Yf,Yg,Yi,Ym,Yk,Yt,Yn,Yz,Yp,Yq,Yd,hr];refine XX_of (at_ok s hn) (fun res h1 hle1 hn1=>?_);obtain ⟨k1,cs1,c,s1,hc,rfl⟩:=hn1;refine .ret ?_;have oN:=Own.new h1 46 h1.length [.string ⟨#[]⟩,.slice none 0 0];have kN:Keep (fun _=>False) h1 (h1++[row 46 h1.length [.string ⟨#[]⟩,.slice none 0 0]]):=Keep.push _ _ _;simp only[ZG,↓reduceIte,ZA,ZB,ZC,mbl,ZD,ZE,ZF];generalize h1++[row 46 h1.length [.string ⟨#[]⟩,.slice none 0 0]]=h2 at oN kN ⊢;have hone:=s1.one hc;refine XH_own oN rfl (by simp [Value.cells]) (by show (true && (c.v.oneCell' && true))=true;rw[hone];rfl) (fun h3 q1 q2 q3=>?_);have oB:Own h3 h1.length 46 [tv c.nm,c.v]:=by simpa [Value.cells] using q1
   have kB:Keep (fun _=>False) h1 h3:=kN.trans' q2 (fun q hq e=>by omega);have s3:=s1.keepF kB;have zB:L.cls h1.length=0:=s1.c0 _ (Z7 _);have k03:Keep (bk L.vc) h h3:=k1.trans (kB.mono (fun _ e=>e.elim));clear q1 q2 q3 kN oN;obtain ⟨e1,rA,_⟩:=s3.tm _ c _ hc hT;obtain ⟨va,vc,hva⟩:=row_shape rA;simp only[ZG,↓reduceIte,ZA,ZB,ZC,mbl,ZD,ZE,ZF,oB.cells.ld,hva];rw[<- hva];refine XLo_rule (α:=Unit) (fun _=>[(9,iv 1),(22,iv 0),(23,iv 0)]) (fun _ h'=>h'=h3) (fun _=>0) () rfl ⟨rfl,rfl,rfl,trivial⟩ ?_;rintro _ h4 Ψ2 rfl next out
   simp only[ZG,↓reduceIte,ZA,ZB,ZC,show ((0:Int)<0)=False by simp];refine out (.exit 0) _ _ _ _ (by intro e;cases e) ?_;simp only[ZG,↓reduceIte,ZA,ZB,ZC];exact hΨ _ _ (fin_ret (rv1 rfl ⟨k03,by rw[show szr room (sz (.var (ρ n)))=1 from szr_one hr];rfl,_,s3⟩))
 | @con n nm al ts hn hT h0 hl ha ih =>
   intro h cs s room hr1 hr2;refine Gets.of (keep:=false) hP (draw_ok hM) k36 (by rfl) (fun Ψ hΨ=>?_)
   by_cases hr:room<=0
   ·simp only[ZG,↓reduceIte,ZA,ZB,ZC,r36,YE,YC,YO,YA,YL,YX,YS,Ya,Yb,Yl,Yf,Yg,Yi,Ym,Yk,Yt,Yn,Yz,Yp,Yq,Yd,hr]
    exact hΨ _ _ (fin_ret (rv1 rfl ⟨.refl _ _,by unfold szr;rw[if_pos hr];rfl,_,s⟩))
   simp only[ZG,↓reduceIte,ZA,ZB,ZC,r36,YE,YC,YO,YA,YL,YX,YS,Ya,Yb,Yl,Yf,Yg,Yi,Ym,Yk,Yt,Yn,Yz,Yp,Yq,Yd,hr];refine XX_of (at_ok s hn) (fun res h1 hle1 hn1=>?_);obtain ⟨k1,cs1,c,s1,hc,rfl⟩:=hn1;refine .ret ?_;have oN:=Own.new h1 46 h1.length [.string ⟨#[]⟩,.slice none 0 0];have kN:Keep (fun _=>False) h1 (h1++[row 46 h1.length [.string ⟨#[]⟩,.slice none 0 0]]):=Keep.push _ _ _;simp only[ZG,↓reduceIte,ZA,ZB,ZC,mbl,ZD,ZE,ZF];generalize h1++[row 46 h1.length [.string ⟨#[]⟩,.slice none 0 0]]=h2 at oN kN ⊢;have hone:=s1.one hc;refine XH_own oN rfl (by simp [Value.cells]) (by show (true && (c.v.oneCell' && true))=true;rw[hone];rfl) (fun h3 q1 q2 q3=>?_);have oB:Own h3 h1.length 46 [tv c.nm,c.v]:=by simpa [Value.cells] using q1
   have kB:Keep (fun _=>False) h1 h3:=kN.trans' q2 (fun q hq e=>by omega);have s3:=s1.keepF kB;have zB:L.cls h1.length=0:=s1.c0 _ (Z7 _);have k03:Keep (bk L.vc) h h3:=k1.trans (kB.mono (fun _ e=>e.elim));clear q1 q2 q3 kN oN;obtain ⟨e1,rA,zA⟩:=s3.tm _ c _ hc hT;obtain ⟨va,vc,hva⟩:=row_shape rA;simp only[ZG,↓reduceIte,ZA,ZB,ZC,mbl,ZD,ZE,ZF,oB.cells.ld,hva];rw[<- hva];refine XLo_rule (α:=Nat) (fun i=>[(0,.pointer (some ⟨b,0,none⟩)),(2,iv room),(9,iv (min room ((1+szs (ts.take i):Nat):Int))),(21,c.v),(22,iv (al.length:Int)),(23,iv (i:Int))]) (fun i h'=>i<=al.length/\Keep (bk L.vc) h3 h'/\(∃ cs',TH h' b L cs' T ρ sp)) (fun i=>al.length-i) 0
    ⟨Zj _,.refl _ _,_,s3⟩ ⟨rfl,rfl,by rw[Z5 (by simp [szs];omega)];rfl,rfl,rfl,rfl,trivial⟩ ?_
   rintro i h4 Ψ2 ⟨hi,k34,cs4,s4⟩ next out
   have k4:Keep (bk L.vc) h h4:=k03.trans k34;have hm0:0<=min room ((1+szs (ts.take i):Nat):Int):=by rw[Int.min_def];split<;>omega
   have hm1:min room ((1+szs (ts.take i):Nat):Int)<=room:=Int.min_le_left _ _
   by_cases hil:i<al.length
   case neg =>
    have hie:i=ts.length:=by omega
    have d1:((i:Int)<((al.length:Nat):Int))=False:=by simp;omega
    simp only[ZG,↓reduceIte,ZA,ZB,ZC,d1];refine out (.exit 0) _ _ _ _ (by intro e;cases e) ?_;simp only[ZG,↓reduceIte,ZA,ZB,ZC];exact hΨ _ _ (fin_ret (rv1 rfl ⟨k4,by rw[hie,szs_all,szr_pos hr,sz];rfl,_,s4⟩))
   case pos =>
   have d1:((i:Int)<((al.length:Nat):Int))=True:=by simp;omega
   have d0:(0<=(i:Int))=True:=by simp
   have h8:al.length<=8:=(s.ok _ _ hT).2.2.2.2;have hx:al[i]?=some al[i]:=Z0 hil;have hy:ts[i]?=some ts[i]:=Z0 (by omega);have hw:IntKind.i64.wrap ((i:Int)+1)=i+1:=i64w (by omega) (by omega);have w1:IntKind.i64.wrap (room-min room ((1+szs (ts.take i):Nat):Int))=room-min room ((1+szs (ts.take i):Nat):Int):=i64w (by omega) (by omega);obtain ⟨b1,o1,c1,ev,l1⟩:=nn_at (rA.keep (show Keep (bk L.vc) h3 h4 from k34) (fun q e1 e2=>by have:=zA q e1;have:=s.c3 q e2;omega)) hx;have w2:IntKind.i64.wrap (min room ((1+szs (ts.take i):Nat):Int)+szr (room-min room ((1+szs (ts.take i):Nat):Int)) (sz ts[i]))=min room ((1+szs (ts.take (i+1)):Nat):Int):=by
    rw[szr_add hr,szs_take hy,Nat.add_assoc];exact i64w (by rw[Int.min_def];split<;>omega) (Int.le_trans (Int.min_le_left _ _) (by omega))
   simp only[ZG,↓reduceIte,ZA,ZB,ZC,d1,ev,d0,and_self,Z8,Zg,mbl,ZD,ZE,ZF,l1,w1];refine XX_of (ih i _ _ hx hy s4 (room-min room ((1+szs (ts.take i):Nat):Int)) (by omega) (by omega)) (fun res h5 hle5 hn5=>?_);obtain ⟨k5,rfl,cs5,s5⟩:=hn5;refine .ret ?_;simp only[ZG,↓reduceIte,ZA,ZB,ZC,w2,hw];exact next (i+1) _ _ h5 ⟨by omega,k34.trans k5,_,s5⟩ ⟨rfl,rfl,rfl,by rw[ev];rfl,rfl,by simp only[Ze,Zc];rfl,trivial⟩ (by omega)
def smE (t:Ty):Int:=if sz t<=500 then 0 else 11
theorem Size_ok {n:Nat} {t:Ty} (ht:Tr T ρ n t) {h:AH} {cs:List Ce} (s:TH h b L cs T ρ false):Gets Tryd.prog 19 [.pointer (some ⟨b,0,none⟩),iv (n:Int)] h
 (fun res h'=>Keep (bk L.vc) h h'/\res = .ret (.tuple #[iv (szr 501 (sz t)),iv 0]) /\ ∃ cs',TH h' b L cs' T ρ false):=by
 refine Gets.of (keep:=false) hP (draw_ok hM) k19 (by rfl) (fun Ψ hΨ=>?_);have oN:=Own.new h 3 h.length [iv (n:Int)];have kN:Keep (fun _=>False) h (h++[row 3 h.length [iv (n:Int)]]):=Keep.push _ _ _;simp only[ZG,↓reduceIte,ZA,ZB,ZC,r19,YE,YC,YO,YA,YL,YX,YS,Ya,Yb,Yl,Yf,Yg,Yi,Ym,Yk,Yt,Yn,Yz,Yp,Yq,Yd,mbl,ZD,ZE,ZF];generalize h++[row 3 h.length [iv (n:Int)]]=h1 at oN kN ⊢;have s1:=s.keepF kN;refine XX_of (look_ok s1 (l:=[n]) (u:=.slice (some ⟨h.length,0,none⟩) 1 1) (.mk oN.cells (by simp) rfl) (by simp) (fun a ha=>by cases List.mem_singleton.1 ha;exact ht.lt)) (fun res h2 hle hn=>?_);obtain ⟨k2,rfl⟩:=hn;refine .ret ?_;have s2:=s1.keepF k2;simp only[ZG,↓reduceIte,ZA,ZB,ZC,spE,Zd];refine XX_of (size_ok ht s2 501 (by omega) (by omega)) (fun res h3 hle3 hn=>?_);obtain ⟨k3,rfl,cs3,s3⟩:=hn;refine .ret ?_;simp only[ZG,↓reduceIte,ZA,ZB,ZC];exact hΨ _ _ (fin_ret (rv2 rfl rfl ⟨((kN.trans k2).mono (fun _ e=>e.elim)).trans k3,rfl,_,s3⟩))
theorem small_ok {n:Nat} {t:Ty} (ht:Tr T ρ n t) {h:AH} {cs:List Ce} (s:TH h b L cs T ρ false):Gets Tryd.prog 25 [.pointer (some ⟨b,0,none⟩),iv (n:Int)] h
 (fun res h'=>Keep (bk L.vc) h h'/\res = .ret (iv (smE t)) /\ ∃ cs',TH h' b L cs' T ρ false):=by
 refine Gets.of (keep:=false) hP (draw_ok hM) k25 (by rfl) (fun Ψ hΨ=>?_);simp only[ZG,↓reduceIte,ZA,ZB,ZC,r25,YE,YC,YO,YA,YL,YX,YS,Ya,Yb,Yl,Yf,Yg,Yi,Ym,Yk,Yt,Yn,Yz,Yp,Yq,Yd];refine XX_of (Size_ok ht s) (fun res h3 hle3 hn=>?_);obtain ⟨k3,rfl,cs3,s3⟩:=hn;refine .ret ?_;have e:=szr_pos (show ¬ (501:Int)<=0 by omega) (sz t)
 by_cases hs:sz t<=500
 ·have d:((500:Int)<szr 501 (sz t))=False:=by rw[e,Z5 (by omega)];simp;omega
  simp only[ZG,↓reduceIte,ZA,ZB,ZC,mbl,ZD,ZE,ZF,d];refine hΨ _ _ (fin_ret (rv1 rfl ⟨k3,?_,_,s3⟩));unfold smE;rw[if_pos hs];rfl
 ·have d:((500:Int)<szr 501 (sz t))=True:=by rw[e,Zb (by omega)];simp
  simp only[ZG,↓reduceIte,ZA,ZB,ZC,mbl,ZD,ZE,ZF,d];refine hΨ _ _ (fin_ret (rv1 rfl ⟨k3,?_,_,s3⟩));unfold smE;rw[if_neg hs];rfl
theorem idx_at {a:Nat}:∀ {l:List Nat} {i:Nat},a ∉ l.take i->l[i]?=some a->l.idxOf a=i:=by
 intro l
 induction l with
 | nil=>intro i _ h;simp at h
 | cons x l ih =>
   intro i hn h;rw[List.idxOf_cons];cases i with
   | zero=>simp at h;subst h;simp
   | succ i =>
     rw[Z2,List.mem_cons] at hn;have hne:(x == a)=false:=beq_eq_false_iff_ne.2 (fun e=>hn (.inl e.symm));rw[hne];simp at h;simp [ih (fun e=>hn (.inr e)) h]
theorem index_ok {h:AH} {l:List Nat} {u:Value} (hu:Rds h 1 u l.length (nn l)) (hn:l.length<=1000000000) (a:Nat):Gets Tryd.prog 46 [u,iv (a:Int)] h (fun res h'=>h'=h/\res = .ret (iv (if a∈l then (l.idxOf a:Int) else -1))):=by
 refine Gets.of (keep:=false) hP (draw_ok hM) k46 (by rfl) (fun Ψ hΨ=>?_);obtain ⟨ua,uc,hue⟩:=row_shape hu;simp only[ZG,↓reduceIte,ZA,ZB,ZC,r46,YE,YC,YO,YA,YL,YX,YS,Ya,Yb,Yl,Yf,Yg,Yi,Ym,Yk,Yt,Yn,Yz,Yp,Yq,Yd,mbl,ZD,ZE,ZF,hue];rw[<- hue];refine XLo_rule (α:=Nat) (fun i=>[(0,u),(1,iv (a:Int)),(7,iv l.length),(8,iv i)]) (fun i h'=>i<=l.length/\h'=h/\a ∉ l.take i) (fun i=>l.length-i) 0 ⟨Zj _,rfl,by simp⟩ ⟨by rw[hue];rfl,rfl,rfl,rfl,trivial⟩ ?_;rintro i h1 Ψ2 ⟨hi,rfl,hnot⟩ next out
 by_cases hil:i<l.length
 case neg =>
  have d1:((i:Int)<((l.length:Nat):Int))=False:=by simp;omega
  simp only[ZG,↓reduceIte,ZA,ZB,ZC,d1];refine out (.exit 0) _ _ _ _ (by intro e;cases e) ?_;simp only[ZG,↓reduceIte,ZA,ZB,ZC];have hm:a ∉ l:=by rw[List.take_of_length_le (by omega)] at hnot;exact hnot
  refine hΨ _ _ (fin_ret (rv1 rfl ⟨rfl,?_⟩));rw[if_neg hm];rfl
 case pos =>
 have d1:((i:Int)<((l.length:Nat):Int))=True:=by simp;omega
 have d0:(0<=(i:Int))=True:=by simp
 have hx:l[i]?=some l[i]:=Z0 hil;have hw:IntKind.i64.wrap ((i:Int)+1)=i+1:=i64w (by omega) (by omega);obtain ⟨b1,o1,c1,e1,l1⟩:=nn_at hu hx
 by_cases he:a=l[i]
 ·have e2:((a:Int)=((l[i]:Nat):Int))=True:=by simp;omega
  simp only[ZG,↓reduceIte,ZA,ZB,ZC,d1,e1,d0,and_self,Z8,Zg,mbl,ZD,ZE,ZF,l1,e2];have hm:a∈l:=he ▸ List.getElem_mem _;have hix:l.idxOf a=i:=idx_at hnot (by rw[hx,<- he]);refine out .ret _ _ _ _ (by intro e;cases e) ?_;simp only[ZG,↓reduceIte,ZA,ZB,ZC];refine hΨ _ _ (fin_ret (rv1 rfl ⟨rfl,?_⟩));rw[if_pos hm,hix];rfl
 ·have e2:((a:Int)=((l[i]:Nat):Int))=False:=by simp;omega
  simp only[ZG,↓reduceIte,ZA,ZB,ZC,d1,e1,d0,and_self,Z8,Zg,mbl,ZD,ZE,ZF,l1,e2,hw];refine next (i+1) _ _ _ ⟨by omega,rfl,?_⟩ ⟨by rw[e1];rfl,rfl,rfl,by simp only[Ze,Zc];rfl,trivial⟩ (by omega)
  rw[Zk,hx,List.mem_append];rintro (h1|h1)
  ·exact hnot h1
  ·simp at h1;exact he h1
theorem contains_ok {h:AH} {l:List Nat} {u:Value} (hu:Rds h 1 u l.length (nn l)) (hn:l.length<=1000000000) (a:Nat):Gets Tryd.prog 48 [u,iv (a:Int)] h (fun res h'=>h'=h/\res = .ret (.bool (l.contains a))):=by
 refine Gets.of (keep:=false) hP (draw_ok hM) k48 (by rfl) (fun Ψ hΨ=>?_);simp only[ZG,↓reduceIte,ZA,ZB,ZC,r48,YE,YC,YO,YA,YL,YX,YS,Ya,Yb,Yl,Yf,Yg,Yi,Ym,Yk,Yt,Yn,Yz,Yp,Yq,Yd];refine XX_val (index_ok hu hn a) ?_
 by_cases hm:a∈l
 ·have hc:l.contains a=true:=by simpa using hm
  simp only[ZG,↓reduceIte,ZA,ZB,ZC,hm,show (0<=((l.idxOf a:Nat):Int))=True by simp];refine hΨ _ _ (fin_ret (rv1 rfl ⟨rfl,?_⟩));rw[hc];rfl
 ·have hc:l.contains a=false:=by simpa using hm
  simp only[ZG,↓reduceIte,ZA,ZB,ZC,hm,show ((0:Int) <= -1)=False by simp];refine hΨ _ _ (fin_ret (rv1 rfl ⟨rfl,?_⟩));rw[hc];rfl
set_option maxHeartbeats 2000000 in
theorem vars_ok {n:Nat} {t:Ty} (ht:Tr T ρ n t):∀ {h:AH} {cs:List Ce} (s:TH h b L cs T ρ sp) {l:List Nat} {v:Value},Ows h 3 1 v l.length (nn l)->(∀ q,bk v q->L.cls q=0)->l.length+sz t<=1000000->Gets Tryd.prog 27 [.pointer (some ⟨b,0,none⟩),iv (n:Int),v] h
 (fun res h'=>Keep (fun q=>bk L.vc q\/bk v q) h h' /\ ∃ v',res = .ret v'/\Ows h' 3 1 v' (vs t l).length (nn (vs t l))/\(∀ q,bk v' q->bk v q\/h.length<=q) /\ ∃ cs',TH h' b L cs' T ρ sp):=by
 induction ht with
 | @var n hn hT =>
   intro h cs s l v ov hz hb;refine Gets.of (keep:=false) hP (draw_ok hM) k27 (by rfl) (fun Ψ hΨ=>?_);simp only[ZG,↓reduceIte,ZA,ZB,ZC,r27,YE,YC,YO,YA,YL,YX,YS,Ya,Yb,Yl,Yf,Yg,Yi,Ym,Yk,Yt,Yn,Yz,Yp,Yq,Yd];refine XX_of (at_ok s hn) (fun res h1 hle1 hn1=>?_);obtain ⟨k1,cs1,c,s1,hc,rfl⟩:=hn1;refine .ret ?_;have oN:=Own.new h1 46 h1.length [.string ⟨#[]⟩,.slice none 0 0];have kN:Keep (fun _=>False) h1 (h1++[row 46 h1.length [.string ⟨#[]⟩,.slice none 0 0]]):=Keep.push _ _ _;simp only[ZG,↓reduceIte,ZA,ZB,ZC,mbl,ZD,ZE,ZF];generalize h1++[row 46 h1.length [.string ⟨#[]⟩,.slice none 0 0]]=h2 at oN kN ⊢;have hone:=s1.one hc;refine XH_own oN rfl (by simp [Value.cells]) (by show (true && (c.v.oneCell' && true))=true;rw[hone];rfl) (fun h3 q1 q2 q3=>?_);have oB:Own h3 h1.length 46 [tv c.nm,c.v]:=by simpa [Value.cells] using q1
   have kB:Keep (fun _=>False) h1 h3:=kN.trans' q2 (fun q hq e=>by omega);have s3:=s1.keepF kB;have zB:L.cls h1.length=0:=s1.c0 _ (Z7 _);have k03:Keep (bk L.vc) h h3:=k1.trans (kB.mono (fun _ e=>e.elim));clear q1 q2 q3 kN oN;obtain ⟨e1,rA,_⟩:=s3.tm _ c _ hc hT;have ov3:=ov.keep k03 (fun q e1 e2=>by have:=hz q e1;have:=s.c3 q e2;omega);have e0:c.nm=[]:=e1;have dn:(([]:Bs) == ([]:Bs))=true:=rfl;rw[sz] at hb;simp only[ZG,↓reduceIte,ZA,ZB,ZC,mbl,ZD,ZE,ZF,oB.cells.ld,e0,tx_toList,mk_toList,dn];refine XX_val (contains_ok ov3.rds (by omega) (ρ n)) ?_;have d00:((0:Int)<0)=False:=by simp
   cases hct:l.contains (ρ n) with
   | true =>
     have ev:vs (.var (ρ n)) l=l:=by rw[vs,if_pos hct]
     obtain ⟨va,vc,hva⟩:=row_shape rA;simp only[ZG,↓reduceIte,ZA,ZB,ZC,mbl,ZD,ZE,ZF,oB.cells.ld,hva];rw[<- hva];refine XLo_rule (α:=Unit) (fun _=>[(2,v),(31,iv 0),(32,iv 0)]) (fun _ h'=>h'=h3) (fun _=>0) () rfl ⟨rfl,rfl,rfl,trivial⟩ ?_;rintro _ h4 Ψ2 rfl next out
     simp only[ZG,↓reduceIte,ZA,ZB,ZC,d00];refine out (.exit 0) _ _ _ _ (by intro e;cases e) ?_;simp only[ZG,↓reduceIte,ZA,ZB,ZC];exact hΨ _ _ (fin_ret (rv1 rfl ⟨k03.mono (fun q e=>.inl e),v,rfl,by rw[ev];exact ov3,fun q e=>.inl e,_,s3⟩))
   | false =>
     have ev:vs (.var (ρ n)) l=l++[ρ n]:=by rw[vs,if_neg (by rw[hct];simp)]
     obtain ⟨v',h4,a1,a2,a3,a4⟩:=app1 (bytes:=8) (e:=3) ov3 (xs:=[iv ((ρ n:Nat):Int)]) rfl rfl (by omega) (by omega);have oB4:=oB.keep a3 (fun e=>by have:=(ov.lt _ e);have:=k1.len;omega);have s4:TH h4 b L cs1 T ρ sp:=s3.keep a3 (fun q e1 e2=>e1 (hz q e2));simp only[ZG,↓reduceIte,ZA,ZB,ZC,mbl,ZD,ZE,ZF,a1];obtain ⟨va,vc,hva⟩:=row_shape rA;simp only[ZG,↓reduceIte,ZA,ZB,ZC,mbl,ZD,ZE,ZF,oB4.cells.ld,hva];rw[<- hva];refine XLo_rule (α:=Unit) (fun _=>[(2,v'),(31,iv 0),(32,iv 0)]) (fun _ h'=>h'=h4) (fun _=>0) () rfl ⟨rfl,rfl,rfl,trivial⟩ ?_;rintro _ h5 Ψ2 rfl next out
     simp only[ZG,↓reduceIte,ZA,ZB,ZC,d00];refine out (.exit 0) _ _ _ _ (by intro e;cases e) ?_;simp only[ZG,↓reduceIte,ZA,ZB,ZC];refine hΨ _ _ (fin_ret (rv1 rfl ⟨(k03.mono (fun q e=>.inl e)).trans (a3.mono (fun q e=>.inr e)),v',rfl,?_,fun q e=>(a4 q e).imp id (fun e=>by have:=k03.len;omega),_,s4⟩));rw[ev,Z1,nn_app];exact a2
 | @con n nm al ts hn hT h0 hl ha ih =>
   intro h cs s l v ov hz hb;refine Gets.of (keep:=false) hP (draw_ok hM) k27 (by rfl) (fun Ψ hΨ=>?_);simp only[ZG,↓reduceIte,ZA,ZB,ZC,r27,YE,YC,YO,YA,YL,YX,YS,Ya,Yb,Yl,Yf,Yg,Yi,Ym,Yk,Yt,Yn,Yz,Yp,Yq,Yd];refine XX_of (at_ok s hn) (fun res h1 hle1 hn1=>?_);obtain ⟨k1,cs1,c,s1,hc,rfl⟩:=hn1;refine .ret ?_;have oN:=Own.new h1 46 h1.length [.string ⟨#[]⟩,.slice none 0 0];have kN:Keep (fun _=>False) h1 (h1++[row 46 h1.length [.string ⟨#[]⟩,.slice none 0 0]]):=Keep.push _ _ _;simp only[ZG,↓reduceIte,ZA,ZB,ZC,mbl,ZD,ZE,ZF];generalize h1++[row 46 h1.length [.string ⟨#[]⟩,.slice none 0 0]]=h2 at oN kN ⊢;have hone:=s1.one hc;refine XH_own oN rfl (by simp [Value.cells]) (by show (true && (c.v.oneCell' && true))=true;rw[hone];rfl) (fun h3 q1 q2 q3=>?_);have oB:Own h3 h1.length 46 [tv c.nm,c.v]:=by simpa [Value.cells] using q1
   have kB:Keep (fun _=>False) h1 h3:=kN.trans' q2 (fun q hq e=>by omega);have s3:=s1.keepF kB;have zB:L.cls h1.length=0:=s1.c0 _ (Z7 _);have k03:Keep (bk L.vc) h h3:=k1.trans (kB.mono (fun _ e=>e.elim));clear q1 q2 q3 kN oN;obtain ⟨e1,rA,zA⟩:=s3.tm _ c _ hc hT;have ov3:=ov.keep k03 (fun q e1 e2=>by have:=hz q e1;have:=s.c3 q e2;omega);simp only at e1;have dn:(nm == ([]:Bs))=false:=by simpa using h0
   have h8:al.length<=8:=(s.ok _ _ hT).2.2.2.2;rw[sz] at hb;simp only[ZG,↓reduceIte,ZA,ZB,ZC,mbl,ZD,ZE,ZF,oB.cells.ld,e1,tx_toList,mk_toList,dn];obtain ⟨va,vc,hva⟩:=row_shape rA;simp only[ZG,↓reduceIte,ZA,ZB,ZC,mbl,ZD,ZE,ZF,oB.cells.ld,hva];rw[<- hva];refine XLo_rule (α:=Nat × Value) (fun a=>[(0,.pointer (some ⟨b,0,none⟩)),(2,a.2),(30,c.v),(31,iv (al.length:Int)),(32,iv (a.1:Int))])
    (fun a h'=>a.1<=al.length/\Keep (fun q=>bk L.vc q\/bk v q) h3 h'/\Ows h' 3 1 a.2 (vss (ts.take a.1) l).length (nn (vss (ts.take a.1) l))/\(∀ q,bk a.2 q->bk v q\/h3.length<=q)/\(∀ q,bk a.2 q->L.cls q=0) /\ ∃ cs',TH h' b L cs' T ρ sp) (fun a=>al.length-a.1) (0,v)
    ⟨Zj _,.refl _ _,by simpa [vss] using ov3,fun q e=>.inl e,hz,_,s3⟩ ⟨rfl,rfl,rfl,rfl,rfl,trivial⟩ ?_
   rintro ⟨i,w⟩ h4 Ψ2 ⟨hi,k34,ow,fw,zw,cs4,s4⟩ next out
   simp only at hi ow fw zw
   by_cases hil:i<al.length
   case neg =>
    have hie:i=ts.length:=by omega
    have d1:((i:Int)<((al.length:Nat):Int))=False:=by simp;omega
    simp only[ZG,↓reduceIte,ZA,ZB,ZC,d1];refine out (.exit 0) _ _ _ _ (by intro e;cases e) ?_;simp only[ZG,↓reduceIte,ZA,ZB,ZC];refine hΨ _ _ (fin_ret (rv1 rfl ⟨(k03.mono (fun q e=>.inl e)).trans k34,w,rfl,?_,fun q e=>(fw q e).imp id (fun e=>by have:=k03.len;omega),_,s4⟩));rw[hie,List.take_length] at ow;rw[vs];exact ow
   case pos =>
   have d1:((i:Int)<((al.length:Nat):Int))=True:=by simp;omega
   have d0:(0<=(i:Int))=True:=by simp
   have hx:al[i]?=some al[i]:=Z0 hil;have hy:ts[i]?=some ts[i]:=Z0 (by omega);have hw:IntKind.i64.wrap ((i:Int)+1)=i+1:=i64w (by omega) (by omega);obtain ⟨b1,o1,c1,ev,l1⟩:=nn_at (rA.keep k34 (fun q e1 e2=>by have:=zA q e1;rcases e2 with e2|e2;have:=s.c3 q e2;omega;have:=hz q e2;omega)) hx;have hlen:=@len_vss (ts.take i) (fun t _=>len_vs t) l;have hsz:szs (ts.take i)+sz ts[i]<=szs ts:=by
    rw[<- szs_take hy];exact szs_le _ _
   simp only[ZG,↓reduceIte,ZA,ZB,ZC,d1,ev,d0,and_self,Z8,Zg,mbl,ZD,ZE,ZF,l1];refine XX_of (ih i _ _ hx hy s4 ow zw (by omega)) (fun res h5 hle5 hn5=>?_);obtain ⟨k5,w',rfl,ow5,fw5,cs5,s5⟩:=hn5;refine .ret ?_;simp only[ZG,↓reduceIte,ZA,ZB,ZC,hw];have h34:=k34.len;have h33:=k03.len;refine next (i+1,w') _ _ h5 ⟨by simp only;omega,k34.trans' k5 (fun q hq e=>e.elim .inl (fun e=>(fw q e).elim .inr (fun e2=>by omega))),?_,fun q e=>(fw5 q e).elim (fw q) (fun e2=>.inr (by omega)),fun q e=>(fw5 q e).elim (zw q) (fun e2=>s4.c0 q e2),_,s5⟩ ⟨rfl,rfl,by rw[ev];rfl,rfl,by simp only[Ze,Zc];rfl,trivial⟩ (by simp only;omega)
   simp only;rw[vss_take hy];exact ow5
end
end Go.S11

namespace Go.S11
open Go Go.Eng Go.Proofs Go.Scn Go.Typ
theorem itoa_len {n:Int} (h0 : -9223372036854775808<=n) (h1:n<=9223372036854775807):(Lib.itoa n).length<=21:=by
 have hd:∀ u:Nat,u<18446744073709551616->(Lib.decDigits u).length<=20:=fun u hu=>by
  rw[Lib.decDigits_length]
  rcases Nat.eq_zero_or_pos u with e|e
  ·subst e;rw[Lib.nDigits_small (by omega)];omega
  ·have:=Lib.numDigits_eq u e hu
   split at this<;>omega
 unfold Lib.itoa
 split
 ·have:=hd n.natAbs (by omega);simp;omega
 ·have:=hd n.toNat (by omega);omega
def convO : Oper := ⟨some 8, (.convert 21 9 (.tmp 7)), 9, "text.go:13", #[⟨3, .data⟩], none⟩
noncomputable def convR (c:Int):Option Next:=pureRun Tryd.prog (execOp (fun _=>.int .i32 c) convO)
theorem conv_all:((List.range 26).all fun k=>match convR (97+(k:Nat)) with
 | some (.value (.string s))=>s.data.toList == [UInt8.ofNat (97+k)]
 | _=>false)=true:=by kernel_rfl
theorem conv_one {k:Nat} (hk:k<26):convR (97+(k:Int))=some (.value (.string (tx [UInt8.ofNat (97+k)]))):=by
 have h:=List.all_eq_true.1 conv_all k (List.mem_range.2 hk)
 split at h
 ·rename_i s e
  rw[e];have h2:s.data.toList=[UInt8.ofNat (97+k)]:=eq_of_beq h;have h3:s=tx [UInt8.ofNat (97+k)]:=by rw[tx_of s,h2]
  rw[h3]
 ·cases h
theorem rd_conv {g:Operand->Option Value} {h:AH} {m k:Nat} (hk:k<26) (hx:g (.tmp 7)=some (.int .i32 (97+(k:Int)))):aread Tryd.prog g h m convO=some (tv [UInt8.ofNat (97+k)],none):=by
 have hr:rconvert Tryd.prog h m 21 9 (.int .i32 (97+(k:Int)))=none:=by
  unfold rconvert;rw[show Tryd.prog.underlying 21=some (.int .i32) by kernel_rfl,show Tryd.prog.underlying 9=some .string by kernel_rfl]
 show orElse ((g (.tmp 7)).bind (rconvert Tryd.prog h m 21 9)) (rscal Tryd.prog g convO)=_
 rw[hx,Option.bind_some,hr]
 show rscal Tryd.prog g convO=_
 unfold rscal;rw[if_pos (by simp [convO,Op.operands,notSel,okScal,hx,scal])];have e:pureRun Tryd.prog (execOp (fun x=>(g x).getD undef) convO)=convR (97+(k:Int)):=by
  unfold convR convO;simp only[execOp,resolve,hx,Option.getD_some]
 rw[e,conv_one hk];simp [scal]
theorem i32w {x:Int} (h0:0<=x) (h1:x<=2147483647):IntKind.i32.wrap x=x:=by
 show (if (true && decide (x % (4294967296:Int) ≥ (2147483648:Int)))=true then x % (4294967296:Int)-(4294967296:Int) else x % (4294967296:Int))=x
 have:x % (4294967296:Int)=x:=Int.emod_eq_of_lt h0 (by omega);rw[this,if_neg (by simp;omega)]
theorem letter_ok (i:Nat) (hi:i<=1000000000) (h:AH):Gets Tryd.prog 45 [iv (i:Int)] h (fun res h'=>h'=h/\res = .ret (tv (lett i))):=by
 refine Gets.of (keep:=false) hP (draw_ok hM) k45 (by rfl) (fun Ψ hΨ=>?_);have hm:=Nat.mod_lt i (show 0<26 by omega);have w0:IntKind.i64.wrap (97+((i % 26:Nat):Int))=97+((i % 26:Nat):Int):=i64w (by omega) (by omega);have z26:((26:Int)=0)=False:=by simp
 have tm:((i:Nat):Int).tmod 26=((i % 26:Nat):Int):=rfl;have td:((i:Nat):Int).tdiv 26=((i / 26:Nat):Int):=rfl;have w1:IntKind.i32.wrap (97+((i % 26:Nat):Int))=97+((i % 26:Nat):Int):=by
  have:=@i32w (97+((i % 26:Nat):Int)) (by omega) (by omega);exact this
 have dq1:IntKind.i64.wrap (((i / 26:Nat):Int))=((i / 26:Nat):Int):=i64w (by omega) (by omega);simp only[ZG,↓reduceIte,ZA,ZB,ZC,r45,YE,YC,YO,YA,YL,YX,YS,Ya,Yb,Yl,Yf,Yg,Yi,Ym,Yk,Yt,Yn,Yz,Yp,Yq,Yd,z26,tm,w0,w1];rw [show (⟨some 8, .convert 21 9 (.tmp 7), 9, "text.go:13", #[⟨3, .data⟩], none⟩ : Oper) = convO from rfl, rd_conv hm rfl]
 by_cases h26:i<26
 ·have d:((i:Int)<26)=True:=by simp;omega
  simp only[ZG,↓reduceIte,ZA,ZB,ZC,d];refine hΨ _ _ (fin_ret (rv1 rfl ⟨rfl,?_⟩));unfold lett;rw[if_pos h26];rfl
 ·have d:((i:Int)<26)=False:=by simp;omega
  simp only[ZG,↓reduceIte,ZA,ZB,ZC,d,z26,td,dq1];refine XX_val (itoa_ok ((i / 26:Nat):Int) (by omega) (by omega) h) ?_;have e:sbin .add (tx [UInt8.ofNat (97+i % 26)]) (tx (Lib.itoa ((i / 26:Nat):Int)))=some (tv (lett i)):=by
   have:=itoa_len (n:=((i / 26:Nat):Int)) (by omega) (by omega);rw[s_add (by rw[List.length_singleton];omega)];unfold lett;rw[if_neg h26];rfl
  simp only[ZG,↓reduceIte,ZA,ZB,ZC,e];exact hΨ _ _ (fin_ret (rv1 rfl ⟨rfl,rfl⟩))
end Go.S11

namespace Go.S11
open Go Go.Eng Go.Proofs Go.Scn Go.Typ
theorem Bd.keep {S:Nat->Prop} {h h':AH} {b:Nat} {acc:Bs} {a v:Value} (x:Bd h b acc a v) (k:Keep S h h') (hb:¬ S b) (hv:∀ q,bk v q -> ¬ S q):Bd h' b acc a v :=
 ⟨x.own.keep k hb,x.ad,x.ow.keep k hv,x.ne,x.nl⟩
section
variable {h h1 h2 h':AH} {b:Nat} {L:TL} {T:List Tm} {ρ:Nat->Nat} {sp:Bool} {q:Nat} {acc acc1 acc2:Bs} {v v1 v2 u:Value} {V:List Nat}
structure WT (h:AH) (q:Nat) (v:Value) (b:Nat) (L:TL) (T:List Tm) (ρ:Nat->Nat) (sp:Bool) (acc':Bs) (h':AH) (v':Value):Prop where
 kp:Keep (fun r=>bk L.vc r\/r=q\/bk v r) h h'
 bd:∃ a',Bd h' q acc' a' v'
 fr:∀ r,bk v' r->bk v r\/h.length<=r
 th:∃ cs',TH h' b L cs' T ρ sp
theorem WT.trans (x:WT h q v b L T ρ sp acc1 h1 v1) (y:WT h1 q v1 b L T ρ sp acc2 h2 v2):WT h q v b L T ρ sp acc2 h2 v2:=by
 have l:=x.kp.len;refine ⟨x.kp.trans' y.kp (fun r hr e=>?_),y.bd,fun r e=>?_,y.th⟩
 ·rcases e with e|e|e
  ·exact .inl e
  ·exact .inr (.inl e)
  ·rcases x.fr r e with e2|e2
   ·exact .inr (.inr e2)
   ·omega
 ·rcases y.fr r e with e|e
  ·exact x.fr r e
  ·exact .inr (by omega)
structure WP (h:AH) (b:Nat) (L:TL) (T:List Tm) (ρ:Nat->Nat) (sp:Bool) (q:Nat) (acc:Bs) (v u:Value) (V:List Nat):Prop where
 th:∃ cs,TH h b L cs T ρ sp
 bd:∃ a,Bd h q acc a v
 zq:L.cls q=0
 zv:∀ r,bk v r->L.cls r=0
 ru:Rds h 1 u V.length (nn V)
 ne:∀ r,rb u r->L.cls r=0/\r≠q /\ ¬ bk v r
theorem WP.step (p:WP h b L T ρ sp q acc v u V) (w:WT h q v b L T ρ sp acc1 h1 v1):WP h1 b L T ρ sp q acc1 v1 u V:=by
 obtain ⟨cs,s⟩:=p.th;obtain ⟨a,x⟩:=p.bd;refine ⟨w.th,w.bd,p.zq,fun r e=>(w.fr r e).elim (p.zv r) (s.c0 r),p.ru.keep w.kp (fun r e e2=>?_),fun r e=>⟨(p.ne r e).1,(p.ne r e).2.1,fun e2=>?_⟩⟩
 ·obtain ⟨n1,n2,n3⟩:=p.ne r e
  rcases e2 with e2|e2|e2
  ·have:=s.c3 r e2;omega
  ·exact n2 e2
  ·exact n3 e2
 ·rcases w.fr r e2 with e3|e3
  ·exact (p.ne r e).2.2 e3
  ·have:=p.ru.lt r e;omega
theorem WP.w0 (p:WP h b L T ρ sp q acc v u V) (k:Keep (bk L.vc) h h1) (t:∃ cs,TH h1 b L cs T ρ sp):WT h q v b L T ρ sp acc h1 v:=by
 obtain ⟨cs,s⟩:=p.th;obtain ⟨a,x⟩:=p.bd;exact ⟨k.mono (fun r e=>.inl e),⟨a,x.keep k (fun e=>by have:=s.c3 _ e;have:=p.zq;omega) (fun r e e2=>by have:=s.c3 _ e2;have:=p.zv r e;omega)⟩,fun r e=>.inl e,t⟩
theorem WP.str (p:WP h b L T ρ sp q acc v u V) (l:Bs) (hl:acc.length+l.length<=140000000000000):Gets Tryd.prog 44 [.pointer (some ⟨q,0,none⟩),tv l] h
 (fun res h'=>res = .ret (.tuple #[iv l.length,.nilIface]) /\ ∃ v',WT h q v b L T ρ sp (acc++l) h' v'):=by
 obtain ⟨cs,s⟩:=p.th;obtain ⟨a,x⟩:=p.bd;refine (writeString_ok x l hl).mono fun res h' hle ⟨e,k,v',y,f⟩=>⟨e,v',⟨k.mono (fun r e=>.inr e),⟨_,y⟩,f,_,s.keep k (fun r hr e2=>?_)⟩⟩
 rcases e2 with e2|e2
 ·rw[e2] at hr;exact hr p.zq
 ·exact hr (p.zv r e2)
theorem WP.byte (p:WP h b L T ρ sp q acc v u V) (c:UInt8) (hl:acc.length<=140000000000000):Gets Tryd.prog 47 [.pointer (some ⟨q,0,none⟩),bv c] h
 (fun res h'=>res = .ret .nilIface /\ ∃ v',WT h q v b L T ρ sp (acc++[c]) h' v'):=by
 obtain ⟨cs,s⟩:=p.th;obtain ⟨a,x⟩:=p.bd;refine (writeByte_ok x c hl).mono fun res h' hle ⟨e,k,v',y,f⟩=>⟨e,v',⟨k.mono (fun r e=>.inr e),⟨_,y⟩,f,_,s.keep k (fun r hr e2=>?_)⟩⟩
 rcases e2 with e2|e2
 ·rw[e2] at hr;exact hr p.zq
 ·exact hr (p.zv r e2)
end
theorem lett_len (i:Nat) (hi:i<=1000000000):(lett i).length<=30:=by
 unfold lett
 split
 ·simp
 ·have:=itoa_len (n:=((i / 26:Nat):Int)) (by omega) (by omega)
  rw[Z6];omega
theorem wrap_len (p:Bool) (x:Bs):(wrap p x).length<=x.length+2:=by unfold wrap;split<;>simp
theorem tupT_len:∀ (l:List Bs) (i:Nat),(tupT i l).length<=(l.map fun a=>a.length+2).sum:=by
 intro l
 induction l with
 | nil=>intro i;simp [tupT]
 | cons a l ih =>
   intro i;have:=ih (i+1);rw[tupT,Zh,Zi,Z1,Z1]
   split<;>simp<;>omega
theorem flat_len:∀ (l:List Bs),(l.flatMap fun a=>(32:UInt8)::a).length<=(l.map fun a=>a.length+2).sum:=by
 intro l
 induction l with
 | nil=>simp
 | cons a l ih=>rw[List.flatMap_cons,Zh,Zi,Z1,Z6];omega
theorem mem_sum {l:List Bs} {a:Bs} (h:a∈l):a.length+2<=(l.map fun a=>a.length+2).sum:=by
 induction l with
 | nil=>cases h
 | cons b l ih =>
   rw[Zh,Zi]
   rcases List.mem_cons.1 h with rfl|h
   ·omega
   ·have:=ih h;omega
theorem wrts_sum {V:List Nat} {k:Nat}:∀ l:List Ty,(∀ t∈l,(wrt V k t).length+100<=200*sz t)->((wrts V k l).map fun a=>a.length+2).sum<=200*szs l:=by
 intro l
 induction l with
 | nil=>intro _;rw[wrts];simp
 | cons t l ih2 =>
   intro hh;rw[wrts,szs,Zh,Zi];have:=hh t List.mem_cons_self;have:=ih2 (fun u hu=>hh u (List.mem_cons_of_mem _ hu));omega
theorem wrts_at {V:List Nat} {k i:Nat} {ts:List Ty} {t:Ty} (h:ts[i]?=some t):(wrts V k ts)[i]?=some (wrt V k t):=by rw[wrts_map,List.getElem?_map,h];rfl
theorem wrts_take (V:List Nat) (k i:Nat) (ts:List Ty):wrts V k (ts.take i)=(wrts V k ts).take i:=by rw[wrts_map,wrts_map,List.map_take]
theorem tupT_take:∀ {ls:List Bs} {k i:Nat} {a:Bs},ls[i]?=some a->tupT k (ls.take (i+1))=tupT k (ls.take i)++((if k+i=0 then [40] else [44,32])++a):=by
 intro ls
 induction ls with
 | nil=>intro k i a h;simp at h
 | cons x l ih =>
   intro k i a h;cases i with
   | zero=>simp at h;subst h;simp [tupT]
   | succ i =>
     rw[Z2,Z2,tupT,tupT,ih (k:=k+1) (by simpa using h)];rw[show k+1+i=k+(i+1) by omega];simp [List.append_assoc]
theorem flat_take {ls:List Bs}:∀ {i:Nat} {a:Bs},ls[i]?=some a->(ls.take (i+1)).flatMap (fun a=>(32:UInt8)::a)=(ls.take i).flatMap (fun a=>32::a)++(32::a):=by
 intro i a h;rw[Zk,h];simp
theorem wr_len {T:List Tm} {ρ:Nat->Nat} (hok:∀ (i:Nat) (t:Tm),T[i]?=some t->okN t) {V:List Nat} (hV:V.length<=1000000) {n:Nat} {t:Ty} (ht:Tr T ρ n t):∀ hold,(wrt V hold t).length+100<=200*sz t:=by
 induction ht with
 | @var m hn hT =>
   intro hold;rw[wrt,sz];have:=lett_len (V.idxOf (ρ m)) (by have:=List.idxOf_le_length (a:=ρ m) (l:=V);omega);omega
 | @con n nm al ts hn hT h0 hl ha ih =>
   intro hold;have hnm:=(hok _ _ hT).2.2.2.1;have h2:=(hok _ _ hT).2.2.1;simp only at hnm h2;have hs:∀ k,((wrts V k ts).map fun a=>a.length+2).sum<=200*szs ts:=by
    intro k;refine wrts_sum ts (fun t hm=>?_);obtain ⟨i,hi⟩:=List.getElem?_of_mem hm;have:=(Z4.1 hi).1;exact ih i _ t (Z0 (by omega)) hi k
   have s0:=hs 0;have s1:=hs 1;have s2:=hs 2;rw[wrt,sz];have hw:=wrap_len (par nm ts.length hold) (body nm (wrts V 0 ts) (wrts V 1 ts) (wrts V 2 ts));have hb:(body nm (wrts V 0 ts) (wrts V 1 ts) (wrts V 2 ts)).length<=40+200*szs ts:=by
    have hd:∀ l:List Bs,(l.headD []).length<=(l.map fun a=>a.length+2).sum:=by
     intro l;cases l with
     | nil=>simp
     | cons a l=>simp;omega
    have h1g:∀ l:List Bs,(l[1]?.getD []).length<=(l.map fun a=>a.length+2).sum:=by
     intro l;cases h:l[1]? with
     | none=>simp
     | some a=>have:=mem_sum (List.mem_of_getElem? h);simp;omega
    unfold body
    split
    ·simp only[Z6,Zf];omega
    split
    ·have:=hd (wrts V 0 ts);simp only[Z6,Z1,Zf];omega
    split
    ·rename_i he
     have h2':=h2 he;have hts:ts.length=2:=by omega
     obtain ⟨x,y,rfl⟩:∃ x y,ts=[x,y]:=by
      match ts,hts with
      | [x,y],_=>exact ⟨x,y,rfl⟩
     have p0:=ih 0 _ x (Z0 (by omega)) rfl 1;have p1:=ih 1 _ y (Z0 (by omega)) rfl 0;simp only[wrts,List.headD_cons,szs,Z1,Z6,Zf,List.getElem?_cons_succ,List.getElem?_cons_zero,Option.getD_some];omega
    split
    ·have:=tupT_len (wrts V 0 ts) 0;simp only[Z1,Z6,Zf];omega
    ·have:=flat_len (wrts V 2 ts);rw[Z1];omega
   omega
end Go.S11
