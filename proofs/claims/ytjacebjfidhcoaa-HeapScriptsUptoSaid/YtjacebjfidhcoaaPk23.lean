import Derived.Test.YtjacebjfidhcoaaPk22
import Derived.Test.YtjacebjfidhcoaaPk21
set_option linter.unusedVariables false
set_option linter.unusedSimpArgs false
open Nat renaming reduceEqDiff -> ZA,reduceAdd -> ZB,reduceMul -> ZC,reduceLeDiff -> ZD,reduceLT -> ZE
open Int renaming reduceEq -> ZF
open List renaming getElem?_eq_getElem->Z0,getElem?_eq_some_iff->Z2,getElem?_cons_zero->Z3,getElem?_cons_succ->Z4,mem_of_getElem?->Z5,mem_map->Z9,getElem?_map->Zc,length_map->Zd,getElem_of_mem->Zg,mem_singleton->Zi
open Int renaming toNat_natCast->Z1,toNat_zero->Z8,zero_lt_one->Zb,le_refl->Zf
open Nat renaming add_zero->Z6,mul_one->Z7,zero_mul->Za,le_trans->Zh,le_refl->Zj
open Option renaming map_some->Ze
namespace Go.S18
open Go Go.Eng Go.Proofs Go.Chk
theorem find_ok {l:List Ox} {h:AH} {u:Value} (hu:Rds h 7 u l.length (l.flatMap ox)) (hl:l.length<=1000000000000) {s e:Int} (t:tiles s ((l.map Prod.fst).map Ob.pn) e) (a:Int) :
 Gets Try.prog 78 [u,iv a] h (fun res h'=>h'=h/\res = .ret (iv (fnd (l.map Prod.fst) a))):=by
 refine Gets.of (keep:=false) hP (draw_ok hM) k78 (by rfl) (fun Ψ hΨ=>?_);obtain ⟨ua,uc,rfl⟩:=row_shape hu;simp only[ZG,↓reduceIte,ZA,ZB,ZC,r78,YE,YC,YO,YA,YL,YX,YS,Ya,Yb,Yl,Yf,Yg,Yi,Ym,Yk,Yt,Yn,Yz,Yp,Yq,Yd];refine XLo_rule (α:=Nat × Nat) (fun x=>[(0,.slice ua l.length uc),(1,iv a),(5,iv x.1),(6,iv x.2)])
  (fun x h'=>h'=h/\x.1<=x.2/\x.2<=l.length/\(∀ i o,(l.map Prod.fst)[i]?=some o->i<x.1->o.p<a)/\(∀ i o,(l.map Prod.fst)[i]?=some o->x.2<=i->a<=o.p)) (fun x=>x.2-x.1) (0,l.length)
  ⟨rfl,Nat.zero_le _,Zj _,fun i o _ hi=>absurd hi (Nat.not_lt_zero _),fun i o hi hj=>by have:=(Z2.1 hi).1;rw[Zd] at this;omega⟩ ⟨rfl,rfl,rfl,rfl,trivial⟩ ?_
 rintro ⟨lo,hi⟩ h1 Ψ2 ⟨rfl,h1,h2,h3,h4⟩ next out
 simp only at h1 h2 h3 h4
 by_cases hc:(lo:Int)<(hi:Int)
 ·obtain ⟨mid,hmid⟩:∃ mid,mid=(lo+hi) / 2:=⟨_,rfl⟩
  have hw1:IntKind.i64.wrap ((lo:Int)+(hi:Int))=((lo+hi:Nat):Int):=by rw[i64w (by omega) (by omega)];omega
  have hq:Int.tdiv ((lo+hi:Nat):Int) 2=(mid:Int):=by rw[hmid,Int.tdiv_eq_ediv_of_nonneg (by omega)];omega
  have hw2:IntKind.i64.wrap (mid:Int)=(mid:Int):=i64w (by omega) (by omega);have hm:mid<l.length:=by omega
  have hx:l[mid]?=some l[mid]:=Z0 hm;obtain ⟨b1,o1,c1,e1,hld⟩:=hu.cellAt ox_len hx;cases e1;have l0:=hld 0 (by omega);simp only[ox,Z3,Z6] at l0;have g0:(0:Int)<=(mid:Int):=by omega
  have g1:(mid:Int)<(l.length:Int):=by omega
  have n20:((2:Int)=0)=False:=eq_false (by decide);have hxo:(l.map Prod.fst)[mid]?=some l[mid].1:=by rw[Zc,hx];rfl
  have hw3:IntKind.i64.wrap ((mid:Int)+1)=((mid+1:Nat):Int):=by rw[i64w (by omega) (by omega)];omega
  by_cases hlt:l[mid].1.p<a
  ·simp only[ZG,↓reduceIte,ZA,ZB,ZC,hc,hw1,n20,if_false,hq,hw2,g0,g1,and_self,Z1,l0,hlt,hw3]
   refine next (mid+1,hi) _ _ _ ⟨rfl,by simp only;omega,h2,fun i o hi' hlt'=>?_,h4⟩ ⟨rfl,rfl,rfl,rfl,trivial⟩ (by simp only;omega)
   simp only at hlt'
   rcases Nat.lt_or_ge i mid with c|c
   ·exact Int.lt_trans (pn_lt t hi' hxo c) hlt
   ·have:i=mid:=by omega
    subst this;rw[hxo] at hi';cases hi';exact hlt
  ·simp only[ZG,↓reduceIte,ZA,ZB,ZC,hc,hw1,n20,if_false,hq,hw2,g0,g1,and_self,Z1,l0,hlt]
   refine next (lo,mid) _ _ _ ⟨rfl,by simp only;omega,by simp only;omega,h3,fun i o hi' hle'=>?_⟩ ⟨rfl,rfl,rfl,rfl,trivial⟩ (by simp only;omega)
   simp only at hle'
   rcases Nat.lt_or_ge mid i with c|c
   ·have:=pn_lt t hxo hi' c;omega
   ·have:i=mid:=by omega
    subst this;rw[hxo] at hi';cases hi';omega
 ·have heq:lo=hi:=by omega
  subst heq;simp only[ZG,↓reduceIte,ZA,ZB,ZC,hc];refine out (.exit 0) _ _ _ _ (by intro e;cases e) ?_
  by_cases hln:(lo:Int)<(l.length:Int)
  ·have hx:l[lo]?=some l[lo]:=Z0 (by omega)
   have hxo:(l.map Prod.fst)[lo]?=some l[lo].1:=by rw[Zc,hx];rfl
   obtain ⟨b1,o1,c1,e1,hld⟩:=hu.cellAt ox_len hx;cases e1;have l0:=hld 0 (by omega);simp only[ox,Z3,Z6] at l0;have g0:(0:Int)<=(lo:Int):=by omega
   by_cases hpa:l[lo].1.p=a
   ·simp only[ZG,↓reduceIte,ZA,ZB,ZC,hln,g0,and_self,Z1,l0,hpa]
    refine hΨ _ _ (fin_ret (rv1 rfl ⟨rfl,?_⟩));have:=fnd_some t hxo;rw[hpa] at this;rw[this];rfl
   ·simp only[ZG,↓reduceIte,ZA,ZB,ZC,hln,g0,and_self,Z1,l0,hpa]
    refine hΨ _ _ (fin_ret (rv1 rfl ⟨rfl,?_⟩));rw[fnd_none];· rfl
    intro o ho e;obtain ⟨i,hi,rfl⟩:=Zg ho;have hi':=Z0 hi
    rcases Nat.lt_trichotomy i lo with c|c|c
    ·have:=h3 i _ hi' c;omega
    ·subst c
     have e2:=Option.some.inj (hi'.symm.trans hxo);rw[e2] at e;exact hpa e
    ·have:=pn_lt t hxo hi' c;have:=h4 lo _ hxo (Zj _);omega
  ·simp only[ZG,↓reduceIte,ZA,ZB,ZC,hln]
   refine hΨ _ _ (fin_ret (rv1 rfl ⟨rfl,?_⟩));rw[fnd_none];· rfl
   intro o ho e;obtain ⟨i,hi,rfl⟩:=Zg ho;have hi':=Z0 hi;rw[Zd] at hi;have:=h3 i _ hi' (by omega);omega
section
variable {h:AH} {b:Nat} {L:RL} {S:HS}
theorem RH.few (s:RH h b L S) (v:Inv S):L.nl.length<=1048576/\L.ol.length<=1048576:=by
 have key:∀ {l:List (Int × Int)} {a e:Int},tiles a l e->(l.length:Int)<=e-a:=by
  intro l
  induction l with
  | nil=>intro a e t;cases t;simp
  | cons x l ih=>intro a e t;have:=ih t.2.2;have:=t.2.1;simp only[List.length_cons];omega
 have h1:=key (s.tn v);have h2:=key (s.to v);simp only[Zd] at h1 h2;have:=v.ln;have:=v.lo;have:=v.sz;omega
def RL.row (L:RL) (w:Int × Int):Int:=if w.1=4 then fnd (L.nl.map Prod.fst) w.2 else -1
theorem rrow_ok (s:RH h b L S) (v:Inv S) (w:Int × Int):Gets Try.prog 76 [.pointer (some ⟨b,0,none⟩),wv w] h (fun res h'=>Keep (fun _=>False) h h'/\res = .ret (iv (L.row w))):=by
 refine Gets.of (keep:=false) hP (draw_ok hM) k76 (by rfl) (fun Ψ hΨ=>?_);have on:=Own.new h 36 h.length [iv w.1,iv w.2];have kp:Keep (fun _=>False) h (h++[row 36 h.length [iv w.1,iv w.2]]):=Keep.push _ _ _;have s1:=s.keepF kp;simp only[ZG,↓reduceIte,ZA,ZB,ZC,r76,YE,YC,YO,YA,YL,YX,YS,Ya,Yb,Yl,Yf,Yg,Yi,Ym,Yk,Yt,Yn,Yz,Yp,Yq,Yd,wv,mbl,ZD,ZE,ZF];generalize h++[row 36 h.length [iv w.1,iv w.2]]=h1 at on kp s1 ⊢;obtain ⟨w1,w2⟩:=w;simp only at on
 by_cases d4:w1=4
 ·simp only[ZG,↓reduceIte,ZA,ZB,ZC,on.cells.ld,s1.own.cells.ld,RL.cells,mbl,ZD,ZE,ZF,d4]
  refine XX_val (find_ok s1.rn.rds (by have:=s1.few v;omega) (s1.tn v) w2) ?_;simp only[ZG,↓reduceIte,ZA,ZB,ZC,mbl,ZD,ZE,ZF];exact hΨ _ _ (fin_ret (rv1 rfl ⟨kp,by rw[RL.row,if_pos d4];rfl⟩))
 ·simp only[ZG,↓reduceIte,ZA,ZB,ZC,on.cells.ld,mbl,ZD,ZE,ZF,d4]
  exact hΨ _ _ (fin_ret (rv1 rfl ⟨kp,by rw[RL.row,if_neg d4];rfl⟩))
theorem row_lies (s:RH h b L S) (v:Inv S) (w:Int × Int):(L.row w = -1 /\ ¬ S.lies w) \/ ∃ (i:Nat) (x:Ox),L.nl[i]?=some x/\x.1.p=w.2/\w.1=4/\L.row w=(i:Int)/\S.lies w/\mget w.2 S.begins=some x.1.n:=by
 by_cases d4:w.1=4
 ·rcases s.find v w.2 with ⟨h1,h2⟩|⟨i,x,h1,h2,h3,h4⟩
  ·exact .inl ⟨by rw[RL.row,if_pos d4];exact h1,fun h=>by have:=h.2;rw[h2] at this;cases this⟩
  ·exact .inr ⟨i,x,h1,h2,d4,by rw[RL.row,if_pos d4];exact h3,⟨d4,by rw[h4];rfl⟩,h4⟩
 ·exact .inl ⟨by rw[RL.row,if_neg d4],fun h=>d4 h.1⟩
theorem rplain_ok (s:RH h b L S) (w:Int × Int):Gets Try.prog 77 [.pointer (some ⟨b,0,none⟩),wv w] h (fun res h'=>Keep (fun _=>False) h h'/\res = .ret (.bool (decide (S.plain w)))):=by
 refine Gets.of (keep:=false) hP (draw_ok hM) k77 (by rfl) (fun Ψ hΨ=>?_);have on:=Own.new h 36 h.length [iv w.1,iv w.2];have kp:Keep (fun _=>False) h (h++[row 36 h.length [iv w.1,iv w.2]]):=Keep.push _ _ _;have s1:=s.keepF kp;simp only[ZG,↓reduceIte,ZA,ZB,ZC,r77,YE,YC,YO,YA,YL,YX,YS,Ya,Yb,Yl,Yf,Yg,Yi,Ym,Yk,Yt,Yn,Yz,Yp,Yq,Yd,wv,mbl,ZD,ZE,ZF];generalize h++[row 36 h.length [iv w.1,iv w.2]]=h1 at on kp s1 ⊢;obtain ⟨w1,w2⟩:=w;simp only at on
 by_cases d1:w1=1
 ·simp only[ZG,↓reduceIte,ZA,ZB,ZC,on.cells.ld,mbl,ZD,ZE,ZF,d1]
  exact hΨ _ _ (fin_ret (rv1 rfl ⟨kp,by simp [tup,HS.plain,d1]⟩))
 by_cases d2:w1=2
 ·obtain ⟨ka,kc,hvk⟩:=row_shape s1.rk
  by_cases g1:0<=w2
  case neg =>
   simp only[ZG,↓reduceIte,ZA,ZB,ZC,on.cells.ld,mbl,ZD,ZE,ZF,d1,d2,g1];exact hΨ _ _ (fin_ret (rv1 rfl ⟨kp,by simp [tup,HS.plain,d2,g1]⟩))
  by_cases g2:w2<(S.cons.length:Int)
  case neg =>
   simp only[ZG,↓reduceIte,ZA,ZB,ZC,on.cells.ld,s1.own.cells.ld,RL.cells,mbl,ZD,ZE,ZF,d1,d2,g1,hvk,g2];exact hΨ _ _ (fin_ret (rv1 rfl ⟨kp,by simp [tup,HS.plain,d2,g2]⟩))
  obtain ⟨x,hx⟩:∃ x,S.cons[w2.toNat]?=some x:=⟨_,Z0 (show w2.toNat<S.cons.length by omega)⟩
  obtain ⟨b1,o1,c1,e1,_,hld⟩:=rds_ix s1.rk g1 hx;have hcn:S.cn w2=x:=by rw[HS.cn,hx];rfl
  by_cases g3:x=0
  ·subst g3
   simp only[ZG,↓reduceIte,ZA,ZB,ZC,on.cells.ld,s1.own.cells.ld,RL.cells,mbl,ZD,ZE,ZF,d1,d2,g1,e1,g2,and_self,Z7,hld];exact hΨ _ _ (fin_ret (rv1 rfl ⟨kp,by simp [tup,HS.plain,d2,g1,g2,hcn]⟩))
  ·simp only[ZG,↓reduceIte,ZA,ZB,ZC,on.cells.ld,s1.own.cells.ld,RL.cells,mbl,ZD,ZE,ZF,d1,d2,g1,e1,g2,and_self,Z7,hld,g3]
   exact hΨ _ _ (fin_ret (rv1 rfl ⟨kp,by simp [tup,HS.plain,d2,g1,g2,hcn,g3]⟩))
 by_cases d3:w1=3
 ·obtain ⟨ka,kc,hvk⟩:=row_shape s1.ri
  by_cases g1:0<=w2
  case neg =>
   simp only[ZG,↓reduceIte,ZA,ZB,ZC,on.cells.ld,mbl,ZD,ZE,ZF,d1,d2,d3,g1];exact hΨ _ _ (fin_ret (rv1 rfl ⟨kp,by simp [tup,HS.plain,d3,g1]⟩))
  by_cases g2:w2<(S.infos.length:Int)
  case neg =>
   simp only[ZG,↓reduceIte,ZA,ZB,ZC,on.cells.ld,s1.own.cells.ld,RL.cells,mbl,ZD,ZE,ZF,d1,d2,d3,g1,hvk,g2];exact hΨ _ _ (fin_ret (rv1 rfl ⟨kp,by simp [tup,HS.plain,d3,g2]⟩))
  obtain ⟨⟨k,a,f,c⟩,hx⟩:∃ x,S.infos[w2.toNat]?=some x:=⟨_,Z0 (show w2.toNat<S.infos.length by omega)⟩
  obtain ⟨b1,o1,c1,e1,_,hld⟩:=rds_fld (by omega) Inf.len s1.ri hx;have hl0:=hld 0 (by omega);have hl2:=hld 2 (by omega);simp only[Inf.cells,Z4,Z3,Ze,Z6] at hl0 hl2;have hik:S.ik w2=k:=by rw[HS.ik,hx];rfl
  have hfr:S.fr w2=f:=by rw[HS.fr,hx];rfl
  by_cases g3:k=1
  case neg =>
   simp only[ZG,↓reduceIte,ZA,ZB,ZC,on.cells.ld,s1.own.cells.ld,RL.cells,mbl,ZD,ZE,ZF,d1,d2,d3,g1,e1,g2,and_self,hl0,g3];exact hΨ _ _ (fin_ret (rv1 rfl ⟨kp,by simp [tup,HS.plain,d3,g1,g2,hik,hfr,g3]⟩))
  by_cases g4:f=0
  ·simp only[ZG,↓reduceIte,ZA,ZB,ZC,on.cells.ld,s1.own.cells.ld,RL.cells,mbl,ZD,ZE,ZF,d1,d2,d3,g1,e1,g2,and_self,hl0,hl2,g3,g4]
   exact hΨ _ _ (fin_ret (rv1 rfl ⟨kp,by simp [tup,HS.plain,d3,g1,g2,hik,hfr,g3,g4]⟩))
  ·simp only[ZG,↓reduceIte,ZA,ZB,ZC,on.cells.ld,s1.own.cells.ld,RL.cells,mbl,ZD,ZE,ZF,d1,d2,d3,g1,e1,g2,and_self,hl0,hl2,g3,g4]
   exact hΨ _ _ (fin_ret (rv1 rfl ⟨kp,by simp [tup,HS.plain,d3,g1,g2,hik,hfr,g3,g4]⟩))
 simp only[ZG,↓reduceIte,ZA,ZB,ZC,on.cells.ld,mbl,ZD,ZE,ZF,d1,d2,d3];exact hΨ _ _ (fin_ret (rv1 rfl ⟨kp,by simp [tup,HS.plain,d1,d2,d3]⟩))
theorem rSound_ok (s:RH h b L S) (v:Inv S) (w:Int × Int):Gets Try.prog 75 [.pointer (some ⟨b,0,none⟩),wv w] h (fun res h'=>Keep (fun _=>False) h h'/\res = .ret (.bool (decide (S.sound w)))):=by
 refine Gets.of (keep:=false) hP (draw_ok hM) k75 (by rfl) (fun Ψ hΨ=>?_);have on:=Own.new h 36 h.length [iv w.1,iv w.2];have kp:Keep (fun _=>False) h (h++[row 36 h.length [iv w.1,iv w.2]]):=Keep.push _ _ _;have s1:=s.keepF kp;simp only[ZG,↓reduceIte,ZA,ZB,ZC,r75,YE,YC,YO,YA,YL,YX,YS,Ya,Yb,Yl,Yf,Yg,Yi,Ym,Yk,Yt,Yn,Yz,Yp,Yq,Yd,wv,mbl,ZD,ZE,ZF];generalize h++[row 36 h.length [iv w.1,iv w.2]]=h1 at on kp s1 ⊢;simp only[ZG,↓reduceIte,ZA,ZB,ZC,on.cells.lds 0 2 (by simp),mbl,ZD,ZE,ZF];refine XX_of (rplain_ok s1 w) (fun res h2 hle hn=>?_);obtain ⟨k2,rfl⟩:=hn;refine .ret ?_;have k02:=kp.trans k2;have on2:=on.keep k2 (fun e=>e)
 by_cases hp:S.plain w
 ·simp only[ZG,↓reduceIte,ZA,ZB,ZC,hp,mbl,ZD,ZE,ZF]
  exact hΨ _ _ (fin_ret (rv1 rfl ⟨k02,by simp [tup,HS.sound,hp]⟩))
 simp only[ZG,↓reduceIte,ZA,ZB,ZC,hp,mbl,ZD,ZE,ZF,on2.cells.lds 0 2 (by simp)];have s2:=s.keepF k02;refine XX_of (rrow_ok s2 v w) (fun res h3 hle3 hn=>?_);obtain ⟨k3,rfl⟩:=hn;refine .ret ?_
 rcases row_lies s2 v w with ⟨e,hl⟩|⟨i,x,_,_,_,e,hl,_⟩
 ·have n1:¬ (0:Int) <= -1:=by decide
  simp only[ZG,↓reduceIte,ZA,ZB,ZC,e,n1,mbl,ZD,ZE,ZF];exact hΨ _ _ (fin_ret (rv1 rfl ⟨k02.trans k3,by simp [tup,HS.sound,hp,hl]⟩))
 ·have n1:(0:Int)<=(i:Int):=by omega
  simp only[ZG,↓reduceIte,ZA,ZB,ZC,e,n1,mbl,ZD,ZE,ZF];exact hΨ _ _ (fin_ret (rv1 rfl ⟨k02.trans k3,by simp [tup,HS.sound,hl]⟩))
theorem rUsed_ok (s:RH h b L S):Gets Try.prog 61 [.pointer (some ⟨b,0,none⟩)] h (fun res h'=>h'=h/\res = .ret (iv S.now.length)):=by
 refine Gets.of (keep:=false) hP (draw_ok hM) k61 (by rfl) (fun Ψ hΨ=>?_);simp only[ZG,↓reduceIte,ZA,ZB,ZC,r61,YE,YC,YO,YA,YL,YX,YS,Ya,Yb,Yl,Yf,Yg,Yi,Ym,Yk,Yt,Yn,Yz,Yp,Yq,Yd,s.own.cells.ld,RL.cells,mbl,ZD,ZE,ZF];exact hΨ _ _ (fin_ret (rv1 rfl ⟨rfl,rfl⟩))
theorem rSize_ok (s:RH h b L S):Gets Try.prog 65 [.pointer (some ⟨b,0,none⟩)] h (fun res h'=>h'=h/\res = .ret (iv S.size)):=by
 refine Gets.of (keep:=false) hP (draw_ok hM) k65 (by rfl) (fun Ψ hΨ=>?_);simp only[ZG,↓reduceIte,ZA,ZB,ZC,r65,YE,YC,YO,YA,YL,YX,YS,Ya,Yb,Yl,Yf,Yg,Yi,Ym,Yk,Yt,Yn,Yz,Yp,Yq,Yd,s.own.cells.ld,RL.cells,mbl,ZD,ZE,ZF];exact hΨ _ _ (fin_ret (rv1 rfl ⟨rfl,rfl⟩))
end
end Go.S18

namespace Go.S18
open Go Go.Eng Go.Proofs Go.Chk
section
variable {h:AH} {b:Nat} {L:RL} {S:HS}
theorem RH.head (s:RH h b L S) {i:Nat} {x:Ox} (hx:L.nl[i]?=some x):x.1.hd=gx S.now x.1.p:=(s.vn.ob x.1 (Z9.2 ⟨x,Z5 hx,rfl⟩)).1
theorem RH.fields (s:RH h b L S) (v:Inv S) {i:Nat} {x:Ox} (hx:L.nl[i]?=some x):x.1.fs=S.flds (4,x.1.p):=by
 have hm:x.1∈L.nl.map Prod.fst:=Z9.2 ⟨x,Z5 hx,rfl⟩;have h1:=s.vn.get v hm;obtain ⟨a,c,_⟩:=s.vn.ob x.1 hm;rw[flds_eq h1,c,a]
theorem rHead_ok (s:RH h b L S) (v:Inv S) (w:Int × Int):Gets Try.prog 54 [.pointer (some ⟨b,0,none⟩),wv w] h (fun res h'=>Keep (fun _=>False) h h'/\res = .ret (.tuple #[wv (S.head w).1,iv (S.head w).2])):=by
 refine Gets.of (keep:=false) hP (draw_ok hM) k54 (by rfl) (fun Ψ hΨ=>?_);have oW:=Own.new h 36 h.length [iv w.1,iv w.2];have k1:Keep (fun _=>False) h (h++[row 36 h.length [iv w.1,iv w.2]]):=Keep.push _ _ _;have l1:(h++[row 36 h.length [iv w.1,iv w.2]]).length=h.length+1:=by simp
 simp only[ZG,↓reduceIte,ZA,ZB,ZC,r54,YE,YC,YO,YA,YL,YX,YS,Ya,Yb,Yl,Yf,Yg,Yi,Ym,Yk,Yt,Yn,Yz,Yp,Yq,Yd,wv,mbl,ZD,ZE,ZF];generalize h++[row 36 h.length [iv w.1,iv w.2]]=h1 at oW k1 l1 ⊢;have oR:=Own.new h1 36 h1.length [iv 0,iv 0];have k2:Keep (fun _=>False) h1 (h1++[row 36 h1.length [iv 0,iv 0]]):=Keep.push _ _ _;have l2:(h1++[row 36 h1.length [iv 0,iv 0]]).length=h.length+2:=by simp [l1]
 generalize h1++[row 36 h1.length [iv 0,iv 0]]=h2 at oR k2 l2 ⊢;have oW2:=oW.keep k2 (fun e=>e);have k02:=k1.trans k2;simp only[ZG,↓reduceIte,ZA,ZB,ZC,oW2.cells.lds 0 2 (by simp),mbl,ZD,ZE,ZF];refine XX_of (rrow_ok (s.keepF k02) v w) (fun res h3 hle hn=>?_);obtain ⟨k3,rfl⟩:=hn;refine .ret ?_;have k03:=k02.trans k3;have oR3:=oR.keep k3 (fun e=>e);have s3:=s.keepF k03
 rcases row_lies s3 v w with ⟨e,hl⟩|⟨i,x,hx,hp,h4,e,hl,hg⟩
 ·have n1:(-1:Int)<0:=by decide
  simp only[ZG,↓reduceIte,ZA,ZB,ZC,e,n1,mbl,ZD,ZE,ZF];refine XH_own oR3 rfl (by simp [Value.cells]) rfl (fun h4 q1 q2 q3=>?_);have oR4:Own h4 h1.length 36 [iv 0,iv 0]:=by simpa [Value.cells] using q1
  simp only[ZG,↓reduceIte,ZA,ZB,ZC];have kF:Keep (fun _=>False) h h4:=k03.trans' q2 (fun c hc e=>by omega);refine hΨ _ _ (fin_ret (rvw rfl oR4 rfl ⟨kF,?_⟩));rw[HS.head,if_neg hl];rfl
 ·have n1:¬ (i:Int)<0:=by omega
  have g0:(0:Int)<=(i:Int):=by omega
  have g1:(i:Int)<(L.nl.length:Int):=by have:=(Z2.1 hx).1;omega
  obtain ⟨b1,o1,c1,e1,hld⟩:=s3.rn.rds.cellsAt ox_len hx (j:=2) (m:=2) (by omega);simp only[ox,List.drop_succ_cons,List.drop_zero,List.take_succ_cons,List.take_zero] at hld;simp only[ZG,↓reduceIte,ZA,ZB,ZC,e,n1,mbl,ZD,ZE,ZF,s3.own.cells.ld,RL.cells,e1,g0,g1,and_self,Z1,hld];refine XH_own oR3 rfl (by simp [Value.cells]) rfl (fun h4 q1 q2 q3=>?_);have oR4:Own h4 h1.length 36 [iv x.1.hd.1,iv x.1.hd.2]:=by simpa [Value.cells] using q1
  simp only[ZG,↓reduceIte,ZA,ZB,ZC];have kF:Keep (fun _=>False) h h4:=k03.trans' q2 (fun c hc e=>by omega);refine hΨ _ _ (fin_ret (rvw rfl oR4 rfl ⟨kF,?_⟩));rw[HS.head,if_pos hl,<- hp,<- s3.head hx];rfl
theorem copy_row {h:AH} {u:Value} {xs:List (Int × Int)} (hu:Rds h 2 u xs.length (ww xs)) (hb:xs.length*16<=140737488355328) :
 ∃ v h',appv false (h++[row 36 h.length []]) false 36 2 16 (.slice (some ⟨h.length,0,none⟩) 0 0) u=some (v,h')/\Ows h' 36 2 v xs.length (ww xs)/\Keep (fun _=>False) h h' /\ ∀ q,bk v q->h.length<=q:=by
 have e0:Keep (fun _=>False) h (h++[row 36 h.length []]):=Keep.push _ _ _;have ow:Ows (h++[row 36 h.length []]) 36 2 (.slice (some ⟨h.length,0,none⟩) 0 0) 0 []:=.mk (Own.new h _ h.length []) rfl (Zj _) rfl;obtain ⟨_,si,rfl⟩:=(hu.keep e0 (fun _ _ e=>e)).src (rowsOf_one _);obtain ⟨v,h',a1,a2,a3,a4⟩:=ow.app (bytes:=16) si (rowsOf_len wc_len _) (rowsOf_one _) (by omega) (by omega);rw[Nat.zero_add,List.nil_append] at a2;refine ⟨v,h',a1,a2,e0.trans' a3 (fun c hc e=>by have:c=h.length:=e;omega),fun q hq=>?_⟩
 rcases a4 q hq with e|e
 ·have:q=h.length:=e
  omega
 ·simp at e;omega
theorem rFields_ok (s:RH h b L S) (v:Inv S) (w:Int × Int):Gets Try.prog 55 [.pointer (some ⟨b,0,none⟩),wv w] h (fun res h'=>Keep (fun _=>False) h h' /\
 if S.lies w then ∃ v,res = .ret (.tuple #[v,iv 0])/\Ows h' 36 2 v (S.flds w).length (ww (S.flds w)) /\ ∀ q,bk v q->h.length<=q
 else res = .ret (.tuple #[.slice none 0 0,iv 1])):=by
 refine Gets.of (keep:=false) hP (draw_ok hM) k55 (by rfl) (fun Ψ hΨ=>?_);have oW:=Own.new h 36 h.length [iv w.1,iv w.2];have k1:Keep (fun _=>False) h (h++[row 36 h.length [iv w.1,iv w.2]]):=Keep.push _ _ _;have l1:(h++[row 36 h.length [iv w.1,iv w.2]]).length=h.length+1:=by simp
 simp only[ZG,↓reduceIte,ZA,ZB,ZC,r55,YE,YC,YO,YA,YL,YX,YS,Ya,Yb,Yl,Yf,Yg,Yi,Ym,Yk,Yt,Yn,Yz,Yp,Yq,Yd,wv,mbl,ZD,ZE,ZF];generalize h++[row 36 h.length [iv w.1,iv w.2]]=h1 at oW k1 l1 ⊢;simp only[ZG,↓reduceIte,ZA,ZB,ZC,oW.cells.lds 0 2 (by simp),mbl,ZD,ZE,ZF];refine XX_of (rrow_ok (s.keepF k1) v w) (fun res h3 hle hn=>?_);obtain ⟨k3,rfl⟩:=hn;refine .ret ?_;have k03:=k1.trans k3;have s3:=s.keepF k03
 rcases row_lies s3 v w with ⟨e,hl⟩|⟨i,x,hx,hp,h4,e,hl,hg⟩
 ·have n1:(-1:Int)<0:=by decide
  simp only[ZG,↓reduceIte,ZA,ZB,ZC,e,n1,mbl,ZD,ZE,ZF];refine hΨ _ _ (fin_ret (rv2 rfl rfl ⟨k03,?_⟩));rw[if_neg hl];rfl
 ·have n1:¬ (i:Int)<0:=by omega
  have g0:(0:Int)<=(i:Int):=by omega
  have g1:(i:Int)<(L.nl.length:Int):=by have:=(Z2.1 hx).1;omega
  have ke:Keep (fun _=>False) h3 (h3++[row 36 h3.length []]):=Keep.push _ _ _;have s4:=s3.keepF ke;obtain ⟨b1,o1,c1,e1,hld⟩:=s4.rn.rds.cellAt ox_len hx;have l4:=hld 4 (by omega);simp only[ox,Z4,Z3] at l4;have hf:=s3.fields v hx;have hfl:x.1.fs.length<=1048576:=by
   have hm:x.1∈L.nl.map Prod.fst:=Z9.2 ⟨x,Z5 hx,rfl⟩;have hmb:=s3.vn.mem hm;have t:=tiles_in v.tn hmb;have kd:=(v.kn _ hmb).fc t.2.1;obtain ⟨a,c,_⟩:=s3.vn.ob x.1 hm;simp only at t kd;rw[c,fld_len,a];have:=v.ln;have:=v.sz;omega
  obtain ⟨u,h5,a1,a2,a3,a4⟩:=copy_row (s3.fn i x hx).1.rds (by omega);simp only[ZG,↓reduceIte,ZA,ZB,ZC,e,n1,mbl,ZD,ZE,ZF,s4.own.cells.ld,RL.cells,e1,g0,g1,and_self,Z1,l4,a1];refine hΨ _ _ (fin_ret (rv2 rfl rfl ⟨k03.trans a3,?_⟩));rw[if_pos hl];have hw:w=(4,x.1.p):=by rw[hp];exact lies4 hl
  rw[hw,<- hf];exact ⟨u,rfl,a2,fun q hq=>Zh k03.len (a4 q hq)⟩
theorem rGlobals_ok (s:RH h b L S) (hg:S.globals.length*16<=140737488355328):Gets Try.prog 66 [.pointer (some ⟨b,0,none⟩)] h (fun res h'=>Keep (fun _=>False) h h' /\ ∃ v,res = .ret v/\Ows h' 36 2 v S.globals.length (ww S.globals) /\ ∀ q,bk v q->h.length<=q):=by
 refine Gets.of (keep:=false) hP (draw_ok hM) k66 (by rfl) (fun Ψ hΨ=>?_);have ke:Keep (fun _=>False) h (h++[row 36 h.length []]):=Keep.push _ _ _;have s4:=s.keepF ke;obtain ⟨u,h5,a1,a2,a3,a4⟩:=copy_row s.rg.rds hg;simp only[ZG,↓reduceIte,ZA,ZB,ZC,r66,YE,YC,YO,YA,YL,YX,YS,Ya,Yb,Yl,Yf,Yg,Yi,Ym,Yk,Yt,Yn,Yz,Yp,Yq,Yd,s4.own.cells.ld,RL.cells,mbl,ZD,ZE,ZF,a1];exact hΨ _ _ (fin_ret (rv1 rfl ⟨a3,u,rfl,a2,a4⟩))
theorem rNext_ok (s:RH h b L S) (v:Inv S) (a:Int):Gets Try.prog 63 [.pointer (some ⟨b,0,none⟩),iv a] h (fun res h'=>h'=h/\res = .ret (.tuple #[iv (S.next a).1,iv (S.next a).2])):=by
 refine Gets.of (keep:=false) hP (draw_ok hM) k63 (by rfl) (fun Ψ hΨ=>?_);simp only[ZG,↓reduceIte,ZA,ZB,ZC,r63,YE,YC,YO,YA,YL,YX,YS,Ya,Yb,Yl,Yf,Yg,Yi,Ym,Yk,Yt,Yn,Yz,Yp,Yq,Yd,s.own.cells.ld,RL.cells,mbl,ZD,ZE,ZF];refine XX_val (find_ok s.rn.rds (by have:=s.few v;omega) (s.tn v) a) ?_
 rcases s.find v a with ⟨h1,h2⟩|⟨i,x,hx,hp,h3,hg⟩
 ·have n1:(-1:Int)<0:=by decide
  simp only[ZG,↓reduceIte,ZA,ZB,ZC,h1,n1,mbl,ZD,ZE,ZF];exact hΨ _ _ (fin_ret (rv2 rfl rfl ⟨rfl,by rw[HS.next,h2];rfl⟩))
 ·have n1:¬ (i:Int)<0:=by omega
  have g0:(0:Int)<=(i:Int):=by omega
  have g1:(i:Int)<(L.nl.length:Int):=by have:=(Z2.1 hx).1;omega
  obtain ⟨b1,o1,c1,e1,hld⟩:=s.rn.rds.cellAt ox_len hx;have l1:=hld 1 (by omega);simp only[ox,Z4,Z3] at l1;have t:=tiles_in v.tn (mget_in hg);have:=v.ln;have:=v.sz;simp only at t;have hw:IntKind.i64.wrap (a+x.1.n)=a+x.1.n:=i64w (by omega) (by omega);simp only[ZG,↓reduceIte,ZA,ZB,ZC,h3,n1,mbl,ZD,ZE,ZF,s.own.cells.ld,RL.cells,e1,g0,g1,and_self,Z1,l1,hw];exact hΨ _ _ (fin_ret (rv2 rfl rfl ⟨rfl,by rw[HS.next,hg];rfl⟩))
end
end Go.S18

namespace Go.S18
open Go Go.Eng Go.Proofs Go.Chk
def HS.wds (S:HS) (hd:Int × Int) (ys:List (Int × Int)):Int:=if S.fits hd ys then ((S.all hd ys).length:Int) else 0
theorem wds_no {S:HS} {hd:Int × Int} {ys:List (Int × Int)} (h:¬ S.fits hd ys):(0:Int)=S.wds hd ys:=by rw[HS.wds,if_neg h]
theorem wds_pad {S:HS} {hd:Int × Int} {ys:List (Int × Int)} (h:S.fits hd ys) (hp:S.pad hd ys.length) (hz:ys.length=0):(2:Int)=S.wds hd ys:=by
 rw[HS.wds,if_pos h,HS.all,if_pos hp];simp;omega
theorem wds_one {S:HS} {hd:Int × Int} {ys:List (Int × Int)} (h:S.fits hd ys) (hp:¬ S.pad hd ys.length):(ys.length:Int)+1=S.wds hd ys:=by
 rw[HS.wds,if_pos h,HS.all,if_neg hp];simp
section
variable {h:AH} {b:Nat} {L:RL} {S:HS}
set_option maxHeartbeats 2000000 in
set_option maxRecDepth 5000 in
theorem rwords_ok (s:RH h b L S) (hd:Int × Int) {u:Value} {ys:List (Int × Int)} (hu:Rds h 2 u ys.length (ww ys)) (hm:ys.length<=1048576000):Gets Try.prog 74 [.pointer (some ⟨b,0,none⟩),wv hd,u] h (fun res h'=>Keep (fun _=>False) h h'/\res = .ret (iv (S.wds hd ys))):=by
 refine Gets.of (keep:=false) hP (draw_ok hM) k74 (by rfl) (fun Ψ hΨ=>?_);have on:=Own.new h 36 h.length [iv hd.1,iv hd.2];have kp:Keep (fun _=>False) h (h++[row 36 h.length [iv hd.1,iv hd.2]]):=Keep.push _ _ _;have s1:=s.keepF kp;have hu1:=hu.keep kp (fun _ _ e=>e);obtain ⟨ua,uc,rfl⟩:=row_shape hu;have hw1:IntKind.i64.wrap ((ys.length:Int)+1)=(ys.length:Int)+1:=i64w (by omega) (by omega);simp only[ZG,↓reduceIte,ZA,ZB,ZC,r74,YE,YC,YO,YA,YL,YX,YS,Ya,Yb,Yl,Yf,Yg,Yi,Ym,Yk,Yt,Yn,Yz,Yp,Yq,Yd,wv,mbl,ZD,ZE,ZF];generalize h++[row 36 h.length [iv hd.1,iv hd.2]]=h1 at on kp s1 hu1 ⊢;obtain ⟨w1,w2⟩:=hd;simp only at on;have no:∀ {x:Value},x=iv 0 -> ¬ S.fits (w1,w2) ys->Keep (fun _=>False) h h1/\Res.ret (tup [x]) = .ret (iv (S.wds (w1,w2) ys)):=fun e hf=>⟨kp,by rw[e,<- wds_no hf];rfl⟩
 by_cases d6:w1=6
 ·obtain ⟨ka,kc,hvi⟩:=row_shape s1.ri
  by_cases g1:w2<0
  ·simp only[ZG,↓reduceIte,ZA,ZB,ZC,on.cells.ld,mbl,ZD,ZE,ZF,ct1,d6,g1]
   exact hΨ _ _ (fin_ret (rv1 rfl (no rfl (by unfold HS.fits;simp only;omega))))
  by_cases g2:(S.infos.length:Int)<=w2
  ·simp only[ZG,↓reduceIte,ZA,ZB,ZC,on.cells.ld,s1.own.cells.ld,RL.cells,mbl,ZD,ZE,ZF,ct1,d6,g1,hvi,g2]
   exact hΨ _ _ (fin_ret (rv1 rfl (no rfl (by unfold HS.fits;simp only;omega))))
  have g3:0<=w2:=by omega
  have g4:w2<(S.infos.length:Int):=by omega
  obtain ⟨⟨k,a,f,c⟩,hx⟩:∃ x,S.infos[w2.toNat]?=some x:=⟨_,Z0 (show w2.toNat<S.infos.length by omega)⟩
  have hik:S.ik w2=k:=by rw[HS.ik,hx];rfl
  have hfr:S.fr w2=f:=by rw[HS.fr,hx];rfl
  obtain ⟨b1,o1,c1,e1,_,hld⟩:=rds_fld (by omega) Inf.len s1.ri hx;have hl0:=hld 0 (by omega);have hl2:=hld 2 (by omega);simp only[Inf.cells,Z4,Z3,Ze,Z6] at hl0 hl2
  by_cases g5:f=(ys.length:Int)
  case neg =>
   simp only[ZG,↓reduceIte,ZA,ZB,ZC,on.cells.ld,s1.own.cells.ld,RL.cells,mbl,ZD,ZE,ZF,ct1,d6,g1,e1,g2,g3,g4,and_self,hl2,g5];exact hΨ _ _ (fin_ret (rv1 rfl (no rfl (by unfold HS.fits;simp only;omega))))
  have hf:S.fits (w1,w2) ys:=.inl ⟨d6,by simp only;omega,by simp only;omega,by simp only;omega⟩
  by_cases g6:k=2
  ·by_cases g7:(ys.length:Int)=0
   ·simp only[ZG,↓reduceIte,ZA,ZB,ZC,on.cells.ld,s1.own.cells.ld,RL.cells,mbl,ZD,ZE,ZF,ct1,d6,g1,e1,g2,g3,g4,and_self,hl2,g5,hl0,g6,g7]
    refine hΨ _ _ (fin_ret (rv1 rfl ⟨kp,?_⟩));rw[<- wds_pad hf (.inl ⟨d6,by simp only;omega,by simp only;omega,by omega,by simp only;omega⟩) (by omega)];rfl
   ·simp only[ZG,↓reduceIte,ZA,ZB,ZC,on.cells.ld,s1.own.cells.ld,RL.cells,mbl,ZD,ZE,ZF,ct1,d6,g1,e1,g2,g3,g4,and_self,hl2,g5,hl0,g6,g7,hw1]
    refine hΨ _ _ (fin_ret (rv1 rfl ⟨kp,?_⟩));rw[<- wds_one hf (by unfold HS.pad;simp only;omega)];rfl
  ·simp only[ZG,↓reduceIte,ZA,ZB,ZC,on.cells.ld,s1.own.cells.ld,RL.cells,mbl,ZD,ZE,ZF,ct1,d6,g1,e1,g2,g3,g4,and_self,hl2,g5,hl0,g6,hw1]
   refine hΨ _ _ (fin_ret (rv1 rfl ⟨kp,?_⟩));rw[<- wds_one hf (by unfold HS.pad;simp only;omega)];rfl
 by_cases d7:w1=7
 ·skip
  have hp:¬ S.pad (w1,w2) ys.length:=by unfold HS.pad;simp only;omega
  by_cases g1:w2<0
  ·simp only[ZG,↓reduceIte,ZA,ZB,ZC,on.cells.ld,s1.own.cells.ld,RL.cells,mbl,ZD,ZE,ZF,ct1,d6,d7,g1]
   exact hΨ _ _ (fin_ret (rv1 rfl (no rfl (by unfold HS.fits;simp only;omega))))
  obtain ⟨ka,kc,hvk⟩:=row_shape s1.rk
  by_cases g2:(S.cons.length:Int)<=w2
  ·simp only[ZG,↓reduceIte,ZA,ZB,ZC,on.cells.ld,s1.own.cells.ld,RL.cells,mbl,ZD,ZE,ZF,ct1,d6,d7,g1,hvk,g2]
   exact hΨ _ _ (fin_ret (rv1 rfl (no rfl (by unfold HS.fits;simp only;omega))))
  by_cases g3:(ys.length:Int)<1
  ·simp only[ZG,↓reduceIte,ZA,ZB,ZC,on.cells.ld,s1.own.cells.ld,RL.cells,mbl,ZD,ZE,ZF,ct1,d6,d7,g1,hvk,g2,g3]
   exact hΨ _ _ (fin_ret (rv1 rfl (no rfl (by unfold HS.fits;simp only;omega))))
  have g5:0<=w2:=by omega
  have g6:w2<(S.cons.length:Int):=by omega
  obtain ⟨x,hx⟩:∃ x,S.cons[w2.toNat]?=some x:=⟨_,Z0 (show w2.toNat<S.cons.length by omega)⟩
  have hcn:S.cn w2=x:=by rw[HS.cn,hx];rfl
  obtain ⟨b1,o1,c1,e1,_,hld⟩:=rds_ix s1.rk g5 hx;have ek:=e1.symm.trans hvk;cases ek
  by_cases g4:x=(ys.length:Int)
  case neg =>
   simp only[ZG,↓reduceIte,ZA,ZB,ZC,on.cells.ld,s1.own.cells.ld,RL.cells,mbl,ZD,ZE,ZF,ct1,d6,d7,g1,hvk,g2,g3,g5,g6,and_self,Z7,hld,g4];exact hΨ _ _ (fin_ret (rv1 rfl (no rfl (by unfold HS.fits;simp only;omega))))
  simp only[ZG,↓reduceIte,ZA,ZB,ZC,on.cells.ld,s1.own.cells.ld,RL.cells,mbl,ZD,ZE,ZF,ct1,d6,d7,g1,hvk,g2,g3,g5,g6,and_self,Z7,hld,g4,hw1];refine hΨ _ _ (fin_ret (rv1 rfl ⟨kp,?_⟩));rw[<- wds_one (.inr (.inl ⟨d7,g5,g6,by omega,by simp only;omega⟩)) hp];rfl
 by_cases d8:w1=8
 ·skip
  have hp:¬ S.pad (w1,w2) ys.length:=by unfold HS.pad;simp only;omega
  by_cases g1:w2<1
  ·simp only[ZG,↓reduceIte,ZA,ZB,ZC,on.cells.ld,s1.own.cells.ld,RL.cells,mbl,ZD,ZE,ZF,ct1,d6,d7,d8,g1]
   exact hΨ _ _ (fin_ret (rv1 rfl (no rfl (by unfold HS.fits;simp only;omega))))
  by_cases g2:7<w2
  ·simp only[ZG,↓reduceIte,ZA,ZB,ZC,on.cells.ld,s1.own.cells.ld,RL.cells,mbl,ZD,ZE,ZF,ct1,d6,d7,d8,g1,g2]
   exact hΨ _ _ (fin_ret (rv1 rfl (no rfl (by unfold HS.fits;simp only;omega))))
  have hw:IntKind.i64.wrap (w2+1)=w2+1:=i64w (by omega) (by omega)
  by_cases g3:(ys.length:Int)=w2+1
  case neg =>
   simp only[ZG,↓reduceIte,ZA,ZB,ZC,on.cells.ld,s1.own.cells.ld,RL.cells,mbl,ZD,ZE,ZF,ct1,d6,d7,d8,g1,g2,hw,g3];exact hΨ _ _ (fin_ret (rv1 rfl (no rfl (by unfold HS.fits;simp only;omega))))
  simp only[ZG,↓reduceIte,ZA,ZB,ZC,on.cells.ld,s1.own.cells.ld,RL.cells,mbl,ZD,ZE,ZF,ct1,d6,d7,d8,g1,g2,hw,g3,hw1];refine hΨ _ _ (fin_ret (rv1 rfl ⟨kp,?_⟩));rw[<- wds_one (.inr (.inr (.inl ⟨d8,by simp only;omega,by simp only;omega,by simp only;omega⟩))) hp,g3]
  first
   | rfl
   | (rw[i64w (by omega) (by omega)];rfl)
 by_cases d9:w1=9
 ·skip
  have hp:¬ S.pad (w1,w2) ys.length:=by unfold HS.pad;simp only;omega
  by_cases g1:w2<0
  ·simp only[ZG,↓reduceIte,ZA,ZB,ZC,on.cells.ld,s1.own.cells.ld,RL.cells,mbl,ZD,ZE,ZF,ct1,d6,d7,d8,d9,g1]
   exact hΨ _ _ (fin_ret (rv1 rfl (no rfl (by unfold HS.fits;simp only;omega))))
  obtain ⟨ka,kc,hvt⟩:=row_shape s1.rt
  by_cases g2:(S.texts.length:Int)<=w2
  ·simp only[ZG,↓reduceIte,ZA,ZB,ZC,on.cells.ld,s1.own.cells.ld,RL.cells,mbl,ZD,ZE,ZF,ct1,d6,d7,d8,d9,g1,hvt,g2]
   exact hΨ _ _ (fin_ret (rv1 rfl (no rfl (by unfold HS.fits;simp only;omega))))
  by_cases g3:(ys.length:Int)=1
  case neg =>
   simp only[ZG,↓reduceIte,ZA,ZB,ZC,on.cells.ld,s1.own.cells.ld,RL.cells,mbl,ZD,ZE,ZF,ct1,d6,d7,d8,d9,g1,hvt,g2,g3];exact hΨ _ _ (fin_ret (rv1 rfl (no rfl (by unfold HS.fits;simp only;omega))))
  obtain ⟨b0,o0,cc0,e0,l0,hw0,hw1'⟩:=rds_w0 hu1 (i:=0) (by omega) (by omega);cases e0;have e01:((0:Int)<(ys.length:Int))=True:=by simp;omega
  simp only[Z8,Za,Z6] at hw0 hw1'
  by_cases g4:(wat ys 0).1=1
  case neg =>
   simp only[ZG,↓reduceIte,ZA,ZB,ZC,on.cells.ld,s1.own.cells.ld,RL.cells,mbl,ZD,ZE,ZF,ct1,d6,d7,d8,d9,g1,hvt,g2,g3,Zf,e01,Zb,and_self,Z8,Za,hw0,hw1',g4];exact hΨ _ _ (fin_ret (rv1 rfl (no rfl (by unfold HS.fits;simp only;omega))))
  by_cases g5:(wat ys 0).2<0
  ·simp only[ZG,↓reduceIte,ZA,ZB,ZC,on.cells.ld,s1.own.cells.ld,RL.cells,mbl,ZD,ZE,ZF,ct1,d6,d7,d8,d9,g1,hvt,g2,g3,Zf,e01,Zb,and_self,Z8,Za,hw0,hw1',g4,g5]
   exact hΨ _ _ (fin_ret (rv1 rfl (no rfl (by unfold HS.fits;simp only;omega))))
  have g7:0<=w2:=by omega
  have g8:w2<(S.texts.length:Int):=by omega
  obtain ⟨t,hx⟩:∃ x,S.texts[w2.toNat]?=some x:=⟨_,Z0 (show w2.toNat<S.texts.length by omega)⟩
  have hts:S.ts w2=t.size:=by rw[HS.ts,hx];rfl
  obtain ⟨b1,o1,c1,e1,hl⟩:=s1.rt.at (i:=w2.toNat) (by omega);have ek:=e1.symm.trans hvt;cases ek;have hlt:=hl 0 (by omega);rw[Z7,Z6,Z6,sts,Zc,hx] at hlt;simp only[Ze] at hlt
  by_cases g6:(t.size:Int)<(wat ys 0).2
  ·simp only[ZG,↓reduceIte,ZA,ZB,ZC,on.cells.ld,s1.own.cells.ld,RL.cells,mbl,ZD,ZE,ZF,ct1,d6,d7,d8,d9,g1,hvt,g2,g3,Zf,e01,Zb,and_self,Z8,Za,hw0,hw1',g4,g5,g7,g8,Z7,hlt,g6]
   exact hΨ _ _ (fin_ret (rv1 rfl (no rfl (by unfold HS.fits;simp only;omega))))
  ·simp only[ZG,↓reduceIte,ZA,ZB,ZC,on.cells.ld,s1.own.cells.ld,RL.cells,mbl,ZD,ZE,ZF,ct1,d6,d7,d8,d9,g1,hvt,g2,g3,Zf,e01,Zb,and_self,Z8,Za,hw0,hw1',g4,g5,g7,g8,Z7,hlt,g6]
   refine hΨ _ _ (fin_ret (rv1 rfl ⟨kp,?_⟩));rw[<- wds_one (.inr (.inr (.inr (.inl ⟨d9,g7,g8,g3,g4,by omega,by rw[hts];omega⟩)))) hp,g3];rfl
 by_cases d10:w1=10
 ·skip
  by_cases g1:w2<0
  ·simp only[ZG,↓reduceIte,ZA,ZB,ZC,on.cells.ld,s1.own.cells.ld,RL.cells,mbl,ZD,ZE,ZF,ct1,d6,d7,d8,d9,d10,g1]
   exact hΨ _ _ (fin_ret (rv1 rfl (no rfl (by unfold HS.fits;simp only;omega))))
  by_cases g2:(ys.length:Int)=0
  case neg =>
   simp only[ZG,↓reduceIte,ZA,ZB,ZC,on.cells.ld,s1.own.cells.ld,RL.cells,mbl,ZD,ZE,ZF,ct1,d6,d7,d8,d9,d10,g1,g2];exact hΨ _ _ (fin_ret (rv1 rfl (no rfl (by unfold HS.fits;simp only;omega))))
  simp only[ZG,↓reduceIte,ZA,ZB,ZC,on.cells.ld,s1.own.cells.ld,RL.cells,mbl,ZD,ZE,ZF,ct1,d6,d7,d8,d9,d10,g1,g2];refine hΨ _ _ (fin_ret (rv1 rfl ⟨kp,?_⟩));rw[<- wds_pad (.inr (.inr (.inr (.inr ⟨d10,by simp only;omega,g2⟩)))) (.inr d10) (by omega)];rfl
 simp only[ZG,↓reduceIte,ZA,ZB,ZC,on.cells.ld,s1.own.cells.ld,RL.cells,mbl,ZD,ZE,ZF,ct1,d6,d7,d8,d9,d10];exact hΨ _ _ (fin_ret (rv1 rfl (no rfl (by unfold HS.fits;simp only;omega))))
end
end Go.S18

namespace Go.S18
open Go Go.Eng Go.Proofs Go.Chk
section
variable {h h':AH} {b:Nat} {L:RL} {S S':HS}
structure Same4 (S S':HS):Prop where
 i:S'.infos=S.infos
 t:S'.texts=S.texts
 c:S'.cons=S.cons
 z:S'.size=S.size
theorem RH.app (s:RH h b L S) (hS:Same4 S S') (hg:S'.globals=S.globals) (k:Keep (fun q=>L.cls q=1\/L.cls q=2\/L.cls q=3) h h') {vn' vf:Value} {o:Ob} {ol':List Ox}
 (own':Own h' b 88 [L.vi,L.vc,L.vt,L.vp,iv L.main,L.vk,iv S'.size,iv S'.now.length,vn',L.vo,L.vg])
 (rn':Ows h' 104 7 vn' (L.nl++[(o,vf)]).length ((L.nl++[(o,vf)]).flatMap ox)) (ro':Ows h' 104 7 L.vo ol'.length (ol'.flatMap ox))
 (hol:∀ (i:Nat) (x:Ox),ol'[i]?=some x -> ∃ x0:Ox,L.ol[i]?=some x0/\x.2=x0.2/\x.1.fs=x0.1.fs) (rf:Ows h' 36 2 vf o.fs.length (ww o.fs))
 (fn:∀ q,bk vn' q->bk L.vn q\/h.length<=q) (ff:∀ q,bk vf q->h.length<=q) (nf:∀ q,bk vf q -> ¬ bk vn' q) (vn:VN S' (L.nl.map Prod.fst++[o])) (vo:VO S' (ol'.map Prod.fst)) :
 ∃ L',RH h' b L' S'/\SameR h.length L L':=by
 classical
 have lt1:∀ q,L.cls q≠0->q<h.length:=fun q e=>s.lt e
 have kx:∀ q,L.cls q≠1->L.cls q≠2->L.cls q≠3 -> ¬ (L.cls q=1\/L.cls q=2\/L.cls q=3):=fun q a c d e=>by rcases e with e|e|e;exact a e;exact c e;exact d e
 refine ⟨{ L with vn:=vn',nl:=L.nl++[(o,vf)],ol:=ol',cls:=fun q=>if q<h.length then L.cls q else if bk vn' q then 2 else if bk vf q then 10+2*L.nl.length else 0 },⟨own',?_,?_,?_,rn',ro',?_,?_,?_,?_,?_,?_,?_,?_,?_,?_,vo⟩,?_⟩
 ·rw[hS.i];exact s.ri.keep k (fun q e=>kx q (by rw[s.ci q (.inl e)];omega) (by rw[s.ci q (.inl e)];omega) (by rw[s.ci q (.inl e)];omega))
 ·rw[hS.t];exact s.rt.keep k (fun q e=>kx q (by rw[s.ci q (.inr (.inl e))];omega) (by rw[s.ci q (.inr (.inl e))];omega) (by rw[s.ci q (.inr (.inl e))];omega))
 ·rw[hS.c];exact s.rk.keep k (fun q e=>kx q (by rw[s.ci q (.inr (.inr e))];omega) (by rw[s.ci q (.inr (.inr e))];omega) (by rw[s.ci q (.inr (.inr e))];omega))
 ·rw[hg];exact s.rg.keep k (fun q e=>kx q (by rw[s.cg q e];omega) (by rw[s.cg q e];omega) (by rw[s.cg q e];omega))
 ·intro i x hx
  by_cases hi:i<L.nl.length
  ·rw[List.getElem?_append_left hi] at hx
   obtain ⟨a,c⟩:=s.fn i x hx;refine ⟨a.keep k (fun q e=>kx q (by rw[c q e];omega) (by rw[c q e];omega) (by rw[c q e];omega)),fun q e=>?_⟩;simp only;rw[if_pos (lt1 q (by rw[c q e];omega))];exact c q e
  ·rw[List.getElem?_append_right (by omega)] at hx
   have hi2:i-L.nl.length=0:=by
    have:=(Z2.1 hx).1;simp at this;omega
   rw[hi2] at hx;simp at hx;subst hx;refine ⟨rf,fun q e=>?_⟩;simp only;have:=ff q e;rw[if_neg (by omega),if_neg (nf q e),if_pos e];omega
 ·intro i x hx
  obtain ⟨x0,h0,e1,e2⟩:=hol i x hx;obtain ⟨a,c⟩:=s.fo i x0 h0;rw[e1,e2];refine ⟨a.keep k (fun q e=>kx q (by rw[c q e];omega) (by rw[c q e];omega) (by rw[c q e];omega)),fun q e=>?_⟩;simp only;rw[if_pos (lt1 q (by rw[c q e];omega))];exact c q e
 ·simp only;rw[if_pos (lt1 b (by rw[s.c1];omega))];exact s.c1
 ·intro q e
  simp only
  by_cases hq:q<h.length
  ·rw[if_pos hq];exact s.cn q ((fn q e).resolve_right (by omega))
  ·rw[if_neg hq,if_pos e]
 ·intro q e;simp only;rw[if_pos (lt1 q (by rw[s.co q e];omega))];exact s.co q e
 ·intro q e;simp only;rw[if_pos (lt1 q (by rw[s.cg q e];omega))];exact s.cg q e
 ·intro q e;simp only;rw[if_pos (lt1 q (by rw[s.ci q e];omega))];exact s.ci q e
 ·intro q e
  simp only;rw[if_neg (by have:=k.len;omega),if_neg (fun c=>by have:=rn'.lt q c;omega),if_neg (fun c=>by have:=rf.lt q c;omega)]
 ·show VN S' ((L.nl++[(o,vf)]).map Prod.fst)
  rw[List.map_append];exact vn
 ·intro q hq;simp only;rw[if_pos hq]
theorem RH.obj (s:RH h b L S) (hS:Same4 S S') (hg:S'.globals=S.globals) (hn:S'.now.length=S.now.length) {i:Nat} {x x':Ox} (hx:L.nl[i]?=some x) (k:Keep (fun q=>bk L.vn q\/bk x.2 q) h h')
 (rn':Ows h' 104 7 L.vn (L.nl.set i x').length ((L.nl.set i x').flatMap ox)) (rf:Ows h' 36 2 x'.2 x'.1.fs.length (ww x'.1.fs)) (ff:∀ q,bk x'.2 q->bk x.2 q\/h.length<=q)
 (vn:VN S' ((L.nl.map Prod.fst).set i x'.1)) (vo:VO S' (L.ol.map Prod.fst)):∃ L',RH h' b L' S'/\SameR h.length L L':=by
 classical
 have lt1:∀ q,L.cls q≠0->q<h.length:=fun q e=>s.lt e
 obtain ⟨xf,xc⟩:=s.fn i x hx;have kx:∀ q,L.cls q≠2->L.cls q≠10+2*i -> ¬ (bk L.vn q\/bk x.2 q):=fun q a c e=>by
  rcases e with e|e
  ·exact a (s.cn q e)
  ·exact c (xc q e)
 refine ⟨{ L with nl:=L.nl.set i x',cls:=fun q=>if q<h.length then L.cls q else if bk x'.2 q then 10+2*i else 0 },⟨?_,?_,?_,?_,rn',?_,?_,?_,?_,?_,?_,?_,?_,?_,?_,?_,vo⟩,?_⟩
 ·have:=s.own.keep k (kx b (by rw[s.c1];omega) (by rw[s.c1];omega))
  show Own h' b _ [L.vi,L.vc,L.vt,L.vp,iv L.main,L.vk,iv S'.size,iv S'.now.length,L.vn,L.vo,L.vg]
  rw[hS.z,hn];exact this
 ·rw[hS.i];exact s.ri.keep k (fun q e=>kx q (by rw[s.ci q (.inl e)];omega) (by rw[s.ci q (.inl e)];omega))
 ·rw[hS.t];exact s.rt.keep k (fun q e=>kx q (by rw[s.ci q (.inr (.inl e))];omega) (by rw[s.ci q (.inr (.inl e))];omega))
 ·rw[hS.c];exact s.rk.keep k (fun q e=>kx q (by rw[s.ci q (.inr (.inr e))];omega) (by rw[s.ci q (.inr (.inr e))];omega))
 ·exact s.ro.keep k (fun q e=>kx q (by rw[s.co q e];omega) (by rw[s.co q e];omega))
 ·rw[hg];exact s.rg.keep k (fun q e=>kx q (by rw[s.cg q e];omega) (by rw[s.cg q e];omega))
 ·intro j y hy
  simp only at hy;rw[List.getElem?_set] at hy
  split at hy
  ·rename_i e
   subst e
   split at hy
   ·cases hy
    refine ⟨rf,fun q e=>?_⟩;simp only
    by_cases hq:q<h.length
    ·rw[if_pos hq];exact xc q ((ff q e).resolve_right (by omega))
    ·rw[if_neg hq,if_pos e]
   ·cases hy
  ·rename_i e
   obtain ⟨a,c⟩:=s.fn j y hy;refine ⟨a.keep k (fun q e2=>kx q (by rw[c q e2];omega) (by rw[c q e2];omega)),fun q e2=>?_⟩;simp only;rw[if_pos (lt1 q (by rw[c q e2];omega))];exact c q e2
 ·intro j y hy
  obtain ⟨a,c⟩:=s.fo j y hy;refine ⟨a.keep k (fun q e2=>kx q (by rw[c q e2];omega) (by rw[c q e2];omega)),fun q e2=>?_⟩;simp only;rw[if_pos (lt1 q (by rw[c q e2];omega))];exact c q e2
 ·simp only;rw[if_pos (lt1 b (by rw[s.c1];omega))];exact s.c1
 ·intro q e;simp only;rw[if_pos (lt1 q (by rw[s.cn q e];omega))];exact s.cn q e
 ·intro q e;simp only;rw[if_pos (lt1 q (by rw[s.co q e];omega))];exact s.co q e
 ·intro q e;simp only;rw[if_pos (lt1 q (by rw[s.cg q e];omega))];exact s.cg q e
 ·intro q e;simp only;rw[if_pos (lt1 q (by rw[s.ci q e];omega))];exact s.ci q e
 ·intro q e
  simp only;rw[if_neg (by have:=k.len;omega),if_neg (fun c=>by have:=rf.lt q c;omega)]
 ·show VN S' ((L.nl.set i x').map Prod.fst)
  rw[List.map_set];exact vn
 ·intro q hq;simp only;rw[if_pos hq]
theorem RH.glob (s:RH h b L S) {v:Value} {ys:List (Int × Int)} (k:Keep (fun q=>q=b) h h') (own':Own h' b 88 [L.vi,L.vc,L.vt,L.vp,iv L.main,L.vk,iv S.size,iv S.now.length,L.vn,L.vo,v])
 (rg:Ows h' 36 2 v ys.length (ww ys)) (ff:∀ q,bk v q->L.cls q=0) {n:Nat} (hn:n<=h.length) (f2:∀ q,bk v q->n<=q):∃ L',RH h' b L' { S with globals:=ys }/\SameR n L L':=by
 classical
 have kx:∀ q,L.cls q≠1 -> ¬ q=b:=fun q a e=>a (by rw[e];exact s.c1)
 have nb:∀ q,L.cls q≠0 -> ¬ bk v q:=fun q a e=>a (ff q e)
 refine ⟨{ L with vg:=v,cls:=fun q=>if bk v q then 5 else L.cls q },⟨own',s.ri.keep k (fun q e=>kx q (by rw[s.ci q (.inl e)];omega)),s.rt.keep k (fun q e=>kx q (by rw[s.ci q (.inr (.inl e))];omega)),s.rk.keep k (fun q e=>kx q (by rw[s.ci q (.inr (.inr e))];omega)),
  s.rn.keep k (fun q e=>kx q (by rw[s.cn q e];omega)),s.ro.keep k (fun q e=>kx q (by rw[s.co q e];omega)),rg,fun i x hx=>?_,fun i x hx=>?_,?_,?_,?_,?_,?_,?_,s.vn.same rfl rfl rfl,s.vo.same rfl rfl rfl⟩,?_⟩
 ·obtain ⟨a,c⟩:=s.fn i x hx
  refine ⟨a.keep k (fun q e=>kx q (by rw[c q e];omega)),fun q e=>?_⟩;simp only;rw[if_neg (nb q (by rw[c q e];omega))];exact c q e
 ·obtain ⟨a,c⟩:=s.fo i x hx
  refine ⟨a.keep k (fun q e=>kx q (by rw[c q e];omega)),fun q e=>?_⟩;simp only;rw[if_neg (nb q (by rw[c q e];omega))];exact c q e
 ·simp only;rw[if_neg (nb b (by rw[s.c1];omega))];exact s.c1
 ·intro q e;simp only;rw[if_neg (nb q (by rw[s.cn q e];omega))];exact s.cn q e
 ·intro q e;simp only;rw[if_neg (nb q (by rw[s.co q e];omega))];exact s.co q e
 ·intro q e;simp only;rw[if_pos e]
 ·intro q e;simp only;rw[if_neg (nb q (by rw[s.ci q e];omega))];exact s.ci q e
 ·intro q e;simp only
  rw[if_neg (fun c=>by have:=rg.lt q c;omega)];exact s.c0 q (Zh k.len e)
 ·intro q hq;simp only;rw[if_neg (fun c=>by have:=f2 q c;omega)]
theorem RH.flip (s:RH h b L S) (v:Inv S) (k:Keep (fun q=>q=b) h h') (own':Own h' b 88 [L.vi,L.vc,L.vt,L.vp,iv L.main,L.vk,iv S.size,iv 0,.slice none 0 0,L.vn,L.vg]):∃ L',RH h' b L' S.flip/\SameR h.length L L':=by
 classical
 have kx:∀ q,L.cls q≠1 -> ¬ q=b:=fun q a e=>a (by rw[e];exact s.c1)
 obtain ⟨fo,fn⟩:=s.vn.flip v
 let g:Nat->Nat:=fun c=>if c=2 then 3 else if c=3 then 7 else if c<10 then c else if c % 2=0 then c+1 else 7
 have g0:∀ c,g c=0 ↔ c=0:=fun c=>by show (if c=2 then 3 else if c=3 then 7 else if c<10 then c else if c % 2=0 then c+1 else 7)=0 ↔ _;split<;>(try split)<;>(try split)<;>(try split)<;>omega
 refine ⟨{ L with vn:=.slice none 0 0,vo:=L.vn,nl:=[],ol:=L.nl,cls:=fun q=>g (L.cls q) },⟨own',s.ri.keep k (fun q e=>kx q (by rw[s.ci q (.inl e)];omega)),s.rt.keep k (fun q e=>kx q (by rw[s.ci q (.inr (.inl e))];omega)),s.rk.keep k (fun q e=>kx q (by rw[s.ci q (.inr (.inr e))];omega)),
  .nil,s.rn.keep k (fun q e=>kx q (by rw[s.cn q e];omega)),s.rg.keep k (fun q e=>kx q (by rw[s.cg q e];omega)),fun i x hx=>by simp at hx,fun i x hx=>?_,?_,?_,?_,?_,?_,?_,fn,fo⟩,?_⟩
 ·obtain ⟨a,c⟩:=s.fn i x hx
  refine ⟨a.keep k (fun q e=>kx q (by rw[c q e];omega)),fun q e=>?_⟩
  show g (L.cls q)=_
  rw[c q e]
  show (if 10+2*i=2 then 3 else if 10+2*i=3 then 7 else if 10+2*i<10 then 10+2*i else if (10+2*i) % 2=0 then 10+2*i+1 else 7)=11+2*i
  rw[if_neg (by omega),if_neg (by omega),if_neg (by omega),if_pos (by omega)];omega
 ·show g (L.cls b)=1;rw[s.c1];rfl
 ·intro q e;exact e.elim
 ·intro q e;show g (L.cls q)=3;rw[s.cn q e];rfl
 ·intro q e;show g (L.cls q)=5;rw[s.cg q e];rfl
 ·intro q e;show g (L.cls q)=6;rw[s.ci q e];rfl
 ·intro q e;exact (g0 _).2 (s.c0 q (Zh k.len e))
 ·intro q hq;exact g0 _
end
end Go.S18

namespace Go.S18
open Go Go.Eng Go.Proofs Go.Chk
section
variable {h:AH} {b:Nat} {L:RL} {S:HS}
theorem ns_wc (y:Int × Int):ns (wc y)=[iv y.1,iv y.2]:=rfl
def sofar (S:HS) (hd:Int × Int) (ys:List (Int × Int)) (i:Nat):Int:=if ∀ y∈ys.take i,S.sound y then S.wds hd ys else 0
theorem sofar_succ {hd:Int × Int} {ys:List (Int × Int)} {i:Nat} {y:Int × Int} (hy:ys[i]?=some y):sofar S hd ys (i+1)=if S.sound y then sofar S hd ys i else 0:=by
 unfold sofar;have e:ys.take (i+1)=ys.take i++[y]:=by
  obtain ⟨hi,e⟩:=Z2.1 hy;rw[List.take_succ_eq_append_getElem hi,e]
 rw[e]
 by_cases c:S.sound y
 ·rw[if_pos c]
  by_cases d:∀ z∈ys.take i,S.sound z
  ·rw[if_pos d,if_pos (fun z hz=>by rcases List.mem_append.1 hz with hz|hz;exact d z hz;rw[Zi] at hz;subst hz;exact c)]
  ·rw[if_neg d,if_neg (fun k=>d fun z hz=>k z (List.mem_append_left _ hz))]
 ·rw[if_neg c,if_neg (fun k=>c (k y (List.mem_append_right _ (Zi.2 rfl))))]
set_option maxHeartbeats 4000000 in
theorem rPut_ok (s:RH h b L S) (v:Inv S) (hd:Int × Int) {u:Value} {ys:List (Int × Int)} (hu:Rds h 2 u ys.length (ww ys)) (hm:ys.length<=1048576000) :
 Gets Try.prog 53 [.pointer (some ⟨b,0,none⟩),wv hd,u] h (fun res h'=>Keep (MineR L) h h'/\res = .ret (.tuple #[wv (S.put hd ys).1,iv (S.put hd ys).2.1]) /\ ∃ L',RH h' b L' (S.put hd ys).2.2/\SameR h.length L L'):=by
 refine Gets.of (keep:=false) hP (draw_ok hM) k53 (by rfl) (fun Ψ hΨ=>?_);obtain ⟨ua,uc,rfl⟩:=row_shape hu;have oW:=Own.new h 36 h.length [iv hd.1,iv hd.2];have k1:Keep (fun _=>False) h (h++[row 36 h.length [iv hd.1,iv hd.2]]):=Keep.push _ _ _;have l1:(h++[row 36 h.length [iv hd.1,iv hd.2]]).length=h.length+1:=by simp
 simp only[ZG,↓reduceIte,ZA,ZB,ZC,r53,YE,YC,YO,YA,YL,YX,YS,Ya,Yb,Yl,Yf,Yg,Yi,Ym,Yk,Yt,Yn,Yz,Yp,Yq,Yd,wv,mbl,ZD,ZE,ZF];generalize h++[row 36 h.length [iv hd.1,iv hd.2]]=h1 at oW k1 l1 ⊢;have oR:=Own.new h1 36 h1.length [iv 0,iv 0];have k2:Keep (fun _=>False) h1 (h1++[row 36 h1.length [iv 0,iv 0]]):=Keep.push _ _ _;have l2:(h1++[row 36 h1.length [iv 0,iv 0]]).length=h.length+2:=by simp [l1]
 generalize h1++[row 36 h1.length [iv 0,iv 0]]=h2 at oR k2 l2 ⊢;have oW2:=oW.keep k2 (fun e=>e);have k02:=k1.trans k2;simp only[ZG,↓reduceIte,ZA,ZB,ZC,oW2.cells.lds 0 2 (by simp),mbl,ZD,ZE,ZF];refine XX_of (rwords_ok (s.keepF k02) hd (hu.keep k02 (fun _ _ e=>e)) hm) (fun res h3 hle hn=>?_);obtain ⟨k3,rfl⟩:=hn;refine .ret ?_;have k03:=k02.trans k3;have oR3:=oR.keep k3 (fun e=>e);have oW3:=oW2.keep k3 (fun e=>e);simp only[ZG,↓reduceIte,ZA,ZB,ZC];refine XLo_rule (α:=Nat) (fun i=>[(0,.pointer (some ⟨b,0,none⟩)),(2,.slice ua ys.length uc),(4,.pointer (some ⟨h.length,0,none⟩)),(6,.pointer (some ⟨h1.length,0,none⟩)),(8,iv (sofar S hd ys i)),(9,iv i)])
  (fun i h'=>i<=ys.length/\Keep (fun _=>False) h3 h') (fun i=>ys.length-i) 0 ⟨Nat.zero_le _,.refl _ _⟩ ⟨rfl,rfl,rfl,rfl,rfl,rfl,trivial⟩ ?_
 rintro i h4 Ψ2 ⟨hi,k4⟩ next out
 have k04:=k03.trans k4;have s4:=s.keepF k04;have hu4:=hu.keep k04 (fun _ _ e=>e)
 by_cases hlt:(i:Int)<(ys.length:Int)
 ·have hil:i<ys.length:=by omega
  have g0:(0:Int)<=(i:Int):=by omega
  have hy:ys[i]?=some ys[i]:=Z0 hil;obtain ⟨b1,o1,c1,e1,_,hld⟩:=rds_str (by omega) wc_len hu4 hy;cases e1;rw[ns_wc] at hld;have hw:IntKind.i64.wrap ((i:Int)+1)=((i+1:Nat):Int):=by rw[i64w (by omega) (by omega)];omega
  have hsf:=sofar_succ (S:=S) (hd:=hd) hy;simp only[ZG,↓reduceIte,ZA,ZB,ZC,hlt,g0,and_self,Z1,hld,mbl,ZD,ZE,ZF];refine XX_of (rSound_ok s4 v ys[i]) (fun res h5 hle5 hn=>?_);obtain ⟨k5,rfl⟩:=hn;refine .ret ?_
  by_cases hs:S.sound ys[i]
  ·rw[if_pos hs] at hsf
   simp only[ZG,↓reduceIte,ZA,ZB,ZC,hs,mbl,ZD,ZE,ZF,hw];exact next (i+1) _ _ _ ⟨by omega,k4.trans k5⟩ ⟨rfl,rfl,rfl,rfl,by rw[hsf];rfl,rfl,trivial⟩ (by omega)
  ·rw[if_neg hs] at hsf
   simp only[ZG,↓reduceIte,ZA,ZB,ZC,hs,mbl,ZD,ZE,ZF,hw];exact next (i+1) _ _ _ ⟨by omega,k4.trans k5⟩ ⟨rfl,rfl,rfl,rfl,by rw[hsf];rfl,rfl,trivial⟩ (by omega)
 have hie:i=ys.length:=by omega
 subst hie;simp only[ZG,↓reduceIte,ZA,ZB,ZC,hlt];refine out (.exit 0) _ _ _ _ (by intro e;cases e) ?_;have oR4:=oR3.keep k4 (fun e=>e);have oW4:=oW3.keep k4 (fun e=>e)
 by_cases hc:S.fits hd ys /\ ∀ y∈ys,S.sound y
 case neg =>
  have e0:sofar S hd ys ys.length=0:=by
   unfold sofar;rw[List.take_length]
   split
   ·rename_i c;exact (wds_no (fun e=>hc ⟨e,c⟩)).symm
   ·rfl
  simp only[ZG,↓reduceIte,ZA,ZB,ZC,e0,mbl,ZD,ZE,ZF];refine XH_own oR4 rfl (by simp [Value.cells]) rfl (fun h5 q1 q2 q3=>?_);have oR5:Own h5 h1.length 36 [iv 0,iv 0]:=by simpa [Value.cells] using q1
  simp only[ZG,↓reduceIte,ZA,ZB,ZC];have kF:Keep (fun _=>False) h h5:=k04.trans' q2 (fun c hc e=>by omega);refine hΨ _ _ (fin_ret (rvw rfl oR5 rfl ⟨kF.mono (fun _ e=>e.elim),?_,L,?_,SameR.refl _ _⟩))
  ·rw[HS.put,if_neg hc];rfl
  ·rw[HS.put,if_neg hc];exact s.keepF kF
 have hall:=all_len S hd ys;have e0:sofar S hd ys ys.length=((S.all hd ys).length:Int):=by
  unfold sofar;rw[List.take_length,if_pos hc.2,HS.wds,if_pos hc.1]
 have n0:¬ ((S.all hd ys).length:Int)=0:=by omega
 have vln:=v.ln;have vsz:=v.sz;have h0sz:(0:Int)<=S.size:=by omega
 have hws:IntKind.i64.wrap (S.size-(S.now.length:Int))=S.size-(S.now.length:Int):=i64w (by omega) (by omega)
 by_cases hfull:S.size-(S.now.length:Int)<((S.all hd ys).length:Int)
 ·simp only[ZG,↓reduceIte,ZA,ZB,ZC,e0,n0,mbl,ZD,ZE,ZF,s4.own.cells.ld,RL.cells,hws,hfull]
  refine XH_own oR4 rfl (by simp [Value.cells]) rfl (fun h5 q1 q2 q3=>?_);have oR5:Own h5 h1.length 36 [iv 0,iv 0]:=by simpa [Value.cells] using q1
  simp only[ZG,↓reduceIte,ZA,ZB,ZC];have kF:Keep (fun _=>False) h h5:=k04.trans' q2 (fun c hc e=>by omega);refine hΨ _ _ (fin_ret (rvw rfl oR5 rfl ⟨kF.mono (fun _ e=>e.elim),?_,L,?_,SameR.refl _ _⟩))
  ·rw[HS.put,if_pos hc,if_pos hfull];rfl
  ·rw[HS.put,if_pos hc,if_pos hfull];exact s.keepF kF
 have oG:=Own.new h4 36 h4.length [iv 0,iv 0];have k5:Keep (fun _=>False) h4 (h4++[row 36 h4.length [iv 0,iv 0]]):=Keep.push _ _ _;simp only[ZG,↓reduceIte,ZA,ZB,ZC,e0,n0,mbl,ZD,ZE,ZF,s4.own.cells.ld,RL.cells,hws,hfull];refine XH_own oG rfl (by simp [Value.cells]) rfl (fun h6 q1 q2 q3=>?_);have oG6:Own h6 h4.length 36 [iv 4,iv S.now.length]:=by simpa [Value.cells] using q1
 have k46:Keep (fun _=>False) h4 h6:=k5.trans' q2 (fun c hc e=>by omega);have k06:=k04.trans k46;have s6:=s.keepF k06;have oW6:=oW4.keep k46 (fun e=>e);have oR6:=oR4.keep k46 (fun e=>e);have ke:Keep (fun _=>False) h6 (h6++[row 36 h6.length []]):=Keep.push _ _ _;have se:=s6.keepF ke;have oWe:=oW6.keep ke (fun e=>e);obtain ⟨vf,h7,a1,a2,a3,a4⟩:=copy_row (hu.keep k06 (fun _ _ e=>e)) (by
  have:=hc.1;have:=hfull;omega)
 obtain ⟨fa,fc,rfl⟩:=row_shape a2.rds;have s7:=s6.keepF a3;have oW7:=oW6.keep a3 (fun e=>e);have k78:Keep (fun _=>False) h7 (h7++[row 104 h7.length [iv S.now.length,iv (S.all hd ys).length,iv hd.1,iv hd.2,.slice fa ys.length fc,.bool false,iv 0]]):=Keep.push _ _ _;have s8:=s7.keepF k78;have hnl:=s.few v;obtain ⟨vn',h9,p1,p2,p3,p4⟩:=app1 (bytes:=72) (xs:=[iv S.now.length,iv (S.all hd ys).length,iv hd.1,iv hd.2,.slice fa ys.length fc,.bool false,iv 0]) s7.rn rfl rfl (by omega) (by omega);obtain ⟨na,nc,rfl⟩:=row_shape p2.rds;have nb9:¬ bk L.vn b:=fun e=>by have:=s.cn b e;rw[s.c1] at this;omega
 have o9:=s7.own.keep p3 nb9;simp only[ZG,↓reduceIte,ZA,ZB,ZC,s6.own.cells.ld,RL.cells,oW6.cells.lds 0 2 (by simp),mbl,ZD,ZE,ZF,se.own.cells.ld,oWe.cells.lds 0 2 (by simp),a1,s7.own.cells.ld,oW7.cells.lds 0 2 (by simp),s8.own.cells.ld,p1,o9.cells.ld,List.contains_cons,List.contains_nil,Nat.reduceBEq,Bool.or_true,Bool.true_or,Bool.or_false,Bool.false_or];have l4:h.length+2<=h4.length:=by have:=k3.len;have:=k4.len;omega
 have l6:h4.length+1<=h6.length:=by have:=k46.len;have:=q3;simp at this;omega
 have kR:∀ {c:Nat},h.length<=c -> ¬ bk L.vn c:=fun {c} hc e=>by
  have:=s.lt (q:=c) (by rw[s.cn c e];omega);omega
 have hb:b<h.length:=s.lt (by rw[s.c1];omega);refine XH_own o9 rfl (by simp [Value.cells,RL.cells]) rfl (fun h10 q4 q5 q6=>?_);have o10:Own h10 b 88 [L.vi,L.vc,L.vt,L.vp,iv L.main,L.vk,iv S.size,iv S.now.length,(.slice na (L.nl.length+1) nc),L.vo,L.vg]:=by simpa [Value.cells,RL.cells] using q4
 have hwa:IntKind.i64.wrap ((S.now.length:Int)+((S.all hd ys).length:Int))=(S.now.length:Int)+((S.all hd ys).length:Int):=i64w (by omega) (by omega);simp only[ZG,↓reduceIte,ZA,ZB,ZC,o10.cells.ld,mbl,ZD,ZE,ZF,hwa];refine XH_own o10 rfl (by simp [Value.cells]) rfl (fun h11 q7 q8 q9=>?_);have o11:Own h11 b 88 [L.vi,L.vc,L.vt,L.vp,iv L.main,L.vk,iv S.size,iv ((S.now.length:Int)+((S.all hd ys).length:Int)),(.slice na (L.nl.length+1) nc),L.vo,L.vg]:=by simpa [Value.cells] using q7
 have k911:Keep (fun q=>q=b) h9 h11:=q5.trans q8;have k711:Keep (fun q=>bk L.vn q\/q=b) h7 h11:=(p3.mono fun _ e=>.inl e).trans' k911 (fun c hc e=>.inr e);have k611:Keep (fun q=>bk L.vn q\/q=b) h6 h11:=(a3.mono fun _ e=>e.elim).trans k711;have nG:¬ (bk L.vn h4.length\/h4.length=b):=fun e=>e.elim (kR (by omega)) (by omega)
 have nR:¬ (bk L.vn h1.length\/h1.length=b):=fun e=>e.elim (kR (by omega)) (by omega)
 have oG11:=oG6.keep k611 nG;have oR11:=oR6.keep k611 nR;simp only[ZG,↓reduceIte,ZA,ZB,ZC,oG11.cells.lds 0 2 (by simp),mbl,ZD,ZE,ZF];refine XH_own oR11 rfl (by simp [Value.cells]) rfl (fun h12 q10 q11 q12=>?_);have oR12:Own h12 h1.length 36 [iv 4,iv S.now.length]:=by simpa [Value.cells] using q10
 simp only[ZG,↓reduceIte,ZA,ZB,ZC];have k0b:Keep (fun q=>bk L.vn q\/q=b) h h12:=((k06.mono fun _ e=>e.elim).trans k611).trans' q11 (fun c hc e=>by omega);have k0m:Keep (fun q=>L.cls q=1\/L.cls q=2\/L.cls q=3) h h12:=k0b.mono (fun q e=>by
  rcases e with e|e
  ·exact .inr (.inl (s.cn q e))
  ·subst e;exact .inl s.c1)
 have o12:=o11.keep q11 (fun e=>by omega);have k9b:Keep (fun q=>q=b\/q=h1.length) h9 h12:=(k911.mono fun _ e=>.inl e).trans (q11.mono fun _ e=>.inr e);have l7:h6.length<=h7.length:=a3.len;have fn:∀ q,bk (Value.slice na (L.nl.length+1) nc) q->bk L.vn q\/h.length<=q:=fun q e=>(p4 q e).imp id (fun c=>by omega)
 have fn':∀ q,bk (Value.slice na (L.nl.length+1) nc) q->bk L.vn q\/h7.length<=q:=fun q e=>p4 q e
 have rn12:Ows h12 104 7 (.slice na (L.nl.length+1) nc) (L.nl.length+1) (L.nl.flatMap ox++[iv S.now.length,iv (S.all hd ys).length,iv hd.1,iv hd.2,.slice fa ys.length fc,.bool false,iv 0]):=p2.keep k9b (fun q e c=>by
  rcases fn' q e with f|f
  ·rcases c with c|c
   ·subst c;have:=s.cn _ f;rw[s.c1] at this;omega
   ·subst c;exact kR (by omega) f
  ·rcases c with c|c<;>omega)
 have k7z:Keep (fun q=>bk L.vn q\/q=b\/q=h1.length) h7 h12:=(k711.mono fun _ e=>e.imp id .inl).trans (q11.mono fun _ e=>.inr (.inr e));have rf12:Ows h12 36 2 (.slice fa ys.length fc) ys.length (ww ys):=a2.keep k7z (fun q e c=>by
  have:=a4 q e
  rcases c with c|c|c
  ·exact kR (by omega) c
  ·omega
  ·omega)
 have hput:S.put hd ys=((4,(S.now.length:Int)),0,S.laid (S.all hd ys)):=by rw[HS.put,if_pos hc,if_neg hfull]
 have hnow:((S.laid (S.all hd ys)).now.length:Int)=(S.now.length:Int)+((S.all hd ys).length:Int):=by simp [HS.laid]
 have fin:=s.app (S':=S.laid (S.all hd ys)) (h':=h12) (vn':=(.slice na (L.nl.length+1) nc)) (vf:=.slice fa ys.length fc) (o:=⟨S.now.length,(S.all hd ys).length,hd,ys,false,0⟩) (ol':=L.ol) ⟨rfl,rfl,rfl,rfl⟩ rfl k0m
  (by rw[hnow];exact o12) (by
   rw[List.length_append,List.flatMap_append];exact rn12) (s.ro.keep k0b (fun q e c=>by
   have e3:=s.co q e
   rcases c with c|c
   ·have:=s.cn q c;omega
   ·subst c;have:=s.c1;omega)) (fun i x hx=>⟨x,hx,rfl,rfl⟩) rf12 fn (fun q e=>by have:=a4 q e;omega)
  (fun q e c=>by
   have:=a4 q e;have:=a2.lt q e
   rcases fn' q c with f|f
   ·exact kR (by omega) f
   ·omega) (s.vn.put v hc.1) (s.vo.same rfl rfl rfl)
 obtain ⟨L',sL,sS⟩:=fin;refine hΨ _ _ (fin_ret (rvw rfl oR12 rfl ⟨k0m.mono (fun q e=>by rcases e with e|e|e<;>(show L.cls q≠0;rw[e];omega)),?_,L',?_,sS⟩))
 ·rw[hput];rfl
 ·rw[hput];exact sL
end
end Go.S18

namespace Go.S18
open Go Go.Eng Go.Proofs Go.Chk
section
variable {h:AH} {b:Nat} {L:RL} {S:HS}
theorem rFlip_ok (s:RH h b L S) (v:Inv S):Gets Try.prog 60 [.pointer (some ⟨b,0,none⟩)] h (fun res h'=>res = .ret (.tuple #[])/\Keep (MineR L) h h' /\ ∃ L',RH h' b L' S.flip/\SameR h.length L L'):=by
 refine Gets.of (keep:=false) hP (draw_ok hM) k60 (by rfl) (fun Ψ hΨ=>?_);obtain ⟨na,nc,hvn⟩:=row_shape s.rn.rds;simp only[ZG,↓reduceIte,ZA,ZB,ZC,r60,YE,YC,YO,YA,YL,YX,YS,Ya,Yb,Yl,Yf,Yg,Yi,Ym,Yk,Yt,Yn,Yz,Yp,Yq,Yd,s.own.cells.ld,RL.cells,mbl,ZD,ZE,ZF];refine XH_own s.own (by rw[hvn];rfl) (by simp [Value.cells,RL.cells,hvn]) (by rw[hvn];rfl) (fun h1 q1 q2 q3=>?_);have o1:Own h1 b 88 [L.vi,L.vc,L.vt,L.vp,iv L.main,L.vk,iv S.size,iv S.now.length,L.vn,L.vn,L.vg]:=by rw[hvn] at q1 ⊢;simpa [Value.cells,RL.cells,hvn] using q1
 simp only[ZG,↓reduceIte,ZA,ZB,ZC];refine XH_own o1 rfl (by simp [Value.cells]) rfl (fun h2 q4 q5 q6=>?_);have o2:Own h2 b 88 [L.vi,L.vc,L.vt,L.vp,iv L.main,L.vk,iv S.size,iv S.now.length,.slice none 0 0,L.vn,L.vg]:=by simpa [Value.cells] using q4
 simp only[ZG,↓reduceIte,ZA,ZB,ZC];refine XH_own o2 rfl (by simp [Value.cells]) rfl (fun h3 q7 q8 q9=>?_);have o3:Own h3 b 88 [L.vi,L.vc,L.vt,L.vp,iv L.main,L.vk,iv S.size,iv 0,.slice none 0 0,L.vn,L.vg]:=by simpa [Value.cells] using q7
 simp only[ZG,↓reduceIte,ZA,ZB,ZC];have k:Keep (fun q=>q=b) h h3:=(q2.trans q5).trans q8;obtain ⟨L',sL,sS⟩:=s.flip v k o3;exact hΨ _ _ (fin_norm ⟨rfl,k.mono (fun q e=>by subst e;show L.cls q≠0;rw[s.c1];omega),L',sL,sS⟩)
theorem ox_set {l:List Ox} {i:Nat} {x x':Ox} (hx:l[i]?=some x) (e:ox x'=ox x):(l.set i x').flatMap ox=l.flatMap ox:=by
 induction l generalizing i with
 | nil=>simp at hx
 | cons y l ih =>
   cases i with
   | zero=>simp at hx;subst hx;simp [e]
   | succ i=>simp [ih (i:=i) (by simpa using hx)]
theorem RH.flen (s:RH h b L S) (v:Inv S) {i:Nat} {x:Ox} (hx:L.nl[i]?=some x):(x.1.fs.length:Int)=S.fcn (gx S.now x.1.p) x.1.n/\(x.1.fs.length:Int)<x.1.n/\0<=x.1.p/\x.1.p+x.1.n<=S.now.length/\S.now.length<=1048576:=by
 have hm:x.1∈L.nl.map Prod.fst:=Z9.2 ⟨x,Z5 hx,rfl⟩;have hmb:=s.vn.mem hm;have t:=tiles_in v.tn hmb;have kd:=(v.kn _ hmb).fc t.2.1;obtain ⟨a,c,_⟩:=s.vn.ob x.1 hm;simp only at t kd;have:=v.ln;have:=v.sz;refine ⟨?_,?_,t.1,t.2.2,by omega⟩
 ·rw[c,fld_len,a];omega
 ·rw[c,fld_len,a];omega
set_option maxHeartbeats 4000000 in
theorem rSet_ok (s:RH h b L S) (v:Inv S) (w:Int × Int) (k:Int) (y:Int × Int) :
 Gets Try.prog 56 [.pointer (some ⟨b,0,none⟩),wv w,iv k,wv y] h (fun res h'=>Keep (MineR L) h h'/\res = .ret (iv (S.sete w k y).1) /\ ∃ L',RH h' b L' (S.sete w k y).2/\SameR h.length L L'):=by
 refine Gets.of (keep:=false) hP (draw_ok hM) k56 (by rfl) (fun Ψ hΨ=>?_);have oW:=Own.new h 36 h.length [iv w.1,iv w.2];have k1:Keep (fun _=>False) h (h++[row 36 h.length [iv w.1,iv w.2]]):=Keep.push _ _ _;have l1:(h++[row 36 h.length [iv w.1,iv w.2]]).length=h.length+1:=by simp
 simp only[ZG,↓reduceIte,ZA,ZB,ZC,r56,YE,YC,YO,YA,YL,YX,YS,Ya,Yb,Yl,Yf,Yg,Yi,Ym,Yk,Yt,Yn,Yz,Yp,Yq,Yd,wv,mbl,ZD,ZE,ZF];generalize h++[row 36 h.length [iv w.1,iv w.2]]=h1 at oW k1 l1 ⊢;have oY:=Own.new h1 36 h1.length [iv y.1,iv y.2];have k2:Keep (fun _=>False) h1 (h1++[row 36 h1.length [iv y.1,iv y.2]]):=Keep.push _ _ _;have l2:(h1++[row 36 h1.length [iv y.1,iv y.2]]).length=h.length+2:=by simp [l1]
 generalize h1++[row 36 h1.length [iv y.1,iv y.2]]=h2 at oY k2 l2 ⊢;have oW2:=oW.keep k2 (fun e=>e);have k02:=k1.trans k2;simp only[ZG,↓reduceIte,ZA,ZB,ZC,oW2.cells.lds 0 2 (by simp),mbl,ZD,ZE,ZF];refine XX_of (rrow_ok (s.keepF k02) v w) (fun res h3 hle hn=>?_);obtain ⟨k3,rfl⟩:=hn;refine .ret ?_;have k03:=k02.trans k3;have oY3:=oY.keep k3 (fun e=>e);have s3:=s.keepF k03;have no:∀ {e:Int} {h':AH},Keep (fun _=>False) h h'->S.sete w k y=(e,S)->(Keep (MineR L) h h'/\Res.ret (iv e) = .ret (iv (S.sete w k y).1) /\ ∃ L',RH h' b L' (S.sete w k y).2/\SameR h.length L L'):=fun kk e=>by
  rw[e];exact ⟨kk.mono (fun _ e=>e.elim),rfl,L,s.keepF kk,SameR.refl _ _⟩
 rcases row_lies s3 v w with ⟨e,hl⟩|⟨i,x,hx,hp,hw4,e,hl,hg⟩
 ·have n1:(-1:Int)<0:=by decide
  simp only[ZG,↓reduceIte,ZA,ZB,ZC,e,n1,mbl,ZD,ZE,ZF];exact hΨ _ _ (fin_ret (rv1 rfl (no k03 (by rw[HS.sete,if_neg (fun c=>hl c.1)]))))
 ·have n1:¬ (i:Int)<0:=by omega
  have g0:(0:Int)<=(i:Int):=by omega
  have g1:(i:Int)<(L.nl.length:Int):=by have:=(Z2.1 hx).1;omega
  simp only[ZG,↓reduceIte,ZA,ZB,ZC,e,n1,oY3.cells.lds 0 2 (by simp),mbl,ZD,ZE,ZF];refine XX_of (rSound_ok s3 v y) (fun res h4 hle4 hn=>?_);obtain ⟨k4,rfl⟩:=hn;refine .ret ?_;have k04:=k03.trans k4;have s4:=s.keepF k04;have oY4:=oY3.keep k4 (fun e=>e)
  by_cases hs:S.sound y
  case neg =>
   simp only[ZG,↓reduceIte,ZA,ZB,ZC,hs,mbl,ZD,ZE,ZF];exact hΨ _ _ (fin_ret (rv1 rfl (no k04 (by rw[HS.sete,if_neg (fun c=>hs c.2)]))))
  obtain ⟨f1,f2,f3,f4,f5⟩:=s.flen v hx;obtain ⟨b1,o1,c1,e1,hld⟩:=s4.rn.rds.cellAt ox_len hx;have l2c:=hld 2 (by omega);have l4c:=hld 4 (by omega);simp only[ox,Z4,Z3] at l2c l4c;obtain ⟨hdE,hfE,_⟩:=s.vn.ob x.1 (Z9.2 ⟨x,Z5 hx,rfl⟩);have hfn:=s4.fn i x hx;obtain ⟨fa,fc,hva⟩:=row_shape hfn.1.rds;obtain ⟨wa,wb⟩:=w;simp only at hp hw4;subst hp;subst hw4;have n2:(0:Int)<=0:=by omega
  have bad:(k<0\/x.1.hd.1=9\/x.1.hd.1=12\/(x.1.fs.length:Int)<=k)->S.sete (4,x.1.p) k y=(2,S):=fun c=>by
   rcases sete_cases v (4,x.1.p) k y with ⟨e,h1,h2|h2⟩|⟨n,_,_,a1,_,a2,a3,a4,a5,_⟩
   ·exact absurd ⟨hl,hs⟩ h2.2
   ·rw[h1,h2.1]
   ·rw[hg] at a1;cases a1
    simp only at a3 a4 a5;rw[hdE] at c;omega
  have good:¬ (k<0\/x.1.hd.1=9\/x.1.hd.1=12\/(x.1.fs.length:Int)<=k)->S.sete (4,x.1.p) k y=(0,S.setw (x.1.p+1+k) y):=fun c=>by
   rcases sete_cases v (4,x.1.p) k y with ⟨e,h1,h2|h2⟩|⟨n,_,_,a1,_,a2,a3,a4,a5,_,_,_,a6⟩
   ·exact absurd ⟨hl,hs⟩ h2.2
   ·refine absurd ?_ c
    obtain ⟨_,_,_,c|c|c|⟨n,c1,c2⟩⟩:=h2
    ·exact .inl c
    ·rw[<- hdE] at c;exact .inr (.inl c)
    ·rw[<- hdE] at c;exact .inr (.inr (.inl c))
    ·rw[hg] at c1;cases c1
     simp only at c2;exact .inr (.inr (.inr (by omega)))
   ·exact a6
  by_cases c0:k<0
  ·simp only[ZG,↓reduceIte,ZA,ZB,ZC,hs,c0,mbl,ZD,ZE,ZF]
   exact hΨ _ _ (fin_ret (rv1 rfl (no k04 (bad (.inl c0)))))
  by_cases c1x:(x.1.fs.length:Int)<=k
  ·simp only[ZG,↓reduceIte,ZA,ZB,ZC,hs,c0,mbl,ZD,ZE,ZF,s4.own.cells.ld,RL.cells,e1,g0,g1,and_self,Z1,l4c,hva,c1x]
   exact hΨ _ _ (fin_ret (rv1 rfl (no k04 (bad (by omega)))))
  by_cases c9:x.1.hd.1=9
  ·simp only[ZG,↓reduceIte,ZA,ZB,ZC,hs,c0,mbl,ZD,ZE,ZF,s4.own.cells.ld,RL.cells,e1,g0,g1,and_self,Z1,l4c,hva,c1x,l2c,c9]
   exact hΨ _ _ (fin_ret (rv1 rfl (no k04 (bad (by omega)))))
  by_cases c12:x.1.hd.1=12
  ·have c129:¬ (12:Int)=9:=by omega
   simp only[ZG,↓reduceIte,ZA,ZB,ZC,hs,c0,mbl,ZD,ZE,ZF,s4.own.cells.ld,RL.cells,e1,g0,g1,and_self,Z1,l4c,hva,c1x,l2c,c9,c12,c129];exact hΨ _ _ (fin_ret (rv1 rfl (no k04 (bad (by omega)))))
  have hk0:0<=k:=by omega
  have hkl:k<x.1.fs.length:=by omega
  have hkn:k.toNat<x.1.fs.length:=by omega
  have hfk:x.1.fs[k.toNat]?=some x.1.fs[k.toNat]:=Z0 hkn;obtain ⟨fb,fcc,hz,e0,_⟩:=hfn.1.setAt (f:=fun z=>ns (wc z)) (x':=y) (j:=0) (vs:=ns (wc y)) (fun _=>rfl) hfk (by simp [ns,wc]) (by simp [ns,wc]) (by simp [ns,wc,Value.oneCell']);rw[e0] at hva;cases hva;simp only[ZG,↓reduceIte,ZA,ZB,ZC,hs,c0,mbl,ZD,ZE,ZF,s4.own.cells.ld,RL.cells,e1,g0,g1,and_self,Z1,l4c,e0,c1x,l2c,c9,c12,hk0,hkl,oY4.cells.lds 0 2 (by simp)];refine XH_row (f:=fun z=>ns (wc z)) (k:=2) (x':=y) (j:=0) (fun _=>rfl) hfn.1 e0 hfk rfl (by simp) (by simp [Value.cells]) (by simp [ns,wc,Value.cells]) (by simp [Value.cells,Value.oneCell']) (fun h5 q1 q2 q3=>?_);simp only[ZG,↓reduceIte,ZA,ZB,ZC];have k45:Keep (fun q=>bk L.vn q\/bk x.2 q) h h5:=(k04.mono fun _ e=>e.elim).trans (q2.mono fun _ e=>.inr e);have hx2:ox (({ x.1 with fs:=x.1.fs.set k.toNat y }:Ob),x.2)=ox x:=rfl;have gd:=good (by omega);have hvs:=s.vn.sete v (s.nat hx) hk0 (by rw[hdE];omega) y;obtain ⟨L',sL,sS⟩:=s.obj (S':=S.setw (x.1.p+1+k) y) (x':=(({ x.1 with fs:=x.1.fs.set k.toNat y }:Ob),x.2)) ⟨rfl,rfl,rfl,rfl⟩ rfl (by simp [HS.setw]) hx k45
   (by rw[ox_set hx hx2,List.length_set];exact s4.rn.keep q2 (fun q e1 e2=>by have a1:=s.cn q e1;have a2:=hfn.2 q e2;omega))
   (by simp only[List.length_set];exact q1) (fun q e=>.inl e) hvs (s.vo.same rfl rfl rfl)
  refine hΨ _ _ (fin_ret (rv1 rfl ⟨k45.mono (fun q e=>?_),by rw[gd];rfl,L',by rw[gd];exact sL,sS⟩))
  rcases e with e|e
  ·show L.cls q≠0;rw[s.cn q e];omega
  ·show L.cls q≠0;rw[hfn.2 q e];omega
end
end Go.S18
