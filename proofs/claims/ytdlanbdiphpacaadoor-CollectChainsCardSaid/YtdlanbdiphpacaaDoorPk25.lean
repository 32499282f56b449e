import Derived.Test.YtdlanbdiphpacaaDoorPk24
import Derived.Test.YtdlanbdiphpacaaDoorRows
import Derived.Test.YtdlanbdiphpacaaDoorPk12
import Derived.LaidMore
import Derived.OpenShut
import Derived.MakeChecks
set_option linter.unusedVariables false
set_option linter.unusedSimpArgs false
open Nat renaming reduceEqDiff -> ZA,reduceAdd -> ZB,reduceMul -> ZC,reduceLeDiff -> ZD,reduceLT -> ZE
open Int renaming reduceEq -> ZF
open Nat renaming add_zero->Z0,zero_mul->Z1,one_mul->Z4,zero_le->Z6,le_refl->Ze
open Int renaming toNat_zero->Z2,toNat->Z5,toNat_natCast->Zc
open List renaming mem_cons_self->Z3,mem_singleton->Z7,getElem?_eq_some_iff->Z8,getElem?_eq_getElem->Z9,mem_cons->Za,getElem?_range->Zb,getElem?_map->Zd,range->Zg
open Option renaming some->Zf
namespace Go.S19
open Go Go.Eng Go.Proofs Go.Chk Go.Scn
theorem Rw.app {n:Nat} {h:AH} {L:Lay} {v7:Value} {A7:List (Int × Int)} (r:Rw h L n v7 A7) (c0:∀ q,h.length<=q->L.cls q=0) (hn:n<=h.length) (hl:A7.length<=1000) (x:Int × Int) :
 ∃ v' h',appv false (h++[row 44 h.length [iv x.1,iv x.2]]) false 44 2 16 v7 (.slice (some ⟨h.length,0,none⟩) 1 1)=some (v',h')/\Rw h' L n v' (A7++[x])/\Keep (fun q=>n<=q/\L.cls q=0) h h':=by
 obtain ⟨v',h',p1,p2,p3,p4⟩:=app1 (bytes:=16) (xs:=[iv x.1,iv x.2]) r.o rfl rfl (by omega) (by omega);have hv:∀ q,bk v' q->bk v7 q\/h.length<=q:=p4;refine ⟨v',h',p1,⟨?_,fun q e=>(hv q e).elim (r.c q) (fun a=>⟨by omega,c0 q a⟩)⟩,p3.mono (fun q e=>r.c q e)⟩;rw[ww_app,List.length_append];exact p2
theorem rw_at {h:AH} {v:Value} {A:List (Int × Int)} (r:Rds h 2 v A.length (ww A)) {i:Nat} {x:Int × Int} (hx:A[i]?=some x):∃ b o c,v = .slice (some ⟨b,o,none⟩) A.length c/\ldcs h b (o+i*2) 2=some [iv x.1,iv x.2]:=by
 have hi:=(Z8.1 hx).1;obtain ⟨b,o,c,e,_,hl⟩:=rds_w r (i:=(i:Int)) (by omega) (by omega);refine ⟨b,o,c,e,?_⟩;rw[Zc] at hl;rw[hl];have:wat A (i:Int)=x:=by rw[wat,Zc,hx];rfl
 rw[this]
def ats (n:Nat):List (Int × Int):=(Zg n).map fun j:Nat=>(4,2+2*(j:Int))
theorem ats_len (n:Nat):(ats n).length=n:=by simp [ats]
theorem ats_succ (n:Nat):ats (n+1)=ats n++[(4,2+2*(n:Int))]:=by simp [ats,List.range_succ]
theorem ats_at {n j:Nat} (h:j<n):(ats n)[j]?=some (4,2+2*(j:Int)):=by simp [ats,h]
theorem ats_ld {h:AH} {n m b o c:Nat} (r:Rds h 2 (.slice (some ⟨b,o,none⟩) m c) (ats n).length (ww (ats n))):∀ j:Nat,j<n->ldcs h b (o+j*2) 2=some [iv 4,iv (2+2*(j:Int))]:=fun j hj=>by
 obtain ⟨b',o',c',e,hl⟩:=rw_at r (ats_at hj);cases e;exact hl
theorem ats_sh {h:AH} {n:Nat} {v:Value} (r:Rds h 2 v (ats n).length (ww (ats n))) (hn:1<=n):∃ b o c,v = .slice (some ⟨b,o,none⟩) n c:=by
 obtain ⟨b,o,c,e,hl⟩:=rw_at r (ats_at hn);rw[ats_len] at e;exact ⟨b,o,c,e⟩
theorem Wk.re {h:AH} {b q:Nat} {L:Lay} {S:HS} {l:List (Nat × (Int × Int))} {x y:Int × Int} (w:Wk h b L S ((q,x)::l)) (e:x=y):Wk h b L S ((q,y)::l):=e ▸ w
theorem Wk.tail {h:AH} {b:Nat} {L:Lay} {S:HS} {l:List (Nat × (Int × Int))} {p:Nat × (Int × Int)} (w:Wk h b L S (p::l)):Wk h b L S l:=⟨w.hp,fun p hp=>w.bx p (List.mem_cons_of_mem _ hp)⟩
theorem Ch2.coll {S T:HS} {n:Nat} {v:Int} (c:Ch2 S n n v) (h1:1<=n) {news:List (Int × Int)} (cr:CollR S [(4,2),(1,v),(4,2*(n:Int))] news T) (it:Inv T):news=[(4,0),(1,v),(4,0)]/\(T.now.length:Int)=5/\T.flds (4,0)=[(1,v),(4,0)]/\T.lies (4,0):=by
 obtain ⟨g,r,f,tx,r1,r2,r3⟩:=c.out h1;have cd:=coll_cd c.iv tx (by rw[g]) cr it;rw[g] at cd;have hp:pos (4,2+2*(n:Int)) [(4,2+2*(n:Int)),(4,0)]=some 0:=by simp [pos,List.findIdx?_cons]
 have hr:S.ro [(4,2+2*(n:Int)),(4,0)] (4,2+2*(n:Int))=(4,0):=by rw[HS.ro,hp];rfl
 obtain ⟨f1,_,_,_,f5⟩:=cd.cm.fldsr c.iv it (x:=(4,2+2*(n:Int))) Z3;rw[hr] at f1 f5;refine ⟨?_,?_,?_,f5⟩
 ·rw[cd.nw];simp only[List.map_cons,List.map_nil,r1,r2,r3]
 ·rw[(cd.reach c.iv).2,r]
 ·rw[f1,f];simp only[List.map_cons,List.map_nil,r1,r2]
set_option maxHeartbeats 4000000 in
theorem Chains_ok (h:AH) (n0 v:Int):Gets Tryd.prog 5 [iv n0,iv v] h (fun res h'=>res = .ret (.bool true)):=by
 refine Gets.of (keep:=false) hP (draw_ok hM) k5 (by rfl) (fun Ψ hΨ=>?_);simp only[ZG,↓reduceIte,ZA,ZB,ZC,r5,YE,YC,YO,YA,YL,YX,YS,Ya,Yb,Yl,Yf,Yg,Yi,Ym,Yk,Yt,Yn,Yz,Yp,Yq,Yd,mbl,ZD,ZE,ZF];refine XX_of (wakes_ok h) (fun res h0 hle0 hn=>?_);obtain ⟨k0,rfl⟩:=hn;refine .ret ?_
 by_cases c1:n0<1
 ·obtain ⟨n,hN⟩:∃ n:Nat,(n:Int)=3:=⟨3,rfl⟩
  have hn1:1<=n:=by omega
  have hn2:n<=40:=by omega
  simp only[ZG,↓reduceIte,ZA,ZB,ZC,c1,mbl,ZD,ZE,ZF];refine XX_of (tiny_ok h0) (fun res h1 hle1 hn=>?_);obtain ⟨k1,vi,vc,vp,vk,rfl,im,_,_,_⟩:=hn;refine .ret ?_;simp only[ZG,↓reduceIte,ZA,ZB,ZC,mbl,ZD,ZE,ZF];refine XX_of (New_ok (C:=tinyC) (texts:=[]) im (by refine ⟨?_,?_,?_,?_⟩<;>decide) .nil (by decide) (by decide) 300) (fun res h2 hle2 hn=>?_);obtain ⟨k2,hn⟩:=hn;unfold NewO at hn;rw[if_pos ⟨tiny_ends,by omega,by omega⟩,tiny_new300] at hn;obtain ⟨b,L0,rfl,hp0,z0⟩:=hn;refine .ret ?_;simp only[ZG,↓reduceIte,ZA,ZB,ZC,mbl,ZD,ZE,ZF];refine XLo_rule (α:=Nat × HS × Lay × Value) (fun a=>[(0,iv (3:Int)),(1,iv v),(5,.pointer (some ⟨b,0,none⟩)),(7,a.2.2.2),(8,iv a.1)])
   (fun a h'=>a.1<=n/\Ch1 a.2.1 a.1/\Hp h' b a.2.2.1 a.2.1/\Rw h' a.2.2.1 0 a.2.2.2 (ats a.1)) (fun a=>n-a.1) (0,_,L0,_)
   ⟨Z6 _,.zero,hp0,.nil,fun q e=>e.elim⟩ ⟨rfl,rfl,rfl,rfl,rfl,trivial⟩ ?_
  rintro ⟨i,S,L,v7⟩ h3 Ψ2 ⟨hi,ch,hp,rw7⟩ next out
  simp only at hi ch hp rw7
  by_cases hlt:i<n
  case pos =>
   have d1:((i:Int)<(3:Int))=True:=by simp;omega
   simp only[ZG,↓reduceIte,ZA,ZB,ZC,d1,mbl,ZD,ZE,ZF];have w:Wk h3 b L S []:=⟨hp,fun p hp=>by cases hp⟩
   refine XX_of (Put_ok hp ch.v.ok.fresh (10,(i:Int)) (ys:=[]) (u:=.slice none 0 0) .nil (by decide) (fun _=>by decide)) (fun res h4 hle hn=>?_);rw[ch.put (by omega)] at hn;obtain ⟨kc,rfl,L1,s1,sm⟩:=hn;refine .ret ?_
   replace w:=w.step kc s1 sm
   replace rw7:=rw7.step kc sm
   simp only[ZG,↓reduceIte,ZA,ZB,ZC,wv,mbl,ZD,ZE,ZF];refine XH_box w (fun h5 hlt5 w5 kb=>?_)
   replace rw7:=rw7.keepF kb
   obtain ⟨T,hT,ch2⟩:=ch.hole (by omega);have v1:Inv (S.laid [(10,(i:Int)),(1,0)]):=by have:=ch.v.put (10,(i:Int)) [];rwa [ch.put (by omega)] at this
   simp only[ZG,↓reduceIte,ZA,ZB,ZC,mbl,ZD,ZE,ZF,w5.ld2 (i:=0) rfl];refine XX_of (xHole_ok w5.hp v1 (4,2+2*(i:Int))) (fun res h6 hle6 hn=>?_);rw[hT] at hn;obtain ⟨kd,rfl,L2,s2,sm2⟩:=hn;refine .ret ?_;have w6:=w5.step kd s2 sm2
   replace rw7:=rw7.step kd sm2
   obtain ⟨v8,h8,a1,a2,a3⟩:=rw7.app w6.hp.c0 (Z6 _) (by rw[ats_len];omega) (4,2+2*(i:Int));simp only[ZG,↓reduceIte,ZA,ZB,ZC,mbl,ZD,ZE,ZF,w6.ld2 (i:=0) rfl,a1];have wi:IntKind.i64.wrap ((i:Int)+1)=((i+1:Nat):Int):=by rw[i64w (by omega) (by omega)];omega
   simp only[ZG,↓reduceIte,ZA,ZB,ZC,wi];refine next (i+1,T,L2,v8) _ _ h8 ⟨by omega,ch2,w6.hp.keep a3 (fun q e c=>e c.2),by rw[ats_succ];exact a2⟩ ⟨rfl,rfl,rfl,rfl,rfl,trivial⟩ (by simp;omega)
  have d1:((i:Int)<(3:Int))=False:=by simp;omega
  have hin:i=n:=by omega
  subst hin;simp only[ZG,↓reduceIte,ZA,ZB,ZC,d1];refine out (.exit 0) _ _ _ _ (by intro e;cases e) ?_;obtain ⟨ba,oa,ca,rfl⟩:=ats_sh rw7.o.rds hn1;have l70:=ats_ld rw7.o.rds 0 hn1;have d0:((0:Int)<(i:Int))=True:=by simp;omega
  have d00:((0:Int)<=0)=True:=by simp
  rw[show 2+2*((0:Nat):Int)=2 from rfl] at l70;simp only[Z1,Z0] at l70;simp only[ZG,↓reduceIte,ZA,ZB,ZC,mbl,ZD,ZE,ZF,d0,d00,and_self,l70,Z2,Z1,Z0];have oR:=Own.new h3 44 h3.length [iv 1,iv v,iv 4,iv 2];have kR:Keep (fun _=>False) h3 (h3++[row 44 h3.length [iv 1,iv v,iv 4,iv 2]]):=Keep.push _ _ _;generalize h3++[row 44 h3.length [iv 1,iv v,iv 4,iv 2]]=h4 at oR kR ⊢;obtain ⟨hpt,ch2⟩:=ch.fin hn2 hn1 v;refine XX_of (Put_ok (hp.keepF kR) ch.v.ok.fresh (7,4) (ys:=[(1,v),(4,2)]) (.mk oR.cells (by simp) rfl) (by simp) (fun _=>by simp)) (fun res h5 hle hn=>?_);rw[hpt] at hn;obtain ⟨kc,rfl,L1,s1,sm⟩:=hn;refine .ret ?_;generalize S.laid [(7,4),(1,v),(4,2)]=S2 at ch2 s1;have w5:Wk h5 b L1 S2 []:=⟨s1,fun p hp=>by cases hp⟩
  replace rw7:=(rw7.keepF kR).step kc sm
  simp only[ZG,↓reduceIte,ZA,ZB,ZC,wv,mbl,ZD,ZE,ZF];refine XH_box w5 (fun h6 hlt6 w6 kb=>?_)
  replace rw7:=rw7.keepF kb
  generalize h5.length=q12 at w6;simp only[ZG,↓reduceIte,ZA,ZB,ZC,mbl,ZD,ZE,ZF];refine XLo_rule (α:=Nat × HS × Lay) (fun a=>[(0,iv (3:Int)),(1,iv v),(5,.pointer (some ⟨b,0,none⟩)),(7,.slice (some ⟨ba,oa,none⟩) i ca),(12,.pointer (some ⟨q12,0,none⟩)),(13,iv a.1)])
   (fun a h'=>a.1<=i/\Ch2 a.2.1 i a.1 v/\Wk h' b a.2.2 a.2.1 [(q12,(4,2+2*(i:Int)))]/\Rw h' a.2.2 0 (.slice (some ⟨ba,oa,none⟩) i ca) (ats i)) (fun a=>i-a.1) (0,S2,L1)
   ⟨Z6 _,ch2,w6,rw7⟩ ⟨rfl,rfl,rfl,rfl,rfl,rfl,trivial⟩ ?_
  clear ch2 w6 rw7 ch hp out next
  rintro ⟨j,T,L⟩ h7 Ψ3 ⟨hj,ch,w,rw7⟩ next out
  simp only at hj ch w rw7
  by_cases hlt2:j<i
  case pos =>
   have d1:((j:Int)<(3:Int))=True:=by simp;omega
   have dj0:(0<=(j:Int))=True:=by simp
   have dj1:((j:Int)<(i:Int))=True:=by simp;omega
   have tn:Z5 (j:Int)=j:=by simp
   have wm:IntKind.i64.wrap ((3:Int)-1)=(3:Int)-1:=i64w (by omega) (by omega);have wj:IntKind.i64.wrap ((j:Int)+1)=((j+1:Nat):Int):=by rw[i64w (by omega) (by omega)];omega
   simp only[ZG,↓reduceIte,ZA,ZB,ZC,d1,mbl,ZD,ZE,ZF,w.ld2 (i:=0) rfl];refine XH_box w (fun h8 hlt8 w8 kb=>?_);have rw8:=rw7.keepF kb;have hne:h7.length≠q12:=fun e=>by have:=(w.bx _ (Z3)).1.lt;simp only at this;omega
   by_cases hl1:j+1<i
   ·have d2:((j:Int)<(3:Int)-1)=True:=by simp;omega
    have ds0:(0<=((j+1:Nat):Int))=True:=by simp;omega
    have ds1:(((j+1:Nat):Int)<(i:Int))=True:=by simp;omega
    have tn1:Z5 ((j+1:Nat):Int)=j+1:=by simp
    have hld:=ats_ld rw8.o.rds (j+1) hl1;simp only[ZG,↓reduceIte,ZA,ZB,ZC,mbl,ZD,ZE,ZF,wm,d2,wj,ds0,ds1,and_self,tn1,hld];have oQ:=(w8.bx _ Z3).1;have cQ:=(w8.bx _ Z3).2;refine XH_own oQ rfl (by simp [Value.cells]) rfl (fun h9 q1 q2 q3=>?_);have q1':Own h9 h7.length 44 [iv 4,iv (4+2*(j:Int))]:=by
     rw[show 4+2*(j:Int)=2+2*((j+1:Nat):Int) by omega];simpa [Value.cells] using q1
    have w9:Wk h9 b L T [(h7.length,(4,4+2*(j:Int))),(q12,(4,2+2*(i:Int)))]:=by
     refine ⟨w8.hp.keep q2 (fun q e c=>e (by rw[c];exact cQ)),fun p hp=>?_⟩
     rcases Za.1 hp with rfl|hp
     ·exact ⟨q1',cQ⟩
     ·have:=w8.tail.bx p hp
      cases Z7.1 hp;exact ⟨this.1.keep q2 (fun e=>hne e.symm),this.2⟩
    have rw9:Rw h9 L 0 (.slice (some ⟨ba,oa,none⟩) i ca) (ats i):=⟨rw8.o.keep q2 (fun q e c=>by have:=rw7.o.lt q e;omega),rw8.c⟩
    have hlj:=ats_ld rw9.o.rds j hlt2;obtain ⟨T2,hT,ch'⟩:=ch.step hlt2;simp only[ZG,↓reduceIte,ZA,ZB,ZC,mbl,ZD,ZE,ZF,dj0,dj1,and_self,tn,hlj,w9.ld2 (i:=0) rfl];refine XX_of (xBecome_ok w9.hp ch.iv (4,2+2*(j:Int)) (4,4+2*(j:Int))) (fun res h10 hle10 hn=>?_);rw[hT] at hn;obtain ⟨kd,rfl,L2,s2,sm2⟩:=hn;refine .ret ?_;simp only[ZG,↓reduceIte,ZA,ZB,ZC,mbl,ZD,ZE,ZF,wj];refine next (j+1,T2,L2) _ _ h10 ⟨by omega,ch',(w9.step kd s2 sm2).tail,rw9.step kd sm2⟩ ⟨rfl,rfl,rfl,rfl,rfl,rfl,trivial⟩ (by simp;omega)
   have d2:((j:Int)<(3:Int)-1)=False:=by simp;omega
   have w9:=w8.re (y:=(4,4+2*(j:Int))) (by rw[show 2+2*(i:Int)=4+2*(j:Int) by omega]);simp only[ZG,↓reduceIte,ZA,ZB,ZC,mbl,ZD,ZE,ZF,wm,d2];have hlj:=ats_ld rw8.o.rds j hlt2;obtain ⟨T2,hT,ch'⟩:=ch.step hlt2;simp only[ZG,↓reduceIte,ZA,ZB,ZC,mbl,ZD,ZE,ZF,dj0,dj1,and_self,tn,hlj,w9.ld2 (i:=0) rfl];refine XX_of (xBecome_ok w9.hp ch.iv (4,2+2*(j:Int)) (4,4+2*(j:Int))) (fun res h10 hle10 hn=>?_);rw[hT] at hn;obtain ⟨kd,rfl,L2,s2,sm2⟩:=hn;refine .ret ?_;simp only[ZG,↓reduceIte,ZA,ZB,ZC,mbl,ZD,ZE,ZF,wj];refine next (j+1,T2,L2) _ _ h10 ⟨by omega,ch',(w9.step kd s2 sm2).tail,rw8.step kd sm2⟩ ⟨rfl,rfl,rfl,rfl,rfl,rfl,trivial⟩ (by simp;omega)
  have d1:((j:Int)<(3:Int))=False:=by simp;omega
  have hjn:j=i:=by omega
  subst hjn;simp only[ZG,↓reduceIte,ZA,ZB,ZC,d1];refine out (.exit 2) _ _ _ _ (by intro e;cases e) ?_;have l0:=ats_ld rw7.o.rds 0 hn1;rw[show 2+2*((0:Nat):Int)=2 from rfl] at l0;simp only[Z1,Z0] at l0;have lN:=ats_ld rw7.o.rds (j-1) (by omega);rw[show 2+2*((j-1:Nat):Int)=2*(j:Int) by omega] at lN;have wm:IntKind.i64.wrap ((3:Int)-1)=(3:Int)-1:=i64w (by omega) (by omega);have tnN:Z5 ((3:Int)-1)=j-1:=by omega
  have dn0:(0<=(3:Int)-1)=True:=eq_true (by omega);have dn1:((3:Int)-1<(j:Int))=True:=eq_true (by omega);simp only[ZG,↓reduceIte,ZA,ZB,ZC,mbl,ZD,ZE,ZF,d0,d00,and_self,l0,Z2,Z1,Z0,wm,tnN,dn0,dn1,lN];have oR:=Own.new h7 44 h7.length [iv 4,iv 2,iv 1,iv v,iv 4,iv (2*(j:Int))];have kR:Keep (fun _=>False) h7 (h7++[row 44 h7.length [iv 4,iv 2,iv 1,iv v,iv 4,iv (2*(j:Int))]]):=Keep.push _ _ _;have zR:L.cls h7.length=0:=w.hp.c0 _ (Ze _);have eR:∀ q,rb (.slice (some ⟨h7.length,0,none⟩) 3 3) q->q=h7.length:=fun q e=>e.bk
  generalize h7++[row 44 h7.length [iv 4,iv 2,iv 1,iv v,iv 4,iv (2*(j:Int))]]=h8 at oR kR ⊢;have gl:T.globals.length<=2000000:=by obtain ⟨now,rfl⟩:=ch.e;show 2<=2000000;omega
  obtain ⟨hgr,_⟩:=ch.out hn1;refine XX_of (Collect_ok (w.hp.keepF kR) ch.iv gl (roots:=[(4,2),(1,v),(4,2*(j:Int))]) (.mk oR.cells (by simp) rfl) (by simp) (fun q hq=>by rw[eR q hq];exact zR)) (fun res h9 hle9 hn=>?_);obtain ⟨kc2,hn⟩:=hn;rw[if_pos (by rw[hgr])] at hn;obtain ⟨v',news,T',L2,rfl,cr,s9,iv9,sm2,rw9⟩:=hn;refine .ret ?_;obtain ⟨rfl,hT5,hfl,hli⟩:=ch.coll hn1 cr iv9;obtain ⟨bn,on,cn,rfl,m0⟩:=rw_at rw9.o.rds (i:=0) rfl;obtain ⟨_,_,_,e1,m1⟩:=rw_at rw9.o.rds (i:=1) rfl;cases e1;obtain ⟨_,_,_,e2,m2⟩:=rw_at rw9.o.rds (i:=2) rfl;cases e2;simp only[Z1,Z0,Z4] at m0 m1 m2;have t1:Z5 1=1:=rfl;have t2:Z5 2=2:=rfl;have q0:((0:Int)<(([((4:Int),(0:Int)),(1,v),(4,0)].length:Nat):Int))=True:=by simp
  have q1:((1:Int)<(([((4:Int),(0:Int)),(1,v),(4,0)].length:Nat):Int))=True:=by simp
  have q2:((2:Int)<(([((4:Int),(0:Int)),(1,v),(4,0)].length:Nat):Int))=True:=by simp
  have q3:((([((4:Int),(0:Int)),(1,v),(4,0)].length:Nat):Int)=3)=True:=by simp
  have p1:((0:Int)<=1)=True:=by simp
  have p2:((0:Int)<=2)=True:=by simp
  simp only[ZG,↓reduceIte,ZA,ZB,ZC,mbl,ZD,ZE,ZF,d00,and_self,m0,m1,m2,Z2,Z1,Z0,t1,t2,q0,q1,q2,q3,p1,p2,Z4,ceq_w];refine XX_val (Used_ok s9) ?_;simp only[ZG,↓reduceIte,ZA,ZB,ZC,mbl,ZD,ZE,ZF,hT5,d00,and_self,m0,m1,m2,Z2,Z1,Z0,t1,t2,q0,q1,q2,q3,p1,p2,Z4,ceq_w];refine XX_of (Fields_ok s9 iv9.ok (4,0)) (fun res h10 hle10 hn=>?_);obtain ⟨k10,hn⟩:=hn;rw[if_pos hli,hfl] at hn;obtain ⟨vf,rfl,of,ff⟩:=hn;refine .ret ?_;obtain ⟨bf,of',cf,rfl,f0⟩:=rw_at of.rds (i:=0) rfl;obtain ⟨_,_,_,e3,f1⟩:=rw_at of.rds (i:=1) rfl;cases e3;simp only[Z1,Z0,Z4] at f0 f1;have rw10:=rw9.keepF k10;obtain ⟨_,_,_,e4,m00⟩:=rw_at rw10.o.rds (i:=0) rfl;cases e4;simp only[Z1,Z0] at m00;have q4:((0:Int)<(([((1:Int),v),(4,0)].length:Nat):Int))=True:=by simp
  have q5:((1:Int)<(([((1:Int),v),(4,0)].length:Nat):Int))=True:=by simp
  have q6:((([((1:Int),v),(4,0)].length:Nat):Int)=2)=True:=by simp
  simp only[ZG,↓reduceIte,ZA,ZB,ZC,mbl,ZD,ZE,ZF,d00,and_self,m00,f0,f1,Z2,Z1,Z0,t1,t2,q0,q4,q5,q6,p1,Z4,ceq_w];exact hΨ _ _ (fin_ret (rv1 rfl rfl))
 by_cases c2:n0 > 40
 ·obtain ⟨n,hN⟩:∃ n:Nat,(n:Int)=3:=⟨3,rfl⟩
  have hn1:1<=n:=by omega
  have hn2:n<=40:=by omega
  simp only[ZG,↓reduceIte,ZA,ZB,ZC,c1,c2,mbl,ZD,ZE,ZF];refine XX_of (tiny_ok h0) (fun res h1 hle1 hn=>?_);obtain ⟨k1,vi,vc,vp,vk,rfl,im,_,_,_⟩:=hn;refine .ret ?_;simp only[ZG,↓reduceIte,ZA,ZB,ZC,mbl,ZD,ZE,ZF];refine XX_of (New_ok (C:=tinyC) (texts:=[]) im (by refine ⟨?_,?_,?_,?_⟩<;>decide) .nil (by decide) (by decide) 300) (fun res h2 hle2 hn=>?_);obtain ⟨k2,hn⟩:=hn;unfold NewO at hn;rw[if_pos ⟨tiny_ends,by omega,by omega⟩,tiny_new300] at hn;obtain ⟨b,L0,rfl,hp0,z0⟩:=hn;refine .ret ?_;simp only[ZG,↓reduceIte,ZA,ZB,ZC,mbl,ZD,ZE,ZF];refine XLo_rule (α:=Nat × HS × Lay × Value) (fun a=>[(0,iv (3:Int)),(1,iv v),(5,.pointer (some ⟨b,0,none⟩)),(7,a.2.2.2),(8,iv a.1)])
   (fun a h'=>a.1<=n/\Ch1 a.2.1 a.1/\Hp h' b a.2.2.1 a.2.1/\Rw h' a.2.2.1 0 a.2.2.2 (ats a.1)) (fun a=>n-a.1) (0,_,L0,_)
   ⟨Z6 _,.zero,hp0,.nil,fun q e=>e.elim⟩ ⟨rfl,rfl,rfl,rfl,rfl,trivial⟩ ?_
  rintro ⟨i,S,L,v7⟩ h3 Ψ2 ⟨hi,ch,hp,rw7⟩ next out
  simp only at hi ch hp rw7
  by_cases hlt:i<n
  case pos =>
   have d1:((i:Int)<(3:Int))=True:=by simp;omega
   simp only[ZG,↓reduceIte,ZA,ZB,ZC,d1,mbl,ZD,ZE,ZF];have w:Wk h3 b L S []:=⟨hp,fun p hp=>by cases hp⟩
   refine XX_of (Put_ok hp ch.v.ok.fresh (10,(i:Int)) (ys:=[]) (u:=.slice none 0 0) .nil (by decide) (fun _=>by decide)) (fun res h4 hle hn=>?_);rw[ch.put (by omega)] at hn;obtain ⟨kc,rfl,L1,s1,sm⟩:=hn;refine .ret ?_
   replace w:=w.step kc s1 sm
   replace rw7:=rw7.step kc sm
   simp only[ZG,↓reduceIte,ZA,ZB,ZC,wv,mbl,ZD,ZE,ZF];refine XH_box w (fun h5 hlt5 w5 kb=>?_)
   replace rw7:=rw7.keepF kb
   obtain ⟨T,hT,ch2⟩:=ch.hole (by omega);have v1:Inv (S.laid [(10,(i:Int)),(1,0)]):=by have:=ch.v.put (10,(i:Int)) [];rwa [ch.put (by omega)] at this
   simp only[ZG,↓reduceIte,ZA,ZB,ZC,mbl,ZD,ZE,ZF,w5.ld2 (i:=0) rfl];refine XX_of (xHole_ok w5.hp v1 (4,2+2*(i:Int))) (fun res h6 hle6 hn=>?_);rw[hT] at hn;obtain ⟨kd,rfl,L2,s2,sm2⟩:=hn;refine .ret ?_;have w6:=w5.step kd s2 sm2
   replace rw7:=rw7.step kd sm2
   obtain ⟨v8,h8,a1,a2,a3⟩:=rw7.app w6.hp.c0 (Z6 _) (by rw[ats_len];omega) (4,2+2*(i:Int));simp only[ZG,↓reduceIte,ZA,ZB,ZC,mbl,ZD,ZE,ZF,w6.ld2 (i:=0) rfl,a1];have wi:IntKind.i64.wrap ((i:Int)+1)=((i+1:Nat):Int):=by rw[i64w (by omega) (by omega)];omega
   simp only[ZG,↓reduceIte,ZA,ZB,ZC,wi];refine next (i+1,T,L2,v8) _ _ h8 ⟨by omega,ch2,w6.hp.keep a3 (fun q e c=>e c.2),by rw[ats_succ];exact a2⟩ ⟨rfl,rfl,rfl,rfl,rfl,trivial⟩ (by simp;omega)
  have d1:((i:Int)<(3:Int))=False:=by simp;omega
  have hin:i=n:=by omega
  subst hin;simp only[ZG,↓reduceIte,ZA,ZB,ZC,d1];refine out (.exit 0) _ _ _ _ (by intro e;cases e) ?_;obtain ⟨ba,oa,ca,rfl⟩:=ats_sh rw7.o.rds hn1;have l70:=ats_ld rw7.o.rds 0 hn1;have d0:((0:Int)<(i:Int))=True:=by simp;omega
  have d00:((0:Int)<=0)=True:=by simp
  rw[show 2+2*((0:Nat):Int)=2 from rfl] at l70;simp only[Z1,Z0] at l70;simp only[ZG,↓reduceIte,ZA,ZB,ZC,mbl,ZD,ZE,ZF,d0,d00,and_self,l70,Z2,Z1,Z0];have oR:=Own.new h3 44 h3.length [iv 1,iv v,iv 4,iv 2];have kR:Keep (fun _=>False) h3 (h3++[row 44 h3.length [iv 1,iv v,iv 4,iv 2]]):=Keep.push _ _ _;generalize h3++[row 44 h3.length [iv 1,iv v,iv 4,iv 2]]=h4 at oR kR ⊢;obtain ⟨hpt,ch2⟩:=ch.fin hn2 hn1 v;refine XX_of (Put_ok (hp.keepF kR) ch.v.ok.fresh (7,4) (ys:=[(1,v),(4,2)]) (.mk oR.cells (by simp) rfl) (by simp) (fun _=>by simp)) (fun res h5 hle hn=>?_);rw[hpt] at hn;obtain ⟨kc,rfl,L1,s1,sm⟩:=hn;refine .ret ?_;generalize S.laid [(7,4),(1,v),(4,2)]=S2 at ch2 s1;have w5:Wk h5 b L1 S2 []:=⟨s1,fun p hp=>by cases hp⟩
  replace rw7:=(rw7.keepF kR).step kc sm
  simp only[ZG,↓reduceIte,ZA,ZB,ZC,wv,mbl,ZD,ZE,ZF];refine XH_box w5 (fun h6 hlt6 w6 kb=>?_)
  replace rw7:=rw7.keepF kb
  generalize h5.length=q12 at w6;simp only[ZG,↓reduceIte,ZA,ZB,ZC,mbl,ZD,ZE,ZF];refine XLo_rule (α:=Nat × HS × Lay) (fun a=>[(0,iv (3:Int)),(1,iv v),(5,.pointer (some ⟨b,0,none⟩)),(7,.slice (some ⟨ba,oa,none⟩) i ca),(12,.pointer (some ⟨q12,0,none⟩)),(13,iv a.1)])
   (fun a h'=>a.1<=i/\Ch2 a.2.1 i a.1 v/\Wk h' b a.2.2 a.2.1 [(q12,(4,2+2*(i:Int)))]/\Rw h' a.2.2 0 (.slice (some ⟨ba,oa,none⟩) i ca) (ats i)) (fun a=>i-a.1) (0,S2,L1)
   ⟨Z6 _,ch2,w6,rw7⟩ ⟨rfl,rfl,rfl,rfl,rfl,rfl,trivial⟩ ?_
  clear ch2 w6 rw7 ch hp out next
  rintro ⟨j,T,L⟩ h7 Ψ3 ⟨hj,ch,w,rw7⟩ next out
  simp only at hj ch w rw7
  by_cases hlt2:j<i
  case pos =>
   have d1:((j:Int)<(3:Int))=True:=by simp;omega
   have dj0:(0<=(j:Int))=True:=by simp
   have dj1:((j:Int)<(i:Int))=True:=by simp;omega
   have tn:Z5 (j:Int)=j:=by simp
   have wm:IntKind.i64.wrap ((3:Int)-1)=(3:Int)-1:=i64w (by omega) (by omega);have wj:IntKind.i64.wrap ((j:Int)+1)=((j+1:Nat):Int):=by rw[i64w (by omega) (by omega)];omega
   simp only[ZG,↓reduceIte,ZA,ZB,ZC,d1,mbl,ZD,ZE,ZF,w.ld2 (i:=0) rfl];refine XH_box w (fun h8 hlt8 w8 kb=>?_);have rw8:=rw7.keepF kb;have hne:h7.length≠q12:=fun e=>by have:=(w.bx _ (Z3)).1.lt;simp only at this;omega
   by_cases hl1:j+1<i
   ·have d2:((j:Int)<(3:Int)-1)=True:=by simp;omega
    have ds0:(0<=((j+1:Nat):Int))=True:=by simp;omega
    have ds1:(((j+1:Nat):Int)<(i:Int))=True:=by simp;omega
    have tn1:Z5 ((j+1:Nat):Int)=j+1:=by simp
    have hld:=ats_ld rw8.o.rds (j+1) hl1;simp only[ZG,↓reduceIte,ZA,ZB,ZC,mbl,ZD,ZE,ZF,wm,d2,wj,ds0,ds1,and_self,tn1,hld];have oQ:=(w8.bx _ Z3).1;have cQ:=(w8.bx _ Z3).2;refine XH_own oQ rfl (by simp [Value.cells]) rfl (fun h9 q1 q2 q3=>?_);have q1':Own h9 h7.length 44 [iv 4,iv (4+2*(j:Int))]:=by
     rw[show 4+2*(j:Int)=2+2*((j+1:Nat):Int) by omega];simpa [Value.cells] using q1
    have w9:Wk h9 b L T [(h7.length,(4,4+2*(j:Int))),(q12,(4,2+2*(i:Int)))]:=by
     refine ⟨w8.hp.keep q2 (fun q e c=>e (by rw[c];exact cQ)),fun p hp=>?_⟩
     rcases Za.1 hp with rfl|hp
     ·exact ⟨q1',cQ⟩
     ·have:=w8.tail.bx p hp
      cases Z7.1 hp;exact ⟨this.1.keep q2 (fun e=>hne e.symm),this.2⟩
    have rw9:Rw h9 L 0 (.slice (some ⟨ba,oa,none⟩) i ca) (ats i):=⟨rw8.o.keep q2 (fun q e c=>by have:=rw7.o.lt q e;omega),rw8.c⟩
    have hlj:=ats_ld rw9.o.rds j hlt2;obtain ⟨T2,hT,ch'⟩:=ch.step hlt2;simp only[ZG,↓reduceIte,ZA,ZB,ZC,mbl,ZD,ZE,ZF,dj0,dj1,and_self,tn,hlj,w9.ld2 (i:=0) rfl];refine XX_of (xBecome_ok w9.hp ch.iv (4,2+2*(j:Int)) (4,4+2*(j:Int))) (fun res h10 hle10 hn=>?_);rw[hT] at hn;obtain ⟨kd,rfl,L2,s2,sm2⟩:=hn;refine .ret ?_;simp only[ZG,↓reduceIte,ZA,ZB,ZC,mbl,ZD,ZE,ZF,wj];refine next (j+1,T2,L2) _ _ h10 ⟨by omega,ch',(w9.step kd s2 sm2).tail,rw9.step kd sm2⟩ ⟨rfl,rfl,rfl,rfl,rfl,rfl,trivial⟩ (by simp;omega)
   have d2:((j:Int)<(3:Int)-1)=False:=by simp;omega
   have w9:=w8.re (y:=(4,4+2*(j:Int))) (by rw[show 2+2*(i:Int)=4+2*(j:Int) by omega]);simp only[ZG,↓reduceIte,ZA,ZB,ZC,mbl,ZD,ZE,ZF,wm,d2];have hlj:=ats_ld rw8.o.rds j hlt2;obtain ⟨T2,hT,ch'⟩:=ch.step hlt2;simp only[ZG,↓reduceIte,ZA,ZB,ZC,mbl,ZD,ZE,ZF,dj0,dj1,and_self,tn,hlj,w9.ld2 (i:=0) rfl];refine XX_of (xBecome_ok w9.hp ch.iv (4,2+2*(j:Int)) (4,4+2*(j:Int))) (fun res h10 hle10 hn=>?_);rw[hT] at hn;obtain ⟨kd,rfl,L2,s2,sm2⟩:=hn;refine .ret ?_;simp only[ZG,↓reduceIte,ZA,ZB,ZC,mbl,ZD,ZE,ZF,wj];refine next (j+1,T2,L2) _ _ h10 ⟨by omega,ch',(w9.step kd s2 sm2).tail,rw8.step kd sm2⟩ ⟨rfl,rfl,rfl,rfl,rfl,rfl,trivial⟩ (by simp;omega)
  have d1:((j:Int)<(3:Int))=False:=by simp;omega
  have hjn:j=i:=by omega
  subst hjn;simp only[ZG,↓reduceIte,ZA,ZB,ZC,d1];refine out (.exit 2) _ _ _ _ (by intro e;cases e) ?_;have l0:=ats_ld rw7.o.rds 0 hn1;rw[show 2+2*((0:Nat):Int)=2 from rfl] at l0;simp only[Z1,Z0] at l0;have lN:=ats_ld rw7.o.rds (j-1) (by omega);rw[show 2+2*((j-1:Nat):Int)=2*(j:Int) by omega] at lN;have wm:IntKind.i64.wrap ((3:Int)-1)=(3:Int)-1:=i64w (by omega) (by omega);have tnN:Z5 ((3:Int)-1)=j-1:=by omega
  have dn0:(0<=(3:Int)-1)=True:=eq_true (by omega);have dn1:((3:Int)-1<(j:Int))=True:=eq_true (by omega);simp only[ZG,↓reduceIte,ZA,ZB,ZC,mbl,ZD,ZE,ZF,d0,d00,and_self,l0,Z2,Z1,Z0,wm,tnN,dn0,dn1,lN];have oR:=Own.new h7 44 h7.length [iv 4,iv 2,iv 1,iv v,iv 4,iv (2*(j:Int))];have kR:Keep (fun _=>False) h7 (h7++[row 44 h7.length [iv 4,iv 2,iv 1,iv v,iv 4,iv (2*(j:Int))]]):=Keep.push _ _ _;have zR:L.cls h7.length=0:=w.hp.c0 _ (Ze _);have eR:∀ q,rb (.slice (some ⟨h7.length,0,none⟩) 3 3) q->q=h7.length:=fun q e=>e.bk
  generalize h7++[row 44 h7.length [iv 4,iv 2,iv 1,iv v,iv 4,iv (2*(j:Int))]]=h8 at oR kR ⊢;have gl:T.globals.length<=2000000:=by obtain ⟨now,rfl⟩:=ch.e;show 2<=2000000;omega
  obtain ⟨hgr,_⟩:=ch.out hn1;refine XX_of (Collect_ok (w.hp.keepF kR) ch.iv gl (roots:=[(4,2),(1,v),(4,2*(j:Int))]) (.mk oR.cells (by simp) rfl) (by simp) (fun q hq=>by rw[eR q hq];exact zR)) (fun res h9 hle9 hn=>?_);obtain ⟨kc2,hn⟩:=hn;rw[if_pos (by rw[hgr])] at hn;obtain ⟨v',news,T',L2,rfl,cr,s9,iv9,sm2,rw9⟩:=hn;refine .ret ?_;obtain ⟨rfl,hT5,hfl,hli⟩:=ch.coll hn1 cr iv9;obtain ⟨bn,on,cn,rfl,m0⟩:=rw_at rw9.o.rds (i:=0) rfl;obtain ⟨_,_,_,e1,m1⟩:=rw_at rw9.o.rds (i:=1) rfl;cases e1;obtain ⟨_,_,_,e2,m2⟩:=rw_at rw9.o.rds (i:=2) rfl;cases e2;simp only[Z1,Z0,Z4] at m0 m1 m2;have t1:Z5 1=1:=rfl;have t2:Z5 2=2:=rfl;have q0:((0:Int)<(([((4:Int),(0:Int)),(1,v),(4,0)].length:Nat):Int))=True:=by simp
  have q1:((1:Int)<(([((4:Int),(0:Int)),(1,v),(4,0)].length:Nat):Int))=True:=by simp
  have q2:((2:Int)<(([((4:Int),(0:Int)),(1,v),(4,0)].length:Nat):Int))=True:=by simp
  have q3:((([((4:Int),(0:Int)),(1,v),(4,0)].length:Nat):Int)=3)=True:=by simp
  have p1:((0:Int)<=1)=True:=by simp
  have p2:((0:Int)<=2)=True:=by simp
  simp only[ZG,↓reduceIte,ZA,ZB,ZC,mbl,ZD,ZE,ZF,d00,and_self,m0,m1,m2,Z2,Z1,Z0,t1,t2,q0,q1,q2,q3,p1,p2,Z4,ceq_w];refine XX_val (Used_ok s9) ?_;simp only[ZG,↓reduceIte,ZA,ZB,ZC,mbl,ZD,ZE,ZF,hT5,d00,and_self,m0,m1,m2,Z2,Z1,Z0,t1,t2,q0,q1,q2,q3,p1,p2,Z4,ceq_w];refine XX_of (Fields_ok s9 iv9.ok (4,0)) (fun res h10 hle10 hn=>?_);obtain ⟨k10,hn⟩:=hn;rw[if_pos hli,hfl] at hn;obtain ⟨vf,rfl,of,ff⟩:=hn;refine .ret ?_;obtain ⟨bf,of',cf,rfl,f0⟩:=rw_at of.rds (i:=0) rfl;obtain ⟨_,_,_,e3,f1⟩:=rw_at of.rds (i:=1) rfl;cases e3;simp only[Z1,Z0,Z4] at f0 f1;have rw10:=rw9.keepF k10;obtain ⟨_,_,_,e4,m00⟩:=rw_at rw10.o.rds (i:=0) rfl;cases e4;simp only[Z1,Z0] at m00;have q4:((0:Int)<(([((1:Int),v),(4,0)].length:Nat):Int))=True:=by simp
  have q5:((1:Int)<(([((1:Int),v),(4,0)].length:Nat):Int))=True:=by simp
  have q6:((([((1:Int),v),(4,0)].length:Nat):Int)=2)=True:=by simp
  simp only[ZG,↓reduceIte,ZA,ZB,ZC,mbl,ZD,ZE,ZF,d00,and_self,m00,f0,f1,Z2,Z1,Z0,t1,t2,q0,q4,q5,q6,p1,Z4,ceq_w];exact hΨ _ _ (fin_ret (rv1 rfl rfl))
 obtain ⟨n,hN⟩:∃ n:Nat,(n:Int)=n0:=⟨n0.toNat,by omega⟩
 have hn1:1<=n:=by omega
 have hn2:n<=40:=by omega
 simp only[ZG,↓reduceIte,ZA,ZB,ZC,c1,c2,mbl,ZD,ZE,ZF];refine XX_of (tiny_ok h0) (fun res h1 hle1 hn=>?_);obtain ⟨k1,vi,vc,vp,vk,rfl,im,_,_,_⟩:=hn;refine .ret ?_;simp only[ZG,↓reduceIte,ZA,ZB,ZC,mbl,ZD,ZE,ZF];refine XX_of (New_ok (C:=tinyC) (texts:=[]) im (by refine ⟨?_,?_,?_,?_⟩<;>decide) .nil (by decide) (by decide) 300) (fun res h2 hle2 hn=>?_);obtain ⟨k2,hn⟩:=hn;unfold NewO at hn;rw[if_pos ⟨tiny_ends,by omega,by omega⟩,tiny_new300] at hn;obtain ⟨b,L0,rfl,hp0,z0⟩:=hn;refine .ret ?_;simp only[ZG,↓reduceIte,ZA,ZB,ZC,mbl,ZD,ZE,ZF];refine XLo_rule (α:=Nat × HS × Lay × Value) (fun a=>[(0,iv n0),(1,iv v),(5,.pointer (some ⟨b,0,none⟩)),(7,a.2.2.2),(8,iv a.1)])
  (fun a h'=>a.1<=n/\Ch1 a.2.1 a.1/\Hp h' b a.2.2.1 a.2.1/\Rw h' a.2.2.1 0 a.2.2.2 (ats a.1)) (fun a=>n-a.1) (0,_,L0,_)
  ⟨Z6 _,.zero,hp0,.nil,fun q e=>e.elim⟩ ⟨rfl,rfl,rfl,rfl,rfl,trivial⟩ ?_
 rintro ⟨i,S,L,v7⟩ h3 Ψ2 ⟨hi,ch,hp,rw7⟩ next out
 simp only at hi ch hp rw7
 by_cases hlt:i<n
 case pos =>
  have d1:((i:Int)<n0)=True:=by simp;omega
  simp only[ZG,↓reduceIte,ZA,ZB,ZC,d1,mbl,ZD,ZE,ZF];have w:Wk h3 b L S []:=⟨hp,fun p hp=>by cases hp⟩
  refine XX_of (Put_ok hp ch.v.ok.fresh (10,(i:Int)) (ys:=[]) (u:=.slice none 0 0) .nil (by decide) (fun _=>by decide)) (fun res h4 hle hn=>?_);rw[ch.put (by omega)] at hn;obtain ⟨kc,rfl,L1,s1,sm⟩:=hn;refine .ret ?_
  replace w:=w.step kc s1 sm
  replace rw7:=rw7.step kc sm
  simp only[ZG,↓reduceIte,ZA,ZB,ZC,wv,mbl,ZD,ZE,ZF];refine XH_box w (fun h5 hlt5 w5 kb=>?_)
  replace rw7:=rw7.keepF kb
  obtain ⟨T,hT,ch2⟩:=ch.hole (by omega);have v1:Inv (S.laid [(10,(i:Int)),(1,0)]):=by have:=ch.v.put (10,(i:Int)) [];rwa [ch.put (by omega)] at this
  simp only[ZG,↓reduceIte,ZA,ZB,ZC,mbl,ZD,ZE,ZF,w5.ld2 (i:=0) rfl];refine XX_of (xHole_ok w5.hp v1 (4,2+2*(i:Int))) (fun res h6 hle6 hn=>?_);rw[hT] at hn;obtain ⟨kd,rfl,L2,s2,sm2⟩:=hn;refine .ret ?_;have w6:=w5.step kd s2 sm2
  replace rw7:=rw7.step kd sm2
  obtain ⟨v8,h8,a1,a2,a3⟩:=rw7.app w6.hp.c0 (Z6 _) (by rw[ats_len];omega) (4,2+2*(i:Int));simp only[ZG,↓reduceIte,ZA,ZB,ZC,mbl,ZD,ZE,ZF,w6.ld2 (i:=0) rfl,a1];have wi:IntKind.i64.wrap ((i:Int)+1)=((i+1:Nat):Int):=by rw[i64w (by omega) (by omega)];omega
  simp only[ZG,↓reduceIte,ZA,ZB,ZC,wi];refine next (i+1,T,L2,v8) _ _ h8 ⟨by omega,ch2,w6.hp.keep a3 (fun q e c=>e c.2),by rw[ats_succ];exact a2⟩ ⟨rfl,rfl,rfl,rfl,rfl,trivial⟩ (by simp;omega)
 have d1:((i:Int)<n0)=False:=by simp;omega
 have hin:i=n:=by omega
 subst hin;simp only[ZG,↓reduceIte,ZA,ZB,ZC,d1];refine out (.exit 0) _ _ _ _ (by intro e;cases e) ?_;obtain ⟨ba,oa,ca,rfl⟩:=ats_sh rw7.o.rds hn1;have l70:=ats_ld rw7.o.rds 0 hn1;have d0:((0:Int)<(i:Int))=True:=by simp;omega
 have d00:((0:Int)<=0)=True:=by simp
 rw[show 2+2*((0:Nat):Int)=2 from rfl] at l70;simp only[Z1,Z0] at l70;simp only[ZG,↓reduceIte,ZA,ZB,ZC,mbl,ZD,ZE,ZF,d0,d00,and_self,l70,Z2,Z1,Z0];have oR:=Own.new h3 44 h3.length [iv 1,iv v,iv 4,iv 2];have kR:Keep (fun _=>False) h3 (h3++[row 44 h3.length [iv 1,iv v,iv 4,iv 2]]):=Keep.push _ _ _;generalize h3++[row 44 h3.length [iv 1,iv v,iv 4,iv 2]]=h4 at oR kR ⊢;obtain ⟨hpt,ch2⟩:=ch.fin hn2 hn1 v;refine XX_of (Put_ok (hp.keepF kR) ch.v.ok.fresh (7,4) (ys:=[(1,v),(4,2)]) (.mk oR.cells (by simp) rfl) (by simp) (fun _=>by simp)) (fun res h5 hle hn=>?_);rw[hpt] at hn;obtain ⟨kc,rfl,L1,s1,sm⟩:=hn;refine .ret ?_;generalize S.laid [(7,4),(1,v),(4,2)]=S2 at ch2 s1;have w5:Wk h5 b L1 S2 []:=⟨s1,fun p hp=>by cases hp⟩
 replace rw7:=(rw7.keepF kR).step kc sm
 simp only[ZG,↓reduceIte,ZA,ZB,ZC,wv,mbl,ZD,ZE,ZF];refine XH_box w5 (fun h6 hlt6 w6 kb=>?_)
 replace rw7:=rw7.keepF kb
 generalize h5.length=q12 at w6;simp only[ZG,↓reduceIte,ZA,ZB,ZC,mbl,ZD,ZE,ZF];refine XLo_rule (α:=Nat × HS × Lay) (fun a=>[(0,iv n0),(1,iv v),(5,.pointer (some ⟨b,0,none⟩)),(7,.slice (some ⟨ba,oa,none⟩) i ca),(12,.pointer (some ⟨q12,0,none⟩)),(13,iv a.1)])
  (fun a h'=>a.1<=i/\Ch2 a.2.1 i a.1 v/\Wk h' b a.2.2 a.2.1 [(q12,(4,2+2*(i:Int)))]/\Rw h' a.2.2 0 (.slice (some ⟨ba,oa,none⟩) i ca) (ats i)) (fun a=>i-a.1) (0,S2,L1)
  ⟨Z6 _,ch2,w6,rw7⟩ ⟨rfl,rfl,rfl,rfl,rfl,rfl,trivial⟩ ?_
 clear ch2 w6 rw7 ch hp out next
 rintro ⟨j,T,L⟩ h7 Ψ3 ⟨hj,ch,w,rw7⟩ next out
 simp only at hj ch w rw7
 by_cases hlt2:j<i
 case pos =>
  have d1:((j:Int)<n0)=True:=by simp;omega
  have dj0:(0<=(j:Int))=True:=by simp
  have dj1:((j:Int)<(i:Int))=True:=by simp;omega
  have tn:Z5 (j:Int)=j:=by simp
  have wm:IntKind.i64.wrap (n0-1)=n0-1:=i64w (by omega) (by omega);have wj:IntKind.i64.wrap ((j:Int)+1)=((j+1:Nat):Int):=by rw[i64w (by omega) (by omega)];omega
  simp only[ZG,↓reduceIte,ZA,ZB,ZC,d1,mbl,ZD,ZE,ZF,w.ld2 (i:=0) rfl];refine XH_box w (fun h8 hlt8 w8 kb=>?_);have rw8:=rw7.keepF kb;have hne:h7.length≠q12:=fun e=>by have:=(w.bx _ (Z3)).1.lt;simp only at this;omega
  by_cases hl1:j+1<i
  ·have d2:((j:Int)<n0-1)=True:=by simp;omega
   have ds0:(0<=((j+1:Nat):Int))=True:=by simp;omega
   have ds1:(((j+1:Nat):Int)<(i:Int))=True:=by simp;omega
   have tn1:Z5 ((j+1:Nat):Int)=j+1:=by simp
   have hld:=ats_ld rw8.o.rds (j+1) hl1;simp only[ZG,↓reduceIte,ZA,ZB,ZC,mbl,ZD,ZE,ZF,wm,d2,wj,ds0,ds1,and_self,tn1,hld];have oQ:=(w8.bx _ Z3).1;have cQ:=(w8.bx _ Z3).2;refine XH_own oQ rfl (by simp [Value.cells]) rfl (fun h9 q1 q2 q3=>?_);have q1':Own h9 h7.length 44 [iv 4,iv (4+2*(j:Int))]:=by
    rw[show 4+2*(j:Int)=2+2*((j+1:Nat):Int) by omega];simpa [Value.cells] using q1
   have w9:Wk h9 b L T [(h7.length,(4,4+2*(j:Int))),(q12,(4,2+2*(i:Int)))]:=by
    refine ⟨w8.hp.keep q2 (fun q e c=>e (by rw[c];exact cQ)),fun p hp=>?_⟩
    rcases Za.1 hp with rfl|hp
    ·exact ⟨q1',cQ⟩
    ·have:=w8.tail.bx p hp
     cases Z7.1 hp;exact ⟨this.1.keep q2 (fun e=>hne e.symm),this.2⟩
   have rw9:Rw h9 L 0 (.slice (some ⟨ba,oa,none⟩) i ca) (ats i):=⟨rw8.o.keep q2 (fun q e c=>by have:=rw7.o.lt q e;omega),rw8.c⟩
   have hlj:=ats_ld rw9.o.rds j hlt2;obtain ⟨T2,hT,ch'⟩:=ch.step hlt2;simp only[ZG,↓reduceIte,ZA,ZB,ZC,mbl,ZD,ZE,ZF,dj0,dj1,and_self,tn,hlj,w9.ld2 (i:=0) rfl];refine XX_of (xBecome_ok w9.hp ch.iv (4,2+2*(j:Int)) (4,4+2*(j:Int))) (fun res h10 hle10 hn=>?_);rw[hT] at hn;obtain ⟨kd,rfl,L2,s2,sm2⟩:=hn;refine .ret ?_;simp only[ZG,↓reduceIte,ZA,ZB,ZC,mbl,ZD,ZE,ZF,wj];refine next (j+1,T2,L2) _ _ h10 ⟨by omega,ch',(w9.step kd s2 sm2).tail,rw9.step kd sm2⟩ ⟨rfl,rfl,rfl,rfl,rfl,rfl,trivial⟩ (by simp;omega)
  have d2:((j:Int)<n0-1)=False:=by simp;omega
  have w9:=w8.re (y:=(4,4+2*(j:Int))) (by rw[show 2+2*(i:Int)=4+2*(j:Int) by omega]);simp only[ZG,↓reduceIte,ZA,ZB,ZC,mbl,ZD,ZE,ZF,wm,d2];have hlj:=ats_ld rw8.o.rds j hlt2;obtain ⟨T2,hT,ch'⟩:=ch.step hlt2;simp only[ZG,↓reduceIte,ZA,ZB,ZC,mbl,ZD,ZE,ZF,dj0,dj1,and_self,tn,hlj,w9.ld2 (i:=0) rfl];refine XX_of (xBecome_ok w9.hp ch.iv (4,2+2*(j:Int)) (4,4+2*(j:Int))) (fun res h10 hle10 hn=>?_);rw[hT] at hn;obtain ⟨kd,rfl,L2,s2,sm2⟩:=hn;refine .ret ?_;simp only[ZG,↓reduceIte,ZA,ZB,ZC,mbl,ZD,ZE,ZF,wj];refine next (j+1,T2,L2) _ _ h10 ⟨by omega,ch',(w9.step kd s2 sm2).tail,rw8.step kd sm2⟩ ⟨rfl,rfl,rfl,rfl,rfl,rfl,trivial⟩ (by simp;omega)
 have d1:((j:Int)<n0)=False:=by simp;omega
 have hjn:j=i:=by omega
 subst hjn;simp only[ZG,↓reduceIte,ZA,ZB,ZC,d1];refine out (.exit 2) _ _ _ _ (by intro e;cases e) ?_;have l0:=ats_ld rw7.o.rds 0 hn1;rw[show 2+2*((0:Nat):Int)=2 from rfl] at l0;simp only[Z1,Z0] at l0;have lN:=ats_ld rw7.o.rds (j-1) (by omega);rw[show 2+2*((j-1:Nat):Int)=2*(j:Int) by omega] at lN;have wm:IntKind.i64.wrap (n0-1)=n0-1:=i64w (by omega) (by omega);have tnN:Z5 (n0-1)=j-1:=by omega
 have dn0:(0<=n0-1)=True:=eq_true (by omega);have dn1:(n0-1<(j:Int))=True:=eq_true (by omega);simp only[ZG,↓reduceIte,ZA,ZB,ZC,mbl,ZD,ZE,ZF,d0,d00,and_self,l0,Z2,Z1,Z0,wm,tnN,dn0,dn1,lN];have oR:=Own.new h7 44 h7.length [iv 4,iv 2,iv 1,iv v,iv 4,iv (2*(j:Int))];have kR:Keep (fun _=>False) h7 (h7++[row 44 h7.length [iv 4,iv 2,iv 1,iv v,iv 4,iv (2*(j:Int))]]):=Keep.push _ _ _;have zR:L.cls h7.length=0:=w.hp.c0 _ (Ze _);have eR:∀ q,rb (.slice (some ⟨h7.length,0,none⟩) 3 3) q->q=h7.length:=fun q e=>e.bk
 generalize h7++[row 44 h7.length [iv 4,iv 2,iv 1,iv v,iv 4,iv (2*(j:Int))]]=h8 at oR kR ⊢;have gl:T.globals.length<=2000000:=by obtain ⟨now,rfl⟩:=ch.e;show 2<=2000000;omega
 obtain ⟨hgr,_⟩:=ch.out hn1;refine XX_of (Collect_ok (w.hp.keepF kR) ch.iv gl (roots:=[(4,2),(1,v),(4,2*(j:Int))]) (.mk oR.cells (by simp) rfl) (by simp) (fun q hq=>by rw[eR q hq];exact zR)) (fun res h9 hle9 hn=>?_);obtain ⟨kc2,hn⟩:=hn;rw[if_pos (by rw[hgr])] at hn;obtain ⟨v',news,T',L2,rfl,cr,s9,iv9,sm2,rw9⟩:=hn;refine .ret ?_;obtain ⟨rfl,hT5,hfl,hli⟩:=ch.coll hn1 cr iv9;obtain ⟨bn,on,cn,rfl,m0⟩:=rw_at rw9.o.rds (i:=0) rfl;obtain ⟨_,_,_,e1,m1⟩:=rw_at rw9.o.rds (i:=1) rfl;cases e1;obtain ⟨_,_,_,e2,m2⟩:=rw_at rw9.o.rds (i:=2) rfl;cases e2;simp only[Z1,Z0,Z4] at m0 m1 m2;have t1:Z5 1=1:=rfl;have t2:Z5 2=2:=rfl;have q0:((0:Int)<(([((4:Int),(0:Int)),(1,v),(4,0)].length:Nat):Int))=True:=by simp
 have q1:((1:Int)<(([((4:Int),(0:Int)),(1,v),(4,0)].length:Nat):Int))=True:=by simp
 have q2:((2:Int)<(([((4:Int),(0:Int)),(1,v),(4,0)].length:Nat):Int))=True:=by simp
 have q3:((([((4:Int),(0:Int)),(1,v),(4,0)].length:Nat):Int)=3)=True:=by simp
 have p1:((0:Int)<=1)=True:=by simp
 have p2:((0:Int)<=2)=True:=by simp
 simp only[ZG,↓reduceIte,ZA,ZB,ZC,mbl,ZD,ZE,ZF,d00,and_self,m0,m1,m2,Z2,Z1,Z0,t1,t2,q0,q1,q2,q3,p1,p2,Z4,ceq_w];refine XX_val (Used_ok s9) ?_;simp only[ZG,↓reduceIte,ZA,ZB,ZC,mbl,ZD,ZE,ZF,hT5,d00,and_self,m0,m1,m2,Z2,Z1,Z0,t1,t2,q0,q1,q2,q3,p1,p2,Z4,ceq_w];refine XX_of (Fields_ok s9 iv9.ok (4,0)) (fun res h10 hle10 hn=>?_);obtain ⟨k10,hn⟩:=hn;rw[if_pos hli,hfl] at hn;obtain ⟨vf,rfl,of,ff⟩:=hn;refine .ret ?_;obtain ⟨bf,of',cf,rfl,f0⟩:=rw_at of.rds (i:=0) rfl;obtain ⟨_,_,_,e3,f1⟩:=rw_at of.rds (i:=1) rfl;cases e3;simp only[Z1,Z0,Z4] at f0 f1;have rw10:=rw9.keepF k10;obtain ⟨_,_,_,e4,m00⟩:=rw_at rw10.o.rds (i:=0) rfl;cases e4;simp only[Z1,Z0] at m00;have q4:((0:Int)<(([((1:Int),v),(4,0)].length:Nat):Int))=True:=by simp
 have q5:((1:Int)<(([((1:Int),v),(4,0)].length:Nat):Int))=True:=by simp
 have q6:((([((1:Int),v),(4,0)].length:Nat):Int)=2)=True:=by simp
 simp only[ZG,↓reduceIte,ZA,ZB,ZC,mbl,ZD,ZE,ZF,d00,and_self,m00,f0,f1,Z2,Z1,Z0,t1,t2,q0,q4,q5,q6,p1,Z4,ceq_w];exact hΨ _ _ (fin_ret (rv1 rfl rfl))
end Go.S19

namespace Go.S19
open Go Go.Eng Go.Proofs Go.Proofs.YtdlanbdiphpacaaDoor
theorem var_heap {P:Program} {W:World} {n:String} {g:Nat} {cs:Array Value} (hg:P.globalNamed n=some g) (h:W.var? P n=some cs):∃ e fr,W.heap[g]?=some (.cells cs e fr):=by
 simp only[World.var?,hg,Option.bind_some] at h
 split at h
 ·cases h;exact ⟨_,_,by assumption⟩
 ·cases h
def laidL : List (String × DataW Unit) := [("math/bits.deBruijn32tab", Rows.laid_math_bits_deBruijn32tab), ("math/bits.deBruijn64tab", Rows.laid_math_bits_deBruijn64tab), ("internal/strconv.uint64pow10", Rows.laid_internal_strconv_uint64pow10)]
theorem gPow : Tryd.prog.globalNamed "internal/strconv.uint64pow10" = some 0 := by kernel_rfl
theorem tPow:(Tryd.prog.globals[0]?).map (·.type)=some 149:=by kernel_rfl
theorem uPow:Tryd.prog.underlying 149=some (.array 20 139):=by kernel_rfl
theorem uU64:Tryd.prog.underlying 139=some (.int .u64):=by kernel_rfl
theorem cPow:Tryd.prog.cellsOf 149=20:=by kernel_rfl
theorem cU64:Tryd.prog.cellsOf 139=1:=by kernel_rfl
theorem gsz:Tryd.prog.globals.size=3:=by kernel_rfl
theorem tab0:Tab Tryd.prog 0=some ((Zg 20).map fun i=>Value.int .u64 (10 ^ i)):=by kernel_rfl
theorem tab1:Tab Tryd.prog 1=none:=by kernel_rfl
theorem tab2:Tab Tryd.prog 2=none:=by kernel_rfl
theorem powD:(Rows.laid_internal_strconv_uint64pow10:DataW Unit) = .agg ((Zg 20).map fun i=>.lit (.int .u64 (10 ^ i))):=by rfl
set_option maxRecDepth 100000 in
theorem tab_of_laid {W:World} (h:laidMetH Tryd.prog laidL W):TabOk Tryd.prog W.heap:=by
 rw[MakeChecks.laidMetH_plain _ _ _ (by kernel_rfl)] at h;obtain ⟨ps,⟨_,_,_,_,_,_,_,_,_,_,⟨_,_,_,_,_,_,_,_,_,_,⟨g3,t3,cs3,f3,p3,q3,hg3,ht3,hv3,hd3,_,_⟩,_⟩,_⟩,_,_⟩:=h;obtain rfl:=Zf.inj (gPow.symm.trans hg3);obtain rfl:=Zf.inj (tPow.symm.trans ht3);obtain ⟨e3,fr3,hh3⟩:=var_heap hg3 hv3;intro g cs hg
 match g,hg with
 | 0,hg =>
   rw[tab0] at hg;cases hg;refine ⟨cs3,e3,fr3,hh3,?_⟩;obtain ⟨xs,m,rfl,hx,hlen,hn,hel⟩:=DataW.trod_array uPow hd3;rw[cPow] at hlen;rw[powD] at hx;simp only[Prod.mk.injEq,DataW.agg.injEq] at hx;have hkey:∀ i,i<20->cs3.toList[i]?=some (.int .u64 (10 ^ i)):=by
    intro i hi;have h1:=hel i hi;rw[cU64,Nat.mul_one,Z9 (by omega)] at h1;obtain ⟨n,k1,k2,_⟩:=DataW.trod_int uU64 h1;have h2:=congrArg (fun l=>l[i]?) hx.1;simp only[Zd] at h2;rw[Zb hi,Z9 (by omega),Option.map_some,Option.map_some,k2] at h2;have h3:n=10 ^ i:=by
     have:=Zf.inj h2;simp only[DataW.lit.injEq,Lit.int.injEq,true_and] at this;exact this.symm
    have h4:=congrArg (fun l=>l[0]?) k1;simp only[List.getElem?_take,Nat.zero_lt_one,if_true,List.getElem?_drop,Z0] at h4;rw[h4,h3];rfl
   refine ⟨by simp [hlen],fun i u v hu hv=>?_⟩;have hi:i<20:=by have:=(Z8.1 hu).1;simpa using this
   rw[hkey i hi] at hv;cases hv;rw[Zd,Zb hi] at hu;cases hu;exact .int _ _
 | 1,hg=>rw[tab1] at hg;cases hg
 | 2,hg=>rw[tab2] at hg;cases hg
 | g+3,hg =>
   unfold Tab at hg;rw[Array.getElem?_eq_none (by rw[gsz];omega)] at hg;cases hg
theorem door_met (os:Os) (args:Array Value):laidMetH Tryd.prog laidL ((World.doorLaid Tryd.prog 400 os).forCall (fun _ _=>0) ⟨#[],args,[]⟩).memory :=
 laidMetH_of_parts3 (fuel:=8) (laidMet_of_run' 8 (by kernel_rfl) (by kernel_rfl)) (by kernel_rfl) (by kernel_rfl)
end Go.S19
