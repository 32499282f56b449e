import Derived.Test.YtjacebjfidhcoaaPk17
set_option linter.unusedVariables false
set_option linter.unusedSimpArgs false
open Nat renaming reduceEqDiff -> ZA,reduceAdd -> ZB,reduceMul -> ZC,reduceLeDiff -> ZD,reduceLT -> ZE
open Int renaming reduceEq -> ZF
open Int renaming toNat_natCast->Z0,le_refl->Z6
open Option renaming bind_some->Z1,some->Z5,bind_eq_some_iff->Z9,map_some->Za
open List renaming getElem?_eq_getElem->Z2,drop_eq_getElem_cons->Z7,getElem_mem->Z8,drop_eq_nil_of_le->Zb,map_cons->Zc,map_nil->Zd,getElem?_map->Ze
open Nat renaming zero_le->Z3,mul_one->Z4
namespace Go.S18.V
open Go Go.Eng Go.Proofs Go.Chk
structure Ml (h:AH) (b:Nat) (C:Cx) (vi vc vt vp vk:Value) (n:Int) (q:Nat) (a:Nat × Option Nat × Value × Value × List (Int × Int)) (h':AH):Prop where
 i1:a.1<=n.toNat
 kp:Keep (· = b) h h'
 s:Ro h' b C vi vc vt vp vk a.2.1
 op:Ows h' 3 1 a.2.2.1 a.1 (ns (a.2.2.2.2.map (·.2)))
 om:Ows h' 3 1 a.2.2.2.1 a.1 (ns (a.2.2.2.2.map (·.1)))
 fp:∀ x,bk a.2.2.1 x->h.length<=x
 fm:∀ x,bk a.2.2.2.1 x->h.length<=x
 ne:∀ x,bk a.2.2.1 x -> ¬ bk a.2.2.2.1 x
 ln:a.2.2.2.2.length=a.1
 pl:∀ p,a.2.1=some p->a.1<=p
 eq:wys C n.toNat q=a.2.1.bind fun p=>(wys C (n.toNat-a.1) p).map fun y=>(a.2.2.2.2++y.1,y.2)
theorem nil_ows {h:AH} {e:TypeId}:Ows h e 1 (.slice none 0 0) 0 []:=.nil
section
variable {h:AH} {b:Nat} {C:Cx} {vi vc vt vp vk:Value}
theorem Ml.next {n:Int} {q i:Nat} {o o2:Option Nat} {wp wm:Value} {l:List (Int × Int)} {h1 h2:AH} {p v:Int} (m:Ml h b C vi vc vt vp vk n q (i,o,wp,wm,l) h1) (him:∀ x,(x=b\/rb vi x\/rb vc x\/rb vp x\/rb vk x)->x<h.length) (hi:i<=200000) (hin:i+1<=n.toNat) (k:Keep (· = b) h1 h2) (s:Ro h2 b C vi vc vt vp vk o2) (hpl:∀ p,o2=some p->i+1<=p)
 (eq:wys C n.toNat q=o2.bind fun u=>(wys C (n.toNat-(i+1)) u).map fun y=>((l++[(v,p)])++y.1,y.2)) :
 ∃ wp' wm' h3 h4,appv false (h2++[row 3 h2.length [iv p]]) false 3 1 8 wp (.slice (some ⟨h2.length,0,none⟩) 1 1)=some (wp',h3)/\appv false (h3++[row 3 h3.length [iv v]]) false 3 1 8 wm (.slice (some ⟨h3.length,0,none⟩) 1 1)=some (wm',h4) /\
   Ml h b C vi vc vt vp vk n q (i+1,o2,wp',wm',l++[(v,p)]) h4:=by
 obtain ⟨i1,kp,s0,op,om,fp,fm,ne,ln,pl,_⟩:=m;have hb:=him b (.inl rfl);simp only at i1 op om fp fm ne ln;have hbp:∀ x,bk wp x -> ¬ x=b:=fun x hx e=>by have:=fp x hx;omega
 have hbm:∀ x,bk wm x -> ¬ x=b:=fun x hx e=>by have:=fm x hx;omega
 have hlen:=kp.len;have hlen2:=k.len;obtain ⟨wp',h3,a1,a2,a3,a4⟩:=app1 (bytes:=8) (xs:=[iv p]) (op.keep k hbp) rfl rfl (by omega) (by omega);have omk:=(om.keep k hbm).keep a3 (fun x hx e=>ne x e hx);have hmlt:=om.lt;have hplt:=op.lt;obtain ⟨wm',h4,b1,b2,b3,b4⟩:=app1 (bytes:=8) (xs:=[iv v]) omk rfl rfl (by omega) (by omega);have fp':∀ x,bk wp' x->h.length<=x:=fun x hx=>by
  rcases a4 x hx with e|e
  ·exact fp x e
  ·omega
 have hl3:=a3.len;have fm':∀ x,bk wm' x->h.length<=x:=fun x hx=>by
  rcases b4 x hx with e|e
  ·exact fm x e
  ·omega
 have npm:∀ x,bk wp' x -> ¬ bk wm x:=fun x hx e=>by
  rcases a4 x hx with c|c
  ·exact ne x c e
  ·have:=hmlt x e
   omega
 have hplt':=a2.lt;refine ⟨wp',wm',h3,h4,a1,b1,hin,?_,?_,?_,?_,fp',fm',?_,by simp [ln],hpl,eq⟩
 ·exact ((kp.trans k).trans' a3 (fun x hx e=>by have:=fp x e;omega)).trans' b3 (fun x hx e=>by have:=fm x e;omega)
 ·exact (s.keep a3 (fun x hx e=>by have:=fp x e;have:=him x hx;omega)).keep b3 (fun x hx e=>by have:=fm x e;have:=him x hx;omega)
 ·have:=a2.keep b3 npm
  simp only[List.map_append,Zc,Zd,ns_app] at this ⊢;exact this
 ·simp only[List.map_append,Zc,Zd,ns_app] at b2 ⊢
  exact b2
 ·intro x hx e
  rcases b4 x e with c|c
  ·exact npm x hx c
  ·have:=hplt' x hx
   omega
theorem Ro.lt {o:Option Nat} (s:Ro h b C vi vc vt vp vk o):∀ x,(x=b\/rb vi x\/rb vc x\/rb vp x\/rb vk x)->x<h.length:=by
 obtain ⟨p,bad,s⟩:=s.any;rintro x (rfl|e)
 ·exact s.own.lt
 ·exact s.im.lt x e
theorem rcases_ok {f:Nat} {o:Option Nat} (s:Ro h b C vi vc vt vp vk o) (z:Sz C) (hc:consOk C) (d w:Int) (hd:0<=d) (hdp:∀ p,o=some p->C.code.length-p<f/\d<=8+8*(p:Int))
 (hE:∀ (h2:AH) (q:Nat) (d2:Int),C.code.length-q<f->0<=d2->d2<=8+8*(q:Int)->Ro h2 b C vi vc vt vp vk (some q)->Gets Try.prog 85 [.pointer (some ⟨b,0,none⟩),iv d2,iv w] h2 (RfO h2 b C vi vc vt vp vk (expr C f d2 w q))) :
 Gets Try.prog 101 [.pointer (some ⟨b,0,none⟩),iv d,iv w] h (RfO h b C vi vc vt vp vk (o.bind (brn C (fun s' p'=>expr C f s' w p') d))):=by
 refine Gets.of (keep:=false) hP (draw_ok hM) k101 (by rfl) (fun Ψ hΨ=>?_);obtain ⟨p0,bad0,s0⟩:=s.any;have hl:=s0.hl;obtain ⟨ka,kc,hvk⟩:=row_shape s0.im.rk;have him:=s.lt;simp only[ZG,↓reduceIte,ZA,ZB,ZC,r101,YE,YC,YO,YA,YL,YX,YS,Ya,Yb,Yl,Yf,Yg,Yi,Ym,Yk,Yt,Yn,Yz,Yp,Yq,Yd];refine XX_of (want_ok s 7 7 (by omega)) (fun res h1 hle hn=>?_);obtain ⟨kp,rfl,s1⟩:=hn;refine .ret ?_;rw[wt_exc'] at s1;simp only at s1;simp only[ZG,↓reduceIte,ZA,ZB,ZC,mbl,ZD,ZE,ZF];refine XX_of (want_ok s1 1 200000 (by omega)) (fun res h2 hle2 hn=>?_);obtain ⟨kp2,rfl,s2⟩:=hn;refine .ret ?_;have k12:=kp.trans kp2
 rcases wt_cases C 1 200000 (o.bind (exc C 7)) with ⟨p1,x,q,eo,e1,x0,x4,e2⟩|⟨e2,hno⟩
 ·rw[e2] at s2 ⊢
  simp only at s2 ⊢;obtain ⟨p,rfl,e7⟩:=Z9.1 eo;rw[Z1] at hΨ;obtain ⟨f1,f2⟩:=hdp p rfl;have g7:=exc_on e7;have g1:=nx_on e1;simp only[ZG,↓reduceIte,ZA,ZB,ZC,mbl,ZD,ZE,ZF];refine XLo_rule (α:=Nat × Option Nat × Value × Value × List (Int × Int)) (fun a=>[(0,.pointer (some ⟨b,0,none⟩)),(1,iv d),(2,iv w),(6,iv x),(7,a.2.2.1),(8,a.2.2.2.1),(9,iv a.1)])
   (fun a h'=>Ml h b C vi vc vt vp vk x q a h') (fun a=>x.toNat-a.1) (0,some q,.slice none 0 0,.slice none 0 0,[])
   ⟨by simp,k12,s2,nil_ows,nil_ows,fun y e=>by (cases e),fun y e=>by (cases e),fun y e=>by (cases e),rfl,fun p _=>Z3 _,by
    simp only[Z1,Nat.sub_zero,List.nil_append];cases wys C x.toNat q<;>rfl⟩ ⟨rfl,rfl,rfl,rfl,rfl,rfl,rfl,trivial⟩ ?_
  rintro ⟨i,o1,wp,wm,l⟩ h3 Ψ2 m next out
  have ms:Ro h3 b C vi vc vt vp vk o1:=m.s;have mi:=m.i1;have mp:=m.pl;have me:=m.eq;have mk:=m.kp;simp only at mi mp me mk;have x01:(0:Int)<x:=by omega
  by_cases hi:(i:Int)<x
  ·cases o1 with
   | none =>
     obtain ⟨p3,s3⟩:=ms;simp only[ZG,↓reduceIte,ZA,ZB,ZC,hi,s3.own.cells.ld,mbl,ZD,ZE,ZF];refine out (.exit 0) _ _ _ _ (by intro e;cases e) ?_;simp only[ZG,↓reduceIte,ZA,ZB,ZC,mbl,ZD,ZE,ZF];refine XLo_rule (α:=Nat) (fun _=>[(0,.pointer (some ⟨b,0,none⟩)),(6,iv x),(12,iv 0)])
      (fun _ h'=>h'=h3) (fun _=>0) 0 rfl ⟨rfl,rfl,rfl,trivial⟩ ?_
     rintro _ g1 Ψ3 rfl _ out2;simp only[ZG,↓reduceIte,ZA,ZB,ZC,x01,s3.own.cells.ld,mbl,ZD,ZE,ZF];refine out2 (.exit 3) _ _ _ _ (by intro e;cases e) ?_;simp only[ZG,↓reduceIte,ZA,ZB,ZC,mbl,ZD,ZE,ZF];refine hΨ _ _ (fin_norm ⟨mk,rfl,?_⟩);rw[show brn C (fun s' p'=>expr C f s' w p') d p=none by
      unfold brn;rw[e7];simp only;cases hb:bl C 200000 p1 with
      | none=>rfl
      | some v =>
        obtain ⟨v1,v2⟩:=v;obtain ⟨hv2,hcd,_,_,_⟩:=bl_inv hb;have hnx:nx C p1=some (v1,p1+1):=by unfold nx;rw[hcd]
        rw[e1] at hnx;simp only[Z5.injEq,Prod.mk.injEq] at hnx;obtain ⟨hx1,hq1⟩:=hnx;rw[hv2,<- hx1,<- hq1];simp only;rw[if_pos (by omega),show wys C x.toNat q=none from me]]
     exact ⟨p3,s3⟩
   | some p3 =>
     have s3r:Rf h3 b C vi vc vt vp vk p3 false:=ms;have mp3:=mp p3 rfl;have:=s3r.le;have hwi:IntKind.i64.wrap ((i:Int)+1)=((i+1:Nat):Int):=by rw[i64w (by omega) (by omega)];omega
     simp only[ZG,↓reduceIte,ZA,ZB,ZC,hi,s3r.own.cells.ld,mbl,ZD,ZE,ZF];refine XX_of (want_ok ms 1 3 (by omega)) (fun res h4 hle4 hn=>?_);obtain ⟨kp4,rfl,s4⟩:=hn;refine .ret ?_
     rcases wt_cases C 1 3 (some p3) with ⟨p3',k,q3,eo3,e3,k0,k4,e4⟩|⟨e4,hno4⟩
     ·cases eo3
      have g3:=nx_on e3;rw[e4] at s4 ⊢;have s4r:Rf h4 b C vi vc vt vp vk q3 false:=s4;have s4':Ro h4 b C vi vc vt vp vk (some q3):=s4
      by_cases d1:k=1
      ·simp only[ZG,↓reduceIte,ZA,ZB,ZC,s4r.own.cells.ld,mbl,ZD,ZE,ZF,eq_true d1,hvk,lenw z.cons]
       refine XX_of (want_ok s4' 0 _ (Z6 _)) (fun res h5 hle5 hn=>?_);obtain ⟨kp5,rfl,s5⟩:=hn;refine .ret ?_;cases hb:bl C C.cons.length q3 with
       | none =>
         have ew:wt C 0 ((C.cons.length:Int)-1) (some q3)=(0,none):=by rw[wt_bl,hb]
         rw[ew] at s5 ⊢;obtain ⟨oX,hoXe⟩:∃ oX:Option Nat,oX=none:=⟨_,rfl⟩
         have sX:Ro h5 b C vi vc vt vp vk oX:=by rw[hoXe];exact s5
         have hoX:∀ t,oX=some t->p3<=t:=fun t e=>by rw[hoXe] at e;cases e
         obtain ⟨p5,s5⟩:=s5;have eqw:way C (x.toNat-(i+1) == 0) p3=oX.bind fun t=>(nx C t).map fun y=>((0,y.1),y.2):=way_of e3 (by rw[hoXe];simp [wv,d1,hb])
         have kX:=kp4.trans kp5;simp only[ZG,↓reduceIte,ZA,ZB,ZC,s5.own.cells.ld,mbl,ZD,ZE,ZF];refine XX_of (rnext_ok sX) (fun res h8 hle8 hn=>?_);obtain ⟨kp8,rfl,s8⟩:=hn;refine .ret ?_;obtain ⟨wp',wm',h9,h10,a1,a2,m'⟩:=m.next him (by omega) (by omega) (kX.trans kp8) s8 (fun t ht=>by
          obtain ⟨t0,e0,e9⟩:∃ t0,oX=some t0/\t=t0+1:=by
           cases hoX:oX with
           | none=>rw[hoX] at ht;cases ht
           | some t0 =>
             rw[hoX] at ht;simp only[Chk.nt] at ht;cases hnx:nx C t0 with
             | none=>rw[hnx] at ht;cases ht
             | some y =>
               rw[hnx] at ht;cases ht;exact ⟨t0,rfl,(nx_inv hnx).1⟩
          have:=hoX t0 e0;omega) (v:=0) (p:=(Chk.nt C oX).1) (by
           rw[me,Z1,show x.toNat-i=(x.toNat-(i+1))+1 by omega,wys_step eqw l])
         simp only[ZG,↓reduceIte,ZA,ZB,ZC,mbl,ZD,ZE,ZF,a1,a2,hwi];exact next (i+1,_,wp',wm',_) _ _ _ m' ⟨rfl,rfl,rfl,rfl,rfl,rfl,rfl,trivial⟩ (by simp only;omega)
       | some v =>
         obtain ⟨c,r⟩:=v;have gb:=bl_on hb;have ew:wt C 0 ((C.cons.length:Int)-1) (some q3)=(c,some r):=by rw[wt_bl,hb]
         rw[ew] at s5 ⊢;simp only at s5 ⊢;have s5r:Rf h5 b C vi vc vt vp vk r false:=s5;obtain ⟨_,_,_,c0,c1⟩:=bl_inv hb;obtain ⟨kb,ko,kc2,ke,kl,kd⟩:=rds_ix s5r.im.rk c0 (cn_at c0 c1);have hvk2:=ke.symm.trans hvk;cases hvk2;simp only[ZG,↓reduceIte,ZA,ZB,ZC,s5r.own.cells.ld,mbl,ZD,ZE,ZF,ke,c0,kl,c1,and_self,Z4,kd];refine XX_of (want_ok s5 (cn C c) (cn C c) (cn_8 hc c).1) (fun res h6 hle6 hn=>?_);obtain ⟨kp6,rfl,s6⟩:=hn;refine .ret ?_;rw[wt_exc'] at s6 ⊢;rw[Z1] at s6;simp only at s6 ⊢;obtain ⟨oX,hoXe⟩:∃ oX:Option Nat,oX=exc C (cn C c) r:=⟨_,rfl⟩
         have sX:Ro h6 b C vi vc vt vp vk oX:=by rw[hoXe];exact s6
         have hoX:∀ t,oX=some t->p3<=t:=fun t e=>by rw[hoXe] at e;have:=exc_on e;omega
         have eqw:way C (x.toNat-(i+1) == 0) p3=oX.bind fun t=>(nx C t).map fun y=>((cn C c,y.1),y.2):=way_of e3 (by rw[hoXe];simp [wv,d1,hb])
         have kX:=(kp4.trans kp5).trans kp6;simp only[ZG,↓reduceIte,ZA,ZB,ZC,mbl,ZD,ZE,ZF];refine XX_of (rnext_ok sX) (fun res h8 hle8 hn=>?_);obtain ⟨kp8,rfl,s8⟩:=hn;refine .ret ?_;obtain ⟨wp',wm',h9,h10,a1,a2,m'⟩:=m.next him (by omega) (by omega) (kX.trans kp8) s8 (fun t ht=>by
          obtain ⟨t0,e0,e9⟩:∃ t0,oX=some t0/\t=t0+1:=by
           cases hoX:oX with
           | none=>rw[hoX] at ht;cases ht
           | some t0 =>
             rw[hoX] at ht;simp only[Chk.nt] at ht;cases hnx:nx C t0 with
             | none=>rw[hnx] at ht;cases ht
             | some y =>
               rw[hnx] at ht;cases ht;exact ⟨t0,rfl,(nx_inv hnx).1⟩
          have:=hoX t0 e0;omega) (v:=cn C c) (p:=(Chk.nt C oX).1) (by
           rw[me,Z1,show x.toNat-i=(x.toNat-(i+1))+1 by omega,wys_step eqw l])
         simp only[ZG,↓reduceIte,ZA,ZB,ZC,mbl,ZD,ZE,ZF,a1,a2,hwi];exact next (i+1,_,wp',wm',_) _ _ _ m' ⟨rfl,rfl,rfl,rfl,rfl,rfl,rfl,trivial⟩ (by simp only;omega)
      by_cases d2:k=2
      ·simp only[ZG,↓reduceIte,ZA,ZB,ZC,mbl,ZD,ZE,ZF,d1,eq_true d2]
       refine XX_of (rnext_ok s4') (fun res h5 hle5 hn=>?_);obtain ⟨kp5,rfl,s5⟩:=hn;refine .ret ?_;simp only[ZG,↓reduceIte,ZA,ZB,ZC,mbl,ZD,ZE,ZF];refine XX_of (want_ok s5 0 0 (Z6 _)) (fun res h6 hle6 hn=>?_);obtain ⟨kp6,rfl,s6⟩:=hn;refine .ret ?_;rw[wt_exc',nt_2,Z1] at s6;simp only at s6;obtain ⟨oX,hoXe⟩:∃ oX:Option Nat,oX=(sn (nx C q3)).bind (exc C 0):=⟨_,rfl⟩
       have sX:Ro h6 b C vi vc vt vp vk oX:=by rw[hoXe];exact s6
       have hoX:∀ t,oX=some t->p3<=t:=fun t e=>by
        rw[hoXe] at e;obtain ⟨r,e5,e6⟩:=Z9.1 e;obtain ⟨n,e5⟩:=sn_inv e5;have:=nx_on e5;have:=exc_on e6;omega
       have eqw:way C (x.toNat-(i+1) == 0) p3=oX.bind fun t=>(nx C t).map fun y=>((0,y.1),y.2):=way_of e3 (by
        rw[hoXe];unfold wv;rw[if_neg d1,if_pos d2];cases nx C q3<;>rfl)
       have kX:=(kp4.trans kp5).trans kp6;simp only[ZG,↓reduceIte,ZA,ZB,ZC,mbl,ZD,ZE,ZF];refine XX_of (rnext_ok sX) (fun res h8 hle8 hn=>?_);obtain ⟨kp8,rfl,s8⟩:=hn;refine .ret ?_;obtain ⟨wp',wm',h9,h10,a1,a2,m'⟩:=m.next him (by omega) (by omega) (kX.trans kp8) s8 (fun t ht=>by
        obtain ⟨t0,e0,e9⟩:∃ t0,oX=some t0/\t=t0+1:=by
         cases hoX:oX with
         | none=>rw[hoX] at ht;cases ht
         | some t0 =>
           rw[hoX] at ht;simp only[Chk.nt] at ht;cases hnx:nx C t0 with
           | none=>rw[hnx] at ht;cases ht
           | some y =>
             rw[hnx] at ht;cases ht;exact ⟨t0,rfl,(nx_inv hnx).1⟩
        have:=hoX t0 e0;omega) (v:=0) (p:=(Chk.nt C oX).1) (by
         rw[me,Z1,show x.toNat-i=(x.toNat-(i+1))+1 by omega,wys_step eqw l])
       simp only[ZG,↓reduceIte,ZA,ZB,ZC,mbl,ZD,ZE,ZF,a1,a2,hwi];exact next (i+1,_,wp',wm',_) _ _ _ m' ⟨rfl,rfl,rfl,rfl,rfl,rfl,rfl,trivial⟩ (by simp only;omega)
      ·have d3:k=3:=by omega
       simp only[ZG,↓reduceIte,ZA,ZB,ZC,mbl,ZD,ZE,ZF,d1,d2,eq_true d3];refine XX_of (want_ok s4' 0 0 (Z6 _)) (fun res h5 hle5 hn=>?_);obtain ⟨kp5,rfl,s5⟩:=hn;refine .ret ?_;simp only[ZG,↓reduceIte,ZA,ZB,ZC,mbl,ZD,ZE,ZF];refine XX_of (want_ok s5 0 1 (Z6 _)) (fun res h6 hle6 hn=>?_);obtain ⟨kp6,rfl,s6⟩:=hn;refine .ret ?_;rw[wt_exc',Z1] at s6 ⊢;simp only at s6 ⊢;have hwx:IntKind.i64.wrap (x-1)=x-1:=i64w (by omega) (by omega)
       by_cases dl:(i:Int)<x-1
       ·obtain ⟨p6,bad6,s6r⟩:=s6.any
        simp only[ZG,↓reduceIte,ZA,ZB,ZC,mbl,ZD,ZE,ZF,hwx,eq_true dl];refine XH_own s6r.own rfl (by simp [Value.cells]) rfl (fun h7 q1 q2 q3'=>?_);have o':Own h7 b 119 [vi,vc,vt,vp,iv C.main,vk,iv p6,.bool true]:=by simpa [Value.cells] using q1
        have s7:Ro h7 b C vi vc vt vp vk none:=⟨p6,o',s6r.im.keep q2 s6r.ne,s6r.ne,s6r.hl,s6r.le⟩
        obtain ⟨oX,hoXe⟩:∃ oX:Option Nat,oX=none:=⟨_,rfl⟩
        have sX:Ro h7 b C vi vc vt vp vk oX:=by rw[hoXe];exact s7
        have hoX:∀ t,oX=some t->p3<=t:=fun t e=>by rw[hoXe] at e;cases e
        have eqw:way C (x.toNat-(i+1) == 0) p3=oX.bind fun t=>(nx C t).map fun y=>(((wt C 0 1 (exc C 0 q3)).1,y.1),y.2):=way_of e3 (by
         rw[hoXe,show (x.toNat-(i+1) == 0)=false by rw[beq_eq_false_iff_ne];omega];unfold wv;rw[if_neg d1,if_neg d2,if_pos d3];rfl)
        have kX:=((kp4.trans kp5).trans kp6).trans q2;simp only[ZG,↓reduceIte,ZA,ZB,ZC,mbl,ZD,ZE,ZF];refine XX_of (rnext_ok sX) (fun res h8 hle8 hn=>?_);obtain ⟨kp8,rfl,s8⟩:=hn;refine .ret ?_;obtain ⟨wp',wm',h9,h10,a1,a2,m'⟩:=m.next him (by omega) (by omega) (kX.trans kp8) s8 (fun t ht=>by
         obtain ⟨t0,e0,e9⟩:∃ t0,oX=some t0/\t=t0+1:=by
          cases hoX:oX with
          | none=>rw[hoX] at ht;cases ht
          | some t0 =>
            rw[hoX] at ht;simp only[Chk.nt] at ht;cases hnx:nx C t0 with
            | none=>rw[hnx] at ht;cases ht
            | some y =>
              rw[hnx] at ht;cases ht;exact ⟨t0,rfl,(nx_inv hnx).1⟩
         have:=hoX t0 e0;omega) (v:=(wt C 0 1 (exc C 0 q3)).1) (p:=(Chk.nt C oX).1) (by
          rw[me,Z1,show x.toNat-i=(x.toNat-(i+1))+1 by omega,wys_step eqw l])
        simp only[ZG,↓reduceIte,ZA,ZB,ZC,mbl,ZD,ZE,ZF,a1,a2,hwi];exact next (i+1,_,wp',wm',_) _ _ _ m' ⟨rfl,rfl,rfl,rfl,rfl,rfl,rfl,trivial⟩ (by simp only;omega)
       ·obtain ⟨oX,hoXe⟩:∃ oX:Option Nat,oX=(wt C 0 1 (exc C 0 q3)).2:=⟨_,rfl⟩
        have sX:Ro h6 b C vi vc vt vp vk oX:=by rw[hoXe];exact s6
        have ewt:∀ r,wt C 0 1 (some r)=match bl C 2 r with
         | some (y,q)=>(y,some q)
         | none=>(0,none):=fun r=>wt_bl (n:=2)
        have hoX:∀ t,oX=some t->p3<=t:=fun t e=>by
         rw[hoXe] at e;cases he:exc C 0 q3 with
         | none=>rw[he] at e;cases e
         | some r =>
           rw[he,ewt] at e;have:=exc_on he;cases hb:bl C 2 r with
           | none=>rw[hb] at e;cases e
           | some v=>rw[hb] at e;cases e;have:=bl_on (n:=2) (p:=r) (x:=v.1) (q:=v.2) hb;omega
        have eqw:way C (x.toNat-(i+1) == 0) p3=oX.bind fun t=>(nx C t).map fun y=>(((wt C 0 1 (exc C 0 q3)).1,y.1),y.2):=way_of e3 (by
         rw[hoXe,show (x.toNat-(i+1) == 0)=true by rw[beq_iff_eq];omega];unfold wv;rw[if_neg d1,if_neg d2,if_pos d3];cases he:exc C 0 q3 with
         | none=>rfl
         | some r =>
           rw[ewt];simp only[if_true,Z1];cases bl C 2 r<;>rfl)
        have kX:=(kp4.trans kp5).trans kp6;simp only[ZG,↓reduceIte,ZA,ZB,ZC,mbl,ZD,ZE,ZF,hwx,dl];refine XX_of (rnext_ok sX) (fun res h8 hle8 hn=>?_);obtain ⟨kp8,rfl,s8⟩:=hn;refine .ret ?_;obtain ⟨wp',wm',h9,h10,a1,a2,m'⟩:=m.next him (by omega) (by omega) (kX.trans kp8) s8 (fun t ht=>by
         obtain ⟨t0,e0,e9⟩:∃ t0,oX=some t0/\t=t0+1:=by
          cases hoX:oX with
          | none=>rw[hoX] at ht;cases ht
          | some t0 =>
            rw[hoX] at ht;simp only[Chk.nt] at ht;cases hnx:nx C t0 with
            | none=>rw[hnx] at ht;cases ht
            | some y =>
              rw[hnx] at ht;cases ht;exact ⟨t0,rfl,(nx_inv hnx).1⟩
         have:=hoX t0 e0;omega) (v:=(wt C 0 1 (exc C 0 q3)).1) (p:=(Chk.nt C oX).1) (by
          rw[me,Z1,show x.toNat-i=(x.toNat-(i+1))+1 by omega,wys_step eqw l])
        simp only[ZG,↓reduceIte,ZA,ZB,ZC,mbl,ZD,ZE,ZF,a1,a2,hwi];exact next (i+1,_,wp',wm',_) _ _ _ m' ⟨rfl,rfl,rfl,rfl,rfl,rfl,rfl,trivial⟩ (by simp only;omega)
     ·rw[e4] at s4 ⊢
      have eqw:way C (x.toNat-(i+1) == 0) p3=(none:Option Nat).bind fun t=>(nx C t).map fun y=>((0,y.1),y.2):=by
       cases hn3:nx C p3 with
       | none=>unfold way;rw[hn3];rfl
       | some v =>
         have:=hno4 p3 v.1 v.2 rfl hn3;rw[way_of (o:=none) (v:=0) (k:=v.1) (q:=v.2) hn3 (by unfold wv;rw[if_neg (by omega),if_neg (by omega),if_neg (by omega)];rfl)]
      obtain ⟨p4,s4r⟩:=s4;have s4':Ro h4 b C vi vc vt vp vk none:=⟨p4,s4r⟩
      simp only[ZG,↓reduceIte,ZA,ZB,ZC,mbl,ZD,ZE,ZF,s4r.own.cells.ld,hvk,lenw z.cons];refine XX_of (want_ok s4' 0 _ (Z6 _)) (fun res h5 hle5 hn=>?_);obtain ⟨kp5,rfl,s5⟩:=hn;refine .ret ?_;rw[wt_none] at s5 ⊢;obtain ⟨oX,hoXe⟩:∃ oX:Option Nat,oX=none:=⟨_,rfl⟩
      have sX:Ro h5 b C vi vc vt vp vk oX:=by rw[hoXe];exact s5
      have hoX:∀ t,oX=some t->p3<=t:=fun t e=>by rw[hoXe] at e;cases e
      rw[<- hoXe] at eqw;obtain ⟨p5,s5⟩:=s5;have kX:=kp4.trans kp5;simp only[ZG,↓reduceIte,ZA,ZB,ZC,s5.own.cells.ld,mbl,ZD,ZE,ZF];refine XX_of (rnext_ok sX) (fun res h8 hle8 hn=>?_);obtain ⟨kp8,rfl,s8⟩:=hn;refine .ret ?_;obtain ⟨wp',wm',h9,h10,a1,a2,m'⟩:=m.next him (by omega) (by omega) (kX.trans kp8) s8 (fun t ht=>by
       obtain ⟨t0,e0,e9⟩:∃ t0,oX=some t0/\t=t0+1:=by
        cases hoX:oX with
        | none=>rw[hoX] at ht;cases ht
        | some t0 =>
          rw[hoX] at ht;simp only[Chk.nt] at ht;cases hnx:nx C t0 with
          | none=>rw[hnx] at ht;cases ht
          | some y =>
            rw[hnx] at ht;cases ht;exact ⟨t0,rfl,(nx_inv hnx).1⟩
       have:=hoX t0 e0;omega) (v:=0) (p:=(Chk.nt C oX).1) (by
        rw[me,Z1,show x.toNat-i=(x.toNat-(i+1))+1 by omega,wys_step eqw l])
      simp only[ZG,↓reduceIte,ZA,ZB,ZC,mbl,ZD,ZE,ZF,a1,a2,hwi];exact next (i+1,_,wp',wm',_) _ _ _ m' ⟨rfl,rfl,rfl,rfl,rfl,rfl,rfl,trivial⟩ (by simp only;omega)
  ·have e1':x.toNat-i=0:=by omega
   have hxi:i=x.toNat:=by omega
   rw[e1'] at me;simp only[ZG,↓reduceIte,ZA,ZB,ZC,hi];refine out (.exit 0) _ _ _ _ (by intro e;cases e) ?_;simp only[ZG,↓reduceIte,ZA,ZB,ZC,mbl,ZD,ZE,ZF];cases o1 with
   | none =>
     obtain ⟨p3,s3⟩:=ms;refine XLo_rule (α:=Nat) (fun _=>[(0,.pointer (some ⟨b,0,none⟩)),(6,iv x),(12,iv 0)])
      (fun _ h'=>h'=h3) (fun _=>0) 0 rfl ⟨rfl,rfl,rfl,trivial⟩ ?_
     rintro _ g1 Ψ3 rfl _ out2;simp only[ZG,↓reduceIte,ZA,ZB,ZC,x01,s3.own.cells.ld,mbl,ZD,ZE,ZF];refine out2 (.exit 3) _ _ _ _ (by intro e;cases e) ?_;simp only[ZG,↓reduceIte,ZA,ZB,ZC,mbl,ZD,ZE,ZF];refine hΨ _ _ (fin_norm ⟨mk,rfl,?_⟩);rw[show brn C (fun s' p'=>expr C f s' w p') d p=none by
      unfold brn;rw[e7];simp only;cases hb:bl C 200000 p1 with
      | none=>rfl
      | some v =>
        obtain ⟨v1,v2⟩:=v;obtain ⟨hv2,hcd,_,_,_⟩:=bl_inv hb;have hnx:nx C p1=some (v1,p1+1):=by unfold nx;rw[hcd]
        rw[e1] at hnx;simp only[Z5.injEq,Prod.mk.injEq] at hnx;obtain ⟨hx1,hq1⟩:=hnx;rw[hv2,<- hx1,<- hq1];simp only;rw[if_pos (by omega),show wys C x.toNat q=none from me]]
     exact ⟨p3,s3⟩
   | some u =>
     have hwy:wys C x.toNat q=some (l,u):=by rw[me];simp [wys]
     have hlong:=wys_long _ hwy;have hvv:=wys_v hc _ hwy;have hwon:=wys_on _ g1.2 hwy;have hln:l.length=x.toNat:=hwon.2.2;have hbr:brn C (fun s' p'=>expr C f s' w p') d p=runs (fun s' p'=>expr C f s' w p') d l u:=by
      unfold brn;rw[e7];simp only;rw[show bl C 200000 p1=some (x,q) by unfold bl;rw[e1];simp only;rw[if_pos (by omega)]];simp only;rw[if_pos x01,hwy]
     rw[hbr] at hΨ;have hb0:=him b (.inl rfl);have op0:Ows h3 3 1 wp i (ns (l.map (·.2))):=m.op;have om0:Ows h3 3 1 wm i (ns (l.map (·.1))):=m.om;have hbp:∀ y,bk wp y -> ¬ y=b:=fun y hy e=>by have:h.length<=y:=m.fp y hy;omega
     have hbm:∀ y,bk wm y -> ¬ y=b:=fun y hy e=>by have:h.length<=y:=m.fm y hy;omega
     refine XLo_rule (α:=Nat × Option Nat) (fun a=>[(0,.pointer (some ⟨b,0,none⟩)),(1,iv d),(2,iv w),(6,iv x),(7,wp),(8,wm),(12,iv a.1)])
      (fun a h'=>a.1<=x.toNat/\Keep (· = b) h3 h'/\Ro h' b C vi vc vt vp vk a.2/\(∀ p',a.2=some p'->u<=p')/\runs (fun s' p'=>expr C f s' w p') d l u=a.2.bind (runs (fun s' p'=>expr C f s' w p') d (l.drop a.1))) (fun a=>x.toNat-a.1) (0,some u)
      ⟨Z3 _,.refl _ _,ms,fun p' e=>by cases e;exact Nat.le_refl _,rfl⟩ ⟨rfl,rfl,rfl,rfl,rfl,rfl,rfl,trivial⟩ ?_
     rintro ⟨j,o2⟩ g3 Ψ3 ⟨j1,kj,sj,ju,je⟩ next2 out2;simp only at j1 sj ju je
     by_cases hj:(j:Int)<x
     ·cases o2 with
      | none =>
        obtain ⟨p4,s4⟩:=sj;simp only[ZG,↓reduceIte,ZA,ZB,ZC,hj,s4.own.cells.ld,mbl,ZD,ZE,ZF];refine out2 (.exit 3) _ _ _ _ (by intro e;cases e) ?_;simp only[ZG,↓reduceIte,ZA,ZB,ZC,mbl,ZD,ZE,ZF];refine hΨ _ _ (fin_norm ⟨mk.trans kj,rfl,?_⟩);rw[je];exact ⟨p4,s4⟩
      | some p4 =>
        have s4:Rf g3 b C vi vc vt vp vk p4 false:=sj;have hu4:=ju p4 rfl;have hjl:j<l.length:=by omega
        have hlj:l[j]?=some l[j]:=Z2 hjl;have hv:=hvv l[j] (Z8 hjl);have j0:(0:Int)<=(j:Int):=by omega
        obtain ⟨b1,o1',c1,ee1,hl1,ld1⟩:=rds_ix (op0.keep kj hbp).rds j0 (x:=l[j].2) (by rw[Z0,Ze,hlj];rfl);obtain ⟨b2,o2',c2,ee2,hl2,ld2⟩:=rds_ix (om0.keep kj hbm).rds j0 (x:=l[j].1) (by rw[Z0,Ze,hlj];rfl);rw[Z0] at ld1 ld2;rw[Z1,Z7 hjl,runs] at je
        by_cases da:l[j].2=(p4:Int)
        ·have hwd:IntKind.i64.wrap (d+l[j].1)=d+l[j].1:=i64w (by omega) (by omega)
         have hwj:IntKind.i64.wrap ((j:Int)+1)=((j+1:Nat):Int):=by rw[i64w (by omega) (by omega)];omega
         simp only[ZG,↓reduceIte,ZA,ZB,ZC,hj,s4.own.cells.ld,mbl,ZD,ZE,ZF,ee1,ee2,j0,hl1,hl2,and_self,Z4,Z0,ld1,ld2,eq_true da,hwd];refine XX_of (hE g3 p4 (d+l[j].1) (by omega) (by omega) (by omega) sj) (fun res g4 hle4 hn=>?_);obtain ⟨kp4,rfl,s5⟩:=hn;refine .ret ?_;simp only[ZG,↓reduceIte,ZA,ZB,ZC,mbl,ZD,ZE,ZF,hwj];refine next2 (j+1,expr C f (d+l[j].1) w p4) _ _ _ ⟨by omega,kj.trans kp4,s5,fun p' e=>?_,?_⟩ ⟨rfl,rfl,rfl,rfl,?_,?_,rfl,trivial⟩ (by simp only;omega)
         ·have:=expr_on _ _ _ p' e
          omega
         ·rw[je,if_pos da.symm,hwd]
          cases expr C f (d+l[j].1) w p4<;>rfl
         ·rw[ee1];rfl
         ·rw[ee2];rfl
        ·simp only[ZG,↓reduceIte,ZA,ZB,ZC,hj,s4.own.cells.ld,mbl,ZD,ZE,ZF,ee1,ee2,j0,hl1,hl2,and_self,Z4,Z0,ld1,ld2,da]
         refine XH_own s4.own rfl (by simp [Value.cells]) rfl (fun g4 q1 q2 q3=>?_);have o':Own g4 b 119 [vi,vc,vt,vp,iv C.main,vk,iv p4,.bool true]:=by simpa [Value.cells] using q1
         simp only[ZG,↓reduceIte,ZA,ZB,ZC,mbl,ZD,ZE,ZF];refine out2 .ret _ _ _ _ (by intro e;cases e) ?_;simp only[ZG,↓reduceIte,ZA,ZB,ZC,mbl,ZD,ZE,ZF];refine hΨ _ _ (fin_ret (rv0 ⟨(mk.trans kj).trans q2,rfl,?_⟩));rw[je,if_neg (fun e=>da e.symm)];exact ⟨p4,o',s4.im.keep q2 s4.ne,s4.ne,s4.hl,s4.le⟩
     ·simp only[ZG,↓reduceIte,ZA,ZB,ZC,hj]
      refine out2 (.exit 3) _ _ _ _ (by intro e;cases e) ?_;simp only[ZG,↓reduceIte,ZA,ZB,ZC,mbl,ZD,ZE,ZF];refine hΨ _ _ (fin_norm ⟨mk.trans kj,rfl,?_⟩);rw[je,Zb (by omega)];cases o2<;>exact sj
 ·rw[e2] at s2 ⊢
  rw[bind_no (C:=C) (fun p hp=>?_)] at hΨ
  rotate_left
  ·subst hp
   unfold brn;cases h7:exc C 7 p with
   | none=>rfl
   | some p1 =>
     simp only;cases hb:bl C 200000 p1 with
     | none=>rfl
     | some v =>
       simp only;obtain ⟨_,hcd,_,b0,b1⟩:=bl_inv hb;have hnx:nx C p1=some (v.1,p1+1):=by unfold nx;rw[hcd]
       have:=hno p1 v.1 _ h7 hnx;rw[if_neg (by omega)]
  obtain ⟨p2,s3⟩:=s2;have x01:(0:Int)<1:=by omega
  simp only[ZG,↓reduceIte,ZA,ZB,ZC,mbl,ZD,ZE,ZF];refine XLo_rule (α:=Nat) (fun _=>[(0,.pointer (some ⟨b,0,none⟩)),(6,iv 1),(9,iv 0)])
   (fun _ h'=>h'=h2) (fun _=>0) 0 rfl ⟨rfl,rfl,rfl,trivial⟩ ?_
  rintro _ g1 Ψ3 rfl _ out2;simp only[ZG,↓reduceIte,ZA,ZB,ZC,x01,s3.own.cells.ld,mbl,ZD,ZE,ZF];refine out2 (.exit 0) _ _ _ _ (by intro e;cases e) ?_;simp only[ZG,↓reduceIte,ZA,ZB,ZC,mbl,ZD,ZE,ZF];refine XLo_rule (α:=Nat) (fun _=>[(0,.pointer (some ⟨b,0,none⟩)),(6,iv 1),(12,iv 0)])
   (fun _ h'=>h'=g1) (fun _=>0) 0 rfl ⟨rfl,rfl,rfl,trivial⟩ ?_
  rintro _ g1 Ψ3 rfl _ out2;simp only[ZG,↓reduceIte,ZA,ZB,ZC,x01,s3.own.cells.ld,mbl,ZD,ZE,ZF];refine out2 (.exit 3) _ _ _ _ (by intro e;cases e) ?_;simp only[ZG,↓reduceIte,ZA,ZB,ZC,mbl,ZD,ZE,ZF];exact hΨ _ _ (fin_norm ⟨k12,rfl,p2,s3⟩)
end
end Go.S18.V

namespace Go.S18.V
open Go Go.Eng Go.Proofs Go.Chk
section
variable {h:AH} {b:Nat} {C:Cx} {vi vc vt vp vk:Value}
theorem rexpr_none (s:Ro h b C vi vc vt vp vk none) (d w:Int):Gets Try.prog 85 [.pointer (some ⟨b,0,none⟩),iv d,iv w] h (RfO h b C vi vc vt vp vk none):=by
 refine Gets.of (keep:=false) hP (draw_ok hM) k85 (by rfl) (fun Ψ hΨ=>?_);simp only[ZG,↓reduceIte,ZA,ZB,ZC,r85,YE,YC,YO,YA,YL,YX,YS,Ya,Yb,Yl,Yf,Yg,Yi,Ym,Yk,Yt,Yn,Yz,Yp,Yq,Yd];refine XX_of (want_ok s 1 9 (by omega)) (fun res h1 hle hn=>?_);obtain ⟨kp,rfl,s1⟩:=hn;refine .ret ?_;rw[wt_none] at s1 ⊢;obtain ⟨p,s1⟩:=s1;simp only[ZG,↓reduceIte,ZA,ZB,ZC,s1.own.cells.ld,mbl,ZD,ZE,ZF];exact hΨ _ _ (fin_ret (rv0 ⟨kp,rfl,p,s1⟩))
theorem wt_bl1' {n:Int} {q:Nat}:wt C 1 (n-1) (some q)=match bl C n q with
 | some (x,r)=>if 0<x then (x,some r) else (1,none)
 | none=>(1,none):=wt_bl1
set_option maxHeartbeats 2000000 in
theorem rexpr_ok (z:Sz C) (hc:consOk C) (w:Int) (hw : -9000000000000000000<=w) (hw2:w<=9223372036854775807):∀ (f:Nat) (h:AH) (p:Nat) (d:Int),C.code.length-p<f->0<=d->d<=8+8*(p:Int)->Ro h b C vi vc vt vp vk (some p) ->
 Gets Try.prog 85 [.pointer (some ⟨b,0,none⟩),iv d,iv w] h (RfO h b C vi vc vt vp vk (expr C f d w p)):=by
 intro f
 induction f with
 | zero=>intro h p d hf;omega
 | succ f ih =>
   intro h p d hf hd0 hdp s;refine Gets.of (keep:=false) hP (draw_ok hM) k85 (by rfl) (fun Ψ hΨ=>?_);have s0:Rf h b C vi vc vt vp vk p false:=s;have hl:=s0.hl;have hpl:=s0.le;have hd : -9000000000000000000<=d:=by omega
   have hd2:d<=9223372036854775807:=by omega
   obtain ⟨ta,tc,hvt⟩:=s0.im.rt;simp only[ZG,↓reduceIte,ZA,ZB,ZC,r85,YE,YC,YO,YA,YL,YX,YS,Ya,Yb,Yl,Yf,Yg,Yi,Ym,Yk,Yt,Yn,Yz,Yp,Yq,Yd];refine XX_of (want_ok s 1 9 (by omega)) (fun res h1 hle hn=>?_);obtain ⟨kp,rfl,s1⟩:=hn;refine .ret ?_
   rcases wt_cases C 1 9 (some p) with ⟨p',x,q,eo,e1,x0,x9,e2⟩|⟨e2,hno⟩
   ·cases eo
    have g1:=nx_on e1;rw[e2] at s1 ⊢;have s1r:Rf h1 b C vi vc vt vp vk q false:=s1;have s1':Ro h1 b C vi vc vt vp vk (some q):=s1
    by_cases d1:x=1
    ·simp only[ZG,↓reduceIte,ZA,ZB,ZC,s1r.own.cells.ld,mbl,ZD,ZE,ZF,eq_true d1]
     refine XX_of (roperand_ok s1' z d w hd hd2 hw hw2) (fun res h9 hle9 hn=>?_);obtain ⟨kp9,rfl,s9⟩:=hn;refine .ret ?_;simp only[ZG,↓reduceIte,ZA,ZB,ZC,mbl,ZD,ZE,ZF];refine hΨ _ _ (fin_norm ⟨kp.trans kp9,rfl,?_⟩);rw[show expr C (f+1) d w p=(some q).bind (oprnd C d w) by simp [expr,e1,d1]];exact s9
    by_cases d2:x=2
    ·simp only[ZG,↓reduceIte,ZA,ZB,ZC,s1r.own.cells.ld,mbl,ZD,ZE,ZF,d1,eq_true d2]
     refine XX_of (want_ok s1' 1 8 (by omega)) (fun res h2 hle2 hn=>?_);obtain ⟨kp2,rfl,s2⟩:=hn;refine .ret ?_;have ew:wt C 1 8 (some q)=_:=wt_bl1' (n:=9);cases hb:bl C 9 q with
     | none =>
       rw[hb] at ew;simp only at ew;rw[ew] at s2 ⊢;simp only[ZG,↓reduceIte,ZA,ZB,ZC,mbl,ZD,ZE,ZF,show IntKind.i64.wrap ((1:Int)+1)=2 from rfl];refine XX_of (roperands_ok s2 z 2 d w hd hd2 hw hw2) (fun res h9 hle9 hn=>?_);obtain ⟨kp9,rfl,s9⟩:=hn;refine .ret ?_;simp only[ZG,↓reduceIte,ZA,ZB,ZC,mbl,ZD,ZE,ZF];refine hΨ _ _ (fin_norm ⟨(kp.trans kp2).trans kp9,rfl,?_⟩);rw[show expr C (f+1) d w p=(none:Option Nat).bind (oprnds C d w 2) by simp [expr,e1,d1,d2,hb]];exact s9
     | some v =>
       obtain ⟨n,r⟩:=v;rw[hb] at ew;simp only at ew
       by_cases n0:0<n
       ·rw[if_pos n0] at ew
        rw[ew] at s2 ⊢;have hb5:=bl_inv hb;simp only[ZG,↓reduceIte,ZA,ZB,ZC,mbl,ZD,ZE,ZF,show IntKind.i64.wrap (n+1)=n+1 from i64w (by omega) (by omega)];refine XX_of (roperands_ok s2 z (n+1) d w hd hd2 hw hw2) (fun res h9 hle9 hn=>?_);obtain ⟨kp9,rfl,s9⟩:=hn;refine .ret ?_;simp only[ZG,↓reduceIte,ZA,ZB,ZC,mbl,ZD,ZE,ZF];refine hΨ _ _ (fin_norm ⟨(kp.trans kp2).trans kp9,rfl,?_⟩);rw[show expr C (f+1) d w p=(some r).bind (oprnds C d w (n+1).toNat) by simp [expr,e1,d1,d2,hb,n0]];exact s9
       ·rw[if_neg n0] at ew
        rw[ew] at s2 ⊢;simp only[ZG,↓reduceIte,ZA,ZB,ZC,mbl,ZD,ZE,ZF,show IntKind.i64.wrap ((1:Int)+1)=2 from rfl];refine XX_of (roperands_ok s2 z 2 d w hd hd2 hw hw2) (fun res h9 hle9 hn=>?_);obtain ⟨kp9,rfl,s9⟩:=hn;refine .ret ?_;simp only[ZG,↓reduceIte,ZA,ZB,ZC,mbl,ZD,ZE,ZF];refine hΨ _ _ (fin_norm ⟨(kp.trans kp2).trans kp9,rfl,?_⟩);rw[show expr C (f+1) d w p=(none:Option Nat).bind (oprnds C d w 2) by simp [expr,e1,d1,d2,hb,n0]];exact s9
    by_cases d3:x=3
    ·simp only[ZG,↓reduceIte,ZA,ZB,ZC,s1r.own.cells.ld,mbl,ZD,ZE,ZF,d1,d2,eq_true d3]
     refine XX_of (rfields_ok s1' z hc d w hd hd2 hw hw2) (fun res h9 hle9 hn=>?_);obtain ⟨kp9,rfl,s9⟩:=hn;refine .ret ?_;simp only[ZG,↓reduceIte,ZA,ZB,ZC,mbl,ZD,ZE,ZF];refine hΨ _ _ (fin_norm ⟨kp.trans kp9,rfl,?_⟩);rw[show expr C (f+1) d w p=(some q).bind (flds C d w) by simp [expr,e1,d1,d2,d3]];exact s9
    by_cases d4:x=4
    ·simp only[ZG,↓reduceIte,ZA,ZB,ZC,s1r.own.cells.ld,mbl,ZD,ZE,ZF,d1,d2,d3,eq_true d4]
     refine XX_of (want_ok s1' 1 13 (by omega)) (fun res h2 hle2 hn=>?_);obtain ⟨kp2,rfl,s2⟩:=hn;refine .ret ?_;have ew:wt C 1 13 (some q)=_:=wt_bl1' (n:=14);cases hb:bl C 14 q with
     | none =>
       rw[hb] at ew;simp only at ew;rw[ew] at s2 ⊢;simp only[ZG,↓reduceIte,ZA,ZB,ZC,mbl,ZD,ZE,ZF,show ¬ (1:Int)=12 by omega,show ¬ (1:Int)=13 by omega];refine XX_of (want_ok s2 2 2 (by omega)) (fun res h3 hle3 hn=>?_);obtain ⟨kp3,rfl,s3⟩:=hn;refine .ret ?_;rw[wt_exc'] at s3;simp only at s3;simp only[ZG,↓reduceIte,ZA,ZB,ZC,mbl,ZD,ZE,ZF];refine XX_of (roperands_ok s3 z 2 d w hd hd2 hw hw2) (fun res h9 hle9 hn=>?_);obtain ⟨kp9,rfl,s9⟩:=hn;refine .ret ?_;simp only[ZG,↓reduceIte,ZA,ZB,ZC,mbl,ZD,ZE,ZF];refine hΨ _ _ (fin_norm ⟨((kp.trans kp2).trans kp3).trans kp9,rfl,?_⟩);rw[show expr C (f+1) d w p=((none:Option Nat).bind (exc C 2)).bind (oprnds C d w 2) by simp [expr,e1,d1,d2,d3,d4,hb]];exact s9
     | some v =>
       obtain ⟨n,r⟩:=v;rw[hb] at ew;simp only at ew
       by_cases n0:0<n
       ·have n1:1<=n:=by omega
        rw[if_pos n0] at ew;rw[ew] at s2 ⊢;have ee:expr C (f+1) d w p=((some r).bind (exc C (arg1 n))).bind (oprnds C d w (arg1 n).toNat):=by
         simp only[expr,e1,d1,d2,d3,if_true,if_false,d4,hb,n1,Z1,show ¬ (4:Int)=1 by omega,show ¬ (4:Int)=2 by omega,show ¬ (4:Int)=3 by omega];cases exc C (arg1 n) r<;>rfl
        by_cases a12:n=12
        ·simp only[ZG,↓reduceIte,ZA,ZB,ZC,mbl,ZD,ZE,ZF,eq_true a12]
         refine XX_of (want_ok s2 1 1 (by omega)) (fun res h3 hle3 hn=>?_);obtain ⟨kp3,rfl,s3⟩:=hn;refine .ret ?_;rw[wt_exc'] at s3;simp only at s3;simp only[ZG,↓reduceIte,ZA,ZB,ZC,mbl,ZD,ZE,ZF];refine XX_of (roperands_ok s3 z 1 d w hd hd2 hw hw2) (fun res h9 hle9 hn=>?_);obtain ⟨kp9,rfl,s9⟩:=hn;refine .ret ?_;simp only[ZG,↓reduceIte,ZA,ZB,ZC,mbl,ZD,ZE,ZF];refine hΨ _ _ (fin_norm ⟨((kp.trans kp2).trans kp3).trans kp9,rfl,?_⟩);rw[ee,show arg1 n=1 by simp [arg1,a12]];exact s9
        ·by_cases a13:n=13
         ·simp only[ZG,↓reduceIte,ZA,ZB,ZC,mbl,ZD,ZE,ZF,a12,eq_true a13]
          refine XX_of (want_ok s2 1 1 (by omega)) (fun res h3 hle3 hn=>?_);obtain ⟨kp3,rfl,s3⟩:=hn;refine .ret ?_;rw[wt_exc'] at s3;simp only at s3;simp only[ZG,↓reduceIte,ZA,ZB,ZC,mbl,ZD,ZE,ZF];refine XX_of (roperands_ok s3 z 1 d w hd hd2 hw hw2) (fun res h9 hle9 hn=>?_);obtain ⟨kp9,rfl,s9⟩:=hn;refine .ret ?_;simp only[ZG,↓reduceIte,ZA,ZB,ZC,mbl,ZD,ZE,ZF];refine hΨ _ _ (fin_norm ⟨((kp.trans kp2).trans kp3).trans kp9,rfl,?_⟩);rw[ee,show arg1 n=1 by simp [arg1,a13]];exact s9
         ·simp only[ZG,↓reduceIte,ZA,ZB,ZC,mbl,ZD,ZE,ZF,a12,a13]
          refine XX_of (want_ok s2 2 2 (by omega)) (fun res h3 hle3 hn=>?_);obtain ⟨kp3,rfl,s3⟩:=hn;refine .ret ?_;rw[wt_exc'] at s3;simp only at s3;simp only[ZG,↓reduceIte,ZA,ZB,ZC,mbl,ZD,ZE,ZF];refine XX_of (roperands_ok s3 z 2 d w hd hd2 hw hw2) (fun res h9 hle9 hn=>?_);obtain ⟨kp9,rfl,s9⟩:=hn;refine .ret ?_;simp only[ZG,↓reduceIte,ZA,ZB,ZC,mbl,ZD,ZE,ZF];refine hΨ _ _ (fin_norm ⟨((kp.trans kp2).trans kp3).trans kp9,rfl,?_⟩);rw[ee,show arg1 n=2 by simp [arg1,a12,a13]];exact s9
       ·rw[if_neg n0] at ew
        rw[ew] at s2 ⊢;have n1:¬ 1<=n:=by omega
        simp only[ZG,↓reduceIte,ZA,ZB,ZC,mbl,ZD,ZE,ZF,show ¬ (1:Int)=12 by omega,show ¬ (1:Int)=13 by omega];refine XX_of (want_ok s2 2 2 (by omega)) (fun res h3 hle3 hn=>?_);obtain ⟨kp3,rfl,s3⟩:=hn;refine .ret ?_;rw[wt_exc'] at s3;simp only at s3;simp only[ZG,↓reduceIte,ZA,ZB,ZC,mbl,ZD,ZE,ZF];refine XX_of (roperands_ok s3 z 2 d w hd hd2 hw hw2) (fun res h9 hle9 hn=>?_);obtain ⟨kp9,rfl,s9⟩:=hn;refine .ret ?_;simp only[ZG,↓reduceIte,ZA,ZB,ZC,mbl,ZD,ZE,ZF];refine hΨ _ _ (fin_norm ⟨((kp.trans kp2).trans kp3).trans kp9,rfl,?_⟩);rw[show expr C (f+1) d w p=((none:Option Nat).bind (exc C 2)).bind (oprnds C d w 2) by simp [expr,e1,d1,d2,d3,d4,hb,n1]];exact s9
    by_cases d5:x=5
    ·simp only[ZG,↓reduceIte,ZA,ZB,ZC,s1r.own.cells.ld,mbl,ZD,ZE,ZF,d1,d2,d3,d4,eq_true d5]
     refine XX_of (want_ok s1' 1 200000 (by omega)) (fun res h2 hle2 hn=>?_);obtain ⟨kp2,rfl,s2⟩:=hn;refine .ret ?_;have k12:=kp.trans kp2
     rcases wt_cases C 1 200000 (some q) with ⟨q',n,r,eo,en,n0,n9,ew⟩|⟨ew,hnn⟩
     ·cases eo
      have g2:=nx_on en;rw[ew] at s2 ⊢;have hdn:IntKind.i64.wrap (d+n)=d+n:=i64w (by omega) (by omega);simp only[ZG,↓reduceIte,ZA,ZB,ZC,mbl,ZD,ZE,ZF];refine XLo_rule (α:=Nat × Option Nat) (fun a=>[(0,.pointer (some ⟨b,0,none⟩)),(1,iv d),(2,iv w),(10,iv n),(11,iv a.1)])
       (fun a h'=>a.1<=n.toNat/\Keep (· = b) h2 h'/\Ro h' b C vi vc vt vp vk a.2/\(∀ t,a.2=some t->a.1<=t)/\things C (d+n) w n.toNat r=a.2.bind (things C (d+n) w (n.toNat-a.1))) (fun a=>n.toNat-a.1) (0,some r)
       ⟨Z3 _,.refl _ _,s2,fun t _=>Z3 _,rfl⟩ ⟨rfl,rfl,rfl,rfl,rfl,trivial⟩ ?_
      rintro ⟨i,o1⟩ h3 Ψ2 ⟨i1,k3,s3,i3,ie⟩ next out
      simp only at i1 s3 i3 ie
      by_cases hi:(i:Int)<n
      ·cases o1 with
       | none =>
         obtain ⟨p3,s3⟩:=s3;simp only[ZG,↓reduceIte,ZA,ZB,ZC,hi,s3.own.cells.ld,mbl,ZD,ZE,ZF];refine out (.exit 1) _ _ _ _ (by intro e;cases e) ?_;simp only[ZG,↓reduceIte,ZA,ZB,ZC,mbl,ZD,ZE,ZF,hdn];refine XX_of (rexpr_none ⟨p3,s3⟩ (d+n) w) (fun res h9 hle9 hn=>?_);obtain ⟨kp9,rfl,s9⟩:=hn;refine .ret ?_;simp only[ZG,↓reduceIte,ZA,ZB,ZC,mbl,ZD,ZE,ZF];refine hΨ _ _ (fin_norm ⟨(k12.trans k3).trans kp9,rfl,?_⟩);rw[show expr C (f+1) d w p=none by
          simp only[expr,e1];rw[if_neg d1,if_neg d2,if_neg d3,if_neg d4,if_pos d5];cases hb:bl C 200000 q with
          | none=>rfl
          | some v =>
            obtain ⟨v1,v2⟩:=v;obtain ⟨hv2,hcd,_,_,_⟩:=bl_inv hb;have hnx:nx C q=some (v1,q+1):=by unfold nx;rw[hcd]
            rw[en] at hnx;simp only[Z5.injEq,Prod.mk.injEq] at hnx;obtain ⟨hx1,hq1⟩:=hnx;rw[hv2,<- hx1,<- hq1];simp only;rw[if_pos (by omega),hdn,ie]
            rfl]
         exact s9
       | some p3 =>
         have s3r:Rf h3 b C vi vc vt vp vk p3 false:=s3;have i4:=i3 p3 rfl;have:=s3r.le;have hwi:IntKind.i64.wrap ((i:Int)+1)=((i+1:Nat):Int):=by rw[i64w (by omega) (by omega)];omega
         simp only[ZG,↓reduceIte,ZA,ZB,ZC,hi,s3r.own.cells.ld,mbl,ZD,ZE,ZF,hdn];refine XX_of (rthing_ok s3 z hc (d+n) w (by omega) (by omega) hw hw2) (fun res h4 hle4 hn=>?_);obtain ⟨kp4,rfl,s4⟩:=hn;refine .ret ?_;simp only[ZG,↓reduceIte,ZA,ZB,ZC,mbl,ZD,ZE,ZF,hwi];refine next (i+1,thing C (d+n) w p3) _ _ _ ⟨by omega,k3.trans kp4,s4,fun t e=>?_,?_⟩ ⟨rfl,rfl,rfl,rfl,rfl,trivial⟩ (by simp only;omega)
         ·have:=thing_on t e
          simp only;omega
         ·rw[ie,Z1,show n.toNat-i=(n.toNat-(i+1))+1 by omega,things]
          cases thing C (d+n) w p3<;>rfl
      ·have hi0:n.toNat-i=0:=by omega
       rw[hi0] at ie;simp only[ZG,↓reduceIte,ZA,ZB,ZC,hi];refine out (.exit 1) _ _ _ _ (by intro e;cases e) ?_;simp only[ZG,↓reduceIte,ZA,ZB,ZC,mbl,ZD,ZE,ZF,hdn];cases o1 with
       | none =>
         obtain ⟨p3,s3⟩:=s3;refine XX_of (rexpr_none ⟨p3,s3⟩ (d+n) w) (fun res h9 hle9 hn=>?_);obtain ⟨kp9,rfl,s9⟩:=hn;refine .ret ?_;simp only[ZG,↓reduceIte,ZA,ZB,ZC,mbl,ZD,ZE,ZF];refine hΨ _ _ (fin_norm ⟨(k12.trans k3).trans kp9,rfl,?_⟩);rw[show expr C (f+1) d w p=none by
          simp only[expr,e1];rw[if_neg d1,if_neg d2,if_neg d3,if_neg d4,if_pos d5];cases hb:bl C 200000 q with
          | none=>rfl
          | some v =>
            obtain ⟨v1,v2⟩:=v;obtain ⟨hv2,hcd,_,_,_⟩:=bl_inv hb;have hnx:nx C q=some (v1,q+1):=by unfold nx;rw[hcd]
            rw[en] at hnx;simp only[Z5.injEq,Prod.mk.injEq] at hnx;obtain ⟨hx1,hq1⟩:=hnx;rw[hv2,<- hx1,<- hq1];simp only;rw[if_pos (by omega),hdn,ie]
            rfl]
         exact s9
       | some t =>
         have ie:things C (d+n) w n.toNat r=some t:=ie;have hlong:=things_long _ ie;have s3r:Rf h3 b C vi vc vt vp vk t false:=s3;have:=s3r.le;have hbl:bl C 200000 q=some (n,r):=by unfold bl;rw[en];simp only;rw[if_pos (by omega)]
         refine XX_of (ih h3 t (d+n) (by omega) (by omega) (by omega) s3) (fun res h9 hle9 hn=>?_);obtain ⟨kp9,rfl,s9⟩:=hn;refine .ret ?_;simp only[ZG,↓reduceIte,ZA,ZB,ZC,mbl,ZD,ZE,ZF];refine hΨ _ _ (fin_norm ⟨(k12.trans k3).trans kp9,rfl,?_⟩);rw[show expr C (f+1) d w p=expr C f (d+n) w t by simp only[expr,e1];rw[if_neg d1,if_neg d2,if_neg d3,if_neg d4,if_pos d5,hbl];simp only;rw[if_pos (by omega),hdn,ie]];exact s9
     ·rw[ew] at s2 ⊢
      obtain ⟨p3,s3⟩:=s2;have hd1:IntKind.i64.wrap (d+1)=d+1:=i64w (by omega) (by omega);simp only[ZG,↓reduceIte,ZA,ZB,ZC,mbl,ZD,ZE,ZF];refine XLo_rule (α:=Nat) (fun _=>[(0,.pointer (some ⟨b,0,none⟩)),(1,iv d),(2,iv w),(10,iv 1),(11,iv 0)])
       (fun _ h'=>h'=h2) (fun _=>0) 0 rfl ⟨rfl,rfl,rfl,rfl,rfl,trivial⟩ ?_
      rintro _ g1 Ψ3 rfl _ out2;have x01:(0:Int)<1:=by omega
      simp only[ZG,↓reduceIte,ZA,ZB,ZC,x01,s3.own.cells.ld,mbl,ZD,ZE,ZF];refine out2 (.exit 1) _ _ _ _ (by intro e;cases e) ?_;simp only[ZG,↓reduceIte,ZA,ZB,ZC,mbl,ZD,ZE,ZF,hd1];refine XX_of (rexpr_none ⟨p3,s3⟩ (d+1) w) (fun res h9 hle9 hn=>?_);obtain ⟨kp9,rfl,s9⟩:=hn;refine .ret ?_;simp only[ZG,↓reduceIte,ZA,ZB,ZC,mbl,ZD,ZE,ZF];refine hΨ _ _ (fin_norm ⟨k12.trans kp9,rfl,?_⟩);rw[show expr C (f+1) d w p=none by
       simp only[expr,e1];rw[if_neg d1,if_neg d2,if_neg d3,if_neg d4,if_pos d5];cases hb:bl C 200000 q with
       | none=>rfl
       | some v =>
         obtain ⟨v1,v2⟩:=v;obtain ⟨hv2,hcd,_,b0,b1⟩:=bl_inv hb;have hnx:nx C q=some (v1,q+1):=by unfold nx;rw[hcd]
         have:=hnn q v1 _ rfl hnx;simp only;rw[if_neg (by omega)]]
      exact s9
    by_cases d6:x=6
    ·simp only[ZG,↓reduceIte,ZA,ZB,ZC,s1r.own.cells.ld,mbl,ZD,ZE,ZF,d1,d2,d3,d4,d5,eq_true d6]
     refine XX_of (rnext_ok s1') (fun res h2 hle2 hn=>?_);obtain ⟨kp2,rfl,s2⟩:=hn;refine .ret ?_;have k12:=kp.trans kp2;have hE:∀ (h2:AH) (q:Nat) (d2:Int),C.code.length-q<f->0<=d2->d2<=8+8*(q:Int)->Ro h2 b C vi vc vt vp vk (some q)->Gets Try.prog 85 [.pointer (some ⟨b,0,none⟩),iv d2,iv w] h2 (RfO h2 b C vi vc vt vp vk (expr C f d2 w q)):=fun h2 q d2 a1 a2 a3 a4=>ih h2 q d2 a1 a2 a3 a4
     cases hx:nx C q with
     | none =>
       have en:Chk.nt C (some q)=(0,none):=by simp only[Chk.nt,hx]
       rw[en] at s2 ⊢;have ee:expr C (f+1) d w p=none:=by simp only[expr,e1];rw[if_neg d1,if_neg d2,if_neg d3,if_neg d4,if_neg d5,if_pos d6,hx]
       simp only[ZG,↓reduceIte,ZA,ZB,ZC,mbl,ZD,ZE,ZF];refine XX_of (rexpr_none s2 d w) (fun res h5 hle5 hn=>?_);obtain ⟨kp5,rfl,s5⟩:=hn;refine .ret ?_;obtain ⟨p5,s5⟩:=s5
       by_cases da:(p5:Int)=0
       ·simp only[ZG,↓reduceIte,ZA,ZB,ZC,s5.own.cells.ld,mbl,ZD,ZE,ZF,eq_true da]
        refine XX_of (rcases_ok (f:=f) (o:=none) ⟨p5,s5⟩ z hc d w hd0 (fun p e=>by cases e) hE) (fun res h9 hle9 hn=>?_);obtain ⟨kp9,rfl,s9⟩:=hn;refine .ret ?_;simp only[ZG,↓reduceIte,ZA,ZB,ZC,mbl,ZD,ZE,ZF];refine hΨ _ _ (fin_norm ⟨(k12.trans kp5).trans kp9,rfl,?_⟩);rw[ee];exact s9
       ·simp only[ZG,↓reduceIte,ZA,ZB,ZC,s5.own.cells.ld,mbl,ZD,ZE,ZF,da]
        refine XH_own s5.own rfl (by simp [Value.cells]) rfl (fun h4 q1 q2 q3=>?_);have o':Own h4 b 119 [vi,vc,vt,vp,iv C.main,vk,iv p5,.bool true]:=by simpa [Value.cells] using q1
        simp only[ZG,↓reduceIte,ZA,ZB,ZC,mbl,ZD,ZE,ZF];refine hΨ _ _ (fin_ret (rv0 ⟨(k12.trans kp5).trans q2,rfl,?_⟩));rw[ee];exact ⟨p5,o',s5.im.keep q2 s5.ne,s5.ne,s5.hl,s5.le⟩
     | some v =>
       obtain ⟨a,r⟩:=v;have g2:=nx_on hx;have en:Chk.nt C (some q)=(a,some r):=by simp only[Chk.nt,hx]
       rw[en] at s2 ⊢;simp only[ZG,↓reduceIte,ZA,ZB,ZC,mbl,ZD,ZE,ZF];refine XX_of (ih h2 r d (by omega) hd0 (by omega) s2) (fun res h5 hle5 hn=>?_);obtain ⟨kp5,rfl,s5⟩:=hn;refine .ret ?_;cases he:expr C f d w r with
       | none =>
         have ee:expr C (f+1) d w p=none:=by simp only[expr,e1];rw[if_neg d1,if_neg d2,if_neg d3,if_neg d4,if_neg d5,if_pos d6,hx];simp only;rw[he]
         rw[he] at s5;obtain ⟨p5,s5⟩:=s5
         by_cases da:(p5:Int)=a
         ·simp only[ZG,↓reduceIte,ZA,ZB,ZC,s5.own.cells.ld,mbl,ZD,ZE,ZF,eq_true da]
          refine XX_of (rcases_ok (f:=f) (o:=none) ⟨p5,s5⟩ z hc d w hd0 (fun p e=>by cases e) hE) (fun res h9 hle9 hn=>?_);obtain ⟨kp9,rfl,s9⟩:=hn;refine .ret ?_;simp only[ZG,↓reduceIte,ZA,ZB,ZC,mbl,ZD,ZE,ZF];refine hΨ _ _ (fin_norm ⟨(k12.trans kp5).trans kp9,rfl,?_⟩);rw[ee];exact s9
         ·simp only[ZG,↓reduceIte,ZA,ZB,ZC,s5.own.cells.ld,mbl,ZD,ZE,ZF,da]
          refine XH_own s5.own rfl (by simp [Value.cells]) rfl (fun h4 q1 q2 q3=>?_);have o':Own h4 b 119 [vi,vc,vt,vp,iv C.main,vk,iv p5,.bool true]:=by simpa [Value.cells] using q1
          simp only[ZG,↓reduceIte,ZA,ZB,ZC,mbl,ZD,ZE,ZF];refine hΨ _ _ (fin_ret (rv0 ⟨(k12.trans kp5).trans q2,rfl,?_⟩));rw[ee];exact ⟨p5,o',s5.im.keep q2 s5.ne,s5.ne,s5.hl,s5.le⟩
       | some t =>
         have gt:=expr_on _ _ _ t he;have ee:expr C (f+1) d w p=if (t:Int)=a then brn C (fun s' p'=>expr C f s' w p') d t else none:=by simp only[expr,e1];rw[if_neg d1,if_neg d2,if_neg d3,if_neg d4,if_neg d5,if_pos d6,hx];simp only;rw[he]
         rw[he] at s5;have s5r:Rf h5 b C vi vc vt vp vk t false:=s5
         by_cases da:(t:Int)=a
         ·simp only[ZG,↓reduceIte,ZA,ZB,ZC,s5r.own.cells.ld,mbl,ZD,ZE,ZF,eq_true da]
          refine XX_of (rcases_ok (f:=f) s5 z hc d w hd0 (fun p e=>by cases e;omega) hE) (fun res h9 hle9 hn=>?_);obtain ⟨kp9,rfl,s9⟩:=hn;refine .ret ?_;simp only[ZG,↓reduceIte,ZA,ZB,ZC,mbl,ZD,ZE,ZF];refine hΨ _ _ (fin_norm ⟨(k12.trans kp5).trans kp9,rfl,?_⟩);rw[ee,if_pos da];exact s9
         ·simp only[ZG,↓reduceIte,ZA,ZB,ZC,s5r.own.cells.ld,mbl,ZD,ZE,ZF,da]
          refine XH_own s5r.own rfl (by simp [Value.cells]) rfl (fun h4 q1 q2 q3=>?_);have o':Own h4 b 119 [vi,vc,vt,vp,iv C.main,vk,iv t,.bool true]:=by simpa [Value.cells] using q1
          simp only[ZG,↓reduceIte,ZA,ZB,ZC,mbl,ZD,ZE,ZF];refine hΨ _ _ (fin_ret (rv0 ⟨(k12.trans kp5).trans q2,rfl,?_⟩));rw[ee,if_neg da];exact ⟨t,o',s5r.im.keep q2 s5r.ne,s5r.ne,s5r.hl,s5r.le⟩
    by_cases d8:x=8
    ·simp only[ZG,↓reduceIte,ZA,ZB,ZC,s1r.own.cells.ld,mbl,ZD,ZE,ZF,d1,d2,d3,d4,d5,d6,eq_true d8]
     refine XX_of (want_ok s1' 0 1 (by omega)) (fun res h2 hle2 hn=>?_);obtain ⟨kp2,rfl,s2⟩:=hn;refine .ret ?_;have ew:wt C 0 1 (some q)=_:=wt_bl (n:=2);cases hb:bl C 2 q with
     | none =>
       rw[hb] at ew;simp only at ew;rw[ew] at s2 ⊢;simp only[ZG,↓reduceIte,ZA,ZB,ZC,mbl,ZD,ZE,ZF];refine XX_of (roperands_ok s2 z 0 d w hd hd2 hw hw2) (fun res h9 hle9 hn=>?_);obtain ⟨kp9,rfl,s9⟩:=hn;refine .ret ?_;simp only[ZG,↓reduceIte,ZA,ZB,ZC,mbl,ZD,ZE,ZF];refine hΨ _ _ (fin_norm ⟨(kp.trans kp2).trans kp9,rfl,?_⟩);rw[show expr C (f+1) d w p=(none:Option Nat).bind (oprnds C d w 0) by simp [expr,e1,d1,d2,d3,d4,d5,d6,d8,hb]];exact s9
     | some v =>
       obtain ⟨n,r⟩:=v;rw[hb] at ew;simp only at ew;rw[ew] at s2 ⊢;simp only[ZG,↓reduceIte,ZA,ZB,ZC,mbl,ZD,ZE,ZF];refine XX_of (roperands_ok s2 z n d w hd hd2 hw hw2) (fun res h9 hle9 hn=>?_);obtain ⟨kp9,rfl,s9⟩:=hn;refine .ret ?_;simp only[ZG,↓reduceIte,ZA,ZB,ZC,mbl,ZD,ZE,ZF];refine hΨ _ _ (fin_norm ⟨(kp.trans kp2).trans kp9,rfl,?_⟩);rw[show expr C (f+1) d w p=(some r).bind (oprnds C d w n.toNat) by simp [expr,e1,d1,d2,d3,d4,d5,d6,d8,hb]];exact s9
    by_cases d9:x=9
    ·simp only[ZG,↓reduceIte,ZA,ZB,ZC,s1r.own.cells.ld,mbl,ZD,ZE,ZF,d1,d2,d3,d4,d5,d6,d8,eq_true d9,hvt,lenw z.nt]
     refine XX_of (want_ok s1' 0 _ (Z6 _)) (fun res h9 hle9 hn=>?_);obtain ⟨kp9,rfl,s9⟩:=hn;refine .ret ?_;simp only[ZG,↓reduceIte,ZA,ZB,ZC,mbl,ZD,ZE,ZF];refine hΨ _ _ (fin_norm ⟨kp.trans kp9,rfl,?_⟩);rw[wt_bl2,Z1] at s9;rw[show expr C (f+1) d w p=sn (bl C C.nt q) by simp [expr,e1,d1,d2,d3,d4,d5,d6,d8,d9]];exact s9
    ·simp only[ZG,↓reduceIte,ZA,ZB,ZC,s1r.own.cells.ld,mbl,ZD,ZE,ZF,d1,d2,d3,d4,d5,d6,d8,d9]
     refine XH_own s1r.own rfl (by simp [Value.cells]) rfl (fun h4 q1 q2 q3=>?_);have o':Own h4 b 119 [vi,vc,vt,vp,iv C.main,vk,iv q,.bool true]:=by simpa [Value.cells] using q1
     simp only[ZG,↓reduceIte,ZA,ZB,ZC,mbl,ZD,ZE,ZF];refine hΨ _ _ (fin_norm ⟨kp.trans q2,rfl,?_⟩);rw[show expr C (f+1) d w p=none by simp [expr,e1,d1,d2,d3,d4,d5,d6,d8,d9]];exact ⟨q,o',s1r.im.keep q2 s1r.ne,s1r.ne,s1r.hl,s1r.le⟩
   ·rw[e2] at s1 ⊢
    rw[show expr C (f+1) d w p=none by
     unfold expr;cases hn:nx C p with
     | none=>rfl
     | some v =>
       have:=hno p v.1 v.2 rfl hn;simp only;rw[if_neg (by omega),if_neg (by omega),if_neg (by omega),if_neg (by omega),if_neg (by omega),if_neg (by omega),if_neg (by omega),if_neg (by omega)]] at hΨ
    obtain ⟨p,s1⟩:=s1;simp only[ZG,↓reduceIte,ZA,ZB,ZC,s1.own.cells.ld,mbl,ZD,ZE,ZF];exact hΨ _ _ (fin_ret (rv0 ⟨kp,rfl,p,s1⟩))
end
end Go.S18.V

namespace Go.S18.V
open Go Go.Eng Go.Proofs Go.Chk
def EndF (h:AH) (C:Cx) (res:Res) (h':AH):Prop:=Keep (fun _=>False) h h' /\ ∃ v,res = .ret (.tuple #[v,.bool (ends C).isSome]) /\ ∀ l,ends C=some l->Ows h' 3 1 v l.length (ns (l.map Int.ofNat)) /\ ∀ q,bk v q->h.length<=q
structure Mi (h:AH) (C:Cx) (vi vc vt vp vk:Value) (bI bR:Nat) (a:Nat × Nat × Value × List Nat) (h':AH):Prop where
 i1:a.1<=C.infos.length
 s:Rf h' bR C vi vc vt vp vk a.2.1 false
 oI:Own h' bI 27 [vi,vc,vt,vp,iv C.main,vk]
 ow:Ows h' 3 1 a.2.2.1 a.1 (ns (a.2.2.2.map Int.ofNat))
 fr:∀ q,bk a.2.2.1 q->bR<q
 ln:a.2.2.2.length=a.1
 kp:Keep (fun _=>False) h h'
 bl:a.1<=a.2.1
 eq:∀ x,blocks C (C.code.length+1) (C.infos.drop a.1) a.2.1=x->blocks C (C.code.length+1) C.infos 0=(match x with
  | some (e,r)=>some (a.2.2.2++e,r)
  | none=>none)
section
variable {h:AH} {C:Cx} {vi vc vt vp vk:Value}
set_option maxHeartbeats 4000000 in
theorem rends_ok (im:Img h C vi vc vt vp vk) (z:Sz C) (hfr:∀ x∈C.infos,x.f<=9223372036854775807) (hcl:C.code.length<=9223372036854775807):Gets Try.prog 73 [.agg #[vi,vc,vt,vp,iv C.main,vk]] h (EndF h C):=by
 refine Gets.of (keep:=false) hP (draw_ok hM) k73 (by rfl) (fun Ψ hΨ=>?_);obtain ⟨ia,ic,hvi⟩:=row_shape im.ri;obtain ⟨ca,cc,hvc⟩:=row_shape im.rc;obtain ⟨pa,pc,hvp⟩:=row_shape im.rp;obtain ⟨ka,kc,hvk⟩:=row_shape im.rk;have z1:=z.tops;have z2:=z.cons;have z3:=z.infos;have oI0:=Own.new h 27 h.length [vi,vc,vt,vp,iv C.main,vk];have kp1:Keep (fun _=>False) h (h++[row 27 h.length [vi,vc,vt,vp,iv C.main,vk]]):=Keep.push _ _ _;simp only[ZG,↓reduceIte,ZA,ZB,ZC,r73,YE,YC,YO,YA,YL,YX,YS,Ya,Yb,Yl,Yf,Yg,Yi,Ym,Yk,Yt,Yn,Yz,Yp,Yq,Yd,mbl,ZD,ZE,ZF];generalize hh1:h++[row 27 h.length [vi,vc,vt,vp,iv C.main,vk]]=h1 at oI0 kp1 ⊢;have hl1:h1.length=h.length+1:=by rw[<- hh1];simp
 have im1:=im.keep kp1 (fun _ _ e=>e);have lt1:((1:Nat):Int)=1:=rfl
 by_cases c1:(C.tops.length:Int)<1
 ·simp only[ZG,↓reduceIte,ZA,ZB,ZC,oI0.cells.ld,mbl,ZD,ZE,ZF,hvp,eq_true c1]
  have hn:ends C=none:=by unfold ends;rw[if_neg];rintro ⟨⟨_,e,_⟩,_⟩;omega
  refine hΨ _ _ (fin_ret (rv2 rfl rfl ⟨kp1,.slice none 0 0,?_,?_⟩))
  ·rw[hn];rfl
  ·intro l hl;rw[hn] at hl;cases hl
 by_cases c2:C.main<0
 ·simp only[ZG,↓reduceIte,ZA,ZB,ZC,oI0.cells.ld,mbl,ZD,ZE,ZF,hvp,c1,eq_true c2]
  have hn:ends C=none:=by unfold ends;rw[if_neg];rintro ⟨⟨e,_⟩,_⟩;omega
  refine hΨ _ _ (fin_ret (rv2 rfl rfl ⟨kp1,.slice none 0 0,?_,?_⟩))
  ·rw[hn];rfl
  ·intro l hl;rw[hn] at hl;cases hl
 by_cases c3:C.main ≥ (C.tops.length:Int)
 ·simp only[ZG,↓reduceIte,ZA,ZB,ZC,oI0.cells.ld,mbl,ZD,ZE,ZF,hvp,c1,c2,eq_true c3]
  have hn:ends C=none:=by unfold ends;rw[if_neg];rintro ⟨⟨_,e,_⟩,_⟩;omega
  refine hΨ _ _ (fin_ret (rv2 rfl rfl ⟨kp1,.slice none 0 0,?_,?_⟩))
  ·rw[hn];rfl
  ·intro l hl;rw[hn] at hl;cases hl
 by_cases c4:(C.tops.length:Int) > (C.infos.length:Int)
 ·simp only[ZG,↓reduceIte,ZA,ZB,ZC,oI0.cells.ld,mbl,ZD,ZE,ZF,hvp,hvi,c1,c2,c3,eq_true c4]
  have hn:ends C=none:=by unfold ends;rw[if_neg];rintro ⟨⟨_,_,e,_⟩,_⟩;omega
  refine hΨ _ _ (fin_ret (rv2 rfl rfl ⟨kp1,.slice none 0 0,?_,?_⟩))
  ·rw[hn];rfl
  ·intro l hl;rw[hn] at hl;cases hl
 by_cases c5:(C.code.length:Int) > 200000
 ·simp only[ZG,↓reduceIte,ZA,ZB,ZC,oI0.cells.ld,mbl,ZD,ZE,ZF,hvp,hvi,hvc,c1,c2,c3,c4,eq_true c5]
  have hn:ends C=none:=by unfold ends;rw[if_neg];rintro ⟨⟨_,_,_,e⟩,_⟩;omega
  refine hΨ _ _ (fin_ret (rv2 rfl rfl ⟨kp1,.slice none 0 0,?_,?_⟩))
  ·rw[hn];rfl
  ·intro l hl;rw[hn] at hl;cases hl
 have hd:headOk C:=⟨by omega,by omega,by omega,by omega⟩
 simp only[ZG,↓reduceIte,ZA,ZB,ZC,oI0.cells.ld,mbl,ZD,ZE,ZF,hvp,hvi,hvc,c1,c2,c3,c4,c5];refine XLo_rule (α:=Nat) (fun i=>[(1,.pointer (some ⟨h.length,0,none⟩)),(4,iv i)])
  (fun i h'=>i<=C.cons.length/\h'=h1 /\ ∀ j x,j<i->C.cons[j]?=some x->0<=x/\x<=8) (fun i=>C.cons.length-i) 0
  ⟨Z3 _,rfl,fun j x hj=>by omega⟩ ⟨rfl,rfl,trivial⟩ ?_
 rintro i h' Ψ2 ⟨i1,rfl,hall⟩ next out
 by_cases hi:(i:Int)<(C.cons.length:Int)
 ·have h0:0<=(i:Int):=by omega
  have hil:i<C.cons.length:=by omega
  have hw:IntKind.i64.wrap ((i:Int)+1)=((i+1:Nat):Int):=by rw[i64w (by omega) (by omega)];omega
  have hxi:C.cons[i]?=some C.cons[i]:=Z2 hil;obtain ⟨b2,o2,cc2,e2,hlt,hld⟩:=rds_ix im1.rk h0 (x:=C.cons[i]) (by rw[Z0];exact hxi);rw[Z0] at hld
  by_cases x1:C.cons[i]<0
  ·simp only[ZG,↓reduceIte,ZA,ZB,ZC,oI0.cells.ld,mbl,ZD,ZE,ZF,hi,e2,h0,and_self,Z0,Z4,hld,eq_true x1]
   refine out .ret _ _ _ _ (by intro e;cases e) ?_;simp only[ZG,↓reduceIte,ZA,ZB,ZC,mbl,ZD,ZE,ZF];have hn:ends C=none:=by unfold ends;rw[if_neg];rintro ⟨_,e,_⟩;have:=e _ (Z8 hil);omega
   refine hΨ _ _ (fin_ret (rv2 rfl rfl ⟨kp1,.slice none 0 0,?_,?_⟩))
   ·rw[hn];rfl
   ·intro l hl;rw[hn] at hl;cases hl
  by_cases x2:C.cons[i] > 8
  ·simp only[ZG,↓reduceIte,ZA,ZB,ZC,oI0.cells.ld,mbl,ZD,ZE,ZF,hi,e2,h0,and_self,Z0,Z4,hld,x1,eq_true x2]
   refine out .ret _ _ _ _ (by intro e;cases e) ?_;simp only[ZG,↓reduceIte,ZA,ZB,ZC,mbl,ZD,ZE,ZF];have hn:ends C=none:=by unfold ends;rw[if_neg];rintro ⟨_,e,_⟩;have:=e _ (Z8 hil);omega
   refine hΨ _ _ (fin_ret (rv2 rfl rfl ⟨kp1,.slice none 0 0,?_,?_⟩))
   ·rw[hn];rfl
   ·intro l hl;rw[hn] at hl;cases hl
  simp only[ZG,↓reduceIte,ZA,ZB,ZC,oI0.cells.ld,mbl,ZD,ZE,ZF,hi,e2,h0,and_self,Z0,Z4,hld,x1,x2,hw];refine next (i+1) _ _ _ ⟨by omega,rfl,fun j x hj hx=>?_⟩ ⟨rfl,rfl,trivial⟩ (by omega)
  by_cases hji:j<i
  ·exact hall j x hji hx
  ·have:j=i:=by omega
   subst this;rw[hxi] at hx;cases hx;omega
 have hc:consOk C:=fun x hx=>by
  obtain ⟨j,hj,e⟩:=List.getElem_of_mem hx;exact hall j x (by omega) (by rw[Z2 hj,e])
 simp only[ZG,↓reduceIte,ZA,ZB,ZC,oI0.cells.ld,mbl,ZD,ZE,ZF,hvk,hi];refine out (.exit 0) _ _ _ _ (by intro e;cases e) ?_;simp only[ZG,↓reduceIte,ZA,ZB,ZC,mbl,ZD,ZE,ZF];refine XLo_rule (α:=Nat) (fun i=>[(1,.pointer (some ⟨h.length,0,none⟩)),(5,iv i)])
  (fun i h2=>i<=C.tops.length/\h2=h' /\ ∀ j,j<i->topOk C j) (fun i=>C.tops.length-i) 0
  ⟨Z3 _,rfl,fun j hj=>by omega⟩ ⟨rfl,rfl,trivial⟩ ?_
 clear hi i1 hall next out
 rintro i h2 Ψ3 ⟨i1,rfl,hall⟩ next out
 by_cases hi:(i:Int)<(C.tops.length:Int)
 ·have h0:0<=(i:Int):=by omega
  have hil:i<C.tops.length:=by omega
  have hii:(i:Int)<(C.infos.length:Int):=by omega
  have hw:IntKind.i64.wrap ((i:Int)+1)=((i+1:Nat):Int):=by rw[i64w (by omega) (by omega)];omega
  have hxi:C.tops[i]?=some C.tops[i]:=Z2 hil;obtain ⟨b2,o2,cc2,e2,hlt,hld⟩:=rds_ix im1.rp h0 (x:=C.tops[i]) (by rw[Z0];exact hxi);rw[Z0] at hld;have hyi:C.infos[i]?=some C.infos[i]:=Z2 (by omega);obtain ⟨kb,ko,kc3,ke,kl,kd⟩:=rds_fld (by omega) Inf.len im1.ri hyi;have kd2:=kd 2 (by omega);simp only[Inf.cells,List.getElem?_cons_succ,List.getElem?_cons_zero,Za] at kd2
  by_cases x1:C.tops[i]=(i:Int)
  ·by_cases x2:C.infos[i].f=0
   ·simp only[ZG,↓reduceIte,ZA,ZB,ZC,oI0.cells.ld,mbl,ZD,ZE,ZF,hi,e2,ke,h0,hii,and_self,Z0,Z4,hld,eq_true x1,kd2,eq_true x2,hw]
    refine next (i+1) _ _ _ ⟨by omega,rfl,fun j hj=>?_⟩ ⟨rfl,rfl,trivial⟩ (by omega)
    by_cases hji:j<i
    ·exact hall j hji
    ·have:j=i:=by omega
     subst this;exact ⟨by rw[hxi,x1],by rw[hyi,Za,x2]⟩
   ·simp only[ZG,↓reduceIte,ZA,ZB,ZC,oI0.cells.ld,mbl,ZD,ZE,ZF,hi,e2,ke,h0,hii,and_self,Z0,Z4,hld,eq_true x1,kd2,x2]
    refine out .ret _ _ _ _ (by intro e;cases e) ?_;simp only[ZG,↓reduceIte,ZA,ZB,ZC,mbl,ZD,ZE,ZF];have hn:ends C=none:=by unfold ends;rw[if_neg];rintro ⟨_,_,e⟩;have:=(e i hil).2;rw[hyi,Za] at this;exact x2 (Z5.inj this)
    refine hΨ _ _ (fin_ret (rv2 rfl rfl ⟨kp1,.slice none 0 0,?_,?_⟩))
    ·rw[hn];rfl
    ·intro l hl;rw[hn] at hl;cases hl
  ·simp only[ZG,↓reduceIte,ZA,ZB,ZC,oI0.cells.ld,mbl,ZD,ZE,ZF,hi,e2,h0,and_self,Z0,Z4,hld,x1]
   refine out .ret _ _ _ _ (by intro e;cases e) ?_;simp only[ZG,↓reduceIte,ZA,ZB,ZC,mbl,ZD,ZE,ZF];have hn:ends C=none:=by unfold ends;rw[if_neg];rintro ⟨_,_,e⟩;have:=(e i hil).1;rw[hxi] at this;exact x1 (Z5.inj this)
   refine hΨ _ _ (fin_ret (rv2 rfl rfl ⟨kp1,.slice none 0 0,?_,?_⟩))
   ·rw[hn];rfl
   ·intro l hl;rw[hn] at hl;cases hl
 have htops:topsOk C:=fun j hj=>hall j (by omega)
 have hcond:headOk C/\consOk C/\topsOk C:=⟨hd,hc,htops⟩
 have eqE:ends C=(match blocks C (C.code.length+1) C.infos 0 with
  | some (e,r)=>if r=C.code.length then some e else none
  | none=>none):=by unfold ends;rw[if_pos hcond];rfl
 simp only[ZG,↓reduceIte,ZA,ZB,ZC,oI0.cells.ld,mbl,ZD,ZE,ZF,hvp,hi];refine out (.exit 2) _ _ _ _ (by intro e;cases e) ?_;have s0:=Own.new h2 119 h2.length [vi,vc,vt,vp,iv C.main,vk,iv 0,.bool false];have kp4:Keep (fun _=>False) h2 (h2++[row 119 h2.length [vi,vc,vt,vp,iv C.main,vk,iv 0,.bool false]]):=Keep.push _ _ _;simp only[ZG,↓reduceIte,ZA,ZB,ZC,oI0.cells.lds 0 6 (by simp),mbl,ZD,ZE,ZF];generalize hh4:h2++[row 119 h2.length [vi,vc,vt,vp,iv C.main,vk,iv 0,.bool false]]=h4 at s0 kp4 ⊢;have hl4:h4.length=h2.length+1:=by rw[<- hh4];simp
 have kp04:=kp1.trans kp4;have r0:Rf h4 h2.length C vi vc vt vp vk 0 false:=⟨s0,im1.keep kp4 (fun _ _ e=>e),fun q e=>by have:=im1.lt q e;omega,by omega,Z3 _⟩
 refine XLo_rule (α:=Nat × Nat × Value × List Nat) (fun a=>[(1,.pointer (some ⟨h.length,0,none⟩)),(6,.pointer (some ⟨h2.length,0,none⟩)),(7,a.2.2.1),(8,iv a.1)])
  (Mi h C vi vc vt vp vk h.length h2.length) (fun a=>C.infos.length-a.1) (0,0,.slice none 0 0,[])
  ⟨Z3 _,r0,oI0.keep kp4 (fun e=>e),.nil,fun q e=>(by cases e),rfl,kp04,Z3 _,fun x hx=>by
   rw[show blocks C (C.code.length+1) C.infos 0=x from hx];cases x with
   | none=>rfl
   | some y=>rfl⟩ ⟨rfl,rfl,rfl,rfl,trivial⟩ ?_
 rintro ⟨i,p,lv,l⟩ h5 Ψ4 ⟨j1,s5,oI5,ow5,fr5,ln5,kp5,bl5,eq5⟩ next2 out2;simp only at j1 s5 ow5 fr5 ln5 bl5 eq5;have lb:h2.length<h5.length:=s5.own.lt;have hlc:=s5.hl;have ple:=s5.le
 by_cases hi2:(i:Int)<(C.infos.length:Int)
 ·have h0:0<=(i:Int):=by omega
  have hw:IntKind.i64.wrap ((i:Int)+1)=((i+1:Nat):Int):=by rw[i64w (by omega) (by omega)];omega
  have hil:i<C.infos.length:=by omega
  obtain ⟨⟨k,a,f,c⟩,hxi⟩:∃ x,C.infos[i]?=some x:=⟨_,Z2 hil⟩
  have hff:f<=9223372036854775807:=hfr _ (List.mem_of_getElem? hxi);have hdr:C.infos.drop i=⟨k,a,f,c⟩::C.infos.drop (i+1):=by
   rw[Z7 hil];have:=Z2 hil;rw[hxi] at this;rw[<- Z5.inj this]
  obtain ⟨b8,o8,c8,e8,hlt8,hld8⟩:=rds_str (by omega) Inf.len s5.im.ri hxi;simp only[Inf.cells,ns,Zc,Zd] at hld8;have on:=Own.new h5 34 h5.length [iv 0,iv 0,iv 0,iv 0];simp only[ZG,↓reduceIte,ZA,ZB,ZC,oI5.cells.ld,mbl,ZD,ZE,ZF,hi2,e8,h0,and_self,hld8,Z0];refine XH_own on rfl (by simp [Value.cells]) rfl (fun h8 q1 q2 q3=>?_);have on8:Own h8 h5.length 34 [iv k,iv a,iv f,iv c]:=by simpa [Value.cells] using q1
  have kp8:Keep (fun q=>q=h5.length) h5 h8:=((Keep.push (fun _=>False) h5 _).mono (fun _ e=>e.elim)).trans q2;have ll8:h8.length=h5.length+1:=by rw[q3];simp
  have s8:=s5.keep kp8 (by rintro q0 (rfl|e) e2;omega;have:=s5.im.lt _ e;omega);have oI8:=oI5.keep kp8 (fun e=>by have:=oI5.lt;omega);have ow8:=ow5.keep kp8 (fun q0 e e2=>by have:=ow5.lt q0 e;omega);have hk5:=kp5.len;have kph8:Keep (fun _=>False) h h8:=kp5.trans' kp8 (fun c hc e=>by omega);have noI:¬ infoOk ⟨k,a,f,c⟩ p->ends C=none:=fun hno=>by
   have:=eq5 none (by rw[hdr,blocks,if_neg hno]);rw[eqE,this]
  by_cases k1:k=1
  ·have k2n:¬ k=2:=by omega
   by_cases a1:a ≥ 1
   ·by_cases a8:a<=8
    by_cases f0:f<0
    ·simp only[ZG,↓reduceIte,ZA,ZB,ZC,on8.cells.ld,mbl,ZD,ZE,ZF,eq_true k1,k2n,eq_true a1,eq_true a8,eq_true f0]
     refine out2 .ret _ _ _ _ (by intro e;cases e) ?_;simp only[ZG,↓reduceIte,ZA,ZB,ZC,mbl,ZD,ZE,ZF];have hn:ends C=none:=noI (by rintro ⟨e1|e1,e2,e3⟩<;>simp only at e1 e2 e3<;>omega);refine hΨ _ _ (fin_ret (rv2 rfl rfl ⟨kph8,.slice none 0 0,?_,?_⟩))
     ·rw[hn];rfl
     ·intro l hl;rw[hn] at hl;cases hl
    by_cases cp:c=(p:Int)
    ·have hio:infoOk ⟨k,a,f,c⟩ p:=⟨.inr ⟨k1,by show 0<a;omega,a8⟩,by show 0<=f;omega,cp⟩
     simp only[ZG,↓reduceIte,ZA,ZB,ZC,on8.cells.ld,s8.own.cells.ld,mbl,ZD,ZE,ZF,eq_true k1,k2n,eq_true a1,eq_true a8,f0,eq_true cp];refine XX_of (rexpr_ok z hc f (by omega) hff (C.code.length+1) h8 p a (by omega) (by omega) (by omega) s8) (fun res h9 hle9 hn=>?_);obtain ⟨kp9,rfl,s9⟩:=hn;refine .ret ?_;have kph9:Keep (fun _=>False) h h9:=kph8.trans' kp9 (fun c hc e=>by omega);cases hx9:expr C (C.code.length+1) a f p with
     | none =>
       rw[hx9] at s9;obtain ⟨p9,s9⟩:=s9;simp only[ZG,↓reduceIte,ZA,ZB,ZC,s9.own.cells.ld,mbl,ZD,ZE,ZF];refine out2 .ret _ _ _ _ (by intro e;cases e) ?_;simp only[ZG,↓reduceIte,ZA,ZB,ZC,mbl,ZD,ZE,ZF];have hn:ends C=none:=by
        have:=eq5 none (by rw[hdr,blocks,if_pos hio];simp only[hx9]);rw[eqE,this]
       refine hΨ _ _ (fin_ret (rv2 rfl rfl ⟨kph9,.slice none 0 0,?_,?_⟩))
       ·rw[hn];rfl
       ·intro l hl;rw[hn] at hl;cases hl
     | some q9 =>
       rw[hx9] at s9;have s9:Rf h9 h2.length C vi vc vt vp vk q9 false:=s9;have hon:=expr_on _ _ _ _ hx9;have oI9:=oI8.keep kp9 (fun e=>by omega);have ow9:=ow8.keep kp9 (fun q0 e e2=>by have:=fr5 q0 e;omega);obtain ⟨v6,h6,k1',k2',k3,k4⟩:=app1 (bytes:=8) ow9 (xs:=[iv q9]) rfl rfl (by omega) (by omega);simp only[ZG,↓reduceIte,ZA,ZB,ZC,s9.own.cells.ld,mbl,ZD,ZE,ZF,k1',hw];have l9:=kp9.len;have fr6:∀ q0,bk v6 q0->h2.length<q0:=fun q0 e=>by
        rcases k4 q0 e with e|e
        ·exact fr5 q0 e
        ·omega
       refine next2 (i+1,q9,v6,l++[q9]) _ _ _ ⟨by simp only;omega,?_,?_,?_,fr6,by simp [ln5],kph9.trans' k3 (fun c hc e=>by have:=fr5 _ e;omega),by simp only;omega,?_⟩ ⟨rfl,rfl,rfl,rfl,trivial⟩ (by simp only;omega)
       ·refine s9.keep k3 ?_
        rintro q0 (rfl|e) e2
        ·have:=fr5 _ e2;omega
        ·have:=fr5 _ e2;have:=im1.lt _ e;omega
       ·exact oI9.keep k3 (fun e=>by have:=fr5 _ e;omega)
       ·simpa [ns] using k2'
       ·intro x hx
        simp only at hx;cases x with
        | none =>
          have:=eq5 none (by rw[hdr,blocks,if_pos hio];simp only[hx9,hx]);rw[this]
        | some y =>
          obtain ⟨ye,yr⟩:=y;have:=eq5 (some (q9::ye,yr)) (by rw[hdr,blocks,if_pos hio];simp only[hx9,hx]);rw[this];simp
    ·simp only[ZG,↓reduceIte,ZA,ZB,ZC,on8.cells.ld,s8.own.cells.ld,mbl,ZD,ZE,ZF,eq_true k1,k2n,eq_true a1,eq_true a8,f0,cp]
     refine out2 .ret _ _ _ _ (by intro e;cases e) ?_;simp only[ZG,↓reduceIte,ZA,ZB,ZC,mbl,ZD,ZE,ZF];have hn:ends C=none:=noI (by rintro ⟨e1|e1,e2,e3⟩<;>simp only at e1 e2 e3<;>omega);refine hΨ _ _ (fin_ret (rv2 rfl rfl ⟨kph8,.slice none 0 0,?_,?_⟩))
     ·rw[hn];rfl
     ·intro l hl;rw[hn] at hl;cases hl
    ·simp only[ZG,↓reduceIte,ZA,ZB,ZC,on8.cells.ld,mbl,ZD,ZE,ZF,eq_true k1,k2n,eq_true a1,a8]
     refine out2 .ret _ _ _ _ (by intro e;cases e) ?_;simp only[ZG,↓reduceIte,ZA,ZB,ZC,mbl,ZD,ZE,ZF];have hn:ends C=none:=noI (by rintro ⟨e1|e1,e2,e3⟩<;>simp only at e1 e2 e3<;>omega);refine hΨ _ _ (fin_ret (rv2 rfl rfl ⟨kph8,.slice none 0 0,?_,?_⟩))
     ·rw[hn];rfl
     ·intro l hl;rw[hn] at hl;cases hl
   ·simp only[ZG,↓reduceIte,ZA,ZB,ZC,on8.cells.ld,mbl,ZD,ZE,ZF,eq_true k1,k2n,a1]
    refine out2 .ret _ _ _ _ (by intro e;cases e) ?_;simp only[ZG,↓reduceIte,ZA,ZB,ZC,mbl,ZD,ZE,ZF];have hn:ends C=none:=noI (by rintro ⟨e1|e1,e2,e3⟩<;>simp only at e1 e2 e3<;>omega);refine hΨ _ _ (fin_ret (rv2 rfl rfl ⟨kph8,.slice none 0 0,?_,?_⟩))
    ·rw[hn];rfl
    ·intro l hl;rw[hn] at hl;cases hl
  ·by_cases k2:k=2
   ·by_cases a0:a=0
    by_cases f0:f<0
    ·simp only[ZG,↓reduceIte,ZA,ZB,ZC,on8.cells.ld,mbl,ZD,ZE,ZF,k1,eq_true k2,eq_true a0,eq_true f0]
     refine out2 .ret _ _ _ _ (by intro e;cases e) ?_;simp only[ZG,↓reduceIte,ZA,ZB,ZC,mbl,ZD,ZE,ZF];have hn:ends C=none:=noI (by rintro ⟨e1|e1,e2,e3⟩<;>simp only at e1 e2 e3<;>omega);refine hΨ _ _ (fin_ret (rv2 rfl rfl ⟨kph8,.slice none 0 0,?_,?_⟩))
     ·rw[hn];rfl
     ·intro l hl;rw[hn] at hl;cases hl
    by_cases cp:c=(p:Int)
    ·have hio:infoOk ⟨k,a,f,c⟩ p:=⟨.inl ⟨k2,a0⟩,by show 0<=f;omega,cp⟩
     simp only[ZG,↓reduceIte,ZA,ZB,ZC,on8.cells.ld,s8.own.cells.ld,mbl,ZD,ZE,ZF,k1,eq_true k2,eq_true a0,f0,eq_true cp];refine XX_of (rexpr_ok z hc f (by omega) hff (C.code.length+1) h8 p a (by omega) (by omega) (by omega) s8) (fun res h9 hle9 hn=>?_);obtain ⟨kp9,rfl,s9⟩:=hn;refine .ret ?_;have kph9:Keep (fun _=>False) h h9:=kph8.trans' kp9 (fun c hc e=>by omega);cases hx9:expr C (C.code.length+1) a f p with
     | none =>
       rw[hx9] at s9;obtain ⟨p9,s9⟩:=s9;simp only[ZG,↓reduceIte,ZA,ZB,ZC,s9.own.cells.ld,mbl,ZD,ZE,ZF];refine out2 .ret _ _ _ _ (by intro e;cases e) ?_;simp only[ZG,↓reduceIte,ZA,ZB,ZC,mbl,ZD,ZE,ZF];have hn:ends C=none:=by
        have:=eq5 none (by rw[hdr,blocks,if_pos hio];simp only[hx9]);rw[eqE,this]
       refine hΨ _ _ (fin_ret (rv2 rfl rfl ⟨kph9,.slice none 0 0,?_,?_⟩))
       ·rw[hn];rfl
       ·intro l hl;rw[hn] at hl;cases hl
     | some q9 =>
       rw[hx9] at s9;have s9:Rf h9 h2.length C vi vc vt vp vk q9 false:=s9;have hon:=expr_on _ _ _ _ hx9;have oI9:=oI8.keep kp9 (fun e=>by omega);have ow9:=ow8.keep kp9 (fun q0 e e2=>by have:=fr5 q0 e;omega);obtain ⟨v6,h6,k1',k2',k3,k4⟩:=app1 (bytes:=8) ow9 (xs:=[iv q9]) rfl rfl (by omega) (by omega);simp only[ZG,↓reduceIte,ZA,ZB,ZC,s9.own.cells.ld,mbl,ZD,ZE,ZF,k1',hw];have l9:=kp9.len;have fr6:∀ q0,bk v6 q0->h2.length<q0:=fun q0 e=>by
        rcases k4 q0 e with e|e
        ·exact fr5 q0 e
        ·omega
       refine next2 (i+1,q9,v6,l++[q9]) _ _ _ ⟨by simp only;omega,?_,?_,?_,fr6,by simp [ln5],kph9.trans' k3 (fun c hc e=>by have:=fr5 _ e;omega),by simp only;omega,?_⟩ ⟨rfl,rfl,rfl,rfl,trivial⟩ (by simp only;omega)
       ·refine s9.keep k3 ?_
        rintro q0 (rfl|e) e2
        ·have:=fr5 _ e2;omega
        ·have:=fr5 _ e2;have:=im1.lt _ e;omega
       ·exact oI9.keep k3 (fun e=>by have:=fr5 _ e;omega)
       ·simpa [ns] using k2'
       ·intro x hx
        simp only at hx;cases x with
        | none =>
          have:=eq5 none (by rw[hdr,blocks,if_pos hio];simp only[hx9,hx]);rw[this]
        | some y =>
          obtain ⟨ye,yr⟩:=y;have:=eq5 (some (q9::ye,yr)) (by rw[hdr,blocks,if_pos hio];simp only[hx9,hx]);rw[this];simp
    ·simp only[ZG,↓reduceIte,ZA,ZB,ZC,on8.cells.ld,s8.own.cells.ld,mbl,ZD,ZE,ZF,k1,eq_true k2,eq_true a0,f0,cp]
     refine out2 .ret _ _ _ _ (by intro e;cases e) ?_;simp only[ZG,↓reduceIte,ZA,ZB,ZC,mbl,ZD,ZE,ZF];have hn:ends C=none:=noI (by rintro ⟨e1|e1,e2,e3⟩<;>simp only at e1 e2 e3<;>omega);refine hΨ _ _ (fin_ret (rv2 rfl rfl ⟨kph8,.slice none 0 0,?_,?_⟩))
     ·rw[hn];rfl
     ·intro l hl;rw[hn] at hl;cases hl
    ·simp only[ZG,↓reduceIte,ZA,ZB,ZC,on8.cells.ld,mbl,ZD,ZE,ZF,k1,eq_true k2,a0]
     refine out2 .ret _ _ _ _ (by intro e;cases e) ?_;simp only[ZG,↓reduceIte,ZA,ZB,ZC,mbl,ZD,ZE,ZF];have hn:ends C=none:=noI (by rintro ⟨e1|e1,e2,e3⟩<;>simp only at e1 e2 e3<;>omega);refine hΨ _ _ (fin_ret (rv2 rfl rfl ⟨kph8,.slice none 0 0,?_,?_⟩))
     ·rw[hn];rfl
     ·intro l hl;rw[hn] at hl;cases hl
   ·simp only[ZG,↓reduceIte,ZA,ZB,ZC,on8.cells.ld,mbl,ZD,ZE,ZF,k1,k2]
    refine out2 .ret _ _ _ _ (by intro e;cases e) ?_;simp only[ZG,↓reduceIte,ZA,ZB,ZC,mbl,ZD,ZE,ZF];have hn:ends C=none:=noI (by rintro ⟨e1|e1,e2,e3⟩<;>simp only at e1 e2 e3<;>omega);refine hΨ _ _ (fin_ret (rv2 rfl rfl ⟨kph8,.slice none 0 0,?_,?_⟩))
    ·rw[hn];rfl
    ·intro l hl;rw[hn] at hl;cases hl
 ·have hin:C.infos.drop i=[]:=Zb (by omega)
  have hb:=eq5 (some ([],p)) (by rw[hin,blocks]);simp only[List.append_nil] at hb;obtain ⟨va,vc5,hv5⟩:=row_shape ow5.rds;simp only[ZG,↓reduceIte,ZA,ZB,ZC,oI5.cells.ld,mbl,ZD,ZE,ZF,hvi,hi2];refine out2 (.exit 4) _ _ _ _ (by intro e;cases e) ?_;simp only[ZG,↓reduceIte,ZA,ZB,ZC,oI5.cells.ld,s5.own.cells.ld,mbl,ZD,ZE,ZF,hvc];have hek:ends C=if p=C.code.length then some l else none:=by rw[eqE,hb]
  by_cases hp:(p:Int)=(C.code.length:Int)
  ·have hen:ends C=some l:=by rw[hek,if_pos (by omega)]
   refine hΨ _ _ (fin_ret (rv2 rfl rfl ⟨kp5,lv,?_,fun l' hl'=>?_⟩))
   ·rw[hen]
    simp [hp]
    rfl
   ·rw[hen] at hl'
    cases hl';rw[ln5];exact ⟨ow5,fun q e=>by have:=fr5 q e;omega⟩
  ·have hen:ends C=none:=by rw[hek,if_neg (by omega)]
   refine hΨ _ _ (fin_ret (rv2 rfl rfl ⟨kp5,lv,?_,fun l' hl'=>?_⟩))
   ·rw[hen]
    simp [hp]
    rfl
   ·rw[hen] at hl';cases hl'
end
end Go.S18.V
