import Derived.Test.YtdlanbdiphpacaaDoorPk20
import Derived.Test.YtdlanbdiphpacaaDoorPk12
set_option linter.unusedVariables false
set_option linter.unusedSimpArgs false
open Nat renaming reduceEqDiff -> ZA,reduceAdd -> ZB,reduceMul -> ZC,reduceLeDiff -> ZD,reduceLT -> ZE
open Int renaming reduceEq -> ZF
open Int renaming toNat_natCast->Z0,cast_ofNat_Int->Z4,natCast_add->Za,add_zero->Ze
open List renaming getElem?_eq_getElem->Z1,length_append->Z2,getElem?_eq_none->Z3,mem_cons->Z5,getElem?_cons_zero->Z7,length_eq_zero_iff->Z8,length_set->Zb,contains_cons->Zc,mem_singleton->Zd,contains_nil->Zf,flatMap_cons->Zg
open Option renaming isSome_iff_exists->Z6,map_some->Z9
open Nat renaming le_refl->Zh
namespace Go.S19
open Go Go.Eng Go.Proofs Go.Chk
section
variable {h:AH} {b:Nat} {L:Lay} {S:HS} {C:Cx} {vi vc vt vp vk:Value}
theorem Hp.appg {h h':AH} {b:Nat} {L:Lay} {S:HS} (s:Hp h b L S) {v:Value} {ys:List (Int × Int)} (k:Keep (fun q=>q=b\/bk L.vg q) h h') (ho:Own h' b 79 [.pointer (some ⟨L.bs,0,none⟩),L.vi,.slice none 0 0,L.vt,.slice none 0 0,iv 0,L.vk,.map (some L.mb),.map L.mo,v])
 (hv:Ows h' 44 2 v ys.length (ww ys)) (hq:∀ q,bk v q->bk L.vg q\/h.length<=q):∃ L',Hp h' b L' { S with globals:=ys }/\Same h.length L L':=by
 classical
 have hx:∀ q,L.cls q≠1->L.cls q≠5 -> ¬ (q=b\/bk L.vg q):=fun q e f c=>c.elim (fun c=>e (by rw[c];exact s.c1)) (fun c=>f (s.c5 q c))
 have nb:∀ q,L.cls q≠0->L.cls q≠5 -> ¬ bk v q:=fun q e f c=>(hq q c).elim (fun a=>f (s.c5 q a)) (fun a=>e (s.c0 q a))
 refine ⟨{ L with vg:=v,cls:=fun q=>if bk v q then 5 else L.cls q },⟨ho,s.ws.keep k (fun q e=>hx q (by rw[s.c2 q e];omega) (by rw[s.c2 q e];omega)),s.ri.keep k (fun q e=>hx q (by rw[s.c6 q (.inl e)];omega) (by rw[s.c6 q (.inl e)];omega)),s.rt.keep k (fun q e=>hx q (by rw[s.c6 q (.inr (.inl e))];omega) (by rw[s.c6 q (.inr (.inl e))];omega)),s.rk.keep k (fun q e=>hx q (by rw[s.c6 q (.inr (.inr e))];omega) (by rw[s.c6 q (.inr (.inr e))];omega)),
  s.mb.keep k (hx _ (by rw[s.c3];omega) (by rw[s.c3];omega)),fun q e=>(s.mo q e).keep k (hx q (by rw[s.c4 q e];omega) (by rw[s.c4 q e];omega)),s.mo0,hv,?_,?_,?_,?_,?_,?_,?_⟩,?_⟩
 ·simp only;rw[if_neg (nb _ (by rw[s.c1];omega) (by rw[s.c1];omega))];exact s.c1
 ·intro q e;simp only;rw[if_neg (nb _ (by rw[s.c2 q e];omega) (by rw[s.c2 q e];omega))];exact s.c2 q e
 ·simp only;rw[if_neg (nb _ (by rw[s.c3];omega) (by rw[s.c3];omega))];exact s.c3
 ·intro q e;simp only;rw[if_neg (nb _ (by rw[s.c4 q e];omega) (by rw[s.c4 q e];omega))];exact s.c4 q e
 ·intro q e;simp only;rw[if_pos e]
 ·intro q e;simp only;rw[if_neg (nb _ (by rw[s.c6 q e];omega) (by rw[s.c6 q e];omega))];exact s.c6 q e
 ·intro q e;simp only
  by_cases c:bk v q
  ·have:=hv.lt q c;omega
  ·rw[if_neg c];exact s.c0 q (Nat.le_trans k.len e)
 ·intro q e;simp only
  by_cases c:bk v q
  ·rcases hq q c with a|a
   ·rw[if_pos c,s.c5 q a]
   ·omega
  ·rw[if_neg c]
theorem gls_none {S:HS} {i:Nat} (h:S.gls i=none):∀ {n:Nat},i<=n->S.gls n=none:=by
 intro n
 induction n with
 | zero=>intro hn;have:i=0:=by omega
         subst this;exact h
 | succ n ih =>
   intro hn
   rcases Nat.lt_or_eq_of_le hn with e|e
   ·rw[HS.gls,ih (by omega)];rfl
   ·rw[<- e];exact h
def NewO (h:AH) (C:Cx) (texts:List ByteArray) (words:Int) (res:Res) (h':AH):Prop :=
 if (ends C).isSome=true/\0<=words/\words<=262144 then (match (HS.start C texts words).gls C.tops.length with
  | some S=>∃ b L,res = .ret (.tuple #[.pointer (some ⟨b,0,none⟩),iv 0])/\Hp h' b L S /\ ∀ q,q<h.length->L.cls q=0
  | none=>res = .ret (.tuple #[.pointer none,iv 12]))
 else res = .ret (.tuple #[.pointer none,iv (if (ends C).isSome=true then 1 else 7)])
set_option maxHeartbeats 4000000 in
theorem New_ok (im:Img h C vi vc vt vp vk) (fit:Cx.fits C) {texts:List ByteArray} (rt:Rds h 1 vt texts.length (sts texts)) (ht:texts.length*16<=140737488355328) (hk:C.cons.length*8<=140737488355328) (words:Int) :
 Gets Tryd.prog 16 [.agg #[vi,vc,vt,vp,iv C.main,vk],iv words] h (fun res h'=>Keep (fun _=>False) h h'/\NewO h C texts words res h'):=by
 refine Gets.of (keep:=false) hP (draw_ok hM) k16 (by rfl) (fun Ψ hΨ=>?_);obtain ⟨ia,ic,hvi⟩:=row_shape im.ri;have oI:=Own.new h 26 h.length [vi,vc,vt,vp,iv C.main,vk];have k1:Keep (fun _=>False) h (h++[row 26 h.length [vi,vc,vt,vp,iv C.main,vk]]):=Keep.push _ _ _;have l1:(h++[row 26 h.length [vi,vc,vt,vp,iv C.main,vk]]).length=h.length+1:=by simp
 simp only[ZG,↓reduceIte,ZA,ZB,ZC,r16,YE,YC,YO,YA,YL,YX,YS,Ya,Yb,Yl,Yf,Yg,Yi,Ym,Yk,Yt,Yn,Yz,Yp,Yq,Yd,mbl,ZD,ZE,ZF];generalize h++[row 26 h.length [vi,vc,vt,vp,iv C.main,vk]]=h1 at oI k1 l1 ⊢;simp only[ZG,↓reduceIte,ZA,ZB,ZC,oI.cells.lds 0 6 (by simp),mbl,ZD,ZE,ZF];refine XX_of (Check_ok (im.keep k1 (fun _ _ e=>e)) fit) (fun res h2 hle hn=>?_);obtain ⟨k2,rfl⟩:=hn;refine .ret ?_;have k02:=k1.trans k2
 by_cases hends:(ends C).isSome=true
 case neg =>
  simp only[ZG,↓reduceIte,ZA,ZB,ZC,hends,mbl,ZD,ZE,ZF];refine hΨ _ _ (fin_ret (rv2 rfl rfl ⟨k02,?_⟩));unfold NewO;rw[if_neg (fun e=>hends e.1),if_neg hends];rfl
 have oI2:=oI.keep k2 (fun e=>e)
 by_cases w0:words<0
 ·simp only[ZG,↓reduceIte,ZA,ZB,ZC,hends,mbl,ZD,ZE,ZF,w0]
  refine hΨ _ _ (fin_ret (rv2 rfl rfl ⟨k02,?_⟩));unfold NewO;rw[if_neg (fun e=>by omega),if_pos hends];rfl
 by_cases w1:(262144:Int)<words
 ·simp only[ZG,↓reduceIte,ZA,ZB,ZC,hends,mbl,ZD,ZE,ZF,w0,w1]
  refine hΨ _ _ (fin_ret (rv2 rfl rfl ⟨k02,?_⟩));unfold NewO;rw[if_neg (fun e=>by omega),if_pos hends];rfl
 obtain ⟨hH,hC,hT,hI,hF⟩:=ends_some hends;simp only[ZG,↓reduceIte,ZA,ZB,ZC,hends,mbl,ZD,ZE,ZF,w0,w1];refine XX_of (wNew_ok h2 words (by omega)) (fun res h3 hle3 hn=>?_);obtain ⟨rfl,k3,l3,ws3⟩:=hn;refine .ret ?_;have oI3:=oI2.keep k3 (fun e=>e);have k4:Keep (fun _=>False) h3 (h3++[Blk.map []]):=Keep.push _ _ _;have m4:MOwn (h3++[Blk.map []]) h3.length []:=.new h3;have l4:(h3++[Blk.map []]).length=h3.length+1:=by simp
 simp only[ZG,↓reduceIte,ZA,ZB,ZC,mbl,ZD,ZE,ZF];generalize h3++[Blk.map []]=h4 at k4 m4 l4 ⊢;have oB:=Own.new h4 79 h4.length [.pointer (some ⟨h2.length,0,none⟩),.slice none 0 0,.slice none 0 0,.slice none 0 0,.slice none 0 0,iv 0,.slice none 0 0,.map (some h3.length),.map none,.slice none 0 0];have k5:Keep (fun _=>False) h4 (h4++[row 79 h4.length [.pointer (some ⟨h2.length,0,none⟩),.slice none 0 0,.slice none 0 0,.slice none 0 0,.slice none 0 0,iv 0,.slice none 0 0,.map (some h3.length),.map none,.slice none 0 0]]):=Keep.push _ _ _;have l5:(h4++[row 79 h4.length [.pointer (some ⟨h2.length,0,none⟩),.slice none 0 0,.slice none 0 0,.slice none 0 0,.slice none 0 0,iv 0,.slice none 0 0,.map (some h3.length),.map none,.slice none 0 0]]).length=h4.length+1:=by simp
 generalize h4++[row 79 h4.length [.pointer (some ⟨h2.length,0,none⟩),.slice none 0 0,.slice none 0 0,.slice none 0 0,.slice none 0 0,iv 0,.slice none 0 0,.map (some h3.length),.map none,.slice none 0 0]]=h5 at oB k5 l5 ⊢;have oI5:=(oI3.keep k4 (fun e=>e)).keep k5 (fun e=>e);have k05:=((k02.trans k3).trans k4).trans k5;have im5:=im.keep k05 (fun _ _ e=>e);simp only[ZG,↓reduceIte,ZA,ZB,ZC,mbl,ZD,ZE,ZF,oI5.cells.ld];refine XX_of (cloneInfos_ok im5.ri (rowsOf_one _) (by omega)) (fun res h6 hle6 hn=>?_);obtain ⟨k6,ui,rfl,oi6,hqi⟩:=hn;refine .ret ?_;have oI6:=oI5.keep k6 (fun e=>e);have k06:=k05.trans k6;simp only[ZG,↓reduceIte,ZA,ZB,ZC,mbl,ZD,ZE,ZF,oI6.cells.ld,ct1,Zc,Zf,Nat.reduceBEq,Bool.or_true,Bool.true_or,Bool.or_false,Bool.false_or];refine XX_of (cloneTexts_ok (rt.keep k06 (fun _ _ e=>e)) (by simp [sts,Value.oneCell']) ht) (fun res h7 hle7 hn=>?_);obtain ⟨k7,ut,rfl,ot7,hqt⟩:=hn;refine .ret ?_;have oI7:=oI6.keep k7 (fun e=>e);have k07:=k06.trans k7;simp only[ZG,↓reduceIte,ZA,ZB,ZC,mbl,ZD,ZE,ZF,oI7.cells.ld,ct1,Zc,Zf,Nat.reduceBEq,Bool.or_true,Bool.true_or,Bool.or_false,Bool.false_or];refine XX_of (cloneInts_ok (im.keep k07 (fun _ _ e=>e)).rk (ns_one _) hk) (fun res h8 hle8 hn=>?_);obtain ⟨k8,uk,rfl,ok8,hqk⟩:=hn;refine .ret ?_;have oI8:=oI7.keep k8 (fun e=>e);have k08:=k07.trans k8;have oB8:=((oB.keep k6 (fun e=>e)).keep k7 (fun e=>e)).keep k8 (fun e=>e);obtain ⟨ia',ic',hui⟩:=row_shape oi6.rds;obtain ⟨ta',tc',hut⟩:=row_shape ot7.rds;obtain ⟨ka',kc',huk⟩:=row_shape ok8.rds;rw[hui,hut,huk];simp only[ZG,↓reduceIte,ZA,ZB,ZC,mbl,ZD,ZE,ZF];refine XH_own oB8 rfl (by simp [Value.cells]) rfl (fun h9 q1 q2 q3=>?_);rw[<- hui,<- hut,<- huk] at q1;have oB9:Own h9 h4.length 79 [.pointer (some ⟨h2.length,0,none⟩),ui,.slice none 0 0,ut,.slice none 0 0,iv 0,uk,.map (some h3.length),.map none,.slice none 0 0]:=by
  rw[hui,hut,huk] at q1 ⊢
  simpa [Value.cells] using q1
 have hh5:h.length+4<=h5.length:=by have:=k02.len;have:=k2.len;omega
 have hlB:h.length+3<=h4.length:=by have:=k2.len;omega
 have k59:Keep (fun q=>q=h4.length) h5 h9:=((k6.trans (k7.trans k8)).mono (fun _ e=>e.elim)).trans q2;have k09:Keep (fun _=>False) h h9:=k08.trans' q2 (fun c hc e=>by omega);have oI9:=oI8.keep q2 (fun e=>by omega);have im9:=im.keep k09 (fun _ _ e=>e);have s9:∃ L,Hp h9 h4.length L (HS.start C texts words) /\ ∀ q,q<h.length+1->L.cls q=0:=by
  classical
  have hl2:h.length+1<=h2.length:=by have:=k2.len;omega
  have hl59:h5.length<=h9.length:=k59.len;have hl68:h6.length<=h9.length:=by have:=k7.len;have:=k8.len;omega
  have hl79:h7.length<=h9.length:=by have:=k8.len;omega
  have nq:∀ q,bk ui q\/bk ut q\/bk uk q->h5.length<=q/\q<h9.length:=by
   rintro q (e|e|e)
   ·have:=hqi q e;omega
   ·have:=hqt q e;have:=k6.len;omega
   ·have:=hqk q e;have:=k6.len;have:=k7.len;omega
  refine ⟨⟨h2.length,.slice none 0 0,.slice none 0 0,ui,ut,uk,h3.length,none,.slice none 0 0,fun q=>if q=h4.length then 1 else if q=h2.length then 2 else if q=h3.length then 3 else if bk ui q\/bk ut q\/bk uk q then 6 else 0⟩,⟨oB9,?_,?_,?_,?_,?_,?_,fun _=>rfl,.nil,?_,?_,?_,?_,?_,?_,?_⟩,?_⟩
  ·have w5:=(ws3.keep k4 (fun _ _ e=>e)).keep k5 (fun _ _ e=>e)
   exact w5.keep k59 (fun q e o=>by
    rcases e with e|e|e
    ·omega
    ·exact e.elim
    ·exact e.elim)
  ·exact ((oi6.keep k7 (fun _ _ e=>e)).keep k8 (fun _ _ e=>e)).keep q2 (fun q e o=>by have:=hqi q e;omega) |>.rds
  ·exact (ot7.keep k8 (fun _ _ e=>e)).keep q2 (fun q e o=>by have:=hqt q e;have:=k6.len;omega) |>.rds
  ·exact ok8.keep q2 (fun q e o=>by have:=hqk q e;have:=k6.len;have:=k7.len;omega) |>.rds
  ·exact (m4.keep k5 (fun e=>e)).keep k59 (fun e=>by omega)
  ·intro q e;cases e
  ·simp
  ·rintro q (e|e|e)
   ·have e2:q=h2.length:=e
    simp only;rw[if_neg (by omega),if_pos e2]
   ·exact e.elim
   ·exact e.elim
  ·simp only;rw[if_neg (by omega),if_neg (by omega)];simp
  ·intro q e;cases e
  ·intro q e;exact e.elim
  ·intro q e
   have e':bk ui q\/bk ut q\/bk uk q:=e.imp rb.bk (Or.imp rb.bk rb.bk);have:=nq q e';simp only;rw[if_neg (by omega),if_neg (by omega),if_neg (by omega),if_pos e']
  ·intro q e
   simp only;rw[if_neg (by omega),if_neg (by omega),if_neg (by omega),if_neg (fun e'=>by have:=nq q e';omega)]
  ·intro q e
   simp only;rw[if_neg (by omega),if_neg (by omega),if_neg (by omega),if_neg (fun e'=>by have:=nq q e';omega)]
 obtain ⟨L9,s9,z9⟩:=s9;obtain ⟨pa,pc,hvp⟩:=row_shape im.rp;simp only[ZG,↓reduceIte,ZA,ZB,ZC,oI9.cells.ld,mbl,ZD,ZE,ZF,hvp];have hcond:(ends C).isSome=true/\0<=words/\words<=262144:=⟨hends,by omega,by omega⟩
 have hpl:C.tops.length<=200000:=by have:=hH.2.2.1;omega
 refine XLo_rule (α:=Nat × HS × Lay) (fun a=>[(2,.pointer (some ⟨h.length,0,none⟩)),(4,.pointer none),(5,iv 0),(9,.pointer (some ⟨h4.length,0,none⟩)),(48,.slice pa C.tops.length pc),(49,iv C.tops.length),(50,iv a.1)])
  (fun a h'=>a.1<=C.tops.length/\(HS.start C texts words).gls a.1=some a.2.1/\Hp h' h4.length a.2.2 a.2.1/\a.2.1.Ok/\(∀ q,q<h.length+1->a.2.2.cls q=0)/\Keep (fun _=>False) h h'/\Own h' h.length 26 [vi,vc,vt,vp,iv C.main,vk]) (fun a=>C.tops.length-a.1) (0,HS.start C texts words,L9)
  ⟨Nat.zero_le _,rfl,s9,.start _ _ _,z9,k09,oI9⟩ ⟨rfl,rfl,rfl,rfl,rfl,rfl,rfl,trivial⟩ ?_
 rintro ⟨i,S,L⟩ ha Ψ2 ⟨i1,i2,i3,i4,i5,i6,i7⟩ next out
 simp only at i1 i2 i3 i4 i5
 by_cases hi:(i:Int)<(C.tops.length:Int)
 ·have h0:0<=(i:Int):=by omega
  have hwi:IntKind.i64.wrap ((i:Int)+1)=i+1:=i64w (by omega) (by omega);have hil:i<C.tops.length:=by omega
  obtain ⟨t1,t2⟩:=hT i hil;have ima:=im.keep i6 (fun _ _ e=>e);obtain ⟨b1,o1,c1,e1,_,hld⟩:=rds_ix ima.rp h0 (by rw[Z0];exact t1);rw[hvp] at e1;cases e1;rw[Z0] at hld;have hii:i<C.infos.length:=by have:=hH.2.2.1;omega
  obtain ⟨⟨ik,ia2,iff',ic2⟩,hx⟩:∃ x,C.infos[i]?=some x:=⟨_,Z1 hii⟩
  rw[hx] at t2;simp only[Z9,Option.some.injEq] at t2;subst t2;obtain ⟨b2,o2,c2,e2,_,hld2⟩:=rds_fld (by omega) Inf.len ima.ri hx;have hk0:=hld2 0 (by omega);simp only[Inf.cells,Z7,Z9,Nat.add_zero] at hk0;have hi3:(i:Int)<(C.infos.length:Int):=by omega
  obtain ⟨gi,gt,gc,gs,gg,go,gold⟩:=gls_img i2;have hik:S.ik (i:Int)=ik:=by rw[HS.ik,gi,Z0];show (C.infos[i]?.map Inf.k).getD 0=ik;rw[hx];rfl
  have oT:=Own.new ha 44 ha.length [iv 0,iv 0];have kT:Keep (fun _=>False) ha (ha++[row 44 ha.length [iv 0,iv 0]]):=Keep.push _ _ _;simp only[ZG,↓reduceIte,ZA,ZB,ZC,hi,h0,and_self,Z0,Nat.mul_one,hld,mbl,ZD,ZE,ZF];refine XH_own oT rfl (by simp [Value.cells]) rfl (fun hb q1 q2 q3=>?_);have oTb:Own hb ha.length 44 [iv 3,iv i]:=by simpa [Value.cells] using q1
  have kab:Keep (fun _=>False) ha hb:=kT.trans' q2 (fun c hc e=>by omega);have k0b:=i6.trans kab;have oIb:=i7.keep kab (fun e=>e);have hk1:ldc hb b2 (o2+i*4)=some (iv ik):=by
   obtain ⟨b3,o3,c3,e3,_,hld3⟩:=rds_fld (by omega) Inf.len (im.keep k0b (fun _ _ e=>e)).ri hx;have hk3:=hld3 0 (by omega);rw[e2] at e3;cases e3
   simpa only [Inf.cells,Z7,Z9,Nat.add_zero] using hk3
  have hgl:S.globals.length=i:=by rw[gg];show 0+i=i;omega
  have hmb:h4.length<ha.length:=i3.own.lt
  by_cases dk:ik=2
  ·have hf:S.fits (6,(i:Int)) []:=.inl ⟨rfl,by show ¬ (i:Int)<0;omega,by show ¬ (S.infos.length:Int)<=(i:Int);rw[gi];exact fun e=>by have e':(C.infos.length:Int)<=i:=e;omega,by show (([]:List (Int × Int)).length:Int)=S.fr (i:Int);rw[HS.fr,gi,Z0];show 0=(C.infos[i]?.map Inf.f).getD 0;rw[hx];rfl⟩
   have hp:S.put (6,(i:Int)) []=if S.size-(S.now.length:Int)<((S.all (6,(i:Int)) []).length:Int) then (((0:Int),(0:Int)),(12:Int),S) else (((4:Int),(S.now.length:Int)),(0:Int),S.laid (S.all (6,(i:Int)) [])):=by rw[HS.put,if_pos ⟨hf,by simp⟩]
   have sb:=i3.keepF kab;simp only[ZG,↓reduceIte,ZA,ZB,ZC,oIb.cells.ld,mbl,ZD,ZE,ZF,e2,h0,hi3,and_self,Z0,hk1,dk];refine XX_of (Put_ok sb i4.fresh (6,(i:Int)) (ys:=[]) (u:=.slice none 0 0) .nil (by simp) (fun _=>by simp)) (fun res hc hlec hn=>?_);obtain ⟨kc,rfl,L1,s1,sm1⟩:=hn;refine .ret ?_;have hcl:hb.length<=hc.length:=kc.len;have hbl:hb.length=ha.length+1:=by rw[q3];simp
   have zT:L.cls ha.length=0:=i3.c0 _ (Zh _);have zI:L.cls h.length=0:=i5 _ (by omega);have oTc:=oTb.keep kc (by simp [Mine,zT]);have oIc:=oIb.keep kc (by simp [Mine,zI]);have kmine:∀ (q:Nat),q<h.length -> ¬ Mine L q:=fun q e c=>c (i5 q (by omega))
   have k0c:Keep (fun _=>False) h hc:=k0b.trans' kc (fun c hc e=>kmine c hc e);simp only[ZG,↓reduceIte,ZA,ZB,ZC,wv,mbl,ZD,ZE,ZF];refine XH_own oTc rfl (by simp [Value.cells]) rfl (fun hd r1 r2 r3=>?_);have oTd:Own hd ha.length 44 [iv (S.put (6,(i:Int)) []).1.1,iv (S.put (6,(i:Int)) []).1.2]:=by simpa [Value.cells] using r1
   have z1T:L1.cls ha.length=0:=(sm1 _ (by omega)).2 zT;have s1d:=s1.keep r2 (fun q hq e=>hq (by rw[e];exact z1T));have oId:=oIc.keep r2 (fun e=>by have:=i7.lt;omega);have k0d:Keep (fun _=>False) h hd:=k0c.trans' r2 (fun c hc e=>by have:=i7.lt;omega)
   by_cases hroom:S.size-(S.now.length:Int)<((S.all (6,(i:Int)) []).length:Int)
   ·rw[if_pos hroom] at hp
    have e12:(S.put (6,(i:Int)) []).2.1=12:=by rw[hp]
    simp only[ZG,↓reduceIte,ZA,ZB,ZC,e12,mbl,ZD,ZE,ZF];refine out .ret _ _ _ _ (by intro e;cases e) ?_;simp only[ZG,↓reduceIte,ZA,ZB,ZC];refine hΨ _ _ (fin_ret (rv2 rfl rfl ⟨k0d,?_⟩));unfold NewO;have hno:(HS.start C texts words).gls (i+1)=none:=by
     rw[HS.gls,i2]
     show S.gl i=none
     rw[HS.gl,if_pos (by rw[hik];exact dk),if_neg (by rw[e12];omega)]
    rw[if_pos hcond,gls_none hno (by omega)];rfl
   ·rw[if_neg hroom] at hp
    have e12:(S.put (6,(i:Int)) []).2.1=0:=by rw[hp]
    have hpg:(S.put (6,(i:Int)) []).2.2.globals.length=i:=by rw[(put_img S _ _).2.2.2.2.1];exact hgl
    have hpw:ww (S.put (6,(i:Int)) []).2.2.globals=ww S.globals:=by rw[(put_img S _ _).2.2.2.2.1]
    have hcell:Value.cells (.int .i64 0) = #[iv 0]:=rfl;simp only[ZG,↓reduceIte,ZA,ZB,ZC,e12,mbl,ZD,ZE,ZF];have s1x:Hp hd h4.length L1 (S.put (6,(i:Int)) []).2.2:=s1d;generalize hr:S.put (6,(i:Int)) []=r at *;obtain ⟨rw1,re,rS⟩:=r;simp only at oTd s1x e12 hpg hpw;have eg:rS.globals=S.globals:=by have:=(put_img S (6,(i:Int)) []).2.2.2.2.1;rw[hr] at this;exact this
    have sg:=s1x.rg;obtain ⟨vg',hf,p1,p2,p3,p4⟩:=app1 (bytes:=16) (xs:=[iv rw1.1,iv rw1.2]) sg rfl rfl (by rw[hpg];omega) (by rw[hpg];omega);have kg:Keep (fun _=>False) hd (hd++[row 44 (hd).length [iv rw1.1,iv rw1.2]]):=Keep.push _ _ _;obtain ⟨ga',gc',hvg'⟩:=row_shape p2.rds;simp only[ZG,↓reduceIte,ZA,ZB,ZC,oTd.cells.lds 0 2 (by simp),s1x.own.cells.ld,(s1x.keepF kg).own.cells.ld,mbl,ZD,ZE,ZF,ct1,p1];have zb:¬ bk L1.vg h4.length:=fun e=>by have:=s1x.c5 _ e;rw[s1x.c1] at this;omega
    have ownF:=s1x.own.keep p3 zb;rw[hvg'];refine XH_own ownF rfl (by simp [Value.cells]) rfl (fun hg r1 r2 r3=>?_);rw[<- hvg'] at r1;have ownG:Own hg h4.length 79 [.pointer (some ⟨L1.bs,0,none⟩),L1.vi,.slice none 0 0,L1.vt,.slice none 0 0,iv 0,L1.vk,.map (some L1.mb),.map L1.mo,vg']:=by
     rw[hvg'] at r1 ⊢
     simpa [Value.cells] using r1
    have kfg:Keep (fun q=>q=h4.length\/bk L1.vg q) hd hg:=(p3.mono (fun q e=>.inr e)).trans (r2.mono fun q e=>.inl e);have hvq:∀ q,bk vg' q->bk L1.vg q\/(hd).length<=q:=p4;have p2':Ows hg 44 2 vg' (S.globals++[rw1]).length (ww (S.globals++[rw1])):=by
     rw[ww_app,Z2];have:=p2.keep r2 (fun q e c=>by
      rcases hvq q e with a|a
      ·rw[c] at a;exact zb a
      ·have:=s1x.own.lt;omega)
     rw[hpg,eg] at this;rw[hgl];exact this
    obtain ⟨L',s',sm'⟩:=s1x.appg kfg ownG p2' hvq;simp only[ZG,↓reduceIte,ZA,ZB,ZC,hwi];refine next (i+1,{ rS with globals:=S.globals++[rw1] },L') _ _ _ ⟨by omega,?_,s',?_,?_,?_,?_⟩ ⟨rfl,rfl,rfl,rfl,rfl,rfl,?_,trivial⟩ (by simp only;omega)
    ·rw[HS.gls,i2]
     show S.gl i=_
     rw[HS.gl,if_pos (by rw[hik];exact dk),hr,if_pos e12]
    ·have:=i4.put (6,(i:Int)) [] (by rw[gi];exact hF)
     rw[hr] at this;exact ⟨this.bw,this.hi⟩
    ·intro q hq
     exact (sm' q (by omega)).2 ((sm1 q (by omega)).2 (i5 q hq))
    ·exact (k0d.trans' p3 (fun c hc e=>by have a:=s1x.c5 _ e;have b:=(sm1 c (by omega)).2 (i5 c (by omega));omega)).trans' r2 (fun c hc e=>by omega)
    ·exact (oId.keep p3 (fun e=>by have a:=s1x.c5 _ e;have b:=(sm1 h.length (by omega)).2 (i5 h.length (by omega));omega)).keep r2 (fun e=>by omega)
    ·simp only[Za,Z4];rfl
  ·have sb:=i3.keepF kab
   simp only[ZG,↓reduceIte,ZA,ZB,ZC,oIb.cells.ld,mbl,ZD,ZE,ZF,e2,h0,hi3,and_self,Z0,hk1,dk];have hw3:wc ((3:Int),(i:Int))=[3,(i:Int)]:=rfl;have sg:=sb.rg;obtain ⟨vg',hf,p1,p2,p3,p4⟩:=app1 (bytes:=16) (xs:=[iv (((3:Int),(i:Int)):Int × Int).1,iv (((3:Int),(i:Int)):Int × Int).2]) sg rfl rfl (by rw[hgl];omega) (by rw[hgl];omega);have kg:Keep (fun _=>False) hb (hb++[row 44 (hb).length [iv (((3:Int),(i:Int)):Int × Int).1,iv (((3:Int),(i:Int)):Int × Int).2]]):=Keep.push _ _ _;obtain ⟨ga',gc',hvg'⟩:=row_shape p2.rds;simp only[ZG,↓reduceIte,ZA,ZB,ZC,oTb.cells.lds 0 2 (by simp),sb.own.cells.ld,(sb.keepF kg).own.cells.ld,mbl,ZD,ZE,ZF,ct1,p1];have zb:¬ bk L.vg h4.length:=fun e=>by have:=sb.c5 _ e;rw[sb.c1] at this;omega
   have ownF:=sb.own.keep p3 zb;rw[hvg'];refine XH_own ownF rfl (by simp [Value.cells]) rfl (fun hg r1 r2 r3=>?_);rw[<- hvg'] at r1;have ownG:Own hg h4.length 79 [.pointer (some ⟨L.bs,0,none⟩),L.vi,.slice none 0 0,L.vt,.slice none 0 0,iv 0,L.vk,.map (some L.mb),.map L.mo,vg']:=by
    rw[hvg'] at r1 ⊢
    simpa [Value.cells] using r1
   have kfg:Keep (fun q=>q=h4.length\/bk L.vg q) hb hg:=(p3.mono (fun q e=>.inr e)).trans (r2.mono fun q e=>.inl e);have hvq:∀ q,bk vg' q->bk L.vg q\/(hb).length<=q:=p4;have p2':Ows hg 44 2 vg' (S.globals++[(((3:Int),(i:Int)):Int × Int)]).length (ww (S.globals++[(((3:Int),(i:Int)):Int × Int)])):=by
    rw[ww_app,Z2];have:=p2.keep r2 (fun q e c=>by
     rcases hvq q e with a|a
     ·rw[c] at a;exact zb a
     ·have:=sb.own.lt;omega)
    rw[hgl,(show S.globals=S.globals from rfl)] at this;rw[hgl];exact this
   obtain ⟨L',s',sm'⟩:=sb.appg kfg ownG p2' hvq;simp only[ZG,↓reduceIte,ZA,ZB,ZC,hwi];refine next (i+1,{ S with globals:=S.globals++[(((3:Int),(i:Int)):Int × Int)] },L') _ _ _ ⟨by omega,?_,s',?_,?_,?_,?_⟩ ⟨rfl,rfl,rfl,rfl,rfl,rfl,?_,trivial⟩ (by simp only;omega)
   ·rw[HS.gls,i2]
    show S.gl i=_
    rw[HS.gl,if_neg (by rw[hik];exact dk)]
   ·exact ⟨i4.bw,i4.hi⟩
   ·intro q hq
    have hbl:hb.length=ha.length+1:=by rw[q3];simp
    exact (sm' q (by omega)).2 (i5 q hq)
   ·exact (k0b.trans' p3 (fun c hc e=>by have a:=sb.c5 _ e;have b:=i5 c (by omega);omega)).trans' r2 (fun c hc e=>by omega)
   ·exact (oIb.keep p3 (fun e=>by have a:=sb.c5 _ e;have b:=i5 h.length (by omega);omega)).keep r2 (fun e=>by omega)
   ·simp only[Za,Z4];rfl
 ·have hie:i=C.tops.length:=by omega
  subst hie;simp only[ZG,↓reduceIte,ZA,ZB,ZC,hi];refine out (.exit 0) _ _ _ _ (by intro e;cases e) ?_;simp only[ZG,↓reduceIte,ZA,ZB,ZC];refine hΨ _ _ (fin_ret (rv2 rfl rfl ⟨i6,?_⟩));unfold NewO;rw[if_pos hcond,i2];exact ⟨_,_,rfl,i3,fun q e=>i5 q (by omega)⟩
end
end Go.S19

namespace Go.S19
open Go Go.Eng Go.Proofs Go.Chk
theorem rvi {e l:PE} {h:AH} {ds:List Dfr} {x:RX} {b:Nat} {t:TypeId} {a1 a2 a3 a4 a5 a6:Value} {K:List Value->Prop} (hx:rx e l x=some (.pointer (some ⟨b,0,none⟩))) (hb:Own h b t [a1,a2,a3,a4,a5,a6]) (hk:K [.agg #[a1,a2,a3,a4,a5,a6]]) :
 rvK Tryd.prog ⟨e,l,h,ds⟩ [.c x (.ldn 6)] K:=by
 have hc:hcell h b=some [a1,a2,a3,a4,a5,a6]:=hb.cells;simp only[rvK,hx,vK,uval,hc,Option.bind_some,rK];exact hk
def tinyC:Cx:=⟨[⟨1,1,0,0⟩,⟨2,0,0,3⟩],[1,0,0,1,3,5],0,[0,1],0,[0,0,0,0,2]⟩
theorem tiny_ok (h:AH):Gets Tryd.prog 17 [] h (fun res h'=>Keep (fun _=>False) h h' /\ ∃ vi vc vp vk,res = .ret (.agg #[vi,vc,.slice none 0 0,vp,iv 0,vk])/\Img h' tinyC vi vc (.slice none 0 0) vp vk/\(∀ q,bk vi q\/bk vk q->h.length<=q/\q<h'.length)
 /\ Ows h' 91 4 vi 2 (rowsOf Inf.cells tinyC.infos)/\Ows h' 3 1 vk 5 (ns tinyC.cons)):=by
 refine Gets.of (keep:=false) hP (draw_ok hM) k17 (by rfl) (fun Ψ hΨ=>?_);simp only[ZG,↓reduceIte,ZA,ZB,ZC,r17,YE,YC,YO,YA,YL,YX,YS,Ya,Yb,Yl,Yf,Yg,Yi,Ym,Yk,Yt,Yn,Yz,Yp,Yq,Yd,mbl,ZD,ZE,ZF];have o1:=Own.new h 26 h.length [.slice none 0 0,.slice none 0 0,.slice none 0 0,.slice none 0 0,.int .i64 0,.slice none 0 0];have k1:Keep (fun _=>False) h (h++[row 26 h.length [.slice none 0 0,.slice none 0 0,.slice none 0 0,.slice none 0 0,.int .i64 0,.slice none 0 0]]):=Keep.push _ _ _;have l1:(h++[row 26 h.length [.slice none 0 0,.slice none 0 0,.slice none 0 0,.slice none 0 0,.int .i64 0,.slice none 0 0]]).length=h.length+1:=by simp
 generalize h++[row 26 h.length [.slice none 0 0,.slice none 0 0,.slice none 0 0,.slice none 0 0,.int .i64 0,.slice none 0 0]]=h1 at o1 k1 l1 ⊢;have o2:=Own.new h1 91 h1.length [.int .i64 1,.int .i64 1,.int .i64 0,.int .i64 0,.int .i64 2,.int .i64 0,.int .i64 0,.int .i64 3];have k2:Keep (fun _=>False) h1 (h1++[row 91 h1.length [.int .i64 1,.int .i64 1,.int .i64 0,.int .i64 0,.int .i64 2,.int .i64 0,.int .i64 0,.int .i64 3]]):=Keep.push _ _ _;have l2:(h1++[row 91 h1.length [.int .i64 1,.int .i64 1,.int .i64 0,.int .i64 0,.int .i64 2,.int .i64 0,.int .i64 0,.int .i64 3]]).length=h1.length+1:=by simp
 generalize h1++[row 91 h1.length [.int .i64 1,.int .i64 1,.int .i64 0,.int .i64 0,.int .i64 2,.int .i64 0,.int .i64 0,.int .i64 3]]=h2 at o2 k2 l2 ⊢;have o3:=Own.new h2 3 h2.length [.int .i64 1,.int .i64 0,.int .i64 0,.int .i64 1,.int .i64 3,.int .i64 5];have k3:Keep (fun _=>False) h2 (h2++[row 3 h2.length [.int .i64 1,.int .i64 0,.int .i64 0,.int .i64 1,.int .i64 3,.int .i64 5]]):=Keep.push _ _ _;have l3:(h2++[row 3 h2.length [.int .i64 1,.int .i64 0,.int .i64 0,.int .i64 1,.int .i64 3,.int .i64 5]]).length=h2.length+1:=by simp
 generalize h2++[row 3 h2.length [.int .i64 1,.int .i64 0,.int .i64 0,.int .i64 1,.int .i64 3,.int .i64 5]]=h3 at o3 k3 l3 ⊢;have o4:=Own.new h3 3 h3.length [.int .i64 0,.int .i64 1];have k4:Keep (fun _=>False) h3 (h3++[row 3 h3.length [.int .i64 0,.int .i64 1]]):=Keep.push _ _ _;have l4:(h3++[row 3 h3.length [.int .i64 0,.int .i64 1]]).length=h3.length+1:=by simp
 generalize h3++[row 3 h3.length [.int .i64 0,.int .i64 1]]=h4 at o4 k4 l4 ⊢;have o5:=Own.new h4 3 h4.length [.int .i64 0,.int .i64 0,.int .i64 0,.int .i64 0,.int .i64 2];have k5:Keep (fun _=>False) h4 (h4++[row 3 h4.length [.int .i64 0,.int .i64 0,.int .i64 0,.int .i64 0,.int .i64 2]]):=Keep.push _ _ _;have l5:(h4++[row 3 h4.length [.int .i64 0,.int .i64 0,.int .i64 0,.int .i64 0,.int .i64 2]]).length=h4.length+1:=by simp
 generalize h4++[row 3 h4.length [.int .i64 0,.int .i64 0,.int .i64 0,.int .i64 0,.int .i64 2]]=h5 at o5 k5 l5 ⊢;have k05:=(((k1.trans k2).trans k3).trans k4).trans k5;refine XH_own ((((o1.keep k2 (fun e=>e)).keep k3 (fun e=>e)).keep k4 (fun e=>e)).keep k5 (fun e=>e)) rfl (by simp [Value.cells]) rfl (fun h6 q1 q2 q3=>?_);simp only[ZG,↓reduceIte,ZA,ZB,ZC];have q1':Own h6 h.length 26 [.slice (some ⟨h1.length,0,none⟩) 2 2,.slice (some ⟨h2.length,0,none⟩) 6 6,.slice none 0 0,.slice (some ⟨h3.length,0,none⟩) 2 2,iv 0,.slice (some ⟨h4.length,0,none⟩) 5 5]:=by simpa [Value.cells] using q1
 have ne:∀ q,h1.length<=q -> ¬ q=h.length:=fun q e c=>by omega
 have p2:=(((o2.keep k3 (fun e=>e)).keep k4 (fun e=>e)).keep k5 (fun e=>e)).keep q2 (ne _ (by omega));have p3:=((o3.keep k4 (fun e=>e)).keep k5 (fun e=>e)).keep q2 (ne _ (by omega));have p4:=(o4.keep k5 (fun e=>e)).keep q2 (ne _ (by omega));have p5:=o5.keep q2 (ne _ (by omega));refine hΨ _ _ (fin_ret (rvi rfl q1' ⟨k05.trans' q2 (fun c hc e=>by omega),_,_,_,_,rfl,⟨.mk p2.cells (by simp) rfl,.mk p3.cells (by simp) rfl,⟨none,0,rfl⟩,.mk p4.cells (by simp) rfl,.mk p5.cells (by simp) rfl⟩,?_,.mk p2 rfl (Zh _) rfl,.mk p5 rfl (Zh _) rfl⟩));rintro q (e|e)
 ·have:q=h1.length:=e
  omega
 ·have:q=h4.length:=e
  omega
theorem SameWords_ok {h:AH} {u v:Value} {xs ys:List (Int × Int)} (hu:Rds h 2 u xs.length (ww xs)) (hv:Rds h 2 v ys.length (ww ys)) (hm:xs.length<=9223372036854775807):Gets Tryd.prog 13 [u,v] h (fun res h'=>h'=h/\res = .ret (.bool (decide (xs=ys)))):=by
 refine Gets.of (keep:=false) hP (draw_ok hM) k13 (by rfl) (fun Ψ hΨ=>?_);obtain ⟨ua,uc,rfl⟩:=row_shape hu;obtain ⟨va,vc,rfl⟩:=row_shape hv
 by_cases hl:(xs.length:Int)=(ys.length:Int)
 case neg =>
  simp only[ZG,↓reduceIte,ZA,ZB,ZC,r13,YE,YC,YO,YA,YL,YX,YS,Ya,Yb,Yl,Yf,Yg,Yi,Ym,Yk,Yt,Yn,Yz,Yp,Yq,Yd,hl,mbl,ZD,ZE,ZF];have hne:¬ xs=ys:=fun e=>hl (by rw[e])
  exact hΨ _ _ (fin_ret (rv1 rfl ⟨rfl,by simp [hne,tup]⟩))
 simp only[ZG,↓reduceIte,ZA,ZB,ZC,r13,YE,YC,YO,YA,YL,YX,YS,Ya,Yb,Yl,Yf,Yg,Yi,Ym,Yk,Yt,Yn,Yz,Yp,Yq,Yd,hl,mbl,ZD,ZE,ZF];refine XLo_rule (α:=Nat) (fun i=>[(0,.slice ua xs.length uc),(1,.slice va ys.length vc),(4,.bool false),(5,iv i)])
  (fun i h'=>i<=ys.length/\h'=h /\ ∀ j,j<i->xs[j]?=ys[j]?) (fun i=>ys.length-i) 0 ⟨Nat.zero_le _,rfl,fun j hj=>by omega⟩ ⟨rfl,rfl,rfl,rfl,trivial⟩ ?_
 rintro i h1 Ψ2 ⟨i1,rfl,i3⟩ next out
 by_cases hi:(i:Int)<(ys.length:Int)
 ·have h0:0<=(i:Int):=by omega
  have hw:IntKind.i64.wrap ((i:Int)+1)=i+1:=i64w (by omega) (by omega);obtain ⟨b1,o1,c1,e1,_,hl1⟩:=rds_w hu h0 (by omega);obtain ⟨b2,o2,c2,e2,_,hl2⟩:=rds_w hv h0 hi;cases e1;cases e2;rw[Z0] at hl1 hl2;have hlx:i<xs.length:=by omega
  have hly:i<ys.length:=by omega
  have ex:wat xs (i:Int)=xs[i]:=by rw[wat,Z0,Z1 hlx];rfl
  have ey:wat ys (i:Int)=ys[i]:=by rw[wat,Z0,Z1 hly];rfl
  rw[ex] at hl1;rw[ey] at hl2
  by_cases hc:xs[i].1=ys[i].1/\xs[i].2=ys[i].2
  ·have he:xs[i]=ys[i]:=Prod.ext hc.1 hc.2
   simp only[ZG,↓reduceIte,ZA,ZB,ZC,hl,hi,h0,and_self,Z0,hl1,hl2,ceq_w,hc.1,hc.2,hw,mbl,ZD,ZE,ZF];refine next (i+1) _ _ _ ⟨by omega,rfl,fun j hj=>?_⟩ ⟨rfl,rfl,rfl,?_,trivial⟩ (by omega)
   ·by_cases hji:j<i
    ·exact i3 j hji
    ·have:j=i:=by omega
     subst this;rw[Z1 hlx,Z1 hly,he]
   ·simp only[Za,Z4];rfl
  ·have hne:¬ xs=ys:=fun e=>hc (by subst e;exact ⟨rfl,rfl⟩)
   simp only[ZG,↓reduceIte,ZA,ZB,ZC,hl,hi,h0,and_self,Z0,hl1,hl2,ceq_w,hc,mbl,ZD,ZE,ZF];refine out .ret _ _ _ _ (by intro e;cases e) ?_;simp only[ZG,↓reduceIte,ZA,ZB,ZC];exact hΨ _ _ (fin_ret (rv1 rfl ⟨rfl,by simp [hne,tup]⟩))
 ·have hie:i=ys.length:=by omega
  simp only[ZG,↓reduceIte,ZA,ZB,ZC,hl,hi];refine out (.exit 0) _ _ _ _ (by intro e;cases e) ?_;simp only[ZG,↓reduceIte,ZA,ZB,ZC];have he:xs=ys:=by
   refine List.ext_getElem? (fun j=>?_)
   by_cases hj:j<i
   ·exact i3 j hj
   ·rw[Z3 (by omega),Z3 (by omega)]
  exact hΨ _ _ (fin_ret (rv1 rfl ⟨rfl,by simp [he,tup]⟩))
theorem fol_mono {S:HS}:∀ {n m:Nat} {x y:Int × Int},S.fol n x=some y->n<=m->S.fol m x=some y:=by
 intro n
 induction n with
 | zero=>intro m x y h;cases h
 | succ n ih =>
   intro m x y h hm;obtain ⟨m,rfl⟩:∃ k,m=k+1:=⟨m-1,by omega⟩
   rw[HS.fol] at h ⊢
   split
   ·rename_i c;rw[if_pos c] at h
    split
    ·rename_i d;rw[if_pos d] at h;exact ih h (by omega)
    ·rename_i d;rw[if_neg d] at h;exact h
   ·rename_i c;rw[if_neg c] at h;exact h
theorem fol_one {S:HS} {n m:Nat} {x y z:Int × Int} (h1:S.fol n x=some y) (h2:S.fol m x=some z):y=z:=by
 have a:=fol_mono h1 (Nat.le_max_left n m);have b:=fol_mono h2 (Nat.le_max_right n m);rw[a] at b;exact Option.some.inj b
end Go.S19

namespace Go.S19
open Go Go.Eng Go.Proofs Go.Chk
structure Obj (S:HS) (k:Int) (w:Int × Int) (ys:List (Int × Int)):Prop where
 beg:mget k S.begins=some ((S.all w ys).length:Int)
 wds:∀ j:Nat,j<(S.all w ys).length->gx S.now (k+j)=wat (S.all w ys) j
 fit:S.fits w ys
 k0:0<=k
theorem gx_app {a c:List (Int × Int)} {i:Int} (h0:0<=i) (h:i<a.length):gx (a++c) i=gx a i:=by
 unfold gx;rw[if_pos ⟨h0,by simp;omega⟩,if_pos ⟨h0,h⟩];exact wat_app (by omega)
theorem gx_app2 {a c:List (Int × Int)} {j:Nat} (h:j<c.length):gx (a++c) ((a.length:Int)+j)=wat c j:=by
 unfold gx;rw[if_pos ⟨by omega,by simp;omega⟩];unfold wat;rw[show ((a.length:Int)+j).toNat=a.length+j by omega,List.getElem?_append_right (by omega),Z0]
 congr 2
 omega
theorem all_len (S:HS) (w:Int × Int) (ys:List (Int × Int)):ys.length+1<=(S.all w ys).length:=by unfold HS.all;split<;>simp
theorem all_zero (S:HS) (w:Int × Int) (ys:List (Int × Int)):wat (S.all w ys) 0=w:=by unfold HS.all wat;split<;>rfl
theorem fits_kind {S:HS} {w:Int × Int} {ys:List (Int × Int)} (f:S.fits w ys):6<=w.1/\w.1<=10:=by
 rcases f with f|f|f|f|f<;>omega
def tiles:Int->List (Int × Int)->Int->Prop
 | a,[],e=>a=e
 | a,p::l,e=>p.1=a/\1<=p.2/\tiles (a+p.2) l e
theorem tiles_app:∀ {l:List (Int × Int)} {a e n:Int},tiles a l e->1<=n->tiles a (l++[(e,n)]) (e+n):=by
 intro l
 induction l with
 | nil=>intro a e n h hn;cases h;exact ⟨rfl,hn,rfl⟩
 | cons p l ih=>intro a e n h hn;exact ⟨h.1,h.2.1,ih h.2.2 hn⟩
theorem tiles_le:∀ {l:List (Int × Int)} {a e:Int},tiles a l e->a<=e:=by
 intro l
 induction l with
 | nil=>intro a e h;cases h;omega
 | cons p l ih=>intro a e h;have:=ih h.2.2;have:=h.2.1;omega
theorem tiles_get:∀ {l1:List (Int × Int)} {a e:Int} {p:Int × Int} {l2:List (Int × Int)},tiles a (l1++p::l2) e->a<=p.1/\mget p.1 (l1++p::l2)=some p.2:=by
 intro l1
 induction l1 with
 | nil=>intro a e p l2 h;exact ⟨by rw[h.1];omega,by simp [mget]⟩
 | cons q l1 ih =>
   intro a e p l2 h;obtain ⟨h1,h2,h3⟩:=h;obtain ⟨i1,i2⟩:=ih h3;refine ⟨by omega,?_⟩
   show (if q.1=p.1 then some q.2 else mget p.1 (l1++p::l2))=_
   rw[if_neg (by omega)];exact i2
theorem tiles_laid {S:HS} {ys:List (Int × Int)} (t:tiles 0 S.begins S.now.length) (h:1<=ys.length):tiles 0 (S.laid ys).begins (S.laid ys).now.length:=by
 have:=tiles_app t (n:=(ys.length:Int)) (by omega)
 show tiles 0 (S.begins++[((S.now.length:Int),(ys.length:Int))]) ((S.now++ys).length:Int)
 rw[Z2];simpa using this
end Go.S19

namespace Go.S19
open Go Go.Eng Go.Proofs Go.Chk
noncomputable def fsOf (t:TypeId):Array Field:=match Tryd.prog.underlying t with
 | some (.struct fs)=>fs
 | _=>#[]
theorem u_img:Tryd.prog.underlying 26=some (.struct (fsOf 26)):=by kernel_rfl
theorem u_inf:Tryd.prog.underlying 91=some (.struct (fsOf 91)):=by kernel_rfl
theorem u_wrd:Tryd.prog.underlying 44=some (.struct (fsOf 44)):=by kernel_rfl
theorem u_op:Tryd.prog.underlying 58=some (.struct (fsOf 58)):=by kernel_rfl
theorem f_img:((fsOf 26).map fun f=>(f.type,f.offset)).toList=[(22,0),(23,1),(24,2),(23,3),(3,4),(23,5)]:=by kernel_rfl
theorem f_inf:((fsOf 91).map fun f=>(f.type,f.offset)).toList=[(3,0),(3,1),(3,2),(3,3)]:=by kernel_rfl
theorem f_wrd:((fsOf 44).map fun f=>(f.type,f.offset)).toList=[(3,0),(3,1)]:=by kernel_rfl
theorem f_op:((fsOf 58).map fun f=>(f.type,f.offset)).toList=[(3,0),(44,1),(44,3),(3,5),(28,6)]:=by kernel_rfl
theorem u_infs:Tryd.prog.underlying 22=some (.slice 91):=by kernel_rfl
theorem u_ints:Tryd.prog.underlying 23=some (.slice 3):=by kernel_rfl
theorem u_strs:Tryd.prog.underlying 24=some (.slice 9):=by kernel_rfl
theorem u_wrds:Tryd.prog.underlying 28=some (.slice 44):=by kernel_rfl
theorem u_ops:Tryd.prog.underlying 27=some (.slice 58):=by kernel_rfl
theorem u_str:Tryd.prog.underlying 9=some .string:=by kernel_rfl
theorem c_img:Tryd.prog.cellsOf 26=6:=by kernel_rfl
theorem c_inf:Tryd.prog.cellsOf 91=4:=by kernel_rfl
theorem c_wrd:Tryd.prog.cellsOf 44=2:=by kernel_rfl
theorem c_op:Tryd.prog.cellsOf 58=7:=by kernel_rfl
theorem c_int:Tryd.prog.cellsOf 3=1:=by kernel_rfl
theorem c_infs:Tryd.prog.cellsOf 22=1:=by kernel_rfl
theorem c_ints:Tryd.prog.cellsOf 23=1:=by kernel_rfl
theorem c_strs:Tryd.prog.cellsOf 24=1:=by kernel_rfl
theorem c_wrds:Tryd.prog.cellsOf 28=1:=by kernel_rfl
theorem len2 {α:Type} {l:List α} (h:l.length=2):∃ a b,l=[a,b]:=by
 match l,h with
 | [a,b],_=>exact ⟨a,b,rfl⟩
theorem len4 {α:Type} {l:List α} (h:l.length=4):∃ a b c e,l=[a,b,c,e]:=by
 match l,h with
 | [a,b,c,e],_=>exact ⟨a,b,c,e,rfl⟩
theorem len6 {α:Type} {l:List α} (h:l.length=6):∃ a b c e f g,l=[a,b,c,e,f,g]:=by
 match l,h with
 | [a,b,c,e,f,g],_=>exact ⟨a,b,c,e,f,g,rfl⟩
theorem len7 {α:Type} {l:List α} (h:l.length=7):∃ a b c e f g i,l=[a,b,c,e,f,g,i]:=by
 match l,h with
 | [a,b,c,e,f,g,i],_=>exact ⟨a,b,c,e,f,g,i,rfl⟩
structure Op where
 k:Int
 w:Int × Int
 x:Int × Int
 n:Int
 lv:Value
 ys:List (Int × Int)
def Op.cells (o:Op):List Value:=[iv o.k,iv o.w.1,iv o.w.2,iv o.x.1,iv o.x.2,iv o.n,o.lv]
theorem Op.len (o:Op):o.cells.length=7:=rfl
def Op.Q (h:AH) (N:Nat) (o:Op):Prop:=Rds h 2 o.lv o.ys.length (ww o.ys)/\o.ys.length<=N/\rng o.w.1/\rng o.w.2/\rng o.n/\rng o.x.1/\rng o.x.2 /\ ∀ y∈o.ys,rng y.1/\rng y.2
section
variable {H:Type} {h:AH} {N:Nat}
theorem word_of (B:Bulk H) {cs:List Value} {d:DataW H} (hr:Rd' Tryd.prog h 44 cs d):∃ w:Int × Int,cs=ns (wc w)/\rng w.1/\rng w.2:=by
 obtain ⟨hl,hf⟩:=rdT B u_wrd f_wrd hr;rw[c_wrd] at hl;obtain ⟨a,b,rfl⟩:=len2 hl;obtain ⟨d0,r0,_⟩:=hf 0 _ _ rfl;obtain ⟨d1,r1,_⟩:=hf 1 _ _ rfl;rw[c_int] at r0 r1;obtain ⟨n0,e0,g0⟩:=rdI kt3 r0;obtain ⟨n1,e1,g1⟩:=rdI kt3 r1;simp at e0 e1;subst e0;subst e1;exact ⟨(n0,n1),rfl,g0,g1⟩
theorem words_of (B:Bulk H) {v:Value} {d:DataW H} (hr:Rd' Tryd.prog h 28 [v] d) (hB:B.f d<=N):∃ ys:List (Int × Int),Rds h 2 v ys.length (ww ys)/\(∀ y∈ys,rng y.1/\rng y.2)/\ys.length<=N :=
 rdRow B (f:=fun x:Int × Int=>ns (wc x)) (Q:=fun y=>rng y.1/\rng y.2) u_wrds (fun x=>rfl) (fun cs d' r _=>by obtain ⟨w,e,g⟩:=word_of B r;exact ⟨w,e,g⟩) hr hB
theorem ints_of (B:Bulk H) {v:Value} {d:DataW H} (hr:Rd' Tryd.prog h 23 [v] d) (hB:B.f d<=N):∃ ys:List Int,Rds h 1 v ys.length (ns ys)/\(∀ y∈ys,rng y)/\ys.length<=N:=by
 obtain ⟨ys,a,b,c⟩:=rdRow B (f:=fun x:Int=>[iv x]) (Q:=rng) u_ints (fun x=>rfl) (fun cs d' r _=>by obtain ⟨w,e,g⟩:=rdI kt3 r;exact ⟨w,e,g⟩) hr hB;refine ⟨ys,?_,b,c⟩;have:ns ys=ys.flatMap fun x=>[iv x]:=by
  clear a b c
  induction ys with
  | nil=>rfl
  | cons y ys ih=>simp only[ns,List.map_cons,Zg] at ih ⊢;rw[ih];rfl
 rw[this];exact a
theorem texts_of (B:Bulk H) {v:Value} {d:DataW H} (hr:Rd' Tryd.prog h 24 [v] d) (hB:B.f d<=N):∃ ys:List ByteArray,Rds h 1 v ys.length (sts ys)/\(∀ y∈ys,y.size<=N)/\ys.length<=N:=by
 obtain ⟨ys,a,b,c⟩:=rdRow B (f:=fun x:ByteArray=>[Value.string x]) (Q:=fun y=>y.size<=N) u_strs (fun x=>rfl) (fun cs d' r hb=>by obtain ⟨w,e,g⟩:=rdS B u_str r;exact ⟨w,e,Nat.le_trans g hb⟩) hr hB;refine ⟨ys,?_,b,c⟩;have:sts ys=ys.flatMap fun x=>[Value.string x]:=by
  clear a b c
  induction ys with
  | nil=>rfl
  | cons y ys ih=>simp only[sts,List.map_cons,Zg] at ih ⊢;rw[ih];rfl
 rw[this];exact a
theorem inf_of (B:Bulk H) {cs:List Value} {d:DataW H} (hr:Rd' Tryd.prog h 91 cs d):∃ w:Inf,cs=ns w.cells/\rng w.k/\rng w.a/\rng w.f/\rng w.c:=by
 obtain ⟨hl,hf⟩:=rdT B u_inf f_inf hr;rw[c_inf] at hl;obtain ⟨a,b,c,e,rfl⟩:=len4 hl;obtain ⟨d0,r0,_⟩:=hf 0 _ _ rfl;obtain ⟨d1,r1,_⟩:=hf 1 _ _ rfl;obtain ⟨d2,r2,_⟩:=hf 2 _ _ rfl;obtain ⟨d3,r3,_⟩:=hf 3 _ _ rfl;rw[c_int] at r0 r1 r2 r3;obtain ⟨n0,e0,g0⟩:=rdI kt3 r0;obtain ⟨n1,e1,g1⟩:=rdI kt3 r1;obtain ⟨n2,e2,g2⟩:=rdI kt3 r2;obtain ⟨n3,e3,g3⟩:=rdI kt3 r3;simp at e0 e1 e2 e3;subst e0;subst e1;subst e2;subst e3;exact ⟨⟨n0,n1,n2,n3⟩,rfl,g0,g1,g2,g3⟩
theorem infs_of (B:Bulk H) {v:Value} {d:DataW H} (hr:Rd' Tryd.prog h 22 [v] d) (hB:B.f d<=N):∃ ys:List Inf,Rds h 4 v ys.length (rowsOf Inf.cells ys)/\(∀ w∈ys,rng w.k/\rng w.a/\rng w.f/\rng w.c)/\ys.length<=N :=
 rdRow B (f:=fun x:Inf=>ns x.cells) (Q:=fun w=>rng w.k/\rng w.a/\rng w.f/\rng w.c) u_infs (fun x=>rfl) (fun cs d' r _=>by obtain ⟨w,e,g⟩:=inf_of B r;exact ⟨w,e,g⟩) hr hB
structure Given (h:AH) (N:Nat) (C:Cx) (texts:List ByteArray) (vi vc vt vp vk:Value):Prop where
 im:Img h C vi vc vt vp vk
 rt:Rds h 1 vt texts.length (sts texts)
 nt:C.nt=texts.length
 li:C.infos.length<=N
 lc:C.code.length<=N
 lp:C.tops.length<=N
 lk:C.cons.length<=N
 lt:texts.length<=N
 gi:∀ w∈C.infos,rng w.k/\rng w.a/\rng w.f/\rng w.c
 gt:∀ y∈texts,y.size<=N
theorem image_of (B:Bulk H) {cs:List Value} {d:DataW H} (hr:Rd' Tryd.prog h 26 cs d) (hB:B.f d<=N):∃ C texts vi vc vt vp vk,cs=[vi,vc,vt,vp,iv C.main,vk]/\Given h N C texts vi vc vt vp vk:=by
 obtain ⟨hl,hf⟩:=rdT B u_img f_img hr;rw[c_img] at hl;obtain ⟨a,b,c,e,f,g,rfl⟩:=len6 hl;obtain ⟨d0,r0,b0⟩:=hf 0 _ _ rfl;obtain ⟨d1,r1,b1⟩:=hf 1 _ _ rfl;obtain ⟨d2,r2,b2⟩:=hf 2 _ _ rfl;obtain ⟨d3,r3,b3⟩:=hf 3 _ _ rfl;obtain ⟨d4,r4,b4⟩:=hf 4 _ _ rfl;obtain ⟨d5,r5,b5⟩:=hf 5 _ _ rfl;rw[c_infs] at r0;rw[c_ints] at r1 r3 r5;rw[c_strs] at r2;rw[c_int] at r4;obtain ⟨is,i1,i2,i3⟩:=infs_of B (v:=a) (N:=N) (by simpa using r0) (by omega);obtain ⟨co,c1,c2,c3⟩:=ints_of B (v:=b) (N:=N) (by simpa using r1) (by omega);obtain ⟨tx,t1,t2,t3⟩:=texts_of B (v:=c) (N:=N) (by simpa using r2) (by omega);obtain ⟨tp,p1,p2,p3⟩:=ints_of B (v:=e) (N:=N) (by simpa using r3) (by omega);obtain ⟨m,e4,_⟩:=rdI kt3 r4;obtain ⟨ks,k1,k2,k3⟩:=ints_of B (v:=g) (N:=N) (by simpa using r5) (by omega);simp at e4;subst e4;obtain ⟨ta,tc,ht⟩:=row_shape t1;exact ⟨⟨is,co,tx.length,tp,m,ks⟩,tx,a,b,c,e,g,rfl,⟨i1,c1,⟨ta,tc,ht⟩,p1,k1⟩,t1,rfl,i3,c3,p3,k3,t3,i2,t2⟩
theorem op_of (B:Bulk H) {cs:List Value} {d:DataW H} (hr:Rd' Tryd.prog h 58 cs d) (hB:B.f d<=N):∃ o:Op,cs=o.cells/\o.Q h N:=by
 obtain ⟨hl,hf⟩:=rdT B u_op f_op hr;rw[c_op] at hl;obtain ⟨a,b,c,e,f,g,i,rfl⟩:=len7 hl;obtain ⟨d0,r0,b0⟩:=hf 0 _ _ rfl;obtain ⟨d1,r1,b1⟩:=hf 1 _ _ rfl;obtain ⟨d2,r2,b2⟩:=hf 2 _ _ rfl;obtain ⟨d3,r3,b3⟩:=hf 3 _ _ rfl;obtain ⟨d4,r4,b4⟩:=hf 4 _ _ rfl;rw[c_int] at r0 r3;rw[c_wrd] at r1 r2;rw[c_wrds] at r4;obtain ⟨n0,e0,g0⟩:=rdI kt3 r0;obtain ⟨w,e1,g1⟩:=word_of B r1;obtain ⟨x,e2,g2⟩:=word_of B r2;obtain ⟨n3,e3,g3⟩:=rdI kt3 r3;obtain ⟨ys,l1,l2,l3⟩:=words_of B (v:=i) (N:=N) (by simpa using r4) (by omega);simp [ns,wc] at e0 e1 e2 e3;obtain ⟨rfl,rfl⟩:=e1;obtain ⟨rfl,rfl⟩:=e2;subst e0;subst e3;exact ⟨⟨n0,w,x,n3,i,ys⟩,rfl,l1,l3,g1.1,g1.2,g3,g2.1,g2.2,l2⟩
theorem ops_of (B:Bulk H) {v:Value} {d:DataW H} (hr:Rd' Tryd.prog h 27 [v] d) (hB:B.f d<=N):∃ os:List Op,Rds h 7 v os.length (os.flatMap Op.cells)/\(∀ o∈os,o.Q h N)/\os.length<=N :=
 rdRow B (f:=Op.cells) (Q:=fun o=>o.Q h N) u_ops Op.len (fun cs d' r hb=>op_of B r hb) hr hB
end
end Go.S19

namespace Go.S19
open Go Go.Eng Go.Proofs Go.Chk
def fld (ws:List (Int × Int)) (p c:Int):List (Int × Int):=(List.range c.toNat).map fun i:Nat=>gx ws (p+1+(i:Int))
def HS.fcn (S:HS) (hd:Int × Int) (n:Int):Int:=if hd.1=12 then 1 else if hd.1=6 then S.fr hd.2 else if hd.1=10 then 0 else n-1
theorem fld_len (ws:List (Int × Int)) (p c:Int):(fld ws p c).length=c.toNat:=by simp [fld]
theorem fld_get (ws:List (Int × Int)) (p c:Int) (i:Nat):(fld ws p c)[i]?=if i<c.toNat then some (gx ws (p+1+(i:Int))) else none:=by
 unfold fld;rw[List.getElem?_map]
 by_cases h:i<c.toNat
 ·rw[List.getElem?_range h,if_pos h];rfl
 ·rw[Z3 (by simp;omega),if_neg h];rfl
theorem fld_ext {ws ws':List (Int × Int)} {p p' c:Int} (h:∀ i:Nat,(i:Int)<c->gx ws (p+1+(i:Int))=gx ws' (p'+1+(i:Int))):fld ws p c=fld ws' p' c:=by
 unfold fld;exact List.map_congr_left fun i hi=>h i (by have:=List.mem_range.1 hi;omega)
theorem fcount_eq {S:HS} {p n:Int} (hn:mget p S.begins=some n):S.fcount (4,p)=S.fcn (gx S.now p) n:=by
 unfold HS.fcount HS.fcn HS.count;simp only[hn,Option.getD_some]
theorem flds_eq {S:HS} {p n:Int} (hn:mget p S.begins=some n):S.flds (4,p)=fld S.now p (S.fcn (gx S.now p) n):=by
 unfold HS.flds fld;rw[fcount_eq hn]
structure Kd (S:HS) (ws:List (Int × Int)) (p n:Int):Prop where
 k:6<=(gx ws p).1/\(gx ws p).1<=12
 k6:(gx ws p).1=6->0<=(gx ws p).2/\(gx ws p).2<S.infos.length/\0<=S.fr (gx ws p).2/\S.fr (gx ws p).2<n
 t6:(gx ws p).1=6->S.ik (gx ws p).2=2->n=S.fr (gx ws p).2+1/\2<=n\/S.fr (gx ws p).2=0/\n=2/\gx ws (p+1)=(1,0)
 k9:(gx ws p).1=9->n=2
 k10:(gx ws p).1=10->n=2/\gx ws (p+1)=(1,0)
 k11:(gx ws p).1=11->(gx ws p).2=n/\2<=n
 k12:(gx ws p).1=12->2<=n
theorem Kd.congr {S S':HS} {ws ws':List (Int × Int)} {p p' n:Int} (k:Kd S ws p n) (hi:S'.infos=S.infos) (h0:gx ws' p'=gx ws p) (h1:2<=n->gx ws' (p'+1)=gx ws (p+1)):Kd S' ws' p' n:=by
 have fr:∀ c,S'.fr c=S.fr c:=fun c=>by unfold HS.fr;rw[hi]
 have ik:∀ c,S'.ik c=S.ik c:=fun c=>by unfold HS.ik;rw[hi]
 refine ⟨by rw[h0];exact k.k,by rw[h0,hi,fr];exact k.k6,?_,by rw[h0];exact k.k9,?_,by rw[h0];exact k.k11,by rw[h0];exact k.k12⟩
 ·rw[h0,fr,ik]
  intro a b
  rcases k.t6 a b with c|⟨c,d,e⟩
  ·exact .inl c
  ·exact .inr ⟨c,d,by rw[h1 (by omega)];exact e⟩
 ·rw[h0]
  intro a;obtain ⟨b,c⟩:=k.k10 a;exact ⟨b,by rw[h1 (by omega)];exact c⟩
theorem Kd.fc {S:HS} {ws:List (Int × Int)} {p n:Int} (k:Kd S ws p n) (hn:1<=n):0<=S.fcn (gx ws p) n/\S.fcn (gx ws p) n<n:=by
 unfold HS.fcn
 split
 ·rename_i e;have:=k.k12 e;omega
 split
 ·rename_i e;have:=k.k6 e;omega
 split
 ·rename_i e;have:=k.k10 e;omega
 ·omega
theorem tiles_apart:∀ {l:List (Int × Int)} {a e:Int},tiles a l e -> ∀ {x y:Int × Int},x∈l->y∈l->x=y\/x.1+x.2<=y.1\/y.1+y.2<=x.1:=by
 intro l
 induction l with
 | nil=>intro a e _ x y hx;exact absurd hx (by simp)
 | cons p l ih =>
   intro a e h x y hx hy;obtain ⟨h1,h2,h3⟩:=h;have low:∀ {a e:Int} {l:List (Int × Int)},tiles a l e -> ∀ z∈l,a<=z.1:=by
    intro a e l
    induction l generalizing a with
    | nil=>intro _ z hz;exact absurd hz (by simp)
    | cons q l ih2 =>
      intro h z hz;obtain ⟨g1,g2,g3⟩:=h
      rcases Z5.1 hz with rfl|hz
      ·omega
      ·have:=ih2 g3 z hz;omega
   rcases Z5.1 hx with rfl|hx1<;>rcases Z5.1 hy with rfl|hy1
   ·exact .inl rfl
   ·have:=low h3 y hy1;exact .inr (.inl (by omega))
   ·have:=low h3 x hx1;exact .inr (.inr (by omega))
   ·exact ih h3 hx1 hy1
theorem tiles_in:∀ {l:List (Int × Int)} {a e:Int},tiles a l e -> ∀ {x:Int × Int},x∈l->a<=x.1/\1<=x.2/\x.1+x.2<=e:=by
 intro l
 induction l with
 | nil=>intro a e _ x hx;exact absurd hx (by simp)
 | cons p l ih =>
   intro a e h x hx;obtain ⟨h1,h2,h3⟩:=h;have:=tiles_le h3
   rcases Z5.1 hx with rfl|hx
   ·exact ⟨by omega,h2,by omega⟩
   ·have:=ih h3 hx;exact ⟨by omega,this.2.1,this.2.2⟩
theorem mem_mget:∀ {l:List (Int × Int)} {a e:Int},tiles a l e -> ∀ {x:Int × Int},x∈l->mget x.1 l=some x.2:=by
 intro l a e h x hx;obtain ⟨l1,l2,rfl⟩:=List.append_of_mem hx;exact (tiles_get h).2
theorem mget_in {k n:Int}:∀ {l:List (Int × Int)},mget k l=some n->(k,n)∈l:=by
 intro l
 induction l with
 | nil=>intro h;cases h
 | cons p l ih =>
   intro h;simp only[mget] at h
   split at h
   ·rename_i e;cases h;subst e;exact List.mem_cons_self
   ·exact List.mem_cons_of_mem _ (ih h)
theorem gx_set {ws:List (Int × Int)} {i j:Int} {x:Int × Int} (hi:0<=i/\i<ws.length):gx (ws.set i.toNat x) j=if j=i then x else gx ws j:=by
 unfold gx;rw[Zb]
 by_cases e:j=i
 ·subst e
  rw[if_pos hi,if_pos rfl];unfold wat;rw[List.getElem?_set_self (by omega)];rfl
 ·rw[if_neg e]
  split
  ·rename_i hj
   unfold wat;rw[List.getElem?_set_ne (by omega)]
  ·rfl
structure Inv (S:HS):Prop where
 inf:∀ i∈S.infos,0<=i.f
 sz:S.size<=1048576
 ln:(S.now.length:Int)<=S.size
 lo:(S.old.length:Int)<=S.size
 tn:tiles 0 S.begins S.now.length
 to:tiles 0 S.oldm S.old.length
 kn:∀ x∈S.begins,Kd S S.now x.1 x.2
 ko:∀ x∈S.oldm,(gx S.old x.1).1=13\/Kd S S.old x.1 x.2
 is:∀ x∈S.begins,(gx S.now x.1).1=12->S.sound (gx S.now (x.1+1))
 tm:∀ w,S.sound w -> ∃ m y,S.fol m w=some y
 tq:∀ w,∃ m r,S.mov m w=some r
theorem Inv.ok {S:HS} (v:Inv S):S.Ok:=by
 refine ⟨fun k n h=>?_,fun k n h h6=>?_⟩
 ·have:=tiles_in v.tn (mget_in h);exact this
 ·have t:=tiles_in v.tn (mget_in h)
  have e:gx S.now k=wat S.now k:=by rw[gx,if_pos (by simp at t;omega)]
  have:=(v.kn _ (mget_in h)).k6 (by simp only;rw[e];exact h6);simp only[e] at this;exact this
theorem Inv.oo {S:HS} (v:Inv S):S.OkOld:=fun k n h=>tiles_in v.to (mget_in h)
theorem sound_mono {S S':HS} (hi:S'.infos=S.infos) (hc:S'.cons=S.cons) (hb:∀ k,(mget k S.begins).isSome=true->(mget k S'.begins).isSome=true) {w:Int × Int} (h:S.sound w):S'.sound w:=by
 rcases h with h|⟨h1,h2⟩
 ·left
  unfold HS.plain HS.cn HS.ik HS.fr at h ⊢;rw[hi,hc];exact h
 ·exact .inr ⟨h1,hb _ h2⟩
theorem plain_congr {S S':HS} (hi:S'.infos=S.infos) (hc:S'.cons=S.cons) (w:Int × Int):S'.plain w ↔ S.plain w:=by
 unfold HS.plain HS.cn HS.ik HS.fr;rw[hi,hc]
theorem fol_congr {S S':HS} (hS:∀ w,S.lies w->((gx S'.now w.2).1=12 ↔ (gx S.now w.2).1=12)/\((gx S.now w.2).1=12->gx S'.now (w.2+1)=gx S.now (w.2+1)/\S.sound (gx S.now (w.2+1)))) :
 ∀ {m:Nat} {w y:Int × Int},S.sound w->S.fol m w=some y->S'.fol m w=some y:=by
 intro m
 induction m with
 | zero=>intro w y _ h;cases h
 | succ m ih =>
   intro w y hs h;rw[HS.fol] at h ⊢
   split at h
   ·rename_i h4
    rw[if_pos h4];have hl:S.lies w:=by
     rcases hs with hp|hl
     ·unfold HS.plain at hp;omega
     ·exact hl
    obtain ⟨h1,h2⟩:=hS w hl
    split at h
    ·rename_i h12
     rw[if_pos (h1.2 h12),(h2 h12).1];exact ih (h2 h12).2 h
    ·rename_i h12;rw[if_neg (fun e=>h12 (h1.1 e))];exact h
   ·rename_i h4;rw[if_neg h4];exact h
theorem mov_some {S S':HS} (hi:S'.infos=S.infos) (hc:S'.cons=S.cons) (hm:S'.oldm=S.oldm) (ho:S'.old=S.old):∀ {m:Nat} {w:Int × Int},(∃ r,S.mov m w=some r) -> ∃ r,S'.mov m w=some r:=by
 intro m
 induction m with
 | zero=>intro w ⟨r,h⟩;cases h
 | succ m ih =>
   intro w ⟨r,h⟩;rw[HS.mov] at h ⊢
   by_cases hp:S.plain w
   ·rw[if_pos ((plain_congr hi hc w).2 hp)];exact ⟨_,rfl⟩
   rw[if_neg (fun e=>hp ((plain_congr hi hc w).1 e)),hm,ho];rw[if_neg hp] at h
   split at h
   ·rename_i c
    rw[if_pos c]
    split at h
    ·rename_i c13;rw[if_pos c13];exact ⟨_,rfl⟩
    ·rename_i c13
     rw[if_neg c13]
     split at h
     ·rename_i c12;rw[if_pos c12];exact ih ⟨r,h⟩
     ·rename_i c12;rw[if_neg c12];split<;>exact ⟨_,rfl⟩
   ·rename_i c;rw[if_neg c];exact ⟨_,rfl⟩
end Go.S19

namespace Go.S19
open Go Go.Eng Go.Proofs Go.Chk
theorem lies_mem {S:HS} {w:Int × Int} (h:S.lies w):∃ n,mget w.2 S.begins=some n/\(w.2,n)∈S.begins:=by
 obtain ⟨n,hn⟩:=Z6.1 h.2;exact ⟨n,hn,mget_in hn⟩
theorem Inv.chain {S:HS} (v:Inv S) {w:Int × Int} (h:S.lies w) (h12:(gx S.now w.2).1=12):S.sound (gx S.now (w.2+1)):=by
 obtain ⟨n,_,hm⟩:=lies_mem h;exact v.is _ hm h12
theorem gx_zero {zs:List (Int × Int)} (h:1<=zs.length):gx zs 0=wat zs 0:=by rw[gx,if_pos (by omega)]
theorem gx_out {ws:List (Int × Int)} {i:Int} (h:¬ (0<=i/\i<ws.length)):gx ws i=(0,0):=by rw[gx,if_neg h]
theorem gx_laid {a c:List (Int × Int)} {j:Int} (h0:0<=j) (h:j<c.length):gx (a++c) ((a.length:Int)+j)=gx c j:=by
 have:=gx_app2 (a:=a) (c:=c) (j:=j.toNat) (by omega);rw[show ((j.toNat:Nat):Int)=j by omega] at this;rw[this,gx,if_pos ⟨h0,h⟩]
theorem mget_app_some {k n:Int} {l m:List (Int × Int)} (h:mget k l=some n):mget k (l++m)=some n:=by rw[mget_app,h]
theorem Inv.laid {S:HS} (v:Inv S) {zs:List (Int × Int)} (h1:1<=zs.length) (hs:(S.now.length:Int)+zs.length<=S.size) (hk:Kd S zs 0 zs.length) (h12:(gx zs 0).1≠12):Inv (S.laid zs):=by
 have hnew:gx (S.now++zs) S.now.length=gx zs 0:=by have:=gx_laid (a:=S.now) (c:=zs) (j:=0) (by omega) (by omega);simpa using this
 have hold:∀ x∈S.begins,∀ j,0<=j->j<x.2->gx (S.now++zs) (x.1+j)=gx S.now (x.1+j):=fun x hx j h0 hj=>by
  have:=tiles_in v.tn hx;exact gx_app (by omega) (by omega)
 have smono:∀ {w},S.sound w->(S.laid zs).sound w:=fun h=>sound_mono (S:=S) (S':=S.laid zs) rfl rfl (fun k hk=>by
  obtain ⟨n,hn⟩:=Z6.1 hk
  show (mget k (S.begins++_)).isSome=true
  rw[mget_app_some hn];rfl) h
 refine ⟨v.inf,v.sz,?_,v.lo,tiles_laid v.tn h1,v.to,?_,?_,?_,?_,fun w=>?_⟩
 ·show ((S.now++zs).length:Int)<=S.size
  rw[Z2];omega
 ·intro x hx
  rcases List.mem_append.1 (show x∈S.begins++[((S.now.length:Int),(zs.length:Int))] from hx) with hx|hx
  ·have t:=tiles_in v.tn hx
   refine (v.kn x hx).congr (S':=S.laid zs) rfl ?_ (fun h2=>hold x hx 1 (by omega) (by omega));have:=hold x hx 0 (by omega) (by omega)
   show gx (S.now++zs) x.1=gx S.now x.1
   simpa using this
  ·rw[Zd] at hx
   subst hx;exact hk.congr (S':=S.laid zs) rfl hnew (fun h2=>gx_laid (a:=S.now) (c:=zs) (by omega) (by omega))
 ·intro x hx
  have t:=v.ko x hx
  rcases t with t|t
  ·exact .inl t
  ·exact .inr (t.congr (S':=S.laid zs) rfl rfl (fun _=>rfl))
 ·intro x hx e
  rcases List.mem_append.1 (show x∈S.begins++[((S.now.length:Int),(zs.length:Int))] from hx) with hx|hx
  ·have t:=tiles_in v.tn hx
   have e0:=hold x hx 0 (by omega) (by omega);simp only[Ze] at e0;have e12:(gx S.now x.1).1=12:=by rw[<- e0];exact e
   have hn2:=(v.kn x hx).k12 e12;have e1:=hold x hx 1 (by omega) (by omega)
   show (S.laid zs).sound (gx (S.now++zs) (x.1+1))
   rw[e1];exact smono (v.is x hx e12)
  ·rw[Zd] at hx
   subst hx;exact absurd (by rw[<- hnew];exact e) h12
 ·intro w hw
  by_cases hs0:S.sound w
  ·obtain ⟨m,y,hm⟩:=v.tm w hs0
   refine ⟨m,y,fol_congr (S:=S) (S':=S.laid zs) (fun w' hl=>?_) hs0 hm⟩;obtain ⟨n,_,hmm⟩:=lies_mem hl;have t:=tiles_in v.tn hmm;have e0:=hold _ hmm 0 (by omega) (by omega);simp only[Ze] at e0;refine ⟨by show (gx (S.now++zs) w'.2).1=12 ↔ _;rw[e0],fun h12=>⟨?_,v.chain hl h12⟩⟩;have hn2:=(v.kn _ hmm).k12 h12;exact hold _ hmm 1 (by omega) (by omega)
  ·have h4:w.1=4/\w.2=S.now.length:=by
    rcases hw with hp|⟨h4,hb⟩
    ·exact absurd (.inl hp) hs0
    ·refine ⟨h4,?_⟩
     have:(mget w.2 (S.begins++[((S.now.length:Int),(zs.length:Int))])).isSome=true:=hb;rw[mget_app] at this;cases hg:mget w.2 S.begins with
     | some n=>exact absurd (.inr ⟨h4,by rw[hg];rfl⟩) hs0
     | none =>
       rw[hg] at this;simp only[mget] at this
       split at this
       ·rename_i e;exact e.symm
       ·cases this
   refine ⟨1,w,?_⟩;rw[HS.fol,if_pos h4.1,if_neg]
   show ¬ (gx (S.now++zs) w.2).1=12
   rw[h4.2,hnew];exact h12
 ·obtain ⟨m,r,h⟩:=v.tq w
  obtain ⟨r',h'⟩:=mov_some (S:=S) (S':=S.laid zs) rfl rfl rfl rfl ⟨r,h⟩;exact ⟨m,r',h'⟩
theorem kd_all {S:HS} {hd:Int × Int} {ys:List (Int × Int)} (f:S.fits hd ys):Kd S (S.all hd ys) 0 ((S.all hd ys).length:Int)/\(gx (S.all hd ys) 0)=hd:=by
 have hl:=all_len S hd ys;have e0:gx (S.all hd ys) 0=hd:=by rw[gx_zero (by omega)];exact all_zero S hd ys
 have hpad:S.pad hd ys.length->(S.all hd ys).length=ys.length+2:=fun h=>by unfold HS.all;rw[if_pos h];simp
 have hnp:¬ S.pad hd ys.length->(S.all hd ys).length=ys.length+1:=fun h=>by unfold HS.all;rw[if_neg h];simp
 have e1:S.pad hd ys.length->ys=[]->gx (S.all hd ys) (0+1)=(1,0):=fun h e=>by unfold HS.all;rw[if_pos h,e];rfl
 refine ⟨⟨by rw[e0];have:=fits_kind f;omega,?_,?_,?_,?_,?_,?_⟩,e0⟩
 ·rw[e0];intro h6
  rcases f with ⟨a,b,c,d⟩|f|f|f|f
  ·exact ⟨by omega,by omega,by omega,by omega⟩
  all_goals omega
 ·rw[e0];intro h6 hik
  rcases f with ⟨a,b,c,d⟩|f|f|f|f
  ·by_cases hz:ys.length=0
   ·have hp:S.pad hd ys.length:=.inl ⟨a,b,c,hz,hik⟩
    exact .inr ⟨by omega,by have:=hpad hp;omega,e1 hp (Z8.1 hz)⟩
   ·have hp:¬ S.pad hd ys.length:=by unfold HS.pad;omega
    have:=hnp hp;exact .inl ⟨by omega,by omega⟩
  all_goals omega
 ·rw[e0];intro h9
  have hp:¬ S.pad hd ys.length:=by unfold HS.pad;omega
  have:=hnp hp
  rcases f with f|f|f|⟨_,_,_,d,_⟩|f<;>omega
 ·rw[e0];intro h10
  have hp:S.pad hd ys.length:=.inr h10;have h1:=hpad hp;have hz:ys.length=0:=by rcases f with f|f|f|f|f<;>omega
  exact ⟨by omega,e1 hp (Z8.1 hz)⟩
 ·rw[e0];intro h;have:=fits_kind f;omega
 ·rw[e0];intro h;have:=fits_kind f;omega
theorem Inv.put {S:HS} (v:Inv S) (hd:Int × Int) (ys:List (Int × Int)):Inv (S.put hd ys).2.2:=by
 unfold HS.put
 split
 ·rename_i c
  split
  ·exact v
  ·rename_i c2
   obtain ⟨k,e⟩:=kd_all c.1;have hl:=all_len S hd ys;exact v.laid (by omega) (by omega) k (by rw[e];have:=fits_kind c.1;omega)
 ·exact v
theorem Inv.globals {S:HS} (v:Inv S) (g:List (Int × Int)):Inv { S with globals:=g } :=
 ⟨v.inf,v.sz,v.ln,v.lo,v.tn,v.to,fun x hx=>(v.kn x hx).congr rfl rfl (fun _=>rfl),fun x hx=>(v.ko x hx).imp id (fun k=>k.congr rfl rfl (fun _=>rfl)),v.is,fun w hw=>by
  obtain ⟨m,y,h⟩:=v.tm w hw;exact ⟨m,y,fol_congr (S:=S) (S':={ S with globals:=g }) (fun w' hl=>⟨Iff.rfl,fun h12=>⟨rfl,v.chain hl h12⟩⟩) hw h⟩,fun w=>by
  obtain ⟨m,r,h⟩:=v.tq w;obtain ⟨r',h'⟩:=mov_some (S:=S) (S':={ S with globals:=g }) rfl rfl rfl rfl ⟨r,h⟩;exact ⟨m,r',h'⟩⟩
theorem Inv.setg {S:HS} (v:Inv S) (ys:List (Int × Int)):Inv (S.setg ys).2:=by
 unfold HS.setg;split
 ·exact v.globals ys
 ·exact v
theorem Inv.gl {S S':HS} (v:Inv S) {k:Nat} (h:S.gl k=some S'):Inv S':=by
 unfold HS.gl at h
 split at h
 ·split at h
  ·cases h;exact (v.put _ _).globals _
  ·cases h
 ·cases h;exact v.globals _
theorem Inv.gls {S:HS} (v:Inv S):∀ {n:Nat} {S':HS},S.gls n=some S'->Inv S':=by
 intro n
 induction n with
 | zero=>intro S' h;cases h;exact v
 | succ n ih =>
   intro S' h;rw[HS.gls] at h;obtain ⟨T,h1,h2⟩:=Option.bind_eq_some_iff.1 h;exact (ih h1).gl h2
theorem Inv.start {C:Cx} {texts:List ByteArray} {words:Int} (hf:∀ i∈C.infos,0<=i.f) (h0:0<=words) (h1:words<=1048576):Inv (HS.start C texts words):=by
 refine ⟨hf,h1,h0,h0,rfl,rfl,fun x hx=>absurd hx (by simp [HS.start]),fun x hx=>absurd hx (by simp [HS.start]),fun x hx=>absurd hx (by simp [HS.start]),fun w hw=>⟨1,w,?_⟩,fun w=>⟨1,?_⟩⟩
 ·rw[HS.fol]
  split
  ·rw[if_neg];show ¬ (gx [] w.2).1=12
   rw[gx_out (by simp)];simp
  ·rfl
 ·rw[HS.mov]
  split
  ·exact ⟨_,rfl⟩
  ·rw[if_neg (by simp [HS.start,mget])];exact ⟨_,rfl⟩
theorem set_other {S:HS} (v:Inv S) {p n i:Int} (hm:(p,n)∈S.begins) (hi:p<=i/\i<p+n) (x:Int × Int):∀ y∈S.begins,y≠(p,n) -> ∀ j,0<=j->j<y.2->gx (S.now.set i.toNat x) (y.1+j)=gx S.now (y.1+j):=by
 intro y hy hne j h0 hj;have t:=tiles_in v.tn hm;have ty:=tiles_in v.tn hy;simp only at t;rw[gx_set (by omega),if_neg]
 rcases tiles_apart v.tn hm hy with e|e|e
 ·exact absurd e.symm hne
 ·simp only at e;omega
 ·simp only at e;omega
theorem Inv.setw {S:HS} (v:Inv S) {p n i:Int} {x:Int × Int} (hm:(p,n)∈S.begins) (hi:p<=i/\i<p+n) (hk:Kd S (S.now.set i.toNat x) p n) (his:(gx (S.now.set i.toNat x) p).1=12->S.sound (gx (S.now.set i.toNat x) (p+1)))
 (htm:∀ w,S.sound w -> ∃ m y,(S.setw i x).fol m w=some y):Inv (S.setw i x):=by
 have ho:=set_other v hm hi x;refine ⟨v.inf,v.sz,?_,v.lo,?_,v.to,fun y hy=>?_,fun y hy=>?_,fun y hy h12=>?_,htm,fun w=>?_⟩
 ·show ((S.now.set i.toNat x).length:Int)<=S.size
  rw[Zb];exact v.ln
 ·show tiles 0 S.begins ((S.now.set i.toNat x).length:Int)
  rw[Zb];exact v.tn
 ·by_cases e:y=(p,n)
  ·subst e;exact hk.congr (S':=S.setw i x) rfl rfl (fun _=>rfl)
  ·have ty:=tiles_in v.tn hy
   refine (v.kn y hy).congr (S':=S.setw i x) rfl ?_ (fun h2=>ho y hy e 1 (by omega) (by omega));have:=ho y hy e 0 (by omega) (by omega)
   show gx (S.now.set i.toNat x) y.1=gx S.now y.1
   simpa using this
 ·exact (v.ko y hy).imp id (fun k=>k.congr rfl rfl (fun _=>rfl))
 ·by_cases e:y=(p,n)
  ·subst e;exact his h12
  ·have ty:=tiles_in v.tn hy
   have e0:=ho y hy e 0 (by omega) (by omega);simp only[Ze] at e0;have h12':(gx S.now y.1).1=12:=by rw[<- e0];exact h12
   have:=(v.kn y hy).k12 h12';have e1:=ho y hy e 1 (by omega) (by omega)
   show S.sound (gx (S.now.set i.toNat x) (y.1+1))
   rw[e1];exact v.is y hy h12'
 ·obtain ⟨m,r,h⟩:=v.tq w
  obtain ⟨r',h'⟩:=mov_some (S:=S) (S':=S.setw i x) rfl rfl rfl rfl ⟨r,h⟩;exact ⟨m,r',h'⟩
end Go.S19
