import Derived.Test.YtjacebjfidhcoaaPk18
import Derived.Test.YtjacebjfidhcoaaPk24
import Derived.Test.YtjacebjfidhcoaaPk22
set_option linter.unusedVariables false
set_option linter.unusedSimpArgs false
open Nat renaming reduceEqDiff -> ZA,reduceAdd -> ZB,reduceMul -> ZC,reduceLeDiff -> ZD,reduceLT -> ZE
open Int renaming reduceEq -> ZF
open Int renaming toNat_natCast->Z0
open Nat renaming le_refl->Z1,zero_add->Z3,lt_of_not_le->Z5,mul_one->Z6
open List renaming nil_append->Z2,getElem?_eq_getElem->Z4,contains_cons->Z7,length_append->Z8,contains_nil->Z9
namespace Go.S18.V
open Go Go.Eng Go.Proofs Go.Chk
section
variable {h:AH} {N:Nat} {C:Cx} {texts:List ByteArray} {vi vc vt vp vk:Value}
theorem sts_one (l:List ByteArray):(sts l).all Value.oneCell'=true:=by simp [sts,Value.oneCell']
theorem sts_len (l:List ByteArray):(sts l).length=l.length:=by simp [sts]
theorem rvi {e l:PE} {h:AH} {ds:List Dfr} {x:RX} {b:Nat} {t:TypeId} {a1 a2 a3 a4 a5 a6:Value} {K:List Value->Prop} (hx:rx e l x=some (.pointer (some ⟨b,0,none⟩))) (hb:Own h b t [a1,a2,a3,a4,a5,a6]) (hk:K [.agg #[a1,a2,a3,a4,a5,a6]]) :
 rvK Try.prog ⟨e,l,h,ds⟩ [.c x (.ldn 6)] K:=by
 have hc:hcell h b=some [a1,a2,a3,a4,a5,a6]:=hb.cells;simp only[rvK,hx,vK,uval,hc,Option.bind_some,rK];exact hk
structure Cpy (h:AH) (C:Cx) (texts:List ByteArray) (wi wc wt wp wk:Value) (h':AH):Prop where
 kp:Keep (fun _=>False) h h'
 oi:Ows h' 34 4 wi C.infos.length (rowsOf Inf.cells C.infos)
 oc:Ows h' 3 1 wc C.code.length (ns C.code)
 ot:Ows h' 9 1 wt texts.length (sts texts)
 op:Ows h' 3 1 wp C.tops.length (ns C.tops)
 ok:Ows h' 3 1 wk C.cons.length (ns C.cons)
 fi:∀ q,bk wi q->h.length<=q
 fc:∀ q,bk wc q->h.length<=q
 fp:∀ q,bk wp q->h.length<=q
 fk:∀ q,bk wk q->h.length<=q
 ic:∀ q,bk wi q -> ¬ bk wc q
 ip:∀ q,bk wi q -> ¬ bk wp q
 ik:∀ q,bk wi q -> ¬ bk wk q
 cp:∀ q,bk wc q -> ¬ bk wp q
 ck:∀ q,bk wc q -> ¬ bk wk q
 ft:∀ q,bk wt q->h.length<=q
set_option maxHeartbeats 2000000 in
theorem rCopy_ok (im:Img h C vi vc vt vp vk) (rt:Rds h 1 vt texts.length (sts texts)) (li:C.infos.length<=2000000) (lc:C.code.length<=2000000) (lp:C.tops.length<=2000000) (lk:C.cons.length<=2000000) (lt:texts.length<=2000000) :
 Gets Try.prog 52 [.agg #[vi,vc,vt,vp,iv C.main,vk]] h (fun res h'=>∃ wi wc wt wp wk,res = .ret (.agg #[wi,wc,wt,wp,iv C.main,wk])/\Cpy h C texts wi wc wt wp wk h'):=by
 refine Gets.of (keep:=false) hP (draw_ok hM) k52 (by rfl) (fun Ψ hΨ=>?_);have oI:=Own.new h 27 h.length [vi,vc,vt,vp,iv C.main,vk];have kp1:Keep (fun _=>False) h (h++[row 27 h.length [vi,vc,vt,vp,iv C.main,vk]]):=Keep.push _ _ _;simp only[ZG,↓reduceIte,ZA,ZB,ZC,r52,YE,YC,YO,YA,YL,YX,YS,Ya,Yb,Yl,Yf,Yg,Yi,Ym,Yk,Yt,Yn,Yz,Yp,Yq,Yd,mbl,ZD,ZE,ZF];generalize hh1:h++[row 27 h.length [vi,vc,vt,vp,iv C.main,vk]]=h1 at oI kp1 ⊢;have hl1:h1.length=h.length+1:=by rw[<- hh1];simp
 have oR:=Own.new h1 27 h1.length [.slice none 0 0,.slice none 0 0,.slice none 0 0,.slice none 0 0,iv 0,.slice none 0 0];have kp2:Keep (fun _=>False) h1 (h1++[row 27 h1.length [.slice none 0 0,.slice none 0 0,.slice none 0 0,.slice none 0 0,iv 0,.slice none 0 0]]):=Keep.push _ _ _;generalize hh2:h1++[row 27 h1.length [.slice none 0 0,.slice none 0 0,.slice none 0 0,.slice none 0 0,iv 0,.slice none 0 0]]=h2 at oR kp2 ⊢;have hl2:h2.length=h1.length+1:=by rw[<- hh2];simp
 have oI2:=oI.keep kp2 (fun e=>e);have im2:=im.keep (kp1.trans kp2) (fun _ _ e=>e);have rt2:=(rt.keep kp1 (fun _ _ e=>e)).keep kp2 (fun _ _ e=>e);have g2:Keep (fun _=>False) h2 h2:=.refl _ _;have ei:Keep (fun _=>False) h2 (h2++[row 34 h2.length []]):=Keep.push _ _ _;have oEi:=oI2.keep (g2.trans ei) (fun e=>e);have owi:Ows (h2++[row 34 h2.length []]) 34 4 (.slice (some ⟨h2.length,0,none⟩) 0 0) 0 []:=.mk (Own.new h2 _ h2.length []) rfl (Z1 _) rfl;obtain ⟨_,si,rfl⟩:=(im2.ri.keep (g2.trans ei) (fun _ _ e=>e)).src (rowsOf_one _);obtain ⟨wi,h3,yi,ri,bbi,fi⟩:=owi.app (bytes:=32) si (rowsOf_len Inf.len _) (rowsOf_one _) (by omega) (by omega);rw[Z3,Z2] at ri;have di:Keep (fun _=>False) h2 h3:=ei.trans' bbi (fun q hq e=>by have:q=h2.length:=e;omega);have Fi:∀ q,bk wi q->h2.length<=q:=fun q hq=>by
  rcases fi q hq with e|e
  ·have:q=h2.length:=e
   omega
  ·simp at e;omega
 have g3:=g2.trans di;have oI3:=oI2.keep g3 (fun e=>e);have ec:Keep (fun _=>False) h3 (h3++[row 3 h3.length []]):=Keep.push _ _ _;have oEc:=oI2.keep (g3.trans ec) (fun e=>e);have owc:Ows (h3++[row 3 h3.length []]) 3 1 (.slice (some ⟨h3.length,0,none⟩) 0 0) 0 []:=.mk (Own.new h3 _ h3.length []) rfl (Z1 _) rfl;obtain ⟨_,sc,rfl⟩:=(im2.rc.keep (g3.trans ec) (fun _ _ e=>e)).src (ns_one _);obtain ⟨wc,h4,yc,rc,bbc,fc⟩:=owc.app (bytes:=8) sc (by rw[ns_len,Z6]) (ns_one _) (by omega) (by omega);rw[Z3,Z2] at rc;have dc:Keep (fun _=>False) h3 h4:=ec.trans' bbc (fun q hq e=>by have:q=h3.length:=e;omega);have Fc:∀ q,bk wc q->h3.length<=q:=fun q hq=>by
  rcases fc q hq with e|e
  ·have:q=h3.length:=e
   omega
  ·simp at e;omega
 have g4:=g3.trans dc;have oI4:=oI2.keep g4 (fun e=>e);have et:Keep (fun _=>False) h4 (h4++[row 9 h4.length []]):=Keep.push _ _ _;have oEt:=oI2.keep (g4.trans et) (fun e=>e);have owt:Ows (h4++[row 9 h4.length []]) 9 1 (.slice (some ⟨h4.length,0,none⟩) 0 0) 0 []:=.mk (Own.new h4 _ h4.length []) rfl (Z1 _) rfl;obtain ⟨_,st,rfl⟩:=(rt2.keep (g4.trans et) (fun _ _ e=>e)).src (sts_one _);obtain ⟨wt,h5,yt,rt,bbt,ft⟩:=owt.app (bytes:=16) st (by rw[sts_len,Z6]) (sts_one _) (by omega) (by omega);rw[Z3,Z2] at rt;have dt:Keep (fun _=>False) h4 h5:=et.trans' bbt (fun q hq e=>by have:q=h4.length:=e;omega);have Ft:∀ q,bk wt q->h4.length<=q:=fun q hq=>by
  rcases ft q hq with e|e
  ·have:q=h4.length:=e
   omega
  ·simp at e;omega
 have g5:=g4.trans dt;have oI5:=oI2.keep g5 (fun e=>e);have ep:Keep (fun _=>False) h5 (h5++[row 3 h5.length []]):=Keep.push _ _ _;have oEp:=oI2.keep (g5.trans ep) (fun e=>e);have owp:Ows (h5++[row 3 h5.length []]) 3 1 (.slice (some ⟨h5.length,0,none⟩) 0 0) 0 []:=.mk (Own.new h5 _ h5.length []) rfl (Z1 _) rfl;obtain ⟨_,sp,rfl⟩:=(im2.rp.keep (g5.trans ep) (fun _ _ e=>e)).src (ns_one _);obtain ⟨wp,h6,yp,rp,bbp,fp⟩:=owp.app (bytes:=8) sp (by rw[ns_len,Z6]) (ns_one _) (by omega) (by omega);rw[Z3,Z2] at rp;have dp:Keep (fun _=>False) h5 h6:=ep.trans' bbp (fun q hq e=>by have:q=h5.length:=e;omega);have Fp:∀ q,bk wp q->h5.length<=q:=fun q hq=>by
  rcases fp q hq with e|e
  ·have:q=h5.length:=e
   omega
  ·simp at e;omega
 have g6:=g5.trans dp;have oI6:=oI2.keep g6 (fun e=>e);have ek:Keep (fun _=>False) h6 (h6++[row 3 h6.length []]):=Keep.push _ _ _;have oEk:=oI2.keep (g6.trans ek) (fun e=>e);have owk:Ows (h6++[row 3 h6.length []]) 3 1 (.slice (some ⟨h6.length,0,none⟩) 0 0) 0 []:=.mk (Own.new h6 _ h6.length []) rfl (Z1 _) rfl;obtain ⟨_,sk,rfl⟩:=(im2.rk.keep (g6.trans ek) (fun _ _ e=>e)).src (ns_one _);obtain ⟨wk,h7,yk,rk,bbk,fk⟩:=owk.app (bytes:=8) sk (by rw[ns_len,Z6]) (ns_one _) (by omega) (by omega);rw[Z3,Z2] at rk;have dk:Keep (fun _=>False) h6 h7:=ek.trans' bbk (fun q hq e=>by have:q=h6.length:=e;omega);have Fk:∀ q,bk wk q->h6.length<=q:=fun q hq=>by
  rcases fk q hq with e|e
  ·have:q=h6.length:=e
   omega
  ·simp at e;omega
 have g7:=g6.trans dk;have oI7:=oI2.keep g7 (fun e=>e);obtain ⟨ui,vvi,rfl⟩:=row_shape ri.rds;obtain ⟨uc,vvc,rfl⟩:=row_shape rc.rds;obtain ⟨ut,vvt,rfl⟩:=row_shape rt.rds;obtain ⟨up,vvp,rfl⟩:=row_shape rp.rds;obtain ⟨uk,vvk,rfl⟩:=row_shape rk.rds;have oR7:=oR.keep g7 (fun e=>e);simp only[ZG,↓reduceIte,ZA,ZB,ZC,mbl,ZD,ZE,ZF,Z7,Z9,Nat.reduceBEq,Bool.or_false,Bool.false_or,Bool.true_or,Bool.or_true,oI2.cells.ld,oEi.cells.ld,oI3.cells.ld,oEc.cells.ld,oI4.cells.ld,oEt.cells.ld,oI5.cells.ld,oEp.cells.ld,oI6.cells.ld,oEk.cells.ld,oI7.cells.ld,yi,yc,yt,yp,yk];have lr7:=g7.len;refine XH_own oR7 rfl (by simp [Value.cells]) rfl (fun h8 q1 q2 q3=>?_);have o8:Own h8 h1.length 27 [.slice ui C.infos.length vvi,.slice uc C.code.length vvc,.slice ut texts.length vvt,.slice up C.tops.length vvp,iv C.main,.slice uk C.cons.length vvk]:=by simpa [Value.cells] using q1
 simp only[ZG,↓reduceIte,ZA,ZB,ZC,mbl,ZD,ZE,ZF];have k8:Keep (fun _=>False) h h8:=((kp1.trans kp2).trans g7).trans' q2 (fun q hq e=>by omega);have li':=ri.lt;have lc':=rc.lt;have lt':=rt.lt;have lp':=rp.lt;have n3:=g3.len;have n4:=g4.len;have n5:=g5.len;have n6:=g6.len;have m4:=dc.len;have m5:=dt.len;have m6:=dp.len;have m7:=dk.len;refine hΨ _ _ (fin_ret (rvi rfl o8 ⟨_,_,_,_,_,rfl,k8,?_,?_,?_,?_,?_,?_,?_,?_,?_,?_,?_,?_,?_,?_,?_⟩))
 ·exact ((((ri.keep dc (fun _ _ e=>e)).keep dt (fun _ _ e=>e)).keep dp (fun _ _ e=>e)).keep dk (fun _ _ e=>e)).keep q2 (fun q hq e=>by have:=Fi q hq;omega)
 ·exact (((rc.keep dt (fun _ _ e=>e)).keep dp (fun _ _ e=>e)).keep dk (fun _ _ e=>e)).keep q2 (fun q hq e=>by have:=Fc q hq;omega)
 ·exact ((rt.keep dp (fun _ _ e=>e)).keep dk (fun _ _ e=>e)).keep q2 (fun q hq e=>by have:=Ft q hq;omega)
 ·exact (rp.keep dk (fun _ _ e=>e)).keep q2 (fun q hq e=>by have:=Fp q hq;omega)
 ·exact rk.keep q2 (fun q hq e=>by have:=Fk q hq;omega)
 ·intro q hq;have:=Fi q hq;omega
 ·intro q hq;have:=Fc q hq;omega
 ·intro q hq;have:=Fp q hq;omega
 ·intro q hq;have:=Fk q hq;omega
 ·intro q hq e;have:=li' q hq;have:=Fc q e;omega
 ·intro q hq e;have:=li' q hq;have:=Fp q e;omega
 ·intro q hq e;have:=li' q hq;have:=Fk q e;omega
 ·intro q hq e;have:=lc' q hq;have:=Fp q e;omega
 ·intro q hq e;have:=lc' q hq;have:=Fk q e;omega
 ·intro q hq;have:=Ft q hq;omega
end
end Go.S18.V

namespace Go.S18.V
open Go Go.Eng Go.Proofs Go.Chk
section
variable {h:AH} {C:Cx} {vi vc vt vp vk:Value}
theorem rCheck_ok (im:Img h C vi vc vt vp vk) (z:Sz C) (hfr:∀ x∈C.infos,x.f<=9223372036854775807) (hcl:C.code.length<=9223372036854775807):Gets Try.prog 51 [.agg #[vi,vc,vt,vp,iv C.main,vk]] h (fun res h'=>Keep (fun _=>False) h h'/\res = .ret (iv (if (ends C).isSome then 0 else 7))):=by
 refine Gets.of (keep:=false) hP (draw_ok hM) k51 (by rfl) (fun Ψ hΨ=>?_);have oI0:=Own.new h 27 h.length [vi,vc,vt,vp,iv C.main,vk];have kp1:Keep (fun _=>False) h (h++[row 27 h.length [vi,vc,vt,vp,iv C.main,vk]]):=Keep.push _ _ _;simp only[ZG,↓reduceIte,ZA,ZB,ZC,r51,YE,YC,YO,YA,YL,YX,YS,Ya,Yb,Yl,Yf,Yg,Yi,Ym,Yk,Yt,Yn,Yz,Yp,Yq,Yd,mbl,ZD,ZE,ZF];generalize hh1:h++[row 27 h.length [vi,vc,vt,vp,iv C.main,vk]]=h1 at oI0 kp1 ⊢;have im1:=im.keep kp1 (fun _ _ e=>e);simp only[ZG,↓reduceIte,ZA,ZB,ZC,oI0.cells.lds 0 6 (by simp),mbl,ZD,ZE,ZF];refine XX_of (rends_ok im1 z hfr hcl) (fun res h2 hle hn=>?_);obtain ⟨k2,v,rfl,hv⟩:=hn;refine .ret ?_;have kk:=kp1.trans k2;cases he:(ends C).isSome with
 | false =>
   simp only[ZG,↓reduceIte,ZA,ZB,ZC,he,mbl,ZD,ZE,ZF];exact hΨ _ _ (fin_ret (rv1 rfl ⟨kk,by rw[he];rfl⟩))
 | true =>
   simp only[ZG,↓reduceIte,ZA,ZB,ZC,he,mbl,ZD,ZE,ZF];exact hΨ _ _ (fin_ret (rv1 rfl ⟨kk,by rw[he];rfl⟩))
end
end Go.S18.V

namespace Go.S18
open Go Go.Eng Go.Proofs Go.Chk
theorem blocks_info {C:Cx} {F:Nat}:∀ {l:List Inf} {p:Nat} {x:List Nat × Nat},blocks C F l p=some x -> ∀ i∈l,i.k=1\/i.k=2/\i.a=0:=by
 intro l
 induction l with
 | nil=>intro p x _ i hi;exact absurd hi (by simp)
 | cons y l ih =>
   intro p x h i hi;unfold blocks at h
   split at h
   ·rename_i hy
    split at h
    ·split at h
     ·rename_i e r hb
      rcases List.mem_cons.1 hi with rfl|hi
      ·rcases hy.1 with hk|hk
       ·exact .inr hk
       ·exact .inl hk.1
      ·exact ih hb i hi
     ·cases h
    ·cases h
   ·cases h
theorem ends_kinds {C:Cx} (h:(ends C).isSome=true):∀ x∈C.infos,x.k=1\/x.k=2:=by
 unfold ends at h
 split at h
 ·split at h
  ·rename_i e r hb
   exact fun x hx=>(blocks_info hb x hx).imp id And.left
  ·cases h
 ·cases h
section
variable {h h':AH} {b:Nat} {L:RL} {S:HS}
theorem RH.appg (s:RH h b L S) {v:Value} {ys:List (Int × Int)} (k:Keep (fun q=>q=b\/bk L.vg q) h h') (own':Own h' b 88 [L.vi,L.vc,L.vt,L.vp,iv L.main,L.vk,iv S.size,iv S.now.length,L.vn,L.vo,v])
 (rg:Ows h' 36 2 v ys.length (ww ys)) (ff:∀ q,bk v q->bk L.vg q\/h.length<=q):∃ L',RH h' b L' { S with globals:=ys }/\SameR h.length L L':=by
 classical
 have kx:∀ q,L.cls q≠1->L.cls q≠5 -> ¬ (q=b\/bk L.vg q):=fun q a c e=>by
  rcases e with e|e
  ·exact a (by rw[e];exact s.c1)
  ·exact c (s.cg q e)
 have nb:∀ q,L.cls q≠0->L.cls q≠5 -> ¬ bk v q:=fun q a c e=>by
  rcases ff q e with f|f
  ·exact c (s.cg q f)
  ·exact a (s.c0 q f)
 refine ⟨{ L with vg:=v,cls:=fun q=>if bk v q then 5 else L.cls q },⟨own',s.ri.keep k (fun q e=>kx q (by rw[s.ci q (.inl e)];omega) (by rw[s.ci q (.inl e)];omega)),s.rt.keep k (fun q e=>kx q (by rw[s.ci q (.inr (.inl e))];omega) (by rw[s.ci q (.inr (.inl e))];omega)),s.rk.keep k (fun q e=>kx q (by rw[s.ci q (.inr (.inr e))];omega) (by rw[s.ci q (.inr (.inr e))];omega)),
  s.rn.keep k (fun q e=>kx q (by rw[s.cn q e];omega) (by rw[s.cn q e];omega)),s.ro.keep k (fun q e=>kx q (by rw[s.co q e];omega) (by rw[s.co q e];omega)),rg,fun i x hx=>?_,fun i x hx=>?_,?_,?_,?_,?_,?_,?_,s.vn.same rfl rfl rfl,s.vo.same rfl rfl rfl⟩,?_⟩
 ·obtain ⟨a,c⟩:=s.fn i x hx
  refine ⟨a.keep k (fun q e=>kx q (by rw[c q e];omega) (by rw[c q e];omega)),fun q e=>?_⟩;simp only;rw[if_neg (nb q (by rw[c q e];omega) (by rw[c q e];omega))];exact c q e
 ·obtain ⟨a,c⟩:=s.fo i x hx
  refine ⟨a.keep k (fun q e=>kx q (by rw[c q e];omega) (by rw[c q e];omega)),fun q e=>?_⟩;simp only;rw[if_neg (nb q (by rw[c q e];omega) (by rw[c q e];omega))];exact c q e
 ·simp only;rw[if_neg (nb b (by rw[s.c1];omega) (by rw[s.c1];omega))];exact s.c1
 ·intro q e;simp only;rw[if_neg (nb q (by rw[s.cn q e];omega) (by rw[s.cn q e];omega))];exact s.cn q e
 ·intro q e;simp only;rw[if_neg (nb q (by rw[s.co q e];omega) (by rw[s.co q e];omega))];exact s.co q e
 ·intro q e;simp only;rw[if_pos e]
 ·intro q e;simp only;rw[if_neg (nb q (by rw[s.ci q e];omega) (by rw[s.ci q e];omega))];exact s.ci q e
 ·intro q e;simp only
  rw[if_neg (fun c=>by have:=rg.lt q c;omega)];exact s.c0 q (Nat.le_trans k.len e)
 ·intro q hq;simp only
  by_cases c:bk v q
  ·rcases ff q c with f|f
   ·rw[if_pos c,s.cg q f]
   ·omega
  ·rw[if_neg c]
theorem RH.start {C:Cx} {texts:List ByteArray} {words:Int} {wi wc wt wp wk:Value} (c:V.Cpy h C texts wi wc wt wp wk h') :
 ∃ L,RH (h'++[row 88 h'.length [wi,wc,wt,wp,iv C.main,wk,iv words,iv 0,.slice none 0 0,.slice none 0 0,.slice none 0 0]]) h'.length L (HS.start C texts words) /\ ∀ q,q<h.length->L.cls q=0:=by
 classical
 have k:Keep (fun _=>False) h' (h'++[row 88 h'.length [wi,wc,wt,wp,iv C.main,wk,iv words,iv 0,.slice none 0 0,.slice none 0 0,.slice none 0 0]]):=Keep.push _ _ _;have l:(h'++[row 88 h'.length [wi,wc,wt,wp,iv C.main,wk,iv words,iv 0,.slice none 0 0,.slice none 0 0,.slice none 0 0]]).length=h'.length+1:=by simp
 have lt:∀ q,bk wi q\/bk wt q\/bk wk q->h.length<=q/\q<h'.length:=fun q e=>by
  rcases e with e|e|e
  ·exact ⟨c.fi q e,c.oi.lt q e⟩
  ·exact ⟨c.ft q e,c.ot.lt q e⟩
  ·exact ⟨c.fk q e,c.ok.lt q e⟩
 refine ⟨⟨wi,wc,wt,wp,wk,C.main,.slice none 0 0,.slice none 0 0,.slice none 0 0,[],[],fun q=>if q=h'.length then 1 else if bk wi q\/bk wt q\/bk wk q then 6 else 0⟩,
  ⟨Own.new h' _ _ _,(c.oi.keep k (fun _ _ e=>e)).rds,(c.ot.keep k (fun _ _ e=>e)).rds,(c.ok.keep k (fun _ _ e=>e)).rds,.nil,.nil,.nil,fun i x hx=>by simp at hx,fun i x hx=>by simp at hx,?_,?_,?_,?_,?_,?_,⟨rfl,fun o ho=>by simp at ho⟩,⟨rfl,fun o ho=>by simp at ho⟩⟩,?_⟩
 ·show (if h'.length=h'.length then 1 else _)=1
  rw[if_pos rfl]
 ·intro q e;exact e.elim
 ·intro q e;exact e.elim
 ·intro q e;exact e.elim
 ·intro q e
  have e':bk wi q\/bk wt q\/bk wk q:=e.imp rb.bk (Or.imp rb.bk rb.bk);have:=lt q e';simp only;rw[if_neg (by omega),if_pos e']
 ·intro q e
  simp only;rw[if_neg (by omega),if_neg (fun e'=>by have:=lt q e';omega)]
 ·intro q e
  have:=c.kp.len;simp only;rw[if_neg (by omega),if_neg (fun e'=>by have:=lt q e';omega)]
end
end Go.S18

namespace Go.S18
open Go Go.Eng Go.Proofs Go.Chk
section
variable {h:AH} {C:Cx} {vi vc vt vp vk:Value}
def rNewO (h:AH) (C:Cx) (texts:List ByteArray) (words:Int) (res:Res) (h':AH):Prop :=
 if (ends C).isSome=true/\0<=words/\words<=262144 then (match (HS.start C texts words).gls C.tops.length with
  | some S=>∃ b L,res = .ret (.tuple #[.pointer (some ⟨b,0,none⟩),iv 0])/\RH h' b L S /\ ∀ q,q<h.length->L.cls q=0
  | none=>res = .ret (.tuple #[.pointer none,iv 12]))
 else res = .ret (.tuple #[.pointer none,iv (if (ends C).isSome=true then 1 else 7)])
set_option maxHeartbeats 8000000 in
theorem rNew_ok (im:Img h C vi vc vt vp vk) (z:V.Sz C) (hfr:∀ x∈C.infos,x.f<=9223372036854775807) (hcl:C.code.length<=9223372036854775807) {texts:List ByteArray} (rt:Rds h 1 vt texts.length (sts texts))
 (li:C.infos.length<=2000000) (lc:C.code.length<=2000000) (lp:C.tops.length<=2000000) (lk:C.cons.length<=2000000) (lt:texts.length<=2000000) (words:Int) :
 Gets Try.prog 27 [.agg #[vi,vc,vt,vp,iv C.main,vk],iv words] h (fun res h'=>Keep (fun _=>False) h h'/\rNewO h C texts words res h'):=by
 refine Gets.of (keep:=false) hP (draw_ok hM) k27 (by rfl) (fun Ψ hΨ=>?_);have oI:=Own.new h 27 h.length [vi,vc,vt,vp,iv C.main,vk];have k1:Keep (fun _=>False) h (h++[row 27 h.length [vi,vc,vt,vp,iv C.main,vk]]):=Keep.push _ _ _;have l1:(h++[row 27 h.length [vi,vc,vt,vp,iv C.main,vk]]).length=h.length+1:=by simp
 simp only[ZG,↓reduceIte,ZA,ZB,ZC,r27,YE,YC,YO,YA,YL,YX,YS,Ya,Yb,Yl,Yf,Yg,Yi,Ym,Yk,Yt,Yn,Yz,Yp,Yq,Yd,mbl,ZD,ZE,ZF];generalize h++[row 27 h.length [vi,vc,vt,vp,iv C.main,vk]]=h1 at oI k1 l1 ⊢;simp only[ZG,↓reduceIte,ZA,ZB,ZC,oI.cells.lds 0 6 (by simp),mbl,ZD,ZE,ZF];refine XX_of (V.rCheck_ok (im.keep k1 (fun _ _ e=>e)) z hfr hcl) (fun res h2 hle hn=>?_);obtain ⟨k2,rfl⟩:=hn;refine .ret ?_;have k02:=k1.trans k2
 by_cases hends:(ends C).isSome=true
 case neg =>
  simp only[ZG,↓reduceIte,ZA,ZB,ZC,hends,mbl,ZD,ZE,ZF];refine hΨ _ _ (fin_ret (rv2 rfl rfl ⟨k02,?_⟩));unfold rNewO;rw[if_neg (fun e=>hends e.1),if_neg hends];rfl
 have oI2:=oI.keep k2 (fun e=>e)
 by_cases w0:words<0
 ·simp only[ZG,↓reduceIte,ZA,ZB,ZC,hends,mbl,ZD,ZE,ZF,w0]
  refine hΨ _ _ (fin_ret (rv2 rfl rfl ⟨k02,?_⟩));unfold rNewO;rw[if_neg (fun e=>by omega),if_pos hends];rfl
 by_cases w1:(262144:Int)<words
 ·simp only[ZG,↓reduceIte,ZA,ZB,ZC,hends,mbl,ZD,ZE,ZF,w0,w1]
  refine hΨ _ _ (fin_ret (rv2 rfl rfl ⟨k02,?_⟩));unfold rNewO;rw[if_neg (fun e=>by omega),if_pos hends];rfl
 obtain ⟨hH,hC,hT,hI,hF⟩:=ends_some hends;have hkd:=ends_kinds hends;have hcond:(ends C).isSome=true/\0<=words/\words<=262144:=⟨hends,by omega,by omega⟩
 simp only[ZG,↓reduceIte,ZA,ZB,ZC,hends,mbl,ZD,ZE,ZF,w0,w1,oI2.cells.lds 0 6 (by simp)];refine XX_of (V.rCopy_ok (im.keep k02 (fun _ _ e=>e)) (rt.keep k02 (fun _ _ e=>e)) li lc lp lk lt) (fun res h3 hle3 hn=>?_);obtain ⟨wi,wc,wt,wp,wk,rfl,cp⟩:=hn;refine .ret ?_;have k03:=k02.trans cp.kp;have oI3:=oI2.keep cp.kp (fun e=>e);have st:=RH.start (words:=words) cp;have k4:Keep (fun _=>False) h3 (h3++[row 88 h3.length [wi,wc,wt,wp,iv C.main,wk,iv words,iv 0,.slice none 0 0,.slice none 0 0,.slice none 0 0]]):=Keep.push _ _ _;obtain ⟨ia1,ic1,rfl⟩:=row_shape cp.oi.rds;obtain ⟨ca1,cc1,rfl⟩:=row_shape cp.oc.rds;obtain ⟨ta1,tc1,rfl⟩:=row_shape cp.ot.rds;obtain ⟨pa1,pc1,rfl⟩:=row_shape cp.op.rds;obtain ⟨ka1,kc1,rfl⟩:=row_shape cp.ok.rds;simp only[ZG,↓reduceIte,ZA,ZB,ZC,mbl,ZD,ZE,ZF];obtain ⟨L0,s0,z0⟩:=st;have l2:h.length+1<=h2.length:=by omega
 have oI4:=oI3.keep k4 (fun e=>e);have k04:=k03.trans k4;have hinv:Inv (HS.start C texts words):=.start hF (by omega) (by omega);generalize h3++[row 88 h3.length [.slice ia1 C.infos.length ic1,.slice ca1 C.code.length cc1,.slice ta1 texts.length tc1,.slice pa1 C.tops.length pc1,iv C.main,.slice ka1 C.cons.length kc1,iv words,iv 0,.slice none 0 0,.slice none 0 0,.slice none 0 0]]=h4 at s0 k4 oI4 k04 ⊢;obtain ⟨pa,pc,hvp⟩:=row_shape im.rp;refine XLo_rule (α:=Nat × HS × RL) (fun a=>[(2,.pointer (some ⟨h.length,0,none⟩)),(4,.pointer none),(5,iv 0),(6,.pointer (some ⟨h3.length,0,none⟩)),(7,iv a.1)])
  (fun a h'=>a.1<=C.tops.length/\(HS.start C texts words).gls a.1=some a.2.1/\RH h' h3.length a.2.2 a.2.1/\Inv a.2.1/\(∀ q,q<h.length+1->a.2.2.cls q=0)/\Keep (fun _=>False) h h'/\Own h' h.length 27 [vi,vc,vt,vp,iv C.main,vk]) (fun a=>C.tops.length-a.1) (0,HS.start C texts words,L0)
  ⟨Nat.zero_le _,rfl,s0,hinv,fun q hq=>z0 q (by omega),k04,oI4⟩ ⟨rfl,rfl,rfl,rfl,rfl,trivial⟩ ?_
 rintro ⟨i,S,L⟩ ha Ψ2 ⟨i1,i2,i3,i4,i5,i6,i7⟩ next out
 simp only at i1 i2 i3 i4 i5
 by_cases hi:(i:Int)<(C.tops.length:Int)
 case neg =>
  have hie:i=C.tops.length:=by omega
  subst hie;simp only[ZG,↓reduceIte,ZA,ZB,ZC,i7.cells.ld,mbl,ZD,ZE,ZF,hvp,hi];refine out (.exit 0) _ _ _ _ (by intro e;cases e) ?_;simp only[ZG,↓reduceIte,ZA,ZB,ZC];refine hΨ _ _ (fin_ret (rv2 rfl rfl ⟨i6,?_⟩));unfold rNewO;rw[if_pos hcond,i2];exact ⟨_,_,rfl,i3,fun q e=>i5 q (by omega)⟩
 have h0:0<=(i:Int):=by omega
 have hwi:IntKind.i64.wrap ((i:Int)+1)=((i+1:Nat):Int):=by rw[i64w (by omega) (by omega)];omega
 have hil:i<C.tops.length:=by omega
 obtain ⟨t1,t2⟩:=hT i hil;have ima:=im.keep i6 (fun _ _ e=>e);have hii:i<C.infos.length:=by have:=hH.2.2.1;omega
 obtain ⟨⟨ik,ia2,iff',ic2⟩,hx⟩:∃ x,C.infos[i]?=some x:=⟨_,Z4 hii⟩
 have hk12:=hkd _ (List.mem_of_getElem? hx);simp only at hk12;rw[hx] at t2;simp only[Option.map_some,Option.some.injEq] at t2;subst t2;obtain ⟨b2,o2,c2,e2,_,hld2⟩:=rds_fld (by omega) Inf.len ima.ri hx;have hk0:=hld2 0 (by omega);simp only[Inf.cells,List.getElem?_cons_zero,Option.map_some,Nat.add_zero] at hk0;have hi3:(i:Int)<(C.infos.length:Int):=by omega
 obtain ⟨gi,gt,gc,gs,gg,go,gold⟩:=gls_img i2;have hik:S.ik (i:Int)=ik:=by rw[HS.ik,gi,Z0];show (C.infos[i]?.map Inf.k).getD 0=ik;rw[hx];rfl
 have hgl:S.globals.length=i:=by rw[gg];show 0+i=i;omega
 have hb3:h3.length<ha.length:=i3.own.lt
 rcases hk12 with rfl|rfl
 ·have kr:Keep (fun _=>False) ha (ha++[row 36 ha.length [iv 3,iv i]]):=Keep.push _ _ _
  obtain ⟨vg',hf,p1,p2,p3,p4⟩:=app1 (bytes:=16) (xs:=[iv 3,iv i]) i3.rg rfl rfl (by omega) (by omega);obtain ⟨ga,gc',rfl⟩:=row_shape p2.rds;have zb:¬ bk L.vg h3.length:=fun e=>by have:=i3.cg _ e;rw[i3.c1] at this;omega
  have ownF:=i3.own.keep p3 zb;simp only[ZG,↓reduceIte,ZA,ZB,ZC,i7.cells.ld,mbl,ZD,ZE,ZF,hvp,hi,e2,h0,hi3,and_self,Z0,hk0,i3.own.cells.ld,RL.cells,p1];refine XH_own ownF rfl (by simp [Value.cells,RL.cells]) rfl (fun hg r1 r2 r3=>?_);have ownG:Own hg h3.length 88 [L.vi,L.vc,L.vt,L.vp,iv L.main,L.vk,iv S.size,iv S.now.length,L.vn,L.vo,.slice ga (S.globals.length+1) gc']:=by simpa [Value.cells,RL.cells] using r1
  have kfg:Keep (fun q=>q=h3.length\/bk L.vg q) ha hg:=(p3.mono (fun q e=>.inr e)).trans (r2.mono fun q e=>.inl e);have p2':Ows hg 36 2 (.slice ga (S.globals.length+1) gc') (S.globals++[((3:Int),(i:Int))]).length (ww (S.globals++[((3:Int),(i:Int))])):=by
   rw[ww_app,Z8];exact p2.keep r2 (fun q e c=>by
    rcases p4 q e with a|a
    ·rw[c] at a;exact zb a
    ·omega)
  obtain ⟨L',s',sm'⟩:=i3.appg kfg ownG p2' p4;simp only[ZG,↓reduceIte,ZA,ZB,ZC,hwi];refine next (i+1,{ S with globals:=S.globals++[((3:Int),(i:Int))] },L') _ _ _ ⟨by omega,?_,s',i4.globals _,fun q hq=>(sm' q (by omega)).2 (i5 q hq),?_,?_⟩ ⟨rfl,rfl,rfl,rfl,rfl,trivial⟩ (by simp only;omega)
  ·rw[HS.gls,i2]
   show S.gl i=_
   rw[HS.gl,if_neg (by rw[hik];omega)]
  ·exact i6.trans' kfg (fun c hc e=>by
    rcases e with e|e
    ·omega
    ·have a:=i3.cg _ e;have b:=i5 c (by omega);omega)
  ·exact i7.keep kfg (fun e=>by
    rcases e with e|e
    ·omega
    ·have a:=i3.cg _ e;have b:=i5 h.length (by omega);omega)
 ·have n21:¬ (2:Int)=1:=by omega
  have hf:S.fits (6,(i:Int)) []:=.inl ⟨rfl,by show ¬ (i:Int)<0;omega,by show ¬ (S.infos.length:Int)<=(i:Int);rw[gi];exact fun e=>by have e':(C.infos.length:Int)<=i:=e;omega,by show (([]:List (Int × Int)).length:Int)=S.fr (i:Int);rw[HS.fr,gi,Z0];show 0=(C.infos[i]?.map Inf.f).getD 0;rw[hx];rfl⟩;have hp:S.put (6,(i:Int)) []=if S.size-(S.now.length:Int)<((S.all (6,(i:Int)) []).length:Int) then (((0:Int),(0:Int)),(12:Int),S) else (((4:Int),(S.now.length:Int)),(0:Int),S.laid (S.all (6,(i:Int)) [])):=by rw[HS.put,if_pos ⟨hf,by simp⟩]
  simp only[ZG,↓reduceIte,ZA,ZB,ZC,i7.cells.ld,mbl,ZD,ZE,ZF,hvp,hi,e2,h0,hi3,and_self,Z0,hk0,n21];refine XX_of (rPut_ok i3 i4 (6,(i:Int)) (ys:=[]) (u:=.slice none 0 0) .nil (by simp)) (fun res hc hlec hn=>?_);obtain ⟨kc,rfl,L1,s1,sm1⟩:=hn;refine .ret ?_;have v1:=i4.put (6,(i:Int)) [];have kmine:∀ (q:Nat),q<h.length+1 -> ¬ MineR L q:=fun q e c=>c (i5 q e)
  have k0c:Keep (fun _=>False) h hc:=i6.trans' kc (fun c hc e=>kmine c (by omega) e);have oIc:=i7.keep kc (kmine _ (by omega));have oT:=Own.new hc 36 hc.length [iv 0,iv 0];have kT:Keep (fun _=>False) hc (hc++[row 36 hc.length [iv 0,iv 0]]):=Keep.push _ _ _;simp only[ZG,↓reduceIte,ZA,ZB,ZC,wv,mbl,ZD,ZE,ZF];refine XH_own oT rfl (by simp [Value.cells]) rfl (fun hd r1 r2 r3=>?_);have oTd:Own hd hc.length 36 [iv (S.put (6,(i:Int)) []).1.1,iv (S.put (6,(i:Int)) []).1.2]:=by simpa [Value.cells] using r1
  have kcd:Keep (fun _=>False) hc hd:=kT.trans' r2 (fun c hc e=>by omega);have s1d:=s1.keepF kcd;have oId:=oIc.keep kcd (fun e=>e);have k0d:=k0c.trans kcd
  by_cases hroom:S.size-(S.now.length:Int)<((S.all (6,(i:Int)) []).length:Int)
  ·rw[if_pos hroom] at hp
   have e12:(S.put (6,(i:Int)) []).2.1=12:=by rw[hp]
   simp only[ZG,↓reduceIte,ZA,ZB,ZC,e12,mbl,ZD,ZE,ZF];refine out .ret _ _ _ _ (by intro e;cases e) ?_;simp only[ZG,↓reduceIte,ZA,ZB,ZC];refine hΨ _ _ (fin_ret (rv2 rfl rfl ⟨k0d,?_⟩));unfold rNewO;have hno:(HS.start C texts words).gls (i+1)=none:=by
    rw[HS.gls,i2]
    show S.gl i=none
    rw[HS.gl,if_pos (by rw[hik]),if_neg (by rw[e12];omega)]
   rw[if_pos hcond,gls_none hno (by omega)];rfl
  rw[if_neg hroom] at hp;have e12:(S.put (6,(i:Int)) []).2.1=0:=by rw[hp]
  have eg:(S.put (6,(i:Int)) []).2.2.globals=S.globals:=(put_img S _ _).2.2.2.2.1;have hgs:S.gl i=some { (S.put (6,(i:Int)) []).2.2 with globals:=S.globals++[(S.put (6,(i:Int)) []).1] }:=by rw[HS.gl,if_pos (by rw[hik]),if_pos e12]
  generalize hr:S.put (6,(i:Int)) []=r at *;obtain ⟨⟨rw1,rw2⟩,re,T⟩:=r;simp only at oTd s1d e12 eg hgs v1;have hgT:T.globals.length=i:=by rw[eg];exact hgl
  have kr:Keep (fun _=>False) hd (hd++[row 36 hd.length [iv rw1,iv rw2]]):=Keep.push _ _ _;obtain ⟨vg',hf',p1,p2,p3,p4⟩:=app1 (bytes:=16) (xs:=[iv rw1,iv rw2]) s1d.rg rfl rfl (by omega) (by omega);obtain ⟨ga,gc',rfl⟩:=row_shape p2.rds;have s1e:=s1d.keepF kr;have zb:¬ bk L1.vg h3.length:=fun e=>by have:=s1d.cg _ e;rw[s1d.c1] at this;omega
  have ownF:=s1d.own.keep p3 zb;simp only[ZG,↓reduceIte,ZA,ZB,ZC,e12,mbl,ZD,ZE,ZF,s1d.own.cells.ld,s1e.own.cells.ld,RL.cells,oTd.cells.lds 0 2 (by simp),p1,Z7,Z9,Nat.reduceBEq,Bool.or_true,Bool.true_or,Bool.or_false,Bool.false_or];refine XH_own ownF rfl (by simp [Value.cells,RL.cells]) rfl (fun hg q1 q2 q3=>?_);have ownG:Own hg h3.length 88 [L1.vi,L1.vc,L1.vt,L1.vp,iv L1.main,L1.vk,iv T.size,iv T.now.length,L1.vn,L1.vo,.slice ga (T.globals.length+1) gc']:=by simpa [Value.cells,RL.cells] using q1
  have kfg:Keep (fun q=>q=h3.length\/bk L1.vg q) hd hg:=(p3.mono (fun q e=>.inr e)).trans (q2.mono fun q e=>.inl e);have p2':Ows hg 36 2 (.slice ga (T.globals.length+1) gc') (T.globals++[(rw1,rw2)]).length (ww (T.globals++[(rw1,rw2)])):=by
   rw[ww_app,Z8];exact p2.keep q2 (fun q e c=>by
    rcases p4 q e with a|a
    ·rw[c] at a;exact zb a
    ·have:=s1d.own.lt;omega)
  obtain ⟨L',s',sm'⟩:=s1d.appg kfg ownG p2' p4;have lcd:=kcd.len;have lac:=kc.len;have lha:=i6.len;have z1:∀ q,q<h.length+1->L1.cls q=0:=fun q hq=>(sm1 q (by have:=i7.lt;omega)).2 (i5 q hq)
  simp only[ZG,↓reduceIte,ZA,ZB,ZC,hwi];refine next (i+1,{ T with globals:=T.globals++[(rw1,rw2)] },L') _ _ _ ⟨by omega,?_,s',v1.globals _,fun q hq=>(sm' q (by have:=i7.lt;omega)).2 (z1 q hq),?_,?_⟩ ⟨rfl,rfl,rfl,rfl,rfl,trivial⟩ (by simp only;omega)
  ·rw[HS.gls,i2]
   show S.gl i=_
   rw[hgs,eg]
  ·exact k0d.trans' kfg (fun c hc e=>by
    rcases e with e|e
    ·have:=i7.lt;have:=oI3.lt;omega
    ·have a:=s1d.cg _ e;have b:=z1 c (by omega);omega)
  ·exact oId.keep kfg (fun e=>by
    rcases e with e|e
    ·have:=oI3.lt;omega
    ·have a:=s1d.cg _ e;have b:=z1 h.length (by omega);omega)
end
end Go.S18

namespace Go.S18
open Go Go.Eng Go.Proofs Go.Chk
structure Two (n:Nat) (h:AH) (b:Nat) (L:Lay) (b':Nat) (L':RL) (S:HS):Prop where
 hp:Hp h b L S
 rh:RH h b' L' S
 v:Inv S
 d:∀ q,L.cls q≠0->L'.cls q≠0->False
 lo:∀ q,q<n->L.cls q=0/\L'.cls q=0
 nl:n<=h.length
 g:S.globals.length<=2000000
section
variable {n:Nat} {h h1 h2 h3:AH} {b b':Nat} {L L2:Lay} {L' L1':RL} {S S':HS}
theorem Two.keepF (t:Two n h b L b' L' S) (k:Keep (fun _=>False) h h1):Two n h1 b L b' L' S:=⟨t.hp.keepF k,t.rh.keepF k,t.v,t.d,t.lo,Nat.le_trans t.nl k.len,t.g⟩
theorem Two.ref (t:Two n h b L b' L' S) (k:Keep (MineR L') h h1):Hp h1 b L S:=t.hp.keep k (fun q e c=>t.d q e c)
theorem Two.fin (t:Two n h b L b' L' S) (k1:Keep (MineR L') h h1) (r1:RH h1 b' L1' S') (sm1:SameR h.length L' L1') (kf:Keep (fun _=>False) h1 h2) (k2:Keep (Mine L) h2 h3) (p2:Hp h3 b L2 S') (sm2:Same h2.length L L2) (v':Inv S')
 (g':S'.globals.length<=2000000):Two n h3 b L2 b' L1' S'/\Keep (fun q=>n<=q) h h3:=by
 have l1:=k1.len;have l2:=kf.len;have l3:=k2.len;have lowL:∀ q,L.cls q≠0->q<h.length:=fun q e=>Z5 fun c=>e (t.hp.c0 q c)
 have lowR:∀ q,L1'.cls q≠0->q<h1.length:=fun q e=>Z5 fun c=>e (r1.c0 q c)
 refine ⟨⟨p2,(r1.keepF kf).keep k2 (fun q e c=>?_),v',fun q e1 e2=>?_,fun q hq=>⟨?_,?_⟩,by have:=t.nl;omega,g'⟩,?_⟩
 ·have hq:=lowL q c
  exact t.d q c (fun e0=>e ((sm1 q hq).2 e0))
 ·have hq:=lowR q e2
  have e3:L.cls q≠0:=fun e0=>e1 ((sm2 q (by omega)).2 e0)
  have hq2:=lowL q e3;exact t.d q e3 (fun e0=>e2 ((sm1 q hq2).2 e0))
 ·exact (sm2 q (by have:=t.nl;omega)).2 (t.lo q hq).1
 ·exact (sm1 q (by have:=t.nl;omega)).2 (t.lo q hq).2
 ·exact ((k1.mono fun q e=>Nat.le_of_not_lt fun c=>e (t.lo q c).2).trans (kf.mono fun q e=>e.elim)).trans (k2.mono fun q e=>Nat.le_of_not_lt fun c=>e (t.lo q c).1)
noncomputable def HS.becX (S:HS) (w x:Int × Int):Int × HS:=open Classical in S.become w x (if h:∃ y m,S.fol m x=some y then h.choose else w)
theorem becX_eq {w x y:Int × Int} (hy:S.lies w/\(S.hd w).1=11/\S.sound x -> ∃ m,S.fol m x=some y):S.become w x y=S.becX w x:=by
 classical
 unfold HS.becX
 by_cases c:S.lies w/\(S.hd w).1=11/\S.sound x
 ·obtain ⟨m,hm⟩:=hy c
  have hex:∃ y m,S.fol m x=some y:=⟨y,m,hm⟩
  rw[dif_pos hex];obtain ⟨m2,hm2⟩:=hex.choose_spec;rw[<- fol_one hm hm2]
 ·have no:∀ z,S.become w x z=(1,S):=fun z=>by rw[HS.become,if_neg (fun e=>c ⟨e.1,e.2.1,e.2.2.1⟩)]
  rw[no,no]
noncomputable def HS.folX (S:HS) (w:Int × Int):(Int × Int) × Int:=open Classical in if S.sound w then (if h:∃ y m,S.fol m w=some y then h.choose else w,0) else ((0,0),1)
theorem folX_eq {w x:Int × Int} {m:Nat} (hs:S.sound w) (hx:S.fol m w=some x):S.folX w=(x,0):=by
 classical
 unfold HS.folX;have hex:∃ y m,S.fol m w=some y:=⟨x,m,hx⟩
 rw[if_pos hs,dif_pos hex];obtain ⟨m2,hm2⟩:=hex.choose_spec;rw[<- fol_one hx hm2]
theorem folX_no {w:Int × Int} (hs:¬ S.sound w):S.folX w=((0,0),1):=by unfold HS.folX;rw[if_neg hs]
theorem xSet_ok (s:Hp h b L S) (v:Inv S) (w:Int × Int) (k:Int) (x:Int × Int):Gets Try.prog 24 [.pointer (some ⟨b,0,none⟩),wv w,iv k,wv x] h (fun res h'=>Keep (Mine L) h h'/\res = .ret (iv (S.sete w k x).1) /\ ∃ L',Hp h' b L' (S.sete w k x).2/\Same h.length L L') :=
 (Set_ok s v.ok w k x).mono fun res h' _ ⟨a,c,d⟩=>⟨a,c,L,d,Same.refl _ _⟩
theorem xHole_ok (s:Hp h b L S) (v:Inv S) (w:Int × Int):Gets Try.prog 23 [.pointer (some ⟨b,0,none⟩),wv w] h (fun res h'=>Keep (Mine L) h h'/\res = .ret (iv (S.hole w).1) /\ ∃ L',Hp h' b L' (S.hole w).2/\Same h.length L L') :=
 (Hole_ok s v.ok w).mono fun res h' _ ⟨a,c,d⟩=>⟨a,c,L,d,Same.refl _ _⟩
theorem xBecome_ok (s:Hp h b L S) (v:Inv S) (w x:Int × Int):Gets Try.prog 22 [.pointer (some ⟨b,0,none⟩),wv w,wv x] h (fun res h'=>Keep (Mine L) h h'/\res = .ret (iv (S.becX w x).1) /\ ∃ L',Hp h' b L' (S.becX w x).2/\Same h.length L L') :=
 (Become_ok s w x (fun _ _ hs=>v.tm x hs)).mono fun res h' _ ⟨a,y,c,d,e⟩=>by
  rw[becX_eq c] at d e;exact ⟨a,d,L,e,Same.refl _ _⟩
theorem yBecome_ok (s:RH h b L' S) (v:Inv S) (w x:Int × Int):Gets Try.prog 58 [.pointer (some ⟨b,0,none⟩),wv w,wv x] h (fun res h'=>Keep (MineR L') h h'/\res = .ret (iv (S.becX w x).1) /\ ∃ L2,RH h' b L2 (S.becX w x).2/\SameR h.length L' L2) :=
 (rBecome_ok s v w x).mono fun res h' _ ⟨a,y,c,d,e⟩=>by
  rw[becX_eq c] at d e;exact ⟨a,d,e⟩
theorem xFollow_ok (s:Hp h b L S) (v:Inv S) (w:Int × Int):Gets Try.prog 20 [.pointer (some ⟨b,0,none⟩),wv w] h (fun res h'=>Keep (fun _=>False) h h'/\res = .ret (.tuple #[wv (S.folX w).1,iv (S.folX w).2])) :=
 (Follow_ok s w (v.tm w)).mono fun res h' _ ⟨a,c⟩=>by
  by_cases hs:S.sound w
  ·rw[if_pos hs] at c
   obtain ⟨m,x,hx,rfl⟩:=c;rw[folX_eq hs hx];exact ⟨a,rfl⟩
  ·rw[if_neg hs] at c
   rw[folX_no hs];exact ⟨a,c⟩
theorem yFollow_ok (s:RH h b L' S) (v:Inv S) (w:Int × Int):Gets Try.prog 59 [.pointer (some ⟨b,0,none⟩),wv w] h (fun res h'=>Keep (fun _=>False) h h'/\res = .ret (.tuple #[wv (S.folX w).1,iv (S.folX w).2])) :=
 (rFollow_ok s v w).mono fun res h' _ ⟨a,c⟩=>by
  by_cases hs:S.sound w
  ·rw[if_pos hs] at c
   obtain ⟨m,x,hx,rfl⟩:=c;rw[folX_eq hs hx];exact ⟨a,rfl⟩
  ·rw[if_neg hs] at c
   rw[folX_no hs];exact ⟨a,c⟩
theorem inv_becX (v:Inv S) (w x:Int × Int):Inv (S.becX w x).2:=by
 by_cases c:S.lies w/\(S.hd w).1=11/\S.sound x
 ·obtain ⟨m,y,hy⟩:=v.tm x c.2.2
  rw[<- becX_eq (y:=y) (fun _=>⟨m,hy⟩)]
  rcases become_cases v w x y with ⟨h1,_⟩|⟨k,hc,_,hm,h2,_,_,h1⟩
  ·rw[h1];exact v
  ·rw[h1];exact v.bec hc hy hm h2
 ·rw[<- becX_eq (y:=w) (fun e=>absurd e c),HS.become,if_neg (fun e=>c ⟨e.1,e.2.1,e.2.2.1⟩)];exact v
theorem gl_sete (w:Int × Int) (k:Int) (x:Int × Int):(S.sete w k x).2.globals=S.globals:=by
 unfold HS.sete;split
 ·split
  ·rfl
  ·unfold HS.setp;split<;>rfl
 ·rfl
theorem gl_hole (w:Int × Int):(S.hole w).2.globals=S.globals:=by
 unfold HS.hole;split
 ·unfold HS.setp;split<;>rfl
 ·rfl
theorem gl_becX (w x:Int × Int):(S.becX w x).2.globals=S.globals:=by
 unfold HS.becX HS.become
 split<;>split
 ·unfold HS.setp;split<;>split<;>rfl
 ·rfl
 ·unfold HS.setp;split<;>split<;>rfl
 ·rfl
theorem gl_setg (ys:List (Int × Int)) (g:S.globals.length<=2000000):(S.setg ys).2.globals.length<=2000000:=by
 unfold HS.setg;split
 ·rename_i c;show ys.length<=2000000;omega
 ·exact g
theorem gl_mv {w:Int × Int} {r:(Int × Int) × Int × HS} (h:Mv S w r):r.2.2.globals=S.globals:=by
 induction h with
 | plain=>rfl
 | none=>rfl
 | was=>rfl
 | ind _ _ _ _ _ ih=>exact ih
 | full=>rfl
 | new=>rfl
end
end Go.S18

namespace Go.S18
open Go Go.Eng Go.Proofs Go.Chk
section
variable {h:AH} {b:Nat} {L:Lay} {L':RL} {S:HS}
theorem xFol_ok (s:Hp h b L S) (v:Inv S) (w:Int × Int):Gets Try.prog 20 [.pointer (some ⟨b,0,none⟩),wv w] h (fun res h'=>Keep (Mine L) h h'/\res = .ret (.tuple #[wv (S.folX w).1,iv (S.folX w).2]) /\ ∃ L',Hp h' b L' S/\Same h.length L L') :=
 (xFollow_ok s v w).mono fun res h' _ ⟨a,c⟩=>⟨a.mono (fun _ e=>e.elim),c,L,s.keepF a,Same.refl _ _⟩
theorem yFol_ok (s:RH h b L' S) (v:Inv S) (w:Int × Int):Gets Try.prog 59 [.pointer (some ⟨b,0,none⟩),wv w] h (fun res h'=>Keep (MineR L') h h'/\res = .ret (.tuple #[wv (S.folX w).1,iv (S.folX w).2]) /\ ∃ L2,RH h' b L2 S/\SameR h.length L' L2) :=
 (yFollow_ok s v w).mono fun res h' _ ⟨a,c⟩=>⟨a.mono (fun _ e=>e.elim),c,L',s.keepF a,SameR.refl _ _⟩
end
section
variable {n N:Nat} {h:AH} {b b':Nat} {L:Lay} {L':RL} {S:HS}
def opv (o:Op):Value:=.agg #[iv o.k,iv o.w.1,iv o.w.2,iv o.x.1,iv o.x.2,iv o.n,o.lv]
set_option maxHeartbeats 16000000 in
theorem step_ok (t:Two n h b L b' L' S) (o:Op) (hq:o.Q h N) (hN:N<=2000000) (hn:∀ q,rb o.lv q->q<n) :
 Gets Try.prog 28 [.pointer (some ⟨b,0,none⟩),.pointer (some ⟨b',0,none⟩),opv o] h (fun res h'=>Keep (fun q=>n<=q) h h'/\res = .ret (.bool true) /\ ∃ L2 L2' S',Two n h' b L2 b' L2' S'):=by
 refine Gets.of (keep:=false) hP (draw_ok hM) k28 (by rfl) (fun Ψ hΨ=>?_);obtain ⟨qu,ql,qw1,qw2,qn,qx1,qx2,qy⟩:=hq;obtain ⟨la,lc,hlv⟩:=row_shape qu;have oO:=Own.new h 51 h.length [iv o.k,iv o.w.1,iv o.w.2,iv o.x.1,iv o.x.2,iv o.n,o.lv];have kp:Keep (fun _=>False) h (h++[row 51 h.length [iv o.k,iv o.w.1,iv o.w.2,iv o.x.1,iv o.x.2,iv o.n,o.lv]]):=Keep.push _ _ _;rw[hlv] at oO kp;simp only[ZG,↓reduceIte,ZA,ZB,ZC,r28,YE,YC,YO,YA,YL,YX,YS,Ya,Yb,Yl,Yf,Yg,Yi,Ym,Yk,Yt,Yn,Yz,Yp,Yq,Yd,opv,hlv,mbl,ZD,ZE,ZF];generalize h++[row 51 h.length [iv o.k,iv o.w.1,iv o.w.2,iv o.x.1,iv o.x.2,iv o.n,.slice la o.ys.length lc]]=h1 at oO kp ⊢;have t1:=t.keepF kp;have qu1:=qu.keep kp (fun _ _ e=>e);have nl:=t.nl;have zO:L.cls h.length=0/\L'.cls h.length=0:=⟨t.hp.c0 _ (Z1 _),t.rh.c0 _ (Z1 _)⟩
 by_cases d1:o.k=1
 ·simp only[ZG,↓reduceIte,ZA,ZB,ZC,oO.cells.ld,d1,oO.cells.lds 1 2 (by simp),mbl,ZD,ZE,ZF]
  refine XX_of (rPut_ok t1.rh t1.v o.w (by rw[<- hlv];exact qu1) (by omega)) (fun res h2 hle2 hres=>?_);obtain ⟨k2,rfl,L1',s1,sm1⟩:=hres;refine .ret ?_;have oO2:=oO.keep k2 (by simp [MineR,zO.2]);have oA:=Own.new h2 36 h2.length [iv 0,iv 0];have kA:Keep (fun _=>False) h2 (h2++[row 36 h2.length [iv 0,iv 0]]):=Keep.push _ _ _;simp only[ZG,↓reduceIte,ZA,ZB,ZC,wv,mbl,ZD,ZE,ZF];refine XH_own oA rfl (by simp [Value.cells]) rfl (fun h3 a1 a2 a3=>?_);have oA3:Own h3 h2.length 36 [iv (S.put o.w o.ys).1.1,iv (S.put o.w o.ys).1.2]:=by simpa [Value.cells] using a1
  have k23:Keep (fun _=>False) h2 h3:=kA.trans' a2 (fun c hc e=>by omega);have oO3:=oO2.keep k23 (fun e=>e);simp only[ZG,↓reduceIte,ZA,ZB,ZC,oO3.cells.ld,oO3.cells.lds 1 2 (by simp),mbl,ZD,ZE,ZF];refine XX_of (Put_ok ((t1.ref k2).keepF k23) t1.v.ok.fresh o.w (by rw[<- hlv];exact (qu1.keep k2 (fun q e c=>c ((t.lo q (hn q e)).2))).keep k23 (fun _ _ e=>e)) (by omega) (by omega)) (fun res h4 hle4 hres=>?_);obtain ⟨k4,rfl,L2,p2,sm2⟩:=hres;refine .ret ?_;have zA:L.cls h2.length=0:=t1.hp.c0 _ k2.len;have oA4:=oA3.keep k4 (by simp [Mine,zA]);have oB:=Own.new h4 36 h4.length [iv 0,iv 0];have kB:Keep (fun _=>False) h4 (h4++[row 36 h4.length [iv 0,iv 0]]):=Keep.push _ _ _;simp only[ZG,↓reduceIte,ZA,ZB,ZC,wv,mbl,ZD,ZE,ZF];refine XH_own oB rfl (by simp [Value.cells]) rfl (fun h5 b1 b2 b3=>?_);have oB5:Own h5 h4.length 36 [iv (S.put o.w o.ys).1.1,iv (S.put o.w o.ys).1.2]:=by simpa [Value.cells] using b1
  have k45:Keep (fun _=>False) h4 h5:=kB.trans' b2 (fun c hc e=>by omega);have oA5:=oA4.keep k45 (fun e=>e);simp only[ZG,↓reduceIte,ZA,ZB,ZC,oA5.cells.lds 0 2 (by simp),oB5.cells.lds 0 2 (by simp),mbl,ZD,ZE,ZF,ceq_w,and_self];have fin:=t1.fin k2 s1 sm1 k23 k4 p2 sm2 (t1.v.put o.w o.ys) (by rw[(put_img S _ _).2.2.2.2.1];exact t1.g);refine hΨ _ _ (fin_ret (rv1 rfl ⟨(kp.mono fun q e=>e.elim).trans (fin.2.trans (k45.mono fun q e=>e.elim)),rfl,_,_,_,fin.1.keepF k45⟩))
 by_cases d3:o.k=3
 ·simp only[ZG,↓reduceIte,ZA,ZB,ZC,oO.cells.ld,d3,oO.cells.lds 1 2 (by simp),oO.cells.lds 3 2 (by simp),mbl,ZD,ZE,ZF]
  refine XX_of (rSet_ok t1.rh t1.v o.w o.n o.x) (fun res h2 hle2 hres=>?_);obtain ⟨k2,rfl,L1',s1,sm1⟩:=hres;refine .ret ?_;have oO2:=oO.keep k2 (by simp [MineR,zO.2]);simp only[ZG,↓reduceIte,ZA,ZB,ZC,oO2.cells.ld,oO2.cells.lds 1 2 (by simp),oO2.cells.lds 3 2 (by simp),mbl,ZD,ZE,ZF];refine XX_of (xSet_ok (t1.ref k2) t1.v o.w o.n o.x) (fun res h3 hle3 hres=>?_);obtain ⟨k3,rfl,L2,p2,sm2⟩:=hres;refine .ret ?_;simp only[ZG,↓reduceIte,ZA,ZB,ZC,mbl,ZD,ZE,ZF];have fin:=t1.fin k2 s1 sm1 (Keep.refl _ _) k3 p2 sm2 (t1.v.sete o.w o.n o.x) (by rw[gl_sete];exact t1.g);refine hΨ _ _ (fin_ret (rv1 rfl ⟨(kp.mono fun q e=>e.elim).trans fin.2,rfl,_,_,_,fin.1⟩))
 by_cases d4:o.k=4
 ·simp only[ZG,↓reduceIte,ZA,ZB,ZC,oO.cells.ld,d4,oO.cells.lds 1 2 (by simp),oO.cells.lds 3 2 (by simp),mbl,ZD,ZE,ZF]
  refine XX_of (rHole_ok t1.rh t1.v o.w) (fun res h2 hle2 hres=>?_);obtain ⟨k2,rfl,L1',s1,sm1⟩:=hres;refine .ret ?_;have oO2:=oO.keep k2 (by simp [MineR,zO.2]);simp only[ZG,↓reduceIte,ZA,ZB,ZC,oO2.cells.ld,oO2.cells.lds 1 2 (by simp),oO2.cells.lds 3 2 (by simp),mbl,ZD,ZE,ZF];refine XX_of (xHole_ok (t1.ref k2) t1.v o.w) (fun res h3 hle3 hres=>?_);obtain ⟨k3,rfl,L2,p2,sm2⟩:=hres;refine .ret ?_;simp only[ZG,↓reduceIte,ZA,ZB,ZC,mbl,ZD,ZE,ZF];have fin:=t1.fin k2 s1 sm1 (Keep.refl _ _) k3 p2 sm2 (t1.v.hole o.w) (by rw[gl_hole];exact t1.g);refine hΨ _ _ (fin_ret (rv1 rfl ⟨(kp.mono fun q e=>e.elim).trans fin.2,rfl,_,_,_,fin.1⟩))
 by_cases d5:o.k=5
 ·simp only[ZG,↓reduceIte,ZA,ZB,ZC,oO.cells.ld,d5,oO.cells.lds 1 2 (by simp),oO.cells.lds 3 2 (by simp),mbl,ZD,ZE,ZF]
  refine XX_of (yBecome_ok t1.rh t1.v o.w o.x) (fun res h2 hle2 hres=>?_);obtain ⟨k2,rfl,L1',s1,sm1⟩:=hres;refine .ret ?_;have oO2:=oO.keep k2 (by simp [MineR,zO.2]);simp only[ZG,↓reduceIte,ZA,ZB,ZC,oO2.cells.ld,oO2.cells.lds 1 2 (by simp),oO2.cells.lds 3 2 (by simp),mbl,ZD,ZE,ZF];refine XX_of (xBecome_ok (t1.ref k2) t1.v o.w o.x) (fun res h3 hle3 hres=>?_);obtain ⟨k3,rfl,L2,p2,sm2⟩:=hres;refine .ret ?_;simp only[ZG,↓reduceIte,ZA,ZB,ZC,mbl,ZD,ZE,ZF];have fin:=t1.fin k2 s1 sm1 (Keep.refl _ _) k3 p2 sm2 (inv_becX t1.v o.w o.x) (by rw[gl_becX];exact t1.g);refine hΨ _ _ (fin_ret (rv1 rfl ⟨(kp.mono fun q e=>e.elim).trans fin.2,rfl,_,_,_,fin.1⟩))
 by_cases d10:o.k=10
 ·simp only[ZG,↓reduceIte,ZA,ZB,ZC,oO.cells.ld,d10,oO.cells.lds 1 2 (by simp),oO.cells.lds 3 2 (by simp),mbl,ZD,ZE,ZF]
  refine XX_of (rSetGlobals_ok t1.rh t1.v (by rw[<- hlv];exact qu1) (by omega)) (fun res h2 hle2 hres=>?_);obtain ⟨k2,rfl,L1',s1,sm1⟩:=hres;refine .ret ?_;have oO2:=oO.keep k2 (by simp [MineR,zO.2]);simp only[ZG,↓reduceIte,ZA,ZB,ZC,oO2.cells.ld,oO2.cells.lds 1 2 (by simp),oO2.cells.lds 3 2 (by simp),mbl,ZD,ZE,ZF];refine XX_of (SetGlobals_ok (t1.ref k2) (by rw[<- hlv];exact qu1.keep k2 (fun q e c=>c ((t.lo q (hn q e)).2))) (by omega) (by have:=t1.g;omega)) (fun res h3 hle3 hres=>?_);obtain ⟨k3,rfl,L2,p2,sm2⟩:=hres;refine .ret ?_;simp only[ZG,↓reduceIte,ZA,ZB,ZC,mbl,ZD,ZE,ZF];have fin:=t1.fin k2 s1 sm1 (Keep.refl _ _) k3 p2 sm2 (t1.v.setg o.ys) (gl_setg _ t1.g);refine hΨ _ _ (fin_ret (rv1 rfl ⟨(kp.mono fun q e=>e.elim).trans fin.2,rfl,_,_,_,fin.1⟩))
 by_cases d6:o.k=6
 ·simp only[ZG,↓reduceIte,ZA,ZB,ZC,oO.cells.ld,d6,oO.cells.lds 1 2 (by simp),mbl,ZD,ZE,ZF]
  refine XX_of (yFol_ok t1.rh t1.v o.w) (fun res h2 hle2 hres=>?_);obtain ⟨k2,rfl,L1',s1,sm1⟩:=hres;refine .ret ?_;have oO2:=oO.keep k2 (by simp [MineR,zO.2]);have oA:=Own.new h2 36 h2.length [iv 0,iv 0];have kA:Keep (fun _=>False) h2 (h2++[row 36 h2.length [iv 0,iv 0]]):=Keep.push _ _ _;simp only[ZG,↓reduceIte,ZA,ZB,ZC,wv,mbl,ZD,ZE,ZF];refine XH_own oA rfl (by simp [Value.cells]) rfl (fun h3 a1 a2 a3=>?_);have oA3:Own h3 h2.length 36 [iv (S.folX o.w).1.1,iv (S.folX o.w).1.2]:=by simpa [Value.cells] using a1
  have k23:Keep (fun _=>False) h2 h3:=kA.trans' a2 (fun c hc e=>by omega);have oO3:=oO2.keep k23 (fun e=>e);simp only[ZG,↓reduceIte,ZA,ZB,ZC,oO3.cells.ld,oO3.cells.lds 1 2 (by simp),mbl,ZD,ZE,ZF];refine XX_of (xFol_ok ((t1.ref k2).keepF k23) t1.v o.w) (fun res h4 hle4 hres=>?_);obtain ⟨k4,rfl,L2,p2,sm2⟩:=hres;refine .ret ?_;have zA:L.cls h2.length=0:=t1.hp.c0 _ k2.len;have oA4:=oA3.keep k4 (by simp [Mine,zA]);have oB:=Own.new h4 36 h4.length [iv 0,iv 0];have kB:Keep (fun _=>False) h4 (h4++[row 36 h4.length [iv 0,iv 0]]):=Keep.push _ _ _;simp only[ZG,↓reduceIte,ZA,ZB,ZC,wv,mbl,ZD,ZE,ZF];refine XH_own oB rfl (by simp [Value.cells]) rfl (fun h5 b1 b2 b3=>?_);have oB5:Own h5 h4.length 36 [iv (S.folX o.w).1.1,iv (S.folX o.w).1.2]:=by simpa [Value.cells] using b1
  have k45:Keep (fun _=>False) h4 h5:=kB.trans' b2 (fun c hc e=>by omega);have oA5:=oA4.keep k45 (fun e=>e);simp only[ZG,↓reduceIte,ZA,ZB,ZC,oA5.cells.lds 0 2 (by simp),oB5.cells.lds 0 2 (by simp),mbl,ZD,ZE,ZF,ceq_w,and_self];have fin:=t1.fin k2 s1 sm1 k23 k4 p2 sm2 t1.v t1.g;refine hΨ _ _ (fin_ret (rv1 rfl ⟨(kp.mono fun q e=>e.elim).trans (fin.2.trans (k45.mono fun q e=>e.elim)),rfl,_,_,_,fin.1.keepF k45⟩))
 by_cases d8:o.k=8
 ·obtain ⟨m,r,hm⟩:=t1.v.tq o.w
  have hmv:=mov_mv t1.v hm;simp only[ZG,↓reduceIte,ZA,ZB,ZC,oO.cells.ld,d8,oO.cells.lds 1 2 (by simp),mbl,ZD,ZE,ZF];refine XX_of (rMove_ok t1.rh t1.v o.w hm) (fun res h2 hle2 hres=>?_);obtain ⟨k2,rfl,L1',s1,sm1⟩:=hres;refine .ret ?_;have oO2:=oO.keep k2 (by simp [MineR,zO.2]);have oA:=Own.new h2 36 h2.length [iv 0,iv 0];have kA:Keep (fun _=>False) h2 (h2++[row 36 h2.length [iv 0,iv 0]]):=Keep.push _ _ _;simp only[ZG,↓reduceIte,ZA,ZB,ZC,wv,mbl,ZD,ZE,ZF];refine XH_own oA rfl (by simp [Value.cells]) rfl (fun h3 a1 a2 a3=>?_);have oA3:Own h3 h2.length 36 [iv r.1.1,iv r.1.2]:=by simpa [Value.cells] using a1
  have k23:Keep (fun _=>False) h2 h3:=kA.trans' a2 (fun c hc e=>by omega);have oO3:=oO2.keep k23 (fun e=>e);simp only[ZG,↓reduceIte,ZA,ZB,ZC,oO3.cells.ld,oO3.cells.lds 1 2 (by simp),mbl,ZD,ZE,ZF];refine XX_of (Move_ok ((t1.ref k2).keepF k23) t1.v.ok.fresh t1.v.oo o.w hm) (fun res h4 hle4 hres=>?_);obtain ⟨k4,rfl,L2,p2,sm2⟩:=hres;refine .ret ?_;have zA:L.cls h2.length=0:=t1.hp.c0 _ k2.len;have oA4:=oA3.keep k4 (by simp [Mine,zA]);have oB:=Own.new h4 36 h4.length [iv 0,iv 0];have kB:Keep (fun _=>False) h4 (h4++[row 36 h4.length [iv 0,iv 0]]):=Keep.push _ _ _;simp only[ZG,↓reduceIte,ZA,ZB,ZC,wv,mbl,ZD,ZE,ZF];refine XH_own oB rfl (by simp [Value.cells]) rfl (fun h5 b1 b2 b3=>?_);have oB5:Own h5 h4.length 36 [iv r.1.1,iv r.1.2]:=by simpa [Value.cells] using b1
  have k45:Keep (fun _=>False) h4 h5:=kB.trans' b2 (fun c hc e=>by omega);have oA5:=oA4.keep k45 (fun e=>e);simp only[ZG,↓reduceIte,ZA,ZB,ZC,oA5.cells.lds 0 2 (by simp),oB5.cells.lds 0 2 (by simp),mbl,ZD,ZE,ZF,ceq_w,and_self];have fin:=t1.fin k2 s1 sm1 k23 k4 p2 sm2 (t1.v.mv hmv) (by rw[gl_mv hmv];exact t1.g);refine hΨ _ _ (fin_ret (rv1 rfl ⟨(kp.mono fun q e=>e.elim).trans (fin.2.trans (k45.mono fun q e=>e.elim)),rfl,_,_,_,fin.1.keepF k45⟩))
 by_cases d7:o.k=7
 ·simp only[ZG,↓reduceIte,ZA,ZB,ZC,oO.cells.ld,d7,mbl,ZD,ZE,ZF]
  refine XX_of (rFlip_ok t1.rh t1.v) (fun res h2 hle2 hres=>?_);obtain ⟨rfl,k2,L1',s1,sm1⟩:=hres;refine .ret ?_;simp only[ZG,↓reduceIte,ZA,ZB,ZC,mbl,ZD,ZE,ZF];refine XX_of (Flip_ok (t1.ref k2)) (fun res h3 hle3 hres=>?_);obtain ⟨rfl,k3,L2,p2,sm2⟩:=hres;refine .ret ?_;have fin:=t1.fin k2 s1 sm1 (Keep.refl _ _) k3 p2 sm2 t1.v.flip t1.g;simp only[ZG,↓reduceIte,ZA,ZB,ZC,mbl,ZD,ZE,ZF];refine XX_val (Used_ok fin.1.hp) ?_;simp only[ZG,↓reduceIte,ZA,ZB,ZC,mbl,ZD,ZE,ZF];refine XX_val (rUsed_ok fin.1.rh) ?_;simp only[ZG,↓reduceIte,ZA,ZB,ZC,mbl,ZD,ZE,ZF];refine hΨ _ _ (fin_ret (rv1 rfl ⟨(kp.mono fun q e=>e.elim).trans fin.2,rfl,_,_,_,fin.1⟩))
 by_cases d9:o.k=9
 ·simp only[ZG,↓reduceIte,ZA,ZB,ZC,oO.cells.ld,d9,mbl,ZD,ZE,ZF]
  refine XX_val (rNext_ok t1.rh t1.v o.n) ?_;simp only[ZG,↓reduceIte,ZA,ZB,ZC,oO.cells.ld,mbl,ZD,ZE,ZF];refine XX_val (Next_ok t1.hp o.n (fun m hm=>by
   have tt:=tiles_in t1.v.tn (mget_in hm);have:=t1.v.ln;have:=t1.v.sz;simp only at tt;omega)) ?_
  simp only[ZG,↓reduceIte,ZA,ZB,ZC,mbl,ZD,ZE,ZF];refine hΨ _ _ (fin_ret (rv1 rfl ⟨kp.mono fun q e=>e.elim,rfl,_,_,_,t1⟩))
 by_cases d2:o.k=2
 ·simp only[ZG,↓reduceIte,ZA,ZB,ZC,oO.cells.ld,d2,oO.cells.lds 1 2 (by simp),mbl,ZD,ZE,ZF]
  refine XX_of (rHead_ok t1.rh t1.v o.w) (fun res h2 hle2 hres=>?_);obtain ⟨k2,rfl⟩:=hres;refine .ret ?_;have oO2:=oO.keep k2 (fun e=>e);have oA:=Own.new h2 36 h2.length [iv 0,iv 0];have kA:Keep (fun _=>False) h2 (h2++[row 36 h2.length [iv 0,iv 0]]):=Keep.push _ _ _;simp only[ZG,↓reduceIte,ZA,ZB,ZC,wv,mbl,ZD,ZE,ZF];refine XH_own oA rfl (by simp [Value.cells]) rfl (fun h3 a1 a2 a3=>?_);have oA3:Own h3 h2.length 36 [iv (S.head o.w).1.1,iv (S.head o.w).1.2]:=by simpa [Value.cells] using a1
  have k13:Keep (fun _=>False) h1 h3:=(k2.trans kA).trans' a2 (fun c hc e=>by have:=k2.len;omega);have oO3:=oO.keep k13 (fun e=>e);have t3:=t1.keepF k13;simp only[ZG,↓reduceIte,ZA,ZB,ZC,oO3.cells.lds 1 2 (by simp),mbl,ZD,ZE,ZF];refine XX_of (Head_ok t3.hp o.w) (fun res h4 hle4 hres=>?_);obtain ⟨k4,rfl⟩:=hres;refine .ret ?_;have oB:=Own.new h4 36 h4.length [iv 0,iv 0];have kB:Keep (fun _=>False) h4 (h4++[row 36 h4.length [iv 0,iv 0]]):=Keep.push _ _ _;simp only[ZG,↓reduceIte,ZA,ZB,ZC,wv,mbl,ZD,ZE,ZF];refine XH_own oB rfl (by simp [Value.cells]) rfl (fun h5 b1 b2 b3=>?_);have oB5:Own h5 h4.length 36 [iv (S.head o.w).1.1,iv (S.head o.w).1.2]:=by simpa [Value.cells] using b1
  have k35:Keep (fun _=>False) h3 h5:=(k4.trans kB).trans' b2 (fun c hc e=>by have:=k4.len;omega);have oO5:=oO3.keep k35 (fun e=>e);have oA5:=oA3.keep k35 (fun e=>e);have t5:=t3.keepF k35;simp only[ZG,↓reduceIte,ZA,ZB,ZC,oO5.cells.lds 1 2 (by simp),mbl,ZD,ZE,ZF];refine XX_of (rFields_ok t5.rh t5.v o.w) (fun res h6 hle6 hres=>?_);obtain ⟨k6,hres⟩:=hres;have oO6:=oO5.keep k6 (fun e=>e);have t6:=t5.keepF k6
  by_cases hl:S.lies o.w
  ·rw[if_pos hl] at hres
   obtain ⟨v1,rfl,f1,f2⟩:=hres;refine .ret ?_;simp only[ZG,↓reduceIte,ZA,ZB,ZC,oO6.cells.lds 1 2 (by simp),mbl,ZD,ZE,ZF];refine XX_of (Fields_ok t6.hp t6.v.ok o.w) (fun res h7 hle7 hres=>?_);obtain ⟨k7,hres⟩:=hres;rw[if_pos hl] at hres;obtain ⟨v2,rfl,g1,g2⟩:=hres;refine .ret ?_;have oA7:=(oA5.keep k6 (fun e=>e)).keep k7 (fun e=>e);have oB7:=(oB5.keep k6 (fun e=>e)).keep k7 (fun e=>e);have fl:(S.flds o.w).length<=9223372036854775807:=by
    rcases row_lies t6.rh t6.v o.w with ⟨_,e⟩|⟨i,x,hx,hp,h4,_,_,_⟩
    ·exact absurd hl e
    ·obtain ⟨f1,f2,f3,f4,f5⟩:=t6.rh.flen t6.v hx
     have e1:=t6.rh.fields t6.v hx;rw[hp] at e1;have e2:o.w=(4,o.w.2):=Prod.ext h4 rfl;rw[e2,<- e1];omega
   simp only[ZG,↓reduceIte,ZA,ZB,ZC,oA7.cells.lds 0 2 (by simp),oB7.cells.lds 0 2 (by simp),mbl,ZD,ZE,ZF,ceq_w,and_self];refine XX_val (SameWords_ok (f1.keep k7 (fun _ _ e=>e)).rds g1.rds fl) ?_;simp only[ZG,↓reduceIte,ZA,ZB,ZC,mbl,ZD,ZE,ZF];refine hΨ _ _ (fin_ret (rv1 rfl ⟨((((kp.trans k13).trans k35).trans k6).trans k7).mono fun q e=>e.elim,by simp [tup],_,_,_,t6.keepF k7⟩))
  ·rw[if_neg hl] at hres
   subst hres;refine .ret ?_;simp only[ZG,↓reduceIte,ZA,ZB,ZC,oO6.cells.lds 1 2 (by simp),mbl,ZD,ZE,ZF];refine XX_of (Fields_ok t6.hp t6.v.ok o.w) (fun res h7 hle7 hres=>?_);obtain ⟨k7,hres⟩:=hres;rw[if_neg hl] at hres;subst hres;refine .ret ?_;have oA7:=(oA5.keep k6 (fun e=>e)).keep k7 (fun e=>e);have oB7:=(oB5.keep k6 (fun e=>e)).keep k7 (fun e=>e);simp only[ZG,↓reduceIte,ZA,ZB,ZC,oA7.cells.lds 0 2 (by simp),oB7.cells.lds 0 2 (by simp),mbl,ZD,ZE,ZF,ceq_w,and_self];refine XX_val (SameWords_ok (xs:=[]) (ys:=[]) .nil .nil (by simp)) ?_;simp only[ZG,↓reduceIte,ZA,ZB,ZC,mbl,ZD,ZE,ZF];refine hΨ _ _ (fin_ret (rv1 rfl ⟨((((kp.trans k13).trans k35).trans k6).trans k7).mono fun q e=>e.elim,by simp [tup],_,_,_,t6.keepF k7⟩))
 simp only[ZG,↓reduceIte,ZA,ZB,ZC,oO.cells.ld,d1,d2,d3,d4,d5,d6,d7,d8,d9,d10,mbl,ZD,ZE,ZF];refine XX_val (Used_ok t1.hp) ?_;simp only[ZG,↓reduceIte,ZA,ZB,ZC,mbl,ZD,ZE,ZF];refine XX_val (rUsed_ok t1.rh) ?_;simp only[ZG,↓reduceIte,ZA,ZB,ZC,mbl,ZD,ZE,ZF];refine XX_val (Size_ok t1.hp) ?_;simp only[ZG,↓reduceIte,ZA,ZB,ZC,mbl,ZD,ZE,ZF];refine XX_val (rSize_ok t1.rh) ?_;simp only[ZG,↓reduceIte,ZA,ZB,ZC,mbl,ZD,ZE,ZF];have hg:=t1.g;refine XX_of (Globals_ok t1.hp (by omega)) (fun res h2 hle2 hres=>?_);obtain ⟨k2,v1,rfl,o1,f1⟩:=hres;refine .ret ?_;have t2:=t1.keepF k2;simp only[ZG,↓reduceIte,ZA,ZB,ZC,mbl,ZD,ZE,ZF];refine XX_of (rGlobals_ok t2.rh (by omega)) (fun res h3 hle3 hres=>?_);obtain ⟨k3,v2,rfl,o2,f2⟩:=hres;refine .ret ?_;simp only[ZG,↓reduceIte,ZA,ZB,ZC,mbl,ZD,ZE,ZF];refine XX_val (SameWords_ok (o1.keep k3 (fun _ _ e=>e)).rds o2.rds (by omega)) ?_;simp only[ZG,↓reduceIte,ZA,ZB,ZC,mbl,ZD,ZE,ZF];refine hΨ _ _ (fin_ret (rv1 rfl ⟨((kp.trans k2).trans k3).mono fun q e=>e.elim,by simp [tup],_,_,_,t2.keepF k3⟩))
end
end Go.S18

namespace Go.S18
open Go Go.Eng Go.Proofs Go.Chk
theorem gls_len {C:Cx} {texts:List ByteArray} {words:Int} {S:HS} (h:(HS.start C texts words).gls C.tops.length=some S):S.globals.length=C.tops.length:=by
 rw[(gls_img h).2.2.2.2.1];show 0+C.tops.length=_;omega
set_option maxHeartbeats 8000000 in
theorem Scripts_ok {h:AH} {C:Cx} {texts:List ByteArray} {vi vc vt vp vk:Value} {N:Nat} (g:Given h N C texts vi vc vt vp vk) (words:Int) {u:Value} {os:List Op} (ru:Rds h 7 u os.length (os.flatMap Op.cells)) (qs:∀ o∈os,o.Q h N) (hN:N<=1048576) (hos:os.length<=N) :
 Gets Try.prog 7 [.agg #[vi,vc,vt,vp,iv C.main,vk],iv words,u] h (fun res h'=>res = .ret (.bool true)):=by
 refine Gets.of (keep:=false) hP (draw_ok hM) k7 (by rfl) (fun Ψ hΨ=>?_);obtain ⟨ua,uc,rfl⟩:=row_shape ru;have oI:=Own.new h 27 h.length [vi,vc,vt,vp,iv C.main,vk];have k1:Keep (fun _=>False) h (h++[row 27 h.length [vi,vc,vt,vp,iv C.main,vk]]):=Keep.push _ _ _;simp only[ZG,↓reduceIte,ZA,ZB,ZC,r7,YE,YC,YO,YA,YL,YX,YS,Ya,Yb,Yl,Yf,Yg,Yi,Ym,Yk,Yt,Yn,Yz,Yp,Yq,Yd,mbl,ZD,ZE,ZF];generalize h++[row 27 h.length [vi,vc,vt,vp,iv C.main,vk]]=h1 at oI k1 ⊢;refine XX_val (wakes_ok h1) ?_;simp only[ZG,↓reduceIte,ZA,ZB,ZC,mbl,ZD,ZE,ZF,oI.cells.lds 0 6 (by simp)];have li:=g.li;have lc:=g.lc;have lp:=g.lp;have lk:=g.lk;have lt:=g.lt;have im1:=g.im.keep k1 (fun _ _ e=>e);have rt1:=g.rt.keep k1 (fun _ _ e=>e);refine XX_of (New_ok (C:=C) (texts:=texts) im1 ⟨by omega,by omega,by omega,by omega⟩ rt1 (by omega) (by omega) words) (fun res h2 hle2 hn=>?_);obtain ⟨k2,hn⟩:=hn;unfold NewO at hn;have oI2:=oI.keep k2 (fun e=>e);have im2:=im1.keep k2 (fun _ _ e=>e);have rt2:=rt1.keep k2 (fun _ _ e=>e);have k02:=k1.trans k2;have rnew:=rNew_ok im2 ⟨by omega,by omega,by omega,by rw[g.nt];omega⟩ (fun w hw=>(g.gi w hw).2.2.1.2) (by omega) rt2 (by omega) (by omega) (by omega) (by omega) (by omega) words
 by_cases hends:(ends C).isSome=true/\0<=words/\words<=262144
 case neg =>
  rw[if_neg hends] at hn;subst hn;refine .ret ?_;simp only[ZG,↓reduceIte,ZA,ZB,ZC,mbl,ZD,ZE,ZF,oI2.cells.lds 0 6 (by simp)];refine XX_of rnew (fun res h3 hle3 hn=>?_);obtain ⟨k3,hn⟩:=hn;unfold rNewO at hn;rw[if_neg hends] at hn;subst hn;refine .ret ?_;simp only[ZG,↓reduceIte,ZA,ZB,ZC,mbl,ZD,ZE,ZF];refine XLo_rule (α:=Unit) (fun _=>[(2,.slice ua os.length uc),(6,.bool false),(9,.pointer none),(11,iv 0)]) (fun _ h'=>True) (fun _=>0) () trivial ⟨rfl,rfl,rfl,rfl,trivial⟩ ?_;rintro _ h4 Ψ2 _ next out
  by_cases hlt:(0:Int)<(os.length:Int)
  ·simp only[ZG,↓reduceIte,ZA,ZB,ZC,hlt]
   refine out (.exit 0) _ _ _ _ (by intro e;cases e) ?_;simp only[ZG,↓reduceIte,ZA,ZB,ZC];exact hΨ _ _ (fin_ret (rv1 rfl rfl))
  ·simp only[ZG,↓reduceIte,ZA,ZB,ZC,hlt]
   refine out (.exit 0) _ _ _ _ (by intro e;cases e) ?_;simp only[ZG,↓reduceIte,ZA,ZB,ZC];exact hΨ _ _ (fin_ret (rv1 rfl rfl))
 rw[if_pos hends] at hn
 split at hn
 case h_2 hno =>
  subst hn;refine .ret ?_;simp only[ZG,↓reduceIte,ZA,ZB,ZC,mbl,ZD,ZE,ZF,oI2.cells.lds 0 6 (by simp)];refine XX_of rnew (fun res h3 hle3 hn=>?_);obtain ⟨k3,hn⟩:=hn;unfold rNewO at hn;rw[if_pos hends,hno] at hn;simp only at hn;subst hn;refine .ret ?_;simp only[ZG,↓reduceIte,ZA,ZB,ZC,mbl,ZD,ZE,ZF];refine XLo_rule (α:=Unit) (fun _=>[(2,.slice ua os.length uc),(6,.bool false),(9,.pointer none),(11,iv 0)]) (fun _ h'=>True) (fun _=>0) () trivial ⟨rfl,rfl,rfl,rfl,trivial⟩ ?_;rintro _ h4 Ψ2 _ next out
  by_cases hlt:(0:Int)<(os.length:Int)
  ·simp only[ZG,↓reduceIte,ZA,ZB,ZC,hlt]
   refine out (.exit 0) _ _ _ _ (by intro e;cases e) ?_;simp only[ZG,↓reduceIte,ZA,ZB,ZC];exact hΨ _ _ (fin_ret (rv1 rfl rfl))
  ·simp only[ZG,↓reduceIte,ZA,ZB,ZC,hlt]
   refine out (.exit 0) _ _ _ _ (by intro e;cases e) ?_;simp only[ZG,↓reduceIte,ZA,ZB,ZC];exact hΨ _ _ (fin_ret (rv1 rfl rfl))
 rename_i S0 hS0
 obtain ⟨b,L0,rfl,hp0,z0⟩:=hn;obtain ⟨hH,hC,hT,hI,hF⟩:=ends_some hends.1;refine .ret ?_;simp only[ZG,↓reduceIte,ZA,ZB,ZC,mbl,ZD,ZE,ZF,oI2.cells.lds 0 6 (by simp)];refine XX_of rnew (fun res h3 hle3 hn=>?_);obtain ⟨k3,hn⟩:=hn;unfold rNewO at hn;rw[if_pos hends,hS0] at hn;simp only at hn;obtain ⟨b',R0,rfl,rp0,y0⟩:=hn;refine .ret ?_;have k03:=k02.trans k3;have hl1:=k1.len;have two:Two h.length h3 b L0 b' R0 S0:=⟨hp0.keepF k3,rp0,(Inv.start hF hends.2.1 (by omega)).gls hS0,fun q e1 e2=>by
  have hq:q<h2.length:=Z5 fun c=>e1 (hp0.c0 q c)
  exact e2 (y0 q hq),fun q hq=>⟨z0 q (by omega),y0 q (by omega)⟩,k03.len,by rw[gls_len hS0];omega⟩
 simp only[ZG,↓reduceIte,ZA,ZB,ZC,mbl,ZD,ZE,ZF];refine XLo_rule (α:=Nat × Lay × RL × HS) (fun a=>[(2,.slice ua os.length uc),(6,.bool false),(7,.pointer (some ⟨b,0,none⟩)),(9,.pointer (some ⟨b',0,none⟩)),(11,iv a.1)])
  (fun a h'=>a.1<=os.length/\Keep (fun q=>h.length<=q) h h'/\Two h.length h' b a.2.1 b' a.2.2.1 a.2.2.2) (fun a=>os.length-a.1) (0,L0,R0,S0) ⟨Nat.zero_le _,k03.mono (fun _ e=>e.elim),two⟩ ⟨rfl,rfl,rfl,rfl,rfl,trivial⟩ ?_
 rintro ⟨i,L,R,S⟩ h4 Ψ2 ⟨i1,k4,t⟩ next out
 simp only at i1 t
 by_cases hlt:(i:Int)<(os.length:Int)
 case neg =>
  simp only[ZG,↓reduceIte,ZA,ZB,ZC,hlt];refine out (.exit 0) _ _ _ _ (by intro e;cases e) ?_;simp only[ZG,↓reduceIte,ZA,ZB,ZC];exact hΨ _ _ (fin_ret (rv1 rfl rfl))
 have h0:0<=(i:Int):=by omega
 have hil:i<os.length:=by omega
 have ho:os[i]?=some os[i]:=Z4 hil;have hq:=qs os[i] (List.getElem_mem _);generalize os[i]=o at ho hq;have hw:IntKind.i64.wrap ((i:Int)+1)=((i+1:Nat):Int):=by rw[i64w (by omega) (by omega)];omega
 have rlow:∀ q,rb o.lv q->q<h.length:=fun q e=>hq.1.lt q e
 have ru4:=ru.keep k4 (fun q e c=>by have:=ru.lt q e;omega);have hq4:o.Q h4 N:=⟨hq.1.keep k4 (fun q e c=>by have:=rlow q e;omega),hq.2⟩
 obtain ⟨b1,o1,c1,e1,hld⟩:=ru4.cellsAt Op.len ho (j:=0) (m:=7) (by omega);cases e1;simp only[Op.cells,List.drop_zero,List.take_succ_cons,List.take_zero,Nat.add_zero] at hld;simp only[ZG,↓reduceIte,ZA,ZB,ZC,hlt,h0,and_self,Z0,hld];refine XX_of (step_ok t o hq4 (by omega) rlow) (fun res h5 hle5 hn=>?_);obtain ⟨k5,rfl,L2,R2,S2,t2⟩:=hn;refine .ret ?_;simp only[ZG,↓reduceIte,ZA,ZB,ZC,mbl,ZD,ZE,ZF,hw];exact next (i+1,L2,R2,S2) _ _ _ ⟨by omega,k4.trans k5,t2⟩ ⟨rfl,rfl,rfl,rfl,rfl,trivial⟩ (by simp only;omega)
end Go.S18
