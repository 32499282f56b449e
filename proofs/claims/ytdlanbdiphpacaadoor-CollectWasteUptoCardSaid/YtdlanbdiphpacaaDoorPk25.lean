import Derived.Test.YtdlanbdiphpacaaDoorPk24
import Derived.Test.YtdlanbdiphpacaaDoorRows
import Derived.Test.YtdlanbdiphpacaaDoorPk12
import Derived.LaidMore
import Derived.OpenShut
import Derived.MakeChecks
set_option linter.unusedVariables false
set_option linter.unusedSimpArgs false
open Nat renaming reduceEqDiff -> ZA,reduceAdd -> ZB,reduceMul -> ZC,reduceLeDiff -> ZD,reduceLT -> ZE
open Int renaming reduceEq -> ZF
open Int renaming cast_ofNat_Int->Z0,natCast_add->Z1
open List renaming getElem?_eq_getElem->Z2,length_map->Z3,map_congr_left->Z4,getElem?_eq_some_iff->Z6,getElem?_range->Z9,mem_singleton->Za,flatMap_cons->Zb,getElem?_map->Zc
open Nat renaming zero_le->Z5
open Option renaming isSome_iff_exists->Z7,some->Z8
namespace Go.S19
open Go Go.Eng Go.Proofs Go.Chk Go.Scn
theorem put_rg {S:HS} (v:Inv S) (hd:Int × Int) (ys:List (Int × Int)):rgI (S.put hd ys).1.2:=by
 have:=v.ln;have:=v.sz;unfold HS.put;split
 ·split
  ·exact rg0
  ·exact ⟨by show _<=((S.now.length:Nat):Int);omega,by show ((S.now.length:Nat):Int)<=_;omega⟩
 ·exact rg0
theorem Gs.gl {S S':HS} {k:Nat} (g:Gs S) (hk:(k:Int)<=9223372036854775807) (h:S.gl k=some S'):Gs S':=by
 have v2:=g.v.gl h;have hr:rgI (k:Int):=⟨by omega,hk⟩
 unfold HS.gl at h
 split at h
 ·split at h
  ·cases h
   have g2:=g.put (hd:=(6,(k:Int))) (ys:=[]) hr (fun y hy=>by cases hy);refine ⟨v2,⟨g2.r.now,g2.r.old,fun x hx=>(List.mem_append.1 hx).elim (g.r.gl x) (fun e=>?_)⟩,g2.tx,g2.to⟩;cases Za.1 e;exact put_rg g.v _ _
  ·cases h
 ·cases h
  refine ⟨v2,⟨g.r.now,g.r.old,fun x hx=>(List.mem_append.1 hx).elim (g.r.gl x) (fun e=>?_)⟩,g.tx,g.to⟩;cases Za.1 e;exact hr
theorem Gs.gls {S:HS} (g:Gs S):∀ {n:Nat} {S':HS},(n:Int)<=9223372036854775807->S.gls n=some S'->Gs S':=by
 intro n
 induction n with
 | zero=>intro S' _ h;cases h;exact g
 | succ n ih =>
   intro S' hn h;rw[HS.gls] at h;obtain ⟨T,hT,h2⟩:=Option.bind_eq_some_iff.1 h;exact (ih (by omega) hT).gl (by omega) h2
def St0 (C:Cx) (texts:List ByteArray) (S:HS):Prop:=(ends C).isSome=true/\(HS.start C texts 300).gls C.tops.length=some S
theorem St0.gs {C:Cx} {texts:List ByteArray} {S:HS} (s:St0 C texts S) (hl:C.tops.length<=1048576):Gs S/\S.globals.length=C.tops.length:=by
 obtain ⟨_,_,_,_,hF⟩:=ends_some s.1;have g0:Gs (HS.start C texts 300):=.start (Inv.start hF (by omega) (by omega)) ⟨fun x hx=>(by cases hx),fun x hx=>(by cases hx),fun x hx=>(by cases hx)⟩ (fun q hq=>by cases hq) rfl;refine ⟨g0.gls (by omega) s.2,?_⟩;have:=(gls_img s.2).2.2.2.2.1;rw[this];show 0+C.tops.length=_;omega
structure Ph (h0 h:AH) (b:Nat) (L:Lay) (S:HS):Prop where
 hp:Hp h b L S
 gs:Gs S
 gl:S.globals.length<=1048576
 kp:Keep (fun _=>False) h0 h
 z:∀ q,q<h0.length->L.cls q=0
section
variable {h0 h h':AH} {b:Nat} {L L':Lay} {S S':HS}
theorem Ph.keepF (p:Ph h0 h b L S) (k:Keep (fun _=>False) h h'):Ph h0 h' b L S:=⟨p.hp.keepF k,p.gs,p.gl,p.kp.trans k,p.z⟩
theorem Ph.step (p:Ph h0 h b L S) (k:Keep (Mine L) h h') (s:Hp h' b L' S') (sm:Same h.length L L') (g:Gs S'/\S'.globals.length=S.globals.length):Ph h0 h' b L' S' :=
 ⟨s,g.1,by rw[g.2];exact p.gl,p.kp.trans' k (fun c hc e=>e (p.z c hc)),fun q hq=>(sm q (by have:=p.kp.len;omega)).2 (p.z q hq)⟩
end
theorem op_box {h:AH} {q:Nat} {o:Op} (w:Own h q 58 o.cells):ldcs h q 1 2=some [iv o.w.1,iv o.w.2]/\ldcs h q 3 2=some [iv o.x.1,iv o.x.2]/\ldc h q 0=some (iv o.k)/\ldc h q 5=some (iv o.n)/\ldc h q 6=some o.lv :=
 ⟨w.cells.lds 1 2 (by simp [Op.cells]),w.cells.lds 3 2 (by simp [Op.cells]),(w.cells.ld 0).trans rfl,(w.cells.ld 5).trans rfl,(w.cells.ld 6).trans rfl⟩
section
variable {h:AH} {N:Nat} {C:Cx} {texts:List ByteArray} {vi vc vt vp vk u:Value} {os:List Op}
set_option maxHeartbeats 4000000 in
theorem play_ok (hN:N<=1048576) (g:Given h N C texts vi vc vt vp vk) (ru:Rds h 7 u os.length (os.flatMap Op.cells)) (hol:os.length<=N) (qs:∀ o∈os,o.Q h N) :
 Gets Tryd.prog 8 [.agg #[vi,vc,vt,vp,iv C.main,vk],u] h (fun res h'=>Keep (fun _=>False) h h'/\(((∀ S0,¬ St0 C texts S0)/\res = .ret (.pointer none)) \/ ∃ S0 b L S,St0 C texts S0/\Run S0 os S/\res = .ret (.pointer (some ⟨b,0,none⟩))/\Ph h h' b L S)):=by
 refine Gets.of (keep:=false) hP (draw_ok hM) k8 (by rfl) (fun Ψ hΨ=>?_);obtain ⟨ua,uc,hue⟩:=row_shape ru;have oI:=Own.new h 26 h.length [vi,vc,vt,vp,iv C.main,vk];have k1:Keep (fun _=>False) h (h++[row 26 h.length [vi,vc,vt,vp,iv C.main,vk]]):=Keep.push _ _ _;have hsh:∀ x∈[vi,vc,vt,vp,vk],∃ a n c,x = .slice a n c:=by
  obtain ⟨a1,c1,e1⟩:=row_shape g.im.ri;obtain ⟨a2,c2,e2⟩:=row_shape g.im.rc;obtain ⟨a3,c3,e3⟩:=row_shape g.rt;obtain ⟨a4,c4,e4⟩:=row_shape g.im.rp;obtain ⟨a5,c5,e5⟩:=row_shape g.im.rk;intro x hx;simp only[List.mem_cons,List.not_mem_nil,or_false] at hx
  rcases hx with rfl|rfl|rfl|rfl|rfl
  ·exact ⟨_,_,_,e1⟩
  ·exact ⟨_,_,_,e2⟩
  ·exact ⟨_,_,_,e3⟩
  ·exact ⟨_,_,_,e4⟩
  ·exact ⟨_,_,_,e5⟩
 simp only[ZG,↓reduceIte,ZA,ZB,ZC,r8,YE,YC,YO,YA,YL,YX,YS,Ya,Yb,Yl,Yf,Yg,Yi,Ym,Yk,Yt,Yn,Yz,Yp,Yq,Yd,mbl,ZD,ZE,ZF];generalize h++[row 26 h.length [vi,vc,vt,vp,iv C.main,vk]]=h1 at oI k1 ⊢;simp only[ZG,↓reduceIte,ZA,ZB,ZC,mbl,ZD,ZE,ZF,oI.cells.lds 0 6 (by simp)];have li:=g.li;have lc:=g.lc;have lp:=g.lp;have lk:=g.lk;have lt:=g.lt;refine XX_of (New_ok (C:=C) (texts:=texts) (g.im.keep k1 (fun _ _ e=>e)) ⟨by omega,by omega,by omega,by omega⟩ (g.rt.keep k1 (fun _ _ e=>e)) (by omega) (by omega) 300) (fun res h2 hle2 hn=>?_);obtain ⟨k2,hn⟩:=hn;have k02:=k1.trans k2;unfold NewO at hn
 by_cases hends:(ends C).isSome=true
 case neg =>
  rw[if_neg (fun e=>hends e.1),if_neg hends] at hn;subst hn;refine .ret ?_;simp only[ZG,↓reduceIte,ZA,ZB,ZC,mbl,ZD,ZE,ZF];exact hΨ _ _ (fin_ret (rv1 rfl ⟨k02,.inl ⟨fun S0 e=>hends e.1,rfl⟩⟩))
 rw[if_pos ⟨hends,by omega,by omega⟩] at hn
 split at hn
 case h_2 =>
  rename_i hno
  subst hn;refine .ret ?_;simp only[ZG,↓reduceIte,ZA,ZB,ZC,mbl,ZD,ZE,ZF];exact hΨ _ _ (fin_ret (rv1 rfl ⟨k02,.inl ⟨fun S0 e=>(by rw[e.2] at hno;cases hno),rfl⟩⟩))
 rename_i S0 hS0
 obtain ⟨b,L0,rfl,hp0,z0⟩:=hn;have st0:St0 C texts S0:=⟨hends,hS0⟩
 obtain ⟨gs0,gl0⟩:=st0.gs (by omega);have hk1:=k1.len;have p0:Ph h h2 b L0 S0:=⟨hp0,gs0,by omega,k02,fun q hq=>z0 q (by omega)⟩
 refine .ret ?_;simp only[ZG,↓reduceIte,ZA,ZB,ZC,mbl,ZD,ZE,ZF,hue];rw[<- hue];refine XLo_rule (α:=Nat × HS × Lay) (fun a=>[(1,u),(5,.pointer (some ⟨b,0,none⟩)),(7,iv a.1)])
  (fun a h'=>a.1<=os.length/\Ph h h' b a.2.2 a.2.1/\Run S0 (os.take a.1) a.2.1) (fun a=>os.length-a.1) (0,S0,L0) ⟨Z5 _,p0,.nil⟩ ⟨by rw[hue];rfl,rfl,rfl,trivial⟩ ?_
 clear p0 hp0 z0 oI;rintro ⟨i,S,L⟩ ha Ψ2 ⟨i1,p,run⟩ next out
 simp only at i1 p run
 by_cases hil:i<os.length
 case neg =>
  have d1:((i:Int)<((os.length:Nat):Int))=False:=by simp;omega
  simp only[ZG,↓reduceIte,ZA,ZB,ZC,d1,hue];refine out (.exit 0) _ _ _ _ (by intro e;cases e) ?_;simp only[ZG,↓reduceIte,ZA,ZB,ZC,mbl,ZD,ZE,ZF];have:os.take i=os:=List.take_of_length_le (by omega);rw[this] at run;exact hΨ _ _ (fin_ret (rv1 rfl ⟨p.kp,.inr ⟨S0,b,L,S,st0,run,rfl,p⟩⟩))
 case pos =>
 have d1:((i:Int)<((os.length:Nat):Int))=True:=by simp;omega
 have hw1:IntKind.i64.wrap ((i:Int)+1)=i+1:=i64w (by omega) (by omega);have d0:(0<=(i:Int))=True:=by simp
 have tn:Int.toNat (i:Int)=i:=by simp
 have ho:os[i]?=some os[i]:=Z2 hil;have hq:=qs os[i] (List.getElem_mem _);have htk:os.take (i+1)=os.take i++[os[i]]:=by rw[List.take_add_one,ho];rfl
 generalize os[i]=o at ho hq htk;obtain ⟨hy1,hy2,q1,q2,q3,q4,q5,q6⟩:=hq;have hR:o.R:=⟨q2,q5,fun y hy=>(q6 y hy).2⟩
 obtain ⟨b1,f1,c1,e1,l1⟩:=rds_sub (ru.keep p.kp (fun _ _ e=>e)) (i:=i) (j:=0) (m:=7) hil (by omega);rw[flat_at Op.len ho (by omega)] at l1;have l1':ldcs ha b1 (f1+i*7) 7=some o.cells:=by simpa [Op.cells] using l1
 have oB:=Own.new ha 58 ha.length [iv 0,iv 0,iv 0,iv 0,iv 0,iv 0,.slice none 0 0];have kB:Keep (fun _=>False) ha (ha++[row 58 ha.length [iv 0,iv 0,iv 0,iv 0,iv 0,iv 0,.slice none 0 0]]):=Keep.push _ _ _;obtain ⟨la,lcc,hlv⟩:=row_shape hy1;rw[hue] at e1;cases e1;simp only[ZG,↓reduceIte,ZA,ZB,ZC,d1,hue,d0,and_self,tn,l1',mbl,ZD,ZE,ZF];generalize ha++[row 58 ha.length [iv 0,iv 0,iv 0,iv 0,iv 0,iv 0,.slice none 0 0]]=hb at oB kB ⊢;have hcell:(Value.agg o.cells.toArray).cells=o.cells.toArray:=by unfold Op.cells;rw[hlv];simp [Value.cells]
 have hlc:o.cells.all Value.oneCell'=true:=by unfold Op.cells;rw[hlv];rfl
 refine XH_own oB (by rw[hcell];rfl) (by rw[hcell];simp [Op.cells]) (by rw[hcell];simpa using hlc) (fun hc w1 w2 w3=>?_);rw[hcell] at w1;have oC:Own hc ha.length 58 o.cells:=by simpa [Op.cells] using w1
 have kC:Keep (fun _=>False) ha hc:=kB.trans' w2 (fun c hc e=>by omega);have pb:=p.keepF kC;clear w1 w2 w3 oB kB;obtain ⟨m1,m2,m3,m4,m5⟩:=op_box oC;have hyc:Rds hc 2 o.lv o.ys.length (ww o.ys):=hy1.keep pb.kp (fun _ _ e=>e);have hyl:∀ q,rb o.lv q->L.cls q=0:=fun q e=>pb.z q (hy1.lt q e)
 simp only[ZG,↓reduceIte,ZA,ZB,ZC,m3,mbl,ZD,ZE,ZF];have hgl:=pb.gl
 by_cases hk:o.k=1
 ·simp only[ZG,↓reduceIte,ZA,ZB,ZC,hk,m1,m5,mbl,ZD,ZE,ZF]
  refine XX_of (Put_ok pb.hp pb.gs.v.ok.fresh o.w hyc (by omega) (fun _=>by omega)) (fun res hd hled hn=>?_);obtain ⟨kb,rfl,L',s',sm⟩:=hn;refine .ret ?_;have hs:Stp S o (S.put o.w o.ys).2.2:=by simp [Stp,hk]
  have p2:=pb.step kb s' sm (pb.gs.stp hR hs);simp only[ZG,↓reduceIte,ZA,ZB,ZC,mbl,ZD,ZE,ZF,hw1];exact next (i+1,_,L') _ _ _ ⟨by omega,p2,by rw[htk];exact .snoc run hs⟩ ⟨by rw[hue];rfl,rfl,by simp only[Z1,Z0];rfl,trivial⟩ (by simp only;omega)
 have n1:=hk;clear hk
 by_cases hk:o.k=2
 ·simp only[ZG,↓reduceIte,ZA,ZB,ZC,hk,m1,m2,m4,mbl,ZD,ZE,ZF]
  refine XX_of (Set_ok pb.hp pb.gs.v.ok o.w o.n o.x) (fun res hd hled hn=>?_);obtain ⟨kb,rfl,s'⟩:=hn;have L':=L;have sm:Same hc.length L L:=Same.refl _ _;refine .ret ?_;have hs:Stp S o (S.sete o.w o.n o.x).2:=by simp [Stp,hk]
  have p2:=pb.step kb s' sm (pb.gs.stp hR hs);simp only[ZG,↓reduceIte,ZA,ZB,ZC,mbl,ZD,ZE,ZF,hw1];exact next (i+1,_,L) _ _ _ ⟨by omega,p2,by rw[htk];exact .snoc run hs⟩ ⟨by rw[hue];rfl,rfl,by simp only[Z1,Z0];rfl,trivial⟩ (by simp only;omega)
 have n2:=hk;clear hk
 by_cases hk:o.k=3
 ·simp only[ZG,↓reduceIte,ZA,ZB,ZC,hk,m1,mbl,ZD,ZE,ZF]
  refine XX_of (xHole_ok pb.hp pb.gs.v o.w) (fun res hd hled hn=>?_);obtain ⟨kb,rfl,L',s',sm⟩:=hn;refine .ret ?_;have hs:Stp S o (S.hole o.w).2:=by simp [Stp,hk]
  have p2:=pb.step kb s' sm (pb.gs.stp hR hs);simp only[ZG,↓reduceIte,ZA,ZB,ZC,mbl,ZD,ZE,ZF,hw1];exact next (i+1,_,L') _ _ _ ⟨by omega,p2,by rw[htk];exact .snoc run hs⟩ ⟨by rw[hue];rfl,rfl,by simp only[Z1,Z0];rfl,trivial⟩ (by simp only;omega)
 have n3:=hk;clear hk
 by_cases hk:o.k=4
 ·simp only[ZG,↓reduceIte,ZA,ZB,ZC,hk,m1,m2,mbl,ZD,ZE,ZF]
  refine XX_of (xBecome_ok pb.hp pb.gs.v o.w o.x) (fun res hd hled hn=>?_);obtain ⟨kb,rfl,L',s',sm⟩:=hn;refine .ret ?_;have hs:Stp S o (S.becX o.w o.x).2:=by simp [Stp,hk]
  have p2:=pb.step kb s' sm (pb.gs.stp hR hs);simp only[ZG,↓reduceIte,ZA,ZB,ZC,mbl,ZD,ZE,ZF,hw1];exact next (i+1,_,L') _ _ _ ⟨by omega,p2,by rw[htk];exact .snoc run hs⟩ ⟨by rw[hue];rfl,rfl,by simp only[Z1,Z0];rfl,trivial⟩ (by simp only;omega)
 have n4:=hk;clear hk
 by_cases hk:o.k=5
 ·simp only[ZG,↓reduceIte,ZA,ZB,ZC,hk,m5,mbl,ZD,ZE,ZF]
  refine XX_of (SetGlobals_ok pb.hp hyc (by omega) (by omega)) (fun res hd hled hn=>?_);obtain ⟨kb,rfl,L',s',sm⟩:=hn;refine .ret ?_;have hs:Stp S o (S.setg o.ys).2:=by simp [Stp,hk]
  have p2:=pb.step kb s' sm (pb.gs.stp hR hs);simp only[ZG,↓reduceIte,ZA,ZB,ZC,mbl,ZD,ZE,ZF,hw1];exact next (i+1,_,L') _ _ _ ⟨by omega,p2,by rw[htk];exact .snoc run hs⟩ ⟨by rw[hue];rfl,rfl,by simp only[Z1,Z0];rfl,trivial⟩ (by simp only;omega)
 have n5:=hk;clear hk
 by_cases hk:o.k=6
 ·simp only[ZG,↓reduceIte,ZA,ZB,ZC,hk,m5,mbl,ZD,ZE,ZF]
  refine XX_of (Collect_ok pb.hp pb.gs.v (by omega) hyc (by omega) hyl) (fun res hd hled hn=>?_);obtain ⟨kb,hn⟩:=hn
  by_cases hgr:(S.graph o.ys).2=true
  ·rw[if_pos hgr] at hn
   obtain ⟨v',news,S',L',rfl,cr,s',iv',sm,rw'⟩:=hn;refine .ret ?_;have hs:Stp S o S':=by unfold Stp;rw[if_neg n1,if_neg n2,if_neg n3,if_neg n4,if_neg n5,if_pos hk,if_pos hgr];exact ⟨news,cr⟩
   have p2:=pb.step kb s' sm (pb.gs.stp hR hs);simp only[ZG,↓reduceIte,ZA,ZB,ZC,mbl,ZD,ZE,ZF,hw1];exact next (i+1,_,L') _ _ _ ⟨by omega,p2,by rw[htk];exact .snoc run hs⟩ ⟨by rw[hue];rfl,rfl,by simp only[Z1,Z0];rfl,trivial⟩ (by simp only;omega)
  ·rw[if_neg hgr] at hn
   obtain ⟨kf,rfl⟩:=hn;refine .ret ?_;have hs:Stp S o S:=by simp [Stp,hk,hgr]
   have p2:=pb.keepF kf;simp only[ZG,↓reduceIte,ZA,ZB,ZC,mbl,ZD,ZE,ZF,hw1];exact next (i+1,_,L) _ _ _ ⟨by omega,p2,by rw[htk];exact .snoc run hs⟩ ⟨by rw[hue];rfl,rfl,by simp only[Z1,Z0];rfl,trivial⟩ (by simp only;omega)
 have n6:=hk;clear hk
 by_cases hk:o.k=7
 ·simp only[ZG,↓reduceIte,ZA,ZB,ZC,hk,mbl,ZD,ZE,ZF]
  refine XX_of (Flip_ok pb.hp) (fun res hd hled hn=>?_);obtain ⟨rfl,kb,L',s',sm⟩:=hn;refine .ret ?_;have hs:Stp S o S.flip:=by simp [Stp,hk]
  have p2:=pb.step kb s' sm (pb.gs.stp hR hs);simp only[ZG,↓reduceIte,ZA,ZB,ZC,mbl,ZD,ZE,ZF,hw1];exact next (i+1,_,L') _ _ _ ⟨by omega,p2,by rw[htk];exact .snoc run hs⟩ ⟨by rw[hue];rfl,rfl,by simp only[Z1,Z0];rfl,trivial⟩ (by simp only;omega)
 have n7:=hk;clear hk
 by_cases hk:o.k=8
 ·simp only[ZG,↓reduceIte,ZA,ZB,ZC,hk,m1,mbl,ZD,ZE,ZF]
  obtain ⟨r,hmv,hget⟩:=xMove_ok pb.hp pb.gs.v o.w;refine XX_of hget (fun res hd hled hn=>?_);obtain ⟨kb,rfl,L',s',sm⟩:=hn;refine .ret ?_;have hs:Stp S o r.2.2:=by unfold Stp;rw[if_neg n1,if_neg n2,if_neg n3,if_neg n4,if_neg n5,if_neg n6,if_neg n7,if_pos hk];exact ⟨r,hmv,rfl⟩
  have p2:=pb.step kb s' sm (pb.gs.stp hR hs);simp only[ZG,↓reduceIte,ZA,ZB,ZC,mbl,ZD,ZE,ZF,hw1];exact next (i+1,_,L') _ _ _ ⟨by omega,p2,by rw[htk];exact .snoc run hs⟩ ⟨by rw[hue];rfl,rfl,by simp only[Z1,Z0];rfl,trivial⟩ (by simp only;omega)
 have hs:Stp S o S:=by simp only[Stp,n1,n2,n3,n4,n5,n6,n7,hk,if_false]
 simp only[ZG,↓reduceIte,ZA,ZB,ZC,n1,n2,n3,n4,n5,n6,n7,hk,mbl,ZD,ZE,ZF,hw1];exact next (i+1,S,L) _ _ _ ⟨by omega,pb,by rw[htk];exact .snoc run hs⟩ ⟨by rw[hue];rfl,rfl,by simp only[Z1,Z0];rfl,trivial⟩ (by simp only;omega)
end
end Go.S19

namespace Go.S19
open Go Go.Eng Go.Proofs Go.Chk Go.Scn
theorem Given.keepF {h h':AH} {N:Nat} {C:Cx} {texts:List ByteArray} {vi vc vt vp vk:Value} (g:Given h N C texts vi vc vt vp vk) (k:Keep (fun _=>False) h h'):Given h' N C texts vi vc vt vp vk :=
 ⟨g.im.keep k (fun _ _ e=>e),g.rt.keep k (fun _ _ e=>e),g.nt,g.li,g.lc,g.lp,g.lk,g.lt,g.gi,g.gt⟩
theorem Op.Q.keepF {h h':AH} {N:Nat} {o:Op} (q:o.Q h N) (k:Keep (fun _=>False) h h'):o.Q h' N:=⟨q.1.keep k (fun _ _ e=>e),q.2⟩
theorem tl_self (l:Bs):((tx l).toList == (tx l).toList)=true:=beq_self_eq_true _
section
variable {h:AH} {N:Nat} {C:Cx} {texts:List ByteArray} {vi vc vt vp vk u ur:Value} {os:List Op} {roots:List (Int × Int)}
end
end Go.S19

namespace Go.S19
open Go Go.Eng Go.Proofs Go.Chk Go.Scn
theorem Mv.det {S:HS} {w:Int × Int} {r:(Int × Int) × Int × HS} (h:Mv S w r):∀ {r':(Int × Int) × Int × HS},Mv S w r'->r=r':=by
 induction h with
 | plain h =>
   intro r' h';cases h' with
   | plain=>rfl
   | none a=>exact absurd h a
   | was a=>exact absurd h a
   | ind a=>exact absurd h a
   | full a=>exact absurd h a
   | new a=>exact absurd h a
 | none h h2 =>
   intro r' h';have no:∀ {n:Int},mget _ S.oldm=some n->_=(4:Int)->False:=fun hn h1=>h2 ⟨h1,by rw[hn];rfl⟩
   cases h' with
   | plain a=>exact absurd a h
   | none=>rfl
   | was _ a b=>exact (no b a).elim
   | ind _ a b=>exact (no b a).elim
   | full _ a b=>exact (no b a).elim
   | new _ a b=>exact (no b a).elim
 | was h h1 hn h13 =>
   intro r' h';cases h' with
   | plain a=>exact absurd a h
   | none _ a=>exact absurd ⟨h1,by rw[hn];rfl⟩ a
   | was=>rfl
   | ind _ _ _ a=>omega
   | full _ _ _ a=>exact absurd h13 a
   | new _ _ _ a=>exact absurd h13 a
 | ind h h1 hn h12 hm ih =>
   intro r' h';cases h' with
   | plain a=>exact absurd a h
   | none _ a=>exact absurd ⟨h1,by rw[hn];rfl⟩ a
   | was _ _ _ a=>omega
   | ind _ _ _ _ b=>exact ih b
   | full _ _ _ _ a=>exact absurd h12 a
   | new _ _ _ _ a=>exact absurd h12 a
 | full h h1 hn h13 h12 hf =>
   intro r' h';cases h' with
   | plain a=>exact absurd a h
   | none _ a=>exact absurd ⟨h1,by rw[hn];rfl⟩ a
   | was _ _ _ a=>exact absurd a h13
   | ind _ _ _ a=>exact absurd a h12
   | full=>rfl
   | new _ _ b _ _ a=>rw[hn] at b;cases b;exact absurd hf a
 | new h h1 hn h13 h12 hf =>
   intro r' h';cases h' with
   | plain a=>exact absurd a h
   | none _ a=>exact absurd ⟨h1,by rw[hn];rfl⟩ a
   | was _ _ _ a=>exact absurd a h13
   | ind _ _ _ a=>exact absurd a h12
   | full _ _ b _ _ a=>rw[hn] at b;cases b;exact absurd a hf
   | new=>rfl
theorem MvL.det {S T:HS} {ws xs:List (Int × Int)} (h:MvL S ws xs T):∀ {xs':List (Int × Int)} {T':HS},MvL S ws xs' T'->xs=xs'/\T=T':=by
 induction h with
 | nil=>intro xs' T' h';cases h';exact ⟨rfl,rfl⟩
 | cons h t ih =>
   intro xs' T' h';cases h' with
   | cons h2 t2 =>
     have e:=h.det h2;subst e;obtain ⟨e1,e2⟩:=ih t2;exact ⟨by rw[e1],e2⟩
theorem Scan.det {S T:HS} {i:Int} (h:Scan S i T):∀ {T':HS},Scan S i T'->T=T':=by
 induction h with
 | done h =>
   intro T' h';cases h' with
   | done=>rfl
   | step a=>exact absurd a h
 | step h m n ih =>
   intro T' h';cases h' with
   | done a=>exact absurd h a
   | step a m2 n2 =>
     obtain ⟨e1,e2⟩:=m.det m2;subst e1;subst e2;exact ih n2
theorem CollR.det {S T T':HS} {roots news news':List (Int × Int)} (h:CollR S roots news T) (h':CollR S roots news' T'):news=news'/\T=T':=by
 obtain ⟨S2,gs,S3,S4,m1,m2,sc,rfl⟩:=h;obtain ⟨S2',gs',S3',S4',m1',m2',sc',rfl⟩:=h';obtain ⟨rfl,rfl⟩:=m1.det m1';obtain ⟨rfl,rfl⟩:=m2.det m2';have:=sc.det sc';subst this;exact ⟨rfl,rfl⟩
theorem Stp.det {S T T':HS} {o:Op} (h:Stp S o T) (h':Stp S o T'):T=T':=by
 unfold Stp at h h'
 by_cases h1:o.k=1
 ·rw[if_pos h1] at h h';exact h.trans h'.symm
 rw[if_neg h1] at h h'
 by_cases h2:o.k=2
 ·rw[if_pos h2] at h h';exact h.trans h'.symm
 rw[if_neg h2] at h h'
 by_cases h3:o.k=3
 ·rw[if_pos h3] at h h';exact h.trans h'.symm
 rw[if_neg h3] at h h'
 by_cases h4:o.k=4
 ·rw[if_pos h4] at h h';exact h.trans h'.symm
 rw[if_neg h4] at h h'
 by_cases h5:o.k=5
 ·rw[if_pos h5] at h h';exact h.trans h'.symm
 rw[if_neg h5] at h h'
 by_cases h6:o.k=6
 ·rw[if_pos h6] at h h'
  by_cases hg:(S.graph o.ys).2=true
  ·rw[if_pos hg] at h h'
   obtain ⟨n1,c1⟩:=h;obtain ⟨n2,c2⟩:=h';exact (c1.det c2).2
  ·rw[if_neg hg] at h h';exact h.trans h'.symm
 rw[if_neg h6] at h h'
 by_cases h7:o.k=7
 ·rw[if_pos h7] at h h';exact h.trans h'.symm
 rw[if_neg h7] at h h'
 by_cases h8:o.k=8
 ·rw[if_pos h8] at h h'
  obtain ⟨r1,m1,e1⟩:=h;obtain ⟨r2,m2,e2⟩:=h';rw[e1,e2,m1.det m2]
 rw[if_neg h8] at h h';exact h.trans h'.symm
theorem Run.det {S T:HS} {os:List Op} (h:Run S os T):∀ {T':HS},Run S os T'->T=T':=by
 suffices key:∀ {os':List Op} {T':HS},Run S os' T'->os=os'->T=T' by intro T' h';exact key h' rfl
 induction h with
 | nil =>
   intro os' T' h' e;cases h' with
   | nil=>rfl
   | snoc=>exact absurd e (by simp)
 | snoc h s ih =>
   intro os' T' h' e;cases h' with
   | nil=>exact absurd e (by simp)
   | snoc h2 s2 =>
     obtain ⟨e1,e2⟩:=List.append_inj' e rfl;cases e2;have:=ih h2 e1;subst this;exact s.det s2
theorem St0.det {C:Cx} {texts:List ByteArray} {S S':HS} (h:St0 C texts S) (h':St0 C texts S'):S=S':=Z8.inj (h.2.symm.trans h'.2)
end Go.S19

namespace Go.S19
open Go Go.Eng Go.Proofs Go.Chk Go.Scn
structure Ext (S T:HS):Prop where
 inf:T.infos=S.infos
 con:T.cons=S.cons
 gl:T.globals=S.globals
 ln:S.now.length<=T.now.length
 nw:∀ j:Int,0<=j->j<S.now.length->gx T.now j=gx S.now j
 bg:∀ p n,mget p S.begins=some n->mget p T.begins=some n
theorem Ext.refl (S:HS):Ext S S:=⟨rfl,rfl,rfl,Nat.le_refl _,fun _ _ _=>rfl,fun _ _ h=>h⟩
section
variable {S T:HS}
theorem Ext.put (e:Ext S T) (vt:Inv T) (hd:Int × Int) (ys:List (Int × Int)):Ext S (T.put hd ys).2.2:=by
 obtain ⟨i1,i2,i3,i4,i5,i6,i7⟩:=put_img T hd ys;refine ⟨i1.trans e.inf,i3.trans e.con,i5.trans e.gl,?_,?_,?_⟩
 all_goals
  unfold HS.put
  split
 ·split
  ·exact e.ln
  ·show _<=(T.now++_).length
   rw[List.length_append];have:=e.ln;omega
 ·exact e.ln
 ·split
  ·exact e.nw
  ·intro j h0 h
   show gx (T.now++_) j=_
   have:=e.ln;rw[gx_old h0 (by omega)];exact e.nw j h0 h
 ·exact e.nw
 ·split
  ·exact e.bg
  ·rename_i c c2
   intro p n h;have h1:=e.bg p n h;have v2:=vt.put hd ys;unfold HS.put at v2;rw[if_pos c,if_neg c2] at v2;exact mem_mget v2.tn (x:=(p,n)) (List.mem_append_left _ (mget_in h1))
 ·exact e.bg
theorem Ext.plain (e:Ext S T) {w:Int × Int} (h:S.plain w):T.plain w:=by
 unfold HS.plain HS.cn HS.ik HS.fr at h ⊢;rw[e.inf,e.con];exact h
theorem Ext.lies (e:Ext S T) {w:Int × Int} (h:S.lies w):T.lies w:=by
 obtain ⟨n,hn⟩:=Z7.1 h.2;exact ⟨h.1,by rw[e.bg _ _ hn];rfl⟩
theorem Ext.sound (e:Ext S T) {w:Int × Int} (h:S.sound w):T.sound w:=h.imp e.plain e.lies
theorem Ext.fol (e:Ext S T) (v:Inv S):∀ {m:Nat} {w x:Int × Int},S.sound w->S.fol m w=some x->T.fol m w=some x:=by
 intro m
 induction m with
 | zero=>intro w x _ h;cases h
 | succ m ih =>
   intro w x hs h;rw[HS.fol] at h ⊢
   split at h
   ·rename_i h4
    rw[if_pos h4];have hl:S.lies w:=hs.resolve_left (fun hp=>plain_no4 hp h4);obtain ⟨n,hn,hm⟩:=lies_mem hl;have t:=tiles_in v.tn hm;simp only at t;rw[e.nw _ (by omega) (by omega)]
    split at h
    ·rename_i h12
     have:=(v.kn _ hm).k12 h12;rw[if_pos h12,e.nw _ (by omega) (by omega)];exact ih (v.chain hl h12) h
    ·rename_i h12;rw[if_neg h12];exact h
   ·rename_i h4;rw[if_neg h4];exact h
theorem Ext.folX (e:Ext S T) (v:Inv S) {w:Int × Int} (hs:S.sound w):T.folX w=S.folX w:=by
 obtain ⟨m,x,hx⟩:=v.tm w hs;rw[folX_eq hs hx,folX_eq (e.sound hs) (e.fol v hs hx)]
theorem Ext.wn (e:Ext S T) {x:Int × Int} (hl:S.lies x):T.wn x=S.wn x:=by
 obtain ⟨n,hn⟩:=Z7.1 hl.2;unfold HS.wn;rw[hn,e.bg _ _ hn]
theorem Ext.hd (e:Ext S T) (v:Inv S) {x:Int × Int} (hl:S.lies x):gx T.now x.2=gx S.now x.2:=by
 obtain ⟨n,hn,hm⟩:=lies_mem hl;have t:=tiles_in v.tn hm;exact e.nw _ (by simp only at t;omega) (by simp only at t;omega)
theorem Ext.flds (e:Ext S T) (v:Inv S) (vt:Inv T) {x:Int × Int} (hl:S.lies x):T.flds x=S.flds x:=by
 obtain ⟨a1,a2,a3,a4⟩:=obj_flds v hl;obtain ⟨b1,_⟩:=obj_flds vt (e.lies hl);have t:=tiles_in v.tn (mget_in a2);simp only at t;rw[a1,b1,e.hd v hl,e.wn hl,fcn_congr e.inf]
 apply List.ext_getElem?
 intro i;rw[fld_get,fld_get]
 split
 ·rw[e.nw _ (by omega) (by omega)]
 ·rfl
theorem Ext.meet (e:Ext S T) (v:Inv S):∀ (ws:List (Int × Int)) {ts:List (Int × Int)},(S.meetT ws ts).2=true->T.meetT ws ts=S.meetT ws ts:=by
 intro ws
 induction ws with
 | nil=>intro ts _;rfl
 | cons w ws ih =>
   intro ts h;rw[HS.meetT] at h ⊢;rw[HS.meetT]
   split at h
   ·rename_i hs
    rw[if_pos hs,if_pos (e.sound hs),e.folX v hs];exact ih h
   ·cases h
theorem bfs_pre:∀ (n i:Nat) {ts:List (Int × Int)} (sd:Bool),ts <+: (S.bfsT n i ts sd).1:=by
 intro n
 induction n with
 | zero=>intro i ts sd;exact List.prefix_refl _
 | succ n ih =>
   intro i ts sd;rw[HS.bfsT]
   split
   ·exact List.prefix_refl _
   ·split
    ·exact (meet_pre _ _).trans (ih _ _)
    ·exact meet_pre _ _
theorem Ext.bfs (e:Ext S T) (v:Inv S) (vt:Inv T) {us:List (Int × Int)}:∀ (n:Nat) {k:Nat} {ms:List (Int × Int)},S.bfsT n k ms true=(us,true)->S.begins.length<n+k->Gd S ms->k<=ms.length -> ∀ n',us.length<n'+k->T.bfsT n' k ms true=(us,true):=by
 intro n
 induction n with
 | zero=>intro k ms hb hn gd hk n' _;have:=gd.len v;omega
 | succ n ih =>
   intro k ms hb hn gd hk n' hn';cases hx:ms[k]? with
   | none =>
     have hk2:ms.length<=k:=List.getElem?_eq_none_iff.1 hx;rw[bfs_end hk2] at hb;cases hb;rw[show n'=(n'-1)+1 by omega,bfs_end hk2]
   | some x =>
     rw[bfs_step hx] at hb;cases hb2:(S.meetT (S.flds x) ms).2 with
     | false=>rw[hb2] at hb;simp at hb
     | true =>
     rw[hb2] at hb;simp only[Bool.and_self,if_true] at hb;have hl:=(gd.1 x (List.mem_of_getElem? hx)).1;have hlt:=(Z6.1 hx).1;have hpre:=(meet_pre (S:=S) (S.flds x) ms).length_le;have gd2:=Gd.meet v (S.flds x) gd;have hus:ms.length<=us.length:=by
      have:=bfs_pre (S:=S) n (k+1) (ts:=(S.meetT (S.flds x) ms).1) true;rw[hb] at this;have:=this.length_le;simp only at this;omega
     rw[show n'=(n'-1)+1 by omega,bfs_step hx,e.flds v vt hl,e.meet v _ hb2,hb2];simp only[Bool.and_self,if_true];exact ih hb (by omega) gd2 (by omega) (n'-1) (by omega)
theorem Ext.graph (e:Ext S T) (v:Inv S) (vt:Inv T) {roots:List (Int × Int)} (h:(S.graph roots).2=true):T.graph roots=S.graph roots:=by
 have sg:=Sg.of h;generalize hts:(S.graph roots).1=ts at sg;have hS:=sg.to;rw[hS];have gd:=Gd.meet v S.globals (Gd.meet v roots (Gd.nil S));have gdt:Gd S ts:=by rw[<- hts];exact Gd.bfs v _ _ _ gd
 have e1:=e.meet v roots (ts:=[]) sg.r;refine Sg.to ⟨by rw[e1];exact sg.r,by rw[e1,e.gl,e.meet v _ sg.g];exact sg.g,?_⟩;rw[e1,e.gl,e.meet v _ sg.g];refine e.bfs v vt _ sg.b (by omega) gd (Z5 _) _ ?_;have gdT:Gd T ts:=⟨fun x hx=>⟨e.lies (gdt.1 x hx).1,by rw[e.hd v (gdt.1 x hx).1];exact (gdt.1 x hx).2⟩,gdt.2⟩
 have:=gdT.len vt;omega
end
end Go.S19

namespace Go.S19
open Go Go.Eng Go.Proofs Go.Chk Go.Scn
section
variable {S T:HS} {roots ts:List (Int × Int)}
theorem Ext.lbl (e:Ext S T) (v:Inv S) {w:Int × Int} (hs:S.sound w):T.lbl ts w=S.lbl ts w:=by unfold HS.lbl;rw[e.folX v hs]
theorem Ext.ren (e:Ext S T) (v:Inv S) (gd:Gd S ts) {w:Int × Int} (hs:S.sound w):T.ren ts w=S.ren ts w:=by
 unfold HS.ren;rw[e.folX v hs]
 split
 ·congr 1
  unfold HS.adr
  congr 1
  exact Z4 fun x hx=>e.wn (gd.1 x (List.mem_of_mem_take hx)).1
 ·rfl
theorem Ext.reach (e:Ext S T) (gd:Gd S ts):T.reach ts=S.reach ts:=by
 unfold HS.reach
 congr 1
 exact Z4 fun x hx=>e.wn (gd.1 x hx).1
theorem flatMap_congr' {α β:Type} {f g:α->List β}:∀ {l:List α},(∀ x∈l,f x=g x)->l.flatMap f=l.flatMap g:=by
 intro l
 induction l with
 | nil=>intro _;rfl
 | cons x l ih=>intro h;rw[Zb,Zb,h x List.mem_cons_self,ih (fun y hy=>h y (List.mem_cons_of_mem _ hy))]
theorem Ext.line (e:Ext S T) (v:Inv S) (s:Bs) {ws:List (Int × Int)} (hs:∀ w∈ws,S.sound w):T.lineT ts s ws=S.lineT ts s ws:=by
 unfold HS.lineT;rw[flatMap_congr' (fun w hw=>e.lbl v (hs w hw))]
theorem Ext.shape (e:Ext S T) (v:Inv S) (vt:Inv T) {news:List (Int × Int)} {U:HS} (d:Cd S roots ts news U):T.shapeT roots ts=S.shapeT roots ts:=by
 unfold HS.shapeT;rw[e.gl,e.line v _ (fun w hw=>(d.ir w hw).1),e.line v _ (fun w hw=>(d.ig w hw).1)]
 congr 1
 refine flatMap_congr' fun x hx=>?_
 have hl:=(d.cm.gd.1 x hx).1;obtain ⟨_,f2,_⟩:=d.cm.fldsr v d.it hx;unfold HS.objT HS.hdT;rw[e.flds v vt hl,e.line v _ (fun w hw=>(f2 w hw).1)];unfold HS.head;rw[if_pos hl,if_pos (e.lies hl),e.hd v hl]
theorem Ext.both (e:Ext S T) (v:Inv S) {n1 n2:List (Int × Int)} {U V:HS} (vt:Inv T) (d:Cd S roots ts n1 U) (d2:Cd T roots ts n2 V):n1=n2/\(U.now.length:Int)=S.reach ts/\(V.now.length:Int)=S.reach ts:=by
 refine ⟨?_,(d.reach v).2,by rw[(d2.reach vt).2,e.reach d.cm.gd]⟩;rw[d.nw,d2.nw];exact Z4 fun w hw=>(e.ren v d.cm.gd (d.ir w hw).1).symm
end
end Go.S19

namespace Go.S19
open Go Go.Eng Go.Proofs Go.Chk Go.Scn
structure Tw (h0 h:AH) (b c:Nat) (L M:Lay) (S T:HS):Prop where
 p:Ph h0 h b L S
 q:Ph h0 h c M T
 dj:∀ i,L.cls i=0\/M.cls i=0
section
variable {h0 h1 h h':AH} {b c:Nat} {L L' M M':Lay} {S S' T T':HS}
theorem Tw.mk' (p:Ph h0 h1 b L S) (q:Ph h1 h c M T) (k:Keep (fun _=>False) h1 h):Tw h0 h b c L M S T :=
 ⟨p.keepF k,⟨q.hp,q.gs,q.gl,p.kp.trans k,fun i hi=>q.z i (by have:=p.kp.len;omega)⟩,fun i=>by
  by_cases hi:i<h1.length
  ·exact .inr (q.z i hi)
  ·exact .inl (p.hp.c0 i (by omega))⟩
theorem Tw.keepF (t:Tw h0 h b c L M S T) (k:Keep (fun _=>False) h h'):Tw h0 h' b c L M S T:=⟨t.p.keepF k,t.q.keepF k,t.dj⟩
theorem Tw.left (t:Tw h0 h b c L M S T) (k:Keep (Mine L) h h') (s:Hp h' b L' S') (sm:Same h.length L L') (g:Gs S'/\S'.globals.length=S.globals.length):Tw h0 h' b c L' M S' T :=
 ⟨t.p.step k s sm g,⟨t.q.hp.keep k (fun i e m=>(t.dj i).elim (fun a=>m a) (fun a=>e a)),t.q.gs,t.q.gl,t.q.kp.trans' k (fun i hi e=>e (t.p.z i hi)),t.q.z⟩,fun i=>by
  by_cases hi:i<h.length
  ·exact (t.dj i).imp (fun a=>(sm i hi).2 a) id
  ·exact .inr (t.q.hp.c0 i (by omega))⟩
theorem Tw.right (t:Tw h0 h b c L M S T) (k:Keep (Mine M) h h') (s:Hp h' c M' T') (sm:Same h.length M M') (g:Gs T'/\T'.globals.length=T.globals.length):Tw h0 h' b c L M' S T' :=
 ⟨⟨t.p.hp.keep k (fun i e m=>(t.dj i).elim (fun a=>e a) (fun a=>m a)),t.p.gs,t.p.gl,t.p.kp.trans' k (fun i hi e=>e (t.q.z i hi)),t.p.z⟩,t.q.step k s sm g,fun i=>by
   by_cases hi:i<h.length
   ·exact (t.dj i).imp id (fun a=>(sm i hi).2 a)
   ·exact .inl (t.p.hp.c0 i (by omega))⟩
end
end Go.S19

namespace Go.S19
open Go Go.Eng Go.Proofs Go.Chk Go.Scn
section
variable {h:AH} {N:Nat} {C:Cx} {texts:List ByteArray} {vi vc vt vp vk u ur:Value} {os:List Op} {ns':List Int}
set_option maxHeartbeats 4000000 in
theorem Waste_ok (hN:N<=1048576) (g:Given h N C texts vi vc vt vp vk) (ru:Rds h 7 u os.length (os.flatMap Op.cells)) (hol:os.length<=N) (qs:∀ o∈os,o.Q h N) (rr:Rds h 1 ur ns'.length (ns ns')) (hrl:ns'.length<=N) (hrg:∀ n∈ns',rgI n) :
 Gets Tryd.prog 4 [.agg #[vi,vc,vt,vp,iv C.main,vk],u,ur] h (fun res h'=>res = .ret (.bool true)):=by
 refine Gets.of (keep:=false) hP (draw_ok hM) k4 (by rfl) (fun Ψ hΨ=>?_);have oI:=Own.new h 26 h.length [vi,vc,vt,vp,iv C.main,vk];have k1:Keep (fun _=>False) h (h++[row 26 h.length [vi,vc,vt,vp,iv C.main,vk]]):=Keep.push _ _ _;have hsh:∀ x∈[vi,vc,vt,vp,vk],∃ a n c,x = .slice a n c:=by
  obtain ⟨a1,c1,e1⟩:=row_shape g.im.ri;obtain ⟨a2,c2,e2⟩:=row_shape g.im.rc;obtain ⟨a3,c3,e3⟩:=row_shape g.rt;obtain ⟨a4,c4,e4⟩:=row_shape g.im.rp;obtain ⟨a5,c5,e5⟩:=row_shape g.im.rk;intro x hx;simp only[List.mem_cons,List.not_mem_nil,or_false] at hx
  rcases hx with rfl|rfl|rfl|rfl|rfl
  ·exact ⟨_,_,_,e1⟩
  ·exact ⟨_,_,_,e2⟩
  ·exact ⟨_,_,_,e3⟩
  ·exact ⟨_,_,_,e4⟩
  ·exact ⟨_,_,_,e5⟩
 obtain ⟨ua,uc,rfl⟩:=row_shape rr;simp only[ZG,↓reduceIte,ZA,ZB,ZC,r4,YE,YC,YO,YA,YL,YX,YS,Ya,Yb,Yl,Yf,Yg,Yi,Ym,Yk,Yt,Yn,Yz,Yp,Yq,Yd,mbl,ZD,ZE,ZF];generalize h++[row 26 h.length [vi,vc,vt,vp,iv C.main,vk]]=h1 at oI k1 ⊢;refine XX_of (wakes_ok h1) (fun res h2 hle2 hn=>?_);obtain ⟨k2,rfl⟩:=hn;refine .ret ?_;have k02:=k1.trans k2;have oI2:=oI.keep k2 (fun e=>e);simp only[ZG,↓reduceIte,ZA,ZB,ZC,mbl,ZD,ZE,ZF,oI2.cells.lds 0 6 (by simp)];refine XX_of (play_ok hN (g.keepF k02) (ru.keep k02 (fun _ _ e=>e)) hol (fun o ho=>(qs o ho).keepF k02)) (fun res h3 hle3 hn=>?_);obtain ⟨k3,hn⟩:=hn;have k03:=k02.trans k3;have oI3:=oI2.keep k3 (fun e=>e);obtain ⟨hno,rfl⟩|⟨S0,b,L,S,st0,run,rfl,p⟩:=hn
 ·refine .ret ?_
  simp only[ZG,↓reduceIte,ZA,ZB,ZC,mbl,ZD,ZE,ZF,oI3.cells.lds 0 6 (by simp)];refine XX_of (play_ok hN (g.keepF k03) (ru.keep k03 (fun _ _ e=>e)) hol (fun o ho=>(qs o ho).keepF k03)) (fun res h4 hle4 hn=>?_);obtain ⟨k4,⟨_,rfl⟩|⟨S0,b,L,S,st0,_⟩⟩:=hn
  ·refine .ret ?_
   simp only[ZG,↓reduceIte,ZA,ZB,ZC,mbl,ZD,ZE,ZF];exact hΨ _ _ (fin_ret (rv1 rfl rfl))
  ·exact absurd st0 (hno S0)
 refine .ret ?_;simp only[ZG,↓reduceIte,ZA,ZB,ZC,mbl,ZD,ZE,ZF,oI3.cells.lds 0 6 (by simp)];refine XX_of (play_ok hN (g.keepF k03) (ru.keep k03 (fun _ _ e=>e)) hol (fun o ho=>(qs o ho).keepF k03)) (fun res h4 hle4 hn=>?_);obtain ⟨k4,⟨hno,_⟩|⟨S0',c,M,S',st0',run',rfl,p'⟩⟩:=hn
 ·exact absurd st0 (hno S0)
 refine .ret ?_;cases st0.det st0';cases run.det run';have t4:=Tw.mk' p p' k4;have k04:=k03.trans k4;simp only[ZG,↓reduceIte,ZA,ZB,ZC,mbl,ZD,ZE,ZF];have hgl:=p.gl;refine XX_of (Globals_ok t4.p.hp (by omega)) (fun res h5 hle5 hn=>?_);obtain ⟨k5,vg,rfl,og,fg⟩:=hn;refine .ret ?_;have t5:=t4.keepF k5;have k05:=k04.trans k5;have zL:∀ q,bk vg q->L.cls q=0:=fun q e=>t4.p.hp.c0 q (fg q e).1
 have zM:∀ q,bk vg q->M.cls q=0:=fun q e=>t4.q.hp.c0 q (fg q e).1
 simp only[ZG,↓reduceIte,ZA,ZB,ZC,mbl,ZD,ZE,ZF];refine XLo_rule (α:=Nat × HS × Lay) (fun a=>[(2,.slice ua ns'.length uc),(7,.pointer (some ⟨b,0,none⟩)),(8,.pointer (some ⟨c,0,none⟩)),(9,vg),(10,iv a.1)])
  (fun a h'=>a.1<=ns'.length/\Tw h2 h' b c a.2.2 M a.2.1 S/\Ext S a.2.1/\Rw h' a.2.2 0 vg S.globals/\Rw h' M 0 vg S.globals) (fun a=>ns'.length-a.1) (0,S,L)
  ⟨Z5 _,t5,.refl S,⟨og,fun q e=>⟨Z5 _,zL q e⟩⟩,⟨og,fun q e=>⟨Z5 _,zM q e⟩⟩⟩ ⟨rfl,rfl,rfl,rfl,rfl,trivial⟩ ?_
 clear t5 t4 zL zM og fg;rintro ⟨i,T,L⟩ ha Ψ2 ⟨i1,t,ex,rw,rw2⟩ next out
 simp only at i1 t ex rw rw2;have hw1:IntKind.i64.wrap ((i:Int)+1)=i+1:=i64w (by omega) (by omega)
 by_cases hil:i<ns'.length/\i<60
 case pos =>
  obtain ⟨hil,hi60⟩:=hil;have d1:((i:Int)<((ns'.length:Nat):Int))=True:=by simp;omega
  have d2:((i:Int)<60)=True:=by simp;omega
  have d0:(0<=(i:Int))=True:=by simp
  have tn:Int.toNat (i:Int)=i:=by simp
  have rr2:=rr.keep (k02.trans t.p.kp) (fun _ _ e=>e);obtain ⟨b1,f1,c1,e1,hat⟩:=rr2.at hil;cases e1;have ho:ns'[i]?=some ns'[i]:=Z2 hil;have hq:=hrg ns'[i] (List.getElem_mem _);generalize ns'[i]=n at ho hq;have hl:=hat 0 (by omega);have hl2:ldc ha b1 (f1+i*1)=some (iv n):=by
   simp only[Nat.add_zero] at hl;rw[hl];simp [ns,ho]
  by_cases hneg:n<0
  ·simp only[ZG,↓reduceIte,ZA,ZB,ZC,d1,d2,d0,and_self,tn,hl2,hneg,mbl,ZD,ZE,ZF]
   refine XX_of (Put_ok t.p.hp t.p.gs.v.ok.fresh (10,(0:Int)) (ys:=[]) (u:=.slice none 0 0) .nil (by decide) (fun _=>by decide)) (fun res hb hle hn=>?_);obtain ⟨kb,rfl,L',s',sm⟩:=hn;refine .ret ?_;have t2:=t.left kb s' sm ⟨t.p.gs.put rg0 (fun y hy=>by cases hy),by rw[gl_put]⟩;simp only[ZG,↓reduceIte,ZA,ZB,ZC,mbl,ZD,ZE,ZF,hw1];exact next (i+1,_,L') _ _ _ ⟨by omega,t2,ex.put t.p.gs.v _ _,rw.step kb sm,⟨rw2.o.keep kb (fun q e m=>m (rw.c q e).2),rw2.c⟩⟩ ⟨rfl,rfl,rfl,rfl,by simp only[Z1,Z0];rfl,trivial⟩ (by simp only;omega)
  ·simp only[ZG,↓reduceIte,ZA,ZB,ZC,d1,d2,d0,and_self,tn,hl2,hneg,mbl,ZD,ZE,ZF]
   refine XX_of (Put_ok t.p.hp t.p.gs.v.ok.fresh (10,n) (ys:=[]) (u:=.slice none 0 0) .nil (by decide) (fun _=>by decide)) (fun res hb hle hn=>?_);obtain ⟨kb,rfl,L',s',sm⟩:=hn;refine .ret ?_;have t2:=t.left kb s' sm ⟨t.p.gs.put hq (fun y hy=>by cases hy),by rw[gl_put]⟩;simp only[ZG,↓reduceIte,ZA,ZB,ZC,mbl,ZD,ZE,ZF,hw1];exact next (i+1,_,L') _ _ _ ⟨by omega,t2,ex.put t.p.gs.v _ _,rw.step kb sm,⟨rw2.o.keep kb (fun q e m=>m (rw.c q e).2),rw2.c⟩⟩ ⟨rfl,rfl,rfl,rfl,by simp only[Z1,Z0];rfl,trivial⟩ (by simp only;omega)
 by_cases hl3:i<ns'.length
 ·have d1:((i:Int)<((ns'.length:Nat):Int))=True:=by simp;omega
  have d2:((i:Int)<60)=False:=by simp;omega
  simp only[ZG,↓reduceIte,ZA,ZB,ZC,d1,d2];refine out (.exit 0) _ _ _ _ (by intro e;cases e) ?_;simp only[ZG,↓reduceIte,ZA,ZB,ZC,mbl,ZD,ZE,ZF];have hgq:=t.q.gl;have hgp:=t.p.gl;refine XX_of (Shape_ok t.q.hp t.q.gs.v t.q.gs.r (by omega) rw2.o.rds (by omega) t.q.gs.r.gl) (fun res h6 hle6 hn=>?_);obtain ⟨k6,rfl⟩:=hn;refine .ret ?_;have t6:=t.keepF k6;have rw6:=rw.keepF k6;have rv6:=rw2.keepF k6
  by_cases hg:(S.graph S.globals).2=true
  case neg =>
   rw[if_neg hg];simp only[ZG,↓reduceIte,ZA,ZB,ZC,mbl,ZD,ZE,ZF];refine XX_of (Reach_ok t6.q.hp t6.q.gs.v (by omega) rv6.o.rds (by omega)) (fun res h7 hle7 hn=>?_);obtain ⟨k7,rfl⟩:=hn;refine .ret ?_;rw[if_neg hg];simp only[ZG,↓reduceIte,ZA,ZB,ZC,mbl,ZD,ZE,ZF];exact hΨ _ _ (fin_ret (rv1 rfl rfl))
  rw[if_pos hg];simp only[ZG,↓reduceIte,ZA,ZB,ZC,mbl,ZD,ZE,ZF];refine XX_of (Reach_ok t6.q.hp t6.q.gs.v (by omega) rv6.o.rds (by omega)) (fun res h7 hle7 hn=>?_);obtain ⟨k7,rfl⟩:=hn;refine .ret ?_;rw[if_pos hg];have t7:=t6.keepF k7;have rw7:=rw6.keepF k7;have rv7:=rv6.keepF k7;obtain ⟨_,hz,_,_,_,hcd⟩:=Collect_ok t7.q.hp t7.q.gs.v (by omega) rv7.o.rds (by omega) (fun q e=>(rv7.c q e.bk).2);rw[if_pos hg] at hcd;obtain ⟨_,n0,U0,_,_,cr0,_,iv0,_,_⟩:=hcd;have cd0:=coll_cd t7.q.gs.v t7.q.gs.tx hg cr0 iv0;have hgr:=ex.graph t.q.gs.v t.p.gs.v hg;have hg2:(T.graph S.globals).2=true:=by rw[hgr];exact hg
  simp only[ZG,↓reduceIte,ZA,ZB,ZC,mbl,ZD,ZE,ZF];refine XX_of (Shape_ok t7.p.hp t7.p.gs.v t7.p.gs.r (by omega) rw7.o.rds (by omega) t7.q.gs.r.gl) (fun res h8 hle8 hn=>?_);obtain ⟨k8,rfl⟩:=hn;refine .ret ?_;rw[if_pos hg2,hgr,ex.shape t.q.gs.v t.p.gs.v cd0];have t8:=t7.keepF k8;have rw8:=rw7.keepF k8;have rv8:=rv7.keepF k8;simp only[ZG,↓reduceIte,ZA,ZB,ZC,mbl,ZD,ZE,ZF];refine XX_of (Reach_ok t8.p.hp t8.p.gs.v (by omega) rw8.o.rds (by omega)) (fun res h9 hle9 hn=>?_);obtain ⟨k9,rfl⟩:=hn;refine .ret ?_;rw[if_pos hg2,hgr,ex.reach cd0.cm.gd];have t9:=t8.keepF k9;have rw9:=rw8.keepF k9;have rv9:=rv8.keepF k9;simp only[ZG,↓reduceIte,ZA,ZB,ZC,mbl,ZD,ZE,ZF,tl_self];refine XX_of (Collect_ok t9.p.hp t9.p.gs.v (by omega) rw9.o.rds (by omega) (fun q e=>(rw9.c q e.bk).2)) (fun res h10 hle10 hn=>?_);obtain ⟨kc,hn⟩:=hn;rw[if_pos hg2] at hn;obtain ⟨va,n1,U1,L1,rfl,cr1,s10,iv10,sm10,rx10⟩:=hn;refine .ret ?_;have cd1:=coll_cd t9.p.gs.v t9.p.gs.tx hg2 cr1 iv10;rw[hgr] at cd1;obtain ⟨gs1,_⟩:=t9.p.gs.coll t9.q.gs.r.gl cr1;have t10:=t9.left kc s10 sm10 ⟨gs1,by rw[cd1.gl,Z3]⟩;have rv10:Rw h10 M 0 vg S.globals:=⟨rv9.o.keep kc (fun q e m=>m (rw9.c q e).2),rv9.c⟩
  simp only[ZG,↓reduceIte,ZA,ZB,ZC,mbl,ZD,ZE,ZF];refine XX_of (Collect_ok t10.q.hp t10.q.gs.v (by omega) rv10.o.rds (by omega) (fun q e=>(rv10.c q e.bk).2)) (fun res h11 hle11 hn=>?_);obtain ⟨kd,hn⟩:=hn;rw[if_pos hg] at hn;obtain ⟨vb,n2,U2,M2,rfl,cr2,s11,iv11,sm11,ry11⟩:=hn;refine .ret ?_;have cd2:=coll_cd t10.q.gs.v t10.q.gs.tx hg cr2 iv11;obtain ⟨gs2,_⟩:=t10.q.gs.coll t10.q.gs.r.gl cr2;have t11:=t10.right kd s11 sm11 ⟨gs2,by rw[cd2.gl,Z3]⟩;obtain ⟨hnn,hu2,hu1⟩:=ex.both t.q.gs.v t.p.gs.v cd2 cd1;subst hnn;have rx11:Rds h11 2 va n2.length (ww n2):=rx10.o.rds.keep kd (fun q e m=>m (t9.q.hp.c0 q (rx10.c q e.bk).1));have hln:n2.length<=9223372036854775807:=by rw[cd2.nw,Z3];omega
  simp only[ZG,↓reduceIte,ZA,ZB,ZC,mbl,ZD,ZE,ZF];refine XX_val ((SameWords_ok rx11 ry11.o.rds hln).mono fun _ _ _ e=>e) ?_;simp only[ZG,↓reduceIte,ZA,ZB,ZC,mbl,ZD,ZE,ZF];refine XX_val (Used_ok t11.p.hp) ?_;simp only[ZG,↓reduceIte,ZA,ZB,ZC,mbl,ZD,ZE,ZF,hu1];refine XX_val (Used_ok t11.q.hp) ?_;simp only[ZG,↓reduceIte,ZA,ZB,ZC,mbl,ZD,ZE,ZF,hu1,hu2];refine XX_val (Used_ok t11.p.hp) ?_;simp only[ZG,↓reduceIte,ZA,ZB,ZC,mbl,ZD,ZE,ZF,hu1,hu2];exact hΨ _ _ (fin_ret (rv1 rfl rfl))
 ·have d1:((i:Int)<((ns'.length:Nat):Int))=False:=by simp;omega
  simp only[ZG,↓reduceIte,ZA,ZB,ZC,d1];refine out (.exit 0) _ _ _ _ (by intro e;cases e) ?_;simp only[ZG,↓reduceIte,ZA,ZB,ZC,mbl,ZD,ZE,ZF];have hgq:=t.q.gl;have hgp:=t.p.gl;refine XX_of (Shape_ok t.q.hp t.q.gs.v t.q.gs.r (by omega) rw2.o.rds (by omega) t.q.gs.r.gl) (fun res h6 hle6 hn=>?_);obtain ⟨k6,rfl⟩:=hn;refine .ret ?_;have t6:=t.keepF k6;have rw6:=rw.keepF k6;have rv6:=rw2.keepF k6
  by_cases hg:(S.graph S.globals).2=true
  case neg =>
   rw[if_neg hg];simp only[ZG,↓reduceIte,ZA,ZB,ZC,mbl,ZD,ZE,ZF];refine XX_of (Reach_ok t6.q.hp t6.q.gs.v (by omega) rv6.o.rds (by omega)) (fun res h7 hle7 hn=>?_);obtain ⟨k7,rfl⟩:=hn;refine .ret ?_;rw[if_neg hg];simp only[ZG,↓reduceIte,ZA,ZB,ZC,mbl,ZD,ZE,ZF];exact hΨ _ _ (fin_ret (rv1 rfl rfl))
  rw[if_pos hg];simp only[ZG,↓reduceIte,ZA,ZB,ZC,mbl,ZD,ZE,ZF];refine XX_of (Reach_ok t6.q.hp t6.q.gs.v (by omega) rv6.o.rds (by omega)) (fun res h7 hle7 hn=>?_);obtain ⟨k7,rfl⟩:=hn;refine .ret ?_;rw[if_pos hg];have t7:=t6.keepF k7;have rw7:=rw6.keepF k7;have rv7:=rv6.keepF k7;obtain ⟨_,hz,_,_,_,hcd⟩:=Collect_ok t7.q.hp t7.q.gs.v (by omega) rv7.o.rds (by omega) (fun q e=>(rv7.c q e.bk).2);rw[if_pos hg] at hcd;obtain ⟨_,n0,U0,_,_,cr0,_,iv0,_,_⟩:=hcd;have cd0:=coll_cd t7.q.gs.v t7.q.gs.tx hg cr0 iv0;have hgr:=ex.graph t.q.gs.v t.p.gs.v hg;have hg2:(T.graph S.globals).2=true:=by rw[hgr];exact hg
  simp only[ZG,↓reduceIte,ZA,ZB,ZC,mbl,ZD,ZE,ZF];refine XX_of (Shape_ok t7.p.hp t7.p.gs.v t7.p.gs.r (by omega) rw7.o.rds (by omega) t7.q.gs.r.gl) (fun res h8 hle8 hn=>?_);obtain ⟨k8,rfl⟩:=hn;refine .ret ?_;rw[if_pos hg2,hgr,ex.shape t.q.gs.v t.p.gs.v cd0];have t8:=t7.keepF k8;have rw8:=rw7.keepF k8;have rv8:=rv7.keepF k8;simp only[ZG,↓reduceIte,ZA,ZB,ZC,mbl,ZD,ZE,ZF];refine XX_of (Reach_ok t8.p.hp t8.p.gs.v (by omega) rw8.o.rds (by omega)) (fun res h9 hle9 hn=>?_);obtain ⟨k9,rfl⟩:=hn;refine .ret ?_;rw[if_pos hg2,hgr,ex.reach cd0.cm.gd];have t9:=t8.keepF k9;have rw9:=rw8.keepF k9;have rv9:=rv8.keepF k9;simp only[ZG,↓reduceIte,ZA,ZB,ZC,mbl,ZD,ZE,ZF,tl_self];refine XX_of (Collect_ok t9.p.hp t9.p.gs.v (by omega) rw9.o.rds (by omega) (fun q e=>(rw9.c q e.bk).2)) (fun res h10 hle10 hn=>?_);obtain ⟨kc,hn⟩:=hn;rw[if_pos hg2] at hn;obtain ⟨va,n1,U1,L1,rfl,cr1,s10,iv10,sm10,rx10⟩:=hn;refine .ret ?_;have cd1:=coll_cd t9.p.gs.v t9.p.gs.tx hg2 cr1 iv10;rw[hgr] at cd1;obtain ⟨gs1,_⟩:=t9.p.gs.coll t9.q.gs.r.gl cr1;have t10:=t9.left kc s10 sm10 ⟨gs1,by rw[cd1.gl,Z3]⟩;have rv10:Rw h10 M 0 vg S.globals:=⟨rv9.o.keep kc (fun q e m=>m (rw9.c q e).2),rv9.c⟩
  simp only[ZG,↓reduceIte,ZA,ZB,ZC,mbl,ZD,ZE,ZF];refine XX_of (Collect_ok t10.q.hp t10.q.gs.v (by omega) rv10.o.rds (by omega) (fun q e=>(rv10.c q e.bk).2)) (fun res h11 hle11 hn=>?_);obtain ⟨kd,hn⟩:=hn;rw[if_pos hg] at hn;obtain ⟨vb,n2,U2,M2,rfl,cr2,s11,iv11,sm11,ry11⟩:=hn;refine .ret ?_;have cd2:=coll_cd t10.q.gs.v t10.q.gs.tx hg cr2 iv11;obtain ⟨gs2,_⟩:=t10.q.gs.coll t10.q.gs.r.gl cr2;have t11:=t10.right kd s11 sm11 ⟨gs2,by rw[cd2.gl,Z3]⟩;obtain ⟨hnn,hu2,hu1⟩:=ex.both t.q.gs.v t.p.gs.v cd2 cd1;subst hnn;have rx11:Rds h11 2 va n2.length (ww n2):=rx10.o.rds.keep kd (fun q e m=>m (t9.q.hp.c0 q (rx10.c q e.bk).1));have hln:n2.length<=9223372036854775807:=by rw[cd2.nw,Z3];omega
  simp only[ZG,↓reduceIte,ZA,ZB,ZC,mbl,ZD,ZE,ZF];refine XX_val ((SameWords_ok rx11 ry11.o.rds hln).mono fun _ _ _ e=>e) ?_;simp only[ZG,↓reduceIte,ZA,ZB,ZC,mbl,ZD,ZE,ZF];refine XX_val (Used_ok t11.p.hp) ?_;simp only[ZG,↓reduceIte,ZA,ZB,ZC,mbl,ZD,ZE,ZF,hu1];refine XX_val (Used_ok t11.q.hp) ?_;simp only[ZG,↓reduceIte,ZA,ZB,ZC,mbl,ZD,ZE,ZF,hu1,hu2];refine XX_val (Used_ok t11.p.hp) ?_;simp only[ZG,↓reduceIte,ZA,ZB,ZC,mbl,ZD,ZE,ZF,hu1,hu2];exact hΨ _ _ (fin_ret (rv1 rfl rfl))
end
end Go.S19

namespace Go.S19
open Go Go.Eng Go.Proofs Go.Proofs.YtdlanbdiphpacaaDoor
theorem var_heap {P:Program} {W:World} {n:String} {g:Nat} {cs:Array Value} (hg:P.globalNamed n=some g) (h:W.var? P n=some cs):∃ e fr,W.heap[g]?=some (.cells cs e fr):=by
 simp only[World.var?,hg,Option.bind_some] at h
 split at h
 ·cases h;exact ⟨_,_,by assumption⟩
 ·cases h
def laidL : List (String × DataW Unit) := [("math/bits.deBruijn32tab", Rows.laid_math_bits_deBruijn32tab), ("math/bits.deBruijn64tab", Rows.laid_math_bits_deBruijn64tab), ("internal/strconv.uint64pow10", Rows.laid_internal_strconv_uint64pow10)]
theorem gPow : Tryd.prog.globalNamed "internal/strconv.uint64pow10" = some 0 := by kernel_rfl
theorem tPow:(Tryd.prog.globals[0]?).map (·.type)=some 149:=by kernel_rfl
theorem uPow:Tryd.prog.underlying 149=some (.array 20 139):=by kernel_rfl
theorem uU64:Tryd.prog.underlying 139=some (.int .u64):=by kernel_rfl
theorem cPow:Tryd.prog.cellsOf 149=20:=by kernel_rfl
theorem cU64:Tryd.prog.cellsOf 139=1:=by kernel_rfl
theorem gsz:Tryd.prog.globals.size=3:=by kernel_rfl
theorem tab0:Tab Tryd.prog 0=some ((List.range 20).map fun i=>Value.int .u64 (10 ^ i)):=by kernel_rfl
theorem tab1:Tab Tryd.prog 1=none:=by kernel_rfl
theorem tab2:Tab Tryd.prog 2=none:=by kernel_rfl
theorem powD:(Rows.laid_internal_strconv_uint64pow10:DataW Unit) = .agg ((List.range 20).map fun i=>.lit (.int .u64 (10 ^ i))):=by rfl
set_option maxRecDepth 100000 in
theorem tab_of_laid {W:World} (h:laidMetH Tryd.prog laidL W):TabOk Tryd.prog W.heap:=by
 rw[MakeChecks.laidMetH_plain _ _ _ (by kernel_rfl)] at h;obtain ⟨ps,⟨_,_,_,_,_,_,_,_,_,_,⟨_,_,_,_,_,_,_,_,_,_,⟨g3,t3,cs3,f3,p3,q3,hg3,ht3,hv3,hd3,_,_⟩,_⟩,_⟩,_,_⟩:=h;obtain rfl:=Z8.inj (gPow.symm.trans hg3);obtain rfl:=Z8.inj (tPow.symm.trans ht3);obtain ⟨e3,fr3,hh3⟩:=var_heap hg3 hv3;intro g cs hg
 match g,hg with
 | 0,hg =>
   rw[tab0] at hg;cases hg;refine ⟨cs3,e3,fr3,hh3,?_⟩;obtain ⟨xs,m,rfl,hx,hlen,hn,hel⟩:=DataW.trod_array uPow hd3;rw[cPow] at hlen;rw[powD] at hx;simp only[Prod.mk.injEq,DataW.agg.injEq] at hx;have hkey:∀ i,i<20->cs3.toList[i]?=some (.int .u64 (10 ^ i)):=by
    intro i hi;have h1:=hel i hi;rw[cU64,Nat.mul_one,Z2 (by omega)] at h1;obtain ⟨n,k1,k2,_⟩:=DataW.trod_int uU64 h1;have h2:=congrArg (fun l=>l[i]?) hx.1;simp only[Zc] at h2;rw[Z9 hi,Z2 (by omega),Option.map_some,Option.map_some,k2] at h2;have h3:n=10 ^ i:=by
     have:=Z8.inj h2;simp only[DataW.lit.injEq,Lit.int.injEq,true_and] at this;exact this.symm
    have h4:=congrArg (fun l=>l[0]?) k1;simp only[List.getElem?_take,Nat.zero_lt_one,if_true,List.getElem?_drop,Nat.add_zero] at h4;rw[h4,h3];rfl
   refine ⟨by simp [hlen],fun i u v hu hv=>?_⟩;have hi:i<20:=by have:=(Z6.1 hu).1;simpa using this
   rw[hkey i hi] at hv;cases hv;rw[Zc,Z9 hi] at hu;cases hu;exact .int _ _
 | 1,hg=>rw[tab1] at hg;cases hg
 | 2,hg=>rw[tab2] at hg;cases hg
 | g+3,hg =>
   unfold Tab at hg;rw[Array.getElem?_eq_none (by rw[gsz];omega)] at hg;cases hg
theorem door_met (os:Os) (args:Array Value):laidMetH Tryd.prog laidL ((World.doorLaid Tryd.prog 400 os).forCall (fun _ _=>0) ⟨#[],args,[]⟩).memory :=
 laidMetH_of_parts3 (fuel:=8) (laidMet_of_run' 8 (by kernel_rfl) (by kernel_rfl)) (by kernel_rfl) (by kernel_rfl)
end Go.S19
