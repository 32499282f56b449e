import Derived.Test.YtnkbbpmcjopicaaDoorPk19
import Derived.Test.YtnkbbpmcjopicaaDoorRows
import Derived.Test.YtnkbbpmcjopicaaDoorPk12
import Derived.Shelf.Vars
import Derived.LaidMore
import Derived.OpenShut
import Derived.MakeChecks
set_option linter.unusedVariables false
set_option linter.unusedSimpArgs false
open Nat renaming reduceEqDiff -> ZA,reduceAdd -> ZB,reduceMul -> ZC,reduceLeDiff -> ZD,reduceLT -> ZE
open Int renaming reduceEq -> ZF
open List renaming mem_singleton->Z0,length_append->Z3,mem_cons->Z4,getElem?_eq_some_iff->Z5,getElem?_eq_getElem->Z6,length_nil->Z7,getElem?_range->Z8,getElem?_map->Za,range->Zd
open Bool renaming not_true->Z1
open Nat renaming mul_one->Z2,zero_add->Z9,le_refl->Zb
open Option renaming some->Zc
namespace Go.S11
open Go Go.Eng Go.Proofs Go.Scn Go.Typ
set_option maxHeartbeats 8000000 in
set_option maxRecDepth 100000 in
theorem TypesTexts_ok (w:Bs) (h:AH):Gets Tryd.prog 6 [tv w] h (fun res h'=>True/\res = .ret (.bool true)):=by
 refine Gets.of (keep:=false) hP (draw_ok hM) k6 (by rfl) (fun Ψ hΨ=>?_);simp only[ZG,↓reduceIte,ZA,ZB,ZC,r6,YE,YC,YO,YA,YL,YX,YS,Ya,Yb,Yl,Yf,Yg,Yi,Ym,Yk,Yt,Yn,Yz,Yp,Yq,Yd];refine XX_val (wakes_ok h) ?_;simp only[ZG,↓reduceIte,ZA,ZB,ZC,Z1];refine XX_of (New_ok h) (fun res h1 hle1 hn1=>?_);obtain ⟨b,L,rfl,k1,hb1,hz1,cs,s⟩:=hn1;refine .ret ?_;simp only[ZG,↓reduceIte,ZA,ZB,ZC,mbl,ZD,ZE,ZF];refine XX_of (Read_ok s .nil (by simp) w) (fun res h2 hle2 hn2=>?_);obtain ⟨L2,T2,g2,ac2,ext2,len2,_,hn2⟩:=hn2;obtain ⟨cs2,s2⟩:=g2.th
 rcases hn2 with ⟨n,t,rd,rfl⟩|⟨_,rfl⟩
 case inr =>
  refine .ret ?_;simp only[ZG,↓reduceIte,ZA,ZB,ZC,mbl,ZD,ZE,ZF];exact hΨ _ _ (fin_ret (rv1 rfl ⟨trivial,rfl⟩))
 refine .ret ?_;have ht2:=rd.tr;have hsz:=rd.sz;have hle:=rd.le;simp only[Z7,Z9] at len2;simp only[ZG,↓reduceIte,ZA,ZB,ZC,mbl,ZD,ZE,ZF];refine XX_of (Copy_ok ht2 ac2 (by omega) (K:=[]) (u:=.slice none 0 0) s2 .nil (fun q e=>e.elim) (fun k hk=>by cases hk) (by simp)) (fun res h3 hle3 hn3=>?_);rw[if_pos hsz] at hn3;obtain ⟨s0,hT0,ok0,id0,e0,_,rfl,L3,g3⟩:=hn3;obtain ⟨s0T,s0a⟩:=s0;have e0:=e0 rfl;simp only at hT0 e0;subst hT0;subst e0;have F:=cpF ht2 ac2 rfl ok0;have hnew:=cp_new ht2 ac2;generalize (cp t ⟨s0T,[]⟩).2.f=f at F hnew;generalize (cp t ⟨s0T,[]⟩).2.T=T3 at F g3;generalize (cp t ⟨s0T,[]⟩).1=c at F ⊢;obtain ⟨X3,rfl,hX3⟩:=F.ext;obtain ⟨cs3,s3⟩:=g3.th;have ht3:=ht2.ext X3;refine .ret ?_;have oN:=Own.new h3 3 h3.length [iv (n:Int)];have kN:Keep (fun _=>False) h3 (h3++[row 3 h3.length (nn [n])]):=Keep.push _ _ _;have owN:=owsN (h:=h3) (xs:=[n]);have z3:=s3.c0 h3.length (Zb _);simp only[ZG,↓reduceIte,ZA,ZB,ZC,mbl,ZD,ZE,ZF];refine XX_of (Copy_ok (h:=h3++[row 3 h3.length (nn [n])]) ht3 F.ac (by rw[Z3];omega) (K:=[n]) (s3.keepF kN) owN.rds (fun q e=>by have e:q=h3.length:=e.bk;subst e;exact z3) (fun k hk=>by cases Z0.1 hk;exact ht3.lt) (by simp)) (fun res h4 hle4 hn4=>?_);rw[if_pos hsz] at hn4;obtain ⟨s1,hT1,ok1,id1,_,kp1,rfl,L4,g4⟩:=hn4;have G:=cpF ht3 F.ac hT1 ok1;have hrn:=cp_kept ht3 F.ac hT1 ok1 (kp1 n (by simp) t ht3);generalize (cp t s1).2.f=f1 at G hrn;generalize (cp t s1).2.T=T4 at G g4;generalize (cp t s1).1=k at G ⊢;obtain ⟨X4,rfl,hX4⟩:=G.ext;obtain ⟨cs4,s4⟩:=g4.th;have ht4:=ht3.ext X4;have hc4:=F.tr.ext X4;have hk4:=G.tr;rw[hrn] at hk4;refine .ret ?_;simp only[ZG,↓reduceIte,ZA,ZB,ZC,mbl,ZD,ZE,ZF];refine XX_of (Text_ok ht4 s4) (fun res h5 hle5 hn5=>?_);obtain ⟨k5,rfl,cs5,s5⟩:=hn5;refine .ret ?_;have e0:smE t=0:=by unfold smE;rw[if_pos hsz]
 have hszc:sz (ren f t)=sz t:=sz_ren f t;have e1:smE (ren f t)=0:=by unfold smE;rw[hszc,if_pos hsz]
 have ew:=rd.te;simp only[ZG,↓reduceIte,ZA,ZB,ZC,mbl,ZD,ZE,ZF,if_pos hsz,e0,ew];refine XX_of (Text_ok hc4 s5) (fun res h6 hle6 hn6=>?_);obtain ⟨k6,rfl,cs6,s6⟩:=hn6;refine .ret ?_;have ewc:txt (ren f t)=w:=by rw[F.te,ew]
 have dw:(w == w)=true:=by simp
 simp only[ZG,↓reduceIte,ZA,ZB,ZC,mbl,ZD,ZE,ZF,hszc,if_pos hsz,e1,ewc,tx_toList,dw,Z1];refine XX_of (Same_ok ht4 hk4 s6) (fun res h7 hle7 hn7=>?_);obtain ⟨k7,⟨cs7,s7⟩,rfl⟩:=hn7;refine .ret ?_;simp only[ZG,↓reduceIte,ZA,ZB,ZC,mbl,ZD,ZE,ZF,eqT_self];refine XX_of (Same_ok ht4 hc4 s7) (fun res h8 hle8 hn8=>?_);obtain ⟨k8,⟨cs8,s8⟩,rfl⟩:=hn8;refine .ret ?_;have eqn:eqT t (ren f t)=decide (((vs t []).length:Int)=0):=by rw[eq_new ht2 hnew,Bool.eq_iff_iff];simp
 have dB:∀ x:Bool,(x == x)=true:=fun x=>by cases x<;>rfl
 simp only[ZG,↓reduceIte,ZA,ZB,ZC,mbl,ZD,ZE,ZF,eqn];refine XX_of (Vars_ok ht4 s8) (fun res h9 hle9 hn9=>?_);obtain ⟨k9,rfl,cs9,s9⟩:=hn9;refine .ret ?_;simp only[ZG,↓reduceIte,ZA,ZB,ZC,mbl,ZD,ZE,ZF,if_pos hsz,e0];have er1:szr 501 (sz t)=sz t:=by unfold szr;rw[if_neg (by omega)];exact Int.min_eq_right (by omega)
 refine XX_of (Size_ok ht4 s9) (fun res h10 hle10 hn10=>?_);obtain ⟨k10,rfl,cs10,s10⟩:=hn10;refine .ret ?_;simp only[ZG,↓reduceIte,ZA,ZB,ZC,mbl,ZD,ZE,ZF,er1];refine XX_of (Size_ok hc4 s10) (fun res h11 hle11 hn11=>?_);obtain ⟨k11,rfl,cs11,s11⟩:=hn11;refine .ret ?_;have hvl:=len_vs t [];simp only[Z7,Z9] at hvl;have hp:=sz_pos t;have d1:((sz t:Int)<1)=False:=eq_false (by omega);have d2:((500:Int)<(sz t:Int))=False:=eq_false (by omega);have d3:((sz t:Int)<((vs t []).length:Int))=False:=eq_false (by omega);have kP:Keep (fun _=>False) h11 (h11++[row 3 h11.length (nn [n,c])]):=Keep.push _ _ _;have owP:=owsN (h:=h11) (xs:=[n,c]);simp only[ZG,↓reduceIte,ZA,ZB,ZC,mbl,ZD,ZE,ZF,hszc,er1,d1,d2,d3,dB,Z1];have hTl:((s0T++X3)++X4).length<1000000000:=by simp only[Z3];omega
 refine XX_of (con_ok (h:=h11++[row 3 h11.length (nn [n,c])]) (s11.keepF kP) hTl [40,44,41] (by simp) (al:=[n,c]) owP.rds (by simp) (fun a ha=>by
  rcases Z4.1 ha with rfl|ha
  ·exact ht4.lt
  ·cases Z0.1 ha;exact hc4.lt)) (fun res h12 hle12 hn12=>?_)
 rw[if_pos (show snd [40,44,41] [n,c].length=true from snd2)] at hn12;obtain ⟨rfl,L12,g12⟩:=hn12;obtain ⟨cs12,s12⟩:=g12.th;refine .ret ?_;have htp:Tr (((s0T++X3)++X4)++[⟨[40,44,41],[n,c]⟩]) id ((s0T++X3)++X4).length (.con [40,44,41] [t,ren f t]):=by
  have hg:(((s0T++X3)++X4)++[(⟨[40,44,41],[n,c]⟩:Tm)])[id ((s0T++X3)++X4).length]?=some ⟨[40,44,41],[n,c]⟩:=by
   rw[id,List.getElem?_append_right (Zb _),Nat.sub_self];rfl
  refine .con (by simp) hg (by simp) rfl (fun i a u hi hu=>?_)
  match i,hi,hu with
  | 0,hi,hu=>simp at hi hu;subst hi;subst hu;exact ht4.ext _
  | 1,hi,hu=>simp at hi hu;subst hi;subst hu;exact hc4.ext _
  | i+2,hi,hu=>simp at hi
 have hps:sz (.con [40,44,41] [t,ren f t])=2*sz t+1:=pair_sz hszc;have hpv:=pair_vs (nm:=[40,44,41]) (apart_new ht2 hnew) F.nv;generalize Ty.con [40,44,41] [t,ren f t]=p at htp hps hpv;generalize ((s0T++X3)++X4).length=np at htp ⊢;simp only[ZG,↓reduceIte,ZA,ZB,ZC,mbl,ZD,ZE,ZF];refine XX_of (Size_ok htp s12) (fun res h13 hle13 hn13=>?_);obtain ⟨k13,rfl,cs13,s13⟩:=hn13;refine .ret ?_;have er2:szr 501 (sz p)=min 501 (2*(sz t:Int)+1):=by unfold szr;rw[if_neg (by omega),hps];simp
 have hvz:((sz p:Nat):Int)=2*(sz t:Int)+1:=by rw[hps];simp
 have w1:IntKind.i64.wrap (2*(sz t:Int))=2*(sz t:Int):=i64w (by omega) (by omega);have w2:IntKind.i64.wrap (2*(sz t:Int)+1)=2*(sz t:Int)+1:=i64w (by omega) (by omega);have w3:IntKind.i64.wrap (2*((vs t []).length:Int))=2*((vs t []).length:Int):=i64w (by omega) (by omega);have hpvi:(((vs p []).length:Nat):Int)=2*((vs t []).length:Int):=by rw[hpv];simp
 by_cases hbig:2*(sz t:Int)+1<=500
 case pos =>
  have er3:szr 501 (sz p)=2*(sz t:Int)+1:=by rw[er2];exact Int.min_eq_right (by omega)
  have hps5:sz p<=500:=by omega
  have e0p:smE p=0:=by unfold smE;rw[if_pos hps5]
  have n1:(2*(sz t:Int)+1=501)=False:=eq_false (by omega);simp only[ZG,↓reduceIte,ZA,ZB,ZC,mbl,ZD,ZE,ZF,er3,w1,w2,hbig];refine XX_of (Vars_ok htp s13) (fun res h14 hle14 hn14=>?_);obtain ⟨k14,rfl,cs14,s14⟩:=hn14;refine .ret ?_;simp only[ZG,↓reduceIte,ZA,ZB,ZC,mbl,ZD,ZE,ZF,if_pos hps5,e0p,hpvi,w3,n1];exact hΨ _ _ (fin_ret (rv1 rfl ⟨trivial,rfl⟩))
 case neg =>
  have er3:szr 501 (sz p)=501:=by rw[er2];exact Int.min_eq_left (by omega)
  have hps5:¬ sz p<=500:=by omega
  have e0p:smE p=11:=by unfold smE;rw[if_neg hps5]
  by_cases n1:(501:Int)=2*(sz t:Int)+1
  ·simp only[ZG,↓reduceIte,ZA,ZB,ZC,mbl,ZD,ZE,ZF,er3,w1,w2,hbig,eq_true n1]
   refine XX_of (Vars_ok htp s13) (fun res h14 hle14 hn14=>?_);obtain ⟨k14,rfl,cs14,s14⟩:=hn14;refine .ret ?_;simp only[ZG,↓reduceIte,ZA,ZB,ZC,mbl,ZD,ZE,ZF,if_neg hps5,e0p];exact hΨ _ _ (fin_ret (rv1 rfl ⟨trivial,rfl⟩))
  ·simp only[ZG,↓reduceIte,ZA,ZB,ZC,mbl,ZD,ZE,ZF,er3,w1,w2,hbig,n1]
   refine XX_of (Vars_ok htp s13) (fun res h14 hle14 hn14=>?_);obtain ⟨k14,rfl,cs14,s14⟩:=hn14;refine .ret ?_;simp only[ZG,↓reduceIte,ZA,ZB,ZC,mbl,ZD,ZE,ZF,if_neg hps5,e0p];exact hΨ _ _ (fin_ret (rv1 rfl ⟨trivial,rfl⟩))
end Go.S11

namespace Go.S11
open Go Go.Eng Go.Proofs Go.Scn Go.Typ
section
variable {h:AH} {b:Nat} {L:TL} {cs:List Ce} {T:List Tm}
set_option maxHeartbeats 2000000 in
theorem read2_ok (s:TH h b L cs T id false) (ac:AC T) (hT:T.length<=100000) (w u:Bs):Gets Tryd.prog 10 [.pointer (some ⟨b,0,none⟩),tv w,tv u] h
 (fun res h'=>∃ L' T' x y ok,Grn h h' b L L' T' id false/\AC T'/\T'.length<=T.length+40000/\res = .ret (.tuple #[iv x,iv y,.bool ok])/\(ok=true -> ∃ a c:Nat,x=(a:Int)/\y=(c:Int)/\a<T'.length/\c<T'.length)):=by
 refine Gets.of (keep:=false) hP (draw_ok hM) k10 (by rfl) (fun Ψ hΨ=>?_);simp only[ZG,↓reduceIte,ZA,ZB,ZC,r10,YE,YC,YO,YA,YL,YX,YS,Ya,Yb,Yl,Yf,Yg,Yi,Ym,Yk,Yt,Yn,Yz,Yp,Yq,Yd];refine XX_of (Read_ok s ac (by omega) w) (fun res h1 hle1 hn1=>?_);obtain ⟨L1,T1,g1,ac1,⟨X1,ex1⟩,_,len1,hn1⟩:=hn1;obtain ⟨cs1,s1⟩:=g1.th
 rcases hn1 with ⟨n,t,rd,rfl⟩|⟨_,rfl⟩
 ·refine .ret ?_
  simp only[ZG,↓reduceIte,ZA,ZB,ZC,mbl,ZD,ZE,ZF];refine XX_of (Read_ok s1 ac1 (by omega) u) (fun res h2 hle2 hn2=>?_);obtain ⟨L2,T2,g2,ac2,⟨X2,ex2⟩,_,len2,hn2⟩:=hn2
  rcases hn2 with ⟨m,t2,rd2,rfl⟩|⟨_,rfl⟩
  ·refine .ret ?_
   simp only[ZG,↓reduceIte,ZA,ZB,ZC,mbl,ZD,ZE,ZF];refine hΨ _ _ (fin_ret (rv3 rfl rfl rfl ⟨L2,T2,_,_,_,g1.trans g2,ac2,by omega,rfl,fun _=>⟨n,m,rfl,rfl,?_,rd2.tr.lt⟩⟩));have:=rd.tr.lt;rw[ex2,Z3];omega
  ·refine .ret ?_
   simp only[ZG,↓reduceIte,ZA,ZB,ZC,mbl,ZD,ZE,ZF];exact hΨ _ _ (fin_ret (rv3 rfl rfl rfl ⟨L2,T2,_,_,_,g1.trans g2,ac2,by omega,rfl,fun e=>(by cases e)⟩))
 ·refine .ret ?_
  simp only[ZG,↓reduceIte,ZA,ZB,ZC,mbl,ZD,ZE,ZF];refine XX_of (Read_ok s1 ac1 (by omega) u) (fun res h2 hle2 hn2=>?_);obtain ⟨L2,T2,g2,ac2,⟨X2,ex2⟩,_,len2,hn2⟩:=hn2
  rcases hn2 with ⟨m,t2,rd2,rfl⟩|⟨_,rfl⟩
  ·refine .ret ?_
   simp only[ZG,↓reduceIte,ZA,ZB,ZC,mbl,ZD,ZE,ZF];exact hΨ _ _ (fin_ret (rv3 rfl rfl rfl ⟨L2,T2,_,_,_,g1.trans g2,ac2,by omega,rfl,fun e=>(by cases e)⟩))
  ·refine .ret ?_
   simp only[ZG,↓reduceIte,ZA,ZB,ZC,mbl,ZD,ZE,ZF];exact hΨ _ _ (fin_ret (rv3 rfl rfl rfl ⟨L2,T2,_,_,_,g1.trans g2,ac2,by omega,rfl,fun e=>(by cases e)⟩))
end
theorem own_helem {h:AH} {b e:Nat} {cs:List Value} (o:Own h b e cs):helem h b=some e:=by
 obtain ⟨g,hg⟩:=o;simp [helem,hg]
theorem sl2 {h:AH} {b:Nat} {cs:List Value} (o:Own h b 3 cs):sllv h 3 1 (.slice (some ⟨b,0,none⟩) 4 4) none (some (.int .i64 2))=some (.slice (some ⟨b,0,none⟩) 2 4,none):=by
 simp [sllv,own_helem o,bnd]
theorem snd_arrow:snd arrow 2=true:=by decide
set_option maxHeartbeats 8000000 in
set_option maxRecDepth 100000 in
theorem TypesKeeps_ok (w u:Bs) (h:AH):Gets Tryd.prog 5 [tv w,tv u] h (fun res h'=>True/\res = .ret (.bool true)):=by
 refine Gets.of (keep:=false) hP (draw_ok hM) k5 (by rfl) (fun Ψ hΨ=>?_);simp only[ZG,↓reduceIte,ZA,ZB,ZC,r5,YE,YC,YO,YA,YL,YX,YS,Ya,Yb,Yl,Yf,Yg,Yi,Ym,Yk,Yt,Yn,Yz,Yp,Yq,Yd];refine XX_val (wakes_ok h) ?_;simp only[ZG,↓reduceIte,ZA,ZB,ZC,Z1];refine XX_of (New_ok h) (fun res h1 hle1 hn1=>?_);obtain ⟨b,L,rfl,k1,hb1,hz1,cs,s⟩:=hn1;refine .ret ?_;simp only[ZG,↓reduceIte,ZA,ZB,ZC,mbl,ZD,ZE,ZF];refine XX_of (read2_ok s .nil (by simp) w u) (fun res h2 hle2 hn2=>?_);obtain ⟨L2,T2,x,y,ok,g2,ac2,len2,rfl,hok⟩:=hn2;obtain ⟨cs2,s2⟩:=g2.th;refine .ret ?_;cases ok with
 | false =>
   simp only[ZG,↓reduceIte,ZA,ZB,ZC,mbl,ZD,ZE,ZF,Bool.not_false];exact hΨ _ _ (fin_ret (rv1 rfl ⟨trivial,rfl⟩))
 | true =>
 obtain ⟨a,c,rfl,rfl,ha,hc⟩:=hok rfl;simp only[Z7,Z9] at len2;have oA:=Own.new h2 3 h2.length [iv (a:Int),iv (c:Int),iv 99,iv 98];have kA:Keep (fun _=>False) h2 (h2++[row 3 h2.length [iv (a:Int),iv (c:Int),iv 99,iv 98]]):=Keep.push _ _ _;have zA:=s2.c0 h2.length (Zb _);simp only[ZG,↓reduceIte,ZA,ZB,ZC,mbl,ZD,ZE,ZF,Z1];have e_sl:=sl2 oA;generalize hh3:h2++[row 3 h2.length [iv (a:Int),iv (c:Int),iv 99,iv 98]]=h3 at oA kA e_sl ⊢;simp only[ZG,↓reduceIte,ZA,ZB,ZC,e_sl];have s3:=s2.keepF kA;have rA:Rds h3 1 (.slice (some ⟨h2.length,0,none⟩) 2 4) 2 (nn [a,c]):=.mk oA.cells (by simp) rfl;have hT2:T2.length<1000000000:=by omega
 refine XX_of (con_ok s3 hT2 arrow (by simp [arrow]) (al:=[a,c]) rA (by simp) (fun q hq=>by
  rcases Z4.1 hq with rfl|hq
  ·exact ha
  ·cases Z0.1 hq;exact hc)) (fun res h4 hle4 hn4=>?_)
 rw[if_pos (show snd arrow [a,c].length=true from snd_arrow)] at hn4;obtain ⟨rfl,L4,g4⟩:=hn4;obtain ⟨cs4,s4⟩:=g4.th;refine .ret ?_;have l3:h3.length=h2.length+1:=by rw[<- hh3];simp
 have oA4:=oA.keep g4.kp (TMine.z zA);have zA4:=(g4.sm h2.length (by omega)).2 zA;have ac4:AC (T2++[⟨arrow,[a,c]⟩]):=ac2.snoc (show okN ⟨arrow,[a,c]⟩ from (snd_ok (show snd arrow [a,c].length=true from snd_arrow)).1) (fun q hq=>by
  rcases Z4.1 hq with rfl|hq
  ·exact ha
  ·cases Z0.1 hq;exact hc)
 obtain ⟨t,ht⟩:=ac4.tree T2.length (by simp);generalize hT4:T2++[(⟨arrow,[a,c]⟩:Tm)]=T4 at ac4 ht s4 g4;have lT4:T4.length=T2.length+1:=by rw[<- hT4];simp
 simp only[ZG,↓reduceIte,ZA,ZB,ZC,mbl,ZD,ZE,ZF];refine XX_of (Text_ok ht s4) (fun res h5 hle5 hn5=>?_);obtain ⟨k5,rfl,cs5,s5⟩:=hn5;refine .ret ?_;have nv4:∀ q,L4.cls q=0 -> ¬ bk L4.vc q:=fun q e e2=>by have:=s4.c3 q e2;omega
 have oA5:=oA4.keep k5 (nv4 _ zA4);have i0:((0:Int)<=0/\(0:Int)<((4:Nat):Int))=True:=by simp
 have i1:((0:Int)<=1/\(1:Int)<((4:Nat):Int))=True:=by simp
 have i2:((0:Int)<=2/\(2:Int)<((4:Nat):Int))=True:=by simp
 have i3:((0:Int)<=3/\(3:Int)<((4:Nat):Int))=True:=by simp
 have n1:Int.toNat 1=1:=rfl;have n2:Int.toNat 2=2:=rfl;have n3:Int.toNat 3=3:=rfl;simp only[ZG,↓reduceIte,ZA,ZB,ZC,mbl,ZD,ZE,ZF,oA5.cells.ld,i0,i1,i2,i3,Int.toNat_zero,n1,n2,n3,Z2,Nat.zero_mul,Nat.one_mul];refine XH_own oA5 rfl (by simp [Value.cells]) rfl (fun h6 p1 p2 p3=>?_);have oA6:Own h6 h2.length 3 [iv (c:Int),iv (c:Int),iv 99,iv 98]:=by simpa [Value.cells] using p1
 simp only[ZG,↓reduceIte,ZA,ZB,ZC,mbl,ZD,ZE,ZF,i1,n1,Z2];refine XH_own oA6 rfl (by simp [Value.cells]) rfl (fun h7 q1 q2 q3=>?_);have oA7:Own h7 h2.length 3 [iv (c:Int),iv (c:Int),iv 99,iv 98]:=by simpa [Value.cells] using q1
 have s7:=(s5.keep p2 (fun q e e2=>e (by rw[show q=h2.length from e2];exact zA4))).keep q2 (fun q e e2=>e (by rw[show q=h2.length from e2];exact zA4));have rA7:Rds h7 1 (.slice (some ⟨h2.length,0,none⟩) 2 4) 2 (nn [c,c]):=.mk oA7.cells (by simp) rfl;simp only[ZG,↓reduceIte,ZA,ZB,ZC,mbl,ZD,ZE,ZF,sl2 oA7];refine XX_of (Copy_ok ht ac4 (by omega) (K:=[c,c]) s7 rA7 (fun q e=>by have e:q=h2.length:=e.bk;subst e;exact zA4) (fun k hk=>by
  rcases Z4.1 hk with rfl|hk
  ·omega
  ·cases Z0.1 hk;omega) (by simp)) (fun res h8 hle8 hn8=>?_)
 have dB:∀ x:Bs,(x == x)=true:=fun x=>by simp
 have l57:h4.length<=h7.length:=by have:=k5.len;have:=p2.len;have:=q2.len;omega
 have l34:=g4.kp.len
 by_cases hsz:sz t<=500
 case pos =>
  rw[if_pos hsz] at hn8;obtain ⟨s0,hT0,ok0,_,_,_,rfl,L8,g8⟩:=hn8;obtain ⟨cs8,s8⟩:=g8.th;have F:=cpF ht ac4 hT0 ok0;generalize (cp t s0).2.f=f at F;generalize (cp t s0).2.T=T8 at F s8 g8;generalize (cp t s0).1=d at F ⊢;obtain ⟨X8,rfl,hX8⟩:=F.ext;have ht8:=ht.ext X8;have oA8:=oA7.keep g8.kp (TMine.z zA4);have zA8:=(g8.sm h2.length (by omega)).2 zA4;have nv8:∀ q,L8.cls q=0 -> ¬ bk L8.vc q:=fun q e e2=>by have:=s8.c3 q e2;omega
  refine .ret ?_;simp only[ZG,↓reduceIte,ZA,ZB,ZC,mbl,ZD,ZE,ZF];refine XX_of (Text_ok ht8 s8) (fun res h9 hle9 hn9=>?_);obtain ⟨k9,rfl,cs9,s9⟩:=hn9;refine .ret ?_;have oA9:=oA8.keep k9 (nv8 _ zA8);simp only[ZG,↓reduceIte,ZA,ZB,ZC,mbl,ZD,ZE,ZF];refine XX_of (Text_ok F.tr s9) (fun res h10 hle10 hn10=>?_);obtain ⟨k10,rfl,cs10,s10⟩:=hn10;refine .ret ?_;have oA10:=oA9.keep k10 (nv8 _ zA8);have e0:smE t=0:=by unfold smE;rw[if_pos hsz]
  have hszc:sz (ren f t)=sz t:=sz_ren f t;have e1:smE (ren f t)=0:=by unfold smE;rw[hszc,if_pos hsz]
  simp only[ZG,↓reduceIte,ZA,ZB,ZC,mbl,ZD,ZE,ZF,e0,e1,hszc,if_pos hsz,F.te,tx_toList,dB,oA10.cells.ld,i2,n2,Z2];exact hΨ _ _ (fin_ret (rv1 rfl ⟨trivial,rfl⟩))
 case neg =>
  rw[if_neg hsz] at hn8;obtain ⟨rfl,g8⟩:=hn8;obtain ⟨cs8,s8⟩:=g8.th;have oA8:=oA7.keep g8.kp (TMine.z zA4);obtain ⟨t0,ht0⟩:=ac4.tree 0 (by omega);refine .ret ?_;simp only[ZG,↓reduceIte,ZA,ZB,ZC,mbl,ZD,ZE,ZF];refine XX_of (Text_ok ht s8) (fun res h9 hle9 hn9=>?_);obtain ⟨k9,rfl,cs9,s9⟩:=hn9;refine .ret ?_;have oA9:=oA8.keep k9 (nv4 _ zA4);simp only[ZG,↓reduceIte,ZA,ZB,ZC,mbl,ZD,ZE,ZF];refine XX_of (Text_ok ht0 s9) (fun res h10 hle10 hn10=>?_);obtain ⟨k10,rfl,cs10,s10⟩:=hn10;refine .ret ?_;have oA10:=oA9.keep k10 (nv4 _ zA4);have e0:smE t=11:=by unfold smE;rw[if_neg hsz]
  simp only[ZG,↓reduceIte,ZA,ZB,ZC,mbl,ZD,ZE,ZF,e0,if_neg hsz,tx_toList,dB,oA10.cells.ld,i2,n2,Z2];exact hΨ _ _ (fin_ret (rv1 rfl ⟨trivial,rfl⟩))
end Go.S11

namespace Go.S11
open Go Go.Eng Go.Proofs Go.Proofs.YtnkbbpmcjopicaaDoor
theorem var_heap {P:Program} {W:World} {n:String} {g:Nat} {cs:Array Value} (hg:P.globalNamed n=some g) (h:W.var? P n=some cs):∃ e fr,W.heap[g]?=some (.cells cs e fr):=by
 simp only[World.var?,hg,Option.bind_some] at h
 split at h
 ·cases h;exact ⟨_,_,by assumption⟩
 ·cases h
def laidL : List (String × DataW Unit) := [("math/bits.deBruijn32tab", Rows.laid_math_bits_deBruijn32tab), ("math/bits.deBruijn64tab", Rows.laid_math_bits_deBruijn64tab), ("internal/strconv.uint64pow10", Rows.laid_internal_strconv_uint64pow10)]
theorem gPow : Tryd.prog.globalNamed "internal/strconv.uint64pow10" = some 0 := by kernel_rfl
theorem tPow:(Tryd.prog.globals[0]?).map (·.type)=some 136:=by kernel_rfl
theorem uPow:Tryd.prog.underlying 136=some (.array 20 125):=by kernel_rfl
theorem uU64:Tryd.prog.underlying 125=some (.int .u64):=by kernel_rfl
theorem cPow:Tryd.prog.cellsOf 136=20:=by kernel_rfl
theorem cU64:Tryd.prog.cellsOf 125=1:=by kernel_rfl
theorem gsz:Tryd.prog.globals.size=4:=by kernel_rfl
theorem tabM:Tab Tryd.prog 1=some [.complex .f32 0 0]:=by kernel_rfl
theorem tabP:Tab Tryd.prog 0=some ((Zd 20).map fun i=>Value.int .u64 (10 ^ i)):=by kernel_rfl
theorem tabO:∀ g,g<4->g≠1->g≠0->Tab Tryd.prog g=none:=by
 intro g h1 h2 h3;have h:((Zd 4).all fun g=>g == 1 || g == 0 || (Tab Tryd.prog g).isNone)=true:=by kernel_rfl
 have:=List.all_eq_true.1 h g (List.mem_range.2 h1);simp only[Bool.or_eq_true,beq_iff_eq,Option.isNone_iff_eq_none] at this
 rcases this with (e|e)|e
 ·exact absurd e h2
 ·exact absurd e h3
 ·exact e
theorem powD:(Rows.laid_internal_strconv_uint64pow10:DataW Unit) = .agg ((Zd 20).map fun i=>.lit (.int .u64 (10 ^ i))):=by rfl
theorem zMax:(((begin Tryd.prog (fun _ _=>0) default).world.heap[(1:Nat)]?).bind Obj.row?)=some (#[.int .i64 0],3):=by kernel_rfl
theorem sMax {W:World} (hS:W.ShapedOpen Tryd.prog):∃ m,W.cell? ⟨(1:Nat),0,none⟩=some (.int .i64 m) :=
 Go.Proofs.cell_of_shapedOpen_int (zero:=#[.int .i64 0]) (t:=3) hS (of_decide_eq_true (by kernel_rfl)) zMax rfl (by kernel_rfl) (by kernel_rfl) Tryd.underlying3
set_option maxRecDepth 100000 in
theorem tab_of_laid {W:World} (h:laidMetH Tryd.prog laidL W) (hS:W.ShapedOpen Tryd.prog):TabOk Tryd.prog W.heap:=by
 rw[MakeChecks.laidMetH_plain _ _ _ (by kernel_rfl)] at h;obtain ⟨ps,⟨_,_,_,_,_,_,_,_,_,_,⟨_,_,_,_,_,_,_,_,_,_,⟨g3,t3,cs3,f3,p3,q3,hg3,ht3,hv3,hd3,_,_⟩,_⟩,_⟩,_,_⟩:=h;obtain rfl:=Zc.inj (gPow.symm.trans hg3);obtain rfl:=Zc.inj (tPow.symm.trans ht3);obtain ⟨e3,fr3,hh3⟩:=var_heap hg3 hv3;intro g cs hg
 by_cases hgM:g=1
 ·subst hgM
  rw[tabM] at hg;cases hg;obtain ⟨m,hm⟩:=sMax hS;obtain ⟨cur,hh,hsz,_⟩:=hS.1 1 _ _ (by rw[gsz];omega) zMax;refine ⟨cur,_,_,hh,?_⟩;have hc:cur[0]?=some (.int .i64 m):=by
   have hm':W.cell? ⟨(1:Nat),0,none⟩=some (.int .i64 m):=hm
   simpa [World.cell?,hh] using hm'
  have h1:cur.size=1:=hsz;refine ⟨by simp [h1],fun i u v hu hv=>?_⟩;have hi:i=0:=by have:=(Z5.1 hu).1;simp at this;omega
  subst hi;rw[Array.getElem?_toList,hc] at hv;cases hv;cases hu;exact .unk _ _ _ rfl (fun _=>⟨m,rfl⟩)
 by_cases hgP:g=0
 ·subst hgP
  rw[tabP] at hg;cases hg;refine ⟨cs3,e3,fr3,hh3,?_⟩;obtain ⟨xs,m,rfl,hx,hlen,hn,hel⟩:=DataW.trod_array uPow hd3;rw[cPow] at hlen;rw[powD] at hx;simp only[Prod.mk.injEq,DataW.agg.injEq] at hx;have hkey:∀ i,i<20->cs3.toList[i]?=some (.int .u64 (10 ^ i)):=by
   intro i hi;have h1:=hel i hi;rw[cU64,Z2,Z6 (by omega)] at h1;obtain ⟨n,k1,k2,_⟩:=DataW.trod_int uU64 h1;have h2:=congrArg (fun l=>l[i]?) hx.1;simp only[Za] at h2;rw[Z8 hi,Z6 (by omega),Option.map_some,Option.map_some,k2] at h2;have h3:n=10 ^ i:=by
    have:=Zc.inj h2;simp only[DataW.lit.injEq,Lit.int.injEq,true_and] at this;exact this.symm
   have h4:=congrArg (fun l=>l[0]?) k1;simp only[List.getElem?_take,Nat.zero_lt_one,if_true,List.getElem?_drop,Nat.add_zero] at h4;rw[h4,h3];rfl
  refine ⟨by simp [hlen],fun i u v hu hv=>?_⟩;have hi:i<20:=by have:=(Z5.1 hu).1;simpa using this
  rw[hkey i hi] at hv;cases hv;rw[Za,Z8 hi] at hu;cases hu;exact .int _ _
 by_cases hlt:g<4
 ·rw[tabO g hlt hgM hgP] at hg;cases hg
 ·unfold Tab at hg
  rw[Array.getElem?_eq_none (by rw[gsz];omega)] at hg;cases hg
theorem door_met (os:Os) (args:Array Value):laidMetH Tryd.prog laidL ((World.doorLaid Tryd.prog 400 os).forCall (fun _ _=>0) ⟨#[],args,[]⟩).memory :=
 laidMetH_of_parts3 (fuel:=8) (laidMet_of_run' 8 (by kernel_rfl) (by kernel_rfl)) (by kernel_rfl) (by kernel_rfl)
end Go.S11
