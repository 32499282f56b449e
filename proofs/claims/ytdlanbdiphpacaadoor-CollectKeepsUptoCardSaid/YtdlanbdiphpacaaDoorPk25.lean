import Derived.Test.YtdlanbdiphpacaaDoorPk24
import Derived.Test.YtdlanbdiphpacaaDoorPk21
set_option linter.unusedVariables false
set_option linter.unusedSimpArgs false
open Nat renaming reduceEqDiff -> ZA,reduceAdd -> ZB,reduceMul -> ZC,reduceLeDiff -> ZD,reduceLT -> ZE
open Int renaming reduceEq -> ZF
open Int renaming cast_ofNat_Int->Z0,natCast_add->Z1
open List renaming mem_append->Z2,mem_cons_of_mem->Z3,mem_cons_self->Z4,flatMap_cons->Z5,mem_cons->Z6,mem_singleton->Z7
namespace Go.S19
open Go Go.Eng Go.Proofs Go.Chk Go.Scn
def HS.meetC (S:HS) (n:Nat):List (Int × Int)->List (Int × Int)->Option (List (Int × Int) × Bool)
 | [],ts=>some (ts,true)
 | w::ws,ts=>if S.sound w then (match S.fol n w with
   | some x=>S.meetC n ws (if x.1=4 then num ts x else ts)
   | none=>none) else some (ts,false)
theorem meetC_eq {S:HS} {n:Nat}:∀ {ws ts:List (Int × Int)} {r:List (Int × Int) × Bool},S.meetC n ws ts=some r->S.meetT ws ts=r:=by
 intro ws
 induction ws with
 | nil=>intro ts r h;rw[HS.meetC] at h;cases h;rfl
 | cons w ws ih =>
   intro ts r h;rw[HS.meetC] at h;rw[HS.meetT]
   split at h
   ·rename_i hs
    rw[if_pos hs]
    split at h
    ·rename_i x hx
     rw[folX_eq hs hx];exact ih h
    ·cases h
   ·rename_i hs
    rw[if_neg hs];cases h;rfl
def HS.bfsC (S:HS) (m:Nat):Nat->Nat->List (Int × Int)->Bool->Option (List (Int × Int) × Bool)
 | 0,_,ts,sd=>some (ts,sd)
 | n+1,i,ts,sd=>match ts[i]? with
   | none=>some (ts,sd)
   | some w=>match S.meetC m (S.flds w) ts with
     | none=>none
     | some r=>if sd && r.2 then S.bfsC m n (i+1) r.1 true else some (r.1,false)
theorem bfsC_eq {S:HS} {m:Nat}:∀ {n i:Nat} {ts:List (Int × Int)} {sd:Bool} {r:List (Int × Int) × Bool},S.bfsC m n i ts sd=some r->S.bfsT n i ts sd=r:=by
 intro n
 induction n with
 | zero=>intro i ts sd r h;rw[HS.bfsC] at h;cases h;rfl
 | succ n ih =>
   intro i ts sd r h;rw[HS.bfsC] at h;rw[HS.bfsT]
   split at h
   ·rename_i e;rw[e];cases h;rfl
   ·rename_i w e
    rw[e]
    split at h
    ·cases h
    ·rename_i q hq
     simp only[meetC_eq hq]
     split at h
     ·rename_i c;rw[if_pos c];exact ih h
     ·rename_i c;rw[if_neg c];cases h;rfl
def HS.graphC (S:HS) (m:Nat) (roots:List (Int × Int)):Option (List (Int × Int) × Bool) :=
 match S.meetC m roots [] with
 | none=>none
 | some r=>match S.meetC m S.globals r.1 with
   | none=>none
   | some q=>S.bfsC m (S.begins.length+1) 0 q.1 (r.2 && q.2)
theorem graphC_eq {S:HS} {m:Nat} {roots:List (Int × Int)} {r:List (Int × Int) × Bool} (h:S.graphC m roots=some r):S.graph roots=r:=by
 unfold HS.graphC at h
 split at h
 ·cases h
 ·rename_i q hq
  split at h
  ·cases h
  ·rename_i q2 hq2
   rw[HS.graph,meetC_eq hq];simp only[meetC_eq hq2];exact bfsC_eq h
theorem lbl_eq {S:HS} {n:Nat} {ts:List (Int × Int)} {w x:Int × Int} (hs:S.sound w) (hx:S.fol n w=some x):S.lbl ts w=[32]++(if x.1=2 then [99] else if x.1=3 then [102] else if x.1=4 then [35] else [])++Lib.itoa (if x.1=4 then (((pos x ts).getD 0:Nat):Int) else x.2):=by
 unfold HS.lbl;rw[folX_eq hs hx]
theorem ren_eq {S:HS} {n:Nat} {ts:List (Int × Int)} {w x:Int × Int} (hs:S.sound w) (hx:S.fol n w=some x):S.ren ts w=if x.1=4 then (4,S.adr ts ((pos x ts).getD 0)) else x:=by
 unfold HS.ren;rw[folX_eq hs hx]
structure Wk (h:AH) (b:Nat) (L:Lay) (S:HS) (l:List (Nat × (Int × Int))):Prop where
 hp:Hp h b L S
 bx:∀ p,p∈l->Own h p.1 44 [iv p.2.1,iv p.2.2]/\L.cls p.1=0
section
variable {h h':AH} {b:Nat} {L L':Lay} {S S':HS} {l:List (Nat × (Int × Int))}
theorem Wk.step (w:Wk h b L S l) (k:Keep (Mine L) h h') (hp':Hp h' b L' S') (sm:Same h.length L L'):Wk h' b L' S' l :=
 ⟨hp',fun p hp=>⟨(w.bx p hp).1.keep k (by simp [Mine,(w.bx p hp).2]),(sm _ (w.bx p hp).1.lt).2 (w.bx p hp).2⟩⟩
theorem Wk.keepF (w:Wk h b L S l) (k:Keep (fun _=>False) h h'):Wk h' b L S l :=
 w.step (k.mono fun _ e=>e.elim) (w.hp.keepF k) (Same.refl _ _)
theorem Wk.ld2 (w:Wk h b L S l) {i:Nat} {p:Nat × (Int × Int)} (hp:l[i]?=some p):ldcs h p.1 0 2=some [iv p.2.1,iv p.2.2]:=by
 have:=(w.bx p (List.mem_of_getElem? hp)).1.cells.lds 0 2 (by simp)
 simpa using this
theorem XH_box {keep:Bool} {nm:List Nat} {Φ:Out->PS->Prop} {cn:Cn} {k:List Fm} {e ll:PE} {ds:List Dfr} {d:D} (w:Wk h b L S l) {a c:Int}
 (hk:∀ h',h.length<h'.length->Wk h' b L S ((h.length,(a,c))::l)->Keep (fun _=>False) h h'->XV Tryd.prog keep nm Φ undef d cn k e ll h' ds):XH Tryd.prog keep nm Φ (stv (h++[row 44 h.length [.int .i64 0,.int .i64 0]]) 2 (.pointer (some ⟨h.length,0,none⟩)) (.agg #[iv a,iv c])) d cn k e ll ds:=by
 have on:=Own.new h 44 h.length [iv 0,iv 0];have kp:Keep (fun _=>False) h (h++[row 44 h.length [iv 0,iv 0]]):=Keep.push _ _ _;refine XH_own on rfl (by simp [Value.cells]) rfl (fun h2 q1 q2 q3=>?_);have on2:Own h2 h.length 44 [iv a,iv c]:=by simpa [Value.cells] using q1
 have k2:Keep (fun _=>False) h h2:=kp.trans' q2 (fun c hc e=>by omega);refine hk h2 (by rw[q3];simp) ⟨w.hp.keepF k2,fun p hp=>?_⟩ k2
 rcases Z6.1 hp with rfl|hp
 ·exact ⟨on2,w.hp.c0 _ (Nat.le_refl _)⟩
 ·exact (w.keepF k2).bx p hp
end
def tinyS (sz:Int) (now begins:List (Int × Int)):HS:={ infos:=tinyC.infos,texts:=[],cons:=tinyC.cons,now:=now,old:=[],begins:=begins,oldm:=[],globals:=[(3,0),(4,0)],size:=sz,side:=0 }
theorem tiny_ends:(ends tinyC).isSome=true:=by rfl
theorem tiny_new20:(HS.start tinyC [] 20).gls tinyC.tops.length=some (tinyS 20 [(6,1),(1,0)] [(0,2)]):=by rfl
theorem tiny_put (v:Int):(tinyS 20 [(6,1),(1,0)] [(0,2)]).put (7,4) [(1,v),(4,0)]=((4,2),0,tinyS 20 [(6,1),(1,0),(7,4),(1,v),(4,0)] [(0,2),(2,3)]):=by rfl
abbrev TK (v:Int):HS:=tinyS 20 [(6,1),(1,0),(7,4),(1,v),(4,0)] [(0,2),(2,3)]
theorem tk_graph:(TK 97).graph [(4,2)]=([(4,2),(4,0)],true):=graphC_eq (m:=3) (by rfl)
theorem tk_reach:(TK 97).reach [(4,2),(4,0)]=5:=by rfl
theorem it97:Lib.itoa 97=[57,55]:=by decide +kernel
theorem it0:Lib.itoa 0=[48]:=by decide +kernel
theorem it1:Lib.itoa 1=[49]:=by decide +kernel
theorem it4:Lib.itoa 4=[52]:=by decide +kernel
theorem tk_shape:(TK 97).shapeT [(4,2)] [(4,2),(4,0)]=[114,111,111,116,115,32,35,48,10,103,108,111,98,97,108,115,32,102,48,32,35,49,10,99,111,110,32,52,32,57,55,32,35,49,10,105,110,102,111,32,49,10]:=by
 have e1:(TK 97).lbl [(4,2),(4,0)] (4,2)=[32,35,48]:=by
  rw[lbl_eq (n:=3) (x:=(4,2)) (of_decide_eq_true rfl) rfl,show (pos (4,2) [(4,2),(4,0)])=some 0 from rfl];simp [it0]
 have e2:(TK 97).lbl [(4,2),(4,0)] (3,0)=[32,102,48]:=by
  rw[lbl_eq (n:=3) (x:=(3,0)) (of_decide_eq_true rfl) rfl];simp [it0]
 have e3:(TK 97).lbl [(4,2),(4,0)] (4,0)=[32,35,49]:=by
  rw[lbl_eq (n:=3) (x:=(4,0)) (of_decide_eq_true rfl) rfl,show (pos (4,0) [(4,2),(4,0)])=some 1 from rfl];simp [it1]
 have e4:(TK 97).lbl [(4,2),(4,0)] (1,97)=[32,57,55]:=by
  rw[lbl_eq (n:=3) (x:=(1,97)) (of_decide_eq_true rfl) rfl];simp [it97]
 have f1:(TK 97).flds (4,2)=[(1,97),(4,0)]:=by rfl
 have f2:(TK 97).flds (4,0)=[]:=by rfl
 have g1:(TK 97).head (4,2)=((7,4),0):=by rfl
 have g2:(TK 97).head (4,0)=((6,1),0):=by rfl
 have gg:(TK 97).globals=[(3,0),(4,0)]:=rfl;simp [HS.shapeT,HS.lineT,HS.objT,HS.hdT,e1,e2,e3,e4,f1,f2,g1,g2,gg,nmd,it4,it1]
theorem tk_inv:Inv (TK 97):=by
 have h:=((Inv.start (C:=tinyC) (texts:=[]) (words:=20) (by decide) (by omega) (by omega)).gls tiny_new20).put (7,4) [(1,97),(4,0)];rw[tiny_put] at h;exact h
instance (n:Int):Decidable (rgI n):=by unfold rgI;infer_instance
theorem tk_rg:Rg (TK 97):=⟨by decide,by decide,by decide⟩
theorem tk_tx:Tx (TK 97):=by unfold Tx;decide
set_option maxHeartbeats 2000000 in
theorem wakes_ok (h:AH):Gets Tryd.prog 7 [] h (fun res h'=>Keep (fun _=>False) h h'/\res = .ret (.bool true)):=by
 refine Gets.of (keep:=false) hP (draw_ok hM) k7 (by rfl) (fun Ψ hΨ=>?_);simp only[ZG,↓reduceIte,ZA,ZB,ZC,r7,YE,YC,YO,YA,YL,YX,YS,Ya,Yb,Yl,Yf,Yg,Yi,Ym,Yk,Yt,Yn,Yz,Yp,Yq,Yd,mbl,ZD,ZE,ZF];refine XX_of (tiny_ok h) (fun res h1 hle1 hn=>?_);obtain ⟨k1,vi,vc,vp,vk,rfl,im,_,_,_⟩:=hn;refine .ret ?_;simp only[ZG,↓reduceIte,ZA,ZB,ZC,mbl,ZD,ZE,ZF];refine XX_of (New_ok (C:=tinyC) (texts:=[]) im (by refine ⟨?_,?_,?_,?_⟩<;>decide) .nil (by decide) (by decide) 20) (fun res h2 hle2 hn=>?_);obtain ⟨k2,hn⟩:=hn;unfold NewO at hn;rw[if_pos ⟨tiny_ends,by omega,by omega⟩,tiny_new20] at hn;obtain ⟨b,L0,rfl,hp0,z0⟩:=hn;refine .ret ?_;have k02:=k1.trans k2;have w:Wk h2 b L0 (tinyS 20 [(6,1),(1,0)] [(0,2)]) []:=⟨hp0,fun p hp=>by cases hp⟩
 simp only[ZG,↓reduceIte,ZA,ZB,ZC,mbl,ZD,ZE,ZF];have oR:=Own.new h2 44 h2.length [iv 1,iv 97,iv 4,iv 0];have kR:Keep (fun _=>False) h2 (h2++[row 44 h2.length [iv 1,iv 97,iv 4,iv 0]]):=Keep.push _ _ _;generalize h2++[row 44 h2.length [iv 1,iv 97,iv 4,iv 0]]=h3 at oR kR ⊢
 replace w:=w.keepF kR
 refine XX_of (Put_ok w.hp (by rfl) (7,4) (ys:=[(1,97),(4,0)]) (.mk oR.cells (by simp) rfl) (by decide) (fun _=>by decide)) (fun res h4 hle4 hn=>?_);rw[tiny_put] at hn;obtain ⟨kc,rfl,L1,s1,sm⟩:=hn;refine .ret ?_;have z1:∀ q,q<h1.length->L1.cls q=0:=fun q hq=>(sm q (by have:=k2.len;have:=kR.len;omega)).2 (z0 q hq)
 have k04:Keep (fun _=>False) h h4:=(k02.trans kR).trans' kc (fun c hc e=>e (z0 c (by have:=k1.len;omega)))
 replace w:=w.step kc s1 sm
 simp only[ZG,↓reduceIte,ZA,ZB,ZC,wv,mbl,ZD,ZE,ZF];refine XH_box w (fun h5 hlt w5 kb=>?_);have k05:=k04.trans kb;simp only[ZG,↓reduceIte,ZA,ZB,ZC,mbl,ZD,ZE,ZF,w5.ld2 (i:=0) rfl];have oU:=Own.new h5 44 h5.length [iv 4,iv 2];have kU:Keep (fun _=>False) h5 (h5++[row 44 h5.length [iv 4,iv 2]]):=Keep.push _ _ _;generalize h5++[row 44 h5.length [iv 4,iv 2]]=h6 at oU kU ⊢;have w6:=w5.keepF kU;have s6:Hp h6 b L1 (TK 97):=w6.hp;refine XX_of (Shape_ok s6 tk_inv tk_rg (by decide) (roots:=[(4,2)]) (.mk oU.cells (by simp) rfl) (by decide) (by decide)) (fun res h7 hle7 hn=>?_);rw[tk_graph,tk_shape] at hn;obtain ⟨k67,rfl⟩:=hn;refine .ret ?_;have w7:=w6.keepF k67;have k07:=(k05.trans kU).trans k67;simp only[ZG,↓reduceIte,ZA,ZB,ZC,mbl,ZD,ZE,ZF,w7.ld2 (i:=0) rfl];have oV:=Own.new h7 44 h7.length [iv 4,iv 2];have kV:Keep (fun _=>False) h7 (h7++[row 44 h7.length [iv 4,iv 2]]):=Keep.push _ _ _;generalize h7++[row 44 h7.length [iv 4,iv 2]]=h8 at oV kV ⊢;have w8:=w7.keepF kV;have s8:Hp h8 b L1 (TK 97):=w8.hp;refine XX_of (Reach_ok s8 tk_inv (by decide) (roots:=[(4,2)]) (.mk oV.cells (by simp) rfl) (by decide)) (fun res h9 hle9 hn=>?_);rw[tk_graph,tk_reach] at hn;obtain ⟨k89,rfl⟩:=hn;refine .ret ?_;have w9:=w8.keepF k89;have k09:=(k07.trans kV).trans k89;simp only[ZG,↓reduceIte,ZA,ZB,ZC,mbl,ZD,ZE,ZF,w9.ld2 (i:=0) rfl];have oX:=Own.new h9 44 h9.length [iv 4,iv 2];have kX:Keep (fun _=>False) h9 (h9++[row 44 h9.length [iv 4,iv 2]]):=Keep.push _ _ _;have zX:L1.cls h9.length=0:=w9.hp.c0 _ (Nat.le_refl _);have eX:∀ q,rb (.slice (some ⟨h9.length,0,none⟩) 1 1) q->q=h9.length:=fun q e=>e.bk
 generalize h9++[row 44 h9.length [iv 4,iv 2]]=h10 at oX kX ⊢;have w10:=w9.keepF kX;have s10:Hp h10 b L1 (TK 97):=w10.hp;refine XX_of (Collect_ok s10 tk_inv (by decide) (roots:=[(4,2)]) (.mk oX.cells (by simp) rfl) (by decide) (fun q hq=>by rw[eX q hq];exact zX)) (fun res h11 hle11 hn=>?_);obtain ⟨kc2,hn⟩:=hn;rw[if_pos (by rw[tk_graph])] at hn;obtain ⟨v',news,S',L2,rfl,cr,s11,iv11,sm2,rw11⟩:=hn;refine .ret ?_;have cd:=coll_cd tk_inv tk_tx (by rw[tk_graph]) cr iv11;rw[tk_graph] at cd;have hnw:news=[(4,0)]:=by
  rw[cd.nw,List.map_cons,List.map_nil,ren_eq (n:=3) (x:=(4,2)) (of_decide_eq_true rfl) rfl];rfl
 subst hnw;have k011:Keep (fun _=>False) h h11:=(k09.trans kX).trans' kc2 (fun c hc e=>e (z1 c (by have:=k1.len;omega)));obtain ⟨b1,o1,c1,e1,_,hl1⟩:=rds_w rw11.o.rds (i:=0) (by decide) (by decide);subst e1;have tr:((tx ([114,111,111,116,115,32,35,48,10,103,108,111,98,97,108,115,32,102,48,32,35,49,10,99,111,110,32,52,32,57,55,32,35,49,10,105,110,102,111,32,49,10]:Bs)).toList == (⟨#[114,111,111,116,115,32,35,48,10,103,108,111,98,97,108,115,32,102,48,32,35,49,10,99,111,110,32,52,32,57,55,32,35,49,10,105,110,102,111,32,49,10]⟩:ByteArray).toList)=true:=by decide +kernel
 have dl:(((([((4:Int),(0:Int))]:List (Int × Int)).length:Nat):Int)=1)=True:=by simp
 have d0:((0:Int)<((([((4:Int),(0:Int))]:List (Int × Int)).length:Nat):Int))=True:=by simp
 have d00:((0:Int)<=0)=True:=by simp
 rw[show wat [((4:Int),(0:Int))] 0=(4,0) from rfl] at hl1;simp only[ZG,↓reduceIte,ZA,ZB,ZC,mbl,ZD,ZE,ZF,hl1,tr,dl,d0,d00,and_self];exact hΨ _ _ (fin_ret (rv1 rfl ⟨k011,rfl⟩))
end Go.S19

namespace Go.S19
open Go Go.Eng Go.Proofs Go.Chk Go.Scn
section
variable {h:AH} {b:Nat} {L:Lay} {S:HS}
noncomputable def HS.becX (S:HS) (w x:Int × Int):Int × HS:=open Classical in S.become w x (if h:∃ y m,S.fol m x=some y then h.choose else w)
theorem becX_eq {w x y:Int × Int} (hy:S.lies w/\(S.hd w).1=11/\S.sound x -> ∃ m,S.fol m x=some y):S.become w x y=S.becX w x:=by
 classical
 unfold HS.becX
 by_cases c:S.lies w/\(S.hd w).1=11/\S.sound x
 ·obtain ⟨m,hm⟩:=hy c
  have hex:∃ y m,S.fol m x=some y:=⟨y,m,hm⟩
  rw[dif_pos hex];obtain ⟨m2,hm2⟩:=hex.choose_spec;rw[<- fol_one hm hm2]
 ·have no:∀ z,S.become w x z=(1,S):=fun z=>by rw[HS.become,if_neg (fun e=>c ⟨e.1,e.2.1,e.2.2.1⟩)]
  rw[no,no]
theorem xHole_ok (s:Hp h b L S) (v:Inv S) (w:Int × Int):Gets Tryd.prog 18 [.pointer (some ⟨b,0,none⟩),wv w] h (fun res h'=>Keep (Mine L) h h'/\res = .ret (iv (S.hole w).1) /\ ∃ L',Hp h' b L' (S.hole w).2/\Same h.length L L') :=
 (Hole_ok s v.ok w).mono fun res h' _ ⟨a,c,d⟩=>⟨a,c,L,d,Same.refl _ _⟩
theorem xBecome_ok (s:Hp h b L S) (v:Inv S) (w x:Int × Int):Gets Tryd.prog 19 [.pointer (some ⟨b,0,none⟩),wv w,wv x] h (fun res h'=>Keep (Mine L) h h'/\res = .ret (iv (S.becX w x).1) /\ ∃ L',Hp h' b L' (S.becX w x).2/\Same h.length L L') :=
 (Become_ok s w x (fun _ _ hs=>v.tm x hs)).mono fun res h' _ ⟨a,y,c,d,e⟩=>by
  rw[becX_eq c] at d e;exact ⟨a,d,L,e,Same.refl _ _⟩
theorem inv_becX (v:Inv S) (w x:Int × Int):Inv (S.becX w x).2:=by
 by_cases c:S.lies w/\(S.hd w).1=11/\S.sound x
 ·obtain ⟨m,y,hy⟩:=v.tm x c.2.2
  rw[<- becX_eq (y:=y) (fun _=>⟨m,hy⟩)]
  rcases become_cases v w x y with ⟨h1,_⟩|⟨k,hc,_,hm,h2,_,_,h1⟩
  ·rw[h1];exact v
  ·rw[h1];exact v.bec hc hy hm h2
 ·rw[<- becX_eq (y:=w) (fun e=>absurd e c),HS.become,if_neg (fun e=>c ⟨e.1,e.2.1,e.2.2.1⟩)];exact v
end
def bgs (n:Nat):List (Int × Int):=(List.range (n+1)).map fun j:Nat=>(2*(j:Int),2)
structure Ch1 (S:HS) (i:Nat):Prop where
 e:∃ now,S=tinyS 300 now (bgs i)
 v:Inv S
 ln:S.now.length=2+2*i
 h0:gx S.now 0=(6,1)
 h1:∀ j:Nat,j<i->gx S.now (2+2*j)=(11,2)
section
variable {S:HS} {n i:Nat}
structure Ch2 (S:HS) (n i:Nat) (v:Int):Prop where
 e:∃ now,S=tinyS 300 now (bgs n++[(2+2*(n:Int),3)])
 iv:Inv S
 ln:S.now.length=5+2*n
 h0:gx S.now 0=(6,1)
 hj:∀ j:Nat,j<n->gx S.now (2+2*j)=if j<i then (12,0) else (11,2)
 hn:∀ j:Nat,j<i->gx S.now (3+2*j)=(4,4+2*(j:Int))
 he:gx S.now (2+2*n)=(7,4)
 he1:gx S.now (3+2*n)=(1,v)
 he2:gx S.now (4+2*n)=(4,2)
variable {v:Int}
end
end Go.S19

namespace Go.S19
open Go Go.Eng Go.Proofs Go.Chk Go.Scn
def Tc (bs ws:List (Int × Int)):Prop:=∀ q∈bs,(gx ws q.1).1=9->(gx ws (q.1+1)).1=1
def T2 (bs ws:List (Int × Int)):Prop:=∀ q∈bs,(gx ws q.1).1=9->q.2=2
theorem Tc.set {bs ws:List (Int × Int)} {e:Int} (tn:tiles 0 bs e) (he:e<=ws.length) (k:T2 bs ws) (t:Tc bs ws) {p n i:Int} {x:Int × Int} (hm:(p,n)∈bs) (hi:p<=i/\i<p+n) (h9:(gx (ws.set i.toNat x) p).1=9->(gx (ws.set i.toNat x) (p+1)).1=1):Tc bs (ws.set i.toNat x):=by
 intro q hq hh;have t0:=tiles_in tn hm;simp only at t0
 rcases tiles_apart tn hq hm with rfl|d|d
 ·exact h9 hh
 all_goals
  have tq:=tiles_in tn hq;simp only at d;rw[gx_set ⟨by omega,by omega⟩,if_neg (by omega)] at hh;have:=k q hq hh;rw[gx_set ⟨by omega,by omega⟩,if_neg (by omega)];exact t q hq hh
theorem T2.set {bs ws:List (Int × Int)} (k:T2 bs ws) {i:Int} {x:Int × Int} (hi:0<=i/\i<ws.length) (hx:x.1≠9):T2 bs (ws.set i.toNat x):=by
 intro q hq hh;rw[gx_set hi] at hh
 split at hh
 ·exact absurd hh hx
 ·exact k q hq hh
theorem Tc.laid {bs ws zs:List (Int × Int)} (tn:tiles 0 bs ws.length) (k:T2 bs ws) (t:Tc bs ws) (h1:(gx zs 0).1=9->(gx zs 1).1=1) (h0:1<=zs.length) (h2:(gx zs 0).1=9->2<=zs.length):Tc (bs++[((ws.length:Int),(zs.length:Int))]) (ws++zs):=by
 intro q hq hh
 rcases Z2.1 hq with e|e
 ·have tq:=tiles_in tn e
  have o:∀ j:Int,0<=j->j<ws.length->gx (ws++zs) j=gx ws j:=fun j h0 h=>by
   unfold gx;rw[if_pos (by simp;omega),if_pos ⟨h0,h⟩];unfold wat;rw[List.getElem?_append_left (by omega)]
  rw[o _ (by omega) (by omega)] at hh;have:=k q e hh;rw[o _ (by omega) (by omega)];exact t q e hh
 ·cases Z7.1 e
  have e0:=gx_laid (a:=ws) (c:=zs) (j:=0) (by omega) (by omega);simp only at hh ⊢;rw[Int.add_zero] at e0;rw[e0] at hh;have:=h2 hh;rw[gx_laid (by omega) (by omega)];exact h1 hh
structure Gs (S:HS):Prop where
 v:Inv S
 r:Rg S
 tx:Tx S
 to:Tc S.oldm S.old
theorem Gs.k2 {S:HS} (g:Gs S):T2 S.begins S.now:=fun q hq h=>(g.v.kn q hq).k9 h
theorem Gs.o2 {S:HS} (g:Gs S):T2 S.oldm S.old:=fun q hq h=>((g.v.ko q hq).resolve_left (by omega)).k9 h
theorem rg_set {ws:List (Int × Int)} {i:Nat} {x:Int × Int} (h:∀ y∈ws,rgI y.2) (hx:rgI x.2):∀ y∈ws.set i x,rgI y.2:=fun y hy=>(List.mem_or_eq_of_mem_set hy).elim (h y) (fun e=>e ▸ hx)
theorem rg0:rgI 0:=⟨by decide,by decide⟩
theorem Gs.start {S:HS} (v:Inv S) (r:Rg S) (h9:∀ q∈S.begins,(gx S.now q.1).1≠9) (ho:S.oldm=[]):Gs S:=⟨v,r,fun q hq h=>absurd h (h9 q hq),fun q hq=>by rw[ho] at hq;cases hq⟩
section
variable {S:HS}
theorem all_rg {hd:Int × Int} {ys:List (Int × Int)} (h1:rgI hd.2) (h2:∀ y∈ys,rgI y.2):∀ y∈S.all hd ys,rgI y.2:=by
 intro y hy;unfold HS.all at hy
 split at hy
 ·simp only[List.cons_append,Z6,Z2,List.not_mem_nil,or_false] at hy
  rcases hy with rfl|e|rfl
  ·exact h1
  ·exact h2 y e
  ·exact rg0
 ·rcases Z6.1 hy with rfl|e
  ·exact h1
  ·exact h2 y e
theorem Gs.put (g:Gs S) {hd:Int × Int} {ys:List (Int × Int)} (h1:rgI hd.2) (h2:∀ y∈ys,rgI y.2):Gs (S.put hd ys).2.2:=by
 have v2:=g.v.put hd ys;unfold HS.put at v2 ⊢
 split at v2
 ·rename_i c
  split at v2
  ·rename_i c2;rw[if_pos c,if_pos c2];exact g
  ·rename_i c2
   rw[if_pos c,if_neg c2];refine ⟨v2,⟨fun x hx=>(Z2.1 hx).elim (g.r.now x) (all_rg h1 h2 x),g.r.old,g.r.gl⟩,?_,g.to⟩;have hl:=all_len S hd ys;have h9:(gx (S.all hd ys) 0).1=9->hd.1=9:=fun e=>by
    unfold HS.all at e
    split at e
    ·rw[gx_zero (by simp)] at e;exact e
    ·rw[gx_zero (by simp)] at e;exact e
   refine Tc.laid g.v.tn g.k2 g.tx (fun e=>?_) (by omega) (fun e=>?_)
   ·have e9:=h9 e
    rcases c.1 with k|k|k|k|k
    ·omega
    ·omega
    ·omega
    ·obtain ⟨_,_,_,k4,k5,_⟩:=k
     have np:¬ S.pad hd ys.length:=fun e=>by
      rcases e with e|e<;>omega
     obtain ⟨y,rfl⟩:∃ y,ys=[y]:=List.length_eq_one_iff.1 (by omega);unfold HS.all;rw[if_neg np];exact k5
    ·omega
   ·have e9:=h9 e
    rcases c.1 with k|k|k|k|k
    ·omega
    ·omega
    ·omega
    ·obtain ⟨_,_,_,k4,_⟩:=k
     unfold HS.all
     split<;>simp<;>omega
    ·omega
 ·rename_i c;rw[if_neg c];exact g
theorem Gs.sete (g:Gs S) (w:Int × Int) (k:Int) {x:Int × Int} (hx:rgI x.2):Gs (S.sete w k x).2:=by
 have v2:=g.v.sete w k x
 rcases sete_cases g.v w k x with ⟨e,h,_⟩|⟨n,hl,hs,hn,hm,h0,h9,h12,hk,hi,g0,g1,h⟩
 ·rw[h];exact g
 rw[h] at v2 ⊢;refine ⟨v2,⟨rg_set g.r.now hx,g.r.old,g.r.gl⟩,Tc.set g.v.tn (by omega) g.k2 g.tx hm ⟨by omega,by omega⟩ (fun e=>?_),g.to⟩;rw[gx_set ⟨by omega,by omega⟩,if_neg (by omega)] at e;exact absurd e h9
theorem Gs.hole (g:Gs S) (w:Int × Int):Gs (S.hole w).2:=by
 have v2:=g.v.hole w
 rcases hole_cases g.v w with ⟨h,_⟩|⟨n,hc,hn,hm,h2,g0,g1,h⟩
 ·rw[h];exact g
 rw[h] at v2 ⊢;have:=g.v.ln;have:=g.v.sz;refine ⟨v2,⟨rg_set g.r.now ⟨by show _<=n;omega,by show n<=_;omega⟩,g.r.old,g.r.gl⟩,Tc.set g.v.tn (by omega) g.k2 g.tx hm ⟨by omega,by omega⟩ (fun e=>?_),g.to⟩;rw[gx_set ⟨by omega,by omega⟩,if_pos rfl] at e;cases e
theorem Gs.becX (g:Gs S) (w:Int × Int) {x:Int × Int} (hx:rgI x.2):Gs (S.becX w x).2:=by
 have v2:=inv_becX g.v w x
 by_cases c:S.lies w/\(S.hd w).1=11/\S.sound x
 ·obtain ⟨m,y,hy⟩:=g.v.tm x c.2.2
  rw[<- becX_eq (y:=y) (fun _=>⟨m,hy⟩)] at v2 ⊢
  rcases become_cases g.v w x y with ⟨h1,_⟩|⟨k,hc,_,hm,h2,g0,g1,h1⟩
  ·rw[h1];exact g
  ·rw[h1] at v2 ⊢
   have t1:Tc S.begins (S.now.set w.2.toNat (12,0)):=Tc.set g.v.tn (by omega) g.k2 g.tx hm ⟨by omega,by omega⟩ (fun e=>by
    rw[gx_set ⟨by omega,by omega⟩,if_pos rfl] at e;cases e)
   have k1:T2 S.begins (S.now.set w.2.toNat (12,0)):=g.k2.set ⟨by omega,by omega⟩ (by decide);refine ⟨v2,⟨rg_set (rg_set g.r.now rg0) hx,g.r.old,g.r.gl⟩,Tc.set g.v.tn (by rw[List.length_set];omega) k1 t1 hm ⟨by omega,by omega⟩ (fun e=>?_),g.to⟩;rw[gx_set ⟨by omega,by rw[List.length_set];omega⟩,if_neg (by omega),gx_set ⟨by omega,by omega⟩,if_pos rfl] at e;cases e
 ·rw[<- becX_eq (y:=w) (fun e=>absurd e c),HS.become,if_neg (fun e=>c ⟨e.1,e.2.1,e.2.2.1⟩)];exact g
theorem Gs.setg (g:Gs S) {ys:List (Int × Int)} (h:∀ y∈ys,rgI y.2):Gs (S.setg ys).2:=by
 have v2:=g.v.setg ys;unfold HS.setg at v2 ⊢
 split at v2
 ·rename_i c;rw[if_pos c];exact ⟨v2,⟨g.r.now,g.r.old,h⟩,g.tx,g.to⟩
 ·rename_i c;rw[if_neg c];exact g
theorem Gs.flip (g:Gs S):Gs S.flip:=⟨g.v.flip,⟨fun x hx=>(by cases hx),g.r.now,g.r.gl⟩,fun q hq=>(by cases hq),g.tx⟩
theorem Gs.mv (g:Gs S) {w:Int × Int} {r:(Int × Int) × Int × HS} (hw:rgI w.2) (h:Mv S w r):Gs r.2.2/\rgI r.1.2:=by
 have v2:=g.v.mv h
 induction h with
 | plain=>exact ⟨g,hw⟩
 | none=>exact ⟨g,rg0⟩
 | was=>exact ⟨g,gx_rg g.r.old _⟩
 | ind _ _ _ _ _ ih=>exact ih (gx_rg g.r.old _) v2
 | full=>exact ⟨g,rg0⟩
 | @new w n h h1 hn h13 h12 hf =>
   have hm:=mget_in hn;have t:=tiles_in g.v.to hm;simp only at t;have ln:=g.v.ln;have lo:=g.v.lo;have sz:=g.v.sz;have el:=owords_len hn (by omega);have kd:=(g.v.ko _ hm).resolve_left h13;have e0:=owords_at hn (j:=0) (by omega) (by omega);rw[Int.add_zero] at e0;have hr:rgI ((S.now.length:Nat):Int):=⟨by omega,by omega⟩
   refine ⟨⟨v2,⟨fun x hx=>(Z2.1 hx).elim (g.r.now x) (fun e=>?_),rg_set g.r.old hr,g.r.gl⟩,?_,?_⟩,hr⟩
   ·unfold HS.owords at e
    obtain ⟨i,_,rfl⟩:=List.mem_map.1 e;exact gx_rg g.r.old _
   ·refine Tc.laid g.v.tn g.k2 g.tx (fun e=>?_) (by omega) (fun e=>?_)
    ·rw[e0] at e
     have:=kd.k9 e;rw[owords_at hn (by omega) (by omega)];exact g.to _ hm e
    ·rw[e0] at e
     have:=kd.k9 e;omega
   ·exact Tc.set g.v.to (by omega) g.o2 g.to hm ⟨by omega,by omega⟩ (fun e=>by
     rw[gx_set ⟨by omega,by omega⟩,if_pos rfl] at e;cases e)
theorem Gs.mvl {ws xs:List (Int × Int)} {T:HS} (g:Gs S) (hw:∀ w∈ws,rgI w.2) (h:MvL S ws xs T):Gs T /\ ∀ x∈xs,rgI x.2:=by
 induction h with
 | nil=>exact ⟨g,fun x hx=>by cases hx⟩
 | cons h t ih =>
   obtain ⟨g1,r1⟩:=g.mv (hw _ Z4) h;obtain ⟨g2,r2⟩:=ih g1 (fun w e=>hw w (Z3 _ e));exact ⟨g2,fun x hx=>(Z6.1 hx).elim (fun e=>e ▸ r1) (r2 x)⟩
theorem Gs.setl (w:Int × Int):∀ (xs:List (Int × Int)) (k:Nat) {S:HS},Gs S->(∀ x∈xs,rgI x.2)->Gs (S.setl w k xs):=by
 intro xs
 induction xs with
 | nil=>intro k S g _;exact g
 | cons x xs ih=>intro k S g h;exact ih _ (g.sete w k (h x Z4)) (fun y e=>h y (Z3 _ e))
theorem Gs.scan {T:HS} {i:Int} (g:Gs S) (h:Scan S i T):Gs T:=by
 induction h with
 | done=>exact g
 | step _ m _ ih =>
   obtain ⟨g1,r1⟩:=g.mvl (flds_rg g.r _) m;exact ih (Gs.setl _ _ _ g1 r1)
theorem Gs.coll {roots news:List (Int × Int)} {T:HS} (g:Gs S) (hr:∀ w∈roots,rgI w.2) (h:CollR S roots news T):Gs T /\ ∀ x∈news,rgI x.2:=by
 obtain ⟨S2,gs,S3,S4,m1,m2,sc,rfl⟩:=h;obtain ⟨g2,r2⟩:=g.flip.mvl hr m1;obtain ⟨g3,r3⟩:=g2.mvl g.r.gl m2;exact ⟨(g3.scan sc).setg r3,r2⟩
end
end Go.S19

namespace Go.S19
open Go Go.Eng Go.Proofs Go.Chk Go.Scn
section
variable {S T:HS} {roots ts news:List (Int × Int)}
theorem Cd.lbl (d:Cd S roots ts news T) (v:Inv S) {w:Int × Int} (hw:InT S ts w):T.lbl (ts.map (S.ro ts)) (S.ren ts w)=S.lbl ts w:=by
 obtain ⟨f1,f2,f3,f4,f5⟩:=d.cm.fol v d.it hw;unfold HS.lbl;rw[f2];simp only
 by_cases h4:(S.folX w).1.1=4
 ·have e:=f4 h4
  have e1:(S.ren ts w).1=4:=f3.2 h4;have p:=d.pos v (hw.2 h4);rw[e] at e1 ⊢;generalize S.ro ts (S.folX w).1=y at e1 p ⊢;simp [e1,h4,p]
 ·rw[f5 h4]
  simp [h4]
theorem Cd.line (d:Cd S roots ts news T) (v:Inv S) (s:Bs) {ws:List (Int × Int)} (hw:∀ w∈ws,InT S ts w):T.lineT (ts.map (S.ro ts)) s (ws.map (S.ren ts))=S.lineT ts s ws:=by
 unfold HS.lineT
 congr 2
 rw[List.flatMap_map]
 induction ws with
 | nil=>rfl
 | cons w ws ih =>
   rw[Z5,Z5,d.lbl v (hw w Z4),ih (fun y hy=>hw y (Z3 _ hy))]
theorem Cd.obj (d:Cd S roots ts news T) (v:Inv S) {x:Int × Int} (hx:x∈ts):T.objT (ts.map (S.ro ts)) (S.ro ts x)=S.objT ts x:=by
 obtain ⟨f1,f2,f3,f4,f5⟩:=d.cm.fldsr v d.it hx;have hl:=(d.cm.gd.1 x hx).1;unfold HS.objT HS.hdT;rw[f1,d.line v _ f2];unfold HS.head;rw[if_pos f5,if_pos hl,f4]
theorem Cd.objs (d:Cd S roots ts news T) (v:Inv S):∀ (l:List (Int × Int)),(∀ x∈l,x∈ts)->(l.map (S.ro ts)).flatMap (T.objT (ts.map (S.ro ts)))=l.flatMap (S.objT ts):=by
 intro l
 induction l with
 | nil=>intro _;rfl
 | cons x l ih =>
   intro h;rw[List.map_cons,Z5,Z5,d.obj v (h x Z4),ih (fun y hy=>h y (Z3 _ hy))]
theorem Cd.shape (d:Cd S roots ts news T) (v:Inv S):T.shapeT news (ts.map (S.ro ts))=S.shapeT roots ts:=by
 unfold HS.shapeT;rw[d.nw,d.gl,d.line v _ d.ir,d.line v _ d.ig,d.objs v ts (fun _ h=>h)]
theorem Cd.twice {U:HS} {n2:List (Int × Int)} (d:Cd S roots ts news T) (v:Inv S) (e:Cd T news (ts.map (S.ro ts)) n2 U):n2=news:=by
 rw[e.nw,d.nw,List.map_map];exact List.map_congr_left fun w hw=>d.again v (d.ir w hw)
end
end Go.S19

namespace Go.S19
open Go Go.Eng Go.Proofs Go.Chk Go.Scn
def Stp (S:HS) (o:Op) (T:HS):Prop :=
 if o.k=1 then T=(S.put o.w o.ys).2.2 else if o.k=2 then T=(S.sete o.w o.n o.x).2 else if o.k=3 then T=(S.hole o.w).2 else if o.k=4 then T=(S.becX o.w o.x).2 else if o.k=5 then T=(S.setg o.ys).2
 else if o.k=6 then (if (S.graph o.ys).2=true then ∃ news,CollR S o.ys news T else T=S) else if o.k=7 then T=S.flip else if o.k=8 then ∃ r,Mv S o.w r/\T=r.2.2 else T=S
def Op.R (o:Op):Prop:=rgI o.w.2/\rgI o.x.2 /\ ∀ y∈o.ys,rgI y.2
theorem gl_put {S:HS} (hd:Int × Int) (ys:List (Int × Int)):(S.put hd ys).2.2.globals=S.globals:=(put_img S hd ys).2.2.2.2.1
theorem gl_sete {S:HS} (w:Int × Int) (k:Int) (x:Int × Int):(S.sete w k x).2.globals=S.globals:=(sete_same S w k x).2.2.1
theorem gl_hole {S:HS} (w:Int × Int):(S.hole w).2.globals=S.globals:=by
 unfold HS.hole;split
 ·unfold HS.setp;split<;>rfl
 ·rfl
theorem gl_becX {S:HS} (w x:Int × Int):(S.becX w x).2.globals=S.globals:=by
 unfold HS.becX HS.become
 split<;>split
 ·unfold HS.setp;split<;>split<;>rfl
 ·rfl
 ·unfold HS.setp;split<;>split<;>rfl
 ·rfl
theorem gl_setg {S:HS} (ys:List (Int × Int)):(S.setg ys).2.globals.length=S.globals.length:=by
 unfold HS.setg;split
 ·rename_i c;have:=c.1;show ys.length=_;omega
 ·rfl
theorem gl_mv {S:HS} {w:Int × Int} {r:(Int × Int) × Int × HS} (h:Mv S w r):r.2.2.globals=S.globals:=by
 induction h with
 | plain=>rfl
 | none=>rfl
 | was=>rfl
 | ind _ _ _ _ _ ih=>exact ih
 | full=>rfl
 | new=>rfl
theorem Gs.stp {S T:HS} {o:Op} (g:Gs S) (r:o.R) (h:Stp S o T):Gs T/\T.globals.length=S.globals.length:=by
 unfold Stp at h
 split at h
 ·subst h;exact ⟨g.put r.1 r.2.2,by rw[gl_put]⟩
 split at h
 ·subst h;exact ⟨g.sete _ _ r.2.1,by rw[gl_sete]⟩
 split at h
 ·subst h;exact ⟨g.hole _,by rw[gl_hole]⟩
 split at h
 ·subst h;exact ⟨g.becX _ r.2.1,by rw[gl_becX]⟩
 split at h
 ·subst h;exact ⟨g.setg r.2.2,gl_setg _⟩
 split at h
 ·split at h
  ·rename_i hg
   obtain ⟨news,cr⟩:=h;obtain ⟨g2,_⟩:=g.coll r.2.2 cr;refine ⟨g2,?_⟩;rw[(coll_cd g.v g.tx hg cr g2.v).gl,List.length_map]
  ·subst h;exact ⟨g,rfl⟩
 split at h
 ·subst h;exact ⟨g.flip,rfl⟩
 split at h
 ·obtain ⟨r',hm,rfl⟩:=h;exact ⟨(g.mv r.1 hm).1,by rw[gl_mv hm]⟩
 ·subst h;exact ⟨g,rfl⟩
inductive Run:HS->List Op->HS->Prop where
 | nil {S}:Run S [] S
 | snoc {S os T o U} (h:Run S os T) (s:Stp T o U):Run S (os++[o]) U
end Go.S19

namespace Go.S19
open Go Go.Eng Go.Proofs Go.Chk Go.Scn
theorem put_rg {S:HS} (v:Inv S) (hd:Int × Int) (ys:List (Int × Int)):rgI (S.put hd ys).1.2:=by
 have:=v.ln;have:=v.sz;unfold HS.put;split
 ·split
  ·exact rg0
  ·exact ⟨by show _<=((S.now.length:Nat):Int);omega,by show ((S.now.length:Nat):Int)<=_;omega⟩
 ·exact rg0
theorem Gs.gl {S S':HS} {k:Nat} (g:Gs S) (hk:(k:Int)<=9223372036854775807) (h:S.gl k=some S'):Gs S':=by
 have v2:=g.v.gl h;have hr:rgI (k:Int):=⟨by omega,hk⟩
 unfold HS.gl at h
 split at h
 ·split at h
  ·cases h
   have g2:=g.put (hd:=(6,(k:Int))) (ys:=[]) hr (fun y hy=>by cases hy);refine ⟨v2,⟨g2.r.now,g2.r.old,fun x hx=>(Z2.1 hx).elim (g.r.gl x) (fun e=>?_)⟩,g2.tx,g2.to⟩;cases Z7.1 e;exact put_rg g.v _ _
  ·cases h
 ·cases h
  refine ⟨v2,⟨g.r.now,g.r.old,fun x hx=>(Z2.1 hx).elim (g.r.gl x) (fun e=>?_)⟩,g.tx,g.to⟩;cases Z7.1 e;exact hr
theorem Gs.gls {S:HS} (g:Gs S):∀ {n:Nat} {S':HS},(n:Int)<=9223372036854775807->S.gls n=some S'->Gs S':=by
 intro n
 induction n with
 | zero=>intro S' _ h;cases h;exact g
 | succ n ih =>
   intro S' hn h;rw[HS.gls] at h;obtain ⟨T,hT,h2⟩:=Option.bind_eq_some_iff.1 h;exact (ih (by omega) hT).gl (by omega) h2
def St0 (C:Cx) (texts:List ByteArray) (S:HS):Prop:=(ends C).isSome=true/\(HS.start C texts 300).gls C.tops.length=some S
theorem St0.gs {C:Cx} {texts:List ByteArray} {S:HS} (s:St0 C texts S) (hl:C.tops.length<=1048576):Gs S/\S.globals.length=C.tops.length:=by
 obtain ⟨_,_,_,_,hF⟩:=ends_some s.1;have g0:Gs (HS.start C texts 300):=.start (Inv.start hF (by omega) (by omega)) ⟨fun x hx=>(by cases hx),fun x hx=>(by cases hx),fun x hx=>(by cases hx)⟩ (fun q hq=>by cases hq) rfl;refine ⟨g0.gls (by omega) s.2,?_⟩;have:=(gls_img s.2).2.2.2.2.1;rw[this];show 0+C.tops.length=_;omega
structure Ph (h0 h:AH) (b:Nat) (L:Lay) (S:HS):Prop where
 hp:Hp h b L S
 gs:Gs S
 gl:S.globals.length<=1048576
 kp:Keep (fun _=>False) h0 h
 z:∀ q,q<h0.length->L.cls q=0
section
variable {h0 h h':AH} {b:Nat} {L L':Lay} {S S':HS}
theorem Ph.keepF (p:Ph h0 h b L S) (k:Keep (fun _=>False) h h'):Ph h0 h' b L S:=⟨p.hp.keepF k,p.gs,p.gl,p.kp.trans k,p.z⟩
theorem Ph.step (p:Ph h0 h b L S) (k:Keep (Mine L) h h') (s:Hp h' b L' S') (sm:Same h.length L L') (g:Gs S'/\S'.globals.length=S.globals.length):Ph h0 h' b L' S' :=
 ⟨s,g.1,by rw[g.2];exact p.gl,p.kp.trans' k (fun c hc e=>e (p.z c hc)),fun q hq=>(sm q (by have:=p.kp.len;omega)).2 (p.z q hq)⟩
end
theorem op_box {h:AH} {q:Nat} {o:Op} (w:Own h q 58 o.cells):ldcs h q 1 2=some [iv o.w.1,iv o.w.2]/\ldcs h q 3 2=some [iv o.x.1,iv o.x.2]/\ldc h q 0=some (iv o.k)/\ldc h q 5=some (iv o.n)/\ldc h q 6=some o.lv :=
 ⟨w.cells.lds 1 2 (by simp [Op.cells]),w.cells.lds 3 2 (by simp [Op.cells]),(w.cells.ld 0).trans rfl,(w.cells.ld 5).trans rfl,(w.cells.ld 6).trans rfl⟩
section
variable {h:AH} {N:Nat} {C:Cx} {texts:List ByteArray} {vi vc vt vp vk u:Value} {os:List Op}
set_option maxHeartbeats 4000000 in
theorem play_ok (hN:N<=1048576) (g:Given h N C texts vi vc vt vp vk) (ru:Rds h 7 u os.length (os.flatMap Op.cells)) (hol:os.length<=N) (qs:∀ o∈os,o.Q h N) :
 Gets Tryd.prog 8 [.agg #[vi,vc,vt,vp,iv C.main,vk],u] h (fun res h'=>Keep (fun _=>False) h h'/\(((∀ S0,¬ St0 C texts S0)/\res = .ret (.pointer none)) \/ ∃ S0 b L S,St0 C texts S0/\Run S0 os S/\res = .ret (.pointer (some ⟨b,0,none⟩))/\Ph h h' b L S)):=by
 refine Gets.of (keep:=false) hP (draw_ok hM) k8 (by rfl) (fun Ψ hΨ=>?_);obtain ⟨ua,uc,hue⟩:=row_shape ru;have oI:=Own.new h 26 h.length [vi,vc,vt,vp,iv C.main,vk];have k1:Keep (fun _=>False) h (h++[row 26 h.length [vi,vc,vt,vp,iv C.main,vk]]):=Keep.push _ _ _;have hsh:∀ x∈[vi,vc,vt,vp,vk],∃ a n c,x = .slice a n c:=by
  obtain ⟨a1,c1,e1⟩:=row_shape g.im.ri;obtain ⟨a2,c2,e2⟩:=row_shape g.im.rc;obtain ⟨a3,c3,e3⟩:=row_shape g.rt;obtain ⟨a4,c4,e4⟩:=row_shape g.im.rp;obtain ⟨a5,c5,e5⟩:=row_shape g.im.rk;intro x hx;simp only[Z6,List.not_mem_nil,or_false] at hx
  rcases hx with rfl|rfl|rfl|rfl|rfl
  ·exact ⟨_,_,_,e1⟩
  ·exact ⟨_,_,_,e2⟩
  ·exact ⟨_,_,_,e3⟩
  ·exact ⟨_,_,_,e4⟩
  ·exact ⟨_,_,_,e5⟩
 simp only[ZG,↓reduceIte,ZA,ZB,ZC,r8,YE,YC,YO,YA,YL,YX,YS,Ya,Yb,Yl,Yf,Yg,Yi,Ym,Yk,Yt,Yn,Yz,Yp,Yq,Yd,mbl,ZD,ZE,ZF];generalize h++[row 26 h.length [vi,vc,vt,vp,iv C.main,vk]]=h1 at oI k1 ⊢;simp only[ZG,↓reduceIte,ZA,ZB,ZC,mbl,ZD,ZE,ZF,oI.cells.lds 0 6 (by simp)];have li:=g.li;have lc:=g.lc;have lp:=g.lp;have lk:=g.lk;have lt:=g.lt;refine XX_of (New_ok (C:=C) (texts:=texts) (g.im.keep k1 (fun _ _ e=>e)) ⟨by omega,by omega,by omega,by omega⟩ (g.rt.keep k1 (fun _ _ e=>e)) (by omega) (by omega) 300) (fun res h2 hle2 hn=>?_);obtain ⟨k2,hn⟩:=hn;have k02:=k1.trans k2;unfold NewO at hn
 by_cases hends:(ends C).isSome=true
 case neg =>
  rw[if_neg (fun e=>hends e.1),if_neg hends] at hn;subst hn;refine .ret ?_;simp only[ZG,↓reduceIte,ZA,ZB,ZC,mbl,ZD,ZE,ZF];exact hΨ _ _ (fin_ret (rv1 rfl ⟨k02,.inl ⟨fun S0 e=>hends e.1,rfl⟩⟩))
 rw[if_pos ⟨hends,by omega,by omega⟩] at hn
 split at hn
 case h_2 =>
  rename_i hno
  subst hn;refine .ret ?_;simp only[ZG,↓reduceIte,ZA,ZB,ZC,mbl,ZD,ZE,ZF];exact hΨ _ _ (fin_ret (rv1 rfl ⟨k02,.inl ⟨fun S0 e=>(by rw[e.2] at hno;cases hno),rfl⟩⟩))
 rename_i S0 hS0
 obtain ⟨b,L0,rfl,hp0,z0⟩:=hn;have st0:St0 C texts S0:=⟨hends,hS0⟩
 obtain ⟨gs0,gl0⟩:=st0.gs (by omega);have hk1:=k1.len;have p0:Ph h h2 b L0 S0:=⟨hp0,gs0,by omega,k02,fun q hq=>z0 q (by omega)⟩
 refine .ret ?_;simp only[ZG,↓reduceIte,ZA,ZB,ZC,mbl,ZD,ZE,ZF,hue];rw[<- hue];refine XLo_rule (α:=Nat × HS × Lay) (fun a=>[(1,u),(5,.pointer (some ⟨b,0,none⟩)),(7,iv a.1)])
  (fun a h'=>a.1<=os.length/\Ph h h' b a.2.2 a.2.1/\Run S0 (os.take a.1) a.2.1) (fun a=>os.length-a.1) (0,S0,L0) ⟨Nat.zero_le _,p0,.nil⟩ ⟨by rw[hue];rfl,rfl,rfl,trivial⟩ ?_
 clear p0 hp0 z0 oI;rintro ⟨i,S,L⟩ ha Ψ2 ⟨i1,p,run⟩ next out
 simp only at i1 p run
 by_cases hil:i<os.length
 case neg =>
  have d1:((i:Int)<((os.length:Nat):Int))=False:=by simp;omega
  simp only[ZG,↓reduceIte,ZA,ZB,ZC,d1,hue];refine out (.exit 0) _ _ _ _ (by intro e;cases e) ?_;simp only[ZG,↓reduceIte,ZA,ZB,ZC,mbl,ZD,ZE,ZF];have:os.take i=os:=List.take_of_length_le (by omega);rw[this] at run;exact hΨ _ _ (fin_ret (rv1 rfl ⟨p.kp,.inr ⟨S0,b,L,S,st0,run,rfl,p⟩⟩))
 case pos =>
 have d1:((i:Int)<((os.length:Nat):Int))=True:=by simp;omega
 have hw1:IntKind.i64.wrap ((i:Int)+1)=i+1:=i64w (by omega) (by omega);have d0:(0<=(i:Int))=True:=by simp
 have tn:Int.toNat (i:Int)=i:=by simp
 have ho:os[i]?=some os[i]:=List.getElem?_eq_getElem hil;have hq:=qs os[i] (List.getElem_mem _);have htk:os.take (i+1)=os.take i++[os[i]]:=by rw[List.take_add_one,ho];rfl
 generalize os[i]=o at ho hq htk;obtain ⟨hy1,hy2,q1,q2,q3,q4,q5,q6⟩:=hq;have hR:o.R:=⟨q2,q5,fun y hy=>(q6 y hy).2⟩
 obtain ⟨b1,f1,c1,e1,l1⟩:=rds_sub (ru.keep p.kp (fun _ _ e=>e)) (i:=i) (j:=0) (m:=7) hil (by omega);rw[flat_at Op.len ho (by omega)] at l1;have l1':ldcs ha b1 (f1+i*7) 7=some o.cells:=by simpa [Op.cells] using l1
 have oB:=Own.new ha 58 ha.length [iv 0,iv 0,iv 0,iv 0,iv 0,iv 0,.slice none 0 0];have kB:Keep (fun _=>False) ha (ha++[row 58 ha.length [iv 0,iv 0,iv 0,iv 0,iv 0,iv 0,.slice none 0 0]]):=Keep.push _ _ _;obtain ⟨la,lcc,hlv⟩:=row_shape hy1;rw[hue] at e1;cases e1;simp only[ZG,↓reduceIte,ZA,ZB,ZC,d1,hue,d0,and_self,tn,l1',mbl,ZD,ZE,ZF];generalize ha++[row 58 ha.length [iv 0,iv 0,iv 0,iv 0,iv 0,iv 0,.slice none 0 0]]=hb at oB kB ⊢;have hcell:(Value.agg o.cells.toArray).cells=o.cells.toArray:=by unfold Op.cells;rw[hlv];simp [Value.cells]
 have hlc:o.cells.all Value.oneCell'=true:=by unfold Op.cells;rw[hlv];rfl
 refine XH_own oB (by rw[hcell];rfl) (by rw[hcell];simp [Op.cells]) (by rw[hcell];simpa using hlc) (fun hc w1 w2 w3=>?_);rw[hcell] at w1;have oC:Own hc ha.length 58 o.cells:=by simpa [Op.cells] using w1
 have kC:Keep (fun _=>False) ha hc:=kB.trans' w2 (fun c hc e=>by omega);have pb:=p.keepF kC;clear w1 w2 w3 oB kB;obtain ⟨m1,m2,m3,m4,m5⟩:=op_box oC;have hyc:Rds hc 2 o.lv o.ys.length (ww o.ys):=hy1.keep pb.kp (fun _ _ e=>e);have hyl:∀ q,rb o.lv q->L.cls q=0:=fun q e=>pb.z q (hy1.lt q e)
 simp only[ZG,↓reduceIte,ZA,ZB,ZC,m3,mbl,ZD,ZE,ZF];have hgl:=pb.gl
 by_cases hk:o.k=1
 ·simp only[ZG,↓reduceIte,ZA,ZB,ZC,hk,m1,m5,mbl,ZD,ZE,ZF]
  refine XX_of (Put_ok pb.hp pb.gs.v.ok.fresh o.w hyc (by omega) (fun _=>by omega)) (fun res hd hled hn=>?_);obtain ⟨kb,rfl,L',s',sm⟩:=hn;refine .ret ?_;have hs:Stp S o (S.put o.w o.ys).2.2:=by simp [Stp,hk]
  have p2:=pb.step kb s' sm (pb.gs.stp hR hs);simp only[ZG,↓reduceIte,ZA,ZB,ZC,mbl,ZD,ZE,ZF,hw1];exact next (i+1,_,L') _ _ _ ⟨by omega,p2,by rw[htk];exact .snoc run hs⟩ ⟨by rw[hue];rfl,rfl,by simp only[Z1,Z0];rfl,trivial⟩ (by simp only;omega)
 have n1:=hk;clear hk
 by_cases hk:o.k=2
 ·simp only[ZG,↓reduceIte,ZA,ZB,ZC,hk,m1,m2,m4,mbl,ZD,ZE,ZF]
  refine XX_of (Set_ok pb.hp pb.gs.v.ok o.w o.n o.x) (fun res hd hled hn=>?_);obtain ⟨kb,rfl,s'⟩:=hn;have L':=L;have sm:Same hc.length L L:=Same.refl _ _;refine .ret ?_;have hs:Stp S o (S.sete o.w o.n o.x).2:=by simp [Stp,hk]
  have p2:=pb.step kb s' sm (pb.gs.stp hR hs);simp only[ZG,↓reduceIte,ZA,ZB,ZC,mbl,ZD,ZE,ZF,hw1];exact next (i+1,_,L) _ _ _ ⟨by omega,p2,by rw[htk];exact .snoc run hs⟩ ⟨by rw[hue];rfl,rfl,by simp only[Z1,Z0];rfl,trivial⟩ (by simp only;omega)
 have n2:=hk;clear hk
 by_cases hk:o.k=3
 ·simp only[ZG,↓reduceIte,ZA,ZB,ZC,hk,m1,mbl,ZD,ZE,ZF]
  refine XX_of (xHole_ok pb.hp pb.gs.v o.w) (fun res hd hled hn=>?_);obtain ⟨kb,rfl,L',s',sm⟩:=hn;refine .ret ?_;have hs:Stp S o (S.hole o.w).2:=by simp [Stp,hk]
  have p2:=pb.step kb s' sm (pb.gs.stp hR hs);simp only[ZG,↓reduceIte,ZA,ZB,ZC,mbl,ZD,ZE,ZF,hw1];exact next (i+1,_,L') _ _ _ ⟨by omega,p2,by rw[htk];exact .snoc run hs⟩ ⟨by rw[hue];rfl,rfl,by simp only[Z1,Z0];rfl,trivial⟩ (by simp only;omega)
 have n3:=hk;clear hk
 by_cases hk:o.k=4
 ·simp only[ZG,↓reduceIte,ZA,ZB,ZC,hk,m1,m2,mbl,ZD,ZE,ZF]
  refine XX_of (xBecome_ok pb.hp pb.gs.v o.w o.x) (fun res hd hled hn=>?_);obtain ⟨kb,rfl,L',s',sm⟩:=hn;refine .ret ?_;have hs:Stp S o (S.becX o.w o.x).2:=by simp [Stp,hk]
  have p2:=pb.step kb s' sm (pb.gs.stp hR hs);simp only[ZG,↓reduceIte,ZA,ZB,ZC,mbl,ZD,ZE,ZF,hw1];exact next (i+1,_,L') _ _ _ ⟨by omega,p2,by rw[htk];exact .snoc run hs⟩ ⟨by rw[hue];rfl,rfl,by simp only[Z1,Z0];rfl,trivial⟩ (by simp only;omega)
 have n4:=hk;clear hk
 by_cases hk:o.k=5
 ·simp only[ZG,↓reduceIte,ZA,ZB,ZC,hk,m5,mbl,ZD,ZE,ZF]
  refine XX_of (SetGlobals_ok pb.hp hyc (by omega) (by omega)) (fun res hd hled hn=>?_);obtain ⟨kb,rfl,L',s',sm⟩:=hn;refine .ret ?_;have hs:Stp S o (S.setg o.ys).2:=by simp [Stp,hk]
  have p2:=pb.step kb s' sm (pb.gs.stp hR hs);simp only[ZG,↓reduceIte,ZA,ZB,ZC,mbl,ZD,ZE,ZF,hw1];exact next (i+1,_,L') _ _ _ ⟨by omega,p2,by rw[htk];exact .snoc run hs⟩ ⟨by rw[hue];rfl,rfl,by simp only[Z1,Z0];rfl,trivial⟩ (by simp only;omega)
 have n5:=hk;clear hk
 by_cases hk:o.k=6
 ·simp only[ZG,↓reduceIte,ZA,ZB,ZC,hk,m5,mbl,ZD,ZE,ZF]
  refine XX_of (Collect_ok pb.hp pb.gs.v (by omega) hyc (by omega) hyl) (fun res hd hled hn=>?_);obtain ⟨kb,hn⟩:=hn
  by_cases hgr:(S.graph o.ys).2=true
  ·rw[if_pos hgr] at hn
   obtain ⟨v',news,S',L',rfl,cr,s',iv',sm,rw'⟩:=hn;refine .ret ?_;have hs:Stp S o S':=by unfold Stp;rw[if_neg n1,if_neg n2,if_neg n3,if_neg n4,if_neg n5,if_pos hk,if_pos hgr];exact ⟨news,cr⟩
   have p2:=pb.step kb s' sm (pb.gs.stp hR hs);simp only[ZG,↓reduceIte,ZA,ZB,ZC,mbl,ZD,ZE,ZF,hw1];exact next (i+1,_,L') _ _ _ ⟨by omega,p2,by rw[htk];exact .snoc run hs⟩ ⟨by rw[hue];rfl,rfl,by simp only[Z1,Z0];rfl,trivial⟩ (by simp only;omega)
  ·rw[if_neg hgr] at hn
   obtain ⟨kf,rfl⟩:=hn;refine .ret ?_;have hs:Stp S o S:=by simp [Stp,hk,hgr]
   have p2:=pb.keepF kf;simp only[ZG,↓reduceIte,ZA,ZB,ZC,mbl,ZD,ZE,ZF,hw1];exact next (i+1,_,L) _ _ _ ⟨by omega,p2,by rw[htk];exact .snoc run hs⟩ ⟨by rw[hue];rfl,rfl,by simp only[Z1,Z0];rfl,trivial⟩ (by simp only;omega)
 have n6:=hk;clear hk
 by_cases hk:o.k=7
 ·simp only[ZG,↓reduceIte,ZA,ZB,ZC,hk,mbl,ZD,ZE,ZF]
  refine XX_of (Flip_ok pb.hp) (fun res hd hled hn=>?_);obtain ⟨rfl,kb,L',s',sm⟩:=hn;refine .ret ?_;have hs:Stp S o S.flip:=by simp [Stp,hk]
  have p2:=pb.step kb s' sm (pb.gs.stp hR hs);simp only[ZG,↓reduceIte,ZA,ZB,ZC,mbl,ZD,ZE,ZF,hw1];exact next (i+1,_,L') _ _ _ ⟨by omega,p2,by rw[htk];exact .snoc run hs⟩ ⟨by rw[hue];rfl,rfl,by simp only[Z1,Z0];rfl,trivial⟩ (by simp only;omega)
 have n7:=hk;clear hk
 by_cases hk:o.k=8
 ·simp only[ZG,↓reduceIte,ZA,ZB,ZC,hk,m1,mbl,ZD,ZE,ZF]
  obtain ⟨r,hmv,hget⟩:=xMove_ok pb.hp pb.gs.v o.w;refine XX_of hget (fun res hd hled hn=>?_);obtain ⟨kb,rfl,L',s',sm⟩:=hn;refine .ret ?_;have hs:Stp S o r.2.2:=by unfold Stp;rw[if_neg n1,if_neg n2,if_neg n3,if_neg n4,if_neg n5,if_neg n6,if_neg n7,if_pos hk];exact ⟨r,hmv,rfl⟩
  have p2:=pb.step kb s' sm (pb.gs.stp hR hs);simp only[ZG,↓reduceIte,ZA,ZB,ZC,mbl,ZD,ZE,ZF,hw1];exact next (i+1,_,L') _ _ _ ⟨by omega,p2,by rw[htk];exact .snoc run hs⟩ ⟨by rw[hue];rfl,rfl,by simp only[Z1,Z0];rfl,trivial⟩ (by simp only;omega)
 have hs:Stp S o S:=by simp only[Stp,n1,n2,n3,n4,n5,n6,n7,hk,if_false]
 simp only[ZG,↓reduceIte,ZA,ZB,ZC,n1,n2,n3,n4,n5,n6,n7,hk,mbl,ZD,ZE,ZF,hw1];exact next (i+1,S,L) _ _ _ ⟨by omega,pb,by rw[htk];exact .snoc run hs⟩ ⟨by rw[hue];rfl,rfl,by simp only[Z1,Z0];rfl,trivial⟩ (by simp only;omega)
end
end Go.S19

namespace Go.S19
open Go Go.Eng Go.Proofs Go.Chk Go.Scn
theorem Given.keepF {h h':AH} {N:Nat} {C:Cx} {texts:List ByteArray} {vi vc vt vp vk:Value} (g:Given h N C texts vi vc vt vp vk) (k:Keep (fun _=>False) h h'):Given h' N C texts vi vc vt vp vk :=
 ⟨g.im.keep k (fun _ _ e=>e),g.rt.keep k (fun _ _ e=>e),g.nt,g.li,g.lc,g.lp,g.lk,g.lt,g.gi,g.gt⟩
theorem Op.Q.keepF {h h':AH} {N:Nat} {o:Op} (q:o.Q h N) (k:Keep (fun _=>False) h h'):o.Q h' N:=⟨q.1.keep k (fun _ _ e=>e),q.2⟩
theorem tl_self (l:Bs):((tx l).toList == (tx l).toList)=true:=beq_self_eq_true _
theorem Ph.coll {h0 h h':AH} {b:Nat} {L L':Lay} {S T:HS} {roots news:List (Int × Int)} (p:Ph h0 h b L S) (hr:∀ w∈roots,rgI w.2) (hg:(S.graph roots).2=true) (cr:CollR S roots news T) (k:Keep (Mine L) h h') (s:Hp h' b L' T) (sm:Same h.length L L'):Ph h0 h' b L' T/\Cd S roots (S.graph roots).1 news T /\ ∀ x∈news,rgI x.2:=by
 obtain ⟨g2,r2⟩:=p.gs.coll hr cr;have cd:=coll_cd p.gs.v p.gs.tx hg cr g2.v;exact ⟨p.step k s sm ⟨g2,by rw[cd.gl,List.length_map]⟩,cd,r2⟩
theorem Cd.graph2 {S T:HS} {roots ts news:List (Int × Int)} (d:Cd S roots ts news T) (v:Inv S):(T.graph news).1=ts.map (S.ro ts)/\(T.graph news).2=true:=by rw[d.graph v];exact ⟨rfl,rfl⟩
section
variable {h:AH} {N:Nat} {C:Cx} {texts:List ByteArray} {vi vc vt vp vk u ur:Value} {os:List Op} {roots:List (Int × Int)}
end
end Go.S19
