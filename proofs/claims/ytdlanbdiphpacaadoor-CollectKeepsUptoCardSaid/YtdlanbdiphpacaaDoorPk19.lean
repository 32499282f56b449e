import Derived.Test.YtdlanbdiphpacaaDoorPk18
set_option linter.unusedVariables false
set_option linter.unusedSimpArgs false
open Nat renaming reduceEqDiff -> ZA,reduceAdd -> ZB,reduceMul -> ZC,reduceLeDiff -> ZD,reduceLT -> ZE
open Int renaming reduceEq -> ZF
open List renaming getElem?_eq_getElem->Z0,nil_append->Z2,length_nil->Z6,getElem?_cons_succ->Zb,getElem?_cons_zero->Zc,length_append->Zg
open Nat renaming mul_one->Z1,le_refl->Z4,zero_mul->Z7,zero_add->Za,le_trans->Ze,add_zero->Zf
open Int renaming toNat_zero->Z3,natCast_zero->Z5,zero_lt_one->Z8,toNat_natCast->Z9,le_refl->Zd
namespace Go.S19
open Go Go.Eng Go.Proofs Go.Chk
structure HS where
 infos:List Inf
 texts:List ByteArray
 cons:List Int
 now:List (Int × Int)
 old:List (Int × Int)
 begins:List (Int × Int)
 oldm:List (Int × Int)
 globals:List (Int × Int)
 size:Int
 side:Int
structure Lay where
 bs:Nat
 v0:Value
 v1:Value
 vi:Value
 vt:Value
 vk:Value
 mb:Nat
 mo:Option Nat
 vg:Value
 cls:Nat->Nat
def sts (l:List ByteArray):List Value:=l.map Value.string
structure Hp (h:AH) (b:Nat) (L:Lay) (S:HS):Prop where
 own:Own h b 79 [.pointer (some ⟨L.bs,0,none⟩),L.vi,.slice none 0 0,L.vt,.slice none 0 0,iv 0,L.vk,.map (some L.mb),.map L.mo,L.vg]
 ws:WS h L.bs S.size S.side L.v0 L.v1 S.now S.old
 ri:Rds h 4 L.vi S.infos.length (rowsOf Inf.cells S.infos)
 rt:Rds h 1 L.vt S.texts.length (sts S.texts)
 rk:Rds h 1 L.vk S.cons.length (ns S.cons)
 mb:MOwn h L.mb S.begins
 mo:∀ q,L.mo=some q->MOwn h q S.oldm
 mo0:L.mo=none->S.oldm=[]
 rg:Ows h 44 2 L.vg S.globals.length (ww S.globals)
 c1:L.cls b=1
 c2:∀ q,WOwns L.bs L.v0 L.v1 q->L.cls q=2
 c3:L.cls L.mb=3
 c4:∀ q,L.mo=some q->L.cls q=4
 c5:∀ q,bk L.vg q->L.cls q=5
 c6:∀ q,(rb L.vi q\/rb L.vt q\/rb L.vk q)->L.cls q=6
 c0:∀ q,h.length<=q->L.cls q=0
theorem Hp.keep {X:Nat->Prop} {h h':AH} {b:Nat} {L:Lay} {S:HS} (s:Hp h b L S) (k:Keep X h h') (hx:∀ q,L.cls q≠0 -> ¬ X q):Hp h' b L S :=
 ⟨s.own.keep k (hx b (by rw[s.c1];omega)),s.ws.keep k (fun q e=>hx q (by rw[s.c2 q e];omega)),s.ri.keep k (fun q e=>hx q (by rw[s.c6 q (.inl e)];omega)),s.rt.keep k (fun q e=>hx q (by rw[s.c6 q (.inr (.inl e))];omega)),
  s.rk.keep k (fun q e=>hx q (by rw[s.c6 q (.inr (.inr e))];omega)),s.mb.keep k (hx _ (by rw[s.c3];omega)),fun q e=>(s.mo q e).keep k (hx q (by rw[s.c4 q e];omega)),s.mo0,s.rg.keep k (fun q e=>hx q (by rw[s.c5 q e];omega)),s.c1,s.c2,s.c3,s.c4,s.c5,s.c6,fun q e=>s.c0 q (Ze k.len e)⟩
theorem Hp.keepF {h h':AH} {b:Nat} {L:Lay} {S:HS} (s:Hp h b L S) (k:Keep (fun _=>False) h h'):Hp h' b L S:=s.keep k (fun _ _ e=>e)
def HS.cn (S:HS) (c:Int):Int:=S.cons[c.toNat]?.getD 0
def HS.ik (S:HS) (c:Int):Int:=(S.infos[c.toNat]?.map Inf.k).getD 0
def HS.fr (S:HS) (c:Int):Int:=(S.infos[c.toNat]?.map Inf.f).getD 0
def HS.plain (S:HS) (w:Int × Int):Prop :=
 w.1=1\/(w.1=2/\0<=w.2/\w.2<S.cons.length/\S.cn w.2=0)\/(w.1=3/\0<=w.2/\w.2<S.infos.length/\S.ik w.2=1/\S.fr w.2=0)
instance (S:HS) (w:Int × Int):Decidable (S.plain w):=by unfold HS.plain;infer_instance
def HS.lies (S:HS) (w:Int × Int):Prop:=w.1=4/\(mget w.2 S.begins).isSome=true
instance (S:HS) (w:Int × Int):Decidable (S.lies w):=by unfold HS.lies;infer_instance
def HS.sound (S:HS) (w:Int × Int):Prop:=S.plain w\/S.lies w
instance (S:HS) (w:Int × Int):Decidable (S.sound w):=by unfold HS.sound;infer_instance
theorem kt3:Tryd.prog.underlying 3=some (.int .i64):=by kernel_rfl
section
variable {h:AH} {b:Nat} {L:Lay} {S:HS}
theorem plain_ok (s:Hp h b L S) (w:Int × Int):Gets Tryd.prog 53 [.pointer (some ⟨b,0,none⟩),wv w] h (fun res h'=>Keep (fun _=>False) h h'/\res = .ret (.bool (decide (S.plain w)))):=by
 refine Gets.of (keep:=false) hP (draw_ok hM) k53 (by rfl) (fun Ψ hΨ=>?_);have on:=Own.new h 44 h.length [iv w.1,iv w.2];have kp:Keep (fun _=>False) h (h++[row 44 h.length [iv w.1,iv w.2]]):=Keep.push _ _ _;have s1:=s.keepF kp;simp only[ZG,↓reduceIte,ZA,ZB,ZC,r53,YE,YC,YO,YA,YL,YX,YS,Ya,Yb,Yl,Yf,Yg,Yi,Ym,Yk,Yt,Yn,Yz,Yp,Yq,Yd,wv,mbl,ZD,ZE,ZF];generalize h++[row 44 h.length [iv w.1,iv w.2]]=h1 at on kp s1 ⊢;obtain ⟨w1,w2⟩:=w;simp only at on
 by_cases d1:w1=1
 ·simp only[ZG,↓reduceIte,ZA,ZB,ZC,on.cells.ld,mbl,ZD,ZE,ZF,d1]
  exact hΨ _ _ (fin_ret (rv1 rfl ⟨kp,by simp [tup,HS.plain,d1]⟩))
 by_cases d2:w1=2
 ·obtain ⟨ka,kc,hvk⟩:=row_shape s1.rk
  by_cases g1:0<=w2
  case neg =>
   simp only[ZG,↓reduceIte,ZA,ZB,ZC,on.cells.ld,mbl,ZD,ZE,ZF,d1,d2,g1];exact hΨ _ _ (fin_ret (rv1 rfl ⟨kp,by simp [tup,HS.plain,d2,g1]⟩))
  by_cases g2:w2<(S.cons.length:Int)
  case neg =>
   simp only[ZG,↓reduceIte,ZA,ZB,ZC,on.cells.ld,s1.own.cells.ld,mbl,ZD,ZE,ZF,d1,d2,g1,hvk,g2];exact hΨ _ _ (fin_ret (rv1 rfl ⟨kp,by simp [tup,HS.plain,d2,g2]⟩))
  obtain ⟨x,hx⟩:∃ x,S.cons[w2.toNat]?=some x:=⟨_,Z0 (show w2.toNat<S.cons.length by omega)⟩
  obtain ⟨b1,o1,c1,e1,_,hld⟩:=rds_ix s1.rk g1 hx;have hcn:S.cn w2=x:=by rw[HS.cn,hx];rfl
  by_cases g3:x=0
  ·subst g3
   simp only[ZG,↓reduceIte,ZA,ZB,ZC,on.cells.ld,s1.own.cells.ld,mbl,ZD,ZE,ZF,d1,d2,g1,e1,g2,and_self,Z1,hld];exact hΨ _ _ (fin_ret (rv1 rfl ⟨kp,by simp [tup,HS.plain,d2,g1,g2,hcn]⟩))
  ·simp only[ZG,↓reduceIte,ZA,ZB,ZC,on.cells.ld,s1.own.cells.ld,mbl,ZD,ZE,ZF,d1,d2,g1,e1,g2,and_self,Z1,hld,g3]
   exact hΨ _ _ (fin_ret (rv1 rfl ⟨kp,by simp [tup,HS.plain,d2,g1,g2,hcn,g3]⟩))
 by_cases d3:w1=3
 ·obtain ⟨ka,kc,hvk⟩:=row_shape s1.ri
  by_cases g1:0<=w2
  case neg =>
   simp only[ZG,↓reduceIte,ZA,ZB,ZC,on.cells.ld,mbl,ZD,ZE,ZF,d1,d2,d3,g1];exact hΨ _ _ (fin_ret (rv1 rfl ⟨kp,by simp [tup,HS.plain,d3,g1]⟩))
  by_cases g2:w2<(S.infos.length:Int)
  case neg =>
   simp only[ZG,↓reduceIte,ZA,ZB,ZC,on.cells.ld,s1.own.cells.ld,mbl,ZD,ZE,ZF,d1,d2,d3,g1,hvk,g2];exact hΨ _ _ (fin_ret (rv1 rfl ⟨kp,by simp [tup,HS.plain,d3,g2]⟩))
  obtain ⟨⟨k,a,f,c⟩,hx⟩:∃ x,S.infos[w2.toNat]?=some x:=⟨_,Z0 (show w2.toNat<S.infos.length by omega)⟩
  obtain ⟨b1,o1,c1,e1,_,hld⟩:=rds_fld (by omega) Inf.len s1.ri hx;have hl0:=hld 0 (by omega);have hl2:=hld 2 (by omega);simp only[Inf.cells,Zb,Zc,Option.map_some,Zf] at hl0 hl2;have hik:S.ik w2=k:=by rw[HS.ik,hx];rfl
  have hfr:S.fr w2=f:=by rw[HS.fr,hx];rfl
  by_cases g3:k=1
  case neg =>
   simp only[ZG,↓reduceIte,ZA,ZB,ZC,on.cells.ld,s1.own.cells.ld,mbl,ZD,ZE,ZF,d1,d2,d3,g1,e1,g2,and_self,hl0,g3];exact hΨ _ _ (fin_ret (rv1 rfl ⟨kp,by simp [tup,HS.plain,d3,g1,g2,hik,hfr,g3]⟩))
  by_cases g4:f=0
  ·simp only[ZG,↓reduceIte,ZA,ZB,ZC,on.cells.ld,s1.own.cells.ld,mbl,ZD,ZE,ZF,d1,d2,d3,g1,e1,g2,and_self,hl0,hl2,g3,g4]
   exact hΨ _ _ (fin_ret (rv1 rfl ⟨kp,by simp [tup,HS.plain,d3,g1,g2,hik,hfr,g3,g4]⟩))
  ·simp only[ZG,↓reduceIte,ZA,ZB,ZC,on.cells.ld,s1.own.cells.ld,mbl,ZD,ZE,ZF,d1,d2,d3,g1,e1,g2,and_self,hl0,hl2,g3,g4]
   exact hΨ _ _ (fin_ret (rv1 rfl ⟨kp,by simp [tup,HS.plain,d3,g1,g2,hik,hfr,g3,g4]⟩))
 simp only[ZG,↓reduceIte,ZA,ZB,ZC,on.cells.ld,mbl,ZD,ZE,ZF,d1,d2,d3];exact hΨ _ _ (fin_ret (rv1 rfl ⟨kp,by simp [tup,HS.plain,d1,d2,d3]⟩))
theorem lies_ok (s:Hp h b L S) (w:Int × Int):Gets Tryd.prog 64 [.pointer (some ⟨b,0,none⟩),wv w] h (fun res h'=>Keep (fun _=>False) h h'/\res = .ret (.bool (decide (S.lies w)))):=by
 refine Gets.of (keep:=false) hP (draw_ok hM) k64 (by rfl) (fun Ψ hΨ=>?_);have on:=Own.new h 44 h.length [iv w.1,iv w.2];have kp:Keep (fun _=>False) h (h++[row 44 h.length [iv w.1,iv w.2]]):=Keep.push _ _ _;have s1:=s.keepF kp;simp only[ZG,↓reduceIte,ZA,ZB,ZC,r64,YE,YC,YO,YA,YL,YX,YS,Ya,Yb,Yl,Yf,Yg,Yi,Ym,Yk,Yt,Yn,Yz,Yp,Yq,Yd,wv,mbl,ZD,ZE,ZF];generalize h++[row 44 h.length [iv w.1,iv w.2]]=h1 at on kp s1 ⊢;obtain ⟨w1,w2⟩:=w;simp only at on
 by_cases d4:w1=4
 ·cases hg:mget w2 S.begins with
  | some n =>
    simp only[ZG,↓reduceIte,ZA,ZB,ZC,on.cells.ld,s1.own.cells.ld,mbl,ZD,ZE,ZF,d4,lk_some kt3 s1.mb hg];exact hΨ _ _ (fin_ret (rv1 rfl ⟨kp,by simp [tup,HS.lies,d4,hg]⟩))
  | none =>
    simp only[ZG,↓reduceIte,ZA,ZB,ZC,on.cells.ld,s1.own.cells.ld,mbl,ZD,ZE,ZF,d4,lk_none kt3 s1.mb hg];exact hΨ _ _ (fin_ret (rv1 rfl ⟨kp,by simp [tup,HS.lies,d4,hg]⟩))
 ·simp only[ZG,↓reduceIte,ZA,ZB,ZC,on.cells.ld,mbl,ZD,ZE,ZF,d4]
  exact hΨ _ _ (fin_ret (rv1 rfl ⟨kp,by simp [tup,HS.lies,d4]⟩))
theorem sound_ok (s:Hp h b L S) (w:Int × Int):Gets Tryd.prog 40 [.pointer (some ⟨b,0,none⟩),wv w] h (fun res h'=>Keep (fun _=>False) h h'/\res = .ret (.bool (decide (S.sound w)))):=by
 refine Gets.of (keep:=false) hP (draw_ok hM) k40 (by rfl) (fun Ψ hΨ=>?_);have on:=Own.new h 44 h.length [iv w.1,iv w.2];have kp:Keep (fun _=>False) h (h++[row 44 h.length [iv w.1,iv w.2]]):=Keep.push _ _ _;have s1:=s.keepF kp;simp only[ZG,↓reduceIte,ZA,ZB,ZC,r40,YE,YC,YO,YA,YL,YX,YS,Ya,Yb,Yl,Yf,Yg,Yi,Ym,Yk,Yt,Yn,Yz,Yp,Yq,Yd,wv,mbl,ZD,ZE,ZF];generalize h++[row 44 h.length [iv w.1,iv w.2]]=h1 at on kp s1 ⊢;simp only[ZG,↓reduceIte,ZA,ZB,ZC,on.cells.lds 0 2 (by simp),mbl,ZD,ZE,ZF];refine XX_of (plain_ok s1 w) (fun res h2 hle hn=>?_);obtain ⟨kp2,rfl⟩:=hn;refine .ret ?_;have on2:=on.keep kp2 (fun e=>e)
 by_cases hp:S.plain w
 ·simp only[ZG,↓reduceIte,ZA,ZB,ZC,hp]
  exact hΨ _ _ (fin_ret (rv1 rfl ⟨kp.trans kp2,by simp [tup,HS.sound,hp]⟩))
 ·simp only[ZG,↓reduceIte,ZA,ZB,ZC,hp,on2.cells.lds 0 2 (by simp),mbl,ZD,ZE,ZF]
  refine XX_of (lies_ok (s1.keepF kp2) w) (fun res h3 hle hn=>?_);obtain ⟨kp3,rfl⟩:=hn;refine .ret ?_;simp only[ZG,↓reduceIte,ZA,ZB,ZC];exact hΨ _ _ (fin_ret (rv1 rfl ⟨(kp.trans kp2).trans kp3,by simp [tup,HS.sound,hp]⟩))
theorem ask_ok (s:Hp h b L S) {bx:Nat} {t:TypeId} (hb:Own h bx t [.pointer (some ⟨b,0,none⟩)]) (w:Int × Int):Gets Tryd.prog 39 [wv w,.pointer (some ⟨bx,0,none⟩)] h (fun res h'=>Keep (fun _=>False) h h'/\res = .ret (.bool (decide (¬ S.sound w)))):=by
 refine Gets.of (keep:=false) hP (draw_ok hM) k39 (by rfl) (fun Ψ hΨ=>?_);have on:=Own.new h 44 h.length [iv w.1,iv w.2];have kp:Keep (fun _=>False) h (h++[row 44 h.length [iv w.1,iv w.2]]):=Keep.push _ _ _;have s1:=s.keepF kp;have hb1:=hb.keep kp (fun e=>e);simp only[ZG,↓reduceIte,ZA,ZB,ZC,r39,YE,YC,YO,YA,YL,YX,YS,Ya,Yb,Yl,Yf,Yg,Yi,Ym,Yk,Yt,Yn,Yz,Yp,Yq,Yd,wv,mbl,ZD,ZE,ZF];generalize h++[row 44 h.length [iv w.1,iv w.2]]=h1 at on kp s1 hb1 ⊢;simp only[ZG,↓reduceIte,ZA,ZB,ZC,hb1.cells.ld,on.cells.lds 0 2 (by simp),mbl,ZD,ZE,ZF];refine XX_of (sound_ok s1 w) (fun res h2 hle hn=>?_);obtain ⟨kp2,rfl⟩:=hn;refine .ret ?_;simp only[ZG,↓reduceIte,ZA,ZB,ZC];exact hΨ _ _ (fin_ret (rv1 rfl ⟨kp.trans kp2,by simp [tup]⟩))
theorem ask2_ok (s:Hp h b L S) {bx:Nat} {t:TypeId} (hb:Own h bx t [.pointer (some ⟨b,0,none⟩)]) (w:Int × Int):Gets Tryd.prog 51 [wv w,.pointer (some ⟨bx,0,none⟩)] h (fun res h'=>Keep (fun _=>False) h h'/\res = .ret (.bool (decide (¬ S.sound w)))):=by
 refine Gets.of (keep:=false) hP (draw_ok hM) k51 (by rfl) (fun Ψ hΨ=>?_);have on:=Own.new h 44 h.length [iv w.1,iv w.2];have kp:Keep (fun _=>False) h (h++[row 44 h.length [iv w.1,iv w.2]]):=Keep.push _ _ _;have s1:=s.keepF kp;have hb1:=hb.keep kp (fun e=>e);simp only[ZG,↓reduceIte,ZA,ZB,ZC,r51,YE,YC,YO,YA,YL,YX,YS,Ya,Yb,Yl,Yf,Yg,Yi,Ym,Yk,Yt,Yn,Yz,Yp,Yq,Yd,wv,mbl,ZD,ZE,ZF];generalize h++[row 44 h.length [iv w.1,iv w.2]]=h1 at on kp s1 hb1 ⊢;simp only[ZG,↓reduceIte,ZA,ZB,ZC,hb1.cells.ld,on.cells.lds 0 2 (by simp),mbl,ZD,ZE,ZF];refine XX_of (sound_ok s1 w) (fun res h2 hle hn=>?_);obtain ⟨kp2,rfl⟩:=hn;refine .ret ?_;simp only[ZG,↓reduceIte,ZA,ZB,ZC];exact hΨ _ _ (fin_ret (rv1 rfl ⟨kp.trans kp2,by simp [tup]⟩))
theorem windex_ok {fq:Nat} (s:Hp h b L S) {bx:Nat} {t:TypeId} (hb:Own h bx t [.pointer (some ⟨b,0,none⟩)]) {u:Value} {ys:List (Int × Int)} (hu:Rds h 2 u ys.length (ww ys)) (hm:ys.length<=9223372036854775807)
 (ask:∀ (h2:AH) (w:Int × Int),Hp h2 b L S->Own h2 bx t [.pointer (some ⟨b,0,none⟩)]->Gets Tryd.prog fq [wv w,.pointer (some ⟨bx,0,none⟩)] h2 (fun res h'=>Keep (fun _=>False) h2 h'/\res = .ret (.bool (decide (¬ S.sound w))))) :
 Gets Tryd.prog 66 [u,.func (.func fq) #[] #[.pointer (some ⟨bx,0,none⟩)]] h (fun res h'=>Keep (fun _=>False) h h' /\ ∃ i,res = .ret (iv i)/\(0<=i ↔ ¬ ∀ y∈ys,S.sound y)):=by
 refine Gets.of (keep:=false) hP (draw_ok hM) k66 (by rfl) (fun Ψ hΨ=>?_);obtain ⟨ka,kc,rfl⟩:=row_shape hu;simp only[ZG,↓reduceIte,ZA,ZB,ZC,r66,YE,YC,YO,YA,YL,YX,YS,Ya,Yb,Yl,Yf,Yg,Yi,Ym,Yk,Yt,Yn,Yz,Yp,Yq,Yd];refine XLo_rule (α:=Nat) (fun i=>[(0,.slice ka ys.length kc),(1,.func (.func fq) #[] #[.pointer (some ⟨bx,0,none⟩)]),(7,iv ys.length),(8,iv i)])
  (fun i h'=>i<=ys.length/\Keep (fun _=>False) h h' /\ ∀ j,j<i -> ∀ c,ys[j]?=some c->S.sound c) (fun i=>ys.length-i) 0 ⟨Nat.zero_le _,.refl _ _,fun j hj=>by omega⟩ ⟨rfl,rfl,rfl,rfl,trivial⟩ ?_
 rintro i h1 Ψ2 ⟨i1,kp,hall⟩ next out
 by_cases hi:(i:Int)<(ys.length:Int)
 ·have h0:0<=(i:Int):=by omega
  have hw:IntKind.i64.wrap ((i:Int)+1)=i+1:=i64w (by omega) (by omega);have hil:i<ys.length:=by omega
  obtain ⟨b1,o1,c1,e1,_,hld⟩:=rds_w (hu.keep kp (fun _ _ e=>e)) h0 (by omega);cases e1;have hwi:wat ys (i:Int)=ys[i]:=by rw[wat,Z9,Z0 hil];rfl
  rw[hwi,Z9] at hld;simp only[ZG,↓reduceIte,ZA,ZB,ZC,hi,h0,and_self,Z9,hld,List.append_nil,Z2,mbl,ZD,ZE,ZF];refine XX_of (ask h1 ys[i] (s.keepF kp) (hb.keep kp (fun e=>e))) (fun res h2 hle hn=>?_);obtain ⟨kp2,rfl⟩:=hn;refine .ret ?_
  by_cases hc:S.sound ys[i]
  ·simp only[ZG,↓reduceIte,ZA,ZB,ZC,hc,not_true,hw]
   refine next (i+1) _ _ _ ⟨by omega,kp.trans kp2,fun j hj c hcj=>?_⟩ ⟨rfl,rfl,rfl,?_,trivial⟩ (by omega)
   ·by_cases hji:j<i
    ·exact hall j hji c hcj
    ·have:j=i:=by omega
     subst this;rw[Z0 hil] at hcj;cases hcj;exact hc
   ·simp only[Int.natCast_add,Int.cast_ofNat_Int];rfl
  ·simp only[ZG,↓reduceIte,ZA,ZB,ZC,hc,not_false_eq_true]
   refine out .ret _ _ _ _ (by intro e;cases e) ?_;simp only[ZG,↓reduceIte,ZA,ZB,ZC];refine hΨ _ _ (fin_ret (rv1 rfl ⟨kp.trans kp2,_,rfl,?_⟩))
   constructor
   ·intro _ hco;exact hc (hco _ (List.getElem_mem _))
   ·intro _;omega
 ·have hie:i=ys.length:=by omega
  simp only[ZG,↓reduceIte,ZA,ZB,ZC,hi];refine out (.exit 0) _ _ _ _ (by intro e;cases e) ?_;simp only[ZG,↓reduceIte,ZA,ZB,ZC];refine hΨ _ _ (fin_ret (rv1 rfl ⟨kp,_,rfl,?_⟩))
  constructor
  ·intro e;omega
  ·intro e
   exfalso;refine e (fun c hc=>?_)
   obtain ⟨j,hj,rfl⟩:=List.getElem_of_mem hc;exact hall j (by omega) _ (Z0 hj)
theorem wcontains_ok {fq:Nat} (s:Hp h b L S) {bx:Nat} {t:TypeId} (hb:Own h bx t [.pointer (some ⟨b,0,none⟩)]) {u:Value} {ys:List (Int × Int)} (hu:Rds h 2 u ys.length (ww ys)) (hm:ys.length<=9223372036854775807)
 (ask:∀ (h2:AH) (w:Int × Int),Hp h2 b L S->Own h2 bx t [.pointer (some ⟨b,0,none⟩)]->Gets Tryd.prog fq [wv w,.pointer (some ⟨bx,0,none⟩)] h2 (fun res h'=>Keep (fun _=>False) h2 h'/\res = .ret (.bool (decide (¬ S.sound w))))) :
 Gets Tryd.prog 38 [u,.func (.func fq) #[] #[.pointer (some ⟨bx,0,none⟩)]] h (fun res h'=>Keep (fun _=>False) h h'/\res = .ret (.bool (decide (¬ ∀ y∈ys,S.sound y)))):=by
 refine Gets.of (keep:=false) hP (draw_ok hM) k38 (by rfl) (fun Ψ hΨ=>?_);simp only[ZG,↓reduceIte,ZA,ZB,ZC,r38,YE,YC,YO,YA,YL,YX,YS,Ya,Yb,Yl,Yf,Yg,Yi,Ym,Yk,Yt,Yn,Yz,Yp,Yq,Yd];refine XX_of (windex_ok s hb hu hm ask) (fun res h' _ hn=>?_);obtain ⟨kp,i,rfl,hi⟩:=hn;refine .ret ?_;simp only[ZG,↓reduceIte,ZA,ZB,ZC];refine hΨ _ _ (fin_ret (rv1 rfl ⟨kp,?_⟩));simp only[tup]
 congr 2
 exact decide_eq_decide.2 hi
end
end Go.S19

namespace Go.S19
open Go Go.Eng Go.Proofs Go.Chk
def HS.ts (S:HS) (c:Int):Int:=(S.texts[c.toNat]?.map fun t=>(t.size:Int)).getD 0
def HS.pad (S:HS) (hd:Int × Int) (n:Nat):Prop:=(hd.1=6 /\ ¬ hd.2<0 /\ ¬ (S.infos.length:Int)<=hd.2/\n=0/\S.ik hd.2=2)\/hd.1=10
instance (S:HS) (hd:Int × Int) (n:Nat):Decidable (S.pad hd n):=by unfold HS.pad;infer_instance
def HS.fits (S:HS) (hd:Int × Int) (ys:List (Int × Int)):Prop :=
 (hd.1=6 /\ ¬ hd.2<0 /\ ¬ (S.infos.length:Int)<=hd.2/\(ys.length:Int)=S.fr hd.2) \/
 (hd.1=7/\0<=hd.2/\hd.2<S.cons.length/\(0:Int)<ys.length/\(ys.length:Int)=S.cn hd.2) \/
 (hd.1=8/\0<hd.2/\hd.2<8/\(ys.length:Int)=hd.2+1) \/
 (hd.1=9/\0<=hd.2/\hd.2<S.texts.length/\(ys.length:Int)=1/\(wat ys 0).1=1/\0<=(wat ys 0).2/\(wat ys 0).2<=S.ts hd.2) \/
 (hd.1=10/\0<=hd.2/\(ys.length:Int)=0)
instance (S:HS) (hd:Int × Int) (ys:List (Int × Int)):Decidable (S.fits hd ys):=by unfold HS.fits;infer_instance
section
variable {h:AH} {b:Nat} {L:Lay} {S:HS}
theorem rds_w0 {h:AH} {v:Value} {n:Nat} {xs:List (Int × Int)} (hr:Rds h 2 v n (ww xs)) {i:Int} (h0:0<=i) (h1:i<xs.length) :
 ∃ b o c,v = .slice (some ⟨b,o,none⟩) n c/\i<n/\ldc h b (o+i.toNat*2)=some (iv (wat xs i).1)/\ldc h b (o+i.toNat*2+1)=some (iv (wat xs i).2):=by
 obtain ⟨b,o,c,e,hn,hl⟩:=rds_fld (by omega) wc_len hr (wat_at h0 h1);have l0:=hl 0 (by omega);have l1:=hl 1 (by omega);exact ⟨b,o,c,e,by omega,by simpa [wc] using l0,by simpa [wc] using l1⟩
set_option maxHeartbeats 2000000 in
set_option maxRecDepth 5000 in
theorem fits_ok (s:Hp h b L S) (hd:Int × Int) {u:Value} {ys:List (Int × Int)} (hu:Rds h 2 u ys.length (ww ys)):Gets Tryd.prog 37 [.pointer (some ⟨b,0,none⟩),wv hd,u] h (fun res h'=>Keep (fun _=>False) h h'/\res = .ret (.tuple #[.bool (decide (S.pad hd ys.length)),.bool (decide (S.fits hd ys))])):=by
 refine Gets.of (keep:=false) hP (draw_ok hM) k37 (by rfl) (fun Ψ hΨ=>?_);have on:=Own.new h 44 h.length [iv hd.1,iv hd.2];have kp:Keep (fun _=>False) h (h++[row 44 h.length [iv hd.1,iv hd.2]]):=Keep.push _ _ _;have s1:=s.keepF kp;have hu1:=hu.keep kp (fun _ _ e=>e);obtain ⟨ua,uc,rfl⟩:=row_shape hu;simp only[ZG,↓reduceIte,ZA,ZB,ZC,r37,YE,YC,YO,YA,YL,YX,YS,Ya,Yb,Yl,Yf,Yg,Yi,Ym,Yk,Yt,Yn,Yz,Yp,Yq,Yd,wv,mbl,ZD,ZE,ZF];generalize h++[row 44 h.length [iv hd.1,iv hd.2]]=h1 at on kp s1 hu1 ⊢;obtain ⟨w1,w2⟩:=hd;simp only at on
 by_cases d6:w1=6
 ·obtain ⟨ka,kc,hvi⟩:=row_shape s1.ri
  by_cases g1:w2<0
  ·simp only[ZG,↓reduceIte,ZA,ZB,ZC,on.cells.ld,mbl,ZD,ZE,ZF,ct1,d6,g1]
   exact hΨ _ _ (fin_ret (rv2 rfl rfl ⟨kp,by simp [tup,HS.pad,HS.fits,d6,g1]⟩))
  by_cases g2:(S.infos.length:Int)<=w2
  ·simp only[ZG,↓reduceIte,ZA,ZB,ZC,on.cells.ld,s1.own.cells.ld,mbl,ZD,ZE,ZF,ct1,d6,g1,hvi,g2]
   exact hΨ _ _ (fin_ret (rv2 rfl rfl ⟨kp,by simp [tup,HS.pad,HS.fits,d6,g1,g2]⟩))
  have g3:0<=w2:=by omega
  have g4:w2<(S.infos.length:Int):=by omega
  obtain ⟨⟨k,a,f,c⟩,hx⟩:∃ x,S.infos[w2.toNat]?=some x:=⟨_,Z0 (show w2.toNat<S.infos.length by omega)⟩
  have hik:S.ik w2=k:=by rw[HS.ik,hx];rfl
  have hfr:S.fr w2=f:=by rw[HS.fr,hx];rfl
  obtain ⟨b1,o1,c1,e1,_,hld⟩:=rds_str (by omega) Inf.len s1.ri hx;simp only[Inf.cells,ns,List.map_cons,List.map_nil] at hld;have kp2:Keep (fun _=>False) h1 (h1++[row 91 h1.length [iv 0,iv 0,iv 0,iv 0]]):=Keep.push _ _ _;have oI:=Own.new h1 91 h1.length [iv 0,iv 0,iv 0,iv 0];have hld2:ldcs (h1++[row 91 h1.length [iv 0,iv 0,iv 0,iv 0]]) b1 (o1+w2.toNat*4) 4=some [iv k,iv a,iv f,iv c]:=by
   obtain ⟨b2,o2,c2,e2,_,hl2⟩:=rds_str (by omega) Inf.len (s1.keepF kp2).ri hx;rw[e1] at e2;cases e2
   simpa only [Inf.cells,ns,List.map_cons,List.map_nil] using hl2
  simp only[ZG,↓reduceIte,ZA,ZB,ZC,on.cells.ld,s1.own.cells.ld,mbl,ZD,ZE,ZF,ct1,d6,g1,e1,g2,g3,g4,and_self,hld,(on.keep kp2 (fun e=>e)).cells.ld,(s1.keepF kp2).own.cells.ld,hld2,List.contains_cons,List.contains_nil,Nat.reduceBEq,Bool.or_true,Bool.true_or,Bool.or_false,Bool.false_or];refine XH_own oI rfl (by simp [Value.cells]) rfl (fun h2 q1 q2 q3=>?_);have oI2:Own h2 h1.length 91 [iv k,iv a,iv f,iv c]:=by simpa [Value.cells] using q1
  have kq:Keep (fun _=>False) h h2:=(kp.trans kp2).trans' q2 (fun c hc e=>by have:=kp.len;omega);have gn5:(ys.length=0) ↔ (ys.length:Int)=0:=by omega
  by_cases g5:(ys.length:Int)=0
  ·have g5n:ys=[]:=List.length_eq_zero_iff.1 (by omega)
   subst g5n
   by_cases g6:k=2
   ·by_cases g7:f=0
    ·simp only[ZG,↓reduceIte,ZA,ZB,ZC,oI2.cells.ld,mbl,ZD,ZE,ZF,ct1,g6,g7,Z6,Z5]
     exact hΨ _ _ (fin_ret (rv2 rfl rfl ⟨kq,by simp [tup,HS.pad,HS.fits,d6,g1,g2,hik,hfr,g6,g7]⟩))
    ·have g8:¬ (0:Int)=f:=fun e=>g7 e.symm
     simp only[ZG,↓reduceIte,ZA,ZB,ZC,oI2.cells.ld,mbl,ZD,ZE,ZF,ct1,g6,g8,Z6,Z5];exact hΨ _ _ (fin_ret (rv2 rfl rfl ⟨kq,by simp [tup,HS.pad,HS.fits,d6,g1,g2,hik,hfr,g6,g8]⟩))
   ·by_cases g7:f=0
    ·simp only[ZG,↓reduceIte,ZA,ZB,ZC,oI2.cells.ld,mbl,ZD,ZE,ZF,ct1,g6,g7,Z6,Z5]
     exact hΨ _ _ (fin_ret (rv2 rfl rfl ⟨kq,by simp [tup,HS.pad,HS.fits,d6,g1,g2,hik,hfr,g6,g7]⟩))
    ·have g8:¬ (0:Int)=f:=fun e=>g7 e.symm
     simp only[ZG,↓reduceIte,ZA,ZB,ZC,oI2.cells.ld,mbl,ZD,ZE,ZF,ct1,g6,g8,Z6,Z5];exact hΨ _ _ (fin_ret (rv2 rfl rfl ⟨kq,by simp [tup,HS.pad,HS.fits,d6,g1,g2,hik,hfr,g6,g8]⟩))
  ·have g9:¬ ys=[]:=fun e=>g5 (by rw[e];rfl)
   by_cases g7:(ys.length:Int)=f
   ·have g10:¬ f=0:=by omega
    simp only[ZG,↓reduceIte,ZA,ZB,ZC,oI2.cells.ld,mbl,ZD,ZE,ZF,ct1,g5,g7,g10];exact hΨ _ _ (fin_ret (rv2 rfl rfl ⟨kq,by simp [tup,HS.pad,HS.fits,d6,g1,g2,hik,hfr,g7,g9]⟩))
   ·simp only[ZG,↓reduceIte,ZA,ZB,ZC,oI2.cells.ld,mbl,ZD,ZE,ZF,ct1,g5,g7]
    exact hΨ _ _ (fin_ret (rv2 rfl rfl ⟨kq,by simp [tup,HS.pad,HS.fits,d6,g1,g2,hik,hfr,g7,g9]⟩))
 by_cases d7:w1=7
 ·skip
  by_cases g1:0<=w2
  case neg =>
   simp only[ZG,↓reduceIte,ZA,ZB,ZC,on.cells.ld,s1.own.cells.ld,mbl,ZD,ZE,ZF,ct1,d6,d7,g1];exact hΨ _ _ (fin_ret (rv2 rfl rfl ⟨kp,by simp [tup,HS.pad,HS.fits,d6,d7,g1]⟩))
  obtain ⟨ka,kc,hvk⟩:=row_shape s1.rk
  by_cases g2:w2<(S.cons.length:Int)
  case neg =>
   simp only[ZG,↓reduceIte,ZA,ZB,ZC,on.cells.ld,s1.own.cells.ld,mbl,ZD,ZE,ZF,ct1,d6,d7,g1,hvk,g2];exact hΨ _ _ (fin_ret (rv2 rfl rfl ⟨kp,by simp [tup,HS.pad,HS.fits,d6,d7,g1,g2]⟩))
  by_cases g3:(0:Int)<(ys.length:Int)
  case neg =>
   simp only[ZG,↓reduceIte,ZA,ZB,ZC,on.cells.ld,s1.own.cells.ld,mbl,ZD,ZE,ZF,ct1,d6,d7,g1,hvk,g2,g3];have gn:ys.length=0:=by omega
   exact hΨ _ _ (fin_ret (rv2 rfl rfl ⟨kp,by simp [tup,HS.pad,HS.fits,d6,d7,g1,g2,gn]⟩))
  obtain ⟨x,hx⟩:∃ x,S.cons[w2.toNat]?=some x:=⟨_,Z0 (show w2.toNat<S.cons.length by omega)⟩
  have hcn:S.cn w2=x:=by rw[HS.cn,hx];rfl
  have gx:(ys.length:Int)=x->(0:Int)<x:=fun e=>by omega
  obtain ⟨b1,o1,c1,e1,_,hld⟩:=rds_ix s1.rk g1 hx;have ek:=e1.symm.trans hvk;cases ek
  by_cases g4:(ys.length:Int)=x
  case neg =>
   simp only[ZG,↓reduceIte,ZA,ZB,ZC,on.cells.ld,s1.own.cells.ld,mbl,ZD,ZE,ZF,ct1,d6,d7,g1,hvk,g2,g3,and_self,Z1,hld,g4];exact hΨ _ _ (fin_ret (rv2 rfl rfl ⟨kp,by simp [tup,HS.pad,HS.fits,d6,d7,g1,g2,g3,hcn,g4]⟩))
  simp only[ZG,↓reduceIte,ZA,ZB,ZC,on.cells.ld,s1.own.cells.ld,mbl,ZD,ZE,ZF,ct1,d6,d7,g1,hvk,g2,g3,and_self,Z1,hld,g4,gx g4];exact hΨ _ _ (fin_ret (rv2 rfl rfl ⟨kp,by simp [tup,HS.pad,HS.fits,d6,d7,g1,g2,g3,hcn,g4,gx g4]⟩))
 by_cases d8:w1=8
 ·skip
  by_cases g1:0<w2
  case neg =>
   simp only[ZG,↓reduceIte,ZA,ZB,ZC,on.cells.ld,s1.own.cells.ld,mbl,ZD,ZE,ZF,ct1,d6,d7,d8,g1];exact hΨ _ _ (fin_ret (rv2 rfl rfl ⟨kp,by simp [tup,HS.pad,HS.fits,d6,d7,d8,g1]⟩))
  by_cases g2:w2<8
  case neg =>
   simp only[ZG,↓reduceIte,ZA,ZB,ZC,on.cells.ld,s1.own.cells.ld,mbl,ZD,ZE,ZF,ct1,d6,d7,d8,g1,g2];exact hΨ _ _ (fin_ret (rv2 rfl rfl ⟨kp,by simp [tup,HS.pad,HS.fits,d6,d7,d8,g1,g2]⟩))
  have hw:IntKind.i64.wrap (w2+1)=w2+1:=i64w (by omega) (by omega)
  by_cases g3:(ys.length:Int)=w2+1
  case neg =>
   simp only[ZG,↓reduceIte,ZA,ZB,ZC,on.cells.ld,s1.own.cells.ld,mbl,ZD,ZE,ZF,ct1,d6,d7,d8,g1,g2,hw,g3];exact hΨ _ _ (fin_ret (rv2 rfl rfl ⟨kp,by simp [tup,HS.pad,HS.fits,d6,d7,d8,g1,g2,g3]⟩))
  simp only[ZG,↓reduceIte,ZA,ZB,ZC,on.cells.ld,s1.own.cells.ld,mbl,ZD,ZE,ZF,ct1,d6,d7,d8,g1,g2,hw,g3];exact hΨ _ _ (fin_ret (rv2 rfl rfl ⟨kp,by simp [tup,HS.pad,HS.fits,d6,d7,d8,g1,g2,g3]⟩))
 by_cases d9:w1=9
 ·skip
  by_cases g1:0<=w2
  case neg =>
   simp only[ZG,↓reduceIte,ZA,ZB,ZC,on.cells.ld,s1.own.cells.ld,mbl,ZD,ZE,ZF,ct1,d6,d7,d8,d9,g1];exact hΨ _ _ (fin_ret (rv2 rfl rfl ⟨kp,by simp [tup,HS.pad,HS.fits,d6,d7,d8,d9,g1]⟩))
  obtain ⟨ka,kc,hvt⟩:=row_shape s1.rt
  by_cases g2:w2<(S.texts.length:Int)
  case neg =>
   simp only[ZG,↓reduceIte,ZA,ZB,ZC,on.cells.ld,s1.own.cells.ld,mbl,ZD,ZE,ZF,ct1,d6,d7,d8,d9,g1,hvt,g2];exact hΨ _ _ (fin_ret (rv2 rfl rfl ⟨kp,by simp [tup,HS.pad,HS.fits,d6,d7,d8,d9,g1,g2]⟩))
  by_cases g3:(ys.length:Int)=1
  case neg =>
   simp only[ZG,↓reduceIte,ZA,ZB,ZC,on.cells.ld,s1.own.cells.ld,mbl,ZD,ZE,ZF,ct1,d6,d7,d8,d9,g1,hvt,g2,g3];exact hΨ _ _ (fin_ret (rv2 rfl rfl ⟨kp,by simp [tup,HS.pad,HS.fits,d6,d7,d8,d9,g1,g2,g3]⟩))
  obtain ⟨b0,o0,cc0,e0,l0,hw0,hw1⟩:=rds_w0 hu1 (i:=0) (by omega) (by omega);cases e0;have e01:((0:Int)<(ys.length:Int))=True:=by simp;omega
  simp only[Z3,Z7,Zf] at hw0 hw1
  by_cases g4:(wat ys 0).1=1
  case neg =>
   simp only[ZG,↓reduceIte,ZA,ZB,ZC,on.cells.ld,s1.own.cells.ld,mbl,ZD,ZE,ZF,ct1,d6,d7,d8,d9,g1,hvt,g2,g3,Zd,e01,Z8,and_self,Z3,Z7,hw0,hw1,g4];exact hΨ _ _ (fin_ret (rv2 rfl rfl ⟨kp,by simp [tup,HS.pad,HS.fits,d6,d7,d8,d9,g1,g2,g3,g4]⟩))
  by_cases g5:0<=(wat ys 0).2
  case neg =>
   simp only[ZG,↓reduceIte,ZA,ZB,ZC,on.cells.ld,s1.own.cells.ld,mbl,ZD,ZE,ZF,ct1,d6,d7,d8,d9,g1,hvt,g2,g3,Zd,e01,Z8,and_self,Z3,Z7,hw0,hw1,g4,g5];exact hΨ _ _ (fin_ret (rv2 rfl rfl ⟨kp,by simp [tup,HS.pad,HS.fits,d6,d7,d8,d9,g1,g2,g3,g4,g5]⟩))
  obtain ⟨t,hx⟩:∃ x,S.texts[w2.toNat]?=some x:=⟨_,Z0 (show w2.toNat<S.texts.length by omega)⟩
  have hts:S.ts w2=t.size:=by rw[HS.ts,hx];rfl
  obtain ⟨b1,o1,c1,e1,hl⟩:=s1.rt.at (i:=w2.toNat) (by omega);have ek:=e1.symm.trans hvt;cases ek;have hlt:=hl 0 (by omega);simp only[Z1,Zf] at hlt;rw[show (sts S.texts)[w2.toNat]?=some (.string t) by simp [sts,hx]] at hlt
  by_cases g6:(wat ys 0).2<=(t.size:Int)
  case neg =>
   simp only[ZG,↓reduceIte,ZA,ZB,ZC,on.cells.ld,s1.own.cells.ld,mbl,ZD,ZE,ZF,ct1,d6,d7,d8,d9,g1,hvt,g2,g3,Zd,e01,Z8,and_self,Z3,Z7,hw0,hw1,g4,g5,Z1,hlt,g6];exact hΨ _ _ (fin_ret (rv2 rfl rfl ⟨kp,by simp [tup,HS.pad,HS.fits,d6,d7,d8,d9,g1,g2,g3,g4,g5,hts,g6]⟩))
  simp only[ZG,↓reduceIte,ZA,ZB,ZC,on.cells.ld,s1.own.cells.ld,mbl,ZD,ZE,ZF,ct1,d6,d7,d8,d9,g1,hvt,g2,g3,Zd,e01,Z8,and_self,Z3,Z7,hw0,hw1,g4,g5,Z1,hlt,g6];exact hΨ _ _ (fin_ret (rv2 rfl rfl ⟨kp,by simp [tup,HS.pad,HS.fits,d6,d7,d8,d9,g1,g2,g3,g4,g5,hts,g6]⟩))
 by_cases d10:w1=10
 ·by_cases g1:0<=w2
  case neg =>
   simp only[ZG,↓reduceIte,ZA,ZB,ZC,on.cells.ld,mbl,ZD,ZE,ZF,ct1,d6,d7,d8,d9,d10,g1];exact hΨ _ _ (fin_ret (rv2 rfl rfl ⟨kp,by simp [tup,HS.pad,HS.fits,d10,g1]⟩))
  by_cases g2:(ys.length:Int)=0
  ·have gn:ys.length=0:=by omega
   simp only[ZG,↓reduceIte,ZA,ZB,ZC,on.cells.ld,mbl,ZD,ZE,ZF,ct1,d6,d7,d8,d9,d10,g1,g2];exact hΨ _ _ (fin_ret (rv2 rfl rfl ⟨kp,by simp [tup,HS.pad,HS.fits,d10,g1,gn]⟩))
  ·have gn:¬ ys.length=0:=by omega
   simp only[ZG,↓reduceIte,ZA,ZB,ZC,on.cells.ld,mbl,ZD,ZE,ZF,ct1,d6,d7,d8,d9,d10,g1,g2];exact hΨ _ _ (fin_ret (rv2 rfl rfl ⟨kp,by simp [tup,HS.pad,HS.fits,d10,g1,gn]⟩))
 simp only[ZG,↓reduceIte,ZA,ZB,ZC,on.cells.ld,mbl,ZD,ZE,ZF,ct1,d6,d7,d8,d9,d10];exact hΨ _ _ (fin_ret (rv2 rfl rfl ⟨kp,by simp [tup,HS.pad,HS.fits,d6,d7,d8,d9,d10]⟩))
end
end Go.S19

namespace Go.S19
open Go Go.Eng Go.Proofs Go.Chk
theorem map_t:Tryd.prog.underlying 77=some (.map 3 3):=by kernel_rfl
def HS.laid (S:HS) (ys:List (Int × Int)):HS:={ S with now:=S.now++ys,begins:=S.begins++[((S.now.length:Int),(ys.length:Int))] }
def Same (n:Nat) (L L':Lay):Prop:=∀ q,q<n->(L'.cls q=0 ↔ L.cls q=0)
theorem Same.refl (n:Nat) (L:Lay):Same n L L:=fun _ _=>Iff.rfl
abbrev Mine (L:Lay) (q:Nat):Prop:=L.cls q≠0
section
variable {h:AH} {b:Nat} {L:Lay} {S:HS}
theorem lay_ok (s:Hp h b L S) (hfr:mget S.now.length S.begins=none) {u:Value} {ys:List (Int × Int)} (hu:Rds h 2 u ys.length (ww ys)) :
 Gets Tryd.prog 41 [.pointer (some ⟨b,0,none⟩),u] h (fun res h'=>Keep (Mine L) h h' /\
  if S.size-(S.now.length:Int)<ys.length then Keep (fun _=>False) h h'/\res = .ret (.tuple #[wv (0,0),iv 12])
  else res = .ret (.tuple #[wv (4,S.now.length),iv 0]) /\ ∃ L',Hp h' b L' (S.laid ys)/\Same h.length L L'):=by
 refine Gets.of (keep:=false) hP (draw_ok hM) k41 (by rfl) (fun Ψ hΨ=>?_);have hln:h.length<(h++[row 44 h.length [iv 0,iv 0]]).length:=by simp
 have on:=Own.new h 44 h.length [iv 0,iv 0];have kp:Keep (fun _=>False) h (h++[row 44 h.length [iv 0,iv 0]]):=Keep.push _ _ _;have s1:=s.keepF kp;have hc0:L.cls h.length=0:=s.c0 _ (Z4 _);have hu1:=hu.keep kp (fun _ _ e=>e);obtain ⟨ua,uc,rfl⟩:=row_shape hu;simp only[ZG,↓reduceIte,ZA,ZB,ZC,r41,YE,YC,YO,YA,YL,YX,YS,Ya,Yb,Yl,Yf,Yg,Yi,Ym,Yk,Yt,Yn,Yz,Yp,Yq,Yd,mbl,ZD,ZE,ZF];generalize h++[row 44 h.length [iv 0,iv 0]]=h1 at on kp s1 hu1 hln ⊢;simp only[ZG,↓reduceIte,ZA,ZB,ZC,s1.own.cells.ld,mbl,ZD,ZE,ZF];refine XX_of (wAlloc_ok s1.ws hu1) (fun res h2 hle hn=>?_)
 by_cases hf:S.size-(S.now.length:Int)<(ys.length:Int)
 ·rw[if_pos hf] at hn
  obtain ⟨rfl,rfl⟩:=hn;refine .ret ?_;simp only[ZG,↓reduceIte,ZA,ZB,ZC,mbl,ZD,ZE,ZF];refine XH_own on rfl (by simp [Value.cells]) rfl (fun h3 q1 q2 q3=>?_);have on2:Own h3 h.length 44 [iv 0,iv 0]:=by simpa [Value.cells] using q1
  simp only[ZG,↓reduceIte,ZA,ZB,ZC];have kF:Keep (fun _=>False) h h3:=kp.trans' q2 (fun c hc e=>by omega);refine hΨ _ _ (fin_ret (rvw rfl on2 rfl ⟨kF.mono (fun _ e=>e.elim),?_⟩));rw[if_pos hf];exact ⟨kF,rfl⟩
 ·rw[if_neg hf] at hn
  obtain ⟨rfl,kp2,v0',v1',ws',hown⟩:=hn;refine .ret ?_;have hne:∀ q,WOwns L.bs L.v0 L.v1 q->q<h1.length/\L.cls q=2:=fun q e=>⟨s1.ws.lt q e,s1.c2 q e⟩
  have cb:∀ q,L.cls q≠2 -> ¬ WOwns L.bs L.v0 L.v1 q:=fun q a e=>a (hne q e).2
  have own2:=s1.own.keep kp2 (cb b (by rw[s1.c1];omega));have mb2:=s1.mb.keep kp2 (cb _ (by rw[s1.c3];omega));have on2:=on.keep kp2 (cb _ (by rw[hc0];omega));obtain ⟨h3,k1,k2,k3,k4⟩:=mup_new map_t kt3 mb2 (v:=(ys.length:Int)) hfr;have hbm:b≠L.mb:=fun e=>by have a:=s1.c1;have c:=s1.c3;rw[e] at a;omega
  simp only[ZG,↓reduceIte,ZA,ZB,ZC,own2.cells.ld,mbl,ZD,ZE,ZF,k1];have hnm:h.length≠L.mb:=fun e=>by have c:=s1.c3;rw[<- e] at c;omega
  refine XH_own (on2.keep k3 hnm) rfl (by simp [Value.cells]) rfl (fun h4 q1 q2 q3=>?_);have on4:Own h4 h.length 44 [iv 4,iv S.now.length]:=by simpa [Value.cells] using q1
  simp only[ZG,↓reduceIte,ZA,ZB,ZC];have kq:Keep (fun q=>L.cls q≠0\/q=h.length) h1 h4:=((kp2.mono (fun q e=>.inl (by rw[(hne q e).2];omega))).trans (k3.mono (fun q e=>.inl (by rw[e,s1.c3];omega)))).trans (q2.mono fun q e=>.inr e);have kH:Keep (Mine L) h h4:=⟨Ze kp.len kq.len,fun q hq e=>by rw[kq.same q (by have:=kp.len;omega) (fun o=>o.elim e (fun o=>by omega)),kp.same q hq (fun f=>f)]⟩
  refine hΨ _ _ (fin_ret (rvw rfl on4 rfl ⟨kH,?_⟩));rw[if_neg hf];have hl2:h1.length<=h2.length:=kp2.len;have hl4:h4.length=h2.length:=by omega
  have kR:Keep (fun q=>q=L.mb\/q=h.length) h2 h4:=(k3.mono (fun q e=>.inl e)).trans (q2.mono fun q e=>.inr e);have kA:Keep (fun q=>L.cls q=2\/q=L.mb\/q=h.length) h1 h4:=(kp2.mono (fun q e=>.inl (hne q e).2)).trans (kR.mono fun q e=>.inr e);have hx:∀ q,L.cls q≠0->L.cls q≠2->L.cls q≠3 -> ¬ (L.cls q=2\/q=L.mb\/q=h.length):=by
   intro q a c d e
   rcases e with e|e|e
   ·exact c e
   ·rw[e,s1.c3] at d;exact d rfl
   ·rw[e] at a;exact a hc0
  classical
  refine ⟨by simp only[tup,wv],{ L with v0:=v0',v1:=v1',cls:=fun q=>if q<h1.length then L.cls q else if q<h4.length/\(bk v0' q\/bk v1' q) then 2 else 0 },?_,?_⟩
  ·have lt1:∀ q,L.cls q≠0->q<h1.length:=fun q e=>Nat.lt_of_not_le fun c=>e (s1.c0 q c)
   have wl:∀ q,WOwns L.bs v0' v1' q->q<h2.length:=ws'.lt;refine ⟨?_,?_,?_,?_,?_,?_,?_,s1.mo0,?_,?_,?_,?_,?_,?_,?_,?_⟩
   ·exact s1.own.keep kA (hx b (by rw[s1.c1];omega) (by rw[s1.c1];omega) (by rw[s1.c1];omega))
   ·exact ws'.keep kR (fun q e o=>by
     rcases hown q e with a|a
     ·have:=hne q a
      rcases o with o|o
      ·rw[o,s1.c3] at this;omega
      ·rw[o,hc0] at this;omega
     ·rcases o with o|o
      ·have:=s1.mb.lt;omega
      ·omega)
   ·exact s1.ri.keep kA (fun q e=>hx q (by rw[s1.c6 q (.inl e)];omega) (by rw[s1.c6 q (.inl e)];omega) (by rw[s1.c6 q (.inl e)];omega))
   ·exact s1.rt.keep kA (fun q e=>hx q (by rw[s1.c6 q (.inr (.inl e))];omega) (by rw[s1.c6 q (.inr (.inl e))];omega) (by rw[s1.c6 q (.inr (.inl e))];omega))
   ·exact s1.rk.keep kA (fun q e=>hx q (by rw[s1.c6 q (.inr (.inr e))];omega) (by rw[s1.c6 q (.inr (.inr e))];omega) (by rw[s1.c6 q (.inr (.inr e))];omega))
   ·exact k2.keep q2 (fun e=>hnm e.symm)
   ·exact fun q e=>(s1.mo q e).keep kA (hx q (by rw[s1.c4 q e];omega) (by rw[s1.c4 q e];omega) (by rw[s1.c4 q e];omega))
   ·exact s1.rg.keep kA (fun q e=>hx q (by rw[s1.c5 q e];omega) (by rw[s1.c5 q e];omega) (by rw[s1.c5 q e];omega))
   ·simp only;rw[if_pos (lt1 b (by rw[s1.c1];omega))];exact s1.c1
   ·intro q e
    simp only
    by_cases hq:q<h1.length
    ·rw[if_pos hq]
     rcases hown q e with a|a
     ·exact (hne q a).2
     ·omega
    ·rw[if_neg hq,if_pos]
     refine ⟨by have:=wl q e;omega,?_⟩
     rcases e with e|e|e
     ·exfalso;rw[e] at hq;exact hq (hne _ (.inl rfl)).1
     ·exact .inl e
     ·exact .inr e
   ·simp only;rw[if_pos (lt1 _ (by rw[s1.c3];omega))];exact s1.c3
   ·intro q e;simp only;rw[if_pos (lt1 _ (by rw[s1.c4 q e];omega))];exact s1.c4 q e
   ·intro q e;simp only;rw[if_pos (lt1 _ (by rw[s1.c5 q e];omega))];exact s1.c5 q e
   ·intro q e;simp only;rw[if_pos (lt1 _ (by rw[s1.c6 q e];omega))];exact s1.c6 q e
   ·intro q e;simp only;rw[if_neg (by omega),if_neg (by omega)]
  ·intro q hq;simp only;rw[if_pos (by omega)]
end
end Go.S19

namespace Go.S19
open Go Go.Eng Go.Proofs Go.Chk
def HS.all (S:HS) (hd:Int × Int) (ys:List (Int × Int)):List (Int × Int):=if S.pad hd ys.length then hd::ys++[(1,0)] else hd::ys
def HS.put (S:HS) (hd:Int × Int) (ys:List (Int × Int)):(Int × Int) × Int × HS :=
 if S.fits hd ys /\ ∀ y∈ys,S.sound y then (if S.size-(S.now.length:Int)<((S.all hd ys).length:Int) then ((0,0),12,S) else ((4,S.now.length),0,S.laid (S.all hd ys))) else ((0,0),1,S)
theorem ww_app (a c:List (Int × Int)):ww (a++c)=ww a++ww c:=rowsOf_app a c
section
variable {h:AH} {b:Nat} {L:Lay} {S:HS}
theorem lay_all (s:Hp h b L S) (hfr:mget S.now.length S.begins=none) {u:Value} {ys:List (Int × Int)} (hu:Rds h 2 u ys.length (ww ys)) :
 Gets Tryd.prog 41 [.pointer (some ⟨b,0,none⟩),u] h (fun res h'=>Keep (Mine L) h h' /\ ∃ w e S' L',res = .ret (.tuple #[wv w,iv e])/\Hp h' b L' S'/\Same h.length L L' /\
  (w,e,S')=if S.size-(S.now.length:Int)<ys.length then ((0,0),12,S) else (((4:Int),(S.now.length:Int)),(0:Int),S.laid ys)):=by
 exact (lay_ok s hfr hu).mono (fun res h' _ ⟨k,hn⟩=>by
  split at hn
  ·rename_i c
   exact ⟨k,_,_,_,L,hn.2,s.keepF hn.1,Same.refl _ _,by rw[if_pos c]⟩
  ·rename_i c
   obtain ⟨e,L',a,d⟩:=hn;exact ⟨k,_,_,_,L',e,a,d,by rw[if_neg c]⟩)
set_option maxHeartbeats 1000000 in
theorem Put_ok (s:Hp h b L S) (hfr:mget S.now.length S.begins=none) (hd:Int × Int) {u:Value} {ys:List (Int × Int)} (hu:Rds h 2 u ys.length (ww ys)) (hm:ys.length<=9223372036854775807) (hbs:S.fits hd ys->(ys.length+2)*16<=140737488355328) :
 Gets Tryd.prog 15 [.pointer (some ⟨b,0,none⟩),wv hd,u] h (fun res h'=>Keep (Mine L) h h'/\res = .ret (.tuple #[wv (S.put hd ys).1,iv (S.put hd ys).2.1]) /\ ∃ L',Hp h' b L' (S.put hd ys).2.2/\Same h.length L L'):=by
 refine Gets.of (keep:=false) hP (draw_ok hM) k15 (by rfl) (fun Ψ hΨ=>?_);obtain ⟨ua,uc,rfl⟩:=row_shape hu;have oH:=Own.new h 30 h.length [.pointer (some ⟨b,0,none⟩)];have k1:Keep (fun _=>False) h (h++[row 30 h.length [.pointer (some ⟨b,0,none⟩)]]):=Keep.push _ _ _;have l1:(h++[row 30 h.length [.pointer (some ⟨b,0,none⟩)]]).length=h.length+1:=by simp
 simp only[ZG,↓reduceIte,ZA,ZB,ZC,r15,YE,YC,YO,YA,YL,YX,YS,Ya,Yb,Yl,Yf,Yg,Yi,Ym,Yk,Yt,Yn,Yz,Yp,Yq,Yd,wv,mbl,ZD,ZE,ZF];generalize h++[row 30 h.length [.pointer (some ⟨b,0,none⟩)]]=h1 at oH k1 l1 ⊢;have oW:=Own.new h1 44 h1.length [iv hd.1,iv hd.2];have k2:Keep (fun _=>False) h1 (h1++[row 44 h1.length [iv hd.1,iv hd.2]]):=Keep.push _ _ _;have l2:(h1++[row 44 h1.length [iv hd.1,iv hd.2]]).length=h.length+2:=by simp [l1]
 generalize h1++[row 44 h1.length [iv hd.1,iv hd.2]]=h2 at oW k2 l2 ⊢;have oR:=Own.new h2 44 h2.length [iv 0,iv 0];have k3:Keep (fun _=>False) h2 (h2++[row 44 h2.length [iv 0,iv 0]]):=Keep.push _ _ _;have l3:(h2++[row 44 h2.length [iv 0,iv 0]]).length=h.length+3:=by simp [l2]
 generalize h2++[row 44 h2.length [iv 0,iv 0]]=h3 at oR k3 l3 ⊢;have oH3:=(oH.keep k2 (fun e=>e)).keep k3 (fun e=>e);have oW3:=oW.keep k3 (fun e=>e);have k03:Keep (fun _=>False) h h3:=(k1.trans k2).trans k3;have s3:=s.keepF k03;simp only[ZG,↓reduceIte,ZA,ZB,ZC,oH3.cells.ld,oW3.cells.lds 0 2 (by simp),mbl,ZD,ZE,ZF];refine XX_of (fits_ok s3 hd (hu.keep k03 (fun _ _ e=>e))) (fun res h4 hle hn=>?_);obtain ⟨k4,rfl⟩:=hn;refine .ret ?_;have k04:=k03.trans k4;have oR4:=oR.keep k4 (fun e=>e);have oW4:=oW3.keep k4 (fun e=>e);have oH4:=oH3.keep k4 (fun e=>e)
 by_cases hfit:S.fits hd ys
 case neg =>
  simp only[ZG,↓reduceIte,ZA,ZB,ZC,hfit,mbl,ZD,ZE,ZF];refine XH_own oR4 rfl (by simp [Value.cells]) rfl (fun h5 q1 q2 q3=>?_);have oR5:Own h5 h2.length 44 [iv 0,iv 0]:=by simpa [Value.cells] using q1
  simp only[ZG,↓reduceIte,ZA,ZB,ZC];have kF:Keep (fun _=>False) h h5:=k04.trans' q2 (fun c hc e=>by omega);refine hΨ _ _ (fin_ret (rvw rfl oR5 rfl ⟨kF.mono (fun _ e=>e.elim),?_,L,?_,Same.refl _ _⟩))
  ·simp [HS.put,hfit,tup,wv]
  ·rw[show (S.put hd ys).2.2=S by simp [HS.put,hfit]];exact s.keepF kF
 simp only[ZG,↓reduceIte,ZA,ZB,ZC,hfit,mbl,ZD,ZE,ZF];refine XX_of (wcontains_ok (s.keepF k04) oH4 (hu.keep k04 (fun _ _ e=>e)) hm (fun h2 w a c=>ask_ok a c w)) (fun res h5 hle5 hn=>?_);obtain ⟨k5,rfl⟩:=hn;refine .ret ?_;have k05:=k04.trans k5;have oR5:=oR4.keep k5 (fun e=>e);have oW5:=oW4.keep k5 (fun e=>e);have oH5:=oH4.keep k5 (fun e=>e)
 by_cases hall:∀ y∈ys,S.sound y
 case neg =>
  simp only[ZG,↓reduceIte,ZA,ZB,ZC,hall,not_false_eq_true,mbl,ZD,ZE,ZF];refine XH_own oR5 rfl (by simp [Value.cells]) rfl (fun h6 q1 q2 q3=>?_);have oR6:Own h6 h2.length 44 [iv 0,iv 0]:=by simpa [Value.cells] using q1
  simp only[ZG,↓reduceIte,ZA,ZB,ZC];have kF:Keep (fun _=>False) h h6:=k05.trans' q2 (fun c hc e=>by omega);have hno:¬ (S.fits hd ys /\ ∀ y∈ys,S.sound y):=fun e=>hall e.2
  refine hΨ _ _ (fin_ret (rvw rfl oR6 rfl ⟨kF.mono (fun _ e=>e.elim),?_,L,?_,Same.refl _ _⟩))
  ·rw[HS.put,if_neg hno];rfl
  ·rw[HS.put,if_neg hno];exact s.keepF kF
 have hcond:S.fits hd ys /\ ∀ y∈ys,S.sound y:=⟨hfit,hall⟩
 have hd0:decide (¬ ∀ y∈ys,S.sound y)=false:=decide_eq_false (fun e=>e hall);have hl5:h.length+3<=h5.length:=by have:=(k4.trans k5).len;omega
 have hbb:=hbs hfit;have hr6:Ows (h5++[row 44 h5.length [iv hd.1,iv hd.2]]) 44 2 (.slice (some ⟨h5.length,0,none⟩) 1 1) 1 (ww [hd]):=.mk (Own.new h5 44 h5.length [iv hd.1,iv hd.2]) rfl (Z4 _) rfl;have k6:Keep (fun _=>False) h5 (h5++[row 44 h5.length [iv hd.1,iv hd.2]]):=Keep.push _ _ _;obtain ⟨_,hsrc,rfl⟩:=(hu.keep (k05.trans k6) (fun _ _ e=>e)).src (rowsOf_one ys);obtain ⟨v7,h7,p1,p2,p3,p4⟩:=hr6.app (bytes:=16) hsrc (by rw[ww_len]) (rowsOf_one ys) (by omega) (by omega);have p2':Ows h7 44 2 v7 (hd::ys).length (ww (hd::ys)):=by
  rw[show hd::ys=[hd]++ys from rfl,ww_app,Zg];exact p2
 have k67:Keep (fun _=>False) h5 h7:=k6.trans' p3 (fun c hc e=>by have:c=h5.length:=e;omega);have k07:=k05.trans k67;have oR7:=oR5.keep k67 (fun e=>e);have oH7:=oH5.keep k67 (fun e=>e);obtain ⟨a7,c7,hv7⟩:=row_shape p2.rds;subst hv7
 by_cases hpad:S.pad hd ys.length
 ·obtain ⟨v8,h8,t1,t2,t3,t4⟩:=app1 (bytes:=16) (xs:=[iv 1,iv 0]) p2' rfl rfl (by simp;omega) (by simp;omega)
  have hb7:∀ q,bk (.slice a7 (1+ys.length) c7) q->h5.length<=q:=fun q e=>(p4 q e).elim (fun e=>by have:q=h5.length:=e;omega) (fun e=>by simp at e;omega)
  have k78:Keep (fun _=>False) h5 h8:=k67.trans' t3 (fun c hc e=>by have:=hb7 c e;omega);have t2':Ows h8 44 2 v8 (S.all hd ys).length (ww (S.all hd ys)):=by
   rw[HS.all,if_pos hpad,ww_app,Zg];exact t2
  have k08:=k05.trans k78;have oR8:=oR5.keep k78 (fun e=>e);have oH8:=oH5.keep k78 (fun e=>e);simp only[ZG,↓reduceIte,ZA,ZB,ZC,hd0,oW5.cells.lds 0 2 (by simp),mbl,ZD,ZE,ZF,p1,hpad,t1,(oH5.keep k67 (fun e=>e)).cells.ld,oH8.cells.ld];refine XX_of (lay_all (s.keepF k08) hfr t2'.rds) (fun res h9 hle9 hn=>?_);obtain ⟨k9,w,e,S',L',rfl,s9,sm,hres⟩:=hn;refine .ret ?_;have oR9:=oR8.keep k9 (by have:=s.c0 h2.length (by omega);simp [Mine,this]);simp only[ZG,↓reduceIte,ZA,ZB,ZC,wv,mbl,ZD,ZE,ZF];refine XH_own oR9 rfl (by simp [Value.cells]) rfl (fun h10 q1 q2 q3=>?_);have oR10:Own h10 h2.length 44 [iv w.1,iv w.2]:=by simpa [Value.cells] using q1
  simp only[ZG,↓reduceIte,ZA,ZB,ZC];have hl8:=k08.len;have c2:L'.cls h2.length=0:=(sm _ (by have:=(k67.trans' t3 (fun c hc e=>by have:=hb7 c e;omega):Keep (fun _=>False) h5 h8).len;omega)).2 (s.c0 _ (by omega));refine hΨ _ _ (fin_ret (rvw rfl oR10 rfl ⟨?_,?_,L',?_,fun q hq=>sm q (by omega)⟩))
  ·exact ((k08.mono (fun _ e=>e.elim)).trans k9).trans' q2 (fun c hc e=>by omega)
  ·have:(w,e,S')=S.put hd ys:=by rw[hres,HS.put,if_pos hcond]
   rw[<- this];rfl
  ·have:(w,e,S')=S.put hd ys:=by rw[hres,HS.put,if_pos hcond]
   rw[<- this];exact s9.keep q2 (fun q hq e=>hq (by rw[e];exact c2))
 ·have t2':Ows h7 44 2 (.slice a7 (1+ys.length) c7) (S.all hd ys).length (ww (S.all hd ys)):=by
   rw[HS.all,if_neg hpad];exact p2'
  simp only[ZG,↓reduceIte,ZA,ZB,ZC,hd0,oW5.cells.lds 0 2 (by simp),mbl,ZD,ZE,ZF,p1,hpad,oH7.cells.ld];refine XX_of (lay_all (s.keepF k07) hfr t2'.rds) (fun res h9 hle9 hn=>?_);obtain ⟨k9,w,e,S',L',rfl,s9,sm,hres⟩:=hn;refine .ret ?_;have oR9:=oR7.keep k9 (by have:=s.c0 h2.length (by omega);simp [Mine,this]);simp only[ZG,↓reduceIte,ZA,ZB,ZC,wv,mbl,ZD,ZE,ZF];refine XH_own oR9 rfl (by simp [Value.cells]) rfl (fun h10 q1 q2 q3=>?_);have oR10:Own h10 h2.length 44 [iv w.1,iv w.2]:=by simpa [Value.cells] using q1
  simp only[ZG,↓reduceIte,ZA,ZB,ZC];have hl7:=k67.len;have c2:L'.cls h2.length=0:=(sm _ (by omega)).2 (s.c0 _ (by omega));refine hΨ _ _ (fin_ret (rvw rfl oR10 rfl ⟨?_,?_,L',?_,fun q hq=>sm q (by omega)⟩))
  ·exact ((k07.mono (fun _ e=>e.elim)).trans k9).trans' q2 (fun c hc e=>by omega)
  ·have:(w,e,S')=S.put hd ys:=by rw[hres,HS.put,if_pos hcond]
   rw[<- this];rfl
  ·have:(w,e,S')=S.put hd ys:=by rw[hres,HS.put,if_pos hcond]
   rw[<- this];exact s9.keep q2 (fun q hq e=>hq (by rw[e];exact c2))
end
end Go.S19

namespace Go.S19
open Go Go.Eng Go.Proofs Go.Chk
def gx (xs:List (Int × Int)) (i:Int):Int × Int:=if 0<=i/\i<xs.length then wat xs i else (0,0)
def ge (xs:List (Int × Int)) (i:Int):Int:=if 0<=i/\i<xs.length then 0 else 2
theorem gw_eq (xs:List (Int × Int)) (i:Int):gw xs i = .tuple #[.agg #[iv (gx xs i).1,iv (gx xs i).2],iv (ge xs i)]:=by
 unfold gw gx ge;split<;>rfl
def HS.head (S:HS) (w:Int × Int):(Int × Int) × Int:=if S.lies w then (gx S.now w.2,0) else ((0,0),1)
section
variable {h:AH} {b:Nat} {L:Lay} {S:HS}
theorem Head_ok (s:Hp h b L S) (w:Int × Int):Gets Tryd.prog 29 [.pointer (some ⟨b,0,none⟩),wv w] h (fun res h'=>Keep (fun _=>False) h h'/\res = .ret (.tuple #[wv (S.head w).1,iv (S.head w).2])):=by
 refine Gets.of (keep:=false) hP (draw_ok hM) k29 (by rfl) (fun Ψ hΨ=>?_);have oW:=Own.new h 44 h.length [iv w.1,iv w.2];have k1:Keep (fun _=>False) h (h++[row 44 h.length [iv w.1,iv w.2]]):=Keep.push _ _ _;have l1:(h++[row 44 h.length [iv w.1,iv w.2]]).length=h.length+1:=by simp
 simp only[ZG,↓reduceIte,ZA,ZB,ZC,r29,YE,YC,YO,YA,YL,YX,YS,Ya,Yb,Yl,Yf,Yg,Yi,Ym,Yk,Yt,Yn,Yz,Yp,Yq,Yd,wv,mbl,ZD,ZE,ZF];generalize h++[row 44 h.length [iv w.1,iv w.2]]=h1 at oW k1 l1 ⊢;have oR:=Own.new h1 44 h1.length [iv 0,iv 0];have k2:Keep (fun _=>False) h1 (h1++[row 44 h1.length [iv 0,iv 0]]):=Keep.push _ _ _;have l2:(h1++[row 44 h1.length [iv 0,iv 0]]).length=h.length+2:=by simp [l1]
 generalize h1++[row 44 h1.length [iv 0,iv 0]]=h2 at oR k2 l2 ⊢;have oW2:=oW.keep k2 (fun e=>e);have k02:=k1.trans k2;simp only[ZG,↓reduceIte,ZA,ZB,ZC,oW2.cells.lds 0 2 (by simp),mbl,ZD,ZE,ZF];refine XX_of (lies_ok (s.keepF k02) w) (fun res h3 hle hn=>?_);obtain ⟨k3,rfl⟩:=hn;refine .ret ?_;have k03:=k02.trans k3;have oR3:=oR.keep k3 (fun e=>e);have oW3:=oW2.keep k3 (fun e=>e)
 by_cases hl:S.lies w
 ·have s3:=s.keepF k03
  simp only[ZG,↓reduceIte,ZA,ZB,ZC,hl,mbl,ZD,ZE,ZF,s3.own.cells.ld,oW3.cells.ld];refine XX_of (wGet_ok s3.ws w.2) (fun res h4 hle4 hn=>?_);obtain ⟨k4,rfl⟩:=hn;refine .ret ?_;have k04:=k03.trans k4;have oR4:=oR3.keep k4 (fun e=>e);have oG:=Own.new h4 44 h4.length [iv 0,iv 0];have k5:Keep (fun _=>False) h4 (h4++[row 44 h4.length [iv 0,iv 0]]):=Keep.push _ _ _;simp only[ZG,↓reduceIte,ZA,ZB,ZC,gw_eq,mbl,ZD,ZE,ZF];refine XH_own oG rfl (by simp [Value.cells]) rfl (fun h6 q1 q2 q3=>?_);have oG6:Own h6 h4.length 44 [iv (gx S.now w.2).1,iv (gx S.now w.2).2]:=by simpa [Value.cells] using q1
  have k46:Keep (fun _=>False) h4 h6:=k5.trans' q2 (fun c hc e=>by omega);simp only[ZG,↓reduceIte,ZA,ZB,ZC,oG6.cells.lds 0 2 (by simp),mbl,ZD,ZE,ZF];refine XH_own (oR4.keep k46 (fun e=>e)) rfl (by simp [Value.cells]) rfl (fun h7 t1 t2 t3=>?_);have oR7:Own h7 h1.length 44 [iv (gx S.now w.2).1,iv (gx S.now w.2).2]:=by simpa [Value.cells] using t1
  simp only[ZG,↓reduceIte,ZA,ZB,ZC];refine hΨ _ _ (fin_ret (rvw rfl oR7 rfl ⟨(k04.trans k46).trans' t2 (fun c hc e=>by omega),?_⟩));simp [HS.head,hl,tup,wv]
 ·simp only[ZG,↓reduceIte,ZA,ZB,ZC,hl,mbl,ZD,ZE,ZF]
  refine XH_own oR3 rfl (by simp [Value.cells]) rfl (fun h4 q1 q2 q3=>?_);have oR4:Own h4 h1.length 44 [iv 0,iv 0]:=by simpa [Value.cells] using q1
  simp only[ZG,↓reduceIte,ZA,ZB,ZC];refine hΨ _ _ (fin_ret (rvw rfl oR4 rfl ⟨k03.trans' q2 (fun c hc e=>by omega),?_⟩));simp [HS.head,hl,tup,wv]
def HS.count (S:HS) (w hd:Int × Int):Int:=if hd.1=6 then S.fr hd.2 else if hd.1=10 then 0 else (mget w.2 S.begins).getD 0-1
theorem count_ok (s:Hp h b L S) (w hd:Int × Int) (h6:hd.1=6->0<=hd.2/\hd.2<S.infos.length) (hw:hd.1≠6->hd.1≠10 -> ∃ n,mget w.2 S.begins=some n/\0<=n/\n<=1048576) :
 Gets Tryd.prog 49 [.pointer (some ⟨b,0,none⟩),wv w,wv hd] h (fun res h'=>Keep (fun _=>False) h h'/\res = .ret (iv (S.count w hd))):=by
 refine Gets.of (keep:=false) hP (draw_ok hM) k49 (by rfl) (fun Ψ hΨ=>?_);have oW:=Own.new h 44 h.length [iv w.1,iv w.2];have k1:Keep (fun _=>False) h (h++[row 44 h.length [iv w.1,iv w.2]]):=Keep.push _ _ _;simp only[ZG,↓reduceIte,ZA,ZB,ZC,r49,YE,YC,YO,YA,YL,YX,YS,Ya,Yb,Yl,Yf,Yg,Yi,Ym,Yk,Yt,Yn,Yz,Yp,Yq,Yd,wv,mbl,ZD,ZE,ZF];generalize h++[row 44 h.length [iv w.1,iv w.2]]=h1 at oW k1 ⊢;have oD:=Own.new h1 44 h1.length [iv hd.1,iv hd.2];have k2:Keep (fun _=>False) h1 (h1++[row 44 h1.length [iv hd.1,iv hd.2]]):=Keep.push _ _ _;generalize h1++[row 44 h1.length [iv hd.1,iv hd.2]]=h2 at oD k2 ⊢;have oW2:=oW.keep k2 (fun e=>e);have k02:=k1.trans k2;have s2:=s.keepF k02
 by_cases d6:hd.1=6
 ·obtain ⟨g1,g2⟩:=h6 d6
  obtain ⟨⟨k,a,f,c⟩,hx⟩:∃ x,S.infos[hd.2.toNat]?=some x:=⟨_,Z0 (show hd.2.toNat<S.infos.length by omega)⟩
  obtain ⟨b1,o1,c1,e1,_,hld⟩:=rds_fld (by omega) Inf.len s2.ri hx;have hl2:=hld 2 (by omega);simp only[Inf.cells,Zb,Zc,Option.map_some] at hl2;have hfr:S.fr hd.2=f:=by rw[HS.fr,hx];rfl
  simp only[ZG,↓reduceIte,ZA,ZB,ZC,oD.cells.ld,mbl,ZD,ZE,ZF,d6,s2.own.cells.ld,e1,g1,g2,and_self,hl2];exact hΨ _ _ (fin_ret (rv1 rfl ⟨k02,by simp [HS.count,d6,hfr,tup]⟩))
 by_cases d10:hd.1=10
 ·simp only[ZG,↓reduceIte,ZA,ZB,ZC,oD.cells.ld,mbl,ZD,ZE,ZF,d6,d10]
  exact hΨ _ _ (fin_ret (rv1 rfl ⟨k02,by simp [HS.count,d6,d10,tup]⟩))
 ·obtain ⟨n,hg,n0,n1⟩:=hw d6 d10
  have hwr:IntKind.i64.wrap (n-1)=n-1:=i64w (by omega) (by omega);simp only[ZG,↓reduceIte,ZA,ZB,ZC,oD.cells.ld,mbl,ZD,ZE,ZF,d6,d10,s2.own.cells.ld,oW2.cells.ld,lk_some kt3 s2.mb hg,hwr];exact hΨ _ _ (fin_ret (rv1 rfl ⟨k02,by simp [HS.count,d6,d10,hg,tup]⟩))
theorem Used_ok (s:Hp h b L S):Gets Tryd.prog 11 [.pointer (some ⟨b,0,none⟩)] h (fun res h'=>h'=h/\res = .ret (iv S.now.length)):=by
 refine Gets.of (keep:=false) hP (draw_ok hM) k11 (by rfl) (fun Ψ hΨ=>?_);simp only[ZG,↓reduceIte,ZA,ZB,ZC,r11,YE,YC,YO,YA,YL,YX,YS,Ya,Yb,Yl,Yf,Yg,Yi,Ym,Yk,Yt,Yn,Yz,Yp,Yq,Yd,s.own.cells.ld,mbl,ZD,ZE,ZF];refine XX_val (wUsed_ok s.ws) ?_;simp only[ZG,↓reduceIte,ZA,ZB,ZC];exact hΨ _ _ (fin_ret (rv1 rfl ⟨rfl,rfl⟩))
def HS.next (S:HS) (i:Int):Int × Int:=match mget i S.begins with
 | some n=>(i+n,0)
 | none=>(0,2)
theorem Next_ok (s:Hp h b L S) (i:Int) (hr:∀ n,mget i S.begins=some n -> -9223372036854775808<=i+n/\i+n<=9223372036854775807):Gets Tryd.prog 33 [.pointer (some ⟨b,0,none⟩),iv i] h (fun res h'=>h'=h/\res = .ret (.tuple #[iv (S.next i).1,iv (S.next i).2])):=by
 refine Gets.of (keep:=false) hP (draw_ok hM) k33 (by rfl) (fun Ψ hΨ=>?_);cases hg:mget i S.begins with
 | some n =>
   obtain ⟨h1,h2⟩:=hr n hg;have hwr:IntKind.i64.wrap (i+n)=i+n:=i64w h1 h2;simp only[ZG,↓reduceIte,ZA,ZB,ZC,r33,YE,YC,YO,YA,YL,YX,YS,Ya,Yb,Yl,Yf,Yg,Yi,Ym,Yk,Yt,Yn,Yz,Yp,Yq,Yd,s.own.cells.ld,mbl,ZD,ZE,ZF,lk_some kt3 s.mb hg,hwr];exact hΨ _ _ (fin_ret (rv2 rfl rfl ⟨rfl,by simp [HS.next,hg,tup]⟩))
 | none =>
   simp only[ZG,↓reduceIte,ZA,ZB,ZC,r33,YE,YC,YO,YA,YL,YX,YS,Ya,Yb,Yl,Yf,Yg,Yi,Ym,Yk,Yt,Yn,Yz,Yp,Yq,Yd,s.own.cells.ld,mbl,ZD,ZE,ZF,lk_none kt3 s.mb hg];exact hΨ _ _ (fin_ret (rv2 rfl rfl ⟨rfl,by simp [HS.next,hg,tup]⟩))
end
end Go.S19

namespace Go.S19
open Go Go.Eng Go.Proofs Go.Chk
theorem cloneInfos_ok {h:AH} {u:Value} {n:Nat} {cs:List Value} (hu:Rds h 4 u n cs) (h1:cs.all Value.oneCell'=true) (hb:n*32<=140737488355328):Gets Tryd.prog 44 [u] h (fun res h'=>Keep (fun _=>False) h h' /\ ∃ v,res = .ret v/\Ows h' 91 4 v n cs /\ ∀ q,bk v q->h.length<=q/\q<h'.length):=by
 refine Gets.of (keep:=false) hP (draw_ok hM) k44 (by rfl) (fun Ψ hΨ=>?_);have k1:Keep (fun _=>False) h (h++[row 91 h.length []]):=Keep.push _ _ _;have o1:Ows (h++[row 91 h.length []]) 91 4 (.slice (some ⟨h.length,0,none⟩) 0 0) 0 []:=.mk (Own.new h 91 h.length []) rfl (Z4 _) rfl;obtain ⟨_,hsrc,rfl⟩:=(hu.keep k1 (fun _ _ e=>e)).src h1;obtain ⟨v2,h2,p1,p2,p3,p4⟩:=o1.app (bytes:=32) hsrc ((hu.keep k1 (fun _ _ e=>e)).len) h1 (by omega) (by omega);have k2:Keep (fun _=>False) h h2:=k1.trans' p3 (fun c hc e=>by have:c=h.length:=e;omega);have hq:∀ q,bk v2 q->h.length<=q/\q<h2.length:=fun q e=>⟨(p4 q e).elim (fun e=>by have:q=h.length:=e;omega) (fun e=>by simp at e;omega),p2.lt q e⟩
 simp only[Za,Z2] at p2;obtain ⟨ua,uc,rfl⟩:=row_shape hu;cases ua with
 | none =>
   cases hu;simp only[ZG,↓reduceIte,ZA,ZB,ZC,r44,YE,YC,YO,YA,YL,YX,YS,Ya,Yb,Yl,Yf,Yg,Yi,Ym,Yk,Yt,Yn,Yz,Yp,Yq,Yd,mbl,ZD,ZE,ZF];exact hΨ _ _ (fin_ret (rv1 rfl ⟨.refl _ _,_,rfl,.nil,fun q e=>e.elim⟩))
 | some a =>
   simp only[ZG,↓reduceIte,ZA,ZB,ZC,r44,YE,YC,YO,YA,YL,YX,YS,Ya,Yb,Yl,Yf,Yg,Yi,Ym,Yk,Yt,Yn,Yz,Yp,Yq,Yd,mbl,ZD,ZE,ZF,p1];exact hΨ _ _ (fin_ret (rv1 rfl ⟨k2,_,rfl,p2,hq⟩))
theorem cloneTexts_ok {h:AH} {u:Value} {n:Nat} {cs:List Value} (hu:Rds h 1 u n cs) (h1:cs.all Value.oneCell'=true) (hb:n*16<=140737488355328):Gets Tryd.prog 45 [u] h (fun res h'=>Keep (fun _=>False) h h' /\ ∃ v,res = .ret v/\Ows h' 9 1 v n cs /\ ∀ q,bk v q->h.length<=q/\q<h'.length):=by
 refine Gets.of (keep:=false) hP (draw_ok hM) k45 (by rfl) (fun Ψ hΨ=>?_);have k1:Keep (fun _=>False) h (h++[row 9 h.length []]):=Keep.push _ _ _;have o1:Ows (h++[row 9 h.length []]) 9 1 (.slice (some ⟨h.length,0,none⟩) 0 0) 0 []:=.mk (Own.new h 9 h.length []) rfl (Z4 _) rfl;obtain ⟨_,hsrc,rfl⟩:=(hu.keep k1 (fun _ _ e=>e)).src h1;obtain ⟨v2,h2,p1,p2,p3,p4⟩:=o1.app (bytes:=16) hsrc ((hu.keep k1 (fun _ _ e=>e)).len) h1 (by omega) (by omega);have k2:Keep (fun _=>False) h h2:=k1.trans' p3 (fun c hc e=>by have:c=h.length:=e;omega);have hq:∀ q,bk v2 q->h.length<=q/\q<h2.length:=fun q e=>⟨(p4 q e).elim (fun e=>by have:q=h.length:=e;omega) (fun e=>by simp at e;omega),p2.lt q e⟩
 simp only[Za,Z2] at p2;obtain ⟨ua,uc,rfl⟩:=row_shape hu;cases ua with
 | none =>
   cases hu;simp only[ZG,↓reduceIte,ZA,ZB,ZC,r45,YE,YC,YO,YA,YL,YX,YS,Ya,Yb,Yl,Yf,Yg,Yi,Ym,Yk,Yt,Yn,Yz,Yp,Yq,Yd,mbl,ZD,ZE,ZF];exact hΨ _ _ (fin_ret (rv1 rfl ⟨.refl _ _,_,rfl,.nil,fun q e=>e.elim⟩))
 | some a =>
   simp only[ZG,↓reduceIte,ZA,ZB,ZC,r45,YE,YC,YO,YA,YL,YX,YS,Ya,Yb,Yl,Yf,Yg,Yi,Ym,Yk,Yt,Yn,Yz,Yp,Yq,Yd,mbl,ZD,ZE,ZF,p1];exact hΨ _ _ (fin_ret (rv1 rfl ⟨k2,_,rfl,p2,hq⟩))
theorem cloneInts_ok {h:AH} {u:Value} {n:Nat} {cs:List Value} (hu:Rds h 1 u n cs) (h1:cs.all Value.oneCell'=true) (hb:n*8<=140737488355328):Gets Tryd.prog 46 [u] h (fun res h'=>Keep (fun _=>False) h h' /\ ∃ v,res = .ret v/\Ows h' 3 1 v n cs /\ ∀ q,bk v q->h.length<=q/\q<h'.length):=by
 refine Gets.of (keep:=false) hP (draw_ok hM) k46 (by rfl) (fun Ψ hΨ=>?_);have k1:Keep (fun _=>False) h (h++[row 3 h.length []]):=Keep.push _ _ _;have o1:Ows (h++[row 3 h.length []]) 3 1 (.slice (some ⟨h.length,0,none⟩) 0 0) 0 []:=.mk (Own.new h 3 h.length []) rfl (Z4 _) rfl;obtain ⟨_,hsrc,rfl⟩:=(hu.keep k1 (fun _ _ e=>e)).src h1;obtain ⟨v2,h2,p1,p2,p3,p4⟩:=o1.app (bytes:=8) hsrc ((hu.keep k1 (fun _ _ e=>e)).len) h1 (by omega) (by omega);have k2:Keep (fun _=>False) h h2:=k1.trans' p3 (fun c hc e=>by have:c=h.length:=e;omega);have hq:∀ q,bk v2 q->h.length<=q/\q<h2.length:=fun q e=>⟨(p4 q e).elim (fun e=>by have:q=h.length:=e;omega) (fun e=>by simp at e;omega),p2.lt q e⟩
 simp only[Za,Z2] at p2;obtain ⟨ua,uc,rfl⟩:=row_shape hu;cases ua with
 | none =>
   cases hu;simp only[ZG,↓reduceIte,ZA,ZB,ZC,r46,YE,YC,YO,YA,YL,YX,YS,Ya,Yb,Yl,Yf,Yg,Yi,Ym,Yk,Yt,Yn,Yz,Yp,Yq,Yd,mbl,ZD,ZE,ZF];exact hΨ _ _ (fin_ret (rv1 rfl ⟨.refl _ _,_,rfl,.nil,fun q e=>e.elim⟩))
 | some a =>
   simp only[ZG,↓reduceIte,ZA,ZB,ZC,r46,YE,YC,YO,YA,YL,YX,YS,Ya,Yb,Yl,Yf,Yg,Yi,Ym,Yk,Yt,Yn,Yz,Yp,Yq,Yd,mbl,ZD,ZE,ZF,p1];exact hΨ _ _ (fin_ret (rv1 rfl ⟨k2,_,rfl,p2,hq⟩))
def Nn (v:Value):Prop:=∃ b n c,v = .slice (some ⟨b,0,none⟩) n c
theorem appv_nn {keep:Bool} {h h':AH} {str:Bool} {e:TypeId} {sz bytes b n c:Nat} {x v:Value} (he:appv keep h str e sz bytes (.slice (some ⟨b,0,none⟩) n c) x=some (v,h')):Nn v:=by
 unfold appv at he;obtain ⟨⟨m,xs⟩,_,he⟩:=Option.bind_eq_some_iff.1 he;simp only at he
 split at he
 ·cases he;exact ⟨_,_,_,rfl⟩
 ·split at he
  ·split at he
   ·split at he
    ·obtain ⟨h1,_,h3⟩:=Option.map_eq_some_iff.1 he
     cases h3;exact ⟨_,_,_,rfl⟩
    ·split at he
     ·cases he;exact ⟨_,_,_,rfl⟩
     ·cases he
   ·cases he
  ·cases he
theorem cloneWords_ok2 {h:AH} {u:Value} {n:Nat} {cs:List Value} (hu:Rds h 2 u n cs) (h1:cs.all Value.oneCell'=true) (hb:n*16<=140737488355328):Gets Tryd.prog 36 [u] h (fun res h'=>Keep (fun _=>False) h h' /\ ∃ v,res = .ret v/\Ows h' 44 2 v n cs/\(∀ q,bk v q->h.length<=q/\q<h'.length)/\(u ≠ .slice none 0 0->Nn v)):=by
 refine Gets.of (keep:=false) hP (draw_ok hM) k36 (by rfl) (fun Ψ hΨ=>?_);have k1:Keep (fun _=>False) h (h++[row 44 h.length []]):=Keep.push _ _ _;have o1:Ows (h++[row 44 h.length []]) 44 2 (.slice (some ⟨h.length,0,none⟩) 0 0) 0 []:=.mk (Own.new h 44 h.length []) rfl (Z4 _) rfl;obtain ⟨_,hsrc,rfl⟩:=(hu.keep k1 (fun _ _ e=>e)).src h1;obtain ⟨v2,h2,p1,p2,p3,p4⟩:=o1.app (bytes:=16) hsrc ((hu.keep k1 (fun _ _ e=>e)).len) h1 (by omega) (by omega);have k2:Keep (fun _=>False) h h2:=k1.trans' p3 (fun c hc e=>by have:c=h.length:=e;omega);have hq:∀ q,bk v2 q->h.length<=q/\q<h2.length:=fun q e=>⟨(p4 q e).elim (fun e=>by have:q=h.length:=e;omega) (fun e=>by simp at e;omega),p2.lt q e⟩
 simp only[Za,Z2] at p2;obtain ⟨ua,uc,rfl⟩:=row_shape hu;cases ua with
 | none =>
   cases hu;simp only[ZG,↓reduceIte,ZA,ZB,ZC,r36,YE,YC,YO,YA,YL,YX,YS,Ya,Yb,Yl,Yf,Yg,Yi,Ym,Yk,Yt,Yn,Yz,Yp,Yq,Yd,mbl,ZD,ZE,ZF];exact hΨ _ _ (fin_ret (rv1 rfl ⟨.refl _ _,_,rfl,.nil,fun q e=>e.elim,fun e=>absurd rfl e⟩))
 | some a =>
   simp only[ZG,↓reduceIte,ZA,ZB,ZC,r36,YE,YC,YO,YA,YL,YX,YS,Ya,Yb,Yl,Yf,Yg,Yi,Ym,Yk,Yt,Yn,Yz,Yp,Yq,Yd,mbl,ZD,ZE,ZF,p1];exact hΨ _ _ (fin_ret (rv1 rfl ⟨k2,_,rfl,p2,hq,fun _=>appv_nn p1⟩))
theorem cloneWords_ok {h:AH} {u:Value} {n:Nat} {cs:List Value} (hu:Rds h 2 u n cs) (h1:cs.all Value.oneCell'=true) (hb:n*16<=140737488355328):Gets Tryd.prog 36 [u] h (fun res h'=>Keep (fun _=>False) h h' /\ ∃ v,res = .ret v/\Ows h' 44 2 v n cs /\ ∀ q,bk v q->h.length<=q/\q<h'.length) :=
 (cloneWords_ok2 hu h1 hb).mono fun _ _ _ ⟨a,v,b,c,d,_⟩=>⟨a,v,b,c,d⟩
section
variable {h:AH} {b:Nat} {L:Lay} {S:HS}
theorem Globals_ok (s:Hp h b L S) (hg:S.globals.length*16<=140737488355328):Gets Tryd.prog 14 [.pointer (some ⟨b,0,none⟩)] h (fun res h'=>Keep (fun _=>False) h h' /\ ∃ v,res = .ret v/\Ows h' 44 2 v S.globals.length (ww S.globals) /\ ∀ q,bk v q->h.length<=q/\q<h'.length):=by
 refine Gets.of (keep:=false) hP (draw_ok hM) k14 (by rfl) (fun Ψ hΨ=>?_);simp only[ZG,↓reduceIte,ZA,ZB,ZC,r14,YE,YC,YO,YA,YL,YX,YS,Ya,Yb,Yl,Yf,Yg,Yi,Ym,Yk,Yt,Yn,Yz,Yp,Yq,Yd,s.own.cells.ld,mbl,ZD,ZE,ZF];refine XX_of (cloneWords_ok s.rg.rds (rowsOf_one _) hg) (fun res h2 hle hn=>?_);obtain ⟨k2,v,rfl,hv⟩:=hn;refine .ret ?_;simp only[ZG,↓reduceIte,ZA,ZB,ZC];exact hΨ _ _ (fin_ret (rv1 rfl ⟨k2,v,rfl,hv⟩))
def HS.setg (S:HS) (ys:List (Int × Int)):Int × HS:=if (ys.length:Int)=S.globals.length /\ ∀ y∈ys,S.sound y then (0,{ S with globals:=ys }) else (1,S)
theorem Hp.newg {h h':AH} {b:Nat} {L:Lay} {S:HS} (s:Hp h b L S) {v:Value} {ys:List (Int × Int)} (k:Keep (fun q=>q=b) h h') (ho:Own h' b 79 [.pointer (some ⟨L.bs,0,none⟩),L.vi,.slice none 0 0,L.vt,.slice none 0 0,iv 0,L.vk,.map (some L.mb),.map L.mo,v])
 (hv:Ows h' 44 2 v ys.length (ww ys)) {n:Nat} (hn:n<=h.length) (hq:∀ q,bk v q->n<=q/\L.cls q=0) (hl:∀ q,L.cls q≠0->q<h.length):∃ L',Hp h' b L' { S with globals:=ys }/\Same n L L':=by
 classical
 have hx:∀ q,L.cls q≠1->q≠b:=fun q e c=>e (by rw[c];exact s.c1)
 have nb:∀ q,L.cls q≠0 -> ¬ bk v q:=fun q e c=>e (hq q c).2
 have ne:∀ q,L.cls q≠0->(if bk v q then 5 else if L.cls q=5 then 7 else L.cls q)=if L.cls q=5 then 7 else L.cls q:=fun q e=>if_neg (nb q e)
 refine ⟨{ L with vg:=v,cls:=fun q=>if bk v q then 5 else L.cls q },⟨ho,s.ws.keep k (fun q e=>hx q (by rw[s.c2 q e];omega)),s.ri.keep k (fun q e=>hx q (by rw[s.c6 q (.inl e)];omega)),s.rt.keep k (fun q e=>hx q (by rw[s.c6 q (.inr (.inl e))];omega)),s.rk.keep k (fun q e=>hx q (by rw[s.c6 q (.inr (.inr e))];omega)),
  s.mb.keep k (hx _ (by rw[s.c3];omega)),fun q e=>(s.mo q e).keep k (hx q (by rw[s.c4 q e];omega)),s.mo0,hv,?_,?_,?_,?_,?_,?_,?_⟩,?_⟩
 ·simp only;rw[if_neg (nb _ (by rw[s.c1];omega))];exact s.c1
 ·intro q e;simp only;rw[if_neg (nb _ (by rw[s.c2 q e];omega))];exact s.c2 q e
 ·simp only;rw[if_neg (nb _ (by rw[s.c3];omega))];exact s.c3
 ·intro q e;simp only;rw[if_neg (nb _ (by rw[s.c4 q e];omega))];exact s.c4 q e
 ·intro q e;simp only;rw[if_pos e]
 ·intro q e;simp only;rw[if_neg (nb _ (by rw[s.c6 q e];omega))];exact s.c6 q e
 ·intro q e;simp only
  by_cases c:bk v q
  ·have:=hv.lt q c;omega
  ·rw[if_neg c];exact s.c0 q (Ze k.len e)
 ·intro q e;simp only
  rw[if_neg (fun c=>by have:=(hq q c).1;omega)]
theorem SetGlobals_ok (s:Hp h b L S) {u:Value} {ys:List (Int × Int)} (hu:Rds h 2 u ys.length (ww ys)) (hm:ys.length<=9223372036854775807) (hg:S.globals.length*16<=140737488355328) :
 Gets Tryd.prog 23 [.pointer (some ⟨b,0,none⟩),u] h (fun res h'=>Keep (Mine L) h h'/\res = .ret (iv (S.setg ys).1) /\ ∃ L',Hp h' b L' (S.setg ys).2/\Same h.length L L'):=by
 refine Gets.of (keep:=false) hP (draw_ok hM) k23 (by rfl) (fun Ψ hΨ=>?_);obtain ⟨ua,uc,rfl⟩:=row_shape hu;have oH:=Own.new h 30 h.length [.pointer (some ⟨b,0,none⟩)];have k1:Keep (fun _=>False) h (h++[row 30 h.length [.pointer (some ⟨b,0,none⟩)]]):=Keep.push _ _ _;have l1:(h++[row 30 h.length [.pointer (some ⟨b,0,none⟩)]]).length=h.length+1:=by simp
 simp only[ZG,↓reduceIte,ZA,ZB,ZC,r23,YE,YC,YO,YA,YL,YX,YS,Ya,Yb,Yl,Yf,Yg,Yi,Ym,Yk,Yt,Yn,Yz,Yp,Yq,Yd,mbl,ZD,ZE,ZF];generalize h++[row 30 h.length [.pointer (some ⟨b,0,none⟩)]]=h1 at oH k1 l1 ⊢;have s1:=s.keepF k1;obtain ⟨ga,gc,hvg⟩:=row_shape s.rg.rds
 by_cases hle:(ys.length:Int)=(S.globals.length:Int)
 case neg =>
  have hno:¬ ((ys.length:Int)=S.globals.length /\ ∀ y∈ys,S.sound y):=fun e=>hle e.1
  simp only[ZG,↓reduceIte,ZA,ZB,ZC,oH.cells.ld,s1.own.cells.ld,mbl,ZD,ZE,ZF,hvg,hle];refine hΨ _ _ (fin_ret (rv1 rfl ⟨k1.mono (fun _ e=>e.elim),?_,L,?_,Same.refl _ _⟩))
  ·rw[HS.setg,if_neg hno];rfl
  ·rw[HS.setg,if_neg hno];exact s1
 simp only[ZG,↓reduceIte,ZA,ZB,ZC,oH.cells.ld,s1.own.cells.ld,mbl,ZD,ZE,ZF,hvg,hle];refine XX_of (wcontains_ok s1 oH (hu.keep k1 (fun _ _ e=>e)) hm (fun h2 w a c=>ask2_ok a c w)) (fun res h2 hle2 hn=>?_);obtain ⟨k2,rfl⟩:=hn;refine .ret ?_;have k02:=k1.trans k2
 by_cases hall:∀ y∈ys,S.sound y
 case neg =>
  have hno:¬ ((ys.length:Int)=S.globals.length /\ ∀ y∈ys,S.sound y):=fun e=>hall e.2
  simp only[ZG,↓reduceIte,ZA,ZB,ZC,hall,not_false_eq_true,mbl,ZD,ZE,ZF];refine hΨ _ _ (fin_ret (rv1 rfl ⟨k02.mono (fun _ e=>e.elim),?_,L,?_,Same.refl _ _⟩))
  ·rw[HS.setg,if_neg hno];rfl
  ·rw[HS.setg,if_neg hno];exact s.keepF k02
 have hd0:decide (¬ ∀ y∈ys,S.sound y)=false:=decide_eq_false (fun e=>e hall);have hcond:(ys.length:Int)=S.globals.length /\ ∀ y∈ys,S.sound y:=⟨hle,hall⟩
 have oH2:=oH.keep k2 (fun e=>e);have hgy:ys.length*16<=140737488355328:=by omega
 simp only[ZG,↓reduceIte,ZA,ZB,ZC,hd0,mbl,ZD,ZE,ZF,oH2.cells.ld];refine XX_of (cloneWords_ok (hu.keep k02 (fun _ _ e=>e)) (rowsOf_one _) hgy) (fun res h3 hle3 hn=>?_);obtain ⟨k3,v,rfl,hv,hvq⟩:=hn;refine .ret ?_;have k03:=k02.trans k3;have s3:=s.keepF k03;have oH3:=oH2.keep k3 (fun e=>e);obtain ⟨va,vc,rfl⟩:=row_shape hv.rds;simp only[ZG,↓reduceIte,ZA,ZB,ZC,mbl,ZD,ZE,ZF,oH3.cells.ld,ct1];refine XH_own s3.own rfl (by simp [Value.cells]) rfl (fun h4 q1 q2 q3=>?_);simp only[ZG,↓reduceIte,ZA,ZB,ZC];have hbl:b<h.length:=s.own.lt;have hl2:h.length<=h2.length:=k02.len;refine hΨ _ _ (fin_ret (rv1 rfl ⟨(k03.mono (fun _ e=>e.elim)).trans (q2.mono (fun q e=>by rw[Mine,e,s.c1];omega)),?_,?_⟩))
 ·rw[HS.setg,if_pos hcond];rfl
 ·rw[HS.setg,if_pos hcond]
  have hlt:∀ q,L.cls q≠0->q<h.length:=fun q e=>Nat.lt_of_not_le fun c=>e (s.c0 q c)
  exact s3.newg q2 (by simpa [Value.cells] using q1) (hv.keep q2 (fun q e c=>by have:=(hvq q e).1;omega)) (by omega) (fun q e=>⟨by have:=(hvq q e).1;omega,s.c0 q (by have:=(hvq q e).1;omega)⟩) (fun q e=>by have:=hlt q e;have:=k03.len;omega)
end
end Go.S19
