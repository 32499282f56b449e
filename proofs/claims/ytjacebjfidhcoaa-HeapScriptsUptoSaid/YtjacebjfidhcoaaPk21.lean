import Derived.Test.YtjacebjfidhcoaaPk20
import Derived.Test.YtjacebjfidhcoaaPk13
set_option linter.unusedVariables false
set_option linter.unusedSimpArgs false
open Nat renaming reduceEqDiff -> ZA,reduceAdd -> ZB,reduceMul -> ZC,reduceLeDiff -> ZD,reduceLT -> ZE
open Int renaming reduceEq -> ZF
open Int renaming toNat_natCast->Z0,cast_ofNat_Int->Z3,natCast_add->Z6
open List renaming getElem?_eq_getElem->Z1,getElem?_cons_zero->Z4,getElem?_eq_none->Z9,contains_cons->Zc,length_append->Zd,contains_nil->Ze
open Nat renaming le_refl->Z2,zero_le->Z7,le_trans->Za,add_zero->Zb
open Option renaming map_some->Z5,some->Z8
namespace Go.S18
open Go Go.Eng Go.Proofs Go.Chk
def HS.setw (S:HS) (i:Int) (x:Int × Int):HS:={ S with now:=S.now.set i.toNat x }
def HS.setp (S:HS) (i:Int) (x:Int × Int):Int × HS:=if 0<=i/\i<S.now.length then (0,S.setw i x) else (2,S)
def HS.hd (S:HS) (w:Int × Int):Int × Int:=gx S.now w.2
section
variable {h:AH} {b:Nat} {L:Lay} {S:HS}
theorem Hp.setw (s:Hp h b L S) {h':AH} {i:Int} {x:Int × Int} (k:Keep (WOwns L.bs L.v0 L.v1) h h') (ws':WS h' L.bs S.size S.side L.v0 L.v1 (S.now.set i.toNat x) S.old):Hp h' b L (S.setw i x):=by
 have cb:∀ q,L.cls q≠2 -> ¬ WOwns L.bs L.v0 L.v1 q:=fun q a e=>a (s.c2 q e)
 exact ⟨s.own.keep k (cb b (by rw[s.c1];omega)),ws',s.ri.keep k (fun q e=>cb q (by rw[s.c6 q (.inl e)];omega)),s.rt.keep k (fun q e=>cb q (by rw[s.c6 q (.inr (.inl e))];omega)),s.rk.keep k (fun q e=>cb q (by rw[s.c6 q (.inr (.inr e))];omega)),
  s.mb.keep k (cb _ (by rw[s.c3];omega)),fun q e=>(s.mo q e).keep k (cb q (by rw[s.c4 q e];omega)),s.mo0,s.rg.keep k (fun q e=>cb q (by rw[s.c5 q e];omega)),s.c1,s.c2,s.c3,s.c4,s.c5,s.c6,fun q e=>s.c0 q (Za k.len e)⟩
theorem setp_ok (s:Hp h b L S) (i:Int) (x:Int × Int):Gets Try.prog 46 [.pointer (some ⟨L.bs,0,none⟩),iv i,wv x] h (fun res h'=>Keep (Mine L) h h'/\res = .ret (iv (S.setp i x).1)/\Hp h' b L (S.setp i x).2):=by
 refine (wSet_ok s.ws i x).mono (fun res h' hl ⟨k,hn⟩=>⟨k.mono (fun q e=>by rw[Mine,s.c2 q e];omega),?_⟩)
 by_cases c:0<=i/\i<S.now.length
 ·rw[if_pos c] at hn;rw[HS.setp,if_pos c];exact ⟨hn.1,s.setw k hn.2⟩
 ·rw[if_neg c] at hn;rw[HS.setp,if_neg c];exact ⟨hn.1,s.keepF hn.2⟩
def HS.sete (S:HS) (w:Int × Int) (k:Int) (x:Int × Int):Int × HS :=
 if S.lies w/\S.sound x then (if k<0\/(S.hd w).1=9\/(S.hd w).1=12\/S.count w (S.hd w)<=k then (2,S) else S.setp (w.2+1+k) x) else (1,S)
set_option maxHeartbeats 1000000 in
theorem Set_ok (s:Hp h b L S) (ok:S.Ok) (w:Int × Int) (k:Int) (x:Int × Int):Gets Try.prog 24 [.pointer (some ⟨b,0,none⟩),wv w,iv k,wv x] h (fun res h'=>Keep (Mine L) h h'/\res = .ret (iv (S.sete w k x).1)/\Hp h' b L (S.sete w k x).2):=by
 refine Gets.of (keep:=false) hP (draw_ok hM) k24 (by rfl) (fun Ψ hΨ=>?_);have oW:=Own.new h 36 h.length [iv w.1,iv w.2];have k1:Keep (fun _=>False) h (h++[row 36 h.length [iv w.1,iv w.2]]):=Keep.push _ _ _;have l1:(h++[row 36 h.length [iv w.1,iv w.2]]).length=h.length+1:=by simp
 simp only[ZG,↓reduceIte,ZA,ZB,ZC,r24,YE,YC,YO,YA,YL,YX,YS,Ya,Yb,Yl,Yf,Yg,Yi,Ym,Yk,Yt,Yn,Yz,Yp,Yq,Yd,wv,mbl,ZD,ZE,ZF];generalize h++[row 36 h.length [iv w.1,iv w.2]]=h1 at oW k1 l1 ⊢;have oX:=Own.new h1 36 h1.length [iv x.1,iv x.2];have k2:Keep (fun _=>False) h1 (h1++[row 36 h1.length [iv x.1,iv x.2]]):=Keep.push _ _ _;have l2:(h1++[row 36 h1.length [iv x.1,iv x.2]]).length=h.length+2:=by simp [l1]
 generalize h1++[row 36 h1.length [iv x.1,iv x.2]]=h2 at oX k2 l2 ⊢;have oW2:=oW.keep k2 (fun e=>e);have k02:=k1.trans k2;simp only[ZG,↓reduceIte,ZA,ZB,ZC,oW2.cells.lds 0 2 (by simp),mbl,ZD,ZE,ZF];refine XX_of (Head_ok (s.keepF k02) w) (fun res h3 hle hn=>?_);obtain ⟨k3,rfl⟩:=hn;refine .ret ?_;have k03:=k02.trans k3;have oD:=Own.new h3 36 h3.length [iv 0,iv 0];have k4:Keep (fun _=>False) h3 (h3++[row 36 h3.length [iv 0,iv 0]]):=Keep.push _ _ _;simp only[ZG,↓reduceIte,ZA,ZB,ZC,wv,mbl,ZD,ZE,ZF];refine XH_own oD rfl (by simp [Value.cells]) rfl (fun h4 q1 q2 q3=>?_);have oD4:Own h4 h3.length 36 [iv (S.head w).1.1,iv (S.head w).1.2]:=by simpa [Value.cells] using q1
 have k34:Keep (fun _=>False) h3 h4:=k4.trans' q2 (fun c hc e=>by omega);have k24:=k3.trans k34;have k04:=k02.trans k24;have oW4:=oW2.keep k24 (fun e=>e);have oX4:=oX.keep k24 (fun e=>e)
 by_cases hl:S.lies w
 case neg =>
  have e0:S.head w=((0,0),1):=by rw[HS.head,if_neg hl]
  have hno:¬ (S.lies w/\S.sound x):=fun e=>hl e.1
  simp only[ZG,↓reduceIte,ZA,ZB,ZC,e0,mbl,ZD,ZE,ZF];refine hΨ _ _ (fin_ret (rv1 rfl ⟨k04.mono (fun _ e=>e.elim),?_,?_⟩))
  ·rw[HS.sete,if_neg hno];rfl
  ·rw[HS.sete,if_neg hno];exact s.keepF k04
 have e0:S.head w=(S.hd w,0):=by rw[HS.head,if_pos hl];rfl
 rw[e0] at oD4;simp only[ZG,↓reduceIte,ZA,ZB,ZC,e0,mbl,ZD,ZE,ZF,oX4.cells.lds 0 2 (by simp)];refine XX_of (sound_ok (s.keepF k04) x) (fun res h5 hle5 hn=>?_);obtain ⟨k5,rfl⟩:=hn;refine .ret ?_;have k05:=k04.trans k5;have oD5:=oD4.keep k5 (fun e=>e);have oW5:=oW4.keep k5 (fun e=>e);have oX5:=oX4.keep k5 (fun e=>e)
 by_cases hs:S.sound x
 case neg =>
  have hno:¬ (S.lies w/\S.sound x):=fun e=>hs e.2
  simp only[ZG,↓reduceIte,ZA,ZB,ZC,hs,mbl,ZD,ZE,ZF];refine hΨ _ _ (fin_ret (rv1 rfl ⟨k05.mono (fun _ e=>e.elim),?_,?_⟩))
  ·rw[HS.sete,if_neg hno];rfl
  ·rw[HS.sete,if_neg hno];exact s.keepF k05
 have hyes:S.lies w/\S.sound x:=⟨hl,hs⟩
 by_cases d0:k<0
 ·simp only[ZG,↓reduceIte,ZA,ZB,ZC,hs,mbl,ZD,ZE,ZF,d0]
  refine hΨ _ _ (fin_ret (rv1 rfl ⟨k05.mono (fun _ e=>e.elim),?_,?_⟩))
  ·rw[HS.sete,if_pos hyes,if_pos (by exact .inl d0)];rfl
  ·rw[HS.sete,if_pos hyes,if_pos (by exact .inl d0)];exact s.keepF k05
 by_cases d9:(S.hd w).1=9
 ·simp only[ZG,↓reduceIte,ZA,ZB,ZC,hs,mbl,ZD,ZE,ZF,d0,oD5.cells.ld,d9]
  refine hΨ _ _ (fin_ret (rv1 rfl ⟨k05.mono (fun _ e=>e.elim),?_,?_⟩))
  ·rw[HS.sete,if_pos hyes,if_pos (by exact .inr (.inl d9))];rfl
  ·rw[HS.sete,if_pos hyes,if_pos (by exact .inr (.inl d9))];exact s.keepF k05
 by_cases d12:(S.hd w).1=12
 ·simp only[ZG,↓reduceIte,ZA,ZB,ZC,hs,mbl,ZD,ZE,ZF,d0,oD5.cells.ld,d9,d12]
  refine hΨ _ _ (fin_ret (rv1 rfl ⟨k05.mono (fun _ e=>e.elim),?_,?_⟩))
  ·rw[HS.sete,if_pos hyes,if_pos (by exact .inr (.inr (.inl d12)))];rfl
  ·rw[HS.sete,if_pos hyes,if_pos (by exact .inr (.inr (.inl d12)))];exact s.keepF k05
 obtain ⟨nb,f1,f2,f3,f4,f5,f6,f7,f8,f9⟩:=ok.fc hl (by have:=s.ws.ln;have:=s.ws.sz;omega);simp only[ZG,↓reduceIte,ZA,ZB,ZC,hs,mbl,ZD,ZE,ZF,d0,oD5.cells.ld,d9,d12,oW5.cells.lds 0 2 (by simp),oD5.cells.lds 0 2 (by simp)];refine XX_of (count_ok (s.keepF k05) w (S.hd w) f3 (fun _ _=>⟨nb,f1,f4,f5⟩)) (fun res h6 hle6 hn=>?_);obtain ⟨k6,rfl⟩:=hn;refine .ret ?_;have k06:=k05.trans k6
 by_cases dk:S.count w (S.hd w)<=k
 ·simp only[ZG,↓reduceIte,ZA,ZB,ZC,mbl,ZD,ZE,ZF,dk]
  refine hΨ _ _ (fin_ret (rv1 rfl ⟨k06.mono (fun _ e=>e.elim),?_,?_⟩))
  ·rw[HS.sete,if_pos hyes,if_pos (by exact .inr (.inr (.inr dk)))];rfl
  ·rw[HS.sete,if_pos hyes,if_pos (by exact .inr (.inr (.inr dk)))];exact s.keepF k06
 have oW6:=oW5.keep k6 (fun e=>e);have oX6:=oX5.keep k6 (fun e=>e);have s6:=s.keepF k06;have hfc:S.fcount w=S.count w (S.hd w):=by rw[HS.fcount];exact if_neg d12
 have hw1:IntKind.i64.wrap (w.2+1)=w.2+1:=i64w (by omega) (by omega);have hw2:IntKind.i64.wrap (w.2+1+k)=w.2+1+k:=i64w (by omega) (by omega);simp only[ZG,↓reduceIte,ZA,ZB,ZC,mbl,ZD,ZE,ZF,dk,s6.own.cells.ld,oW6.cells.ld,hw1,hw2,oX6.cells.lds 0 2 (by simp)];refine XX_of (setp_ok s6 (w.2+1+k) x) (fun res h7 hle7 hn=>?_);obtain ⟨k7,rfl,s7⟩:=hn;refine .ret ?_;simp only[ZG,↓reduceIte,ZA,ZB,ZC];have hno:¬ (k<0\/(S.hd w).1=9\/(S.hd w).1=12\/S.count w (S.hd w)<=k):=by
  rintro (e|e|e|e)
  ·exact d0 e
  ·exact d9 e
  ·exact d12 e
  ·exact dk e
 refine hΨ _ _ (fin_ret (rv1 rfl ⟨(k06.mono (fun _ e=>e.elim)).trans k7,?_,?_⟩))
 ·rw[HS.sete,if_pos hyes,if_neg hno];rfl
 ·rw[HS.sete,if_pos hyes,if_neg hno];exact s7
def HS.hole (S:HS) (w:Int × Int):Int × HS :=
 if S.lies w/\((S.hd w).1=9\/(S.hd w).1=10\/((S.hd w).1=6/\S.ik (S.hd w).2=2)) then S.setp w.2 (11,(mget w.2 S.begins).getD 0) else (1,S)
set_option maxHeartbeats 1000000 in
theorem Hole_ok (s:Hp h b L S) (ok:S.Ok) (w:Int × Int):Gets Try.prog 23 [.pointer (some ⟨b,0,none⟩),wv w] h (fun res h'=>Keep (Mine L) h h'/\res = .ret (iv (S.hole w).1)/\Hp h' b L (S.hole w).2):=by
 refine Gets.of (keep:=false) hP (draw_ok hM) k23 (by rfl) (fun Ψ hΨ=>?_);have oW:=Own.new h 36 h.length [iv w.1,iv w.2];have k1:Keep (fun _=>False) h (h++[row 36 h.length [iv w.1,iv w.2]]):=Keep.push _ _ _;have l1:(h++[row 36 h.length [iv w.1,iv w.2]]).length=h.length+1:=by simp
 simp only[ZG,↓reduceIte,ZA,ZB,ZC,r23,YE,YC,YO,YA,YL,YX,YS,Ya,Yb,Yl,Yf,Yg,Yi,Ym,Yk,Yt,Yn,Yz,Yp,Yq,Yd,wv,mbl,ZD,ZE,ZF];generalize h++[row 36 h.length [iv w.1,iv w.2]]=h2 at oW k1 l1 ⊢;simp only[ZG,↓reduceIte,ZA,ZB,ZC,oW.cells.lds 0 2 (by simp),mbl,ZD,ZE,ZF];refine XX_of (Head_ok (s.keepF k1) w) (fun res h3 hle hn=>?_);obtain ⟨k3,rfl⟩:=hn;refine .ret ?_;have k03:=k1.trans k3;have oD:=Own.new h3 36 h3.length [iv 0,iv 0];have k4:Keep (fun _=>False) h3 (h3++[row 36 h3.length [iv 0,iv 0]]):=Keep.push _ _ _;simp only[ZG,↓reduceIte,ZA,ZB,ZC,wv,mbl,ZD,ZE,ZF];refine XH_own oD rfl (by simp [Value.cells]) rfl (fun h4 q1 q2 q3=>?_);have oD4:Own h4 h3.length 36 [iv (S.head w).1.1,iv (S.head w).1.2]:=by simpa [Value.cells] using q1
 have k34:Keep (fun _=>False) h3 h4:=k4.trans' q2 (fun c hc e=>by omega);have k24:=k3.trans k34;have k04:=k1.trans k24;have oW4:=oW.keep k24 (fun e=>e);have s4:=s.keepF k04
 by_cases hl:S.lies w
 case neg =>
  have e0:S.head w=((0,0),1):=by rw[HS.head,if_neg hl]
  have hno:¬ (S.lies w/\((S.hd w).1=9\/(S.hd w).1=10\/((S.hd w).1=6/\S.ik (S.hd w).2=2))):=fun e=>hl e.1
  rw[e0] at oD4;simp only[ZG,↓reduceIte,ZA,ZB,ZC,e0,mbl,ZD,ZE,ZF,oD4.cells.ld];refine hΨ _ _ (fin_ret (rv1 rfl ⟨k04.mono (fun _ e=>e.elim),?_,?_⟩))
  ·rw[HS.hole,if_neg hno];rfl
  ·rw[HS.hole,if_neg hno];exact s4
 have e0:S.head w=(S.hd w,0):=by rw[HS.head,if_pos hl];rfl
 obtain ⟨nb,f1,f2,f3,f4,f5,f6,f7,f8,f9⟩:=ok.fc hl (by have:=s.ws.ln;have:=s.ws.sz;omega);rw[e0] at oD4
 by_cases d9:(S.hd w).1=9
 ·simp only[ZG,↓reduceIte,ZA,ZB,ZC,e0,mbl,ZD,ZE,ZF,oD4.cells.ld,oW4.cells.ld,d9,s4.own.cells.ld,lk_some kt3 s4.mb f1]
  refine XX_of (setp_ok s4 w.2 (11,nb)) (fun res h7 hle7 hn=>?_);obtain ⟨k7,rfl,s7⟩:=hn;refine .ret ?_;simp only[ZG,↓reduceIte,ZA,ZB,ZC];refine hΨ _ _ (fin_ret (rv1 rfl ⟨(k04.mono (fun _ e=>e.elim)).trans k7,?_,?_⟩))
  ·rw[HS.hole,if_pos ⟨hl,by exact .inl d9⟩,f1];rfl
  ·rw[HS.hole,if_pos ⟨hl,by exact .inl d9⟩,f1];exact s7
 by_cases d10:(S.hd w).1=10
 ·simp only[ZG,↓reduceIte,ZA,ZB,ZC,e0,mbl,ZD,ZE,ZF,oD4.cells.ld,oW4.cells.ld,d9,d10,s4.own.cells.ld,lk_some kt3 s4.mb f1]
  refine XX_of (setp_ok s4 w.2 (11,nb)) (fun res h7 hle7 hn=>?_);obtain ⟨k7,rfl,s7⟩:=hn;refine .ret ?_;simp only[ZG,↓reduceIte,ZA,ZB,ZC];refine hΨ _ _ (fin_ret (rv1 rfl ⟨(k04.mono (fun _ e=>e.elim)).trans k7,?_,?_⟩))
  ·rw[HS.hole,if_pos ⟨hl,by exact .inr (.inl d10)⟩,f1];rfl
  ·rw[HS.hole,if_pos ⟨hl,by exact .inr (.inl d10)⟩,f1];exact s7
 by_cases d6:(S.hd w).1=6
 case neg =>
  simp only[ZG,↓reduceIte,ZA,ZB,ZC,e0,mbl,ZD,ZE,ZF,oD4.cells.ld,oW4.cells.ld,d9,d10,d6];refine hΨ _ _ (fin_ret (rv1 rfl ⟨k04.mono (fun _ e=>e.elim),?_,?_⟩))
  ·rw[HS.hole,if_neg (by rintro ⟨_,e⟩;omega)];rfl
  ·rw[HS.hole,if_neg (by rintro ⟨_,e⟩;omega)];exact s4
 obtain ⟨g1,g2⟩:=f3 d6;have g1':0<=(S.hd w).2:=g1;have g2':(S.hd w).2<S.infos.length:=g2;obtain ⟨⟨k,a,f,c⟩,hx⟩:∃ x,S.infos[(S.hd w).2.toNat]?=some x:=⟨_,Z1 (show (S.hd w).2.toNat<S.infos.length by omega)⟩
 obtain ⟨b1,o1,c1,e1,_,hld⟩:=rds_fld (by omega) Inf.len s4.ri hx;have hl0:=hld 0 (by omega);simp only[Inf.cells,List.getElem?_cons_succ,Z4,Z5,Zb] at hl0;have hik:S.ik (S.hd w).2=k:=by rw[HS.ik,hx];rfl
 by_cases dk:k=2
 ·simp only[ZG,↓reduceIte,ZA,ZB,ZC,e0,mbl,ZD,ZE,ZF,oD4.cells.ld,oW4.cells.ld,d9,d10,d6,s4.own.cells.ld,lk_some kt3 s4.mb f1,e1,g1',g2',and_self,hl0,dk]
  refine XX_of (setp_ok s4 w.2 (11,nb)) (fun res h7 hle7 hn=>?_);obtain ⟨k7,rfl,s7⟩:=hn;refine .ret ?_;simp only[ZG,↓reduceIte,ZA,ZB,ZC];refine hΨ _ _ (fin_ret (rv1 rfl ⟨(k04.mono (fun _ e=>e.elim)).trans k7,?_,?_⟩))
  ·rw[HS.hole,if_pos ⟨hl,by exact .inr (.inr ⟨d6,by omega⟩)⟩,f1];rfl
  ·rw[HS.hole,if_pos ⟨hl,by exact .inr (.inr ⟨d6,by omega⟩)⟩,f1];exact s7
 ·simp only[ZG,↓reduceIte,ZA,ZB,ZC,e0,mbl,ZD,ZE,ZF,oD4.cells.ld,oW4.cells.ld,d9,d10,d6,s4.own.cells.ld,e1,g1',g2',and_self,hl0,dk]
  refine hΨ _ _ (fin_ret (rv1 rfl ⟨k04.mono (fun _ e=>e.elim),?_,?_⟩))
  ·rw[HS.hole,if_neg (by rintro ⟨_,e⟩;rw[hik] at e;omega)];rfl
  ·rw[HS.hole,if_neg (by rintro ⟨_,e⟩;rw[hik] at e;omega)];exact s4
def HS.become (S:HS) (w x y:Int × Int):Int × HS :=
 if S.lies w/\(S.hd w).1=11/\S.sound x/\y≠w then (S.setp w.2 (12,0)).2.setp (w.2+1) x else (1,S)
theorem ceq_w {a1 a2 b1 b2:Int}:ceq [0,0] [.int .i64 a1,.int .i64 a2] [.int .i64 b1,.int .i64 b2]=some (decide (a1=b1/\a2=b2)):=by
 simp [ceq];rfl
set_option maxHeartbeats 1000000 in
theorem Become_ok (s:Hp h b L S) (w x:Int × Int) (hf:S.lies w->(S.hd w).1=11->S.sound x -> ∃ n y,S.fol n x=some y):Gets Try.prog 22 [.pointer (some ⟨b,0,none⟩),wv w,wv x] h (fun res h'=>Keep (Mine L) h h' /\
 ∃ y,(S.lies w/\(S.hd w).1=11/\S.sound x -> ∃ n,S.fol n x=some y)/\res = .ret (iv (S.become w x y).1)/\Hp h' b L (S.become w x y).2):=by
 refine Gets.of (keep:=false) hP (draw_ok hM) k22 (by rfl) (fun Ψ hΨ=>?_);have oW:=Own.new h 36 h.length [iv w.1,iv w.2];have k1:Keep (fun _=>False) h (h++[row 36 h.length [iv w.1,iv w.2]]):=Keep.push _ _ _;have l1:(h++[row 36 h.length [iv w.1,iv w.2]]).length=h.length+1:=by simp
 simp only[ZG,↓reduceIte,ZA,ZB,ZC,r22,YE,YC,YO,YA,YL,YX,YS,Ya,Yb,Yl,Yf,Yg,Yi,Ym,Yk,Yt,Yn,Yz,Yp,Yq,Yd,wv,mbl,ZD,ZE,ZF];generalize h++[row 36 h.length [iv w.1,iv w.2]]=h1 at oW k1 l1 ⊢;have oX:=Own.new h1 36 h1.length [iv x.1,iv x.2];have k2:Keep (fun _=>False) h1 (h1++[row 36 h1.length [iv x.1,iv x.2]]):=Keep.push _ _ _;have l2:(h1++[row 36 h1.length [iv x.1,iv x.2]]).length=h.length+2:=by simp [l1]
 generalize h1++[row 36 h1.length [iv x.1,iv x.2]]=h2 at oX k2 l2 ⊢;have oW2:=oW.keep k2 (fun e=>e);have k02:=k1.trans k2;simp only[ZG,↓reduceIte,ZA,ZB,ZC,oW2.cells.lds 0 2 (by simp),mbl,ZD,ZE,ZF];refine XX_of (Head_ok (s.keepF k02) w) (fun res h3 hle hn=>?_);obtain ⟨k3,rfl⟩:=hn;refine .ret ?_;have k03:=k02.trans k3;have oD:=Own.new h3 36 h3.length [iv 0,iv 0];have k4:Keep (fun _=>False) h3 (h3++[row 36 h3.length [iv 0,iv 0]]):=Keep.push _ _ _;simp only[ZG,↓reduceIte,ZA,ZB,ZC,wv,mbl,ZD,ZE,ZF];refine XH_own oD rfl (by simp [Value.cells]) rfl (fun h4 q1 q2 q3=>?_);have oD4:Own h4 h3.length 36 [iv (S.head w).1.1,iv (S.head w).1.2]:=by simpa [Value.cells] using q1
 have k34:Keep (fun _=>False) h3 h4:=k4.trans' q2 (fun c hc e=>by omega);have k24:=k3.trans k34;have k04:=k02.trans k24;have oW4:=oW2.keep k24 (fun e=>e);have oX4:=oX.keep k24 (fun e=>e)
 by_cases hl:S.lies w
 case neg =>
  have e0:S.head w=((0,0),1):=by rw[HS.head,if_neg hl]
  simp only[ZG,↓reduceIte,ZA,ZB,ZC,e0,mbl,ZD,ZE,ZF];have hno:∀ y,¬ (S.lies w/\(S.hd w).1=11/\S.sound x/\y≠w):=by intro y e;exact hl e.1
  refine hΨ _ _ (fin_ret (rv1 rfl ⟨k04.mono (fun _ e=>e.elim),w,?_,?_,?_⟩))
  ·intro e;exact absurd e.1 hl
  ·rw[HS.become,if_neg (hno w)];rfl
  ·rw[HS.become,if_neg (hno w)];exact s.keepF k04
 have e0:S.head w=(S.hd w,0):=by rw[HS.head,if_pos hl];rfl
 rw[e0] at oD4
 by_cases d11:(S.hd w).1=11
 case neg =>
  simp only[ZG,↓reduceIte,ZA,ZB,ZC,e0,mbl,ZD,ZE,ZF,oD4.cells.ld,d11];have hno:∀ y,¬ (S.lies w/\(S.hd w).1=11/\S.sound x/\y≠w):=by intro y e;exact d11 e.2.1
  refine hΨ _ _ (fin_ret (rv1 rfl ⟨k04.mono (fun _ e=>e.elim),w,?_,?_,?_⟩))
  ·intro e;exact absurd e.2.1 d11
  ·rw[HS.become,if_neg (hno w)];rfl
  ·rw[HS.become,if_neg (hno w)];exact s.keepF k04
 simp only[ZG,↓reduceIte,ZA,ZB,ZC,e0,mbl,ZD,ZE,ZF,oD4.cells.ld,d11,oX4.cells.lds 0 2 (by simp)];refine XX_of (sound_ok (s.keepF k04) x) (fun res h5 hle5 hn=>?_);obtain ⟨k5,rfl⟩:=hn;refine .ret ?_;have k05:=k04.trans k5;have oW5:=oW4.keep k5 (fun e=>e);have oX5:=oX4.keep k5 (fun e=>e)
 by_cases hs:S.sound x
 case neg =>
  simp only[ZG,↓reduceIte,ZA,ZB,ZC,hs,mbl,ZD,ZE,ZF];have hno:∀ y,¬ (S.lies w/\(S.hd w).1=11/\S.sound x/\y≠w):=by intro y e;exact hs e.2.2.1
  refine hΨ _ _ (fin_ret (rv1 rfl ⟨k05.mono (fun _ e=>e.elim),w,?_,?_,?_⟩))
  ·intro e;exact absurd e.2.2 hs
  ·rw[HS.become,if_neg (hno w)];rfl
  ·rw[HS.become,if_neg (hno w)];exact s.keepF k05
 simp only[ZG,↓reduceIte,ZA,ZB,ZC,hs,mbl,ZD,ZE,ZF,oX5.cells.lds 0 2 (by simp)];refine XX_of (Follow_ok (s.keepF k05) x (fun _=>hf hl d11 hs)) (fun res h6 hle6 hn=>?_);obtain ⟨k6,hn⟩:=hn;rw[if_pos hs] at hn;obtain ⟨n,y,hy,rfl⟩:=hn;refine .ret ?_;have k06:=k05.trans k6;have oY:=Own.new h6 36 h6.length [iv 0,iv 0];have k7:Keep (fun _=>False) h6 (h6++[row 36 h6.length [iv 0,iv 0]]):=Keep.push _ _ _;simp only[ZG,↓reduceIte,ZA,ZB,ZC,wv,mbl,ZD,ZE,ZF];refine XH_own oY rfl (by simp [Value.cells]) rfl (fun h7 p1 p2 p3=>?_);have oY7:Own h7 h6.length 36 [iv y.1,iv y.2]:=by simpa [Value.cells] using p1
 have k67:Keep (fun _=>False) h6 h7:=k7.trans' p2 (fun c hc e=>by omega);have k07:=k06.trans k67;have oW7:=(oW5.keep k6 (fun e=>e)).keep k67 (fun e=>e);have oX7:=(oX5.keep k6 (fun e=>e)).keep k67 (fun e=>e);have s7:=s.keepF k07
 by_cases hyw:y.1=w.1/\y.2=w.2
 ·have hyw':y=w:=Prod.ext hyw.1 hyw.2
  subst hyw';simp only[ZG,↓reduceIte,ZA,ZB,ZC,oY7.cells.lds 0 2 (by simp),oW7.cells.lds 0 2 (by simp),mbl,ZD,ZE,ZF,ceq_w,and_self];have hno:¬ (S.lies y/\(S.hd y).1=11/\S.sound x/\y≠y):=fun e=>e.2.2.2 rfl
  refine hΨ _ _ (fin_ret (rv1 rfl ⟨k07.mono (fun _ e=>e.elim),y,fun _=>⟨n,hy⟩,?_,?_⟩))
  ·rw[HS.become,if_neg hno];rfl
  ·rw[HS.become,if_neg hno];exact s7
 have hne:y≠w:=fun e=>hyw ⟨by rw[e],by rw[e]⟩
 have hyes:S.lies w/\(S.hd w).1=11/\S.sound x/\y≠w:=⟨hl,d11,hs,hne⟩
 have hin:=gx_in (xs:=S.now) (i:=w.2) (by have:(gx S.now w.2).1=11:=d11;omega);have hsz:=s.ws.ln;have hs2:=s.ws.sz;have hw1:IntKind.i64.wrap (w.2+1)=w.2+1:=i64w (by omega) (by omega);simp only[ZG,↓reduceIte,ZA,ZB,ZC,oY7.cells.lds 0 2 (by simp),oW7.cells.lds 0 2 (by simp),mbl,ZD,ZE,ZF,ceq_w,hyw,s7.own.cells.ld,oW7.cells.ld];refine XX_of (setp_ok s7 w.2 (12,0)) (fun res h8 hle8 hn=>?_);obtain ⟨k8,rfl,s8⟩:=hn;refine .ret ?_;have hh7:h.length+2<=h7.length:=by have:=(k24.trans (k5.trans (k6.trans k67))).len;omega
 have oW8:=oW7.keep k8 (by have:=s.c0 h.length (Z2 _);simp [Mine,this]);have oX8:=oX7.keep k8 (by have:=s.c0 h1.length (by omega);simp [Mine,this]);simp only[ZG,↓reduceIte,ZA,ZB,ZC,mbl,ZD,ZE,ZF,s8.own.cells.ld,oW8.cells.ld,hw1,oX8.cells.lds 0 2 (by simp)];refine XX_of (setp_ok s8 (w.2+1) x) (fun res h9 hle9 hn=>?_);obtain ⟨k9,rfl,s9⟩:=hn;refine .ret ?_;simp only[ZG,↓reduceIte,ZA,ZB,ZC];refine hΨ _ _ (fin_ret (rv1 rfl ⟨((k07.mono (fun _ e=>e.elim)).trans k8).trans k9,y,fun _=>⟨n,hy⟩,?_,?_⟩))
 ·rw[HS.become,if_pos hyes];rfl
 ·rw[HS.become,if_pos hyes];exact s9
end
end Go.S18

namespace Go.S18
open Go Go.Eng Go.Proofs Go.Chk
def HS.owords (S:HS) (w:Int × Int):List (Int × Int):=(List.range ((mget w.2 S.oldm).getD 0).toNat).map fun i:Nat=>gx S.old (w.2+(i:Int))
def HS.setold (S:HS) (i:Int) (x:Int × Int):HS:={ S with old:=S.old.set i.toNat x }
def HS.mov (S:HS):Nat->Int × Int->Option ((Int × Int) × Int × HS)
 | 0,_=>none
 | n+1,w =>
   if S.plain w then some (w,0,S) else if w.1=4/\(mget w.2 S.oldm).isSome=true then
    (if (gx S.old w.2).1=13 then some ((4,(gx S.old w.2).2),0,S) else if (gx S.old w.2).1=12 then S.mov n (gx S.old (w.2+1)) else
     if S.size-(S.now.length:Int)<((S.owords w).length:Int) then some ((0,0),12,S) else some ((4,S.now.length),0,(S.laid (S.owords w)).setold w.2 (13,S.now.length)))
   else some ((0,0),1,S)
def HS.OkOld (S:HS):Prop:=∀ k n,mget k S.oldm=some n->0<=k/\1<=n/\k+n<=S.old.length
section
variable {h:AH} {b:Nat} {L:Lay} {S:HS}
theorem Hp.setold (s:Hp h b L S) {h':AH} {i:Int} {x:Int × Int} (k:Keep (WOwns L.bs L.v0 L.v1) h h') (ws':WS h' L.bs S.size S.side L.v0 L.v1 S.now (S.old.set i.toNat x)):Hp h' b L (S.setold i x):=by
 have cb:∀ q,L.cls q≠2 -> ¬ WOwns L.bs L.v0 L.v1 q:=fun q a e=>a (s.c2 q e)
 exact ⟨s.own.keep k (cb b (by rw[s.c1];omega)),ws',s.ri.keep k (fun q e=>cb q (by rw[s.c6 q (.inl e)];omega)),s.rt.keep k (fun q e=>cb q (by rw[s.c6 q (.inr (.inl e))];omega)),s.rk.keep k (fun q e=>cb q (by rw[s.c6 q (.inr (.inr e))];omega)),
  s.mb.keep k (cb _ (by rw[s.c3];omega)),fun q e=>(s.mo q e).keep k (cb q (by rw[s.c4 q e];omega)),s.mo0,s.rg.keep k (fun q e=>cb q (by rw[s.c5 q e];omega)),s.c1,s.c2,s.c3,s.c4,s.c5,s.c6,fun q e=>s.c0 q (Za k.len e)⟩
theorem setold_ok (s:Hp h b L S) (i:Int) (x:Int × Int) (hi:0<=i/\i<S.old.length):Gets Try.prog 50 [.pointer (some ⟨L.bs,0,none⟩),iv i,wv x] h (fun res h'=>Keep (Mine L) h h'/\res = .ret (iv 0)/\Hp h' b L (S.setold i x)):=by
 refine (wSetOld_ok s.ws i x).mono (fun res h' hl ⟨k,hn⟩=>⟨k.mono (fun q e=>by rw[Mine,s.c2 q e];omega),?_⟩);rw[if_pos hi] at hn;exact ⟨hn.1,s.setold k hn.2⟩
theorem lk_old (s:Hp h b L S) (i:Int):bval Try.prog h (.lk 3 (.int .i64 0) true) (.map L.mo) (iv i)=some (.tuple #[iv ((mget i S.oldm).getD 0),.bool (mget i S.oldm).isSome],none):=by
 cases hm:L.mo with
 | none=>rw[s.mo0 hm];exact lk_nil kt3
 | some q =>
   cases hg:mget i S.oldm with
   | none=>exact lk_none kt3 (s.mo q hm) hg
   | some n=>exact lk_some kt3 (s.mo q hm) hg
set_option maxHeartbeats 2000000 in
theorem Move_ok (s:Hp h b L S) (hfr:mget S.now.length S.begins=none) (oo:S.OkOld) (w:Int × Int) {n:Nat} {r:(Int × Int) × Int × HS} (hmv:S.mov n w=some r):Gets Try.prog 26 [.pointer (some ⟨b,0,none⟩),wv w] h (fun res h'=>Keep (Mine L) h h' /\
 res = .ret (.tuple #[wv r.1,iv r.2.1]) /\ ∃ L',Hp h' b L' r.2.2/\Same h.length L L'):=by
 refine Gets.of (keep:=false) hP (draw_ok hM) k26 (by rfl) (fun Ψ hΨ=>?_);have oW:=Own.new h 36 h.length [iv w.1,iv w.2];have k1:Keep (fun _=>False) h (h++[row 36 h.length [iv w.1,iv w.2]]):=Keep.push _ _ _;have l1:(h++[row 36 h.length [iv w.1,iv w.2]]).length=h.length+1:=by simp
 simp only[ZG,↓reduceIte,ZA,ZB,ZC,r26,YE,YC,YO,YA,YL,YX,YS,Ya,Yb,Yl,Yf,Yg,Yi,Ym,Yk,Yt,Yn,Yz,Yp,Yq,Yd,wv,mbl,ZD,ZE,ZF];generalize h++[row 36 h.length [iv w.1,iv w.2]]=h1 at oW k1 l1 ⊢;have oR:=Own.new h1 36 h1.length [iv 0,iv 0];have k2:Keep (fun _=>False) h1 (h1++[row 36 h1.length [iv 0,iv 0]]):=Keep.push _ _ _;have l2:(h1++[row 36 h1.length [iv 0,iv 0]]).length=h.length+2:=by simp [l1]
 generalize h1++[row 36 h1.length [iv 0,iv 0]]=h2 at oR k2 l2 ⊢;have oW2:=oW.keep k2 (fun e=>e);have k02:=k1.trans k2;refine XLo_rule (α:=Nat × (Int × Int)) (fun a=>[(0,.pointer (some ⟨b,0,none⟩)),(3,.pointer (some ⟨h.length,0,none⟩)),(4,.pointer (some ⟨h1.length,0,none⟩)),(5,iv 0)])
  (fun a h'=>S.mov a.1 a.2=some r/\Keep (fun q=>q=h.length) h2 h'/\Own h' h.length 36 [iv a.2.1,iv a.2.2]) (fun a=>a.1) (n,w) ⟨hmv,.refl _ _,oW2⟩ ⟨rfl,rfl,rfl,rfl,trivial⟩ ?_
 rintro ⟨m,c1,c2⟩ h4 Ψ2 ⟨i1,kp,oC⟩ next out
 simp only at i1 oC;have k04:Keep (fun _=>False) h h4:=k02.trans' kp (fun c hc e=>by omega);have oR4:=oR.keep kp (fun e=>by omega);have hl4:h.length+2<=h4.length:=by have:=kp.len;omega
 cases m with
 | zero=>cases i1
 | succ m =>
 rw[HS.mov] at i1;have s4:=s.keepF k04;simp only[ZG,↓reduceIte,ZA,ZB,ZC,oC.cells.lds 0 2 (by simp),mbl,ZD,ZE,ZF];refine XX_of (plain_ok s4 (c1,c2)) (fun res h5 hle5 hn=>?_);obtain ⟨k5,rfl⟩:=hn;refine .ret ?_;have k05:=k04.trans k5;have s5:=s.keepF k05;have oC5:=oC.keep k5 (fun e=>e);have oR5:=oR4.keep k5 (fun e=>e)
 by_cases hpl:S.plain (c1,c2)
 ·rw[if_pos hpl] at i1
  cases i1;simp only[ZG,↓reduceIte,ZA,ZB,ZC,hpl,oC5.cells.lds 0 2 (by simp),mbl,ZD,ZE,ZF];refine XH_own oR5 rfl (by simp [Value.cells]) rfl (fun h6 t1 t2 t3=>?_);have oR6:Own h6 h1.length 36 [iv c1,iv c2]:=by simpa [Value.cells] using t1
  simp only[ZG,↓reduceIte,ZA,ZB,ZC];refine out .ret _ _ _ _ (by intro e;cases e) ?_;simp only[ZG,↓reduceIte,ZA,ZB,ZC];have kF:Keep (fun _=>False) h h6:=k05.trans' t2 (fun c hc e=>by omega);exact hΨ _ _ (fin_ret (rvw rfl oR6 rfl ⟨kF.mono (fun _ e=>e.elim),rfl,L,s.keepF kF,Same.refl _ _⟩))
 rw[if_neg hpl] at i1;have lko:=lk_old s5 c2;simp only[ZG,↓reduceIte,ZA,ZB,ZC,hpl,s5.own.cells.ld,oC5.cells.ld,mbl,ZD,ZE,ZF,lko]
 by_cases d4:c1=4
 case neg =>
  simp only[ZG,↓reduceIte,ZA,ZB,ZC,d4,mbl,ZD,ZE,ZF];rw[if_neg (by intro e;exact d4 e.1)] at i1;cases i1;refine XH_own oR5 rfl (by simp [Value.cells]) rfl (fun h6 t1 t2 t3=>?_);have oR6:Own h6 h1.length 36 [iv 0,iv 0]:=by simpa [Value.cells] using t1
  simp only[ZG,↓reduceIte,ZA,ZB,ZC];refine out .ret _ _ _ _ (by intro e;cases e) ?_;simp only[ZG,↓reduceIte,ZA,ZB,ZC];have kF:Keep (fun _=>False) h h6:=k05.trans' t2 (fun c hc e=>by omega);exact hΨ _ _ (fin_ret (rvw rfl oR6 rfl ⟨kF.mono (fun _ e=>e.elim),rfl,L,s.keepF kF,Same.refl _ _⟩))
 cases hg:mget c2 S.oldm with
 | none =>
   simp only[ZG,↓reduceIte,ZA,ZB,ZC,d4,hg,mbl,ZD,ZE,ZF,Option.isSome_none];rw[if_neg (by intro e;have:=e.2;simp only[hg] at this;cases this)] at i1;cases i1;refine XH_own oR5 rfl (by simp [Value.cells]) rfl (fun h6 t1 t2 t3=>?_);have oR6:Own h6 h1.length 36 [iv 0,iv 0]:=by simpa [Value.cells] using t1
   simp only[ZG,↓reduceIte,ZA,ZB,ZC];refine out .ret _ _ _ _ (by intro e;cases e) ?_;simp only[ZG,↓reduceIte,ZA,ZB,ZC];have kF:Keep (fun _=>False) h h6:=k05.trans' t2 (fun c hc e=>by omega);exact hΨ _ _ (fin_ret (rvw rfl oR6 rfl ⟨kF.mono (fun _ e=>e.elim),rfl,L,s.keepF kF,Same.refl _ _⟩))
 | some nb =>
 obtain ⟨f1,f2,f3⟩:=oo _ _ hg;have hlo:=s.ws.lo;have hsz:=s.ws.sz;rw[if_pos (show c1=4/\(mget c2 S.oldm).isSome=true from ⟨d4,by rw[hg];rfl⟩)] at i1;simp only[ZG,↓reduceIte,ZA,ZB,ZC,d4,hg,mbl,ZD,ZE,ZF,Option.isSome_some,Option.getD_some,s5.own.cells.ld,oC5.cells.ld];refine XX_of (wOld_ok s5.ws c2) (fun res h6 hle6 hn=>?_);obtain ⟨k6,rfl⟩:=hn;refine .ret ?_;have oD:=Own.new h6 36 h6.length [iv 0,iv 0];have k7:Keep (fun _=>False) h6 (h6++[row 36 h6.length [iv 0,iv 0]]):=Keep.push _ _ _;simp only[ZG,↓reduceIte,ZA,ZB,ZC,gw_eq,mbl,ZD,ZE,ZF];refine XH_own oD rfl (by simp [Value.cells]) rfl (fun h7 q1 q2 q3=>?_);have oD7:Own h7 h6.length 36 [iv (gx S.old c2).1,iv (gx S.old c2).2]:=by simpa [Value.cells] using q1
 have k57:Keep (fun _=>False) h5 h7:=(k6.trans k7).trans' q2 (fun c hc e=>by omega);have k07:=k05.trans k57;have oC7:=oC5.keep k57 (fun e=>e);have oR7:=oR5.keep k57 (fun e=>e);have s7:=s.keepF k07
 by_cases d13:(gx S.old c2).1=13
 ·rw[if_pos d13] at i1
  cases i1;simp only[ZG,↓reduceIte,ZA,ZB,ZC,oD7.cells.ld,mbl,ZD,ZE,ZF,d13];refine XH_own oR7 rfl (by simp [Value.cells]) rfl (fun h8 t1 t2 t3=>?_);have oR8:Own h8 h1.length 36 [iv 4,iv (gx S.old c2).2]:=by simpa [Value.cells] using t1
  simp only[ZG,↓reduceIte,ZA,ZB,ZC];refine out .ret _ _ _ _ (by intro e;cases e) ?_;simp only[ZG,↓reduceIte,ZA,ZB,ZC];have kF:Keep (fun _=>False) h h8:=k07.trans' t2 (fun c hc e=>by omega);exact hΨ _ _ (fin_ret (rvw rfl oR8 rfl ⟨kF.mono (fun _ e=>e.elim),rfl,L,s.keepF kF,Same.refl _ _⟩))
 rw[if_neg d13] at i1;have hw1:IntKind.i64.wrap (c2+1)=c2+1:=i64w (by omega) (by omega)
 by_cases d12:(gx S.old c2).1=12
 ·rw[if_pos d12] at i1
  simp only[ZG,↓reduceIte,ZA,ZB,ZC,oD7.cells.ld,mbl,ZD,ZE,ZF,d13,d12,s7.own.cells.ld,oC7.cells.ld,hw1];refine XX_of (wOld_ok s7.ws (c2+1)) (fun res h8 hle8 hn=>?_);obtain ⟨k8,rfl⟩:=hn;refine .ret ?_;have oC8:=oC7.keep k8 (fun e=>e);simp only[ZG,↓reduceIte,ZA,ZB,ZC,gw_eq,mbl,ZD,ZE,ZF];refine XH_own oC8 rfl (by simp [Value.cells]) rfl (fun h9 t1 t2 t3=>?_);simp only[ZG,↓reduceIte,ZA,ZB,ZC];exact next (m,gx S.old (c2+1)) _ _ _ ⟨i1,(kp.trans ((k5.trans (k57.trans k8)).mono (fun _ e=>e.elim))).trans t2,by simpa [Value.cells] using t1⟩ ⟨rfl,rfl,rfl,rfl,trivial⟩ (by simp)
 rw[if_neg d12] at i1;have hms:=mslw h7.length (n:=nb) (by omega) (by omega);have oL:=Own.new h7 36 h7.length (ww (fill nb.toNat (fun _=>(0,0)) 0));have k8:Keep (fun _=>False) h7 (h7++[row 36 h7.length (ww (fill nb.toNat (fun _=>(0,0)) 0))]):=Keep.push _ _ _;rw[fill_g _ _ (fun i:Nat=>gx S.old (c2+(i:Int)))] at hms oL k8;simp only[ZG,↓reduceIte,ZA,ZB,ZC,oD7.cells.ld,mbl,ZD,ZE,ZF,d13,d12,hms];generalize h7++[row 36 h7.length (ww (fill nb.toNat (fun i:Nat=>gx S.old (c2+(i:Int))) 0))]=h8 at oL k8 ⊢;have how:S.owords (c1,c2)=fill nb.toNat (fun i:Nat=>gx S.old (c2+(i:Int))) nb.toNat:=by rw[fill_end,HS.owords,hg];rfl
 rw[how,fill_len] at i1;have k08:=k07.trans k8;have oC8:=oC7.keep k8 (fun e=>e);have oR8:=oR7.keep k8 (fun e=>e);have hh7:h.length+2<=h7.length:=by have:=(k5.trans k57).len;omega
 generalize hN:nb.toNat=N at *;generalize hG:(fun i:Nat=>gx S.old (c2+(i:Int)))=g at *;have hgi:∀ i:Nat,gx S.old (c2+(i:Int))=g i:=fun i=>by rw[<- hG]
 refine XLo_rule (α:=Nat) (fun i=>[(0,.pointer (some ⟨b,0,none⟩)),(3,.pointer (some ⟨h.length,0,none⟩)),(4,.pointer (some ⟨h1.length,0,none⟩)),(5,iv 0),(10,.slice (some ⟨h7.length,0,none⟩) N N),(72,iv N),(73,iv i)])
  (fun i h'=>i<=N/\Keep (fun q=>q=h7.length) h8 h'/\Own h' h7.length 36 (ww (fill N g i))) (fun i=>N-i) 0 ⟨Z7 _,.refl _ _,oL⟩ ⟨rfl,rfl,rfl,rfl,rfl,rfl,rfl,trivial⟩ ?_
 rintro i h9 Ψ3 ⟨j1,kq,oL9⟩ next3 out3;have k09:Keep (fun _=>False) h h9:=k08.trans' kq (fun c hc e=>by omega);have oC9:=oC8.keep kq (fun e=>by omega);have oR9:=oR8.keep kq (fun e=>by omega);have s9:=s.keepF k09
 by_cases hi:(i:Int)<(N:Int)
 ·have h0:0<=(i:Int):=by omega
  have hw2:IntKind.i64.wrap ((i:Int)+1)=i+1:=i64w (by omega) (by omega);have hw3:IntKind.i64.wrap (c2+(i:Int))=c2+i:=i64w (by omega) (by omega);simp only[ZG,↓reduceIte,ZA,ZB,ZC,hi,s9.own.cells.ld,oC9.cells.ld,mbl,ZD,ZE,ZF,hw3];refine XX_of (wOld_ok s9.ws (c2+(i:Int))) (fun res ha hlea hn=>?_);obtain ⟨ka,rfl⟩:=hn;refine .ret ?_;have oLa:=oL9.keep ka (fun e=>e);simp only[ZG,↓reduceIte,ZA,ZB,ZC,gw_eq,mbl,ZD,ZE,ZF,h0,hi,and_self,Z0,Nat.zero_add];refine XH_own oLa rfl (by simp [Value.cells,ww_len,fill_len];omega) rfl (fun hb t1 t2 t3=>?_);simp only[ZG,↓reduceIte,ZA,ZB,ZC,hw2];refine next3 (i+1) _ _ _ ⟨by omega,(kq.trans (ka.mono (fun _ e=>e.elim))).trans t2,?_⟩ ⟨rfl,rfl,rfl,rfl,rfl,rfl,?_,trivial⟩ (by omega)
  ·have e:=wset (xs:=fill N g i) (x:=g i) (i:=i) (by rw[fill_len];omega)
   rw[fill_set] at e;rw[e,<- hgi]
   simpa [Value.cells,wc,ns] using t1
  ·simp only[Z6,Z3];rfl
 have hie:i=N:=by omega
 subst hie;simp only[ZG,↓reduceIte,ZA,ZB,ZC,hi];refine out3 (.exit 3) _ _ _ _ (by intro e;cases e) ?_;have rL:Rds h9 2 (.slice (some ⟨h7.length,0,none⟩) i i) (fill i g i).length (ww (fill i g i)):=by
  rw[fill_len];exact .mk oL9.cells (by rw[ww_len,fill_len];omega) (by rw[List.drop_zero,List.take_of_length_le (by rw[ww_len,fill_len];omega)])
 simp only[ZG,↓reduceIte,ZA,ZB,ZC];refine XX_of (lay_all s9 hfr rL) (fun res ha hlea hn=>?_);obtain ⟨ka,w',e',S',L',rfl,sa,sm,hres⟩:=hn;refine .ret ?_;have hh9:h.length+2<=h9.length:=by have:=(k5.trans (k57.trans (k8.trans' kq (fun c hc e=>by omega)))).len;omega
 have zC:¬ Mine L h.length:=by have:=s.c0 h.length (Z2 _);simp [Mine,this]
 have zR:¬ Mine L h1.length:=by have:=s.c0 h1.length (by omega);simp [Mine,this]
 have oCa:=oC9.keep ka zC;have oRa:=oR9.keep ka zR;have oT:=Own.new ha 36 ha.length [iv 0,iv 0];have kb:Keep (fun _=>False) ha (ha++[row 36 ha.length [iv 0,iv 0]]):=Keep.push _ _ _;simp only[ZG,↓reduceIte,ZA,ZB,ZC,wv,mbl,ZD,ZE,ZF];refine XH_own oT rfl (by simp [Value.cells]) rfl (fun hb q1b q2b q3b=>?_);have oTb:Own hb ha.length 36 [iv w'.1,iv w'.2]:=by simpa [Value.cells] using q1b
 have kab:Keep (fun _=>False) ha hb:=kb.trans' q2b (fun c hc e=>by omega);have oCb:=oCa.keep kab (fun e=>e);have oRb:=oRa.keep kab (fun e=>e);have sb:=sa.keepF kab;have k0b:Keep (Mine L) h hb:=((k09.mono (fun _ e=>e.elim)).trans ka).trans (kab.mono (fun _ e=>e.elim));rw[fill_len] at hres
 by_cases hroom:S.size-(S.now.length:Int)<(i:Int)
 ·rw[if_pos hroom] at i1 hres
  cases i1;cases hres;simp only[ZG,↓reduceIte,ZA,ZB,ZC,mbl,ZD,ZE,ZF,oTb.cells.lds 0 2 (by simp)];refine XH_own oRb rfl (by simp [Value.cells]) rfl (fun hc t1 t2 t3=>?_);have oRc:Own hc h1.length 36 [iv 0,iv 0]:=by simpa [Value.cells] using t1
  simp only[ZG,↓reduceIte,ZA,ZB,ZC];refine out .ret _ _ _ _ (by intro e;cases e) ?_;simp only[ZG,↓reduceIte,ZA,ZB,ZC];have z':L'.cls h1.length=0:=(sm _ (by omega)).2 (s.c0 _ (by omega));exact hΨ _ _ (fin_ret (rvw rfl oRc rfl ⟨k0b.trans' t2 (fun c hc e=>by omega),rfl,L',sb.keep t2 (fun q hq e=>hq (by rw[e];exact z')),fun q hq=>sm q (by omega)⟩))
 ·rw[if_neg hroom] at i1 hres
  cases i1;cases hres;simp only[ZG,↓reduceIte,ZA,ZB,ZC,mbl,ZD,ZE,ZF,oTb.cells.lds 0 2 (by simp),oTb.cells.ld,sb.own.cells.ld,oCb.cells.ld];refine XX_of (setold_ok sb c2 (13,(S.now.length:Int)) (by show 0<=c2/\c2<(S.old.length:Int);omega)) (fun res hc hlec hn=>?_);obtain ⟨kc,rfl,sc⟩:=hn;refine .ret ?_;have z':∀ q,h.length<=q->q<h9.length->L'.cls q=0:=fun q a c=>(sm _ c).2 (s.c0 _ a)
  have zt:L'.cls ha.length=0:=sa.c0 _ (Z2 _);have oTc:=oTb.keep kc (by simp [Mine,zt]);have oRc:=oRb.keep kc (by have:=z' h1.length (by omega) (by omega);simp [Mine,this]);simp only[ZG,↓reduceIte,ZA,ZB,ZC,mbl,ZD,ZE,ZF,oTc.cells.lds 0 2 (by simp)];refine XH_own oRc rfl (by simp [Value.cells]) rfl (fun hd t1 t2 t3=>?_);have oRd:Own hd h1.length 36 [iv 4,iv S.now.length]:=by simpa [Value.cells] using t1
  simp only[ZG,↓reduceIte,ZA,ZB,ZC];refine out .ret _ _ _ _ (by intro e;cases e) ?_;simp only[ZG,↓reduceIte,ZA,ZB,ZC];refine hΨ _ _ (fin_ret (rvw rfl oRd rfl ⟨?_,rfl,L',?_,fun q hq=>sm q (by omega)⟩))
  ·refine (k0b.trans' kc (fun c hc e=>?_)).trans' t2 (fun c hc e=>by omega)
   intro e0;exact e ((sm _ (by omega)).2 e0)
  ·exact sc.keep t2 (fun q hq e=>hq (by rw[e];exact z' _ (by omega) (by omega)))
end
end Go.S18

namespace Go.S18
open Go Go.Eng Go.Proofs Go.Chk
theorem blocks_on {C:Cx} {F:Nat}:∀ (l:List Inf) {p:Nat} {e:List Nat} {r:Nat},p<=C.code.length->blocks C F l p=some (e,r)->p+l.length<=r/\r<=C.code.length /\ ∀ i∈l,0<=i.f:=by
 intro l
 induction l with
 | nil=>intro p e r hp h;simp only[blocks,Z8.injEq,Prod.mk.injEq] at h;obtain ⟨_,rfl⟩:=h;simp;exact hp
 | cons i l ih =>
   intro p e r hp h;simp only[blocks] at h
   split at h
   case isFalse=>cases h
   rename_i hi
   split at h
   case h_2=>cases h
   rename_i q hq
   split at h
   case h_2=>cases h
   rename_i e' r' hb
   simp only[Z8.injEq,Prod.mk.injEq] at h;obtain ⟨_,rfl⟩:=h;obtain ⟨a1,a2⟩:=expr_on (C:=C) F i.a p q hq;obtain ⟨b1,b2,b3⟩:=ih a2 hb;refine ⟨by simp;omega,b2,fun j hj=>?_⟩
   rcases List.mem_cons.1 hj with rfl|hj
   ·exact hi.2.1
   ·exact b3 j hj
theorem ends_some {C:Cx} (h:(ends C).isSome=true):headOk C/\consOk C/\topsOk C/\C.infos.length<=200000 /\ ∀ i∈C.infos,0<=i.f:=by
 unfold ends at h
 split at h
 case isFalse=>cases h
 rename_i hc
 split at h
 case h_2=>cases h
 rename_i e r hb
 obtain ⟨b1,b2,b3⟩:=blocks_on _ (Z7 _) hb;have:=hc.1.2.2.2;exact ⟨hc.1,hc.2.1,hc.2.2,by omega,b3⟩
theorem wat_app {a c:List (Int × Int)} {i:Int} (h:i.toNat<a.length):wat (a++c) i=wat a i:=by
 rw[wat,wat,List.getElem?_append_left h]
theorem mget_laid {S:HS} {ys:List (Int × Int)} (k:Int):mget k (S.laid ys).begins=match mget k S.begins with
 | some v=>some v
 | none=>if (S.now.length:Int)=k then some (ys.length:Int) else none:=by
 show mget k (S.begins++[((S.now.length:Int),(ys.length:Int))])=_
 rw[mget_app];rfl
theorem HS.Ok.laid {S:HS} (o:S.Ok) {ys:List (Int × Int)} (h0:1<=ys.length) (h6:(wat ys 0).1=6->0<=(wat ys 0).2/\(wat ys 0).2<S.infos.length/\0<=S.fr (wat ys 0).2/\S.fr (wat ys 0).2<ys.length):(S.laid ys).Ok:=by
 have e:∀ k n,mget k (S.laid ys).begins=some n->(mget k S.begins=some n)\/(k=S.now.length/\n=ys.length):=by
  intro k n h;rw[mget_laid] at h
  split at h
  ·left;rename_i v hv;rw[hv];exact h
  ·split at h
   ·rename_i c;right;exact ⟨c.symm,by cases h;rfl⟩
   ·cases h
 refine ⟨fun k n h=>?_,fun k n h=>?_⟩
 ·rcases e k n h with h|⟨h1,h2⟩
  ·have:=o.bw k n h
   simp [HS.laid];omega
  ·simp [HS.laid];omega
 ·rcases e k n h with h|⟨h1,h2⟩
  ·have hb:=o.bw k n h
   have:wat (S.laid ys).now k=wat S.now k:=wat_app (by omega);rw[this];exact o.hi k n h
  ·subst h1;subst h2
   have:wat (S.laid ys).now S.now.length=wat ys 0:=by
    show wat (S.now++ys) S.now.length=_
    rw[wat,wat,Z0,List.getElem?_append_right (Z2 _),Nat.sub_self];rfl
   rw[this];exact h6
theorem HS.Ok.put {S:HS} (o:S.Ok) (hd:Int × Int) (ys:List (Int × Int)) (hf:∀ i∈S.infos,0<=i.f):(S.put hd ys).2.2.Ok:=by
 unfold HS.put
 split
 case isFalse=>exact o
 split
 ·exact o
 rename_i c _
 have hw:wat (S.all hd ys) 0=hd:=by unfold HS.all;split<;>rfl
 have hl:ys.length+1<=(S.all hd ys).length:=by unfold HS.all;split<;>simp
 refine o.laid (by omega) ?_;rw[hw];intro h6;obtain ⟨c1,c2⟩:=c
 rcases c1 with c1|c1|c1|c1|c1
 ·refine ⟨by omega,by omega,by omega,by omega⟩
 all_goals omega
def HS.gl (S:HS) (k:Nat):Option HS :=
 if S.ik k=2 then (if (S.put (6,(k:Int)) []).2.1=0 then some { (S.put (6,(k:Int)) []).2.2 with globals:=S.globals++[(S.put (6,(k:Int)) []).1] } else none) else some { S with globals:=S.globals++[(3,(k:Int))] }
def HS.gls (S:HS):Nat->Option HS
 | 0=>some S
 | n+1=>(S.gls n).bind fun S=>S.gl n
def HS.start (C:Cx) (texts:List ByteArray) (words:Int):HS:={ infos:=C.infos,texts:=texts,cons:=C.cons,now:=[],old:=[],begins:=[],oldm:=[],globals:=[],size:=words,side:=0 }
theorem put_img (S:HS) (hd:Int × Int) (ys:List (Int × Int)):(S.put hd ys).2.2.infos=S.infos/\(S.put hd ys).2.2.texts=S.texts/\(S.put hd ys).2.2.cons=S.cons/\(S.put hd ys).2.2.size=S.size/\(S.put hd ys).2.2.globals=S.globals/\(S.put hd ys).2.2.oldm=S.oldm/\(S.put hd ys).2.2.old=S.old:=by
 unfold HS.put
 split
 ·split<;>exact ⟨rfl,rfl,rfl,rfl,rfl,rfl,rfl⟩
 ·exact ⟨rfl,rfl,rfl,rfl,rfl,rfl,rfl⟩
theorem gl_img {S S':HS} {k:Nat} (h:S.gl k=some S'):S'.infos=S.infos/\S'.texts=S.texts/\S'.cons=S.cons/\S'.size=S.size/\S'.globals.length=S.globals.length+1/\S'.oldm=S.oldm/\S'.old=S.old:=by
 unfold HS.gl at h;obtain ⟨a,b,c,d,e,f,g⟩:=put_img S (6,(k:Int)) []
 split at h
 ·split at h
  ·cases h;exact ⟨a,b,c,d,by simp,f,g⟩
  ·cases h
 ·cases h;exact ⟨rfl,rfl,rfl,rfl,by simp,rfl,rfl⟩
theorem gls_img {S:HS}:∀ {n:Nat} {S':HS},S.gls n=some S'->S'.infos=S.infos/\S'.texts=S.texts/\S'.cons=S.cons/\S'.size=S.size/\S'.globals.length=S.globals.length+n/\S'.oldm=S.oldm/\S'.old=S.old:=by
 intro n
 induction n with
 | zero=>intro S' h;cases h;exact ⟨rfl,rfl,rfl,rfl,rfl,rfl,rfl⟩
 | succ n ih =>
   intro S' h;rw[HS.gls] at h;obtain ⟨T,h1,h2⟩:=Option.bind_eq_some_iff.1 h;obtain ⟨a,b,c,d,e,f,g⟩:=ih h1;obtain ⟨a',b',c',d',e',f',g'⟩:=gl_img h2;exact ⟨a'.trans a,b'.trans b,c'.trans c,d'.trans d,by omega,f'.trans f,g'.trans g⟩
theorem HS.Ok.start (C:Cx) (texts:List ByteArray) (words:Int):(HS.start C texts words).Ok:=by
 refine ⟨?_,?_⟩
 ·intro k n h;cases h
 ·intro k n h;cases h
end Go.S18

namespace Go.S18
open Go Go.Eng Go.Proofs Go.Chk
section
variable {h:AH} {b:Nat} {L:Lay} {S:HS} {C:Cx} {vi vc vt vp vk:Value}
theorem Hp.appg {h h':AH} {b:Nat} {L:Lay} {S:HS} (s:Hp h b L S) {v:Value} {ys:List (Int × Int)} (k:Keep (fun q=>q=b\/bk L.vg q) h h') (ho:Own h' b 71 [.pointer (some ⟨L.bs,0,none⟩),L.vi,.slice none 0 0,L.vt,.slice none 0 0,iv 0,L.vk,.map (some L.mb),.map L.mo,v])
 (hv:Ows h' 36 2 v ys.length (ww ys)) (hq:∀ q,bk v q->bk L.vg q\/h.length<=q):∃ L',Hp h' b L' { S with globals:=ys }/\Same h.length L L':=by
 classical
 have hx:∀ q,L.cls q≠1->L.cls q≠5 -> ¬ (q=b\/bk L.vg q):=fun q e f c=>c.elim (fun c=>e (by rw[c];exact s.c1)) (fun c=>f (s.c5 q c))
 have nb:∀ q,L.cls q≠0->L.cls q≠5 -> ¬ bk v q:=fun q e f c=>(hq q c).elim (fun a=>f (s.c5 q a)) (fun a=>e (s.c0 q a))
 refine ⟨{ L with vg:=v,cls:=fun q=>if bk v q then 5 else L.cls q },⟨ho,s.ws.keep k (fun q e=>hx q (by rw[s.c2 q e];omega) (by rw[s.c2 q e];omega)),s.ri.keep k (fun q e=>hx q (by rw[s.c6 q (.inl e)];omega) (by rw[s.c6 q (.inl e)];omega)),s.rt.keep k (fun q e=>hx q (by rw[s.c6 q (.inr (.inl e))];omega) (by rw[s.c6 q (.inr (.inl e))];omega)),s.rk.keep k (fun q e=>hx q (by rw[s.c6 q (.inr (.inr e))];omega) (by rw[s.c6 q (.inr (.inr e))];omega)),
  s.mb.keep k (hx _ (by rw[s.c3];omega) (by rw[s.c3];omega)),fun q e=>(s.mo q e).keep k (hx q (by rw[s.c4 q e];omega) (by rw[s.c4 q e];omega)),s.mo0,hv,?_,?_,?_,?_,?_,?_,?_⟩,?_⟩
 ·simp only;rw[if_neg (nb _ (by rw[s.c1];omega) (by rw[s.c1];omega))];exact s.c1
 ·intro q e;simp only;rw[if_neg (nb _ (by rw[s.c2 q e];omega) (by rw[s.c2 q e];omega))];exact s.c2 q e
 ·simp only;rw[if_neg (nb _ (by rw[s.c3];omega) (by rw[s.c3];omega))];exact s.c3
 ·intro q e;simp only;rw[if_neg (nb _ (by rw[s.c4 q e];omega) (by rw[s.c4 q e];omega))];exact s.c4 q e
 ·intro q e;simp only;rw[if_pos e]
 ·intro q e;simp only;rw[if_neg (nb _ (by rw[s.c6 q e];omega) (by rw[s.c6 q e];omega))];exact s.c6 q e
 ·intro q e;simp only
  by_cases c:bk v q
  ·have:=hv.lt q c;omega
  ·rw[if_neg c];exact s.c0 q (Za k.len e)
 ·intro q e;simp only
  by_cases c:bk v q
  ·rcases hq q c with a|a
   ·rw[if_pos c,s.c5 q a]
   ·omega
  ·rw[if_neg c]
theorem gls_none {S:HS} {i:Nat} (h:S.gls i=none):∀ {n:Nat},i<=n->S.gls n=none:=by
 intro n
 induction n with
 | zero=>intro hn;have:i=0:=by omega
         subst this;exact h
 | succ n ih =>
   intro hn
   rcases Nat.lt_or_eq_of_le hn with e|e
   ·rw[HS.gls,ih (by omega)];rfl
   ·rw[<- e];exact h
def NewO (h:AH) (C:Cx) (texts:List ByteArray) (words:Int) (res:Res) (h':AH):Prop :=
 if (ends C).isSome=true/\0<=words/\words<=262144 then (match (HS.start C texts words).gls C.tops.length with
  | some S=>∃ b L,res = .ret (.tuple #[.pointer (some ⟨b,0,none⟩),iv 0])/\Hp h' b L S /\ ∀ q,q<h.length->L.cls q=0
  | none=>res = .ret (.tuple #[.pointer none,iv 12]))
 else res = .ret (.tuple #[.pointer none,iv (if (ends C).isSome=true then 1 else 7)])
set_option maxHeartbeats 4000000 in
theorem New_ok (im:Img h C vi vc vt vp vk) (fit:Cx.fits C) {texts:List ByteArray} (rt:Rds h 1 vt texts.length (sts texts)) (ht:texts.length*16<=140737488355328) (hk:C.cons.length*8<=140737488355328) (words:Int) :
 Gets Try.prog 11 [.agg #[vi,vc,vt,vp,iv C.main,vk],iv words] h (fun res h'=>Keep (fun _=>False) h h'/\NewO h C texts words res h'):=by
 refine Gets.of (keep:=false) hP (draw_ok hM) k11 (by rfl) (fun Ψ hΨ=>?_);obtain ⟨ia,ic,hvi⟩:=row_shape im.ri;have oI:=Own.new h 27 h.length [vi,vc,vt,vp,iv C.main,vk];have k1:Keep (fun _=>False) h (h++[row 27 h.length [vi,vc,vt,vp,iv C.main,vk]]):=Keep.push _ _ _;have l1:(h++[row 27 h.length [vi,vc,vt,vp,iv C.main,vk]]).length=h.length+1:=by simp
 simp only[ZG,↓reduceIte,ZA,ZB,ZC,r11,YE,YC,YO,YA,YL,YX,YS,Ya,Yb,Yl,Yf,Yg,Yi,Ym,Yk,Yt,Yn,Yz,Yp,Yq,Yd,mbl,ZD,ZE,ZF];generalize h++[row 27 h.length [vi,vc,vt,vp,iv C.main,vk]]=h1 at oI k1 l1 ⊢;simp only[ZG,↓reduceIte,ZA,ZB,ZC,oI.cells.lds 0 6 (by simp),mbl,ZD,ZE,ZF];refine XX_of (Check_ok (im.keep k1 (fun _ _ e=>e)) fit) (fun res h2 hle hn=>?_);obtain ⟨k2,rfl⟩:=hn;refine .ret ?_;have k02:=k1.trans k2
 by_cases hends:(ends C).isSome=true
 case neg =>
  simp only[ZG,↓reduceIte,ZA,ZB,ZC,hends,mbl,ZD,ZE,ZF];refine hΨ _ _ (fin_ret (rv2 rfl rfl ⟨k02,?_⟩));unfold NewO;rw[if_neg (fun e=>hends e.1),if_neg hends];rfl
 have oI2:=oI.keep k2 (fun e=>e)
 by_cases w0:words<0
 ·simp only[ZG,↓reduceIte,ZA,ZB,ZC,hends,mbl,ZD,ZE,ZF,w0]
  refine hΨ _ _ (fin_ret (rv2 rfl rfl ⟨k02,?_⟩));unfold NewO;rw[if_neg (fun e=>by omega),if_pos hends];rfl
 by_cases w1:(262144:Int)<words
 ·simp only[ZG,↓reduceIte,ZA,ZB,ZC,hends,mbl,ZD,ZE,ZF,w0,w1]
  refine hΨ _ _ (fin_ret (rv2 rfl rfl ⟨k02,?_⟩));unfold NewO;rw[if_neg (fun e=>by omega),if_pos hends];rfl
 obtain ⟨hH,hC,hT,hI,hF⟩:=ends_some hends;simp only[ZG,↓reduceIte,ZA,ZB,ZC,hends,mbl,ZD,ZE,ZF,w0,w1];refine XX_of (wNew_ok h2 words (by omega)) (fun res h3 hle3 hn=>?_);obtain ⟨rfl,k3,l3,ws3⟩:=hn;refine .ret ?_;have oI3:=oI2.keep k3 (fun e=>e);have k4:Keep (fun _=>False) h3 (h3++[Blk.map []]):=Keep.push _ _ _;have m4:MOwn (h3++[Blk.map []]) h3.length []:=.new h3;have l4:(h3++[Blk.map []]).length=h3.length+1:=by simp
 simp only[ZG,↓reduceIte,ZA,ZB,ZC,mbl,ZD,ZE,ZF];generalize h3++[Blk.map []]=h4 at k4 m4 l4 ⊢;have oB:=Own.new h4 71 h4.length [.pointer (some ⟨h2.length,0,none⟩),.slice none 0 0,.slice none 0 0,.slice none 0 0,.slice none 0 0,iv 0,.slice none 0 0,.map (some h3.length),.map none,.slice none 0 0];have k5:Keep (fun _=>False) h4 (h4++[row 71 h4.length [.pointer (some ⟨h2.length,0,none⟩),.slice none 0 0,.slice none 0 0,.slice none 0 0,.slice none 0 0,iv 0,.slice none 0 0,.map (some h3.length),.map none,.slice none 0 0]]):=Keep.push _ _ _;have l5:(h4++[row 71 h4.length [.pointer (some ⟨h2.length,0,none⟩),.slice none 0 0,.slice none 0 0,.slice none 0 0,.slice none 0 0,iv 0,.slice none 0 0,.map (some h3.length),.map none,.slice none 0 0]]).length=h4.length+1:=by simp
 generalize h4++[row 71 h4.length [.pointer (some ⟨h2.length,0,none⟩),.slice none 0 0,.slice none 0 0,.slice none 0 0,.slice none 0 0,iv 0,.slice none 0 0,.map (some h3.length),.map none,.slice none 0 0]]=h5 at oB k5 l5 ⊢;have oI5:=(oI3.keep k4 (fun e=>e)).keep k5 (fun e=>e);have k05:=((k02.trans k3).trans k4).trans k5;have im5:=im.keep k05 (fun _ _ e=>e);simp only[ZG,↓reduceIte,ZA,ZB,ZC,mbl,ZD,ZE,ZF,oI5.cells.ld];refine XX_of (cloneInfos_ok im5.ri (rowsOf_one _) (by omega)) (fun res h6 hle6 hn=>?_);obtain ⟨k6,ui,rfl,oi6,hqi⟩:=hn;refine .ret ?_;have oI6:=oI5.keep k6 (fun e=>e);have k06:=k05.trans k6;simp only[ZG,↓reduceIte,ZA,ZB,ZC,mbl,ZD,ZE,ZF,oI6.cells.ld,ct1,Zc,Ze,Nat.reduceBEq,Bool.or_true,Bool.true_or,Bool.or_false,Bool.false_or];refine XX_of (cloneTexts_ok (rt.keep k06 (fun _ _ e=>e)) (by simp [sts,Value.oneCell']) ht) (fun res h7 hle7 hn=>?_);obtain ⟨k7,ut,rfl,ot7,hqt⟩:=hn;refine .ret ?_;have oI7:=oI6.keep k7 (fun e=>e);have k07:=k06.trans k7;simp only[ZG,↓reduceIte,ZA,ZB,ZC,mbl,ZD,ZE,ZF,oI7.cells.ld,ct1,Zc,Ze,Nat.reduceBEq,Bool.or_true,Bool.true_or,Bool.or_false,Bool.false_or];refine XX_of (cloneInts_ok (im.keep k07 (fun _ _ e=>e)).rk (ns_one _) hk) (fun res h8 hle8 hn=>?_);obtain ⟨k8,uk,rfl,ok8,hqk⟩:=hn;refine .ret ?_;have oI8:=oI7.keep k8 (fun e=>e);have k08:=k07.trans k8;have oB8:=((oB.keep k6 (fun e=>e)).keep k7 (fun e=>e)).keep k8 (fun e=>e);obtain ⟨ia',ic',hui⟩:=row_shape oi6.rds;obtain ⟨ta',tc',hut⟩:=row_shape ot7.rds;obtain ⟨ka',kc',huk⟩:=row_shape ok8.rds;rw[hui,hut,huk];simp only[ZG,↓reduceIte,ZA,ZB,ZC,mbl,ZD,ZE,ZF];refine XH_own oB8 rfl (by simp [Value.cells]) rfl (fun h9 q1 q2 q3=>?_);rw[<- hui,<- hut,<- huk] at q1;have oB9:Own h9 h4.length 71 [.pointer (some ⟨h2.length,0,none⟩),ui,.slice none 0 0,ut,.slice none 0 0,iv 0,uk,.map (some h3.length),.map none,.slice none 0 0]:=by
  rw[hui,hut,huk] at q1 ⊢
  simpa [Value.cells] using q1
 have hh5:h.length+4<=h5.length:=by have:=k02.len;have:=k2.len;omega
 have hlB:h.length+3<=h4.length:=by have:=k2.len;omega
 have k59:Keep (fun q=>q=h4.length) h5 h9:=((k6.trans (k7.trans k8)).mono (fun _ e=>e.elim)).trans q2;have k09:Keep (fun _=>False) h h9:=k08.trans' q2 (fun c hc e=>by omega);have oI9:=oI8.keep q2 (fun e=>by omega);have im9:=im.keep k09 (fun _ _ e=>e);have s9:∃ L,Hp h9 h4.length L (HS.start C texts words) /\ ∀ q,q<h.length+1->L.cls q=0:=by
  classical
  have hl2:h.length+1<=h2.length:=by have:=k2.len;omega
  have hl59:h5.length<=h9.length:=k59.len;have hl68:h6.length<=h9.length:=by have:=k7.len;have:=k8.len;omega
  have hl79:h7.length<=h9.length:=by have:=k8.len;omega
  have nq:∀ q,bk ui q\/bk ut q\/bk uk q->h5.length<=q/\q<h9.length:=by
   rintro q (e|e|e)
   ·have:=hqi q e;omega
   ·have:=hqt q e;have:=k6.len;omega
   ·have:=hqk q e;have:=k6.len;have:=k7.len;omega
  refine ⟨⟨h2.length,.slice none 0 0,.slice none 0 0,ui,ut,uk,h3.length,none,.slice none 0 0,fun q=>if q=h4.length then 1 else if q=h2.length then 2 else if q=h3.length then 3 else if bk ui q\/bk ut q\/bk uk q then 6 else 0⟩,⟨oB9,?_,?_,?_,?_,?_,?_,fun _=>rfl,.nil,?_,?_,?_,?_,?_,?_,?_⟩,?_⟩
  ·have w5:=(ws3.keep k4 (fun _ _ e=>e)).keep k5 (fun _ _ e=>e)
   exact w5.keep k59 (fun q e o=>by
    rcases e with e|e|e
    ·omega
    ·exact e.elim
    ·exact e.elim)
  ·exact ((oi6.keep k7 (fun _ _ e=>e)).keep k8 (fun _ _ e=>e)).keep q2 (fun q e o=>by have:=hqi q e;omega) |>.rds
  ·exact (ot7.keep k8 (fun _ _ e=>e)).keep q2 (fun q e o=>by have:=hqt q e;have:=k6.len;omega) |>.rds
  ·exact ok8.keep q2 (fun q e o=>by have:=hqk q e;have:=k6.len;have:=k7.len;omega) |>.rds
  ·exact (m4.keep k5 (fun e=>e)).keep k59 (fun e=>by omega)
  ·intro q e;cases e
  ·simp
  ·rintro q (e|e|e)
   ·have e2:q=h2.length:=e
    simp only;rw[if_neg (by omega),if_pos e2]
   ·exact e.elim
   ·exact e.elim
  ·simp only;rw[if_neg (by omega),if_neg (by omega)];simp
  ·intro q e;cases e
  ·intro q e;exact e.elim
  ·intro q e
   have e':bk ui q\/bk ut q\/bk uk q:=e.imp rb.bk (Or.imp rb.bk rb.bk);have:=nq q e';simp only;rw[if_neg (by omega),if_neg (by omega),if_neg (by omega),if_pos e']
  ·intro q e
   simp only;rw[if_neg (by omega),if_neg (by omega),if_neg (by omega),if_neg (fun e'=>by have:=nq q e';omega)]
  ·intro q e
   simp only;rw[if_neg (by omega),if_neg (by omega),if_neg (by omega),if_neg (fun e'=>by have:=nq q e';omega)]
 obtain ⟨L9,s9,z9⟩:=s9;obtain ⟨pa,pc,hvp⟩:=row_shape im.rp;simp only[ZG,↓reduceIte,ZA,ZB,ZC,oI9.cells.ld,mbl,ZD,ZE,ZF,hvp];have hcond:(ends C).isSome=true/\0<=words/\words<=262144:=⟨hends,by omega,by omega⟩
 have hpl:C.tops.length<=200000:=by have:=hH.2.2.1;omega
 refine XLo_rule (α:=Nat × HS × Lay) (fun a=>[(2,.pointer (some ⟨h.length,0,none⟩)),(4,.pointer none),(5,iv 0),(9,.pointer (some ⟨h4.length,0,none⟩)),(48,.slice pa C.tops.length pc),(49,iv C.tops.length),(50,iv a.1)])
  (fun a h'=>a.1<=C.tops.length/\(HS.start C texts words).gls a.1=some a.2.1/\Hp h' h4.length a.2.2 a.2.1/\a.2.1.Ok/\(∀ q,q<h.length+1->a.2.2.cls q=0)/\Keep (fun _=>False) h h'/\Own h' h.length 27 [vi,vc,vt,vp,iv C.main,vk]) (fun a=>C.tops.length-a.1) (0,HS.start C texts words,L9)
  ⟨Z7 _,rfl,s9,.start _ _ _,z9,k09,oI9⟩ ⟨rfl,rfl,rfl,rfl,rfl,rfl,rfl,trivial⟩ ?_
 rintro ⟨i,S,L⟩ ha Ψ2 ⟨i1,i2,i3,i4,i5,i6,i7⟩ next out
 simp only at i1 i2 i3 i4 i5
 by_cases hi:(i:Int)<(C.tops.length:Int)
 ·have h0:0<=(i:Int):=by omega
  have hwi:IntKind.i64.wrap ((i:Int)+1)=i+1:=i64w (by omega) (by omega);have hil:i<C.tops.length:=by omega
  obtain ⟨t1,t2⟩:=hT i hil;have ima:=im.keep i6 (fun _ _ e=>e);obtain ⟨b1,o1,c1,e1,_,hld⟩:=rds_ix ima.rp h0 (by rw[Z0];exact t1);rw[hvp] at e1;cases e1;rw[Z0] at hld;have hii:i<C.infos.length:=by have:=hH.2.2.1;omega
  obtain ⟨⟨ik,ia2,iff',ic2⟩,hx⟩:∃ x,C.infos[i]?=some x:=⟨_,Z1 hii⟩
  rw[hx] at t2;simp only[Z5,Z8.injEq] at t2;subst t2;obtain ⟨b2,o2,c2,e2,_,hld2⟩:=rds_fld (by omega) Inf.len ima.ri hx;have hk0:=hld2 0 (by omega);simp only[Inf.cells,Z4,Z5,Zb] at hk0;have hi3:(i:Int)<(C.infos.length:Int):=by omega
  obtain ⟨gi,gt,gc,gs,gg,go,gold⟩:=gls_img i2;have hik:S.ik (i:Int)=ik:=by rw[HS.ik,gi,Z0];show (C.infos[i]?.map Inf.k).getD 0=ik;rw[hx];rfl
  have oT:=Own.new ha 36 ha.length [iv 0,iv 0];have kT:Keep (fun _=>False) ha (ha++[row 36 ha.length [iv 0,iv 0]]):=Keep.push _ _ _;simp only[ZG,↓reduceIte,ZA,ZB,ZC,hi,h0,and_self,Z0,Nat.mul_one,hld,mbl,ZD,ZE,ZF];refine XH_own oT rfl (by simp [Value.cells]) rfl (fun hb q1 q2 q3=>?_);have oTb:Own hb ha.length 36 [iv 3,iv i]:=by simpa [Value.cells] using q1
  have kab:Keep (fun _=>False) ha hb:=kT.trans' q2 (fun c hc e=>by omega);have k0b:=i6.trans kab;have oIb:=i7.keep kab (fun e=>e);have hk1:ldc hb b2 (o2+i*4)=some (iv ik):=by
   obtain ⟨b3,o3,c3,e3,_,hld3⟩:=rds_fld (by omega) Inf.len (im.keep k0b (fun _ _ e=>e)).ri hx;have hk3:=hld3 0 (by omega);rw[e2] at e3;cases e3
   simpa only [Inf.cells,Z4,Z5,Zb] using hk3
  have hgl:S.globals.length=i:=by rw[gg];show 0+i=i;omega
  have hmb:h4.length<ha.length:=i3.own.lt
  by_cases dk:ik=2
  ·have hf:S.fits (6,(i:Int)) []:=.inl ⟨rfl,by show ¬ (i:Int)<0;omega,by show ¬ (S.infos.length:Int)<=(i:Int);rw[gi];exact fun e=>by have e':(C.infos.length:Int)<=i:=e;omega,by show (([]:List (Int × Int)).length:Int)=S.fr (i:Int);rw[HS.fr,gi,Z0];show 0=(C.infos[i]?.map Inf.f).getD 0;rw[hx];rfl⟩
   have hp:S.put (6,(i:Int)) []=if S.size-(S.now.length:Int)<((S.all (6,(i:Int)) []).length:Int) then (((0:Int),(0:Int)),(12:Int),S) else (((4:Int),(S.now.length:Int)),(0:Int),S.laid (S.all (6,(i:Int)) [])):=by rw[HS.put,if_pos ⟨hf,by simp⟩]
   have sb:=i3.keepF kab;simp only[ZG,↓reduceIte,ZA,ZB,ZC,oIb.cells.ld,mbl,ZD,ZE,ZF,e2,h0,hi3,and_self,Z0,hk1,dk];refine XX_of (Put_ok sb i4.fresh (6,(i:Int)) (ys:=[]) (u:=.slice none 0 0) .nil (by simp) (fun _=>by simp)) (fun res hc hlec hn=>?_);obtain ⟨kc,rfl,L1,s1,sm1⟩:=hn;refine .ret ?_;have hcl:hb.length<=hc.length:=kc.len;have hbl:hb.length=ha.length+1:=by rw[q3];simp
   have zT:L.cls ha.length=0:=i3.c0 _ (Z2 _);have zI:L.cls h.length=0:=i5 _ (by omega);have oTc:=oTb.keep kc (by simp [Mine,zT]);have oIc:=oIb.keep kc (by simp [Mine,zI]);have kmine:∀ (q:Nat),q<h.length -> ¬ Mine L q:=fun q e c=>c (i5 q (by omega))
   have k0c:Keep (fun _=>False) h hc:=k0b.trans' kc (fun c hc e=>kmine c hc e);simp only[ZG,↓reduceIte,ZA,ZB,ZC,wv,mbl,ZD,ZE,ZF];refine XH_own oTc rfl (by simp [Value.cells]) rfl (fun hd r1 r2 r3=>?_);have oTd:Own hd ha.length 36 [iv (S.put (6,(i:Int)) []).1.1,iv (S.put (6,(i:Int)) []).1.2]:=by simpa [Value.cells] using r1
   have z1T:L1.cls ha.length=0:=(sm1 _ (by omega)).2 zT;have s1d:=s1.keep r2 (fun q hq e=>hq (by rw[e];exact z1T));have oId:=oIc.keep r2 (fun e=>by have:=i7.lt;omega);have k0d:Keep (fun _=>False) h hd:=k0c.trans' r2 (fun c hc e=>by have:=i7.lt;omega)
   by_cases hroom:S.size-(S.now.length:Int)<((S.all (6,(i:Int)) []).length:Int)
   ·rw[if_pos hroom] at hp
    have e12:(S.put (6,(i:Int)) []).2.1=12:=by rw[hp]
    simp only[ZG,↓reduceIte,ZA,ZB,ZC,e12,mbl,ZD,ZE,ZF];refine out .ret _ _ _ _ (by intro e;cases e) ?_;simp only[ZG,↓reduceIte,ZA,ZB,ZC];refine hΨ _ _ (fin_ret (rv2 rfl rfl ⟨k0d,?_⟩));unfold NewO;have hno:(HS.start C texts words).gls (i+1)=none:=by
     rw[HS.gls,i2]
     show S.gl i=none
     rw[HS.gl,if_pos (by rw[hik];exact dk),if_neg (by rw[e12];omega)]
    rw[if_pos hcond,gls_none hno (by omega)];rfl
   ·rw[if_neg hroom] at hp
    have e12:(S.put (6,(i:Int)) []).2.1=0:=by rw[hp]
    have hpg:(S.put (6,(i:Int)) []).2.2.globals.length=i:=by rw[(put_img S _ _).2.2.2.2.1];exact hgl
    have hpw:ww (S.put (6,(i:Int)) []).2.2.globals=ww S.globals:=by rw[(put_img S _ _).2.2.2.2.1]
    have hcell:Value.cells (.int .i64 0) = #[iv 0]:=rfl;simp only[ZG,↓reduceIte,ZA,ZB,ZC,e12,mbl,ZD,ZE,ZF];have s1x:Hp hd h4.length L1 (S.put (6,(i:Int)) []).2.2:=s1d;generalize hr:S.put (6,(i:Int)) []=r at *;obtain ⟨rw1,re,rS⟩:=r;simp only at oTd s1x e12 hpg hpw;have eg:rS.globals=S.globals:=by have:=(put_img S (6,(i:Int)) []).2.2.2.2.1;rw[hr] at this;exact this
    have sg:=s1x.rg;obtain ⟨vg',hf,p1,p2,p3,p4⟩:=app1 (bytes:=16) (xs:=[iv rw1.1,iv rw1.2]) sg rfl rfl (by rw[hpg];omega) (by rw[hpg];omega);have kg:Keep (fun _=>False) hd (hd++[row 36 (hd).length [iv rw1.1,iv rw1.2]]):=Keep.push _ _ _;obtain ⟨ga',gc',hvg'⟩:=row_shape p2.rds;simp only[ZG,↓reduceIte,ZA,ZB,ZC,oTd.cells.lds 0 2 (by simp),s1x.own.cells.ld,(s1x.keepF kg).own.cells.ld,mbl,ZD,ZE,ZF,ct1,p1];have zb:¬ bk L1.vg h4.length:=fun e=>by have:=s1x.c5 _ e;rw[s1x.c1] at this;omega
    have ownF:=s1x.own.keep p3 zb;rw[hvg'];refine XH_own ownF rfl (by simp [Value.cells]) rfl (fun hg r1 r2 r3=>?_);rw[<- hvg'] at r1;have ownG:Own hg h4.length 71 [.pointer (some ⟨L1.bs,0,none⟩),L1.vi,.slice none 0 0,L1.vt,.slice none 0 0,iv 0,L1.vk,.map (some L1.mb),.map L1.mo,vg']:=by
     rw[hvg'] at r1 ⊢
     simpa [Value.cells] using r1
    have kfg:Keep (fun q=>q=h4.length\/bk L1.vg q) hd hg:=(p3.mono (fun q e=>.inr e)).trans (r2.mono fun q e=>.inl e);have hvq:∀ q,bk vg' q->bk L1.vg q\/(hd).length<=q:=p4;have p2':Ows hg 36 2 vg' (S.globals++[rw1]).length (ww (S.globals++[rw1])):=by
     rw[ww_app,Zd];have:=p2.keep r2 (fun q e c=>by
      rcases hvq q e with a|a
      ·rw[c] at a;exact zb a
      ·have:=s1x.own.lt;omega)
     rw[hpg,eg] at this;rw[hgl];exact this
    obtain ⟨L',s',sm'⟩:=s1x.appg kfg ownG p2' hvq;simp only[ZG,↓reduceIte,ZA,ZB,ZC,hwi];refine next (i+1,{ rS with globals:=S.globals++[rw1] },L') _ _ _ ⟨by omega,?_,s',?_,?_,?_,?_⟩ ⟨rfl,rfl,rfl,rfl,rfl,rfl,?_,trivial⟩ (by simp only;omega)
    ·rw[HS.gls,i2]
     show S.gl i=_
     rw[HS.gl,if_pos (by rw[hik];exact dk),hr,if_pos e12]
    ·have:=i4.put (6,(i:Int)) [] (by rw[gi];exact hF)
     rw[hr] at this;exact ⟨this.bw,this.hi⟩
    ·intro q hq
     exact (sm' q (by omega)).2 ((sm1 q (by omega)).2 (i5 q hq))
    ·exact (k0d.trans' p3 (fun c hc e=>by have a:=s1x.c5 _ e;have b:=(sm1 c (by omega)).2 (i5 c (by omega));omega)).trans' r2 (fun c hc e=>by omega)
    ·exact (oId.keep p3 (fun e=>by have a:=s1x.c5 _ e;have b:=(sm1 h.length (by omega)).2 (i5 h.length (by omega));omega)).keep r2 (fun e=>by omega)
    ·simp only[Z6,Z3];rfl
  ·have sb:=i3.keepF kab
   simp only[ZG,↓reduceIte,ZA,ZB,ZC,oIb.cells.ld,mbl,ZD,ZE,ZF,e2,h0,hi3,and_self,Z0,hk1,dk];have hw3:wc ((3:Int),(i:Int))=[3,(i:Int)]:=rfl;have sg:=sb.rg;obtain ⟨vg',hf,p1,p2,p3,p4⟩:=app1 (bytes:=16) (xs:=[iv (((3:Int),(i:Int)):Int × Int).1,iv (((3:Int),(i:Int)):Int × Int).2]) sg rfl rfl (by rw[hgl];omega) (by rw[hgl];omega);have kg:Keep (fun _=>False) hb (hb++[row 36 (hb).length [iv (((3:Int),(i:Int)):Int × Int).1,iv (((3:Int),(i:Int)):Int × Int).2]]):=Keep.push _ _ _;obtain ⟨ga',gc',hvg'⟩:=row_shape p2.rds;simp only[ZG,↓reduceIte,ZA,ZB,ZC,oTb.cells.lds 0 2 (by simp),sb.own.cells.ld,(sb.keepF kg).own.cells.ld,mbl,ZD,ZE,ZF,ct1,p1];have zb:¬ bk L.vg h4.length:=fun e=>by have:=sb.c5 _ e;rw[sb.c1] at this;omega
   have ownF:=sb.own.keep p3 zb;rw[hvg'];refine XH_own ownF rfl (by simp [Value.cells]) rfl (fun hg r1 r2 r3=>?_);rw[<- hvg'] at r1;have ownG:Own hg h4.length 71 [.pointer (some ⟨L.bs,0,none⟩),L.vi,.slice none 0 0,L.vt,.slice none 0 0,iv 0,L.vk,.map (some L.mb),.map L.mo,vg']:=by
    rw[hvg'] at r1 ⊢
    simpa [Value.cells] using r1
   have kfg:Keep (fun q=>q=h4.length\/bk L.vg q) hb hg:=(p3.mono (fun q e=>.inr e)).trans (r2.mono fun q e=>.inl e);have hvq:∀ q,bk vg' q->bk L.vg q\/(hb).length<=q:=p4;have p2':Ows hg 36 2 vg' (S.globals++[(((3:Int),(i:Int)):Int × Int)]).length (ww (S.globals++[(((3:Int),(i:Int)):Int × Int)])):=by
    rw[ww_app,Zd];have:=p2.keep r2 (fun q e c=>by
     rcases hvq q e with a|a
     ·rw[c] at a;exact zb a
     ·have:=sb.own.lt;omega)
    rw[hgl,(show S.globals=S.globals from rfl)] at this;rw[hgl];exact this
   obtain ⟨L',s',sm'⟩:=sb.appg kfg ownG p2' hvq;simp only[ZG,↓reduceIte,ZA,ZB,ZC,hwi];refine next (i+1,{ S with globals:=S.globals++[(((3:Int),(i:Int)):Int × Int)] },L') _ _ _ ⟨by omega,?_,s',?_,?_,?_,?_⟩ ⟨rfl,rfl,rfl,rfl,rfl,rfl,?_,trivial⟩ (by simp only;omega)
   ·rw[HS.gls,i2]
    show S.gl i=_
    rw[HS.gl,if_neg (by rw[hik];exact dk)]
   ·exact ⟨i4.bw,i4.hi⟩
   ·intro q hq
    have hbl:hb.length=ha.length+1:=by rw[q3];simp
    exact (sm' q (by omega)).2 (i5 q hq)
   ·exact (k0b.trans' p3 (fun c hc e=>by have a:=sb.c5 _ e;have b:=i5 c (by omega);omega)).trans' r2 (fun c hc e=>by omega)
   ·exact (oIb.keep p3 (fun e=>by have a:=sb.c5 _ e;have b:=i5 h.length (by omega);omega)).keep r2 (fun e=>by omega)
   ·simp only[Z6,Z3];rfl
 ·have hie:i=C.tops.length:=by omega
  subst hie;simp only[ZG,↓reduceIte,ZA,ZB,ZC,hi];refine out (.exit 0) _ _ _ _ (by intro e;cases e) ?_;simp only[ZG,↓reduceIte,ZA,ZB,ZC];refine hΨ _ _ (fin_ret (rv2 rfl rfl ⟨i6,?_⟩));unfold NewO;rw[if_pos hcond,i2];exact ⟨_,_,rfl,i3,fun q e=>i5 q (by omega)⟩
end
end Go.S18

namespace Go.S18
open Go Go.Eng Go.Proofs Go.Chk
theorem wakes_ok (h:AH):Gets Try.prog 9 [] h (fun res h'=>h'=h/\res = .ret (.bool true)) :=
 closed_getsL (n:=100) (fuel:=1000) (keep:=fun _=>false) hP hM (by kernel_rfl) h
theorem rvi {e l:PE} {h:AH} {ds:List Dfr} {x:RX} {b:Nat} {t:TypeId} {a1 a2 a3 a4 a5 a6:Value} {K:List Value->Prop} (hx:rx e l x=some (.pointer (some ⟨b,0,none⟩))) (hb:Own h b t [a1,a2,a3,a4,a5,a6]) (hk:K [.agg #[a1,a2,a3,a4,a5,a6]]) :
 rvK Try.prog ⟨e,l,h,ds⟩ [.c x (.ldn 6)] K:=by
 have hc:hcell h b=some [a1,a2,a3,a4,a5,a6]:=hb.cells;simp only[rvK,hx,vK,uval,hc,Option.bind_some,rK];exact hk
def tinyC:Cx:=⟨[⟨1,1,0,0⟩,⟨2,0,0,3⟩],[1,0,0,1,3,5],0,[0,1],0,[0,0,0,0,2]⟩
theorem tiny_ok (h:AH):Gets Try.prog 10 [] h (fun res h'=>Keep (fun _=>False) h h' /\ ∃ vi vc vp vk,res = .ret (.agg #[vi,vc,.slice none 0 0,vp,iv 0,vk])/\Img h' tinyC vi vc (.slice none 0 0) vp vk/\(∀ q,bk vi q\/bk vk q->h.length<=q/\q<h'.length)
 /\ Ows h' 34 4 vi 2 (rowsOf Inf.cells tinyC.infos)/\Ows h' 3 1 vk 5 (ns tinyC.cons)):=by
 refine Gets.of (keep:=false) hP (draw_ok hM) k10 (by rfl) (fun Ψ hΨ=>?_);simp only[ZG,↓reduceIte,ZA,ZB,ZC,r10,YE,YC,YO,YA,YL,YX,YS,Ya,Yb,Yl,Yf,Yg,Yi,Ym,Yk,Yt,Yn,Yz,Yp,Yq,Yd,mbl,ZD,ZE,ZF];have o1:=Own.new h 27 h.length [.slice none 0 0,.slice none 0 0,.slice none 0 0,.slice none 0 0,.int .i64 0,.slice none 0 0];have k1:Keep (fun _=>False) h (h++[row 27 h.length [.slice none 0 0,.slice none 0 0,.slice none 0 0,.slice none 0 0,.int .i64 0,.slice none 0 0]]):=Keep.push _ _ _;have l1:(h++[row 27 h.length [.slice none 0 0,.slice none 0 0,.slice none 0 0,.slice none 0 0,.int .i64 0,.slice none 0 0]]).length=h.length+1:=by simp
 generalize h++[row 27 h.length [.slice none 0 0,.slice none 0 0,.slice none 0 0,.slice none 0 0,.int .i64 0,.slice none 0 0]]=h1 at o1 k1 l1 ⊢;have o2:=Own.new h1 34 h1.length [.int .i64 1,.int .i64 1,.int .i64 0,.int .i64 0,.int .i64 2,.int .i64 0,.int .i64 0,.int .i64 3];have k2:Keep (fun _=>False) h1 (h1++[row 34 h1.length [.int .i64 1,.int .i64 1,.int .i64 0,.int .i64 0,.int .i64 2,.int .i64 0,.int .i64 0,.int .i64 3]]):=Keep.push _ _ _;have l2:(h1++[row 34 h1.length [.int .i64 1,.int .i64 1,.int .i64 0,.int .i64 0,.int .i64 2,.int .i64 0,.int .i64 0,.int .i64 3]]).length=h1.length+1:=by simp
 generalize h1++[row 34 h1.length [.int .i64 1,.int .i64 1,.int .i64 0,.int .i64 0,.int .i64 2,.int .i64 0,.int .i64 0,.int .i64 3]]=h2 at o2 k2 l2 ⊢;have o3:=Own.new h2 3 h2.length [.int .i64 1,.int .i64 0,.int .i64 0,.int .i64 1,.int .i64 3,.int .i64 5];have k3:Keep (fun _=>False) h2 (h2++[row 3 h2.length [.int .i64 1,.int .i64 0,.int .i64 0,.int .i64 1,.int .i64 3,.int .i64 5]]):=Keep.push _ _ _;have l3:(h2++[row 3 h2.length [.int .i64 1,.int .i64 0,.int .i64 0,.int .i64 1,.int .i64 3,.int .i64 5]]).length=h2.length+1:=by simp
 generalize h2++[row 3 h2.length [.int .i64 1,.int .i64 0,.int .i64 0,.int .i64 1,.int .i64 3,.int .i64 5]]=h3 at o3 k3 l3 ⊢;have o4:=Own.new h3 3 h3.length [.int .i64 0,.int .i64 1];have k4:Keep (fun _=>False) h3 (h3++[row 3 h3.length [.int .i64 0,.int .i64 1]]):=Keep.push _ _ _;have l4:(h3++[row 3 h3.length [.int .i64 0,.int .i64 1]]).length=h3.length+1:=by simp
 generalize h3++[row 3 h3.length [.int .i64 0,.int .i64 1]]=h4 at o4 k4 l4 ⊢;have o5:=Own.new h4 3 h4.length [.int .i64 0,.int .i64 0,.int .i64 0,.int .i64 0,.int .i64 2];have k5:Keep (fun _=>False) h4 (h4++[row 3 h4.length [.int .i64 0,.int .i64 0,.int .i64 0,.int .i64 0,.int .i64 2]]):=Keep.push _ _ _;have l5:(h4++[row 3 h4.length [.int .i64 0,.int .i64 0,.int .i64 0,.int .i64 0,.int .i64 2]]).length=h4.length+1:=by simp
 generalize h4++[row 3 h4.length [.int .i64 0,.int .i64 0,.int .i64 0,.int .i64 0,.int .i64 2]]=h5 at o5 k5 l5 ⊢;have k05:=(((k1.trans k2).trans k3).trans k4).trans k5;refine XH_own ((((o1.keep k2 (fun e=>e)).keep k3 (fun e=>e)).keep k4 (fun e=>e)).keep k5 (fun e=>e)) rfl (by simp [Value.cells]) rfl (fun h6 q1 q2 q3=>?_);simp only[ZG,↓reduceIte,ZA,ZB,ZC];have q1':Own h6 h.length 27 [.slice (some ⟨h1.length,0,none⟩) 2 2,.slice (some ⟨h2.length,0,none⟩) 6 6,.slice none 0 0,.slice (some ⟨h3.length,0,none⟩) 2 2,iv 0,.slice (some ⟨h4.length,0,none⟩) 5 5]:=by simpa [Value.cells] using q1
 have ne:∀ q,h1.length<=q -> ¬ q=h.length:=fun q e c=>by omega
 have p2:=(((o2.keep k3 (fun e=>e)).keep k4 (fun e=>e)).keep k5 (fun e=>e)).keep q2 (ne _ (by omega));have p3:=((o3.keep k4 (fun e=>e)).keep k5 (fun e=>e)).keep q2 (ne _ (by omega));have p4:=(o4.keep k5 (fun e=>e)).keep q2 (ne _ (by omega));have p5:=o5.keep q2 (ne _ (by omega));refine hΨ _ _ (fin_ret (rvi rfl q1' ⟨k05.trans' q2 (fun c hc e=>by omega),_,_,_,_,rfl,⟨.mk p2.cells (by simp) rfl,.mk p3.cells (by simp) rfl,⟨none,0,rfl⟩,.mk p4.cells (by simp) rfl,.mk p5.cells (by simp) rfl⟩,?_,.mk p2 rfl (Z2 _) rfl,.mk p5 rfl (Z2 _) rfl⟩));rintro q (e|e)
 ·have:q=h1.length:=e
  omega
 ·have:q=h4.length:=e
  omega
theorem SameWords_ok {h:AH} {u v:Value} {xs ys:List (Int × Int)} (hu:Rds h 2 u xs.length (ww xs)) (hv:Rds h 2 v ys.length (ww ys)) (hm:xs.length<=9223372036854775807):Gets Try.prog 16 [u,v] h (fun res h'=>h'=h/\res = .ret (.bool (decide (xs=ys)))):=by
 refine Gets.of (keep:=false) hP (draw_ok hM) k16 (by rfl) (fun Ψ hΨ=>?_);obtain ⟨ua,uc,rfl⟩:=row_shape hu;obtain ⟨va,vc,rfl⟩:=row_shape hv
 by_cases hl:(xs.length:Int)=(ys.length:Int)
 case neg =>
  simp only[ZG,↓reduceIte,ZA,ZB,ZC,r16,YE,YC,YO,YA,YL,YX,YS,Ya,Yb,Yl,Yf,Yg,Yi,Ym,Yk,Yt,Yn,Yz,Yp,Yq,Yd,hl,mbl,ZD,ZE,ZF];have hne:¬ xs=ys:=fun e=>hl (by rw[e])
  exact hΨ _ _ (fin_ret (rv1 rfl ⟨rfl,by simp [hne,tup]⟩))
 simp only[ZG,↓reduceIte,ZA,ZB,ZC,r16,YE,YC,YO,YA,YL,YX,YS,Ya,Yb,Yl,Yf,Yg,Yi,Ym,Yk,Yt,Yn,Yz,Yp,Yq,Yd,hl,mbl,ZD,ZE,ZF];refine XLo_rule (α:=Nat) (fun i=>[(0,.slice ua xs.length uc),(1,.slice va ys.length vc),(4,.bool false),(5,iv i)])
  (fun i h'=>i<=ys.length/\h'=h /\ ∀ j,j<i->xs[j]?=ys[j]?) (fun i=>ys.length-i) 0 ⟨Z7 _,rfl,fun j hj=>by omega⟩ ⟨rfl,rfl,rfl,rfl,trivial⟩ ?_
 rintro i h1 Ψ2 ⟨i1,rfl,i3⟩ next out
 by_cases hi:(i:Int)<(ys.length:Int)
 ·have h0:0<=(i:Int):=by omega
  have hw:IntKind.i64.wrap ((i:Int)+1)=i+1:=i64w (by omega) (by omega);obtain ⟨b1,o1,c1,e1,_,hl1⟩:=rds_w hu h0 (by omega);obtain ⟨b2,o2,c2,e2,_,hl2⟩:=rds_w hv h0 hi;cases e1;cases e2;rw[Z0] at hl1 hl2;have hlx:i<xs.length:=by omega
  have hly:i<ys.length:=by omega
  have ex:wat xs (i:Int)=xs[i]:=by rw[wat,Z0,Z1 hlx];rfl
  have ey:wat ys (i:Int)=ys[i]:=by rw[wat,Z0,Z1 hly];rfl
  rw[ex] at hl1;rw[ey] at hl2
  by_cases hc:xs[i].1=ys[i].1/\xs[i].2=ys[i].2
  ·have he:xs[i]=ys[i]:=Prod.ext hc.1 hc.2
   simp only[ZG,↓reduceIte,ZA,ZB,ZC,hl,hi,h0,and_self,Z0,hl1,hl2,ceq_w,hc.1,hc.2,hw,mbl,ZD,ZE,ZF];refine next (i+1) _ _ _ ⟨by omega,rfl,fun j hj=>?_⟩ ⟨rfl,rfl,rfl,?_,trivial⟩ (by omega)
   ·by_cases hji:j<i
    ·exact i3 j hji
    ·have:j=i:=by omega
     subst this;rw[Z1 hlx,Z1 hly,he]
   ·simp only[Z6,Z3];rfl
  ·have hne:¬ xs=ys:=fun e=>hc (by subst e;exact ⟨rfl,rfl⟩)
   simp only[ZG,↓reduceIte,ZA,ZB,ZC,hl,hi,h0,and_self,Z0,hl1,hl2,ceq_w,hc,mbl,ZD,ZE,ZF];refine out .ret _ _ _ _ (by intro e;cases e) ?_;simp only[ZG,↓reduceIte,ZA,ZB,ZC];exact hΨ _ _ (fin_ret (rv1 rfl ⟨rfl,by simp [hne,tup]⟩))
 ·have hie:i=ys.length:=by omega
  simp only[ZG,↓reduceIte,ZA,ZB,ZC,hl,hi];refine out (.exit 0) _ _ _ _ (by intro e;cases e) ?_;simp only[ZG,↓reduceIte,ZA,ZB,ZC];have he:xs=ys:=by
   refine List.ext_getElem? (fun j=>?_)
   by_cases hj:j<i
   ·exact i3 j hj
   ·rw[Z9 (by omega),Z9 (by omega)]
  exact hΨ _ _ (fin_ret (rv1 rfl ⟨rfl,by simp [he,tup]⟩))
theorem fol_mono {S:HS}:∀ {n m:Nat} {x y:Int × Int},S.fol n x=some y->n<=m->S.fol m x=some y:=by
 intro n
 induction n with
 | zero=>intro m x y h;cases h
 | succ n ih =>
   intro m x y h hm;obtain ⟨m,rfl⟩:∃ k,m=k+1:=⟨m-1,by omega⟩
   rw[HS.fol] at h ⊢
   split
   ·rename_i c;rw[if_pos c] at h
    split
    ·rename_i d;rw[if_pos d] at h;exact ih h (by omega)
    ·rename_i d;rw[if_neg d] at h;exact h
   ·rename_i c;rw[if_neg c] at h;exact h
theorem fol_one {S:HS} {n m:Nat} {x y z:Int × Int} (h1:S.fol n x=some y) (h2:S.fol m x=some z):y=z:=by
 have a:=fol_mono h1 (Nat.le_max_left n m);have b:=fol_mono h2 (Nat.le_max_right n m);rw[a] at b;exact Z8.inj b
end Go.S18
