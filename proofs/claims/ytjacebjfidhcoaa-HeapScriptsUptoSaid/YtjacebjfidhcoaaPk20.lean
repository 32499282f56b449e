import Derived.Test.YtjacebjfidhcoaaPk19
set_option linter.unusedVariables false
set_option linter.unusedSimpArgs false
open Nat renaming reduceEqDiff -> ZA,reduceAdd -> ZB,reduceMul -> ZC,reduceLeDiff -> ZD,reduceLT -> ZE
open Int renaming reduceEq -> ZF
open List renaming nil_append->Z0,replicate->Z1,length_append->Z3,replicate_succ->Z5,ext_getElem->Z6,append_nil->Z7,take_of_length_le->Z8,flatten_cons->Zc,range->Ze
open Nat renaming le_refl->Z2,zero_add->Z4
open Option renaming some->Z9
open Int renaming toNat_of_nonneg->Za,cast_ofNat_Int->Zb,toNat_natCast->Zd
namespace Go.S18
open Go Go.Eng Go.Proofs Go.Chk
def HS.all (S:HS) (hd:Int × Int) (ys:List (Int × Int)):List (Int × Int):=if S.pad hd ys.length then hd::ys++[(1,0)] else hd::ys
def HS.put (S:HS) (hd:Int × Int) (ys:List (Int × Int)):(Int × Int) × Int × HS :=
 if S.fits hd ys /\ ∀ y∈ys,S.sound y then (if S.size-(S.now.length:Int)<((S.all hd ys).length:Int) then ((0,0),12,S) else ((4,S.now.length),0,S.laid (S.all hd ys))) else ((0,0),1,S)
theorem ww_app (a c:List (Int × Int)):ww (a++c)=ww a++ww c:=rowsOf_app a c
section
variable {h:AH} {b:Nat} {L:Lay} {S:HS}
theorem lay_all (s:Hp h b L S) (hfr:mget S.now.length S.begins=none) {u:Value} {ys:List (Int × Int)} (hu:Rds h 2 u ys.length (ww ys)) :
 Gets Try.prog 39 [.pointer (some ⟨b,0,none⟩),u] h (fun res h'=>Keep (Mine L) h h' /\ ∃ w e S' L',res = .ret (.tuple #[wv w,iv e])/\Hp h' b L' S'/\Same h.length L L' /\
  (w,e,S')=if S.size-(S.now.length:Int)<ys.length then ((0,0),12,S) else (((4:Int),(S.now.length:Int)),(0:Int),S.laid ys)):=by
 exact (lay_ok s hfr hu).mono (fun res h' _ ⟨k,hn⟩=>by
  split at hn
  ·rename_i c
   exact ⟨k,_,_,_,L,hn.2,s.keepF hn.1,Same.refl _ _,by rw[if_pos c]⟩
  ·rename_i c
   obtain ⟨e,L',a,d⟩:=hn;exact ⟨k,_,_,_,L',e,a,d,by rw[if_neg c]⟩)
set_option maxHeartbeats 1000000 in
theorem Put_ok (s:Hp h b L S) (hfr:mget S.now.length S.begins=none) (hd:Int × Int) {u:Value} {ys:List (Int × Int)} (hu:Rds h 2 u ys.length (ww ys)) (hm:ys.length<=9223372036854775807) (hbs:S.fits hd ys->(ys.length+2)*16<=140737488355328) :
 Gets Try.prog 12 [.pointer (some ⟨b,0,none⟩),wv hd,u] h (fun res h'=>Keep (Mine L) h h'/\res = .ret (.tuple #[wv (S.put hd ys).1,iv (S.put hd ys).2.1]) /\ ∃ L',Hp h' b L' (S.put hd ys).2.2/\Same h.length L L'):=by
 refine Gets.of (keep:=false) hP (draw_ok hM) k12 (by rfl) (fun Ψ hΨ=>?_);obtain ⟨ua,uc,rfl⟩:=row_shape hu;have oH:=Own.new h 29 h.length [.pointer (some ⟨b,0,none⟩)];have k1:Keep (fun _=>False) h (h++[row 29 h.length [.pointer (some ⟨b,0,none⟩)]]):=Keep.push _ _ _;have l1:(h++[row 29 h.length [.pointer (some ⟨b,0,none⟩)]]).length=h.length+1:=by simp
 simp only[ZG,↓reduceIte,ZA,ZB,ZC,r12,YE,YC,YO,YA,YL,YX,YS,Ya,Yb,Yl,Yf,Yg,Yi,Ym,Yk,Yt,Yn,Yz,Yp,Yq,Yd,wv,mbl,ZD,ZE,ZF];generalize h++[row 29 h.length [.pointer (some ⟨b,0,none⟩)]]=h1 at oH k1 l1 ⊢;have oW:=Own.new h1 36 h1.length [iv hd.1,iv hd.2];have k2:Keep (fun _=>False) h1 (h1++[row 36 h1.length [iv hd.1,iv hd.2]]):=Keep.push _ _ _;have l2:(h1++[row 36 h1.length [iv hd.1,iv hd.2]]).length=h.length+2:=by simp [l1]
 generalize h1++[row 36 h1.length [iv hd.1,iv hd.2]]=h2 at oW k2 l2 ⊢;have oR:=Own.new h2 36 h2.length [iv 0,iv 0];have k3:Keep (fun _=>False) h2 (h2++[row 36 h2.length [iv 0,iv 0]]):=Keep.push _ _ _;have l3:(h2++[row 36 h2.length [iv 0,iv 0]]).length=h.length+3:=by simp [l2]
 generalize h2++[row 36 h2.length [iv 0,iv 0]]=h3 at oR k3 l3 ⊢;have oH3:=(oH.keep k2 (fun e=>e)).keep k3 (fun e=>e);have oW3:=oW.keep k3 (fun e=>e);have k03:Keep (fun _=>False) h h3:=(k1.trans k2).trans k3;have s3:=s.keepF k03;simp only[ZG,↓reduceIte,ZA,ZB,ZC,oH3.cells.ld,oW3.cells.lds 0 2 (by simp),mbl,ZD,ZE,ZF];refine XX_of (fits_ok s3 hd (hu.keep k03 (fun _ _ e=>e))) (fun res h4 hle hn=>?_);obtain ⟨k4,rfl⟩:=hn;refine .ret ?_;have k04:=k03.trans k4;have oR4:=oR.keep k4 (fun e=>e);have oW4:=oW3.keep k4 (fun e=>e);have oH4:=oH3.keep k4 (fun e=>e)
 by_cases hfit:S.fits hd ys
 case neg =>
  simp only[ZG,↓reduceIte,ZA,ZB,ZC,hfit,mbl,ZD,ZE,ZF];refine XH_own oR4 rfl (by simp [Value.cells]) rfl (fun h5 q1 q2 q3=>?_);have oR5:Own h5 h2.length 36 [iv 0,iv 0]:=by simpa [Value.cells] using q1
  simp only[ZG,↓reduceIte,ZA,ZB,ZC];have kF:Keep (fun _=>False) h h5:=k04.trans' q2 (fun c hc e=>by omega);refine hΨ _ _ (fin_ret (rvw rfl oR5 rfl ⟨kF.mono (fun _ e=>e.elim),?_,L,?_,Same.refl _ _⟩))
  ·simp [HS.put,hfit,tup,wv]
  ·rw[show (S.put hd ys).2.2=S by simp [HS.put,hfit]];exact s.keepF kF
 simp only[ZG,↓reduceIte,ZA,ZB,ZC,hfit,mbl,ZD,ZE,ZF];refine XX_of (wcontains_ok (s.keepF k04) oH4 (hu.keep k04 (fun _ _ e=>e)) hm (fun h2 w a c=>ask_ok a c w)) (fun res h5 hle5 hn=>?_);obtain ⟨k5,rfl⟩:=hn;refine .ret ?_;have k05:=k04.trans k5;have oR5:=oR4.keep k5 (fun e=>e);have oW5:=oW4.keep k5 (fun e=>e);have oH5:=oH4.keep k5 (fun e=>e)
 by_cases hall:∀ y∈ys,S.sound y
 case neg =>
  simp only[ZG,↓reduceIte,ZA,ZB,ZC,hall,not_false_eq_true,mbl,ZD,ZE,ZF];refine XH_own oR5 rfl (by simp [Value.cells]) rfl (fun h6 q1 q2 q3=>?_);have oR6:Own h6 h2.length 36 [iv 0,iv 0]:=by simpa [Value.cells] using q1
  simp only[ZG,↓reduceIte,ZA,ZB,ZC];have kF:Keep (fun _=>False) h h6:=k05.trans' q2 (fun c hc e=>by omega);have hno:¬ (S.fits hd ys /\ ∀ y∈ys,S.sound y):=fun e=>hall e.2
  refine hΨ _ _ (fin_ret (rvw rfl oR6 rfl ⟨kF.mono (fun _ e=>e.elim),?_,L,?_,Same.refl _ _⟩))
  ·rw[HS.put,if_neg hno];rfl
  ·rw[HS.put,if_neg hno];exact s.keepF kF
 have hcond:S.fits hd ys /\ ∀ y∈ys,S.sound y:=⟨hfit,hall⟩
 have hd0:decide (¬ ∀ y∈ys,S.sound y)=false:=decide_eq_false (fun e=>e hall);have hl5:h.length+3<=h5.length:=by have:=(k4.trans k5).len;omega
 have hbb:=hbs hfit;have hr6:Ows (h5++[row 36 h5.length [iv hd.1,iv hd.2]]) 36 2 (.slice (some ⟨h5.length,0,none⟩) 1 1) 1 (ww [hd]):=.mk (Own.new h5 36 h5.length [iv hd.1,iv hd.2]) rfl (Z2 _) rfl;have k6:Keep (fun _=>False) h5 (h5++[row 36 h5.length [iv hd.1,iv hd.2]]):=Keep.push _ _ _;obtain ⟨_,hsrc,rfl⟩:=(hu.keep (k05.trans k6) (fun _ _ e=>e)).src (rowsOf_one ys);obtain ⟨v7,h7,p1,p2,p3,p4⟩:=hr6.app (bytes:=16) hsrc (by rw[ww_len]) (rowsOf_one ys) (by omega) (by omega);have p2':Ows h7 36 2 v7 (hd::ys).length (ww (hd::ys)):=by
  rw[show hd::ys=[hd]++ys from rfl,ww_app,Z3];exact p2
 have k67:Keep (fun _=>False) h5 h7:=k6.trans' p3 (fun c hc e=>by have:c=h5.length:=e;omega);have k07:=k05.trans k67;have oR7:=oR5.keep k67 (fun e=>e);have oH7:=oH5.keep k67 (fun e=>e);obtain ⟨a7,c7,hv7⟩:=row_shape p2.rds;subst hv7
 by_cases hpad:S.pad hd ys.length
 ·obtain ⟨v8,h8,t1,t2,t3,t4⟩:=app1 (bytes:=16) (xs:=[iv 1,iv 0]) p2' rfl rfl (by simp;omega) (by simp;omega)
  have hb7:∀ q,bk (.slice a7 (1+ys.length) c7) q->h5.length<=q:=fun q e=>(p4 q e).elim (fun e=>by have:q=h5.length:=e;omega) (fun e=>by simp at e;omega)
  have k78:Keep (fun _=>False) h5 h8:=k67.trans' t3 (fun c hc e=>by have:=hb7 c e;omega);have t2':Ows h8 36 2 v8 (S.all hd ys).length (ww (S.all hd ys)):=by
   rw[HS.all,if_pos hpad,ww_app,Z3];exact t2
  have k08:=k05.trans k78;have oR8:=oR5.keep k78 (fun e=>e);have oH8:=oH5.keep k78 (fun e=>e);simp only[ZG,↓reduceIte,ZA,ZB,ZC,hd0,oW5.cells.lds 0 2 (by simp),mbl,ZD,ZE,ZF,p1,hpad,t1,(oH5.keep k67 (fun e=>e)).cells.ld,oH8.cells.ld];refine XX_of (lay_all (s.keepF k08) hfr t2'.rds) (fun res h9 hle9 hn=>?_);obtain ⟨k9,w,e,S',L',rfl,s9,sm,hres⟩:=hn;refine .ret ?_;have oR9:=oR8.keep k9 (by have:=s.c0 h2.length (by omega);simp [Mine,this]);simp only[ZG,↓reduceIte,ZA,ZB,ZC,wv,mbl,ZD,ZE,ZF];refine XH_own oR9 rfl (by simp [Value.cells]) rfl (fun h10 q1 q2 q3=>?_);have oR10:Own h10 h2.length 36 [iv w.1,iv w.2]:=by simpa [Value.cells] using q1
  simp only[ZG,↓reduceIte,ZA,ZB,ZC];have hl8:=k08.len;have c2:L'.cls h2.length=0:=(sm _ (by have:=(k67.trans' t3 (fun c hc e=>by have:=hb7 c e;omega):Keep (fun _=>False) h5 h8).len;omega)).2 (s.c0 _ (by omega));refine hΨ _ _ (fin_ret (rvw rfl oR10 rfl ⟨?_,?_,L',?_,fun q hq=>sm q (by omega)⟩))
  ·exact ((k08.mono (fun _ e=>e.elim)).trans k9).trans' q2 (fun c hc e=>by omega)
  ·have:(w,e,S')=S.put hd ys:=by rw[hres,HS.put,if_pos hcond]
   rw[<- this];rfl
  ·have:(w,e,S')=S.put hd ys:=by rw[hres,HS.put,if_pos hcond]
   rw[<- this];exact s9.keep q2 (fun q hq e=>hq (by rw[e];exact c2))
 ·have t2':Ows h7 36 2 (.slice a7 (1+ys.length) c7) (S.all hd ys).length (ww (S.all hd ys)):=by
   rw[HS.all,if_neg hpad];exact p2'
  simp only[ZG,↓reduceIte,ZA,ZB,ZC,hd0,oW5.cells.lds 0 2 (by simp),mbl,ZD,ZE,ZF,p1,hpad,oH7.cells.ld];refine XX_of (lay_all (s.keepF k07) hfr t2'.rds) (fun res h9 hle9 hn=>?_);obtain ⟨k9,w,e,S',L',rfl,s9,sm,hres⟩:=hn;refine .ret ?_;have oR9:=oR7.keep k9 (by have:=s.c0 h2.length (by omega);simp [Mine,this]);simp only[ZG,↓reduceIte,ZA,ZB,ZC,wv,mbl,ZD,ZE,ZF];refine XH_own oR9 rfl (by simp [Value.cells]) rfl (fun h10 q1 q2 q3=>?_);have oR10:Own h10 h2.length 36 [iv w.1,iv w.2]:=by simpa [Value.cells] using q1
  simp only[ZG,↓reduceIte,ZA,ZB,ZC];have hl7:=k67.len;have c2:L'.cls h2.length=0:=(sm _ (by omega)).2 (s.c0 _ (by omega));refine hΨ _ _ (fin_ret (rvw rfl oR10 rfl ⟨?_,?_,L',?_,fun q hq=>sm q (by omega)⟩))
  ·exact ((k07.mono (fun _ e=>e.elim)).trans k9).trans' q2 (fun c hc e=>by omega)
  ·have:(w,e,S')=S.put hd ys:=by rw[hres,HS.put,if_pos hcond]
   rw[<- this];rfl
  ·have:(w,e,S')=S.put hd ys:=by rw[hres,HS.put,if_pos hcond]
   rw[<- this];exact s9.keep q2 (fun q hq e=>hq (by rw[e];exact c2))
end
end Go.S18

namespace Go.S18
open Go Go.Eng Go.Proofs Go.Chk
def gx (xs:List (Int × Int)) (i:Int):Int × Int:=if 0<=i/\i<xs.length then wat xs i else (0,0)
def ge (xs:List (Int × Int)) (i:Int):Int:=if 0<=i/\i<xs.length then 0 else 2
theorem gw_eq (xs:List (Int × Int)) (i:Int):gw xs i = .tuple #[.agg #[iv (gx xs i).1,iv (gx xs i).2],iv (ge xs i)]:=by
 unfold gw gx ge;split<;>rfl
def HS.head (S:HS) (w:Int × Int):(Int × Int) × Int:=if S.lies w then (gx S.now w.2,0) else ((0,0),1)
section
variable {h:AH} {b:Nat} {L:Lay} {S:HS}
theorem Head_ok (s:Hp h b L S) (w:Int × Int):Gets Try.prog 19 [.pointer (some ⟨b,0,none⟩),wv w] h (fun res h'=>Keep (fun _=>False) h h'/\res = .ret (.tuple #[wv (S.head w).1,iv (S.head w).2])):=by
 refine Gets.of (keep:=false) hP (draw_ok hM) k19 (by rfl) (fun Ψ hΨ=>?_);have oW:=Own.new h 36 h.length [iv w.1,iv w.2];have k1:Keep (fun _=>False) h (h++[row 36 h.length [iv w.1,iv w.2]]):=Keep.push _ _ _;have l1:(h++[row 36 h.length [iv w.1,iv w.2]]).length=h.length+1:=by simp
 simp only[ZG,↓reduceIte,ZA,ZB,ZC,r19,YE,YC,YO,YA,YL,YX,YS,Ya,Yb,Yl,Yf,Yg,Yi,Ym,Yk,Yt,Yn,Yz,Yp,Yq,Yd,wv,mbl,ZD,ZE,ZF];generalize h++[row 36 h.length [iv w.1,iv w.2]]=h1 at oW k1 l1 ⊢;have oR:=Own.new h1 36 h1.length [iv 0,iv 0];have k2:Keep (fun _=>False) h1 (h1++[row 36 h1.length [iv 0,iv 0]]):=Keep.push _ _ _;have l2:(h1++[row 36 h1.length [iv 0,iv 0]]).length=h.length+2:=by simp [l1]
 generalize h1++[row 36 h1.length [iv 0,iv 0]]=h2 at oR k2 l2 ⊢;have oW2:=oW.keep k2 (fun e=>e);have k02:=k1.trans k2;simp only[ZG,↓reduceIte,ZA,ZB,ZC,oW2.cells.lds 0 2 (by simp),mbl,ZD,ZE,ZF];refine XX_of (lies_ok (s.keepF k02) w) (fun res h3 hle hn=>?_);obtain ⟨k3,rfl⟩:=hn;refine .ret ?_;have k03:=k02.trans k3;have oR3:=oR.keep k3 (fun e=>e);have oW3:=oW2.keep k3 (fun e=>e)
 by_cases hl:S.lies w
 ·have s3:=s.keepF k03
  simp only[ZG,↓reduceIte,ZA,ZB,ZC,hl,mbl,ZD,ZE,ZF,s3.own.cells.ld,oW3.cells.ld];refine XX_of (wGet_ok s3.ws w.2) (fun res h4 hle4 hn=>?_);obtain ⟨k4,rfl⟩:=hn;refine .ret ?_;have k04:=k03.trans k4;have oR4:=oR3.keep k4 (fun e=>e);have oG:=Own.new h4 36 h4.length [iv 0,iv 0];have k5:Keep (fun _=>False) h4 (h4++[row 36 h4.length [iv 0,iv 0]]):=Keep.push _ _ _;simp only[ZG,↓reduceIte,ZA,ZB,ZC,gw_eq,mbl,ZD,ZE,ZF];refine XH_own oG rfl (by simp [Value.cells]) rfl (fun h6 q1 q2 q3=>?_);have oG6:Own h6 h4.length 36 [iv (gx S.now w.2).1,iv (gx S.now w.2).2]:=by simpa [Value.cells] using q1
  have k46:Keep (fun _=>False) h4 h6:=k5.trans' q2 (fun c hc e=>by omega);simp only[ZG,↓reduceIte,ZA,ZB,ZC,oG6.cells.lds 0 2 (by simp),mbl,ZD,ZE,ZF];refine XH_own (oR4.keep k46 (fun e=>e)) rfl (by simp [Value.cells]) rfl (fun h7 t1 t2 t3=>?_);have oR7:Own h7 h1.length 36 [iv (gx S.now w.2).1,iv (gx S.now w.2).2]:=by simpa [Value.cells] using t1
  simp only[ZG,↓reduceIte,ZA,ZB,ZC];refine hΨ _ _ (fin_ret (rvw rfl oR7 rfl ⟨(k04.trans k46).trans' t2 (fun c hc e=>by omega),?_⟩));simp [HS.head,hl,tup,wv]
 ·simp only[ZG,↓reduceIte,ZA,ZB,ZC,hl,mbl,ZD,ZE,ZF]
  refine XH_own oR3 rfl (by simp [Value.cells]) rfl (fun h4 q1 q2 q3=>?_);have oR4:Own h4 h1.length 36 [iv 0,iv 0]:=by simpa [Value.cells] using q1
  simp only[ZG,↓reduceIte,ZA,ZB,ZC];refine hΨ _ _ (fin_ret (rvw rfl oR4 rfl ⟨k03.trans' q2 (fun c hc e=>by omega),?_⟩));simp [HS.head,hl,tup,wv]
def HS.count (S:HS) (w hd:Int × Int):Int:=if hd.1=6 then S.fr hd.2 else if hd.1=10 then 0 else (mget w.2 S.begins).getD 0-1
theorem count_ok (s:Hp h b L S) (w hd:Int × Int) (h6:hd.1=6->0<=hd.2/\hd.2<S.infos.length) (hw:hd.1≠6->hd.1≠10 -> ∃ n,mget w.2 S.begins=some n/\0<=n/\n<=1048576) :
 Gets Try.prog 40 [.pointer (some ⟨b,0,none⟩),wv w,wv hd] h (fun res h'=>Keep (fun _=>False) h h'/\res = .ret (iv (S.count w hd))):=by
 refine Gets.of (keep:=false) hP (draw_ok hM) k40 (by rfl) (fun Ψ hΨ=>?_);have oW:=Own.new h 36 h.length [iv w.1,iv w.2];have k1:Keep (fun _=>False) h (h++[row 36 h.length [iv w.1,iv w.2]]):=Keep.push _ _ _;simp only[ZG,↓reduceIte,ZA,ZB,ZC,r40,YE,YC,YO,YA,YL,YX,YS,Ya,Yb,Yl,Yf,Yg,Yi,Ym,Yk,Yt,Yn,Yz,Yp,Yq,Yd,wv,mbl,ZD,ZE,ZF];generalize h++[row 36 h.length [iv w.1,iv w.2]]=h1 at oW k1 ⊢;have oD:=Own.new h1 36 h1.length [iv hd.1,iv hd.2];have k2:Keep (fun _=>False) h1 (h1++[row 36 h1.length [iv hd.1,iv hd.2]]):=Keep.push _ _ _;generalize h1++[row 36 h1.length [iv hd.1,iv hd.2]]=h2 at oD k2 ⊢;have oW2:=oW.keep k2 (fun e=>e);have k02:=k1.trans k2;have s2:=s.keepF k02
 by_cases d6:hd.1=6
 ·obtain ⟨g1,g2⟩:=h6 d6
  obtain ⟨⟨k,a,f,c⟩,hx⟩:∃ x,S.infos[hd.2.toNat]?=some x:=⟨_,List.getElem?_eq_getElem (show hd.2.toNat<S.infos.length by omega)⟩
  obtain ⟨b1,o1,c1,e1,_,hld⟩:=rds_fld (by omega) Inf.len s2.ri hx;have hl2:=hld 2 (by omega);simp only[Inf.cells,List.getElem?_cons_succ,List.getElem?_cons_zero,Option.map_some] at hl2;have hfr:S.fr hd.2=f:=by rw[HS.fr,hx];rfl
  simp only[ZG,↓reduceIte,ZA,ZB,ZC,oD.cells.ld,mbl,ZD,ZE,ZF,d6,s2.own.cells.ld,e1,g1,g2,and_self,hl2];exact hΨ _ _ (fin_ret (rv1 rfl ⟨k02,by simp [HS.count,d6,hfr,tup]⟩))
 by_cases d10:hd.1=10
 ·simp only[ZG,↓reduceIte,ZA,ZB,ZC,oD.cells.ld,mbl,ZD,ZE,ZF,d6,d10]
  exact hΨ _ _ (fin_ret (rv1 rfl ⟨k02,by simp [HS.count,d6,d10,tup]⟩))
 ·obtain ⟨n,hg,n0,n1⟩:=hw d6 d10
  have hwr:IntKind.i64.wrap (n-1)=n-1:=i64w (by omega) (by omega);simp only[ZG,↓reduceIte,ZA,ZB,ZC,oD.cells.ld,mbl,ZD,ZE,ZF,d6,d10,s2.own.cells.ld,oW2.cells.ld,lk_some kt3 s2.mb hg,hwr];exact hΨ _ _ (fin_ret (rv1 rfl ⟨k02,by simp [HS.count,d6,d10,hg,tup]⟩))
theorem Used_ok (s:Hp h b L S):Gets Try.prog 18 [.pointer (some ⟨b,0,none⟩)] h (fun res h'=>h'=h/\res = .ret (iv S.now.length)):=by
 refine Gets.of (keep:=false) hP (draw_ok hM) k18 (by rfl) (fun Ψ hΨ=>?_);simp only[ZG,↓reduceIte,ZA,ZB,ZC,r18,YE,YC,YO,YA,YL,YX,YS,Ya,Yb,Yl,Yf,Yg,Yi,Ym,Yk,Yt,Yn,Yz,Yp,Yq,Yd,s.own.cells.ld,mbl,ZD,ZE,ZF];refine XX_val (wUsed_ok s.ws) ?_;simp only[ZG,↓reduceIte,ZA,ZB,ZC];exact hΨ _ _ (fin_ret (rv1 rfl ⟨rfl,rfl⟩))
theorem Size_ok (s:Hp h b L S):Gets Try.prog 29 [.pointer (some ⟨b,0,none⟩)] h (fun res h'=>h'=h/\res = .ret (iv S.size)):=by
 refine Gets.of (keep:=false) hP (draw_ok hM) k29 (by rfl) (fun Ψ hΨ=>?_);simp only[ZG,↓reduceIte,ZA,ZB,ZC,r29,YE,YC,YO,YA,YL,YX,YS,Ya,Yb,Yl,Yf,Yg,Yi,Ym,Yk,Yt,Yn,Yz,Yp,Yq,Yd,s.own.cells.ld,mbl,ZD,ZE,ZF];refine XX_val (wSize_ok s.ws) ?_;simp only[ZG,↓reduceIte,ZA,ZB,ZC];exact hΨ _ _ (fin_ret (rv1 rfl ⟨rfl,rfl⟩))
def HS.next (S:HS) (i:Int):Int × Int:=match mget i S.begins with
 | some n=>(i+n,0)
 | none=>(0,2)
theorem Next_ok (s:Hp h b L S) (i:Int) (hr:∀ n,mget i S.begins=some n -> -9223372036854775808<=i+n/\i+n<=9223372036854775807):Gets Try.prog 21 [.pointer (some ⟨b,0,none⟩),iv i] h (fun res h'=>h'=h/\res = .ret (.tuple #[iv (S.next i).1,iv (S.next i).2])):=by
 refine Gets.of (keep:=false) hP (draw_ok hM) k21 (by rfl) (fun Ψ hΨ=>?_);cases hg:mget i S.begins with
 | some n =>
   obtain ⟨h1,h2⟩:=hr n hg;have hwr:IntKind.i64.wrap (i+n)=i+n:=i64w h1 h2;simp only[ZG,↓reduceIte,ZA,ZB,ZC,r21,YE,YC,YO,YA,YL,YX,YS,Ya,Yb,Yl,Yf,Yg,Yi,Ym,Yk,Yt,Yn,Yz,Yp,Yq,Yd,s.own.cells.ld,mbl,ZD,ZE,ZF,lk_some kt3 s.mb hg,hwr];exact hΨ _ _ (fin_ret (rv2 rfl rfl ⟨rfl,by simp [HS.next,hg,tup]⟩))
 | none =>
   simp only[ZG,↓reduceIte,ZA,ZB,ZC,r21,YE,YC,YO,YA,YL,YX,YS,Ya,Yb,Yl,Yf,Yg,Yi,Ym,Yk,Yt,Yn,Yz,Yp,Yq,Yd,s.own.cells.ld,mbl,ZD,ZE,ZF,lk_none kt3 s.mb hg];exact hΨ _ _ (fin_ret (rv2 rfl rfl ⟨rfl,by simp [HS.next,hg,tup]⟩))
end
end Go.S18

namespace Go.S18
open Go Go.Eng Go.Proofs Go.Chk
theorem cloneInfos_ok {h:AH} {u:Value} {n:Nat} {cs:List Value} (hu:Rds h 4 u n cs) (h1:cs.all Value.oneCell'=true) (hb:n*32<=140737488355328):Gets Try.prog 32 [u] h (fun res h'=>Keep (fun _=>False) h h' /\ ∃ v,res = .ret v/\Ows h' 34 4 v n cs /\ ∀ q,bk v q->h.length<=q/\q<h'.length):=by
 refine Gets.of (keep:=false) hP (draw_ok hM) k32 (by rfl) (fun Ψ hΨ=>?_);have k1:Keep (fun _=>False) h (h++[row 34 h.length []]):=Keep.push _ _ _;have o1:Ows (h++[row 34 h.length []]) 34 4 (.slice (some ⟨h.length,0,none⟩) 0 0) 0 []:=.mk (Own.new h 34 h.length []) rfl (Z2 _) rfl;obtain ⟨_,hsrc,rfl⟩:=(hu.keep k1 (fun _ _ e=>e)).src h1;obtain ⟨v2,h2,p1,p2,p3,p4⟩:=o1.app (bytes:=32) hsrc ((hu.keep k1 (fun _ _ e=>e)).len) h1 (by omega) (by omega);have k2:Keep (fun _=>False) h h2:=k1.trans' p3 (fun c hc e=>by have:c=h.length:=e;omega);have hq:∀ q,bk v2 q->h.length<=q/\q<h2.length:=fun q e=>⟨(p4 q e).elim (fun e=>by have:q=h.length:=e;omega) (fun e=>by simp at e;omega),p2.lt q e⟩
 simp only[Z4,Z0] at p2;obtain ⟨ua,uc,rfl⟩:=row_shape hu;cases ua with
 | none =>
   cases hu;simp only[ZG,↓reduceIte,ZA,ZB,ZC,r32,YE,YC,YO,YA,YL,YX,YS,Ya,Yb,Yl,Yf,Yg,Yi,Ym,Yk,Yt,Yn,Yz,Yp,Yq,Yd,mbl,ZD,ZE,ZF];exact hΨ _ _ (fin_ret (rv1 rfl ⟨.refl _ _,_,rfl,.nil,fun q e=>e.elim⟩))
 | some a =>
   simp only[ZG,↓reduceIte,ZA,ZB,ZC,r32,YE,YC,YO,YA,YL,YX,YS,Ya,Yb,Yl,Yf,Yg,Yi,Ym,Yk,Yt,Yn,Yz,Yp,Yq,Yd,mbl,ZD,ZE,ZF,p1];exact hΨ _ _ (fin_ret (rv1 rfl ⟨k2,_,rfl,p2,hq⟩))
theorem cloneTexts_ok {h:AH} {u:Value} {n:Nat} {cs:List Value} (hu:Rds h 1 u n cs) (h1:cs.all Value.oneCell'=true) (hb:n*16<=140737488355328):Gets Try.prog 33 [u] h (fun res h'=>Keep (fun _=>False) h h' /\ ∃ v,res = .ret v/\Ows h' 9 1 v n cs /\ ∀ q,bk v q->h.length<=q/\q<h'.length):=by
 refine Gets.of (keep:=false) hP (draw_ok hM) k33 (by rfl) (fun Ψ hΨ=>?_);have k1:Keep (fun _=>False) h (h++[row 9 h.length []]):=Keep.push _ _ _;have o1:Ows (h++[row 9 h.length []]) 9 1 (.slice (some ⟨h.length,0,none⟩) 0 0) 0 []:=.mk (Own.new h 9 h.length []) rfl (Z2 _) rfl;obtain ⟨_,hsrc,rfl⟩:=(hu.keep k1 (fun _ _ e=>e)).src h1;obtain ⟨v2,h2,p1,p2,p3,p4⟩:=o1.app (bytes:=16) hsrc ((hu.keep k1 (fun _ _ e=>e)).len) h1 (by omega) (by omega);have k2:Keep (fun _=>False) h h2:=k1.trans' p3 (fun c hc e=>by have:c=h.length:=e;omega);have hq:∀ q,bk v2 q->h.length<=q/\q<h2.length:=fun q e=>⟨(p4 q e).elim (fun e=>by have:q=h.length:=e;omega) (fun e=>by simp at e;omega),p2.lt q e⟩
 simp only[Z4,Z0] at p2;obtain ⟨ua,uc,rfl⟩:=row_shape hu;cases ua with
 | none =>
   cases hu;simp only[ZG,↓reduceIte,ZA,ZB,ZC,r33,YE,YC,YO,YA,YL,YX,YS,Ya,Yb,Yl,Yf,Yg,Yi,Ym,Yk,Yt,Yn,Yz,Yp,Yq,Yd,mbl,ZD,ZE,ZF];exact hΨ _ _ (fin_ret (rv1 rfl ⟨.refl _ _,_,rfl,.nil,fun q e=>e.elim⟩))
 | some a =>
   simp only[ZG,↓reduceIte,ZA,ZB,ZC,r33,YE,YC,YO,YA,YL,YX,YS,Ya,Yb,Yl,Yf,Yg,Yi,Ym,Yk,Yt,Yn,Yz,Yp,Yq,Yd,mbl,ZD,ZE,ZF,p1];exact hΨ _ _ (fin_ret (rv1 rfl ⟨k2,_,rfl,p2,hq⟩))
theorem cloneInts_ok {h:AH} {u:Value} {n:Nat} {cs:List Value} (hu:Rds h 1 u n cs) (h1:cs.all Value.oneCell'=true) (hb:n*8<=140737488355328):Gets Try.prog 34 [u] h (fun res h'=>Keep (fun _=>False) h h' /\ ∃ v,res = .ret v/\Ows h' 3 1 v n cs /\ ∀ q,bk v q->h.length<=q/\q<h'.length):=by
 refine Gets.of (keep:=false) hP (draw_ok hM) k34 (by rfl) (fun Ψ hΨ=>?_);have k1:Keep (fun _=>False) h (h++[row 3 h.length []]):=Keep.push _ _ _;have o1:Ows (h++[row 3 h.length []]) 3 1 (.slice (some ⟨h.length,0,none⟩) 0 0) 0 []:=.mk (Own.new h 3 h.length []) rfl (Z2 _) rfl;obtain ⟨_,hsrc,rfl⟩:=(hu.keep k1 (fun _ _ e=>e)).src h1;obtain ⟨v2,h2,p1,p2,p3,p4⟩:=o1.app (bytes:=8) hsrc ((hu.keep k1 (fun _ _ e=>e)).len) h1 (by omega) (by omega);have k2:Keep (fun _=>False) h h2:=k1.trans' p3 (fun c hc e=>by have:c=h.length:=e;omega);have hq:∀ q,bk v2 q->h.length<=q/\q<h2.length:=fun q e=>⟨(p4 q e).elim (fun e=>by have:q=h.length:=e;omega) (fun e=>by simp at e;omega),p2.lt q e⟩
 simp only[Z4,Z0] at p2;obtain ⟨ua,uc,rfl⟩:=row_shape hu;cases ua with
 | none =>
   cases hu;simp only[ZG,↓reduceIte,ZA,ZB,ZC,r34,YE,YC,YO,YA,YL,YX,YS,Ya,Yb,Yl,Yf,Yg,Yi,Ym,Yk,Yt,Yn,Yz,Yp,Yq,Yd,mbl,ZD,ZE,ZF];exact hΨ _ _ (fin_ret (rv1 rfl ⟨.refl _ _,_,rfl,.nil,fun q e=>e.elim⟩))
 | some a =>
   simp only[ZG,↓reduceIte,ZA,ZB,ZC,r34,YE,YC,YO,YA,YL,YX,YS,Ya,Yb,Yl,Yf,Yg,Yi,Ym,Yk,Yt,Yn,Yz,Yp,Yq,Yd,mbl,ZD,ZE,ZF,p1];exact hΨ _ _ (fin_ret (rv1 rfl ⟨k2,_,rfl,p2,hq⟩))
theorem cloneWords_ok {h:AH} {u:Value} {n:Nat} {cs:List Value} (hu:Rds h 2 u n cs) (h1:cs.all Value.oneCell'=true) (hb:n*16<=140737488355328):Gets Try.prog 42 [u] h (fun res h'=>Keep (fun _=>False) h h' /\ ∃ v,res = .ret v/\Ows h' 36 2 v n cs /\ ∀ q,bk v q->h.length<=q/\q<h'.length):=by
 refine Gets.of (keep:=false) hP (draw_ok hM) k42 (by rfl) (fun Ψ hΨ=>?_);have k1:Keep (fun _=>False) h (h++[row 36 h.length []]):=Keep.push _ _ _;have o1:Ows (h++[row 36 h.length []]) 36 2 (.slice (some ⟨h.length,0,none⟩) 0 0) 0 []:=.mk (Own.new h 36 h.length []) rfl (Z2 _) rfl;obtain ⟨_,hsrc,rfl⟩:=(hu.keep k1 (fun _ _ e=>e)).src h1;obtain ⟨v2,h2,p1,p2,p3,p4⟩:=o1.app (bytes:=16) hsrc ((hu.keep k1 (fun _ _ e=>e)).len) h1 (by omega) (by omega);have k2:Keep (fun _=>False) h h2:=k1.trans' p3 (fun c hc e=>by have:c=h.length:=e;omega);have hq:∀ q,bk v2 q->h.length<=q/\q<h2.length:=fun q e=>⟨(p4 q e).elim (fun e=>by have:q=h.length:=e;omega) (fun e=>by simp at e;omega),p2.lt q e⟩
 simp only[Z4,Z0] at p2;obtain ⟨ua,uc,rfl⟩:=row_shape hu;cases ua with
 | none =>
   cases hu;simp only[ZG,↓reduceIte,ZA,ZB,ZC,r42,YE,YC,YO,YA,YL,YX,YS,Ya,Yb,Yl,Yf,Yg,Yi,Ym,Yk,Yt,Yn,Yz,Yp,Yq,Yd,mbl,ZD,ZE,ZF];exact hΨ _ _ (fin_ret (rv1 rfl ⟨.refl _ _,_,rfl,.nil,fun q e=>e.elim⟩))
 | some a =>
   simp only[ZG,↓reduceIte,ZA,ZB,ZC,r42,YE,YC,YO,YA,YL,YX,YS,Ya,Yb,Yl,Yf,Yg,Yi,Ym,Yk,Yt,Yn,Yz,Yp,Yq,Yd,mbl,ZD,ZE,ZF,p1];exact hΨ _ _ (fin_ret (rv1 rfl ⟨k2,_,rfl,p2,hq⟩))
section
variable {h:AH} {b:Nat} {L:Lay} {S:HS}
theorem Globals_ok (s:Hp h b L S) (hg:S.globals.length*16<=140737488355328):Gets Try.prog 14 [.pointer (some ⟨b,0,none⟩)] h (fun res h'=>Keep (fun _=>False) h h' /\ ∃ v,res = .ret v/\Ows h' 36 2 v S.globals.length (ww S.globals) /\ ∀ q,bk v q->h.length<=q/\q<h'.length):=by
 refine Gets.of (keep:=false) hP (draw_ok hM) k14 (by rfl) (fun Ψ hΨ=>?_);simp only[ZG,↓reduceIte,ZA,ZB,ZC,r14,YE,YC,YO,YA,YL,YX,YS,Ya,Yb,Yl,Yf,Yg,Yi,Ym,Yk,Yt,Yn,Yz,Yp,Yq,Yd,s.own.cells.ld,mbl,ZD,ZE,ZF];refine XX_of (cloneWords_ok s.rg.rds (rowsOf_one _) hg) (fun res h2 hle hn=>?_);obtain ⟨k2,v,rfl,hv⟩:=hn;refine .ret ?_;simp only[ZG,↓reduceIte,ZA,ZB,ZC];exact hΨ _ _ (fin_ret (rv1 rfl ⟨k2,v,rfl,hv⟩))
def HS.setg (S:HS) (ys:List (Int × Int)):Int × HS:=if (ys.length:Int)=S.globals.length /\ ∀ y∈ys,S.sound y then (0,{ S with globals:=ys }) else (1,S)
theorem Hp.newg {h h':AH} {b:Nat} {L:Lay} {S:HS} (s:Hp h b L S) {v:Value} {ys:List (Int × Int)} (k:Keep (fun q=>q=b) h h') (ho:Own h' b 71 [.pointer (some ⟨L.bs,0,none⟩),L.vi,.slice none 0 0,L.vt,.slice none 0 0,iv 0,L.vk,.map (some L.mb),.map L.mo,v])
 (hv:Ows h' 36 2 v ys.length (ww ys)) {n:Nat} (hn:n<=h.length) (hq:∀ q,bk v q->n<=q/\L.cls q=0) (hl:∀ q,L.cls q≠0->q<h.length):∃ L',Hp h' b L' { S with globals:=ys }/\Same n L L':=by
 classical
 have hx:∀ q,L.cls q≠1->q≠b:=fun q e c=>e (by rw[c];exact s.c1)
 have nb:∀ q,L.cls q≠0 -> ¬ bk v q:=fun q e c=>e (hq q c).2
 have ne:∀ q,L.cls q≠0->(if bk v q then 5 else if L.cls q=5 then 7 else L.cls q)=if L.cls q=5 then 7 else L.cls q:=fun q e=>if_neg (nb q e)
 refine ⟨{ L with vg:=v,cls:=fun q=>if bk v q then 5 else L.cls q },⟨ho,s.ws.keep k (fun q e=>hx q (by rw[s.c2 q e];omega)),s.ri.keep k (fun q e=>hx q (by rw[s.c6 q (.inl e)];omega)),s.rt.keep k (fun q e=>hx q (by rw[s.c6 q (.inr (.inl e))];omega)),s.rk.keep k (fun q e=>hx q (by rw[s.c6 q (.inr (.inr e))];omega)),
  s.mb.keep k (hx _ (by rw[s.c3];omega)),fun q e=>(s.mo q e).keep k (hx q (by rw[s.c4 q e];omega)),s.mo0,hv,?_,?_,?_,?_,?_,?_,?_⟩,?_⟩
 ·simp only;rw[if_neg (nb _ (by rw[s.c1];omega))];exact s.c1
 ·intro q e;simp only;rw[if_neg (nb _ (by rw[s.c2 q e];omega))];exact s.c2 q e
 ·simp only;rw[if_neg (nb _ (by rw[s.c3];omega))];exact s.c3
 ·intro q e;simp only;rw[if_neg (nb _ (by rw[s.c4 q e];omega))];exact s.c4 q e
 ·intro q e;simp only;rw[if_pos e]
 ·intro q e;simp only;rw[if_neg (nb _ (by rw[s.c6 q e];omega))];exact s.c6 q e
 ·intro q e;simp only
  by_cases c:bk v q
  ·have:=hv.lt q c;omega
  ·rw[if_neg c];exact s.c0 q (Nat.le_trans k.len e)
 ·intro q e;simp only
  rw[if_neg (fun c=>by have:=(hq q c).1;omega)]
theorem SetGlobals_ok (s:Hp h b L S) {u:Value} {ys:List (Int × Int)} (hu:Rds h 2 u ys.length (ww ys)) (hm:ys.length<=9223372036854775807) (hg:S.globals.length*16<=140737488355328) :
 Gets Try.prog 15 [.pointer (some ⟨b,0,none⟩),u] h (fun res h'=>Keep (Mine L) h h'/\res = .ret (iv (S.setg ys).1) /\ ∃ L',Hp h' b L' (S.setg ys).2/\Same h.length L L'):=by
 refine Gets.of (keep:=false) hP (draw_ok hM) k15 (by rfl) (fun Ψ hΨ=>?_);obtain ⟨ua,uc,rfl⟩:=row_shape hu;have oH:=Own.new h 29 h.length [.pointer (some ⟨b,0,none⟩)];have k1:Keep (fun _=>False) h (h++[row 29 h.length [.pointer (some ⟨b,0,none⟩)]]):=Keep.push _ _ _;have l1:(h++[row 29 h.length [.pointer (some ⟨b,0,none⟩)]]).length=h.length+1:=by simp
 simp only[ZG,↓reduceIte,ZA,ZB,ZC,r15,YE,YC,YO,YA,YL,YX,YS,Ya,Yb,Yl,Yf,Yg,Yi,Ym,Yk,Yt,Yn,Yz,Yp,Yq,Yd,mbl,ZD,ZE,ZF];generalize h++[row 29 h.length [.pointer (some ⟨b,0,none⟩)]]=h1 at oH k1 l1 ⊢;have s1:=s.keepF k1;obtain ⟨ga,gc,hvg⟩:=row_shape s.rg.rds
 by_cases hle:(ys.length:Int)=(S.globals.length:Int)
 case neg =>
  have hno:¬ ((ys.length:Int)=S.globals.length /\ ∀ y∈ys,S.sound y):=fun e=>hle e.1
  simp only[ZG,↓reduceIte,ZA,ZB,ZC,oH.cells.ld,s1.own.cells.ld,mbl,ZD,ZE,ZF,hvg,hle];refine hΨ _ _ (fin_ret (rv1 rfl ⟨k1.mono (fun _ e=>e.elim),?_,L,?_,Same.refl _ _⟩))
  ·rw[HS.setg,if_neg hno];rfl
  ·rw[HS.setg,if_neg hno];exact s1
 simp only[ZG,↓reduceIte,ZA,ZB,ZC,oH.cells.ld,s1.own.cells.ld,mbl,ZD,ZE,ZF,hvg,hle];refine XX_of (wcontains_ok s1 oH (hu.keep k1 (fun _ _ e=>e)) hm (fun h2 w a c=>ask2_ok a c w)) (fun res h2 hle2 hn=>?_);obtain ⟨k2,rfl⟩:=hn;refine .ret ?_;have k02:=k1.trans k2
 by_cases hall:∀ y∈ys,S.sound y
 case neg =>
  have hno:¬ ((ys.length:Int)=S.globals.length /\ ∀ y∈ys,S.sound y):=fun e=>hall e.2
  simp only[ZG,↓reduceIte,ZA,ZB,ZC,hall,not_false_eq_true,mbl,ZD,ZE,ZF];refine hΨ _ _ (fin_ret (rv1 rfl ⟨k02.mono (fun _ e=>e.elim),?_,L,?_,Same.refl _ _⟩))
  ·rw[HS.setg,if_neg hno];rfl
  ·rw[HS.setg,if_neg hno];exact s.keepF k02
 have hd0:decide (¬ ∀ y∈ys,S.sound y)=false:=decide_eq_false (fun e=>e hall);have hcond:(ys.length:Int)=S.globals.length /\ ∀ y∈ys,S.sound y:=⟨hle,hall⟩
 have oH2:=oH.keep k2 (fun e=>e);have hgy:ys.length*16<=140737488355328:=by omega
 simp only[ZG,↓reduceIte,ZA,ZB,ZC,hd0,mbl,ZD,ZE,ZF,oH2.cells.ld];refine XX_of (cloneWords_ok (hu.keep k02 (fun _ _ e=>e)) (rowsOf_one _) hgy) (fun res h3 hle3 hn=>?_);obtain ⟨k3,v,rfl,hv,hvq⟩:=hn;refine .ret ?_;have k03:=k02.trans k3;have s3:=s.keepF k03;have oH3:=oH2.keep k3 (fun e=>e);obtain ⟨va,vc,rfl⟩:=row_shape hv.rds;simp only[ZG,↓reduceIte,ZA,ZB,ZC,mbl,ZD,ZE,ZF,oH3.cells.ld,ct1];refine XH_own s3.own rfl (by simp [Value.cells]) rfl (fun h4 q1 q2 q3=>?_);simp only[ZG,↓reduceIte,ZA,ZB,ZC];have hbl:b<h.length:=s.own.lt;have hl2:h.length<=h2.length:=k02.len;refine hΨ _ _ (fin_ret (rv1 rfl ⟨(k03.mono (fun _ e=>e.elim)).trans (q2.mono (fun q e=>by rw[Mine,e,s.c1];omega)),?_,?_⟩))
 ·rw[HS.setg,if_pos hcond];rfl
 ·rw[HS.setg,if_pos hcond]
  have hlt:∀ q,L.cls q≠0->q<h.length:=fun q e=>Nat.lt_of_not_le fun c=>e (s.c0 q c)
  exact s3.newg q2 (by simpa [Value.cells] using q1) (hv.keep q2 (fun q e c=>by have:=(hvq q e).1;omega)) (by omega) (fun q e=>⟨by have:=(hvq q e).1;omega,s.c0 q (by have:=(hvq q e).1;omega)⟩) (fun q e=>by have:=hlt q e;have:=k03.len;omega)
end
end Go.S18

namespace Go.S18
open Go Go.Eng Go.Proofs Go.Chk
structure HS.Ok (S:HS):Prop where
 bw:∀ k n,mget k S.begins=some n->0<=k/\1<=n/\k+n<=S.now.length
 hi:∀ k n,mget k S.begins=some n->(wat S.now k).1=6->0<=(wat S.now k).2/\(wat S.now k).2<S.infos.length/\0<=S.fr (wat S.now k).2/\S.fr (wat S.now k).2<n
theorem HS.Ok.fresh {S:HS} (k:S.Ok):mget S.now.length S.begins=none:=by
 cases e:mget S.now.length S.begins with
 | none=>rfl
 | some n=>have:=k.bw _ _ e;omega
def fill (n:Nat) (g:Nat->Int × Int) (i:Nat):List (Int × Int):=(Ze n).map fun j=>if j<i then g j else (0,0)
theorem fill_len (n:Nat) (g:Nat->Int × Int) (i:Nat):(fill n g i).length=n:=by simp [fill]
theorem fill_zero (n:Nat) (g:Nat->Int × Int):fill n g 0=Z1 n (0,0):=by
 refine Z6 (by simp [fill]) (fun i _ _=>by simp [fill])
theorem fill_end (n:Nat) (g:Nat->Int × Int):fill n g n=(Ze n).map g:=by
 refine Z6 (by simp [fill]) (fun i h1 _=>?_);simp [fill];intro e;simp [fill] at h1;omega
theorem fill_set (n:Nat) (g:Nat->Int × Int) (i:Nat):(fill n g i).set i (g i)=fill n g (i+1):=by
 refine Z6 (by simp [fill]) (fun j h1 h2=>?_);rw[List.getElem_set];simp only[fill,List.getElem_map,List.getElem_range]
 split
 ·rename_i e;subst e;rw[if_pos (by omega)]
 ·rename_i e
  by_cases c:j<i
  ·rw[if_pos c,if_pos (by omega)]
  ·rw[if_neg c,if_neg (by omega)]
theorem ww_rep (n:Nat):ww (Z1 n ((0,0):Int × Int))=(Z1 n [iv 0,iv 0]).flatten:=by
 induction n with
 | zero=>rfl
 | succ n ih =>
   have e:∀ z (l:List (Int × Int)),ww (z::l)=ns (wc z)++ww l:=fun z l=>by simp [ww,rowsOf]
   rw[Z5,e,ih,Z5,Zc];rfl
theorem mslw (m:Nat) {n:Int} (h0:0<=n) (h1:n<=1048576):mslv m 36 [iv 0,iv 0] 16 (iv n) (iv n)=some (.slice (some ⟨m,0,none⟩) n.toNat n.toNat,some (row 36 m (ww (fill n.toNat (fun _=>(0,0)) 0)))):=by
 rw[fill_zero,ww_rep];simp only[mslv];rw[if_pos (by refine ⟨by omega,by omega,by omega,?_⟩;omega)]
theorem fill_g (n:Nat) (g g':Nat->Int × Int):fill n g 0=fill n g' 0:=by rw[fill_zero,fill_zero]
def HS.fcount (S:HS) (w:Int × Int):Int:=if (gx S.now w.2).1=12 then 1 else S.count w (gx S.now w.2)
def HS.flds (S:HS) (w:Int × Int):List (Int × Int):=(Ze (S.fcount w).toNat).map fun i:Nat=>gx S.now (w.2+1+(i:Int))
section
variable {h:AH} {b:Nat} {L:Lay} {S:HS}
theorem HS.Ok.fc {S:HS} (k:S.Ok) {w:Int × Int} (hl:S.lies w) (hm:S.now.length<=1048576) :
 ∃ n,mget w.2 S.begins=some n/\gx S.now w.2=wat S.now w.2/\((gx S.now w.2).1=6->0<=(gx S.now w.2).2/\(gx S.now w.2).2<S.infos.length)/\0<=n/\n<=1048576/\0<=S.fcount w/\S.fcount w<=1048576/\0<=w.2/\w.2<1048576:=by
 obtain ⟨n,hn⟩:=Option.isSome_iff_exists.1 hl.2;obtain ⟨a,c,d⟩:=k.bw _ _ hn;have e:gx S.now w.2=wat S.now w.2:=by rw[gx,if_pos (by omega)]
 refine ⟨n,hn,e,fun f=>?_,by omega,by omega,?_,?_,by omega,by omega⟩
 ·rw[e] at f ⊢;exact ⟨(k.hi _ _ hn f).1,(k.hi _ _ hn f).2.1⟩
 ·unfold HS.fcount HS.count
  rw[e,hn]
  split;· omega
  split;· rename_i f;exact (k.hi _ _ hn f).2.2.1
  split;· omega
  simp;omega
 ·unfold HS.fcount HS.count
  rw[e,hn]
  split;· omega
  split;· rename_i f;have:=(k.hi _ _ hn f).2.2.2;omega
  split;· omega
  simp;omega
theorem Fields_ok (s:Hp h b L S) (ok:S.Ok) (w:Int × Int):Gets Try.prog 13 [.pointer (some ⟨b,0,none⟩),wv w] h (fun res h'=>Keep (fun _=>False) h h' /\
 if S.lies w then ∃ v,res = .ret (.tuple #[v,iv 0])/\Ows h' 36 2 v (S.flds w).length (ww (S.flds w)) /\ ∀ q,bk v q->h.length<=q/\q<h'.length
 else res = .ret (.tuple #[.slice none 0 0,iv 1])):=by
 refine Gets.of (keep:=false) hP (draw_ok hM) k13 (by rfl) (fun Ψ hΨ=>?_);have oW:=Own.new h 36 h.length [iv w.1,iv w.2];have k1:Keep (fun _=>False) h (h++[row 36 h.length [iv w.1,iv w.2]]):=Keep.push _ _ _;have l1:(h++[row 36 h.length [iv w.1,iv w.2]]).length=h.length+1:=by simp
 simp only[ZG,↓reduceIte,ZA,ZB,ZC,r13,YE,YC,YO,YA,YL,YX,YS,Ya,Yb,Yl,Yf,Yg,Yi,Ym,Yk,Yt,Yn,Yz,Yp,Yq,Yd,wv,mbl,ZD,ZE,ZF];generalize h++[row 36 h.length [iv w.1,iv w.2]]=h1 at oW k1 l1 ⊢;simp only[ZG,↓reduceIte,ZA,ZB,ZC,oW.cells.lds 0 2 (by simp),mbl,ZD,ZE,ZF];refine XX_of (Head_ok (s.keepF k1) w) (fun res h2 hle hn=>?_);obtain ⟨k2,rfl⟩:=hn;refine .ret ?_;have k02:=k1.trans k2;have oW2:=oW.keep k2 (fun e=>e);have oD:=Own.new h2 36 h2.length [iv 0,iv 0];have k3:Keep (fun _=>False) h2 (h2++[row 36 h2.length [iv 0,iv 0]]):=Keep.push _ _ _;simp only[ZG,↓reduceIte,ZA,ZB,ZC,wv,mbl,ZD,ZE,ZF];refine XH_own oD rfl (by simp [Value.cells]) rfl (fun h3 q1 q2 q3=>?_);have oD3:Own h3 h2.length 36 [iv (S.head w).1.1,iv (S.head w).1.2]:=by simpa [Value.cells] using q1
 have k23:Keep (fun _=>False) h2 h3:=k3.trans' q2 (fun c hc e=>by omega);have k03:=k02.trans k23;have hl12:h.length+1<=h2.length:=by have:=k2.len;omega
 by_cases hl:S.lies w
 case neg =>
  have e0:S.head w=((0,0),1):=by rw[HS.head,if_neg hl]
  simp only[ZG,↓reduceIte,ZA,ZB,ZC,e0,mbl,ZD,ZE,ZF];refine hΨ _ _ (fin_ret (rv2 rfl rfl ⟨k03,?_⟩));rw[if_neg hl];rfl
 have e0:S.head w=(gx S.now w.2,0):=by rw[HS.head,if_pos hl]
 obtain ⟨nb,f1,f2,f3,f4,f5,f6,f7,f8,f9⟩:=ok.fc hl (by have:=s.ws.ln;have:=s.ws.sz;omega);have oW3:=oW2.keep k23 (fun e=>e);rw[e0] at oD3;simp only[ZG,↓reduceIte,ZA,ZB,ZC,e0,mbl,ZD,ZE,ZF,oW3.cells.lds 0 2 (by simp),oD3.cells.lds 0 2 (by simp)];refine XX_of (count_ok (s.keepF k03) w (gx S.now w.2) f3 (fun _ _=>⟨nb,f1,f4,f5⟩)) (fun res h4 hle4 hn=>?_);obtain ⟨k4,rfl⟩:=hn;refine .ret ?_;have k04:=k03.trans k4;have oD4:=oD3.keep k4 (fun e=>e);have oW4:=oW3.keep k4 (fun e=>e);have hl4:h.length+1<=h4.length:=by have:=(k23.trans k4).len;omega
 have hms:=mslw h4.length f6 f7;have oL:=Own.new h4 36 h4.length (ww (fill (S.fcount w).toNat (fun _=>(0,0)) 0));have k5:Keep (fun _=>False) h4 (h4++[row 36 h4.length (ww (fill (S.fcount w).toNat (fun _=>(0,0)) 0))]):=Keep.push _ _ _;rw[fill_g _ _ (fun i:Nat=>gx S.now (w.2+1+(i:Int)))] at hms oL k5;have fin:(S.flds w).length=(S.fcount w).toNat:=by simp [HS.flds]
 by_cases d12:(gx S.now w.2).1=12
 ·have hfc:iv 1=iv (S.fcount w):=by rw[HS.fcount,if_pos d12]
  have hms1:=hms;rw[<- hfc] at hms1;simp only[ZG,↓reduceIte,ZA,ZB,ZC,oD4.cells.ld,mbl,ZD,ZE,ZF,d12,hms1];generalize h4++[row 36 h4.length (ww (fill (S.fcount w).toNat (fun i:Nat=>gx S.now (w.2+1+(i:Int))) 0))]=h5 at oL k5 ⊢;have k05:=k04.trans k5;have oW5:=oW4.keep k5 (fun e=>e);have hnn:((S.fcount w).toNat:Int)=S.fcount w:=Za f6;generalize hN:(S.fcount w).toNat=N at *;generalize hg:(fun i:Nat=>gx S.now (w.2+1+(i:Int)))=g at *;have hgi:∀ i:Nat,gx S.now (w.2+1+(i:Int))=g i:=fun i=>by rw[<- hg]
  refine XLo_rule (α:=Nat) (fun i=>[(0,.pointer (some ⟨b,0,none⟩)),(3,.pointer (some ⟨h.length,0,none⟩)),(9,.slice (some ⟨h4.length,0,none⟩) N N),(30,iv N),(31,iv i)])
   (fun i h'=>i<=N/\Keep (fun q=>q=h4.length) h5 h'/\Own h' h4.length 36 (ww (fill N g i))) (fun i=>N-i) 0 ⟨Nat.zero_le _,.refl _ _,oL⟩ ⟨rfl,rfl,rfl,rfl,rfl,trivial⟩ ?_
  rintro i h6 Ψ2 ⟨i1,kp,oL6⟩ next out
  have k06:Keep (fun _=>False) h h6:=k05.trans' kp (fun c hc e=>by omega);have oW6:=oW5.keep kp (fun e=>by omega)
  by_cases hi:(i:Int)<(N:Int)
  ·have h0:0<=(i:Int):=by omega
   have hw1:IntKind.i64.wrap ((i:Int)+1)=i+1:=i64w (by omega) (by omega);have hw2:IntKind.i64.wrap (w.2+1)=w.2+1:=i64w (by omega) (by omega);have hw3:IntKind.i64.wrap (w.2+1+(i:Int))=w.2+1+i:=i64w (by omega) (by omega);have s6:=s.keepF k06;simp only[ZG,↓reduceIte,ZA,ZB,ZC,hi,s6.own.cells.ld,oW6.cells.ld,mbl,ZD,ZE,ZF,hw2,hw3];refine XX_of (wGet_ok s6.ws (w.2+1+(i:Int))) (fun res h7 hle7 hn=>?_);obtain ⟨k7,rfl⟩:=hn;refine .ret ?_;have oL7:=oL6.keep k7 (fun e=>e);simp only[ZG,↓reduceIte,ZA,ZB,ZC,gw_eq,mbl,ZD,ZE,ZF,h0,hi,and_self,Zd,Z4];refine XH_own oL7 rfl (by simp [Value.cells,ww_len,fill_len];omega) rfl (fun h8 t1 t2 t3=>?_);simp only[ZG,↓reduceIte,ZA,ZB,ZC,hw1];refine next (i+1) _ _ _ ⟨by omega,(kp.trans (k7.mono (fun _ e=>e.elim))).trans t2,?_⟩ ⟨rfl,rfl,rfl,rfl,?_,trivial⟩ (by omega)
   ·have e:=wset (xs:=fill N g i) (x:=g i) (i:=i) (by rw[fill_len];omega)
    rw[fill_set] at e;rw[e,<- hgi]
    simpa [Value.cells,wc,ns] using t1
   ·simp only[Int.natCast_add,Zb];rfl
  ·have hie:i=N:=by omega
   subst hie;simp only[ZG,↓reduceIte,ZA,ZB,ZC,hi];refine out (.exit 0) _ _ _ _ (by intro e;cases e) ?_;simp only[ZG,↓reduceIte,ZA,ZB,ZC];refine hΨ _ _ (fin_ret (rv2 rfl rfl ⟨k06,?_⟩));rw[if_pos hl];have hf:S.flds w=fill i g i:=by rw[fill_end,HS.flds,hN,hg]
   refine ⟨_,rfl,?_,fun q e=>?_⟩
   ·rw[hf,fill_len]
    exact .mk oL6 (by rw[ww_len,fill_len]) (Z2 _) (by rw[Z8 (by rw[ww_len,fill_len];omega)])
   ·have:q=h4.length:=e
    have:=oL6.lt;omega
 ·have hfc:S.count w (gx S.now w.2)=S.fcount w:=by rw[HS.fcount,if_neg d12]
  simp only[ZG,↓reduceIte,ZA,ZB,ZC,oD4.cells.ld,mbl,ZD,ZE,ZF,d12,hfc,hms];generalize h4++[row 36 h4.length (ww (fill (S.fcount w).toNat (fun i:Nat=>gx S.now (w.2+1+(i:Int))) 0))]=h5 at oL k5 ⊢;have k05:=k04.trans k5;have oW5:=oW4.keep k5 (fun e=>e);have hnn:((S.fcount w).toNat:Int)=S.fcount w:=Za f6;generalize hN:(S.fcount w).toNat=N at *;generalize hg:(fun i:Nat=>gx S.now (w.2+1+(i:Int)))=g at *;have hgi:∀ i:Nat,gx S.now (w.2+1+(i:Int))=g i:=fun i=>by rw[<- hg]
  refine XLo_rule (α:=Nat) (fun i=>[(0,.pointer (some ⟨b,0,none⟩)),(3,.pointer (some ⟨h.length,0,none⟩)),(9,.slice (some ⟨h4.length,0,none⟩) N N),(30,iv N),(31,iv i)])
   (fun i h'=>i<=N/\Keep (fun q=>q=h4.length) h5 h'/\Own h' h4.length 36 (ww (fill N g i))) (fun i=>N-i) 0 ⟨Nat.zero_le _,.refl _ _,oL⟩ ⟨rfl,rfl,rfl,rfl,rfl,trivial⟩ ?_
  rintro i h6 Ψ2 ⟨i1,kp,oL6⟩ next out
  have k06:Keep (fun _=>False) h h6:=k05.trans' kp (fun c hc e=>by omega);have oW6:=oW5.keep kp (fun e=>by omega)
  by_cases hi:(i:Int)<(N:Int)
  ·have h0:0<=(i:Int):=by omega
   have hw1:IntKind.i64.wrap ((i:Int)+1)=i+1:=i64w (by omega) (by omega);have hw2:IntKind.i64.wrap (w.2+1)=w.2+1:=i64w (by omega) (by omega);have hw3:IntKind.i64.wrap (w.2+1+(i:Int))=w.2+1+i:=i64w (by omega) (by omega);have s6:=s.keepF k06;simp only[ZG,↓reduceIte,ZA,ZB,ZC,hi,s6.own.cells.ld,oW6.cells.ld,mbl,ZD,ZE,ZF,hw2,hw3];refine XX_of (wGet_ok s6.ws (w.2+1+(i:Int))) (fun res h7 hle7 hn=>?_);obtain ⟨k7,rfl⟩:=hn;refine .ret ?_;have oL7:=oL6.keep k7 (fun e=>e);simp only[ZG,↓reduceIte,ZA,ZB,ZC,gw_eq,mbl,ZD,ZE,ZF,h0,hi,and_self,Zd,Z4];refine XH_own oL7 rfl (by simp [Value.cells,ww_len,fill_len];omega) rfl (fun h8 t1 t2 t3=>?_);simp only[ZG,↓reduceIte,ZA,ZB,ZC,hw1];refine next (i+1) _ _ _ ⟨by omega,(kp.trans (k7.mono (fun _ e=>e.elim))).trans t2,?_⟩ ⟨rfl,rfl,rfl,rfl,?_,trivial⟩ (by omega)
   ·have e:=wset (xs:=fill N g i) (x:=g i) (i:=i) (by rw[fill_len];omega)
    rw[fill_set] at e;rw[e,<- hgi]
    simpa [Value.cells,wc,ns] using t1
   ·simp only[Int.natCast_add,Zb];rfl
  ·have hie:i=N:=by omega
   subst hie;simp only[ZG,↓reduceIte,ZA,ZB,ZC,hi];refine out (.exit 0) _ _ _ _ (by intro e;cases e) ?_;simp only[ZG,↓reduceIte,ZA,ZB,ZC];refine hΨ _ _ (fin_ret (rv2 rfl rfl ⟨k06,?_⟩));rw[if_pos hl];have hf:S.flds w=fill i g i:=by rw[fill_end,HS.flds,hN,hg]
   refine ⟨_,rfl,?_,fun q e=>?_⟩
   ·rw[hf,fill_len]
    exact .mk oL6 (by rw[ww_len,fill_len]) (Z2 _) (by rw[Z8 (by rw[ww_len,fill_len];omega)])
   ·have:q=h4.length:=e
    have:=oL6.lt;omega
end
end Go.S18

namespace Go.S18
open Go Go.Eng Go.Proofs Go.Chk
theorem rep_len (n:Nat):(Z1 n [iv 0,iv 0]).flatten.length=n*2:=by
 induction n with
 | zero=>rfl
 | succ n ih=>rw[Z5,Zc,Z3,ih];simp;omega
theorem ows_clearw {h:AH} {v:Value} {n:Nat} {xs:List (Int × Int)} (ho:Ows h 36 2 v n (ww xs)) :
 ∃ h2 v',clrv h [iv 0,iv 0] v=some h2/\Keep (bk v) h h2/\h2.length=h.length/\sllv h2 36 2 v none (some (iv 0))=some (v',none)/\Ows h2 36 2 v' 0 (ww [])/\(∀ q,bk v' q->bk v q)/\v'.cells.size=1/\v'.cells.toList.length=1/\v'.cells.toList=[v']/\v'.cells.toList.all Value.oneCell'=true:=by
 by_cases h0:n=0
 ·subst h0
  generalize hc:ww xs=cs at ho;cases ho with
  | nil=>exact ⟨h,.slice none 0 0,rfl,.refl _ _,rfl,rfl,.nil,fun q e=>e,rfl,rfl,rfl,rfl⟩
  | @mk b n c all cs hb hl hn hx =>
    have hb':=hb;obtain ⟨g,hg⟩:=hb;have:helem h b=some 36:=by simp [helem,hg]
    refine ⟨h,.slice (some ⟨b,0,none⟩) 0 c,by simp [clrv],.refl _ _,rfl,by simp [sllv,this,bnd],.mk hb' hl (by omega) (by simp [ww,rowsOf]),fun q e=>e,rfl,rfl,rfl,rfl⟩
 ·obtain ⟨b,c,all,rfl,hb,hl,hn,hx⟩:=ows_openw ho (by omega)
  have hlen:=rep_len n;have hone:(Z1 n [iv 0,iv 0]).flatten.all Value.oneCell'=true:=by
   rw[<- ww_rep];exact rowsOf_one _
  obtain ⟨h2,k1,k2,k3,k4⟩:=hb.store (i:=0) (vs:=(Z1 n [iv 0,iv 0]).flatten) (by rw[hlen];omega) hone;have k2':=k2;obtain ⟨g,hg⟩:=k2;have:helem h2 b=some 36:=by simp [helem,hg]
  refine ⟨h2,.slice (some ⟨b,0,none⟩) 0 c,by simp only[clrv,h0,if_false,k1],k3,k4,by simp [sllv,this,bnd],.mk k2' (by simp only[Z3,List.length_take,List.length_drop,hlen];omega) (by omega) (by simp [ww,rowsOf]),fun q e=>e,rfl,rfl,rfl,rfl⟩
theorem wFlip_ok {h:AH} {b:Nat} {size side:Int} {v0 v1:Value} {now old:List (Int × Int)} (s:WS h b size side v0 v1 now old) :
 Gets Try.prog 47 [.pointer (some ⟨b,0,none⟩)] h (fun res h'=>res = .ret (.tuple #[])/\Keep (WOwns b v0 v1) h h' /\ ∃ v0' v1',WS h' b size (1-side) v0' v1' [] now /\ ∀ q,WOwns b v0' v1' q->WOwns b v0 v1 q):=by
 refine Gets.of (keep:=false) hP (draw_ok hM) k47 (by rfl) (fun Ψ hΨ=>?_);have hsz:=s.sz;have rn0:=s.rn;have ro0:=s.ro
 rcases s.sd with rfl|rfl
 ·simp only[if_true] at rn0 ro0
  simp only[ZG,↓reduceIte,ZA,ZB,ZC,r47,YE,YC,YO,YA,YL,YX,YS,Ya,Yb,Yl,Yf,Yg,Yi,Ym,Yk,Yt,Yn,Yz,Yp,Yq,Yd,s.own.cells.ld,mbl,ZD,ZE,ZF,a20,a21,z0,z1,w10,w11];refine XH_own s.own rfl (by simp [Value.cells]) rfl (fun h1 q1 q2 q3=>?_);have r1:=ro0.keep q2 (fun q e e'=>s.d1 q e e');have r0:=rn0.keep q2 (fun q e e'=>s.d0 q e e');simp only[vc_int,vl1,lts,lt0,lac,Z0,llc,lln,Nat.reduceAdd,lds,ld0,ldn,Z7] at q1;obtain ⟨h2,v',c1,c2,c3,c4,c5,c6,c7,c8,c9,c10⟩:=ows_clearw r1;have own2:=q1.keep c2 (fun e=>s.d1 b e rfl);simp only[ZG,↓reduceIte,ZA,ZB,ZC,q1.cells.ld,mbl,ZD,ZE,ZF,a20,a21,z0,z1,w10,w11,c1];simp only[ZG,↓reduceIte,ZA,ZB,ZC,own2.cells.ld,mbl,ZD,ZE,ZF,a20,a21,z0,z1,w10,w11,c4];refine XH_own own2 c7.symm (by rw[c8];simp) c10 (fun h3 p1 p2 p3=>?_);rw[c8,c9] at p1;simp only[ZG,↓reduceIte,ZA,ZB,ZC];refine hΨ _ _ (fin_norm ⟨rfl,?_,v0,v',⟨p1,?_,?_,fun q e e'=>s.d q e (c6 q e'),s.d0,fun q e=>s.d1 q (c6 q e),.inr rfl,s.sz,by simpa using hsz.1,s.ln⟩,?_⟩)
  ·exact ((q2.mono (T:=WOwns b v0 v1) fun q e=>.inl e).trans (c2.mono fun q e=>.inr (.inr e))).trans (p2.mono fun q e=>.inl e)
  ·exact c5.keep p2 (fun q e e'=>s.d1 q (c6 q e) e')
  ·exact (r0.keep c2 (fun q e e'=>s.d q e e')).keep p2 (fun q e e'=>s.d0 q e e')
  ·rintro q (e|e|e)
   ·exact .inl e
   ·exact .inr (.inl e)
   ·exact .inr (.inr (c6 q e))
 ·simp only[f10',if_false] at rn0 ro0
  simp only[ZG,↓reduceIte,ZA,ZB,ZC,r47,YE,YC,YO,YA,YL,YX,YS,Ya,Yb,Yl,Yf,Yg,Yi,Ym,Yk,Yt,Yn,Yz,Yp,Yq,Yd,s.own.cells.ld,mbl,ZD,ZE,ZF,a20,a21,z0,z1,w10,w11];refine XH_own s.own rfl (by simp [Value.cells]) rfl (fun h1 q1 q2 q3=>?_);have r1:=rn0.keep q2 (fun q e e'=>s.d1 q e e');have r0:=ro0.keep q2 (fun q e e'=>s.d0 q e e');simp only[vc_int,vl1,lts,lt0,lac,Z0,llc,lln,Nat.reduceAdd,lds,ld0,ldn,Z7] at q1;obtain ⟨h2,v',c1,c2,c3,c4,c5,c6,c7,c8,c9,c10⟩:=ows_clearw r0;have own2:=q1.keep c2 (fun e=>s.d0 b e rfl);simp only[ZG,↓reduceIte,ZA,ZB,ZC,q1.cells.ld,mbl,ZD,ZE,ZF,a20,a21,z0,z1,w10,w11,c1];simp only[ZG,↓reduceIte,ZA,ZB,ZC,own2.cells.ld,mbl,ZD,ZE,ZF,a20,a21,z0,z1,w10,w11,c4];refine XH_own own2 c7.symm (by rw[c8];simp) c10 (fun h3 p1 p2 p3=>?_);rw[c8,c9] at p1;simp only[ZG,↓reduceIte,ZA,ZB,ZC];refine hΨ _ _ (fin_norm ⟨rfl,?_,v',v1,⟨p1,?_,?_,fun q e e'=>s.d q (c6 q e) e',fun q e=>s.d0 q (c6 q e),s.d1,.inl rfl,s.sz,by simpa using hsz.1,s.ln⟩,?_⟩)
  ·exact ((q2.mono (T:=WOwns b v0 v1) fun q e=>.inl e).trans (c2.mono fun q e=>.inr (.inl e))).trans (p2.mono fun q e=>.inl e)
  ·exact c5.keep p2 (fun q e e'=>s.d0 q (c6 q e) e')
  ·exact (r1.keep c2 (fun q e e'=>s.d q e' e)).keep p2 (fun q e e'=>s.d1 q e e')
  ·rintro q (e|e|e)
   ·exact .inl e
   ·exact .inr (.inl (c6 q e))
   ·exact .inr (.inr e)
def HS.flip (S:HS):HS:={ S with side:=1-S.side,now:=[],old:=S.now,begins:=[],oldm:=S.begins }
section
variable {h:AH} {b:Nat} {L:Lay} {S:HS}
theorem Flip_ok (s:Hp h b L S):Gets Try.prog 25 [.pointer (some ⟨b,0,none⟩)] h (fun res h'=>res = .ret (.tuple #[])/\Keep (Mine L) h h' /\ ∃ L',Hp h' b L' S.flip/\Same h.length L L'):=by
 refine Gets.of (keep:=false) hP (draw_ok hM) k25 (by rfl) (fun Ψ hΨ=>?_);simp only[ZG,↓reduceIte,ZA,ZB,ZC,r25,YE,YC,YO,YA,YL,YX,YS,Ya,Yb,Yl,Yf,Yg,Yi,Ym,Yk,Yt,Yn,Yz,Yp,Yq,Yd,s.own.cells.ld,mbl,ZD,ZE,ZF];refine XX_of (wFlip_ok s.ws) (fun res h1 hle hn=>?_);obtain ⟨rfl,k1,v0',v1',ws1,hown⟩:=hn;refine .ret ?_;have hne:∀ q,WOwns L.bs L.v0 L.v1 q->L.cls q=2:=s.c2;have cb:∀ q,L.cls q≠2 -> ¬ WOwns L.bs L.v0 L.v1 q:=fun q a e=>a (hne q e)
 have own1:=s.own.keep k1 (cb b (by rw[s.c1];omega));have k2:Keep (fun _=>False) h1 (h1++[.map []]):=Keep.push _ _ _;have m2:MOwn (h1++[.map []]) h1.length []:=.new h1;have own2:=own1.keep k2 (fun e=>e);have l2:(h1++[Blk.map []]).length=h1.length+1:=by simp
 simp only[ZG,↓reduceIte,ZA,ZB,ZC,own1.cells.ld,mbl,ZD,ZE,ZF];generalize h1++[Blk.map []]=h2 at k2 m2 own2 l2 ⊢;refine XH_own own2 rfl (by simp [Value.cells]) rfl (fun h3 q1 q2 q3=>?_);simp only[vc_int,vl1,lts,lt0,lac,Z0,llc,lln,Nat.reduceAdd,lds,ld0,ldn,Z7] at q1;simp only[ZG,↓reduceIte,ZA,ZB,ZC];refine XH_own q1 rfl (by simp [Value.cells]) rfl (fun h4 p1 p2 p3=>?_);simp only[ZG,↓reduceIte,ZA,ZB,ZC];have k24:Keep (fun q=>q=b) h2 h4:=q2.trans p2;have k04:Keep (fun q=>L.cls q=2\/q=b) h h4:=((k1.mono (fun q e=>.inl (hne q e))).trans (k2.mono fun _ e=>e.elim)).trans (k24.mono fun q e=>.inr e);have hb2:b<h.length:=s.own.lt;have hh1:h.length<=h1.length:=hle;have lt1:∀ q,L.cls q≠0->q<h.length:=fun q e=>Nat.lt_of_not_le fun c=>e (s.c0 q c)
 have hx:∀ q,L.cls q≠0->L.cls q≠2->L.cls q≠1 -> ¬ (L.cls q=2\/q=b):=by
  intro q a c d e
  rcases e with e|e
  ·exact c e
  ·rw[e] at d;exact d s.c1
 have hmn:L.mb≠h1.length:=by have:=s.mb.lt;omega
 refine hΨ _ _ (fin_norm ⟨rfl,k04.mono (fun q e=>?_),{ L with v0:=v0',v1:=v1',mb:=h1.length,mo:=some L.mb,cls:=fun q=>if q=L.mb then 4 else if q=h1.length then 3 else L.cls q },?_,?_⟩)
 ·rcases e with e|e
  ·rw[Mine,e];omega
  ·rw[Mine,e,s.c1];omega
 ·have old:∀ q,L.cls q≠0->L.cls q≠3->(if q=L.mb then 4 else if q=h1.length then 3 else L.cls q)=L.cls q:=by
   intro q a c;rw[if_neg (fun e=>c (by rw[e];exact s.c3)),if_neg (fun e=>by have:=lt1 q a;omega)]
  refine ⟨by simpa [Value.cells] using p1,(ws1.keep k2 (fun _ _ e=>e)).keep k24 (fun q e o=>by have:=s.c2 q (hown q e);rw[o,s.c1] at this;omega),?_,?_,?_,?_,?_,?_,?_,?_,?_,?_,?_,?_,?_,?_⟩
  ·exact s.ri.keep k04 (fun q e=>hx q (by rw[s.c6 q (.inl e)];omega) (by rw[s.c6 q (.inl e)];omega) (by rw[s.c6 q (.inl e)];omega))
  ·exact s.rt.keep k04 (fun q e=>hx q (by rw[s.c6 q (.inr (.inl e))];omega) (by rw[s.c6 q (.inr (.inl e))];omega) (by rw[s.c6 q (.inr (.inl e))];omega))
  ·exact s.rk.keep k04 (fun q e=>hx q (by rw[s.c6 q (.inr (.inr e))];omega) (by rw[s.c6 q (.inr (.inr e))];omega) (by rw[s.c6 q (.inr (.inr e))];omega))
  ·exact m2.keep k24 (fun e=>by omega)
  ·intro q e;simp only[Z9.injEq] at e;rw[<- e];exact s.mb.keep k04 (hx _ (by rw[s.c3];omega) (by rw[s.c3];omega) (by rw[s.c3];omega))
  ·intro e;cases e
  ·exact s.rg.keep k04 (fun q e=>hx q (by rw[s.c5 q e];omega) (by rw[s.c5 q e];omega) (by rw[s.c5 q e];omega))
  ·simp only;rw[old b (by rw[s.c1];omega) (by rw[s.c1];omega)];exact s.c1
  ·intro q e;simp only;have:=s.c2 q (hown q e);rw[old q (by omega) (by omega)];exact this
  ·simp only;rw[if_neg (fun e=>hmn e.symm)];simp
  ·intro q e;simp only[Z9.injEq] at e;simp only;rw[if_pos e.symm]
  ·intro q e;simp only;have:=s.c5 q e;rw[old q (by omega) (by omega)];exact this
  ·intro q e;simp only;have:=s.c6 q e;rw[old q (by omega) (by omega)];exact this
  ·intro q e;simp only
   have:=s.mb.lt;rw[if_neg (by omega),if_neg (by omega)];exact s.c0 q (by omega)
 ·intro q hq;simp only
  by_cases e:q=L.mb
  ·rw[if_pos e,e,s.c3];omega
  ·rw[if_neg e,if_neg (by omega)]
end
end Go.S18

namespace Go.S18
open Go Go.Eng Go.Proofs Go.Chk
def HS.fol (S:HS):Nat->Int × Int->Option (Int × Int)
 | 0,_=>none
 | n+1,w=>if w.1=4 then (if (gx S.now w.2).1=12 then S.fol n (gx S.now (w.2+1)) else some w) else some w
theorem gx_in {xs:List (Int × Int)} {i:Int} (h:(gx xs i).1≠0):0<=i/\i<xs.length:=by
 unfold gx at h;split at h
 ·assumption
 ·exact absurd rfl h
section
variable {h:AH} {b:Nat} {L:Lay} {S:HS}
theorem Follow_ok (s:Hp h b L S) (w:Int × Int) (hf:S.sound w -> ∃ n x,S.fol n w=some x):Gets Try.prog 20 [.pointer (some ⟨b,0,none⟩),wv w] h (fun res h'=>Keep (fun _=>False) h h' /\
 if S.sound w then ∃ n x,S.fol n w=some x/\res = .ret (.tuple #[wv x,iv 0]) else res = .ret (.tuple #[wv (0,0),iv 1])):=by
 refine Gets.of (keep:=false) hP (draw_ok hM) k20 (by rfl) (fun Ψ hΨ=>?_);have oW:=Own.new h 36 h.length [iv w.1,iv w.2];have k1:Keep (fun _=>False) h (h++[row 36 h.length [iv w.1,iv w.2]]):=Keep.push _ _ _;have l1:(h++[row 36 h.length [iv w.1,iv w.2]]).length=h.length+1:=by simp
 simp only[ZG,↓reduceIte,ZA,ZB,ZC,r20,YE,YC,YO,YA,YL,YX,YS,Ya,Yb,Yl,Yf,Yg,Yi,Ym,Yk,Yt,Yn,Yz,Yp,Yq,Yd,wv,mbl,ZD,ZE,ZF];generalize h++[row 36 h.length [iv w.1,iv w.2]]=h1 at oW k1 l1 ⊢;have oR:=Own.new h1 36 h1.length [iv 0,iv 0];have k2:Keep (fun _=>False) h1 (h1++[row 36 h1.length [iv 0,iv 0]]):=Keep.push _ _ _;have l2:(h1++[row 36 h1.length [iv 0,iv 0]]).length=h.length+2:=by simp [l1]
 generalize h1++[row 36 h1.length [iv 0,iv 0]]=h2 at oR k2 l2 ⊢;have oW2:=oW.keep k2 (fun e=>e);have k02:=k1.trans k2;simp only[ZG,↓reduceIte,ZA,ZB,ZC,oW2.cells.lds 0 2 (by simp),mbl,ZD,ZE,ZF];refine XX_of (sound_ok (s.keepF k02) w) (fun res h3 hle hn=>?_);obtain ⟨k3,rfl⟩:=hn;refine .ret ?_;have k03:=k02.trans k3;have oR3:=oR.keep k3 (fun e=>e);have oW3:=oW2.keep k3 (fun e=>e)
 by_cases hl:S.sound w
 case neg =>
  simp only[ZG,↓reduceIte,ZA,ZB,ZC,hl,mbl,ZD,ZE,ZF];refine XH_own oR3 rfl (by simp [Value.cells]) rfl (fun h4 q1 q2 q3=>?_);have oR4:Own h4 h1.length 36 [iv 0,iv 0]:=by simpa [Value.cells] using q1
  simp only[ZG,↓reduceIte,ZA,ZB,ZC];refine hΨ _ _ (fin_ret (rvw rfl oR4 rfl ⟨k03.trans' q2 (fun c hc e=>by omega),?_⟩));rw[if_neg hl];rfl
 obtain ⟨n,x,hx⟩:=hf hl;simp only[ZG,↓reduceIte,ZA,ZB,ZC,hl,mbl,ZD,ZE,ZF];refine XLo_rule (α:=Nat × (Int × Int)) (fun a=>[(0,.pointer (some ⟨b,0,none⟩)),(3,.pointer (some ⟨h.length,0,none⟩)),(4,.pointer (some ⟨h1.length,0,none⟩)),(5,iv 0)])
  (fun a h'=>S.fol a.1 a.2=some x/\Keep (fun q=>q=h.length) h3 h'/\Own h' h.length 36 [iv a.2.1,iv a.2.2]) (fun a=>a.1) (n,w) ⟨hx,.refl _ _,oW3⟩ ⟨rfl,rfl,rfl,rfl,trivial⟩ ?_
 rintro ⟨m,c1,c2⟩ h4 Ψ2 ⟨i1,kp,oC⟩ next out
 simp only at i1 oC;have k04:Keep (fun _=>False) h h4:=k03.trans' kp (fun c hc e=>by omega);have oR4:=oR3.keep kp (fun e=>by omega);have hl4:h.length+2<=h4.length:=by have:=(k3.mono (T:=fun q=>q=h.length) (fun _ e=>e.elim)).trans kp |>.len;omega
 have k44:=Keep.refl (fun _=>False) h4;cases m with
 | zero=>cases i1
 | succ m =>
 rw[HS.fol] at i1
 by_cases d4:c1=4
 case neg =>
  simp only[ZG,↓reduceIte,ZA,ZB,ZC,oC.cells.ld,mbl,ZD,ZE,ZF,d4];refine out (.exit 0) _ _ _ _ (by intro e;cases e) ?_;have oR5:=oR4.keep k44 (fun e=>e);have oC5:=oC.keep k44 (fun e=>e);simp only[ZG,↓reduceIte,ZA,ZB,ZC,oC5.cells.lds 0 2 (by simp),mbl,ZD,ZE,ZF];refine XH_own oR5 rfl (by simp [Value.cells]) rfl (fun h6 t1 t2 t3=>?_);have oR6:Own h6 h1.length 36 [iv c1,iv c2]:=by simpa [Value.cells] using t1
  simp only[ZG,↓reduceIte,ZA,ZB,ZC];refine hΨ _ _ (fin_ret (rvw rfl oR6 rfl ⟨(k04.trans k44).trans' t2 (fun c hc e=>by omega),?_⟩));rw[if_pos hl];exact ⟨n,x,hx,by rw[show x=(c1,c2) by rw[if_neg (show ¬ (c1,c2).1=4 from d4)] at i1;exact (Z9.inj i1).symm];rfl⟩
 have s4:=s.keepF k04;rw[if_pos (show (c1,c2).1=4 from d4)] at i1;simp only[ZG,↓reduceIte,ZA,ZB,ZC,oC.cells.ld,mbl,ZD,ZE,ZF,d4,s4.own.cells.ld];refine XX_of (wGet_ok s4.ws c2) (fun res h5 hle5 hn=>?_);obtain ⟨k5,rfl⟩:=hn;refine .ret ?_;have oD:=Own.new h5 36 h5.length [iv 0,iv 0];have k6:Keep (fun _=>False) h5 (h5++[row 36 h5.length [iv 0,iv 0]]):=Keep.push _ _ _;simp only[ZG,↓reduceIte,ZA,ZB,ZC,gw_eq,mbl,ZD,ZE,ZF];refine XH_own oD rfl (by simp [Value.cells]) rfl (fun h6 q1 q2 q3=>?_);have oD6:Own h6 h5.length 36 [iv (gx S.now c2).1,iv (gx S.now c2).2]:=by simpa [Value.cells] using q1
 have k46:Keep (fun _=>False) h4 h6:=(k5.trans k6).trans' q2 (fun c hc e=>by have:=k5.len;omega)
 by_cases d12:(gx S.now c2).1=12
 case neg =>
  rw[if_neg d12] at i1;simp only[ZG,↓reduceIte,ZA,ZB,ZC,oD6.cells.ld,mbl,ZD,ZE,ZF,d12];refine out (.exit 0) _ _ _ _ (by intro e;cases e) ?_;have oR5:=oR4.keep k46 (fun e=>e);have oC5:=oC.keep k46 (fun e=>e);simp only[ZG,↓reduceIte,ZA,ZB,ZC,oC5.cells.lds 0 2 (by simp),mbl,ZD,ZE,ZF];refine XH_own oR5 rfl (by simp [Value.cells]) rfl (fun h6 t1 t2 t3=>?_);have oR6:Own h6 h1.length 36 [iv c1,iv c2]:=by simpa [Value.cells] using t1
  simp only[ZG,↓reduceIte,ZA,ZB,ZC];refine hΨ _ _ (fin_ret (rvw rfl oR6 rfl ⟨(k04.trans k46).trans' t2 (fun c hc e=>by omega),?_⟩));rw[if_pos hl];exact ⟨n,x,hx,by rw[show x=(c1,c2) by exact (Z9.inj i1).symm];rfl⟩
 rw[if_pos d12] at i1;have hin:=gx_in (xs:=S.now) (i:=c2) (by omega);have hsz:=s.ws.ln;have hs2:=s.ws.sz;have hw1:IntKind.i64.wrap (c2+1)=c2+1:=i64w (by omega) (by omega);have oC6:=oC.keep k46 (fun e=>e);have k06:=k04.trans k46;have s6:=s.keepF k06;simp only[ZG,↓reduceIte,ZA,ZB,ZC,oD6.cells.ld,mbl,ZD,ZE,ZF,d12,s6.own.cells.ld,oC6.cells.ld,hw1];refine XX_of (wGet_ok s6.ws (c2+1)) (fun res h7 hle7 hn=>?_);obtain ⟨k7,rfl⟩:=hn;refine .ret ?_;have oC7:=oC6.keep k7 (fun e=>e);simp only[ZG,↓reduceIte,ZA,ZB,ZC,gw_eq,mbl,ZD,ZE,ZF];refine XH_own oC7 rfl (by simp [Value.cells]) rfl (fun h8 t1 t2 t3=>?_);simp only[ZG,↓reduceIte,ZA,ZB,ZC];exact next (m,gx S.now (c2+1)) _ _ _ ⟨i1,(kp.trans ((k46.trans k7).mono (fun _ e=>e.elim))).trans t2,by simpa [Value.cells] using t1⟩ ⟨rfl,rfl,rfl,rfl,trivial⟩ (by simp)
end
end Go.S18
