import Derived.Test.YtjacebjfidhcoaaPk17
import Derived.Test.YtjacebjfidhcoaaPk12
set_option linter.unusedVariables false
set_option linter.unusedSimpArgs false
open Nat renaming reduceEqDiff -> ZA,reduceAdd -> ZB,reduceMul -> ZC,reduceLeDiff -> ZD,reduceLT -> ZE
open Int renaming reduceEq -> ZF
open List renaming getElem?_eq_getElem->Z0,length_set->Z4,length_nil->Z5,take_append->Z9,take_of_length_le->Za,length_append->Zd,append_assoc->Zf
open Nat renaming mul_one->Z1,zero_mul->Z6,lt_of_lt_of_le->Zc,add_zero->Ze
open Int renaming toNat_zero->Z2,natCast_zero->Z3,zero_lt_one->Z7,toNat_natCast->Z8,le_refl->Zb
namespace Go.S18
open Go Go.Eng Go.Proofs
def wc (x:Int × Int):List Int:=[x.1,x.2]
theorem wc_len (x:Int × Int):(wc x).length=2:=rfl
def wv (x:Int × Int):Value:=.agg #[iv x.1,iv x.2]
abbrev ww (xs:List (Int × Int)):List Value:=rowsOf wc xs
theorem ww_len (xs:List (Int × Int)):(ww xs).length=xs.length*2:=rowsOf_len wc_len xs
def wat (xs:List (Int × Int)) (i:Int):Int × Int:=xs[i.toNat]?.getD (0,0)
theorem wat_at {xs:List (Int × Int)} {i:Int} (h0:0<=i) (h1:i<xs.length):xs[i.toNat]?=some (wat xs i):=by
 rw[wat,Z0 (show i.toNat<xs.length by omega)];rfl
def gw (xs:List (Int × Int)) (i:Int):Value:=if 0<=i/\i<xs.length then .tuple #[wv (wat xs i),iv 0] else .tuple #[wv (0,0),iv 2]
theorem rvw {e l:PE} {h:AH} {ds:List Dfr} {x y:RX} {b:Nat} {t:TypeId} {a1 a2 v:Value} {K:List Value->Prop} (hx:rx e l x=some (.pointer (some ⟨b,0,none⟩))) (hb:Own h b t [a1,a2]) (hy:rx e l y=some v) (hk:K [.agg #[a1,a2],v]) :
 rvK Try.prog ⟨e,l,h,ds⟩ [.c x (.ldn 2),.v y] K:=by
 have hc:hcell h b=some [a1,a2]:=hb.cells;simp only[rvK,hx,vK,uval,hc,Option.bind_some,rK,hy];exact hk
theorem rds_w {h:AH} {v:Value} {n:Nat} {xs:List (Int × Int)} (hr:Rds h 2 v n (ww xs)) {i:Int} (h0:0<=i) (h1:i<xs.length) :
 ∃ b o c,v = .slice (some ⟨b,o,none⟩) n c/\i<n/\ldcs h b (o+i.toNat*2) 2=some [iv (wat xs i).1,iv (wat xs i).2]:=by
 obtain ⟨b,o,c,e,hn,hl⟩:=rds_str (by omega) wc_len hr (wat_at h0 h1);exact ⟨b,o,c,e,by omega,by simpa [wc,ns] using hl⟩
theorem within_ok {h:AH} {b o:Nat} {all:List Value} {v:Value} {n:Nat} {cs:List Value} (hb:Cells h b all) (ho:all[o]?=some v) (hr:Rds h 2 v n cs) (i:Int) :
 Gets Try.prog 84 [.pointer (some ⟨b,o,none⟩),iv i] h (fun res h'=>h'=h/\res = .ret (.bool (decide (0<=i) && decide (i<n)))):=by
 refine Gets.of (keep:=false) hP (draw_ok hM) k84 (by rfl) (fun Ψ hΨ=>?_);obtain ⟨a,c,rfl⟩:=row_shape hr
 by_cases h0:0<=i
 ·simp only[ZG,↓reduceIte,ZA,ZB,ZC,r84,YE,YC,YO,YA,YL,YX,YS,Ya,Yb,Yl,Yf,Yg,Yi,Ym,Yk,Yt,Yn,Yz,Yp,Yq,Yd,h0,hb.ld,ho]
  exact hΨ _ _ (fin_ret (rv1 rfl ⟨rfl,by simp [tup,h0]⟩))
 ·simp only[ZG,↓reduceIte,ZA,ZB,ZC,r84,YE,YC,YO,YA,YL,YX,YS,Ya,Yb,Yl,Yf,Yg,Yi,Ym,Yk,Yt,Yn,Yz,Yp,Yq,Yd,h0]
  exact hΨ _ _ (fin_ret (rv1 rfl ⟨rfl,by simp [tup,h0]⟩))
theorem hget_ok {h:AH} {b o:Nat} {all:List Value} {v:Value} {xs:List (Int × Int)} (hb:Cells h b all) (ho:all[o]?=some v) (hr:Rds h 2 v xs.length (ww xs)) (i:Int) :
 Gets Try.prog 71 [.pointer (some ⟨b,o,none⟩),iv i] h (fun res h'=>Keep (fun _=>False) h h'/\res = .ret (gw xs i)):=by
 refine Gets.of (keep:=false) hP (draw_ok hM) k71 (by rfl) (fun Ψ hΨ=>?_);have on:=Own.new h 36 h.length [iv 0,iv 0];have kp:Keep (fun _=>False) h (h++[row 36 h.length [iv 0,iv 0]]):=Keep.push _ _ _;have hb1:=hb.keep kp (fun e=>e);have hr1:=hr.keep kp (fun _ _ e=>e);simp only[ZG,↓reduceIte,ZA,ZB,ZC,r71,YE,YC,YO,YA,YL,YX,YS,Ya,Yb,Yl,Yf,Yg,Yi,Ym,Yk,Yt,Yn,Yz,Yp,Yq,Yd];generalize h++[row 36 h.length [iv 0,iv 0]]=h1 at on kp hb1 hr1 ⊢;have hw:=within_ok hb1 ho hr1 i
 by_cases hin:0<=i/\i<xs.length
 ·rw[show (decide (0<=i) && decide (i<(xs.length:Int)))=true by simp [hin]] at hw
  refine XX_val hw ?_;obtain ⟨b1,o1,c1,e1,hn1,hld⟩:=rds_w hr1 hin.1 hin.2;subst e1;simp only[ZG,↓reduceIte,ZA,ZB,ZC,hb1.ld,ho,hin,and_self,hld];refine XH_own on rfl (by simp [Value.cells]) rfl (fun h2 q1 q2 q3=>?_);have on2:Own h2 h.length 36 [iv (wat xs i).1,iv (wat xs i).2]:=by simpa [Value.cells] using q1
  simp only[ZG,↓reduceIte,ZA,ZB,ZC];refine hΨ _ _ (fin_ret (rvw rfl on2 rfl ⟨kp.trans' q2 (fun c hc e=>by omega),?_⟩));rw[gw,if_pos hin];rfl
 ·rw[show (decide (0<=i) && decide (i<(xs.length:Int)))=false by simp;omega] at hw
  refine XX_val hw ?_;simp only[ZG,↓reduceIte,ZA,ZB,ZC,on.cells.lds 0 2 (by simp),mbl,ZD,ZE,ZF];refine XH_own on rfl (by simp [Value.cells]) rfl (fun h2 q1 q2 q3=>?_);have on2:Own h2 h.length 36 [iv 0,iv 0]:=by simpa [Value.cells] using q1
  simp only[ZG,↓reduceIte,ZA,ZB,ZC];refine hΨ _ _ (fin_ret (rvw rfl on2 rfl ⟨kp.trans' q2 (fun c hc e=>by omega),?_⟩));rw[gw,if_neg hin];rfl
theorem ows_openw {h:AH} {e n:Nat} {v:Value} {cs:List Value} (ho:Ows h e 2 v n cs) (hn:0<n):∃ b c all,v = .slice (some ⟨b,0,none⟩) n c/\Own h b e all/\all.length=c*2/\n<=c/\all.take (n*2)=cs:=by
 cases ho with
 | nil=>omega
 | @mk b n c all cs h1 h2 h3 h4=>exact ⟨b,c,all,rfl,h1,h2,h3,h4⟩
theorem wset {xs:List (Int × Int)} {i:Nat} {x:Int × Int} (hi:i<xs.length):ww (xs.set i x)=(ww xs).take (i*2)++ns (wc x)++(ww xs).drop (i*2+2):=by
 induction xs generalizing i with
 | nil=>simp at hi
 | cons y xs ih =>
   have e:∀ z (l:List (Int × Int)),ww (z::l)=ns (wc z)++ww l:=fun z l=>by simp [ww,rowsOf]
   cases i with
   | zero=>rw[List.set_cons_zero,e,e];simp [ns,wc]
   | succ i =>
     rw[List.set_cons_succ,e,e,ih (by simpa using hi)];rw[show (i+1)*2=2+i*2 by omega,show 2+i*2+2=2+(i*2+2) by omega];have l2:(ns (wc y)).length=2:=rfl;rw[Z9,List.drop_append,l2];simp [Za,ns,wc,List.drop_eq_nil_of_le]
theorem hset_ok {h:AH} {b o:Nat} {all:List Value} {v:Value} {xs:List (Int × Int)} (hb:Own h b 96 all) (ho:all[o]?=some v) (hr:Ows h 36 2 v xs.length (ww xs)) (hne:∀ q,bk v q->q≠b) (i:Int) (x:Int × Int) :
 Gets Try.prog 72 [.pointer (some ⟨b,o,none⟩),iv i,wv x] h (fun res h'=>Keep (bk v) h h'/\if 0<=i/\i<xs.length then res = .ret (iv 0)/\Ows h' 36 2 v xs.length (ww (xs.set i.toNat x)) else res = .ret (iv 2)/\Keep (fun _=>False) h h'):=by
 refine Gets.of (keep:=false) hP (draw_ok hM) k72 (by rfl) (fun Ψ hΨ=>?_);have on:=Own.new h 36 h.length [iv x.1,iv x.2];have kp:Keep (fun _=>False) h (h++[row 36 h.length [iv x.1,iv x.2]]):=Keep.push _ _ _;have hb1:=hb.keep kp (fun e=>e);have hr1:=hr.keep kp (fun _ _ e=>e);simp only[ZG,↓reduceIte,ZA,ZB,ZC,r72,YE,YC,YO,YA,YL,YX,YS,Ya,Yb,Yl,Yf,Yg,Yi,Ym,Yk,Yt,Yn,Yz,Yp,Yq,Yd,wv,mbl,ZD,ZE,ZF];generalize h++[row 36 h.length [iv x.1,iv x.2]]=h1 at on kp hb1 hr1 ⊢;have hw:=within_ok hb1.cells ho hr1.rds i
 by_cases hin:0<=i/\i<xs.length
 ·rw[show (decide (0<=i) && decide (i<(xs.length:Int)))=true by simp [hin]] at hw
  refine XX_val hw ?_;obtain ⟨b1,c1,al,e1,o1,l1,n1,t1⟩:=ows_openw hr1 (by omega);subst e1;simp only[ZG,↓reduceIte,ZA,ZB,ZC,hb1.cells.ld,ho,hin,and_self,on.cells.lds 0 2 (by simp),mbl,ZD,ZE,ZF];refine XH_own o1 rfl (by simp [Value.cells];omega) rfl (fun h2 q1 q2 q3=>?_);simp only[ZG,↓reduceIte,ZA,ZB,ZC];have kq:Keep (bk (.slice (some ⟨b1,0,none⟩) xs.length c1)) h h2:=kp.mono (fun _ e=>e.elim) |>.trans q2;refine hΨ _ _ (fin_ret (rv1 rfl ⟨kq,?_⟩));rw[if_pos hin];have hi:i.toNat<xs.length:=by omega
  have q1':Own h2 b1 36 (al.take (i.toNat*2)++[iv x.1,iv x.2]++al.drop (i.toNat*2+2)):=by simpa [Value.cells] using q1
  refine ⟨rfl,.mk q1' (by simp;omega) n1 ?_⟩;rw[wset hi,<- t1];have e1:ns (wc x)=[iv x.1,iv x.2]:=rfl;rw[e1,Zf,Zf,Z9,List.length_take,show min (i.toNat*2) al.length=i.toNat*2 by omega];rw[List.take_take,List.take_take,show min (xs.length*2) (i.toNat*2)=i.toNat*2 by omega,show min (i.toNat*2) (xs.length*2)=i.toNat*2 by omega]
  congr 1
  rw[Z9,Za (show [iv x.1,iv x.2].length<=_ by simp;omega),List.drop_take]
  congr 1
 ·rw[show (decide (0<=i) && decide (i<(xs.length:Int)))=false by simp;omega] at hw
  refine XX_val hw ?_;simp only[ZG,↓reduceIte,ZA,ZB,ZC];refine hΨ _ _ (fin_ret (rv1 rfl ⟨kp.mono (fun _ e=>e.elim),?_⟩));rw[if_neg hin];exact ⟨rfl,kp⟩
structure WS (h:AH) (b:Nat) (size side:Int) (v0 v1:Value) (now old:List (Int × Int)):Prop where
 own:Own h b 96 [v0,v1,iv size,iv side]
 rn:Ows h 36 2 (if side=0 then v0 else v1) now.length (ww now)
 ro:Ows h 36 2 (if side=0 then v1 else v0) old.length (ww old)
 d:∀ q,bk v0 q -> ¬ bk v1 q
 d0:∀ q,bk v0 q->q≠b
 d1:∀ q,bk v1 q->q≠b
 sd:side=0\/side=1
 sz:0<=size/\size<=1048576
 ln:(now.length:Int)<=size
 lo:(old.length:Int)<=size
def WOwns (b:Nat) (v0 v1:Value) (q:Nat):Prop:=q=b\/bk v0 q\/bk v1 q
theorem WS.keep {S:Nat->Prop} {h h':AH} {b:Nat} {size side:Int} {v0 v1:Value} {now old:List (Int × Int)} (s:WS h b size side v0 v1 now old) (k:Keep S h h') (hs:∀ q,WOwns b v0 v1 q -> ¬ S q):WS h' b size side v0 v1 now old:=by
 refine ⟨s.own.keep k (hs _ (.inl rfl)),s.rn.keep k (fun q hq=>hs q ?_),s.ro.keep k (fun q hq=>hs q ?_),s.d,s.d0,s.d1,s.sd,s.sz,s.ln,s.lo⟩
 ·split at hq
  ·exact .inr (.inl hq)
  ·exact .inr (.inr hq)
 ·split at hq
  ·exact .inr (.inr hq)
  ·exact .inr (.inl hq)
theorem WS.lt {h:AH} {b:Nat} {size side:Int} {v0 v1:Value} {now old:List (Int × Int)} (s:WS h b size side v0 v1 now old):∀ q,WOwns b v0 v1 q->q<h.length:=by
 rintro q (e|e|e)
 ·rw[e];exact s.own.lt
 ·rcases s.sd with hs|hs
  ·exact s.rn.lt q (by rw[hs];exact e)
  ·exact s.ro.lt q (by rw[hs];exact e)
 ·rcases s.sd with hs|hs
  ·exact s.ro.lt q (by rw[hs];exact e)
  ·exact s.rn.lt q (by rw[hs];exact e)
theorem a20:(0<=(0:Int)/\(0:Int)<((2:Nat):Int))=True:=by simp
theorem a21:(0<=(1:Int)/\(1:Int)<((2:Nat):Int))=True:=by simp
theorem z0:Int.toNat 0*1=0:=rr rfl
theorem z1:Int.toNat 1*1=1:=rr rfl
theorem w10:IntKind.i64.wrap (1-0)=1:=rr rfl
theorem w11:IntKind.i64.wrap (1-1)=0:=rr rfl
theorem f10':((1:Int)=0)=False:=by simp
section
variable {h:AH} {b:Nat} {size side:Int} {v0 v1:Value} {now old:List (Int × Int)}
theorem wUsed_ok (s:WS h b size side v0 v1 now old):Gets Try.prog 44 [.pointer (some ⟨b,0,none⟩)] h (fun res h'=>h'=h/\res = .ret (iv now.length)):=by
 refine Gets.of (keep:=false) hP (draw_ok hM) k44 (by rfl) (fun Ψ hΨ=>?_);have rn:=s.rn;have ro:=s.ro
 rcases s.sd with rfl|rfl
 ·simp only[if_true] at rn ro
  obtain ⟨a,c,hv⟩:=row_shape rn.rds;simp only[ZG,↓reduceIte,ZA,ZB,ZC,r44,YE,YC,YO,YA,YL,YX,YS,Ya,Yb,Yl,Yf,Yg,Yi,Ym,Yk,Yt,Yn,Yz,Yp,Yq,Yd,s.own.cells.ld,mbl,ZD,ZE,ZF,a20,a21,z0,z1,w10,w11,hv];exact hΨ _ _ (fin_ret (rv1 rfl ⟨rfl,rfl⟩))
 ·simp only[f10',if_false] at rn ro
  obtain ⟨a,c,hv⟩:=row_shape rn.rds;simp only[ZG,↓reduceIte,ZA,ZB,ZC,r44,YE,YC,YO,YA,YL,YX,YS,Ya,Yb,Yl,Yf,Yg,Yi,Ym,Yk,Yt,Yn,Yz,Yp,Yq,Yd,s.own.cells.ld,mbl,ZD,ZE,ZF,a20,a21,z0,z1,w10,w11,hv];exact hΨ _ _ (fin_ret (rv1 rfl ⟨rfl,rfl⟩))
theorem wSize_ok (s:WS h b size side v0 v1 now old):Gets Try.prog 67 [.pointer (some ⟨b,0,none⟩)] h (fun res h'=>h'=h/\res = .ret (iv size)):=by
 refine Gets.of (keep:=false) hP (draw_ok hM) k67 (by rfl) (fun Ψ hΨ=>?_);simp only[ZG,↓reduceIte,ZA,ZB,ZC,r67,YE,YC,YO,YA,YL,YX,YS,Ya,Yb,Yl,Yf,Yg,Yi,Ym,Yk,Yt,Yn,Yz,Yp,Yq,Yd,s.own.cells.ld,mbl,ZD,ZE,ZF,a20,a21,z0,z1,w10,w11];exact hΨ _ _ (fin_ret (rv1 rfl ⟨rfl,rfl⟩))
theorem wGet_ok (s:WS h b size side v0 v1 now old) (i:Int):Gets Try.prog 41 [.pointer (some ⟨b,0,none⟩),iv i] h (fun res h'=>Keep (fun _=>False) h h'/\res = .ret (gw now i)):=by
 refine Gets.of (keep:=false) hP (draw_ok hM) k41 (by rfl) (fun Ψ hΨ=>?_);have on:=Own.new h 36 h.length [iv 0,iv 0];have kp:Keep (fun _=>False) h (h++[row 36 h.length [iv 0,iv 0]]):=Keep.push _ _ _;have s1:=s.keep kp (fun _ _ e=>e);have rn:=s1.rn;have ro:=s1.ro;simp only[ZG,↓reduceIte,ZA,ZB,ZC,r41,YE,YC,YO,YA,YL,YX,YS,Ya,Yb,Yl,Yf,Yg,Yi,Ym,Yk,Yt,Yn,Yz,Yp,Yq,Yd];generalize h++[row 36 h.length [iv 0,iv 0]]=h1 at on kp s1 rn ro ⊢;have on1:h.length<h1.length:=on.lt
 rcases s.sd with rfl|rfl
 ·simp only[if_true] at rn ro
  have hg:=hget_ok s1.own.cells (o:=0) rfl rn.rds i;simp only[ZG,↓reduceIte,ZA,ZB,ZC,s1.own.cells.ld,mbl,ZD,ZE,ZF,a20,a21,z0,z1,w10,w11];refine XX_of hg (fun res h2 hle hn=>?_);obtain ⟨kp2,rfl⟩:=hn;refine .ret ?_;have on2:=on.keep kp2 (fun e=>e)
  by_cases hin:0<=i/\i<now.length
  ·simp only[ZG,↓reduceIte,ZA,ZB,ZC,gw,hin,and_self,mbl,ZD,ZE,ZF,wv]
   refine XH_own on2 rfl (by simp [Value.cells]) rfl (fun h3 q1 q2 q3=>?_);have on3:Own h3 h.length 36 [iv (wat now i).1,iv (wat now i).2]:=by simpa [Value.cells] using q1
   simp only[ZG,↓reduceIte,ZA,ZB,ZC];refine hΨ _ _ (fin_ret (rvw rfl on3 rfl ⟨(kp.trans kp2).trans' q2 (fun c hc e=>by omega),?_⟩));rw[gw,if_pos hin];rfl
  ·simp only[ZG,↓reduceIte,ZA,ZB,ZC,gw,hin,mbl,ZD,ZE,ZF,wv]
   refine XH_own on2 rfl (by simp [Value.cells]) rfl (fun h3 q1 q2 q3=>?_);have on3:Own h3 h.length 36 [iv 0,iv 0]:=by simpa [Value.cells] using q1
   simp only[ZG,↓reduceIte,ZA,ZB,ZC];refine hΨ _ _ (fin_ret (rvw rfl on3 rfl ⟨(kp.trans kp2).trans' q2 (fun c hc e=>by omega),?_⟩));rw[gw,if_neg hin];rfl
 ·simp only[f10',if_false] at rn ro
  have hg:=hget_ok s1.own.cells (o:=1) rfl rn.rds i;simp only[ZG,↓reduceIte,ZA,ZB,ZC,s1.own.cells.ld,mbl,ZD,ZE,ZF,a20,a21,z0,z1,w10,w11];refine XX_of hg (fun res h2 hle hn=>?_);obtain ⟨kp2,rfl⟩:=hn;refine .ret ?_;have on2:=on.keep kp2 (fun e=>e)
  by_cases hin:0<=i/\i<now.length
  ·simp only[ZG,↓reduceIte,ZA,ZB,ZC,gw,hin,and_self,mbl,ZD,ZE,ZF,wv]
   refine XH_own on2 rfl (by simp [Value.cells]) rfl (fun h3 q1 q2 q3=>?_);have on3:Own h3 h.length 36 [iv (wat now i).1,iv (wat now i).2]:=by simpa [Value.cells] using q1
   simp only[ZG,↓reduceIte,ZA,ZB,ZC];refine hΨ _ _ (fin_ret (rvw rfl on3 rfl ⟨(kp.trans kp2).trans' q2 (fun c hc e=>by omega),?_⟩));rw[gw,if_pos hin];rfl
  ·simp only[ZG,↓reduceIte,ZA,ZB,ZC,gw,hin,mbl,ZD,ZE,ZF,wv]
   refine XH_own on2 rfl (by simp [Value.cells]) rfl (fun h3 q1 q2 q3=>?_);have on3:Own h3 h.length 36 [iv 0,iv 0]:=by simpa [Value.cells] using q1
   simp only[ZG,↓reduceIte,ZA,ZB,ZC];refine hΨ _ _ (fin_ret (rvw rfl on3 rfl ⟨(kp.trans kp2).trans' q2 (fun c hc e=>by omega),?_⟩));rw[gw,if_neg hin];rfl
theorem wOld_ok (s:WS h b size side v0 v1 now old) (i:Int):Gets Try.prog 49 [.pointer (some ⟨b,0,none⟩),iv i] h (fun res h'=>Keep (fun _=>False) h h'/\res = .ret (gw old i)):=by
 refine Gets.of (keep:=false) hP (draw_ok hM) k49 (by rfl) (fun Ψ hΨ=>?_);have on:=Own.new h 36 h.length [iv 0,iv 0];have kp:Keep (fun _=>False) h (h++[row 36 h.length [iv 0,iv 0]]):=Keep.push _ _ _;have s1:=s.keep kp (fun _ _ e=>e);have rn:=s1.rn;have ro:=s1.ro;simp only[ZG,↓reduceIte,ZA,ZB,ZC,r49,YE,YC,YO,YA,YL,YX,YS,Ya,Yb,Yl,Yf,Yg,Yi,Ym,Yk,Yt,Yn,Yz,Yp,Yq,Yd];generalize h++[row 36 h.length [iv 0,iv 0]]=h1 at on kp s1 rn ro ⊢;have on1:h.length<h1.length:=on.lt
 rcases s.sd with rfl|rfl
 ·simp only[if_true] at rn ro
  have hg:=hget_ok s1.own.cells (o:=1) rfl ro.rds i;simp only[ZG,↓reduceIte,ZA,ZB,ZC,s1.own.cells.ld,mbl,ZD,ZE,ZF,a20,a21,z0,z1,w10,w11];refine XX_of hg (fun res h2 hle hn=>?_);obtain ⟨kp2,rfl⟩:=hn;refine .ret ?_;have on2:=on.keep kp2 (fun e=>e)
  by_cases hin:0<=i/\i<old.length
  ·simp only[ZG,↓reduceIte,ZA,ZB,ZC,gw,hin,and_self,mbl,ZD,ZE,ZF,wv]
   refine XH_own on2 rfl (by simp [Value.cells]) rfl (fun h3 q1 q2 q3=>?_);have on3:Own h3 h.length 36 [iv (wat old i).1,iv (wat old i).2]:=by simpa [Value.cells] using q1
   simp only[ZG,↓reduceIte,ZA,ZB,ZC];refine hΨ _ _ (fin_ret (rvw rfl on3 rfl ⟨(kp.trans kp2).trans' q2 (fun c hc e=>by omega),?_⟩));rw[gw,if_pos hin];rfl
  ·simp only[ZG,↓reduceIte,ZA,ZB,ZC,gw,hin,mbl,ZD,ZE,ZF,wv]
   refine XH_own on2 rfl (by simp [Value.cells]) rfl (fun h3 q1 q2 q3=>?_);have on3:Own h3 h.length 36 [iv 0,iv 0]:=by simpa [Value.cells] using q1
   simp only[ZG,↓reduceIte,ZA,ZB,ZC];refine hΨ _ _ (fin_ret (rvw rfl on3 rfl ⟨(kp.trans kp2).trans' q2 (fun c hc e=>by omega),?_⟩));rw[gw,if_neg hin];rfl
 ·simp only[f10',if_false] at rn ro
  have hg:=hget_ok s1.own.cells (o:=0) rfl ro.rds i;simp only[ZG,↓reduceIte,ZA,ZB,ZC,s1.own.cells.ld,mbl,ZD,ZE,ZF,a20,a21,z0,z1,w10,w11];refine XX_of hg (fun res h2 hle hn=>?_);obtain ⟨kp2,rfl⟩:=hn;refine .ret ?_;have on2:=on.keep kp2 (fun e=>e)
  by_cases hin:0<=i/\i<old.length
  ·simp only[ZG,↓reduceIte,ZA,ZB,ZC,gw,hin,and_self,mbl,ZD,ZE,ZF,wv]
   refine XH_own on2 rfl (by simp [Value.cells]) rfl (fun h3 q1 q2 q3=>?_);have on3:Own h3 h.length 36 [iv (wat old i).1,iv (wat old i).2]:=by simpa [Value.cells] using q1
   simp only[ZG,↓reduceIte,ZA,ZB,ZC];refine hΨ _ _ (fin_ret (rvw rfl on3 rfl ⟨(kp.trans kp2).trans' q2 (fun c hc e=>by omega),?_⟩));rw[gw,if_pos hin];rfl
  ·simp only[ZG,↓reduceIte,ZA,ZB,ZC,gw,hin,mbl,ZD,ZE,ZF,wv]
   refine XH_own on2 rfl (by simp [Value.cells]) rfl (fun h3 q1 q2 q3=>?_);have on3:Own h3 h.length 36 [iv 0,iv 0]:=by simpa [Value.cells] using q1
   simp only[ZG,↓reduceIte,ZA,ZB,ZC];refine hΨ _ _ (fin_ret (rvw rfl on3 rfl ⟨(kp.trans kp2).trans' q2 (fun c hc e=>by omega),?_⟩));rw[gw,if_neg hin];rfl
theorem wSet_ok (s:WS h b size side v0 v1 now old) (i:Int) (x:Int × Int):Gets Try.prog 46 [.pointer (some ⟨b,0,none⟩),iv i,wv x] h (fun res h'=>Keep (WOwns b v0 v1) h h' /\
 if 0<=i/\i<now.length then res = .ret (iv 0)/\WS h' b size side v0 v1 (now.set i.toNat x) old else res = .ret (iv 2)/\Keep (fun _=>False) h h'):=by
 refine Gets.of (keep:=false) hP (draw_ok hM) k46 (by rfl) (fun Ψ hΨ=>?_);have on:=Own.new h 36 h.length [iv x.1,iv x.2];have kp:Keep (fun _=>False) h (h++[row 36 h.length [iv x.1,iv x.2]]):=Keep.push _ _ _;have s1:=s.keep kp (fun _ _ e=>e);have rn:=s1.rn;have ro:=s1.ro;simp only[ZG,↓reduceIte,ZA,ZB,ZC,r46,YE,YC,YO,YA,YL,YX,YS,Ya,Yb,Yl,Yf,Yg,Yi,Ym,Yk,Yt,Yn,Yz,Yp,Yq,Yd,wv,mbl,ZD,ZE,ZF];generalize h++[row 36 h.length [iv x.1,iv x.2]]=h1 at on kp s1 rn ro ⊢
 rcases s.sd with rfl|rfl
 ·simp only[if_true] at rn ro
  have hg:=hset_ok s1.own (o:=0) rfl rn (fun q e=>s.d0 q e) i x;simp only[ZG,↓reduceIte,ZA,ZB,ZC,s1.own.cells.ld,on.cells.lds 0 2 (by simp),mbl,ZD,ZE,ZF,a20,a21,z0,z1,w10,w11];refine XX_of hg (fun res h2 hle hn=>?_);obtain ⟨kp2,hn⟩:=hn;have kq:Keep (WOwns b v0 v1) h h2:=(kp.mono (fun _ e=>e.elim)).trans (kp2.mono (fun q e=>.inr (.inl e)))
  by_cases hin:0<=i/\i<now.length
  ·rw[if_pos hin] at hn
   obtain ⟨rfl,o2⟩:=hn;refine .ret ?_;simp only[ZG,↓reduceIte,ZA,ZB,ZC];refine hΨ _ _ (fin_ret (rv1 rfl ⟨kq,?_⟩));rw[if_pos hin];refine ⟨rfl,s1.own.keep kp2 (fun e=>s.d0 b e rfl),?_,?_,s.d,s.d0,s.d1,s.sd,s.sz,by simpa using s.ln,s.lo⟩
   ·simp only[if_true];rw[Z4];exact o2
   ·simp only[if_true];exact ro.keep kp2 (fun q e e2=>s.d q e2 e)
  ·rw[if_neg hin] at hn
   obtain ⟨rfl,kp3⟩:=hn;refine .ret ?_;simp only[ZG,↓reduceIte,ZA,ZB,ZC];refine hΨ _ _ (fin_ret (rv1 rfl ⟨kq,?_⟩));rw[if_neg hin];exact ⟨rfl,kp.trans kp3⟩
 ·simp only[f10',if_false] at rn ro
  have hg:=hset_ok s1.own (o:=1) rfl rn (fun q e=>s.d1 q e) i x;simp only[ZG,↓reduceIte,ZA,ZB,ZC,s1.own.cells.ld,on.cells.lds 0 2 (by simp),mbl,ZD,ZE,ZF,a20,a21,z0,z1,w10,w11];refine XX_of hg (fun res h2 hle hn=>?_);obtain ⟨kp2,hn⟩:=hn;have kq:Keep (WOwns b v0 v1) h h2:=(kp.mono (fun _ e=>e.elim)).trans (kp2.mono (fun q e=>.inr (.inr e)))
  by_cases hin:0<=i/\i<now.length
  ·rw[if_pos hin] at hn
   obtain ⟨rfl,o2⟩:=hn;refine .ret ?_;simp only[ZG,↓reduceIte,ZA,ZB,ZC];refine hΨ _ _ (fin_ret (rv1 rfl ⟨kq,?_⟩));rw[if_pos hin];refine ⟨rfl,s1.own.keep kp2 (fun e=>s.d1 b e rfl),?_,?_,s.d,s.d0,s.d1,s.sd,s.sz,by simpa using s.ln,s.lo⟩
   ·simp only[f10',if_false];rw[Z4];exact o2
   ·simp only[f10',if_false];exact ro.keep kp2 (fun q e e2=>s.d q e e2)
  ·rw[if_neg hin] at hn
   obtain ⟨rfl,kp3⟩:=hn;refine .ret ?_;simp only[ZG,↓reduceIte,ZA,ZB,ZC];refine hΨ _ _ (fin_ret (rv1 rfl ⟨kq,?_⟩));rw[if_neg hin];exact ⟨rfl,kp.trans kp3⟩
theorem wSetOld_ok (s:WS h b size side v0 v1 now old) (i:Int) (x:Int × Int):Gets Try.prog 50 [.pointer (some ⟨b,0,none⟩),iv i,wv x] h (fun res h'=>Keep (WOwns b v0 v1) h h' /\
 if 0<=i/\i<old.length then res = .ret (iv 0)/\WS h' b size side v0 v1 now (old.set i.toNat x) else res = .ret (iv 2)/\Keep (fun _=>False) h h'):=by
 refine Gets.of (keep:=false) hP (draw_ok hM) k50 (by rfl) (fun Ψ hΨ=>?_);have on:=Own.new h 36 h.length [iv x.1,iv x.2];have kp:Keep (fun _=>False) h (h++[row 36 h.length [iv x.1,iv x.2]]):=Keep.push _ _ _;have s1:=s.keep kp (fun _ _ e=>e);have rn:=s1.rn;have ro:=s1.ro;simp only[ZG,↓reduceIte,ZA,ZB,ZC,r50,YE,YC,YO,YA,YL,YX,YS,Ya,Yb,Yl,Yf,Yg,Yi,Ym,Yk,Yt,Yn,Yz,Yp,Yq,Yd,wv,mbl,ZD,ZE,ZF];generalize h++[row 36 h.length [iv x.1,iv x.2]]=h1 at on kp s1 rn ro ⊢
 rcases s.sd with rfl|rfl
 ·simp only[if_true] at rn ro
  have hg:=hset_ok s1.own (o:=1) rfl ro (fun q e=>s.d1 q e) i x;simp only[ZG,↓reduceIte,ZA,ZB,ZC,s1.own.cells.ld,on.cells.lds 0 2 (by simp),mbl,ZD,ZE,ZF,a20,a21,z0,z1,w10,w11];refine XX_of hg (fun res h2 hle hn=>?_);obtain ⟨kp2,hn⟩:=hn;have kq:Keep (WOwns b v0 v1) h h2:=(kp.mono (fun _ e=>e.elim)).trans (kp2.mono (fun q e=>.inr (.inr e)))
  by_cases hin:0<=i/\i<old.length
  ·rw[if_pos hin] at hn
   obtain ⟨rfl,o2⟩:=hn;refine .ret ?_;simp only[ZG,↓reduceIte,ZA,ZB,ZC];refine hΨ _ _ (fin_ret (rv1 rfl ⟨kq,?_⟩));rw[if_pos hin];refine ⟨rfl,s1.own.keep kp2 (fun e=>s.d1 b e rfl),?_,?_,s.d,s.d0,s.d1,s.sd,s.sz,s.ln,by simpa using s.lo⟩
   ·simp only[if_true];exact rn.keep kp2 (fun q e e2=>s.d q e e2)
   ·simp only[if_true];rw[Z4];exact o2
  ·rw[if_neg hin] at hn
   obtain ⟨rfl,kp3⟩:=hn;refine .ret ?_;simp only[ZG,↓reduceIte,ZA,ZB,ZC];refine hΨ _ _ (fin_ret (rv1 rfl ⟨kq,?_⟩));rw[if_neg hin];exact ⟨rfl,kp.trans kp3⟩
 ·simp only[f10',if_false] at rn ro
  have hg:=hset_ok s1.own (o:=0) rfl ro (fun q e=>s.d0 q e) i x;simp only[ZG,↓reduceIte,ZA,ZB,ZC,s1.own.cells.ld,on.cells.lds 0 2 (by simp),mbl,ZD,ZE,ZF,a20,a21,z0,z1,w10,w11];refine XX_of hg (fun res h2 hle hn=>?_);obtain ⟨kp2,hn⟩:=hn;have kq:Keep (WOwns b v0 v1) h h2:=(kp.mono (fun _ e=>e.elim)).trans (kp2.mono (fun q e=>.inr (.inl e)))
  by_cases hin:0<=i/\i<old.length
  ·rw[if_pos hin] at hn
   obtain ⟨rfl,o2⟩:=hn;refine .ret ?_;simp only[ZG,↓reduceIte,ZA,ZB,ZC];refine hΨ _ _ (fin_ret (rv1 rfl ⟨kq,?_⟩));rw[if_pos hin];refine ⟨rfl,s1.own.keep kp2 (fun e=>s.d0 b e rfl),?_,?_,s.d,s.d0,s.d1,s.sd,s.sz,s.ln,by simpa using s.lo⟩
   ·simp only[f10',if_false];exact rn.keep kp2 (fun q e e2=>s.d q e2 e)
   ·simp only[f10',if_false];rw[Z4];exact o2
  ·rw[if_neg hin] at hn
   obtain ⟨rfl,kp3⟩:=hn;refine .ret ?_;simp only[ZG,↓reduceIte,ZA,ZB,ZC];refine hΨ _ _ (fin_ret (rv1 rfl ⟨kq,?_⟩));rw[if_neg hin];exact ⟨rfl,kp.trans kp3⟩
theorem wAlloc_ok {u:Value} {ys:List (Int × Int)} (s:WS h b size side v0 v1 now old) (hu:Rds h 2 u ys.length (ww ys)) :
 Gets Try.prog 70 [.pointer (some ⟨b,0,none⟩),u] h (fun res h' =>
  if size-(now.length:Int)<ys.length then h'=h/\res = .ret (.tuple #[iv 0,iv 3])
  else res = .ret (.tuple #[iv now.length,iv 0])/\Keep (WOwns b v0 v1) h h' /\ ∃ v0' v1',WS h' b size side v0' v1' (now++ys) old /\ ∀ q,WOwns b v0' v1' q->WOwns b v0 v1 q\/h.length<=q):=by
 refine Gets.of (keep:=false) hP (draw_ok hM) k70 (by rfl) (fun Ψ hΨ=>?_);obtain ⟨ua,uc,rfl⟩:=row_shape hu;obtain ⟨_,hsrc,rfl⟩:=hu.src (rowsOf_one ys);have hsz:=s.sz;have hl0:=s.ln;have hw:IntKind.i64.wrap (size-(now.length:Int))=size-now.length:=i64w (by omega) (by omega);have rn:=s.rn;have ro:=s.ro
 rcases s.sd with rfl|rfl
 ·simp only[if_true] at rn ro
  obtain ⟨a0,c0,hv0⟩:=row_shape rn.rds
  by_cases hf:size-(now.length:Int)<(ys.length:Int)
  ·simp only[ZG,↓reduceIte,ZA,ZB,ZC,r70,YE,YC,YO,YA,YL,YX,YS,Ya,Yb,Yl,Yf,Yg,Yi,Ym,Yk,Yt,Yn,Yz,Yp,Yq,Yd,s.own.cells.ld,mbl,ZD,ZE,ZF,a20,a21,z0,z1,w10,w11,hv0,hw,hf]
   refine hΨ _ _ (fin_ret (rv2 rfl rfl ?_));rw[if_pos hf];exact ⟨rfl,rfl⟩
  ·obtain ⟨s',h',k1,k2,k3,k4⟩:=rn.app (bytes:=16) hsrc (by rw[ww_len]) (rowsOf_one ys) (by omega) (by omega)
   have hown:=s.own.keep k3 (fun q=>s.d0 b q rfl);have hoth:=ro.keep k3 (fun q hq e=>s.d q e hq);obtain ⟨a2,c2,hs'⟩:=row_shape k2.rds;subst hv0;simp only[ZG,↓reduceIte,ZA,ZB,ZC,r70,YE,YC,YO,YA,YL,YX,YS,Ya,Yb,Yl,Yf,Yg,Yi,Ym,Yk,Yt,Yn,Yz,Yp,Yq,Yd,s.own.cells.ld,mbl,ZD,ZE,ZF,a20,a21,z0,z1,w10,w11,hw,hf,k1];subst hs';refine XH_own hown rfl (by simp [Value.cells]) rfl (fun h2 q1 q2 q3=>?_);simp only[ZG,↓reduceIte,ZA,ZB,ZC];refine hΨ _ _ (fin_ret (rv2 rfl rfl ?_));have hnb:∀ q,bk (.slice a2 (now.length+ys.length) c2) q->q≠b:=by
    intro q hq e
    rcases k4 q hq with k|k
    ·exact s.d0 q k e
    ·have:=s.own.lt;omega
   have hd2:∀ q,bk (.slice a2 (now.length+ys.length) c2) q -> ¬ bk v1 q:=by
    intro q hq e
    rcases k4 q hq with k|k
    ·exact s.d q k e
    ·have:=ro.lt q e;omega
   rw[if_neg hf];refine ⟨rfl,⟨by rw[q3];exact k3.len,fun q hq hs=>?_⟩,_,v1,⟨q1,?_,?_,hd2,hnb,s.d1,s.sd,s.sz,by simp;omega,s.lo⟩,?_⟩
   ·rw[q2.same q (Zc hq k3.len) (fun e=>hs (.inl e)),k3.same q hq (fun e=>hs (.inr (.inl e)))]
   ·simp only[if_true,Zd]
    rw[show ww (now++ys)=ww now++ww ys from rowsOf_app now ys];exact k2.keep q2 (fun q hq e=>hnb q hq e)
   ·simp only[if_true]
    exact hoth.keep q2 (fun q hq e=>s.d1 q hq e)
   ·rintro q (e|e|e)
    ·exact .inl (.inl e)
    ·exact (k4 q e).elim (fun e=>.inl (.inr (.inl e))) .inr
    ·exact .inl (.inr (.inr e))
 ·simp only[f10',if_false] at rn ro
  obtain ⟨a0,c0,hv0⟩:=row_shape rn.rds
  by_cases hf:size-(now.length:Int)<(ys.length:Int)
  ·simp only[ZG,↓reduceIte,ZA,ZB,ZC,r70,YE,YC,YO,YA,YL,YX,YS,Ya,Yb,Yl,Yf,Yg,Yi,Ym,Yk,Yt,Yn,Yz,Yp,Yq,Yd,s.own.cells.ld,mbl,ZD,ZE,ZF,a20,a21,z0,z1,w10,w11,hv0,hw,hf]
   refine hΨ _ _ (fin_ret (rv2 rfl rfl ?_));rw[if_pos hf];exact ⟨rfl,rfl⟩
  ·obtain ⟨s',h',k1,k2,k3,k4⟩:=rn.app (bytes:=16) hsrc (by rw[ww_len]) (rowsOf_one ys) (by omega) (by omega)
   have hown:=s.own.keep k3 (fun q=>s.d1 b q rfl);have hoth:=ro.keep k3 (fun q hq e=>s.d q hq e);obtain ⟨a2,c2,hs'⟩:=row_shape k2.rds;subst hv0;simp only[ZG,↓reduceIte,ZA,ZB,ZC,r70,YE,YC,YO,YA,YL,YX,YS,Ya,Yb,Yl,Yf,Yg,Yi,Ym,Yk,Yt,Yn,Yz,Yp,Yq,Yd,s.own.cells.ld,mbl,ZD,ZE,ZF,a20,a21,z0,z1,w10,w11,hw,hf,k1];subst hs';refine XH_own hown rfl (by simp [Value.cells]) rfl (fun h2 q1 q2 q3=>?_);simp only[ZG,↓reduceIte,ZA,ZB,ZC];refine hΨ _ _ (fin_ret (rv2 rfl rfl ?_));have hnb:∀ q,bk (.slice a2 (now.length+ys.length) c2) q->q≠b:=by
    intro q hq e
    rcases k4 q hq with k|k
    ·exact s.d1 q k e
    ·have:=s.own.lt;omega
   have hd2:∀ q,bk (.slice a2 (now.length+ys.length) c2) q -> ¬ bk v0 q:=by
    intro q hq e
    rcases k4 q hq with k|k
    ·exact s.d q e k
    ·have:=ro.lt q e;omega
   rw[if_neg hf];refine ⟨rfl,⟨by rw[q3];exact k3.len,fun q hq hs=>?_⟩,v0,_,⟨q1,?_,?_,fun q a b2=>hd2 q b2 a,s.d0,hnb,s.sd,s.sz,by simp;omega,s.lo⟩,?_⟩
   ·rw[q2.same q (Zc hq k3.len) (fun e=>hs (.inl e)),k3.same q hq (fun e=>hs (.inr (.inr e)))]
   ·simp only[f10',if_false,Zd]
    rw[show ww (now++ys)=ww now++ww ys from rowsOf_app now ys];exact k2.keep q2 (fun q hq e=>hnb q hq e)
   ·simp only[f10',if_false]
    exact hoth.keep q2 (fun q hq e=>s.d0 q hq e)
   ·rintro q (e|e|e)
    ·exact .inl (.inl e)
    ·exact .inl (.inr (.inl e))
    ·exact (k4 q e).elim (fun e=>.inl (.inr (.inr e))) .inr
end
theorem wNew_ok (h:AH) (size:Int) (hs:0<=size/\size<=1048576):Gets Try.prog 31 [iv size] h (fun res h'=>res = .ret (.tuple #[.pointer (some ⟨h.length,0,none⟩),iv 0])/\Keep (fun _=>False) h h'/\h'.length=h.length+1/\WS h' h.length size 0 (.slice none 0 0) (.slice none 0 0) [] []):=by
 refine Gets.of (keep:=false) hP (draw_ok hM) k31 (by rfl) (fun Ψ hΨ=>?_);have h0:¬ size<0:=by omega
 have h1:¬ (1048576:Int)<size:=by omega
 simp only[ZG,↓reduceIte,ZA,ZB,ZC,r31,YE,YC,YO,YA,YL,YX,YS,Ya,Yb,Yl,Yf,Yg,Yi,Ym,Yk,Yt,Yn,Yz,Yp,Yq,Yd,h0,h1,mbl,ZD,ZE,ZF];refine hΨ _ _ (fin_ret (rv2 rfl rfl ⟨rfl,Keep.push _ _ _,by simp,Own.new h _ _ _,.nil,.nil,fun q e=>e.elim,fun q e=>e.elim,fun q e=>e.elim,.inl rfl,hs,by simpa using hs.1,by simpa using hs.1⟩))
end Go.S18

namespace Go.S18
open Go Go.Eng Go.Proofs Go.Chk
structure HS where
 infos:List Inf
 texts:List ByteArray
 cons:List Int
 now:List (Int × Int)
 old:List (Int × Int)
 begins:List (Int × Int)
 oldm:List (Int × Int)
 globals:List (Int × Int)
 size:Int
 side:Int
structure Lay where
 bs:Nat
 v0:Value
 v1:Value
 vi:Value
 vt:Value
 vk:Value
 mb:Nat
 mo:Option Nat
 vg:Value
 cls:Nat->Nat
def sts (l:List ByteArray):List Value:=l.map Value.string
structure Hp (h:AH) (b:Nat) (L:Lay) (S:HS):Prop where
 own:Own h b 71 [.pointer (some ⟨L.bs,0,none⟩),L.vi,.slice none 0 0,L.vt,.slice none 0 0,iv 0,L.vk,.map (some L.mb),.map L.mo,L.vg]
 ws:WS h L.bs S.size S.side L.v0 L.v1 S.now S.old
 ri:Rds h 4 L.vi S.infos.length (rowsOf Inf.cells S.infos)
 rt:Rds h 1 L.vt S.texts.length (sts S.texts)
 rk:Rds h 1 L.vk S.cons.length (ns S.cons)
 mb:MOwn h L.mb S.begins
 mo:∀ q,L.mo=some q->MOwn h q S.oldm
 mo0:L.mo=none->S.oldm=[]
 rg:Ows h 36 2 L.vg S.globals.length (ww S.globals)
 c1:L.cls b=1
 c2:∀ q,WOwns L.bs L.v0 L.v1 q->L.cls q=2
 c3:L.cls L.mb=3
 c4:∀ q,L.mo=some q->L.cls q=4
 c5:∀ q,bk L.vg q->L.cls q=5
 c6:∀ q,(rb L.vi q\/rb L.vt q\/rb L.vk q)->L.cls q=6
 c0:∀ q,h.length<=q->L.cls q=0
theorem Hp.keep {X:Nat->Prop} {h h':AH} {b:Nat} {L:Lay} {S:HS} (s:Hp h b L S) (k:Keep X h h') (hx:∀ q,L.cls q≠0 -> ¬ X q):Hp h' b L S :=
 ⟨s.own.keep k (hx b (by rw[s.c1];omega)),s.ws.keep k (fun q e=>hx q (by rw[s.c2 q e];omega)),s.ri.keep k (fun q e=>hx q (by rw[s.c6 q (.inl e)];omega)),s.rt.keep k (fun q e=>hx q (by rw[s.c6 q (.inr (.inl e))];omega)),
  s.rk.keep k (fun q e=>hx q (by rw[s.c6 q (.inr (.inr e))];omega)),s.mb.keep k (hx _ (by rw[s.c3];omega)),fun q e=>(s.mo q e).keep k (hx q (by rw[s.c4 q e];omega)),s.mo0,s.rg.keep k (fun q e=>hx q (by rw[s.c5 q e];omega)),s.c1,s.c2,s.c3,s.c4,s.c5,s.c6,fun q e=>s.c0 q (Nat.le_trans k.len e)⟩
theorem Hp.keepF {h h':AH} {b:Nat} {L:Lay} {S:HS} (s:Hp h b L S) (k:Keep (fun _=>False) h h'):Hp h' b L S:=s.keep k (fun _ _ e=>e)
def HS.cn (S:HS) (c:Int):Int:=S.cons[c.toNat]?.getD 0
def HS.ik (S:HS) (c:Int):Int:=(S.infos[c.toNat]?.map Inf.k).getD 0
def HS.fr (S:HS) (c:Int):Int:=(S.infos[c.toNat]?.map Inf.f).getD 0
def HS.plain (S:HS) (w:Int × Int):Prop :=
 w.1=1\/(w.1=2/\0<=w.2/\w.2<S.cons.length/\S.cn w.2=0)\/(w.1=3/\0<=w.2/\w.2<S.infos.length/\S.ik w.2=1/\S.fr w.2=0)
instance (S:HS) (w:Int × Int):Decidable (S.plain w):=by unfold HS.plain;infer_instance
def HS.lies (S:HS) (w:Int × Int):Prop:=w.1=4/\(mget w.2 S.begins).isSome=true
instance (S:HS) (w:Int × Int):Decidable (S.lies w):=by unfold HS.lies;infer_instance
def HS.sound (S:HS) (w:Int × Int):Prop:=S.plain w\/S.lies w
instance (S:HS) (w:Int × Int):Decidable (S.sound w):=by unfold HS.sound;infer_instance
theorem kt3:Try.prog.underlying 3=some (.int .i64):=by kernel_rfl
section
variable {h:AH} {b:Nat} {L:Lay} {S:HS}
theorem plain_ok (s:Hp h b L S) (w:Int × Int):Gets Try.prog 48 [.pointer (some ⟨b,0,none⟩),wv w] h (fun res h'=>Keep (fun _=>False) h h'/\res = .ret (.bool (decide (S.plain w)))):=by
 refine Gets.of (keep:=false) hP (draw_ok hM) k48 (by rfl) (fun Ψ hΨ=>?_);have on:=Own.new h 36 h.length [iv w.1,iv w.2];have kp:Keep (fun _=>False) h (h++[row 36 h.length [iv w.1,iv w.2]]):=Keep.push _ _ _;have s1:=s.keepF kp;simp only[ZG,↓reduceIte,ZA,ZB,ZC,r48,YE,YC,YO,YA,YL,YX,YS,Ya,Yb,Yl,Yf,Yg,Yi,Ym,Yk,Yt,Yn,Yz,Yp,Yq,Yd,wv,mbl,ZD,ZE,ZF];generalize h++[row 36 h.length [iv w.1,iv w.2]]=h1 at on kp s1 ⊢;obtain ⟨w1,w2⟩:=w;simp only at on
 by_cases d1:w1=1
 ·simp only[ZG,↓reduceIte,ZA,ZB,ZC,on.cells.ld,mbl,ZD,ZE,ZF,d1]
  exact hΨ _ _ (fin_ret (rv1 rfl ⟨kp,by simp [tup,HS.plain,d1]⟩))
 by_cases d2:w1=2
 ·obtain ⟨ka,kc,hvk⟩:=row_shape s1.rk
  by_cases g1:0<=w2
  case neg =>
   simp only[ZG,↓reduceIte,ZA,ZB,ZC,on.cells.ld,mbl,ZD,ZE,ZF,d1,d2,g1];exact hΨ _ _ (fin_ret (rv1 rfl ⟨kp,by simp [tup,HS.plain,d2,g1]⟩))
  by_cases g2:w2<(S.cons.length:Int)
  case neg =>
   simp only[ZG,↓reduceIte,ZA,ZB,ZC,on.cells.ld,s1.own.cells.ld,mbl,ZD,ZE,ZF,d1,d2,g1,hvk,g2];exact hΨ _ _ (fin_ret (rv1 rfl ⟨kp,by simp [tup,HS.plain,d2,g2]⟩))
  obtain ⟨x,hx⟩:∃ x,S.cons[w2.toNat]?=some x:=⟨_,Z0 (show w2.toNat<S.cons.length by omega)⟩
  obtain ⟨b1,o1,c1,e1,_,hld⟩:=rds_ix s1.rk g1 hx;have hcn:S.cn w2=x:=by rw[HS.cn,hx];rfl
  by_cases g3:x=0
  ·subst g3
   simp only[ZG,↓reduceIte,ZA,ZB,ZC,on.cells.ld,s1.own.cells.ld,mbl,ZD,ZE,ZF,d1,d2,g1,e1,g2,and_self,Z1,hld];exact hΨ _ _ (fin_ret (rv1 rfl ⟨kp,by simp [tup,HS.plain,d2,g1,g2,hcn]⟩))
  ·simp only[ZG,↓reduceIte,ZA,ZB,ZC,on.cells.ld,s1.own.cells.ld,mbl,ZD,ZE,ZF,d1,d2,g1,e1,g2,and_self,Z1,hld,g3]
   exact hΨ _ _ (fin_ret (rv1 rfl ⟨kp,by simp [tup,HS.plain,d2,g1,g2,hcn,g3]⟩))
 by_cases d3:w1=3
 ·obtain ⟨ka,kc,hvk⟩:=row_shape s1.ri
  by_cases g1:0<=w2
  case neg =>
   simp only[ZG,↓reduceIte,ZA,ZB,ZC,on.cells.ld,mbl,ZD,ZE,ZF,d1,d2,d3,g1];exact hΨ _ _ (fin_ret (rv1 rfl ⟨kp,by simp [tup,HS.plain,d3,g1]⟩))
  by_cases g2:w2<(S.infos.length:Int)
  case neg =>
   simp only[ZG,↓reduceIte,ZA,ZB,ZC,on.cells.ld,s1.own.cells.ld,mbl,ZD,ZE,ZF,d1,d2,d3,g1,hvk,g2];exact hΨ _ _ (fin_ret (rv1 rfl ⟨kp,by simp [tup,HS.plain,d3,g2]⟩))
  obtain ⟨⟨k,a,f,c⟩,hx⟩:∃ x,S.infos[w2.toNat]?=some x:=⟨_,Z0 (show w2.toNat<S.infos.length by omega)⟩
  obtain ⟨b1,o1,c1,e1,_,hld⟩:=rds_fld (by omega) Inf.len s1.ri hx;have hl0:=hld 0 (by omega);have hl2:=hld 2 (by omega);simp only[Inf.cells,List.getElem?_cons_succ,List.getElem?_cons_zero,Option.map_some,Ze] at hl0 hl2;have hik:S.ik w2=k:=by rw[HS.ik,hx];rfl
  have hfr:S.fr w2=f:=by rw[HS.fr,hx];rfl
  by_cases g3:k=1
  case neg =>
   simp only[ZG,↓reduceIte,ZA,ZB,ZC,on.cells.ld,s1.own.cells.ld,mbl,ZD,ZE,ZF,d1,d2,d3,g1,e1,g2,and_self,hl0,g3];exact hΨ _ _ (fin_ret (rv1 rfl ⟨kp,by simp [tup,HS.plain,d3,g1,g2,hik,hfr,g3]⟩))
  by_cases g4:f=0
  ·simp only[ZG,↓reduceIte,ZA,ZB,ZC,on.cells.ld,s1.own.cells.ld,mbl,ZD,ZE,ZF,d1,d2,d3,g1,e1,g2,and_self,hl0,hl2,g3,g4]
   exact hΨ _ _ (fin_ret (rv1 rfl ⟨kp,by simp [tup,HS.plain,d3,g1,g2,hik,hfr,g3,g4]⟩))
  ·simp only[ZG,↓reduceIte,ZA,ZB,ZC,on.cells.ld,s1.own.cells.ld,mbl,ZD,ZE,ZF,d1,d2,d3,g1,e1,g2,and_self,hl0,hl2,g3,g4]
   exact hΨ _ _ (fin_ret (rv1 rfl ⟨kp,by simp [tup,HS.plain,d3,g1,g2,hik,hfr,g3,g4]⟩))
 simp only[ZG,↓reduceIte,ZA,ZB,ZC,on.cells.ld,mbl,ZD,ZE,ZF,d1,d2,d3];exact hΨ _ _ (fin_ret (rv1 rfl ⟨kp,by simp [tup,HS.plain,d1,d2,d3]⟩))
theorem lies_ok (s:Hp h b L S) (w:Int × Int):Gets Try.prog 45 [.pointer (some ⟨b,0,none⟩),wv w] h (fun res h'=>Keep (fun _=>False) h h'/\res = .ret (.bool (decide (S.lies w)))):=by
 refine Gets.of (keep:=false) hP (draw_ok hM) k45 (by rfl) (fun Ψ hΨ=>?_);have on:=Own.new h 36 h.length [iv w.1,iv w.2];have kp:Keep (fun _=>False) h (h++[row 36 h.length [iv w.1,iv w.2]]):=Keep.push _ _ _;have s1:=s.keepF kp;simp only[ZG,↓reduceIte,ZA,ZB,ZC,r45,YE,YC,YO,YA,YL,YX,YS,Ya,Yb,Yl,Yf,Yg,Yi,Ym,Yk,Yt,Yn,Yz,Yp,Yq,Yd,wv,mbl,ZD,ZE,ZF];generalize h++[row 36 h.length [iv w.1,iv w.2]]=h1 at on kp s1 ⊢;obtain ⟨w1,w2⟩:=w;simp only at on
 by_cases d4:w1=4
 ·cases hg:mget w2 S.begins with
  | some n =>
    simp only[ZG,↓reduceIte,ZA,ZB,ZC,on.cells.ld,s1.own.cells.ld,mbl,ZD,ZE,ZF,d4,lk_some kt3 s1.mb hg];exact hΨ _ _ (fin_ret (rv1 rfl ⟨kp,by simp [tup,HS.lies,d4,hg]⟩))
  | none =>
    simp only[ZG,↓reduceIte,ZA,ZB,ZC,on.cells.ld,s1.own.cells.ld,mbl,ZD,ZE,ZF,d4,lk_none kt3 s1.mb hg];exact hΨ _ _ (fin_ret (rv1 rfl ⟨kp,by simp [tup,HS.lies,d4,hg]⟩))
 ·simp only[ZG,↓reduceIte,ZA,ZB,ZC,on.cells.ld,mbl,ZD,ZE,ZF,d4]
  exact hΨ _ _ (fin_ret (rv1 rfl ⟨kp,by simp [tup,HS.lies,d4]⟩))
theorem sound_ok (s:Hp h b L S) (w:Int × Int):Gets Try.prog 38 [.pointer (some ⟨b,0,none⟩),wv w] h (fun res h'=>Keep (fun _=>False) h h'/\res = .ret (.bool (decide (S.sound w)))):=by
 refine Gets.of (keep:=false) hP (draw_ok hM) k38 (by rfl) (fun Ψ hΨ=>?_);have on:=Own.new h 36 h.length [iv w.1,iv w.2];have kp:Keep (fun _=>False) h (h++[row 36 h.length [iv w.1,iv w.2]]):=Keep.push _ _ _;have s1:=s.keepF kp;simp only[ZG,↓reduceIte,ZA,ZB,ZC,r38,YE,YC,YO,YA,YL,YX,YS,Ya,Yb,Yl,Yf,Yg,Yi,Ym,Yk,Yt,Yn,Yz,Yp,Yq,Yd,wv,mbl,ZD,ZE,ZF];generalize h++[row 36 h.length [iv w.1,iv w.2]]=h1 at on kp s1 ⊢;simp only[ZG,↓reduceIte,ZA,ZB,ZC,on.cells.lds 0 2 (by simp),mbl,ZD,ZE,ZF];refine XX_of (plain_ok s1 w) (fun res h2 hle hn=>?_);obtain ⟨kp2,rfl⟩:=hn;refine .ret ?_;have on2:=on.keep kp2 (fun e=>e)
 by_cases hp:S.plain w
 ·simp only[ZG,↓reduceIte,ZA,ZB,ZC,hp]
  exact hΨ _ _ (fin_ret (rv1 rfl ⟨kp.trans kp2,by simp [tup,HS.sound,hp]⟩))
 ·simp only[ZG,↓reduceIte,ZA,ZB,ZC,hp,on2.cells.lds 0 2 (by simp),mbl,ZD,ZE,ZF]
  refine XX_of (lies_ok (s1.keepF kp2) w) (fun res h3 hle hn=>?_);obtain ⟨kp3,rfl⟩:=hn;refine .ret ?_;simp only[ZG,↓reduceIte,ZA,ZB,ZC];exact hΨ _ _ (fin_ret (rv1 rfl ⟨(kp.trans kp2).trans kp3,by simp [tup,HS.sound,hp]⟩))
theorem ask_ok (s:Hp h b L S) {bx:Nat} {t:TypeId} (hb:Own h bx t [.pointer (some ⟨b,0,none⟩)]) (w:Int × Int):Gets Try.prog 37 [wv w,.pointer (some ⟨bx,0,none⟩)] h (fun res h'=>Keep (fun _=>False) h h'/\res = .ret (.bool (decide (¬ S.sound w)))):=by
 refine Gets.of (keep:=false) hP (draw_ok hM) k37 (by rfl) (fun Ψ hΨ=>?_);have on:=Own.new h 36 h.length [iv w.1,iv w.2];have kp:Keep (fun _=>False) h (h++[row 36 h.length [iv w.1,iv w.2]]):=Keep.push _ _ _;have s1:=s.keepF kp;have hb1:=hb.keep kp (fun e=>e);simp only[ZG,↓reduceIte,ZA,ZB,ZC,r37,YE,YC,YO,YA,YL,YX,YS,Ya,Yb,Yl,Yf,Yg,Yi,Ym,Yk,Yt,Yn,Yz,Yp,Yq,Yd,wv,mbl,ZD,ZE,ZF];generalize h++[row 36 h.length [iv w.1,iv w.2]]=h1 at on kp s1 hb1 ⊢;simp only[ZG,↓reduceIte,ZA,ZB,ZC,hb1.cells.ld,on.cells.lds 0 2 (by simp),mbl,ZD,ZE,ZF];refine XX_of (sound_ok s1 w) (fun res h2 hle hn=>?_);obtain ⟨kp2,rfl⟩:=hn;refine .ret ?_;simp only[ZG,↓reduceIte,ZA,ZB,ZC];exact hΨ _ _ (fin_ret (rv1 rfl ⟨kp.trans kp2,by simp [tup]⟩))
theorem ask2_ok (s:Hp h b L S) {bx:Nat} {t:TypeId} (hb:Own h bx t [.pointer (some ⟨b,0,none⟩)]) (w:Int × Int):Gets Try.prog 43 [wv w,.pointer (some ⟨bx,0,none⟩)] h (fun res h'=>Keep (fun _=>False) h h'/\res = .ret (.bool (decide (¬ S.sound w)))):=by
 refine Gets.of (keep:=false) hP (draw_ok hM) k43 (by rfl) (fun Ψ hΨ=>?_);have on:=Own.new h 36 h.length [iv w.1,iv w.2];have kp:Keep (fun _=>False) h (h++[row 36 h.length [iv w.1,iv w.2]]):=Keep.push _ _ _;have s1:=s.keepF kp;have hb1:=hb.keep kp (fun e=>e);simp only[ZG,↓reduceIte,ZA,ZB,ZC,r43,YE,YC,YO,YA,YL,YX,YS,Ya,Yb,Yl,Yf,Yg,Yi,Ym,Yk,Yt,Yn,Yz,Yp,Yq,Yd,wv,mbl,ZD,ZE,ZF];generalize h++[row 36 h.length [iv w.1,iv w.2]]=h1 at on kp s1 hb1 ⊢;simp only[ZG,↓reduceIte,ZA,ZB,ZC,hb1.cells.ld,on.cells.lds 0 2 (by simp),mbl,ZD,ZE,ZF];refine XX_of (sound_ok s1 w) (fun res h2 hle hn=>?_);obtain ⟨kp2,rfl⟩:=hn;refine .ret ?_;simp only[ZG,↓reduceIte,ZA,ZB,ZC];exact hΨ _ _ (fin_ret (rv1 rfl ⟨kp.trans kp2,by simp [tup]⟩))
theorem windex_ok {fq:Nat} (s:Hp h b L S) {bx:Nat} {t:TypeId} (hb:Own h bx t [.pointer (some ⟨b,0,none⟩)]) {u:Value} {ys:List (Int × Int)} (hu:Rds h 2 u ys.length (ww ys)) (hm:ys.length<=9223372036854775807)
 (ask:∀ (h2:AH) (w:Int × Int),Hp h2 b L S->Own h2 bx t [.pointer (some ⟨b,0,none⟩)]->Gets Try.prog fq [wv w,.pointer (some ⟨bx,0,none⟩)] h2 (fun res h'=>Keep (fun _=>False) h2 h'/\res = .ret (.bool (decide (¬ S.sound w))))) :
 Gets Try.prog 69 [u,.func (.func fq) #[] #[.pointer (some ⟨bx,0,none⟩)]] h (fun res h'=>Keep (fun _=>False) h h' /\ ∃ i,res = .ret (iv i)/\(0<=i ↔ ¬ ∀ y∈ys,S.sound y)):=by
 refine Gets.of (keep:=false) hP (draw_ok hM) k69 (by rfl) (fun Ψ hΨ=>?_);obtain ⟨ka,kc,rfl⟩:=row_shape hu;simp only[ZG,↓reduceIte,ZA,ZB,ZC,r69,YE,YC,YO,YA,YL,YX,YS,Ya,Yb,Yl,Yf,Yg,Yi,Ym,Yk,Yt,Yn,Yz,Yp,Yq,Yd];refine XLo_rule (α:=Nat) (fun i=>[(0,.slice ka ys.length kc),(1,.func (.func fq) #[] #[.pointer (some ⟨bx,0,none⟩)]),(7,iv ys.length),(8,iv i)])
  (fun i h'=>i<=ys.length/\Keep (fun _=>False) h h' /\ ∀ j,j<i -> ∀ c,ys[j]?=some c->S.sound c) (fun i=>ys.length-i) 0 ⟨Nat.zero_le _,.refl _ _,fun j hj=>by omega⟩ ⟨rfl,rfl,rfl,rfl,trivial⟩ ?_
 rintro i h1 Ψ2 ⟨i1,kp,hall⟩ next out
 by_cases hi:(i:Int)<(ys.length:Int)
 ·have h0:0<=(i:Int):=by omega
  have hw:IntKind.i64.wrap ((i:Int)+1)=i+1:=i64w (by omega) (by omega);have hil:i<ys.length:=by omega
  obtain ⟨b1,o1,c1,e1,_,hld⟩:=rds_w (hu.keep kp (fun _ _ e=>e)) h0 (by omega);cases e1;have hwi:wat ys (i:Int)=ys[i]:=by rw[wat,Z8,Z0 hil];rfl
  rw[hwi,Z8] at hld;simp only[ZG,↓reduceIte,ZA,ZB,ZC,hi,h0,and_self,Z8,hld,List.append_nil,List.nil_append,mbl,ZD,ZE,ZF];refine XX_of (ask h1 ys[i] (s.keepF kp) (hb.keep kp (fun e=>e))) (fun res h2 hle hn=>?_);obtain ⟨kp2,rfl⟩:=hn;refine .ret ?_
  by_cases hc:S.sound ys[i]
  ·simp only[ZG,↓reduceIte,ZA,ZB,ZC,hc,not_true,hw]
   refine next (i+1) _ _ _ ⟨by omega,kp.trans kp2,fun j hj c hcj=>?_⟩ ⟨rfl,rfl,rfl,?_,trivial⟩ (by omega)
   ·by_cases hji:j<i
    ·exact hall j hji c hcj
    ·have:j=i:=by omega
     subst this;rw[Z0 hil] at hcj;cases hcj;exact hc
   ·simp only[Int.natCast_add,Int.cast_ofNat_Int];rfl
  ·simp only[ZG,↓reduceIte,ZA,ZB,ZC,hc,not_false_eq_true]
   refine out .ret _ _ _ _ (by intro e;cases e) ?_;simp only[ZG,↓reduceIte,ZA,ZB,ZC];refine hΨ _ _ (fin_ret (rv1 rfl ⟨kp.trans kp2,_,rfl,?_⟩))
   constructor
   ·intro _ hco;exact hc (hco _ (List.getElem_mem _))
   ·intro _;omega
 ·have hie:i=ys.length:=by omega
  simp only[ZG,↓reduceIte,ZA,ZB,ZC,hi];refine out (.exit 0) _ _ _ _ (by intro e;cases e) ?_;simp only[ZG,↓reduceIte,ZA,ZB,ZC];refine hΨ _ _ (fin_ret (rv1 rfl ⟨kp,_,rfl,?_⟩))
  constructor
  ·intro e;omega
  ·intro e
   exfalso;refine e (fun c hc=>?_)
   obtain ⟨j,hj,rfl⟩:=List.getElem_of_mem hc;exact hall j (by omega) _ (Z0 hj)
theorem wcontains_ok {fq:Nat} (s:Hp h b L S) {bx:Nat} {t:TypeId} (hb:Own h bx t [.pointer (some ⟨b,0,none⟩)]) {u:Value} {ys:List (Int × Int)} (hu:Rds h 2 u ys.length (ww ys)) (hm:ys.length<=9223372036854775807)
 (ask:∀ (h2:AH) (w:Int × Int),Hp h2 b L S->Own h2 bx t [.pointer (some ⟨b,0,none⟩)]->Gets Try.prog fq [wv w,.pointer (some ⟨bx,0,none⟩)] h2 (fun res h'=>Keep (fun _=>False) h2 h'/\res = .ret (.bool (decide (¬ S.sound w))))) :
 Gets Try.prog 36 [u,.func (.func fq) #[] #[.pointer (some ⟨bx,0,none⟩)]] h (fun res h'=>Keep (fun _=>False) h h'/\res = .ret (.bool (decide (¬ ∀ y∈ys,S.sound y)))):=by
 refine Gets.of (keep:=false) hP (draw_ok hM) k36 (by rfl) (fun Ψ hΨ=>?_);simp only[ZG,↓reduceIte,ZA,ZB,ZC,r36,YE,YC,YO,YA,YL,YX,YS,Ya,Yb,Yl,Yf,Yg,Yi,Ym,Yk,Yt,Yn,Yz,Yp,Yq,Yd];refine XX_of (windex_ok s hb hu hm ask) (fun res h' _ hn=>?_);obtain ⟨kp,i,rfl,hi⟩:=hn;refine .ret ?_;simp only[ZG,↓reduceIte,ZA,ZB,ZC];refine hΨ _ _ (fin_ret (rv1 rfl ⟨kp,?_⟩));simp only[tup]
 congr 2
 exact decide_eq_decide.2 hi
end
end Go.S18

namespace Go.S18
open Go Go.Eng Go.Proofs Go.Chk
def HS.ts (S:HS) (c:Int):Int:=(S.texts[c.toNat]?.map fun t=>(t.size:Int)).getD 0
def HS.pad (S:HS) (hd:Int × Int) (n:Nat):Prop:=(hd.1=6 /\ ¬ hd.2<0 /\ ¬ (S.infos.length:Int)<=hd.2/\n=0/\S.ik hd.2=2)\/hd.1=10
instance (S:HS) (hd:Int × Int) (n:Nat):Decidable (S.pad hd n):=by unfold HS.pad;infer_instance
def HS.fits (S:HS) (hd:Int × Int) (ys:List (Int × Int)):Prop :=
 (hd.1=6 /\ ¬ hd.2<0 /\ ¬ (S.infos.length:Int)<=hd.2/\(ys.length:Int)=S.fr hd.2) \/
 (hd.1=7/\0<=hd.2/\hd.2<S.cons.length/\(0:Int)<ys.length/\(ys.length:Int)=S.cn hd.2) \/
 (hd.1=8/\0<hd.2/\hd.2<8/\(ys.length:Int)=hd.2+1) \/
 (hd.1=9/\0<=hd.2/\hd.2<S.texts.length/\(ys.length:Int)=1/\(wat ys 0).1=1/\0<=(wat ys 0).2/\(wat ys 0).2<=S.ts hd.2) \/
 (hd.1=10/\0<=hd.2/\(ys.length:Int)=0)
instance (S:HS) (hd:Int × Int) (ys:List (Int × Int)):Decidable (S.fits hd ys):=by unfold HS.fits;infer_instance
section
variable {h:AH} {b:Nat} {L:Lay} {S:HS}
theorem rds_w0 {h:AH} {v:Value} {n:Nat} {xs:List (Int × Int)} (hr:Rds h 2 v n (ww xs)) {i:Int} (h0:0<=i) (h1:i<xs.length) :
 ∃ b o c,v = .slice (some ⟨b,o,none⟩) n c/\i<n/\ldc h b (o+i.toNat*2)=some (iv (wat xs i).1)/\ldc h b (o+i.toNat*2+1)=some (iv (wat xs i).2):=by
 obtain ⟨b,o,c,e,hn,hl⟩:=rds_fld (by omega) wc_len hr (wat_at h0 h1);have l0:=hl 0 (by omega);have l1:=hl 1 (by omega);exact ⟨b,o,c,e,by omega,by simpa [wc] using l0,by simpa [wc] using l1⟩
set_option maxHeartbeats 2000000 in
set_option maxRecDepth 5000 in
theorem fits_ok (s:Hp h b L S) (hd:Int × Int) {u:Value} {ys:List (Int × Int)} (hu:Rds h 2 u ys.length (ww ys)):Gets Try.prog 35 [.pointer (some ⟨b,0,none⟩),wv hd,u] h (fun res h'=>Keep (fun _=>False) h h'/\res = .ret (.tuple #[.bool (decide (S.pad hd ys.length)),.bool (decide (S.fits hd ys))])):=by
 refine Gets.of (keep:=false) hP (draw_ok hM) k35 (by rfl) (fun Ψ hΨ=>?_);have on:=Own.new h 36 h.length [iv hd.1,iv hd.2];have kp:Keep (fun _=>False) h (h++[row 36 h.length [iv hd.1,iv hd.2]]):=Keep.push _ _ _;have s1:=s.keepF kp;have hu1:=hu.keep kp (fun _ _ e=>e);obtain ⟨ua,uc,rfl⟩:=row_shape hu;simp only[ZG,↓reduceIte,ZA,ZB,ZC,r35,YE,YC,YO,YA,YL,YX,YS,Ya,Yb,Yl,Yf,Yg,Yi,Ym,Yk,Yt,Yn,Yz,Yp,Yq,Yd,wv,mbl,ZD,ZE,ZF];generalize h++[row 36 h.length [iv hd.1,iv hd.2]]=h1 at on kp s1 hu1 ⊢;obtain ⟨w1,w2⟩:=hd;simp only at on
 by_cases d6:w1=6
 ·obtain ⟨ka,kc,hvi⟩:=row_shape s1.ri
  by_cases g1:w2<0
  ·simp only[ZG,↓reduceIte,ZA,ZB,ZC,on.cells.ld,mbl,ZD,ZE,ZF,ct1,d6,g1]
   exact hΨ _ _ (fin_ret (rv2 rfl rfl ⟨kp,by simp [tup,HS.pad,HS.fits,d6,g1]⟩))
  by_cases g2:(S.infos.length:Int)<=w2
  ·simp only[ZG,↓reduceIte,ZA,ZB,ZC,on.cells.ld,s1.own.cells.ld,mbl,ZD,ZE,ZF,ct1,d6,g1,hvi,g2]
   exact hΨ _ _ (fin_ret (rv2 rfl rfl ⟨kp,by simp [tup,HS.pad,HS.fits,d6,g1,g2]⟩))
  have g3:0<=w2:=by omega
  have g4:w2<(S.infos.length:Int):=by omega
  obtain ⟨⟨k,a,f,c⟩,hx⟩:∃ x,S.infos[w2.toNat]?=some x:=⟨_,Z0 (show w2.toNat<S.infos.length by omega)⟩
  have hik:S.ik w2=k:=by rw[HS.ik,hx];rfl
  have hfr:S.fr w2=f:=by rw[HS.fr,hx];rfl
  obtain ⟨b1,o1,c1,e1,_,hld⟩:=rds_str (by omega) Inf.len s1.ri hx;simp only[Inf.cells,ns,List.map_cons,List.map_nil] at hld;have kp2:Keep (fun _=>False) h1 (h1++[row 34 h1.length [iv 0,iv 0,iv 0,iv 0]]):=Keep.push _ _ _;have oI:=Own.new h1 34 h1.length [iv 0,iv 0,iv 0,iv 0];have hld2:ldcs (h1++[row 34 h1.length [iv 0,iv 0,iv 0,iv 0]]) b1 (o1+w2.toNat*4) 4=some [iv k,iv a,iv f,iv c]:=by
   obtain ⟨b2,o2,c2,e2,_,hl2⟩:=rds_str (by omega) Inf.len (s1.keepF kp2).ri hx;rw[e1] at e2;cases e2
   simpa only [Inf.cells,ns,List.map_cons,List.map_nil] using hl2
  simp only[ZG,↓reduceIte,ZA,ZB,ZC,on.cells.ld,s1.own.cells.ld,mbl,ZD,ZE,ZF,ct1,d6,g1,e1,g2,g3,g4,and_self,hld,(on.keep kp2 (fun e=>e)).cells.ld,(s1.keepF kp2).own.cells.ld,hld2,List.contains_cons,List.contains_nil,Nat.reduceBEq,Bool.or_true,Bool.true_or,Bool.or_false,Bool.false_or];refine XH_own oI rfl (by simp [Value.cells]) rfl (fun h2 q1 q2 q3=>?_);have oI2:Own h2 h1.length 34 [iv k,iv a,iv f,iv c]:=by simpa [Value.cells] using q1
  have kq:Keep (fun _=>False) h h2:=(kp.trans kp2).trans' q2 (fun c hc e=>by have:=kp.len;omega);have gn5:(ys.length=0) ↔ (ys.length:Int)=0:=by omega
  by_cases g5:(ys.length:Int)=0
  ·have g5n:ys=[]:=List.length_eq_zero_iff.1 (by omega)
   subst g5n
   by_cases g6:k=2
   ·by_cases g7:f=0
    ·simp only[ZG,↓reduceIte,ZA,ZB,ZC,oI2.cells.ld,mbl,ZD,ZE,ZF,ct1,g6,g7,Z5,Z3]
     exact hΨ _ _ (fin_ret (rv2 rfl rfl ⟨kq,by simp [tup,HS.pad,HS.fits,d6,g1,g2,hik,hfr,g6,g7]⟩))
    ·have g8:¬ (0:Int)=f:=fun e=>g7 e.symm
     simp only[ZG,↓reduceIte,ZA,ZB,ZC,oI2.cells.ld,mbl,ZD,ZE,ZF,ct1,g6,g8,Z5,Z3];exact hΨ _ _ (fin_ret (rv2 rfl rfl ⟨kq,by simp [tup,HS.pad,HS.fits,d6,g1,g2,hik,hfr,g6,g8]⟩))
   ·by_cases g7:f=0
    ·simp only[ZG,↓reduceIte,ZA,ZB,ZC,oI2.cells.ld,mbl,ZD,ZE,ZF,ct1,g6,g7,Z5,Z3]
     exact hΨ _ _ (fin_ret (rv2 rfl rfl ⟨kq,by simp [tup,HS.pad,HS.fits,d6,g1,g2,hik,hfr,g6,g7]⟩))
    ·have g8:¬ (0:Int)=f:=fun e=>g7 e.symm
     simp only[ZG,↓reduceIte,ZA,ZB,ZC,oI2.cells.ld,mbl,ZD,ZE,ZF,ct1,g6,g8,Z5,Z3];exact hΨ _ _ (fin_ret (rv2 rfl rfl ⟨kq,by simp [tup,HS.pad,HS.fits,d6,g1,g2,hik,hfr,g6,g8]⟩))
  ·have g9:¬ ys=[]:=fun e=>g5 (by rw[e];rfl)
   by_cases g7:(ys.length:Int)=f
   ·have g10:¬ f=0:=by omega
    simp only[ZG,↓reduceIte,ZA,ZB,ZC,oI2.cells.ld,mbl,ZD,ZE,ZF,ct1,g5,g7,g10];exact hΨ _ _ (fin_ret (rv2 rfl rfl ⟨kq,by simp [tup,HS.pad,HS.fits,d6,g1,g2,hik,hfr,g7,g9]⟩))
   ·simp only[ZG,↓reduceIte,ZA,ZB,ZC,oI2.cells.ld,mbl,ZD,ZE,ZF,ct1,g5,g7]
    exact hΨ _ _ (fin_ret (rv2 rfl rfl ⟨kq,by simp [tup,HS.pad,HS.fits,d6,g1,g2,hik,hfr,g7,g9]⟩))
 by_cases d7:w1=7
 ·skip
  by_cases g1:0<=w2
  case neg =>
   simp only[ZG,↓reduceIte,ZA,ZB,ZC,on.cells.ld,s1.own.cells.ld,mbl,ZD,ZE,ZF,ct1,d6,d7,g1];exact hΨ _ _ (fin_ret (rv2 rfl rfl ⟨kp,by simp [tup,HS.pad,HS.fits,d6,d7,g1]⟩))
  obtain ⟨ka,kc,hvk⟩:=row_shape s1.rk
  by_cases g2:w2<(S.cons.length:Int)
  case neg =>
   simp only[ZG,↓reduceIte,ZA,ZB,ZC,on.cells.ld,s1.own.cells.ld,mbl,ZD,ZE,ZF,ct1,d6,d7,g1,hvk,g2];exact hΨ _ _ (fin_ret (rv2 rfl rfl ⟨kp,by simp [tup,HS.pad,HS.fits,d6,d7,g1,g2]⟩))
  by_cases g3:(0:Int)<(ys.length:Int)
  case neg =>
   simp only[ZG,↓reduceIte,ZA,ZB,ZC,on.cells.ld,s1.own.cells.ld,mbl,ZD,ZE,ZF,ct1,d6,d7,g1,hvk,g2,g3];have gn:ys.length=0:=by omega
   exact hΨ _ _ (fin_ret (rv2 rfl rfl ⟨kp,by simp [tup,HS.pad,HS.fits,d6,d7,g1,g2,gn]⟩))
  obtain ⟨x,hx⟩:∃ x,S.cons[w2.toNat]?=some x:=⟨_,Z0 (show w2.toNat<S.cons.length by omega)⟩
  have hcn:S.cn w2=x:=by rw[HS.cn,hx];rfl
  have gx:(ys.length:Int)=x->(0:Int)<x:=fun e=>by omega
  obtain ⟨b1,o1,c1,e1,_,hld⟩:=rds_ix s1.rk g1 hx;have ek:=e1.symm.trans hvk;cases ek
  by_cases g4:(ys.length:Int)=x
  case neg =>
   simp only[ZG,↓reduceIte,ZA,ZB,ZC,on.cells.ld,s1.own.cells.ld,mbl,ZD,ZE,ZF,ct1,d6,d7,g1,hvk,g2,g3,and_self,Z1,hld,g4];exact hΨ _ _ (fin_ret (rv2 rfl rfl ⟨kp,by simp [tup,HS.pad,HS.fits,d6,d7,g1,g2,g3,hcn,g4]⟩))
  simp only[ZG,↓reduceIte,ZA,ZB,ZC,on.cells.ld,s1.own.cells.ld,mbl,ZD,ZE,ZF,ct1,d6,d7,g1,hvk,g2,g3,and_self,Z1,hld,g4,gx g4];exact hΨ _ _ (fin_ret (rv2 rfl rfl ⟨kp,by simp [tup,HS.pad,HS.fits,d6,d7,g1,g2,g3,hcn,g4,gx g4]⟩))
 by_cases d8:w1=8
 ·skip
  by_cases g1:0<w2
  case neg =>
   simp only[ZG,↓reduceIte,ZA,ZB,ZC,on.cells.ld,s1.own.cells.ld,mbl,ZD,ZE,ZF,ct1,d6,d7,d8,g1];exact hΨ _ _ (fin_ret (rv2 rfl rfl ⟨kp,by simp [tup,HS.pad,HS.fits,d6,d7,d8,g1]⟩))
  by_cases g2:w2<8
  case neg =>
   simp only[ZG,↓reduceIte,ZA,ZB,ZC,on.cells.ld,s1.own.cells.ld,mbl,ZD,ZE,ZF,ct1,d6,d7,d8,g1,g2];exact hΨ _ _ (fin_ret (rv2 rfl rfl ⟨kp,by simp [tup,HS.pad,HS.fits,d6,d7,d8,g1,g2]⟩))
  have hw:IntKind.i64.wrap (w2+1)=w2+1:=i64w (by omega) (by omega)
  by_cases g3:(ys.length:Int)=w2+1
  case neg =>
   simp only[ZG,↓reduceIte,ZA,ZB,ZC,on.cells.ld,s1.own.cells.ld,mbl,ZD,ZE,ZF,ct1,d6,d7,d8,g1,g2,hw,g3];exact hΨ _ _ (fin_ret (rv2 rfl rfl ⟨kp,by simp [tup,HS.pad,HS.fits,d6,d7,d8,g1,g2,g3]⟩))
  simp only[ZG,↓reduceIte,ZA,ZB,ZC,on.cells.ld,s1.own.cells.ld,mbl,ZD,ZE,ZF,ct1,d6,d7,d8,g1,g2,hw,g3];exact hΨ _ _ (fin_ret (rv2 rfl rfl ⟨kp,by simp [tup,HS.pad,HS.fits,d6,d7,d8,g1,g2,g3]⟩))
 by_cases d9:w1=9
 ·skip
  by_cases g1:0<=w2
  case neg =>
   simp only[ZG,↓reduceIte,ZA,ZB,ZC,on.cells.ld,s1.own.cells.ld,mbl,ZD,ZE,ZF,ct1,d6,d7,d8,d9,g1];exact hΨ _ _ (fin_ret (rv2 rfl rfl ⟨kp,by simp [tup,HS.pad,HS.fits,d6,d7,d8,d9,g1]⟩))
  obtain ⟨ka,kc,hvt⟩:=row_shape s1.rt
  by_cases g2:w2<(S.texts.length:Int)
  case neg =>
   simp only[ZG,↓reduceIte,ZA,ZB,ZC,on.cells.ld,s1.own.cells.ld,mbl,ZD,ZE,ZF,ct1,d6,d7,d8,d9,g1,hvt,g2];exact hΨ _ _ (fin_ret (rv2 rfl rfl ⟨kp,by simp [tup,HS.pad,HS.fits,d6,d7,d8,d9,g1,g2]⟩))
  by_cases g3:(ys.length:Int)=1
  case neg =>
   simp only[ZG,↓reduceIte,ZA,ZB,ZC,on.cells.ld,s1.own.cells.ld,mbl,ZD,ZE,ZF,ct1,d6,d7,d8,d9,g1,hvt,g2,g3];exact hΨ _ _ (fin_ret (rv2 rfl rfl ⟨kp,by simp [tup,HS.pad,HS.fits,d6,d7,d8,d9,g1,g2,g3]⟩))
  obtain ⟨b0,o0,cc0,e0,l0,hw0,hw1⟩:=rds_w0 hu1 (i:=0) (by omega) (by omega);cases e0;have e01:((0:Int)<(ys.length:Int))=True:=by simp;omega
  simp only[Z2,Z6,Ze] at hw0 hw1
  by_cases g4:(wat ys 0).1=1
  case neg =>
   simp only[ZG,↓reduceIte,ZA,ZB,ZC,on.cells.ld,s1.own.cells.ld,mbl,ZD,ZE,ZF,ct1,d6,d7,d8,d9,g1,hvt,g2,g3,Zb,e01,Z7,and_self,Z2,Z6,hw0,hw1,g4];exact hΨ _ _ (fin_ret (rv2 rfl rfl ⟨kp,by simp [tup,HS.pad,HS.fits,d6,d7,d8,d9,g1,g2,g3,g4]⟩))
  by_cases g5:0<=(wat ys 0).2
  case neg =>
   simp only[ZG,↓reduceIte,ZA,ZB,ZC,on.cells.ld,s1.own.cells.ld,mbl,ZD,ZE,ZF,ct1,d6,d7,d8,d9,g1,hvt,g2,g3,Zb,e01,Z7,and_self,Z2,Z6,hw0,hw1,g4,g5];exact hΨ _ _ (fin_ret (rv2 rfl rfl ⟨kp,by simp [tup,HS.pad,HS.fits,d6,d7,d8,d9,g1,g2,g3,g4,g5]⟩))
  obtain ⟨t,hx⟩:∃ x,S.texts[w2.toNat]?=some x:=⟨_,Z0 (show w2.toNat<S.texts.length by omega)⟩
  have hts:S.ts w2=t.size:=by rw[HS.ts,hx];rfl
  obtain ⟨b1,o1,c1,e1,hl⟩:=s1.rt.at (i:=w2.toNat) (by omega);have ek:=e1.symm.trans hvt;cases ek;have hlt:=hl 0 (by omega);simp only[Z1,Ze] at hlt;rw[show (sts S.texts)[w2.toNat]?=some (.string t) by simp [sts,hx]] at hlt
  by_cases g6:(wat ys 0).2<=(t.size:Int)
  case neg =>
   simp only[ZG,↓reduceIte,ZA,ZB,ZC,on.cells.ld,s1.own.cells.ld,mbl,ZD,ZE,ZF,ct1,d6,d7,d8,d9,g1,hvt,g2,g3,Zb,e01,Z7,and_self,Z2,Z6,hw0,hw1,g4,g5,Z1,hlt,g6];exact hΨ _ _ (fin_ret (rv2 rfl rfl ⟨kp,by simp [tup,HS.pad,HS.fits,d6,d7,d8,d9,g1,g2,g3,g4,g5,hts,g6]⟩))
  simp only[ZG,↓reduceIte,ZA,ZB,ZC,on.cells.ld,s1.own.cells.ld,mbl,ZD,ZE,ZF,ct1,d6,d7,d8,d9,g1,hvt,g2,g3,Zb,e01,Z7,and_self,Z2,Z6,hw0,hw1,g4,g5,Z1,hlt,g6];exact hΨ _ _ (fin_ret (rv2 rfl rfl ⟨kp,by simp [tup,HS.pad,HS.fits,d6,d7,d8,d9,g1,g2,g3,g4,g5,hts,g6]⟩))
 by_cases d10:w1=10
 ·by_cases g1:0<=w2
  case neg =>
   simp only[ZG,↓reduceIte,ZA,ZB,ZC,on.cells.ld,mbl,ZD,ZE,ZF,ct1,d6,d7,d8,d9,d10,g1];exact hΨ _ _ (fin_ret (rv2 rfl rfl ⟨kp,by simp [tup,HS.pad,HS.fits,d10,g1]⟩))
  by_cases g2:(ys.length:Int)=0
  ·have gn:ys.length=0:=by omega
   simp only[ZG,↓reduceIte,ZA,ZB,ZC,on.cells.ld,mbl,ZD,ZE,ZF,ct1,d6,d7,d8,d9,d10,g1,g2];exact hΨ _ _ (fin_ret (rv2 rfl rfl ⟨kp,by simp [tup,HS.pad,HS.fits,d10,g1,gn]⟩))
  ·have gn:¬ ys.length=0:=by omega
   simp only[ZG,↓reduceIte,ZA,ZB,ZC,on.cells.ld,mbl,ZD,ZE,ZF,ct1,d6,d7,d8,d9,d10,g1,g2];exact hΨ _ _ (fin_ret (rv2 rfl rfl ⟨kp,by simp [tup,HS.pad,HS.fits,d10,g1,gn]⟩))
 simp only[ZG,↓reduceIte,ZA,ZB,ZC,on.cells.ld,mbl,ZD,ZE,ZF,ct1,d6,d7,d8,d9,d10];exact hΨ _ _ (fin_ret (rv2 rfl rfl ⟨kp,by simp [tup,HS.pad,HS.fits,d6,d7,d8,d9,d10]⟩))
end
end Go.S18

namespace Go.S18
open Go Go.Eng Go.Proofs Go.Chk
theorem map_t:Try.prog.underlying 69=some (.map 3 3):=by kernel_rfl
def HS.laid (S:HS) (ys:List (Int × Int)):HS:={ S with now:=S.now++ys,begins:=S.begins++[((S.now.length:Int),(ys.length:Int))] }
def Same (n:Nat) (L L':Lay):Prop:=∀ q,q<n->(L'.cls q=0 ↔ L.cls q=0)
theorem Same.refl (n:Nat) (L:Lay):Same n L L:=fun _ _=>Iff.rfl
abbrev Mine (L:Lay) (q:Nat):Prop:=L.cls q≠0
section
variable {h:AH} {b:Nat} {L:Lay} {S:HS}
theorem lay_ok (s:Hp h b L S) (hfr:mget S.now.length S.begins=none) {u:Value} {ys:List (Int × Int)} (hu:Rds h 2 u ys.length (ww ys)) :
 Gets Try.prog 39 [.pointer (some ⟨b,0,none⟩),u] h (fun res h'=>Keep (Mine L) h h' /\
  if S.size-(S.now.length:Int)<ys.length then Keep (fun _=>False) h h'/\res = .ret (.tuple #[wv (0,0),iv 12])
  else res = .ret (.tuple #[wv (4,S.now.length),iv 0]) /\ ∃ L',Hp h' b L' (S.laid ys)/\Same h.length L L'):=by
 refine Gets.of (keep:=false) hP (draw_ok hM) k39 (by rfl) (fun Ψ hΨ=>?_);have hln:h.length<(h++[row 36 h.length [iv 0,iv 0]]).length:=by simp
 have on:=Own.new h 36 h.length [iv 0,iv 0];have kp:Keep (fun _=>False) h (h++[row 36 h.length [iv 0,iv 0]]):=Keep.push _ _ _;have s1:=s.keepF kp;have hc0:L.cls h.length=0:=s.c0 _ (Nat.le_refl _);have hu1:=hu.keep kp (fun _ _ e=>e);obtain ⟨ua,uc,rfl⟩:=row_shape hu;simp only[ZG,↓reduceIte,ZA,ZB,ZC,r39,YE,YC,YO,YA,YL,YX,YS,Ya,Yb,Yl,Yf,Yg,Yi,Ym,Yk,Yt,Yn,Yz,Yp,Yq,Yd,mbl,ZD,ZE,ZF];generalize h++[row 36 h.length [iv 0,iv 0]]=h1 at on kp s1 hu1 hln ⊢;simp only[ZG,↓reduceIte,ZA,ZB,ZC,s1.own.cells.ld,mbl,ZD,ZE,ZF];refine XX_of (wAlloc_ok s1.ws hu1) (fun res h2 hle hn=>?_)
 by_cases hf:S.size-(S.now.length:Int)<(ys.length:Int)
 ·rw[if_pos hf] at hn
  obtain ⟨rfl,rfl⟩:=hn;refine .ret ?_;simp only[ZG,↓reduceIte,ZA,ZB,ZC,mbl,ZD,ZE,ZF];refine XH_own on rfl (by simp [Value.cells]) rfl (fun h3 q1 q2 q3=>?_);have on2:Own h3 h.length 36 [iv 0,iv 0]:=by simpa [Value.cells] using q1
  simp only[ZG,↓reduceIte,ZA,ZB,ZC];have kF:Keep (fun _=>False) h h3:=kp.trans' q2 (fun c hc e=>by omega);refine hΨ _ _ (fin_ret (rvw rfl on2 rfl ⟨kF.mono (fun _ e=>e.elim),?_⟩));rw[if_pos hf];exact ⟨kF,rfl⟩
 ·rw[if_neg hf] at hn
  obtain ⟨rfl,kp2,v0',v1',ws',hown⟩:=hn;refine .ret ?_;have hne:∀ q,WOwns L.bs L.v0 L.v1 q->q<h1.length/\L.cls q=2:=fun q e=>⟨s1.ws.lt q e,s1.c2 q e⟩
  have cb:∀ q,L.cls q≠2 -> ¬ WOwns L.bs L.v0 L.v1 q:=fun q a e=>a (hne q e).2
  have own2:=s1.own.keep kp2 (cb b (by rw[s1.c1];omega));have mb2:=s1.mb.keep kp2 (cb _ (by rw[s1.c3];omega));have on2:=on.keep kp2 (cb _ (by rw[hc0];omega));obtain ⟨h3,k1,k2,k3,k4⟩:=mup_new map_t kt3 mb2 (v:=(ys.length:Int)) hfr;have hbm:b≠L.mb:=fun e=>by have a:=s1.c1;have c:=s1.c3;rw[e] at a;omega
  simp only[ZG,↓reduceIte,ZA,ZB,ZC,own2.cells.ld,mbl,ZD,ZE,ZF,k1];have hnm:h.length≠L.mb:=fun e=>by have c:=s1.c3;rw[<- e] at c;omega
  refine XH_own (on2.keep k3 hnm) rfl (by simp [Value.cells]) rfl (fun h4 q1 q2 q3=>?_);have on4:Own h4 h.length 36 [iv 4,iv S.now.length]:=by simpa [Value.cells] using q1
  simp only[ZG,↓reduceIte,ZA,ZB,ZC];have kq:Keep (fun q=>L.cls q≠0\/q=h.length) h1 h4:=((kp2.mono (fun q e=>.inl (by rw[(hne q e).2];omega))).trans (k3.mono (fun q e=>.inl (by rw[e,s1.c3];omega)))).trans (q2.mono fun q e=>.inr e);have kH:Keep (Mine L) h h4:=⟨Nat.le_trans kp.len kq.len,fun q hq e=>by rw[kq.same q (by have:=kp.len;omega) (fun o=>o.elim e (fun o=>by omega)),kp.same q hq (fun f=>f)]⟩
  refine hΨ _ _ (fin_ret (rvw rfl on4 rfl ⟨kH,?_⟩));rw[if_neg hf];have hl2:h1.length<=h2.length:=kp2.len;have hl4:h4.length=h2.length:=by omega
  have kR:Keep (fun q=>q=L.mb\/q=h.length) h2 h4:=(k3.mono (fun q e=>.inl e)).trans (q2.mono fun q e=>.inr e);have kA:Keep (fun q=>L.cls q=2\/q=L.mb\/q=h.length) h1 h4:=(kp2.mono (fun q e=>.inl (hne q e).2)).trans (kR.mono fun q e=>.inr e);have hx:∀ q,L.cls q≠0->L.cls q≠2->L.cls q≠3 -> ¬ (L.cls q=2\/q=L.mb\/q=h.length):=by
   intro q a c d e
   rcases e with e|e|e
   ·exact c e
   ·rw[e,s1.c3] at d;exact d rfl
   ·rw[e] at a;exact a hc0
  classical
  refine ⟨by simp only[tup,wv],{ L with v0:=v0',v1:=v1',cls:=fun q=>if q<h1.length then L.cls q else if q<h4.length/\(bk v0' q\/bk v1' q) then 2 else 0 },?_,?_⟩
  ·have lt1:∀ q,L.cls q≠0->q<h1.length:=fun q e=>Nat.lt_of_not_le fun c=>e (s1.c0 q c)
   have wl:∀ q,WOwns L.bs v0' v1' q->q<h2.length:=ws'.lt;refine ⟨?_,?_,?_,?_,?_,?_,?_,s1.mo0,?_,?_,?_,?_,?_,?_,?_,?_⟩
   ·exact s1.own.keep kA (hx b (by rw[s1.c1];omega) (by rw[s1.c1];omega) (by rw[s1.c1];omega))
   ·exact ws'.keep kR (fun q e o=>by
     rcases hown q e with a|a
     ·have:=hne q a
      rcases o with o|o
      ·rw[o,s1.c3] at this;omega
      ·rw[o,hc0] at this;omega
     ·rcases o with o|o
      ·have:=s1.mb.lt;omega
      ·omega)
   ·exact s1.ri.keep kA (fun q e=>hx q (by rw[s1.c6 q (.inl e)];omega) (by rw[s1.c6 q (.inl e)];omega) (by rw[s1.c6 q (.inl e)];omega))
   ·exact s1.rt.keep kA (fun q e=>hx q (by rw[s1.c6 q (.inr (.inl e))];omega) (by rw[s1.c6 q (.inr (.inl e))];omega) (by rw[s1.c6 q (.inr (.inl e))];omega))
   ·exact s1.rk.keep kA (fun q e=>hx q (by rw[s1.c6 q (.inr (.inr e))];omega) (by rw[s1.c6 q (.inr (.inr e))];omega) (by rw[s1.c6 q (.inr (.inr e))];omega))
   ·exact k2.keep q2 (fun e=>hnm e.symm)
   ·exact fun q e=>(s1.mo q e).keep kA (hx q (by rw[s1.c4 q e];omega) (by rw[s1.c4 q e];omega) (by rw[s1.c4 q e];omega))
   ·exact s1.rg.keep kA (fun q e=>hx q (by rw[s1.c5 q e];omega) (by rw[s1.c5 q e];omega) (by rw[s1.c5 q e];omega))
   ·simp only;rw[if_pos (lt1 b (by rw[s1.c1];omega))];exact s1.c1
   ·intro q e
    simp only
    by_cases hq:q<h1.length
    ·rw[if_pos hq]
     rcases hown q e with a|a
     ·exact (hne q a).2
     ·omega
    ·rw[if_neg hq,if_pos]
     refine ⟨by have:=wl q e;omega,?_⟩
     rcases e with e|e|e
     ·exfalso;rw[e] at hq;exact hq (hne _ (.inl rfl)).1
     ·exact .inl e
     ·exact .inr e
   ·simp only;rw[if_pos (lt1 _ (by rw[s1.c3];omega))];exact s1.c3
   ·intro q e;simp only;rw[if_pos (lt1 _ (by rw[s1.c4 q e];omega))];exact s1.c4 q e
   ·intro q e;simp only;rw[if_pos (lt1 _ (by rw[s1.c5 q e];omega))];exact s1.c5 q e
   ·intro q e;simp only;rw[if_pos (lt1 _ (by rw[s1.c6 q e];omega))];exact s1.c6 q e
   ·intro q e;simp only;rw[if_neg (by omega),if_neg (by omega)]
  ·intro q hq;simp only;rw[if_pos (by omega)]
end
end Go.S18
