import Derived.Test.YtjacebjfidhcoaaPk23
set_option linter.unusedVariables false
set_option linter.unusedSimpArgs false
open Nat renaming reduceEqDiff -> ZA,reduceAdd -> ZB,reduceMul -> ZC,reduceLeDiff -> ZD,reduceLT -> ZE
open Int renaming reduceEq -> ZF
open Int renaming toNat_natCast->Z0
open List renaming length_set->Z1,getElem?_cons_succ->Z2,getElem?_cons_zero->Z3,getElem?_eq_some_iff->Z4,contains_cons->Z5,contains_nil->Z6,set_set->Z8,take_succ_cons->Zc,getElem?_eq_getElem->Zf,mem_of_getElem?->Zg,replicate_succ'->Zh,drop_zero->Zi,take_zero->Zj,replicate->Zk,append_assoc->Zl,mem_map->Zm,mem_singleton->Zn,getElem?_set->Zo
open Nat renaming add_zero->Z7
open Option renaming some->Z9
open Bool renaming or_false->Za,false_or->Zb,or_true->Zd,true_or->Ze
namespace Go.S18
open Go Go.Eng Go.Proofs Go.Chk
section
variable {h:AH} {b:Nat} {L:RL} {S:HS}
set_option maxHeartbeats 4000000 in
theorem rFollow_ok (s:RH h b L S) (v:Inv S) (w:Int × Int):Gets Try.prog 59 [.pointer (some ⟨b,0,none⟩),wv w] h (fun res h'=>Keep (fun _=>False) h h' /\
 if S.sound w then ∃ n x,S.fol n w=some x/\res = .ret (.tuple #[wv x,iv 0]) else res = .ret (.tuple #[wv (0,0),iv 1])):=by
 refine Gets.of (keep:=false) hP (draw_ok hM) k59 (by rfl) (fun Ψ hΨ=>?_);have oW:=Own.new h 36 h.length [iv w.1,iv w.2];have k1:Keep (fun _=>False) h (h++[row 36 h.length [iv w.1,iv w.2]]):=Keep.push _ _ _;have l1:(h++[row 36 h.length [iv w.1,iv w.2]]).length=h.length+1:=by simp
 simp only[ZG,↓reduceIte,ZA,ZB,ZC,r59,YE,YC,YO,YA,YL,YX,YS,Ya,Yb,Yl,Yf,Yg,Yi,Ym,Yk,Yt,Yn,Yz,Yp,Yq,Yd,wv,mbl,ZD,ZE,ZF];generalize h++[row 36 h.length [iv w.1,iv w.2]]=h1 at oW k1 l1 ⊢;have oR:=Own.new h1 36 h1.length [iv 0,iv 0];have k2:Keep (fun _=>False) h1 (h1++[row 36 h1.length [iv 0,iv 0]]):=Keep.push _ _ _;have l2:(h1++[row 36 h1.length [iv 0,iv 0]]).length=h.length+2:=by simp [l1]
 generalize h1++[row 36 h1.length [iv 0,iv 0]]=h2 at oR k2 l2 ⊢;have oW2:=oW.keep k2 (fun e=>e);have k02:=k1.trans k2;simp only[ZG,↓reduceIte,ZA,ZB,ZC,oW2.cells.lds 0 2 (by simp),mbl,ZD,ZE,ZF];refine XX_of (rSound_ok (s.keepF k02) v w) (fun res h3 hle hn=>?_);obtain ⟨k3,rfl⟩:=hn;refine .ret ?_;have k03:=k02.trans k3;have oR3:=oR.keep k3 (fun e=>e);have oW3:=oW2.keep k3 (fun e=>e)
 by_cases hl:S.sound w
 case neg =>
  simp only[ZG,↓reduceIte,ZA,ZB,ZC,hl,mbl,ZD,ZE,ZF];refine XH_own oR3 rfl (by simp [Value.cells]) rfl (fun h4 q1 q2 q3=>?_);have oR4:Own h4 h1.length 36 [iv 0,iv 0]:=by simpa [Value.cells] using q1
  simp only[ZG,↓reduceIte,ZA,ZB,ZC];refine hΨ _ _ (fin_ret (rvw rfl oR4 rfl ⟨k03.trans' q2 (fun c hc e=>by omega),?_⟩));rw[if_neg hl];rfl
 obtain ⟨n,x,hx⟩:=v.tm w hl;simp only[ZG,↓reduceIte,ZA,ZB,ZC,hl,mbl,ZD,ZE,ZF];refine XLo_rule (α:=Nat × (Int × Int)) (fun a=>[(0,.pointer (some ⟨b,0,none⟩)),(3,.pointer (some ⟨h.length,0,none⟩)),(4,.pointer (some ⟨h1.length,0,none⟩)),(5,iv 0)])
  (fun a h'=>S.fol a.1 a.2=some x/\S.sound a.2/\Keep (fun q=>q=h.length) h3 h'/\Own h' h.length 36 [iv a.2.1,iv a.2.2]) (fun a=>a.1) (n,w) ⟨hx,hl,.refl _ _,oW3⟩ ⟨rfl,rfl,rfl,rfl,trivial⟩ ?_
 rintro ⟨m,c1,c2⟩ h4 Ψ2 ⟨i1,i2,kp,oC⟩ next out
 simp only at i1 i2 oC;have k04:Keep (fun _=>False) h h4:=k03.trans' kp (fun c hc e=>by omega);have oR4:=oR3.keep kp (fun e=>by omega);have hl4:h.length+2<=h4.length:=by have:=(k3.mono (T:=fun q=>q=h.length) (fun _ e=>e.elim)).trans kp |>.len;omega
 cases m with
 | zero=>cases i1
 | succ m =>
 rw[HS.fol] at i1
 by_cases d4:c1=4
 case neg =>
  rw[if_neg (show ¬ (c1,c2).1=4 from d4)] at i1;simp only[ZG,↓reduceIte,ZA,ZB,ZC,oC.cells.ld,mbl,ZD,ZE,ZF,d4];refine out (.exit 0) _ _ _ _ (by intro e;cases e) ?_;simp only[ZG,↓reduceIte,ZA,ZB,ZC,oC.cells.lds 0 2 (by simp),mbl,ZD,ZE,ZF];refine XH_own oR4 rfl (by simp [Value.cells]) rfl (fun h6 t1 t2 t3=>?_);have oR6:Own h6 h1.length 36 [iv c1,iv c2]:=by simpa [Value.cells] using t1
  simp only[ZG,↓reduceIte,ZA,ZB,ZC];refine hΨ _ _ (fin_ret (rvw rfl oR6 rfl ⟨k04.trans' t2 (fun c hc e=>by omega),?_⟩));rw[if_pos hl];exact ⟨n,x,hx,by rw[<- Z9.inj i1];rfl⟩
 have s4:=s.keepF k04;subst d4;rw[if_pos (show ((4:Int),c2).1=4 from rfl)] at i1;have hli:S.lies (4,c2):=i2.resolve_left (fun c=>by unfold HS.plain at c;simp at c);have hrow:∀ {h':AH} (k':Keep (fun _=>False) h h'),∃ (i:Nat) (z:Ox),L.nl[i]?=some z/\z.1.p=c2/\L.row (4,c2)=(i:Int)/\mget c2 S.begins=some z.1.n:=fun k'=>by
  rcases row_lies (s.keepF k') v (4,c2) with ⟨_,e⟩|⟨i,z,a1,a2,_,a3,_,a4⟩
  ·exact absurd hli e
  ·exact ⟨i,z,a1,a2,a3,a4⟩
 obtain ⟨i,z,hz,hp,hr,hg⟩:=hrow k04;simp only[ZG,↓reduceIte,ZA,ZB,ZC,oC.cells.ld,mbl,ZD,ZE,ZF,s4.own.cells.ld,RL.cells,oC.cells.lds 0 2 (by simp)];refine XX_of (rrow_ok s4 v (4,c2)) (fun res h5 hle5 hn=>?_);obtain ⟨k5,rfl⟩:=hn;refine .ret ?_;have s5:=s4.keepF k5;have oC5:=oC.keep k5 (fun e=>e);have g0:(0:Int)<=(i:Int):=by omega
 have g1:(i:Int)<(L.nl.length:Int):=by have:=(Z4.1 hz).1;omega
 obtain ⟨b1,o1,cc1,e1,hld⟩:=s5.rn.rds.cellsAt ox_len hz (j:=0) (m:=7) (by omega);simp only[ox,Zi,Zc,Zj,Z7] at hld;obtain ⟨za,zc,hzv⟩:=row_shape (s5.fn i z hz).1.rds;rw[hzv] at hld;have oX:=Own.new h5 104 h5.length [iv 0,iv 0,iv 0,iv 0,.slice none 0 0,.bool false,iv 0];have k6:Keep (fun _=>False) h5 (h5++[row 104 h5.length [iv 0,iv 0,iv 0,iv 0,.slice none 0 0,.bool false,iv 0]]):=Keep.push _ _ _;have s6:=s5.keepF k6;have oC6:=oC5.keep k6 (fun e=>e);have hld6:=(s6.rn.rds.cellsAt ox_len hz (j:=0) (m:=7) (by omega))
 obtain ⟨b2,o2,cc2,e2,hld2⟩:=hld6;simp only[ox,Zi,Zc,Zj,Z7] at hld2;rw[hzv] at hld2;rw[e1] at e2;cases e2;simp only[ZG,↓reduceIte,ZA,ZB,ZC,hr,s5.own.cells.ld,RL.cells,e1,g0,g1,and_self,Z0,hld,mbl,ZD,ZE,ZF,s6.own.cells.ld,hld2,oC5.cells.lds 0 2 (by simp),oC6.cells.lds 0 2 (by simp),Z5,Z6,Nat.reduceBEq,Zd,Ze,Za,Zb];refine XH_own oX rfl (by simp [Value.cells]) rfl (fun h7 q1 q2 q3=>?_);have oX7:Own h7 h5.length 104 [iv z.1.p,iv z.1.n,iv z.1.hd.1,iv z.1.hd.2,.slice za z.1.fs.length zc,.bool z.1.mv,iv z.1.to]:=by simpa [Value.cells] using q1
 have k47:Keep (fun _=>False) h4 h7:=(k5.trans k6).trans' q2 (fun c hc e=>by have:=k5.len;omega);have oC7:=oC.keep k47 (fun e=>e);have oR7:=oR4.keep k47 (fun e=>e);have k07:=k04.trans k47;have hzd:z.1.hd=gx S.now c2:=by rw[s.head hz,hp]
 by_cases d12:z.1.hd.1=12
 case neg =>
  rw[if_neg (show ¬ (gx S.now c2).1=12 by rw[<- hzd];exact d12)] at i1;simp only[ZG,↓reduceIte,ZA,ZB,ZC,oX7.cells.ld,mbl,ZD,ZE,ZF,d12,oC7.cells.lds 0 2 (by simp)];refine XH_own oR7 rfl (by simp [Value.cells]) rfl (fun h8 t1 t2 t3=>?_);have oR8:Own h8 h1.length 36 [iv 4,iv c2]:=by simpa [Value.cells] using t1
  simp only[ZG,↓reduceIte,ZA,ZB,ZC];refine out .ret _ _ _ _ (by intro e;cases e) ?_;simp only[ZG,↓reduceIte,ZA,ZB,ZC];refine hΨ _ _ (fin_ret (rvw rfl oR8 rfl ⟨k07.trans' t2 (fun c hc e=>by omega),?_⟩));rw[if_pos hl];exact ⟨n,x,hx,by rw[<- Z9.inj i1];rfl⟩
 rw[if_pos (show (gx S.now c2).1=12 by rw[<- hzd];exact d12)] at i1;obtain ⟨f1,f2,f3,f4,f5⟩:=s.flen v hz;have hfc:S.fcn (gx S.now z.1.p) z.1.n=1:=by rw[hp,<- hzd];unfold HS.fcn;simp [d12]
 have hone:z.1.fs.length=1:=by omega
 have hfs:z.1.fs[0]?=some (gx S.now (c2+1)):=by
  obtain ⟨a,c,_⟩:=s.vn.ob z.1 (Zm.2 ⟨z,Zg hz,rfl⟩);rw[c,fld_get,a,hfc,if_pos (by decide),hp];simp
 have s7:=s.keepF k07;obtain ⟨fb,fo,fc,e3,_,hl3⟩:=rds_str (by omega) wc_len (s7.fn i z hz).1.rds hfs;rw[hzv] at e3;cases e3;rw[ns_wc] at hl3;simp only[Nat.zero_mul,Z7] at hl3;have hlt:(0:Int)<(z.1.fs.length:Int):=by omega
 have n0:(0:Int)<=0:=by omega
 simp only[ZG,↓reduceIte,ZA,ZB,ZC,oX7.cells.ld,mbl,ZD,ZE,ZF,d12,hlt,n0,and_self,Int.toNat_zero,hl3];refine XH_own oC7 rfl (by simp [Value.cells]) rfl (fun h8 t1 t2 t3=>?_);simp only[ZG,↓reduceIte,ZA,ZB,ZC];refine next (m,gx S.now (c2+1)) _ _ _ ⟨i1,?_,(kp.trans (k47.mono (fun _ e=>e.elim))).trans t2,by simpa [Value.cells] using t1⟩ ⟨rfl,rfl,rfl,rfl,trivial⟩ (by simp)
 have:=v.is _ (mget_in hg) (by simp only;rw[<- hzd];exact d12);exact this
end
end Go.S18

namespace Go.S18
open Go Go.Eng Go.Proofs Go.Chk
section
variable {h:AH} {b:Nat} {L:RL} {S:HS}
theorem set_at {α:Type} {l:List α} {i:Nat} {x y:α} (h:l[i]?=some x):(l.set i y)[i]?=some y:=by
 rw[Zo,if_pos rfl,if_pos (Z4.1 h).1]
def hol (o:Ob) (j:Nat):Ob:={ o with fs:=o.fs++Zk j (1,0) }
set_option maxHeartbeats 8000000 in
theorem rHole_ok (s:RH h b L S) (v:Inv S) (w:Int × Int) :
 Gets Try.prog 57 [.pointer (some ⟨b,0,none⟩),wv w] h (fun res h'=>Keep (MineR L) h h'/\res = .ret (iv (S.hole w).1) /\ ∃ L',RH h' b L' (S.hole w).2/\SameR h.length L L'):=by
 refine Gets.of (keep:=false) hP (draw_ok hM) k57 (by rfl) (fun Ψ hΨ=>?_);have oW:=Own.new h 36 h.length [iv w.1,iv w.2];have k1:Keep (fun _=>False) h (h++[row 36 h.length [iv w.1,iv w.2]]):=Keep.push _ _ _;have l1:(h++[row 36 h.length [iv w.1,iv w.2]]).length=h.length+1:=by simp
 simp only[ZG,↓reduceIte,ZA,ZB,ZC,r57,YE,YC,YO,YA,YL,YX,YS,Ya,Yb,Yl,Yf,Yg,Yi,Ym,Yk,Yt,Yn,Yz,Yp,Yq,Yd,wv,mbl,ZD,ZE,ZF];generalize h++[row 36 h.length [iv w.1,iv w.2]]=h1 at oW k1 l1 ⊢;simp only[ZG,↓reduceIte,ZA,ZB,ZC,oW.cells.lds 0 2 (by simp),mbl,ZD,ZE,ZF];refine XX_of (rrow_ok (s.keepF k1) v w) (fun res h3 hle hn=>?_);obtain ⟨k3,rfl⟩:=hn;refine .ret ?_;have k03:=k1.trans k3;have s3:=s.keepF k03;have no:∀ {h':AH},Keep (fun _=>False) h h' -> ¬ holeC S w->(Keep (MineR L) h h'/\Res.ret (iv 1) = .ret (iv (S.hole w).1) /\ ∃ L',RH h' b L' (S.hole w).2/\SameR h.length L L'):=fun kk e=>by
  rcases hole_cases v w with ⟨h1,_⟩|⟨n,h1,_⟩
  ·rw[h1];exact ⟨kk.mono (fun _ e=>e.elim),rfl,L,s.keepF kk,SameR.refl _ _⟩
  ·exact absurd h1 e
 rcases row_lies s3 v w with ⟨e,hl⟩|⟨i,x,hx,hp,hw4,e,hl,hg⟩
 ·have n1:(-1:Int)<0:=by decide
  simp only[ZG,↓reduceIte,ZA,ZB,ZC,e,n1,mbl,ZD,ZE,ZF];exact hΨ _ _ (fin_ret (rv1 rfl (no k03 (fun c=>hl c.1))))
 have n1:¬ (i:Int)<0:=by omega
 have g0:(0:Int)<=(i:Int):=by omega
 have hi:i<L.nl.length:=(Z4.1 hx).1;have g1:(i:Int)<(L.nl.length:Int):=by omega
 obtain ⟨wa,wb⟩:=w;simp only at hp hw4;subst hp;subst hw4;obtain ⟨f1,f2,f3,f4,f5⟩:=s.flen v hx;have hdE:=s.head hx;have hfn:=s.fn i x hx;have kd:=v.kn _ (mget_in hg);obtain ⟨b1,o1,cc1,e1,hld⟩:=s3.rn.rds.cellsAt ox_len hx (j:=0) (m:=7) (by omega);simp only[ox,Zi,Zc,Zj,Z7] at hld;obtain ⟨xa,xc,hxv⟩:=row_shape hfn.1.rds;rw[hxv] at hld;have oX:=Own.new h3 104 h3.length [iv 0,iv 0,iv 0,iv 0,.slice none 0 0,.bool false,iv 0];have k4:Keep (fun _=>False) h3 (h3++[row 104 h3.length [iv 0,iv 0,iv 0,iv 0,.slice none 0 0,.bool false,iv 0]]):=Keep.push _ _ _;simp only[ZG,↓reduceIte,ZA,ZB,ZC,e,n1,mbl,ZD,ZE,ZF,s3.own.cells.ld,RL.cells,e1,g0,g1,and_self,Z0,hld];refine XH_own oX rfl (by simp [Value.cells]) rfl (fun h5 q1 q2 q3=>?_);have oX5:Own h5 h3.length 104 [iv x.1.p,iv x.1.n,iv x.1.hd.1,iv x.1.hd.2,.slice xa x.1.fs.length xc,.bool x.1.mv,iv x.1.to]:=by simpa [Value.cells] using q1
 have k35:Keep (fun _=>False) h3 h5:=k4.trans' q2 (fun c hc e=>by omega);have k05:=k03.trans k35;have s5:=s.keepF k05;have l3:h.length<h3.length:=by omega
 have l5:h3.length<h5.length:=by rw[q3];simp
 by_cases hc:holeC S (4,x.1.p)
 case neg =>
  have d9:¬ x.1.hd.1=9:=fun c=>hc ⟨hl,.inl (by rw[<- hdE];exact c)⟩
  have d10:¬ x.1.hd.1=10:=fun c=>hc ⟨hl,.inr (.inl (by rw[<- hdE];exact c))⟩
  by_cases d6:x.1.hd.1=6
  case neg =>
   simp only[ZG,↓reduceIte,ZA,ZB,ZC,oX5.cells.ld,mbl,ZD,ZE,ZF,d9,d10,d6];exact hΨ _ _ (fin_ret (rv1 rfl (no k05 hc)))
  have dk:¬ S.ik x.1.hd.2=2:=fun c=>hc ⟨hl,.inr (.inr ⟨by rw[<- hdE];exact d6,by rw[<- hdE];exact c⟩)⟩
  have k6:=kd.k6 (by simp only;rw[<- hdE];exact d6);simp only at k6;rw[<- hdE] at k6;obtain ⟨z1,z2,z3,z4⟩:=k6;obtain ⟨⟨kk,a,f,c⟩,hxi⟩:∃ x0,S.infos[x.1.hd.2.toNat]?=some x0:=⟨_,Zf (show x.1.hd.2.toNat<S.infos.length by omega)⟩
  have hik:S.ik x.1.hd.2=kk:=by rw[HS.ik,hxi];rfl
  obtain ⟨b2,o2,c2,e2,_,hld2⟩:=rds_fld (by omega) Inf.len s5.ri hxi;have hl0:=hld2 0 (by omega);simp only[Inf.cells,Z2,Z3,Option.map_some,Z7] at hl0;have dk2:¬ kk=2:=by rw[<- hik];exact dk
  have d69:¬ (6:Int)=9:=by omega
  have d610:¬ (6:Int)=10:=by omega
  simp only[ZG,↓reduceIte,ZA,ZB,ZC,oX5.cells.ld,mbl,ZD,ZE,ZF,d9,d10,d6,d69,d610,s5.own.cells.ld,RL.cells,e2,z1,z2,and_self,hl0,dk2];exact hΨ _ _ (fin_ret (rv1 rfl (no k05 hc)))
 have hn2:2<=x.1.n:=by
  rcases hole_cases v (4,x.1.p) with ⟨_,h1⟩|⟨n,_,h1,_,h2,_⟩
  ·exact absurd hc h1
  ·rw[hg] at h1;cases h1;exact h2
 have hres:S.hole (4,x.1.p)=(0,S.setw x.1.p (11,x.1.n)):=by
  rcases hole_cases v (4,x.1.p) with ⟨_,h1⟩|⟨n,_,h1,_,_,_,_,h2⟩
  ·exact absurd hc h1
  ·rw[hg] at h1;cases h1;exact h2
 have hwn:IntKind.i64.wrap (x.1.n-1)=x.1.n-1:=i64w (by omega) (by omega);have kz:∀ {q:Nat},h.length<=q -> ¬ bk L.vn q:=fun {q} hq e=>by have:=s.lt (q:=q) (by rw[s.cn q e];omega);omega
 have kx:∀ {q:Nat},h.length<=q -> ¬ bk x.2 q:=fun {q} hq e=>by have:=s.lt (q:=q) (by rw[hfn.2 q e];omega);omega
 have kvx:∀ {q:Nat},bk x.2 q -> ¬ bk L.vn q:=fun {q} a c=>by have a1:=hfn.2 q a;have a2:=s.cn q c;omega
 have kb:¬ (bk L.vn b\/bk x.2 b):=fun c=>by
  rcases c with c|c
  ·have:=s.cn b c;rw[s.c1] at this;omega
  ·have:=hfn.2 b c;rw[s.c1] at this;omega
 by_cases d9:x.1.hd.1=9
 ·simp only[ZG,↓reduceIte,ZA,ZB,ZC,oX5.cells.ld,mbl,ZD,ZE,ZF,d9]
  refine XLo_rule (α:=Nat) (fun j=>[(0,.pointer (some ⟨b,0,none⟩)),(4,iv 0),(5,iv i),(6,.pointer (some ⟨h3.length,0,none⟩))])
   (fun j h'=>x.1.fs.length+j<=x.1.n.toNat-1/\Keep (fun q=>bk L.vn q\/bk x.2 q) h h'/\Own h' h3.length 104 [iv x.1.p,iv x.1.n,iv x.1.hd.1,iv x.1.hd.2,.slice xa x.1.fs.length xc,.bool x.1.mv,iv x.1.to] /\
    ∃ vf,Ows h' 104 7 L.vn (L.nl.set i (hol x.1 j,vf)).length ((L.nl.set i (hol x.1 j,vf)).flatMap ox)/\Ows h' 36 2 vf (hol x.1 j).fs.length (ww (hol x.1 j).fs) /\ ∀ q,bk vf q->bk x.2 q\/h3.length<q)
   (fun j=>x.1.n.toNat-j) 0 ⟨by omega,k05.mono (fun _ e=>e.elim),oX5,x.2,?_,?_,fun q e=>.inl e⟩ ⟨rfl,rfl,rfl,rfl,trivial⟩ ?_
  ·rw[ox_set hx (show ox (hol x.1 0,x.2)=ox x from rfl),Z1];exact s5.rn
  ·have:(hol x.1 0).fs=x.1.fs:=by simp [hol]
   rw[this];exact (s5.fn i x hx).1
  rintro j h6 Ψ2 ⟨i1,kh,oX6,vf,rn6,rf6,ff⟩ next out
  have hx6:=set_at (y:=(hol x.1 j,vf)) hx;have hfl:(hol x.1 j).fs.length=x.1.fs.length+j:=by simp [hol]
  obtain ⟨va,vc,rfl⟩:=row_shape rf6.rds;obtain ⟨b6,o6,c6,e6,hld6⟩:=rn6.rds.cellAt ox_len hx6;have l64:=hld6 4 (by omega);simp only[ox,Z2,Z3] at l64;have own6:=s.own.keep kh kb;have hsl:((L.nl.set i (hol x.1 j,Value.slice va (hol x.1 j).fs.length vc)).length:Int)=L.nl.length:=by rw[Z1]
  have g2:(i:Int)<((L.nl.set i (hol x.1 j,Value.slice va (hol x.1 j).fs.length vc)).length:Int):=by omega
  by_cases hlt:((hol x.1 j).fs.length:Int)<x.1.n-1
  case neg =>
   simp only[ZG,↓reduceIte,ZA,ZB,ZC,own6.cells.ld,RL.cells,mbl,ZD,ZE,ZF,e6,g0,g2,and_self,Z0,l64,oX6.cells.ld,hwn,hlt];refine out (.exit 0) _ _ _ _ (by intro e;cases e) ?_;simp only[ZG,↓reduceIte,ZA,ZB,ZC,own6.cells.ld,RL.cells,mbl,ZD,ZE,ZF,e6,g0,g2,and_self,Z0,l64,oX6.cells.ld];have hz6:L.vn = .slice (some ⟨b6,0,none⟩) (L.nl.set i (hol x.1 j,Value.slice va (hol x.1 j).fs.length vc)).length c6/\o6=0:=by
    obtain ⟨_,_,_,y1,_⟩:=rn6.setAt (x':=(hol x.1 j,Value.slice va (hol x.1 j).fs.length vc)) (j:=0) (vs:=[]) ox_len hx6 (by simp) (by simp) (by simp);rw[e6] at y1;cases y1;exact ⟨e6,rfl⟩
   obtain ⟨e60,rfl⟩:=hz6;refine XH_row (o:=0+i*7+2) (u:=.agg #[iv 11,iv x.1.n]) (x':=({ hol x.1 j with hd:=(11,x.1.n) },Value.slice va (hol x.1 j).fs.length vc)) (j:=2) ox_len rn6 e60 hx6 rfl (by omega) (by simp [Value.cells]) (by simp [ox,Value.cells]) (by simp [Value.cells,Value.oneCell']) (fun h7 t1 t2 t3=>?_);simp only[ZG,↓reduceIte,ZA,ZB,ZC];have kh7:Keep (fun q=>bk L.vn q\/bk x.2 q) h h7:=kh.trans (t2.mono fun _ e=>.inl e);have hfe:(hol x.1 j).fs=x.1.fs++Zk (x.1.n.toNat-1-x.1.fs.length) (1,0):=by
    have:j=x.1.n.toNat-1-x.1.fs.length:=by omega
    rw[hol,this]
   have hvs:=s.vn.hole v (s.nat hx) hc;rw[<- hfe] at hvs;obtain ⟨L',sL,sS⟩:=s.obj (S':=S.setw x.1.p (11,x.1.n)) (x':=({ hol x.1 j with hd:=(11,x.1.n) },Value.slice va (hol x.1 j).fs.length vc)) ⟨rfl,rfl,rfl,rfl⟩ rfl (by simp [HS.setw]) hx kh7
    (by simp only[Z8,Z1] at t1 ⊢;exact t1) (rf6.keep t2 (fun q e c=>by
     rcases ff q e with y|y
     ·exact kvx y c
     ·exact kz (by omega) c)) (fun q e=>(ff q e).imp id (fun c=>by omega)) hvs (s.vo.same rfl rfl rfl)
   refine hΨ _ _ (fin_ret (rv1 rfl ⟨kh7.mono (fun q e=>?_),by rw[hres];rfl,L',by rw[hres];exact sL,sS⟩))
   rcases e with e|e
   ·show L.cls q≠0;rw[s.cn q e];omega
   ·show L.cls q≠0;rw[hfn.2 q e];omega
  simp only[ZG,↓reduceIte,ZA,ZB,ZC,own6.cells.ld,RL.cells,mbl,ZD,ZE,ZF,e6,g0,g2,and_self,Z0,l64,oX6.cells.ld,hwn,hlt];have kp:Keep (fun _=>False) h6 (h6++[row 36 h6.length [iv 1,iv 0]]):=Keep.push _ _ _;have own7:=own6.keep kp (fun e=>e);have rn7:=rn6.keep kp (fun _ _ e=>e);obtain ⟨b7,o7,c7,e7,hld7⟩:=rn7.rds.cellAt ox_len hx6;rw[e6] at e7;cases e7;have l74:=hld7 4 (by omega);simp only[ox,Z2,Z3] at l74;have hlen:(hol x.1 j).fs.length<=1048576:=by omega
  obtain ⟨vg,h8,p1,p2,p3,p4⟩:=app1 (bytes:=16) (xs:=[iv 1,iv 0]) rf6 rfl rfl (by omega) (by omega);have nbv:∀ q,L.cls q≠0->L.cls q≠10+2*i -> ¬ bk (Value.slice va (hol x.1 j).fs.length vc) q:=fun q e1 e2 c=>by
   rcases ff q c with y|y
   ·exact e2 (hfn.2 q y)
   ·have:=s.lt e1;omega
  have own8:=own6.keep p3 (nbv b (by rw[s.c1];omega) (by rw[s.c1];omega));have rn8:=rn6.keep p3 (fun q c=>nbv q (by rw[s.cn q c];omega) (by rw[s.cn q c];omega));have oX8:=oX6.keep p3 (fun c=>by
   rcases ff _ c with y|y
   ·exact kx (by omega) y
   ·omega)
  obtain ⟨ga,gc,rfl⟩:=row_shape p2.rds;simp only[ZG,↓reduceIte,ZA,ZB,ZC,own7.cells.ld,own8.cells.ld,RL.cells,mbl,ZD,ZE,ZF,e6,g0,g2,and_self,Z0,l74,p1,Z5,Z6,Nat.reduceBEq,Zd,Ze,Za,Zb];have hz6:L.vn = .slice (some ⟨b6,0,none⟩) (L.nl.set i (hol x.1 j,Value.slice va (hol x.1 j).fs.length vc)).length c6/\o6=0:=by
   obtain ⟨_,_,_,y1,_⟩:=rn6.setAt (x':=(hol x.1 j,Value.slice va (hol x.1 j).fs.length vc)) (j:=0) (vs:=[]) ox_len hx6 (by simp) (by simp) (by simp);rw[e6] at y1;cases y1;exact ⟨e6,rfl⟩
  obtain ⟨e60,rfl⟩:=hz6;refine XH_row (o:=0+i*7+4) (u:=.slice ga ((hol x.1 j).fs.length+1) gc) (x':=(hol x.1 (j+1),Value.slice ga ((hol x.1 j).fs.length+1) gc)) (j:=4) ox_len rn8 e60 hx6 rfl (by omega) (by simp [Value.cells]) (by simp [ox,hol,Value.cells]) (by simp [Value.cells,Value.oneCell']) (fun h9 t1 t2 t3=>?_);simp only[ZG,↓reduceIte,ZA,ZB,ZC];have hf1:(hol x.1 (j+1)).fs=(hol x.1 j).fs++[(1,0)]:=by simp [hol,Zh,Zl]
  have hf1l:(hol x.1 (j+1)).fs.length=(hol x.1 j).fs.length+1:=by rw[hf1];simp
  have l68:h6.length<=h8.length:=p3.len;have l66:h3.length<h6.length:=oX6.lt;refine next (j+1) _ _ _ ⟨by omega,?_,oX8.keep t2 (kz (by omega)),Value.slice ga ((hol x.1 j).fs.length+1) gc,?_,?_,?_⟩ ⟨rfl,rfl,rfl,rfl,trivial⟩ (by omega)
  ·refine (kh.trans' p3 (fun c hc e=>?_)).trans (t2.mono fun _ e=>.inl e)
   rcases ff c e with y|y
   ·exact .inr y
   ·omega
  ·simp only[Z8,Z1] at t1 ⊢;exact t1
  ·rw[hf1,ww_app]
   have:(hol x.1 j).fs.length+1=((hol x.1 j).fs++[(1,0)]).length:=by simp
   rw[<- this];refine p2.keep t2 (fun q c e=>?_)
   rcases p4 q c with y|y
   ·rcases ff q y with z|z
    ·exact kvx z e
    ·exact kz (by omega) e
   ·exact kz (by omega) e
  ·intro q c
   rcases p4 q c with y|y
   ·exact ff q y
   ·exact .inr (by omega)
 by_cases d10:x.1.hd.1=10
 ·have d109:¬ (10:Int)=9:=by omega
  simp only[ZG,↓reduceIte,ZA,ZB,ZC,oX5.cells.ld,mbl,ZD,ZE,ZF,d9,d10,d109];refine XLo_rule (α:=Nat) (fun j=>[(0,.pointer (some ⟨b,0,none⟩)),(4,iv 0),(5,iv i),(6,.pointer (some ⟨h3.length,0,none⟩))])
   (fun j h'=>x.1.fs.length+j<=x.1.n.toNat-1/\Keep (fun q=>bk L.vn q\/bk x.2 q) h h'/\Own h' h3.length 104 [iv x.1.p,iv x.1.n,iv x.1.hd.1,iv x.1.hd.2,.slice xa x.1.fs.length xc,.bool x.1.mv,iv x.1.to] /\
    ∃ vf,Ows h' 104 7 L.vn (L.nl.set i (hol x.1 j,vf)).length ((L.nl.set i (hol x.1 j,vf)).flatMap ox)/\Ows h' 36 2 vf (hol x.1 j).fs.length (ww (hol x.1 j).fs) /\ ∀ q,bk vf q->bk x.2 q\/h3.length<q)
   (fun j=>x.1.n.toNat-j) 0 ⟨by omega,k05.mono (fun _ e=>e.elim),oX5,x.2,?_,?_,fun q e=>.inl e⟩ ⟨rfl,rfl,rfl,rfl,trivial⟩ ?_
  ·rw[ox_set hx (show ox (hol x.1 0,x.2)=ox x from rfl),Z1];exact s5.rn
  ·have:(hol x.1 0).fs=x.1.fs:=by simp [hol]
   rw[this];exact (s5.fn i x hx).1
  rintro j h6 Ψ2 ⟨i1,kh,oX6,vf,rn6,rf6,ff⟩ next out
  have hx6:=set_at (y:=(hol x.1 j,vf)) hx;have hfl:(hol x.1 j).fs.length=x.1.fs.length+j:=by simp [hol]
  obtain ⟨va,vc,rfl⟩:=row_shape rf6.rds;obtain ⟨b6,o6,c6,e6,hld6⟩:=rn6.rds.cellAt ox_len hx6;have l64:=hld6 4 (by omega);simp only[ox,Z2,Z3] at l64;have own6:=s.own.keep kh kb;have hsl:((L.nl.set i (hol x.1 j,Value.slice va (hol x.1 j).fs.length vc)).length:Int)=L.nl.length:=by rw[Z1]
  have g2:(i:Int)<((L.nl.set i (hol x.1 j,Value.slice va (hol x.1 j).fs.length vc)).length:Int):=by omega
  by_cases hlt:((hol x.1 j).fs.length:Int)<x.1.n-1
  case neg =>
   simp only[ZG,↓reduceIte,ZA,ZB,ZC,own6.cells.ld,RL.cells,mbl,ZD,ZE,ZF,e6,g0,g2,and_self,Z0,l64,oX6.cells.ld,hwn,hlt];refine out (.exit 0) _ _ _ _ (by intro e;cases e) ?_;simp only[ZG,↓reduceIte,ZA,ZB,ZC,own6.cells.ld,RL.cells,mbl,ZD,ZE,ZF,e6,g0,g2,and_self,Z0,l64,oX6.cells.ld];have hz6:L.vn = .slice (some ⟨b6,0,none⟩) (L.nl.set i (hol x.1 j,Value.slice va (hol x.1 j).fs.length vc)).length c6/\o6=0:=by
    obtain ⟨_,_,_,y1,_⟩:=rn6.setAt (x':=(hol x.1 j,Value.slice va (hol x.1 j).fs.length vc)) (j:=0) (vs:=[]) ox_len hx6 (by simp) (by simp) (by simp);rw[e6] at y1;cases y1;exact ⟨e6,rfl⟩
   obtain ⟨e60,rfl⟩:=hz6;refine XH_row (o:=0+i*7+2) (u:=.agg #[iv 11,iv x.1.n]) (x':=({ hol x.1 j with hd:=(11,x.1.n) },Value.slice va (hol x.1 j).fs.length vc)) (j:=2) ox_len rn6 e60 hx6 rfl (by omega) (by simp [Value.cells]) (by simp [ox,Value.cells]) (by simp [Value.cells,Value.oneCell']) (fun h7 t1 t2 t3=>?_);simp only[ZG,↓reduceIte,ZA,ZB,ZC];have kh7:Keep (fun q=>bk L.vn q\/bk x.2 q) h h7:=kh.trans (t2.mono fun _ e=>.inl e);have hfe:(hol x.1 j).fs=x.1.fs++Zk (x.1.n.toNat-1-x.1.fs.length) (1,0):=by
    have:j=x.1.n.toNat-1-x.1.fs.length:=by omega
    rw[hol,this]
   have hvs:=s.vn.hole v (s.nat hx) hc;rw[<- hfe] at hvs;obtain ⟨L',sL,sS⟩:=s.obj (S':=S.setw x.1.p (11,x.1.n)) (x':=({ hol x.1 j with hd:=(11,x.1.n) },Value.slice va (hol x.1 j).fs.length vc)) ⟨rfl,rfl,rfl,rfl⟩ rfl (by simp [HS.setw]) hx kh7
    (by simp only[Z8,Z1] at t1 ⊢;exact t1) (rf6.keep t2 (fun q e c=>by
     rcases ff q e with y|y
     ·exact kvx y c
     ·exact kz (by omega) c)) (fun q e=>(ff q e).imp id (fun c=>by omega)) hvs (s.vo.same rfl rfl rfl)
   refine hΨ _ _ (fin_ret (rv1 rfl ⟨kh7.mono (fun q e=>?_),by rw[hres];rfl,L',by rw[hres];exact sL,sS⟩))
   rcases e with e|e
   ·show L.cls q≠0;rw[s.cn q e];omega
   ·show L.cls q≠0;rw[hfn.2 q e];omega
  simp only[ZG,↓reduceIte,ZA,ZB,ZC,own6.cells.ld,RL.cells,mbl,ZD,ZE,ZF,e6,g0,g2,and_self,Z0,l64,oX6.cells.ld,hwn,hlt];have kp:Keep (fun _=>False) h6 (h6++[row 36 h6.length [iv 1,iv 0]]):=Keep.push _ _ _;have own7:=own6.keep kp (fun e=>e);have rn7:=rn6.keep kp (fun _ _ e=>e);obtain ⟨b7,o7,c7,e7,hld7⟩:=rn7.rds.cellAt ox_len hx6;rw[e6] at e7;cases e7;have l74:=hld7 4 (by omega);simp only[ox,Z2,Z3] at l74;have hlen:(hol x.1 j).fs.length<=1048576:=by omega
  obtain ⟨vg,h8,p1,p2,p3,p4⟩:=app1 (bytes:=16) (xs:=[iv 1,iv 0]) rf6 rfl rfl (by omega) (by omega);have nbv:∀ q,L.cls q≠0->L.cls q≠10+2*i -> ¬ bk (Value.slice va (hol x.1 j).fs.length vc) q:=fun q e1 e2 c=>by
   rcases ff q c with y|y
   ·exact e2 (hfn.2 q y)
   ·have:=s.lt e1;omega
  have own8:=own6.keep p3 (nbv b (by rw[s.c1];omega) (by rw[s.c1];omega));have rn8:=rn6.keep p3 (fun q c=>nbv q (by rw[s.cn q c];omega) (by rw[s.cn q c];omega));have oX8:=oX6.keep p3 (fun c=>by
   rcases ff _ c with y|y
   ·exact kx (by omega) y
   ·omega)
  obtain ⟨ga,gc,rfl⟩:=row_shape p2.rds;simp only[ZG,↓reduceIte,ZA,ZB,ZC,own7.cells.ld,own8.cells.ld,RL.cells,mbl,ZD,ZE,ZF,e6,g0,g2,and_self,Z0,l74,p1,Z5,Z6,Nat.reduceBEq,Zd,Ze,Za,Zb];have hz6:L.vn = .slice (some ⟨b6,0,none⟩) (L.nl.set i (hol x.1 j,Value.slice va (hol x.1 j).fs.length vc)).length c6/\o6=0:=by
   obtain ⟨_,_,_,y1,_⟩:=rn6.setAt (x':=(hol x.1 j,Value.slice va (hol x.1 j).fs.length vc)) (j:=0) (vs:=[]) ox_len hx6 (by simp) (by simp) (by simp);rw[e6] at y1;cases y1;exact ⟨e6,rfl⟩
  obtain ⟨e60,rfl⟩:=hz6;refine XH_row (o:=0+i*7+4) (u:=.slice ga ((hol x.1 j).fs.length+1) gc) (x':=(hol x.1 (j+1),Value.slice ga ((hol x.1 j).fs.length+1) gc)) (j:=4) ox_len rn8 e60 hx6 rfl (by omega) (by simp [Value.cells]) (by simp [ox,hol,Value.cells]) (by simp [Value.cells,Value.oneCell']) (fun h9 t1 t2 t3=>?_);simp only[ZG,↓reduceIte,ZA,ZB,ZC];have hf1:(hol x.1 (j+1)).fs=(hol x.1 j).fs++[(1,0)]:=by simp [hol,Zh,Zl]
  have hf1l:(hol x.1 (j+1)).fs.length=(hol x.1 j).fs.length+1:=by rw[hf1];simp
  have l68:h6.length<=h8.length:=p3.len;have l66:h3.length<h6.length:=oX6.lt;refine next (j+1) _ _ _ ⟨by omega,?_,oX8.keep t2 (kz (by omega)),Value.slice ga ((hol x.1 j).fs.length+1) gc,?_,?_,?_⟩ ⟨rfl,rfl,rfl,rfl,trivial⟩ (by omega)
  ·refine (kh.trans' p3 (fun c hc e=>?_)).trans (t2.mono fun _ e=>.inl e)
   rcases ff c e with y|y
   ·exact .inr y
   ·omega
  ·simp only[Z8,Z1] at t1 ⊢;exact t1
  ·rw[hf1,ww_app]
   have:(hol x.1 j).fs.length+1=((hol x.1 j).fs++[(1,0)]).length:=by simp
   rw[<- this];refine p2.keep t2 (fun q c e=>?_)
   rcases p4 q c with y|y
   ·rcases ff q y with z|z
    ·exact kvx z e
    ·exact kz (by omega) e
   ·exact kz (by omega) e
  ·intro q c
   rcases p4 q c with y|y
   ·exact ff q y
   ·exact .inr (by omega)
 have d6k:x.1.hd.1=6/\S.ik x.1.hd.2=2:=by
  rw[hdE]
  rcases hc.2 with c|c|c
  ·exact absurd (by rw[hdE];exact c) d9
  ·exact absurd (by rw[hdE];exact c) d10
  ·exact c
 obtain ⟨d6,dk⟩:=d6k;have k6:=kd.k6 (by simp only;rw[<- hdE];exact d6);simp only at k6;rw[<- hdE] at k6;obtain ⟨z1,z2,z3,z4⟩:=k6;obtain ⟨⟨kk,a,f,c⟩,hxi⟩:∃ x0,S.infos[x.1.hd.2.toNat]?=some x0:=⟨_,Zf (show x.1.hd.2.toNat<S.infos.length by omega)⟩
 have hik:S.ik x.1.hd.2=kk:=by rw[HS.ik,hxi];rfl
 obtain ⟨b2,o2,c2,e2,_,hld2⟩:=rds_fld (by omega) Inf.len s5.ri hxi;have hl0:=hld2 0 (by omega);simp only[Inf.cells,Z2,Z3,Option.map_some,Z7] at hl0;have dk2:kk=2:=by rw[<- hik];exact dk
 have d69:¬ (6:Int)=9:=by omega
 have d610:¬ (6:Int)=10:=by omega
 have dgo:True:=trivial
 ·simp only[ZG,↓reduceIte,ZA,ZB,ZC,oX5.cells.ld,mbl,ZD,ZE,ZF,d9,d10,d6,d69,d610,s5.own.cells.ld,RL.cells,e2,z1,z2,and_self,hl0,dk2]
  refine XLo_rule (α:=Nat) (fun j=>[(0,.pointer (some ⟨b,0,none⟩)),(4,iv 0),(5,iv i),(6,.pointer (some ⟨h3.length,0,none⟩))])
   (fun j h'=>x.1.fs.length+j<=x.1.n.toNat-1/\Keep (fun q=>bk L.vn q\/bk x.2 q) h h'/\Own h' h3.length 104 [iv x.1.p,iv x.1.n,iv x.1.hd.1,iv x.1.hd.2,.slice xa x.1.fs.length xc,.bool x.1.mv,iv x.1.to] /\
    ∃ vf,Ows h' 104 7 L.vn (L.nl.set i (hol x.1 j,vf)).length ((L.nl.set i (hol x.1 j,vf)).flatMap ox)/\Ows h' 36 2 vf (hol x.1 j).fs.length (ww (hol x.1 j).fs) /\ ∀ q,bk vf q->bk x.2 q\/h3.length<q)
   (fun j=>x.1.n.toNat-j) 0 ⟨by omega,k05.mono (fun _ e=>e.elim),oX5,x.2,?_,?_,fun q e=>.inl e⟩ ⟨rfl,rfl,rfl,rfl,trivial⟩ ?_
  ·rw[ox_set hx (show ox (hol x.1 0,x.2)=ox x from rfl),Z1];exact s5.rn
  ·have:(hol x.1 0).fs=x.1.fs:=by simp [hol]
   rw[this];exact (s5.fn i x hx).1
  rintro j h6 Ψ2 ⟨i1,kh,oX6,vf,rn6,rf6,ff⟩ next out
  have hx6:=set_at (y:=(hol x.1 j,vf)) hx;have hfl:(hol x.1 j).fs.length=x.1.fs.length+j:=by simp [hol]
  obtain ⟨va,vc,rfl⟩:=row_shape rf6.rds;obtain ⟨b6,o6,c6,e6,hld6⟩:=rn6.rds.cellAt ox_len hx6;have l64:=hld6 4 (by omega);simp only[ox,Z2,Z3] at l64;have own6:=s.own.keep kh kb;have hsl:((L.nl.set i (hol x.1 j,Value.slice va (hol x.1 j).fs.length vc)).length:Int)=L.nl.length:=by rw[Z1]
  have g2:(i:Int)<((L.nl.set i (hol x.1 j,Value.slice va (hol x.1 j).fs.length vc)).length:Int):=by omega
  by_cases hlt:((hol x.1 j).fs.length:Int)<x.1.n-1
  case neg =>
   simp only[ZG,↓reduceIte,ZA,ZB,ZC,own6.cells.ld,RL.cells,mbl,ZD,ZE,ZF,e6,g0,g2,and_self,Z0,l64,oX6.cells.ld,hwn,hlt];refine out (.exit 0) _ _ _ _ (by intro e;cases e) ?_;simp only[ZG,↓reduceIte,ZA,ZB,ZC,own6.cells.ld,RL.cells,mbl,ZD,ZE,ZF,e6,g0,g2,and_self,Z0,l64,oX6.cells.ld];have hz6:L.vn = .slice (some ⟨b6,0,none⟩) (L.nl.set i (hol x.1 j,Value.slice va (hol x.1 j).fs.length vc)).length c6/\o6=0:=by
    obtain ⟨_,_,_,y1,_⟩:=rn6.setAt (x':=(hol x.1 j,Value.slice va (hol x.1 j).fs.length vc)) (j:=0) (vs:=[]) ox_len hx6 (by simp) (by simp) (by simp);rw[e6] at y1;cases y1;exact ⟨e6,rfl⟩
   obtain ⟨e60,rfl⟩:=hz6;refine XH_row (o:=0+i*7+2) (u:=.agg #[iv 11,iv x.1.n]) (x':=({ hol x.1 j with hd:=(11,x.1.n) },Value.slice va (hol x.1 j).fs.length vc)) (j:=2) ox_len rn6 e60 hx6 rfl (by omega) (by simp [Value.cells]) (by simp [ox,Value.cells]) (by simp [Value.cells,Value.oneCell']) (fun h7 t1 t2 t3=>?_);simp only[ZG,↓reduceIte,ZA,ZB,ZC];have kh7:Keep (fun q=>bk L.vn q\/bk x.2 q) h h7:=kh.trans (t2.mono fun _ e=>.inl e);have hfe:(hol x.1 j).fs=x.1.fs++Zk (x.1.n.toNat-1-x.1.fs.length) (1,0):=by
    have:j=x.1.n.toNat-1-x.1.fs.length:=by omega
    rw[hol,this]
   have hvs:=s.vn.hole v (s.nat hx) hc;rw[<- hfe] at hvs;obtain ⟨L',sL,sS⟩:=s.obj (S':=S.setw x.1.p (11,x.1.n)) (x':=({ hol x.1 j with hd:=(11,x.1.n) },Value.slice va (hol x.1 j).fs.length vc)) ⟨rfl,rfl,rfl,rfl⟩ rfl (by simp [HS.setw]) hx kh7
    (by simp only[Z8,Z1] at t1 ⊢;exact t1) (rf6.keep t2 (fun q e c=>by
     rcases ff q e with y|y
     ·exact kvx y c
     ·exact kz (by omega) c)) (fun q e=>(ff q e).imp id (fun c=>by omega)) hvs (s.vo.same rfl rfl rfl)
   refine hΨ _ _ (fin_ret (rv1 rfl ⟨kh7.mono (fun q e=>?_),by rw[hres];rfl,L',by rw[hres];exact sL,sS⟩))
   rcases e with e|e
   ·show L.cls q≠0;rw[s.cn q e];omega
   ·show L.cls q≠0;rw[hfn.2 q e];omega
  simp only[ZG,↓reduceIte,ZA,ZB,ZC,own6.cells.ld,RL.cells,mbl,ZD,ZE,ZF,e6,g0,g2,and_self,Z0,l64,oX6.cells.ld,hwn,hlt];have kp:Keep (fun _=>False) h6 (h6++[row 36 h6.length [iv 1,iv 0]]):=Keep.push _ _ _;have own7:=own6.keep kp (fun e=>e);have rn7:=rn6.keep kp (fun _ _ e=>e);obtain ⟨b7,o7,c7,e7,hld7⟩:=rn7.rds.cellAt ox_len hx6;rw[e6] at e7;cases e7;have l74:=hld7 4 (by omega);simp only[ox,Z2,Z3] at l74;have hlen:(hol x.1 j).fs.length<=1048576:=by omega
  obtain ⟨vg,h8,p1,p2,p3,p4⟩:=app1 (bytes:=16) (xs:=[iv 1,iv 0]) rf6 rfl rfl (by omega) (by omega);have nbv:∀ q,L.cls q≠0->L.cls q≠10+2*i -> ¬ bk (Value.slice va (hol x.1 j).fs.length vc) q:=fun q e1 e2 c=>by
   rcases ff q c with y|y
   ·exact e2 (hfn.2 q y)
   ·have:=s.lt e1;omega
  have own8:=own6.keep p3 (nbv b (by rw[s.c1];omega) (by rw[s.c1];omega));have rn8:=rn6.keep p3 (fun q c=>nbv q (by rw[s.cn q c];omega) (by rw[s.cn q c];omega));have oX8:=oX6.keep p3 (fun c=>by
   rcases ff _ c with y|y
   ·exact kx (by omega) y
   ·omega)
  obtain ⟨ga,gc,rfl⟩:=row_shape p2.rds;simp only[ZG,↓reduceIte,ZA,ZB,ZC,own7.cells.ld,own8.cells.ld,RL.cells,mbl,ZD,ZE,ZF,e6,g0,g2,and_self,Z0,l74,p1,Z5,Z6,Nat.reduceBEq,Zd,Ze,Za,Zb];have hz6:L.vn = .slice (some ⟨b6,0,none⟩) (L.nl.set i (hol x.1 j,Value.slice va (hol x.1 j).fs.length vc)).length c6/\o6=0:=by
   obtain ⟨_,_,_,y1,_⟩:=rn6.setAt (x':=(hol x.1 j,Value.slice va (hol x.1 j).fs.length vc)) (j:=0) (vs:=[]) ox_len hx6 (by simp) (by simp) (by simp);rw[e6] at y1;cases y1;exact ⟨e6,rfl⟩
  obtain ⟨e60,rfl⟩:=hz6;refine XH_row (o:=0+i*7+4) (u:=.slice ga ((hol x.1 j).fs.length+1) gc) (x':=(hol x.1 (j+1),Value.slice ga ((hol x.1 j).fs.length+1) gc)) (j:=4) ox_len rn8 e60 hx6 rfl (by omega) (by simp [Value.cells]) (by simp [ox,hol,Value.cells]) (by simp [Value.cells,Value.oneCell']) (fun h9 t1 t2 t3=>?_);simp only[ZG,↓reduceIte,ZA,ZB,ZC];have hf1:(hol x.1 (j+1)).fs=(hol x.1 j).fs++[(1,0)]:=by simp [hol,Zh,Zl]
  have hf1l:(hol x.1 (j+1)).fs.length=(hol x.1 j).fs.length+1:=by rw[hf1];simp
  have l68:h6.length<=h8.length:=p3.len;have l66:h3.length<h6.length:=oX6.lt;refine next (j+1) _ _ _ ⟨by omega,?_,oX8.keep t2 (kz (by omega)),Value.slice ga ((hol x.1 j).fs.length+1) gc,?_,?_,?_⟩ ⟨rfl,rfl,rfl,rfl,trivial⟩ (by omega)
  ·refine (kh.trans' p3 (fun c hc e=>?_)).trans (t2.mono fun _ e=>.inl e)
   rcases ff c e with y|y
   ·exact .inr y
   ·omega
  ·simp only[Z8,Z1] at t1 ⊢;exact t1
  ·rw[hf1,ww_app]
   have:(hol x.1 j).fs.length+1=((hol x.1 j).fs++[(1,0)]).length:=by simp
   rw[<- this];refine p2.keep t2 (fun q c e=>?_)
   rcases p4 q c with y|y
   ·rcases ff q y with z|z
    ·exact kvx z e
    ·exact kz (by omega) e
   ·exact kz (by omega) e
  ·intro q c
   rcases p4 q c with y|y
   ·exact ff q y
   ·exact .inr (by omega)
end
end Go.S18

namespace Go.S18
open Go Go.Eng Go.Proofs Go.Chk
section
variable {h:AH} {b:Nat} {L:RL} {S:HS}
set_option maxHeartbeats 8000000 in
theorem rBecome_ok (s:RH h b L S) (v:Inv S) (w x:Int × Int) :
 Gets Try.prog 58 [.pointer (some ⟨b,0,none⟩),wv w,wv x] h (fun res h'=>Keep (MineR L) h h' /\
  ∃ y,(S.lies w/\(S.hd w).1=11/\S.sound x -> ∃ n,S.fol n x=some y)/\res = .ret (iv (S.become w x y).1) /\ ∃ L',RH h' b L' (S.become w x y).2/\SameR h.length L L'):=by
 refine Gets.of (keep:=false) hP (draw_ok hM) k58 (by rfl) (fun Ψ hΨ=>?_);have oW:=Own.new h 36 h.length [iv w.1,iv w.2];have k1:Keep (fun _=>False) h (h++[row 36 h.length [iv w.1,iv w.2]]):=Keep.push _ _ _;have l1:(h++[row 36 h.length [iv w.1,iv w.2]]).length=h.length+1:=by simp
 simp only[ZG,↓reduceIte,ZA,ZB,ZC,r58,YE,YC,YO,YA,YL,YX,YS,Ya,Yb,Yl,Yf,Yg,Yi,Ym,Yk,Yt,Yn,Yz,Yp,Yq,Yd,wv,mbl,ZD,ZE,ZF];generalize h++[row 36 h.length [iv w.1,iv w.2]]=h1 at oW k1 l1 ⊢;have oX:=Own.new h1 36 h1.length [iv x.1,iv x.2];have k2:Keep (fun _=>False) h1 (h1++[row 36 h1.length [iv x.1,iv x.2]]):=Keep.push _ _ _;have l2:(h1++[row 36 h1.length [iv x.1,iv x.2]]).length=h.length+2:=by simp [l1]
 generalize h1++[row 36 h1.length [iv x.1,iv x.2]]=h2 at oX k2 l2 ⊢;have oW2:=oW.keep k2 (fun e=>e);have k02:=k1.trans k2;simp only[ZG,↓reduceIte,ZA,ZB,ZC,oW2.cells.lds 0 2 (by simp),mbl,ZD,ZE,ZF];refine XX_of (rrow_ok (s.keepF k02) v w) (fun res h3 hle hn=>?_);obtain ⟨k3,rfl⟩:=hn;refine .ret ?_;have k03:=k02.trans k3;have oX3:=oX.keep k3 (fun e=>e);have oW3:=oW2.keep k3 (fun e=>e);have s3:=s.keepF k03;have nob:∀ {h':AH},Keep (fun _=>False) h h' -> ¬ (S.lies w/\(S.hd w).1=11/\S.sound x)->(Keep (MineR L) h h' /\
  ∃ y,(S.lies w/\(S.hd w).1=11/\S.sound x -> ∃ n,S.fol n x=some y)/\Res.ret (iv 1) = .ret (iv (S.become w x y).1) /\ ∃ L',RH h' b L' (S.become w x y).2/\SameR h.length L L'):=fun kk e=>by
  have hb:S.become w x w=(1,S):=by rw[HS.become,if_neg (fun c=>c.2.2.2 rfl)]
  exact ⟨kk.mono (fun _ e=>e.elim),w,fun c=>absurd c e,by rw[hb],by rw[hb];exact ⟨L,s.keepF kk,SameR.refl _ _⟩⟩
 rcases row_lies s3 v w with ⟨e,hl⟩|⟨i,z,hz,hp,hw4,e,hl,hg⟩
 ·have n1:(-1:Int)<0:=by decide
  simp only[ZG,↓reduceIte,ZA,ZB,ZC,e,n1,mbl,ZD,ZE,ZF];exact hΨ _ _ (fin_ret (rv1 rfl (nob k03 (fun c=>hl c.1))))
 have n1:¬ (i:Int)<0:=by omega
 have g0:(0:Int)<=(i:Int):=by omega
 have hi:i<L.nl.length:=(Z4.1 hz).1;have g1:(i:Int)<(L.nl.length:Int):=by omega
 obtain ⟨wa,wb⟩:=w;simp only at hp hw4;subst hp;subst hw4;obtain ⟨f1,f2,f3,f4,f5⟩:=s.flen v hz;have hdE:=s.head hz;have hfn:=s.fn i z hz;obtain ⟨b1,o1,c1,e1,hld⟩:=s3.rn.rds.cellAt ox_len hz;have l2c:=hld 2 (by omega);simp only[ox,Z2,Z3] at l2c;have hhd:(S.hd (4,z.1.p)).1=z.1.hd.1:=by rw[hdE];rfl
 by_cases d11:z.1.hd.1=11
 case neg =>
  simp only[ZG,↓reduceIte,ZA,ZB,ZC,e,n1,mbl,ZD,ZE,ZF,s3.own.cells.ld,RL.cells,e1,g0,g1,and_self,Z0,l2c,d11];exact hΨ _ _ (fin_ret (rv1 rfl (nob k03 (fun c=>d11 (by rw[<- hhd];exact c.2.1)))))
 simp only[ZG,↓reduceIte,ZA,ZB,ZC,e,n1,mbl,ZD,ZE,ZF,s3.own.cells.ld,RL.cells,e1,g0,g1,and_self,Z0,l2c,d11,oX3.cells.lds 0 2 (by simp)];refine XX_of (rSound_ok s3 v x) (fun res h4 hle4 hn=>?_);obtain ⟨k4,rfl⟩:=hn;refine .ret ?_;have k04:=k03.trans k4;have s4:=s.keepF k04;have oX4:=oX3.keep k4 (fun e=>e);have oW4:=oW3.keep k4 (fun e=>e)
 by_cases hs:S.sound x
 case neg =>
  simp only[ZG,↓reduceIte,ZA,ZB,ZC,hs,mbl,ZD,ZE,ZF];exact hΨ _ _ (fin_ret (rv1 rfl (nob k04 (fun c=>hs c.2.2))))
 simp only[ZG,↓reduceIte,ZA,ZB,ZC,hs,mbl,ZD,ZE,ZF,oX4.cells.lds 0 2 (by simp)];refine XX_of (rFollow_ok s4 v x) (fun res h5 hle5 hn=>?_);obtain ⟨k5,hn⟩:=hn;rw[if_pos hs] at hn;obtain ⟨m,y,hy,rfl⟩:=hn;refine .ret ?_;have k05:=k04.trans k5;have oW5:=oW4.keep k5 (fun e=>e);have oX5:=oX4.keep k5 (fun e=>e);have oD:=Own.new h5 36 h5.length [iv 0,iv 0];have k6:Keep (fun _=>False) h5 (h5++[row 36 h5.length [iv 0,iv 0]]):=Keep.push _ _ _;simp only[ZG,↓reduceIte,ZA,ZB,ZC,wv,mbl,ZD,ZE,ZF];refine XH_own oD rfl (by simp [Value.cells]) rfl (fun h6 q1 q2 q3=>?_);have oD6:Own h6 h5.length 36 [iv y.1,iv y.2]:=by simpa [Value.cells] using q1
 have k56:Keep (fun _=>False) h5 h6:=k6.trans' q2 (fun c hc e=>by omega);have k06:=k05.trans k56;have oW6:=oW5.keep k56 (fun e=>e);have oX6:=oX5.keep k56 (fun e=>e);have s6:=s.keepF k06
 by_cases hyw:y=(4,z.1.p)
 ·have hyw2:y.1=4/\y.2=z.1.p:=by rw[hyw];exact ⟨rfl,rfl⟩
  simp only[ZG,↓reduceIte,ZA,ZB,ZC,oD6.cells.lds 0 2 (by simp),oW6.cells.lds 0 2 (by simp),mbl,ZD,ZE,ZF,ceq_w,hyw2];refine hΨ _ _ (fin_ret (rv1 rfl ⟨k06.mono (fun _ e=>e.elim),y,fun _=>⟨m,hy⟩,?_,?_⟩))
  ·rw[HS.become,if_neg (fun c=>c.2.2.2 hyw)];rfl
  ·rw[HS.become,if_neg (fun c=>c.2.2.2 hyw)];exact ⟨L,s6,SameR.refl _ _⟩
 have hyw2:¬ (y.1=4/\y.2=z.1.p):=fun c=>hyw (Prod.ext c.1 c.2)
 simp only[ZG,↓reduceIte,ZA,ZB,ZC,oD6.cells.lds 0 2 (by simp),oW6.cells.lds 0 2 (by simp),mbl,ZD,ZE,ZF,ceq_w,hyw2,s6.own.cells.ld,RL.cells,e1,g0,g1,and_self,Z0];have hz6:L.vn = .slice (some ⟨b1,0,none⟩) L.nl.length c1/\o1=0:=by
  obtain ⟨_,_,_,y1,_⟩:=s6.rn.setAt (x':=z) (j:=0) (vs:=[]) ox_len hz (by simp) (by simp) (by simp);rw[e1] at y1;cases y1;exact ⟨e1,rfl⟩
 obtain ⟨e60,rfl⟩:=hz6;refine XH_row (o:=0+i*7+2) (u:=.agg #[iv 12,iv 0]) (x':=({ z.1 with hd:=(12,0) },z.2)) (j:=2) ox_len s6.rn e60 hz rfl (by omega) (by simp [Value.cells]) (by simp [ox,Value.cells]) (by simp [Value.cells,Value.oneCell']) (fun h7 t1 t2 t3=>?_);have kz:∀ {q:Nat},h.length<=q -> ¬ bk L.vn q:=fun {q} hq e=>by have:=s.lt (q:=q) (by rw[s.cn q e];omega);omega
 have kb:¬ bk L.vn b:=fun c=>by have:=s.cn b c;rw[s.c1] at this;omega
 have l16:h1.length<h6.length:=oX6.lt;have oX7:=oX6.keep t2 (kz (by omega));have own7:=s6.own.keep t2 kb;have k8:Keep (fun _=>False) h7 (h7++[row 36 h7.length [iv x.1,iv x.2]]):=Keep.push _ _ _;have own8:=own7.keep k8 (fun e=>e);have t18:=t1.keep k8 (fun _ _ e=>e);have hl2:L.vn = .slice (some ⟨b1,0,none⟩) (L.nl.set i (({ z.1 with hd:=(12,0) }:Ob),z.2)).length c1:=by rw[Z1];exact e60
 simp only[ZG,↓reduceIte,ZA,ZB,ZC,own7.cells.ld,own8.cells.ld,RL.cells,e1,mbl,ZD,ZE,ZF,oX7.cells.lds 0 2 (by simp),g0,g1,and_self,Z0,Z5,Z6,Nat.reduceBEq,Zd,Ze,Za,Zb];refine XH_row (o:=i*7+4) (u:=.slice (some ⟨h7.length,0,none⟩) 1 1) (x':=(({ z.1 with hd:=(12,0),fs:=[x] }:Ob),.slice (some ⟨h7.length,0,none⟩) 1 1)) (j:=4) ox_len (by rw[Z1];exact t18) hl2 (set_at hz) rfl rfl (by simp [Value.cells]) (by simp [ox,Value.cells]) (by simp [Value.cells,Value.oneCell']) (fun h9 t4 t5 t6=>?_);simp only[ZG,↓reduceIte,ZA,ZB,ZC];have l67:h.length<h7.length:=by omega
 have kh9:Keep (fun q=>bk L.vn q\/bk z.2 q) h h9:=(((k06.mono fun _ e=>e.elim).trans (t2.mono fun _ e=>.inl e)).trans (k8.mono fun _ e=>e.elim)).trans (t5.mono fun _ e=>.inl e);have oF:=(Own.new h7 36 h7.length [iv x.1,iv x.2]).keep t5 (kz (by omega));have rf:Ows h9 36 2 (.slice (some ⟨h7.length,0,none⟩) 1 1) 1 (ww [x]):=.mk oF rfl (by omega) rfl;have hn2:=(v.kn _ (mget_in hg)).k11 (by simp only;rw[<- hdE];exact d11);simp only at hn2;have hvs:=s.vn.bec v (s.nat hz) hn2.2 x;have hbc:S.become (4,z.1.p) x y=(0,S.bec (4,z.1.p) x):=by
  rcases become_cases v (4,z.1.p) x y with ⟨_,c⟩|⟨_,_,_,_,_,_,_,c⟩
  ·exact absurd ⟨hl,by rw[<- hdE];exact d11,hs,hyw⟩ c
  ·exact c
 obtain ⟨L',sL,sS⟩:=s.obj (S':=S.bec (4,z.1.p) x) (x':=(({ z.1 with hd:=(12,0),fs:=[x] }:Ob),.slice (some ⟨h7.length,0,none⟩) 1 1)) ⟨rfl,rfl,rfl,rfl⟩ rfl (by simp [HS.bec,HS.setw]) hz kh9
  (by simp only[Z8,Z1] at t4 ⊢;exact t4) rf (fun q e=>.inr (by have:q=h7.length:=e;omega)) hvs (s.vo.same rfl rfl rfl)
 refine hΨ _ _ (fin_ret (rv1 rfl ⟨kh9.mono (fun q e=>?_),y,fun _=>⟨m,hy⟩,by rw[hbc];rfl,L',by rw[hbc];exact sL,sS⟩))
 rcases e with e|e
 ·show L.cls q≠0;rw[s.cn q e];omega
 ·show L.cls q≠0;rw[hfn.2 q e];omega
end
end Go.S18

namespace Go.S18
open Go Go.Eng Go.Proofs Go.Chk
section
variable {h:AH} {b:Nat} {L:RL} {S:HS}
def okg (S:HS) (ys:List (Int × Int)) (i:Nat):Bool:=decide ((ys.length:Int)=S.globals.length /\ ∀ y∈ys.take i,S.sound y)
theorem okg_succ {ys:List (Int × Int)} {i:Nat} {y:Int × Int} (hy:ys[i]?=some y):okg S ys (i+1)=(okg S ys i && decide (S.sound y)):=by
 unfold okg;have e:ys.take (i+1)=ys.take i++[y]:=by
  obtain ⟨hi,e⟩:=Z4.1 hy;rw[List.take_succ_eq_append_getElem hi,e]
 rw[e,<- Bool.decide_and];refine decide_eq_decide.2 ⟨fun ⟨a,c⟩=>⟨⟨a,fun z hz=>c z (List.mem_append_left _ hz)⟩,c y (List.mem_append_right _ (Zn.2 rfl))⟩,fun ⟨⟨a,c⟩,d⟩=>⟨a,fun z hz=>?_⟩⟩
 rcases List.mem_append.1 hz with hz|hz
 ·exact c z hz
 ·rw[Zn] at hz;subst hz;exact d
set_option maxHeartbeats 4000000 in
theorem rSetGlobals_ok (s:RH h b L S) (v:Inv S) {u:Value} {ys:List (Int × Int)} (hu:Rds h 2 u ys.length (ww ys)) (hm:ys.length<=1048576000) :
 Gets Try.prog 64 [.pointer (some ⟨b,0,none⟩),u] h (fun res h'=>Keep (MineR L) h h'/\res = .ret (iv (S.setg ys).1) /\ ∃ L',RH h' b L' (S.setg ys).2/\SameR h.length L L'):=by
 refine Gets.of (keep:=false) hP (draw_ok hM) k64 (by rfl) (fun Ψ hΨ=>?_);obtain ⟨ua,uc,rfl⟩:=row_shape hu;obtain ⟨ga,gc,hgv⟩:=row_shape s.rg.rds;have hok0:okg S ys 0=decide ((ys.length:Int)=S.globals.length):=by unfold okg;simp
 simp only[ZG,↓reduceIte,ZA,ZB,ZC,r64,YE,YC,YO,YA,YL,YX,YS,Ya,Yb,Yl,Yf,Yg,Yi,Ym,Yk,Yt,Yn,Yz,Yp,Yq,Yd,s.own.cells.ld,RL.cells,mbl,ZD,ZE,ZF,hgv];refine XLo_rule (α:=Nat) (fun i=>[(0,.pointer (some ⟨b,0,none⟩)),(1,.slice ua ys.length uc),(4,iv 0),(5,.bool (okg S ys i)),(6,iv i)])
  (fun i h'=>i<=ys.length/\Keep (fun _=>False) h h') (fun i=>ys.length-i) 0 ⟨Nat.zero_le _,.refl _ _⟩ ⟨rfl,rfl,rfl,by rw[hok0];rfl,rfl,trivial⟩ ?_
 rintro i h4 Ψ2 ⟨hi,k4⟩ next out
 have s4:=s.keepF k4;have hu4:=hu.keep k4 (fun _ _ e=>e)
 by_cases hlt:(i:Int)<(ys.length:Int)
 ·have hil:i<ys.length:=by omega
  have g0:(0:Int)<=(i:Int):=by omega
  have hy:ys[i]?=some ys[i]:=Zf hil;obtain ⟨b1,o1,c1,e1,_,hld⟩:=rds_str (by omega) wc_len hu4 hy;cases e1;rw[ns_wc] at hld;have hw:IntKind.i64.wrap ((i:Int)+1)=((i+1:Nat):Int):=by rw[i64w (by omega) (by omega)];omega
  have hsf:=okg_succ (S:=S) (ys:=ys) hy;cases ho:okg S ys i with
  | false =>
    rw[ho,Bool.false_and] at hsf;simp only[ZG,↓reduceIte,ZA,ZB,ZC,hlt,ho,mbl,ZD,ZE,ZF,hw];exact next (i+1) _ _ _ ⟨by omega,k4⟩ ⟨rfl,rfl,rfl,by rw[hsf];rfl,rfl,trivial⟩ (by omega)
  | true =>
    rw[ho,Bool.true_and] at hsf;simp only[ZG,↓reduceIte,ZA,ZB,ZC,hlt,ho,g0,and_self,Z0,hld,mbl,ZD,ZE,ZF];refine XX_of (rSound_ok s4 v ys[i]) (fun res h5 hle5 hn=>?_);obtain ⟨k5,rfl⟩:=hn;refine .ret ?_;simp only[ZG,↓reduceIte,ZA,ZB,ZC,mbl,ZD,ZE,ZF,hw];exact next (i+1) _ _ _ ⟨by omega,k4.trans k5⟩ ⟨rfl,rfl,rfl,by rw[hsf];rfl,rfl,trivial⟩ (by omega)
 have hie:i=ys.length:=by omega
 subst hie;have hoe:okg S ys ys.length=decide ((ys.length:Int)=S.globals.length /\ ∀ y∈ys,S.sound y):=by unfold okg;rw[List.take_length]
 simp only[ZG,↓reduceIte,ZA,ZB,ZC,hlt];refine out (.exit 0) _ _ _ _ (by intro e;cases e) ?_
 by_cases hc:(ys.length:Int)=S.globals.length /\ ∀ y∈ys,S.sound y
 case neg =>
  rw[decide_eq_false hc] at hoe;simp only[ZG,↓reduceIte,ZA,ZB,ZC,hoe,mbl,ZD,ZE,ZF];refine hΨ _ _ (fin_ret (rv1 rfl ⟨k4.mono (fun _ e=>e.elim),?_,?_⟩))
  ·rw[HS.setg,if_neg hc];rfl
  ·rw[HS.setg,if_neg hc];exact ⟨L,s4,SameR.refl _ _⟩
 rw[decide_eq_true hc] at hoe;obtain ⟨vg,h6,a1,a2,a3,a4⟩:=copy_row hu4 (by omega);obtain ⟨va,vc,rfl⟩:=row_shape a2.rds;have s6:=s4.keepF a3;simp only[ZG,↓reduceIte,ZA,ZB,ZC,hoe,mbl,ZD,ZE,ZF,a1];refine XH_own s6.own rfl (by simp [Value.cells,RL.cells]) rfl (fun h7 q1 q2 q3=>?_);have o7:Own h7 b 88 [L.vi,L.vc,L.vt,L.vp,iv L.main,L.vk,iv S.size,iv S.now.length,L.vn,L.vo,.slice va ys.length vc]:=by simpa [Value.cells,RL.cells] using q1
 simp only[ZG,↓reduceIte,ZA,ZB,ZC];have hb:b<h.length:=s.lt (by rw[s.c1];omega);have l4:=k4.len;have fr:∀ q,bk (Value.slice va ys.length vc) q->L.cls q=0:=fun q e=>s.c0 q (by have:=a4 q e;omega)
 obtain ⟨L',sL,sS⟩:=s6.glob q2 o7 (a2.keep q2 (fun q e c=>by have:=a4 q e;omega)) fr (n:=h.length) (by have:=a3.len;omega) (fun q e=>by have:=a4 q e;omega);refine hΨ _ _ (fin_ret (rv1 rfl ⟨?_,?_,L',?_,sS⟩))
 ·exact (((k4.trans a3).mono fun _ e=>e.elim).trans (q2.mono fun q e=>by subst e;show L.cls q≠0;rw[s.c1];omega))
 ·rw[HS.setg,if_pos hc];rfl
 ·rw[HS.setg,if_pos hc];exact sL
end
end Go.S18

namespace Go.S18
open Go Go.Eng Go.Proofs Go.Chk
section
variable {h:AH} {b:Nat} {L:RL} {S:HS}
set_option maxHeartbeats 8000000 in
theorem rMove_ok (s:RH h b L S) (v:Inv S) (w:Int × Int) {n:Nat} {r:(Int × Int) × Int × HS} (hmv:S.mov n w=some r) :
 Gets Try.prog 62 [.pointer (some ⟨b,0,none⟩),wv w] h (fun res h'=>Keep (MineR L) h h'/\res = .ret (.tuple #[wv r.1,iv r.2.1]) /\ ∃ L',RH h' b L' r.2.2/\SameR h.length L L'):=by
 refine Gets.of (keep:=false) hP (draw_ok hM) k62 (by rfl) (fun Ψ hΨ=>?_);have oW:=Own.new h 36 h.length [iv w.1,iv w.2];have k1:Keep (fun _=>False) h (h++[row 36 h.length [iv w.1,iv w.2]]):=Keep.push _ _ _;have l1:(h++[row 36 h.length [iv w.1,iv w.2]]).length=h.length+1:=by simp
 simp only[ZG,↓reduceIte,ZA,ZB,ZC,r62,YE,YC,YO,YA,YL,YX,YS,Ya,Yb,Yl,Yf,Yg,Yi,Ym,Yk,Yt,Yn,Yz,Yp,Yq,Yd,wv,mbl,ZD,ZE,ZF];generalize h++[row 36 h.length [iv w.1,iv w.2]]=h1 at oW k1 l1 ⊢;have oR:=Own.new h1 36 h1.length [iv 0,iv 0];have k2:Keep (fun _=>False) h1 (h1++[row 36 h1.length [iv 0,iv 0]]):=Keep.push _ _ _;have l2:(h1++[row 36 h1.length [iv 0,iv 0]]).length=h.length+2:=by simp [l1]
 generalize h1++[row 36 h1.length [iv 0,iv 0]]=h2 at oR k2 l2 ⊢;have oW2:=oW.keep k2 (fun e=>e);have k02:=k1.trans k2;have kz:∀ {X:Value},(∀ q,bk X q->L.cls q≠0) -> ∀ {q:Nat},h.length<=q -> ¬ bk X q:=fun {X} hX {q} hq e=>by have:=s.lt (hX q e);omega
 have hb:b<h.length:=s.lt (by rw[s.c1];omega);refine XLo_rule (α:=Nat × (Int × Int)) (fun a=>[(0,.pointer (some ⟨b,0,none⟩)),(3,.pointer (some ⟨h.length,0,none⟩)),(4,.pointer (some ⟨h1.length,0,none⟩)),(5,iv 0)])
  (fun a h'=>S.mov a.1 a.2=some r/\Keep (fun q=>q=h.length) h2 h'/\Own h' h.length 36 [iv a.2.1,iv a.2.2]) (fun a=>a.1) (n,w) ⟨hmv,.refl _ _,oW2⟩ ⟨rfl,rfl,rfl,rfl,trivial⟩ ?_
 rintro ⟨m,c1,c2⟩ h4 Ψ2 ⟨i1,kp,oC⟩ next out
 simp only at i1 oC;have k04:Keep (fun _=>False) h h4:=k02.trans' kp (fun c hc e=>by omega);have oR4:=oR.keep kp (fun e=>by omega);have hl4:h.length+2<=h4.length:=by have:=kp.len;omega
 have s4:=s.keepF k04;cases m with
 | zero=>cases i1
 | succ m =>
 rw[HS.mov] at i1;simp only[ZG,↓reduceIte,ZA,ZB,ZC,oC.cells.lds 0 2 (by simp),mbl,ZD,ZE,ZF];refine XX_of (rplain_ok s4 (c1,c2)) (fun res h5 hle5 hn=>?_);obtain ⟨k5,rfl⟩:=hn;refine .ret ?_;have oC5:=oC.keep k5 (fun e=>e);have oR5:=oR4.keep k5 (fun e=>e);have k05:=k04.trans k5;have s5:=s.keepF k05
 by_cases hpl:S.plain (c1,c2)
 ·rw[if_pos hpl] at i1
  have hr:=Z9.inj i1;simp only[ZG,↓reduceIte,ZA,ZB,ZC,hpl,mbl,ZD,ZE,ZF,oC5.cells.lds 0 2 (by simp)];refine XH_own oR5 rfl (by simp [Value.cells]) rfl (fun hz t1 t2 t3=>?_);simp only[ZG,↓reduceIte,ZA,ZB,ZC];refine out .ret _ _ _ _ (by intro e;cases e) ?_;simp only[ZG,↓reduceIte,ZA,ZB,ZC];have kF:Keep (fun _=>False) h hz:=k05.trans' t2 (fun c hc e=>by omega);refine hΨ _ _ (fin_ret (rvw rfl (a1:=iv r.1.1) (a2:=iv r.1.2) (v:=iv r.2.1) (by rw[<- hr];simpa [Value.cells] using t1) (by rw[<- hr];rfl) ⟨kF.mono (fun _ e=>e.elim),rfl,L,by rw[<- hr];exact s.keepF kF,SameR.refl _ _⟩))
 rw[if_neg hpl] at i1
 by_cases d4:c1=4
 case neg =>
  rw[if_neg (fun c=>d4 c.1)] at i1;have hr:=Z9.inj i1;simp only[ZG,↓reduceIte,ZA,ZB,ZC,hpl,mbl,ZD,ZE,ZF,oC5.cells.ld,d4];refine XH_own oR5 rfl (by simp [Value.cells]) rfl (fun hz t1 t2 t3=>?_);simp only[ZG,↓reduceIte,ZA,ZB,ZC];refine out .ret _ _ _ _ (by intro e;cases e) ?_;simp only[ZG,↓reduceIte,ZA,ZB,ZC];have kF:Keep (fun _=>False) h hz:=k05.trans' t2 (fun c hc e=>by omega);refine hΨ _ _ (fin_ret (rvw rfl (a1:=iv r.1.1) (a2:=iv r.1.2) (v:=iv r.2.1) (by rw[<- hr];simpa [Value.cells] using t1) (by rw[<- hr];rfl) ⟨kF.mono (fun _ e=>e.elim),rfl,L,by rw[<- hr];exact s.keepF kF,SameR.refl _ _⟩))
 subst d4;simp only[ZG,↓reduceIte,ZA,ZB,ZC,hpl,mbl,ZD,ZE,ZF,oC5.cells.ld,s5.own.cells.ld,RL.cells];refine XX_val (find_ok s5.ro.rds (by have:=s.few v;omega) (s.to v) c2) ?_
 rcases s.findO v c2 with ⟨hf1,hf2⟩|⟨i,x,hx,hp,hf3,hg⟩
 ·have n1:(-1:Int)<0:=by decide
  rw[if_neg (fun c=>by rw[hf2] at c;exact absurd c.2 (by simp))] at i1;have hr:=Z9.inj i1;simp only[ZG,↓reduceIte,ZA,ZB,ZC,hf1,n1,mbl,ZD,ZE,ZF];refine XH_own oR5 rfl (by simp [Value.cells]) rfl (fun hz t1 t2 t3=>?_);simp only[ZG,↓reduceIte,ZA,ZB,ZC];refine out .ret _ _ _ _ (by intro e;cases e) ?_;simp only[ZG,↓reduceIte,ZA,ZB,ZC];have kF:Keep (fun _=>False) h hz:=k05.trans' t2 (fun c hc e=>by omega);refine hΨ _ _ (fin_ret (rvw rfl (a1:=iv r.1.1) (a2:=iv r.1.2) (v:=iv r.2.1) (by rw[<- hr];simpa [Value.cells] using t1) (by rw[<- hr];rfl) ⟨kF.mono (fun _ e=>e.elim),rfl,L,by rw[<- hr];exact s.keepF kF,SameR.refl _ _⟩))
 rw[if_pos ⟨rfl,by simp only;rw[hg];rfl⟩] at i1;subst hp;have n1:¬ (i:Int)<0:=by omega
 have g0:(0:Int)<=(i:Int):=by omega
 have g1:(i:Int)<(L.ol.length:Int):=by have:=(Z4.1 hx).1;omega
 have hfo:=s.fo i x hx;obtain ⟨b1,o1,cc1,e1,hld⟩:=s5.ro.rds.cellsAt ox_len hx (j:=0) (m:=7) (by omega);simp only[ox,Zi,Zc,Zj,Z7] at hld;obtain ⟨xa,xc,hxv⟩:=row_shape hfo.1.rds;rw[hxv] at hld;have oX:=Own.new h5 104 h5.length [iv 0,iv 0,iv 0,iv 0,.slice none 0 0,.bool false,iv 0];have k6:Keep (fun _=>False) h5 (h5++[row 104 h5.length [iv 0,iv 0,iv 0,iv 0,.slice none 0 0,.bool false,iv 0]]):=Keep.push _ _ _;simp only[ZG,↓reduceIte,ZA,ZB,ZC,hf3,n1,mbl,ZD,ZE,ZF,s5.own.cells.ld,RL.cells,e1,g0,g1,and_self,Z0,hld];refine XH_own oX rfl (by simp [Value.cells]) rfl (fun h7 q1 q2 q3=>?_);have oX7:Own h7 h5.length 104 [iv x.1.p,iv x.1.n,iv x.1.hd.1,iv x.1.hd.2,.slice xa x.1.fs.length xc,.bool x.1.mv,iv x.1.to]:=by simpa [Value.cells] using q1
 have k57:Keep (fun _=>False) h5 h7:=k6.trans' q2 (fun c hc e=>by omega);have k07:=k05.trans k57;have s7:=s.keepF k07;have oC7:=oC5.keep k57 (fun e=>e);have oR7:=oR5.keep k57 (fun e=>e);have l5:h.length+2<=h5.length:=by omega
 have l57:h5.length<h7.length:=by rw[q3];simp
 have hob:=s.vo.ob x.1 (Zm.2 ⟨x,Zg hx,rfl⟩);have hom:=s.vo.mem (Zm.2 ⟨x,Zg hx,rfl⟩);have t:=tiles_in v.to hom;simp only at t;have hlo:=v.lo;have hsz:=v.sz;have hln:=v.ln;obtain ⟨b7,o7,cc7,e7,hld7⟩:=s7.ro.rds.cellAt ox_len hx;have l76:=hld7 6 (by omega);simp only[ox,Z2,Z3] at l76;have e71:=e7;rw[e1] at e71;cases e71
 by_cases d12:x.1.hd.1=12
 ·obtain ⟨_,h13,hhd,hfs⟩:=hob.resolve_left (fun q=>q.2.2 d12)
  rw[if_neg h13,if_pos (show (gx S.old x.1.p).1=12 by rw[<- hhd];exact d12)] at i1;have hfc:S.fcn x.1.hd x.1.n=1:=by unfold HS.fcn;simp [d12]
  have hf1:x.1.fs[0]?=some (gx S.old (x.1.p+1)):=by rw[hfs,hfc,fld_get,if_pos (by decide)];simp
  obtain ⟨fb,fo,fc,e3,_,hl3⟩:=rds_str (by omega) wc_len (s7.fo i x hx).1.rds hf1;rw[hxv] at e3;cases e3;rw[ns_wc] at hl3;simp only[Nat.zero_mul,Z7] at hl3;have hlen:0<x.1.fs.length:=(Z4.1 hf1).1;have hlt:(0:Int)<(x.1.fs.length:Int):=by omega
  have n0:(0:Int)<=0:=by omega
  simp only[ZG,↓reduceIte,ZA,ZB,ZC,oX7.cells.ld,mbl,ZD,ZE,ZF,d12,hlt,n0,and_self,Int.toNat_zero,hl3];refine XH_own oC7 rfl (by simp [Value.cells]) rfl (fun h8 t1 t2 t3=>?_);simp only[ZG,↓reduceIte,ZA,ZB,ZC];exact next (m,gx S.old (x.1.p+1)) _ _ _ ⟨i1,(kp.trans ((k5.trans k57).mono (fun _ e=>e.elim))).trans t2,by simpa [Value.cells] using t1⟩ ⟨rfl,rfl,rfl,rfl,trivial⟩ (by simp)
 cases hmvd:x.1.mv with
 | true =>
   rw[hmvd] at oX7;have hgx:gx S.old x.1.p=(13,x.1.to):=by
    rcases hob with q|q
    ·exact q.2.1
    ·rw[hmvd] at q;cases q.1
   rw[if_pos (by simp only;rw[hgx])] at i1;have hr:=Z9.inj i1;simp only[hgx] at hr;simp only[ZG,↓reduceIte,ZA,ZB,ZC,oX7.cells.ld,mbl,ZD,ZE,ZF,d12,s7.own.cells.ld,RL.cells,e1,g0,g1,and_self,Z0,l76];refine XH_own oR7 rfl (by simp [Value.cells]) rfl (fun hz t1 t2 t3=>?_);simp only[ZG,↓reduceIte,ZA,ZB,ZC];refine out .ret _ _ _ _ (by intro e;cases e) ?_;simp only[ZG,↓reduceIte,ZA,ZB,ZC];have kF:Keep (fun _=>False) h hz:=k07.trans' t2 (fun c hc e=>by omega);refine hΨ _ _ (fin_ret (rvw rfl (a1:=iv r.1.1) (a2:=iv r.1.2) (v:=iv r.2.1) (by rw[<- hr];simpa [Value.cells] using t1) (by rw[<- hr];rfl) ⟨kF.mono (fun _ e=>e.elim),rfl,L,by rw[<- hr];exact s.keepF kF,SameR.refl _ _⟩))
 | false =>
 rw[hmvd] at oX7;obtain ⟨_,h13,hhd,hfs⟩:=hob.resolve_left (fun q=>by rw[hmvd] at q;cases q.1);have hd12:¬ (gx S.old x.1.p).1=12:=by rw[<- hhd];exact d12
 rw[if_neg h13,if_neg hd12] at i1;obtain ⟨vo',vn'',hel⟩:=(s.vo.mov s.vn v (s.oat hx) hmvd).resolve_right d12;rw[hel] at i1;have hws:IntKind.i64.wrap (S.size-(S.now.length:Int))=S.size-(S.now.length:Int):=i64w (by omega) (by omega)
 by_cases hfull:S.size-(S.now.length:Int)<x.1.n
 ·rw[if_pos hfull] at i1
  have hr:=Z9.inj i1;simp only[ZG,↓reduceIte,ZA,ZB,ZC,oX7.cells.ld,mbl,ZD,ZE,ZF,d12,s7.own.cells.ld,RL.cells,hws,hfull];refine XH_own oR7 rfl (by simp [Value.cells]) rfl (fun hz t1 t2 t3=>?_);simp only[ZG,↓reduceIte,ZA,ZB,ZC];refine out .ret _ _ _ _ (by intro e;cases e) ?_;simp only[ZG,↓reduceIte,ZA,ZB,ZC];have kF:Keep (fun _=>False) h hz:=k07.trans' t2 (fun c hc e=>by omega);refine hΨ _ _ (fin_ret (rvw rfl (a1:=iv r.1.1) (a2:=iv r.1.2) (v:=iv r.2.1) (by rw[<- hr];simpa [Value.cells] using t1) (by rw[<- hr];rfl) ⟨kF.mono (fun _ e=>e.elim),rfl,L,by rw[<- hr];exact s.keepF kF,SameR.refl _ _⟩))
 rw[if_neg hfull] at i1;have hr:=Z9.inj i1;have hz7:L.vo = .slice (some ⟨b1,0,none⟩) L.ol.length cc1/\o1=0:=by
  obtain ⟨_,_,_,y1,_⟩:=s7.ro.setAt (x':=x) (j:=0) (vs:=[]) ox_len hx (by simp) (by simp) (by simp);rw[e1] at y1;cases y1;exact ⟨e1,rfl⟩
 obtain ⟨e10,rfl⟩:=hz7;simp only[ZG,↓reduceIte,ZA,ZB,ZC,oX7.cells.ld,mbl,ZD,ZE,ZF,d12,s7.own.cells.ld,RL.cells,hws,hfull,e1,g0,g1,and_self,Z0];have zo:∀ q,bk L.vo q->L.cls q≠0:=fun q e=>by rw[s.co q e];omega
 have zn:∀ q,bk L.vn q->L.cls q≠0:=fun q e=>by rw[s.cn q e];omega
 have nbo:¬ bk L.vo b:=fun e=>by have a1:=s.co b e;have a2:=s.c1;omega
 have nbn:¬ bk L.vn b:=fun e=>by have a1:=s.cn b e;have a2:=s.c1;omega
 refine XH_row (o:=i*7+5) (u:=.bool true) (x':=(({ x.1 with mv:=true }:Ob),x.2)) (j:=5) ox_len s7.ro e10 hx rfl rfl (by simp [Value.cells]) (by simp [ox,Value.cells]) (by simp [Value.cells,Value.oneCell']) (fun h8 t1 t2 t3=>?_);have own8:=s7.own.keep t2 nbo;have e18:L.vo = .slice (some ⟨b1,0,none⟩) (L.ol.set i (({ x.1 with mv:=true }:Ob),x.2)).length cc1:=by rw[Z1];exact e10
 simp only[ZG,↓reduceIte,ZA,ZB,ZC,own8.cells.ld,RL.cells,mbl,ZD,ZE,ZF,e10,g0,g1,and_self,Z0];refine XH_row (o:=i*7+6) (u:=iv S.now.length) (x':=(({ x.1 with mv:=true,to:=S.now.length }:Ob),x.2)) (j:=6) ox_len (by rw[Z1];exact t1) e18 (set_at hx) rfl rfl (by simp [Value.cells]) (by simp [ox,Value.cells]) (by simp [Value.cells,Value.oneCell']) (fun h9 t4 t5 t6=>?_);simp only[Z8,Z1] at t4;have k79:Keep (bk L.vo) h7 h9:=t2.trans t5;have own9:=s7.own.keep k79 nbo;have oX9:=oX7.keep k79 (kz zo (by omega));have oR9:=oR7.keep k79 (kz zo (by omega));have rn9:=s7.rn.keep k79 (fun q e c=>by have a1:=s.cn q e;have a2:=s.co q c;omega);have rx9:Rds h9 2 x.2 x.1.fs.length (ww x.1.fs):=((s7.fo i x hx).1.keep k79 (fun q e c=>by have a1:=hfo.2 q e;have a2:=s.co q c;omega)).rds;have ke:Keep (fun _=>False) h9 (h9++[row 36 h9.length []]):=Keep.push _ _ _;have own10:=own9.keep ke (fun e=>e);have oX10:=oX9.keep ke (fun e=>e);have hfl:x.1.fs.length<=1048576:=by
  have kd:=((v.ko _ hom).resolve_left h13).fc t.2.1;simp only at kd;rw[hfs,fld_len,hhd];omega
 obtain ⟨vf,h11,a1,a2,a3,a4⟩:=copy_row rx9 (by omega);obtain ⟨fa,fc,rfl⟩:=row_shape a2.rds;rw[hxv] at a1;have own11:=own9.keep a3 (fun e=>e);have oX11:=oX9.keep a3 (fun e=>e);have rn11:=rn9.keep a3 (fun _ _ e=>e);have k12:Keep (fun _=>False) h11 (h11++[row 104 h11.length [iv S.now.length,iv x.1.n,iv x.1.hd.1,iv x.1.hd.2,.slice fa x.1.fs.length fc,.bool false,iv 0]]):=Keep.push _ _ _;have own12:=own11.keep k12 (fun e=>e);have hnl:=s.few v;obtain ⟨vn',h13',p1,p2,p3,p4⟩:=app1 (bytes:=72) (xs:=[iv S.now.length,iv x.1.n,iv x.1.hd.1,iv x.1.hd.2,.slice fa x.1.fs.length fc,.bool false,iv 0]) rn11 rfl rfl (by omega) (by omega);obtain ⟨na,nc,rfl⟩:=row_shape p2.rds;have own13:=own11.keep p3 nbn;simp only[ZG,↓reduceIte,ZA,ZB,ZC,own9.cells.ld,own10.cells.ld,own11.cells.ld,own12.cells.ld,own13.cells.ld,RL.cells,mbl,ZD,ZE,ZF,oX9.cells.ld,oX9.cells.lds 2 2 (by simp),oX10.cells.ld,oX10.cells.lds 2 2 (by simp),oX11.cells.ld,oX11.cells.lds 2 2 (by simp),a1,p1,Z5,Z6,Nat.reduceBEq,Zd,Ze,Za,Zb];have l9:h7.length<=h9.length:=k79.len;have l11:h9.length<=h11.length:=a3.len;have oX13:=oX11.keep p3 (kz zn (by omega));have oR13:=(oR9.keep a3 (fun e=>e)).keep p3 (kz zn (by omega));refine XH_own own13 rfl (by simp [Value.cells,RL.cells]) rfl (fun h14 u1 u2 u3=>?_);have o14:Own h14 b 88 [L.vi,L.vc,L.vt,L.vp,iv L.main,L.vk,iv S.size,iv S.now.length,.slice na (L.nl.length+1) nc,L.vo,L.vg]:=by simpa [Value.cells,RL.cells] using u1
 have oX14:=oX13.keep u2 (fun e=>by omega);have hwa:IntKind.i64.wrap ((S.now.length:Int)+x.1.n)=(S.now.length:Int)+x.1.n:=i64w (by omega) (by omega);simp only[ZG,↓reduceIte,ZA,ZB,ZC,o14.cells.ld,oX14.cells.ld,mbl,ZD,ZE,ZF,hwa];refine XH_own o14 rfl (by simp [Value.cells]) rfl (fun h15 u4 u5 u6=>?_);have o15:Own h15 b 88 [L.vi,L.vc,L.vt,L.vp,iv L.main,L.vk,iv S.size,iv ((S.now.length:Int)+x.1.n),.slice na (L.nl.length+1) nc,L.vo,L.vg]:=by simpa [Value.cells] using u4
 have k1315:Keep (fun q=>q=b) h13' h15:=u2.trans u5;have oR15:=oR13.keep k1315 (fun e=>by omega);have k915:Keep (fun q=>bk L.vn q\/q=b) h9 h15:=((a3.mono fun _ e=>e.elim).trans (p3.mono fun _ e=>.inl e)).trans (k1315.mono fun _ e=>.inr e);have ro15:=t4.keep k915 (fun q e c=>by
  rcases c with c|c
  ·have a1:=s.cn q c;have a2:=s.co q e;omega
  ·subst c;exact nbo e)
 have hxs:=set_at (y:=(({ x.1 with mv:=true,to:=S.now.length }:Ob),x.2)) hx;have rd15:Rds h15 7 L.vo (L.ol.set i (({ x.1 with mv:=true,to:=S.now.length }:Ob),x.2)).length ((L.ol.set i (({ x.1 with mv:=true,to:=S.now.length }:Ob),x.2)).flatMap ox):=by rw[Z1];exact ro15.rds
 obtain ⟨b15,o15',c15,e15,hld15⟩:=rd15.cellAt ox_len hxs;have e15':=e15;rw[Z1,e10] at e15';cases e15';have l15:=hld15 6 (by omega);simp only[ox,Z2,Z3,Nat.zero_add] at l15;simp only[ZG,↓reduceIte,ZA,ZB,ZC,o15.cells.ld,mbl,ZD,ZE,ZF,e10,g0,g1,and_self,Z0,l15,Nat.zero_add];refine XH_own oR15 rfl (by simp [Value.cells]) rfl (fun h16 u7 u8 u9=>?_);have oR16:Own h16 h1.length 36 [iv 4,iv S.now.length]:=by simpa [Value.cells] using u7
 simp only[ZG,↓reduceIte,ZA,ZB,ZC];refine out .ret _ _ _ _ (by intro e;cases e) ?_;simp only[ZG,↓reduceIte,ZA,ZB,ZC];have k916:Keep (fun q=>(bk L.vn q\/q=b)\/q=h1.length) h9 h16:=(k915.mono fun _ e=>.inl e).trans (u8.mono fun _ e=>.inr e);have k0m:Keep (fun q=>L.cls q=1\/L.cls q=2\/L.cls q=3) h h16:=((k07.mono fun _ e=>e.elim).trans (k79.mono fun q e=>.inr (.inr (s.co q e)))).trans' k916 (fun c hc e=>by
  rcases e with (e|e)|e
  ·exact .inr (.inl (s.cn c e))
  ·subst e;exact .inl s.c1
  ·omega)
 have n9:∀ q,bk L.vo q\/bk x.2 q -> ¬ ((bk L.vn q\/q=b)\/q=h1.length):=fun q e c=>by
  have a1:L.cls q=3\/L.cls q=11+2*i:=e.imp (s.co q) (hfo.2 q);have a2:=s.lt (q:=q) (by omega)
  rcases c with (c|c)|c
  ·have:=s.cn q c;omega
  ·subst c;have:=s.c1;omega
  ·omega
 have ro16:=t4.keep k916 (fun q e c=>n9 q (.inl e) c);have k1316:Keep (fun q=>q=b\/q=h1.length) h13' h16:=(k1315.mono fun _ e=>.inl e).trans (u8.mono fun _ e=>.inr e);have rn16:=p2.keep k1316 (fun q e c=>by
  rcases p4 q e with f|f
  ·have a1:=s.cn q f
   have a2:=s.lt (q:=q) (by omega)
   rcases c with c|c
   ·subst c;have:=s.c1;omega
   ·omega
  ·omega)
 have k1116:Keep (fun q=>bk L.vn q\/q=b\/q=h1.length) h11 h16:=(p3.mono fun _ e=>.inl e).trans (k1316.mono fun _ e=>.inr e);have rf16:=a2.keep k1116 (fun q e c=>by
  have:=a4 q e
  rcases c with c|c|c
  ·exact kz zn (by omega) c
  ·omega
  ·omega)
 have hnow:((((S.laid (S.owords (4,x.1.p))).setold x.1.p (13,(S.now.length:Int))).now.length:Nat):Int)=(S.now.length:Int)+x.1.n:=by
  rw[<- hel];simp [HS.laid,HS.setold]
 have o16:=o15.keep u8 (fun e=>by omega);have fin:=s.app (S':=(S.laid (S.owords (4,x.1.p))).setold x.1.p (13,(S.now.length:Int))) (h':=h16) (vn':=.slice na (L.nl.length+1) nc) (vf:=.slice fa x.1.fs.length fc) (o:=⟨S.now.length,x.1.n,x.1.hd,x.1.fs,false,0⟩)
  (ol':=L.ol.set i (({ x.1 with mv:=true,to:=S.now.length }:Ob),x.2)) ⟨rfl,rfl,rfl,rfl⟩ rfl k0m
  (by rw[hnow];exact o16) (by
   rw[List.length_append,List.flatMap_append];exact rn16) (by simp only[Z1] at ro16 ⊢;exact ro16) (fun j y hy=>?_) rf16 (fun q e=>(p4 q e).imp id (fun c=>by omega)) (fun q e=>by have:=a4 q e;omega)
  (fun q e c=>by
   have:=a4 q e;have:=a2.lt q e
   rcases p4 q c with f|f
   ·exact kz zn (by omega) f
   ·omega) vn'' (by rw[List.map_set];exact vo')
 ·obtain ⟨L',sL,sS⟩:=fin
  refine hΨ _ _ (fin_ret (rvw rfl (a1:=iv r.1.1) (a2:=iv r.1.2) (v:=iv r.2.1) (by rw[<- hr];exact oR16) (by rw[<- hr];rfl) ⟨k0m.mono (fun q e=>by rcases e with e|e|e<;>(show L.cls q≠0;rw[e];omega)),rfl,L',by rw[<- hr];exact sL,sS⟩))
 ·rw[Zo] at hy
  split at hy
  ·rename_i ej
   subst ej
   split at hy
   ·cases hy;exact ⟨x,hx,rfl,rfl⟩
   ·cases hy
  ·exact ⟨y,hy,rfl,rfl⟩
end
end Go.S18
