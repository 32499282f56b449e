import Derived.Test.YtdlanbdiphpacaaDoorPk16
set_option linter.unusedVariables false
set_option linter.unusedSimpArgs false
open Nat renaming reduceEqDiff -> ZA,reduceAdd -> ZB,reduceMul -> ZC,reduceLeDiff -> ZD,reduceLT -> ZE
open Int renaming reduceEq -> ZF
open Int renaming cast_ofNat_Int->Z0,natCast_add->Z1
open Nat renaming mul_one->Z2
open List renaming map_cons->Z3,map_nil->Z4,getElem?_eq_getElem->Z5
namespace Go.S19
open Go Go.Eng Go.Proofs Go.Chk
section
variable {h:AH} {b:Nat} {C:Cx} {vi vc vt vp vk:Value} {p:Nat}
theorem operand_ok (s:Rdr h b C vi vc vt vp vk p) (S W:Int):Gets Tryd.prog 87 [.pointer (some ⟨b,0,none⟩),.agg #[iv S,iv W]] h (RdO h b C vi vc vt vp vk (oprnd C S W p)):=by
 refine Gets.of (keep:=false) hP (draw_ok hM) k87 (by rfl) (fun Ψ hΨ=>?_);have hk0:Keep (· = b) h (h++[row 135 h.length [iv S,iv W]]):=Keep.push _ _ _;have rm0:=Own.new h 135 h.length [iv S,iv W];have s0:=s.keep (Keep.push (fun _=>False) h (row 135 h.length [iv S,iv W])) (fun _ _ e=>e);have hne:h.length≠b:=fun e=>by have:=s.own.lt;omega
 simp only[ZG,↓reduceIte,ZA,ZB,ZC,r87,YE,YC,YO,YA,YL,YX,YS,Ya,Yb,Yl,Yf,Yg,Yi,Ym,Yk,Yt,Yn,Yz,Yp,Yq,Yd,mbl,ZD,ZE,ZF];generalize hh0:h++[row 135 h.length [iv S,iv W]]=h0 at hk0 rm0 s0 ⊢;refine XX_of (next_ok s0) (fun res h1 hle1 hn=>?_);obtain ⟨kp1,hn⟩:=hn;have kq1:=Keep.trans hk0 kp1;cases hx1:nx C p with
 | none =>
   rw[hx1] at hn;obtain ⟨v,rfl⟩:=hn;refine .pan ?_;simp only[ZG,↓reduceIte,ZA,ZB,ZC];refine hΨ _ _ (fin_pan ⟨kq1,?_⟩);have e:oprnd C S W p=none:=by simp [oprnd,sn,hx1]
   rw[e];exact ⟨_,rfl⟩
 | some yq1 =>
   obtain ⟨x1,q1⟩:=yq1;rw[hx1] at hn;obtain ⟨rfl,s1⟩:=hn;refine .ret ?_;have rm1:=rm0.keep kp1 (fun e=>hne e)
   by_cases d0:x1=0
   ·skip
    simp only[ZG,↓reduceIte,ZA,ZB,ZC,s1.own.cells.ld,mbl,ZD,ZE,ZF,ct1,rm1.cells.ld,rm1.cells.lds 0 2 (by simp),d0];refine XX_of (below_ok s1 S) (fun res h2 hle2 hn=>?_);obtain ⟨kp2,hn⟩:=hn;have kq2:=Keep.trans kq1 kp2;cases hx2:bl C S q1 with
    | none =>
      rw[hx2] at hn;obtain ⟨v,rfl⟩:=hn;refine .pan ?_;simp only[ZG,↓reduceIte,ZA,ZB,ZC];refine hΨ _ _ (fin_pan ⟨kq2,?_⟩);have e:oprnd C S W p=none:=by simp [oprnd,sn,hx1,d0,hx2]
      rw[e];exact ⟨_,rfl⟩
    | some yq2 =>
      obtain ⟨x2,q2⟩:=yq2;rw[hx2] at hn;obtain ⟨rfl,s2⟩:=hn;refine .ret ?_;have rm2:=rm1.keep kp2 (fun e=>hne e);simp only[ZG,↓reduceIte,ZA,ZB,ZC,s2.own.cells.ld,mbl,ZD,ZE,ZF,ct1,rm2.cells.ld,rm2.cells.lds 0 2 (by simp)];refine hΨ _ _ (fin_norm ⟨kq2,?_⟩);have e:oprnd C S W p=some q2:=by simp [oprnd,sn,hx1,d0,hx2]
      rw[e];exact ⟨rfl,s2⟩
   by_cases d1:x1=1
   ·skip
    simp only[ZG,↓reduceIte,ZA,ZB,ZC,s1.own.cells.ld,mbl,ZD,ZE,ZF,ct1,rm1.cells.ld,rm1.cells.lds 0 2 (by simp),d0,d1];refine XX_of (below_ok s1 W) (fun res h3 hle3 hn=>?_);obtain ⟨kp3,hn⟩:=hn;have kq3:=Keep.trans kq1 kp3;cases hx3:bl C W q1 with
    | none =>
      rw[hx3] at hn;obtain ⟨v,rfl⟩:=hn;refine .pan ?_;simp only[ZG,↓reduceIte,ZA,ZB,ZC];refine hΨ _ _ (fin_pan ⟨kq3,?_⟩);have e:oprnd C S W p=none:=by simp [oprnd,sn,hx1,d0,d1,hx3]
      rw[e];exact ⟨_,rfl⟩
    | some yq3 =>
      obtain ⟨x3,q3⟩:=yq3;rw[hx3] at hn;obtain ⟨rfl,s3⟩:=hn;refine .ret ?_;have rm3:=rm1.keep kp3 (fun e=>hne e);simp only[ZG,↓reduceIte,ZA,ZB,ZC,s3.own.cells.ld,mbl,ZD,ZE,ZF,ct1,rm3.cells.ld,rm3.cells.lds 0 2 (by simp)];refine hΨ _ _ (fin_norm ⟨kq3,?_⟩);have e:oprnd C S W p=some q3:=by simp [oprnd,sn,hx1,d0,d1,hx3]
      rw[e];exact ⟨rfl,s3⟩
   obtain ⟨ta,tc,htp⟩:=row_shape s1.im.rp
   by_cases d2:x1=2
   ·skip
    simp only[ZG,↓reduceIte,ZA,ZB,ZC,s1.own.cells.ld,mbl,ZD,ZE,ZF,ct1,rm1.cells.ld,rm1.cells.lds 0 2 (by simp),d0,d1,d2,htp];refine XX_of (below_ok s1 C.tops.length) (fun res h4 hle4 hn=>?_);obtain ⟨kp4,hn⟩:=hn;have kq4:=Keep.trans kq1 kp4;cases hx4:bl C C.tops.length q1 with
    | none =>
      rw[hx4] at hn;obtain ⟨v,rfl⟩:=hn;refine .pan ?_;simp only[ZG,↓reduceIte,ZA,ZB,ZC];refine hΨ _ _ (fin_pan ⟨kq4,?_⟩);have e:oprnd C S W p=none:=by simp [oprnd,sn,hx1,d0,d1,d2,hx4]
      rw[e];exact ⟨_,rfl⟩
    | some yq4 =>
      obtain ⟨x4,q4⟩:=yq4;rw[hx4] at hn;obtain ⟨rfl,s4⟩:=hn;refine .ret ?_;have rm4:=rm1.keep kp4 (fun e=>hne e);simp only[ZG,↓reduceIte,ZA,ZB,ZC,s4.own.cells.ld,mbl,ZD,ZE,ZF,ct1,rm4.cells.ld,rm4.cells.lds 0 2 (by simp)];refine hΨ _ _ (fin_norm ⟨kq4,?_⟩);have e:oprnd C S W p=some q4:=by simp [oprnd,sn,hx1,d0,d1,d2,hx4]
      rw[e];exact ⟨rfl,s4⟩
   by_cases d3:x1=3
   ·skip
    simp only[ZG,↓reduceIte,ZA,ZB,ZC,s1.own.cells.ld,mbl,ZD,ZE,ZF,ct1,rm1.cells.ld,rm1.cells.lds 0 2 (by simp),d0,d1,d2,d3];refine XX_of (next_ok s1) (fun res h5 hle5 hn=>?_);obtain ⟨kp5,hn⟩:=hn;have kq5:=Keep.trans kq1 kp5;cases hx5:nx C q1 with
    | none =>
      rw[hx5] at hn;obtain ⟨v,rfl⟩:=hn;refine .pan ?_;simp only[ZG,↓reduceIte,ZA,ZB,ZC];refine hΨ _ _ (fin_pan ⟨kq5,?_⟩);have e:oprnd C S W p=none:=by simp [oprnd,sn,hx1,d0,d1,d2,d3,hx5]
      rw[e];exact ⟨_,rfl⟩
    | some yq5 =>
      obtain ⟨x5,q5⟩:=yq5;rw[hx5] at hn;obtain ⟨rfl,s5⟩:=hn;refine .ret ?_;have rm5:=rm1.keep kp5 (fun e=>hne e);simp only[ZG,↓reduceIte,ZA,ZB,ZC,s5.own.cells.ld,mbl,ZD,ZE,ZF,ct1,rm5.cells.ld,rm5.cells.lds 0 2 (by simp)];refine hΨ _ _ (fin_norm ⟨kq5,?_⟩);have e:oprnd C S W p=some q5:=by simp [oprnd,sn,hx1,d0,d1,d2,d3,hx5]
      rw[e];exact ⟨rfl,s5⟩
   by_cases d4:x1=4
   ·skip
    obtain ⟨ka,kc,hvk⟩:=row_shape s1.im.rk;simp only[ZG,↓reduceIte,ZA,ZB,ZC,s1.own.cells.ld,mbl,ZD,ZE,ZF,ct1,rm1.cells.ld,rm1.cells.lds 0 2 (by simp),d0,d1,d2,d3,d4,hvk];refine XX_of (below_ok s1 C.cons.length) (fun res h6 hle6 hn=>?_);obtain ⟨kp6,hn⟩:=hn;have kq6:=Keep.trans kq1 kp6;cases hx6:bl C C.cons.length q1 with
    | none =>
      rw[hx6] at hn;obtain ⟨v,rfl⟩:=hn;refine .pan ?_;simp only[ZG,↓reduceIte,ZA,ZB,ZC];refine hΨ _ _ (fin_pan ⟨kq6,?_⟩);have e:oprnd C S W p=none:=by simp [oprnd,sn,hx1,d0,d1,d2,d3,d4,hx6]
      rw[e];exact ⟨_,rfl⟩
    | some yq6 =>
      obtain ⟨x6,q6⟩:=yq6;rw[hx6] at hn;obtain ⟨rfl,s6⟩:=hn;refine .ret ?_;have rm6:=rm1.keep kp6 (fun e=>hne e);obtain ⟨_,_,_,c07,c17⟩:=bl_inv hx6;obtain ⟨kb7,ko7,kc7,ke7,kl7,kd7⟩:=rds_ix s6.im.rk c07 (cn_at c07 c17);have hvk7:=ke7.symm.trans hvk;cases hvk7
      by_cases z7:cn C x6=0
      ·skip
       rw[z7] at kd7;simp only[ZG,↓reduceIte,ZA,ZB,ZC,s6.own.cells.ld,mbl,ZD,ZE,ZF,ct1,rm6.cells.ld,rm6.cells.lds 0 2 (by simp),ke7,hvk,c07,kl7,c17,and_self,Z2,kd7];refine XX_val (must_true h6) ?_;simp only[ZG,↓reduceIte,ZA,ZB,ZC,s6.own.cells.ld,mbl,ZD,ZE,ZF,ct1,rm6.cells.ld,rm6.cells.lds 0 2 (by simp)];refine hΨ _ _ (fin_norm ⟨kq6,?_⟩);have e:oprnd C S W p=some q6:=by simp [oprnd,sn,hx1,d0,d1,d2,d3,d4,hx6,z7]
       rw[e];exact ⟨rfl,s6⟩
      ·skip
       simp only[ZG,↓reduceIte,ZA,ZB,ZC,s6.own.cells.ld,mbl,ZD,ZE,ZF,ct1,rm6.cells.ld,rm6.cells.lds 0 2 (by simp),ke7,hvk,c07,kl7,c17,and_self,Z2,kd7,z7];refine XX_of (must_false h6) (fun res hm hle hn=>?_);obtain ⟨rfl,v,rfl⟩:=hn;refine .pan ?_;simp only[ZG,↓reduceIte,ZA,ZB,ZC];refine hΨ _ _ (fin_pan ⟨kq6,?_⟩);have e:oprnd C S W p=none:=by simp [oprnd,sn,hx1,d0,d1,d2,d3,d4,hx6,z7]
       rw[e];exact ⟨_,rfl⟩
   simp only[ZG,↓reduceIte,ZA,ZB,ZC,s1.own.cells.ld,mbl,ZD,ZE,ZF,ct1,rm1.cells.ld,rm1.cells.lds 0 2 (by simp),d0,d1,d2,d3,d4];refine XX_of (must_false h1) (fun res hm hle hn=>?_);obtain ⟨rfl,v,rfl⟩:=hn;refine .pan ?_;simp only[ZG,↓reduceIte,ZA,ZB,ZC];refine hΨ _ _ (fin_pan ⟨kq1,?_⟩);have e:oprnd C S W p=none:=by simp [oprnd,sn,hx1,d0,d1,d2,d3,d4]
   rw[e];exact ⟨_,rfl⟩
theorem operands_ok (s:Rdr h b C vi vc vt vp vk p) (hp:p<=C.code.length) (n S W:Int):Gets Tryd.prog 89 [.pointer (some ⟨b,0,none⟩),iv n,.agg #[iv S,iv W]] h (RdO h b C vi vc vt vp vk (oprnds C S W n.toNat p)):=by
 refine Gets.of (keep:=false) hP (draw_ok hM) k89 (by rfl) (fun Ψ hΨ=>?_);have hk0:Keep (· = b) h (h++[row 135 h.length [iv S,iv W]]):=Keep.push _ _ _;have rm0:=Own.new h 135 h.length [iv S,iv W];have s0:=s.keep (Keep.push (fun _=>False) h (row 135 h.length [iv S,iv W])) (fun _ _ e=>e);have hne:h.length≠b:=fun e=>by have:=s.own.lt;omega
 have hl:=s.hl;simp only[ZG,↓reduceIte,ZA,ZB,ZC,r89,YE,YC,YO,YA,YL,YX,YS,Ya,Yb,Yl,Yf,Yg,Yi,Ym,Yk,Yt,Yn,Yz,Yp,Yq,Yd,mbl,ZD,ZE,ZF];refine XLo_rule (α:=Nat × Nat) (fun a=>[(0,.pointer (some ⟨b,0,none⟩)),(5,.pointer (some ⟨h.length,0,none⟩)),(6,iv n),(7,iv a.1)])
  (fun a h'=>a.1<=n.toNat/\a.1<=a.2/\a.2<=C.code.length/\Keep (· = b) h h'/\Rdr h' b C vi vc vt vp vk a.2/\Own h' h.length 135 [iv S,iv W]/\oprnds C S W n.toNat p=oprnds C S W (n.toNat-a.1) a.2) (fun a=>n.toNat-a.1) (0,p)
  ⟨by omega,by omega,hp,hk0,s0,rm0,rfl⟩ ⟨rfl,rfl,rfl,rfl,trivial⟩ ?_
 rintro ⟨i,q⟩ h1 Ψ2 ⟨i1,i2,i3,kp,s1,rm1,eq⟩ next out
 simp only at i1 i2 i3 s1 eq
 by_cases hi:(i:Int)<n
 ·have hw:IntKind.i64.wrap ((i:Int)+1)=i+1:=i64w (by omega) (by omega)
  simp only[ZG,↓reduceIte,ZA,ZB,ZC,hi,rm1.cells.lds 0 2 (by simp),mbl,ZD,ZE,ZF];refine XX_of (operand_ok s1 S W) (fun res h2 hle hn=>?_);obtain ⟨kp2,hn⟩:=hn;have e1:n.toNat-i=(n.toNat-(i+1))+1:=by omega
  rw[e1,oprnds] at eq;cases hx:oprnd C S W q with
  | none =>
    rw[hx] at hn eq;obtain ⟨v,rfl⟩:=hn;refine .pan ?_;simp only[ZG,↓reduceIte,ZA,ZB,ZC];refine out (.pan _) _ _ _ _ (by intro e;cases e) ?_;simp only[ZG,↓reduceIte,ZA,ZB,ZC];refine hΨ _ _ (fin_pan ⟨kp.trans kp2,?_⟩);rw[eq];exact ⟨_,rfl⟩
  | some r =>
    rw[hx] at hn eq;obtain ⟨rfl,s2⟩:=hn;refine .ret ?_;have hon:=oprnd_on r hx;simp only[ZG,↓reduceIte,ZA,ZB,ZC,hw];refine next (i+1,r) _ _ _ ⟨by omega,by simp only;omega,hon.2,kp.trans kp2,s2,rm1.keep kp2 (fun e=>hne e),eq⟩ ⟨rfl,rfl,rfl,?_,trivial⟩ (by simp only;omega)
    simp only[Z1,Z0];rfl
 ·have e1:n.toNat-i=0:=by omega
  rw[e1] at eq;simp only[ZG,↓reduceIte,ZA,ZB,ZC,hi];refine out (.exit 0) _ _ _ _ (by intro e;cases e) ?_;simp only[ZG,↓reduceIte,ZA,ZB,ZC];refine hΨ _ _ (fin_norm ⟨kp,?_⟩);rw[eq];exact ⟨rfl,s1⟩
theorem fields_ok (s:Rdr h b C vi vc vt vp vk p) (S W:Int):Gets Tryd.prog 90 [.pointer (some ⟨b,0,none⟩),.agg #[iv S,iv W]] h (RdO h b C vi vc vt vp vk (flds C S W p)):=by
 refine Gets.of (keep:=false) hP (draw_ok hM) k90 (by rfl) (fun Ψ hΨ=>?_);have hk0:Keep (· = b) h (h++[row 135 h.length [iv S,iv W]]):=Keep.push _ _ _;have rm0:=Own.new h 135 h.length [iv S,iv W];have s0:=s.keep (Keep.push (fun _=>False) h (row 135 h.length [iv S,iv W])) (fun _ _ e=>e);have hne:h.length≠b:=fun e=>by have:=s.own.lt;omega
 simp only[ZG,↓reduceIte,ZA,ZB,ZC,r90,YE,YC,YO,YA,YL,YX,YS,Ya,Yb,Yl,Yf,Yg,Yi,Ym,Yk,Yt,Yn,Yz,Yp,Yq,Yd,mbl,ZD,ZE,ZF];generalize hh0:h++[row 135 h.length [iv S,iv W]]=h0 at hk0 rm0 s0 ⊢;obtain ⟨ka,kc,hvk⟩:=row_shape s0.im.rk;simp only[ZG,↓reduceIte,ZA,ZB,ZC,s0.own.cells.ld,mbl,ZD,ZE,ZF,ct1,rm0.cells.ld,rm0.cells.lds 0 2 (by simp),hvk];refine XX_of (below_ok s0 C.cons.length) (fun res h8 hle8 hn=>?_);obtain ⟨kp8,hn⟩:=hn;have kq8:=Keep.trans hk0 kp8;cases hx8:bl C C.cons.length p with
 | none =>
   rw[hx8] at hn;obtain ⟨v,rfl⟩:=hn;refine .pan ?_;simp only[ZG,↓reduceIte,ZA,ZB,ZC];refine hΨ _ _ (fin_pan ⟨kq8,?_⟩);have e:flds C S W p=none:=by simp [flds,sn,hx8]
   rw[e];exact ⟨_,rfl⟩
 | some yq8 =>
   obtain ⟨x8,q8⟩:=yq8;rw[hx8] at hn;obtain ⟨rfl,s8⟩:=hn;refine .ret ?_;have rm8:=rm0.keep kp8 (fun e=>hne e);obtain ⟨_,_,_,c09,c19⟩:=bl_inv hx8;obtain ⟨kb9,ko9,kc9,ke9,kl9,kd9⟩:=rds_ix s8.im.rk c09 (cn_at c09 c19);have hvk9:=ke9.symm.trans hvk;cases hvk9
   by_cases z9:0<cn C x8
   ·skip
    simp only[ZG,↓reduceIte,ZA,ZB,ZC,s8.own.cells.ld,mbl,ZD,ZE,ZF,ct1,rm8.cells.ld,rm8.cells.lds 0 2 (by simp),ke9,hvk,c09,kl9,c19,and_self,Z2,kd9,z9];refine XX_val (must_true h8) ?_;simp only[ZG,↓reduceIte,ZA,ZB,ZC,s8.own.cells.ld,mbl,ZD,ZE,ZF,ct1,rm8.cells.ld,rm8.cells.lds 0 2 (by simp)];refine XX_of (exact_ok s8 (cn C x8)) (fun res h10 hle10 hn=>?_);obtain ⟨kp10,hn⟩:=hn;have kq10:=Keep.trans kq8 kp10;cases hx10:exc C (cn C x8) q8 with
    | none =>
      rw[hx10] at hn;obtain ⟨v,rfl⟩:=hn;refine .pan ?_;simp only[ZG,↓reduceIte,ZA,ZB,ZC];refine hΨ _ _ (fin_pan ⟨kq10,?_⟩);have e:flds C S W p=none:=by simp [flds,sn,hx8,z9,hx10]
      rw[e];exact ⟨_,rfl⟩
    | some q10 =>
      rw[hx10] at hn;obtain ⟨rfl,s10⟩:=hn;refine .ret ?_;have rm10:=rm8.keep kp10 (fun e=>hne e);simp only[ZG,↓reduceIte,ZA,ZB,ZC,s10.own.cells.ld,mbl,ZD,ZE,ZF,ct1,rm10.cells.ld,rm10.cells.lds 0 2 (by simp)];refine XX_of (operands_ok s10 (exc_on hx10).2 (cn C x8) (S) W) (fun res h11 hle11 hn=>?_);obtain ⟨kp11,hn⟩:=hn;have kq11:=Keep.trans kq10 kp11;cases hx11:oprnds C (S) W (cn C x8).toNat q10 with
      | none =>
        rw[hx11] at hn;obtain ⟨v,rfl⟩:=hn;refine .pan ?_;simp only[ZG,↓reduceIte,ZA,ZB,ZC];refine hΨ _ _ (fin_pan ⟨kq11,?_⟩);have e:flds C S W p=none:=by simp [flds,sn,hx8,z9,hx10,hx11]
        rw[e];exact ⟨_,rfl⟩
      | some q11 =>
        rw[hx11] at hn;obtain ⟨rfl,s11⟩:=hn;refine .ret ?_;have rm11:=rm10.keep kp11 (fun e=>hne e);simp only[ZG,↓reduceIte,ZA,ZB,ZC,s11.own.cells.ld,mbl,ZD,ZE,ZF,ct1,rm11.cells.ld,rm11.cells.lds 0 2 (by simp)];refine hΨ _ _ (fin_norm ⟨kq11,?_⟩);have e:flds C S W p=some q11:=by simp [flds,sn,hx8,z9,hx10,hx11]
        rw[e];exact ⟨rfl,s11⟩
   ·skip
    simp only[ZG,↓reduceIte,ZA,ZB,ZC,s8.own.cells.ld,mbl,ZD,ZE,ZF,ct1,rm8.cells.ld,rm8.cells.lds 0 2 (by simp),ke9,hvk,c09,kl9,c19,and_self,Z2,kd9,z9];refine XX_of (must_false h8) (fun res hm hle hn=>?_);obtain ⟨rfl,v,rfl⟩:=hn;refine .pan ?_;simp only[ZG,↓reduceIte,ZA,ZB,ZC];refine hΨ _ _ (fin_pan ⟨kq8,?_⟩);have e:flds C S W p=none:=by simp [flds,sn,hx8,z9]
    rw[e];exact ⟨_,rfl⟩
theorem thing_ok (s:Rdr h b C vi vc vt vp vk p) (S W:Int):Gets Tryd.prog 92 [.pointer (some ⟨b,0,none⟩),.agg #[iv S,iv W]] h (RdO h b C vi vc vt vp vk (thing C S W p)):=by
 refine Gets.of (keep:=false) hP (draw_ok hM) k92 (by rfl) (fun Ψ hΨ=>?_);have hk0:Keep (· = b) h (h++[row 135 h.length [iv S,iv W]]):=Keep.push _ _ _;have rm0:=Own.new h 135 h.length [iv S,iv W];have s0:=s.keep (Keep.push (fun _=>False) h (row 135 h.length [iv S,iv W])) (fun _ _ e=>e);have hne:h.length≠b:=fun e=>by have:=s.own.lt;omega
 simp only[ZG,↓reduceIte,ZA,ZB,ZC,r92,YE,YC,YO,YA,YL,YX,YS,Ya,Yb,Yl,Yf,Yg,Yi,Ym,Yk,Yt,Yn,Yz,Yp,Yq,Yd,mbl,ZD,ZE,ZF];generalize hh0:h++[row 135 h.length [iv S,iv W]]=h0 at hk0 rm0 s0 ⊢;refine XX_of (next_ok s0) (fun res h12 hle12 hn=>?_);obtain ⟨kp12,hn⟩:=hn;have kq12:=Keep.trans hk0 kp12;cases hx12:nx C p with
 | none =>
   rw[hx12] at hn;obtain ⟨v,rfl⟩:=hn;refine .pan ?_;simp only[ZG,↓reduceIte,ZA,ZB,ZC];refine hΨ _ _ (fin_pan ⟨kq12,?_⟩);have e:thing C S W p=none:=by simp [thing,sn,hx12]
   rw[e];exact ⟨_,rfl⟩
 | some yq12 =>
   obtain ⟨x12,q12⟩:=yq12;rw[hx12] at hn;obtain ⟨rfl,s12⟩:=hn;refine .ret ?_;have rm12:=rm0.keep kp12 (fun e=>hne e)
   by_cases d0:x12=0
   ·skip
    obtain ⟨ia,ic,hvi⟩:=row_shape s12.im.ri;simp only[ZG,↓reduceIte,ZA,ZB,ZC,s12.own.cells.ld,mbl,ZD,ZE,ZF,ct1,rm12.cells.ld,rm12.cells.lds 0 2 (by simp),d0,hvi];refine XX_of (below_ok s12 C.infos.length) (fun res h13 hle13 hn=>?_);obtain ⟨kp13,hn⟩:=hn;have kq13:=Keep.trans kq12 kp13;cases hx13:bl C C.infos.length q12 with
    | none =>
      rw[hx13] at hn;obtain ⟨v,rfl⟩:=hn;refine .pan ?_;simp only[ZG,↓reduceIte,ZA,ZB,ZC];refine hΨ _ _ (fin_pan ⟨kq13,?_⟩);have e:thing C S W p=none:=by simp [thing,sn,hx12,d0,hx13]
      rw[e];exact ⟨_,rfl⟩
    | some yq13 =>
      obtain ⟨x13,q13⟩:=yq13;rw[hx13] at hn;obtain ⟨rfl,s13⟩:=hn;refine .ret ?_;have rm13:=rm12.keep kp13 (fun e=>hne e);obtain ⟨_,_,_,c014,c114⟩:=bl_inv hx13;obtain ⟨y14,yx14,yf14⟩:=fr_at c014 c114;obtain ⟨kb14,ko14,kc14,ke14,kl14,kd14⟩:=rds_fld (by omega) Inf.len s13.im.ri yx14;have kd214:=kd14 2 (by omega);simp only[Inf.cells,List.getElem?_cons_succ,List.getElem?_cons_zero,Option.map_some,yf14] at kd214;have hv14:=ke14.symm.trans hvi;cases hv14;simp only[ZG,↓reduceIte,ZA,ZB,ZC,s13.own.cells.ld,mbl,ZD,ZE,ZF,ct1,rm13.cells.ld,rm13.cells.lds 0 2 (by simp),ke14,hvi,c014,c114,and_self,kd214];refine XX_of (exact_ok s13 (fr C x13)) (fun res h15 hle15 hn=>?_);obtain ⟨kp15,hn⟩:=hn;have kq15:=Keep.trans kq13 kp15;cases hx15:exc C (fr C x13) q13 with
      | none =>
        rw[hx15] at hn;obtain ⟨v,rfl⟩:=hn;refine .pan ?_;simp only[ZG,↓reduceIte,ZA,ZB,ZC];refine hΨ _ _ (fin_pan ⟨kq15,?_⟩);have e:thing C S W p=none:=by simp [thing,sn,hx12,d0,hx13,hx15]
        rw[e];exact ⟨_,rfl⟩
      | some q15 =>
        rw[hx15] at hn;obtain ⟨rfl,s15⟩:=hn;refine .ret ?_;have rm15:=rm13.keep kp15 (fun e=>hne e);simp only[ZG,↓reduceIte,ZA,ZB,ZC,s15.own.cells.ld,mbl,ZD,ZE,ZF,ct1,rm15.cells.ld,rm15.cells.lds 0 2 (by simp)];refine XX_of (operands_ok s15 (exc_on hx15).2 (fr C x13) (S) W) (fun res h16 hle16 hn=>?_);obtain ⟨kp16,hn⟩:=hn;have kq16:=Keep.trans kq15 kp16;cases hx16:oprnds C (S) W (fr C x13).toNat q15 with
        | none =>
          rw[hx16] at hn;obtain ⟨v,rfl⟩:=hn;refine .pan ?_;simp only[ZG,↓reduceIte,ZA,ZB,ZC];refine hΨ _ _ (fin_pan ⟨kq16,?_⟩);have e:thing C S W p=none:=by simp [thing,sn,hx12,d0,hx13,hx15,hx16]
          rw[e];exact ⟨_,rfl⟩
        | some q16 =>
          rw[hx16] at hn;obtain ⟨rfl,s16⟩:=hn;refine .ret ?_;have rm16:=rm15.keep kp16 (fun e=>hne e);simp only[ZG,↓reduceIte,ZA,ZB,ZC,s16.own.cells.ld,mbl,ZD,ZE,ZF,ct1,rm16.cells.ld,rm16.cells.lds 0 2 (by simp)];refine hΨ _ _ (fin_ret ⟨kq16,?_⟩);have e:thing C S W p=some q16:=by simp [thing,sn,hx12,d0,hx13,hx15,hx16]
          rw[e];exact ⟨rfl,s16⟩
   by_cases d1:x12=1
   ·skip
    simp only[ZG,↓reduceIte,ZA,ZB,ZC,s12.own.cells.ld,mbl,ZD,ZE,ZF,ct1,rm12.cells.ld,rm12.cells.lds 0 2 (by simp),d0,d1];refine XX_of (fields_ok s12 S W) (fun res h17 hle17 hn=>?_);obtain ⟨kp17,hn⟩:=hn;have kq17:=Keep.trans kq12 kp17;cases hx17:flds C S W q12 with
    | none =>
      rw[hx17] at hn;obtain ⟨v,rfl⟩:=hn;refine .pan ?_;simp only[ZG,↓reduceIte,ZA,ZB,ZC];refine hΨ _ _ (fin_pan ⟨kq17,?_⟩);have e:thing C S W p=none:=by simp [thing,sn,hx12,d0,d1,hx17]
      rw[e];exact ⟨_,rfl⟩
    | some q17 =>
      rw[hx17] at hn;obtain ⟨rfl,s17⟩:=hn;refine .ret ?_;have rm17:=rm12.keep kp17 (fun e=>hne e);simp only[ZG,↓reduceIte,ZA,ZB,ZC,s17.own.cells.ld,mbl,ZD,ZE,ZF,ct1,rm17.cells.ld,rm17.cells.lds 0 2 (by simp)];refine hΨ _ _ (fin_ret ⟨kq17,?_⟩);have e:thing C S W p=some q17:=by simp [thing,sn,hx12,d0,d1,hx17]
      rw[e];exact ⟨rfl,s17⟩
   by_cases d2:x12=2
   ·skip
    obtain ⟨ta,tc,hvt⟩:=s12.im.rt;simp only[ZG,↓reduceIte,ZA,ZB,ZC,s12.own.cells.ld,mbl,ZD,ZE,ZF,ct1,rm12.cells.ld,rm12.cells.lds 0 2 (by simp),d0,d1,d2,hvt];refine XX_of (below_ok s12 C.nt) (fun res h18 hle18 hn=>?_);obtain ⟨kp18,hn⟩:=hn;have kq18:=Keep.trans kq12 kp18;cases hx18:bl C C.nt q12 with
    | none =>
      rw[hx18] at hn;obtain ⟨v,rfl⟩:=hn;refine .pan ?_;simp only[ZG,↓reduceIte,ZA,ZB,ZC];refine hΨ _ _ (fin_pan ⟨kq18,?_⟩);have e:thing C S W p=none:=by simp [thing,sn,hx12,d0,d1,d2,hx18]
      rw[e];exact ⟨_,rfl⟩
    | some yq18 =>
      obtain ⟨x18,q18⟩:=yq18;rw[hx18] at hn;obtain ⟨rfl,s18⟩:=hn;refine .ret ?_;have rm18:=rm12.keep kp18 (fun e=>hne e);simp only[ZG,↓reduceIte,ZA,ZB,ZC,s18.own.cells.ld,mbl,ZD,ZE,ZF,ct1,rm18.cells.ld,rm18.cells.lds 0 2 (by simp)];refine XX_of (exact_ok s18 0) (fun res h19 hle19 hn=>?_);obtain ⟨kp19,hn⟩:=hn;have kq19:=Keep.trans kq18 kp19;cases hx19:exc C 0 q18 with
      | none =>
        rw[hx19] at hn;obtain ⟨v,rfl⟩:=hn;refine .pan ?_;simp only[ZG,↓reduceIte,ZA,ZB,ZC];refine hΨ _ _ (fin_pan ⟨kq19,?_⟩);have e:thing C S W p=none:=by simp [thing,sn,hx12,d0,d1,d2,hx18,hx19]
        rw[e];exact ⟨_,rfl⟩
      | some q19 =>
        rw[hx19] at hn;obtain ⟨rfl,s19⟩:=hn;refine .ret ?_;have rm19:=rm18.keep kp19 (fun e=>hne e);simp only[ZG,↓reduceIte,ZA,ZB,ZC,s19.own.cells.ld,mbl,ZD,ZE,ZF,ct1,rm19.cells.ld,rm19.cells.lds 0 2 (by simp)];refine hΨ _ _ (fin_norm ⟨kq19,?_⟩);have e:thing C S W p=some q19:=by simp [thing,sn,hx12,d0,d1,d2,hx18,hx19]
        rw[e];exact ⟨rfl,s19⟩
   by_cases d3:x12=3
   ·skip
    obtain ⟨ka,kc,hvk⟩:=row_shape s12.im.rk;simp only[ZG,↓reduceIte,ZA,ZB,ZC,s12.own.cells.ld,mbl,ZD,ZE,ZF,ct1,rm12.cells.ld,rm12.cells.lds 0 2 (by simp),d0,d1,d2,d3,hvk];refine XX_of (below_ok s12 C.cons.length) (fun res h20 hle20 hn=>?_);obtain ⟨kp20,hn⟩:=hn;have kq20:=Keep.trans kq12 kp20;cases hx20:bl C C.cons.length q12 with
    | none =>
      rw[hx20] at hn;obtain ⟨v,rfl⟩:=hn;refine .pan ?_;simp only[ZG,↓reduceIte,ZA,ZB,ZC];refine hΨ _ _ (fin_pan ⟨kq20,?_⟩);have e:thing C S W p=none:=by simp [thing,sn,hx12,d0,d1,d2,d3,hx20]
      rw[e];exact ⟨_,rfl⟩
    | some yq20 =>
      obtain ⟨x20,q20⟩:=yq20;rw[hx20] at hn;obtain ⟨rfl,s20⟩:=hn;refine .ret ?_;have rm20:=rm12.keep kp20 (fun e=>hne e);obtain ⟨_,_,_,c021,c121⟩:=bl_inv hx20;obtain ⟨kb21,ko21,kc21,ke21,kl21,kd21⟩:=rds_ix s20.im.rk c021 (cn_at c021 c121);have hvk21:=ke21.symm.trans hvk;cases hvk21
      by_cases z21:cn C x20=0
      ·skip
       rw[z21] at kd21;simp only[ZG,↓reduceIte,ZA,ZB,ZC,s20.own.cells.ld,mbl,ZD,ZE,ZF,ct1,rm20.cells.ld,rm20.cells.lds 0 2 (by simp),ke21,hvk,c021,kl21,c121,and_self,Z2,kd21];refine XX_val (must_true h20) ?_;simp only[ZG,↓reduceIte,ZA,ZB,ZC,s20.own.cells.ld,mbl,ZD,ZE,ZF,ct1,rm20.cells.ld,rm20.cells.lds 0 2 (by simp)];refine XX_of (exact_ok s20 0) (fun res h22 hle22 hn=>?_);obtain ⟨kp22,hn⟩:=hn;have kq22:=Keep.trans kq20 kp22;cases hx22:exc C 0 q20 with
       | none =>
         rw[hx22] at hn;obtain ⟨v,rfl⟩:=hn;refine .pan ?_;simp only[ZG,↓reduceIte,ZA,ZB,ZC];refine hΨ _ _ (fin_pan ⟨kq22,?_⟩);have e:thing C S W p=none:=by simp [thing,sn,hx12,d0,d1,d2,d3,hx20,z21,hx22]
         rw[e];exact ⟨_,rfl⟩
       | some q22 =>
         rw[hx22] at hn;obtain ⟨rfl,s22⟩:=hn;refine .ret ?_;have rm22:=rm20.keep kp22 (fun e=>hne e);simp only[ZG,↓reduceIte,ZA,ZB,ZC,s22.own.cells.ld,mbl,ZD,ZE,ZF,ct1,rm22.cells.ld,rm22.cells.lds 0 2 (by simp)];refine hΨ _ _ (fin_norm ⟨kq22,?_⟩);have e:thing C S W p=some q22:=by simp [thing,sn,hx12,d0,d1,d2,d3,hx20,z21,hx22]
         rw[e];exact ⟨rfl,s22⟩
      ·skip
       simp only[ZG,↓reduceIte,ZA,ZB,ZC,s20.own.cells.ld,mbl,ZD,ZE,ZF,ct1,rm20.cells.ld,rm20.cells.lds 0 2 (by simp),ke21,hvk,c021,kl21,c121,and_self,Z2,kd21,z21];refine XX_of (must_false h20) (fun res hm hle hn=>?_);obtain ⟨rfl,v,rfl⟩:=hn;refine .pan ?_;simp only[ZG,↓reduceIte,ZA,ZB,ZC];refine hΨ _ _ (fin_pan ⟨kq20,?_⟩);have e:thing C S W p=none:=by simp [thing,sn,hx12,d0,d1,d2,d3,hx20,z21]
       rw[e];exact ⟨_,rfl⟩
   by_cases d4:x12=4
   ·skip
    simp only[ZG,↓reduceIte,ZA,ZB,ZC,s12.own.cells.ld,mbl,ZD,ZE,ZF,ct1,rm12.cells.ld,rm12.cells.lds 0 2 (by simp),d0,d1,d2,d3,d4];refine XX_of (next_ok s12) (fun res h23 hle23 hn=>?_);obtain ⟨kp23,hn⟩:=hn;have kq23:=Keep.trans kq12 kp23;cases hx23:nx C q12 with
    | none =>
      rw[hx23] at hn;obtain ⟨v,rfl⟩:=hn;refine .pan ?_;simp only[ZG,↓reduceIte,ZA,ZB,ZC];refine hΨ _ _ (fin_pan ⟨kq23,?_⟩);have e:thing C S W p=none:=by simp [thing,sn,hx12,d0,d1,d2,d3,d4,hx23]
      rw[e];exact ⟨_,rfl⟩
    | some yq23 =>
      obtain ⟨x23,q23⟩:=yq23;rw[hx23] at hn;obtain ⟨rfl,s23⟩:=hn;refine .ret ?_;have rm23:=rm12.keep kp23 (fun e=>hne e);simp only[ZG,↓reduceIte,ZA,ZB,ZC,s23.own.cells.ld,mbl,ZD,ZE,ZF,ct1,rm23.cells.ld,rm23.cells.lds 0 2 (by simp)];refine XX_of (exact_ok s23 0) (fun res h24 hle24 hn=>?_);obtain ⟨kp24,hn⟩:=hn;have kq24:=Keep.trans kq23 kp24;cases hx24:exc C 0 q23 with
      | none =>
        rw[hx24] at hn;obtain ⟨v,rfl⟩:=hn;refine .pan ?_;simp only[ZG,↓reduceIte,ZA,ZB,ZC];refine hΨ _ _ (fin_pan ⟨kq24,?_⟩);have e:thing C S W p=none:=by simp [thing,sn,hx12,d0,d1,d2,d3,d4,hx23,hx24]
        rw[e];exact ⟨_,rfl⟩
      | some q24 =>
        rw[hx24] at hn;obtain ⟨rfl,s24⟩:=hn;refine .ret ?_;have rm24:=rm23.keep kp24 (fun e=>hne e);simp only[ZG,↓reduceIte,ZA,ZB,ZC,s24.own.cells.ld,mbl,ZD,ZE,ZF,ct1,rm24.cells.ld,rm24.cells.lds 0 2 (by simp)];refine hΨ _ _ (fin_norm ⟨kq24,?_⟩);have e:thing C S W p=some q24:=by simp [thing,sn,hx12,d0,d1,d2,d3,d4,hx23,hx24]
        rw[e];exact ⟨rfl,s24⟩
   simp only[ZG,↓reduceIte,ZA,ZB,ZC,s12.own.cells.ld,mbl,ZD,ZE,ZF,ct1,rm12.cells.ld,rm12.cells.lds 0 2 (by simp),d0,d1,d2,d3,d4];refine XX_of (must_false h12) (fun res hm hle hn=>?_);obtain ⟨rfl,v,rfl⟩:=hn;refine .pan ?_;simp only[ZG,↓reduceIte,ZA,ZB,ZC];refine hΨ _ _ (fin_pan ⟨kq12,?_⟩);have e:thing C S W p=none:=by simp [thing,sn,hx12,d0,d1,d2,d3,d4]
   rw[e];exact ⟨_,rfl⟩
theorem wayL:∀ x:Int × Int,(wayC x).length=2:=fun _=>rfl
theorem branch_ok {f:Nat} (S W:Int) (hE:∀ (h2:AH) (q:Nat) (S2:Int),C.code.length-q<f->q<=C.code.length->Rdr h2 b C vi vc vt vp vk q->Gets Tryd.prog 78 [.pointer (some ⟨b,0,none⟩),.agg #[iv S2,iv W]] h2 (RdO h2 b C vi vc vt vp vk (expr C f S2 W q)))
 (s:Rdr h b C vi vc vt vp vk p) (hf:C.code.length-p<f):Gets Tryd.prog 93 [.pointer (some ⟨b,0,none⟩),.agg #[iv S,iv W]] h (RdO h b C vi vc vt vp vk (brn C (fun s' p'=>expr C f s' W p') S p)):=by
 refine Gets.of (keep:=false) hP (draw_ok hM) k93 (by rfl) (fun Ψ hΨ=>?_);have hl:=s.hl;have hk0:Keep (· = b) h (h++[row 135 h.length [iv S,iv W]]):=Keep.push _ _ _;have rm0:=Own.new h 135 h.length [iv S,iv W];have s0:=s.keep (Keep.push (fun _=>False) h (row 135 h.length [iv S,iv W])) (fun _ _ e=>e);have hne:h.length≠b:=fun e=>by have:=s.own.lt;omega
 simp only[ZG,↓reduceIte,ZA,ZB,ZC,r93,YE,YC,YO,YA,YL,YX,YS,Ya,Yb,Yl,Yf,Yg,Yi,Ym,Yk,Yt,Yn,Yz,Yp,Yq,Yd,mbl,ZD,ZE,ZF];generalize hh0:h++[row 135 h.length [iv S,iv W]]=h0 at hk0 rm0 s0 ⊢;refine XX_of (exact_ok s0 7) (fun res h25 hle25 hn=>?_);obtain ⟨kp25,hn⟩:=hn;have kq25:=Keep.trans hk0 kp25;cases hx25:exc C 7 p with
 | none =>
   rw[hx25] at hn;obtain ⟨v,rfl⟩:=hn;refine .pan ?_;simp only[ZG,↓reduceIte,ZA,ZB,ZC];refine hΨ _ _ (fin_pan ⟨kq25,?_⟩);have e:brn C (fun s' p'=>expr C f s' W p') S p=none:=by simp [brn,sn,hx25]
   rw[e];exact ⟨_,rfl⟩
 | some q25 =>
   rw[hx25] at hn;obtain ⟨rfl,s25⟩:=hn;refine .ret ?_;have rm25:=rm0.keep kp25 (fun e=>hne e);simp only[ZG,↓reduceIte,ZA,ZB,ZC,s25.own.cells.ld,mbl,ZD,ZE,ZF,ct1,rm25.cells.ld,rm25.cells.lds 0 2 (by simp)];refine XX_of (below_ok s25 200000) (fun res h26 hle26 hn=>?_);obtain ⟨kp26,hn⟩:=hn;have kq26:=Keep.trans kq25 kp26;cases hx26:bl C 200000 q25 with
   | none =>
     rw[hx26] at hn;obtain ⟨v,rfl⟩:=hn;refine .pan ?_;simp only[ZG,↓reduceIte,ZA,ZB,ZC];refine hΨ _ _ (fin_pan ⟨kq26,?_⟩);have e:brn C (fun s' p'=>expr C f s' W p') S p=none:=by simp [brn,sn,hx25,hx26]
     rw[e];exact ⟨_,rfl⟩
   | some yq26 =>
     obtain ⟨x26,q26⟩:=yq26;rw[hx26] at hn;obtain ⟨rfl,s26⟩:=hn;refine .ret ?_;have rm26:=rm25.keep kp26 (fun e=>hne e)
     by_cases zp:0<x26
     ·skip
      obtain ⟨_,_,_,n0,n1⟩:=bl_inv hx26;have hpr:p<q26:=by have:=exc_on hx25;have:=bl_on hx26;omega
      simp only[ZG,↓reduceIte,ZA,ZB,ZC,s26.own.cells.ld,mbl,ZD,ZE,ZF,ct1,rm26.cells.ld,rm26.cells.lds 0 2 (by simp),zp];refine XX_val (must_true h26) ?_;simp only[ZG,↓reduceIte,ZA,ZB,ZC,s26.own.cells.ld,mbl,ZD,ZE,ZF,ct1,rm26.cells.ld,rm26.cells.lds 0 2 (by simp)];refine XLo_rule (α:=Nat × Nat × Value × List (Int × Int)) (fun a=>[(0,.pointer (some ⟨b,0,none⟩)),(3,.pointer (some ⟨h.length,0,none⟩)),(4,iv x26),(5,a.2.2.1),(17,iv x26),(18,iv a.1)])
       (fun a h'=>a.1<=x26.toNat/\Rdr h' b C vi vc vt vp vk a.2.1/\q26<=a.2.1/\a.2.1<=C.code.length/\Own h' h.length 135 [iv S,iv W]/\Keep (· = b) h h'/\Ows h' 156 2 a.2.2.1 a.1 (rowsOf wayC a.2.2.2)/\a.2.2.2.length=a.1/\(∀ q,bk a.2.2.1 q->h.length<q) /\
        (∀ l2 r,wys C (x26.toNat-a.1) a.2.1=some (l2,r)->wys C x26.toNat q26=some (a.2.2.2++l2,r))/\(wys C (x26.toNat-a.1) a.2.1=none->wys C x26.toNat q26=none)) (fun a=>x26.toNat-a.1) (0,q26,.slice none 0 0,[])
       ⟨Nat.zero_le _,s26,Nat.le_refl _,(bl_on hx26).2,rm26,kq26,.nil,rfl,fun q e=>e.elim,fun l2 r e=>by simpa using e,fun e=>by simpa using e⟩ ⟨rfl,rfl,rfl,rfl,rfl,rfl,trivial⟩ ?_
      rintro ⟨i,q,v,l⟩ h5 Ψ2 ⟨i1,s5,rq,ql,rm5,kp5,ow5,ln5,fr5,eqS,eqN⟩ next out
      simp only at i1 s5 rq ql ow5 ln5 fr5 eqS eqN
      by_cases hi:(i:Int)<x26
      ·skip
       obtain ⟨k,hk⟩:∃ k,x26.toNat-i=k+1:=⟨x26.toNat-i-1,by omega⟩
       have hw:IntKind.i64.wrap ((i:Int)+1)=i+1:=i64w (by omega) (by omega);have hwm:IntKind.i64.wrap (x26-1)=x26-1:=i64w (by omega) (by omega);rw[hk] at eqS eqN;simp only[ZG,↓reduceIte,ZA,ZB,ZC,s5.own.cells.ld,mbl,ZD,ZE,ZF,ct1,rm5.cells.ld,rm5.cells.lds 0 2 (by simp),hi];refine XX_of (next_ok s5) (fun res h27 hle27 hn=>?_);obtain ⟨kp27,hn⟩:=hn;have kq27:=Keep.trans kp5 kp27;have kr27:=Keep.trans (Keep.refl (· = b) h5) kp27;cases hx27:nx C q with
       | none =>
         rw[hx27] at hn;obtain ⟨v,rfl⟩:=hn;refine .pan ?_;simp only[ZG,↓reduceIte,ZA,ZB,ZC];refine out (.pan _) _ _ _ _ (by intro e;cases e) ?_;simp only[ZG,↓reduceIte,ZA,ZB,ZC];refine hΨ _ _ (fin_pan ⟨kq27,?_⟩);have hn0:wys C (k+1) q=none:=by simp [wys,way,hx27]
         have e:brn C (fun s' p'=>expr C f s' W p') S p=none:=by simp [brn,hx25,hx26,zp,eqN hn0]
         rw[e];exact ⟨_,rfl⟩
       | some yq27 =>
         obtain ⟨x27,q27⟩:=yq27;rw[hx27] at hn;obtain ⟨rfl,s27⟩:=hn;refine .ret ?_;have rm27:=rm5.keep kp27 (fun e=>hne e)
         by_cases d1:x27=1
         ·skip
          obtain ⟨ka,kc,hvk⟩:=row_shape s27.im.rk;simp only[ZG,↓reduceIte,ZA,ZB,ZC,s27.own.cells.ld,mbl,ZD,ZE,ZF,ct1,rm27.cells.ld,rm27.cells.lds 0 2 (by simp),d1,hvk];refine XX_of (below_ok s27 C.cons.length) (fun res h28 hle28 hn=>?_);obtain ⟨kp28,hn⟩:=hn;have kq28:=Keep.trans kq27 kp28;have kr28:=Keep.trans kr27 kp28;cases hx28:bl C C.cons.length q27 with
          | none =>
            rw[hx28] at hn;obtain ⟨v,rfl⟩:=hn;refine .pan ?_;simp only[ZG,↓reduceIte,ZA,ZB,ZC];refine out (.pan _) _ _ _ _ (by intro e;cases e) ?_;simp only[ZG,↓reduceIte,ZA,ZB,ZC];refine hΨ _ _ (fin_pan ⟨kq28,?_⟩);have hn0:wys C (k+1) q=none:=by simp [wys,way,hx27,d1,hx28]
            have e:brn C (fun s' p'=>expr C f s' W p') S p=none:=by simp [brn,hx25,hx26,zp,eqN hn0]
            rw[e];exact ⟨_,rfl⟩
          | some yq28 =>
            obtain ⟨x28,q28⟩:=yq28;rw[hx28] at hn;obtain ⟨rfl,s28⟩:=hn;refine .ret ?_;have rm28:=rm27.keep kp28 (fun e=>hne e);obtain ⟨_,_,_,c029,c129⟩:=bl_inv hx28;obtain ⟨kb29,ko29,kc29,ke29,kl29,kd29⟩:=rds_ix s28.im.rk c029 (cn_at c029 c129);have hvk29:=ke29.symm.trans hvk;cases hvk29;simp only[ZG,↓reduceIte,ZA,ZB,ZC,s28.own.cells.ld,mbl,ZD,ZE,ZF,ct1,rm28.cells.ld,rm28.cells.lds 0 2 (by simp),ke29,hvk,c029,kl29,c129,and_self,Z2,kd29];refine XX_of (exact_ok s28 (cn C x28)) (fun res h30 hle30 hn=>?_);obtain ⟨kp30,hn⟩:=hn;have kq30:=Keep.trans kq28 kp30;have kr30:=Keep.trans kr28 kp30;cases hx30:exc C (cn C x28) q28 with
            | none =>
              rw[hx30] at hn;obtain ⟨v,rfl⟩:=hn;refine .pan ?_;simp only[ZG,↓reduceIte,ZA,ZB,ZC];refine out (.pan _) _ _ _ _ (by intro e;cases e) ?_;simp only[ZG,↓reduceIte,ZA,ZB,ZC];refine hΨ _ _ (fin_pan ⟨kq30,?_⟩);have hn0:wys C (k+1) q=none:=by simp [wys,way,hx27,d1,hx28,hx30]
              have e:brn C (fun s' p'=>expr C f s' W p') S p=none:=by simp [brn,hx25,hx26,zp,eqN hn0]
              rw[e];exact ⟨_,rfl⟩
            | some q30 =>
              rw[hx30] at hn;obtain ⟨rfl,s30⟩:=hn;refine .ret ?_;have rm30:=rm28.keep kp30 (fun e=>hne e);simp only[ZG,↓reduceIte,ZA,ZB,ZC,s30.own.cells.ld,mbl,ZD,ZE,ZF,ct1,rm30.cells.ld,rm30.cells.lds 0 2 (by simp)];refine XX_of (next_ok s30) (fun res h31 hle31 hn=>?_);obtain ⟨kp31,hn⟩:=hn;have kq31:=Keep.trans kq30 kp31;have kr31:=Keep.trans kr30 kp31;cases hx31:nx C q30 with
              | none =>
                rw[hx31] at hn;obtain ⟨v,rfl⟩:=hn;refine .pan ?_;simp only[ZG,↓reduceIte,ZA,ZB,ZC];refine out (.pan _) _ _ _ _ (by intro e;cases e) ?_;simp only[ZG,↓reduceIte,ZA,ZB,ZC];refine hΨ _ _ (fin_pan ⟨kq31,?_⟩);have hn0:wys C (k+1) q=none:=by simp [wys,way,hx27,d1,hx28,hx30,hx31]
                have e:brn C (fun s' p'=>expr C f s' W p') S p=none:=by simp [brn,hx25,hx26,zp,eqN hn0]
                rw[e];exact ⟨_,rfl⟩
              | some yq31 =>
                obtain ⟨x31,q31⟩:=yq31;rw[hx31] at hn;obtain ⟨rfl,s31⟩:=hn;refine .ret ?_;have rm31:=rm30.keep kp31 (fun e=>hne e);have hwy:way C (k == 0) q=some ((cn C x28,x31),q31):=by simp [way,hx27,d1,hx28,hx30,hx31]
                have ow6:=ow5.keep kr31 (fun q hq e=>by have:=fr5 q hq;have:=s.own.lt;omega);obtain ⟨v6,h6,k1,k2,k3,k4⟩:=app1 (bytes:=16) ow6 (xs:=ns (wayC (cn C x28,x31))) rfl (ns_one _) (by omega) (by omega);simp only[ns,wayC,Z3,Z4] at k1;simp only[ZG,↓reduceIte,ZA,ZB,ZC,s31.own.cells.ld,mbl,ZD,ZE,ZF,ct1,rm31.cells.ld,rm31.cells.lds 0 2 (by simp),k1,hw];have hlt6:h.length<h31.length:=rm31.lt;refine next (i+1,q31,v6,l++[(cn C x28,x31)]) _ _ _ ⟨by simp only;omega,s31.keep k3 ?_,by have:=way_on hwy;simp only;omega,(way_on hwy).2,rm31.keep k3 (fun e=>by have:=fr5 _ e;omega),kq31.trans' k3 (fun c hc e=>by have:=fr5 _ e;omega),?_,by simp [ln5],?_,?_,?_⟩ ⟨rfl,rfl,rfl,rfl,rfl,?_,trivial⟩ (by simp only;omega)
                ·rintro q0 (rfl|e) e2
                 ·have:=fr5 _ e2;have:=s.own.lt;omega
                 ·have:=fr5 _ e2;have:=s.im.lt _ e;omega
                ·rw[rowsOf_app];simpa [rowsOf,ns,wayC] using k2
                ·intro q0 e
                 rcases k4 q0 e with e|e
                 ·exact fr5 q0 e
                 ·omega
                ·intro l2 r2 e
                 have e1:x26.toNat-(i+1)=k:=by omega
                 simp only[e1] at e;have:=eqS ((cn C x28,x31)::l2) r2 (by simp [wys,hwy,e])
                 simpa using this
                ·intro e
                 have e1:x26.toNat-(i+1)=k:=by omega
                 simp only[e1] at e;exact eqN (by simp [wys,hwy,e])
                ·simp only[Z1,Z0];rfl
         by_cases d2:x27=2
         ·skip
          simp only[ZG,↓reduceIte,ZA,ZB,ZC,s27.own.cells.ld,mbl,ZD,ZE,ZF,ct1,rm27.cells.ld,rm27.cells.lds 0 2 (by simp),d1,d2];refine XX_of (next_ok s27) (fun res h32 hle32 hn=>?_);obtain ⟨kp32,hn⟩:=hn;have kq32:=Keep.trans kq27 kp32;have kr32:=Keep.trans kr27 kp32;cases hx32:nx C q27 with
          | none =>
            rw[hx32] at hn;obtain ⟨v,rfl⟩:=hn;refine .pan ?_;simp only[ZG,↓reduceIte,ZA,ZB,ZC];refine out (.pan _) _ _ _ _ (by intro e;cases e) ?_;simp only[ZG,↓reduceIte,ZA,ZB,ZC];refine hΨ _ _ (fin_pan ⟨kq32,?_⟩);have hn0:wys C (k+1) q=none:=by simp [wys,way,hx27,d1,d2,hx32]
            have e:brn C (fun s' p'=>expr C f s' W p') S p=none:=by simp [brn,hx25,hx26,zp,eqN hn0]
            rw[e];exact ⟨_,rfl⟩
          | some yq32 =>
            obtain ⟨x32,q32⟩:=yq32;rw[hx32] at hn;obtain ⟨rfl,s32⟩:=hn;refine .ret ?_;have rm32:=rm27.keep kp32 (fun e=>hne e);simp only[ZG,↓reduceIte,ZA,ZB,ZC,s32.own.cells.ld,mbl,ZD,ZE,ZF,ct1,rm32.cells.ld,rm32.cells.lds 0 2 (by simp)];refine XX_of (exact_ok s32 0) (fun res h33 hle33 hn=>?_);obtain ⟨kp33,hn⟩:=hn;have kq33:=Keep.trans kq32 kp33;have kr33:=Keep.trans kr32 kp33;cases hx33:exc C 0 q32 with
            | none =>
              rw[hx33] at hn;obtain ⟨v,rfl⟩:=hn;refine .pan ?_;simp only[ZG,↓reduceIte,ZA,ZB,ZC];refine out (.pan _) _ _ _ _ (by intro e;cases e) ?_;simp only[ZG,↓reduceIte,ZA,ZB,ZC];refine hΨ _ _ (fin_pan ⟨kq33,?_⟩);have hn0:wys C (k+1) q=none:=by simp [wys,way,hx27,d1,d2,hx32,hx33]
              have e:brn C (fun s' p'=>expr C f s' W p') S p=none:=by simp [brn,hx25,hx26,zp,eqN hn0]
              rw[e];exact ⟨_,rfl⟩
            | some q33 =>
              rw[hx33] at hn;obtain ⟨rfl,s33⟩:=hn;refine .ret ?_;have rm33:=rm32.keep kp33 (fun e=>hne e);simp only[ZG,↓reduceIte,ZA,ZB,ZC,s33.own.cells.ld,mbl,ZD,ZE,ZF,ct1,rm33.cells.ld,rm33.cells.lds 0 2 (by simp)];refine XX_of (next_ok s33) (fun res h34 hle34 hn=>?_);obtain ⟨kp34,hn⟩:=hn;have kq34:=Keep.trans kq33 kp34;have kr34:=Keep.trans kr33 kp34;cases hx34:nx C q33 with
              | none =>
                rw[hx34] at hn;obtain ⟨v,rfl⟩:=hn;refine .pan ?_;simp only[ZG,↓reduceIte,ZA,ZB,ZC];refine out (.pan _) _ _ _ _ (by intro e;cases e) ?_;simp only[ZG,↓reduceIte,ZA,ZB,ZC];refine hΨ _ _ (fin_pan ⟨kq34,?_⟩);have hn0:wys C (k+1) q=none:=by simp [wys,way,hx27,d1,d2,hx32,hx33,hx34]
                have e:brn C (fun s' p'=>expr C f s' W p') S p=none:=by simp [brn,hx25,hx26,zp,eqN hn0]
                rw[e];exact ⟨_,rfl⟩
              | some yq34 =>
                obtain ⟨x34,q34⟩:=yq34;rw[hx34] at hn;obtain ⟨rfl,s34⟩:=hn;refine .ret ?_;have rm34:=rm33.keep kp34 (fun e=>hne e);have hwy:way C (k == 0) q=some ((0,x34),q34):=by simp [way,hx27,d1,d2,hx32,hx33,hx34]
                have ow6:=ow5.keep kr34 (fun q hq e=>by have:=fr5 q hq;have:=s.own.lt;omega);obtain ⟨v6,h6,k1,k2,k3,k4⟩:=app1 (bytes:=16) ow6 (xs:=ns (wayC (0,x34))) rfl (ns_one _) (by omega) (by omega);simp only[ns,wayC,Z3,Z4] at k1;simp only[ZG,↓reduceIte,ZA,ZB,ZC,s34.own.cells.ld,mbl,ZD,ZE,ZF,ct1,rm34.cells.ld,rm34.cells.lds 0 2 (by simp),k1,hw];have hlt6:h.length<h34.length:=rm34.lt;refine next (i+1,q34,v6,l++[(0,x34)]) _ _ _ ⟨by simp only;omega,s34.keep k3 ?_,by have:=way_on hwy;simp only;omega,(way_on hwy).2,rm34.keep k3 (fun e=>by have:=fr5 _ e;omega),kq34.trans' k3 (fun c hc e=>by have:=fr5 _ e;omega),?_,by simp [ln5],?_,?_,?_⟩ ⟨rfl,rfl,rfl,rfl,rfl,?_,trivial⟩ (by simp only;omega)
                ·rintro q0 (rfl|e) e2
                 ·have:=fr5 _ e2;have:=s.own.lt;omega
                 ·have:=fr5 _ e2;have:=s.im.lt _ e;omega
                ·rw[rowsOf_app];simpa [rowsOf,ns,wayC] using k2
                ·intro q0 e
                 rcases k4 q0 e with e|e
                 ·exact fr5 q0 e
                 ·omega
                ·intro l2 r2 e
                 have e1:x26.toNat-(i+1)=k:=by omega
                 simp only[e1] at e;have:=eqS ((0,x34)::l2) r2 (by simp [wys,hwy,e])
                 simpa using this
                ·intro e
                 have e1:x26.toNat-(i+1)=k:=by omega
                 simp only[e1] at e;exact eqN (by simp [wys,hwy,e])
                ·simp only[Z1,Z0];rfl
         by_cases d3:x27=3
         ·skip
          by_cases hlast:(i:Int)=x26-1
          ·skip
           have hk0:k=0:=by omega
           have hd:((i:Int)=x26-1)=True:=by simp [hlast]
           simp only[ZG,↓reduceIte,ZA,ZB,ZC,s27.own.cells.ld,mbl,ZD,ZE,ZF,ct1,rm27.cells.ld,rm27.cells.lds 0 2 (by simp),d1,d2,d3,hwm,hd];refine XX_val (must_true h27) ?_;simp only[ZG,↓reduceIte,ZA,ZB,ZC,s27.own.cells.ld,mbl,ZD,ZE,ZF,ct1,rm27.cells.ld,rm27.cells.lds 0 2 (by simp)];refine XX_of (exact_ok s27 0) (fun res h35 hle35 hn=>?_);obtain ⟨kp35,hn⟩:=hn;have kq35:=Keep.trans kq27 kp35;have kr35:=Keep.trans kr27 kp35;cases hx35:exc C 0 q27 with
           | none =>
             rw[hx35] at hn;obtain ⟨v,rfl⟩:=hn;refine .pan ?_;simp only[ZG,↓reduceIte,ZA,ZB,ZC];refine out (.pan _) _ _ _ _ (by intro e;cases e) ?_;simp only[ZG,↓reduceIte,ZA,ZB,ZC];refine hΨ _ _ (fin_pan ⟨kq35,?_⟩);have hn0:wys C (k+1) q=none:=by simp [wys,way,hx27,d1,d2,d3,hk0,hx35]
             have e:brn C (fun s' p'=>expr C f s' W p') S p=none:=by simp [brn,hx25,hx26,zp,eqN hn0]
             rw[e];exact ⟨_,rfl⟩
           | some q35 =>
             rw[hx35] at hn;obtain ⟨rfl,s35⟩:=hn;refine .ret ?_;have rm35:=rm27.keep kp35 (fun e=>hne e);simp only[ZG,↓reduceIte,ZA,ZB,ZC,s35.own.cells.ld,mbl,ZD,ZE,ZF,ct1,rm35.cells.ld,rm35.cells.lds 0 2 (by simp)];refine XX_of (below_ok s35 2) (fun res h36 hle36 hn=>?_);obtain ⟨kp36,hn⟩:=hn;have kq36:=Keep.trans kq35 kp36;have kr36:=Keep.trans kr35 kp36;cases hx36:bl C 2 q35 with
             | none =>
               rw[hx36] at hn;obtain ⟨v,rfl⟩:=hn;refine .pan ?_;simp only[ZG,↓reduceIte,ZA,ZB,ZC];refine out (.pan _) _ _ _ _ (by intro e;cases e) ?_;simp only[ZG,↓reduceIte,ZA,ZB,ZC];refine hΨ _ _ (fin_pan ⟨kq36,?_⟩);have hn0:wys C (k+1) q=none:=by simp [wys,way,hx27,d1,d2,d3,hk0,hx35,hx36]
               have e:brn C (fun s' p'=>expr C f s' W p') S p=none:=by simp [brn,hx25,hx26,zp,eqN hn0]
               rw[e];exact ⟨_,rfl⟩
             | some yq36 =>
               obtain ⟨x36,q36⟩:=yq36;rw[hx36] at hn;obtain ⟨rfl,s36⟩:=hn;refine .ret ?_;have rm36:=rm35.keep kp36 (fun e=>hne e);simp only[ZG,↓reduceIte,ZA,ZB,ZC,s36.own.cells.ld,mbl,ZD,ZE,ZF,ct1,rm36.cells.ld,rm36.cells.lds 0 2 (by simp)];refine XX_of (next_ok s36) (fun res h37 hle37 hn=>?_);obtain ⟨kp37,hn⟩:=hn;have kq37:=Keep.trans kq36 kp37;have kr37:=Keep.trans kr36 kp37;cases hx37:nx C q36 with
               | none =>
                 rw[hx37] at hn;obtain ⟨v,rfl⟩:=hn;refine .pan ?_;simp only[ZG,↓reduceIte,ZA,ZB,ZC];refine out (.pan _) _ _ _ _ (by intro e;cases e) ?_;simp only[ZG,↓reduceIte,ZA,ZB,ZC];refine hΨ _ _ (fin_pan ⟨kq37,?_⟩);have hn0:wys C (k+1) q=none:=by simp [wys,way,hx27,d1,d2,d3,hk0,hx35,hx36,hx37]
                 have e:brn C (fun s' p'=>expr C f s' W p') S p=none:=by simp [brn,hx25,hx26,zp,eqN hn0]
                 rw[e];exact ⟨_,rfl⟩
               | some yq37 =>
                 obtain ⟨x37,q37⟩:=yq37;rw[hx37] at hn;obtain ⟨rfl,s37⟩:=hn;refine .ret ?_;have rm37:=rm36.keep kp37 (fun e=>hne e);have hwy:way C (k == 0) q=some ((x36,x37),q37):=by simp [way,hx27,d1,d2,d3,hk0,hx35,hx36,hx37]
                 have ow6:=ow5.keep kr37 (fun q hq e=>by have:=fr5 q hq;have:=s.own.lt;omega);obtain ⟨v6,h6,k1,k2,k3,k4⟩:=app1 (bytes:=16) ow6 (xs:=ns (wayC (x36,x37))) rfl (ns_one _) (by omega) (by omega);simp only[ns,wayC,Z3,Z4] at k1;simp only[ZG,↓reduceIte,ZA,ZB,ZC,s37.own.cells.ld,mbl,ZD,ZE,ZF,ct1,rm37.cells.ld,rm37.cells.lds 0 2 (by simp),k1,hw];have hlt6:h.length<h37.length:=rm37.lt;refine next (i+1,q37,v6,l++[(x36,x37)]) _ _ _ ⟨by simp only;omega,s37.keep k3 ?_,by have:=way_on hwy;simp only;omega,(way_on hwy).2,rm37.keep k3 (fun e=>by have:=fr5 _ e;omega),kq37.trans' k3 (fun c hc e=>by have:=fr5 _ e;omega),?_,by simp [ln5],?_,?_,?_⟩ ⟨rfl,rfl,rfl,rfl,rfl,?_,trivial⟩ (by simp only;omega)
                 ·rintro q0 (rfl|e) e2
                  ·have:=fr5 _ e2;have:=s.own.lt;omega
                  ·have:=fr5 _ e2;have:=s.im.lt _ e;omega
                 ·rw[rowsOf_app];simpa [rowsOf,ns,wayC] using k2
                 ·intro q0 e
                  rcases k4 q0 e with e|e
                  ·exact fr5 q0 e
                  ·omega
                 ·intro l2 r2 e
                  have e1:x26.toNat-(i+1)=k:=by omega
                  simp only[e1] at e;have:=eqS ((x36,x37)::l2) r2 (by simp [wys,hwy,e])
                  simpa using this
                 ·intro e
                  have e1:x26.toNat-(i+1)=k:=by omega
                  simp only[e1] at e;exact eqN (by simp [wys,hwy,e])
                 ·simp only[Z1,Z0];rfl
          ·skip
           have hk0:k≠0:=by omega
           have hd:((i:Int)=x26-1)=False:=by simp [hlast]
           simp only[ZG,↓reduceIte,ZA,ZB,ZC,s27.own.cells.ld,mbl,ZD,ZE,ZF,ct1,rm27.cells.ld,rm27.cells.lds 0 2 (by simp),d1,d2,d3,hwm,hd];refine XX_of (must_false h27) (fun res hm hle hn=>?_);obtain ⟨rfl,v,rfl⟩:=hn;refine .pan ?_;simp only[ZG,↓reduceIte,ZA,ZB,ZC];refine out (.pan _) _ _ _ _ (by intro e;cases e) ?_;simp only[ZG,↓reduceIte,ZA,ZB,ZC];refine hΨ _ _ (fin_pan ⟨kq27,?_⟩);have hn0:wys C (k+1) q=none:=by simp [wys,way,hx27,d1,d2,d3,hk0]
           have e:brn C (fun s' p'=>expr C f s' W p') S p=none:=by simp [brn,hx25,hx26,zp,eqN hn0]
           rw[e];exact ⟨_,rfl⟩
         simp only[ZG,↓reduceIte,ZA,ZB,ZC,s27.own.cells.ld,mbl,ZD,ZE,ZF,ct1,rm27.cells.ld,rm27.cells.lds 0 2 (by simp),d1,d2,d3];refine XX_of (must_false h27) (fun res hm hle hn=>?_);obtain ⟨rfl,v,rfl⟩:=hn;refine .pan ?_;simp only[ZG,↓reduceIte,ZA,ZB,ZC];refine out (.pan _) _ _ _ _ (by intro e;cases e) ?_;simp only[ZG,↓reduceIte,ZA,ZB,ZC];refine hΨ _ _ (fin_pan ⟨kq27,?_⟩);have hn0:wys C (k+1) q=none:=by simp [wys,way,hx27,d1,d2,d3]
         have e:brn C (fun s' p'=>expr C f s' W p') S p=none:=by simp [brn,hx25,hx26,zp,eqN hn0]
         rw[e];exact ⟨_,rfl⟩
      ·skip
       have hin:i=x26.toNat:=by omega
       subst hin;have eqW:=eqS [] q (by rw[Nat.sub_self];rfl);rw[List.append_nil] at eqW;obtain ⟨va,vcp,hv5⟩:=row_shape ow5.rds;simp only[ZG,↓reduceIte,ZA,ZB,ZC,hi];refine out (.exit 0) _ _ _ _ (by intro e;cases e) ?_;simp only[ZG,↓reduceIte,ZA,ZB,ZC,hv5];rw[<- hv5];refine XLo_rule (α:=Nat × Nat) (fun a=>[(0,.pointer (some ⟨b,0,none⟩)),(3,.pointer (some ⟨h.length,0,none⟩)),(69,v),(70,iv x26.toNat),(71,iv a.1)])
        (fun a h'=>a.1<=x26.toNat/\Rdr h' b C vi vc vt vp vk a.2/\p<a.2/\a.2<=C.code.length/\Own h' h.length 135 [iv S,iv W]/\Keep (· = b) h h'/\Ows h' 156 2 v x26.toNat (rowsOf wayC l) /\
         runs (fun s' p'=>expr C f s' W p') S l q=runs (fun s' p'=>expr C f s' W p') S (l.drop a.1) a.2) (fun a=>x26.toNat-a.1) (0,q)
        ⟨by omega,s5,by simp only;omega,ql,rm5,kp5,ow5,rfl⟩ ⟨rfl,rfl,rfl,rfl,rfl,trivial⟩ ?_
       rintro ⟨j,q7⟩ h7 Ψ3 ⟨j1,s7,pq,ql7,rm7,kp7,ow7,eqR⟩ next2 out2;simp only at j1 s7 pq ql7 eqR;have hbr:∀ y,runs (fun s' p'=>expr C f s' W p') S (l.drop j) q7=y->brn C (fun s' p'=>expr C f s' W p') S p=y:=by
        intro y hy;simp [brn,hx25,hx26,zp,eqW,eqR,hy]
       by_cases hj:(j:Int)<(x26.toNat:Nat)
       ·have hjl:j<l.length:=by omega
        have hw:IntKind.i64.wrap ((j:Int)+1)=j+1:=i64w (by omega) (by omega);have hj0:0<=(j:Int):=by omega
        obtain ⟨⟨x,a⟩,hxa⟩:∃ x,l[j]?=some x:=⟨_,Z5 hjl⟩
        have hdr:l.drop j=(x,a)::l.drop (j+1):=by
         rw[List.drop_eq_getElem_cons hjl];have:=Z5 hjl;rw[hxa] at this;rw[<- Option.some.inj this]
        obtain ⟨b8,o8,c8,e8,hlt8,hld8⟩:=rds_str (by omega) wayL ow7.rds hxa;simp only[wayC,ns,Z3,Z4] at hld8;simp only[ZG,↓reduceIte,ZA,ZB,ZC,hj,e8,hj0,and_self,hld8,Int.toNat_natCast,mbl,ZD,ZE,ZF];have on:=Own.new h7 156 h7.length [iv 0,iv 0];refine XH_own on rfl (by simp [Value.cells]) rfl (fun h8 q1 q2 q3=>?_);have on8:Own h8 h7.length 156 [iv x,iv a]:=by simpa [Value.cells] using q1
        have kp8:Keep (fun q=>q=h7.length) h7 h8:=((Keep.push (fun _=>False) h7 _).mono (fun _ e=>e.elim)).trans q2;have lb7:b<h7.length:=s7.own.lt;have lr7:h.length<h7.length:=rm7.lt;have s8:=s7.keep kp8 (by rintro q0 (rfl|e) e2;omega;have:=s7.im.lt _ e;omega);have rm8:=rm7.keep kp8 (fun e=>by omega);have ow8:=ow7.keep kp8 (fun q0 e e2=>by have:=ow7.lt q0 e;omega);have kph8:Keep (· = b) h h8:=kp7.trans' kp8 (fun c hc e=>by have:=kp7.len;omega)
        by_cases hpa:(q7:Int)=a
        ·simp only[ZG,↓reduceIte,ZA,ZB,ZC,s8.own.cells.ld,on8.cells.ld,mbl,ZD,ZE,ZF,ct1,hpa]
         refine XX_val (must_true h8) ?_;simp only[ZG,↓reduceIte,ZA,ZB,ZC,rm8.cells.ld,on8.cells.ld,mbl,ZD,ZE,ZF];refine XX_of (hE h8 q7 (IntKind.i64.wrap (S+x)) (by omega) ql7 s8) (fun res h9 hle9 hn=>?_);obtain ⟨kp9,hn⟩:=hn;cases hx9:expr C f (IntKind.i64.wrap (S+x)) W q7 with
         | none =>
           rw[hx9] at hn;obtain ⟨v9,rfl⟩:=hn;refine .pan ?_;simp only[ZG,↓reduceIte,ZA,ZB,ZC];refine out2 (.pan _) _ _ _ _ (by intro e;cases e) ?_;simp only[ZG,↓reduceIte,ZA,ZB,ZC];refine hΨ _ _ (fin_pan ⟨kph8.trans kp9,?_⟩);rw[hbr none (by rw[hdr];simp [runs,hpa,hx9])];exact ⟨_,rfl⟩
         | some q9 =>
           rw[hx9] at hn;obtain ⟨rfl,s9⟩:=hn;refine .ret ?_;have hon:=expr_on _ _ _ _ hx9;simp only[ZG,↓reduceIte,ZA,ZB,ZC,hw];refine next2 (j+1,q9) _ _ _ ⟨by simp only;omega,s9,by simp only;omega,hon.2,rm8.keep kp9 (fun e=>hne e),kph8.trans kp9,ow8.keep kp9 (fun q0 e e2=>by have:=fr5 q0 e;have:=s.own.lt;omega),?_⟩ ⟨rfl,rfl,by rw[e8];rfl,rfl,?_,trivial⟩ (by simp only;omega)
           ·rw[eqR,hdr];simp [runs,hpa,hx9]
           ·simp only[Z1,Z0];rfl
        ·simp only[ZG,↓reduceIte,ZA,ZB,ZC,s8.own.cells.ld,on8.cells.ld,mbl,ZD,ZE,ZF,ct1,hpa]
         refine XX_of (must_false h8) (fun res hm hle hn=>?_);obtain ⟨rfl,v9,rfl⟩:=hn;refine .pan ?_;simp only[ZG,↓reduceIte,ZA,ZB,ZC];refine out2 (.pan _) _ _ _ _ (by intro e;cases e) ?_;simp only[ZG,↓reduceIte,ZA,ZB,ZC];refine hΨ _ _ (fin_pan ⟨kph8,?_⟩);rw[hbr none (by rw[hdr];simp [runs,hpa])];exact ⟨_,rfl⟩
       ·have hjn:j=l.length:=by omega
        simp only[ZG,↓reduceIte,ZA,ZB,ZC,hj];refine out2 (.exit 3) _ _ _ _ (by intro e;cases e) ?_;simp only[ZG,↓reduceIte,ZA,ZB,ZC];refine hΨ _ _ (fin_norm ⟨kp7,?_⟩);rw[hbr (some q7) (by rw[hjn,List.drop_length];rfl)];exact ⟨rfl,s7⟩
     ·skip
      simp only[ZG,↓reduceIte,ZA,ZB,ZC,s26.own.cells.ld,mbl,ZD,ZE,ZF,ct1,rm26.cells.ld,rm26.cells.lds 0 2 (by simp),zp];refine XX_of (must_false h26) (fun res hm hle hn=>?_);obtain ⟨rfl,v,rfl⟩:=hn;refine .pan ?_;simp only[ZG,↓reduceIte,ZA,ZB,ZC];refine hΨ _ _ (fin_pan ⟨kq26,?_⟩);have e:brn C (fun s' p'=>expr C f s' W p') S p=none:=by simp [brn,sn,hx25,hx26,zp]
      rw[e];exact ⟨_,rfl⟩
theorem expr_ok (W:Int):∀ (f:Nat) (h:AH) (p:Nat) (S:Int),C.code.length-p<f->p<=C.code.length->Rdr h b C vi vc vt vp vk p->Gets Tryd.prog 78 [.pointer (some ⟨b,0,none⟩),.agg #[iv S,iv W]] h (RdO h b C vi vc vt vp vk (expr C f S W p)):=by
 intro f
 induction f with
 | zero=>intro h p S hf;omega
 | succ f ih =>
   intro h p S hf hpl s;refine Gets.of (keep:=false) hP (draw_ok hM) k78 (by rfl) (fun Ψ hΨ=>?_);have hl:=s.hl;have hk0:Keep (· = b) h (h++[row 135 h.length [iv S,iv W]]):=Keep.push _ _ _;have rm0:=Own.new h 135 h.length [iv S,iv W];have s0:=s.keep (Keep.push (fun _=>False) h (row 135 h.length [iv S,iv W])) (fun _ _ e=>e);have hne:h.length≠b:=fun e=>by have:=s.own.lt;omega
   simp only[ZG,↓reduceIte,ZA,ZB,ZC,r78,YE,YC,YO,YA,YL,YX,YS,Ya,Yb,Yl,Yf,Yg,Yi,Ym,Yk,Yt,Yn,Yz,Yp,Yq,Yd,mbl,ZD,ZE,ZF];generalize hh0:h++[row 135 h.length [iv S,iv W]]=h0 at hk0 rm0 s0 ⊢;refine XX_of (next_ok s0) (fun res h38 hle38 hn=>?_);obtain ⟨kp38,hn⟩:=hn;have kq38:=Keep.trans hk0 kp38;cases hx38:nx C p with
   | none =>
     rw[hx38] at hn;obtain ⟨v,rfl⟩:=hn;refine .pan ?_;simp only[ZG,↓reduceIte,ZA,ZB,ZC];refine hΨ _ _ (fin_pan ⟨kq38,?_⟩);have e:expr C (f+1) S W p=none:=by simp [expr,sn,hx38]
     rw[e];exact ⟨_,rfl⟩
   | some yq38 =>
     obtain ⟨x38,q38⟩:=yq38;rw[hx38] at hn;obtain ⟨rfl,s38⟩:=hn;refine .ret ?_;have rm38:=rm0.keep kp38 (fun e=>hne e)
     by_cases d1:x38=1
     ·skip
      simp only[ZG,↓reduceIte,ZA,ZB,ZC,s38.own.cells.ld,mbl,ZD,ZE,ZF,ct1,rm38.cells.ld,rm38.cells.lds 0 2 (by simp),d1];refine XX_of (operand_ok s38 S W) (fun res h39 hle39 hn=>?_);obtain ⟨kp39,hn⟩:=hn;have kq39:=Keep.trans kq38 kp39;cases hx39:oprnd C S W q38 with
      | none =>
        rw[hx39] at hn;obtain ⟨v,rfl⟩:=hn;refine .pan ?_;simp only[ZG,↓reduceIte,ZA,ZB,ZC];refine hΨ _ _ (fin_pan ⟨kq39,?_⟩);have e:expr C (f+1) S W p=none:=by simp [expr,sn,hx38,d1,hx39]
        rw[e];exact ⟨_,rfl⟩
      | some q39 =>
        rw[hx39] at hn;obtain ⟨rfl,s39⟩:=hn;refine .ret ?_;have rm39:=rm38.keep kp39 (fun e=>hne e);simp only[ZG,↓reduceIte,ZA,ZB,ZC,s39.own.cells.ld,mbl,ZD,ZE,ZF,ct1,rm39.cells.ld,rm39.cells.lds 0 2 (by simp)];refine hΨ _ _ (fin_norm ⟨kq39,?_⟩);have e:expr C (f+1) S W p=some q39:=by simp [expr,sn,hx38,d1,hx39]
        rw[e];exact ⟨rfl,s39⟩
     by_cases d2:x38=2
     ·skip
      simp only[ZG,↓reduceIte,ZA,ZB,ZC,s38.own.cells.ld,mbl,ZD,ZE,ZF,ct1,rm38.cells.ld,rm38.cells.lds 0 2 (by simp),d1,d2];refine XX_of (below_ok s38 9) (fun res h40 hle40 hn=>?_);obtain ⟨kp40,hn⟩:=hn;have kq40:=Keep.trans kq38 kp40;cases hx40:bl C 9 q38 with
      | none =>
        rw[hx40] at hn;obtain ⟨v,rfl⟩:=hn;refine .pan ?_;simp only[ZG,↓reduceIte,ZA,ZB,ZC];refine hΨ _ _ (fin_pan ⟨kq40,?_⟩);have e:expr C (f+1) S W p=none:=by simp [expr,sn,hx38,d1,d2,hx40]
        rw[e];exact ⟨_,rfl⟩
      | some yq40 =>
        obtain ⟨x40,q40⟩:=yq40;rw[hx40] at hn;obtain ⟨rfl,s40⟩:=hn;refine .ret ?_;have rm40:=rm38.keep kp40 (fun e=>hne e);obtain ⟨_,_,_,n0,n1⟩:=bl_inv hx40;have hw:IntKind.i64.wrap (x40+1)=x40+1:=i64w (by omega) (by omega)
        by_cases z:0<x40
        ·skip
         simp only[ZG,↓reduceIte,ZA,ZB,ZC,s40.own.cells.ld,mbl,ZD,ZE,ZF,ct1,rm40.cells.ld,rm40.cells.lds 0 2 (by simp),z];refine XX_val (must_true h40) ?_;simp only[ZG,↓reduceIte,ZA,ZB,ZC,s40.own.cells.ld,mbl,ZD,ZE,ZF,ct1,rm40.cells.ld,rm40.cells.lds 0 2 (by simp),hw];refine XX_of (operands_ok s40 (bl_on hx40).2 (x40+1) (S) W) (fun res h41 hle41 hn=>?_);obtain ⟨kp41,hn⟩:=hn;have kq41:=Keep.trans kq40 kp41;cases hx41:oprnds C (S) W (x40+1).toNat q40 with
         | none =>
           rw[hx41] at hn;obtain ⟨v,rfl⟩:=hn;refine .pan ?_;simp only[ZG,↓reduceIte,ZA,ZB,ZC];refine hΨ _ _ (fin_pan ⟨kq41,?_⟩);have e:expr C (f+1) S W p=none:=by simp [expr,sn,hx38,d1,d2,hx40,z,hx41]
           rw[e];exact ⟨_,rfl⟩
         | some q41 =>
           rw[hx41] at hn;obtain ⟨rfl,s41⟩:=hn;refine .ret ?_;have rm41:=rm40.keep kp41 (fun e=>hne e);simp only[ZG,↓reduceIte,ZA,ZB,ZC,s41.own.cells.ld,mbl,ZD,ZE,ZF,ct1,rm41.cells.ld,rm41.cells.lds 0 2 (by simp)];refine hΨ _ _ (fin_norm ⟨kq41,?_⟩);have e:expr C (f+1) S W p=some q41:=by simp [expr,sn,hx38,d1,d2,hx40,z,hx41]
           rw[e];exact ⟨rfl,s41⟩
        ·skip
         simp only[ZG,↓reduceIte,ZA,ZB,ZC,s40.own.cells.ld,mbl,ZD,ZE,ZF,ct1,rm40.cells.ld,rm40.cells.lds 0 2 (by simp),z];refine XX_of (must_false h40) (fun res hm hle hn=>?_);obtain ⟨rfl,v,rfl⟩:=hn;refine .pan ?_;simp only[ZG,↓reduceIte,ZA,ZB,ZC];refine hΨ _ _ (fin_pan ⟨kq40,?_⟩);have e:expr C (f+1) S W p=none:=by simp [expr,sn,hx38,d1,d2,hx40,z]
         rw[e];exact ⟨_,rfl⟩
     by_cases d3:x38=3
     ·skip
      simp only[ZG,↓reduceIte,ZA,ZB,ZC,s38.own.cells.ld,mbl,ZD,ZE,ZF,ct1,rm38.cells.ld,rm38.cells.lds 0 2 (by simp),d1,d2,d3];refine XX_of (fields_ok s38 S W) (fun res h42 hle42 hn=>?_);obtain ⟨kp42,hn⟩:=hn;have kq42:=Keep.trans kq38 kp42;cases hx42:flds C S W q38 with
      | none =>
        rw[hx42] at hn;obtain ⟨v,rfl⟩:=hn;refine .pan ?_;simp only[ZG,↓reduceIte,ZA,ZB,ZC];refine hΨ _ _ (fin_pan ⟨kq42,?_⟩);have e:expr C (f+1) S W p=none:=by simp [expr,sn,hx38,d1,d2,d3,hx42]
        rw[e];exact ⟨_,rfl⟩
      | some q42 =>
        rw[hx42] at hn;obtain ⟨rfl,s42⟩:=hn;refine .ret ?_;have rm42:=rm38.keep kp42 (fun e=>hne e);simp only[ZG,↓reduceIte,ZA,ZB,ZC,s42.own.cells.ld,mbl,ZD,ZE,ZF,ct1,rm42.cells.ld,rm42.cells.lds 0 2 (by simp)];refine hΨ _ _ (fin_norm ⟨kq42,?_⟩);have e:expr C (f+1) S W p=some q42:=by simp [expr,sn,hx38,d1,d2,d3,hx42]
        rw[e];exact ⟨rfl,s42⟩
     by_cases d4:x38=4
     ·skip
      simp only[ZG,↓reduceIte,ZA,ZB,ZC,s38.own.cells.ld,mbl,ZD,ZE,ZF,ct1,rm38.cells.ld,rm38.cells.lds 0 2 (by simp),d1,d2,d3,d4];refine XX_of (below_ok s38 14) (fun res h43 hle43 hn=>?_);obtain ⟨kp43,hn⟩:=hn;have kq43:=Keep.trans kq38 kp43;cases hx43:bl C 14 q38 with
      | none =>
        rw[hx43] at hn;obtain ⟨v,rfl⟩:=hn;refine .pan ?_;simp only[ZG,↓reduceIte,ZA,ZB,ZC];refine hΨ _ _ (fin_pan ⟨kq43,?_⟩);have e:expr C (f+1) S W p=none:=by simp [expr,sn,hx38,d1,d2,d3,d4,hx43]
        rw[e];exact ⟨_,rfl⟩
      | some yq43 =>
        obtain ⟨x43,q43⟩:=yq43;rw[hx43] at hn;obtain ⟨rfl,s43⟩:=hn;refine .ret ?_;have rm43:=rm38.keep kp43 (fun e=>hne e)
        by_cases z:1<=x43
        ·skip
         simp only[ZG,↓reduceIte,ZA,ZB,ZC,s43.own.cells.ld,mbl,ZD,ZE,ZF,ct1,rm43.cells.ld,rm43.cells.lds 0 2 (by simp),z];refine XX_val (must_true h43) ?_
         by_cases y1:x43=12
         ·skip
          simp only[ZG,↓reduceIte,ZA,ZB,ZC,s43.own.cells.ld,mbl,ZD,ZE,ZF,ct1,rm43.cells.ld,rm43.cells.lds 0 2 (by simp),y1];refine XX_of (exact_ok s43 1) (fun res h44 hle44 hn=>?_);obtain ⟨kp44,hn⟩:=hn;have kq44:=Keep.trans kq43 kp44;cases hx44:exc C 1 q43 with
          | none =>
            rw[hx44] at hn;obtain ⟨v,rfl⟩:=hn;refine .pan ?_;simp only[ZG,↓reduceIte,ZA,ZB,ZC];refine hΨ _ _ (fin_pan ⟨kq44,?_⟩);have e:expr C (f+1) S W p=none:=by simp [expr,sn,hx38,d1,d2,d3,d4,hx43,z,y1,arg1,hx44]
            rw[e];exact ⟨_,rfl⟩
          | some q44 =>
            rw[hx44] at hn;obtain ⟨rfl,s44⟩:=hn;refine .ret ?_;have rm44:=rm43.keep kp44 (fun e=>hne e);simp only[ZG,↓reduceIte,ZA,ZB,ZC,s44.own.cells.ld,mbl,ZD,ZE,ZF,ct1,rm44.cells.ld,rm44.cells.lds 0 2 (by simp)];refine XX_of (operands_ok s44 (exc_on hx44).2 1 S W) (fun res h45 hle45 hn=>?_);obtain ⟨kp45,hn⟩:=hn;rw[show ((1:Int)).toNat=1 from rfl] at hn;have kq45:=Keep.trans kq44 kp45;cases hx45:oprnds C S W 1 q44 with
            | none =>
              rw[hx45] at hn;obtain ⟨v,rfl⟩:=hn;refine .pan ?_;simp only[ZG,↓reduceIte,ZA,ZB,ZC];refine hΨ _ _ (fin_pan ⟨kq45,?_⟩);have e:expr C (f+1) S W p=none:=by simp [expr,sn,hx38,d1,d2,d3,d4,hx43,z,y1,arg1,hx44,hx45]
              rw[e];exact ⟨_,rfl⟩
            | some q45 =>
              rw[hx45] at hn;obtain ⟨rfl,s45⟩:=hn;refine .ret ?_;have rm45:=rm44.keep kp45 (fun e=>hne e);simp only[ZG,↓reduceIte,ZA,ZB,ZC,s45.own.cells.ld,mbl,ZD,ZE,ZF,ct1,rm45.cells.ld,rm45.cells.lds 0 2 (by simp)];refine hΨ _ _ (fin_norm ⟨kq45,?_⟩);have e:expr C (f+1) S W p=some q45:=by simp [expr,sn,hx38,d1,d2,d3,d4,hx43,z,y1,arg1,hx44,hx45,arg1]
              rw[e];exact ⟨rfl,s45⟩
         by_cases y2:x43=13
         ·skip
          simp only[ZG,↓reduceIte,ZA,ZB,ZC,s43.own.cells.ld,mbl,ZD,ZE,ZF,ct1,rm43.cells.ld,rm43.cells.lds 0 2 (by simp),y1,y2];refine XX_of (exact_ok s43 1) (fun res h46 hle46 hn=>?_);obtain ⟨kp46,hn⟩:=hn;have kq46:=Keep.trans kq43 kp46;cases hx46:exc C 1 q43 with
          | none =>
            rw[hx46] at hn;obtain ⟨v,rfl⟩:=hn;refine .pan ?_;simp only[ZG,↓reduceIte,ZA,ZB,ZC];refine hΨ _ _ (fin_pan ⟨kq46,?_⟩);have e:expr C (f+1) S W p=none:=by simp [expr,sn,hx38,d1,d2,d3,d4,hx43,z,y1,y2,arg1,hx46]
            rw[e];exact ⟨_,rfl⟩
          | some q46 =>
            rw[hx46] at hn;obtain ⟨rfl,s46⟩:=hn;refine .ret ?_;have rm46:=rm43.keep kp46 (fun e=>hne e);simp only[ZG,↓reduceIte,ZA,ZB,ZC,s46.own.cells.ld,mbl,ZD,ZE,ZF,ct1,rm46.cells.ld,rm46.cells.lds 0 2 (by simp)];refine XX_of (operands_ok s46 (exc_on hx46).2 1 S W) (fun res h47 hle47 hn=>?_);obtain ⟨kp47,hn⟩:=hn;rw[show ((1:Int)).toNat=1 from rfl] at hn;have kq47:=Keep.trans kq46 kp47;cases hx47:oprnds C S W 1 q46 with
            | none =>
              rw[hx47] at hn;obtain ⟨v,rfl⟩:=hn;refine .pan ?_;simp only[ZG,↓reduceIte,ZA,ZB,ZC];refine hΨ _ _ (fin_pan ⟨kq47,?_⟩);have e:expr C (f+1) S W p=none:=by simp [expr,sn,hx38,d1,d2,d3,d4,hx43,z,y1,y2,arg1,hx46,hx47]
              rw[e];exact ⟨_,rfl⟩
            | some q47 =>
              rw[hx47] at hn;obtain ⟨rfl,s47⟩:=hn;refine .ret ?_;have rm47:=rm46.keep kp47 (fun e=>hne e);simp only[ZG,↓reduceIte,ZA,ZB,ZC,s47.own.cells.ld,mbl,ZD,ZE,ZF,ct1,rm47.cells.ld,rm47.cells.lds 0 2 (by simp)];refine hΨ _ _ (fin_norm ⟨kq47,?_⟩);have e:expr C (f+1) S W p=some q47:=by simp [expr,sn,hx38,d1,d2,d3,d4,hx43,z,y1,y2,arg1,hx46,hx47,arg1]
              rw[e];exact ⟨rfl,s47⟩
         simp only[ZG,↓reduceIte,ZA,ZB,ZC,s43.own.cells.ld,mbl,ZD,ZE,ZF,ct1,rm43.cells.ld,rm43.cells.lds 0 2 (by simp),y1,y2];refine XX_of (exact_ok s43 2) (fun res h48 hle48 hn=>?_);obtain ⟨kp48,hn⟩:=hn;have kq48:=Keep.trans kq43 kp48;cases hx48:exc C 2 q43 with
         | none =>
           rw[hx48] at hn;obtain ⟨v,rfl⟩:=hn;refine .pan ?_;simp only[ZG,↓reduceIte,ZA,ZB,ZC];refine hΨ _ _ (fin_pan ⟨kq48,?_⟩);have e:expr C (f+1) S W p=none:=by simp [expr,sn,hx38,d1,d2,d3,d4,hx43,z,y1,y2,arg1,hx48]
           rw[e];exact ⟨_,rfl⟩
         | some q48 =>
           rw[hx48] at hn;obtain ⟨rfl,s48⟩:=hn;refine .ret ?_;have rm48:=rm43.keep kp48 (fun e=>hne e);simp only[ZG,↓reduceIte,ZA,ZB,ZC,s48.own.cells.ld,mbl,ZD,ZE,ZF,ct1,rm48.cells.ld,rm48.cells.lds 0 2 (by simp)];refine XX_of (operands_ok s48 (exc_on hx48).2 2 S W) (fun res h49 hle49 hn=>?_);obtain ⟨kp49,hn⟩:=hn;rw[show ((2:Int)).toNat=2 from rfl] at hn;have kq49:=Keep.trans kq48 kp49;cases hx49:oprnds C S W 2 q48 with
           | none =>
             rw[hx49] at hn;obtain ⟨v,rfl⟩:=hn;refine .pan ?_;simp only[ZG,↓reduceIte,ZA,ZB,ZC];refine hΨ _ _ (fin_pan ⟨kq49,?_⟩);have e:expr C (f+1) S W p=none:=by simp [expr,sn,hx38,d1,d2,d3,d4,hx43,z,y1,y2,arg1,hx48,hx49]
             rw[e];exact ⟨_,rfl⟩
           | some q49 =>
             rw[hx49] at hn;obtain ⟨rfl,s49⟩:=hn;refine .ret ?_;have rm49:=rm48.keep kp49 (fun e=>hne e);simp only[ZG,↓reduceIte,ZA,ZB,ZC,s49.own.cells.ld,mbl,ZD,ZE,ZF,ct1,rm49.cells.ld,rm49.cells.lds 0 2 (by simp)];refine hΨ _ _ (fin_norm ⟨kq49,?_⟩);have e:expr C (f+1) S W p=some q49:=by simp [expr,sn,hx38,d1,d2,d3,d4,hx43,z,y1,y2,arg1,hx48,hx49,arg1]
             rw[e];exact ⟨rfl,s49⟩
        ·skip
         simp only[ZG,↓reduceIte,ZA,ZB,ZC,s43.own.cells.ld,mbl,ZD,ZE,ZF,ct1,rm43.cells.ld,rm43.cells.lds 0 2 (by simp),z];refine XX_of (must_false h43) (fun res hm hle hn=>?_);obtain ⟨rfl,v,rfl⟩:=hn;refine .pan ?_;simp only[ZG,↓reduceIte,ZA,ZB,ZC];refine hΨ _ _ (fin_pan ⟨kq43,?_⟩);have e:expr C (f+1) S W p=none:=by simp [expr,sn,hx38,d1,d2,d3,d4,hx43,z]
         rw[e];exact ⟨_,rfl⟩
     by_cases d5:x38=5
     ·skip
      simp only[ZG,↓reduceIte,ZA,ZB,ZC,s38.own.cells.ld,mbl,ZD,ZE,ZF,ct1,rm38.cells.ld,rm38.cells.lds 0 2 (by simp),d1,d2,d3,d4,d5];refine XX_of (below_ok s38 200000) (fun res h50 hle50 hn=>?_);obtain ⟨kp50,hn⟩:=hn;have kq50:=Keep.trans kq38 kp50;cases hx50:bl C 200000 q38 with
      | none =>
        rw[hx50] at hn;obtain ⟨v,rfl⟩:=hn;refine .pan ?_;simp only[ZG,↓reduceIte,ZA,ZB,ZC];refine hΨ _ _ (fin_pan ⟨kq50,?_⟩);have e:expr C (f+1) S W p=none:=by simp [expr,sn,hx38,d1,d2,d3,d4,d5,hx50]
        rw[e];exact ⟨_,rfl⟩
      | some yq50 =>
        obtain ⟨x50,q50⟩:=yq50;rw[hx50] at hn;obtain ⟨rfl,s50⟩:=hn;refine .ret ?_;have rm50:=rm38.keep kp50 (fun e=>hne e);obtain ⟨_,_,_,n0,n1⟩:=bl_inv hx50
        by_cases z:0<x50
        ·skip
         simp only[ZG,↓reduceIte,ZA,ZB,ZC,s50.own.cells.ld,mbl,ZD,ZE,ZF,ct1,rm50.cells.ld,rm50.cells.lds 0 2 (by simp),z];refine XX_val (must_true h50) ?_;simp only[ZG,↓reduceIte,ZA,ZB,ZC,s50.own.cells.ld,mbl,ZD,ZE,ZF,ct1,rm50.cells.ld,rm50.cells.lds 0 2 (by simp)];have rmS:=rm50;refine XH_own rmS rfl (by simp [Value.cells]) rfl (fun h20 q1 q2 q3=>?_);have rm20:Own h20 h.length 135 [iv (IntKind.i64.wrap (S+x50)),iv W]:=by simpa [Value.cells] using q1
         have ltb:b<h50.length:=s50.own.lt;have s20:=s50.keep q2 (by rintro q0 (rfl|e) e2;exact hne e2.symm;have:=s.im.lt _ e;omega);have kp20:Keep (· = b) h h20:=kq50.trans' q2 (fun c hc e=>by omega);simp only[ZG,↓reduceIte,ZA,ZB,ZC];refine XLo_rule (α:=Nat × Nat) (fun a=>[(0,.pointer (some ⟨b,0,none⟩)),(3,.pointer (some ⟨h.length,0,none⟩)),(66,iv x50),(67,iv a.1)])
          (fun a h'=>a.1<=x50.toNat/\a.1+q50<=a.2/\a.2<=C.code.length/\Keep (· = b) h h'/\Rdr h' b C vi vc vt vp vk a.2/\Own h' h.length 135 [iv (IntKind.i64.wrap (S+x50)),iv W]/\things C (IntKind.i64.wrap (S+x50)) W x50.toNat q50=things C (IntKind.i64.wrap (S+x50)) W (x50.toNat-a.1) a.2) (fun a=>x50.toNat-a.1) (0,q50)
          ⟨Nat.zero_le _,by simp,(bl_on hx50).2,kp20,s20,rm20,rfl⟩ ⟨rfl,rfl,rfl,rfl,trivial⟩ ?_
         rintro ⟨i,q⟩ h21 Ψ2 ⟨i1,i2,i3,kp,s1,rm1,eq⟩ next out
         simp only at i1 i2 i3 s1 eq
         by_cases hi:(i:Int)<x50
         ·have hw:IntKind.i64.wrap ((i:Int)+1)=i+1:=i64w (by omega) (by omega)
          simp only[ZG,↓reduceIte,ZA,ZB,ZC,hi,rm1.cells.lds 0 2 (by simp),mbl,ZD,ZE,ZF];refine XX_of (thing_ok s1 (IntKind.i64.wrap (S+x50)) W) (fun res h2 hle hn=>?_);obtain ⟨kp2,hn⟩:=hn;have e1:x50.toNat-i=(x50.toNat-(i+1))+1:=by omega
          rw[e1,things] at eq;cases hx:thing C (IntKind.i64.wrap (S+x50)) W q with
          | none =>
            rw[hx] at hn eq;obtain ⟨v,rfl⟩:=hn;refine .pan ?_;simp only[ZG,↓reduceIte,ZA,ZB,ZC];refine out (.pan _) _ _ _ _ (by intro e;cases e) ?_;simp only[ZG,↓reduceIte,ZA,ZB,ZC];refine hΨ _ _ (fin_pan ⟨kp.trans kp2,?_⟩);have e:expr C (f+1) S W p=none:=by simp [expr,hx38,d1,d2,d3,d4,d5,hx50,z,eq]
            rw[e];exact ⟨_,rfl⟩
          | some r =>
            rw[hx] at hn eq;obtain ⟨rfl,s2⟩:=hn;refine .ret ?_;have hon:=thing_on r hx;simp only[ZG,↓reduceIte,ZA,ZB,ZC,hw];refine next (i+1,r) _ _ _ ⟨by simp only;omega,by simp only;omega,hon.2,kp.trans kp2,s2,rm1.keep kp2 (fun e=>hne e),eq⟩ ⟨rfl,rfl,rfl,?_,trivial⟩ (by simp only;omega)
            simp only[Z1,Z0];rfl
         ·have e1:x50.toNat-i=0:=by omega
          rw[e1] at eq;have eqt:things C (IntKind.i64.wrap (S+x50)) W x50.toNat q50=some q:=eq;simp only[ZG,↓reduceIte,ZA,ZB,ZC,hi];refine out (.exit 1) _ _ _ _ (by intro e;cases e) ?_;simp only[ZG,↓reduceIte,ZA,ZB,ZC,rm1.cells.lds 0 2 (by simp),mbl,ZD,ZE,ZF];refine XX_of (ih h21 q (IntKind.i64.wrap (S+x50)) (by have:=bl_on hx50;have:=nx_on hx38;omega) i3 s1) (fun res h51 hle51 hn=>?_);obtain ⟨kp51,hn⟩:=hn;have kq51:=Keep.trans kp kp51;cases hx51:expr C f (IntKind.i64.wrap (S+x50)) W q with
          | none =>
            rw[hx51] at hn;obtain ⟨v,rfl⟩:=hn;refine .pan ?_;simp only[ZG,↓reduceIte,ZA,ZB,ZC];refine hΨ _ _ (fin_pan ⟨kq51,?_⟩);have e:expr C (f+1) S W p=none:=by simp [expr,sn,hx38,d1,d2,d3,d4,d5,hx50,z,eqt,hx51]
            rw[e];exact ⟨_,rfl⟩
          | some q51 =>
            rw[hx51] at hn;obtain ⟨rfl,s51⟩:=hn;refine .ret ?_;have rm51:=rm1.keep kp51 (fun e=>hne e);simp only[ZG,↓reduceIte,ZA,ZB,ZC,s51.own.cells.ld,mbl,ZD,ZE,ZF,ct1,rm51.cells.ld,rm51.cells.lds 0 2 (by simp)]
            skip
            refine hΨ _ _ (fin_norm ⟨kq51,?_⟩);have e:expr C (f+1) S W p=some q51:=by simp [expr,sn,hx38,d1,d2,d3,d4,d5,hx50,z,eqt,hx51]
            rw[e];exact ⟨rfl,s51⟩
        ·skip
         simp only[ZG,↓reduceIte,ZA,ZB,ZC,s50.own.cells.ld,mbl,ZD,ZE,ZF,ct1,rm50.cells.ld,rm50.cells.lds 0 2 (by simp),z];refine XX_of (must_false h50) (fun res hm hle hn=>?_);obtain ⟨rfl,v,rfl⟩:=hn;refine .pan ?_;simp only[ZG,↓reduceIte,ZA,ZB,ZC];refine hΨ _ _ (fin_pan ⟨kq50,?_⟩);have e:expr C (f+1) S W p=none:=by simp [expr,sn,hx38,d1,d2,d3,d4,d5,hx50,z]
         rw[e];exact ⟨_,rfl⟩
     by_cases d6:x38=6
     ·skip
      simp only[ZG,↓reduceIte,ZA,ZB,ZC,s38.own.cells.ld,mbl,ZD,ZE,ZF,ct1,rm38.cells.ld,rm38.cells.lds 0 2 (by simp),d1,d2,d3,d4,d5,d6];refine XX_of (next_ok s38) (fun res h52 hle52 hn=>?_);obtain ⟨kp52,hn⟩:=hn;have kq52:=Keep.trans kq38 kp52;cases hx52:nx C q38 with
      | none =>
        rw[hx52] at hn;obtain ⟨v,rfl⟩:=hn;refine .pan ?_;simp only[ZG,↓reduceIte,ZA,ZB,ZC];refine hΨ _ _ (fin_pan ⟨kq52,?_⟩);have e:expr C (f+1) S W p=none:=by simp [expr,sn,hx38,d1,d2,d3,d4,d5,d6,hx52]
        rw[e];exact ⟨_,rfl⟩
      | some yq52 =>
        obtain ⟨x52,q52⟩:=yq52;rw[hx52] at hn;obtain ⟨rfl,s52⟩:=hn;refine .ret ?_;have rm52:=rm38.keep kp52 (fun e=>hne e);simp only[ZG,↓reduceIte,ZA,ZB,ZC,s52.own.cells.ld,mbl,ZD,ZE,ZF,ct1,rm52.cells.ld,rm52.cells.lds 0 2 (by simp)];refine XX_of (ih h52 q52 S (by have:=nx_on hx52;have:=nx_on hx38;omega) (nx_on hx52).2 s52) (fun res h53 hle53 hn=>?_);obtain ⟨kp53,hn⟩:=hn;have kq53:=Keep.trans kq52 kp53;cases hx53:expr C f S W q52 with
        | none =>
          rw[hx53] at hn;obtain ⟨v,rfl⟩:=hn;refine .pan ?_;simp only[ZG,↓reduceIte,ZA,ZB,ZC];refine hΨ _ _ (fin_pan ⟨kq53,?_⟩);have e:expr C (f+1) S W p=none:=by simp [expr,sn,hx38,d1,d2,d3,d4,d5,d6,hx52,hx53]
          rw[e];exact ⟨_,rfl⟩
        | some q53 =>
          rw[hx53] at hn;obtain ⟨rfl,s53⟩:=hn;refine .ret ?_;have rm53:=rm52.keep kp53 (fun e=>hne e);have hon:=expr_on _ _ _ _ hx53
          by_cases z:(q53:Int)=x52
          ·skip
           simp only[ZG,↓reduceIte,ZA,ZB,ZC,s53.own.cells.ld,mbl,ZD,ZE,ZF,ct1,rm53.cells.ld,rm53.cells.lds 0 2 (by simp),z];refine XX_val (must_true h53) ?_;simp only[ZG,↓reduceIte,ZA,ZB,ZC,s53.own.cells.ld,mbl,ZD,ZE,ZF,ct1,rm53.cells.ld,rm53.cells.lds 0 2 (by simp)];refine XX_of (branch_ok S W (fun h2 q S2 a1 a2 a3=>ih h2 q S2 a1 a2 a3) s53 (by have:=nx_on hx52;have:=nx_on hx38;omega)) (fun res h54 hle54 hn=>?_);obtain ⟨kp54,hn⟩:=hn;have kq54:=Keep.trans kq53 kp54;cases hx54:brn C (fun s' p'=>expr C f s' W p') S q53 with
           | none =>
             rw[hx54] at hn;obtain ⟨v,rfl⟩:=hn;refine .pan ?_;simp only[ZG,↓reduceIte,ZA,ZB,ZC];refine hΨ _ _ (fin_pan ⟨kq54,?_⟩);have e:expr C (f+1) S W p=none:=by simp [expr,sn,hx38,d1,d2,d3,d4,d5,d6,hx52,hx53,z,hx54]
             rw[e];exact ⟨_,rfl⟩
           | some q54 =>
             rw[hx54] at hn;obtain ⟨rfl,s54⟩:=hn;refine .ret ?_;have rm54:=rm53.keep kp54 (fun e=>hne e);simp only[ZG,↓reduceIte,ZA,ZB,ZC,s54.own.cells.ld,mbl,ZD,ZE,ZF,ct1,rm54.cells.ld,rm54.cells.lds 0 2 (by simp)];refine hΨ _ _ (fin_norm ⟨kq54,?_⟩);have e:expr C (f+1) S W p=some q54:=by simp [expr,sn,hx38,d1,d2,d3,d4,d5,d6,hx52,hx53,z,hx54]
             rw[e];exact ⟨rfl,s54⟩
          ·skip
           simp only[ZG,↓reduceIte,ZA,ZB,ZC,s53.own.cells.ld,mbl,ZD,ZE,ZF,ct1,rm53.cells.ld,rm53.cells.lds 0 2 (by simp),z];refine XX_of (must_false h53) (fun res hm hle hn=>?_);obtain ⟨rfl,v,rfl⟩:=hn;refine .pan ?_;simp only[ZG,↓reduceIte,ZA,ZB,ZC];refine hΨ _ _ (fin_pan ⟨kq53,?_⟩);have e:expr C (f+1) S W p=none:=by simp [expr,sn,hx38,d1,d2,d3,d4,d5,d6,hx52,hx53,z]
           rw[e];exact ⟨_,rfl⟩
     by_cases d8:x38=8
     ·skip
      simp only[ZG,↓reduceIte,ZA,ZB,ZC,s38.own.cells.ld,mbl,ZD,ZE,ZF,ct1,rm38.cells.ld,rm38.cells.lds 0 2 (by simp),d1,d2,d3,d4,d5,d6,d8];refine XX_of (below_ok s38 2) (fun res h55 hle55 hn=>?_);obtain ⟨kp55,hn⟩:=hn;have kq55:=Keep.trans kq38 kp55;cases hx55:bl C 2 q38 with
      | none =>
        rw[hx55] at hn;obtain ⟨v,rfl⟩:=hn;refine .pan ?_;simp only[ZG,↓reduceIte,ZA,ZB,ZC];refine hΨ _ _ (fin_pan ⟨kq55,?_⟩);have e:expr C (f+1) S W p=none:=by simp [expr,sn,hx38,d1,d2,d3,d4,d5,d6,d8,hx55]
        rw[e];exact ⟨_,rfl⟩
      | some yq55 =>
        obtain ⟨x55,q55⟩:=yq55;rw[hx55] at hn;obtain ⟨rfl,s55⟩:=hn;refine .ret ?_;have rm55:=rm38.keep kp55 (fun e=>hne e);simp only[ZG,↓reduceIte,ZA,ZB,ZC,s55.own.cells.ld,mbl,ZD,ZE,ZF,ct1,rm55.cells.ld,rm55.cells.lds 0 2 (by simp),ct1];refine XX_of (operands_ok s55 (bl_on hx55).2 (x55) (S) W) (fun res h56 hle56 hn=>?_);obtain ⟨kp56,hn⟩:=hn;have kq56:=Keep.trans kq55 kp56;cases hx56:oprnds C (S) W (x55).toNat q55 with
        | none =>
          rw[hx56] at hn;obtain ⟨v,rfl⟩:=hn;refine .pan ?_;simp only[ZG,↓reduceIte,ZA,ZB,ZC];refine hΨ _ _ (fin_pan ⟨kq56,?_⟩);have e:expr C (f+1) S W p=none:=by simp [expr,sn,hx38,d1,d2,d3,d4,d5,d6,d8,hx55,hx56]
          rw[e];exact ⟨_,rfl⟩
        | some q56 =>
          rw[hx56] at hn;obtain ⟨rfl,s56⟩:=hn;refine .ret ?_;have rm56:=rm55.keep kp56 (fun e=>hne e);simp only[ZG,↓reduceIte,ZA,ZB,ZC,s56.own.cells.ld,mbl,ZD,ZE,ZF,ct1,rm56.cells.ld,rm56.cells.lds 0 2 (by simp)];refine hΨ _ _ (fin_norm ⟨kq56,?_⟩);have e:expr C (f+1) S W p=some q56:=by simp [expr,sn,hx38,d1,d2,d3,d4,d5,d6,d8,hx55,hx56]
          rw[e];exact ⟨rfl,s56⟩
     by_cases d9:x38=9
     ·skip
      obtain ⟨ta,tc,hvt⟩:=s38.im.rt;simp only[ZG,↓reduceIte,ZA,ZB,ZC,s38.own.cells.ld,mbl,ZD,ZE,ZF,ct1,rm38.cells.ld,rm38.cells.lds 0 2 (by simp),d1,d2,d3,d4,d5,d6,d8,d9,hvt];refine XX_of (below_ok s38 C.nt) (fun res h57 hle57 hn=>?_);obtain ⟨kp57,hn⟩:=hn;have kq57:=Keep.trans kq38 kp57;cases hx57:bl C C.nt q38 with
      | none =>
        rw[hx57] at hn;obtain ⟨v,rfl⟩:=hn;refine .pan ?_;simp only[ZG,↓reduceIte,ZA,ZB,ZC];refine hΨ _ _ (fin_pan ⟨kq57,?_⟩);have e:expr C (f+1) S W p=none:=by simp [expr,sn,hx38,d1,d2,d3,d4,d5,d6,d8,d9,hx57]
        rw[e];exact ⟨_,rfl⟩
      | some yq57 =>
        obtain ⟨x57,q57⟩:=yq57;rw[hx57] at hn;obtain ⟨rfl,s57⟩:=hn;refine .ret ?_;have rm57:=rm38.keep kp57 (fun e=>hne e);simp only[ZG,↓reduceIte,ZA,ZB,ZC,s57.own.cells.ld,mbl,ZD,ZE,ZF,ct1,rm57.cells.ld,rm57.cells.lds 0 2 (by simp)];refine hΨ _ _ (fin_norm ⟨kq57,?_⟩);have e:expr C (f+1) S W p=some q57:=by simp [expr,sn,hx38,d1,d2,d3,d4,d5,d6,d8,d9,hx57]
        rw[e];exact ⟨rfl,s57⟩
     simp only[ZG,↓reduceIte,ZA,ZB,ZC,s38.own.cells.ld,mbl,ZD,ZE,ZF,ct1,rm38.cells.ld,rm38.cells.lds 0 2 (by simp),d1,d2,d3,d4,d5,d6,d8,d9];refine XX_of (must_false h38) (fun res hm hle hn=>?_);obtain ⟨rfl,v,rfl⟩:=hn;refine .pan ?_;simp only[ZG,↓reduceIte,ZA,ZB,ZC];refine hΨ _ _ (fin_pan ⟨kq38,?_⟩);have e:expr C (f+1) S W p=none:=by simp [expr,sn,hx38,d1,d2,d3,d4,d5,d6,d8,d9]
     rw[e];exact ⟨_,rfl⟩
end
end Go.S19
