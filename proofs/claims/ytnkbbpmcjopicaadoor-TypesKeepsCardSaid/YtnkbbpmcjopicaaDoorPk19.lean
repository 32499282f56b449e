import Derived.Test.YtnkbbpmcjopicaaDoorPk18
import Derived.Test.YtnkbbpmcjopicaaDoorPk12
set_option linter.unusedVariables false
set_option linter.unusedSimpArgs false
open Nat renaming reduceEqDiff -> ZA,reduceAdd -> ZB,reduceMul -> ZC,reduceLeDiff -> ZD,reduceLT -> ZE
open Int renaming reduceEq -> ZF
open List renaming length_append->Z0,mem_singleton->Z2,length_singleton->Z3,length_drop->Z8,length_take->Zb,mem_append->Zd,mem_cons_self->Ze
open Nat renaming le_refl->Z1,zero_le->Z5
open Bool renaming not_true->Z4,not_false->Z7,eq_iff_iff->Zc,false_eq_true->Zf
open Int renaming toNat_zero->Z6,le_refl->Z9
open Option renaming isSome_iff_exists->Za
namespace Go.S11
open Go Go.Eng Go.Proofs Go.Scn Go.Typ
abbrev tR:TypeId:=67
abbrev tvK (l:Bs):Value:=tv l
theorem kstr:Tryd.prog.underlying 9=some .string:=by kernel_rfl
theorem keyS:KeyOK Tryd.prog 9 tvK:=KeyOK.str kstr (K:=Bs) (g:=tx) (fun a b=>by
 rw[show (tx a == tx b)=(a.toArray == b.toArray) from rfl,Zc];simp)
theorem same_tvK (k:Bs):Instr.sameBits 10000 (tvK k) (tvK k)=true:=by
 show (tx k == tx k)=true
 rw[show (tx k == tx k)=(k.toArray == k.toArray) from rfl];simp
theorem m65:Tryd.prog.underlying 65=some (.map 9 3):=by kernel_rfl
set_option maxRecDepth 100000 in
theorem up65 {h:AH} {ma:Nat} {l:List (Bs × Nat)} (k:Bs) (v:Nat) (m:MOG tvK kN h ma l) (hg:mgetG k l=none):∃ h',wmapUpdate Tryd.prog h 65 (.map (some ma)) (tv k) (kN v)=some h'/\MOG tvK kN h' ma (l++[(k,v)])/\Keep (· = ma) h h':=by
 have:=MOG.up (P:=Tryd.prog) (kt:=9) (kf:=tvK) (vf:=kN) (mt:=65) (et:=3) k v m65 keyS same_tvK m;obtain ⟨h5,l',u1,u2,u3,u4,u5,u6⟩:=this;have el:=u4 hg;subst el;exact ⟨h5,u1,u2,u5⟩
theorem idx_ok (s:Bs) (h:AH):Gets Tryd.prog 72 [tv (s++[32]),.func (.func 73) #[] #[]] h (fun res h'=>h'=h/\res = .ret (iv (wlen s:Int))):=by
 refine Gets.ofCalls (args:=[tv (s++[32]),.func (.func 73) #[] #[]]) (v:=iv (wlen s:Int)) (fn:=Tryd.prog.funcs[72]!) hP (by kernel_rfl) (c:=(Tryd.prog.funcs[72]!).body.getD .skip) (by kernel_rfl) rfl rfl (fun W hT=>?_) h;refine Calls.mono (Any.strings_IndexFunc (P:=Tryd.prog) Tryd.laysIdxFunc 73 #[] (enters_of Tryd.func73 (by kernel_rfl) rfl) _ (tx (s++[32])) W (Tryd.wordStop W)) fun e w' he=>?_
 obtain ⟨e1,e2⟩:=he;rw[idx_word] at e1;exact ⟨e1,e2⟩
structure RH (h:AH) (br b mv:Nat) (L:TL) (s:Rs):Prop where
 own:Own h br tR [.pointer (some ⟨b,0,none⟩),tv s.rest,.map (some mv)]
 th:∃ cs,TH h b L cs s.T id false
 mo:MOG tvK kN h mv s.vars
 zr:L.cls br=0
 zm:L.cls mv=0
 ne:br≠mv
structure RG (h h':AH) (br b mv:Nat) (L L':TL) (s':Rs):Prop where
 rh:RH h' br b mv L' s'
 kp:Keep (fun q=>TMine L q\/q=br\/q=mv) h h'
 sm:∀ q,q<h.length->(L'.cls q=0 ↔ L.cls q=0)
 mn:∀ q,q<h.length->TMine L' q->TMine L q
theorem RG.trans {h h1 h2:AH} {br b mv:Nat} {L L1 L2:TL} {s1 s2:Rs} (x:RG h h1 br b mv L L1 s1) (y:RG h1 h2 br b mv L1 L2 s2):RG h h2 br b mv L L2 s2 :=
 ⟨y.rh,x.kp.trans' y.kp (fun q hq e=>e.elim (fun e=>.inl (x.mn q hq e)) .inr),fun q hq=>(y.sm q (by have:=x.kp.len;omega)).trans (x.sm q hq),fun q hq e=>x.mn q hq (y.mn q (by have:=x.kp.len;omega) e)⟩
theorem RG.refl {h:AH} {br b mv:Nat} {L:TL} {s:Rs} (r:RH h br b mv L s):RG h h br b mv L L s:=⟨r,.refl _ _,fun _ _=>Iff.rfl,fun _ _ e=>e⟩
theorem RH.lt {h:AH} {br b mv:Nat} {L:TL} {s:Rs} (r:RH h br b mv L s):br<h.length/\mv<h.length:=⟨r.own.lt,r.mo.lt⟩
theorem RH.keepF {h h':AH} {br b mv:Nat} {L:TL} {s:Rs} (r:RH h br b mv L s) (k:Keep (fun _=>False) h h'):RH h' br b mv L s:=by
 obtain ⟨cs,t⟩:=r.th;exact ⟨r.own.keep k (fun e=>e),⟨cs,t.keepF k⟩,r.mo.keep k (fun e=>e),r.zr,r.zm,r.ne⟩
theorem RG.keepF {h h1 h2:AH} {br b mv:Nat} {L L1:TL} {s1:Rs} (x:RG h h1 br b mv L L1 s1) (k:Keep (fun _=>False) h1 h2):RG h h2 br b mv L L1 s1 :=
 ⟨x.rh.keepF k,x.kp.trans (k.mono (fun _ e=>e.elim)),x.sm,x.mn⟩
theorem RH.grn {h h':AH} {br b mv:Nat} {L L':TL} {s:Rs} {T':List Tm} (r:RH h br b mv L s) (g:Grn h h' b L L' T' id false):RG h h' br b mv L L' { s with T:=T' } :=
 ⟨⟨r.own.keep g.kp (TMine.z r.zr),g.th,r.mo.keep g.kp (TMine.z r.zm),(g.sm _ r.lt.1).2 r.zr,(g.sm _ r.lt.2).2 r.zm,r.ne⟩,g.kp.mono (fun _ e=>.inl e),g.sm,g.mn⟩
theorem RH.rest {h h':AH} {br b mv:Nat} {L:TL} {s:Rs} {r':Bs} (r:RH h br b mv L s) (o:Own h' br tR [.pointer (some ⟨b,0,none⟩),tv r',.map (some mv)]) (k:Keep (· = br) h h'):RG h h' br b mv L L (s.to r'):=by
 obtain ⟨cs,t⟩:=r.th;exact ⟨⟨o,⟨cs,t.keep k (fun q e e2=>e (by rw[show q=br from e2];exact r.zr))⟩,r.mo.keep k (fun e=>r.ne e.symm),r.zr,r.zm,r.ne⟩,k.mono (fun _ e=>.inr (.inl e)),fun _ _=>Iff.rfl,fun _ _ e=>e⟩
section
variable {h:AH} {br b mv:Nat} {L:TL} {s:Rs}
set_option maxHeartbeats 2000000 in
theorem skip_ok (r:RH h br b mv L s) (p:Bs):Gets Tryd.prog 50 [.pointer (some ⟨br,0,none⟩),tv p] h
 (fun res h'=>res = .ret (.bool (pre s.rest p))/\RG h h' br b mv L L (if pre s.rest p then s.to (s.rest.drop p.length) else s)):=by
 refine Gets.of (keep:=false) hP (draw_ok hM) k50 (by rfl) (fun Ψ hΨ=>?_);simp only[ZG,↓reduceIte,ZA,ZB,ZC,r50,YE,YC,YO,YA,YL,YX,YS,Ya,Yb,Yl,Yf,Yg,Yi,Ym,Yk,Yt,Yn,Yz,Yp,Yq,Yd,mbl,ZD,ZE,ZF,r.own.cells.ld];refine XX_val (cutPrefix_ok s.rest p h) ?_;simp only[ZG,↓reduceIte,ZA,ZB,ZC,mbl,ZD,ZE,ZF];refine XH_own r.own rfl (by simp [Value.cells]) rfl (fun h1 q1 q2 q3=>?_);simp only[ZG,↓reduceIte,ZA,ZB,ZC];refine hΨ _ _ (fin_ret (rv1 rfl ⟨rfl,?_⟩));have o:Own h1 br tR [.pointer (some ⟨b,0,none⟩),tv (Lib.trimPrefix s.rest p),.map (some mv)]:=by simpa [Value.cells] using q1
 have hr:=r.rest o q2;cases hp:pre s.rest p with
 | true=>rw[if_pos rfl];rw[trim_pos hp] at hr;exact hr
 | false=>rw[if_neg (by simp)];rw[trim_neg hp] at hr;exact hr
set_option maxHeartbeats 2000000 in
theorem large_ok (r:RH h br b mv L s):Gets Tryd.prog 60 [.pointer (some ⟨br,0,none⟩)] h (fun res h'=>h'=h/\res = .ret (.bool (isLg s.rest))):=by
 refine Gets.of (keep:=false) hP (draw_ok hM) k60 (by rfl) (fun Ψ hΨ=>?_);cases hs:s.rest with
 | nil =>
   have dn:(([]:Bs) == ([]:Bs))=true:=rfl;simp only[ZG,↓reduceIte,ZA,ZB,ZC,r60,YE,YC,YO,YA,YL,YX,YS,Ya,Yb,Yl,Yf,Yg,Yi,Ym,Yk,Yt,Yn,Yz,Yp,Yq,Yd,mbl,ZD,ZE,ZF,r.own.cells.ld,hs,tx_toList,mk_toList,dn];exact hΨ _ _ (fin_ret (rv1 rfl ⟨rfl,by rw[hs];rfl⟩))
 | cons c l =>
   have dn:((c::l:Bs) == ([]:Bs))=false:=rfl;have h0:(c::l:Bs)[0]?=some c:=rfl
   by_cases h1:(65:Int)<=(c.toNat:Int)
   ·by_cases h2:(c.toNat:Int)<=90
    ·simp only[ZG,↓reduceIte,ZA,ZB,ZC,r60,YE,YC,YO,YA,YL,YX,YS,Ya,Yb,Yl,Yf,Yg,Yi,Ym,Yk,Yt,Yn,Yz,Yp,Yq,Yd,mbl,ZD,ZE,ZF,r.own.cells.ld,hs,tx_toList,mk_toList,dn,tx_get,h0,Z6,Z9,h1,h2]
     exact hΨ _ _ (fin_ret (rv1 rfl ⟨rfl,by rw[hs];simp [isLg,large,tup];omega⟩))
    ·simp only[ZG,↓reduceIte,ZA,ZB,ZC,r60,YE,YC,YO,YA,YL,YX,YS,Ya,Yb,Yl,Yf,Yg,Yi,Ym,Yk,Yt,Yn,Yz,Yp,Yq,Yd,mbl,ZD,ZE,ZF,r.own.cells.ld,hs,tx_toList,mk_toList,dn,tx_get,h0,Z6,Z9,h1,h2]
     exact hΨ _ _ (fin_ret (rv1 rfl ⟨rfl,by rw[hs];simp [isLg,large,tup];omega⟩))
   ·simp only[ZG,↓reduceIte,ZA,ZB,ZC,r60,YE,YC,YO,YA,YL,YX,YS,Ya,Yb,Yl,Yf,Yg,Yi,Ym,Yk,Yt,Yn,Yz,Yp,Yq,Yd,mbl,ZD,ZE,ZF,r.own.cells.ld,hs,tx_toList,mk_toList,dn,tx_get,h0,Z6,Z9,h1]
    exact hΨ _ _ (fin_ret (rv1 rfl ⟨rfl,by rw[hs];simp [isLg,large,tup];omega⟩))
set_option maxHeartbeats 2000000 in
theorem word_ok (r:RH h br b mv L s) (hb:s.rest.length<=1000000):Gets Tryd.prog 62 [.pointer (some ⟨br,0,none⟩)] h
 (fun res h'=>res = .ret (tv (s.rest.take (wlen s.rest)))/\RG h h' br b mv L L (s.to (s.rest.drop (wlen s.rest)))):=by
 refine Gets.of (keep:=false) hP (draw_ok hM) k62 (by rfl) (fun Ψ hΨ=>?_);have e1:sbin .add (tx s.rest) (⟨#[32]⟩:ByteArray)=some (tv (s.rest++[32])):=s_add (a:=s.rest) (b:=[32]) (by simp;omega);have hle:wlen s.rest<=s.rest.length:=spn_le _ _;simp only[ZG,↓reduceIte,ZA,ZB,ZC,r62,YE,YC,YO,YA,YL,YX,YS,Ya,Yb,Yl,Yf,Yg,Yi,Ym,Yk,Yt,Yn,Yz,Yp,Yq,Yd,mbl,ZD,ZE,ZF,r.own.cells.ld,e1];refine XX_val (idx_ok s.rest h) ?_;simp only[ZG,↓reduceIte,ZA,ZB,ZC,mbl,ZD,ZE,ZF,r.own.cells.ld,sl_to hle,sl_from hle];refine XH_own r.own rfl (by simp [Value.cells]) rfl (fun h1 q1 q2 q3=>?_);simp only[ZG,↓reduceIte,ZA,ZB,ZC];have o:Own h1 br tR [.pointer (some ⟨b,0,none⟩),tv (s.rest.drop (wlen s.rest)),.map (some mv)]:=by simpa [Value.cells] using q1
 exact hΨ _ _ (fin_ret (rv1 rfl ⟨rfl,r.rest o q2⟩))
abbrev uV:Value:=.iface 63 (.agg #[])
def RM (h h':AH) (br b mv:Nat) (L:TL) (s:Rs) (o:Option (Nat × Rs)) (res:Res):Prop:=match o with
 | none=>res = .pan uV/\RG h h' br b mv L L s
 | some (n,s')=>res = .ret (iv (n:Int)) /\ ∃ L',RG h h' br b mv L L' s'
set_option maxHeartbeats 2000000 in
theorem make_ok (r:RH h br b mv L s) (hT:s.T.length<1000000000) (nm:Bs) (hnm:nm.length<=1000000000) {al:List Nat} {u:Value} (hu:Rds h 1 u al.length (nn al)) (hn:al.length<=1000000000) (hl:∀ a∈al,a<s.T.length):Gets Tryd.prog 51 [.pointer (some ⟨br,0,none⟩),tv nm,u] h (fun res h'=>RM h h' br b mv L s (mkR nm al s) res):=by
 refine Gets.of (keep:=false) hP (draw_ok hM) k51 (by rfl) (fun Ψ hΨ=>?_);obtain ⟨ua,uc,hue⟩:=row_shape hu;obtain ⟨cs,t⟩:=r.th;simp only[ZG,↓reduceIte,ZA,ZB,ZC,r51,YE,YC,YO,YA,YL,YX,YS,Ya,Yb,Yl,Yf,Yg,Yi,Ym,Yk,Yt,Yn,Yz,Yp,Yq,Yd,mbl,ZD,ZE,ZF,r.own.cells.ld,hue];rw[<- hue];refine XX_of (con_ok t hT nm hnm hu hn hl) (fun res h1 hle hn1=>?_);unfold mkR at hΨ;cases hs:snd nm al.length with
 | false =>
   rw[if_neg (by simp [hs])] at hn1;rw[if_neg (by simp [hs])] at hΨ;obtain ⟨k1,rfl⟩:=hn1;refine .ret ?_;simp only[ZG,↓reduceIte,ZA,ZB,ZC];exact hΨ _ _ (fin_pan ⟨rfl,(RG.refl r).keepF k1⟩)
 | true =>
   rw[if_pos hs] at hn1;rw[if_pos hs] at hΨ;obtain ⟨rfl,L',g⟩:=hn1;refine .ret ?_;simp only[ZG,↓reduceIte,ZA,ZB,ZC];exact hΨ _ _ (fin_ret (rv1 rfl ⟨rfl,L',r.grn g⟩))
end
end Go.S11

namespace Go.S11
open Go Go.Eng Go.Proofs Go.Scn Go.Typ
def RW (h h':AH) (br b mv:Nat) (L:TL) (s:Rs) (o:Option (Nat × Rs)) (res:Res):Prop:=match o with
 | none=>res = .pan uV /\ ∃ L' s',RS s s' 0/\RG h h' br b mv L L' s'
 | some (n,s')=>res = .ret (iv (n:Int))/\RS s s' 1/\n<s'.T.length /\ ∃ L',RG h h' br b mv L L' s'
theorem RM.rw {h h1 h2:AH} {br b mv k:Nat} {L L1:TL} {s s2:Rs} {nm:Bs} {al:List Nat} {res:Res} (m:RM h1 h2 br b mv L1 s2 (mkR nm al s2) res) (x:RG h h1 br b mv L L1 s2) (rs:RS s s2 (k+1)) (hs:s2.T.length+s2.rest.length+1<=s.T.length+s.rest.length) (ha:∀ a∈al,a<s2.T.length):RW h h2 br b mv L s (mkR nm al s2) res:=by
 cases e:mkR nm al s2 with
 | none=>rw[e] at m;exact ⟨m.1,L1,s2,rs.mono (Z5 _),x.trans m.2⟩
 | some p =>
   obtain ⟨n,s'⟩:=p;rw[e] at m;obtain ⟨m1,L',m2⟩:=m;obtain ⟨r1,r2⟩:=mkR_ok rs hs ha e;exact ⟨m1,r1.mono (by omega),r2,L',x.trans m2⟩
def WH (f:Nat):Prop:=∀ {h:AH} {br b mv:Nat} {L:TL} {s:Rs},RH h br b mv L s->RI s->s.T.length+s.rest.length<=1000000->4*s.rest.length+4<=f->Gets Tryd.prog 30 [.pointer (some ⟨br,0,none⟩)] h (fun res h'=>RW h h' br b mv L s (whole f s) res)
def NM (f:Nat):Prop:=∀ {h:AH} {br b mv:Nat} {L:TL} {s:Rs},RH h br b mv L s->RI s->s.T.length+s.rest.length<=1000000->4*s.rest.length+3<=f->Gets Tryd.prog 49 [.pointer (some ⟨br,0,none⟩)] h (fun res h'=>RW h h' br b mv L s (named f s) res)
def HL (f:Nat):Prop:=∀ {h:AH} {br b mv:Nat} {L:TL} {s:Rs},RH h br b mv L s->RI s->s.T.length+s.rest.length<=1000000->4*s.rest.length+2<=f->Gets Tryd.prog 61 [.pointer (some ⟨br,0,none⟩)] h (fun res h'=>RW h h' br b mv L s (held f s) res)
theorem owsN {h:AH} {xs:List Nat}:Ows (h++[row 3 h.length (nn xs)]) 3 1 (.slice (some ⟨h.length,0,none⟩) xs.length xs.length) xs.length (nn xs):=by
 have o:Own (h++[row 3 h.length (nn xs)]) h.length 3 (nn xs):=Own.new h 3 h.length (nn xs);exact .mk o (by rw[nn_len,Nat.mul_one]) (Z1 _) (by rw[Nat.mul_one];exact List.take_of_length_le (by rw[nn_len];exact Z1 _))
set_option maxHeartbeats 4000000 in
theorem whole_step {f:Nat} (nmf:NM f) (whf:WH f):WH (f+1):=by
 intro h br b mv L s r ri hb hf;refine Gets.of (keep:=false) hP (draw_ok hM) k30 (by rfl) (fun Ψ hΨ=>?_);simp only[ZG,↓reduceIte,ZA,ZB,ZC,r30,YE,YC,YO,YA,YL,YX,YS,Ya,Yb,Yl,Yf,Yg,Yi,Ym,Yk,Yt,Yn,Yz,Yp,Yq,Yd];refine XX_of (nmf r ri hb (by omega)) (fun res h1 hle1 hw=>?_);cases hn:named f s with
 | none =>
   rw[hn] at hw;rw[show whole (f+1) s=none by rw[whole,hn]] at hΨ;obtain ⟨rfl,hw⟩:=hw;refine .pan ?_;simp only[ZG,↓reduceIte,ZA,ZB,ZC];exact hΨ _ _ (fin_pan ⟨rfl,hw⟩)
 | some p =>
 obtain ⟨n,s1⟩:=p;rw[hn] at hw;obtain ⟨rfl,rs1,hn1,L1,rg1⟩:=hw;refine .ret ?_;simp only[ZG,↓reduceIte,ZA,ZB,ZC];refine XX_of (skip_ok rg1.rh [32,45,62,32]) (fun res h2 hle2 hw2=>?_);obtain ⟨rfl,rg2⟩:=hw2;refine .ret ?_;cases hp:pre s1.rest [32,45,62,32] with
 | false =>
   simp only[ZG,↓reduceIte,ZA,ZB,ZC,Z7];rw[show whole (f+1) s=some (n,s1) by rw[whole,hn];simp only;rw[if_neg (by rw[hp];simp)]] at hΨ;rw[hp] at rg2;exact hΨ _ _ (fin_ret (rv1 rfl ⟨rfl,rs1,hn1,L1,rg1.trans rg2⟩))
 | true =>
 have l4:4<=s1.rest.length:=pre_len hp;rw[hp,if_pos rfl,show ([32,45,62,32]:Bs).length=4 from rfl] at rg2;have q2:=rs1.ri.to 4 l4;have z1:=rs1.len;have z2:=rs1.sum;have z3:(s1.to (s1.rest.drop 4)).rest.length=s1.rest.length-4:=by simp [Rs.to]
 have z4:(s1.to (s1.rest.drop 4)).T=s1.T:=rfl;simp only[ZG,↓reduceIte,ZA,ZB,ZC,Z4];refine XX_of (whf rg2.rh q2.ri (by rw[z3,z4];omega) (by rw[z3];omega)) (fun res h3 hle3 hw3=>?_);cases hn2:whole f (s1.to (s1.rest.drop 4)) with
 | none =>
   rw[hn2] at hw3;rw[show whole (f+1) s=none by rw[whole,hn];simp only;rw[if_pos hp];rw[hn2]] at hΨ;obtain ⟨rfl,L3,s3,rs3,rg3⟩:=hw3;refine .pan ?_;simp only[ZG,↓reduceIte,ZA,ZB,ZC];exact hΨ _ _ (fin_pan ⟨rfl,L3,s3,((rs1.trans q2).trans rs3).mono (Z5 _),(rg1.trans rg2).trans rg3⟩)
 | some p =>
 obtain ⟨m,s3⟩:=p;rw[hn2] at hw3;obtain ⟨rfl,rs3,hn3,L3,rg3⟩:=hw3;refine .ret ?_;rw[show whole (f+1) s=mkR arrow [n,m] s3 by rw[whole,hn];simp only;rw[if_pos hp];rw[hn2]] at hΨ;have z5:=rs3.sum;rw[z3,z4] at z5;have kP:Keep (fun _=>False) h3 (h3++[row 3 h3.length (nn [n,m])]):=Keep.push _ _ _;have rgA:=((rg1.trans rg2).trans rg3).keepF kP;have ha:∀ a∈[n,m],a<s3.T.length:=fun a ha=>by
  have l1:=rs3.le;rw[z4] at l1
  rcases List.mem_cons.1 ha with rfl|ha
  ·omega
  ·cases Z2.1 ha;exact hn3
 simp only[ZG,↓reduceIte,ZA,ZB,ZC,mbl,ZD,ZE,ZF];refine XX_of (make_ok (h:=h3++[row 3 h3.length (nn [n,m])]) rgA.rh (by omega) arrow (by simp [arrow]) (owsN (h:=h3) (xs:=[n,m])).rds (by simp) ha) (fun res h9 hle9 hm=>?_);have hw:=RM.rw hm rgA (((rs1.trans q2).trans rs3).mono (show 0+1<=1+4+1 by omega)) (by omega) (by exact ha);cases hmk:mkR arrow [n,m] s3 with
 | none =>
   rw[hmk] at hw hΨ;obtain ⟨rfl,hw⟩:=hw;refine .pan ?_;simp only[ZG,↓reduceIte,ZA,ZB,ZC];exact hΨ _ _ (fin_pan ⟨rfl,hw⟩)
 | some p =>
   rw[hmk] at hw hΨ;obtain ⟨rfl,hw⟩:=hw;refine .ret ?_;simp only[ZG,↓reduceIte,ZA,ZB,ZC];exact hΨ _ _ (fin_ret (rv1 rfl ⟨rfl,hw⟩))
theorem RH.keepX {h h':AH} {br b mv:Nat} {L:TL} {s:Rs} {X:Nat->Prop} (r:RH h br b mv L s) (k:Keep X h h') (hx:∀ q,L.cls q≠0 -> ¬ X q) (h1:¬ X br) (h2:¬ X mv):RH h' br b mv L s:=by
 obtain ⟨cs,t⟩:=r.th;exact ⟨r.own.keep k h1,⟨cs,t.keep k hx⟩,r.mo.keep k h2,r.zr,r.zm,r.ne⟩
theorem lookup_bs:∀ {l:List (Bs × Nat)} {k:Bs},mgetG k l=l.lookup k:=by
 intro l k
 induction l with
 | nil=>rfl
 | cons p l ih =>
   obtain ⟨a,b⟩:=p;rw[mgetG,List.lookup_cons]
   by_cases e:a=k
   ·subst e;simp
   ·have:(k == a)=false:=beq_eq_false_iff_ne.2 (fun h=>e h.symm)
    rw[if_neg e,this];exact ih
theorem lookup_in {l:List (Bs × Nat)} {k:Bs} {v:Nat} (h:l.lookup k=some v):(k,v)∈l:=by
 induction l with
 | nil=>cases h
 | cons p l ih =>
   obtain ⟨a,b⟩:=p;rw[List.lookup_cons] at h;cases e:(k == a) with
   | true=>rw[e] at h;cases h;rw[eq_of_beq e];exact Ze
   | false=>rw[e] at h;exact List.mem_cons_of_mem _ (ih h)
theorem RH.bind {h h':AH} {br b mv:Nat} {L:TL} {s:Rs} {vs:List (Bs × Nat)} (r:RH h br b mv L s) (m:MOG tvK kN h' mv vs) (k:Keep (· = mv) h h'):RG h h' br b mv L L { s with vars:=vs }:=by
 obtain ⟨cs,t⟩:=r.th;exact ⟨⟨r.own.keep k (fun e=>r.ne e),⟨cs,t.keep k (fun q e e2=>e (by rw[show q=mv from e2];exact r.zm))⟩,m,r.zr,r.zm,r.ne⟩,k.mono (fun _ e=>.inr (.inr e)),fun _ _=>Iff.rfl,fun _ _ e=>e⟩
set_option maxHeartbeats 8000000 in
set_option maxRecDepth 100000 in
theorem held_step {f:Nat} (wh:∀ g,g<=f->WH g):HL (f+1):=by
 intro h br b mv L s r ri hb hf;refine Gets.of (keep:=false) hP (draw_ok hM) k61 (by rfl) (fun Ψ hΨ=>?_);simp only[ZG,↓reduceIte,ZA,ZB,ZC,r61,YE,YC,YO,YA,YL,YX,YS,Ya,Yb,Yl,Yf,Yg,Yi,Ym,Yk,Yt,Yn,Yz,Yp,Yq,Yd];refine XX_of (skip_ok r [40,41]) (fun res h1 hle1 hw1=>?_);obtain ⟨rfl,rg1⟩:=hw1;refine .ret ?_;cases p1:pre s.rest [40,41] with
 | true =>
   have l1:2<=s.rest.length:=pre_len p1;rw[p1,if_pos rfl,show ([40,41]:Bs).length=2 from rfl] at rg1;rw[show held (f+1) s=mkR [40,41] [] (s.to (s.rest.drop 2)) by rw[held,if_pos p1]] at hΨ;simp only[ZG,↓reduceIte,ZA,ZB,ZC];refine XX_of (make_ok rg1.rh (by simp only[Rs.to];omega) [40,41] (by simp) (al:=[]) (u:=.slice none 0 0) .nil (by simp) (fun a ha=>by cases ha)) (fun res h9 hle9 hm=>?_);have hw:=RM.rw hm rg1 ((ri.to 2 l1).mono (show 0+1<=2 by omega)) (by simp only[Rs.to,Z8];omega) (by intro a ha;cases ha);cases hmk:mkR [40,41] [] (s.to (s.rest.drop 2)) with
   | none =>
     rw[hmk] at hw hΨ;obtain ⟨rfl,hw⟩:=hw;refine .pan ?_;simp only[ZG,↓reduceIte,ZA,ZB,ZC];exact hΨ _ _ (fin_pan ⟨rfl,hw⟩)
   | some p =>
     rw[hmk] at hw hΨ;obtain ⟨rfl,hw⟩:=hw;refine .ret ?_;simp only[ZG,↓reduceIte,ZA,ZB,ZC];exact hΨ _ _ (fin_ret (rv1 rfl ⟨rfl,hw⟩))
 | false =>
 rw[p1,if_neg (by simp)] at rg1;simp only[ZG,↓reduceIte,ZA,ZB,ZC];refine XX_of (skip_ok rg1.rh [91]) (fun res h2 hle2 hw2=>?_);obtain ⟨rfl,rg2⟩:=hw2;refine .ret ?_;cases p2:pre s.rest [91] with
 | true =>
   have l2:1<=s.rest.length:=pre_len p2;rw[p2,if_pos rfl,show ([91]:Bs).length=1 from rfl] at rg2;have q2:=ri.to 1 l2;have z3:(s.to (s.rest.drop 1)).rest.length=s.rest.length-1:=by simp [Rs.to]
   have z4:(s.to (s.rest.drop 1)).T=s.T:=rfl;simp only[ZG,↓reduceIte,ZA,ZB,ZC];refine XX_of (wh f (Z1 _) rg2.rh q2.ri (by rw[z3,z4];omega) (by rw[z3];omega)) (fun res h3 hle3 hw3=>?_);cases hn:whole f (s.to (s.rest.drop 1)) with
   | none =>
     rw[hn] at hw3;rw[show held (f+1) s=none by rw[held,if_neg (by rw[p1];simp),if_pos p2,hn]] at hΨ;obtain ⟨rfl,L3,s3,rs3,rg3⟩:=hw3;refine .pan ?_;simp only[ZG,↓reduceIte,ZA,ZB,ZC];exact hΨ _ _ (fin_pan ⟨rfl,L3,s3,(q2.trans rs3).mono (Z5 _),(rg1.trans rg2).trans rg3⟩)
   | some p =>
   obtain ⟨n,s3⟩:=p;rw[hn] at hw3;obtain ⟨rfl,rs3,hn3,L3,rg3⟩:=hw3;have z5:=rs3.sum;have z6:=rs3.len;rw[z3,z4] at z5;rw[z3] at z6;refine .ret ?_;simp only[ZG,↓reduceIte,ZA,ZB,ZC];refine XX_of (skip_ok rg3.rh [93]) (fun res h4 hle4 hw4=>?_);obtain ⟨rfl,rg4⟩:=hw4;refine .ret ?_;cases p3:pre s3.rest [93] with
   | false =>
     rw[p3,if_neg (by simp)] at rg4;rw[show held (f+1) s=none by rw[held,if_neg (by rw[p1];simp),if_pos p2,hn];simp only;rw[if_neg (by rw[p3];simp)]] at hΨ;simp only[ZG,↓reduceIte,ZA,ZB,ZC,Z7,mbl,ZD,ZE,ZF];exact hΨ _ _ (fin_pan ⟨rfl,L3,s3,(q2.trans rs3).mono (Z5 _),((rg1.trans rg2).trans rg3).trans rg4⟩)
   | true =>
   have l3:1<=s3.rest.length:=pre_len p3;rw[p3,if_pos rfl,show ([93]:Bs).length=1 from rfl] at rg4;rw[show held (f+1) s=mkR [91,93] [n] (s3.to (s3.rest.drop 1)) by rw[held,if_neg (by rw[p1];simp),if_pos p2,hn];simp only;rw[if_pos p3]] at hΨ;have kP:Keep (fun _=>False) h4 (h4++[row 3 h4.length (nn [n])]):=Keep.push _ _ _;have rgA:=(((rg1.trans rg2).trans rg3).trans rg4).keepF kP;have ha:∀ a∈[n],a<(s3.to (s3.rest.drop 1)).T.length:=fun a ha=>by cases Z2.1 ha;exact hn3
   simp only[ZG,↓reduceIte,ZA,ZB,ZC,Z4,mbl,ZD,ZE,ZF];refine XX_of (make_ok (h:=h4++[row 3 h4.length (nn [n])]) rgA.rh (by simp only[Rs.to];omega) [91,93] (by simp) (owsN (h:=h4) (xs:=[n])).rds (by simp) ha) (fun res h9 hle9 hm=>?_);have hw:=RM.rw hm rgA (((q2.trans rs3).trans (rs3.ri.to 1 l3)).mono (show 0+1<=1+1+1 by omega)) (by simp only[Rs.to,Z8];omega) (by exact ha);cases hmk:mkR [91,93] [n] (s3.to (s3.rest.drop 1)) with
   | none =>
     rw[hmk] at hw hΨ;obtain ⟨rfl,hw⟩:=hw;refine .pan ?_;simp only[ZG,↓reduceIte,ZA,ZB,ZC];exact hΨ _ _ (fin_pan ⟨rfl,hw⟩)
   | some p =>
     rw[hmk] at hw hΨ;obtain ⟨rfl,hw⟩:=hw;refine .ret ?_;simp only[ZG,↓reduceIte,ZA,ZB,ZC];exact hΨ _ _ (fin_ret (rv1 rfl ⟨rfl,hw⟩))
 | false =>
 rw[p2,if_neg (by simp)] at rg2;have rg12:=rg1.trans rg2;simp only[ZG,↓reduceIte,ZA,ZB,ZC];refine XX_of (skip_ok rg2.rh [40]) (fun res h3 hle3 hw3=>?_);obtain ⟨rfl,rg3⟩:=hw3;refine .ret ?_;cases p3:pre s.rest [40] with
 | true =>
   have l3:1<=s.rest.length:=pre_len p3;rw[p3,if_pos rfl,show ([40]:Bs).length=1 from rfl] at rg3;have q2:=ri.to 1 l3;have z3:(s.to (s.rest.drop 1)).rest.length=s.rest.length-1:=by simp [Rs.to]
   have z4:(s.to (s.rest.drop 1)).T=s.T:=rfl;simp only[ZG,↓reduceIte,ZA,ZB,ZC];refine XX_of (wh f (Z1 _) rg3.rh q2.ri (by rw[z3,z4];omega) (by rw[z3];omega)) (fun res h4 hle4 hw4=>?_);cases hn:whole f (s.to (s.rest.drop 1)) with
   | none =>
     rw[hn] at hw4;rw[show held (f+1) s=none by rw[held,if_neg (by rw[p1];simp),if_neg (by rw[p2];simp),if_pos p3,hn]] at hΨ;obtain ⟨rfl,L4,s4,rs4,rg4⟩:=hw4;refine .pan ?_;simp only[ZG,↓reduceIte,ZA,ZB,ZC];exact hΨ _ _ (fin_pan ⟨rfl,L4,s4,(q2.trans rs4).mono (Z5 _),(rg12.trans rg3).trans rg4⟩)
   | some p =>
   obtain ⟨n,s4⟩:=p;rw[hn] at hw4;obtain ⟨rfl,rs4,hn4,L4,rg4⟩:=hw4;have z5:=rs4.sum;have z6:=rs4.len;rw[z3,z4] at z5;rw[z3] at z6;refine .ret ?_;simp only[ZG,↓reduceIte,ZA,ZB,ZC,mbl,ZD,ZE,ZF];have kP:Keep (fun _=>False) h4 (h4++[row 3 h4.length (nn [n])]):=Keep.push _ _ _;have rg0:=((rg12.trans rg3).trans rg4).keepF kP;have ov0:=owsN (h:=h4) (xs:=[n]);obtain ⟨cs4,t4⟩:=rg4.rh.th;have c40:=t4.c0 h4.length (Z1 _);have hh4:h.length<=h4.length:=((rg12.trans rg3).trans rg4).kp.len;refine XLo_rule (α:=Nat × List Nat × Rs × TL × Value) (fun a=>[(0,.pointer (some ⟨br,0,none⟩)),(4,a.2.2.2.2)])
    (fun a h'=>tupR a.1 a.2.2.1 a.2.1=tupR f s4 [n]/\4*a.2.2.1.rest.length+3<=a.1/\a.1<=f/\RG h h' br b mv L a.2.2.2.1 a.2.2.1/\RS s a.2.2.1 2/\a.2.2.1.T.length+a.2.2.1.rest.length+1<=s.T.length+s.rest.length /\
     (1<=a.2.1.length/\a.2.1.length+a.2.2.1.rest.length<=s.rest.length)/\(∀ x∈a.2.1,x<a.2.2.1.T.length)/\Ows h' 3 1 a.2.2.2.2 a.2.1.length (nn a.2.1)/\(∀ q,bk a.2.2.2.2 q->h.length<=q/\a.2.2.2.1.cls q=0)) (fun a=>a.2.2.1.rest.length) (f,[n],s4,L4,.slice (some ⟨h4.length,0,none⟩) 1 1)
    ⟨rfl,by simp only;omega,Z1 _,rg0,(q2.trans rs4).mono (by omega),by simp only;omega,by simp only[Z3];omega,fun x hx=>by cases Z2.1 hx;exact hn4,ov0,fun q e=>by have e:q=h4.length:=e;subst e;exact ⟨hh4,c40⟩⟩ ⟨rfl,rfl,trivial⟩ ?_
   rintro ⟨g,l,s5,L5,v⟩ h5 Ψ2 ⟨htu,hg1,hg2,rg5,rs5,hs5,⟨hl1,hl2⟩,hal,ov,fv⟩ next out
   simp only at htu hg1 hg2 rg5 rs5 hs5 hl1 hl2 hal ov fv;obtain ⟨g,rfl⟩:∃ g',g=g'+1:=⟨g-1,by omega⟩
   have hbm:=r.lt;have nvv:∀ q,bk v q -> ¬ (TMine L5 q\/q=br\/q=mv):=fun q e=>by
    obtain ⟨a1,a2⟩:=fv q e;rintro (e|e|e)
    ·exact TMine.z a2 e
    ·omega
    ·omega
   simp only[ZG,↓reduceIte,ZA,ZB,ZC];refine XX_of (skip_ok rg5.rh [44,32]) (fun res h6 hle6 hw6=>?_);obtain ⟨rfl,rg6⟩:=hw6;refine .ret ?_;have ov6:=ov.keep rg6.kp nvv;cases p6:pre s5.rest [44,32] with
   | false =>
     rw[p6,if_neg (by simp)] at rg6;have htu2:tupR f s4 [n]=some (l,s5):=by rw[<- htu,tupR,if_neg (by rw[p6];simp)]
     simp only[ZG,↓reduceIte,ZA,ZB,ZC];refine out (.exit 1) _ _ _ _ (by intro e;cases e) ?_;simp only[ZG,↓reduceIte,ZA,ZB,ZC];refine XX_of (skip_ok rg6.rh [41]) (fun res h7 hle7 hw7=>?_);obtain ⟨rfl,rg7⟩:=hw7;refine .ret ?_;have ov7:=ov6.keep rg7.kp nvv;cases p7:pre s5.rest [41] with
     | false =>
       rw[p7,if_neg (by simp)] at rg7;rw[show held (f+1) s=none by rw[held,if_neg (by rw[p1];simp),if_neg (by rw[p2];simp),if_pos p3,hn];simp only;rw[htu2];simp only;rw[if_neg (by rw[p7];simp)]] at hΨ;simp only[ZG,↓reduceIte,ZA,ZB,ZC,Z7,mbl,ZD,ZE,ZF];exact hΨ _ _ (fin_pan ⟨rfl,L5,s5,rs5.mono (Z5 _),(rg5.trans rg6).trans rg7⟩)
     | true =>
     have l7:1<=s5.rest.length:=pre_len p7;rw[p7,if_pos rfl,show ([41]:Bs).length=1 from rfl] at rg7;have rsA:=rs5.trans (rs5.ri.to 1 l7);obtain ⟨va,vc,hv⟩:=row_shape ov7.rds
     by_cases hone:l.length=1
     case pos =>
      rw[show held (f+1) s=some (l.headD 0,s5.to (s5.rest.drop 1)) by rw[held,if_neg (by rw[p1];simp),if_neg (by rw[p2];simp),if_pos p3,hn];simp only;rw[htu2];simp only;rw[if_pos p7,if_pos hone]] at hΨ;obtain ⟨x,rfl⟩:=List.length_eq_one_iff.1 hone;obtain ⟨b1,o1,c1,ev,ll⟩:=nn_at ov7.rds (i:=0) (a:=x) rfl;have d1:((([x]:List Nat).length:Nat):Int)=1:=rfl;rw[Nat.add_zero] at ll;simp only[ZG,↓reduceIte,ZA,ZB,ZC,Z4,mbl,ZD,ZE,ZF,ev,d1,Z6,Z9,show ((0:Int)<1)=True by simp,and_self,Nat.zero_mul,ll];exact hΨ _ _ (fin_ret (rv1 rfl ⟨rfl,rsA.mono (by omega),hal x (by simp),L5,(rg5.trans rg6).trans rg7⟩))
     case neg =>
     rw[show held (f+1) s=mkR (tuple l.length) l (s5.to (s5.rest.drop 1)) by rw[held,if_neg (by rw[p1];simp),if_neg (by rw[p2];simp),if_pos p3,hn];simp only;rw[htu2];simp only;rw[if_pos p7,if_neg hone]] at hΨ;have d1:((l.length:Int)=1)=False:=eq_false (by omega);simp only[ZG,↓reduceIte,ZA,ZB,ZC,Z4,mbl,ZD,ZE,ZF,hv,d1];refine XX_val (tuple_ok hl1 (by omega) h7) ?_;simp only[ZG,↓reduceIte,ZA,ZB,ZC,mbl,ZD,ZE,ZF,hv];rw[<- hv];refine XX_of (make_ok rg7.rh (by simp only[Rs.to];omega) (tuple l.length) (by rw[tuple_len];omega) ov7.rds (by omega) hal) (fun res h9 hle9 hm=>?_);have hw:=RM.rw hm ((rg5.trans rg6).trans rg7) (rsA.mono (show 0+1<=2+1 by omega)) (by simp only[Rs.to,Z8];omega) (by exact hal);cases hmk:mkR (tuple l.length) l (s5.to (s5.rest.drop 1)) with
     | none =>
       rw[hmk] at hw hΨ;obtain ⟨rfl,hw⟩:=hw;refine .pan ?_;simp only[ZG,↓reduceIte,ZA,ZB,ZC];exact hΨ _ _ (fin_pan ⟨rfl,hw⟩)
     | some p =>
       rw[hmk] at hw hΨ;obtain ⟨rfl,hw⟩:=hw;refine .ret ?_;simp only[ZG,↓reduceIte,ZA,ZB,ZC];exact hΨ _ _ (fin_ret (rv1 rfl ⟨rfl,hw⟩))
   | true =>
   have l6:2<=s5.rest.length:=pre_len p6;rw[p6,if_pos rfl,show ([44,32]:Bs).length=2 from rfl] at rg6;have q6:=rs5.ri.to 2 l6;have y3:(s5.to (s5.rest.drop 2)).rest.length=s5.rest.length-2:=by simp [Rs.to]
   have y4:(s5.to (s5.rest.drop 2)).T=s5.T:=rfl;simp only[ZG,↓reduceIte,ZA,ZB,ZC];refine XX_of (wh g (by omega) rg6.rh q6.ri (by rw[y3,y4];omega) (by rw[y3];omega)) (fun res h7 hle7 hw7=>?_);cases hn7:whole g (s5.to (s5.rest.drop 2)) with
   | none =>
     rw[hn7] at hw7;have htu2:tupR f s4 [n]=none:=by rw[<- htu,tupR,if_pos p6,hn7]
     rw[show held (f+1) s=none by rw[held,if_neg (by rw[p1];simp),if_neg (by rw[p2];simp),if_pos p3,hn];simp only;rw[htu2]] at hΨ;obtain ⟨rfl,L7,s7,rs7,rg7⟩:=hw7;refine .pan ?_;simp only[ZG,↓reduceIte,ZA,ZB,ZC];refine out (.pan _) _ _ _ _ (by intro e;cases e) ?_;simp only[ZG,↓reduceIte,ZA,ZB,ZC];exact hΨ _ _ (fin_pan ⟨rfl,L7,s7,((rs5.trans q6).trans rs7).mono (Z5 _),(rg5.trans rg6).trans rg7⟩)
   | some p =>
   obtain ⟨m,s7⟩:=p;rw[hn7] at hw7;obtain ⟨rfl,rs7,hn7',L7,rg7⟩:=hw7;refine .ret ?_;have y5:=rs7.sum;have y6:=rs7.len;rw[y3,y4] at y5;rw[y3] at y6;have ov7:=ov6.keep rg7.kp nvv;obtain ⟨v',h8,a1,a2,a3,a4⟩:=app1 (bytes:=8) (e:=3) ov7 (xs:=[iv (m:Int)]) rfl rfl (by omega) (by omega);have rg57:=(rg5.trans rg6).trans rg7;have c7:∀ q,bk v q->L7.cls q=0:=fun q e=>by
    have y:=ov.lt q e;have y2:=rg6.kp.len;exact (rg7.sm q (by omega)).2 ((rg6.sm q (by omega)).2 (fv q e).2)
   have rh8:RH h8 br b mv L7 s7:=rg7.rh.keepX a3 (fun q e e2=>e (c7 q e2)) (fun e=>by have:=(fv _ e).1;omega) (fun e=>by have:=(fv _ e).1;omega);obtain ⟨cs7,t7⟩:=rg7.rh.th;have htu2:tupR g s7 (l++[m])=tupR f s4 [n]:=by rw[<- htu];conv=>rhs;rw[tupR,if_pos p6,hn7]
   simp only[ZG,↓reduceIte,ZA,ZB,ZC,mbl,ZD,ZE,ZF,a1];refine next (g,l++[m],s7,L7,v') _ _ h8 ⟨htu2,by simp only;omega,by simp only;omega,⟨rh8,rg57.kp.trans' a3 (fun q hq e=>by have:=(fv _ e).1;omega),rg57.sm,rg57.mn⟩,((rs5.trans q6).trans rs7).mono (by omega),by simp only;omega,by simp only[Z0,Z3];omega,fun x hx=>?_,by simp only;rw[Z0,nn_app];exact a2,fun q e=>?_⟩ ⟨rfl,rfl,trivial⟩ (by simp only;omega)
   ·simp only at hx ⊢
    rcases Zd.1 hx with hx|hx
    ·have w1:=hal x hx
     have w2:=rs7.le;rw[y4] at w2;omega
    ·cases Z2.1 hx;exact hn7'
   ·simp only at e ⊢
    rcases a4 q e with e|e
    ·exact ⟨(fv q e).1,c7 q e⟩
    ·exact ⟨by have:=rg57.kp.len;omega,t7.c0 q e⟩
 | false =>
 rw[p3,if_neg (by simp)] at rg3;have rg13:=rg12.trans rg3;simp only[ZG,↓reduceIte,ZA,ZB,ZC];refine XX_val (large_ok rg3.rh) ?_;cases p4:isLg s.rest with
 | true =>
   have l4:=isLg_pos p4;have l5:wlen s.rest<=s.rest.length:=spn_le _ _;rw[show held (f+1) s=mkR (s.rest.take (wlen s.rest)) [] (s.to (s.rest.drop (wlen s.rest))) by rw[held,if_neg (by rw[p1];simp),if_neg (by rw[p2];simp),if_neg (by rw[p3];simp),if_pos p4]] at hΨ;simp only[ZG,↓reduceIte,ZA,ZB,ZC];refine XX_of (word_ok rg3.rh (by omega)) (fun res h4 hle4 hw4=>?_);obtain ⟨rfl,rg4⟩:=hw4;refine .ret ?_;simp only[ZG,↓reduceIte,ZA,ZB,ZC];refine XX_of (make_ok rg4.rh (by simp only[Rs.to];omega) (s.rest.take (wlen s.rest)) (by rw[Zb];omega) (al:=[]) (u:=.slice none 0 0) .nil (by simp) (fun a ha=>by cases ha)) (fun res h9 hle9 hm=>?_);have hw:=RM.rw hm (rg13.trans rg4) ((ri.to _ l5).mono (show 0+1<=wlen s.rest by omega)) (by simp only[Rs.to,Z8];omega) (by intro a ha;cases ha);cases hmk:mkR (s.rest.take (wlen s.rest)) [] (s.to (s.rest.drop (wlen s.rest))) with
   | none =>
     rw[hmk] at hw hΨ;obtain ⟨rfl,hw⟩:=hw;refine .pan ?_;simp only[ZG,↓reduceIte,ZA,ZB,ZC];exact hΨ _ _ (fin_pan ⟨rfl,hw⟩)
   | some p =>
     rw[hmk] at hw hΨ;obtain ⟨rfl,hw⟩:=hw;refine .ret ?_;simp only[ZG,↓reduceIte,ZA,ZB,ZC];exact hΨ _ _ (fin_ret (rv1 rfl ⟨rfl,hw⟩))
 | false =>
 have l5:wlen s.rest<=s.rest.length:=spn_le _ _;rw[show held (f+1) s=nameR s by rw[held,if_neg (by rw[p1];simp),if_neg (by rw[p2];simp),if_neg (by rw[p3];simp),if_neg (by rw[p4];simp)]] at hΨ;simp only[ZG,↓reduceIte,ZA,ZB,ZC];refine XX_of (word_ok rg3.rh (by omega)) (fun res h4 hle4 hw4=>?_);obtain ⟨rfl,rg4⟩:=hw4;refine .ret ?_
 by_cases w0:wlen s.rest=0
 case pos =>
  have e0:(s.rest.take (wlen s.rest) == ([]:Bs))=true:=by rw[w0];rfl
  rw[show nameR s=none by rw[nameR,if_pos w0]] at hΨ;simp only[ZG,↓reduceIte,ZA,ZB,ZC,tx_toList,mk_toList,e0,mbl,ZD,ZE,ZF];exact hΨ _ _ (fin_pan ⟨rfl,L,_,(ri.to _ l5).mono (Z5 _),rg13.trans rg4⟩)
 case neg =>
 have e0:(s.rest.take (wlen s.rest) == ([]:Bs))=false:=beq_eq_false_iff_ne.2 (fun e=>by
  have e2:=congrArg List.length e;rw[Zb] at e2;simp only[List.length_nil] at e2;omega)
 cases hg:mgetG (s.rest.take (wlen s.rest)) s.vars with
 | some v =>
   have hl:=MOG.lks (z:=iv 0) (ok:=true) keyS rg4.rh.mo (k:=s.rest.take (wlen s.rest)) hg;rw[lookup_bs] at hg;rw[show nameR s=some (v,s.to (s.rest.drop (wlen s.rest))) by rw[nameR,if_neg w0,hg]] at hΨ;simp only[ZG,↓reduceIte,ZA,ZB,ZC,tx_toList,mk_toList,e0,mbl,ZD,ZE,ZF,rg4.rh.own.cells.ld,hl,Z4];exact hΨ _ _ (fin_ret (rv1 rfl ⟨rfl,(ri.to _ l5).mono (by omega),ri.vr _ (lookup_in hg),L,rg13.trans rg4⟩))
 | none =>
   have hl:=MOG.lkn (z:=iv 0) (ok:=true) keyS rg4.rh.mo (k:=s.rest.take (wlen s.rest)) hg;have hg2:=hg;rw[lookup_bs] at hg2;rw[show nameR s=some (s.T.length,⟨s.T++[⟨[],[]⟩],s.rest.drop (wlen s.rest),s.vars++[(s.rest.take (wlen s.rest),s.T.length)]⟩) by rw[nameR,if_neg w0,hg2]] at hΨ;simp only[ZG,↓reduceIte,ZA,ZB,ZC,tx_toList,mk_toList,e0,mbl,ZD,ZE,ZF,rg4.rh.own.cells.ld,hl,Z7];obtain ⟨cs4,t4⟩:=rg4.rh.th;refine XX_of (var_ok t4 (by simp only[Rs.to];omega)) (fun res h5 hle5 hn5=>?_);obtain ⟨rfl,L5,g5⟩:=hn5;refine .ret ?_;have rg5:=rg4.rh.grn g5;obtain ⟨h6,u1,u2,u3⟩:=up65 (s.rest.take (wlen s.rest)) s.T.length rg5.rh.mo hg;have eT:(s.to (s.rest.drop (wlen s.rest))).T.length=s.T.length:=rfl;simp only[ZG,↓reduceIte,ZA,ZB,ZC,mbl,ZD,ZE,ZF,rg5.rh.own.cells.ld,eT,u1];have hres:RW h h6 br b mv L s (some (s.T.length,⟨s.T++[⟨[],[]⟩],s.rest.drop (wlen s.rest),s.vars++[(s.rest.take (wlen s.rest),s.T.length)]⟩)) (.ret (iv (s.T.length:Int))):=by
    refine ⟨rfl,⟨⟨[⟨[],[]⟩],rfl⟩,⟨ri.ac.snoc okN_var (fun a ha=>by cases ha),fun p hp=>?_⟩,?_,?_⟩,by simp,L5,((rg13.trans rg4).trans rg5).trans (rg5.rh.bind u2 u3)⟩
    ·rcases Zd.1 hp with hp|hp
     ·have:=ri.vr p hp;simp only[Z0];omega
     ·cases Z2.1 hp;simp
    ·simp only[Z0,Z3,Z8];omega
    ·simp only[Z8];omega
   refine hΨ _ _ (fin_ret (rv1 ?_ hres))
   rfl
end Go.S11

namespace Go.S11
open Go Go.Eng Go.Proofs Go.Scn Go.Typ
theorem moreA_short {l:Bs} (h:l.length<=1):moreA l=false:=by
 cases l with
 | nil=>rfl
 | cons x y=>cases y with
   | nil=>rfl
   | cons y z=>simp at h
theorem moreA_cons {x y:UInt8} {l:Bs}:moreA (x::y::l)=(decide ((x.toNat:Int)=32) && decide (¬ (y.toNat:Int)=45)):=by
 have e1:(x == 32)=decide ((x.toNat:Int)=32):=by
  rw[Zc];simp only[beq_iff_eq,decide_eq_true_eq,<- UInt8.toNat_inj]
  show x.toNat=32 ↔ _
  omega
 have e2:(y != 45)=decide (¬ (y.toNat:Int)=45):=by
  rw[Zc];simp only[bne_iff_ne,ne_eq,decide_eq_true_eq,<- UInt8.toNat_inj]
  show ¬ y.toNat=45 ↔ _
  omega
 show (x == 32 && y != 45)=_
 rw[e1,e2]
set_option maxHeartbeats 8000000 in
set_option maxRecDepth 100000 in
theorem named_step {f:Nat} (hl:∀ g,g<=f->HL g):NM (f+1):=by
 intro h br b mv L s r ri hb hf;refine Gets.of (keep:=false) hP (draw_ok hM) k49 (by rfl) (fun Ψ hΨ=>?_);simp only[ZG,↓reduceIte,ZA,ZB,ZC,r49,YE,YC,YO,YA,YL,YX,YS,Ya,Yb,Yl,Yf,Yg,Yi,Ym,Yk,Yt,Yn,Yz,Yp,Yq,Yd];refine XX_val (large_ok r) ?_;cases p1:isLg s.rest with
 | false =>
   simp only[ZG,↓reduceIte,ZA,ZB,ZC,Z7];rw[show named (f+1) s=held f s by rw[named,if_neg (by rw[p1];simp)]] at hΨ;refine XX_of (hl f (Z1 _) r ri hb (by omega)) (fun res h1 hle1 hw=>?_);cases hn:held f s with
   | none =>
     rw[hn] at hw hΨ;obtain ⟨rfl,hw⟩:=hw;refine .pan ?_;simp only[ZG,↓reduceIte,ZA,ZB,ZC];exact hΨ _ _ (fin_pan ⟨rfl,hw⟩)
   | some p =>
     rw[hn] at hw hΨ;obtain ⟨rfl,hw⟩:=hw;refine .ret ?_;simp only[ZG,↓reduceIte,ZA,ZB,ZC];exact hΨ _ _ (fin_ret (rv1 rfl ⟨rfl,hw⟩))
 | true =>
 have l4:=isLg_pos p1;have l5:wlen s.rest<=s.rest.length:=spn_le _ _;simp only[ZG,↓reduceIte,ZA,ZB,ZC,Z4];refine XX_of (word_ok r (by omega)) (fun res h1 hle1 hw1=>?_);obtain ⟨rfl,rg1⟩:=hw1;refine .ret ?_;have q1:=ri.to _ l5;have z3:(s.to (s.rest.drop (wlen s.rest))).rest.length=s.rest.length-wlen s.rest:=by simp [Rs.to]
 have z4:(s.to (s.rest.drop (wlen s.rest))).T=s.T:=rfl;have hnl:(s.rest.take (wlen s.rest)).length<=1000000000:=by rw[Zb];omega
 generalize hs1:s.to (s.rest.drop (wlen s.rest))=s1 at rg1 q1 z3 z4;generalize hnm:s.rest.take (wlen s.rest)=nm at hnl;simp only[ZG,↓reduceIte,ZA,ZB,ZC,mbl,ZD,ZE,ZF];refine XLo_rule (α:=Nat × List Nat × Rs × TL × Value) (fun a=>[(0,.pointer (some ⟨br,0,none⟩)),(3,tv nm),(4,a.2.2.2.2)])
  (fun a h'=>argR a.1 a.2.2.1 a.2.1=argR f s1 []/\4*a.2.2.1.rest.length+3<=a.1/\a.1<=f/\RG h h' br b mv L a.2.2.2.1 a.2.2.1/\RS s a.2.2.1 (0+1)/\a.2.2.1.T.length+a.2.2.1.rest.length+1<=s.T.length+s.rest.length /\
   a.2.1.length+a.2.2.1.rest.length<=s.rest.length/\(∀ x∈a.2.1,x<a.2.2.1.T.length)/\Ows h' 3 1 a.2.2.2.2 a.2.1.length (nn a.2.1)/\(∀ q,bk a.2.2.2.2 q->h.length<=q/\a.2.2.2.1.cls q=0)) (fun a=>a.2.2.1.rest.length) (f,[],s1,L,.slice none 0 0)
  ⟨rfl,by simp only;omega,Z1 _,rg1,q1.mono (by omega),by simp only[z4];omega,by simp only[List.length_nil];omega,fun x hx=>(by cases hx),.nil,fun q e=>e.elim⟩ ⟨rfl,rfl,rfl,trivial⟩ ?_
 rintro ⟨g,l,s5,L5,v⟩ h5 Ψ2 ⟨htu,hg1,hg2,rg5,rs5,hs5,hl2,hal,ov,fv⟩ next out
 simp only at htu hg1 hg2 rg5 rs5 hs5 hl2 hal ov fv;obtain ⟨g,rfl⟩:∃ g',g=g'+1:=⟨g-1,by omega⟩
 have hbm:=r.lt;have nvv:∀ q,bk v q -> ¬ (TMine L5 q\/q=br\/q=mv):=fun q e=>by
  obtain ⟨a1,a2⟩:=fv q e;rintro (e|e|e)
  ·exact TMine.z a2 e
  ·omega
  ·omega
 have bl5:=rg5.rh.own.cells.ld
 by_cases c1:(1:Int)<(s5.rest.length:Int)
 case neg =>
  simp only[ZG,↓reduceIte,ZA,ZB,ZC,mbl,ZD,ZE,ZF,bl5,tx_size,c1];have hmo:moreA s5.rest=false:=by exact moreA_short (by omega)
  have htu2:argR f s1 []=some (l,s5):=by rw[<- htu,argR,if_neg (by rw[hmo];simp)]
  refine out (.exit 0) _ _ _ _ (by intro e;cases e) ?_;simp only[ZG,↓reduceIte,ZA,ZB,ZC];rw[show named (f+1) s=mkR nm l s5 by rw[named,if_pos p1,hs1,hnm,htu2]] at hΨ;refine XX_of (make_ok rg5.rh (by omega) nm hnl ov.rds (by omega) hal) (fun res h9 hle9 hm=>?_);have hw:=RM.rw hm rg5 rs5 (by omega) (by exact hal);cases hmk:mkR nm l s5 with
  | none =>
    rw[hmk] at hw hΨ;obtain ⟨rfl,hw⟩:=hw;refine .pan ?_;simp only[ZG,↓reduceIte,ZA,ZB,ZC];exact hΨ _ _ (fin_pan ⟨rfl,hw⟩)
  | some p =>
    rw[hmk] at hw hΨ;obtain ⟨rfl,hw⟩:=hw;refine .ret ?_;simp only[ZG,↓reduceIte,ZA,ZB,ZC];exact hΨ _ _ (fin_ret (rv1 rfl ⟨rfl,hw⟩))
 case pos =>
 obtain ⟨x,y,z,hr⟩:∃ x y z,s5.rest=x::y::z:=by
  cases hr:s5.rest with
  | nil=>rw[hr] at c1;simp at c1
  | cons x y=>cases y with
    | nil=>rw[hr] at c1;simp at c1
    | cons y z=>exact ⟨x,y,z,rfl⟩
 have g0:s5.rest[0]?=some x:=by rw[hr];rfl
 have g1:s5.rest[(1:Int).toNat]?=some y:=by rw[hr];rfl
 by_cases c2:(x.toNat:Int)=32
 case neg =>
  simp only[ZG,↓reduceIte,ZA,ZB,ZC,mbl,ZD,ZE,ZF,bl5,tx_size,c1,tx_get,g0,Z6,Z9,c2];have hmo:moreA s5.rest=false:=by rw[hr,moreA_cons,decide_eq_false c2];rfl
  have htu2:argR f s1 []=some (l,s5):=by rw[<- htu,argR,if_neg (by rw[hmo];simp)]
  refine out (.exit 0) _ _ _ _ (by intro e;cases e) ?_;simp only[ZG,↓reduceIte,ZA,ZB,ZC];rw[show named (f+1) s=mkR nm l s5 by rw[named,if_pos p1,hs1,hnm,htu2]] at hΨ;refine XX_of (make_ok rg5.rh (by omega) nm hnl ov.rds (by omega) hal) (fun res h9 hle9 hm=>?_);have hw:=RM.rw hm rg5 rs5 (by omega) (by exact hal);cases hmk:mkR nm l s5 with
  | none =>
    rw[hmk] at hw hΨ;obtain ⟨rfl,hw⟩:=hw;refine .pan ?_;simp only[ZG,↓reduceIte,ZA,ZB,ZC];exact hΨ _ _ (fin_pan ⟨rfl,hw⟩)
  | some p =>
    rw[hmk] at hw hΨ;obtain ⟨rfl,hw⟩:=hw;refine .ret ?_;simp only[ZG,↓reduceIte,ZA,ZB,ZC];exact hΨ _ _ (fin_ret (rv1 rfl ⟨rfl,hw⟩))
 case pos =>
 by_cases c3:(y.toNat:Int)=45
 case pos =>
  simp only[ZG,↓reduceIte,ZA,ZB,ZC,mbl,ZD,ZE,ZF,bl5,tx_size,c1,tx_get,g0,g1,Z6,Z9,show ((0:Int)<=1)=True by simp,c2,c3];have hmo:moreA s5.rest=false:=by rw[hr,moreA_cons];simp [c3]
  have htu2:argR f s1 []=some (l,s5):=by rw[<- htu,argR,if_neg (by rw[hmo];simp)]
  refine out (.exit 0) _ _ _ _ (by intro e;cases e) ?_;simp only[ZG,↓reduceIte,ZA,ZB,ZC];rw[show named (f+1) s=mkR nm l s5 by rw[named,if_pos p1,hs1,hnm,htu2]] at hΨ;refine XX_of (make_ok rg5.rh (by omega) nm hnl ov.rds (by omega) hal) (fun res h9 hle9 hm=>?_);have hw:=RM.rw hm rg5 rs5 (by omega) (by exact hal);cases hmk:mkR nm l s5 with
  | none =>
    rw[hmk] at hw hΨ;obtain ⟨rfl,hw⟩:=hw;refine .pan ?_;simp only[ZG,↓reduceIte,ZA,ZB,ZC];exact hΨ _ _ (fin_pan ⟨rfl,hw⟩)
  | some p =>
    rw[hmk] at hw hΨ;obtain ⟨rfl,hw⟩:=hw;refine .ret ?_;simp only[ZG,↓reduceIte,ZA,ZB,ZC];exact hΨ _ _ (fin_ret (rv1 rfl ⟨rfl,hw⟩))
 case neg =>
 have hmo:moreA s5.rest=true:=by rw[hr,moreA_cons,decide_eq_true c2,decide_eq_true c3];rfl
 have e_sl:slsv (.string (tx s5.rest)) (some (iv 1)) none=some (.string (tx (s5.rest.drop 1)),none):=sl_from (p:=1) (by omega);simp only[ZG,↓reduceIte,ZA,ZB,ZC,mbl,ZD,ZE,ZF,bl5,tx_size,c1,tx_get,g0,g1,Z6,Z9,show ((0:Int)<=1)=True by simp,c2,c3,e_sl];refine XH_own rg5.rh.own rfl (by simp [Value.cells]) rfl (fun h6 k1 k2 k3=>?_);have o:Own h6 br tR [.pointer (some ⟨b,0,none⟩),tv (s5.rest.drop 1),.map (some mv)]:=by simpa [Value.cells] using k1
 have rg6:=rg5.rh.rest o k2;have q6:=rs5.ri.to 1 (by omega);have y3:(s5.to (s5.rest.drop 1)).rest.length=s5.rest.length-1:=by simp [Rs.to]
 have y4:(s5.to (s5.rest.drop 1)).T=s5.T:=rfl;have ov6:=ov.keep rg6.kp nvv;simp only[ZG,↓reduceIte,ZA,ZB,ZC];refine XX_of (hl g (by omega) rg6.rh q6.ri (by rw[y3,y4];omega) (by rw[y3];omega)) (fun res h7 hle7 hw7=>?_);cases hn7:held g (s5.to (s5.rest.drop 1)) with
 | none =>
   rw[hn7] at hw7;have htu2:argR f s1 []=none:=by rw[<- htu,argR,if_pos hmo,hn7]
   rw[show named (f+1) s=none by rw[named,if_pos p1,hs1,hnm,htu2]] at hΨ;obtain ⟨rfl,L7,s7,rs7,rg7⟩:=hw7;refine .pan ?_;simp only[ZG,↓reduceIte,ZA,ZB,ZC];refine out (.pan _) _ _ _ _ (by intro e;cases e) ?_;simp only[ZG,↓reduceIte,ZA,ZB,ZC];exact hΨ _ _ (fin_pan ⟨rfl,L7,s7,((rs5.trans q6).trans rs7).mono (Z5 _),(rg5.trans rg6).trans rg7⟩)
 | some p =>
 obtain ⟨m,s7⟩:=p;rw[hn7] at hw7;obtain ⟨rfl,rs7,hn7',L7,rg7⟩:=hw7;refine .ret ?_;have y5:=rs7.sum;have y6:=rs7.len;rw[y3,y4] at y5;rw[y3] at y6;have ov7:=ov6.keep rg7.kp nvv;obtain ⟨v',h8,a1,a2,a3,a4⟩:=app1 (bytes:=8) (e:=3) ov7 (xs:=[iv (m:Int)]) rfl rfl (by omega) (by omega);have rg57:=(rg5.trans rg6).trans rg7;have c7:∀ q,bk v q->L7.cls q=0:=fun q e=>by
  have y:=ov.lt q e;have y2:=rg6.kp.len;exact (rg7.sm q (by omega)).2 ((rg6.sm q (by omega)).2 (fv q e).2)
 have rh8:RH h8 br b mv L7 s7:=rg7.rh.keepX a3 (fun q e e2=>e (c7 q e2)) (fun e=>by have:=(fv _ e).1;omega) (fun e=>by have:=(fv _ e).1;omega);obtain ⟨cs7,t7⟩:=rg7.rh.th;have htu2:argR g s7 (l++[m])=argR f s1 []:=by rw[<- htu];conv=>rhs;rw[argR,if_pos hmo,hn7]
 simp only[ZG,↓reduceIte,ZA,ZB,ZC,mbl,ZD,ZE,ZF,a1];refine next (g,l++[m],s7,L7,v') _ _ h8 ⟨htu2,by simp only;omega,by simp only;omega,⟨rh8,rg57.kp.trans' a3 (fun q hq e=>by have:=(fv _ e).1;omega),rg57.sm,rg57.mn⟩,((rs5.trans q6).trans rs7).mono (by omega),by simp only;omega,by simp only[Z0,Z3];omega,fun x hx=>?_,by simp only;rw[Z0,nn_app];exact a2,fun q e=>?_⟩ ⟨rfl,rfl,rfl,trivial⟩ (by simp only;omega)
 ·simp only at hx ⊢
  rcases Zd.1 hx with hx|hx
  ·have w1:=hal x hx
   have w2:=rs7.le;rw[y4] at w2;omega
  ·cases Z2.1 hx;exact hn7'
 ·simp only at e ⊢
  rcases a4 q e with e|e
  ·exact ⟨(fv q e).1,c7 q e⟩
  ·exact ⟨by have:=rg57.kp.len;omega,t7.c0 q e⟩
theorem read_all:∀ f,WH f/\NM f/\HL f:=by
 intro f
 induction f using Nat.strongRecOn with
 | ind f ih =>
   cases f with
   | zero=>exact ⟨fun _ _ _ e=>absurd e (by omega),fun _ _ _ e=>absurd e (by omega),fun _ _ _ e=>absurd e (by omega)⟩
   | succ f=>exact ⟨whole_step (ih f (by omega)).2.1 (ih f (by omega)).1,named_step (fun g hg=>(ih g (by omega)).2.2),held_step (fun g hg=>(ih g (by omega)).1)⟩
end Go.S11

namespace Go.S11
open Go Go.Eng Go.Proofs Go.Scn Go.Typ
theorem rvc2 {e l:PE} {h:AH} {ds:List Dfr} {x y:RX} {f g:U} {p q u v:Value} {K:List Value->Prop} (hx:rx e l x=some p) (hu:uval Tryd.prog h h.length f p=some (u,none)) (hy:rx e l y=some q) (hv:uval Tryd.prog h h.length g q=some (v,none)) (hk:K [u,v]) :
 rvK Tryd.prog ⟨e,l,h,ds⟩ [.c x f,.c y g] K:=by
 simp only[rvK,hx,vK,hu,rK,hy,hv];exact hk
structure RdOK (T:List Tm) (s:Bs) (n:Nat) (T':List Tm) (t:Ty):Prop where
 le:s.length<=20000
 wh:∃ vars,whole (4*s.length+4) ⟨T,s,[]⟩=some (n,⟨T',[],vars⟩)
 tr:Tr T' id n t
 te:txt t=s
 sz:sz t<=500
def RdP (h:AH) (b:Nat) (L:TL) (T:List Tm) (s:Bs) (res:Res) (h':AH):Prop:=∃ L' T',Grn h h' b L L' T' id false/\AC T'/\(∃ X,T'=T++X)/\T'.length<=T.length+s.length/\T'.length<=T.length+20000 /\
 ((∃ n t,RdOK T s n T' t/\res = .ret (.tuple #[iv (n:Int),iv 0]))\/((∀ n T2 t,¬ RdOK T s n T2 t)/\res = .ret (.tuple #[iv 0,iv 8])))
abbrev rsR:List RV:=[.c (.n 4) .ld,.c (.n 5) .ld]
section
variable {Φ:Res->AH->Prop} {Ψ:Out->PS->Prop} {e l:PE} {h':AH} {bn be:Nat} {x y:Value}
theorem rd_ld (o:Own h' bn 3 [x]):uval Tryd.prog h' h'.length .ld (.pointer (some ⟨bn,0,none⟩))=some (x,none):=by
 simp only[uval];rw[o.cells.ld];rfl
theorem rd_ld2 (o:Own h' be 27 [y]):uval Tryd.prog h' h'.length .ld (.pointer (some ⟨be,0,none⟩))=some (y,none):=by
 simp only[uval];rw[o.cells.ld];rfl
theorem rd_none (hΨ:∀ o s,finD Tryd.prog false 29 [0,1,4,5,9,10] (.n 5) r29 [] rsR Φ o s->Ψ o s)
 (h2:Eng.look e 4=some (.pointer (some ⟨bn,0,none⟩))) (h3:Eng.look e 5=some (.pointer (some ⟨be,0,none⟩))) (o2:Own h' bn 3 [x]) (o3:Own h' be 27 [y]) (hk:Φ (.ret (.tuple #[x,y])) h') :
 Ψ .ret ⟨e,l,h',[⟨.func 29,[.pointer (some ⟨bn,0,none⟩),.pointer (some ⟨be,0,none⟩)],[]⟩]⟩:=by
 refine hΨ _ _ (dfr_of (by rfl) (fun Ψ4 hΨ4=>?_));simp only[ZG,↓reduceIte,ZA,ZB,ZC,r29,YE,YC,YO,YA,YL,YX,YS,Ya,Yb,Yl,Yf,Yg,Yi,Ym,Yk,Yt,Yn,Yz,Yp,Yq,Yd,Option.getD_none,mbl,ZD,ZE,ZF];exact hΨ4 _ _ ⟨.inl rfl,rfl,Z1 _,⟨[],rfl⟩,rvc2 h2 (rd_ld o2) h3 (rd_ld2 o3) hk⟩
theorem rd_fail (hΨ:∀ o s,finD Tryd.prog false 29 [0,1,4,5,9,10] (.n 5) r29 [] rsR Φ o s->Ψ o s)
 (h2:Eng.look e 4=some (.pointer (some ⟨bn,0,none⟩))) (h3:Eng.look e 5=some (.pointer (some ⟨be,0,none⟩))) (o2:Own h' bn 3 [x]) (o3:Own h' be 27 [y]) (hne:bn≠be) (hk:∀ h6,Keep (fun q=>q=bn\/q=be) h' h6->Φ (.ret (.tuple #[iv 0,iv 8])) h6) :
 Ψ (.pan uV) ⟨e,l,h',[⟨.func 29,[.pointer (some ⟨bn,0,none⟩),.pointer (some ⟨be,0,none⟩)],[]⟩]⟩:=by
 refine hΨ _ _ (dfr_of (by rfl) (fun Ψ2 hΨ2=>?_));simp only[ZG,↓reduceIte,ZA,ZB,ZC,r29,YE,YC,YO,YA,YL,YX,YS,Ya,Yb,Yl,Yf,Yg,Yi,Ym,Yk,Yt,Yn,Yz,Yp,Yq,Yd,Option.getD_some,mbl,ZD,ZE,ZF];have on:=Own.new h' 63 h'.length [];have k0:Keep (fun _=>False) h' (h'++[row 63 h'.length []]):=Keep.push _ _ _;have o2':=o2.keep k0 (fun e=>e);have o3':=o3.keep k0 (fun e=>e);refine XH_own on rfl (by simp [Value.cells]) rfl (fun h4 q1 q2 q3=>?_);have lb2:=o2.lt;have lb3:=o3.lt;have o24:=o2'.keep q2 (fun e=>by omega);have o34:=o3'.keep q2 (fun e=>by omega);simp only[ZG,↓reduceIte,ZA,ZB,ZC];refine XH_own o24 rfl (by simp [Value.cells]) rfl (fun h5 p1 p2 p3=>?_);have o25:Own h5 bn 3 [iv 0]:=by simpa [Value.cells] using p1
 have o35:=o34.keep p2 (fun e=>hne e.symm);simp only[ZG,↓reduceIte,ZA,ZB,ZC];refine XH_own o35 rfl (by simp [Value.cells]) rfl (fun h6 t1 t2 t3=>?_);have o36:Own h6 be 27 [iv 8]:=by simpa [Value.cells] using t1
 have o26:=o25.keep t2 (fun e=>hne e);simp only[ZG,↓reduceIte,ZA,ZB,ZC];have kk:Keep (fun q=>q=bn\/q=be) h' h6:=(((k0.mono (fun _ e=>e.elim)).trans' q2 (fun c hc e=>by omega)).trans (p2.mono (fun _ e=>.inl e))).trans (t2.mono (fun _ e=>.inr e));exact hΨ2 _ _ ⟨.inl rfl,rfl,kk.len,⟨[],rfl⟩,rvc2 h2 (rd_ld o26) h3 (rd_ld2 o36) (hk h6 kk)⟩
end
section
variable {h:AH} {b:Nat} {L:TL} {cs:List Ce} {T:List Tm}
theorem uNew_ok (h:AH):Gets Tryd.prog 20 [] h (fun res h'=>res = .ret (.pointer (some ⟨h.length,0,none⟩))/\Keep (fun _=>False) h h'/\Own h' h.length 79 [.slice none 0 0,iv 0]):=by
 refine Gets.of (keep:=false) hP (draw_ok hM) k20 (by rfl) (fun Ψ hΨ=>?_);simp only[ZG,↓reduceIte,ZA,ZB,ZC,r20,YE,YC,YO,YA,YL,YX,YS,Ya,Yb,Yl,Yf,Yg,Yi,Ym,Yk,Yt,Yn,Yz,Yp,Yq,Yd,mbl,ZD,ZE,ZF];exact hΨ _ _ (fin_ret (rv1 rfl ⟨rfl,Keep.push _ _ _,Own.new h _ h.length _⟩))
theorem New_ok (h:AH):Gets Tryd.prog 9 [] h (fun res h'=>∃ b L,res = .ret (.pointer (some ⟨b,0,none⟩))/\Keep (fun _=>False) h h'/\h.length<=b/\(∀ q,q<h.length->L.cls q=0) /\ ∃ cs,TH h' b L cs [] id false):=by
 refine Gets.of (keep:=false) hP (draw_ok hM) k9 (by rfl) (fun Ψ hΨ=>?_);simp only[ZG,↓reduceIte,ZA,ZB,ZC,r9,YE,YC,YO,YA,YL,YX,YS,Ya,Yb,Yl,Yf,Yg,Yi,Ym,Yk,Yt,Yn,Yz,Yp,Yq,Yd];refine XX_of (uNew_ok h) (fun res h1 hle hn=>?_);obtain ⟨rfl,k1,o1⟩:=hn;refine .ret ?_;simp only[ZG,↓reduceIte,ZA,ZB,ZC,mbl,ZD,ZE,ZF];have o2:=Own.new h1 48 h1.length [.pointer (some ⟨h.length,0,none⟩),.bool false];have k2:Keep (fun _=>False) h1 (h1++[row 48 h1.length [.pointer (some ⟨h.length,0,none⟩),.bool false]]):=Keep.push _ _ _;have l1:=o1.lt;refine hΨ _ _ (fin_ret (rv1 rfl ⟨h1.length,⟨h.length,.slice none 0 0,fun q=>if q=h1.length then 1 else if q=h.length then 2 else 0⟩,rfl,k1.trans k2,by omega,fun q hq=>?_,[],o2,⟨0,o1.keep k2 (fun e=>e)⟩,.nil,rfl,by simp,fun i t e=>?_,fun i c t e=>?_,fun i c e=>?_,fun i _=>rfl,?_,?_,fun q e=>e.elim,fun q hq=>?_⟩))
 ·simp only;rw[if_neg (by omega),if_neg (by omega)]
 ·simp at e
 ·simp at e
 ·simp at e
 ·simp
 ·simp only;rw[if_neg (by omega)];rfl
 ·simp only[Z0,Z3] at hq ⊢;rw[if_neg (by omega),if_neg (by omega)]
set_option maxHeartbeats 4000000 in
set_option maxRecDepth 100000 in
theorem Read_ok (s:TH h b L cs T id false) (ac:AC T) (hT:T.length<=900000) (w:Bs):Gets Tryd.prog 14 [.pointer (some ⟨b,0,none⟩),tv w] h (RdP h b L T w):=by
 refine Gets.ofd (keep:=false) (keepg:=false) hP (draw_ok hM) (draw_ok hM) k14 k29 (by rfl) (fun Ψ hΨ=>?_);have oN0:=Own.new h 3 h.length [iv 0];have kN0:Keep (fun _=>False) h (h++[row 3 h.length [iv 0]]):=Keep.push _ _ _;simp only[ZG,↓reduceIte,ZA,ZB,ZC,r14,YE,YC,YO,YA,YL,YX,YS,Ya,Yb,Yl,Yf,Yg,Yi,Ym,Yk,Yt,Yn,Yz,Yp,Yq,Yd,mbl,ZD,ZE,ZF];generalize hh1:h++[row 3 h.length [iv 0]]=h1 at oN0 kN0 ⊢;have hl1:h1.length=h.length+1:=by rw[<- hh1];simp
 have oE0:=Own.new h1 27 h1.length [iv 0];have kE0:Keep (fun _=>False) h1 (h1++[row 27 h1.length [iv 0]]):=Keep.push _ _ _;generalize hh2:h1++[row 27 h1.length [iv 0]]=h2 at oE0 kE0 ⊢;have hl2:h2.length=h1.length+1:=by rw[<- hh2];simp
 have k02:=kN0.trans kE0;have s2:=s.keepF k02;refine XX_of (look_ok s2 (l:=[]) (u:=.slice none 0 0) .nil (by simp) (fun a ha=>by cases ha)) (fun res h3 hle3 hn3=>?_);obtain ⟨k3,rfl⟩:=hn3;refine .ret ?_;have s3:=s2.keepF k3;have k03:=k02.trans k3;have oN3:=(oN0.keep kE0 (fun e=>e)).keep k3 (fun e=>e);have oE3:=oE0.keep k3 (fun e=>e);have l23:=k3.len;have zN:L.cls h.length=0:=s.c0 _ (Z1 _);have zE:L.cls h1.length=0:=s.c0 _ (by omega);have hNE:h.length≠h1.length:=by omega
 by_cases hlen:(20000:Int)<(w.length:Int)
 case pos =>
  simp only[ZG,↓reduceIte,ZA,ZB,ZC,spE,Zf,tx_size,hlen,mbl,ZD,ZE,ZF];refine XH_own oN3 rfl (by simp [Value.cells]) rfl (fun h4 p1 p2 p3=>?_);have oN4:Own h4 h.length 3 [iv 0]:=by simpa [Value.cells] using p1
  have oE4:=oE3.keep p2 (fun e=>hNE e.symm);simp only[ZG,↓reduceIte,ZA,ZB,ZC];refine XH_own oE4 rfl (by simp [Value.cells]) rfl (fun h5 q1 q2 q3=>?_);have oE5:Own h5 h1.length 27 [iv 8]:=by simpa [Value.cells] using q1
  have oN5:=oN4.keep q2 (fun e=>hNE e);simp only[ZG,↓reduceIte,ZA,ZB,ZC];have k05:Keep (fun _=>False) h h5:=(k03.trans' p2 (fun q hq e=>by omega)).trans' q2 (fun q hq e=>by omega);exact hΨ _ _ (dfr_no (rvc2 rfl (rd_ld oN5) rfl (rd_ld2 oE5) ⟨L,T,(Grn.refl s).keepF k05,ac,⟨[],by simp⟩,by omega,by omega,.inr ⟨fun n T2 t r=>by have:=r.le;omega,rfl⟩⟩))
 case neg =>
 have mS:MOG tvK kN (h3++[.map []]) h3.length ([]:List (Bs × Nat)):=MOG.new h3;have kS:Keep (fun _=>False) h3 (h3++[.map []]):=Keep.push _ _ _;simp only[ZG,↓reduceIte,ZA,ZB,ZC,spE,Zf,tx_size,hlen,mbl,ZD,ZE,ZF];generalize hh4:h3++[.map []]=h4 at mS kS ⊢;have hl4:h4.length=h3.length+1:=by rw[<- hh4];simp
 have oR:=Own.new h4 tR h4.length [.pointer (some ⟨b,0,none⟩),tv w,.map (some h3.length)];have kR:Keep (fun _=>False) h4 (h4++[row tR h4.length [.pointer (some ⟨b,0,none⟩),tv w,.map (some h3.length)]]):=Keep.push _ _ _;generalize hh5:h4++[row tR h4.length [.pointer (some ⟨b,0,none⟩),tv w,.map (some h3.length)]]=h5 at oR kR ⊢;have hl5:h5.length=h4.length+1:=by rw[<- hh5];simp
 have k35:=kS.trans kR;have k05:=k03.trans k35;have s5:=s3.keepF k35;have oN5:=oN3.keep k35 (fun e=>e);have oE5:=oE3.keep k35 (fun e=>e);have rh5:RH h5 h4.length b h3.length L ⟨T,w,[]⟩:=⟨oR,⟨_,s5⟩,mS.keep kR (fun e=>e),s.c0 _ (by omega),s.c0 _ (by omega),by omega⟩
 have ri5:RI ⟨T,w,[]⟩:=⟨ac,fun p hp=>by cases hp⟩
 refine XX_of ((read_all (4*w.length+4)).1 rh5 ri5 (by simp only;omega) (Z1 _)) (fun res h6 hle6 hw6=>?_);cases hn:whole (4*w.length+4) ⟨T,w,[]⟩ with
 | none =>
   rw[hn] at hw6;obtain ⟨rfl,L6,s6,rs6,rg6⟩:=hw6;refine .pan ?_;simp only[ZG,↓reduceIte,ZA,ZB,ZC];have n6:∀ q,q=h.length\/q=h1.length -> ¬ (TMine L q\/q=h4.length\/q=h3.length):=by
    rintro q (rfl|rfl) (e|e|e)
    ·exact TMine.z zN e
    ·omega
    ·omega
    ·exact TMine.z zE e
    ·omega
    ·omega
   have oN6:=oN5.keep rg6.kp (n6 _ (.inl rfl));have oE6:=oE5.keep rg6.kp (n6 _ (.inr rfl));refine rd_fail hΨ rfl rfl oN6 oE6 hNE (fun h7 k7=>?_);obtain ⟨cs6,t6⟩:=rg6.rh.th;have z6:=rs6.sum;simp only at z6;refine ⟨L6,s6.T,⟨⟨cs6,t6.keep k7 (fun q e e2=>?_)⟩,((k05.mono (fun _ e=>e.elim)).trans' rg6.kp (fun q hq e=>?_)).trans' k7 (fun q hq e=>by omega),fun q hq=>rg6.sm q (by omega),fun q hq=>rg6.mn q (by omega)⟩,rs6.ri.ac,rs6.t,by omega,by omega,.inr ⟨fun n T2 t r=>?_,rfl⟩⟩
   ·rcases e2 with rfl|rfl
    ·exact e ((rg6.sm _ (by omega)).2 zN)
    ·exact e ((rg6.sm _ (by omega)).2 zE)
   ·rcases e with e|e|e
    ·exact e
    ·omega
    ·omega
   ·obtain ⟨vars,e⟩:=r.wh
    rw[hn] at e;cases e
 | some p =>
 obtain ⟨n,s6⟩:=p;rw[hn] at hw6;obtain ⟨rfl,rs6,hn6,L6,rg6⟩:=hw6;refine .ret ?_;have n6:∀ q,q=h.length\/q=h1.length -> ¬ (TMine L q\/q=h4.length\/q=h3.length):=by
  rintro q (rfl|rfl) (e|e|e)
  ·exact TMine.z zN e
  ·omega
  ·omega
  ·exact TMine.z zE e
  ·omega
  ·omega
 have oN6:=oN5.keep rg6.kp (n6 _ (.inl rfl));have oE6:=oE5.keep rg6.kp (n6 _ (.inr rfl));have l56:=rg6.kp.len;have zN6:=(rg6.sm h.length (by omega)).2 zN;have zE6:=(rg6.sm h1.length (by omega)).2 zE;obtain ⟨cs6,t6⟩:=rg6.rh.th;simp only[ZG,↓reduceIte,ZA,ZB,ZC];refine XH_own oN6 rfl (by simp [Value.cells]) rfl (fun h7 p1 p2 p3=>?_);have oN7:Own h7 h.length 3 [iv (n:Int)]:=by simpa [Value.cells] using p1
 have oE7:=oE6.keep p2 (fun e=>hNE e.symm);have oR7:=rg6.rh.own.keep p2 (fun e=>by omega);have t7:=t6.keep p2 (fun q e e2=>e (by rw[show q=h.length from e2];exact zN6));obtain ⟨t,ht⟩:=rs6.ri.ac.tree n hn6;simp only[ZG,↓reduceIte,ZA,ZB,ZC,oN7.cells.ld,mbl,ZD,ZE,ZF];refine XX_of (Text_ok ht t7) (fun res h8 hle8 hn8=>?_);obtain ⟨k8,rfl,cs8,t8⟩:=hn8;refine .ret ?_;have nv:∀ q,L6.cls q=0 -> ¬ bk L6.vc q:=fun q e e2=>by have:=t6.c3 q e2;omega
 have oN8:=oN7.keep k8 (nv _ zN6);have oE8:=oE7.keep k8 (nv _ zE6);have oR8:=oR7.keep k8 (nv _ rg6.rh.zr);have gr:∀ hh,Keep (fun q=>q=h.length\/q=h1.length) h8 hh->Grn h hh b L L6 s6.T id false:=fun hh k=>by
  refine ⟨⟨cs8,t8.keep k (fun q e e2=>?_)⟩,((((k05.mono (fun _ e=>e.elim)).trans' rg6.kp (fun q hq e=>?_)).trans' p2 (fun q hq e=>by omega)).trans' k8 (fun q hq e=>?_)).trans' k (fun q hq e=>by omega),fun q hq=>rg6.sm q (by omega),fun q hq=>rg6.mn q (by omega)⟩
  ·rcases e2 with rfl|rfl
   ·exact e zN6
   ·exact e zE6
  ·rcases e with e|e|e
   ·exact e
   ·omega
   ·omega
  ·exact rg6.mn q (by omega) (.inr (t6.c3 q e))
 have z6:=rs6.sum;simp only at z6;have no:(sz t<=500->s6.rest=[]->txt t=w->False) -> ∀ n2 T2 t2,¬ RdOK T w n2 T2 t2:=fun hc n2 T2 t2 r=>by
  obtain ⟨vars,e⟩:=r.wh;rw[hn] at e;have e1:=Option.some.inj e;have e2:n=n2:=congrArg Prod.fst e1;have e3:s6.T=T2:=congrArg (fun p=>p.2.T) e1;have e4:s6.rest=[]:=congrArg (fun p=>p.2.rest) e1;subst e2;subst e3;have e5:=r.tr.det ht;subst e5;exact hc r.sz e4 r.te
 by_cases hs:sz t<=500
 case neg =>
  have e:smE t=11:=by unfold smE;rw[if_neg hs]
  simp only[ZG,↓reduceIte,ZA,ZB,ZC,mbl,ZD,ZE,ZF,e];refine XH_own oN8 rfl (by simp [Value.cells]) rfl (fun h9 u1 u2 u3=>?_);have oN9:Own h9 h.length 3 [iv 0]:=by simpa [Value.cells] using u1
  have oE9:=oE8.keep u2 (fun e=>hNE e.symm);simp only[ZG,↓reduceIte,ZA,ZB,ZC];refine XH_own oE9 rfl (by simp [Value.cells]) rfl (fun h10 v1 v2 v3=>?_);have oE10:Own h10 h1.length 27 [iv 8]:=by simpa [Value.cells] using v1
  have oN10:=oN9.keep v2 (fun e=>hNE e);simp only[ZG,↓reduceIte,ZA,ZB,ZC];exact rd_none hΨ rfl rfl oN10 oE10 ⟨L6,s6.T,gr _ ((u2.mono (fun _ e=>.inl e)).trans (v2.mono (fun _ e=>.inr e))),rs6.ri.ac,rs6.t,by omega,by omega,.inr ⟨no (fun c1 c2 c3=>by exact absurd c1 hs),rfl⟩⟩
 case pos =>
 have e:smE t=0:=by unfold smE;rw[if_pos hs]
 cases hr:(s6.rest == ([]:Bs)) with
 | false =>
   simp only[ZG,↓reduceIte,ZA,ZB,ZC,mbl,ZD,ZE,ZF,e,oR8.cells.ld,tx_toList,mk_toList,hr,Z7];refine XH_own oN8 rfl (by simp [Value.cells]) rfl (fun h9 u1 u2 u3=>?_);have oN9:Own h9 h.length 3 [iv 0]:=by simpa [Value.cells] using u1
   have oE9:=oE8.keep u2 (fun e=>hNE e.symm);simp only[ZG,↓reduceIte,ZA,ZB,ZC];refine XH_own oE9 rfl (by simp [Value.cells]) rfl (fun h10 v1 v2 v3=>?_);have oE10:Own h10 h1.length 27 [iv 8]:=by simpa [Value.cells] using v1
   have oN10:=oN9.keep v2 (fun e=>hNE e);simp only[ZG,↓reduceIte,ZA,ZB,ZC];exact rd_none hΨ rfl rfl oN10 oE10 ⟨L6,s6.T,gr _ ((u2.mono (fun _ e=>.inl e)).trans (v2.mono (fun _ e=>.inr e))),rs6.ri.ac,rs6.t,by omega,by omega,.inr ⟨no (fun c1 c2 c3=>by rw[c2] at hr;cases hr),rfl⟩⟩
 | true =>
 have er:s6.rest=[]:=eq_of_beq hr;cases hw:(txt t == w) with
 | false =>
   simp only[ZG,↓reduceIte,ZA,ZB,ZC,mbl,ZD,ZE,ZF,e,oR8.cells.ld,tx_toList,mk_toList,hr,Z4,if_pos hs,hw,Z7];refine XH_own oN8 rfl (by simp [Value.cells]) rfl (fun h9 u1 u2 u3=>?_);have oN9:Own h9 h.length 3 [iv 0]:=by simpa [Value.cells] using u1
   have oE9:=oE8.keep u2 (fun e=>hNE e.symm);simp only[ZG,↓reduceIte,ZA,ZB,ZC];refine XH_own oE9 rfl (by simp [Value.cells]) rfl (fun h10 v1 v2 v3=>?_);have oE10:Own h10 h1.length 27 [iv 8]:=by simpa [Value.cells] using v1
   have oN10:=oN9.keep v2 (fun e=>hNE e);simp only[ZG,↓reduceIte,ZA,ZB,ZC];exact rd_none hΨ rfl rfl oN10 oE10 ⟨L6,s6.T,gr _ ((u2.mono (fun _ e=>.inl e)).trans (v2.mono (fun _ e=>.inr e))),rs6.ri.ac,rs6.t,by omega,by omega,.inr ⟨no (fun c1 c2 c3=>by rw[c3] at hw;simp at hw),rfl⟩⟩
 | true =>
 have ew:txt t=w:=eq_of_beq hw;simp only[ZG,↓reduceIte,ZA,ZB,ZC,mbl,ZD,ZE,ZF,e,oR8.cells.ld,tx_toList,mk_toList,hr,Z4,if_pos hs,hw,oN8.cells.ld];refine XH_own oN8 rfl (by simp [Value.cells]) rfl (fun h9 u1 u2 u3=>?_);have oN9:Own h9 h.length 3 [iv (n:Int)]:=by simpa [Value.cells] using u1
 have oE9:=oE8.keep u2 (fun e=>hNE e.symm);simp only[ZG,↓reduceIte,ZA,ZB,ZC];refine XH_own oE9 rfl (by simp [Value.cells]) rfl (fun h10 v1 v2 v3=>?_);have oE10:Own h10 h1.length 27 [iv 0]:=by simpa [Value.cells] using v1
 have oN10:=oN9.keep v2 (fun e=>hNE e);simp only[ZG,↓reduceIte,ZA,ZB,ZC];obtain ⟨s6T,s6r,s6v⟩:=s6;simp only at er;subst er;exact rd_none hΨ rfl rfl oN10 oE10 ⟨L6,s6T,gr _ ((u2.mono (fun _ e=>.inl e)).trans (v2.mono (fun _ e=>.inr e))),rs6.ri.ac,rs6.t,by simp only at z6;omega,by simp only at z6;omega,.inl ⟨n,t,⟨by omega,⟨s6v,hn⟩,ht,ew,hs⟩,rfl⟩⟩
end
end Go.S11

namespace Go.Typ
open Go Go.Scn
structure CpF (T:List Tm) (t:Ty) (c:Nat) (T2:List Tm) (f:Nat->Nat):Prop where
 ac:AC T2
 ext:∃ X,T2=T++X/\X.length<=sz t
 tr:Tr T2 id c (ren f t)
 te:txt (ren f t)=txt t
 nv:(vs (ren f t) []).length=(vs t []).length
theorem cpF {T:List Tm} {n:Nat} {t:Ty} (ht:Tr T id n t) (ac:AC T) {s0:Cs} (hT:s0.T=T) (ok:Cok s0):CpF T t (cp t s0).1 (cp t s0).2.T (cp t s0).2.f:=by
 obtain ⟨a,b,c,d⟩:=cp_ok t ⟨T,n,ac,ht⟩ s0 ok;have hi:Inj (cp t s0).2.f (fun v=>((cp t s0).2.ags.lookup v).isSome=true):=by
  intro x y hx hy e;obtain ⟨u,hu⟩:=Za.1 hx;obtain ⟨v,hv⟩:=Za.1 hy;have e1:(cp t s0).2.f x=u:=by simp [Cs.f,hu]
  have e2:(cp t s0).2.f y=v:=by simp [Cs.f,hv]
  exact a.ok.nj _ (lookup_mem hu) _ (lookup_mem hv) (by simp only;rw[<- e1,<- e2,e])
 obtain ⟨X,x1,x2⟩:=a.t;exact ⟨a.ok.ac,⟨X,by rw[x1,hT],x2⟩,d,txt_ren hi c,nvars_ren hi c⟩
theorem cp_new {T:List Tm} {n:Nat} {t:Ty} (ht:Tr T id n t) (ac:AC T):∀ v∈fv t,T.length<=(cp t ⟨T,[]⟩).2.f v:=by
 have ok:Cok ⟨T,[]⟩:=⟨ac,fun p hp=>(by cases hp),fun p hp=>(by cases hp)⟩
 obtain ⟨a,b,c,d⟩:=cp_ok t ⟨T,n,ac,ht⟩ _ ok;intro v hv;obtain ⟨u,hu⟩:=Za.1 (c v hv);obtain ⟨Y,y1,y2⟩:=a.a;have hm:=lookup_mem hu;rw[y1,List.nil_append] at hm;have:=y2 _ hm;simp only[Cs.f,hu,Option.getD_some];exact this
theorem cp_kept {T:List Tm} {n:Nat} {t:Ty} (ht:Tr T id n t) (ac:AC T) {s0:Cs} (hT:s0.T=T) (ok:Cok s0) (hk:∀ v∈fv t,s0.ags.lookup v=some v):ren (cp t s0).2.f t=t:=by
 obtain ⟨a,b,c,d⟩:=cp_ok t ⟨T,n,ac,ht⟩ s0 ok;rw[ren_congr (g:=fun n=>n) t (fun v hv=>by simp [Cs.f,a.look (hk v hv)]),ren_id]
theorem fv_lt {T:List Tm} {n:Nat} {t:Ty} (ht:Tr T id n t):∀ v∈fv t,v<T.length:=fun v hv=>(List.getElem?_eq_some_iff.1 (ht.fv v hv)).1
theorem apart_new {T:List Tm} {n:Nat} {t:Ty} (ht:Tr T id n t) {f:Nat->Nat} (hf:∀ v∈fv t,T.length<=f v):∀ v∈fv (ren f t),v ∉ vs t []:=by
 intro v hv hm;rw[fv_ren] at hv;obtain ⟨w,hw,rfl⟩:=List.mem_map.1 hv
 rcases (mem_vs t [] _).1 hm with h|h
 ·cases h
 ·have:=fv_lt ht _ h;have:=hf w hw;omega
theorem eq_new {T:List Tm} {n:Nat} {t:Ty} (ht:Tr T id n t) {f:Nat->Nat} (hf:∀ v∈fv t,T.length<=f v):eqT t (ren f t)=decide ((vs t []).length=0):=by
 cases hv:vs t [] with
 | nil =>
   have h0:∀ v,v ∉ fv t:=fun v h=>by
    have:=(mem_vs t [] v).2 (.inr h);rw[hv] at this;cases this
   rw[ren_congr (g:=fun n=>n) t (fun v h=>absurd h (h0 v)),ren_id];simp [eqT_self]
 | cons a l =>
   have hm:a∈fv t:=by
    rcases (mem_vs t [] a).1 (by rw[hv];exact Ze) with h|h
    ·cases h
    ·exact h
   have hne:t≠ren f t:=fun e=>by
    have h2:=fv_lt ht a hm;rw[e,fv_ren] at hm;obtain ⟨w,hw,e2⟩:=List.mem_map.1 hm;have h1:=hf w hw;omega
   cases h:eqT t (ren f t) with
   | true=>exact absurd ((eqT_iff _ _).1 h) hne
   | false=>simp
theorem pair_sz {t u:Ty} {nm:Bs} (h:sz u=sz t):sz (.con nm [t,u])=2*sz t+1:=by
 simp only[sz,szs,h];omega
theorem pair_vs {t u:Ty} {nm:Bs} (h:∀ v∈fv u,v ∉ vs t []) (hn:(vs u []).length=(vs t []).length):(vs (.con nm [t,u]) []).length=2*(vs t []).length:=by
 simp only[vs,vss];have:=vs_apart u (vs t []) [] h;rw[List.append_nil] at this;rw[this,Z0,hn];omega
theorem snd2:snd [40,44,41] 2=true:=by decide
end Go.Typ
namespace Go.S11
open Go Go.Eng Go.Proofs Go.Scn Go.Typ
theorem wakes_ok (h:AH):Gets Tryd.prog 8 [] h (fun res h'=>h'=h/\res = .ret (.bool true)) :=
 closed_getsL (n:=100) (fuel:=1000) (keep:=fun _=>false) hP hM (by kernel_rfl) h
end Go.S11
