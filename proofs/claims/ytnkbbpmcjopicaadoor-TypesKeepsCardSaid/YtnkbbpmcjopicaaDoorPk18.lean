import Derived.Test.YtnkbbpmcjopicaaDoorPk17
import Derived.Test.YtnkbbpmcjopicaaDoorPk13
import Derived.Shelf.GgClosure.StringsIndexFuncTop
import Derived.Laws.RangeString
import Derived.Laws.RangeAny
import Derived.Tactics
import Derived.Tactics2
import Derived.WalkKit
import Derived.KernelRfl
import Derived.Test.YtnkbbpmcjopicaaDoorProg
import Derived.Test.YtnkbbpmcjopicaaDoorPk12
import Derived.Test.YtnkbbpmcjopicaaDoorPk14
set_option linter.unusedVariables false
set_option linter.unusedSimpArgs false
open Nat renaming reduceEqDiff -> ZA,reduceAdd -> ZB,reduceMul -> ZC,reduceLeDiff -> ZD,reduceLT -> ZE
open Int renaming reduceEq -> ZF
open List renaming getElem?_eq_getElem->Z0,replicate->Z1,getElem?_append_left->Z4,mem_singleton->Z6,take_add_one->Z7,take_length->Z9,getElem_mem->Za,getElem?_append_right->Zc,mem_append->Zd,take_of_length_le->Ze,take_succ_cons->Zh,replicate_succ->Zi,length_append->Zj
open Nat renaming le_refl->Z2,mul_one->Z8,zero_le->Zf
open Int renaming toNat_natCast->Z3,cast_ofNat_Int->Z5,natCast_add->Zb
open Bool renaming not_true->Zg,false_eq_true->Zk
namespace Go.S11
open Go Go.Eng Go.Proofs Go.Scn Go.Typ
abbrev kN (n:Nat):Value:=iv (n:Int)
theorem kint:Tryd.prog.underlying 3=some (.int .i64):=by kernel_rfl
theorem keyN:KeyOK Tryd.prog 3 kN:=KeyOK.nat kint
theorem same_kN (k:Nat):Instr.sameBits 10000 (kN k) (kN k)=true:=by simp [Instr.sameBits]
theorem m52:Tryd.prog.underlying 52=some (.map 3 3):=by kernel_rfl
theorem lookup_get:∀ {l:List (Nat × Nat)} {k:Nat},mgetG k l=l.lookup k:=by
 intro l k
 induction l with
 | nil=>rfl
 | cons p l ih =>
   obtain ⟨a,b⟩:=p;rw[mgetG,List.lookup_cons]
   by_cases e:a=k
   ·subst e;simp
   ·have:(k == a)=false:=beq_eq_false_iff_ne.2 (fun h=>e h.symm)
    rw[if_neg e,this];exact ih
set_option maxRecDepth 100000 in
theorem up52 {h:AH} {ma:Nat} {l:List (Nat × Nat)} (k v:Nat) (m:MOG kN kN h ma l) (hg:l.lookup k=none):∃ h',wmapUpdate Tryd.prog h 52 (.map (some ma)) (kN k) (kN v)=some h'/\MOG kN kN h' ma (l++[(k,v)])/\Keep (· = ma) h h':=by
 have:=MOG.up (P:=Tryd.prog) (kt:=3) (kf:=kN) (vf:=kN) (mt:=52) (et:=3) k v m52 keyN same_kN m;obtain ⟨h5,l',u1,u2,u3,u4,u5,u6⟩:=this;have el:=u4 (by rw[lookup_get];exact hg);subst el;exact ⟨h5,u1,u2,u5⟩
theorem nn_flat (xs:List Nat):xs.flatMap (fun a:Nat=>[kN a])=nn xs:=by
 induction xs with
 | nil=>rfl
 | cons a l ih=>rw[List.flatMap_cons,ih];rfl
theorem cps_take {ts:List Ty}:∀ {i:Nat} {t:Ty} {s:Cs},ts[i]?=some t->cps (ts.take (i+1)) s=((cps (ts.take i) s).1++[(cp t (cps (ts.take i) s).2).1],(cp t (cps (ts.take i) s).2).2):=by
 induction ts with
 | nil=>intro i t s h;simp at h
 | cons u m ih =>
   intro i t s h;cases i with
   | zero=>simp at h;subst h;simp [cps]
   | succ i=>rw[Zh,Zh,cps,cps,ih (by simpa using h)];rfl
structure Cpd (h h':AH) (b:Nat) (L L':TL) (ma:Nat) (s:Cs) (sp:Bool):Prop where
 th:∃ cs',TH h' b L' cs' s.T id sp
 kp:Keep (fun q=>TMine L q\/q=ma) h h'
 sm:∀ q,q<h.length->(L'.cls q=0 ↔ L.cls q=0)
 mn:∀ q,q<h.length->TMine L' q->TMine L q
 mo:MOG kN kN h' ma s.ags
section
variable {b:Nat} {sp:Bool} {ma:Nat}
set_option maxHeartbeats 4000000 in
set_option maxRecDepth 100000 in
theorem copied_ok (t:Ty):∀ {n:Nat} (s:Cs),Tr s.T id n t->Cok s -> ∀ {h:AH} {L:TL} {cs:List Ce},TH h b L cs s.T id sp->MOG kN kN h ma s.ags->L.cls ma=0->s.T.length+sz t<=100000000 ->
 Gets Tryd.prog 33 [.pointer (some ⟨b,0,none⟩),iv (n:Int),.map (some ma)] h (fun res h'=>res = .ret (iv ((cp t s).1:Int)) /\ ∃ L',Cpd h h' b L L' ma (cp t s).2 sp):=by
 induction t using Ty.ind with
 | hv v =>
   intro n s ht ok h L cs th mo zm hb;refine Gets.of (keep:=false) hP (draw_ok hM) k33 (by rfl) (fun Ψ hΨ=>?_);obtain ⟨hn,hv,hT⟩:n<s.T.length/\v=n/\s.T[n]?=some ⟨[],[]⟩:=by
    cases ht with
    | var hn hT=>exact ⟨hn,rfl,hT⟩
   subst hv;simp only[ZG,↓reduceIte,ZA,ZB,ZC,r33,YE,YC,YO,YA,YL,YX,YS,Ya,Yb,Yl,Yf,Yg,Yi,Ym,Yk,Yt,Yn,Yz,Yp,Yq,Yd];refine XX_of (at_ok th hn) (fun res h1 hle1 hn1=>?_);obtain ⟨k1,cs1,c,s1,hc,rfl⟩:=hn1;refine .ret ?_;have oN:=Own.new h1 46 h1.length [.string ⟨#[]⟩,.slice none 0 0];have kN:Keep (fun _=>False) h1 (h1++[row 46 h1.length [.string ⟨#[]⟩,.slice none 0 0]]):=Keep.push _ _ _;simp only[ZG,↓reduceIte,ZA,ZB,ZC,mbl,ZD,ZE,ZF];generalize h1++[row 46 h1.length [.string ⟨#[]⟩,.slice none 0 0]]=h2 at oN kN ⊢;have hone:=s1.one hc;refine XH_own oN rfl (by simp [Value.cells]) (by show (true && (c.v.oneCell' && true))=true;rw[hone];rfl) (fun h3 q1 q2 q3=>?_);have oB:Own h3 h1.length 46 [tv c.nm,c.v]:=by simpa [Value.cells] using q1
   have kB:Keep (fun _=>False) h1 h3:=kN.trans' q2 (fun q hq e=>by omega);have s3:=s1.keepF kB;have zB:L.cls h1.length=0:=s1.c0 _ (Z2 _);have k03:Keep (bk L.vc) h h3:=k1.trans (kB.mono (fun _ e=>e.elim));clear q1 q2 q3 kN oN;obtain ⟨e1,rA,_⟩:=s3.tm _ c _ hc hT;have e0:c.nm=[]:=e1;have dn:(([]:Bs) == ([]:Bs))=true:=rfl;have mo3:=mo.keep k03 (fun e=>by have:=th.c3 _ e;omega);have hid:((id v:Nat):Int)=(v:Int):=rfl;rw[sz] at hb;have k03':Keep (fun q=>TMine L q\/q=ma) h h3:=k03.mono (fun q e=>.inl (.inr (th.c3 q e)));cases hg:s.ags.lookup v with
   | some a =>
     have hl:=MOG.lks (z:=.int .i64 0) (ok:=true) keyN mo3 (k:=v) (by rw[lookup_get];exact hg);have ecp:cp (.var v) s=(a,s):=by rw[cp,hg]
     simp only[ZG,↓reduceIte,ZA,ZB,ZC,mbl,ZD,ZE,ZF,oB.cells.ld,e0,tx_toList,mk_toList,dn,hid,hl];refine hΨ _ _ (fin_ret (rv1 rfl ⟨by rw[ecp];rfl,L,?_⟩));rw[ecp];exact ⟨⟨_,s3⟩,k03',fun q hq=>Iff.rfl,fun q hq e=>e,mo3⟩
   | none =>
     have hl:=MOG.lkn (z:=.int .i64 0) (ok:=true) keyN mo3 (k:=v) (by rw[lookup_get];exact hg);have ecp:cp (.var v) s=(s.T.length,⟨s.T++[⟨[],[]⟩],s.ags++[(v,s.T.length)]⟩):=by rw[cp,hg]
     simp only[ZG,↓reduceIte,ZA,ZB,ZC,mbl,ZD,ZE,ZF,oB.cells.ld,e0,tx_toList,mk_toList,dn,hid,hl];refine XX_of (put_ok s3 (by omega) (nm:=[]) (al:=[]) (u:=.slice none 0 0) .nil (fun q e=>e.elim) okN_var) (fun res h4 hle4 hn4=>?_);obtain ⟨rfl,L',g⟩:=hn4;refine .ret ?_;have l3:=k03.len;have zm3:ma<h3.length:=mo3.lt;have mo4:=mo3.keep g.kp (TMine.z zm);obtain ⟨h5,u1,u2,u5⟩:=up52 v s.T.length mo4 hg;obtain ⟨cs4,s4⟩:=g.th;have zm4:L'.cls ma=0:=(g.sm ma zm3).2 ⟨zm,fun e=>e.elim⟩;have s5:TH h5 b L' cs4 (s.T++[⟨[],[]⟩]) id sp:=s4.keep u5 (fun q hq e=>by subst e;exact hq zm4);simp only[ZG,↓reduceIte,ZA,ZB,ZC,u1];refine hΨ _ _ (fin_ret (rv1 rfl ⟨by rw[ecp];rfl,L',?_⟩));rw[ecp];refine ⟨⟨_,s5⟩,?_,fun q hq=>?_,fun q hq=>g.mn q (by omega),u2⟩
     ·exact (k03'.trans (g.kp.mono (fun q e=>.inl e))).trans (u5.mono (fun q e=>.inr e))
     ·exact (g.sm q (by omega)).trans ⟨fun x=>x.1,fun x=>⟨x,fun e=>e.elim⟩⟩
 | hc nm ts ih =>
   intro n s ht ok h L cs th mo zm hb;refine Gets.of (keep:=false) hP (draw_ok hM) k33 (by rfl) (fun Ψ hΨ=>?_);have hoT:okT (.con nm ts):=⟨s.T,n,ok.ac,ht⟩
   obtain ⟨al,hn,hT,h0,hl,ha⟩:∃ al,n<s.T.length/\s.T[n]?=some ⟨nm,al⟩/\nm≠[]/\ts.length=al.length /\ ∀ (i a:Nat) (t:Ty),al[i]?=some a->ts[i]?=some t->Tr s.T id a t:=by
    cases ht with
    | con hn hT h0 hl ha=>exact ⟨_,hn,hT,h0,hl,ha⟩
   simp only[ZG,↓reduceIte,ZA,ZB,ZC,r33,YE,YC,YO,YA,YL,YX,YS,Ya,Yb,Yl,Yf,Yg,Yi,Ym,Yk,Yt,Yn,Yz,Yp,Yq,Yd];refine XX_of (at_ok th hn) (fun res h1 hle1 hn1=>?_);obtain ⟨k1,cs1,c,s1,hc,rfl⟩:=hn1;refine .ret ?_;have oN:=Own.new h1 46 h1.length [.string ⟨#[]⟩,.slice none 0 0];have kN:Keep (fun _=>False) h1 (h1++[row 46 h1.length [.string ⟨#[]⟩,.slice none 0 0]]):=Keep.push _ _ _;simp only[ZG,↓reduceIte,ZA,ZB,ZC,mbl,ZD,ZE,ZF];generalize h1++[row 46 h1.length [.string ⟨#[]⟩,.slice none 0 0]]=h2 at oN kN ⊢;have hone:=s1.one hc;refine XH_own oN rfl (by simp [Value.cells]) (by show (true && (c.v.oneCell' && true))=true;rw[hone];rfl) (fun h3 q1 q2 q3=>?_);have oB:Own h3 h1.length 46 [tv c.nm,c.v]:=by simpa [Value.cells] using q1
   have kB:Keep (fun _=>False) h1 h3:=kN.trans' q2 (fun q hq e=>by omega);have s3:=s1.keepF kB;have zB:L.cls h1.length=0:=s1.c0 _ (Z2 _);have k03:Keep (bk L.vc) h h3:=k1.trans (kB.mono (fun _ e=>e.elim));clear q1 q2 q3 kN oN;obtain ⟨e1,rA,zA⟩:=s3.tm _ c _ hc hT;simp only at e1 rA zA;have h8:al.length<=8:=(th.ok _ _ hT).2.2.2.2;have dn:(nm == ([]:Bs))=false:=by simpa using h0
   have mo3:=mo.keep k03 (fun e=>by have:=th.c3 _ e;omega);have k03':Keep (fun q=>TMine L q\/q=ma) h h3:=k03.mono (fun q e=>.inl (.inr (th.c3 q e)));obtain ⟨va,vc,hva⟩:=row_shape rA;rw[sz] at hb;have hms:mslv h3.length 3 [iv 0] 8 (iv (al.length:Int)) (iv (al.length:Int))=some (.slice (some ⟨h3.length,0,none⟩) al.length al.length,some (row 3 h3.length (nn (Z1 al.length 0)))):=by
    simp only[mslv];rw[if_pos (by omega)];simp [nn]
   simp only[ZG,↓reduceIte,ZA,ZB,ZC,mbl,ZD,ZE,ZF,oB.cells.ld,e1,tx_toList,mk_toList,dn,hva,hms];have oR:Ows (h3++[row 3 h3.length (nn (Z1 al.length 0))]) 3 1 (.slice (some ⟨h3.length,0,none⟩) al.length al.length) al.length (nn (Z1 al.length 0)) :=
    .mk (Own.new h3 3 h3.length _) (by simp [nn]) (Z2 _) (Ze (by simp [nn]))
   have kR:Keep (fun _=>False) h3 (h3++[row 3 h3.length (nn (Z1 al.length 0))]):=Keep.push _ _ _;generalize h3++[row 3 h3.length (nn (Z1 al.length 0))]=h4 at oR kR ⊢;have zR:L.cls h3.length=0:=s3.c0 _ (Z2 _);have l3:=k03.len;have mlt:=mo.lt;have b3:=oB.lt;have oB4:=oB.keep kR (fun e=>e);have s4:=s3.keepF kR;have mo4:=mo3.keep kR (fun e=>e);simp only[ZG,↓reduceIte,ZA,ZB,ZC,mbl,ZD,ZE,ZF,oB4.cells.ld,hva];rw[<- hva];refine XLo_rule (α:=Nat × TL) (fun a=>[(0,.pointer (some ⟨b,0,none⟩)),(2,.map (some ma)),(7,.pointer (some ⟨h1.length,0,none⟩)),(10,.slice (some ⟨h3.length,0,none⟩) al.length al.length),(41,c.v),(42,iv (al.length:Int)),(43,iv (a.1:Int))])
    (fun a h'=>a.1<=al.length/\Cpd h3 h' b L a.2 ma (cps (ts.take a.1) s).2 sp/\a.2.cls h3.length=0/\Ows h' 3 1 (.slice (some ⟨h3.length,0,none⟩) al.length al.length) al.length (nn ((cps (ts.take a.1) s).1++Z1 (al.length-a.1) 0))/\Own h' h1.length 46 [tv c.nm,c.v]) (fun a=>al.length-a.1) (0,L)
    ⟨Zf _,⟨⟨_,by simpa [cps] using s4⟩,kR.mono (fun _ e=>e.elim),fun q hq=>Iff.rfl,fun q hq e=>e,by simpa [cps] using mo4⟩,zR,by simpa [cps] using oR,oB4⟩ ⟨rfl,rfl,rfl,rfl,rfl,rfl,rfl,trivial⟩ ?_
   rintro ⟨i,L1⟩ h5 Ψ2 ⟨hi,cd,zRL,oR5,oB5⟩ next out
   simp only at hi cd zRL oR5;have l45:=cd.kp.len;have l34:=kR.len;obtain ⟨c1,c2,c3,c4,c5⟩:=@cps_ok (ts.take i) (fun t _=>cp_ok t) (fun t hm=>hoT.arg t (List.mem_of_mem_take hm)) s ok;have hle:=szs_le ts i;obtain ⟨X,hX,hXl⟩:=c1.t;have hTl:(cps (ts.take i) s).2.T.length<=s.T.length+szs (ts.take i):=by rw[hX,Zj];omega
   have zBL:L1.cls h1.length=0:=(cd.sm _ (by omega)).2 zB;have zmL:L1.cls ma=0:=(cd.sm _ (by omega)).2 zm
   by_cases hil:i<al.length
   case neg =>
    have hie:i=ts.length:=by omega
    subst hie;rw[Z9] at cd oR5 c1 c2 c3 c5 hTl;rw[show al.length-ts.length=0 by omega,List.replicate_zero,List.append_nil] at oR5;obtain ⟨cs5,s5⟩:=cd.th;simp only[ZG,↓reduceIte,ZA,ZB,ZC,(eq_false (by omega):((ts.length:Int)<(al.length:Int))=False)];refine out (.exit 0) _ _ _ _ (by intro e;cases e) ?_;simp only[ZG,↓reduceIte,ZA,ZB,ZC,mbl,ZD,ZE,ZF,oB5.cells.ld];rw[e1];refine XX_of (put_ok s5 (by omega) (nm:=nm) (al:=(cps ts s).1) (u:=.slice (some ⟨h3.length,0,none⟩) al.length al.length) (by rw[c2,hl];exact oR5.rds) (fun q e=>by rw[e.1];exact zRL) (hoT.cell c2).1) (fun res h6 hle6 hn6=>?_);obtain ⟨rfl,L',g⟩:=hn6;refine .ret ?_;simp only[ZG,↓reduceIte,ZA,ZB,ZC];refine hΨ _ _ (fin_ret (rv1 rfl ⟨by rw[cp];rfl,L',?_⟩));rw[cp];have k36:Keep (fun q=>TMine L q\/q=ma) h3 h6:=cd.kp.trans' g.kp (fun q hq e=>.inl (cd.mn q hq e));refine ⟨g.th,k03'.trans k36,fun q hq=>?_,fun q hq e=>cd.mn q (by omega) (g.mn q (by omega) e),cd.mo.keep g.kp (TMine.z zmL)⟩;have a1:=g.sm q (by omega);have a2:=cd.sm q (by omega);exact a1.trans ⟨fun x=>a2.1 x.1,fun x=>⟨a2.2 x,fun e=>by have:=e.1;omega⟩⟩
   case pos =>
   have d0:(0<=(i:Int))=True:=by simp
   have d1:((i:Int)<(al.length:Int))=True:=eq_true (by omega);have hx:al[i]?=some al[i]:=Z0 hil;have hy:ts[i]?=some ts[i]:=Z0 (by omega);have hw:IntKind.i64.wrap ((i:Int)+1)=i+1:=i64w (by omega) (by omega);have hge:szs (ts.take i)+sz ts[i]<=szs ts:=by rw[<- szs_take hy];exact szs_le _ _
   have k35:=cd.kp;obtain ⟨cs5,s5⟩:=cd.th;have rA5:=rA.keep k35 (fun q e e2=>by
    have:=zA q e
    rcases e2 with e2|e2
    ·unfold TMine at e2;omega
    ·subst e2;omega)
   obtain ⟨b1,o1,c1',ev,l1⟩:=nn_at rA5 hx;simp only[ZG,↓reduceIte,ZA,ZB,ZC,d1,ev,d0,and_self,Z3,Z8,mbl,ZD,ZE,ZF,l1];refine XX_of (ih ts[i] (Za _) (cps (ts.take i) s).2 (c1.tr (ha i _ _ hx hy)) c1.ok s5 cd.mo zmL (by omega)) (fun res h6 hle6 hn6=>?_);obtain ⟨rfl,L2,cd2⟩:=hn6;refine .ret ?_;have oR6:=oR5.keep cd2.kp (fun q e=>by
    have:q=h3.length:=e;subst this;rintro (e2|e2)
    ·exact TMine.z zRL e2
    ·omega)
   have oB6:=oB5.keep cd2.kp (by
    rintro (e2|e2)
    ·exact TMine.z zBL e2
    ·omega)
   have hlx:((cps (ts.take i) s).1++Z1 (al.length-i) 0).length=al.length:=by rw[Zj,c2,List.length_take,List.length_replicate];omega
   have oR6':Ows h6 3 1 (.slice (some ⟨h3.length,0,none⟩) al.length al.length) ((cps (ts.take i) s).1++Z1 (al.length-i) 0).length (((cps (ts.take i) s).1++Z1 (al.length-i) 0).flatMap fun a:Nat=>[kN a]):=by rw[hlx,nn_flat];exact oR6
   have hl1:(cps (ts.take i) s).1.length=i:=by rw[c2,List.length_take];omega
   have hat:((cps (ts.take i) s).1++Z1 (al.length-i) 0)[i]?=some 0:=by
    rw[Zc (by omega),hl1,Nat.sub_self,show al.length-i=(al.length-i-1)+1 by omega,Zi];rfl
   simp only[ZG,↓reduceIte,ZA,ZB,ZC,d1,d0,and_self,Z3,Z8,Nat.zero_add,mbl,ZD,ZE,ZF];refine XH_row (f:=fun a:Nat=>[kN a]) (k:=1) (x:=0) (x':=(cp ts[i] (cps (ts.take i) s).2).1) (j:=0) (i:=i) (fun _=>rfl) oR6' (by rw[hlx]) hat rfl (by omega) (by simp [Value.cells]) (by simp [Value.cells]) rfl (fun h7 q1 q2 q3=>?_);simp only[ZG,↓reduceIte,ZA,ZB,ZC,hw];have hset:((cps (ts.take i) s).1++Z1 (al.length-i) 0).set i (cp ts[i] (cps (ts.take i) s).2).1=(cps (ts.take (i+1)) s).1++Z1 (al.length-(i+1)) 0:=by
    rw[cps_take hy,List.set_append_right _ _ (by omega),hl1,Nat.sub_self,show al.length-i=(al.length-(i+1))+1 by omega,Zi,List.set_cons_zero];simp
   rw[hlx,hset,nn_flat] at q1;have h6R:h3.length<h6.length:=oR6.lt _ rfl;have n1:∀ q,q=h3.length->L2.cls q=0:=fun q e=>by rw[e];exact (cd2.sm _ (by have:=oR5.lt _ rfl;omega)).2 zRL
   have h5l:=oR5.lt h3.length rfl;have cd3:Cpd h3 h7 b L L2 ma (cps (ts.take (i+1)) s).2 sp:=by
    rw[cps_take hy];obtain ⟨cs6,s6⟩:=cd2.th;refine ⟨⟨cs6,s6.keep q2 (fun q hq e=>hq (n1 q e))⟩,(cd.kp.trans' cd2.kp (fun q hq e=>e.imp (cd.mn q hq) id)).trans' q2 (fun q hq e=>by have:q=h3.length:=e;omega),fun q hq=>(cd2.sm q (by omega)).trans (cd.sm q hq),fun q hq e=>cd.mn q hq (cd2.mn q (by omega) e),cd2.mo.keep q2 (fun e=>by have:ma=h3.length:=e;omega)⟩
   refine next (i+1,L2) _ _ h7 ⟨by simp only;omega,cd3,n1 _ rfl,q1,oB6.keep q2 (fun e=>by have:h1.length=h3.length:=e;omega)⟩ ⟨rfl,rfl,rfl,rfl,by rw[ev];rfl,rfl,by simp only[Zb,Z5];rfl,trivial⟩ (by simp only;omega)
end
end Go.S11

namespace Go.S11
open Go Go.Eng Go.Proofs Go.Scn Go.Typ
abbrev vU (_:Unit):Value:=.agg #[]
theorem m71:Tryd.prog.underlying 71=some (.map 3 62):=by kernel_rfl
structure Kin (T:List Tm) (as_:List (Nat × Nat)) (seen:List (Nat × Unit)) (B:Nat):Prop where
 va:∀ p∈as_,p.1=p.2/\T[p.1]?=some ⟨[],[]⟩
 sk:∀ m,as_.lookup m≠none->mgetG m seen≠none
 dn:∀ m,mgetG m seen≠none->m<B -> ∀ t,Tr T id m t -> ∀ v∈Typ.fv t,as_.lookup v=some v
structure Kex (as_ as':List (Nat × Nat)) (seen seen':List (Nat × Unit)) (n:Nat):Prop where
 a:∀ v a,as_.lookup v=some a->as'.lookup v=some a
 s:∀ m,mgetG m seen'≠none->mgetG m seen≠none\/m<=n
 s2:∀ m,mgetG m seen≠none->mgetG m seen'≠none
theorem Kex.refl {as_:List (Nat × Nat)} {seen:List (Nat × Unit)} {n:Nat}:Kex as_ as_ seen seen n:=⟨fun _ _ e=>e,fun _ e=>.inl e,fun _ e=>e⟩
theorem Kex.trans {a1 a2 a3:List (Nat × Nat)} {s1 s2 s3:List (Nat × Unit)} {n:Nat} (x:Kex a1 a2 s1 s2 n) (y:Kex a2 a3 s2 s3 n):Kex a1 a3 s1 s3 n :=
 ⟨fun v a e=>y.a v a (x.a v a e),fun m e=>(y.s m e).elim (x.s m) .inr,fun m e=>y.s2 m (x.s2 m e)⟩
theorem Kex.up {a1 a2:List (Nat × Nat)} {s1 s2:List (Nat × Unit)} {n m:Nat} (x:Kex a1 a2 s1 s2 n) (h:n<=m):Kex a1 a2 s1 s2 m:=⟨x.a,fun k e=>(x.s k e).imp id (fun e=>by omega),x.s2⟩
set_option maxRecDepth 100000 in
theorem up71 {h:AH} {ms:Nat} {l:List (Nat × Unit)} (k:Nat) (m:MOG kN vU h ms l):∃ h' l',wmapUpdate Tryd.prog h 71 (.map (some ms)) (kN k) (.agg #[])=some h'/\MOG kN vU h' ms l'/\(∀ x,mgetG x l'=if x=k then some () else mgetG x l)/\Keep (· = ms) h h':=by
 have:=MOG.up (P:=Tryd.prog) (kt:=3) (kf:=kN) (vf:=vU) (mt:=71) (et:=62) k () m71 keyN same_kN m;obtain ⟨h5,l',u1,u2,u3,u4,u5,u6⟩:=this;exact ⟨h5,l',u1,u2,u3,u5⟩
section
variable {b:Nat} {sp:Bool} {ma ms:Nat} {T:List Tm} {L:TL}
set_option maxHeartbeats 4000000 in
set_option maxRecDepth 100000 in
theorem kept_ok {n:Nat} {t:Ty} (ht:Tr T id n t) (ac:AC T):∀ {h:AH} {cs:List Ce} (s:TH h b L cs T id sp) {as_:List (Nat × Nat)} {seen:List (Nat × Unit)} (mo:MOG kN kN h ma as_) (me:MOG kN vU h ms seen) (zm:L.cls ma=0) (zs:L.cls ms=0) (ne:ma≠ms) {B:Nat} (hB:n<B) (kin:Kin T as_ seen B),
 Gets Tryd.prog 32 [.pointer (some ⟨b,0,none⟩),iv (n:Int),.map (some ma),.map (some ms)] h (fun res h'=>res = .ret (.tuple #[])/\Keep (fun q=>bk L.vc q\/q=ma\/q=ms) h h'/\(∃ cs',TH h' b L cs' T id sp) /\
  ∃ as' seen',MOG kN kN h' ma as'/\MOG kN vU h' ms seen'/\Kex as_ as' seen seen' n/\Kin T as' seen' B /\ ∀ v∈Typ.fv t,as'.lookup v=some v):=by
 induction ht with
 | @var n hn hT =>
   intro h cs s as_ seen mo me zm zs ne B hB kin;refine Gets.of (keep:=false) hP (draw_ok hM) k32 (by rfl) (fun Ψ hΨ=>?_);simp only[ZG,↓reduceIte,ZA,ZB,ZC,r32,YE,YC,YO,YA,YL,YX,YS,Ya,Yb,Yl,Yf,Yg,Yi,Ym,Yk,Yt,Yn,Yz,Yp,Yq,Yd];refine XX_of (at_ok s hn) (fun res h1 hle1 hn1=>?_);obtain ⟨k1,cs1,c,s1,hc,rfl⟩:=hn1;refine .ret ?_;have oN:=Own.new h1 46 h1.length [.string ⟨#[]⟩,.slice none 0 0];have kN:Keep (fun _=>False) h1 (h1++[row 46 h1.length [.string ⟨#[]⟩,.slice none 0 0]]):=Keep.push _ _ _;simp only[ZG,↓reduceIte,ZA,ZB,ZC,mbl,ZD,ZE,ZF];generalize h1++[row 46 h1.length [.string ⟨#[]⟩,.slice none 0 0]]=h2 at oN kN ⊢;have hone:=s1.one hc;refine XH_own oN rfl (by simp [Value.cells]) (by show (true && (c.v.oneCell' && true))=true;rw[hone];rfl) (fun h3 q1 q2 q3=>?_);have oB:Own h3 h1.length 46 [tv c.nm,c.v]:=by simpa [Value.cells] using q1
   have kB:Keep (fun _=>False) h1 h3:=kN.trans' q2 (fun q hq e=>by omega);have s3:=s1.keepF kB;have zB:L.cls h1.length=0:=s1.c0 _ (Z2 _);have k03:Keep (bk L.vc) h h3:=k1.trans (kB.mono (fun _ e=>e.elim));clear q1 q2 q3 kN oN;obtain ⟨e1,rA,_⟩:=s3.tm _ c _ hc hT;have e0:c.nm=[]:=e1;have dn:(([]:Bs) == ([]:Bs))=true:=rfl;have nv:∀ q,L.cls q=0 -> ¬ bk L.vc q:=fun q e e2=>by have:=s.c3 q e2;omega
   have mo3:=mo.keep k03 (nv _ zm);have me3:=me.keep k03 (nv _ zs);have hid:((id n:Nat):Int)=(n:Int):=rfl;have k03':Keep (fun q=>bk L.vc q\/q=ma\/q=ms) h h3:=k03.mono (fun q e=>.inl e);cases hg:mgetG n seen with
   | some a =>
     have hl:=MOG.lks (z:=.agg #[]) (ok:=true) keyN me3 (k:=n) hg;simp only[ZG,↓reduceIte,ZA,ZB,ZC,mbl,ZD,ZE,ZF,hid,hl];have oE:=Own.new h3 62 h3.length [];have kE:Keep (fun _=>False) h3 (h3++[row 62 h3.length []]):=Keep.push _ _ _;generalize h3++[row 62 h3.length []]=h4 at oE kE ⊢;refine XH_own oE rfl (by simp [Value.cells]) rfl (fun h5 p1 p2 p3=>?_);have k35:Keep (fun _=>False) h3 h5:=kE.trans' p2 (fun q hq e=>by omega);have k05:=k03'.trans (k35.mono (fun _ e=>e.elim));have s5:=s3.keepF k35;have mo5:=mo3.keep k35 (fun e=>e);have me5:=me3.keep k35 (fun e=>e);have oB5:=oB.keep k35 (fun e=>e);clear oE kE p1 p2 p3;simp only[ZG,↓reduceIte,ZA,ZB,ZC];exact hΨ _ _ (fin_ret (rv0 ⟨rfl,k05,⟨_,s5⟩,_,_,mo5,me5,.refl,kin,kin.dn n (by rw[hg];simp) hB _ (.var hn hT)⟩))
   | none =>
     have hl:=MOG.lkn (z:=.agg #[]) (ok:=true) keyN me3 (k:=n) hg;simp only[ZG,↓reduceIte,ZA,ZB,ZC,mbl,ZD,ZE,ZF,hid,hl];have oE:=Own.new h3 62 h3.length [];have kE:Keep (fun _=>False) h3 (h3++[row 62 h3.length []]):=Keep.push _ _ _;generalize h3++[row 62 h3.length []]=h4 at oE kE ⊢;refine XH_own oE rfl (by simp [Value.cells]) rfl (fun h5 p1 p2 p3=>?_);have k35:Keep (fun _=>False) h3 h5:=kE.trans' p2 (fun q hq e=>by omega);have k05:=k03'.trans (k35.mono (fun _ e=>e.elim));have s5:=s3.keepF k35;have mo5:=mo3.keep k35 (fun e=>e);have me5:=me3.keep k35 (fun e=>e);have oB5:=oB.keep k35 (fun e=>e);clear oE kE p1 p2 p3;obtain ⟨h6,l',u1,u2,u3,u5⟩:=up71 n me5;have hln:as_.lookup n=none:=by
      cases e:as_.lookup n with
      | none=>rfl
      | some x=>exact absurd hg (kin.sk n (by rw[e];simp))
     have mo6:=mo5.keep u5 ne;have b1:=oB.lt;have l1:h.length<=h1.length:=k1.len;have ml:=mo.lt;have sl:=me.lt;have oB6:=oB5.keep u5 (fun e=>by have:h1.length=ms:=e;omega);obtain ⟨h7,w1,w2,w5⟩:=up52 n n mo6 hln;have oB7:=oB6.keep w5 (fun e=>by have:h1.length=ma:=e;omega);have me7:=u2.keep w5 (fun e=>ne (by have:ms=ma:=e;exact this.symm));have s7:TH h7 b L cs1 T id sp:=(s5.keep u5 (fun q hq e=>hq (by rw[show q=ms from e];exact zs))).keep w5 (fun q hq e=>hq (by rw[show q=ma from e];exact zm));have k07:Keep (fun q=>bk L.vc q\/q=ma\/q=ms) h h7:=(k05.trans (u5.mono (fun q e=>.inr (.inr e)))).trans (w5.mono (fun q e=>.inr (.inl e)));obtain ⟨va,vc,hva⟩:=row_shape rA;simp only[ZG,↓reduceIte,ZA,ZB,ZC,mbl,ZD,ZE,ZF,u1,oB6.cells.ld,e0,tx_toList,mk_toList,dn,hid,w1,oB7.cells.ld,hva];rw[<- hva];refine XLo_rule (α:=Unit) (fun _=>[(37,iv 0),(38,iv 0)]) (fun _ h'=>h'=h7) (fun _=>0) () rfl ⟨rfl,rfl,trivial⟩ ?_;rintro _ h8 Ψ2 rfl next out
     simp only[ZG,↓reduceIte,ZA,ZB,ZC,show ((0:Int)<0)=False by simp];refine out (.exit 0) _ _ _ _ (by intro e;cases e) ?_;simp only[ZG,↓reduceIte,ZA,ZB,ZC];have app:∀ v a,as_.lookup v=some a->(as_++[(n,n)]).lookup v=some a:=fun v a e=>by rw[lookup_app,e]
     have own:(as_++[(n,n)]).lookup n=some n:=by rw[lookup_app,hln];simp
     refine hΨ _ _ (fin_norm ⟨rfl,k07,⟨_,s7⟩,_,_,w2,me7,⟨app,fun m e=>?_,fun m e=>?_⟩,⟨fun p hp=>?_,fun m e=>?_,fun m e hm t ht v hv=>?_⟩,fun v hv=>?_⟩)
     ·rw[u3] at e
      by_cases hmn:m=n
      ·exact .inr (by omega)
      ·rw[if_neg hmn] at e;exact .inl e
     ·rw[u3];split
      ·simp
      ·exact e
     ·rcases Zd.1 hp with hp|hp
      ·exact kin.va p hp
      ·cases Z6.1 hp;exact ⟨rfl,hT⟩
     ·rw[u3]
      by_cases hmn:m=n
      ·rw[if_pos hmn];simp
      ·rw[if_neg hmn]
       refine kin.sk m ?_;rw[lookup_app] at e;cases e2:as_.lookup m with
       | none=>rw[e2] at e;exfalso;apply e;simp only[List.lookup_cons,show (m == n)=false from beq_eq_false_iff_ne.2 hmn];rfl
       | some x=>simp
     ·rw[u3] at e
      by_cases hmn:m=n
      ·subst hmn
       cases ht with
       | var=>rw[Typ.fv] at hv;cases Z6.1 hv;exact own
       | con _ h2 h02=>rw[hT] at h2;cases h2;exact absurd rfl h02
      ·rw[if_neg hmn] at e;exact app v v (kin.dn m e hm t ht v hv)
     ·rw[Typ.fv] at hv;cases Z6.1 hv;exact own
 | @con n nm al ts hn hT h0 hl ha ih =>
   intro h cs s as_ seen mo me zm zs ne B hB kin;refine Gets.of (keep:=false) hP (draw_ok hM) k32 (by rfl) (fun Ψ hΨ=>?_);simp only[ZG,↓reduceIte,ZA,ZB,ZC,r32,YE,YC,YO,YA,YL,YX,YS,Ya,Yb,Yl,Yf,Yg,Yi,Ym,Yk,Yt,Yn,Yz,Yp,Yq,Yd];refine XX_of (at_ok s hn) (fun res h1 hle1 hn1=>?_);obtain ⟨k1,cs1,c,s1,hc,rfl⟩:=hn1;refine .ret ?_;have oN:=Own.new h1 46 h1.length [.string ⟨#[]⟩,.slice none 0 0];have kN:Keep (fun _=>False) h1 (h1++[row 46 h1.length [.string ⟨#[]⟩,.slice none 0 0]]):=Keep.push _ _ _;simp only[ZG,↓reduceIte,ZA,ZB,ZC,mbl,ZD,ZE,ZF];generalize h1++[row 46 h1.length [.string ⟨#[]⟩,.slice none 0 0]]=h2 at oN kN ⊢;have hone:=s1.one hc;refine XH_own oN rfl (by simp [Value.cells]) (by show (true && (c.v.oneCell' && true))=true;rw[hone];rfl) (fun h3 q1 q2 q3=>?_);have oB:Own h3 h1.length 46 [tv c.nm,c.v]:=by simpa [Value.cells] using q1
   have kB:Keep (fun _=>False) h1 h3:=kN.trans' q2 (fun q hq e=>by omega);have s3:=s1.keepF kB;have zB:L.cls h1.length=0:=s1.c0 _ (Z2 _);have k03:Keep (bk L.vc) h h3:=k1.trans (kB.mono (fun _ e=>e.elim));clear q1 q2 q3 kN oN;obtain ⟨e1,rA,zA⟩:=s3.tm _ c _ hc hT;simp only at e1 rA zA;have dn:(nm == ([]:Bs))=false:=by simpa using h0
   have h8:al.length<=8:=(s.ok _ _ hT).2.2.2.2;have hlt:∀ i,(hi:i<al.length)->al[i]<n:=fun i hi=>(ac _ _ hT).2 _ (Za hi)
   have nv:∀ q,L.cls q=0 -> ¬ bk L.vc q:=fun q e e2=>by have:=s.c3 q e2;omega
   have mo3:=mo.keep k03 (nv _ zm);have me3:=me.keep k03 (nv _ zs);have hid:((id n:Nat):Int)=(n:Int):=rfl;have k03':Keep (fun q=>bk L.vc q\/q=ma\/q=ms) h h3:=k03.mono (fun q e=>.inl e);have hself:Tr T id n (.con nm ts):=.con hn hT h0 hl ha;have hl0:=hl;cases hg:mgetG n seen with
   | some a =>
     have hl:=MOG.lks (z:=.agg #[]) (ok:=true) keyN me3 (k:=n) hg;simp only[ZG,↓reduceIte,ZA,ZB,ZC,mbl,ZD,ZE,ZF,hid,hl];have oE:=Own.new h3 62 h3.length [];have kE:Keep (fun _=>False) h3 (h3++[row 62 h3.length []]):=Keep.push _ _ _;generalize h3++[row 62 h3.length []]=h4 at oE kE ⊢;refine XH_own oE rfl (by simp [Value.cells]) rfl (fun h5 p1 p2 p3=>?_);have k35:Keep (fun _=>False) h3 h5:=kE.trans' p2 (fun q hq e=>by omega);have k05:=k03'.trans (k35.mono (fun _ e=>e.elim));have s5:=s3.keepF k35;have mo5:=mo3.keep k35 (fun e=>e);have me5:=me3.keep k35 (fun e=>e);have oB5:=oB.keep k35 (fun e=>e);clear oE kE p1 p2 p3;simp only[ZG,↓reduceIte,ZA,ZB,ZC];exact hΨ _ _ (fin_ret (rv0 ⟨rfl,k05,⟨_,s5⟩,_,_,mo5,me5,.refl,kin,kin.dn n (by rw[hg];simp) hB _ hself⟩))
   | none =>
     have hl:=MOG.lkn (z:=.agg #[]) (ok:=true) keyN me3 (k:=n) hg;simp only[ZG,↓reduceIte,ZA,ZB,ZC,mbl,ZD,ZE,ZF,hid,hl];have oE:=Own.new h3 62 h3.length [];have kE:Keep (fun _=>False) h3 (h3++[row 62 h3.length []]):=Keep.push _ _ _;generalize h3++[row 62 h3.length []]=h4 at oE kE ⊢;refine XH_own oE rfl (by simp [Value.cells]) rfl (fun h5 p1 p2 p3=>?_);have k35:Keep (fun _=>False) h3 h5:=kE.trans' p2 (fun q hq e=>by omega);have k05:=k03'.trans (k35.mono (fun _ e=>e.elim));have s5:=s3.keepF k35;have mo5:=mo3.keep k35 (fun e=>e);have me5:=me3.keep k35 (fun e=>e);have oB5:=oB.keep k35 (fun e=>e);clear oE kE p1 p2 p3;obtain ⟨h6,l',u1,u2,u3,u5⟩:=up71 n me5;have mo6:=mo5.keep u5 ne;have b1:=oB.lt;have l1:h.length<=h1.length:=k1.len;have ml:=mo.lt;have sl:=me.lt;have oB6:=oB5.keep u5 (fun e=>by have:h1.length=ms:=e;omega);have s6:TH h6 b L cs1 T id sp:=s5.keep u5 (fun q hq e=>hq (by rw[show q=ms from e];exact zs));have k06:Keep (fun q=>bk L.vc q\/q=ma\/q=ms) h h6:=k05.trans (u5.mono (fun q e=>.inr (.inr e)));have k36:Keep (fun q=>bk L.vc q\/q=ma\/q=ms) h3 h6:=(k35.mono (fun _ e=>e.elim)).trans (u5.mono (fun q e=>.inr (.inr e)));have kin6:Kin T as_ l' n:=by
      refine ⟨kin.va,fun m e=>?_,fun m e hm t ht v hv=>?_⟩
      ·rw[u3];split
       ·simp
       ·exact kin.sk m e
      ·rw[u3,if_neg (by omega)] at e;exact kin.dn m e (by omega) t ht v hv
     obtain ⟨va,vc,hva⟩:=row_shape rA;simp only[ZG,↓reduceIte,ZA,ZB,ZC,mbl,ZD,ZE,ZF,u1,oB6.cells.ld,e1,tx_toList,mk_toList,dn,hva];rw[<- hva];refine XLo_rule (α:=Nat × List (Nat × Nat) × List (Nat × Unit)) (fun a=>[(0,.pointer (some ⟨b,0,none⟩)),(2,.map (some ma)),(3,.map (some ms)),(36,c.v),(37,iv (al.length:Int)),(38,iv (a.1:Int))])
      (fun a h'=>a.1<=al.length/\Keep (fun q=>bk L.vc q\/q=ma\/q=ms) h3 h'/\(∃ cs',TH h' b L cs' T id sp)/\MOG kN kN h' ma a.2.1/\MOG kN vU h' ms a.2.2/\Kex as_ a.2.1 l' a.2.2 n/\Kin T a.2.1 a.2.2 n/\(∀ t∈ts.take a.1,∀ v∈Typ.fv t,a.2.1.lookup v=some v)) (fun a=>al.length-a.1) (0,as_,l')
      ⟨Zf _,k36,⟨_,s6⟩,mo6,u2,.refl,kin6,fun t ht=>by simp at ht⟩ ⟨rfl,rfl,rfl,rfl,rfl,rfl,trivial⟩ ?_
     rintro ⟨i,a7,n7⟩ h7 Ψ2 ⟨hi,k37,⟨cs7,s7⟩,mo7,me7,kx,kin7,hfv⟩ next out
     simp only at hi mo7 me7 kx kin7 hfv
     by_cases hil:i<al.length
     case neg =>
      have hie:i=ts.length:=by omega
      subst hie;rw[Z9] at hfv;simp only[ZG,↓reduceIte,ZA,ZB,ZC,(eq_false (by omega):((ts.length:Int)<(al.length:Int))=False)];refine out (.exit 0) _ _ _ _ (by intro e;cases e) ?_;simp only[ZG,↓reduceIte,ZA,ZB,ZC];have full:∀ v∈Typ.fv (.con nm ts),a7.lookup v=some v:=by
       intro v hv;rw[Typ.fv] at hv;obtain ⟨t,ht,hv⟩:=mem_fvs.1 hv;exact hfv t ht v hv
      refine hΨ _ _ (fin_norm ⟨rfl,k03'.trans k37,⟨_,s7⟩,a7,n7,mo7,me7,⟨kx.a,fun m e=>?_,fun m e=>kx.s2 m ?_⟩,⟨kin7.va,kin7.sk,fun m e hm t ht v hv=>?_⟩,full⟩)
      ·rcases kx.s m e with e2|e2
       ·rw[u3] at e2
        by_cases hmn:m=n
        ·exact .inr (by omega)
        ·rw[if_neg hmn] at e2;exact .inl e2
       ·exact .inr e2
      ·rw[u3];split
       ·simp
       ·exact e
      ·rcases Nat.lt_trichotomy m n with hmn|hmn|hmn
       ·exact kin7.dn m e hmn t ht v hv
       ·subst hmn
        rw[ht.det hself] at hv;exact full v hv
       ·rcases kx.s m e with e2|e2
        ·rw[u3,if_neg (by omega)] at e2
         exact kx.a v v (kin.dn m e2 hm t ht v hv)
        ·omega
     case pos =>
     have d1:((i:Int)<(al.length:Int))=True:=eq_true (by omega);have d0:(0<=(i:Int))=True:=by simp
     have hx:al[i]?=some al[i]:=Z0 hil;have hy:ts[i]?=some ts[i]:=Z0 (by omega);have hw:IntKind.i64.wrap ((i:Int)+1)=i+1:=i64w (by omega) (by omega);obtain ⟨b1,o1,c1,ev,ll⟩:=nn_at (rA.keep k37 (fun q e e2=>by
      have:=zA q e
      rcases e2 with e2|e2|e2
      ·have:=s.c3 q e2;omega
      ·subst e2;omega
      ·subst e2;omega)) hx
     simp only[ZG,↓reduceIte,ZA,ZB,ZC,d1,ev,d0,and_self,Z3,Z8,mbl,ZD,ZE,ZF,ll];refine XX_of (ih i _ _ hx hy s7 mo7 me7 zm zs ne (hlt i hil) kin7) (fun res h8 hle8 hn8=>?_);obtain ⟨rfl,k8,⟨cs8,s8⟩,a8,n8,mo8,me8,kx8,kin8,hf8⟩:=hn8;refine .ret ?_;simp only[ZG,↓reduceIte,ZA,ZB,ZC,hw];refine next (i+1,a8,n8) _ _ h8 ⟨by simp only;omega,k37.trans k8,⟨_,s8⟩,mo8,me8,kx.trans (kx8.up (by have:=hlt i hil;omega)),kin8,fun t ht v hv=>?_⟩ ⟨rfl,rfl,rfl,by rw[ev];rfl,rfl,by simp only[Zb,Z5];rfl,trivial⟩ (by simp only;omega)
     simp only at ht;rw[Z7,hy,Zd] at ht
     rcases ht with ht|ht
     ·exact kx8.a v v (hfv t ht v hv)
     ·simp at ht;subst ht;exact hf8 v hv
end
end Go.S11

namespace Go.S11
open Go Go.Eng Go.Proofs Go.Scn Go.Typ
section
variable {b:Nat} {T:List Tm} {L:TL}
set_option maxHeartbeats 4000000 in
set_option maxRecDepth 100000 in
theorem Copy_ok {n:Nat} {t:Ty} (ht:Tr T id n t) (ac:AC T) (hTl:T.length<=10000000) {K:List Nat} {u:Value} {h:AH} {cs:List Ce} (s:TH h b L cs T id false) (hu:Rds h 1 u K.length (nn K)) (hz:∀ q,rb u q->L.cls q=0) (hK:∀ k∈K,k<T.length) (hKl:K.length<=1000) :
 Gets Tryd.prog 16 [.pointer (some ⟨b,0,none⟩),iv (n:Int),u] h (fun res h' =>
  if sz t<=500 then ∃ s0:Cs,s0.T=T/\Cok s0/\(∀ p∈s0.ags,p.1=p.2)/\(K=[]->s0.ags=[])/\(∀ k∈K,∀ tk,Tr T id k tk -> ∀ v∈Typ.fv tk,s0.ags.lookup v=some v)/\res = .ret (.tuple #[iv ((cp t s0).1:Int),iv 0]) /\ ∃ L',Grn h h' b L L' (cp t s0).2.T id false
  else res = .ret (.tuple #[iv 0,iv 11])/\Grn h h' b L L T id false):=by
 refine Gets.of (keep:=false) hP (draw_ok hM) k16 (by rfl) (fun Ψ hΨ=>?_);have oN:=Own.new h 3 h.length [iv (n:Int)];have kP:Keep (fun _=>False) h (h++[row 3 h.length [iv (n:Int)]]):=Keep.push _ _ _;have owN:Ows (h++[row 3 h.length [iv (n:Int)]]) 3 1 (.slice (some ⟨h.length,0,none⟩) 1 1) 1 [iv (n:Int)]:=.mk oN rfl (Z2 _) rfl;obtain ⟨_,hsrc,rfl⟩:=(hu.keep kP (fun _ _ e=>e)).src (nn_one K);obtain ⟨v1,h1,a1,a2,a3,a4⟩:=owN.app (bytes:=8) hsrc (by rw[nn_len,Z8]) (nn_one K) (by omega) (by omega);obtain ⟨ua,uc,hue⟩:=row_shape hu;rw[hue] at a1;have k1:Keep (fun _=>False) h h1:=kP.trans' a3 (fun q hq e=>by have:q=h.length:=e;omega);have s1:=s.keepF k1;simp only[ZG,↓reduceIte,ZA,ZB,ZC,r16,YE,YC,YO,YA,YL,YX,YS,Ya,Yb,Yl,Yf,Yg,Yi,Ym,Yk,Yt,Yn,Yz,Yp,Yq,Yd,mbl,ZD,ZE,ZF,hue,a1];refine XX_of (look_ok s1 (l:=n::K) (u:=v1) (by have:=a2.rds;rw[Nat.add_comm] at this;simpa [nn] using this) (by simp;omega) (fun a ha=>by
  rcases List.mem_cons.1 ha with rfl|ha
  ·exact ht.lt
  ·exact hK a ha)) (fun res h2 hle hn=>?_)
 obtain ⟨k2,rfl⟩:=hn;refine .ret ?_;have s2:=s1.keepF k2;simp only[ZG,↓reduceIte,ZA,ZB,ZC,spE,Zk];refine XX_of (small_ok ht s2) (fun res h3 hle3 hn=>?_);obtain ⟨k3,rfl,cs3,s3⟩:=hn;refine .ret ?_;have k03:Keep (bk L.vc) h h3:=((k1.trans k2).mono (fun _ e=>e.elim)).trans k3
 by_cases hs:sz t<=500
 case neg =>
  have e:smE t=11:=by unfold smE;rw[if_neg hs]
  simp only[ZG,↓reduceIte,ZA,ZB,ZC,mbl,ZD,ZE,ZF,e];refine hΨ _ _ (fin_ret (rv2 rfl rfl ?_));rw[if_neg hs];exact ⟨rfl,⟨⟨_,s3⟩,k03.mono (fun q e=>.inr (s.c3 q e)),fun _ _=>Iff.rfl,fun _ _ e=>e⟩⟩
 case pos =>
 have e:smE t=0:=by unfold smE;rw[if_pos hs]
 have mA:MOG kN kN (h3++[.map []]) h3.length ([]:List (Nat × Nat)):=MOG.new h3;have kA:Keep (fun _=>False) h3 (h3++[.map []]):=Keep.push _ _ _;simp only[ZG,↓reduceIte,ZA,ZB,ZC,mbl,ZD,ZE,ZF,e];generalize h3++[.map []]=h4 at mA kA ⊢;have mS:MOG kN vU (h4++[.map []]) h4.length ([]:List (Nat × Unit)):=MOG.new h4;have kS:Keep (fun _=>False) h4 (h4++[.map []]):=Keep.push _ _ _;generalize h4++[.map []]=h5 at mS kS ⊢;have mA5:=mA.keep kS (fun e=>e);have k35:=kA.trans kS;have s5:=s3.keepF k35;have z3:L.cls h3.length=0:=s3.c0 _ (Z2 _);have l34:=mA.lt;have z4:L.cls h4.length=0:=s3.c0 _ (by omega);have k05:Keep (bk L.vc) h h5:=k03.trans (k35.mono (fun _ e=>e.elim));have l03:=k03.len;have nv:∀ q,L.cls q=0 -> ¬ bk L.vc q:=fun q e e2=>by have:=s.c3 q e2;omega
 rw[<- hue];refine XLo_rule (α:=Nat × List (Nat × Nat) × List (Nat × Unit)) (fun a=>[(0,.pointer (some ⟨b,0,none⟩)),(1,iv (n:Int)),(10,.map (some h3.length)),(11,.map (some h4.length)),(31,u),(32,iv (K.length:Int)),(33,iv (a.1:Int))])
  (fun a h'=>a.1<=K.length/\Keep (fun q=>bk L.vc q\/q=h3.length\/q=h4.length) h3 h'/\(∃ cs',TH h' b L cs' T id false)/\MOG kN kN h' h3.length a.2.1/\MOG kN vU h' h4.length a.2.2/\Kin T a.2.1 a.2.2 T.length/\(a.1=0->a.2.1=[])/\(∀ k∈K.take a.1,∀ tk,Tr T id k tk -> ∀ v∈Typ.fv tk,a.2.1.lookup v=some v)) (fun a=>K.length-a.1) (0,[],[])
  ⟨Zf _,k35.mono (fun _ e=>e.elim),⟨_,s5⟩,mA5,mS,⟨fun p hp=>(by cases hp),fun m e=>absurd rfl e,fun m e=>absurd rfl e⟩,fun _=>rfl,fun k hk=>by simp at hk⟩ ⟨rfl,rfl,rfl,rfl,by rw[hue];rfl,rfl,rfl,trivial⟩ ?_
 rintro ⟨i,a6,n6⟩ h6 Ψ2 ⟨hi,k6,⟨cs6,s6⟩,mo6,me6,kin6,he6,hf6⟩ next out
 simp only at hi mo6 me6 kin6 he6 hf6
 by_cases hil:i<K.length
 case neg =>
  have hie:i=K.length:=by omega
  subst hie;rw[Z9] at hf6;simp only[ZG,↓reduceIte,ZA,ZB,ZC,(eq_false (by omega):((K.length:Int)<(K.length:Int))=False)];refine out (.exit 0) _ _ _ _ (by intro e;cases e) ?_;simp only[ZG,↓reduceIte,ZA,ZB,ZC];have ok0:Cok ⟨T,a6⟩:=by
   refine ⟨ac,fun p hp=>?_,fun p hp q hq e2=>?_⟩
   ·obtain ⟨x,y⟩:=kin6.va p hp
    rw[<- x];exact y
   ·rw[(kin6.va p hp).1,(kin6.va q hq).1];exact e2
  refine XX_of (copied_ok t ⟨T,a6⟩ ht ok0 s6 mo6 z3 (by simp only;omega)) (fun res h7 hle7 hn7=>?_);obtain ⟨rfl,L',cd⟩:=hn7;refine .ret ?_;simp only[ZG,↓reduceIte,ZA,ZB,ZC];refine hΨ _ _ (fin_ret (rv2 rfl rfl ?_));rw[if_pos hs];refine ⟨⟨T,a6⟩,rfl,ok0,fun p hp=>(kin6.va p hp).1,fun e=>he6 (by rw[e];rfl),hf6,rfl,L',cd.th,?_,fun q hq=>cd.sm q (by have:=k6.len;omega),fun q hq=>cd.mn q (by have:=k6.len;omega)⟩;have k06:Keep (TMine L) h h6:=(k03.mono (fun q e=>.inr (s.c3 q e))).trans' k6 (fun q hq e=>by
   rcases e with e|e|e
   ·exact .inr (s.c3 q e)
   ·omega
   ·omega)
  exact k06.trans' cd.kp (fun q hq e=>e.elim id (fun e=>by omega))
 case pos =>
 have d1:((i:Int)<(K.length:Int))=True:=eq_true (by omega);have d0:(0<=(i:Int))=True:=by simp
 have hx:K[i]?=some K[i]:=Z0 hil;have hw:IntKind.i64.wrap ((i:Int)+1)=i+1:=i64w (by omega) (by omega);obtain ⟨b1,o1,c1,ev,ll⟩:=nn_at ((hu.keep k03 (fun q e=>nv q (hz q e))).keep k6 (fun q e e2=>by
  have:=hu.lt q e
  rcases e2 with e2|e2|e2
  ·exact nv q (hz q e) e2
  ·omega
  ·omega)) hx
 obtain ⟨tk,htk⟩:=ac.tree K[i] (hK _ (Za _));simp only[ZG,↓reduceIte,ZA,ZB,ZC,d1,ev,d0,and_self,Z3,Z8,mbl,ZD,ZE,ZF,ll];refine XX_of (kept_ok htk ac s6 mo6 me6 z3 z4 (by omega) (hK _ (Za _)) kin6) (fun res h8 hle8 hn8=>?_);obtain ⟨rfl,k8,⟨cs8,s8⟩,a8,n8,mo8,me8,kx8,kin8,hf8⟩:=hn8;refine .ret ?_;simp only[ZG,↓reduceIte,ZA,ZB,ZC,hw];refine next (i+1,a8,n8) _ _ h8 ⟨by simp only;omega,k6.trans k8,⟨_,s8⟩,mo8,me8,kin8,fun e=>by simp at e,fun k hk tk2 htk2 v hv=>?_⟩ ⟨rfl,rfl,rfl,rfl,by rw[ev];rfl,rfl,by simp only[Zb,Z5];rfl,trivial⟩ (by simp only;omega)
 simp only at hk;rw[Z7,hx,Zd] at hk
 rcases hk with hk|hk
 ·exact kx8.a v v (hf6 k hk tk2 htk2 v hv)
 ·simp at hk;subst hk
  rw[htk2.det htk] at hv;exact hf8 v hv
end
end Go.S11

namespace Go.S11
open Go Go.Eng Go.Proofs Go.Scn Go.Typ
theorem fsP:∃ fs,Tryd.prog.underlying 99=some (.struct fs)/\T2 Tryd.prog 99 fs:=by
 refine ⟨(match Tryd.prog.underlying 99 with|some (.struct fs)=>fs|_=>#[]),by kernel_rfl,by kernel_rfl,by kernel_rfl,by kernel_rfl⟩
theorem keyP:KeyOK Tryd.prog 99 (fun x:Int × Int=>pv x):=by obtain ⟨fs,_,t⟩:=fsP;exact KeyOK.pair t
theorem m70:Tryd.prog.underlying 70=some (.map 99 62):=by kernel_rfl
theorem same_pv (k:Int × Int):Instr.sameBits 10000 (pv k) (pv k)=true:=by simp [Instr.sameBits,pv]
abbrev kP (x:Int × Int):Value:=pv x
set_option maxRecDepth 100000 in
theorem up70 {h:AH} {ms:Nat} {l:List ((Int × Int) × Unit)} (k:Int × Int) (m:MOG kP vU h ms l):∃ h' l',wmapUpdate Tryd.prog h 70 (.map (some ms)) (pv k) (.agg #[])=some h'/\MOG kP vU h' ms l'/\(∀ x,mgetG x l'=if x=k then some () else mgetG x l)/\Keep (· = ms) h h':=by
 have:=MOG.up (P:=Tryd.prog) (kt:=99) (kf:=kP) (vf:=vU) (mt:=70) (et:=62) k () m70 keyP same_pv m;obtain ⟨h5,l',u1,u2,u3,u4,u5,u6⟩:=this;exact ⟨h5,l',u1,u2,u3,u5⟩
def Sn (T:List Tm) (ρ:Nat->Nat) (seen:List ((Int × Int) × Unit)):Prop:=∀ i j:Nat,mgetG ((i:Int),(j:Int)) seen≠none -> ∀ t u,Tr T ρ i t->Tr T ρ j u->t=u
theorem Tr.up {T:List Tm} {ρ:Nat->Nat} {n:Nat} {t:Ty} (h:Tr T ρ n t) (h1:ρ n<T.length) (h2:ρ (ρ n)=ρ n):Tr T ρ (ρ n) t:=by
 cases h with
 | var hn hT =>
   have:=Tr.var (ρ:=ρ) (n:=ρ n) h1 (by rw[h2];exact hT);rw[h2] at this;exact this
 | con hn hT h0 hl ha=>exact .con h1 (by rw[h2];exact hT) h0 hl ha
theorem eqT_f {t u:Ty} (h:t≠u):eqT t u=false:=by
 cases e:eqT t u with
 | false=>rfl
 | true=>exact absurd ((eqT_iff t u).1 e) h
theorem Tr.cell {T:List Tm} {ρ:Nat->Nat} {n:Nat} {t:Ty} (h:Tr T ρ n t):∃ tm:Tm,T[ρ n]?=some tm/\((tm.nm=[]/\t = .var (ρ n))\/(tm.nm≠[] /\ ∃ ts,t = .con tm.nm ts/\ts.length=tm.ags.length /\ ∀ (i a:Nat) (u:Ty),tm.ags[i]?=some a->ts[i]?=some u->Tr T ρ a u)):=by
 cases h with
 | var hn hT=>exact ⟨_,hT,.inl ⟨rfl,rfl⟩⟩
 | con hn hT h0 hl ha=>exact ⟨_,hT,.inr ⟨h0,_,rfl,hl,ha⟩⟩
section
variable {b:Nat} {sp:Bool} {ms:Nat} {T:List Tm} {L:TL} {ρ:Nat->Nat}
set_option maxHeartbeats 4000000 in
set_option maxRecDepth 100000 in
theorem same_ok {a:Nat} {ta:Ty} (hta:Tr T ρ a ta):∀ {bb:Nat} {tb:Ty},Tr T ρ bb tb -> ∀ {h:AH} {cs:List Ce} (s:TH h b L cs T ρ sp) {seen:List ((Int × Int) × Unit)} (me:MOG kP vU h ms seen) (zs:L.cls ms=0) (sn:Sn T ρ seen),
 Gets Tryd.prog 31 [.pointer (some ⟨b,0,none⟩),iv (a:Int),iv (bb:Int),.map (some ms)] h (fun res h'=>Keep (fun q=>bk L.vc q\/q=ms) h h'/\(∃ cs',TH h' b L cs' T ρ sp) /\
  ∃ seen',MOG kP vU h' ms seen'/\Sn T ρ seen'/\res = .ret (.bool (eqT ta tb))):=by
 induction hta with
 | @var a hn hT =>
   intro bb tb htb h cs s seen me zs sn;have hself:Tr T ρ a (.var (ρ a)):=.var hn hT;refine Gets.of (keep:=false) hP (draw_ok hM) k31 (by rfl) (fun Ψ hΨ=>?_);simp only[ZG,↓reduceIte,ZA,ZB,ZC,r31,YE,YC,YO,YA,YL,YX,YS,Ya,Yb,Yl,Yf,Yg,Yi,Ym,Yk,Yt,Yn,Yz,Yp,Yq,Yd];refine XX_of (at_ok s hn) (fun res h1 hle1 hn1=>?_);obtain ⟨k1,cs1,c,s1,hc,rfl⟩:=hn1;refine .ret ?_;have oN:=Own.new h1 46 h1.length [.string ⟨#[]⟩,.slice none 0 0];have kN:Keep (fun _=>False) h1 (h1++[row 46 h1.length [.string ⟨#[]⟩,.slice none 0 0]]):=Keep.push _ _ _;simp only[ZG,↓reduceIte,ZA,ZB,ZC,mbl,ZD,ZE,ZF];generalize h1++[row 46 h1.length [.string ⟨#[]⟩,.slice none 0 0]]=h2 at oN kN ⊢;have hone:=s1.one hc;refine XH_own oN rfl (by simp [Value.cells]) (by show (true && (c.v.oneCell' && true))=true;rw[hone];rfl) (fun h3 q1 q2 q3=>?_);have oB:Own h3 h1.length 46 [tv c.nm,c.v]:=by simpa [Value.cells] using q1
   have kB:Keep (fun _=>False) h1 h3:=kN.trans' q2 (fun q hq e=>by omega);have s3:=s1.keepF kB;have zB:L.cls h1.length=0:=s1.c0 _ (Z2 _);have k03:Keep (bk L.vc) h h3:=k1.trans (kB.mono (fun _ e=>e.elim));clear q1 q2 q3 kN oN;obtain ⟨e1,rA,zA⟩:=s3.tm _ c _ hc hT;simp only at e1 rA zA;simp only[ZG,↓reduceIte,ZA,ZB,ZC,mbl,ZD,ZE,ZF];refine XX_of (at_ok s3 htb.lt) (fun res g1 hle2 hn2=>?_);obtain ⟨kk1,cs2,d,s4,hd,rfl⟩:=hn2;refine .ret ?_;have oM:=Own.new g1 46 g1.length [.string ⟨#[]⟩,.slice none 0 0];have kM:Keep (fun _=>False) g1 (g1++[row 46 g1.length [.string ⟨#[]⟩,.slice none 0 0]]):=Keep.push _ _ _;simp only[ZG,↓reduceIte,ZA,ZB,ZC,mbl,ZD,ZE,ZF];generalize g1++[row 46 g1.length [.string ⟨#[]⟩,.slice none 0 0]]=g2 at oM kM ⊢;have honed:=s4.one hd;refine XH_own oM rfl (by simp [Value.cells]) (by show (true && (d.v.oneCell' && true))=true;rw[honed];rfl) (fun g3 q1 q2 q3=>?_);have oD:Own g3 g1.length 46 [tv d.nm,d.v]:=by simpa [Value.cells] using q1
   have kD:Keep (fun _=>False) g1 g3:=kM.trans' q2 (fun q hq e=>by omega);have s5:=s4.keepF kD;have zD:L.cls g1.length=0:=s4.c0 _ (Z2 _);have k3g:Keep (bk L.vc) h3 g3:=kk1.trans (kD.mono (fun _ e=>e.elim));have oB5:=oB.keep k3g (fun e=>by have:=s1.c3 _ e;omega);clear q1 q2 q3 kM oM;obtain ⟨tm,hTb,hB⟩:=Tr.cell htb;obtain ⟨e2,rB,zB2⟩:=s5.tm _ d _ hd hTb;have hraT:=(s.root a hn)
   have hrbT:=(s.root bb htb.lt)
   have nv:∀ q,L.cls q=0 -> ¬ bk L.vc q:=fun q e e2=>by have:=s.c3 q e2;omega
   have me3:=me.keep k03 (nv _ zs);have me5:=me3.keep k3g (nv _ zs);have k03':Keep (fun q=>bk L.vc q\/q=ms) h g3:=(k03.trans k3g).mono (fun q e=>.inl e);have hup:=Tr.up hself (by omega) hraT.2;have hub:=Tr.up htb (by have:=htb.lt;omega) hrbT.2;cases hg:mgetG ((ρ a:Int),(ρ bb:Int)) seen with
   | some x =>
     have hl:=MOG.lks (z:=.agg #[]) (ok:=true) keyP me5 (k:=((ρ a:Int),(ρ bb:Int))) hg;simp only[pv] at hl;simp only[ZG,↓reduceIte,ZA,ZB,ZC,mbl,ZD,ZE,ZF,hl];have oE:=Own.new g3 62 g3.length [];have kE:Keep (fun _=>False) g3 (g3++[row 62 g3.length []]):=Keep.push _ _ _;generalize g3++[row 62 g3.length []]=g4 at oE kE ⊢;refine XH_own oE rfl (by simp [Value.cells]) rfl (fun h5 p1 p2 p3=>?_);have k35:Keep (fun _=>False) g3 h5:=kE.trans' p2 (fun q hq e=>by omega);have k05:=k03'.trans (k35.mono (fun _ e=>e.elim));have s7:=s5.keepF k35;have me7:=me5.keep k35 (fun e=>e);have oB7:=oB5.keep k35 (fun e=>e);have oD7:=oD.keep k35 (fun e=>e);clear oE kE p1 p2 p3;simp only[ZG,↓reduceIte,ZA,ZB,ZC];have et:=sn (ρ a) (ρ bb) (by rw[hg];simp) _ _ hup hub;refine hΨ _ _ (fin_ret (rv1 rfl ⟨k05,⟨_,s7⟩,_,me7,sn,?_⟩));rw[(eqT_iff _ _).2 et];rfl
   | none =>
     have hl:=MOG.lkn (z:=.agg #[]) (ok:=true) keyP me5 (k:=((ρ a:Int),(ρ bb:Int))) hg;simp only[pv] at hl;simp only[ZG,↓reduceIte,ZA,ZB,ZC,mbl,ZD,ZE,ZF,hl];have oE:=Own.new g3 62 g3.length [];have kE:Keep (fun _=>False) g3 (g3++[row 62 g3.length []]):=Keep.push _ _ _;generalize g3++[row 62 g3.length []]=g4 at oE kE ⊢;refine XH_own oE rfl (by simp [Value.cells]) rfl (fun h5 p1 p2 p3=>?_);have k35:Keep (fun _=>False) g3 h5:=kE.trans' p2 (fun q hq e=>by omega);have k05:=k03'.trans (k35.mono (fun _ e=>e.elim));have s7:=s5.keepF k35;have me7:=me5.keep k35 (fun e=>e);have oB7:=oB5.keep k35 (fun e=>e);have oD7:=oD.keep k35 (fun e=>e);clear oE kE p1 p2 p3
     by_cases hab:(ρ a:Int)=(ρ bb:Int)
     case pos =>
      simp only[ZG,↓reduceIte,ZA,ZB,ZC,hab];have et:=hup.det (by rw[show ρ a=ρ bb by omega];exact hub);refine hΨ _ _ (fin_ret (rv1 rfl ⟨k05,⟨_,s7⟩,_,me7,sn,?_⟩));rw[(eqT_iff _ _).2 et];rfl
     case neg =>
     have dn:(([]:Bs) == ([]:Bs))=true:=rfl;simp only[ZG,↓reduceIte,ZA,ZB,ZC,hab,mbl,ZD,ZE,ZF,oB7.cells.ld,e1,tx_toList,mk_toList,dn];have ef:eqT (.var (ρ a)) tb=false:=eqT_f (fun e=>by
      rcases hB with ⟨_,e2⟩|⟨_,ts2,e2,_⟩
      ·rw[e2] at e;injection e with e;omega
      ·rw[e2] at e;cases e)
     refine hΨ _ _ (fin_ret (rv1 rfl ⟨k05,⟨_,s7⟩,_,me7,sn,?_⟩));rw[ef];rfl
 | @con a nm al ts hn hT h0 hl ha ih =>
   intro bb tb htb h cs s seen me zs sn;have hself:Tr T ρ a (.con nm ts):=.con hn hT h0 hl ha;refine Gets.of (keep:=false) hP (draw_ok hM) k31 (by rfl) (fun Ψ hΨ=>?_);simp only[ZG,↓reduceIte,ZA,ZB,ZC,r31,YE,YC,YO,YA,YL,YX,YS,Ya,Yb,Yl,Yf,Yg,Yi,Ym,Yk,Yt,Yn,Yz,Yp,Yq,Yd];refine XX_of (at_ok s hn) (fun res h1 hle1 hn1=>?_);obtain ⟨k1,cs1,c,s1,hc,rfl⟩:=hn1;refine .ret ?_;have oN:=Own.new h1 46 h1.length [.string ⟨#[]⟩,.slice none 0 0];have kN:Keep (fun _=>False) h1 (h1++[row 46 h1.length [.string ⟨#[]⟩,.slice none 0 0]]):=Keep.push _ _ _;simp only[ZG,↓reduceIte,ZA,ZB,ZC,mbl,ZD,ZE,ZF];generalize h1++[row 46 h1.length [.string ⟨#[]⟩,.slice none 0 0]]=h2 at oN kN ⊢;have hone:=s1.one hc;refine XH_own oN rfl (by simp [Value.cells]) (by show (true && (c.v.oneCell' && true))=true;rw[hone];rfl) (fun h3 q1 q2 q3=>?_);have oB:Own h3 h1.length 46 [tv c.nm,c.v]:=by simpa [Value.cells] using q1
   have kB:Keep (fun _=>False) h1 h3:=kN.trans' q2 (fun q hq e=>by omega);have s3:=s1.keepF kB;have zB:L.cls h1.length=0:=s1.c0 _ (Z2 _);have k03:Keep (bk L.vc) h h3:=k1.trans (kB.mono (fun _ e=>e.elim));clear q1 q2 q3 kN oN;obtain ⟨e1,rA,zA⟩:=s3.tm _ c _ hc hT;simp only at e1 rA zA;simp only[ZG,↓reduceIte,ZA,ZB,ZC,mbl,ZD,ZE,ZF];refine XX_of (at_ok s3 htb.lt) (fun res g1 hle2 hn2=>?_);obtain ⟨kk1,cs2,d,s4,hd,rfl⟩:=hn2;refine .ret ?_;have oM:=Own.new g1 46 g1.length [.string ⟨#[]⟩,.slice none 0 0];have kM:Keep (fun _=>False) g1 (g1++[row 46 g1.length [.string ⟨#[]⟩,.slice none 0 0]]):=Keep.push _ _ _;simp only[ZG,↓reduceIte,ZA,ZB,ZC,mbl,ZD,ZE,ZF];generalize g1++[row 46 g1.length [.string ⟨#[]⟩,.slice none 0 0]]=g2 at oM kM ⊢;have honed:=s4.one hd;refine XH_own oM rfl (by simp [Value.cells]) (by show (true && (d.v.oneCell' && true))=true;rw[honed];rfl) (fun g3 q1 q2 q3=>?_);have oD:Own g3 g1.length 46 [tv d.nm,d.v]:=by simpa [Value.cells] using q1
   have kD:Keep (fun _=>False) g1 g3:=kM.trans' q2 (fun q hq e=>by omega);have s5:=s4.keepF kD;have zD:L.cls g1.length=0:=s4.c0 _ (Z2 _);have k3g:Keep (bk L.vc) h3 g3:=kk1.trans (kD.mono (fun _ e=>e.elim));have oB5:=oB.keep k3g (fun e=>by have:=s1.c3 _ e;omega);clear q1 q2 q3 kM oM;obtain ⟨tm,hTb,hB⟩:=Tr.cell htb;obtain ⟨e2,rB,zB2⟩:=s5.tm _ d _ hd hTb;have hraT:=(s.root a hn)
   have hrbT:=(s.root bb htb.lt)
   have nv:∀ q,L.cls q=0 -> ¬ bk L.vc q:=fun q e e2=>by have:=s.c3 q e2;omega
   have me3:=me.keep k03 (nv _ zs);have me5:=me3.keep k3g (nv _ zs);have k03':Keep (fun q=>bk L.vc q\/q=ms) h g3:=(k03.trans k3g).mono (fun q e=>.inl e);have hup:=Tr.up hself (by omega) hraT.2;have hub:=Tr.up htb (by have:=htb.lt;omega) hrbT.2;cases hg:mgetG ((ρ a:Int),(ρ bb:Int)) seen with
   | some x =>
     have hl:=MOG.lks (z:=.agg #[]) (ok:=true) keyP me5 (k:=((ρ a:Int),(ρ bb:Int))) hg;simp only[pv] at hl;simp only[ZG,↓reduceIte,ZA,ZB,ZC,mbl,ZD,ZE,ZF,hl];have oE:=Own.new g3 62 g3.length [];have kE:Keep (fun _=>False) g3 (g3++[row 62 g3.length []]):=Keep.push _ _ _;generalize g3++[row 62 g3.length []]=g4 at oE kE ⊢;refine XH_own oE rfl (by simp [Value.cells]) rfl (fun h5 p1 p2 p3=>?_);have k35:Keep (fun _=>False) g3 h5:=kE.trans' p2 (fun q hq e=>by omega);have k05:=k03'.trans (k35.mono (fun _ e=>e.elim));have s7:=s5.keepF k35;have me7:=me5.keep k35 (fun e=>e);have oB7:=oB5.keep k35 (fun e=>e);have oD7:=oD.keep k35 (fun e=>e);clear oE kE p1 p2 p3;simp only[ZG,↓reduceIte,ZA,ZB,ZC];have et:=sn (ρ a) (ρ bb) (by rw[hg];simp) _ _ hup hub;refine hΨ _ _ (fin_ret (rv1 rfl ⟨k05,⟨_,s7⟩,_,me7,sn,?_⟩));rw[(eqT_iff _ _).2 et];rfl
   | none =>
     have hl:=MOG.lkn (z:=.agg #[]) (ok:=true) keyP me5 (k:=((ρ a:Int),(ρ bb:Int))) hg;simp only[pv] at hl;simp only[ZG,↓reduceIte,ZA,ZB,ZC,mbl,ZD,ZE,ZF,hl];have oE:=Own.new g3 62 g3.length [];have kE:Keep (fun _=>False) g3 (g3++[row 62 g3.length []]):=Keep.push _ _ _;generalize g3++[row 62 g3.length []]=g4 at oE kE ⊢;refine XH_own oE rfl (by simp [Value.cells]) rfl (fun h5 p1 p2 p3=>?_);have k35:Keep (fun _=>False) g3 h5:=kE.trans' p2 (fun q hq e=>by omega);have k05:=k03'.trans (k35.mono (fun _ e=>e.elim));have s7:=s5.keepF k35;have me7:=me5.keep k35 (fun e=>e);have oB7:=oB5.keep k35 (fun e=>e);have oD7:=oD.keep k35 (fun e=>e);clear oE kE p1 p2 p3
     by_cases hab:(ρ a:Int)=(ρ bb:Int)
     case pos =>
      simp only[ZG,↓reduceIte,ZA,ZB,ZC,hab];have et:=hup.det (by rw[show ρ a=ρ bb by omega];exact hub);refine hΨ _ _ (fin_ret (rv1 rfl ⟨k05,⟨_,s7⟩,_,me7,sn,?_⟩));rw[(eqT_iff _ _).2 et];rfl
     case neg =>
     have dn:(nm == ([]:Bs))=false:=by simpa using h0
     have h8:al.length<=8:=(s.ok _ _ hT).2.2.2.2;have h82:tm.ags.length<=8:=(s.ok _ _ hTb).2.2.2.2;cases hnm:(nm == tm.nm) with
     | false =>
       simp only[ZG,↓reduceIte,ZA,ZB,ZC,hab,mbl,ZD,ZE,ZF,oB7.cells.ld,oD7.cells.ld,e1,e2,tx_toList,mk_toList,dn,hnm,Bool.not_false];have ef:eqT (.con nm ts) tb=false:=eqT_f (fun e=>by
        rcases hB with ⟨_,e2⟩|⟨_,ts2,e2,_⟩
        ·rw[e2] at e;cases e
        ·rw[e2] at e;cases e;simp at hnm)
       refine hΨ _ _ (fin_ret (rv1 rfl ⟨k05,⟨_,s7⟩,_,me7,sn,?_⟩));rw[ef];rfl
     | true =>
     have enm:nm=tm.nm:=by simpa using hnm
     obtain ⟨ts2,etb,hl2,ha2⟩:∃ ts2,tb = .con tm.nm ts2/\ts2.length=tm.ags.length /\ ∀ (i a:Nat) (u:Ty),tm.ags[i]?=some a->ts2[i]?=some u->Tr T ρ a u:=by
      rcases hB with ⟨e3,_⟩|⟨_,ts2,e3,e4,e5⟩
      ·exact absurd (enm.trans e3) h0
      ·exact ⟨ts2,e3,e4,e5⟩
     obtain ⟨va,vc,hva⟩:=row_shape rA;obtain ⟨vb,vd,hvb⟩:=row_shape rB
     by_cases hlen:al.length=tm.ags.length
     case neg =>
      have d1:((al.length:Int)=(tm.ags.length:Int))=False:=eq_false (by omega);simp only[ZG,↓reduceIte,ZA,ZB,ZC,hab,mbl,ZD,ZE,ZF,oB7.cells.ld,oD7.cells.ld,e1,e2,tx_toList,mk_toList,dn,hnm,Zg,hva,hvb,d1];have ef:eqT (.con nm ts) tb=false:=eqT_f (fun e=>by rw[etb] at e;cases e;omega);refine hΨ _ _ (fin_ret (rv1 rfl ⟨k05,⟨_,s7⟩,_,me7,sn,?_⟩));rw[ef];rfl
     case pos =>
     have d1:((al.length:Int)=(tm.ags.length:Int))=True:=eq_true (by omega);simp only[ZG,↓reduceIte,ZA,ZB,ZC,hab,mbl,ZD,ZE,ZF,oB7.cells.ld,oD7.cells.ld,e1,e2,tx_toList,mk_toList,dn,hnm,Zg,hva,hvb,d1];refine XLo_rule (α:=Nat × List ((Int × Int) × Unit)) (fun a2=>[(0,.pointer (some ⟨b,0,none⟩)),(3,.map (some ms)),(8,.bool false),(9,iv (ρ a:Int)),(10,.pointer (some ⟨h1.length,0,none⟩)),(11,iv (ρ bb:Int)),(12,.pointer (some ⟨g1.length,0,none⟩)),(63,iv (al.length:Int)),(64,iv (a2.1:Int))])
      (fun a2 h'=>a2.1<=al.length/\Keep (fun q=>bk L.vc q\/q=ms) h5 h'/\(∃ cs',TH h' b L cs' T ρ sp)/\MOG kP vU h' ms a2.2/\Sn T ρ a2.2/\ts.take a2.1=ts2.take a2.1) (fun a2=>al.length-a2.1) (0,seen)
      ⟨Zf _,.refl _ _,⟨_,s7⟩,me7,sn,by simp⟩ ⟨rfl,rfl,rfl,rfl,rfl,rfl,rfl,rfl,rfl,trivial⟩ ?_
     rintro ⟨i,n7⟩ h7 Ψ2 ⟨hi,k57,⟨cs7,s8⟩,me8,sn8,heq⟩ next out
     simp only at hi me8 sn8 heq;have nx:∀ q,L.cls q≠3->q≠ms -> ¬ (bk L.vc q\/q=ms):=fun q e1 e2 e3=>e3.elim (fun e=>e1 (s.c3 q e)) e2
     have l5:h.length<=h5.length:=k05.len;have lms:=me.lt;have l1:h.length<=h1.length:=k1.len;have lg:h.length<=g1.length:=by have:=k03.len;have:=kk1.len;omega
     have oB8:=oB7.keep k57 (nx _ (by rw[zB];omega) (by omega));have oD8:=oD7.keep k57 (nx _ (by rw[zD];omega) (by omega))
     by_cases hil:i<al.length
     case neg =>
      have hie:i=ts.length:=by omega
      subst hie;rw[Z9,Ze (by omega)] at heq;have et:Ty.con nm ts=tb:=by rw[etb,<- heq,enm]
      simp only[ZG,↓reduceIte,ZA,ZB,ZC,(eq_false (by omega):((ts.length:Int)<(al.length:Int))=False)];refine out (.exit 0) _ _ _ _ (by intro e;cases e) ?_;obtain ⟨h9,l',u1,u2,u3,u5⟩:=up70 ((ρ a:Int),(ρ bb:Int)) me8;simp only[pv] at u1;simp only[ZG,↓reduceIte,ZA,ZB,ZC,mbl,ZD,ZE,ZF,u1];refine hΨ _ _ (fin_ret (rv1 rfl ⟨(k05.trans k57).trans (u5.mono (fun q e=>.inr e)),⟨_,s8.keep u5 (fun q hq e=>hq (by rw[show q=ms from e];exact zs))⟩,_,u2,fun i j hs t u ht hu=>?_,?_⟩))
      ·rw[u3] at hs
       by_cases hk:((i:Int),(j:Int))=((ρ a:Int),(ρ bb:Int))
       ·have hi:i=ρ a:=by have:=congrArg Prod.fst hk;simp only at this;omega
        have hj:j=ρ bb:=by have:=congrArg Prod.snd hk;simp only at this;omega
        subst hi;subst hj;rw[ht.det hup,hu.det hub];exact et
       ·rw[if_neg hk] at hs;exact sn8 i j hs t u ht hu
      ·rw[(eqT_iff _ _).2 et];rfl
     case pos =>
     have d1:((i:Int)<(al.length:Int))=True:=eq_true (by omega);have d0:(0<=(i:Int))=True:=by simp
     have hw:IntKind.i64.wrap ((i:Int)+1)=i+1:=i64w (by omega) (by omega);have hx:al[i]?=some al[i]:=Z0 hil;have hy:ts[i]?=some ts[i]:=Z0 (by omega);have hx2:tm.ags[i]?=some (tm.ags[i]'(by omega)):=Z0 (by omega);have hy2:ts2[i]?=some (ts2[i]'(by omega)):=Z0 (by omega);obtain ⟨b1,o1,c1,ev,ll⟩:=nn_at ((((rA.keep k3g (fun q e=>by have:=zA q e;intro e2;have:=s.c3 q e2;omega)).keep k35 (fun _ _ e=>e)).keep k57 (fun q e=>nx q (by have:=zA q e;omega) (fun e2=>by subst e2;have:=zA _ e;omega)))) hx;obtain ⟨b2,o2,c2,ev2,ll2⟩:=nn_at (((rB.keep k35 (fun _ _ e=>e)).keep k57 (fun q e=>nx q (by have:=zB2 q e;omega) (fun e2=>by subst e2;have:=zB2 _ e;omega)))) hx2;have d2:((i:Int)<(tm.ags.length:Int))=True:=eq_true (by omega);simp only[ZG,↓reduceIte,ZA,ZB,ZC,d1,d2,d0,and_self,mbl,ZD,ZE,ZF,oB8.cells.ld,oD8.cells.ld,ev,ev2,ll,ll2,Z3,Z8];refine XX_of (ih i _ _ hx hy (ha2 i _ _ hx2 hy2) s8 me8 zs sn8) (fun res h8 hle8 hn8=>?_);obtain ⟨k78,⟨cs8,s9⟩,n8,me9,sn9,rfl⟩:=hn8;refine .ret ?_;have k58:=k57.trans k78;have oB9:=oB7.keep k58 (nx _ (by rw[zB];omega) (by omega));have oD9:=oD7.keep k58 (nx _ (by rw[zD];omega) (by omega));obtain ⟨b3,o3,c3,ev3,ll3⟩:=nn_at ((((rA.keep k3g (fun q e=>by have:=zA q e;intro e2;have:=s.c3 q e2;omega)).keep k35 (fun _ _ e=>e)).keep k58 (fun q e=>nx q (by have:=zA q e;omega) (fun e2=>by subst e2;have:=zA _ e;omega)))) hx;obtain ⟨b4,o4,c4,ev4,ll4⟩:=nn_at (((rB.keep k35 (fun _ _ e=>e)).keep k58 (fun q e=>nx q (by have:=zB2 q e;omega) (fun e2=>by subst e2;have:=zB2 _ e;omega)))) hx2;rw[ev] at ev3;cases ev3;rw[ev2] at ev4;cases ev4;cases hq:eqT ts[i] (ts2[i]'(by omega)) with
     | false =>
       simp only[ZG,↓reduceIte,ZA,ZB,ZC,mbl,ZD,ZE,ZF,oB9.cells.ld,oD9.cells.ld,ev,ev2,ll3,ll4,d1,d2,d0,and_self,Bool.not_false];refine out .ret _ _ _ _ (by intro e;cases e) ?_;simp only[ZG,↓reduceIte,ZA,ZB,ZC];have ef:eqT (.con nm ts) tb=false:=eqT_f (fun e=>by
        rw[etb] at e;cases e;rw[(eqT_iff _ _).2 rfl] at hq;cases hq)
       refine hΨ _ _ (fin_ret (rv1 rfl ⟨k05.trans k58,⟨_,s9⟩,_,me9,sn9,?_⟩));rw[ef];rfl
     | true =>
       simp only[ZG,↓reduceIte,ZA,ZB,ZC,mbl,ZD,ZE,ZF,oB9.cells.ld,oD9.cells.ld,ev,ev2,ll3,ll4,d1,d2,d0,and_self,Zg,hw];refine next (i+1,n8) _ _ h8 ⟨by simp only;omega,k58,⟨_,s9⟩,me9,sn9,?_⟩ ⟨rfl,rfl,rfl,rfl,rfl,rfl,rfl,rfl,by simp only[Zb,Z5];rfl,trivial⟩ (by simp only;omega)
       simp only;rw[Z7,Z7,heq,hy,hy2,(eqT_iff _ _).1 hq]
set_option maxHeartbeats 2000000 in
theorem Same_ok {a bb:Nat} {ta tb:Ty} (hta:Tr T ρ a ta) (htb:Tr T ρ bb tb) {h:AH} {cs:List Ce} (s:TH h b L cs T ρ false) :
 Gets Tryd.prog 15 [.pointer (some ⟨b,0,none⟩),iv (a:Int),iv (bb:Int)] h (fun res h'=>Keep (bk L.vc) h h'/\(∃ cs',TH h' b L cs' T ρ false)/\res = .ret (.tuple #[.bool (eqT ta tb),iv 0])):=by
 refine Gets.of (keep:=false) hP (draw_ok hM) k15 (by rfl) (fun Ψ hΨ=>?_);have oN:=Own.new h 3 h.length [iv (a:Int),iv (bb:Int)];have kQ:Keep (fun _=>False) h (h++[row 3 h.length [iv (a:Int),iv (bb:Int)]]):=Keep.push _ _ _;have owN:Ows (h++[row 3 h.length [iv (a:Int),iv (bb:Int)]]) 3 1 (.slice (some ⟨h.length,0,none⟩) 2 2) 2 [iv (a:Int),iv (bb:Int)]:=.mk oN rfl (Z2 _) rfl;simp only[ZG,↓reduceIte,ZA,ZB,ZC,r15,YE,YC,YO,YA,YL,YX,YS,Ya,Yb,Yl,Yf,Yg,Yi,Ym,Yk,Yt,Yn,Yz,Yp,Yq,Yd,mbl,ZD,ZE,ZF];generalize h++[row 3 h.length [iv (a:Int),iv (bb:Int)]]=h1 at oN kQ owN ⊢;have s1:=s.keepF kQ;refine XX_of (look_ok s1 (l:=[a,bb]) owN.rds (by simp) (fun x hx=>by
  rcases List.mem_cons.1 hx with rfl|hx
  ·exact hta.lt
  ·cases Z6.1 hx;exact htb.lt)) (fun res h2 hle hn=>?_)
 obtain ⟨k2,rfl⟩:=hn;refine .ret ?_;have s2:=s1.keepF k2;simp only[ZG,↓reduceIte,ZA,ZB,ZC,spE,Zk,mbl,ZD,ZE,ZF];have mS:MOG kP vU (h2++[.map []]) h2.length ([]:List ((Int × Int) × Unit)):=MOG.new h2;have kS:Keep (fun _=>False) h2 (h2++[.map []]):=Keep.push _ _ _;generalize h2++[.map []]=h3 at mS kS ⊢;have s3:=s2.keepF kS;refine XX_of (same_ok hta htb s3 mS (s2.c0 _ (Z2 _)) (fun i j e=>absurd rfl e)) (fun res h4 hle4 hn4=>?_);obtain ⟨k4,⟨cs4,s4⟩,seen',_,_,rfl⟩:=hn4;refine .ret ?_;simp only[ZG,↓reduceIte,ZA,ZB,ZC];have k02:Keep (fun _=>False) h h2:=kQ.trans k2;refine hΨ _ _ (fin_ret (rv2 rfl rfl ⟨((k02.trans kS).mono (fun _ e=>e.elim)).trans' k4 (fun q hq e=>?_),⟨_,s4⟩,rfl⟩))
 rcases e with e|e
 ·exact e
 ·have:=k02.len;omega
end
end Go.S11

namespace Go.Proofs
open Go.Shelf Go.RowKit Go.Lib
def Tryd.laysIdxFunc_ren:Go.Shelf.Ren:=⟨fun|15=>72|20=>81|n=>n,fun|21=>21|23=>115|n=>n,fun|n=>n⟩
theorem Tryd.laysIdxFunc:Go.Proofs.LaysGw.n15 Tryd.prog Tryd.laysIdxFunc_ren:={
 mixed:=by kernel_rfl
 f15:=Tryd.func72.trans (congrArg some (by kernel_rfl))
 f20:=Tryd.func81.trans (congrArg some (by kernel_rfl))
 t0:=Tryd.underlying0
 a0:=Tryd.isAgg0
 z0:=Tryd.sizeOf0
 v0:=Tryd.zeroValue0
 i0:=by kernel_rfl
 t3:=Tryd.underlying3
 a3:=Tryd.isAgg3
 z3:=Tryd.sizeOf3
 v3:=Tryd.zeroValue3
 i3:=by kernel_rfl
 t4:=Tryd.underlying4
 a4:=Tryd.isAgg4
 z4:=Tryd.sizeOf4
 v4:=Tryd.zeroValue4
 i4:=by kernel_rfl
 t9:=Tryd.underlying9
 a9:=Tryd.isAgg9
 z9:=Tryd.sizeOf9
 v9:=Tryd.zeroValue9
 i9:=by kernel_rfl
 t21:=Tryd.underlying21
 a21:=Tryd.isAgg21
 z21:=Tryd.sizeOf21
 v21:=Tryd.zeroValue21
 i21:=by kernel_rfl
 t23:=Tryd.underlying115
 a23:=Tryd.isAgg115
 z23:=Tryd.sizeOf115
 v23:=Tryd.zeroValue115
 i23:=by kernel_rfl }
def stopR (r:Nat):Bool:=!(decide (r=95) || decide (r=39) || (decide (48<=r) && decide (r<=57)) || (decide (97<=r) && decide (r<=122)) || (decide (65<=r) && decide (r<=90)))
set_option maxHeartbeats 4000000 in
theorem Tryd.wordStop (w:World):PredAt Tryd.prog 73 #[] encR stopR w:=fun W r _=>by
 unfold FnGives
 go_enter Tryd.func73,Tryd.ntmps73
 go_wp2
 all_goals first|(exfalso;omega)|(go_ret;exact ⟨congrArg (fun b=>Ending.returned (Value.bool b)) (by rw[Bool.eq_iff_iff];simp [stopR];omega),0,rfl⟩)
end Go.Proofs
namespace Go.Scn
open Go Go.Lib Go.Proofs
theorem stop_inner (c:UInt8):stopR c.toNat = !inner c:=by
 rw[Bool.eq_iff_iff];simp [stopR,inner,small,large,digit];omega
theorem stop_high {r:Nat} (h:128<=r):stopR r=true:=by
 simp [stopR];omega
theorem idx_from (s:Bs):∀ (f pos:Nat),s.length<=pos+f->idxFuncFrom stopR true (tx s) f pos=if pos+spn inner (s.drop pos)<s.length then ((pos+spn inner (s.drop pos):Nat):Int) else -1:=by
 intro f
 induction f with
 | zero =>
   intro pos hp;rw[idxFuncFrom,if_neg (by omega)]
 | succ f ih =>
   intro pos hp;have hsz:(tx s).size=s.length:=by simp [tx,ByteArray.size]
   unfold idxFuncFrom
   by_cases hlt:pos<s.length
   case neg=>rw[if_neg (by rw[hsz];exact hlt),if_neg (by omega)]
   case pos =>
   have hb:pos<(tx s).size:=by rw[hsz];exact hlt
   have hget:(tx s)[pos]'hb=s[pos]:=by simp [tx,ByteArray.getElem_eq_getElem_data];rfl
   have hd:s.drop pos=s[pos]::s.drop (pos+1):=List.drop_eq_getElem_cons hlt;rw[if_pos hb,hd,spn_cons]
   by_cases ha:(s[pos]).toNat<128
   ·have e:=decode_ascii (tx s) pos hb (by rw[hget];exact ha)
    rw[hget] at e;rw[e];simp only;rw[stop_inner];cases hi:inner s[pos] with
    | false=>simp [hlt]
    | true =>
      rw[if_neg (by simp),if_pos rfl,ih (pos+1) (by omega)];have:pos+1+spn inner (s.drop (pos+1))=pos+(spn inner (s.drop (pos+1))+1):=by omega
      rw[this]
   ·obtain ⟨e1,e2⟩:=decode_high (tx s) pos hb (by rw[hget];omega)
    rw[stop_high e1,if_pos rfl];have hi:inner s[pos]=false:=by
     have:=stop_inner s[pos];rw[stop_high (by omega)] at this
     simpa using this
    rw[hi];simp [hlt]
theorem idx_word (s:Bs):idxFunc stopR true (tx (s++[32]))=(spn inner s:Nat):=by
 have hsz:(tx (s++[32])).size=s.length+1:=by simp [tx,ByteArray.size]
 have hs:spn inner (s++[32])=spn inner s:=by
  rcases Nat.lt_or_ge (spn inner s) s.length with h|h
  ·refine spn_eq (by simp;omega) (fun i c hi hc=>?_) (fun c hc=>?_)
   ·obtain ⟨d,h1,h2⟩:=spn_at hi
    rw[Z4 (by omega),h1] at hc;cases hc;exact h2
   ·rw[Z4 h] at hc;exact spn_end hc
  ·have hl:=spn_le inner s
   refine spn_eq (by simp;omega) (fun i c hi hc=>?_) (fun c hc=>?_)
   ·obtain ⟨d,h1,h2⟩:=spn_at hi
    rw[Z4 (by omega),h1] at hc;cases hc;exact h2
   ·rw[Zc h,show spn inner s-s.length=0 by omega] at hc
    simp at hc;subst hc;decide
 have hl:=spn_le inner s;unfold idxFunc;rw[hsz,idx_from _ _ _ (by simp),List.drop_zero,Nat.zero_add,hs,if_pos (by simp;omega)]
end Go.Scn
