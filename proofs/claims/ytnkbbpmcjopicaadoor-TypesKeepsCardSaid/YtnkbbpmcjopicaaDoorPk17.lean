import Derived.Test.YtnkbbpmcjopicaaDoorPk16
import Derived.Test.YtnkbbpmcjopicaaDoorPk13
set_option linter.unusedVariables false
set_option linter.unusedSimpArgs false
open Nat renaming reduceEqDiff -> ZA,reduceAdd -> ZB,reduceMul -> ZC,reduceLeDiff -> ZD,reduceLT -> ZE
open Int renaming reduceEq -> ZF
open List renaming length_cons->Z0,length_nil->Z1,length_append->Z2,getElem?_eq_getElem->Z3,append_assoc->Z4,getElem_mem->Z5,mem_of_mem_take->Z8,take_length->Zc,idxOf_le_length->Zd
open Int renaming cast_ofNat_Int->Z6,natCast_add->Z7,toNat_zero->Za,toNat_natCast->Zb,toNat->Zh,min_eq_right->Zj
open Nat renaming mul_one->Z9,zero_add->Ze,add_zero->Zf,zero_le->Zg,zero_mul->Zi,le_refl->Zk
namespace Go.S11
open Go Go.Eng Go.Proofs Go.Scn Go.Typ
theorem WT.keepF {h h1 h2:AH} {b:Nat} {L:TL} {T:List Tm} {ρ:Nat->Nat} {sp:Bool} {q:Nat} {acc1:Bs} {v v1:Value} (w:WT h q v b L T ρ sp acc1 h1 v1) (k:Keep (fun _=>False) h1 h2):WT h q v b L T ρ sp acc1 h2 v1:=by
 obtain ⟨a,x⟩:=w.bd;obtain ⟨cs,s⟩:=w.th;exact ⟨w.kp.trans (k.mono (fun _ e=>e.elim)),⟨a,x.keep k (fun e=>e) (fun _ _ e=>e)⟩,w.fr,_,s.keepF k⟩
theorem head_wrts {V:List Nat} {k:Nat} {ts:List Ty} (h:0<ts.length):(wrts V k ts).headD []=wrt V k ts[0]:=by
 cases ts with
 | nil=>simp at h
 | cons t l=>rw[wrts];rfl
theorem snd_wrts {V:List Nat} {k:Nat} {ts:List Ty} (h:1<ts.length):(wrts V k ts)[1]?.getD []=wrt V k ts[1]:=by
 match ts,h with
 | a::b::l,_=>simp [wrts]
theorem szs_ge {ts:List Ty} {i:Nat} (h:i<ts.length):sz ts[i]<=szs ts:=by
 have:=szs_le ts (i+1);rw[szs_take (Z3 h)] at this;omega
theorem szs_two {ts:List Ty} (h:1<ts.length):sz ts[0]+sz ts[1]<=szs ts:=by
 match ts,h with
 | a::b::l,_=>simp only[szs,List.getElem_cons_zero,List.getElem_cons_succ];omega
section
variable {b:Nat} {L:TL} {T:List Tm} {ρ:Nat->Nat} {sp:Bool} {q:Nat} {u:Value} {V:List Nat}
set_option maxHeartbeats 8000000 in
theorem write_ok (hV:V.length<=1000000) {n:Nat} {t:Ty} (ht:Tr T ρ n t):∀ {h:AH} {acc:Bs} {v:Value} (p:WP h b L T ρ sp q acc v u V) (hold:Nat),hold<=2->(∀ m∈Typ.fv t,m∈V)->acc.length+200*sz t<=100000000000->Gets Tryd.prog 26 [.pointer (some ⟨b,0,none⟩),.pointer (some ⟨q,0,none⟩),iv (n:Int),u,iv (hold:Int)] h
 (fun res h'=>res = .ret (.tuple #[]) /\ ∃ v',WT h q v b L T ρ sp (acc++wrt V hold t) h' v'):=by
 induction ht with
 | @var n hn hT =>
   intro h acc v p hold hh hfv hb;refine Gets.of (keep:=false) hP (draw_ok hM) k26 (by rfl) (fun Ψ hΨ=>?_);obtain ⟨cs,s⟩:=p.th;obtain ⟨a0,x0⟩:=p.bd;have hmem:=hfv (ρ n) (by simp [Typ.fv]);rw[sz] at hb;simp only[ZG,↓reduceIte,ZA,ZB,ZC,r26,YE,YC,YO,YA,YL,YX,YS,Ya,Yb,Yl,Yf,Yg,Yi,Ym,Yk,Yt,Yn,Yz,Yp,Yq,Yd];refine XX_of (at_ok s hn) (fun res h1 hle1 hn1=>?_);obtain ⟨k1,cs1,c,s1,hc,rfl⟩:=hn1;refine .ret ?_;have oN:=Own.new h1 46 h1.length [.string ⟨#[]⟩,.slice none 0 0];have kN:Keep (fun _=>False) h1 (h1++[row 46 h1.length [.string ⟨#[]⟩,.slice none 0 0]]):=Keep.push _ _ _;simp only[ZG,↓reduceIte,ZA,ZB,ZC,mbl,ZD,ZE,ZF];generalize h1++[row 46 h1.length [.string ⟨#[]⟩,.slice none 0 0]]=h2 at oN kN ⊢;have hone:=s1.one hc;refine XH_own oN rfl (by simp [Value.cells]) (by show (true && (c.v.oneCell' && true))=true;rw[hone];rfl) (fun h3 q1 q2 q3=>?_);have oB:Own h3 h1.length 46 [tv c.nm,c.v]:=by simpa [Value.cells] using q1
   have kB:Keep (fun _=>False) h1 h3:=kN.trans' q2 (fun q hq e=>by omega);have s3:=s1.keepF kB;have zB:L.cls h1.length=0:=s1.c0 _ (Zk _);have k03:Keep (bk L.vc) h h3:=k1.trans (kB.mono (fun _ e=>e.elim));clear q1 q2 q3 kN oN;obtain ⟨e1,rA,_⟩:=s3.tm _ c _ hc hT;simp only at e1;have w03:=p.w0 k03 ⟨_,s3⟩;have p3:=p.step w03;have nb:¬ (bk L.vc h1.length\/h1.length=q\/bk v h1.length):=by
    rintro (e|e|e)
    ·have:=s.c3 _ e;omega
    ·have:=x0.own.lt;have:=k1.len;omega
    ·have:=x0.ow.lt _ e;have:=k1.len;omega
   have dn:(([]:Bs) == ([]:Bs))=true:=rfl;have da:(([]:Bs) == ([45,62]:Bs))=false:=rfl
   by_cases h2:hold=2
   case pos =>
    obtain ⟨va,vc,hva⟩:=row_shape rA;simp only[ZG,↓reduceIte,ZA,ZB,ZC,mbl,ZD,ZE,ZF,oB.cells.ld,e1,tx_toList,mk_toList,da,show ((hold:Int)=2)=True by simp;omega,hva,show ((0:Int)<(([]:List Nat).length:Int))=False by simp];refine XX_of (p3.str [] (by simp only[Z0,Z1];omega)) (fun res h4 hle4 hn4=>?_);obtain ⟨rfl,v4,w4⟩:=hn4;refine .ret ?_;have p4:=p3.step w4;have oB4:=oB.keep w4.kp nb;simp only[ZG,↓reduceIte,ZA,ZB,ZC,mbl,ZD,ZE,ZF,oB4.cells.ld,e1,tx_toList,mk_toList,dn];refine XX_val (index_ok p4.ru (by omega) (ρ n)) ?_;simp only[ZG,↓reduceIte,ZA,ZB,ZC,hmem];refine XX_val (letter_ok (V.idxOf (ρ n)) (by have:=Zd (a:=ρ n) (l:=V);omega) h4) ?_;simp only[ZG,↓reduceIte,ZA,ZB,ZC];refine XX_of (p4.str (lett (V.idxOf (ρ n))) (by have:=lett_len (V.idxOf (ρ n)) (by have:=Zd (a:=ρ n) (l:=V);omega);simp only[Z2,Z1];omega)) (fun res h5 hle5 hn5=>?_);obtain ⟨rfl,v5,w5⟩:=hn5;refine .ret ?_;have p5:=p4.step w5;have hlt30:=lett_len (V.idxOf (ρ n)) (by have:=Zd (a:=ρ n) (l:=V);omega);simp only[ZG,↓reduceIte,ZA,ZB,ZC];refine XX_of (p5.str [] (by simp only[Z2,Z0,Z1];omega)) (fun res h9 hle9 hn9=>?_);obtain ⟨rfl,v9,w9⟩:=hn9;refine .ret ?_;simp only[ZG,↓reduceIte,ZA,ZB,ZC];exact hΨ _ _ (fin_norm ⟨rfl,v9,by have:=w03.trans ((w4.trans w5).trans w9);simpa [wrt] using this⟩)
   case neg =>
    simp only[ZG,↓reduceIte,ZA,ZB,ZC,mbl,ZD,ZE,ZF,oB.cells.ld,e1,tx_toList,mk_toList,da,show ((hold:Int)=2)=False by simp;omega];refine XX_of (p3.str [] (by simp only[Z0,Z1];omega)) (fun res h4 hle4 hn4=>?_);obtain ⟨rfl,v4,w4⟩:=hn4;refine .ret ?_;have p4:=p3.step w4;have oB4:=oB.keep w4.kp nb;simp only[ZG,↓reduceIte,ZA,ZB,ZC,mbl,ZD,ZE,ZF,oB4.cells.ld,e1,tx_toList,mk_toList,dn];refine XX_val (index_ok p4.ru (by omega) (ρ n)) ?_;simp only[ZG,↓reduceIte,ZA,ZB,ZC,hmem];refine XX_val (letter_ok (V.idxOf (ρ n)) (by have:=Zd (a:=ρ n) (l:=V);omega) h4) ?_;simp only[ZG,↓reduceIte,ZA,ZB,ZC];refine XX_of (p4.str (lett (V.idxOf (ρ n))) (by have:=lett_len (V.idxOf (ρ n)) (by have:=Zd (a:=ρ n) (l:=V);omega);simp only[Z2,Z1];omega)) (fun res h5 hle5 hn5=>?_);obtain ⟨rfl,v5,w5⟩:=hn5;refine .ret ?_;have p5:=p4.step w5;have hlt30:=lett_len (V.idxOf (ρ n)) (by have:=Zd (a:=ρ n) (l:=V);omega);simp only[ZG,↓reduceIte,ZA,ZB,ZC];refine XX_of (p5.str [] (by simp only[Z2,Z0,Z1];omega)) (fun res h9 hle9 hn9=>?_);obtain ⟨rfl,v9,w9⟩:=hn9;refine .ret ?_;simp only[ZG,↓reduceIte,ZA,ZB,ZC];exact hΨ _ _ (fin_norm ⟨rfl,v9,by have:=w03.trans ((w4.trans w5).trans w9);simpa [wrt] using this⟩)
 | @con n nm al ts hn hT h0 hl ha ih =>
   intro h acc v p hold hh hfv hb;refine Gets.of (keep:=false) hP (draw_ok hM) k26 (by rfl) (fun Ψ hΨ=>?_);obtain ⟨cs,s⟩:=p.th;obtain ⟨a0,x0⟩:=p.bd;rw[sz] at hb;simp only[ZG,↓reduceIte,ZA,ZB,ZC,r26,YE,YC,YO,YA,YL,YX,YS,Ya,Yb,Yl,Yf,Yg,Yi,Ym,Yk,Yt,Yn,Yz,Yp,Yq,Yd];refine XX_of (at_ok s hn) (fun res h1 hle1 hn1=>?_);obtain ⟨k1,cs1,c,s1,hc,rfl⟩:=hn1;refine .ret ?_;have oN:=Own.new h1 46 h1.length [.string ⟨#[]⟩,.slice none 0 0];have kN:Keep (fun _=>False) h1 (h1++[row 46 h1.length [.string ⟨#[]⟩,.slice none 0 0]]):=Keep.push _ _ _;simp only[ZG,↓reduceIte,ZA,ZB,ZC,mbl,ZD,ZE,ZF];generalize h1++[row 46 h1.length [.string ⟨#[]⟩,.slice none 0 0]]=h2 at oN kN ⊢;have hone:=s1.one hc;refine XH_own oN rfl (by simp [Value.cells]) (by show (true && (c.v.oneCell' && true))=true;rw[hone];rfl) (fun h3 q1 q2 q3=>?_);have oB:Own h3 h1.length 46 [tv c.nm,c.v]:=by simpa [Value.cells] using q1
   have kB:Keep (fun _=>False) h1 h3:=kN.trans' q2 (fun q hq e=>by omega);have s3:=s1.keepF kB;have zB:L.cls h1.length=0:=s1.c0 _ (Zk _);have k03:Keep (bk L.vc) h h3:=k1.trans (kB.mono (fun _ e=>e.elim));clear q1 q2 q3 kN oN;obtain ⟨e1,rA,zA⟩:=s3.tm _ c _ hc hT;simp only at e1 rA zA;have h8:al.length<=8:=(s.ok _ _ hT).2.2.2.2;have w03:=p.w0 k03 ⟨_,s3⟩;have p3:=p.step w03;have nb:¬ (bk L.vc h1.length\/h1.length=q\/bk v h1.length):=by
    rintro (e|e|e)
    ·have:=s.c3 _ e;omega
    ·have:=x0.own.lt;have:=k1.len;omega
    ·have:=x0.ow.lt _ e;have:=k1.len;omega
   have arg:∀ {h':AH},Keep (fun r=>bk L.vc r\/r=q\/bk v r) h3 h' -> ∀ i,(hi:i<al.length) -> ∃ b1 o1 c1,c.v = .slice (some ⟨b1,o1,none⟩) al.length c1/\ldc h' b1 (o1+i)=some (iv ((al[i]:Nat):Int)):=by
    intro h' k i hi;refine nn_at (rA.keep k (fun r e e2=>?_)) (Z3 hi);have:=zA r e
    rcases e2 with e2|e2|e2
    ·have:=s.c3 r e2;omega
    ·have:=p.zq;subst e2;omega
    ·have:=p.zv r e2;omega
   obtain ⟨va,vc,hva⟩:=row_shape rA;have dn:(nm == ([]:Bs))=false:=by simpa using h0
   obtain ⟨c0,r0,hnm⟩:∃ c0 r0,nm=c0::r0:=by
    cases nm with
    | nil=>exact absurd rfl h0
    | cons c0 r0=>exact ⟨c0,r0,rfl⟩
   have hx0:nm[Zh 0]?=some c0:=by rw[hnm];rfl
   have g00:((0:Int)<=0)=True:=by simp
   cases cA:(nm == ([40,41]:Bs)) with
   | true =>
     have eA:=eq_of_beq cA;have hc0:c0.toNat=40:=by rw[eA] at hnm;cases hnm;rfl
     have da:(nm == ([45,62]:Bs))=false:=by rw[eA];rfl
     have hbody:body nm (wrts V 0 ts) (wrts V 1 ts) (wrts V 2 ts)=[40,41]:=by unfold body;rw[if_pos eA]
     by_cases h2:hold=2
     case neg =>
      have hpar:par nm ts.length hold=false:=by unfold par arrow;rw[da];simp [h2]
      have hwrt:wrt V hold (.con nm ts)=[]++(body nm (wrts V 0 ts) (wrts V 1 ts) (wrts V 2 ts)++[]):=by rw[wrt,hpar];simp [wrap]
      simp only[ZG,↓reduceIte,ZA,ZB,ZC,mbl,ZD,ZE,ZF,oB.cells.ld,e1,tx_toList,mk_toList,da,show ((hold:Int)=2)=False by simp;omega];refine XX_of (p3.str [] (by simp only[Z0,Z1];omega)) (fun res h4 hle4 hn4=>?_);obtain ⟨rfl,v4,w4⟩:=hn4;refine .ret ?_;have p4:=p3.step w4;have oB4:=oB.keep w4.kp nb;simp only[ZG,↓reduceIte,ZA,ZB,ZC,mbl,ZD,ZE,ZF,oB4.cells.ld,e1,tx_toList,mk_toList,dn,cA];refine XX_of (p4.str [40,41] (by simp only[Z2,Z0,Z1];omega)) (fun res h5 hle5 hn5=>?_);obtain ⟨rfl,v5,w5⟩:=hn5;refine .ret ?_;have p5:=p4.step w5;simp only[ZG,↓reduceIte,ZA,ZB,ZC];refine XX_of (p5.str [] (by simp only[Z2,Z0,Z1];omega)) (fun res h9 hle9 hn9=>?_);obtain ⟨rfl,v9,w9⟩:=hn9;refine .ret ?_;simp only[ZG,↓reduceIte,ZA,ZB,ZC];exact hΨ _ _ (fin_norm ⟨rfl,v9,by have:=w03.trans ((w4.trans w5).trans w9);rw[hwrt,hbody];simpa [Z4] using this⟩)
     case pos =>
     by_cases hl0:0<al.length
     case neg =>
      have hpar:par nm ts.length hold=false:=by unfold par arrow;rw[da,hl];simp [hl0]
      have hwrt:wrt V hold (.con nm ts)=[]++(body nm (wrts V 0 ts) (wrts V 1 ts) (wrts V 2 ts)++[]):=by rw[wrt,hpar];simp [wrap]
      simp only[ZG,↓reduceIte,ZA,ZB,ZC,mbl,ZD,ZE,ZF,oB.cells.ld,e1,tx_toList,mk_toList,da,show ((hold:Int)=2)=True by simp;omega,hva,(eq_false (by omega):((0:Int)<(al.length:Int))=False)];refine XX_of (p3.str [] (by simp only[Z0,Z1];omega)) (fun res h4 hle4 hn4=>?_);obtain ⟨rfl,v4,w4⟩:=hn4;refine .ret ?_;have p4:=p3.step w4;have oB4:=oB.keep w4.kp nb;simp only[ZG,↓reduceIte,ZA,ZB,ZC,mbl,ZD,ZE,ZF,oB4.cells.ld,e1,tx_toList,mk_toList,dn,cA];refine XX_of (p4.str [40,41] (by simp only[Z2,Z0,Z1];omega)) (fun res h5 hle5 hn5=>?_);obtain ⟨rfl,v5,w5⟩:=hn5;refine .ret ?_;have p5:=p4.step w5;simp only[ZG,↓reduceIte,ZA,ZB,ZC];refine XX_of (p5.str [] (by simp only[Z2,Z0,Z1];omega)) (fun res h9 hle9 hn9=>?_);obtain ⟨rfl,v9,w9⟩:=hn9;refine .ret ?_;simp only[ZG,↓reduceIte,ZA,ZB,ZC];exact hΨ _ _ (fin_norm ⟨rfl,v9,by have:=w03.trans ((w4.trans w5).trans w9);rw[hwrt,hbody];simpa [Z4] using this⟩)
     case pos =>
      have hpar:par nm ts.length hold=false:=by unfold par arrow;rw[da,eA];simp [large]
      have hwrt:wrt V hold (.con nm ts)=[]++(body nm (wrts V 0 ts) (wrts V 1 ts) (wrts V 2 ts)++[]):=by rw[wrt,hpar];simp [wrap]
      simp only[ZG,↓reduceIte,ZA,ZB,ZC,mbl,ZD,ZE,ZF,oB.cells.ld,e1,tx_toList,mk_toList,da,show ((hold:Int)=2)=True by simp;omega,hva,(eq_true (by omega):((0:Int)<(al.length:Int))=True),tx_get,g00,hx0,(eq_false (by omega):((65:Int)<=(c0.toNat:Int))=False)];refine XX_of (p3.str [] (by simp only[Z0,Z1];omega)) (fun res h4 hle4 hn4=>?_);obtain ⟨rfl,v4,w4⟩:=hn4;refine .ret ?_;have p4:=p3.step w4;have oB4:=oB.keep w4.kp nb;simp only[ZG,↓reduceIte,ZA,ZB,ZC,mbl,ZD,ZE,ZF,oB4.cells.ld,e1,tx_toList,mk_toList,dn,cA];refine XX_of (p4.str [40,41] (by simp only[Z2,Z0,Z1];omega)) (fun res h5 hle5 hn5=>?_);obtain ⟨rfl,v5,w5⟩:=hn5;refine .ret ?_;have p5:=p4.step w5;simp only[ZG,↓reduceIte,ZA,ZB,ZC];refine XX_of (p5.str [] (by simp only[Z2,Z0,Z1];omega)) (fun res h9 hle9 hn9=>?_);obtain ⟨rfl,v9,w9⟩:=hn9;refine .ret ?_;simp only[ZG,↓reduceIte,ZA,ZB,ZC];exact hΨ _ _ (fin_norm ⟨rfl,v9,by have:=w03.trans ((w4.trans w5).trans w9);rw[hwrt,hbody];simpa [Z4] using this⟩)
   | false =>
   have nA:nm≠[40,41]:=by simpa using cA
   cases cB:(nm == ([91,93]:Bs)) with
   | true =>
     have eB:=eq_of_beq cB;have hc0:c0.toNat=91:=by rw[eB] at hnm;cases hnm;rfl
     have da:(nm == ([45,62]:Bs))=false:=by rw[eB];rfl
     have hal:al.length=1:=(s.ok _ _ hT).2.1 eB;have d01:((0:Int)<(al.length:Int))=True:=eq_true (by omega);have hg:=szs_ge (show 0<ts.length by omega);have hwl:=wr_len s.ok hV (ha 0 _ _ (Z3 (show 0<al.length by omega)) (Z3 (show 0<ts.length by omega))) 0;have hbody:body nm (wrts V 0 ts) (wrts V 1 ts) (wrts V 2 ts)=(91::(wrt V 0 ts[0]++([93]:Bs)):Bs):=by unfold body;rw[if_neg nA,if_pos eB,head_wrts (by omega)]
     by_cases h2:hold=2
     case neg =>
      have hpar:par nm ts.length hold=false:=by unfold par arrow;rw[da];simp [h2]
      have hwrt:wrt V hold (.con nm ts)=[]++(body nm (wrts V 0 ts) (wrts V 1 ts) (wrts V 2 ts)++[]):=by rw[wrt,hpar];simp [wrap]
      simp only[ZG,↓reduceIte,ZA,ZB,ZC,mbl,ZD,ZE,ZF,oB.cells.ld,e1,tx_toList,mk_toList,da,show ((hold:Int)=2)=False by simp;omega];refine XX_of (p3.str [] (by simp only[Z0,Z1];omega)) (fun res h4 hle4 hn4=>?_);obtain ⟨rfl,v4,w4⟩:=hn4;refine .ret ?_;have p4:=p3.step w4;have oB4:=oB.keep w4.kp nb;simp only[ZG,↓reduceIte,ZA,ZB,ZC,mbl,ZD,ZE,ZF,oB4.cells.ld,e1,tx_toList,mk_toList,dn,cA,cB];refine XX_of (p4.byte 91 (by simp only[Z2,Z0,Z1];omega)) (fun res h5 hle5 hn5=>?_);obtain ⟨rfl,v5,w5⟩:=hn5;refine .ret ?_;have w45:=w4.trans w5;obtain ⟨b1,o1,c1,ev,l1⟩:=arg w45.kp 0 (by omega);rw[Zf] at l1;simp only[ZG,↓reduceIte,ZA,ZB,ZC,mbl,ZD,ZE,ZF,(oB.keep w45.kp nb).cells.ld,ev,g00,d01,and_self,Za,Zi,Zf,l1];refine XX_of (ih 0 _ _ (Z3 (by omega)) (Z3 (by omega)) (p3.step w45) 0 (by omega) (fun m hm=>hfv m (by rw[Typ.fv];exact mem_fvs.2 ⟨_,Z5 (show 0<ts.length by omega),hm⟩)) (by simp only[Z2,Z0,Z1];omega)) (fun res h6 hle6 hn6=>?_);obtain ⟨rfl,v6,w6⟩:=hn6;refine .ret ?_;have w46:=w45.trans w6;simp only[ZG,↓reduceIte,ZA,ZB,ZC];refine XX_of ((p3.step w46).byte 93 (by simp only[Z2,Z0,Z1];omega)) (fun res h7 hle7 hn7=>?_);obtain ⟨rfl,v7,w7⟩:=hn7;refine .ret ?_;have w47:=w46.trans w7;have p7:=p3.step w47;simp only[ZG,↓reduceIte,ZA,ZB,ZC];refine XX_of (p7.str [] (by simp only[Z2,Z0,Z1];omega)) (fun res h9 hle9 hn9=>?_);obtain ⟨rfl,v9,w9⟩:=hn9;refine .ret ?_;simp only[ZG,↓reduceIte,ZA,ZB,ZC];exact hΨ _ _ (fin_norm ⟨rfl,v9,by have:=w03.trans (w47.trans w9);rw[hwrt,hbody];simpa [Z4] using this⟩)
     case pos =>
      have hpar:par nm ts.length hold=false:=by unfold par arrow;rw[da,eB];simp [large]
      have hwrt:wrt V hold (.con nm ts)=[]++(body nm (wrts V 0 ts) (wrts V 1 ts) (wrts V 2 ts)++[]):=by rw[wrt,hpar];simp [wrap]
      simp only[ZG,↓reduceIte,ZA,ZB,ZC,mbl,ZD,ZE,ZF,oB.cells.ld,e1,tx_toList,mk_toList,da,show ((hold:Int)=2)=True by simp;omega,hva,d01,tx_get,g00,hx0,(eq_true (by omega):((65:Int)<=(c0.toNat:Int))=True),(eq_false (by omega):((c0.toNat:Int)<=90)=False)];refine XX_of (p3.str [] (by simp only[Z0,Z1];omega)) (fun res h4 hle4 hn4=>?_);obtain ⟨rfl,v4,w4⟩:=hn4;refine .ret ?_;have p4:=p3.step w4;have oB4:=oB.keep w4.kp nb;simp only[ZG,↓reduceIte,ZA,ZB,ZC,mbl,ZD,ZE,ZF,oB4.cells.ld,e1,tx_toList,mk_toList,dn,cA,cB];refine XX_of (p4.byte 91 (by simp only[Z2,Z0,Z1];omega)) (fun res h5 hle5 hn5=>?_);obtain ⟨rfl,v5,w5⟩:=hn5;refine .ret ?_;have w45:=w4.trans w5;obtain ⟨b1,o1,c1,ev,l1⟩:=arg w45.kp 0 (by omega);rw[Zf] at l1;simp only[ZG,↓reduceIte,ZA,ZB,ZC,mbl,ZD,ZE,ZF,(oB.keep w45.kp nb).cells.ld,ev,g00,d01,and_self,Za,Zi,Zf,l1];refine XX_of (ih 0 _ _ (Z3 (by omega)) (Z3 (by omega)) (p3.step w45) 0 (by omega) (fun m hm=>hfv m (by rw[Typ.fv];exact mem_fvs.2 ⟨_,Z5 (show 0<ts.length by omega),hm⟩)) (by simp only[Z2,Z0,Z1];omega)) (fun res h6 hle6 hn6=>?_);obtain ⟨rfl,v6,w6⟩:=hn6;refine .ret ?_;have w46:=w45.trans w6;simp only[ZG,↓reduceIte,ZA,ZB,ZC];refine XX_of ((p3.step w46).byte 93 (by simp only[Z2,Z0,Z1];omega)) (fun res h7 hle7 hn7=>?_);obtain ⟨rfl,v7,w7⟩:=hn7;refine .ret ?_;have w47:=w46.trans w7;have p7:=p3.step w47;simp only[ZG,↓reduceIte,ZA,ZB,ZC];refine XX_of (p7.str [] (by simp only[Z2,Z0,Z1];omega)) (fun res h9 hle9 hn9=>?_);obtain ⟨rfl,v9,w9⟩:=hn9;refine .ret ?_;simp only[ZG,↓reduceIte,ZA,ZB,ZC];exact hΨ _ _ (fin_norm ⟨rfl,v9,by have:=w03.trans (w47.trans w9);rw[hwrt,hbody];simpa [Z4] using this⟩)
   | false =>
   have nB:nm≠[91,93]:=by simpa using cB
   cases cC:(nm == ([45,62]:Bs)) with
   | true =>
     have eC:=eq_of_beq cC;have hal:al.length=2:=(s.ok _ _ hT).2.2.1 eC;have d01:((0:Int)<(al.length:Int))=True:=eq_true (by omega);have d11:((1:Int)<(al.length:Int))=True:=eq_true (by omega);have g01:((0:Int)<=1)=True:=by simp
     have hg:=szs_two (show 1<ts.length by omega);have hwl:=wr_len s.ok hV (ha 0 _ _ (Z3 (show 0<al.length by omega)) (Z3 (show 0<ts.length by omega))) 1;have hwl1:=wr_len s.ok hV (ha 1 _ _ (Z3 (show 1<al.length by omega)) (Z3 (show 1<ts.length by omega))) 0;have hbody:body nm (wrts V 0 ts) (wrts V 1 ts) (wrts V 2 ts)=wrt V 1 ts[0]++(([32,45,62,32]:Bs)++wrt V 0 ts[1]):=by unfold body arrow;rw[if_neg nA,if_neg nB,if_pos eC,head_wrts (by omega),snd_wrts (by omega)]
     by_cases h2:hold=0
     case neg =>
      have hpar:par nm ts.length hold=true:=by unfold par arrow;rw[cC];simp [h2]
      have hwrt:wrt V hold (.con nm ts)=[40]++(body nm (wrts V 0 ts) (wrts V 1 ts) (wrts V 2 ts)++[41]):=by rw[wrt,hpar];simp [wrap]
      simp only[ZG,↓reduceIte,ZA,ZB,ZC,mbl,ZD,ZE,ZF,oB.cells.ld,e1,tx_toList,mk_toList,cC,show ((hold:Int)=0)=False by simp;omega];refine XX_of (p3.str [40] (by simp only[Z0,Z1];omega)) (fun res h4 hle4 hn4=>?_);obtain ⟨rfl,v4,w4⟩:=hn4;refine .ret ?_;have p4:=p3.step w4;have oB4:=oB.keep w4.kp nb;simp only[ZG,↓reduceIte,ZA,ZB,ZC,mbl,ZD,ZE,ZF,oB4.cells.ld,e1,tx_toList,mk_toList,dn,cA,cB,cC];obtain ⟨b1,o1,c1,ev,l1⟩:=arg w4.kp 0 (by omega);rw[Zf] at l1;simp only[ZG,↓reduceIte,ZA,ZB,ZC,mbl,ZD,ZE,ZF,oB4.cells.ld,ev,g00,d01,and_self,Za,Zi,Zf,l1];refine XX_of (ih 0 _ _ (Z3 (by omega)) (Z3 (by omega)) p4 1 (by omega) (fun m hm=>hfv m (by rw[Typ.fv];exact mem_fvs.2 ⟨_,Z5 (show 0<ts.length by omega),hm⟩)) (by simp only[Z2,Z0,Z1];omega)) (fun res h5 hle5 hn5=>?_);obtain ⟨rfl,v5,w5⟩:=hn5;refine .ret ?_;have w45:=w4.trans w5;simp only[ZG,↓reduceIte,ZA,ZB,ZC];refine XX_of ((p3.step w45).str [32,45,62,32] (by simp only[Z2,Z0,Z1];omega)) (fun res h6 hle6 hn6=>?_);obtain ⟨rfl,v6,w6⟩:=hn6;refine .ret ?_;have w46:=w45.trans w6;obtain ⟨b2,o2,c2,ev2,l2⟩:=arg w46.kp 1 (by omega);rw[ev] at ev2;cases ev2;simp only[ZG,↓reduceIte,ZA,ZB,ZC,mbl,ZD,ZE,ZF,(oB.keep w46.kp nb).cells.ld,ev,g01,d11,and_self,show Zh 1=1 from rfl,Nat.one_mul,l2];refine XX_of (ih 1 _ _ (Z3 (by omega)) (Z3 (by omega)) (p3.step w46) 0 (by omega) (fun m hm=>hfv m (by rw[Typ.fv];exact mem_fvs.2 ⟨_,Z5 (show 1<ts.length by omega),hm⟩)) (by simp only[Z2,Z0,Z1];omega)) (fun res h7 hle7 hn7=>?_);obtain ⟨rfl,v7,w7⟩:=hn7;refine .ret ?_;have w47:=w46.trans w7;have p7:=p3.step w47;simp only[ZG,↓reduceIte,ZA,ZB,ZC];refine XX_of (p7.str [41] (by simp only[Z2,Z0,Z1];omega)) (fun res h9 hle9 hn9=>?_);obtain ⟨rfl,v9,w9⟩:=hn9;refine .ret ?_;simp only[ZG,↓reduceIte,ZA,ZB,ZC];exact hΨ _ _ (fin_norm ⟨rfl,v9,by have:=w03.trans (w47.trans w9);rw[hwrt,hbody];simpa [Z4] using this⟩)
     case pos =>
      have hpar:par nm ts.length hold=false:=by unfold par arrow;rw[cC];simp [h2]
      have hwrt:wrt V hold (.con nm ts)=[]++(body nm (wrts V 0 ts) (wrts V 1 ts) (wrts V 2 ts)++[]):=by rw[wrt,hpar];simp [wrap]
      simp only[ZG,↓reduceIte,ZA,ZB,ZC,mbl,ZD,ZE,ZF,oB.cells.ld,e1,tx_toList,mk_toList,cC,show ((hold:Int)=0)=True by simp;omega,show ((hold:Int)=2)=False by simp;omega];refine XX_of (p3.str [] (by simp only[Z0,Z1];omega)) (fun res h4 hle4 hn4=>?_);obtain ⟨rfl,v4,w4⟩:=hn4;refine .ret ?_;have p4:=p3.step w4;have oB4:=oB.keep w4.kp nb;simp only[ZG,↓reduceIte,ZA,ZB,ZC,mbl,ZD,ZE,ZF,oB4.cells.ld,e1,tx_toList,mk_toList,dn,cA,cB,cC];obtain ⟨b1,o1,c1,ev,l1⟩:=arg w4.kp 0 (by omega);rw[Zf] at l1;simp only[ZG,↓reduceIte,ZA,ZB,ZC,mbl,ZD,ZE,ZF,oB4.cells.ld,ev,g00,d01,and_self,Za,Zi,Zf,l1];refine XX_of (ih 0 _ _ (Z3 (by omega)) (Z3 (by omega)) p4 1 (by omega) (fun m hm=>hfv m (by rw[Typ.fv];exact mem_fvs.2 ⟨_,Z5 (show 0<ts.length by omega),hm⟩)) (by simp only[Z2,Z0,Z1];omega)) (fun res h5 hle5 hn5=>?_);obtain ⟨rfl,v5,w5⟩:=hn5;refine .ret ?_;have w45:=w4.trans w5;simp only[ZG,↓reduceIte,ZA,ZB,ZC];refine XX_of ((p3.step w45).str [32,45,62,32] (by simp only[Z2,Z0,Z1];omega)) (fun res h6 hle6 hn6=>?_);obtain ⟨rfl,v6,w6⟩:=hn6;refine .ret ?_;have w46:=w45.trans w6;obtain ⟨b2,o2,c2,ev2,l2⟩:=arg w46.kp 1 (by omega);rw[ev] at ev2;cases ev2;simp only[ZG,↓reduceIte,ZA,ZB,ZC,mbl,ZD,ZE,ZF,(oB.keep w46.kp nb).cells.ld,ev,g01,d11,and_self,show Zh 1=1 from rfl,Nat.one_mul,l2];refine XX_of (ih 1 _ _ (Z3 (by omega)) (Z3 (by omega)) (p3.step w46) 0 (by omega) (fun m hm=>hfv m (by rw[Typ.fv];exact mem_fvs.2 ⟨_,Z5 (show 1<ts.length by omega),hm⟩)) (by simp only[Z2,Z0,Z1];omega)) (fun res h7 hle7 hn7=>?_);obtain ⟨rfl,v7,w7⟩:=hn7;refine .ret ?_;have w47:=w46.trans w7;have p7:=p3.step w47;simp only[ZG,↓reduceIte,ZA,ZB,ZC];refine XX_of (p7.str [] (by simp only[Z2,Z0,Z1];omega)) (fun res h9 hle9 hn9=>?_);obtain ⟨rfl,v9,w9⟩:=hn9;refine .ret ?_;simp only[ZG,↓reduceIte,ZA,ZB,ZC];exact hΨ _ _ (fin_norm ⟨rfl,v9,by have:=w03.trans (w47.trans w9);rw[hwrt,hbody];simpa [Z4] using this⟩)
   | false =>
   have nC:nm≠[45,62]:=by simpa using cC
   have hwa:∀ t∈ts,∀ k,(wrt V k t).length+100<=200*sz t:=by
    intro t hm k;obtain ⟨i,hi⟩:=List.getElem?_of_mem hm;have:=(List.getElem?_eq_some_iff.1 hi).1;exact wr_len s.ok hV (ha i _ t (Z3 (by omega)) hi) k
   by_cases hD:c0.toNat=40
   case pos =>
    have eD:nm.head?=some 40:=by rw[hnm];simp;exact UInt8.toNat_inj.1 hD
    have hbody:body nm (wrts V 0 ts) (wrts V 1 ts) (wrts V 2 ts)=tupT 0 (wrts V 0 ts)++[41]:=by unfold body arrow;rw[if_neg nA,if_neg nB,if_neg nC,if_pos eD]
    by_cases h2:hold=2
    case neg =>
     have hpar:par nm ts.length hold=false:=by unfold par arrow;rw[cC];simp [h2]
     have hwrt:wrt V hold (.con nm ts)=[]++(body nm (wrts V 0 ts) (wrts V 1 ts) (wrts V 2 ts)++[]):=by rw[wrt,hpar];simp [wrap]
     simp only[ZG,↓reduceIte,ZA,ZB,ZC,mbl,ZD,ZE,ZF,oB.cells.ld,e1,tx_toList,mk_toList,cC,show ((hold:Int)=2)=False by simp;omega];refine XX_of (p3.str [] (by simp only[Z0,Z1];omega)) (fun res h4 hle4 hn4=>?_);obtain ⟨rfl,v4,w4⟩:=hn4;refine .ret ?_;have p4:=p3.step w4;have oB4:=oB.keep w4.kp nb;simp only[ZG,↓reduceIte,ZA,ZB,ZC,mbl,ZD,ZE,ZF,oB4.cells.ld,e1,tx_toList,mk_toList,dn,cA,cB,cC,tx_get,g00,hx0,(eq_true (by omega):((c0.toNat:Int)=40)=True),hva];rw[<- hva];refine XLo_rule (α:=Nat × Value) (fun a=>[(0,.pointer (some ⟨b,0,none⟩)),(1,.pointer (some ⟨q,0,none⟩)),(3,u),(12,tv []),(134,c.v),(135,iv (al.length:Int)),(136,iv (a.1:Int))])
      (fun a h'=>a.1<=al.length/\WT h3 q v b L T ρ sp (acc++[]++tupT 0 (wrts V 0 (ts.take a.1))) h' a.2) (fun a=>al.length-a.1) (0,v4)
      ⟨Zg _,by simpa [wrts,tupT] using w4⟩ ⟨rfl,rfl,rfl,rfl,rfl,rfl,rfl,trivial⟩ ?_
     rintro ⟨i,vi⟩ h5 Ψ2 ⟨hi,w5⟩ next out
     simp only at hi w5;have hlen:=tupT_len (wrts V 0 (ts.take i)) 0;have hsum:=wrts_sum (V:=V) (k:=0) (ts.take i) (fun t hm=>hwa t (Z8 hm) 0);have hle:=szs_le ts i
     by_cases hil:i<al.length
     case neg =>
      have hie:i=ts.length:=by omega
      simp only[ZG,↓reduceIte,ZA,ZB,ZC,(eq_false (by omega):((i:Int)<(al.length:Int))=False)];refine out (.exit 3) _ _ _ _ (by intro e;cases e) ?_;simp only[ZG,↓reduceIte,ZA,ZB,ZC];subst hie;rw[Zc] at w5 hlen hsum;refine XX_of ((p3.step w5).byte 41 (by simp only[Z2,Z0,Z1];omega)) (fun res h6 hle6 hn6=>?_);obtain ⟨rfl,v6,w6⟩:=hn6;refine .ret ?_;have w46:=w5.trans w6;have p7:=p3.step w46;simp only[ZG,↓reduceIte,ZA,ZB,ZC];refine XX_of (p7.str [] (by simp only[Z2,Z0,Z1];omega)) (fun res h9 hle9 hn9=>?_);obtain ⟨rfl,v9,w9⟩:=hn9;refine .ret ?_;simp only[ZG,↓reduceIte,ZA,ZB,ZC];exact hΨ _ _ (fin_norm ⟨rfl,v9,by have:=w03.trans (w46.trans w9);rw[hwrt,hbody];simpa [Z4] using this⟩)
     case pos =>
      have hx:al[i]?=some al[i]:=Z3 hil;have hy:ts[i]?=some ts[i]:=Z3 (by omega);have hw:IntKind.i64.wrap ((i:Int)+1)=i+1:=i64w (by omega) (by omega);have d0:(0<=(i:Int))=True:=by simp
      obtain ⟨b1,o1,c1,ev,l1⟩:=arg w5.kp i hil;simp only[ZG,↓reduceIte,ZA,ZB,ZC,(eq_true (by omega):((i:Int)<(al.length:Int))=True),ev,d0,and_self,Zb,Z9,mbl,ZD,ZE,ZF,l1];have oS:=Own.new h5 9 h5.length [.string ⟨#[40]⟩,.string ⟨#[44,32]⟩];have kS:Keep (fun _=>False) h5 (h5++[row 9 h5.length [.string ⟨#[40]⟩,.string ⟨#[44,32]⟩]]):=Keep.push _ _ _;rw[rd_min rfl rfl];generalize h5++[row 9 h5.length [.string ⟨#[40]⟩,.string ⟨#[44,32]⟩]]=h6 at oS kS ⊢;have w6:=w5.keepF kS;have htk:=tupT_take (k:=0) (wrts_at (V:=V) (k:=0) hy);rw[<- wrts_take,<- wrts_take,Ze] at htk;have hge:szs (ts.take i)+sz ts[i]<=szs ts:=by rw[<- szs_take hy];exact szs_le _ _
      by_cases i0:i=0
      case pos =>
       have hm:min (i:Int) 1=0:=by rw[i0];rfl
       rw[if_pos i0] at htk;simp only[ZG,↓reduceIte,ZA,ZB,ZC,hm,mbl,ZD,ZE,ZF,oS.cells.ld,g00,show ((0:Int)<((2:Nat):Int))=True by simp,show ((0:Int)<=1)=True by simp,show ((1:Int)<((2:Nat):Int))=True by simp,and_self,Za,show Zh 1=1 from rfl,Ze,Z9];refine XX_of ((p3.step w6).str [40] (by simp only[Z2,Z0,Z1];omega)) (fun res h7 hle7 hn7=>?_);obtain ⟨rfl,v7,w7⟩:=hn7;refine .ret ?_;have w37:=w6.trans w7;simp only[ZG,↓reduceIte,ZA,ZB,ZC];refine XX_of (ih i _ _ hx hy (p3.step w37) 0 (by omega) (fun m hm=>hfv m (by rw[Typ.fv];exact mem_fvs.2 ⟨_,Z5 _,hm⟩)) (by simp only[Z2,Z0,Z1];omega)) (fun res h8 hle8 hn8=>?_);obtain ⟨rfl,v8,w8⟩:=hn8;refine .ret ?_;simp only[ZG,↓reduceIte,ZA,ZB,ZC,hw];exact next (i+1,v8) _ _ h8 ⟨by simp only;omega,by have:=w37.trans w8;simp only;rw[htk];simpa [Z4] using this⟩ ⟨rfl,rfl,rfl,rfl,by rw[ev];rfl,rfl,by simp only[Z7,Z6];rfl,trivial⟩ (by simp only;omega)
      case neg =>
       have hm:min (i:Int) 1=1:=Zj (by omega);rw[if_neg i0] at htk;simp only[ZG,↓reduceIte,ZA,ZB,ZC,hm,mbl,ZD,ZE,ZF,oS.cells.ld,g00,show ((0:Int)<((2:Nat):Int))=True by simp,show ((0:Int)<=1)=True by simp,show ((1:Int)<((2:Nat):Int))=True by simp,and_self,Za,show Zh 1=1 from rfl,Ze,Z9];refine XX_of ((p3.step w6).str [44,32] (by simp only[Z2,Z0,Z1];omega)) (fun res h7 hle7 hn7=>?_);obtain ⟨rfl,v7,w7⟩:=hn7;refine .ret ?_;have w37:=w6.trans w7;simp only[ZG,↓reduceIte,ZA,ZB,ZC];refine XX_of (ih i _ _ hx hy (p3.step w37) 0 (by omega) (fun m hm=>hfv m (by rw[Typ.fv];exact mem_fvs.2 ⟨_,Z5 _,hm⟩)) (by simp only[Z2,Z0,Z1];omega)) (fun res h8 hle8 hn8=>?_);obtain ⟨rfl,v8,w8⟩:=hn8;refine .ret ?_;simp only[ZG,↓reduceIte,ZA,ZB,ZC,hw];exact next (i+1,v8) _ _ h8 ⟨by simp only;omega,by have:=w37.trans w8;simp only;rw[htk];simpa [Z4] using this⟩ ⟨rfl,rfl,rfl,rfl,by rw[ev];rfl,rfl,by simp only[Z7,Z6];rfl,trivial⟩ (by simp only;omega)
    case pos =>
    by_cases hl0:0<al.length
    case neg =>
     have hpar:par nm ts.length hold=false:=by unfold par arrow;rw[cC,hl];simp [hl0]
     have hwrt:wrt V hold (.con nm ts)=[]++(body nm (wrts V 0 ts) (wrts V 1 ts) (wrts V 2 ts)++[]):=by rw[wrt,hpar];simp [wrap]
     simp only[ZG,↓reduceIte,ZA,ZB,ZC,mbl,ZD,ZE,ZF,oB.cells.ld,e1,tx_toList,mk_toList,cC,show ((hold:Int)=2)=True by simp;omega,hva,(eq_false (by omega):((0:Int)<(al.length:Int))=False)];refine XX_of (p3.str [] (by simp only[Z0,Z1];omega)) (fun res h4 hle4 hn4=>?_);obtain ⟨rfl,v4,w4⟩:=hn4;refine .ret ?_;have p4:=p3.step w4;have oB4:=oB.keep w4.kp nb;simp only[ZG,↓reduceIte,ZA,ZB,ZC,mbl,ZD,ZE,ZF,oB4.cells.ld,e1,tx_toList,mk_toList,dn,cA,cB,cC,tx_get,g00,hx0,(eq_true (by omega):((c0.toNat:Int)=40)=True),hva];rw[<- hva];refine XLo_rule (α:=Nat × Value) (fun a=>[(0,.pointer (some ⟨b,0,none⟩)),(1,.pointer (some ⟨q,0,none⟩)),(3,u),(12,tv []),(134,c.v),(135,iv (al.length:Int)),(136,iv (a.1:Int))])
      (fun a h'=>a.1<=al.length/\WT h3 q v b L T ρ sp (acc++[]++tupT 0 (wrts V 0 (ts.take a.1))) h' a.2) (fun a=>al.length-a.1) (0,v4)
      ⟨Zg _,by simpa [wrts,tupT] using w4⟩ ⟨rfl,rfl,rfl,rfl,rfl,rfl,rfl,trivial⟩ ?_
     rintro ⟨i,vi⟩ h5 Ψ2 ⟨hi,w5⟩ next out
     simp only at hi w5;have hlen:=tupT_len (wrts V 0 (ts.take i)) 0;have hsum:=wrts_sum (V:=V) (k:=0) (ts.take i) (fun t hm=>hwa t (Z8 hm) 0);have hle:=szs_le ts i
     by_cases hil:i<al.length
     case neg =>
      have hie:i=ts.length:=by omega
      simp only[ZG,↓reduceIte,ZA,ZB,ZC,(eq_false (by omega):((i:Int)<(al.length:Int))=False)];refine out (.exit 3) _ _ _ _ (by intro e;cases e) ?_;simp only[ZG,↓reduceIte,ZA,ZB,ZC];subst hie;rw[Zc] at w5 hlen hsum;refine XX_of ((p3.step w5).byte 41 (by simp only[Z2,Z0,Z1];omega)) (fun res h6 hle6 hn6=>?_);obtain ⟨rfl,v6,w6⟩:=hn6;refine .ret ?_;have w46:=w5.trans w6;have p7:=p3.step w46;simp only[ZG,↓reduceIte,ZA,ZB,ZC];refine XX_of (p7.str [] (by simp only[Z2,Z0,Z1];omega)) (fun res h9 hle9 hn9=>?_);obtain ⟨rfl,v9,w9⟩:=hn9;refine .ret ?_;simp only[ZG,↓reduceIte,ZA,ZB,ZC];exact hΨ _ _ (fin_norm ⟨rfl,v9,by have:=w03.trans (w46.trans w9);rw[hwrt,hbody];simpa [Z4] using this⟩)
     case pos =>
      have hx:al[i]?=some al[i]:=Z3 hil;have hy:ts[i]?=some ts[i]:=Z3 (by omega);have hw:IntKind.i64.wrap ((i:Int)+1)=i+1:=i64w (by omega) (by omega);have d0:(0<=(i:Int))=True:=by simp
      obtain ⟨b1,o1,c1,ev,l1⟩:=arg w5.kp i hil;simp only[ZG,↓reduceIte,ZA,ZB,ZC,(eq_true (by omega):((i:Int)<(al.length:Int))=True),ev,d0,and_self,Zb,Z9,mbl,ZD,ZE,ZF,l1];have oS:=Own.new h5 9 h5.length [.string ⟨#[40]⟩,.string ⟨#[44,32]⟩];have kS:Keep (fun _=>False) h5 (h5++[row 9 h5.length [.string ⟨#[40]⟩,.string ⟨#[44,32]⟩]]):=Keep.push _ _ _;rw[rd_min rfl rfl];generalize h5++[row 9 h5.length [.string ⟨#[40]⟩,.string ⟨#[44,32]⟩]]=h6 at oS kS ⊢;have w6:=w5.keepF kS;have htk:=tupT_take (k:=0) (wrts_at (V:=V) (k:=0) hy);rw[<- wrts_take,<- wrts_take,Ze] at htk;have hge:szs (ts.take i)+sz ts[i]<=szs ts:=by rw[<- szs_take hy];exact szs_le _ _
      by_cases i0:i=0
      case pos =>
       have hm:min (i:Int) 1=0:=by rw[i0];rfl
       rw[if_pos i0] at htk;simp only[ZG,↓reduceIte,ZA,ZB,ZC,hm,mbl,ZD,ZE,ZF,oS.cells.ld,g00,show ((0:Int)<((2:Nat):Int))=True by simp,show ((0:Int)<=1)=True by simp,show ((1:Int)<((2:Nat):Int))=True by simp,and_self,Za,show Zh 1=1 from rfl,Ze,Z9];refine XX_of ((p3.step w6).str [40] (by simp only[Z2,Z0,Z1];omega)) (fun res h7 hle7 hn7=>?_);obtain ⟨rfl,v7,w7⟩:=hn7;refine .ret ?_;have w37:=w6.trans w7;simp only[ZG,↓reduceIte,ZA,ZB,ZC];refine XX_of (ih i _ _ hx hy (p3.step w37) 0 (by omega) (fun m hm=>hfv m (by rw[Typ.fv];exact mem_fvs.2 ⟨_,Z5 _,hm⟩)) (by simp only[Z2,Z0,Z1];omega)) (fun res h8 hle8 hn8=>?_);obtain ⟨rfl,v8,w8⟩:=hn8;refine .ret ?_;simp only[ZG,↓reduceIte,ZA,ZB,ZC,hw];exact next (i+1,v8) _ _ h8 ⟨by simp only;omega,by have:=w37.trans w8;simp only;rw[htk];simpa [Z4] using this⟩ ⟨rfl,rfl,rfl,rfl,by rw[ev];rfl,rfl,by simp only[Z7,Z6];rfl,trivial⟩ (by simp only;omega)
      case neg =>
       have hm:min (i:Int) 1=1:=Zj (by omega);rw[if_neg i0] at htk;simp only[ZG,↓reduceIte,ZA,ZB,ZC,hm,mbl,ZD,ZE,ZF,oS.cells.ld,g00,show ((0:Int)<((2:Nat):Int))=True by simp,show ((0:Int)<=1)=True by simp,show ((1:Int)<((2:Nat):Int))=True by simp,and_self,Za,show Zh 1=1 from rfl,Ze,Z9];refine XX_of ((p3.step w6).str [44,32] (by simp only[Z2,Z0,Z1];omega)) (fun res h7 hle7 hn7=>?_);obtain ⟨rfl,v7,w7⟩:=hn7;refine .ret ?_;have w37:=w6.trans w7;simp only[ZG,↓reduceIte,ZA,ZB,ZC];refine XX_of (ih i _ _ hx hy (p3.step w37) 0 (by omega) (fun m hm=>hfv m (by rw[Typ.fv];exact mem_fvs.2 ⟨_,Z5 _,hm⟩)) (by simp only[Z2,Z0,Z1];omega)) (fun res h8 hle8 hn8=>?_);obtain ⟨rfl,v8,w8⟩:=hn8;refine .ret ?_;simp only[ZG,↓reduceIte,ZA,ZB,ZC,hw];exact next (i+1,v8) _ _ h8 ⟨by simp only;omega,by have:=w37.trans w8;simp only;rw[htk];simpa [Z4] using this⟩ ⟨rfl,rfl,rfl,rfl,by rw[ev];rfl,rfl,by simp only[Z7,Z6];rfl,trivial⟩ (by simp only;omega)
    case pos =>
     have hpar:par nm ts.length hold=false:=by unfold par arrow;rw[cC,hnm];simp [large,hD]
     have hwrt:wrt V hold (.con nm ts)=[]++(body nm (wrts V 0 ts) (wrts V 1 ts) (wrts V 2 ts)++[]):=by rw[wrt,hpar];simp [wrap]
     simp only[ZG,↓reduceIte,ZA,ZB,ZC,mbl,ZD,ZE,ZF,oB.cells.ld,e1,tx_toList,mk_toList,cC,show ((hold:Int)=2)=True by simp;omega,hva,(eq_true (by omega):((0:Int)<(al.length:Int))=True),tx_get,g00,hx0,(eq_false (by omega):((65:Int)<=(c0.toNat:Int))=False)];refine XX_of (p3.str [] (by simp only[Z0,Z1];omega)) (fun res h4 hle4 hn4=>?_);obtain ⟨rfl,v4,w4⟩:=hn4;refine .ret ?_;have p4:=p3.step w4;have oB4:=oB.keep w4.kp nb;simp only[ZG,↓reduceIte,ZA,ZB,ZC,mbl,ZD,ZE,ZF,oB4.cells.ld,e1,tx_toList,mk_toList,dn,cA,cB,cC,tx_get,g00,hx0,(eq_true (by omega):((c0.toNat:Int)=40)=True),hva];rw[<- hva];refine XLo_rule (α:=Nat × Value) (fun a=>[(0,.pointer (some ⟨b,0,none⟩)),(1,.pointer (some ⟨q,0,none⟩)),(3,u),(12,tv []),(134,c.v),(135,iv (al.length:Int)),(136,iv (a.1:Int))])
      (fun a h'=>a.1<=al.length/\WT h3 q v b L T ρ sp (acc++[]++tupT 0 (wrts V 0 (ts.take a.1))) h' a.2) (fun a=>al.length-a.1) (0,v4)
      ⟨Zg _,by simpa [wrts,tupT] using w4⟩ ⟨rfl,rfl,rfl,rfl,rfl,rfl,rfl,trivial⟩ ?_
     rintro ⟨i,vi⟩ h5 Ψ2 ⟨hi,w5⟩ next out
     simp only at hi w5;have hlen:=tupT_len (wrts V 0 (ts.take i)) 0;have hsum:=wrts_sum (V:=V) (k:=0) (ts.take i) (fun t hm=>hwa t (Z8 hm) 0);have hle:=szs_le ts i
     by_cases hil:i<al.length
     case neg =>
      have hie:i=ts.length:=by omega
      simp only[ZG,↓reduceIte,ZA,ZB,ZC,(eq_false (by omega):((i:Int)<(al.length:Int))=False)];refine out (.exit 3) _ _ _ _ (by intro e;cases e) ?_;simp only[ZG,↓reduceIte,ZA,ZB,ZC];subst hie;rw[Zc] at w5 hlen hsum;refine XX_of ((p3.step w5).byte 41 (by simp only[Z2,Z0,Z1];omega)) (fun res h6 hle6 hn6=>?_);obtain ⟨rfl,v6,w6⟩:=hn6;refine .ret ?_;have w46:=w5.trans w6;have p7:=p3.step w46;simp only[ZG,↓reduceIte,ZA,ZB,ZC];refine XX_of (p7.str [] (by simp only[Z2,Z0,Z1];omega)) (fun res h9 hle9 hn9=>?_);obtain ⟨rfl,v9,w9⟩:=hn9;refine .ret ?_;simp only[ZG,↓reduceIte,ZA,ZB,ZC];exact hΨ _ _ (fin_norm ⟨rfl,v9,by have:=w03.trans (w46.trans w9);rw[hwrt,hbody];simpa [Z4] using this⟩)
     case pos =>
      have hx:al[i]?=some al[i]:=Z3 hil;have hy:ts[i]?=some ts[i]:=Z3 (by omega);have hw:IntKind.i64.wrap ((i:Int)+1)=i+1:=i64w (by omega) (by omega);have d0:(0<=(i:Int))=True:=by simp
      obtain ⟨b1,o1,c1,ev,l1⟩:=arg w5.kp i hil;simp only[ZG,↓reduceIte,ZA,ZB,ZC,(eq_true (by omega):((i:Int)<(al.length:Int))=True),ev,d0,and_self,Zb,Z9,mbl,ZD,ZE,ZF,l1];have oS:=Own.new h5 9 h5.length [.string ⟨#[40]⟩,.string ⟨#[44,32]⟩];have kS:Keep (fun _=>False) h5 (h5++[row 9 h5.length [.string ⟨#[40]⟩,.string ⟨#[44,32]⟩]]):=Keep.push _ _ _;rw[rd_min rfl rfl];generalize h5++[row 9 h5.length [.string ⟨#[40]⟩,.string ⟨#[44,32]⟩]]=h6 at oS kS ⊢;have w6:=w5.keepF kS;have htk:=tupT_take (k:=0) (wrts_at (V:=V) (k:=0) hy);rw[<- wrts_take,<- wrts_take,Ze] at htk;have hge:szs (ts.take i)+sz ts[i]<=szs ts:=by rw[<- szs_take hy];exact szs_le _ _
      by_cases i0:i=0
      case pos =>
       have hm:min (i:Int) 1=0:=by rw[i0];rfl
       rw[if_pos i0] at htk;simp only[ZG,↓reduceIte,ZA,ZB,ZC,hm,mbl,ZD,ZE,ZF,oS.cells.ld,g00,show ((0:Int)<((2:Nat):Int))=True by simp,show ((0:Int)<=1)=True by simp,show ((1:Int)<((2:Nat):Int))=True by simp,and_self,Za,show Zh 1=1 from rfl,Ze,Z9];refine XX_of ((p3.step w6).str [40] (by simp only[Z2,Z0,Z1];omega)) (fun res h7 hle7 hn7=>?_);obtain ⟨rfl,v7,w7⟩:=hn7;refine .ret ?_;have w37:=w6.trans w7;simp only[ZG,↓reduceIte,ZA,ZB,ZC];refine XX_of (ih i _ _ hx hy (p3.step w37) 0 (by omega) (fun m hm=>hfv m (by rw[Typ.fv];exact mem_fvs.2 ⟨_,Z5 _,hm⟩)) (by simp only[Z2,Z0,Z1];omega)) (fun res h8 hle8 hn8=>?_);obtain ⟨rfl,v8,w8⟩:=hn8;refine .ret ?_;simp only[ZG,↓reduceIte,ZA,ZB,ZC,hw];exact next (i+1,v8) _ _ h8 ⟨by simp only;omega,by have:=w37.trans w8;simp only;rw[htk];simpa [Z4] using this⟩ ⟨rfl,rfl,rfl,rfl,by rw[ev];rfl,rfl,by simp only[Z7,Z6];rfl,trivial⟩ (by simp only;omega)
      case neg =>
       have hm:min (i:Int) 1=1:=Zj (by omega);rw[if_neg i0] at htk;simp only[ZG,↓reduceIte,ZA,ZB,ZC,hm,mbl,ZD,ZE,ZF,oS.cells.ld,g00,show ((0:Int)<((2:Nat):Int))=True by simp,show ((0:Int)<=1)=True by simp,show ((1:Int)<((2:Nat):Int))=True by simp,and_self,Za,show Zh 1=1 from rfl,Ze,Z9];refine XX_of ((p3.step w6).str [44,32] (by simp only[Z2,Z0,Z1];omega)) (fun res h7 hle7 hn7=>?_);obtain ⟨rfl,v7,w7⟩:=hn7;refine .ret ?_;have w37:=w6.trans w7;simp only[ZG,↓reduceIte,ZA,ZB,ZC];refine XX_of (ih i _ _ hx hy (p3.step w37) 0 (by omega) (fun m hm=>hfv m (by rw[Typ.fv];exact mem_fvs.2 ⟨_,Z5 _,hm⟩)) (by simp only[Z2,Z0,Z1];omega)) (fun res h8 hle8 hn8=>?_);obtain ⟨rfl,v8,w8⟩:=hn8;refine .ret ?_;simp only[ZG,↓reduceIte,ZA,ZB,ZC,hw];exact next (i+1,v8) _ _ h8 ⟨by simp only;omega,by have:=w37.trans w8;simp only;rw[htk];simpa [Z4] using this⟩ ⟨rfl,rfl,rfl,rfl,by rw[ev];rfl,rfl,by simp only[Z7,Z6];rfl,trivial⟩ (by simp only;omega)
   case neg =>
   have eD:nm.head?≠some 40:=by rw[hnm];simp;intro e;exact hD (by rw[e];rfl)
   have hn32:nm.length<=32:=(s.ok _ _ hT).2.2.2.1;have hbody:body nm (wrts V 0 ts) (wrts V 1 ts) (wrts V 2 ts)=nm++(wrts V 2 ts).flatMap (fun a=>32::a):=by unfold body arrow;rw[if_neg nA,if_neg nB,if_neg nC,if_neg eD]
   by_cases h2:hold=2
   case neg =>
    have hpar:par nm ts.length hold=false:=by unfold par arrow;rw[cC];simp [h2]
    have hwrt:wrt V hold (.con nm ts)=[]++(body nm (wrts V 0 ts) (wrts V 1 ts) (wrts V 2 ts)++[]):=by rw[wrt,hpar];simp [wrap]
    simp only[ZG,↓reduceIte,ZA,ZB,ZC,mbl,ZD,ZE,ZF,oB.cells.ld,e1,tx_toList,mk_toList,cC,show ((hold:Int)=2)=False by simp;omega];refine XX_of (p3.str [] (by simp only[Z0,Z1];omega)) (fun res h4 hle4 hn4=>?_);obtain ⟨rfl,v4,w4⟩:=hn4;refine .ret ?_;have p4:=p3.step w4;have oB4:=oB.keep w4.kp nb;simp only[ZG,↓reduceIte,ZA,ZB,ZC,mbl,ZD,ZE,ZF,oB4.cells.ld,e1,tx_toList,mk_toList,dn,cA,cB,cC,tx_get,g00,hx0,(eq_false (by omega):((c0.toNat:Int)=40)=False)];refine XX_of (p4.str nm (by simp only[Z2,Z0,Z1];omega)) (fun res h5 hle5 hn5=>?_);obtain ⟨rfl,v5,w5⟩:=hn5;refine .ret ?_;have w45:=w4.trans w5;simp only[ZG,↓reduceIte,ZA,ZB,ZC,mbl,ZD,ZE,ZF,(oB.keep w45.kp nb).cells.ld,hva];rw[<- hva];refine XLo_rule (α:=Nat × Value) (fun a=>[(0,.pointer (some ⟨b,0,none⟩)),(1,.pointer (some ⟨q,0,none⟩)),(3,u),(12,tv []),(60,c.v),(61,iv (al.length:Int)),(62,iv (a.1:Int))])
     (fun a h'=>a.1<=al.length/\WT h3 q v b L T ρ sp (acc++[]++nm++(wrts V 2 (ts.take a.1)).flatMap fun a=>32::a) h' a.2) (fun a=>al.length-a.1) (0,v5)
     ⟨Zg _,by simpa [wrts] using w45⟩ ⟨rfl,rfl,rfl,rfl,rfl,rfl,rfl,trivial⟩ ?_
    rintro ⟨i,vi⟩ h6 Ψ2 ⟨hi,w6⟩ next out
    simp only at hi w6;have hlen:=flat_len (wrts V 2 (ts.take i));have hsum:=wrts_sum (V:=V) (k:=2) (ts.take i) (fun t hm=>hwa t (Z8 hm) 2);have hle:=szs_le ts i
    by_cases hil:i<al.length
    case neg =>
     have hie:i=ts.length:=by omega
     simp only[ZG,↓reduceIte,ZA,ZB,ZC,(eq_false (by omega):((i:Int)<(al.length:Int))=False)];refine out (.exit 1) _ _ _ _ (by intro e;cases e) ?_;subst hie;rw[Zc] at w6 hlen hsum;have p7:=p3.step w6;simp only[ZG,↓reduceIte,ZA,ZB,ZC];refine XX_of (p7.str [] (by simp only[Z2,Z0,Z1];omega)) (fun res h9 hle9 hn9=>?_);obtain ⟨rfl,v9,w9⟩:=hn9;refine .ret ?_;simp only[ZG,↓reduceIte,ZA,ZB,ZC];exact hΨ _ _ (fin_norm ⟨rfl,v9,by have:=w03.trans (w6.trans w9);rw[hwrt,hbody];simpa [Z4] using this⟩)
    case pos =>
     have hx:al[i]?=some al[i]:=Z3 hil;have hy:ts[i]?=some ts[i]:=Z3 (by omega);have hw:IntKind.i64.wrap ((i:Int)+1)=i+1:=i64w (by omega) (by omega);have d0:(0<=(i:Int))=True:=by simp
     obtain ⟨b1,o1,c1,ev,l1⟩:=arg w6.kp i hil;have htk:=flat_take (wrts_at (V:=V) (k:=2) hy);rw[<- wrts_take,<- wrts_take] at htk;have hge:szs (ts.take i)+sz ts[i]<=szs ts:=by rw[<- szs_take hy];exact szs_le _ _
     simp only[ZG,↓reduceIte,ZA,ZB,ZC,(eq_true (by omega):((i:Int)<(al.length:Int))=True),ev,d0,and_self,Zb,Z9,mbl,ZD,ZE,ZF,l1];refine XX_of ((p3.step w6).byte 32 (by simp only[Z2,Z0,Z1];omega)) (fun res h7 hle7 hn7=>?_);obtain ⟨rfl,v7,w7⟩:=hn7;refine .ret ?_;have w37:=w6.trans w7;simp only[ZG,↓reduceIte,ZA,ZB,ZC];refine XX_of (ih i _ _ hx hy (p3.step w37) 2 (by omega) (fun m hm=>hfv m (by rw[Typ.fv];exact mem_fvs.2 ⟨_,Z5 _,hm⟩)) (by simp only[Z2,Z0,Z1];omega)) (fun res h8 hle8 hn8=>?_);obtain ⟨rfl,v8,w8⟩:=hn8;refine .ret ?_;simp only[ZG,↓reduceIte,ZA,ZB,ZC,hw];exact next (i+1,v8) _ _ h8 ⟨by simp only;omega,by have:=w37.trans w8;simp only;rw[htk];simpa [Z4] using this⟩ ⟨rfl,rfl,rfl,rfl,by rw[ev];rfl,rfl,by simp only[Z7,Z6];rfl,trivial⟩ (by simp only;omega)
   case pos =>
   by_cases hl0:0<al.length
   case neg =>
    have hpar:par nm ts.length hold=false:=by unfold par arrow;rw[cC,hl];simp [hl0]
    have hwrt:wrt V hold (.con nm ts)=[]++(body nm (wrts V 0 ts) (wrts V 1 ts) (wrts V 2 ts)++[]):=by rw[wrt,hpar];simp [wrap]
    simp only[ZG,↓reduceIte,ZA,ZB,ZC,mbl,ZD,ZE,ZF,oB.cells.ld,e1,tx_toList,mk_toList,cC,show ((hold:Int)=2)=True by simp;omega,hva,(eq_false (by omega):((0:Int)<(al.length:Int))=False)];refine XX_of (p3.str [] (by simp only[Z0,Z1];omega)) (fun res h4 hle4 hn4=>?_);obtain ⟨rfl,v4,w4⟩:=hn4;refine .ret ?_;have p4:=p3.step w4;have oB4:=oB.keep w4.kp nb;simp only[ZG,↓reduceIte,ZA,ZB,ZC,mbl,ZD,ZE,ZF,oB4.cells.ld,e1,tx_toList,mk_toList,dn,cA,cB,cC,tx_get,g00,hx0,(eq_false (by omega):((c0.toNat:Int)=40)=False)];refine XX_of (p4.str nm (by simp only[Z2,Z0,Z1];omega)) (fun res h5 hle5 hn5=>?_);obtain ⟨rfl,v5,w5⟩:=hn5;refine .ret ?_;have w45:=w4.trans w5;simp only[ZG,↓reduceIte,ZA,ZB,ZC,mbl,ZD,ZE,ZF,(oB.keep w45.kp nb).cells.ld,hva];rw[<- hva];refine XLo_rule (α:=Nat × Value) (fun a=>[(0,.pointer (some ⟨b,0,none⟩)),(1,.pointer (some ⟨q,0,none⟩)),(3,u),(12,tv []),(60,c.v),(61,iv (al.length:Int)),(62,iv (a.1:Int))])
     (fun a h'=>a.1<=al.length/\WT h3 q v b L T ρ sp (acc++[]++nm++(wrts V 2 (ts.take a.1)).flatMap fun a=>32::a) h' a.2) (fun a=>al.length-a.1) (0,v5)
     ⟨Zg _,by simpa [wrts] using w45⟩ ⟨rfl,rfl,rfl,rfl,rfl,rfl,rfl,trivial⟩ ?_
    rintro ⟨i,vi⟩ h6 Ψ2 ⟨hi,w6⟩ next out
    simp only at hi w6;have hlen:=flat_len (wrts V 2 (ts.take i));have hsum:=wrts_sum (V:=V) (k:=2) (ts.take i) (fun t hm=>hwa t (Z8 hm) 2);have hle:=szs_le ts i
    by_cases hil:i<al.length
    case neg =>
     have hie:i=ts.length:=by omega
     simp only[ZG,↓reduceIte,ZA,ZB,ZC,(eq_false (by omega):((i:Int)<(al.length:Int))=False)];refine out (.exit 1) _ _ _ _ (by intro e;cases e) ?_;subst hie;rw[Zc] at w6 hlen hsum;have p7:=p3.step w6;simp only[ZG,↓reduceIte,ZA,ZB,ZC];refine XX_of (p7.str [] (by simp only[Z2,Z0,Z1];omega)) (fun res h9 hle9 hn9=>?_);obtain ⟨rfl,v9,w9⟩:=hn9;refine .ret ?_;simp only[ZG,↓reduceIte,ZA,ZB,ZC];exact hΨ _ _ (fin_norm ⟨rfl,v9,by have:=w03.trans (w6.trans w9);rw[hwrt,hbody];simpa [Z4] using this⟩)
    case pos =>
     have hx:al[i]?=some al[i]:=Z3 hil;have hy:ts[i]?=some ts[i]:=Z3 (by omega);have hw:IntKind.i64.wrap ((i:Int)+1)=i+1:=i64w (by omega) (by omega);have d0:(0<=(i:Int))=True:=by simp
     obtain ⟨b1,o1,c1,ev,l1⟩:=arg w6.kp i hil;have htk:=flat_take (wrts_at (V:=V) (k:=2) hy);rw[<- wrts_take,<- wrts_take] at htk;have hge:szs (ts.take i)+sz ts[i]<=szs ts:=by rw[<- szs_take hy];exact szs_le _ _
     simp only[ZG,↓reduceIte,ZA,ZB,ZC,(eq_true (by omega):((i:Int)<(al.length:Int))=True),ev,d0,and_self,Zb,Z9,mbl,ZD,ZE,ZF,l1];refine XX_of ((p3.step w6).byte 32 (by simp only[Z2,Z0,Z1];omega)) (fun res h7 hle7 hn7=>?_);obtain ⟨rfl,v7,w7⟩:=hn7;refine .ret ?_;have w37:=w6.trans w7;simp only[ZG,↓reduceIte,ZA,ZB,ZC];refine XX_of (ih i _ _ hx hy (p3.step w37) 2 (by omega) (fun m hm=>hfv m (by rw[Typ.fv];exact mem_fvs.2 ⟨_,Z5 _,hm⟩)) (by simp only[Z2,Z0,Z1];omega)) (fun res h8 hle8 hn8=>?_);obtain ⟨rfl,v8,w8⟩:=hn8;refine .ret ?_;simp only[ZG,↓reduceIte,ZA,ZB,ZC,hw];exact next (i+1,v8) _ _ h8 ⟨by simp only;omega,by have:=w37.trans w8;simp only;rw[htk];simpa [Z4] using this⟩ ⟨rfl,rfl,rfl,rfl,by rw[ev];rfl,rfl,by simp only[Z7,Z6];rfl,trivial⟩ (by simp only;omega)
   case pos =>
   by_cases hc1:65<=c0.toNat
   case neg =>
    have hpar:par nm ts.length hold=false:=by unfold par arrow;rw[cC,hnm];simp [large,hc1]
    have hwrt:wrt V hold (.con nm ts)=[]++(body nm (wrts V 0 ts) (wrts V 1 ts) (wrts V 2 ts)++[]):=by rw[wrt,hpar];simp [wrap]
    simp only[ZG,↓reduceIte,ZA,ZB,ZC,mbl,ZD,ZE,ZF,oB.cells.ld,e1,tx_toList,mk_toList,cC,show ((hold:Int)=2)=True by simp;omega,hva,(eq_true (by omega):((0:Int)<(al.length:Int))=True),tx_get,g00,hx0,(eq_false (by omega):((65:Int)<=(c0.toNat:Int))=False)];refine XX_of (p3.str [] (by simp only[Z0,Z1];omega)) (fun res h4 hle4 hn4=>?_);obtain ⟨rfl,v4,w4⟩:=hn4;refine .ret ?_;have p4:=p3.step w4;have oB4:=oB.keep w4.kp nb;simp only[ZG,↓reduceIte,ZA,ZB,ZC,mbl,ZD,ZE,ZF,oB4.cells.ld,e1,tx_toList,mk_toList,dn,cA,cB,cC,tx_get,g00,hx0,(eq_false (by omega):((c0.toNat:Int)=40)=False)];refine XX_of (p4.str nm (by simp only[Z2,Z0,Z1];omega)) (fun res h5 hle5 hn5=>?_);obtain ⟨rfl,v5,w5⟩:=hn5;refine .ret ?_;have w45:=w4.trans w5;simp only[ZG,↓reduceIte,ZA,ZB,ZC,mbl,ZD,ZE,ZF,(oB.keep w45.kp nb).cells.ld,hva];rw[<- hva];refine XLo_rule (α:=Nat × Value) (fun a=>[(0,.pointer (some ⟨b,0,none⟩)),(1,.pointer (some ⟨q,0,none⟩)),(3,u),(12,tv []),(60,c.v),(61,iv (al.length:Int)),(62,iv (a.1:Int))])
     (fun a h'=>a.1<=al.length/\WT h3 q v b L T ρ sp (acc++[]++nm++(wrts V 2 (ts.take a.1)).flatMap fun a=>32::a) h' a.2) (fun a=>al.length-a.1) (0,v5)
     ⟨Zg _,by simpa [wrts] using w45⟩ ⟨rfl,rfl,rfl,rfl,rfl,rfl,rfl,trivial⟩ ?_
    rintro ⟨i,vi⟩ h6 Ψ2 ⟨hi,w6⟩ next out
    simp only at hi w6;have hlen:=flat_len (wrts V 2 (ts.take i));have hsum:=wrts_sum (V:=V) (k:=2) (ts.take i) (fun t hm=>hwa t (Z8 hm) 2);have hle:=szs_le ts i
    by_cases hil:i<al.length
    case neg =>
     have hie:i=ts.length:=by omega
     simp only[ZG,↓reduceIte,ZA,ZB,ZC,(eq_false (by omega):((i:Int)<(al.length:Int))=False)];refine out (.exit 1) _ _ _ _ (by intro e;cases e) ?_;subst hie;rw[Zc] at w6 hlen hsum;have p7:=p3.step w6;simp only[ZG,↓reduceIte,ZA,ZB,ZC];refine XX_of (p7.str [] (by simp only[Z2,Z0,Z1];omega)) (fun res h9 hle9 hn9=>?_);obtain ⟨rfl,v9,w9⟩:=hn9;refine .ret ?_;simp only[ZG,↓reduceIte,ZA,ZB,ZC];exact hΨ _ _ (fin_norm ⟨rfl,v9,by have:=w03.trans (w6.trans w9);rw[hwrt,hbody];simpa [Z4] using this⟩)
    case pos =>
     have hx:al[i]?=some al[i]:=Z3 hil;have hy:ts[i]?=some ts[i]:=Z3 (by omega);have hw:IntKind.i64.wrap ((i:Int)+1)=i+1:=i64w (by omega) (by omega);have d0:(0<=(i:Int))=True:=by simp
     obtain ⟨b1,o1,c1,ev,l1⟩:=arg w6.kp i hil;have htk:=flat_take (wrts_at (V:=V) (k:=2) hy);rw[<- wrts_take,<- wrts_take] at htk;have hge:szs (ts.take i)+sz ts[i]<=szs ts:=by rw[<- szs_take hy];exact szs_le _ _
     simp only[ZG,↓reduceIte,ZA,ZB,ZC,(eq_true (by omega):((i:Int)<(al.length:Int))=True),ev,d0,and_self,Zb,Z9,mbl,ZD,ZE,ZF,l1];refine XX_of ((p3.step w6).byte 32 (by simp only[Z2,Z0,Z1];omega)) (fun res h7 hle7 hn7=>?_);obtain ⟨rfl,v7,w7⟩:=hn7;refine .ret ?_;have w37:=w6.trans w7;simp only[ZG,↓reduceIte,ZA,ZB,ZC];refine XX_of (ih i _ _ hx hy (p3.step w37) 2 (by omega) (fun m hm=>hfv m (by rw[Typ.fv];exact mem_fvs.2 ⟨_,Z5 _,hm⟩)) (by simp only[Z2,Z0,Z1];omega)) (fun res h8 hle8 hn8=>?_);obtain ⟨rfl,v8,w8⟩:=hn8;refine .ret ?_;simp only[ZG,↓reduceIte,ZA,ZB,ZC,hw];exact next (i+1,v8) _ _ h8 ⟨by simp only;omega,by have:=w37.trans w8;simp only;rw[htk];simpa [Z4] using this⟩ ⟨rfl,rfl,rfl,rfl,by rw[ev];rfl,rfl,by simp only[Z7,Z6];rfl,trivial⟩ (by simp only;omega)
   case pos =>
   by_cases hc2:c0.toNat<=90
   case neg =>
    have hpar:par nm ts.length hold=false:=by unfold par arrow;rw[cC,hnm];simp [large,hc2]
    have hwrt:wrt V hold (.con nm ts)=[]++(body nm (wrts V 0 ts) (wrts V 1 ts) (wrts V 2 ts)++[]):=by rw[wrt,hpar];simp [wrap]
    simp only[ZG,↓reduceIte,ZA,ZB,ZC,mbl,ZD,ZE,ZF,oB.cells.ld,e1,tx_toList,mk_toList,cC,show ((hold:Int)=2)=True by simp;omega,hva,(eq_true (by omega):((0:Int)<(al.length:Int))=True),tx_get,g00,hx0,(eq_true (by omega):((65:Int)<=(c0.toNat:Int))=True),(eq_false (by omega):((c0.toNat:Int)<=90)=False)];refine XX_of (p3.str [] (by simp only[Z0,Z1];omega)) (fun res h4 hle4 hn4=>?_);obtain ⟨rfl,v4,w4⟩:=hn4;refine .ret ?_;have p4:=p3.step w4;have oB4:=oB.keep w4.kp nb;simp only[ZG,↓reduceIte,ZA,ZB,ZC,mbl,ZD,ZE,ZF,oB4.cells.ld,e1,tx_toList,mk_toList,dn,cA,cB,cC,tx_get,g00,hx0,(eq_false (by omega):((c0.toNat:Int)=40)=False)];refine XX_of (p4.str nm (by simp only[Z2,Z0,Z1];omega)) (fun res h5 hle5 hn5=>?_);obtain ⟨rfl,v5,w5⟩:=hn5;refine .ret ?_;have w45:=w4.trans w5;simp only[ZG,↓reduceIte,ZA,ZB,ZC,mbl,ZD,ZE,ZF,(oB.keep w45.kp nb).cells.ld,hva];rw[<- hva];refine XLo_rule (α:=Nat × Value) (fun a=>[(0,.pointer (some ⟨b,0,none⟩)),(1,.pointer (some ⟨q,0,none⟩)),(3,u),(12,tv []),(60,c.v),(61,iv (al.length:Int)),(62,iv (a.1:Int))])
     (fun a h'=>a.1<=al.length/\WT h3 q v b L T ρ sp (acc++[]++nm++(wrts V 2 (ts.take a.1)).flatMap fun a=>32::a) h' a.2) (fun a=>al.length-a.1) (0,v5)
     ⟨Zg _,by simpa [wrts] using w45⟩ ⟨rfl,rfl,rfl,rfl,rfl,rfl,rfl,trivial⟩ ?_
    rintro ⟨i,vi⟩ h6 Ψ2 ⟨hi,w6⟩ next out
    simp only at hi w6;have hlen:=flat_len (wrts V 2 (ts.take i));have hsum:=wrts_sum (V:=V) (k:=2) (ts.take i) (fun t hm=>hwa t (Z8 hm) 2);have hle:=szs_le ts i
    by_cases hil:i<al.length
    case neg =>
     have hie:i=ts.length:=by omega
     simp only[ZG,↓reduceIte,ZA,ZB,ZC,(eq_false (by omega):((i:Int)<(al.length:Int))=False)];refine out (.exit 1) _ _ _ _ (by intro e;cases e) ?_;subst hie;rw[Zc] at w6 hlen hsum;have p7:=p3.step w6;simp only[ZG,↓reduceIte,ZA,ZB,ZC];refine XX_of (p7.str [] (by simp only[Z2,Z0,Z1];omega)) (fun res h9 hle9 hn9=>?_);obtain ⟨rfl,v9,w9⟩:=hn9;refine .ret ?_;simp only[ZG,↓reduceIte,ZA,ZB,ZC];exact hΨ _ _ (fin_norm ⟨rfl,v9,by have:=w03.trans (w6.trans w9);rw[hwrt,hbody];simpa [Z4] using this⟩)
    case pos =>
     have hx:al[i]?=some al[i]:=Z3 hil;have hy:ts[i]?=some ts[i]:=Z3 (by omega);have hw:IntKind.i64.wrap ((i:Int)+1)=i+1:=i64w (by omega) (by omega);have d0:(0<=(i:Int))=True:=by simp
     obtain ⟨b1,o1,c1,ev,l1⟩:=arg w6.kp i hil;have htk:=flat_take (wrts_at (V:=V) (k:=2) hy);rw[<- wrts_take,<- wrts_take] at htk;have hge:szs (ts.take i)+sz ts[i]<=szs ts:=by rw[<- szs_take hy];exact szs_le _ _
     simp only[ZG,↓reduceIte,ZA,ZB,ZC,(eq_true (by omega):((i:Int)<(al.length:Int))=True),ev,d0,and_self,Zb,Z9,mbl,ZD,ZE,ZF,l1];refine XX_of ((p3.step w6).byte 32 (by simp only[Z2,Z0,Z1];omega)) (fun res h7 hle7 hn7=>?_);obtain ⟨rfl,v7,w7⟩:=hn7;refine .ret ?_;have w37:=w6.trans w7;simp only[ZG,↓reduceIte,ZA,ZB,ZC];refine XX_of (ih i _ _ hx hy (p3.step w37) 2 (by omega) (fun m hm=>hfv m (by rw[Typ.fv];exact mem_fvs.2 ⟨_,Z5 _,hm⟩)) (by simp only[Z2,Z0,Z1];omega)) (fun res h8 hle8 hn8=>?_);obtain ⟨rfl,v8,w8⟩:=hn8;refine .ret ?_;simp only[ZG,↓reduceIte,ZA,ZB,ZC,hw];exact next (i+1,v8) _ _ h8 ⟨by simp only;omega,by have:=w37.trans w8;simp only;rw[htk];simpa [Z4] using this⟩ ⟨rfl,rfl,rfl,rfl,by rw[ev];rfl,rfl,by simp only[Z7,Z6];rfl,trivial⟩ (by simp only;omega)
   case pos =>
    have hpar:par nm ts.length hold=true:=by unfold par arrow;rw[cC,hnm,hl];simp [large,hc1,hc2,h2,hl0]
    have hwrt:wrt V hold (.con nm ts)=[40]++(body nm (wrts V 0 ts) (wrts V 1 ts) (wrts V 2 ts)++[41]):=by rw[wrt,hpar];simp [wrap]
    simp only[ZG,↓reduceIte,ZA,ZB,ZC,mbl,ZD,ZE,ZF,oB.cells.ld,e1,tx_toList,mk_toList,cC,show ((hold:Int)=2)=True by simp;omega,hva,(eq_true (by omega):((0:Int)<(al.length:Int))=True),tx_get,g00,hx0,(eq_true (by omega):((65:Int)<=(c0.toNat:Int))=True),(eq_true (by omega):((c0.toNat:Int)<=90)=True)];refine XX_of (p3.str [40] (by simp only[Z0,Z1];omega)) (fun res h4 hle4 hn4=>?_);obtain ⟨rfl,v4,w4⟩:=hn4;refine .ret ?_;have p4:=p3.step w4;have oB4:=oB.keep w4.kp nb;simp only[ZG,↓reduceIte,ZA,ZB,ZC,mbl,ZD,ZE,ZF,oB4.cells.ld,e1,tx_toList,mk_toList,dn,cA,cB,cC,tx_get,g00,hx0,(eq_false (by omega):((c0.toNat:Int)=40)=False)];refine XX_of (p4.str nm (by simp only[Z2,Z0,Z1];omega)) (fun res h5 hle5 hn5=>?_);obtain ⟨rfl,v5,w5⟩:=hn5;refine .ret ?_;have w45:=w4.trans w5;simp only[ZG,↓reduceIte,ZA,ZB,ZC,mbl,ZD,ZE,ZF,(oB.keep w45.kp nb).cells.ld,hva];rw[<- hva];refine XLo_rule (α:=Nat × Value) (fun a=>[(0,.pointer (some ⟨b,0,none⟩)),(1,.pointer (some ⟨q,0,none⟩)),(3,u),(12,tv [41]),(60,c.v),(61,iv (al.length:Int)),(62,iv (a.1:Int))])
     (fun a h'=>a.1<=al.length/\WT h3 q v b L T ρ sp (acc++[40]++nm++(wrts V 2 (ts.take a.1)).flatMap fun a=>32::a) h' a.2) (fun a=>al.length-a.1) (0,v5)
     ⟨Zg _,by simpa [wrts] using w45⟩ ⟨rfl,rfl,rfl,rfl,rfl,rfl,rfl,trivial⟩ ?_
    rintro ⟨i,vi⟩ h6 Ψ2 ⟨hi,w6⟩ next out
    simp only at hi w6;have hlen:=flat_len (wrts V 2 (ts.take i));have hsum:=wrts_sum (V:=V) (k:=2) (ts.take i) (fun t hm=>hwa t (Z8 hm) 2);have hle:=szs_le ts i
    by_cases hil:i<al.length
    case neg =>
     have hie:i=ts.length:=by omega
     simp only[ZG,↓reduceIte,ZA,ZB,ZC,(eq_false (by omega):((i:Int)<(al.length:Int))=False)];refine out (.exit 1) _ _ _ _ (by intro e;cases e) ?_;subst hie;rw[Zc] at w6 hlen hsum;have p7:=p3.step w6;simp only[ZG,↓reduceIte,ZA,ZB,ZC];refine XX_of (p7.str [41] (by simp only[Z2,Z0,Z1];omega)) (fun res h9 hle9 hn9=>?_);obtain ⟨rfl,v9,w9⟩:=hn9;refine .ret ?_;simp only[ZG,↓reduceIte,ZA,ZB,ZC];exact hΨ _ _ (fin_norm ⟨rfl,v9,by have:=w03.trans (w6.trans w9);rw[hwrt,hbody];simpa [Z4] using this⟩)
    case pos =>
     have hx:al[i]?=some al[i]:=Z3 hil;have hy:ts[i]?=some ts[i]:=Z3 (by omega);have hw:IntKind.i64.wrap ((i:Int)+1)=i+1:=i64w (by omega) (by omega);have d0:(0<=(i:Int))=True:=by simp
     obtain ⟨b1,o1,c1,ev,l1⟩:=arg w6.kp i hil;have htk:=flat_take (wrts_at (V:=V) (k:=2) hy);rw[<- wrts_take,<- wrts_take] at htk;have hge:szs (ts.take i)+sz ts[i]<=szs ts:=by rw[<- szs_take hy];exact szs_le _ _
     simp only[ZG,↓reduceIte,ZA,ZB,ZC,(eq_true (by omega):((i:Int)<(al.length:Int))=True),ev,d0,and_self,Zb,Z9,mbl,ZD,ZE,ZF,l1];refine XX_of ((p3.step w6).byte 32 (by simp only[Z2,Z0,Z1];omega)) (fun res h7 hle7 hn7=>?_);obtain ⟨rfl,v7,w7⟩:=hn7;refine .ret ?_;have w37:=w6.trans w7;simp only[ZG,↓reduceIte,ZA,ZB,ZC];refine XX_of (ih i _ _ hx hy (p3.step w37) 2 (by omega) (fun m hm=>hfv m (by rw[Typ.fv];exact mem_fvs.2 ⟨_,Z5 _,hm⟩)) (by simp only[Z2,Z0,Z1];omega)) (fun res h8 hle8 hn8=>?_);obtain ⟨rfl,v8,w8⟩:=hn8;refine .ret ?_;simp only[ZG,↓reduceIte,ZA,ZB,ZC,hw];exact next (i+1,v8) _ _ h8 ⟨by simp only;omega,by have:=w37.trans w8;simp only;rw[htk];simpa [Z4] using this⟩ ⟨rfl,rfl,rfl,rfl,by rw[ev];rfl,rfl,by simp only[Z7,Z6];rfl,trivial⟩ (by simp only;omega)
end
end Go.S11

namespace Go.S11
open Go Go.Eng Go.Proofs Go.Scn Go.Typ
section
variable {b:Nat} {L:TL} {T:List Tm} {ρ:Nat->Nat}
theorem Vars_ok {n:Nat} {t:Ty} (ht:Tr T ρ n t) {h:AH} {cs:List Ce} (s:TH h b L cs T ρ false):Gets Tryd.prog 18 [.pointer (some ⟨b,0,none⟩),iv (n:Int)] h
 (fun res h'=>Keep (bk L.vc) h h'/\res = .ret (.tuple #[iv (if sz t<=500 then ((vs t []).length:Int) else 0),iv (smE t)]) /\ ∃ cs',TH h' b L cs' T ρ false):=by
 refine Gets.of (keep:=false) hP (draw_ok hM) k18 (by rfl) (fun Ψ hΨ=>?_);simp only[ZG,↓reduceIte,ZA,ZB,ZC,r18,YE,YC,YO,YA,YL,YX,YS,Ya,Yb,Yl,Yf,Yg,Yi,Ym,Yk,Yt,Yn,Yz,Yp,Yq,Yd];refine XX_of (small_ok ht s) (fun res h1 hle hn=>?_);obtain ⟨k1,rfl,cs1,s1⟩:=hn;refine .ret ?_
 by_cases hs:sz t<=500
 case neg =>
  have e:smE t=11:=by unfold smE;rw[if_neg hs]
  simp only[ZG,↓reduceIte,ZA,ZB,ZC,mbl,ZD,ZE,ZF,e];refine hΨ _ _ (fin_ret (rv2 rfl rfl ⟨k1,?_,_,s1⟩));rw[if_neg hs,e];rfl
 case pos =>
 have e:smE t=0:=by unfold smE;rw[if_pos hs]
 simp only[ZG,↓reduceIte,ZA,ZB,ZC,mbl,ZD,ZE,ZF,e];refine XX_of (vars_ok ht s1 (l:=[]) (v:=.slice none 0 0) .nil (fun q e=>e.elim) (by simp;omega)) (fun res h2 hle2 hn=>?_);obtain ⟨k2,v',rfl,ov,fv,cs2,s2⟩:=hn;refine .ret ?_;obtain ⟨va,vc,hv⟩:=row_shape ov.rds;simp only[ZG,↓reduceIte,ZA,ZB,ZC,mbl,ZD,ZE,ZF,hv];refine hΨ _ _ (fin_ret (rv2 rfl rfl ⟨k1.trans (k2.mono (fun q e=>e.elim id (fun e=>e.elim))),?_,_,s2⟩));rw[if_pos hs,e];rfl
set_option maxHeartbeats 1000000 in
theorem Text_ok {n:Nat} {t:Ty} (ht:Tr T ρ n t) {h:AH} {cs:List Ce} (s:TH h b L cs T ρ false):Gets Tryd.prog 13 [.pointer (some ⟨b,0,none⟩),iv (n:Int)] h
 (fun res h'=>Keep (bk L.vc) h h'/\res = .ret (.tuple #[tv (if sz t<=500 then txt t else []),iv (smE t)]) /\ ∃ cs',TH h' b L cs' T ρ false):=by
 refine Gets.of (keep:=false) hP (draw_ok hM) k13 (by rfl) (fun Ψ hΨ=>?_);simp only[ZG,↓reduceIte,ZA,ZB,ZC,r13,YE,YC,YO,YA,YL,YX,YS,Ya,Yb,Yl,Yf,Yg,Yi,Ym,Yk,Yt,Yn,Yz,Yp,Yq,Yd];refine XX_of (small_ok ht s) (fun res h1 hle hn=>?_);obtain ⟨k1,rfl,cs1,s1⟩:=hn;refine .ret ?_
 by_cases hs:sz t<=500
 case neg =>
  have e:smE t=11:=by unfold smE;rw[if_neg hs]
  simp only[ZG,↓reduceIte,ZA,ZB,ZC,mbl,ZD,ZE,ZF,e];refine hΨ _ _ (fin_ret (rv2 rfl rfl ⟨k1,?_,_,s1⟩));rw[if_neg hs,e];rfl
 case pos =>
 have e:smE t=0:=by unfold smE;rw[if_pos hs]
 have oN:=Own.new h1 bdT h1.length [.pointer none,.slice none 0 0];have kN:Keep (fun _=>False) h1 (h1++[row bdT h1.length [.pointer none,.slice none 0 0]]):=Keep.push _ _ _;simp only[ZG,↓reduceIte,ZA,ZB,ZC,mbl,ZD,ZE,ZF,e];generalize h1++[row bdT h1.length [.pointer none,.slice none 0 0]]=h2 at oN kN ⊢;have s2:=s1.keepF kN;have z0:L.cls h1.length=0:=s1.c0 _ (Zk _);refine XX_of (vars_ok ht s2 (l:=[]) (v:=.slice none 0 0) .nil (fun q e=>e.elim) (by simp;omega)) (fun res h3 hle2 hn=>?_);obtain ⟨k3,v',rfl,ov,fv,cs3,s3⟩:=hn;refine .ret ?_;have k3':Keep (bk L.vc) h2 h3:=k3.mono (fun q e=>e.elim id (fun e=>e.elim));have oN3:=oN.keep k3' (fun e=>by have:=s1.c3 _ e;omega);have bd3:Bd h3 h1.length [] (.pointer none) (.slice none 0 0):=⟨oN3,.inl rfl,by simpa using (Ows.nil:Ows h3 5 1 (.slice none 0 0) 0 []),fun q e=>e.elim,fun _=>rfl⟩
 have lv:=len_vs t [];have fr3:∀ q,bk v' q->h2.length<=q:=fun q e=>(fv q e).elim (fun e=>e.elim) id
 have h12:=oN.lt;have wp:WP h3 b L T ρ false h1.length [] (.slice none 0 0) v' (vs t []):=⟨⟨_,s3⟩,⟨_,bd3⟩,z0,fun q e=>e.elim,ov.rds,fun q e=>⟨s2.c0 q (fr3 q e.bk),by have:=fr3 q e.bk;omega,fun e=>e.elim⟩⟩
 simp only[ZG,↓reduceIte,ZA,ZB,ZC,mbl,ZD,ZE,ZF];refine XX_of (write_ok (by simp at lv;omega) ht wp 0 (by omega) (fun m hm=>(mem_vs t [] m).2 (.inr hm)) (by simp;omega)) (fun res h4 hle4 hn=>?_);obtain ⟨rfl,v4,w4⟩:=hn;refine .ret ?_;obtain ⟨a4,bd4⟩:=w4.bd;obtain ⟨cs4,s4⟩:=w4.th;rw[List.nil_append] at bd4;have hwl:=wr_len s.ok (V:=vs t []) (by simp at lv;omega) ht 0;simp only[ZG,↓reduceIte,ZA,ZB,ZC];refine XX_of (string_ok bd4 (by omega)) (fun res h5 hle5 hn=>?_);obtain ⟨rfl,k5⟩:=hn;refine .ret ?_;have v4z:∀ q,bk v4 q->h3.length<=q:=fun q e=>(w4.fr q e).elim (fun e=>e.elim) id
 have s5:TH h5 b L cs4 T ρ false:=s4.keep k5 (fun q e e2=>e (s3.c0 q (v4z q e2)));simp only[ZG,↓reduceIte,ZA,ZB,ZC];have hb2:=bd4.own.lt;have kk:Keep (bk L.vc) h h5:=by
  have l1:=k1.len;have l2:=kN.len;have l3:=k3.len;refine (((k1.trans (kN.mono (fun _ e=>e.elim))).trans k3').trans' w4.kp (fun q hq e=>?_)).trans' k5 (fun q hq e=>by have:=v4z q e;omega)
  rcases e with e|e|e
  ·exact e
  ·omega
  ·exact e.elim
 refine hΨ _ _ (fin_ret (rv2 rfl rfl ⟨kk,?_,_,s5⟩));rw[if_pos hs,e];rfl
end
end Go.S11
