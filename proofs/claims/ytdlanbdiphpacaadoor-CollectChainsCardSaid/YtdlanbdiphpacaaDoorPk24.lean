import Derived.Test.YtdlanbdiphpacaaDoorPk23
set_option linter.unusedVariables false
set_option linter.unusedSimpArgs false
open Nat renaming reduceEqDiff -> ZA,reduceAdd -> ZB,reduceMul -> ZC,reduceLeDiff -> ZD,reduceLT -> ZE
open Int renaming reduceEq -> ZF
open List renaming length_append->Z0,length_cons->Z1,length_nil->Z2,length_set->Z3,nil_append->Z4,mem_of_getElem?->Z6,mem_cons->Z7,map_cons->Z8,mem_map->Z9,map_nil->Za,mem_singleton->Zb,findIdx?_cons->Zc
open Nat renaming le_refl->Z5
namespace Go.S19
open Go Go.Eng Go.Proofs Go.Chk Go.Scn
def nmd (k:Int):Bs:=if k=6 then [105,110,102,111] else if k=7 then [99,111,110] else if k=8 then [112,97,112] else if k=9 then [116,101,120,116] else if k=10 then [105,110,112,117,116] else [104,111,108,101]
theorem nmd_len (k:Int):(nmd k).length<=5:=by
 unfold nmd
 repeat' split
 all_goals decide
theorem named_ok (k:Int) (h:AH):Gets Tryd.prog 30 [iv k] h (fun res h'=>h'=h/\res = .ret (tv (nmd k))):=by
 refine Gets.of (keep:=false) hP (draw_ok hM) k30 (by rfl) (fun Ψ hΨ=>?_)
 by_cases h6:k=6
 ·simp only[ZG,↓reduceIte,ZA,ZB,ZC,r30,YE,YC,YO,YA,YL,YX,YS,Ya,Yb,Yl,Yf,Yg,Yi,Ym,Yk,Yt,Yn,Yz,Yp,Yq,Yd,h6,mbl,ZD,ZE,ZF]
  exact hΨ _ _ (fin_ret (rv1 rfl ⟨rfl,by subst_vars;rfl⟩))
 by_cases h7:k=7
 ·simp only[ZG,↓reduceIte,ZA,ZB,ZC,r30,YE,YC,YO,YA,YL,YX,YS,Ya,Yb,Yl,Yf,Yg,Yi,Ym,Yk,Yt,Yn,Yz,Yp,Yq,Yd,h6,h7,mbl,ZD,ZE,ZF]
  exact hΨ _ _ (fin_ret (rv1 rfl ⟨rfl,by subst_vars;rfl⟩))
 by_cases h8:k=8
 ·simp only[ZG,↓reduceIte,ZA,ZB,ZC,r30,YE,YC,YO,YA,YL,YX,YS,Ya,Yb,Yl,Yf,Yg,Yi,Ym,Yk,Yt,Yn,Yz,Yp,Yq,Yd,h6,h7,h8,mbl,ZD,ZE,ZF]
  exact hΨ _ _ (fin_ret (rv1 rfl ⟨rfl,by subst_vars;rfl⟩))
 by_cases h9:k=9
 ·simp only[ZG,↓reduceIte,ZA,ZB,ZC,r30,YE,YC,YO,YA,YL,YX,YS,Ya,Yb,Yl,Yf,Yg,Yi,Ym,Yk,Yt,Yn,Yz,Yp,Yq,Yd,h6,h7,h8,h9,mbl,ZD,ZE,ZF]
  exact hΨ _ _ (fin_ret (rv1 rfl ⟨rfl,by subst_vars;rfl⟩))
 by_cases hx:k=10
 ·simp only[ZG,↓reduceIte,ZA,ZB,ZC,r30,YE,YC,YO,YA,YL,YX,YS,Ya,Yb,Yl,Yf,Yg,Yi,Ym,Yk,Yt,Yn,Yz,Yp,Yq,Yd,h6,h7,h8,h9,hx,mbl,ZD,ZE,ZF]
  exact hΨ _ _ (fin_ret (rv1 rfl ⟨rfl,by subst_vars;rfl⟩))
 simp only[ZG,↓reduceIte,ZA,ZB,ZC,r30,YE,YC,YO,YA,YL,YX,YS,Ya,Yb,Yl,Yf,Yg,Yi,Ym,Yk,Yt,Yn,Yz,Yp,Yq,Yd,h6,h7,h8,h9,hx,mbl,ZD,ZE,ZF];have e:nmd k=[104,111,108,101]:=by simp [nmd,h6,h7,h8,h9,hx]
 exact hΨ _ _ (fin_ret (rv1 rfl ⟨rfl,by rw[e];rfl⟩))
noncomputable def HS.hdT (S:HS) (w:Int × Int):Bs:=nmd (S.head w).1.1++[32]++Lib.itoa (S.head w).1.2
noncomputable def HS.objT (S:HS) (ts:List (Int × Int)) (w:Int × Int):Bs:=S.lineT ts (S.hdT w) (S.flds w)
noncomputable def HS.shapeT (S:HS) (roots ts:List (Int × Int)):Bs:=S.lineT ts [114,111,111,116,115] roots++S.lineT ts [103,108,111,98,97,108,115] S.globals++ts.flatMap (S.objT ts)
theorem head_rg {S:HS} (r:Rg S) (w:Int × Int):rgI (S.head w).1.2:=by
 unfold HS.head;split
 ·exact gx_rg r.now _
 ·exact ⟨by decide,by decide⟩
theorem hdT_len {S:HS} (r:Rg S) (w:Int × Int):(S.hdT w).length<=27:=by
 have h1:=nmd_len (S.head w).1.1;have h2:=head_rg r w;have h3:=Lib.itoa_length_le _ h2.1 h2.2;simp only[HS.hdT,Z0,Z1,Z2];omega
theorem flds_rg {S:HS} (r:Rg S) (w:Int × Int):∀ x∈S.flds w,rgI x.2:=by
 intro x hx;simp only[HS.flds,Z9] at hx;obtain ⟨i,_,rfl⟩:=hx;exact gx_rg r.now _
theorem objT_len {S:HS} (r:Rg S) (v:Inv S) {ts:List (Int × Int)} (hl:ts.length<=2000000) {w:Int × Int} (hf:(S.flds w).length<=1048576):(S.objT ts w).length<=25000000:=by
 have h1:=hdT_len r w;have h2:=lbls_len r v hl (flds_rg r w);simp only[HS.objT,HS.lineT,Z0,Z1,Z2];omega
theorem objs_len {S:HS} (r:Rg S) (v:Inv S) {ts:List (Int × Int)} (hl:ts.length<=2000000):∀ {ws:List (Int × Int)},(∀ w∈ws,(S.flds w).length<=1048576)->(ws.flatMap (S.objT ts)).length<=25000000*ws.length:=by
 intro ws
 induction ws with
 | nil=>intro _;simp
 | cons w ws ih =>
   intro h;have h1:=objT_len r v hl (h w List.mem_cons_self);have h2:=ih (fun y hy=>h y (List.mem_cons_of_mem _ hy));simp only[List.flatMap_cons,Z0,Z1];omega
theorem ct4:([0,4]:List Nat).contains 4=true:=rfl
theorem ct2:([0,4]:List Nat).contains 2=false:=rfl
theorem ct0:([0,4]:List Nat).contains 0=true:=rfl
section
variable {h:AH} {b:Nat} {L:Lay} {S:HS}
set_option maxHeartbeats 4000000 in
theorem Shape_ok (s:Hp h b L S) (v:Inv S) (r:Rg S) (hg:S.globals.length<=2000000) {u:Value} {roots:List (Int × Int)} (hu:Rds h 2 u roots.length (ww roots)) (hm:roots.length<=2000000) (hr:∀ w∈roots,rgI w.2) :
 Gets Tryd.prog 9 [.pointer (some ⟨b,0,none⟩),u] h (fun res h'=>Keep (fun _=>False) h h'/\res = .ret (if (S.graph roots).2=true then .tuple #[tv (S.shapeT roots (S.graph roots).1),iv 0] else .tuple #[tv [],iv 1])):=by
 refine Gets.ofI (keep:=false) hP hM k9 (by rfl) (fun Ψ hΨ=>?_);have oH:=Own.new h 30 h.length [.pointer (some ⟨b,0,none⟩)];have k1:Keep (fun _=>False) h (h++[row 30 h.length [.pointer (some ⟨b,0,none⟩)]]):=Keep.push _ _ _;have l1:(h++[row 30 h.length [.pointer (some ⟨b,0,none⟩)]]).length=h.length+1:=by simp
 simp only[ZG,↓reduceIte,ZA,ZB,ZC,r9,YE,YC,YO,YA,YL,YX,YS,Ya,Yb,Yl,Yf,Yg,Yi,Ym,Yk,Yt,Yn,Yz,Yp,Yq,Yd,mbl,ZD,ZE,ZF];generalize h++[row 30 h.length [.pointer (some ⟨b,0,none⟩)]]=h1 at oH k1 l1 ⊢;simp only[ZG,↓reduceIte,ZA,ZB,ZC,mbl,ZD,ZE,ZF,oH.cells.ld];refine XX_of (graphOf_ok (s.keepF k1) v hg (hu.keep k1 (fun _ _ e=>e)) (by omega)) (fun res h2 hle hn=>?_);obtain ⟨k2,bg,bi,bm,v2,rfl,g2⟩:=hn;refine .ret ?_;have k02:=k1.trans k2;have o6:=Own.new h2 62 h2.length [.pointer none];have k3:Keep (fun _=>False) h2 (h2++[row 62 h2.length [.pointer none]]):=Keep.push _ _ _;have l3:(h2++[row 62 h2.length [.pointer none]]).length=h2.length+1:=by simp
 simp only[ZG,↓reduceIte,ZA,ZB,ZC,mbl,ZD,ZE,ZF];generalize h2++[row 62 h2.length [.pointer none]]=h3 at o6 k3 l3 ⊢;refine XH_own o6 rfl (by simp [Value.cells]) rfl (fun h4 q1 q2 q3=>?_);have o64:Own h4 h2.length 62 [.pointer (some ⟨bg,0,none⟩)]:=by simpa [Value.cells] using q1
 have k24:Keep (fun _=>False) h2 h4:=k3.trans' q2 (fun c hc e=>by omega);have g4:=g2.keepF k24;have oH4:=(oH.keep k2 (fun e=>e)).keep k24 (fun e=>e);have k04:=k02.trans k24
 by_cases hok:(S.graph roots).2=true
 case neg =>
  have hok':(S.graph roots).2=false:=by simpa using hok
  rw[hok'];simp only[ZG,↓reduceIte,ZA,ZB,ZC,mbl,ZD,ZE,ZF];exact hΨ _ _ (finI_ret (.inl rfl) (rv2 rfl rfl ⟨k04,by rw[if_neg hok];rfl⟩))
 rw[hok] at g4 ⊢;generalize hts:(S.graph roots).1=ts at g4;have hlen:=g4.gd.len v;have hbg:=v.bg;have oB:=Own.new h4 bdT h4.length [.pointer none,.slice none 0 0];have k5:Keep (fun _=>False) h4 (h4++[row bdT h4.length [.pointer none,.slice none 0 0]]):=Keep.push _ _ _;have l5:(h4++[row bdT h4.length [.pointer none,.slice none 0 0]]).length=h4.length+1:=by simp
 simp only[ZG,↓reduceIte,ZA,ZB,ZC,mbl,ZD,ZE,ZF];generalize h4++[row bdT h4.length [.pointer none,.slice none 0 0]]=h5 at oB k5 l5 ⊢;have k05:=k04.trans k5;have lb5:Lb h5 b L S bg bi bm v2 ts h4.length [] (.slice none 0 0) :=
  ⟨g4.keepF k5,⟨_,oB,.inl rfl,.nil,fun q e=>e.elim,fun _=>rfl⟩,⟨g4.hp.c0 _ (Z5 _),fun e=>by have:=g4.lt _ e;omega⟩,fun q e=>e.elim⟩
 have o65:=o64.keep k5 (fun e=>e);have oH5:=oH4.keep k5 (fun e=>e);simp only[ZG,↓reduceIte,ZA,ZB,ZC,o65.cells.ld,oH5.cells.ld,mbl,ZD,ZE,ZF];have hlt4:=k04.len;have sl:([114,111,111,116,115]:Bs).length=5:=rfl;refine XX_of (line_ok lb5 r (s:=[114,111,111,116,115]) (hu.keep k05 (fun _ _ e=>e)) (fun q hq=>⟨fun e=>by have:=hu.lt q hq;omega,fun e=>e⟩) hr hm (by rw[sl,Z2];omega)) (fun res h6 hle6 hn6=>?_);obtain ⟨rfl,v6,lb6,w6⟩:=hn6;refine .ret ?_;have hn6:∀ q,bk v6 q->h4.length<q:=fun q e=>(w6.2 q e).elim (fun e=>e.elim) (fun e=>by omega)
 have kk6:Keep (fun _=>False) h4 h6:=k5.trans' w6.1 (fun c hc e=>e.elim (fun e=>by omega) (fun e=>e.elim));have o66:=o64.keep kk6 (fun e=>e);have oH6:=oH4.keep kk6 (fun e=>e);simp only[ZG,↓reduceIte,ZA,ZB,ZC,o66.cells.ld,oH6.cells.ld,mbl,ZD,ZE,ZF];refine XX_of (Globals_ok lb6.gr.hp (by omega)) (fun res h7 hle7 hn7=>?_);obtain ⟨k7,vg,rfl,og7,fg7⟩:=hn7;refine .ret ?_;have kk7:=kk6.trans k7;have lb7:=lb6.keepF k7;have o67:=o64.keep kk7 (fun e=>e);have oH7:=oH4.keep kk7 (fun e=>e);simp only[ZG,↓reduceIte,ZA,ZB,ZC,ct1,o66.cells.ld,oH6.cells.ld,o67.cells.ld,oH7.cells.ld,mbl,ZD,ZE,ZF];have sl2:([103,108,111,98,97,108,115]:Bs).length=7:=rfl;have hll6:(S.lineT ts [114,111,111,116,115] roots).length<=6+23*roots.length:=by
  have:=lbls_len r v (ts:=ts) (by omega) hr;simp only[HS.lineT,Z0,Z1,Z2];omega
 have hl6:=kk6.len;refine XX_of (line_ok lb7 r (s:=[103,108,111,98,97,108,115]) og7.rds (fun q hq=>⟨fun e=>by have:=(fg7 q hq.bk).1;omega,fun e=>by have:=(fg7 q hq.bk).1;obtain ⟨a,ba⟩:=lb6.bd;have:=ba.ow.lt q e;omega⟩) r.gl hg (by rw[sl2,Z4];omega)) (fun res h8 hle8 hn8=>?_);obtain ⟨rfl,v8,lb8,w8⟩:=hn8;refine .ret ?_;rw[Z4] at lb8;have hn8:∀ q,bk v8 q->h4.length<q:=fun q e=>(w8.2 q e).elim (hn6 q) (fun e=>by have:=kk7.len;have:=k5.len;omega)
 have kk8:Keep (fun _=>False) h4 h8:=kk7.trans' w8.1 (fun c hc e=>e.elim (fun e=>by omega) (fun e=>by have:=hn6 c e;omega));have o68:=o64.keep kk8 (fun e=>e);have oH8:=oH4.keep kk8 (fun e=>e);have hll8:(S.lineT ts [103,108,111,98,97,108,115] S.globals).length<=8+23*S.globals.length:=by
  have:=lbls_len r v (ts:=ts) (by omega) r.gl;simp only[HS.lineT,Z0,Z1,Z2];omega
 simp only[ZG,↓reduceIte,ZA,ZB,ZC,ct1,o66.cells.ld,o67.cells.ld,o68.cells.ld,oH8.cells.ld,mbl,ZD,ZE,ZF];refine XX_of (each_ok lb8.gr.og.lt) (fun res h9 hle9 hn9=>?_);obtain ⟨k9,bx,ty,rfl,ox,fx⟩:=hn9;refine .ret ?_;simp only[ZG,↓reduceIte,ZA,ZB,ZC,XC_rf,rx_n,look_cons];have kk9:=kk8.trans k9;have hbx:h4.length<bx:=by have:=k5.len;have:=w6.1.len;have:=k7.len;have:=w8.1.len;omega
 have hfn:∀ w∈ts,(S.flds w).length<=1048576:=fun w hw=>by
  obtain ⟨n,f⟩:=v.ok.fc (g4.gd.1 w hw).1 (by have:=v.ln;have:=v.sz;omega);simp [HS.flds];omega
 generalize hA:S.lineT ts [114,111,111,116,115] roots++S.lineT ts [103,108,111,98,97,108,115] S.globals=A at lb8;have hAl:A.length<=100000000:=by rw[<- hA,Z0];omega
 refine XRf_each (M:=1048577) (St:=fun i h'=>i<=ts.length /\ ∃ vb,Lb h' b L S bg bi bm v2 ts h4.length (A++(ts.take i).flatMap (S.objT ts)) vb/\Own h' bx ty [.pointer (some ⟨bg,0,none⟩)]/\(∀ q,bk vb q->h4.length<q/\q≠bx)/\Keep (fun _=>False) h4 h')
  (Fin:=fun out h'=>out = .norm /\ ∃ vb,Lb h' b L S bg bi bm v2 ts h4.length (A++ts.flatMap (S.objT ts)) vb/\(∀ q,bk vb q->h4.length<q)/\Keep (fun _=>False) h4 h') (by omega)
  ⟨Nat.zero_le _,v8,by simpa using lb8.keepF k9,ox,fun q e=>⟨hn8 q e,fun c=>by obtain ⟨a,ba⟩:=lb8.bd;have:=ba.ow.lt q e;omega⟩,kk9⟩ ?_ ?_
 ·rintro i hh ⟨hi,vb,lb,oxh,fb,kk⟩
  refine ⟨by omega,ty,bg,_,_,bi,bm,v2,ts,oxh,lb.gr.og,lb.gr.ix,hi,fun he=>?_,fun w hw hx kx=>?_⟩
  ·refine ⟨rfl,vb,?_,fun q e=>(fb q e).1,kk⟩
   rw[he,List.take_length] at lb;exact lb
  ·have hlt:i<ts.length:=(List.getElem?_eq_some_iff.1 hw).1
   have hmem:=Z6 hw;have hlies:=(lb.gr.gd.1 w hmem).1;have htk:(ts.take (i+1)).flatMap (S.objT ts)=(ts.take i).flatMap (S.objT ts)++S.objT ts w:=by
    rw[List.take_add_one,hw,List.flatMap_append];simp
   have hal:=objs_len r v (ts:=ts) (by omega) (ws:=ts.take i) (fun w hw=>hfn w (List.mem_of_mem_take hw));have hal2:(ts.take i).length<=1048577:=by rw[List.length_take];omega
   have hfw:=hfn w hmem;have hhd:=hdT_len r w;have kx0:=kk.trans kx;refine RndH.go (fun o hz=>o = .norm /\ ∃ vz,Lb hz b L S bg bi bm v2 ts h4.length (A++(ts.take (i+1)).flatMap (S.objT ts)) vz/\Wt h4.length hx vb hz vz)
    rfl (by decide) (by intro o ho;simp only[Z7,List.not_mem_nil,or_false] at ho;rcases ho with rfl|rfl<;>(intro f vs e;cases e)) (by rintro v h ⟨e,_⟩;cases e) (fun Ψ hΨ=>?_) (fun hz hlz hQ=>?_) (fun j hz hlz hj hQ=>absurd hQ.1 hj)
   ·simp only[ZG,↓reduceIte,ZA,ZB,ZC,updps]
    have oW:=Own.new hx 44 hx.length [iv 0,iv 0];have kp1:Keep (fun _=>False) hx (hx++[row 44 hx.length [iv 0,iv 0]]):=Keep.push _ _ _;generalize hx++[row 44 hx.length [iv 0,iv 0]]=hy at oW kp1 ⊢;refine XH_own oW rfl (by simp [Value.cells,wv]) rfl (fun hy2 p1 p2 p3=>?_);have oW2:Own hy2 hx.length 44 [iv w.1,iv w.2]:=by simpa [Value.cells,wv] using p1
    have kp2:Keep (fun _=>False) hx hy2:=kp1.trans' p2 (fun c hc e=>by omega);have lby:=(lb.keepF kx).keepF kp2;have oHy:=oH4.keep (kx0.trans kp2) (fun e=>e);simp only[ZG,↓reduceIte,ZA,ZB,ZC,oHy.cells.ld,oW2.cells.lds 0 2 (by simp),mbl,ZD,ZE,ZF];refine XX_of (Head_ok lby.gr.hp w) (fun res h13 hle13 hn13=>?_);obtain ⟨k13,rfl⟩:=hn13;refine .ret ?_;have oX:=Own.new h13 44 h13.length [iv 0,iv 0];have k14:Keep (fun _=>False) h13 (h13++[row 44 h13.length [iv 0,iv 0]]):=Keep.push _ _ _;simp only[ZG,↓reduceIte,ZA,ZB,ZC,wv,mbl,ZD,ZE,ZF];generalize h13++[row 44 h13.length [iv 0,iv 0]]=h14 at oX k14 ⊢;refine XH_own oX rfl (by simp [Value.cells]) rfl (fun h15 r1 r2 r3=>?_);have oX5:Own h15 h13.length 44 [iv (S.head w).1.1,iv (S.head w).1.2]:=by simpa [Value.cells] using r1
    have k15:Keep (fun _=>False) h13 h15:=k14.trans' r2 (fun c hc e=>by omega);have ky5:=k13.trans k15;have kx5:=kp2.trans ky5;have lb15:=lby.keepF ky5;have oW5:=oW2.keep ky5 (fun e=>e);have oH5':=oHy.keep ky5 (fun e=>e);simp only[ZG,↓reduceIte,ZA,ZB,ZC,oH5'.cells.ld,oW5.cells.lds 0 2 (by simp),mbl,ZD,ZE,ZF];refine XX_of (Fields_ok lb15.gr.hp v.ok w) (fun res h16 hle16 hn16=>?_);obtain ⟨k16,hn16⟩:=hn16;rw[if_pos hlies] at hn16;obtain ⟨vf,rfl,of,ff⟩:=hn16;refine .ret ?_;have kx6:=kx5.trans k16;have lb16:=lb15.keepF k16;have oX6:=oX5.keep k16 (fun e=>e);have o616:=o64.keep (kx0.trans kx6) (fun e=>e);have hrh:=head_rg r w;simp only[ZG,↓reduceIte,ZA,ZB,ZC,o616.cells.ld,oX6.cells.ld,mbl,ZD,ZE,ZF];refine XX_val (named_ok _ _) ?_;have hnl:=nmd_len (S.head w).1.1;have hil:=Lib.itoa_length_le _ hrh.1 hrh.2;have s1:sbin .add (tx (nmd (S.head w).1.1)) (⟨#[32]⟩:ByteArray)=some (tv (nmd (S.head w).1.1++[32])):=s_add (a:=nmd (S.head w).1.1) (b:=[32]) (by simp only[Z0,Z1,Z2];omega);have s2:sbin .add (tx (nmd (S.head w).1.1++[32])) (tx (Lib.itoa (S.head w).1.2))=some (tv (S.hdT w)):=s_add (by simp only[Z0,Z1,Z2];omega);simp only[ZG,↓reduceIte,ZA,ZB,ZC,ct4,ct2,ct0,ct1,o616.cells.ld,oX6.cells.ld,s1,mbl,ZD,ZE,ZF];refine XX_val (itoa_ok _ hrh.1 hrh.2 _) ?_;simp only[ZG,↓reduceIte,ZA,ZB,ZC,ct4,ct2,ct0,ct1,o616.cells.ld,oX6.cells.ld,s2,mbl,ZD,ZE,ZF];have hlb:=lb16.bd.choose_spec;refine XX_of (line_ok lb16 r of.rds (fun q hq=>⟨fun e=>by have:=(ff q hq.bk).1;have:=kx0.len;have:=kx5.len;have:=oxh.lt;have:=kx.len;omega,fun e=>by have:=(ff q hq.bk).1;have:=hlb.ow.lt q e;have:=lb15.bd.choose_spec.ow.lt q e;omega⟩) (flds_rg r w) (by omega) (by rw[Z0];omega)) (fun res h17 hle17 hn17=>?_);obtain ⟨rfl,vz,lbz,wz⟩:=hn17;refine .ret ?_;simp only[ZG,↓reduceIte,ZA,ZB,ZC,ct1];refine hΨ _ _ _ _ _ ⟨rfl,vz,?_,?_⟩
    ·rw[htk,<- List.append_assoc];exact lbz
    ·exact (Wt.refl h4.length hx vb).keepF kx6 |>.trans wz
   ·obtain ⟨_,vz,lbz,wz⟩:=hQ
    refine ⟨by omega,vz,lbz,(oxh.keep kx (fun e=>e)).keep wz.1 (fun e=>e.elim (fun e=>by omega) (fun e=>(fb _ e).2 rfl)),fun q e=>(wz.2 q e).elim (fb q) (fun e=>⟨by have:=oxh.lt;have:=kx.len;omega,fun c=>by have:=oxh.lt;have:=kx.len;omega⟩),kx0.trans' wz.1 (fun c hc e=>e.elim (fun e=>by omega) (fun e=>by have:=(fb c e).1;omega))⟩
 ·rintro out h' ⟨rfl,vb,lb,fb,kk⟩ hle
  obtain ⟨a,ba⟩:=lb.bd;simp only[ZG,↓reduceIte,ZA,ZB,ZC,mbl,ZD,ZE,ZF];refine XX_of (string_ok ba (by have:=objs_len r v (ts:=ts) (by omega) hfn;rw[Z0];omega)) (fun res h10 hle10 hn10=>?_);obtain ⟨rfl,k10⟩:=hn10;refine .ret ?_;simp only[ZG,↓reduceIte,ZA,ZB,ZC,mbl,ZD,ZE,ZF];exact hΨ _ _ (finI_ret (.inr rfl) (rv2 rfl rfl ⟨k04.trans (kk.trans' k10 (fun c hc e=>by have:=fb c e;omega)),by rw[if_pos hok,hts,HS.shapeT,hA];rfl⟩))
end
end Go.S19

namespace Go.S19
open Go Go.Eng Go.Proofs Go.Chk Go.Scn
def HS.meetC (S:HS) (n:Nat):List (Int × Int)->List (Int × Int)->Option (List (Int × Int) × Bool)
 | [],ts=>some (ts,true)
 | w::ws,ts=>if S.sound w then (match S.fol n w with
   | some x=>S.meetC n ws (if x.1=4 then num ts x else ts)
   | none=>none) else some (ts,false)
theorem meetC_eq {S:HS} {n:Nat}:∀ {ws ts:List (Int × Int)} {r:List (Int × Int) × Bool},S.meetC n ws ts=some r->S.meetT ws ts=r:=by
 intro ws
 induction ws with
 | nil=>intro ts r h;rw[HS.meetC] at h;cases h;rfl
 | cons w ws ih =>
   intro ts r h;rw[HS.meetC] at h;rw[HS.meetT]
   split at h
   ·rename_i hs
    rw[if_pos hs]
    split at h
    ·rename_i x hx
     rw[folX_eq hs hx];exact ih h
    ·cases h
   ·rename_i hs
    rw[if_neg hs];cases h;rfl
def HS.bfsC (S:HS) (m:Nat):Nat->Nat->List (Int × Int)->Bool->Option (List (Int × Int) × Bool)
 | 0,_,ts,sd=>some (ts,sd)
 | n+1,i,ts,sd=>match ts[i]? with
   | none=>some (ts,sd)
   | some w=>match S.meetC m (S.flds w) ts with
     | none=>none
     | some r=>if sd && r.2 then S.bfsC m n (i+1) r.1 true else some (r.1,false)
theorem bfsC_eq {S:HS} {m:Nat}:∀ {n i:Nat} {ts:List (Int × Int)} {sd:Bool} {r:List (Int × Int) × Bool},S.bfsC m n i ts sd=some r->S.bfsT n i ts sd=r:=by
 intro n
 induction n with
 | zero=>intro i ts sd r h;rw[HS.bfsC] at h;cases h;rfl
 | succ n ih =>
   intro i ts sd r h;rw[HS.bfsC] at h;rw[HS.bfsT]
   split at h
   ·rename_i e;rw[e];cases h;rfl
   ·rename_i w e
    rw[e]
    split at h
    ·cases h
    ·rename_i q hq
     simp only[meetC_eq hq]
     split at h
     ·rename_i c;rw[if_pos c];exact ih h
     ·rename_i c;rw[if_neg c];cases h;rfl
def HS.graphC (S:HS) (m:Nat) (roots:List (Int × Int)):Option (List (Int × Int) × Bool) :=
 match S.meetC m roots [] with
 | none=>none
 | some r=>match S.meetC m S.globals r.1 with
   | none=>none
   | some q=>S.bfsC m (S.begins.length+1) 0 q.1 (r.2 && q.2)
theorem graphC_eq {S:HS} {m:Nat} {roots:List (Int × Int)} {r:List (Int × Int) × Bool} (h:S.graphC m roots=some r):S.graph roots=r:=by
 unfold HS.graphC at h
 split at h
 ·cases h
 ·rename_i q hq
  split at h
  ·cases h
  ·rename_i q2 hq2
   rw[HS.graph,meetC_eq hq];simp only[meetC_eq hq2];exact bfsC_eq h
theorem lbl_eq {S:HS} {n:Nat} {ts:List (Int × Int)} {w x:Int × Int} (hs:S.sound w) (hx:S.fol n w=some x):S.lbl ts w=[32]++(if x.1=2 then [99] else if x.1=3 then [102] else if x.1=4 then [35] else [])++Lib.itoa (if x.1=4 then (((pos x ts).getD 0:Nat):Int) else x.2):=by
 unfold HS.lbl;rw[folX_eq hs hx]
theorem ren_eq {S:HS} {n:Nat} {ts:List (Int × Int)} {w x:Int × Int} (hs:S.sound w) (hx:S.fol n w=some x):S.ren ts w=if x.1=4 then (4,S.adr ts ((pos x ts).getD 0)) else x:=by
 unfold HS.ren;rw[folX_eq hs hx]
structure Wk (h:AH) (b:Nat) (L:Lay) (S:HS) (l:List (Nat × (Int × Int))):Prop where
 hp:Hp h b L S
 bx:∀ p,p∈l->Own h p.1 44 [iv p.2.1,iv p.2.2]/\L.cls p.1=0
section
variable {h h':AH} {b:Nat} {L L':Lay} {S S':HS} {l:List (Nat × (Int × Int))}
theorem Wk.step (w:Wk h b L S l) (k:Keep (Mine L) h h') (hp':Hp h' b L' S') (sm:Same h.length L L'):Wk h' b L' S' l :=
 ⟨hp',fun p hp=>⟨(w.bx p hp).1.keep k (by simp [Mine,(w.bx p hp).2]),(sm _ (w.bx p hp).1.lt).2 (w.bx p hp).2⟩⟩
theorem Wk.keepF (w:Wk h b L S l) (k:Keep (fun _=>False) h h'):Wk h' b L S l :=
 w.step (k.mono fun _ e=>e.elim) (w.hp.keepF k) (Same.refl _ _)
theorem Wk.ld2 (w:Wk h b L S l) {i:Nat} {p:Nat × (Int × Int)} (hp:l[i]?=some p):ldcs h p.1 0 2=some [iv p.2.1,iv p.2.2]:=by
 have:=(w.bx p (Z6 hp)).1.cells.lds 0 2 (by simp)
 simpa using this
theorem XH_box {keep:Bool} {nm:List Nat} {Φ:Out->PS->Prop} {cn:Cn} {k:List Fm} {e ll:PE} {ds:List Dfr} {d:D} (w:Wk h b L S l) {a c:Int}
 (hk:∀ h',h.length<h'.length->Wk h' b L S ((h.length,(a,c))::l)->Keep (fun _=>False) h h'->XV Tryd.prog keep nm Φ undef d cn k e ll h' ds):XH Tryd.prog keep nm Φ (stv (h++[row 44 h.length [.int .i64 0,.int .i64 0]]) 2 (.pointer (some ⟨h.length,0,none⟩)) (.agg #[iv a,iv c])) d cn k e ll ds:=by
 have on:=Own.new h 44 h.length [iv 0,iv 0];have kp:Keep (fun _=>False) h (h++[row 44 h.length [iv 0,iv 0]]):=Keep.push _ _ _;refine XH_own on rfl (by simp [Value.cells]) rfl (fun h2 q1 q2 q3=>?_);have on2:Own h2 h.length 44 [iv a,iv c]:=by simpa [Value.cells] using q1
 have k2:Keep (fun _=>False) h h2:=kp.trans' q2 (fun c hc e=>by omega);refine hk h2 (by rw[q3];simp) ⟨w.hp.keepF k2,fun p hp=>?_⟩ k2
 rcases Z7.1 hp with rfl|hp
 ·exact ⟨on2,w.hp.c0 _ (Z5 _)⟩
 ·exact (w.keepF k2).bx p hp
end
def tinyS (sz:Int) (now begins:List (Int × Int)):HS:={ infos:=tinyC.infos,texts:=[],cons:=tinyC.cons,now:=now,old:=[],begins:=begins,oldm:=[],globals:=[(3,0),(4,0)],size:=sz,side:=0 }
theorem tiny_ends:(ends tinyC).isSome=true:=by rfl
theorem tiny_new20:(HS.start tinyC [] 20).gls tinyC.tops.length=some (tinyS 20 [(6,1),(1,0)] [(0,2)]):=by rfl
theorem tiny_new300:(HS.start tinyC [] 300).gls tinyC.tops.length=some (tinyS 300 [(6,1),(1,0)] [(0,2)]):=by rfl
theorem tiny_put (v:Int):(tinyS 20 [(6,1),(1,0)] [(0,2)]).put (7,4) [(1,v),(4,0)]=((4,2),0,tinyS 20 [(6,1),(1,0),(7,4),(1,v),(4,0)] [(0,2),(2,3)]):=by rfl
abbrev TK (v:Int):HS:=tinyS 20 [(6,1),(1,0),(7,4),(1,v),(4,0)] [(0,2),(2,3)]
theorem tk_graph:(TK 97).graph [(4,2)]=([(4,2),(4,0)],true):=graphC_eq (m:=3) (by rfl)
theorem tk_reach:(TK 97).reach [(4,2),(4,0)]=5:=by rfl
theorem it97:Lib.itoa 97=[57,55]:=by decide +kernel
theorem it0:Lib.itoa 0=[48]:=by decide +kernel
theorem it1:Lib.itoa 1=[49]:=by decide +kernel
theorem it4:Lib.itoa 4=[52]:=by decide +kernel
theorem tk_shape:(TK 97).shapeT [(4,2)] [(4,2),(4,0)]=[114,111,111,116,115,32,35,48,10,103,108,111,98,97,108,115,32,102,48,32,35,49,10,99,111,110,32,52,32,57,55,32,35,49,10,105,110,102,111,32,49,10]:=by
 have e1:(TK 97).lbl [(4,2),(4,0)] (4,2)=[32,35,48]:=by
  rw[lbl_eq (n:=3) (x:=(4,2)) (of_decide_eq_true rfl) rfl,show (pos (4,2) [(4,2),(4,0)])=some 0 from rfl];simp [it0]
 have e2:(TK 97).lbl [(4,2),(4,0)] (3,0)=[32,102,48]:=by
  rw[lbl_eq (n:=3) (x:=(3,0)) (of_decide_eq_true rfl) rfl];simp [it0]
 have e3:(TK 97).lbl [(4,2),(4,0)] (4,0)=[32,35,49]:=by
  rw[lbl_eq (n:=3) (x:=(4,0)) (of_decide_eq_true rfl) rfl,show (pos (4,0) [(4,2),(4,0)])=some 1 from rfl];simp [it1]
 have e4:(TK 97).lbl [(4,2),(4,0)] (1,97)=[32,57,55]:=by
  rw[lbl_eq (n:=3) (x:=(1,97)) (of_decide_eq_true rfl) rfl];simp [it97]
 have f1:(TK 97).flds (4,2)=[(1,97),(4,0)]:=by rfl
 have f2:(TK 97).flds (4,0)=[]:=by rfl
 have g1:(TK 97).head (4,2)=((7,4),0):=by rfl
 have g2:(TK 97).head (4,0)=((6,1),0):=by rfl
 have gg:(TK 97).globals=[(3,0),(4,0)]:=rfl;simp [HS.shapeT,HS.lineT,HS.objT,HS.hdT,e1,e2,e3,e4,f1,f2,g1,g2,gg,nmd,it4,it1]
theorem tk_inv:Inv (TK 97):=by
 have h:=((Inv.start (C:=tinyC) (texts:=[]) (words:=20) (by decide) (by omega) (by omega)).gls tiny_new20).put (7,4) [(1,97),(4,0)];rw[tiny_put] at h;exact h
instance (n:Int):Decidable (rgI n):=by unfold rgI;infer_instance
theorem tk_rg:Rg (TK 97):=⟨by decide,by decide,by decide⟩
theorem tk_tx:Tx (TK 97):=by unfold Tx;decide
set_option maxHeartbeats 2000000 in
theorem wakes_ok (h:AH):Gets Tryd.prog 7 [] h (fun res h'=>Keep (fun _=>False) h h'/\res = .ret (.bool true)):=by
 refine Gets.of (keep:=false) hP (draw_ok hM) k7 (by rfl) (fun Ψ hΨ=>?_);simp only[ZG,↓reduceIte,ZA,ZB,ZC,r7,YE,YC,YO,YA,YL,YX,YS,Ya,Yb,Yl,Yf,Yg,Yi,Ym,Yk,Yt,Yn,Yz,Yp,Yq,Yd,mbl,ZD,ZE,ZF];refine XX_of (tiny_ok h) (fun res h1 hle1 hn=>?_);obtain ⟨k1,vi,vc,vp,vk,rfl,im,_,_,_⟩:=hn;refine .ret ?_;simp only[ZG,↓reduceIte,ZA,ZB,ZC,mbl,ZD,ZE,ZF];refine XX_of (New_ok (C:=tinyC) (texts:=[]) im (by refine ⟨?_,?_,?_,?_⟩<;>decide) .nil (by decide) (by decide) 20) (fun res h2 hle2 hn=>?_);obtain ⟨k2,hn⟩:=hn;unfold NewO at hn;rw[if_pos ⟨tiny_ends,by omega,by omega⟩,tiny_new20] at hn;obtain ⟨b,L0,rfl,hp0,z0⟩:=hn;refine .ret ?_;have k02:=k1.trans k2;have w:Wk h2 b L0 (tinyS 20 [(6,1),(1,0)] [(0,2)]) []:=⟨hp0,fun p hp=>by cases hp⟩
 simp only[ZG,↓reduceIte,ZA,ZB,ZC,mbl,ZD,ZE,ZF];have oR:=Own.new h2 44 h2.length [iv 1,iv 97,iv 4,iv 0];have kR:Keep (fun _=>False) h2 (h2++[row 44 h2.length [iv 1,iv 97,iv 4,iv 0]]):=Keep.push _ _ _;generalize h2++[row 44 h2.length [iv 1,iv 97,iv 4,iv 0]]=h3 at oR kR ⊢
 replace w:=w.keepF kR
 refine XX_of (Put_ok w.hp (by rfl) (7,4) (ys:=[(1,97),(4,0)]) (.mk oR.cells (by simp) rfl) (by decide) (fun _=>by decide)) (fun res h4 hle4 hn=>?_);rw[tiny_put] at hn;obtain ⟨kc,rfl,L1,s1,sm⟩:=hn;refine .ret ?_;have z1:∀ q,q<h1.length->L1.cls q=0:=fun q hq=>(sm q (by have:=k2.len;have:=kR.len;omega)).2 (z0 q hq)
 have k04:Keep (fun _=>False) h h4:=(k02.trans kR).trans' kc (fun c hc e=>e (z0 c (by have:=k1.len;omega)))
 replace w:=w.step kc s1 sm
 simp only[ZG,↓reduceIte,ZA,ZB,ZC,wv,mbl,ZD,ZE,ZF];refine XH_box w (fun h5 hlt w5 kb=>?_);have k05:=k04.trans kb;simp only[ZG,↓reduceIte,ZA,ZB,ZC,mbl,ZD,ZE,ZF,w5.ld2 (i:=0) rfl];have oU:=Own.new h5 44 h5.length [iv 4,iv 2];have kU:Keep (fun _=>False) h5 (h5++[row 44 h5.length [iv 4,iv 2]]):=Keep.push _ _ _;generalize h5++[row 44 h5.length [iv 4,iv 2]]=h6 at oU kU ⊢;have w6:=w5.keepF kU;have s6:Hp h6 b L1 (TK 97):=w6.hp;refine XX_of (Shape_ok s6 tk_inv tk_rg (by decide) (roots:=[(4,2)]) (.mk oU.cells (by simp) rfl) (by decide) (by decide)) (fun res h7 hle7 hn=>?_);rw[tk_graph,tk_shape] at hn;obtain ⟨k67,rfl⟩:=hn;refine .ret ?_;have w7:=w6.keepF k67;have k07:=(k05.trans kU).trans k67;simp only[ZG,↓reduceIte,ZA,ZB,ZC,mbl,ZD,ZE,ZF,w7.ld2 (i:=0) rfl];have oV:=Own.new h7 44 h7.length [iv 4,iv 2];have kV:Keep (fun _=>False) h7 (h7++[row 44 h7.length [iv 4,iv 2]]):=Keep.push _ _ _;generalize h7++[row 44 h7.length [iv 4,iv 2]]=h8 at oV kV ⊢;have w8:=w7.keepF kV;have s8:Hp h8 b L1 (TK 97):=w8.hp;refine XX_of (Reach_ok s8 tk_inv (by decide) (roots:=[(4,2)]) (.mk oV.cells (by simp) rfl) (by decide)) (fun res h9 hle9 hn=>?_);rw[tk_graph,tk_reach] at hn;obtain ⟨k89,rfl⟩:=hn;refine .ret ?_;have w9:=w8.keepF k89;have k09:=(k07.trans kV).trans k89;simp only[ZG,↓reduceIte,ZA,ZB,ZC,mbl,ZD,ZE,ZF,w9.ld2 (i:=0) rfl];have oX:=Own.new h9 44 h9.length [iv 4,iv 2];have kX:Keep (fun _=>False) h9 (h9++[row 44 h9.length [iv 4,iv 2]]):=Keep.push _ _ _;have zX:L1.cls h9.length=0:=w9.hp.c0 _ (Z5 _);have eX:∀ q,rb (.slice (some ⟨h9.length,0,none⟩) 1 1) q->q=h9.length:=fun q e=>e.bk
 generalize h9++[row 44 h9.length [iv 4,iv 2]]=h10 at oX kX ⊢;have w10:=w9.keepF kX;have s10:Hp h10 b L1 (TK 97):=w10.hp;refine XX_of (Collect_ok s10 tk_inv (by decide) (roots:=[(4,2)]) (.mk oX.cells (by simp) rfl) (by decide) (fun q hq=>by rw[eX q hq];exact zX)) (fun res h11 hle11 hn=>?_);obtain ⟨kc2,hn⟩:=hn;rw[if_pos (by rw[tk_graph])] at hn;obtain ⟨v',news,S',L2,rfl,cr,s11,iv11,sm2,rw11⟩:=hn;refine .ret ?_;have cd:=coll_cd tk_inv tk_tx (by rw[tk_graph]) cr iv11;rw[tk_graph] at cd;have hnw:news=[(4,0)]:=by
  rw[cd.nw,Z8,Za,ren_eq (n:=3) (x:=(4,2)) (of_decide_eq_true rfl) rfl];rfl
 subst hnw;have k011:Keep (fun _=>False) h h11:=(k09.trans kX).trans' kc2 (fun c hc e=>e (z1 c (by have:=k1.len;omega)));obtain ⟨b1,o1,c1,e1,_,hl1⟩:=rds_w rw11.o.rds (i:=0) (by decide) (by decide);subst e1;have tr:((tx ([114,111,111,116,115,32,35,48,10,103,108,111,98,97,108,115,32,102,48,32,35,49,10,99,111,110,32,52,32,57,55,32,35,49,10,105,110,102,111,32,49,10]:Bs)).toList == (⟨#[114,111,111,116,115,32,35,48,10,103,108,111,98,97,108,115,32,102,48,32,35,49,10,99,111,110,32,52,32,57,55,32,35,49,10,105,110,102,111,32,49,10]⟩:ByteArray).toList)=true:=by decide +kernel
 have dl:(((([((4:Int),(0:Int))]:List (Int × Int)).length:Nat):Int)=1)=True:=by simp
 have d0:((0:Int)<((([((4:Int),(0:Int))]:List (Int × Int)).length:Nat):Int))=True:=by simp
 have d00:((0:Int)<=0)=True:=by simp
 rw[show wat [((4:Int),(0:Int))] 0=(4,0) from rfl] at hl1;simp only[ZG,↓reduceIte,ZA,ZB,ZC,mbl,ZD,ZE,ZF,hl1,tr,dl,d0,d00,and_self];exact hΨ _ _ (fin_ret (rv1 rfl ⟨k011,rfl⟩))
end Go.S19

namespace Go.S19
open Go Go.Eng Go.Proofs Go.Chk Go.Scn
section
variable {h:AH} {b:Nat} {L:Lay} {S:HS}
noncomputable def HS.becX (S:HS) (w x:Int × Int):Int × HS:=open Classical in S.become w x (if h:∃ y m,S.fol m x=some y then h.choose else w)
theorem becX_eq {w x y:Int × Int} (hy:S.lies w/\(S.hd w).1=11/\S.sound x -> ∃ m,S.fol m x=some y):S.become w x y=S.becX w x:=by
 classical
 unfold HS.becX
 by_cases c:S.lies w/\(S.hd w).1=11/\S.sound x
 ·obtain ⟨m,hm⟩:=hy c
  have hex:∃ y m,S.fol m x=some y:=⟨y,m,hm⟩
  rw[dif_pos hex];obtain ⟨m2,hm2⟩:=hex.choose_spec;rw[<- fol_one hm hm2]
 ·have no:∀ z,S.become w x z=(1,S):=fun z=>by rw[HS.become,if_neg (fun e=>c ⟨e.1,e.2.1,e.2.2.1⟩)]
  rw[no,no]
theorem xHole_ok (s:Hp h b L S) (v:Inv S) (w:Int × Int):Gets Tryd.prog 18 [.pointer (some ⟨b,0,none⟩),wv w] h (fun res h'=>Keep (Mine L) h h'/\res = .ret (iv (S.hole w).1) /\ ∃ L',Hp h' b L' (S.hole w).2/\Same h.length L L') :=
 (Hole_ok s v.ok w).mono fun res h' _ ⟨a,c,d⟩=>⟨a,c,L,d,Same.refl _ _⟩
theorem xBecome_ok (s:Hp h b L S) (v:Inv S) (w x:Int × Int):Gets Tryd.prog 19 [.pointer (some ⟨b,0,none⟩),wv w,wv x] h (fun res h'=>Keep (Mine L) h h'/\res = .ret (iv (S.becX w x).1) /\ ∃ L',Hp h' b L' (S.becX w x).2/\Same h.length L L') :=
 (Become_ok s w x (fun _ _ hs=>v.tm x hs)).mono fun res h' _ ⟨a,y,c,d,e⟩=>by
  rw[becX_eq c] at d e;exact ⟨a,d,L,e,Same.refl _ _⟩
theorem inv_becX (v:Inv S) (w x:Int × Int):Inv (S.becX w x).2:=by
 by_cases c:S.lies w/\(S.hd w).1=11/\S.sound x
 ·obtain ⟨m,y,hy⟩:=v.tm x c.2.2
  rw[<- becX_eq (y:=y) (fun _=>⟨m,hy⟩)]
  rcases become_cases v w x y with ⟨h1,_⟩|⟨k,hc,_,hm,h2,_,_,h1⟩
  ·rw[h1];exact v
  ·rw[h1];exact v.bec hc hy hm h2
 ·rw[<- becX_eq (y:=w) (fun e=>absurd e c),HS.become,if_neg (fun e=>c ⟨e.1,e.2.1,e.2.2.1⟩)];exact v
end
def bgs (n:Nat):List (Int × Int):=(List.range (n+1)).map fun j:Nat=>(2*(j:Int),2)
theorem bgs_mem {n j:Nat} (h:j<=n):(2*(j:Int),(2:Int))∈bgs n:=Z9.2 ⟨j,List.mem_range.2 (by omega),rfl⟩
theorem bgs_succ (n:Nat):bgs (n+1)=bgs n++[(2+2*(n:Int),2)]:=by
 unfold bgs;rw[List.range_succ,List.map_append];simp only[Z8,Za]
 congr 3
 omega
structure Ch1 (S:HS) (i:Nat):Prop where
 e:∃ now,S=tinyS 300 now (bgs i)
 v:Inv S
 ln:S.now.length=2+2*i
 h0:gx S.now 0=(6,1)
 h1:∀ j:Nat,j<i->gx S.now (2+2*j)=(11,2)
theorem Ch1.zero:Ch1 (tinyS 300 [(6,1),(1,0)] [(0,2)]) 0 :=
 ⟨⟨_,rfl⟩,(Inv.start (C:=tinyC) (texts:=[]) (words:=300) (by decide) (by omega) (by omega)).gls tiny_new300,rfl,rfl,fun j h=>by omega⟩
section
variable {S:HS} {n i:Nat}
theorem gx_old {a c:List (Int × Int)} {j:Int} (h0:0<=j) (h:j<a.length):gx (a++c) j=gx a j:=by
 unfold gx;rw[if_pos (by simp;omega),if_pos ⟨h0,h⟩];unfold wat;rw[List.getElem?_append_left (by omega)]
theorem Ch1.put (c:Ch1 S i) (hi:i<40):S.put (10,(i:Int)) []=((4,2+2*(i:Int)),0,S.laid [(10,(i:Int)),(1,0)]):=by
 obtain ⟨⟨now,rfl⟩,v,ln,h0,h1⟩:=c;have hl:((tinyS 300 now (bgs i)).now.length:Int)=2+2*i:=by rw[ln];omega
 have ha:(tinyS 300 now (bgs i)).all (10,(i:Int)) []=[(10,(i:Int)),(1,0)]:=by
  unfold HS.all;rw[if_pos (.inr rfl)];rfl
 have h2:¬ (300-(2+2*(i:Int))<2):=by omega
 unfold HS.put;rw[if_pos ⟨.inr (.inr (.inr (.inr ⟨rfl,by simp,rfl⟩))),fun y hy=>by cases hy⟩,ha,hl,if_neg (by show ¬ (300-(2+2*(i:Int))<_);simp only[Z1,Z2];omega)]
theorem Ch1.hole (c:Ch1 S i) (hi:i<40):∃ T,(S.laid [(10,(i:Int)),(1,0)]).hole (4,2+2*(i:Int))=(0,T)/\Ch1 T (i+1):=by
 have hp:=c.put hi;have v2:Inv (S.laid [(10,(i:Int)),(1,0)]):=by have:=c.v.put (10,(i:Int)) [];rwa [hp] at this
 obtain ⟨⟨now,rfl⟩,v,ln,h0,h1⟩:=c;have hbg:(HS.laid (tinyS 300 now (bgs i)) [(10,(i:Int)),(1,0)])=tinyS 300 (now++[(10,(i:Int)),(1,0)]) (bgs (i+1)):=by
  rw[bgs_succ];have:((now.length:Nat):Int)=2+2*(i:Int):=by have:now.length=2+2*i:=ln;omega
  simp only[HS.laid,tinyS,this];rfl
 rw[hbg] at v2 ⊢;have lnn:now.length=2+2*i:=ln;have hln:((now++[(10,(i:Int)),(1,0)]).length:Int)=4+2*i:=by simp [lnn];omega
 have hm:(2+2*(i:Int),(2:Int))∈bgs (i+1):=by rw[bgs_succ];simp
 have hg:mget (2+2*(i:Int)) (bgs (i+1))=some 2:=mem_mget v2.tn hm;have hx:gx (now++[(10,(i:Int)),(1,0)]) (2+2*(i:Int))=(10,(i:Int)):=by
  have:=gx_laid (a:=now) (c:=[(10,(i:Int)),(1,0)]) (j:=0) (by omega) (by simp);rw[lnn] at this;have e:(((2+2*i:Nat):Int)+0)=2+2*(i:Int):=by omega
  rw[e] at this;exact this
 have hh:(tinyS 300 (now++[(10,(i:Int)),(1,0)]) (bgs (i+1))).hole (4,2+2*(i:Int))=(0,(tinyS 300 (now++[(10,(i:Int)),(1,0)]) (bgs (i+1))).setw (2+2*(i:Int)) (11,2)):=by
  unfold HS.hole;rw[if_pos ⟨⟨rfl,by show (mget _ (bgs (i+1))).isSome=true;rw[hg];rfl⟩,.inr (.inl (by show (gx _ _).1=10;rw[show (tinyS 300 (now++[(10,(i:Int)),(1,0)]) (bgs (i+1))).now=now++[(10,(i:Int)),(1,0)] from rfl,hx]))⟩];unfold HS.setp;rw[if_pos ⟨by omega,by show _<((now++[(10,(i:Int)),(1,0)]).length:Int);rw[hln];omega⟩,show (mget (2+2*(i:Int)) (tinyS 300 (now++[(10,(i:Int)),(1,0)]) (bgs (i+1))).begins)=some 2 from hg];rfl
 have v3:=v2.hole (4,2+2*(i:Int));rw[hh] at v3;refine ⟨_,hh,⟨_,rfl⟩,v3,?_,?_,fun j hj=>?_⟩
 ·show ((now++[(10,(i:Int)),(1,0)]).set _ _).length=_
  rw[Z3];simp [lnn];omega
 ·show gx ((now++[(10,(i:Int)),(1,0)]).set _ _) 0=_
  rw[gx_set (by omega),if_neg (by omega),gx_old (by omega) (by omega)];exact h0
 ·show gx ((now++[(10,(i:Int)),(1,0)]).set _ _) _=_
  rw[gx_set (by omega)]
  by_cases e:j=i
  ·subst e;rw[if_pos rfl]
  ·rw[if_neg (by omega),gx_old (by omega) (by omega)];exact h1 j (by omega)
structure Ch2 (S:HS) (n i:Nat) (v:Int):Prop where
 e:∃ now,S=tinyS 300 now (bgs n++[(2+2*(n:Int),3)])
 iv:Inv S
 ln:S.now.length=5+2*n
 h0:gx S.now 0=(6,1)
 hj:∀ j:Nat,j<n->gx S.now (2+2*j)=if j<i then (12,0) else (11,2)
 hn:∀ j:Nat,j<i->gx S.now (3+2*j)=(4,4+2*(j:Int))
 he:gx S.now (2+2*n)=(7,4)
 he1:gx S.now (3+2*n)=(1,v)
 he2:gx S.now (4+2*n)=(4,2)
theorem Ch1.fin (c:Ch1 S n) (hn:n<=40) (h1:1<=n) (v:Int):S.put (7,4) [(1,v),(4,2)]=((4,2+2*(n:Int)),0,S.laid [(7,4),(1,v),(4,2)])/\Ch2 (S.laid [(7,4),(1,v),(4,2)]) n 0 v:=by
 obtain ⟨⟨now,rfl⟩,iv,ln,h0,hj⟩:=c;have hl:((tinyS 300 now (bgs n)).now.length:Int)=2+2*n:=by rw[ln];omega
 have lnn:now.length=2+2*n:=ln;have ha:(tinyS 300 now (bgs n)).all (7,4) [(1,v),(4,2)]=[(7,4),(1,v),(4,2)]:=by
  unfold HS.all;rw[if_neg (fun e=>e.elim (fun e=>absurd e.1 (by decide)) (fun e=>absurd e (by decide)))]
 have hg:mget 2 (bgs n)=some 2:=mem_mget iv.tn (bgs_mem (n:=n) (j:=1) h1);have hp:(tinyS 300 now (bgs n)).put (7,4) [(1,v),(4,2)]=((4,2+2*(n:Int)),0,(tinyS 300 now (bgs n)).laid [(7,4),(1,v),(4,2)]):=by
  unfold HS.put
  suffices hs:∀ y∈[((1:Int),v),(4,2)],(tinyS 300 now (bgs n)).sound y by
   rw[if_pos ⟨.inr (.inl ⟨rfl,by decide,by show (4:Int)<5;omega,by show (0:Int)<2;omega,rfl⟩),hs⟩,ha,hl,if_neg (by show ¬ (300-(2+2*(n:Int))<_);simp only[Z1,Z2];omega)]
  intro y hy;simp only[Z7,List.not_mem_nil,or_false] at hy
  rcases hy with rfl|rfl
  ·exact .inl (.inl rfl)
  ·exact .inr ⟨rfl,by show (mget 2 (bgs n)).isSome=true;rw[hg];rfl⟩
 have v2:=iv.put (7,4) [(1,v),(4,2)];rw[hp] at v2;have gl:∀ j:Nat,j<3->gx (now++[(7,4),(1,v),(4,2)]) (2+2*(n:Int)+j)=gx [(7,4),(1,v),(4,2)] (j:Int):=fun j hj=>by
  have:=gx_laid (a:=now) (c:=[(7,4),(1,v),(4,2)]) (j:=(j:Int)) (by omega) (by simp;omega);rw[lnn] at this;have e:(((2+2*n:Nat):Int)+(j:Int))=2+2*(n:Int)+j:=by omega
  rw[e] at this;exact this
 refine ⟨hp,⟨now++[(7,4),(1,v),(4,2)],?_⟩,v2,?_,?_,fun j hjn=>?_,fun j h=>by omega,?_,?_,?_⟩
 ·have:((now.length:Nat):Int)=2+2*(n:Int):=by omega
  simp only[HS.laid,tinyS,this];rfl
 ·show (now++[(7,4),(1,v),(4,2)]).length=_
  simp [lnn];omega
 ·show gx (now++_) 0=_
  rw[gx_old (by omega) (by omega)];exact h0
 ·show gx (now++_) _=_
  rw[if_neg (by omega),gx_old (by omega) (by omega)];exact hj j hjn
 ·have:=gl 0 (by omega)
  rw[show 2+2*(n:Int)+((0:Nat):Int)=2+2*n by omega] at this;exact this
 ·have:=gl 1 (by omega)
  rw[show 2+2*(n:Int)+((1:Nat):Int)=3+2*n by omega] at this;exact this
 ·have:=gl 2 (by omega)
  rw[show 2+2*(n:Int)+((2:Nat):Int)=4+2*n by omega] at this;exact this
variable {v:Int}
theorem Ch2.bg (c:Ch2 S n i v):S.begins=bgs n++[(2+2*(n:Int),3)]:=by obtain ⟨⟨now,rfl⟩,_⟩:=c;rfl
theorem Ch2.mg (c:Ch2 S n i v) {j:Nat} (hj:j<=n):mget (2*(j:Int)) S.begins=some 2 :=
 mem_mget c.iv.tn (x:=(2*(j:Int),2)) (by rw[c.bg];exact List.mem_append_left _ (bgs_mem hj))
theorem Ch2.me (c:Ch2 S n i v):mget (2+2*(n:Int)) S.begins=some 3 :=
 mem_mget c.iv.tn (x:=(2+2*(n:Int),3)) (by rw[c.bg];simp)
theorem Ch2.lies (c:Ch2 S n i v) {j:Nat} (hj:j<=n+1):S.lies (4,2*(j:Int)):=by
 refine ⟨rfl,?_⟩
 by_cases e:j=n+1
 ·subst e
  have:=c.me;rw[show (4,2*((n+1:Nat):Int)).2=2+2*(n:Int) by simp only;omega,this];rfl
 ·rw[show (4,2*(j:Int)).2=2*(j:Int) from rfl,c.mg (by omega)];rfl
theorem Ch2.step (c:Ch2 S n i v) (hi:i<n):∃ T,S.becX (4,2+2*(i:Int)) (4,4+2*(i:Int))=(0,T)/\Ch2 T n (i+1) v:=by
 have l1:=c.lies (j:=i+1) (by omega);have l2:=c.lies (j:=i+2) (by omega);rw[show 2*((i+1:Nat):Int)=2+2*(i:Int) by omega] at l1;rw[show 2*((i+2:Nat):Int)=4+2*(i:Int) by omega] at l2;have h11:gx S.now (2+2*(i:Int))=(11,2):=by rw[c.hj i hi,if_neg (by omega)]
 have hx:(gx S.now (4+2*(i:Int))).1≠12:=by
  by_cases e:i+1<n
  ·have:=c.hj (i+1) e
   rw[if_neg (by omega),show 2+2*((i+1:Nat):Int)=4+2*(i:Int) by omega] at this;rw[this];decide
  ·have:=c.he
   rw[show 2+2*(n:Int)=4+2*(i:Int) by omega] at this;rw[this];decide
 have hf:S.fol 1 (4,4+2*(i:Int))=some (4,4+2*(i:Int)):=by rw[HS.fol,if_pos rfl,if_neg hx]
 have ln:=c.ln;have hb:S.become (4,2+2*(i:Int)) (4,4+2*(i:Int)) (4,4+2*(i:Int))=(0,S.bec (4,2+2*(i:Int)) (4,4+2*(i:Int))):=by
  rw[HS.become,if_pos ⟨l1,by show (gx S.now _).1=11;rw[h11],.inr l2,fun e=>by have:=congrArg Prod.snd e;simp only at this;omega⟩];have e1:S.setp (2+2*(i:Int)) (12,0)=(0,S.setw (2+2*(i:Int)) (12,0)):=by rw[HS.setp,if_pos ⟨by omega,by omega⟩]
  rw[show ((4,2+2*(i:Int)):Int × Int).2=2+2*(i:Int) from rfl,e1,HS.setp,if_pos ⟨by omega,by show _<((S.now.set _ _).length:Int);rw[Z3];omega⟩];rfl
 have hX:=becX_eq (S:=S) (w:=(4,2+2*(i:Int))) (x:=(4,4+2*(i:Int))) (y:=(4,4+2*(i:Int))) (fun _=>⟨1,hf⟩);rw[hb] at hX;have v2:=inv_becX c.iv (4,2+2*(i:Int)) (4,4+2*(i:Int));rw[<- hX] at v2;have hg:∀ j:Int,gx (S.bec (4,2+2*(i:Int)) (4,4+2*(i:Int))).now j=if j=3+2*(i:Int) then (4,4+2*(i:Int)) else if j=2+2*(i:Int) then (12,0) else gx S.now j:=fun j=>by
  show gx ((S.now.set (2+2*(i:Int)).toNat (12,0)).set (2+2*(i:Int)+1).toNat (4,4+2*(i:Int))) j=_
  rw[gx_set ⟨by omega,by rw[Z3];omega⟩,gx_set ⟨by omega,by omega⟩,show 2+2*(i:Int)+1=3+2*i by omega]
 refine ⟨_,hX.symm,?_,v2,?_,?_,fun j hj=>?_,fun j hj=>?_,?_,?_,?_⟩
 ·obtain ⟨now,rfl⟩:=c.e
  exact ⟨_,rfl⟩
 ·show ((S.now.set _ _).set _ _).length=_
  rw[Z3,Z3];exact ln
 ·rw[hg,if_neg (by omega),if_neg (by omega)];exact c.h0
 ·rw[hg,if_neg (by omega)]
  by_cases e:j=i
  ·subst e;rw[if_pos rfl,if_pos (by omega)]
  ·rw[if_neg (by omega),c.hj j hj]
   by_cases e2:j<i
   ·rw[if_pos e2,if_pos (by omega)]
   ·rw[if_neg e2,if_neg (by omega)]
 ·rw[hg]
  by_cases e:j=i
  ·subst e;rw[if_pos rfl]
  ·rw[if_neg (by omega),if_neg (by omega)];exact c.hn j (by omega)
 ·rw[hg,if_neg (by omega),if_neg (by omega)];exact c.he
 ·rw[hg,if_neg (by omega),if_neg (by omega)];exact c.he1
 ·rw[hg,if_neg (by omega),if_neg (by omega)];exact c.he2
theorem Ch2.fol (c:Ch2 S n n v):∀ (d:Nat) {j:Nat},j+d=n->S.fol (d+1) (4,2+2*(j:Int))=some (4,2+2*(n:Int)):=by
 intro d
 induction d with
 | zero =>
   intro j hj;have e:j=n:=by omega
   subst e;rw[HS.fol,if_pos rfl,if_neg (by show ¬ (gx S.now (2+2*(j:Int))).1=12;rw[c.he];decide)]
 | succ d ih =>
   intro j hj;have h1:=c.hj j (by omega);rw[if_pos (by omega)] at h1;rw[HS.fol,if_pos rfl,if_pos (by show (gx S.now (2+2*(j:Int))).1=12;rw[h1]),show (((4:Int),2+2*(j:Int)).2+1)=3+2*(j:Int) by simp only;omega,c.hn j (by omega),show 4+2*(j:Int)=2+2*((j+1:Nat):Int) by omega];exact ih (by omega)
theorem Ch2.folX (c:Ch2 S n n v) {j:Nat} (hj:j<=n):S.folX (4,2+2*(j:Int))=((4,2+2*(n:Int)),0):=by
 have l1:=c.lies (j:=j+1) (by omega);rw[show 2*((j+1:Nat):Int)=2+2*(j:Int) by omega] at l1;exact folX_eq (.inr l1) (c.fol (n-j) (by omega))
theorem Ch2.out (c:Ch2 S n n v) (h1:1<=n):S.graph [(4,2),(1,v),(4,2*(n:Int))]=([(4,2+2*(n:Int)),(4,0)],true)/\S.reach [(4,2+2*(n:Int)),(4,0)]=5/\S.flds (4,2+2*(n:Int))=[(1,v),(4,2)]/\Tx S /\
 S.ren [(4,2+2*(n:Int)),(4,0)] (4,2)=(4,0)/\S.ren [(4,2+2*(n:Int)),(4,0)] (1,v)=(1,v)/\S.ren [(4,2+2*(n:Int)),(4,0)] (4,2*(n:Int))=(4,0):=by
 have f2:S.folX (4,2)=((4,2+2*(n:Int)),0):=by have:=c.folX (j:=0) (by omega);simpa using this
 have fl:S.folX (4,2*(n:Int))=((4,2+2*(n:Int)),0):=by
  have:=c.folX (j:=n-1) (by omega)
  rwa [show 2+2*((n-1:Nat):Int)=2*(n:Int) by omega] at this
 have s2:S.sound (4,2):=by have:=c.lies (j:=1) (by omega);exact .inr (by simpa using this)
 have sl:S.sound (4,2*(n:Int)):=.inr (c.lies (j:=n) (by omega));have s0:S.sound (4,0):=by have:=c.lies (j:=0) (by omega);exact .inr (by simpa using this)
 have sv:S.sound (1,v):=.inl (.inl rfl);have fv:S.folX (1,v)=((1,v),0):=folX_eq (m:=1) sv rfl;have f0:S.folX (4,0)=((4,0),0):=folX_eq (m:=1) s0 (by rw[HS.fol,if_pos rfl,if_neg (by show ¬ (gx S.now 0).1=12;rw[c.h0];decide)]);have sf:S.sound (3,0):=by obtain ⟨now,rfl⟩:=c.e;exact .inl (.inr (.inr ⟨rfl,Int.le_refl 0,(by show (0:Int)<2;omega),rfl,rfl⟩))
 have ff:S.folX (3,0)=((3,0),0):=folX_eq (m:=1) sf rfl;have gg:S.globals=[(3,0),(4,0)]:=by obtain ⟨now,rfl⟩:=c.e;rfl
 have n0:¬ (4,(0:Int))∈[((4:Int),2+2*(n:Int))]:=by
  rw[Zb];intro e;have:=congrArg Prod.snd e;simp only at this;omega
 have g1:S.meetT [(4,2),(1,v),(4,2*(n:Int))] []=([(4,2+2*(n:Int))],true):=by
  simp [HS.meetT,s2,sv,sl,f2,fv,fl,num]
 have g2:S.meetT S.globals [(4,2+2*(n:Int))]=([(4,2+2*(n:Int)),(4,0)],true):=by
  rw[gg];simp only[HS.meetT,sf,s0,ff,f0,num,n0,if_true,if_false,List.cons_append,Z4,show ((3:Int)=4)=False by simp]
 have d1:S.flds (4,2+2*(n:Int))=[(1,v),(4,2)]:=by
  have e1:S.fcount (4,2+2*(n:Int))=2:=by
   rw[HS.fcount,show ((4:Int),2+2*(n:Int)).2=2+2*(n:Int) from rfl,c.he,if_neg (by decide),HS.count,if_neg (by decide),if_neg (by decide),show ((4:Int),2+2*(n:Int)).2=2+2*(n:Int) from rfl,c.me];rfl
  rw[HS.flds,e1]
  show [gx S.now (2+2*(n:Int)+1+((0:Nat):Int)),gx S.now (2+2*(n:Int)+1+((1:Nat):Int))]=_
  rw[show 2+2*(n:Int)+1+((0:Nat):Int)=3+2*n by omega,show 2+2*(n:Int)+1+((1:Nat):Int)=4+2*n by omega,c.he1,c.he2]
 have d0:S.flds (4,0)=[]:=by
  have e1:S.fcount (4,0)=0:=by
   rw[HS.fcount,show ((4:Int),(0:Int)).2=0 from rfl,c.h0,if_neg (by decide),HS.count,if_pos (by decide)];obtain ⟨now,rfl⟩:=c.e;rfl
  rw[HS.flds,e1];rfl
 have g3:S.meetT [(1,v),(4,2)] [(4,2+2*(n:Int)),(4,0)]=([(4,2+2*(n:Int)),(4,0)],true):=by
  simp [HS.meetT,s2,sv,f2,fv,num]
 have hbl:2<=S.begins.length:=by rw[c.bg];simp [bgs]
 refine ⟨?_,?_,d1,?_,?_,?_,?_⟩
 ·rw[HS.graph,g1]
  simp only[g2,Bool.and_self];obtain ⟨m,hm⟩:∃ m,S.begins.length+1=m+3:=⟨S.begins.length-2,by omega⟩
  rw[hm,bfs_step (w:=(4,2+2*(n:Int))) rfl,d1,g3]
  show S.bfsT (m+2) 1 [(4,2+2*(n:Int)),(4,0)] true=_
  rw[bfs_step (w:=(4,0)) rfl,d0]
  show S.bfsT (m+1) 2 [(4,2+2*(n:Int)),(4,0)] true=_
  exact bfs_end (Z5 _)
 ·have m0:=c.mg (j:=0) (by omega)
  have me:=c.me;simp only[HS.reach,Z8,Za,HS.wn,me];rw[show (mget 0 S.begins)=some 2 from m0];rfl
 ·intro q hq h9
  rw[c.bg] at hq
  rcases List.mem_append.1 hq with e|e
  ·obtain ⟨j,hj,rfl⟩:=Z9.1 e
   have hj:=List.mem_range.1 hj
   by_cases hj0:j=0
   ·subst hj0
    have h9':(gx S.now 0).1=9:=h9;rw[c.h0] at h9';cases h9'
   ·have:=c.hj (j-1) (by omega)
    rw[if_pos (by omega),show 2+2*((j-1:Nat):Int)=2*(j:Int) by omega] at this;have h9':(gx S.now (2*(j:Int))).1=9:=h9;rw[this] at h9';cases h9'
  ·cases Zb.1 e
   have h9':(gx S.now (2+2*(n:Int))).1=9:=h9;rw[c.he] at h9';cases h9'
 ·have hp:pos (4,2+2*(n:Int)) [(4,2+2*(n:Int)),(4,0)]=some 0:=by simp [pos,Zc]
  rw[HS.ren,f2,if_pos rfl,hp];rfl
 ·rw[HS.ren,fv,if_neg (by show ¬ (1:Int)=4;decide)]
 ·have hp:pos (4,2+2*(n:Int)) [(4,2+2*(n:Int)),(4,0)]=some 0:=by simp [pos,Zc]
  rw[HS.ren,fl,if_pos rfl,hp];rfl
end
end Go.S19
