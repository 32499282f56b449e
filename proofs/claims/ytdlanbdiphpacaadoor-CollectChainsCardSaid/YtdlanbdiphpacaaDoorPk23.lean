import Derived.Test.YtdlanbdiphpacaaDoorPk22
import Derived.Test.YtdlanbdiphpacaaDoorPk12
import Derived.Shelf.Strconv.Itoa3
import Derived.Test.YtdlanbdiphpacaaDoorProg
import Derived.Lib.ItoaLen
set_option linter.unusedVariables false
set_option linter.unusedSimpArgs false
open Nat renaming reduceEqDiff -> ZA,reduceAdd -> ZB,reduceMul -> ZC,reduceLeDiff -> ZD,reduceLT -> ZE
open Int renaming reduceEq -> ZF
open List renaming length_append->Z0,getElem?_eq_some_iff->Z1,length_cons->Z2,mem_of_getElem?->Z3,length_nil->Z4,mem_cons_of_mem->Z5,append_assoc->Z6,mem_cons_self->Z8,getElem?_eq_getElem->Z9,mem_cons->Za,take_length->Zb,mem_map->Zc,length_map->Zd,map_congr_left->Ze,map_cons->Zg,take_add_one->Zh,getElem?_append_left->Zi,length_take->Zl,length->Zm,mem_iff_getElem?->Zn,mem_of_mem_take->Zo,getElem?_map->Zp
open Int renaming add_zero->Z7
open Nat renaming le_refl->Zf
open Option renaming isSome_iff_exists->Zj,getD_some->Zk
namespace Go.S19
open Go Go.Eng Go.Proofs Go.Chk
def HS.wn (S:HS) (x:Int × Int):Int:=(mget x.2 S.begins).getD 0
def isum:List Int->Int
 | []=>0
 | x::l=>x+isum l
theorem isum_app (a c:List Int):isum (a++c)=isum a+isum c:=by
 induction a with
 | nil=>simp [isum]
 | cons x a ih=>simp [isum,ih];omega
def HS.reach (S:HS) (ts:List (Int × Int)):Int:=isum (ts.map S.wn)
theorem Gd.wn {S:HS} (v:Inv S) {ts:List (Int × Int)} (g:Gd S ts) {x:Int × Int} (hx:x∈ts):1<=S.wn x/\S.wn x<=1048576/\0<=x.2/\x.2+S.wn x<=1048576/\mget x.2 S.begins=some (S.wn x):=by
 obtain ⟨n,hn⟩:=Zj.1 (g.1 x hx).1.2;have t:=tiles_in v.tn (mget_in hn);have:=v.ln;have:=v.sz;simp only at t;rw[HS.wn,hn,Zk];exact ⟨by omega,by omega,by omega,by omega,rfl⟩
theorem isum_le {c:Int} (hc:0<=c):∀ {l:List Int},(∀ x∈l,0<=x/\x<=c)->0<=isum l/\isum l<=c*l.length:=by
 intro l
 induction l with
 | nil=>intro _;simp [isum]
 | cons x l ih =>
   intro h;have h1:=ih (fun y hy=>h y (Z5 _ hy));have h2:=h x Z8;simp only[isum,Z2];have:c*((l.length+1:Nat):Int)=c*l.length+c:=by rw[Int.natCast_add,Int.mul_add];simp
   omega
theorem Gr.keepX {h h':AH} {b:Nat} {L:Lay} {S:HS} {bg bi bm:Nat} {v:Value} {ts:List (Int × Int)} {sd:Bool} {X:Nat->Prop} (g:Gr h b L S bg bi bm v ts sd) (k:Keep X h h') (h1:∀ q,L.cls q≠0 -> ¬ X q) (h2:∀ q,GOwns bg bi bm v q -> ¬ X q):Gr h' b L S bg bi bm v ts sd :=
 ⟨g.hp.keep k h1,g.iv,g.og.keep k (h2 _ (.inl rfl)),g.ix.keep k (fun q e=>h2 q (.inr e)),g.ng,g.fr,g.gd⟩
section
variable {h:AH} {b:Nat} {L:Lay} {S:HS}
set_option maxHeartbeats 2000000 in
theorem Reach_ok (s:Hp h b L S) (v:Inv S) (hg:S.globals.length<=2000000) {u:Value} {roots:List (Int × Int)} (hu:Rds h 2 u roots.length (ww roots)) (hm:roots.length<=2000000) :
 Gets Tryd.prog 10 [.pointer (some ⟨b,0,none⟩),u] h (fun res h'=>Keep (fun _=>False) h h'/\res = .ret (if (S.graph roots).2=true then .tuple #[iv (S.reach (S.graph roots).1),iv 0] else .tuple #[iv 0,iv 1])):=by
 refine Gets.ofI (keep:=false) hP hM k10 (by rfl) (fun Ψ hΨ=>?_);have oH:=Own.new h 30 h.length [.pointer (some ⟨b,0,none⟩)];have k1:Keep (fun _=>False) h (h++[row 30 h.length [.pointer (some ⟨b,0,none⟩)]]):=Keep.push _ _ _;have l1:(h++[row 30 h.length [.pointer (some ⟨b,0,none⟩)]]).length=h.length+1:=by simp
 simp only[ZG,↓reduceIte,ZA,ZB,ZC,r10,YE,YC,YO,YA,YL,YX,YS,Ya,Yb,Yl,Yf,Yg,Yi,Ym,Yk,Yt,Yn,Yz,Yp,Yq,Yd,mbl,ZD,ZE,ZF];generalize h++[row 30 h.length [.pointer (some ⟨b,0,none⟩)]]=h1 at oH k1 l1 ⊢;simp only[ZG,↓reduceIte,ZA,ZB,ZC,mbl,ZD,ZE,ZF,oH.cells.ld];refine XX_of (graphOf_ok (s.keepF k1) v hg (hu.keep k1 (fun _ _ e=>e)) (by omega)) (fun res h2 hle hn=>?_);obtain ⟨k2,bg,bi,bm,v2,rfl,g2⟩:=hn;refine .ret ?_;have k02:=k1.trans k2
 by_cases hok:(S.graph roots).2=true
 case neg =>
  have hok':(S.graph roots).2=false:=by simpa using hok
  rw[hok'];simp only[ZG,↓reduceIte,ZA,ZB,ZC,mbl,ZD,ZE,ZF];exact hΨ _ _ (finI_ret (.inl rfl) (rv2 rfl rfl ⟨k02,by rw[if_neg hok];rfl⟩))
 rw[hok] at g2 ⊢;generalize hts:(S.graph roots).1=ts at g2;have o8:=Own.new h2 3 h2.length [iv 0];have k3:Keep (fun _=>False) h2 (h2++[row 3 h2.length [iv 0]]):=Keep.push _ _ _;have l3:(h2++[row 3 h2.length [iv 0]]).length=h2.length+1:=by simp
 simp only[ZG,↓reduceIte,ZA,ZB,ZC,mbl,ZD,ZE,ZF];generalize h2++[row 3 h2.length [iv 0]]=h3 at o8 k3 l3 ⊢;refine XH_own o8 rfl (by simp [Value.cells]) rfl (fun h4 q1 q2 q3=>?_);have o84:Own h4 h2.length 3 [iv 0]:=by simpa [Value.cells] using q1
 have k24:Keep (fun _=>False) h2 h4:=k3.trans' q2 (fun c hc e=>by omega);have g4:=g2.keepF k24;simp only[ZG,↓reduceIte,ZA,ZB,ZC,mbl,ZD,ZE,ZF];refine XX_of (each_ok g4.og.lt) (fun res h5 hle5 hn5=>?_);obtain ⟨k5,bx,tx,rfl,ox,fx⟩:=hn5;refine .ret ?_;simp only[ZG,↓reduceIte,ZA,ZB,ZC,XC_rf,rx_n,look_cons];have g5:=g4.keepF k5;have o85:=o84.keep k5 (fun e=>e);have hnb:∀ q,L.cls q≠0->q≠h2.length:=fun q hq e=>hq (by rw[e];exact g2.hp.c0 _ (Zf _))
 have hng:∀ q,GOwns bg bi bm v2 q->q≠h2.length:=fun q hq e=>by have:=g2.lt q hq;omega
 have hbx:bx≠h2.length:=fun e=>by omega
 have hlen:=g2.gd.len v;have hbg:=v.bg;have hwn:∀ x∈ts.map S.wn,0<=x/\x<=1048576:=fun y hy=>by
  obtain ⟨x,hx,rfl⟩:=Zc.1 hy;have:=g2.gd.wn v hx;omega
 refine XRf_each (M:=1048577) (St:=fun i h'=>i<=ts.length/\Gr h' b L S bg bi bm v2 ts true/\Own h' bx tx [.pointer (some ⟨bg,0,none⟩)]/\Own h' h.length 30 [.pointer (some ⟨b,0,none⟩)]/\Own h' h2.length 3 [iv (isum ((ts.take i).map S.wn))]/\Keep (fun _=>False) h h')
  (Fin:=fun out h'=>out = .norm/\Own h' h2.length 3 [iv (S.reach ts)]/\Keep (fun _=>False) h h') (by omega)
  ⟨Nat.zero_le _,g5,ox,(oH.keep k2 (fun e=>e)).keep (k24.trans k5) (fun e=>e),o85,k02.trans (k24.trans k5)⟩ ?_ ?_
 ·rintro i hh ⟨hi,g,oxh,oHh,o8h,kk⟩
  refine ⟨by omega,tx,bg,_,_,bi,bm,v2,ts,oxh,g.og,g.ix,hi,fun he=>?_,fun w hw hx kx=>?_⟩
  ·refine ⟨rfl,?_,kk⟩
   rw[he,Zb] at o8h;exact o8h
  ·have hlt:i<ts.length:=(Z1.1 hw).1
   have hmem:=Z3 hw;obtain ⟨w1,w2,w3,w4,w5⟩:=g.gd.wn v hmem;have htk:ts.take (i+1)=ts.take i++[w]:=by
    rw[Zh,hw];rfl
   have hs1:isum ((ts.take (i+1)).map S.wn)=isum ((ts.take i).map S.wn)+S.wn w:=by
    rw[htk,List.map_append,isum_app];simp [isum]
   have hb1:=isum_le (c:=1048576) (by omega) (l:=(ts.take i).map S.wn) (fun x hx=>hwn x (by
    obtain ⟨y,hy,rfl⟩:=Zc.1 hx;exact Zc.2 ⟨y,Zo hy,rfl⟩))
   have hl1:((ts.take i).map S.wn).length<=1048576:=by rw[Zd,Zl];omega
   refine RndH.go (fun o hz=>o = .norm/\Own hz h2.length 3 [iv (isum ((ts.take (i+1)).map S.wn))]/\Keep (fun q=>q=h2.length) hx hz)
    rfl (by decide) (by intro o ho;simp only[Za,List.not_mem_nil,or_false] at ho;rcases ho with rfl|rfl<;>(intro f vs e;cases e)) (by rintro v h ⟨e,_⟩;cases e) (fun Ψ hΨ=>?_) (fun hz hlz hQ=>?_) (fun j hz hlz hj hQ=>absurd hQ.1 hj)
   ·simp only[ZG,↓reduceIte,ZA,ZB,ZC,updps]
    have oW:=Own.new hx 44 hx.length [iv 0,iv 0];have kp1:Keep (fun _=>False) hx (hx++[row 44 hx.length [iv 0,iv 0]]):=Keep.push _ _ _;generalize hx++[row 44 hx.length [iv 0,iv 0]]=hy at oW kp1 ⊢;refine XH_own oW rfl (by simp [Value.cells,wv]) rfl (fun hy2 p1 p2 p3=>?_);have oW2:Own hy2 hx.length 44 [iv w.1,iv w.2]:=by simpa [Value.cells,wv] using p1
    have kp2:Keep (fun _=>False) hx hy2:=kp1.trans' p2 (fun c hc e=>by omega);have gy:=(g.keepF kx).keepF kp2;have oH2:=(oHh.keep kx (fun e=>e)).keep kp2 (fun e=>e);have o82:=(o8h.keep kx (fun e=>e)).keep kp2 (fun e=>e);simp only[ZG,↓reduceIte,ZA,ZB,ZC,oH2.cells.ld,oW2.cells.ld,mbl,ZD,ZE,ZF];refine XX_of (Next_ok gy.hp w.2 (fun m hm'=>by rw[w5] at hm';cases hm';omega)) (fun res h13 hle13 hn13=>?_);obtain ⟨rfl,rfl⟩:=hn13;refine .ret ?_;have hnx:(S.next w.2).1=w.2+S.wn w:=by rw[HS.next,w5]
    have e1:IntKind.i64.wrap (w.2+S.wn w-w.2)=S.wn w:=by rw[i64w (by omega) (by omega)];omega
    have e2:IntKind.i64.wrap (isum ((ts.take i).map S.wn)+S.wn w)=isum ((ts.take (i+1)).map S.wn):=by rw[hs1,i64w (by omega) (by omega)]
    simp only[ZG,↓reduceIte,ZA,ZB,ZC,o82.cells.ld,oW2.cells.ld,mbl,ZD,ZE,ZF,hnx,e1,e2];refine XH_own o82 rfl (by simp [Value.cells]) rfl (fun hy3 r1 r2 r3=>?_);have o83:Own hy3 h2.length 3 [iv (isum ((ts.take (i+1)).map S.wn))]:=by simpa [Value.cells] using r1
    simp only[ZG,↓reduceIte,ZA,ZB,ZC];exact hΨ _ _ _ _ _ ⟨rfl,o83,(kp2.mono (fun _ e=>e.elim)).trans r2⟩
   ·obtain ⟨_,o8z,kz⟩:=hQ
    have lx:=(kk.trans kx).len;have:=k02.len;exact ⟨by omega,(g.keepF kx).keepX kz (fun q hq e=>hnb q hq e) (fun q hq e=>hng q hq e),(oxh.keep kx (fun e=>e)).keep kz hbx,(oHh.keep kx (fun e=>e)).keep kz (by have:=oH.lt;have:=k2.len;omega),o8z,(kk.trans kx).trans' kz (fun c hc e=>by omega)⟩
 ·rintro out h' ⟨rfl,o8,kk⟩ hle
  simp only[ZG,↓reduceIte,ZA,ZB,ZC,o8.cells.ld,mbl,ZD,ZE,ZF];exact hΨ _ _ (finI_ret (.inr rfl) (rv2 rfl rfl ⟨kk,by rw[if_pos hok,hts];rfl⟩))
end
end Go.S19

namespace Go.S19
open Go Go.Eng Go.Proofs Go.Chk
section
variable {S:HS}
def HS.adr (S:HS) (ms:List (Int × Int)) (i:Nat):Int:=isum ((ms.take i).map S.wn)
noncomputable def HS.ren (S:HS) (ms:List (Int × Int)) (w:Int × Int):Int × Int:=if (S.folX w).1.1=4 then (4,S.adr ms ((pos (S.folX w).1 ms).getD 0)) else (S.folX w).1
theorem adr_pre {ms ms':List (Int × Int)} (h:ms <+: ms') {i:Nat} (hi:i<=ms.length):S.adr ms' i=S.adr ms i:=by
 obtain ⟨l,rfl⟩:=h;rw[HS.adr,HS.adr,List.take_append_of_le_length hi]
theorem adr_succ {ms:List (Int × Int)} {i:Nat} {x:Int × Int} (h:ms[i]?=some x):S.adr ms (i+1)=S.adr ms i+S.wn x:=by
 rw[HS.adr,HS.adr,Zh,h,List.map_append,isum_app];simp [isum]
theorem adr_zero (ms:List (Int × Int)):S.adr ms 0=0:=rfl
theorem pos_get {x:Int × Int} {ms:List (Int × Int)} {j:Nat} (h:pos x ms=some j):ms[j]?=some x:=by
 unfold pos at h;rw[List.findIdx?_eq_some_iff_getElem] at h;obtain ⟨h1,h2,_⟩:=h;rw[Z9 h1];simpa using h2
theorem pos_pre {x:Int × Int} {ms ms':List (Int × Int)} (hx:x∈ms) (h:ms <+: ms'):pos x ms'=pos x ms:=by
 obtain ⟨l,rfl⟩:=h;obtain ⟨j,hj⟩:=pos_some hx;unfold pos at hj ⊢;rw[List.findIdx?_append,hj];rfl
theorem nodup_ix {ms:List (Int × Int)} (hn:ms.Nodup) {i j:Nat} {x:Int × Int} (hi:ms[i]?=some x) (hj:ms[j]?=some x):i=j:=by
 obtain ⟨h1,e1⟩:=Z1.1 hi;obtain ⟨h2,e2⟩:=Z1.1 hj;have hp:=List.pairwise_iff_getElem.1 hn
 rcases Nat.lt_trichotomy i j with h|h|h
 ·exact absurd (e1.trans e2.symm) (hp i j h1 h2 h)
 ·exact h
 ·exact absurd (e2.trans e1.symm) (hp j i h2 h1 h)
theorem pos_ix {ms:List (Int × Int)} (hn:ms.Nodup) {i:Nat} {x:Int × Int} (hi:ms[i]?=some x):pos x ms=some i:=by
 obtain ⟨j,hj⟩:=pos_some (Z3 hi);rw[hj,nodup_ix hn (pos_get hj) hi]
theorem ren_pre {ms ms':List (Int × Int)} {w:Int × Int} (hx:(S.folX w).1.1=4->(S.folX w).1∈ms) (h:ms <+: ms'):S.ren ms' w=S.ren ms w:=by
 unfold HS.ren
 split
 ·rename_i h4
  rw[pos_pre (hx h4) h];obtain ⟨j,hj⟩:=pos_some (hx h4);have:=(Z1.1 (pos_get hj)).1;rw[hj,Zk,adr_pre h (by omega)]
 ·rfl
def HS.bgF (S:HS) (a:Int):List (Int × Int)->List (Int × Int)
 | []=>[]
 | x::l=>(a,S.wn x)::S.bgF (a+S.wn x) l
theorem bgF_app (a:Int) (l:List (Int × Int)) (x:Int × Int):S.bgF a (l++[x])=S.bgF a l++[(a+isum (l.map S.wn),S.wn x)]:=by
 induction l generalizing a with
 | nil=>simp [HS.bgF,isum]
 | cons y l ih=>simp only[List.cons_append,HS.bgF,ih,Zg,isum];rw[Int.add_assoc]
theorem bgF_mem:∀ (l:List (Int × Int)) (a:Int) {i:Nat} {x:Int × Int},l[i]?=some x->(a+S.adr l i,S.wn x)∈S.bgF a l:=by
 intro l
 induction l with
 | nil=>intro a i x h;simp at h
 | cons y l ih =>
   intro a i x h;cases i with
   | zero=>simp at h;subst h;simp [HS.bgF,adr_zero]
   | succ i =>
     have:=ih (a+S.wn y) (i:=i) (x:=x) (by simpa using h);simp only[HS.bgF];refine Z5 _ ?_;rw[show a+S.adr (y::l) (i+1)=a+S.wn y+S.adr l i by simp [HS.adr,isum];omega];exact this
structure Cm (S:HS) (ms:List (Int × Int)) (k:Nat) (T:HS):Prop where
 gd:Gd S ms
 kl:k<=ms.length
 inf:T.infos=S.infos
 cn:T.cons=S.cons
 sz:T.size=S.size
 om:T.oldm=S.begins
 old1:∀ (i:Nat) (x:Int × Int),ms[i]?=some x->gx T.old x.2=(13,S.adr ms i)
 old2:∀ (p n:Int),mget p S.begins=some n->((4:Int),p) ∉ ms -> ∀ j,0<=j->j<n->gx T.old (p+j)=gx S.now (p+j)
 bg:T.begins=S.bgF 0 ms
 ln:(T.now.length:Int)=S.adr ms ms.length
 cw:∀ (i:Nat) (x:Int × Int),ms[i]?=some x -> ∀ j:Int,0<=j->j<S.wn x ->
  gx T.now (S.adr ms i+j)=if i<k/\1<=j/\j<=S.fcn (gx S.now x.2) (S.wn x) then S.ren ms (gx S.now (x.2+j)) else gx S.now (x.2+j)
 cl:∀ (i:Nat) (x:Int × Int),ms[i]?=some x->i<k -> ∀ j:Int,1<=j->j<=S.fcn (gx S.now x.2) (S.wn x)->S.sound (gx S.now (x.2+j))/\((S.folX (gx S.now (x.2+j))).1.1=4->(S.folX (gx S.now (x.2+j))).1∈ms)
theorem isum_erase {f:Int × Int->Int}:∀ {l:List (Int × Int)} {x:Int × Int},x∈l->isum (l.map f)=f x+isum ((l.erase x).map f):=by
 intro l
 induction l with
 | nil=>intro x h;cases h
 | cons y l ih =>
   intro x h
   by_cases e:y=x
   ·subst e;simp [isum]
   ·have hx:x∈l:=(Za.1 h).resolve_left (fun h=>e h.symm)
    rw[List.erase_cons_tail (by simpa using e)];simp only[Zg,isum,ih hx];omega
theorem tiles_sum {f:Int × Int->Int}:∀ {l:List (Int × Int)} {a e:Int},tiles a l e->(∀ q∈l,f (4,q.1)=q.2) -> ∀ {ks:List (Int × Int)},ks.Nodup->(∀ x∈ks,∃ q∈l,x=(4,q.1))->isum (ks.map f)<=e-a:=by
 intro l
 induction l with
 | nil =>
   intro a e t hf ks hn hs;simp only[tiles] at t;cases ks with
   | nil=>simp [isum];omega
   | cons x ks=>obtain ⟨q,hq,_⟩:=hs x Z8;cases hq
 | cons q l ih =>
   intro a e t hf ks hn hs;simp only[tiles] at t;obtain ⟨t1,t2,t3⟩:=t
   by_cases hq:((4:Int),q.1)∈ks
   ·rw[isum_erase hq,hf q Z8]
    have:=ih t3 (fun r hr=>hf r (Z5 _ hr)) (hn.erase ((4:Int),q.1)) (fun x hx=>by
     obtain ⟨r,hr,e⟩:=hs x (List.mem_of_mem_erase hx)
     rcases Za.1 hr with rfl|hr
     ·exact absurd hx (by rw[e];exact List.Nodup.not_mem_erase hn)
     ·exact ⟨r,hr,e⟩)
    omega
   ·have:=ih t3 (fun r hr=>hf r (Z5 _ hr)) hn (fun x hx=>by
     obtain ⟨r,hr,e⟩:=hs x hx
     rcases Za.1 hr with rfl|hr
     ·exact absurd (e ▸ hx) hq
     ·exact ⟨r,hr,e⟩)
    omega
theorem Gd.sum (v:Inv S) {ms:List (Int × Int)} (g:Gd S ms):S.adr ms ms.length<=S.now.length:=by
 have:=tiles_sum (f:=S.wn) v.tn (fun q hq=>by
  show (mget q.1 S.begins).getD 0=q.2
  rw[mem_mget v.tn hq];rfl) g.2 (fun x hx=>by
  obtain ⟨h4,hs⟩:=(g.1 x hx).1;obtain ⟨n,hn⟩:=Zj.1 hs;exact ⟨_,mget_in hn,Prod.ext h4 rfl⟩)
 rw[HS.adr,Zb];omega
end
end Go.S19

namespace Go.S19
open Go Go.Eng Go.Proofs Go.Chk
section
variable {S T:HS} {ms:List (Int × Int)} {k:Nat}
theorem plain_no4 {w:Int × Int} (h:S.plain w):w.1≠4:=by
 rcases h with e|e|e<;>omega
theorem Cm.start (S:HS):Cm S [] 0 S.flip :=
 ⟨.nil S,Zf _,rfl,rfl,rfl,rfl,fun i x h=>by simp at h,fun p n _ _ j _ _=>rfl,rfl,rfl,fun i x h=>by simp at h,fun i x h=>by simp at h⟩
theorem Cm.get (c:Cm S ms k T) (vt:Inv T) {i:Nat} {x:Int × Int} (hx:ms[i]?=some x):mget (S.adr ms i) T.begins=some (S.wn x):=by
 have:=bgF_mem (S:=S) ms 0 hx;rw[Int.zero_add] at this;exact mem_mget vt.tn (c.bg ▸ this)
theorem Cm.in_ (c:Cm S ms k T) (vt:Inv T) {i:Nat} {x:Int × Int} (hx:ms[i]?=some x):0<=S.adr ms i/\1<=S.wn x/\S.adr ms i+S.wn x<=T.now.length:=by
 have:=tiles_in vt.tn (mget_in (c.get vt hx));simpa using this
theorem Cm.push (c:Cm S ms k T) (v:Inv S) (vt:Inv T) {w:Int × Int} {n0:Int} (hl:S.lies w) (h12:(gx S.now w.2).1≠12) (hin:w ∉ ms) (hn:mget w.2 S.begins=some n0) :
 Cm S (ms++[w]) k ((T.laid (T.owords w)).setold w.2 (13,(T.now.length:Int)))/\S.adr (ms++[w]) ms.length=T.now.length:=by
 have hwn:S.wn w=n0:=by rw[HS.wn,hn];rfl
 have hno:mget w.2 T.oldm=some n0:=by rw[c.om];exact hn
 have to:=tiles_in vt.to (mget_in hno);simp only at to;have hpre:ms <+: ms++[w]:=List.prefix_append _ _;have ha:S.adr (ms++[w]) ms.length=T.now.length:=by rw[adr_pre hpre (Zf _),c.ln]
 have ol:=owords_len hno (by omega);have h4w:(4,w.2)=w:=Prod.ext hl.1.symm rfl;have hlen:(ms++[w]).length=ms.length+1:=by simp
 have gd2:=c.gd.num (x:=w) ⟨hl,h12⟩;rw[num,if_neg hin] at gd2;have old:∀ j,gx (T.old.set w.2.toNat (13,(T.now.length:Int))) j=if j=w.2 then (13,(T.now.length:Int)) else gx T.old j:=fun j=>gx_set (by omega)
 have cases_:∀ {i:Nat} {x:Int × Int},(ms++[w])[i]?=some x->(i<ms.length/\ms[i]?=some x)\/(i=ms.length/\x=w):=by
  intro i x hx
  rcases Nat.lt_or_ge i ms.length with h|h
  ·rw[Zi h] at hx;exact .inl ⟨h,hx⟩
  ·rw[List.getElem?_append_right h] at hx
   have:i-ms.length=0:=by
    rcases Nat.eq_zero_or_pos (i-ms.length) with e|e
    ·exact e
    ·rw[List.getElem?_eq_none (by simp;omega)] at hx;cases hx
   rw[this] at hx;simp at hx;exact .inr ⟨by omega,hx.symm⟩
 refine ⟨⟨gd2,by rw[hlen];have:=c.kl;omega,c.inf,c.cn,c.sz,c.om,?_,?_,?_,?_,?_,?_⟩,ha⟩
 ·intro i x hx
  show gx (T.old.set w.2.toNat (13,(T.now.length:Int))) x.2=_
  rw[old]
  rcases cases_ hx with ⟨h1,h2⟩|⟨h1,h2⟩
  ·have hm:=Z3 h2
   have hne:x.2≠w.2:=fun e=>hin (by rw[<- h4w,<- e,<- show x=(4,x.2) from Prod.ext (c.gd.1 x hm).1.1 rfl];exact hm)
   rw[if_neg hne,adr_pre hpre (by omega)];exact c.old1 i x h2
  ·rw[h2,if_pos rfl,h1,ha]
 ·intro p n hp hnot j h0 h1
  show gx (T.old.set w.2.toNat (13,(T.now.length:Int))) (p+j)=_
  rw[old];have hne:p≠w.2:=fun e=>hnot (by rw[e,h4w];simp)
  have:=tiles_apart v.tn (mget_in hp) (mget_in hn);simp only[Prod.mk.injEq] at this;have hw1:1<=n0:=to.2.1;rw[if_neg (by omega)];exact c.old2 p n hp (fun e=>hnot (List.mem_append.2 (.inl e))) j h0 h1
 ·show T.begins++[((T.now.length:Int),((T.owords w).length:Int))]=_
  rw[bgF_app,c.bg,ol,hwn,c.ln,HS.adr,Zb,Int.zero_add]
 ·show ((T.now++T.owords w).length:Int)=_
  rw[hlen,adr_succ (x:=w) (by simp),ha,hwn,Z0,Int.natCast_add,ol]
 ·intro i x hx j h0 h1
  show gx (T.now++T.owords w) _=_
  rcases cases_ hx with ⟨h2,h3⟩|⟨h2,h3⟩
  ·have t:=c.in_ vt h3
   rw[adr_pre hpre (by omega),gx_app (by omega) (by omega),c.cw i x h3 j h0 h1]
   split
   ·rename_i hc
    rw[ren_pre (c.cl i x h3 hc.1 j hc.2.1 hc.2.2).2 hpre]
   ·rfl
  ·subst h3;subst h2
   have hk:=c.kl;rw[ha,if_neg (by omega),gx_laid h0 (by omega),owords_at hno h0 (by omega)];exact c.old2 x.2 n0 hn (by rw[h4w];exact hin) j h0 (by omega)
 ·intro i x hx hik j h1 h2
  rcases cases_ hx with ⟨h3,h4⟩|⟨h3,h4⟩
  ·obtain ⟨a1,a2⟩:=c.cl i x h4 hik j h1 h2
   exact ⟨a1,fun e=>List.mem_append.2 (.inl (a2 e))⟩
  ·have:=c.kl;omega
theorem Cm.move (c:Cm S ms k T) (v:Inv S) (vt:Inv T):∀ {n:Nat} {w x:Int × Int} {r:(Int × Int) × Int × HS},S.sound w->S.fol n w=some x->Mv T w r ->
 r.1=(if x.1=4 then (4,S.adr (num ms x) ((pos x (num ms x)).getD 0)) else x)/\Cm S (if x.1=4 then num ms x else ms) k r.2.2:=by
 intro n
 induction n with
 | zero=>intro w x r _ h;cases h
 | succ n ih =>
   intro w x r hs hx h;rw[HS.fol] at hx
   by_cases h4:w.1=4
   case neg =>
    rw[if_neg h4] at hx;cases hx;have hp:S.plain w:=hs.resolve_right (fun e=>h4 e.1);have hpt:T.plain w:=(plain_congr c.inf c.cn w).2 hp;rw[if_neg h4,if_neg h4];cases h with
    | plain=>exact ⟨rfl,c⟩
    | none h=>exact absurd hpt h
    | was h=>exact absurd hpt h
    | ind h=>exact absurd hpt h
    | full h=>exact absurd hpt h
    | new h=>exact absurd hpt h
   rw[if_pos h4] at hx;have hl:S.lies w:=hs.resolve_left (fun e=>plain_no4 e h4);obtain ⟨n0,hn,hm⟩:=lies_mem hl;have kd:=v.kn _ hm;have t:=tiles_in v.tn hm;simp only at kd t;have hno:mget w.2 T.oldm=some n0:=by rw[c.om];exact hn
   have hnp:¬ T.plain w:=fun e=>plain_no4 e h4
   have hsome:w.1=4/\(mget w.2 T.oldm).isSome=true:=⟨h4,by rw[hno];rfl⟩
   have h4w:(4,w.2)=w:=Prod.ext h4.symm rfl
   by_cases h12:(gx S.now w.2).1=12
   ·rw[if_pos h12] at hx
    have hnot:((4:Int),w.2) ∉ ms:=by rw[h4w];exact fun e=>(c.gd.1 w e).2 h12
    have k12:=kd.k12 h12;have o0:=c.old2 w.2 n0 hn hnot 0 (by omega) (by omega);have o1:=c.old2 w.2 n0 hn hnot 1 (by omega) (by omega);rw[Z7] at o0;cases h with
    | plain h=>exact absurd h hnp
    | none _ h2=>exact absurd hsome h2
    | was _ _ _ h13=>rw[o0,h12] at h13;exact absurd h13 (by omega)
    | ind _ _ _ _ hm'=>rw[o1] at hm';exact ih (v.chain hl h12) hx hm'
    | full _ _ _ _ h12'=>rw[o0] at h12';exact absurd h12 h12'
    | new _ _ _ _ h12'=>rw[o0] at h12';exact absurd h12 h12'
   ·rw[if_neg h12] at hx
    cases hx;rw[if_pos h4,if_pos h4]
    by_cases hin:w∈ms
    ·obtain ⟨j,hj⟩:=pos_some hin
     have o1:=c.old1 j w (pos_get hj);have hnum:num ms w=ms:=by rw[num,if_pos hin]
     rw[hnum,hj];cases h with
     | plain h=>exact absurd h hnp
     | none _ h2=>exact absurd hsome h2
     | was=>rw[o1];exact ⟨rfl,c⟩
     | ind _ _ _ h12'=>rw[o1] at h12';exact absurd h12' (by omega)
     | full _ _ _ h13=>rw[o1] at h13;exact absurd rfl h13
     | new _ _ _ h13=>rw[o1] at h13;exact absurd rfl h13
    ·have o0:=c.old2 w.2 n0 hn (by rw[h4w];exact hin) 0 (by omega) (by omega)
     rw[Z7] at o0;have kk:=kd.k;have hnum:num ms w=ms++[w]:=by rw[num,if_neg hin]
     obtain ⟨c2,ha⟩:=c.push v vt hl h12 hin hn;rw[hnum];have hpos:pos w (ms++[w])=some ms.length:=pos_ix c2.gd.2 (by simp);rw[hpos,Zk,ha];cases h with
     | plain h=>exact absurd h hnp
     | none _ h2=>exact absurd hsome h2
     | was _ _ _ h13=>rw[o0] at h13;exact absurd h13 (by omega)
     | ind _ _ _ h12'=>rw[o0] at h12';exact absurd h12' h12
     | full _ _ hn' _ _ hf =>
       rw[hno] at hn';cases hn';have hsum:=c2.gd.sum v;have:S.adr (ms++[w]) (ms++[w]).length=T.now.length+n0:=by
        rw[Z0,List.length_singleton,adr_succ (x:=w) (by simp),ha,HS.wn,hn];rfl
       have:=v.ln;have:=c.sz;omega
     | new=>exact ⟨rfl,c2⟩
theorem Cm.moves (v:Inv S):∀ (ws:List (Int × Int)) {ms:List (Int × Int)} {T:HS} {xs:List (Int × Int)} {T':HS},Cm S ms k T->Inv T->(S.meetT ws ms).2=true->MvL T ws xs T' ->
 Cm S (S.meetT ws ms).1 k T'/\xs=ws.map (S.ren (S.meetT ws ms).1) /\ ∀ w∈ws,S.sound w/\((S.folX w).1.1=4->(S.folX w).1∈(S.meetT ws ms).1):=by
 intro ws
 induction ws with
 | nil=>intro ms T xs T' c vt hb m;cases m;exact ⟨c,rfl,fun w h=>by cases h⟩
 | cons w ws ih =>
   intro ms T xs T' c vt hb m;rw[HS.meetT] at hb ⊢
   split at hb
   case isFalse=>cases hb
   case isTrue hs =>
   rw[if_pos hs];cases m with
   | @cons _ _ r _ xs' _ h t =>
   obtain ⟨n,x,hx⟩:=v.tm w hs;have hfx:=folX_eq hs hx;obtain ⟨h1,h2⟩:=c.move v vt hs hx h;rw[hfx] at hb ⊢;simp only at hb ⊢;obtain ⟨k1,k2,k3⟩:=ih h2 (vt.mv h) hb t;have hpre:=meet_pre (S:=S) ws (if x.1=4 then num ms x else ms);have hin:x.1=4->x∈(if x.1=4 then num ms x else ms):=fun e=>by
    rw[if_pos e];unfold num;split
    ·assumption
    ·simp
   refine ⟨k1,?_,?_⟩
   ·rw[Zg,<- k2,ren_pre (by rw[hfx];exact hin) hpre,h1]
    congr 1
    unfold HS.ren;rw[hfx];simp only
    split
    ·rfl
    ·rfl
   ·intro y hy
    rcases Za.1 hy with rfl|hy
    ·refine ⟨hs,fun e=>?_⟩
     rw[hfx] at e ⊢;exact hpre.subset (hin e)
    ·exact k3 y hy
end
end Go.S19

namespace Go.S19
open Go Go.Eng Go.Proofs Go.Chk
def Tx (S:HS):Prop:=∀ q∈S.begins,(gx S.now q.1).1=9->(gx S.now (q.1+1)).1=1
theorem fcn_congr {S T:HS} (h:T.infos=S.infos) (hd:Int × Int) (n:Int):T.fcn hd n=S.fcn hd n:=by
 unfold HS.fcn HS.fr;rw[h]
theorem setl_text {U:HS} {w:Int × Int} (h9:(gx U.now w.2).1=9):∀ (xs:List (Int × Int)) (k:Nat),U.setl w k xs=U:=by
 intro xs
 induction xs with
 | nil=>intro k;rfl
 | cons x xs ih =>
   intro k;rw[HS.setl];have:(U.sete w k x).2=U:=by
    unfold HS.sete
    split
    ·rw[if_pos (.inr (.inl h9))]
    ·rfl
   rw[this];exact ih _
theorem setl_at {p n:Int}:∀ (xs:List (Int × Int)) {U:HS} (k:Nat),Inv U->mget p U.begins=some n->(∀ x∈xs,U.sound x)->(k:Int)+xs.length<=U.fcn (gx U.now p) n->(gx U.now p).1≠9->(gx U.now p).1≠12 ->
 ∀ j,gx (U.setl (4,p) k xs).now j=if p+1+k<=j/\j<p+1+k+xs.length then wat xs (j-(p+1+k)) else gx U.now j:=by
 intro xs
 induction xs with
 | nil=>intro U k v hn hs hk h9 h12 j;rw[HS.setl,if_neg (by simp only[Z4];omega)]
 | cons x xs ih =>
   intro U k v hn hs hk h9 h12 j;have hl:U.lies (4,p):=⟨rfl,by show (mget p U.begins).isSome=true;rw[hn];rfl⟩
   have hx:=hs x Z8;simp only[Z2] at hk
   rcases sete_cases v (4,p) (k:Int) x with ⟨e,_,h⟩|⟨m,_,_,hm,_,_,_,_,_,h5,h6,h7,he⟩
   ·exfalso
    rcases h with ⟨_,h⟩|⟨_,_,_,h⟩
    ·exact h ⟨hl,hx⟩
    ·rcases h with h|h|h|⟨m,hm,h⟩
     ·omega
     ·exact h9 h
     ·exact h12 h
     ·simp only at hm;rw[hn] at hm;cases hm;simp only at h;omega
   simp only at hm h5 h6 h7 he;rw[hn] at hm;cases hm;rw[HS.setl,he];have g1:∀ j,gx (U.setw (p+1+k) x).now j=if j=p+1+k then x else gx U.now j:=fun j=>gx_set (by omega)
   have hp:gx (U.setw (p+1+k) x).now p=gx U.now p:=by rw[g1,if_neg (by omega)]
   have hi:Inv (U.setw (p+1+k) x):=by have:=v.sete (4,p) (k:Int) x;rw[he] at this;exact this
   have:=ih (U:=U.setw (p+1+k) x) (k+1) hi hn (fun y hy=>sound_mono rfl rfl (fun _ h=>h) (hs y (Z5 _ hy))) (by rw[hp,fcn_congr (S:=U) (T:=U.setw (p+1+k) x) rfl];omega) (by rw[hp];exact h9) (by rw[hp];exact h12) j;rw[this,g1]
   by_cases c1:p+1+((k+1:Nat):Int)<=j/\j<p+1+((k+1:Nat):Int)+xs.length
   ·rw[if_pos c1,if_pos (by simp only[Z2];omega)]
    unfold wat;rw[show (j-(p+1+(k:Int))).toNat=(j-(p+1+((k+1:Nat):Int))).toNat+1 by omega,List.getElem?_cons_succ]
   ·rw[if_neg c1]
    by_cases c2:j=p+1+k
    ·rw[if_pos c2,if_pos (by simp only[Z2];omega),c2]
     simp [wat]
    ·rw[if_neg c2,if_neg (by simp only[Z2];omega)]
section
variable {S T:HS} {ms:List (Int × Int)} {k:Nat}
theorem obj_flds (v:Inv S) {x:Int × Int} (hl:S.lies x):S.flds x=fld S.now x.2 (S.fcn (gx S.now x.2) (S.wn x))/\mget x.2 S.begins=some (S.wn x)/\0<=S.fcn (gx S.now x.2) (S.wn x)/\S.fcn (gx S.now x.2) (S.wn x)<S.wn x:=by
 obtain ⟨n,hn,hm⟩:=lies_mem hl;have hw:S.wn x=n:=by rw[HS.wn,hn];rfl
 have h4:x=(4,x.2):=Prod.ext hl.1 rfl;have kd:=v.kn _ hm;have t:=tiles_in v.tn hm;have:=kd.fc t.2.1;rw[hw];exact ⟨by rw[h4];exact flds_eq hn,hn,this.1,this.2⟩
theorem Cm.flds (c:Cm S ms k T) (v:Inv S) (vt:Inv T) {i:Nat} {x:Int × Int} (hx:ms[i]?=some x) (hi:k<=i):T.flds (4,S.adr ms i)=S.flds x:=by
 obtain ⟨h1,h2,h3,h4⟩:=obj_flds v (c.gd.1 x (Z3 hx)).1;have h0:=c.cw i x hx 0 (by omega) (by omega);rw[if_neg (by omega),Z7,Z7] at h0;rw[flds_eq (c.get vt hx),h1,h0,fcn_congr c.inf];refine fld_ext fun j hj=>?_
 have:=c.cw i x hx (1+j) (by omega) (by omega);rw[if_neg (by omega)] at this;rw[show S.adr ms i+1+(j:Int)=S.adr ms i+(1+j) by omega,this]
 congr 1;omega
theorem ren_plain {w:Int × Int} (v:Inv S) (h:S.plain w) (ms:List (Int × Int)):S.ren ms w=w:=by
 have h4:=plain_no4 h;have hf:S.fol 1 w=some w:=by rw[HS.fol,if_neg h4]
 unfold HS.ren;rw[folX_eq (.inl h) hf];simp only;rw[if_neg h4]
theorem Cm.rsound (c:Cm S ms k T) (v:Inv S) (vt:Inv T) {w:Int × Int} (hs:S.sound w) (hin:(S.folX w).1.1=4->(S.folX w).1∈ms):T.sound (S.ren ms w):=by
 obtain ⟨x,e,h1,h2⟩:=folX_sound v hs;unfold HS.ren;rw[e] at hin ⊢;simp only at hin ⊢
 split
 ·rename_i h4
  obtain ⟨j,hj⟩:=pos_some (hin h4);rw[hj];refine .inr ⟨rfl,?_⟩
  show (mget (S.adr ms j) T.begins).isSome=true
  rw[c.get vt (pos_get hj)];rfl
 ·rename_i h4
  exact .inl ((plain_congr c.inf c.cn x).2 (h1.resolve_right (fun e=>h4 e.1)))
theorem Cm.set (c:Cm S ms k T) (v:Inv S) (vt:Inv T) (tx:Tx S) {x:Int × Int} (hx:ms[k]?=some x) (hall:∀ w∈S.flds x,S.sound w/\((S.folX w).1.1=4->(S.folX w).1∈ms)) :
 Cm S ms (k+1) (T.setl (4,S.adr ms k) 0 ((S.flds x).map (S.ren ms))):=by
 obtain ⟨a1,a2,a3,a4,a5,a6,a7,a8,a9⟩:=setl_same (4,S.adr ms k) ((S.flds x).map (S.ren ms)) 0 T;have hmem:=Z3 hx;obtain ⟨hl,h12⟩:=c.gd.1 x hmem;obtain ⟨h1,h2,h3,h4⟩:=obj_flds v hl;have hk:=(Z1.1 hx).1;have hget:=c.get vt hx;have h0:=c.cw k x hx 0 (by omega) (by omega);rw[if_neg (by omega),Z7,Z7] at h0;have hfl:((S.flds x).length:Int)=S.fcn (gx S.now x.2) (S.wn x):=by rw[h1,fld_len];omega
 have hw:∀ j:Int,1<=j->j<=S.fcn (gx S.now x.2) (S.wn x)->gx S.now (x.2+j)∈S.flds x/\wat ((S.flds x).map (S.ren ms)) (j-1)=S.ren ms (gx S.now (x.2+j)):=by
  intro j j1 j2;have hg:(S.flds x)[(j-1).toNat]?=some (gx S.now (x.2+j)):=by
   rw[h1,fld_get,if_pos (by omega)];congr 2;omega
  exact ⟨Z3 hg,by unfold wat;rw[Zp,hg];rfl⟩
 have hcw:∀ (i:Nat) (y:Int × Int),ms[i]?=some y -> ∀ j:Int,0<=j->j<S.wn y ->
  gx (T.setl (4,S.adr ms k) 0 ((S.flds x).map (S.ren ms))).now (S.adr ms i+j)=if i<k+1/\1<=j/\j<=S.fcn (gx S.now y.2) (S.wn y) then S.ren ms (gx S.now (y.2+j)) else gx S.now (y.2+j):=by
  intro i y hy j j0 j1
  by_cases h9:(gx S.now x.2).1=9
  ·rw[setl_text (by show (gx T.now (S.adr ms k)).1=9;rw[h0];exact h9),c.cw i y hy j j0 j1]
   by_cases hik:i=k
   ·subst hik
    rw[hx] at hy;cases hy;rw[if_neg (by omega)]
    split
    ·rename_i hc
     have kd:=v.kn _ (mget_in h2);have k9:=kd.k9 h9;simp only at k9;have hj1:j=1:=by omega
     have:=tx _ (mget_in h2) h9;rw[ren_plain v (.inl (by rw[hj1];exact this))]
    ·rfl
   ·by_cases hc:1<=j/\j<=S.fcn (gx S.now y.2) (S.wn y)
    ·by_cases hlt:i<k
     ·rw[if_pos ⟨hlt,hc⟩,if_pos ⟨by omega,hc⟩]
     ·rw[if_neg (by omega),if_neg (by omega)]
    ·rw[if_neg (fun e=>hc e.2),if_neg (fun e=>hc e.2)]
  ·have hs:=setl_at (p:=S.adr ms k) (n:=S.wn x) ((S.flds x).map (S.ren ms)) (U:=T) 0 vt hget (fun z hz=>by
    obtain ⟨w,hw',rfl⟩:=Zc.1 hz;exact c.rsound v vt (hall w hw').1 (hall w hw').2) (by rw[Zd,h0,fcn_congr c.inf];omega) (by rw[h0];exact h9) (by rw[h0];exact h12) (S.adr ms i+j)
   rw[hs,Zd,hfl]
   by_cases hik:i=k
   ·subst hik
    rw[hx] at hy;cases hy
    by_cases hc:1<=j/\j<=S.fcn (gx S.now x.2) (S.wn x)
    ·rw[if_pos (by omega),if_pos ⟨by omega,hc⟩]
     rw[show S.adr ms i+j-(S.adr ms i+1+((0:Nat):Int))=j-1 by omega];exact (hw j hc.1 hc.2).2
    ·rw[if_neg (by omega),if_neg (fun e=>hc e.2),c.cw i x hx j j0 j1,if_neg (by omega)]
   ·have ti:=tiles_apart vt.tn (mget_in (c.get vt hy)) (mget_in hget)
    have tp:=c.in_ vt hx;have ty:=c.in_ vt hy;have hne:S.adr ms i≠S.adr ms k:=by
     intro e;have o1:=c.old1 i y hy;have b1:=bgF_mem (S:=S) ms 0 hy
     rcases Nat.lt_or_ge i k with hlt|hge
     ·have:=adr_pre (S:=S) (ms:=ms.take (i+1)) (ms':=ms) (List.take_prefix _ _) (i:=i+1) (by rw[Zl];omega)
      have s1:=adr_succ (S:=S) hy;have mono:∀ d,i+1+d<=ms.length->S.adr ms (i+1)<=S.adr ms (i+1+d):=by
       intro d
       induction d with
       | zero=>intro _;exact Int.le_refl _
       | succ d ih =>
         intro hd;have hg:=Z9 (l:=ms) (i:=i+1+d) (by omega);have:=adr_succ (S:=S) hg;have:=(c.in_ vt hg).2.1;have:=ih (by omega);rw[show i+1+(d+1)=i+1+d+1 by omega];omega
      have:=mono (k-(i+1)) (by omega);rw[show i+1+(k-(i+1))=k by omega] at this;omega
     ·have s1:=adr_succ (S:=S) hx
      have hil:=(Z1.1 hy).1;have mono:∀ d,k+1+d<=ms.length->S.adr ms (k+1)<=S.adr ms (k+1+d):=by
       intro d
       induction d with
       | zero=>intro _;exact Int.le_refl _
       | succ d ih =>
         intro hd;have hg:=Z9 (l:=ms) (i:=k+1+d) (by omega);have:=adr_succ (S:=S) hg;have:=(c.in_ vt hg).2.1;have:=ih (by omega);rw[show k+1+(d+1)=k+1+d+1 by omega];omega
      have:=mono (i-(k+1)) (by omega);rw[show k+1+(i-(k+1))=i by omega] at this;omega
    simp only[Prod.mk.injEq] at ti;rw[if_neg (by omega),c.cw i y hy j j0 j1]
    by_cases hc:1<=j/\j<=S.fcn (gx S.now y.2) (S.wn y)
    ·by_cases hlt:i<k
     ·rw[if_pos ⟨hlt,hc⟩,if_pos ⟨by omega,hc⟩]
     ·rw[if_neg (by omega),if_neg (by omega)]
    ·rw[if_neg (fun e=>hc e.2),if_neg (fun e=>hc e.2)]
 refine ⟨c.gd,by omega,a4.trans c.inf,a5.trans c.cn,a8.trans c.sz,a7.trans c.om,by rw[a6];exact c.old1,by rw[a6];exact c.old2,a1.trans c.bg,by rw[a2];exact c.ln,hcw,?_⟩;intro i y hy hik j j1 j2
 by_cases hik2:i=k
 ·subst hik2
  rw[hx] at hy;cases hy;exact hall _ (hw j j1 j2).1
 ·exact c.cl i y hy (by omega) j j1 j2
theorem Cm.scan (v:Inv S) (tx:Tx S):∀ (n:Nat) {k:Nat} {ms ts:List (Int × Int)} {T T':HS},Cm S ms k T->Inv T->S.bfsT n k ms true=(ts,true)->S.begins.length<n+k->Scan T (S.adr ms k) T'->Cm S ts ts.length T'/\ms <+: ts:=by
 intro n
 induction n with
 | zero=>intro k ms ts T T' c vt hb hn h;have:=c.gd.len v;have:=c.kl;omega
 | succ n ih =>
   intro k ms ts T T' c vt hb hn h;cases hx:ms[k]? with
   | none =>
     have hk:ms.length<=k:=List.getElem?_eq_none_iff.1 hx;have hkl:=c.kl;have hke:k=ms.length:=by omega
     rw[bfs_end hk] at hb;cases hb;subst hke;have hl:=c.ln;cases h with
     | done=>exact ⟨c,List.prefix_refl _⟩
     | step h=>omega
   | some x =>
     rw[bfs_step hx] at hb;have ht:=c.in_ vt hx;cases hb2:(S.meetT (S.flds x) ms).2 with
     | false=>rw[hb2] at hb;simp at hb
     | true =>
     rw[hb2] at hb;simp only[Bool.and_self,if_true] at hb;cases h with
     | done h=>omega
     | @step _ _ xs S1 _ h m hs =>
       rw[c.flds v vt hx (Zf _)] at m;obtain ⟨c1,hxs,hall⟩:=c.moves v (S.flds x) vt hb2 m;have hpre:=meet_pre (S:=S) (S.flds x) ms;have hkl:=(Z1.1 hx).1;have hx1:(S.meetT (S.flds x) ms).1[k]?=some x:=by
        obtain ⟨l,hl⟩:=hpre;rw[<- hl,Zi hkl];exact hx
       have ha:S.adr (S.meetT (S.flds x) ms).1 k=S.adr ms k:=adr_pre hpre (by omega);have v1:=m.inv vt;have c2:=c1.set v v1 tx hx1 hall;rw[hxs,<- ha] at hs;have v2:=v1.setl (4,S.adr (S.meetT (S.flds x) ms).1 k) ((S.flds x).map (S.ren (S.meetT (S.flds x) ms).1)) 0;have hnx:((S1.setl (4,S.adr (S.meetT (S.flds x) ms).1 k) 0 ((S.flds x).map (S.ren (S.meetT (S.flds x) ms).1))).next (S.adr (S.meetT (S.flds x) ms).1 k)).1=S.adr (S.meetT (S.flds x) ms).1 (k+1):=by
        rw[HS.next,c2.get v2 hx1,adr_succ hx1]
       rw[hnx] at hs;obtain ⟨r1,r2⟩:=ih c2 v2 hb (by omega) hs;exact ⟨r1,hpre.trans r2⟩
end
end Go.S19

namespace Go.S19
open Go Go.Eng Go.Proofs Go.Chk
section
variable {S T:HS} {ts:List (Int × Int)}
theorem bfs_true:∀ (n i:Nat) {ms:List (Int × Int)} {sd:Bool},(S.bfsT n i ms sd).2=true->sd=true:=by
 intro n
 induction n with
 | zero=>intro i ms sd h;exact h
 | succ n ih =>
   intro i ms sd h;rw[HS.bfsT] at h
   split at h
   ·exact h
   ·split at h
    ·rename_i hc;simp only[Bool.and_eq_true] at hc;exact hc.1
    ·cases h
def InT (S:HS) (ts:List (Int × Int)) (w:Int × Int):Prop:=S.sound w/\((S.folX w).1.1=4->(S.folX w).1∈ts)
theorem InT.pre {ts ts':List (Int × Int)} {w:Int × Int} (h:InT S ts w) (hp:ts <+: ts'):InT S ts' w:=⟨h.1,fun e=>hp.subset (h.2 e)⟩
structure Sg (S:HS) (roots ts:List (Int × Int)):Prop where
 r:(S.meetT roots []).2=true
 g:(S.meetT S.globals (S.meetT roots []).1).2=true
 b:S.bfsT (S.begins.length+1) 0 (S.meetT S.globals (S.meetT roots []).1).1 true=(ts,true)
theorem Sg.of {roots:List (Int × Int)} (h:(S.graph roots).2=true):Sg S roots (S.graph roots).1:=by
 have hs:=bfs_true _ _ h;simp only[Bool.and_eq_true] at hs;refine ⟨hs.1,hs.2,?_⟩;have:S.graph roots=((S.graph roots).1,true):=Prod.ext rfl h;rw[<- this,HS.graph,hs.1,hs.2];rfl
structure Cd (S:HS) (roots ts news:List (Int × Int)) (T:HS):Prop where
 sg:Sg S roots ts
 nw:news=roots.map (S.ren ts)
 gl:T.globals=S.globals.map (S.ren ts)
 cm:Cm S ts ts.length T
 it:Inv T
 ir:∀ w∈roots,InT S ts w
 ig:∀ w∈S.globals,InT S ts w
theorem coll_cd (v:Inv S) (tx:Tx S) {roots news:List (Int × Int)} (hg:(S.graph roots).2=true) (h:CollR S roots news T) (vt:Inv T):Cd S roots (S.graph roots).1 news T:=by
 have sg:=Sg.of hg;generalize (S.graph roots).1=ts at sg;obtain ⟨S2,gs,S3,S4,m1,m2,sc,rfl⟩:=h;obtain ⟨c2,hn,i2⟩:=(Cm.start S).moves v roots v.flip sg.r m1;have v2:=m1.inv v.flip;obtain ⟨c3,hgs,i3⟩:=c2.moves v S.globals v2 sg.g m2;have v3:=m2.inv v2;rw[<- adr_zero (S:=S) (S.meetT S.globals (S.meetT roots []).1).1] at sc;obtain ⟨c4,hpre⟩:=Cm.scan v tx _ c3 v3 sg.b (by omega) sc;have hp1:=meet_pre (S:=S) S.globals (S.meetT roots []).1;have ir:∀ w∈roots,InT S ts w:=fun w hw=>InT.pre (InT.pre (i2 w hw) hp1) hpre
 have ig:∀ w∈S.globals,InT S ts w:=fun w hw=>InT.pre (i3 w hw) hpre
 have hgs':gs=S.globals.map (S.ren ts):=by
  rw[hgs];exact Ze fun w hw=>(ren_pre (i3 w hw).2 hpre).symm
 have hset:S4.setg gs=(0,{ S4 with globals:=gs }):=by
  have key:∀ {A B:HS} {i:Int},Scan A i B->B.globals=A.globals:=by
   intro A B i hs
   induction hs with
   | done=>rfl
   | step _ m _ ih=>rw[ih,(setl_same _ _ _ _).2.2.1,m.mvs.gl]
  have e4:S4.globals=S.globals:=by rw[key sc,m2.mvs.gl,m1.mvs.gl];rfl
  have v4:Inv S4:=by
   have key2:∀ {A B:HS} {i:Int},Scan A i B->Inv A->Inv B:=by
    intro A B i hs
    induction hs with
    | done=>exact fun v=>v
    | step _ m _ ih=>exact fun v=>ih ((m.inv v).setl _ _ _)
   exact key2 sc v3
  rw[HS.setg,if_pos];refine ⟨by rw[e4,hgs',Zd],fun y hy=>?_⟩;rw[hgs'] at hy;obtain ⟨w,hw,rfl⟩:=Zc.1 hy;exact c4.rsound v v4 (ig w hw).1 (ig w hw).2
 rw[hset] at vt ⊢;refine ⟨sg,?_,hgs',⟨c4.gd,c4.kl,c4.inf,c4.cn,c4.sz,c4.om,c4.old1,c4.old2,c4.bg,c4.ln,c4.cw,c4.cl⟩,vt,ir,ig⟩;rw[hn];exact Ze fun w hw=>(ren_pre (i2 w hw).2 (hp1.trans hpre)).symm
noncomputable def HS.ro (S:HS) (ts:List (Int × Int)) (x:Int × Int):Int × Int:=(4,S.adr ts ((pos x ts).getD 0))
theorem ro_ix (g:Gd S ts) {i:Nat} {x:Int × Int} (h:ts[i]?=some x):S.ro ts x=(4,S.adr ts i):=by
 rw[HS.ro,pos_ix g.2 h];rfl
variable (c:Cm S ts ts.length T)
include c
theorem Cm.head (vt:Inv T) {i:Nat} {x:Int × Int} (hx:ts[i]?=some x):gx T.now (S.adr ts i)=gx S.now x.2:=by
 have h0:=c.cw i x hx 0 (by omega) (by have:=c.in_ vt hx;omega);rw[if_neg (by omega),Z7,Z7] at h0;exact h0
theorem Cm.fldsr (v:Inv S) (vt:Inv T) {x:Int × Int} (hx:x∈ts):T.flds (S.ro ts x)=(S.flds x).map (S.ren ts)/\(∀ w∈S.flds x,InT S ts w)/\T.wn (S.ro ts x)=S.wn x/\gx T.now (S.ro ts x).2=gx S.now x.2/\T.lies (S.ro ts x):=by
 obtain ⟨i,hi⟩:=Zn.1 hx;obtain ⟨h1,h2,h3,h4⟩:=obj_flds v (c.gd.1 x hx).1;have hl:=(Z1.1 hi).1;have hget:=c.get vt hi;rw[ro_ix c.gd hi];refine ⟨?_,?_,by rw[HS.wn,hget];rfl,c.head vt hi,rfl,by show (mget (S.adr ts i) T.begins).isSome=true;rw[hget];rfl⟩
 ·rw[flds_eq hget,h1,c.head vt hi,fcn_congr c.inf]
  apply List.ext_getElem?
  intro j;rw[Zp,fld_get,fld_get]
  split
  ·have:=c.cw i x hi (1+j) (by omega) (by omega)
   rw[if_pos ⟨hl,by omega,by omega⟩] at this;rw[show S.adr ts i+1+(j:Int)=S.adr ts i+(1+j) by omega,this,Option.map_some]
   congr 2
   rw[show x.2+1+(j:Int)=x.2+(1+j) by omega]
  ·rfl
 ·intro w hw
  rw[h1] at hw;obtain ⟨j,hj⟩:=Zn.1 hw;rw[fld_get] at hj
  split at hj
  ·cases hj
   have:=c.cl i x hi hl (1+j) (by omega) (by omega);rw[show x.2+1+(j:Int)=x.2+(1+j) by omega];exact this
  ·cases hj
end
theorem Cd.adr {S T:HS} {roots ts news:List (Int × Int)} (d:Cd S roots ts news T) (v:Inv S):∀ (l:List (Int × Int)),(∀ x∈l,x∈ts)->(l.map (S.ro ts)).map T.wn=l.map S.wn:=by
 intro l hl;rw[List.map_map];exact Ze fun x hx=>(d.cm.fldsr v d.it (hl x hx)).2.2.1
theorem Cd.reach {S T:HS} {roots ts news:List (Int × Int)} (d:Cd S roots ts news T) (v:Inv S):T.reach (ts.map (S.ro ts))=S.reach ts/\(T.now.length:Int)=S.reach ts:=by
 refine ⟨by rw[HS.reach,d.adr v ts (fun _ h=>h),HS.reach],?_⟩;rw[d.cm.ln,HS.adr,Zb,HS.reach]
end Go.S19

namespace Go.Scn
open Go
abbrev Bs:=List UInt8
def tx (l:Bs):ByteArray:=⟨l.toArray⟩
theorem tx_size (l:Bs):(tx l).size=l.length:=by simp [tx,ByteArray.size]
theorem tx_app (a b:Bs):tx a++tx b=tx (a++b):=by
 apply ByteArray.ext;simp [tx]
def digit (c:UInt8):Bool:=decide (48<=c.toNat/\c.toNat<=57)
def symL:Bs:=[33,35,36,37,38,42,43,46,47,60,61,62,63,64,92,94,124,45,126,58]
def symb (c:UInt8):Bool:=symL.contains c
def dash (c:UInt8):Bool:=decide (c.toNat=45)
def spn (p:UInt8->Bool) (l:Bs):Nat:=(l.takeWhile p).length
instance (l:Bs):Decidable (∀ c,l[spn dash l]?=some c->symb c=false) :=
 match h:l[spn dash l]? with
 | none=>.isTrue (fun c e=>by cases e)
 | some c=>if hc:symb c=false then .isTrue (fun d e=>by cases e;exact hc) else .isFalse (fun k=>hc (k c rfl))
def dg (c:UInt8):Nat:=if digit c then c.toNat-48 else if 97<=(c ||| 32).toNat/\(c ||| 32).toNat<=122 then (c ||| 32).toNat-87 else 99
inductive PU where
 | ok (n:Nat)
 | syn
 | rng
def wr3:Bs->UInt8 × Nat
 | a::b::_=>if dg a<16/\dg b<16 then (UInt8.ofNat (16*dg a+dg b),4) else (0,0)
 | _=>(0,0)
def wr2:Bs->UInt8 × Nat
 | []=>(0,0)
 | d::q=>if d.toNat=110 then (10,2) else if d.toNat=116 then (9,2) else if d.toNat=92\/d.toNat=39\/d.toNat=34 then (d,2) else
     if d.toNat=120 then wr3 q else (0,0)
def wr:Bs->UInt8 × Nat
 | []=>(0,0)
 | c::r=>if c.toNat<32\/126<c.toNat then (0,0) else if ¬ c.toNat=92 then (c,1) else wr2 r
structure Tk where
 k:Int
 t:Bs
 n:Int
 a:Nat
def pre (ts:List Tk):Except Nat (List Tk)->Except Nat (List Tk)
 | .error e=>.error e
 | .ok us=>.ok (ts++us)
end Go.Scn

namespace Go.S19
open Go Go.Eng Go.Proofs Go.Scn
abbrev bv (c:UInt8):Value:=.int .u8 (c.toNat:Int)
abbrev tv (l:Bs):Value:=.string (tx l)
theorem cells_tx (l:Bs):byteCells (tx l)=l.map bv:=rfl
theorem asBytes_tx:∀ (l:Bs),asBytes (l.map bv)=some (l.map fun c=>(c.toNat:Int)):=by
 intro l
 induction l with
 | nil=>rfl
 | cons c l ih=>show (asBytes (l.map bv)).map ((c.toNat:Int) :: ·)=_;rw[ih];rfl
theorem pushAll_tx (l:Bs):pushAll (l.map fun c=>(c.toNat:Int))=tx l:=by
 have:∀ (l:Bs) (b:ByteArray),(l.map fun c=>(c.toNat:Int)).foldl (fun r n=>r.push (UInt8.ofNat n.toNat)) b=⟨b.data++l.toArray⟩:=by
  intro l
  induction l with
  | nil=>intro b;simp
  | cons c l ih =>
    intro b;rw[Zg,List.foldl_cons,ih]
    apply ByteArray.ext
    simp [ByteArray.push]
 rw[pushAll,this]
 apply ByteArray.ext;simp [tx]
theorem s_add {a b:Bs} (h:a.length+b.length<=9223372036854775807):sbin .add (tx a) (tx b)=some (.string (tx (a++b))):=by
 have:¬ (((tx a).size+(tx b).size:Nat):Int) > IntKind.i64.max:=by
  rw[tx_size,tx_size];have:IntKind.i64.max=9223372036854775807:=by decide
  omega
 simp only[sbin,if_neg this,tx_app]
end Go.S19

namespace Go.Proofs
open Go.Shelf
def Tryd.laysItoa_ren:Go.Shelf.Ren:=⟨fun|171=>31|243=>65|246=>73|283=>81|284=>82|285=>83|286=>84|129=>95|317=>94|318=>96|319=>97|320=>98|337=>99|338=>100|n=>n,fun|3=>3|9=>9|2=>2|4=>4|171=>138|0=>0|53=>139|37=>66|5=>5|173=>142|212=>149|51=>150|20=>20|213=>151|46=>152|232=>158|233=>159|n=>n,fun|17=>0|18=>1|19=>2|n=>n⟩
theorem Tryd.laysItoa:Go.Proofs.LaysM.n171 Tryd.prog Tryd.laysItoa_ren:={
 mixed:=by kernel_rfl
 f129:=Tryd.func95.trans (congrArg some (by kernel_rfl))
 f171:=Tryd.func31.trans (congrArg some (by kernel_rfl))
 f243:=Tryd.func65.trans (congrArg some (by kernel_rfl))
 f246:=Tryd.func73.trans (congrArg some (by kernel_rfl))
 f283:=Tryd.func81.trans (congrArg some (by kernel_rfl))
 f284:=Tryd.func82.trans (congrArg some (by kernel_rfl))
 f285:=Tryd.func83.trans (congrArg some (by kernel_rfl))
 f286:=Tryd.func84.trans (congrArg some (by kernel_rfl))
 f317:=Tryd.func94.trans (congrArg some (by kernel_rfl))
 f318:=Tryd.func96.trans (congrArg some (by kernel_rfl))
 f319:=Tryd.func97.trans (congrArg some (by kernel_rfl))
 f320:=Tryd.func98.trans (congrArg some (by kernel_rfl))
 f337:=Tryd.func99.trans (congrArg some (by kernel_rfl))
 f338:=Tryd.func100.trans (congrArg some (by kernel_rfl))
 t0:=Tryd.underlying0
 a0:=Tryd.isAgg0
 z0:=Tryd.sizeOf0
 v0:=Tryd.zeroValue0
 t2:=Tryd.underlying2
 a2:=Tryd.isAgg2
 z2:=Tryd.sizeOf2
 v2:=Tryd.zeroValue2
 t3:=Tryd.underlying3
 a3:=Tryd.isAgg3
 z3:=Tryd.sizeOf3
 v3:=Tryd.zeroValue3
 t4:=Tryd.underlying4
 a4:=Tryd.isAgg4
 z4:=Tryd.sizeOf4
 v4:=Tryd.zeroValue4
 t5:=Tryd.underlying5
 a5:=Tryd.isAgg5
 z5:=Tryd.sizeOf5
 v5:=Tryd.zeroValue5
 t9:=Tryd.underlying9
 a9:=Tryd.isAgg9
 z9:=Tryd.sizeOf9
 v9:=Tryd.zeroValue9
 t20:=Tryd.underlying20
 a20:=Tryd.isAgg20
 z20:=Tryd.sizeOf20
 v20:=Tryd.zeroValue20
 t37:=Tryd.underlying66
 a37:=Tryd.isAgg66
 z37:=Tryd.sizeOf66
 v37:=Tryd.zeroValue66
 t46:=Tryd.underlying152
 a46:=Tryd.isAgg152
 z46:=Tryd.sizeOf152
 v46:=Tryd.zeroValue152
 t51:=Tryd.underlying150
 a51:=Tryd.isAgg150
 z51:=Tryd.sizeOf150
 v51:=Tryd.zeroValue150
 t53:=Tryd.underlying139
 a53:=Tryd.isAgg139
 z53:=Tryd.sizeOf139
 v53:=Tryd.zeroValue139
 t171:=Tryd.underlying138
 a171:=Tryd.isAgg138
 z171:=Tryd.sizeOf138
 v171:=Tryd.zeroValue138
 t173:=Tryd.underlying142
 a173:=Tryd.isAgg142
 z173:=Tryd.sizeOf142
 v173:=Tryd.zeroValue142
 t212:=Tryd.underlying149
 a212:=Tryd.isAgg149
 z212:=Tryd.sizeOf149
 v212:=Tryd.zeroValue149
 t213:=Tryd.underlying151
 a213:=Tryd.isAgg151
 z213:=Tryd.sizeOf151
 t232:=Tryd.underlying158
 a232:=Tryd.isAgg158
 z232:=Tryd.sizeOf158
 v232:=Tryd.zeroValue158
 t233:=Tryd.underlying159
 a233:=Tryd.isAgg159
 z233:=Tryd.sizeOf159
 v233:=Tryd.zeroValue159
 g17:=by kernel_rfl
 g18:=by kernel_rfl
 g19:=by kernel_rfl
 i0:=by kernel_rfl
 i2:=by kernel_rfl
 i3:=by kernel_rfl
 i4:=by kernel_rfl
 i5:=by kernel_rfl
 i9:=by kernel_rfl
 i20:=by kernel_rfl
 i37:=by kernel_rfl
 i46:=by kernel_rfl
 i51:=by kernel_rfl
 i53:=by kernel_rfl
 i171:=by kernel_rfl
 i173:=by kernel_rfl
 i212:=by kernel_rfl
 i232:=by kernel_rfl
 i233:=by kernel_rfl
 m17:=by kernel_rfl
 m18:=by kernel_rfl
 m19:=by kernel_rfl }
end Go.Proofs

namespace Go.S19
open Go Go.Eng Go.Proofs Go.Scn
theorem itoa_ok (n:Int) (h0 : -9223372036854775808<=n) (h1:n<=9223372036854775807) (h:AH):Gets Tryd.prog 31 [iv n] h (fun res h'=>h'=h/\res = .ret (tv (Lib.itoa n))):=by
 refine Gets.ofCalls (fn:=Tryd.prog.funcs[31]!) hP (by kernel_rfl) (c:=(Tryd.prog.funcs[31]!).body.getD .skip) (by kernel_rfl) rfl rfl (fun W hT=>?_) h;refine Calls.mono (Any.strconv_Itoa (P := Tryd.prog) Tryd.laysItoa n h0 h1 W (tab_pow hT (by kernel_rfl : Tryd.prog.globalNamed "internal/strconv.uint64pow10" = some 0) (by kernel_rfl))) fun e w' he => ?_
 obtain ⟨rfl,k,os,rfl⟩:=he;exact ⟨rfl,below_grow⟩
end Go.S19

namespace Go.S19
open Go Go.Eng Go.Proofs Go.Scn
abbrev bdT:TypeId:=68
structure Bd (h:AH) (b:Nat) (acc:Bs) (a v:Value):Prop where
 own:Own h b bdT [a,v]
 ad:a = .pointer none\/a = .pointer (some ⟨b,0,none⟩)
 ow:Ows h 5 1 v acc.length (acc.map bv)
 ne:∀ q,bk v q->b<q
 nl:acc=[]->v = .slice none 0 0
theorem noesc_ok (v:Value) (h:AH):Gets Tryd.prog 80 [v] h (fun res h'=>h'=h/\res = .ret v):=by
 refine Gets.extB (h':=h) (res:=.ret v) ?_ (Zf _) ⟨rfl,rfl⟩;have hf:Tryd.prog.funcs[(80:Nat)]?=some (Tryd.prog.funcs[80]!):=by kernel_rfl
 have hb:((Tryd.prog.funcs[80]!).body.isNone && ((Extern.allNextRows.lookup (Tryd.prog.funcs[80]!).origin).isNone))=true:=by kernel_rfl
 have hn : ((Tryd.prog.funcs[80]!).name == "internal/abi.NoEscape") = true := by kernel_rfl
 simp only[aextB,hf,hb,hn,if_true]
theorem copyCheck_ok {h:AH} {b:Nat} {acc:Bs} {a v:Value} (x:Bd h b acc a v):Gets Tryd.prog 72 [.pointer (some ⟨b,0,none⟩)] h
 (fun res h'=>res = .ret (.tuple #[])/\Keep (· = b) h h'/\Bd h' b acc (.pointer (some ⟨b,0,none⟩)) v):=by
 refine Gets.of (keep:=false) hP (draw_ok hM) k72 (by rfl) (fun Ψ hΨ=>?_);obtain ⟨va,vc,rfl⟩:=row_shape x.ow.rds;have o:=x.own;obtain ⟨g,hg⟩:=x.own
 rcases x.ad with rfl|rfl
 ·simp only[ZG,↓reduceIte,ZA,ZB,ZC,r72,YE,YC,YO,YA,YL,YX,YS,Ya,Yb,Yl,Yf,Yg,Yi,Ym,Yk,Yt,Yn,Yz,Yp,Yq,Yd,o.cells.ld,mbl,ZD,ZE,ZF,u_up o.cells (show 0<2 by omega)]
  refine XX_val (noesc_ok _ h) ?_;simp only[ZG,↓reduceIte,ZA,ZB,ZC,u_pu hg (show 2<=2 by omega)];refine XH_own o rfl (by simp [Value.cells]) rfl (fun h' q1 q2 q3=>?_);have o':Own h' b bdT [.pointer (some ⟨b,0,none⟩),.slice va acc.length vc]:=by simpa [Value.cells] using q1
  simp only[ZG,↓reduceIte,ZA,ZB,ZC];exact hΨ _ _ (fin_norm ⟨rfl,q2,o',.inr rfl,x.ow.keep q2 (fun q hq e=>by have:=x.ne q hq;omega),x.ne,x.nl⟩)
 ·simp only[ZG,↓reduceIte,ZA,ZB,ZC,r72,YE,YC,YO,YA,YL,YX,YS,Ya,Yb,Yl,Yf,Yg,Yi,Ym,Yk,Yt,Yn,Yz,Yp,Yq,Yd,o.cells.ld,mbl,ZD,ZE,ZF]
  exact hΨ _ _ (fin_norm ⟨rfl,.refl _ _,o,.inr rfl,x.ow,x.ne,x.nl⟩)
theorem writeByte_ok {h:AH} {b:Nat} {acc:Bs} {a v:Value} (x:Bd h b acc a v) (c:UInt8) (hl:acc.length<=140000000000000):Gets Tryd.prog 60 [.pointer (some ⟨b,0,none⟩),bv c] h
 (fun res h'=>res = .ret .nilIface/\Keep (fun q=>q=b\/bk v q) h h' /\ ∃ v',Bd h' b (acc++[c]) (.pointer (some ⟨b,0,none⟩)) v' /\ ∀ q,bk v' q->bk v q\/h.length<=q):=by
 refine Gets.of (keep:=false) hP (draw_ok hM) k60 (by rfl) (fun Ψ hΨ=>?_);simp only[ZG,↓reduceIte,ZA,ZB,ZC,r60,YE,YC,YO,YA,YL,YX,YS,Ya,Yb,Yl,Yf,Yg,Yi,Ym,Yk,Yt,Yn,Yz,Yp,Yq,Yd];refine XX_of (copyCheck_ok x) (fun res h1 hle hr=>?_);obtain ⟨rfl,k1,x1⟩:=hr;refine .ret ?_;obtain ⟨s',h',a1,a2,a3,a4⟩:=app1 (bytes:=1) x1.ow (xs:=[bv c]) rfl rfl (by omega) (by omega);obtain ⟨va,vc,rfl⟩:=row_shape x1.ow.rds;obtain ⟨sa,sc,rfl⟩:=row_shape a2.rds;simp only[ZG,↓reduceIte,ZA,ZB,ZC,x1.own.cells.ld,mbl,ZD,ZE,ZF,a1];have o2:Own h' b bdT [.pointer (some ⟨b,0,none⟩),.slice va acc.length vc]:=x1.own.keep a3 (fun e=>by have:=x1.ne b e;omega);refine XH_own o2 rfl (by simp [Value.cells]) rfl (fun h2 q1 q2 q3=>?_);have o3:Own h2 b bdT [.pointer (some ⟨b,0,none⟩),.slice sa (acc.length+1) sc]:=by simpa [Value.cells] using q1
 have hb:=x1.own.lt;have hlen:=k1.len;have hbl:=x.own.lt;have fr:∀ q,bk (.slice sa (acc.length+1) sc) q->b<q:=fun q hq=>by
  rcases a4 q hq with e|e
  ·exact x1.ne q e
  ·omega
 simp only[ZG,↓reduceIte,ZA,ZB,ZC];refine hΨ _ _ (fin_ret (rv1 rfl ⟨rfl,?_,_,⟨o3,.inr rfl,?_,fr,fun e=>by simp at e⟩,fun q hq=>?_⟩))
 ·exact ((k1.mono (fun c e=>.inl e)).trans' a3 (fun q hq e=>.inr e)).trans' q2 (fun q hq e=>.inl e)
 ·have:=a2.keep q2 (fun q hq e=>by have:=fr q hq;omega)
  simpa using this
 ·exact (a4 q hq).imp id (fun e=>by omega)
theorem writeString_ok {h:AH} {b:Nat} {acc:Bs} {a v:Value} (x:Bd h b acc a v) (l:Bs) (hl:acc.length+l.length<=140000000000000):Gets Tryd.prog 58 [.pointer (some ⟨b,0,none⟩),tv l] h
 (fun res h'=>res = .ret (.tuple #[iv l.length,.nilIface])/\Keep (fun q=>q=b\/bk v q) h h' /\ ∃ v',Bd h' b (acc++l) (.pointer (some ⟨b,0,none⟩)) v' /\ ∀ q,bk v' q->bk v q\/h.length<=q):=by
 refine Gets.of (keep:=false) hP (draw_ok hM) k58 (by rfl) (fun Ψ hΨ=>?_);simp only[ZG,↓reduceIte,ZA,ZB,ZC,r58,YE,YC,YO,YA,YL,YX,YS,Ya,Yb,Yl,Yf,Yg,Yi,Ym,Yk,Yt,Yn,Yz,Yp,Yq,Yd];refine XX_of (copyCheck_ok x) (fun res h1 hle hr=>?_);obtain ⟨rfl,k1,x1⟩:=hr;refine .ret ?_;obtain ⟨s',h',a1,a2,a3,a4⟩:=x1.ow.app (bytes:=1) (str:=true) (x:=tv l) (m:=l.length) (xs:=l.map bv) (by simp [srcv,tx_size,cells_tx]) (by simp) (by simp [Value.oneCell']) (by omega) (by omega);have nl:acc++l=[]->s' = .slice none 0 0:=fun e=>by
  obtain ⟨e1,e2⟩:=List.append_eq_nil_iff.1 e;have hv:=x1.nl e1;subst e2;rw[hv] at a1;simp [appv,srcv,tx_size] at a1;exact a1.1.symm
 obtain ⟨va,vc,rfl⟩:=row_shape x1.ow.rds;obtain ⟨sa,sc,rfl⟩:=row_shape a2.rds;simp only[ZG,↓reduceIte,ZA,ZB,ZC,x1.own.cells.ld,mbl,ZD,ZE,ZF,a1];have o2:Own h' b bdT [.pointer (some ⟨b,0,none⟩),.slice va acc.length vc]:=x1.own.keep a3 (fun e=>by have:=x1.ne b e;omega);refine XH_own o2 rfl (by simp [Value.cells]) rfl (fun h2 q1 q2 q3=>?_);have o3:Own h2 b bdT [.pointer (some ⟨b,0,none⟩),.slice sa (acc.length+l.length) sc]:=by simpa [Value.cells] using q1
 have hb:=x1.own.lt;have hlen:=k1.len;have hbl:=x.own.lt;have fr:∀ q,bk (.slice sa (acc.length+l.length) sc) q->b<q:=fun q hq=>by
  rcases a4 q hq with e|e
  ·exact x1.ne q e
  ·omega
 simp only[ZG,↓reduceIte,ZA,ZB,ZC,tx_size];refine hΨ _ _ (fin_ret (rv2 rfl rfl ⟨rfl,?_,_,⟨o3,.inr rfl,?_,fr,nl⟩,fun q hq=>?_⟩))
 ·exact ((k1.mono (fun c e=>.inl e)).trans' a3 (fun q hq e=>.inr e)).trans' q2 (fun q hq e=>.inl e)
 ·have:=a2.keep q2 (fun q hq e=>by have:=fr q hq;omega)
  simpa using this
 ·exact (a4 q hq).imp id (fun e=>by omega)
theorem string_ok {h:AH} {b:Nat} {acc:Bs} {a v:Value} (x:Bd h b acc a v) (hl:acc.length<=140000000000000):Gets Tryd.prog 32 [.pointer (some ⟨b,0,none⟩)] h
 (fun res h'=>res = .ret (tv acc)/\Keep (bk v) h h'):=by
 refine Gets.of (keep:=false) hP (draw_ok hM) k32 (by rfl) (fun Ψ hΨ=>?_);have hv:=x.own
 by_cases h0:acc=[]
 ·have e:=x.nl h0
  subst h0 e;have hu:ustv h 5 (.pointer none) (iv 0)=some (.string ByteArray.empty,h):=rfl;simp only[ZG,↓reduceIte,ZA,ZB,ZC,r32,YE,YC,YO,YA,YL,YX,YS,Ya,Yb,Yl,Yf,Yg,Yi,Ym,Yk,Yt,Yn,Yz,Yp,Yq,Yd,hv.cells.ld,mbl,ZD,ZE,ZF,hu];exact hΨ _ _ (fin_ret (rv1 rfl ⟨rfl,.refl _ _⟩))
 ·have hpos:0<acc.length:=List.length_pos_iff.2 h0
  obtain ⟨b2,c,all,e,ob,hall,hnc,htk⟩:=ows_open x.ow hpos;subst e;have hc0:c≠0:=by omega
  obtain ⟨g,hg⟩:=ob;have hu:ustv h 5 (.pointer (some ⟨b2,0,none⟩)) (iv acc.length)=some (.string (tx acc),h.set b2 (.cells false true g 0 5 all)):=by
   have h1:¬ (acc.length:Int)=0:=by omega
   have h2:(0:Int)<(acc.length:Int):=by omega
   have h3:0+acc.length<=all.length:=by omega
   have h4:(acc.length:Int)<=9223372036854775807:=by omega
   simp only[ustv,h1,if_false,hg,Int.toNat_natCast,h2,h3,h4,and_self,if_true,List.drop_zero,htk,asBytes_tx,Option.map_some,pushAll_tx]
  simp only[ZG,↓reduceIte,ZA,ZB,ZC,r32,YE,YC,YO,YA,YL,YX,YS,Ya,Yb,Yl,Yf,Yg,Yi,Ym,Yk,Yt,Yn,Yz,Yp,Yq,Yd,hv.cells.ld,mbl,ZD,ZE,ZF,hc0,hu,ct1];exact hΨ _ _ (fin_ret (rv1 rfl ⟨rfl,(Keep.set _ _ _).mono (fun q e=>e)⟩))
end Go.S19

namespace Go.S19
open Go Go.Eng Go.Proofs Go.Chk Go.Scn
def rgI (n:Int):Prop:=-9223372036854775808<=n/\n<=9223372036854775807
structure Rg (S:HS):Prop where
 now:∀ x∈S.now,rgI x.2
 old:∀ x∈S.old,rgI x.2
 gl:∀ x∈S.globals,rgI x.2
theorem gx_rg {ws:List (Int × Int)} (h:∀ x∈ws,rgI x.2) (i:Int):rgI (gx ws i).2:=by
 unfold gx
 split
 ·rename_i hi
  have:ws[i.toNat]?=some (wat ws i):=wat_at hi.1 hi.2;exact h _ (Z3 this)
 ·exact ⟨by decide,by decide⟩
theorem fol_rg {S:HS} (r:Rg S):∀ {n:Nat} {w y:Int × Int},rgI w.2->S.fol n w=some y->rgI y.2:=by
 intro n
 induction n with
 | zero=>intro w y _ h;cases h
 | succ n ih =>
   intro w y hw h;rw[HS.fol] at h
   split at h
   ·split at h
    ·exact ih (gx_rg r.now _) h
    ·cases h;exact hw
   ·cases h;exact hw
theorem folX_rg {S:HS} (r:Rg S) (v:Inv S) {w:Int × Int} (hw:rgI w.2):rgI (S.folX w).1.2:=by
 by_cases hs:S.sound w
 ·obtain ⟨m,x,hx⟩:=v.tm w hs
  rw[folX_eq hs hx];exact fol_rg r hw hx
 ·rw[folX_no hs];exact ⟨by decide,by decide⟩
noncomputable def HS.lbl (S:HS) (ts:List (Int × Int)) (w:Int × Int):Bs :=
 [32]++(if (S.folX w).1.1=2 then [99] else if (S.folX w).1.1=3 then [102] else if (S.folX w).1.1=4 then [35] else [])++Lib.itoa (if (S.folX w).1.1=4 then (((pos (S.folX w).1 ts).getD 0:Nat):Int) else (S.folX w).1.2)
noncomputable def HS.lineT (S:HS) (ts:List (Int × Int)) (s:Bs) (ws:List (Int × Int)):Bs:=s++ws.flatMap (S.lbl ts)++[10]
theorem lbl_len {S:HS} {ts:List (Int × Int)} (r:Rg S) (v:Inv S) (hl:ts.length<=2000000) {w:Int × Int} (hw:rgI w.2):(S.lbl ts w).length<=23:=by
 have h1:(Lib.itoa (if (S.folX w).1.1=4 then (((pos (S.folX w).1 ts).getD 0:Nat):Int) else (S.folX w).1.2)).length<=21:=by
  split
  ·have:(pos (S.folX w).1 ts).getD 0<=2000000:=by
    cases hp:pos (S.folX w).1 ts with
    | none=>simp
    | some j=>have:=(Z1.1 (pos_get hp)).1;simp;omega
   exact Lib.itoa_length_le _ (by omega) (by omega)
  ·have:=folX_rg r v hw
   exact Lib.itoa_length_le _ this.1 this.2
 unfold HS.lbl;simp only[Z0,Z2,Z4]
 repeat' split
 all_goals simp_all
 all_goals omega
theorem lbls_len {S:HS} {ts:List (Int × Int)} (r:Rg S) (v:Inv S) (hl:ts.length<=2000000):∀ {ws:List (Int × Int)},(∀ w∈ws,rgI w.2)->(ws.flatMap (S.lbl ts)).length<=23*ws.length:=by
 intro ws
 induction ws with
 | nil=>intro _;simp
 | cons w ws ih =>
   intro h;have h1:=lbl_len r v hl (h w Z8);have h2:=ih (fun y hy=>h y (Z5 _ hy));simp only[List.flatMap_cons,Z0,Z2];omega
def Ng (L:Lay) (bg bi bm:Nat) (vi:Value) (q:Nat):Prop:=L.cls q=0 /\ ¬ GOwns bg bi bm vi q
structure Lb (h:AH) (b:Nat) (L:Lay) (S:HS) (bg bi bm:Nat) (vi:Value) (ts:List (Int × Int)) (bo:Nat) (acc:Bs) (v:Value):Prop where
 gr:Gr h b L S bg bi bm vi ts true
 bd:∃ a,Bd h bo acc a v
 nb:Ng L bg bi bm vi bo
 nv:∀ q,bk v q->Ng L bg bi bm vi q
theorem Bd.keep {S:Nat->Prop} {h h':AH} {b:Nat} {acc:Bs} {a v:Value} (x:Bd h b acc a v) (k:Keep S h h') (hb:¬ S b) (hv:∀ q,bk v q -> ¬ S q):Bd h' b acc a v :=
 ⟨x.own.keep k hb,x.ad,x.ow.keep k hv,x.ne,x.nl⟩
theorem xFind_ok {h:AH} {bi bm:Nat} {v:Value} {ts:List (Int × Int)} (s:Ixs h bi bm v ts) (w:Int × Int):Gets Tryd.prog 59 [.pointer (some ⟨bi,0,none⟩),wv w] h (fun res h'=>Keep (fun _=>False) h h' /\ ∃ e,res = .ret (.tuple #[iv (((pos w ts).getD 0:Nat):Int),e])) :=
 (iFind_ok s w).mono fun res h' _ hn=>by
  obtain ⟨k,rfl⟩:=hn;refine ⟨k,?_⟩;cases pos w ts with
  | none=>exact ⟨_,rfl⟩
  | some j=>exact ⟨_,rfl⟩
section
variable {h h':AH} {b:Nat} {L:Lay} {S:HS} {bg bi bm:Nat} {vi:Value} {ts:List (Int × Int)} {bo:Nat} {acc acc':Bs} {v v':Value}
theorem Lb.keepF (l:Lb h b L S bg bi bm vi ts bo acc v) (k:Keep (fun _=>False) h h'):Lb h' b L S bg bi bm vi ts bo acc v:=by
 obtain ⟨a,ba⟩:=l.bd;exact ⟨l.gr.keepF k,⟨a,ba.keep k (fun e=>e) (fun _ _ e=>e)⟩,l.nb,l.nv⟩
theorem Lb.wr (l:Lb h b L S bg bi bm vi ts bo acc v) (k:Keep (fun q=>q=bo\/bk v q) h h') (x:Bd h' bo acc' (.pointer (some ⟨bo,0,none⟩)) v') (nv:∀ q,bk v' q->bk v q\/h.length<=q):Lb h' b L S bg bi bm vi ts bo acc' v' :=
 ⟨l.gr.keepX k (fun q hq e=>e.elim (fun e=>hq (by rw[e];exact l.nb.1)) (fun e=>hq (l.nv q e).1)) (fun q hq e=>e.elim (fun e=>l.nb.2 (by rw[<- e];exact hq)) (fun e=>(l.nv q e).2 hq)),⟨_,x⟩,l.nb,
  fun q e=>(nv q e).elim (l.nv q) (fun e=>⟨l.gr.hp.c0 q e,fun e2=>by have:=l.gr.lt q e2;omega⟩)⟩
def Wt (bo:Nat) (h:AH) (v:Value) (h':AH) (v':Value):Prop:=Keep (fun q=>q=bo\/bk v q) h h' /\ ∀ q,bk v' q->bk v q\/h.length<=q
theorem Wt.refl (bo:Nat) (h:AH) (v:Value):Wt bo h v h v:=⟨.refl _ _,fun q e=>.inl e⟩
theorem Wt.trans {bo:Nat} {h h1 h2:AH} {v v1 v2:Value} (x:Wt bo h v h1 v1) (y:Wt bo h1 v1 h2 v2):Wt bo h v h2 v2:=by
 refine ⟨x.1.trans' y.1 (fun c hc e=>e.imp id (fun e=>(x.2 c e).elim id (fun e=>by omega))),fun q e=>?_⟩
 rcases y.2 q e with e|e
 ·exact x.2 q e
 ·have:=x.1.len;exact .inr (by omega)
theorem Wt.keepF {bo:Nat} {h h1 h2:AH} {v v1:Value} (x:Wt bo h v h1 v1) (k:Keep (fun _=>False) h1 h2):Wt bo h v h2 v1:=⟨x.1.trans (k.mono fun _ e=>e.elim),x.2⟩
set_option maxHeartbeats 4000000 in
theorem line_ok (l:Lb h b L S bg bi bm vi ts bo acc v) (r:Rg S) {s:Bs} {u:Value} {ws:List (Int × Int)} (hu:Rds h 2 u ws.length (ww ws)) (hd:∀ q,rb u q->q≠bo /\ ¬ bk v q) (hr:∀ w∈ws,rgI w.2) (hm:ws.length<=2000000) (hs:acc.length+s.length+23*ws.length+1<=140000000000000) :
 Gets Tryd.prog 27 [.pointer (some ⟨bg,0,none⟩),.pointer (some ⟨bo,0,none⟩),tv s,u] h (fun res h'=>res = .ret (.tuple #[]) /\ ∃ v',Lb h' b L S bg bi bm vi ts bo (acc++S.lineT ts s ws) v'/\Wt bo h v h' v'):=by
 refine Gets.of (keep:=false) hP (draw_ok hM) k27 (by rfl) (fun Ψ hΨ=>?_);have hlen:=l.gr.gd.len l.gr.iv;have hbg:=l.gr.iv.bg;simp only[ZG,↓reduceIte,ZA,ZB,ZC,r27,YE,YC,YO,YA,YL,YX,YS,Ya,Yb,Yl,Yf,Yg,Yi,Ym,Yk,Yt,Yn,Yz,Yp,Yq,Yd,mbl,ZD,ZE,ZF];obtain ⟨a0,b0⟩:=l.bd;refine XX_of (writeString_ok b0 s (by omega)) (fun res h1 hle hn=>?_);obtain ⟨rfl,k1,v1,b1,n1⟩:=hn;refine .ret ?_;have l1:=l.wr k1 b1 n1;have w1:Wt bo h v h1 v1:=⟨k1,n1⟩
 obtain ⟨ua,uc,hue⟩:=row_shape hu;simp only[ZG,↓reduceIte,ZA,ZB,ZC,mbl,ZD,ZE,ZF,hue];rw[<- hue];refine XLo_rule (α:=Nat × Value) (fun a=>[(0,.pointer (some ⟨bg,0,none⟩)),(1,.pointer (some ⟨bo,0,none⟩)),(17,u),(18,iv ws.length),(19,iv a.1)])
  (fun a h'=>a.1<=ws.length/\Lb h' b L S bg bi bm vi ts bo (acc++s++(ws.take a.1).flatMap (S.lbl ts)) a.2/\Wt bo h v h' a.2) (fun a=>ws.length-a.1) (0,v1)
  ⟨Nat.zero_le _,by simpa using l1,w1⟩ ⟨rfl,rfl,by rw[hue];rfl,rfl,rfl,trivial⟩ ?_
 rintro ⟨i,v2⟩ h2 Ψ2 ⟨hi,l2,w2⟩ next out
 simp only at hi l2 w2;have htl:((ws.take i).flatMap (S.lbl ts)).length<=23*i:=by
  have:=lbls_len r l.gr.iv (ts:=ts) (by omega) (ws:=ws.take i) (fun w hw=>hr w (Zo hw));rw[Zl] at this;omega
 by_cases hlt:i<ws.length
 case neg =>
  have d1:((i:Int)<((ws.length:Nat):Int))=False:=by simp;omega
  simp only[ZG,↓reduceIte,ZA,ZB,ZC,d1];refine out (.exit 0) _ _ _ _ (by intro e;cases e) ?_;simp only[ZG,↓reduceIte,ZA,ZB,ZC,mbl,ZD,ZE,ZF];obtain ⟨a2,b2⟩:=l2.bd;refine XX_of (writeByte_ok b2 10 (by simp only[Z0];omega)) (fun res h3 hle3 hn3=>?_);obtain ⟨rfl,k3,v3,b3,n3⟩:=hn3;refine .ret ?_;simp only[ZG,↓reduceIte,ZA,ZB,ZC];have l3:=l2.wr k3 b3 n3;rw[List.take_of_length_le (by omega)] at l3;refine hΨ _ _ (fin_norm (rv0 ⟨rfl,v3,?_,w2.trans ⟨k3,n3⟩⟩));rw[HS.lineT,<- Z6,<- Z6];exact l3
 case pos =>
 have d1:((i:Int)<((ws.length:Nat):Int))=True:=by simp;omega
 have d0:(0<=(i:Int))=True:=by simp
 have tn:Int.toNat (i:Int)=i:=by simp
 have hu2:Rds h2 2 u ws.length (ww ws):=hu.keep w2.1 (fun q hq e=>e.elim (hd q hq).1 (hd q hq).2);obtain ⟨bu,o,c,hue2,hnu,hld⟩:=rds_w hu2 (i:=(i:Int)) (by omega) (by omega);rw[tn] at hld;have hwi:ws[i]?=some (wat ws (i:Int)):=by simp [wat,hlt]
 have hrw:=hr _ (Z3 hwi);have htk:(ws.take (i+1)).flatMap (S.lbl ts)=(ws.take i).flatMap (S.lbl ts)++S.lbl ts (wat ws (i:Int)):=by
  rw[Zh,hwi,List.flatMap_append];simp
 generalize wat ws (i:Int)=w at hld hwi hrw htk;have oW:=Own.new h2 44 h2.length [iv 0,iv 0];have k3:Keep (fun _=>False) h2 (h2++[row 44 h2.length [iv 0,iv 0]]):=Keep.push _ _ _;have l3':(h2++[row 44 h2.length [iv 0,iv 0]]).length=h2.length+1:=by simp
 simp only[ZG,↓reduceIte,ZA,ZB,ZC,d1,hue2,d0,and_self,tn,hld,mbl,ZD,ZE,ZF];rw[<- hue2];generalize h2++[row 44 h2.length [iv 0,iv 0]]=h3 at oW k3 l3' ⊢;refine XH_own oW rfl (by simp [Value.cells]) rfl (fun h4 q1 q2 q3=>?_);have oW4:Own h4 h2.length 44 [iv w.1,iv w.2]:=by simpa [Value.cells] using q1
 have k24:Keep (fun _=>False) h2 h4:=k3.trans' q2 (fun c hc e=>by omega);have l4:=l2.keepF k24;simp only[ZG,↓reduceIte,ZA,ZB,ZC,l4.gr.og.cells.ld,box_ld oW4,mbl,ZD,ZE,ZF];refine XX_of (xFollow_ok l4.gr.hp l4.gr.iv w) (fun res h5 hle5 hn5=>?_);obtain ⟨k5,rfl⟩:=hn5;refine .ret ?_;have l5:=l4.keepF k5;have oX:=Own.new h5 44 h5.length [iv 0,iv 0];have k6:Keep (fun _=>False) h5 (h5++[row 44 h5.length [iv 0,iv 0]]):=Keep.push _ _ _;simp only[ZG,↓reduceIte,ZA,ZB,ZC,wv,mbl,ZD,ZE,ZF];generalize h5++[row 44 h5.length [iv 0,iv 0]]=h6 at oX k6 ⊢;refine XH_own oX rfl (by simp [Value.cells]) rfl (fun h7 p1 p2 p3=>?_);have hrx:=folX_rg r l.gr.iv hrw;have hlb:=lbl_len r l.gr.iv (ts:=ts) (by omega) hrw;have hlbe:S.lbl ts w=[32]++(if (S.folX w).1.1=2 then [99] else if (S.folX w).1.1=3 then [102] else if (S.folX w).1.1=4 then [35] else [])++Lib.itoa (if (S.folX w).1.1=4 then (((pos (S.folX w).1 ts).getD 0:Nat):Int) else (S.folX w).1.2):=rfl;generalize S.lbl ts w=lw at htk hlb hlbe;generalize (S.folX w).1=x at hrx hlbe p1 ⊢;have oX7:Own h7 h5.length 44 [iv x.1,iv x.2]:=by simpa [Value.cells] using p1
 have k57:Keep (fun _=>False) h5 h7:=k6.trans' p2 (fun c hc e=>by omega);have k27:=(k24.trans k5).trans k57;have l7:=l5.keepF k57;have wi:IntKind.i64.wrap ((i:Int)+1)=((i+1:Nat):Int):=by rw[i64w (by omega) (by omega)];omega
 by_cases hk2:x.1=2
 ·have hk3:¬ x.1=3:=by omega
  have hk4:¬ x.1=4:=by omega
  have s1:sbin .add (⟨#[32]⟩:ByteArray) (⟨#[99]⟩:ByteArray)=some (tv ([32]++[99])):=s_add (a:=[32]) (b:=[99]) (by decide);simp only[ZG,↓reduceIte,ZA,ZB,ZC,oX7.cells.ld,mbl,ZD,ZE,ZF,hk2];have hlw:lw=([32]++[99])++Lib.itoa x.2:=by rw[hlbe];simp [hk2,hk3,hk4]
  have hll:=congrArg Zm hlw;simp only[Z0,Z2,Z4] at hll;have s2:sbin .add (tx (([32]++[99]):Bs)) (tx (Lib.itoa x.2))=some (tv (([32]++[99])++Lib.itoa x.2)):=s_add (by simp only[Z0,Z2,Z4];omega);simp only[ZG,↓reduceIte,ZA,ZB,ZC,s1,mbl,ZD,ZE,ZF];refine XX_val (itoa_ok x.2 hrx.1 hrx.2 _) ?_;simp only[ZG,↓reduceIte,ZA,ZB,ZC,s2];obtain ⟨a8,b8⟩:=l7.bd;refine XX_of (writeString_ok b8 (([32]++[99])++Lib.itoa x.2) (by rw[<- hlw];simp only[Z0];omega)) (fun res h9 hle9 hn9=>?_);obtain ⟨rfl,k9,v9,b9,n9⟩:=hn9;refine .ret ?_;simp only[ZG,↓reduceIte,ZA,ZB,ZC,wi];refine next (i+1,v9) _ _ h9 ⟨by omega,?_,(w2.keepF k27).trans ⟨k9,n9⟩⟩ ⟨rfl,rfl,rfl,rfl,rfl,trivial⟩ (by simp;omega)
  have l9:=l7.wr k9 b9 n9
  show Lb h9 b L S bg bi bm vi ts bo (acc++s++(ws.take (i+1)).flatMap (S.lbl ts)) v9
  rw[htk,hlw,<- Z6];exact l9
 by_cases hk3:x.1=3
 ·have hk4:¬ x.1=4:=by omega
  have s1:sbin .add (⟨#[32]⟩:ByteArray) (⟨#[102]⟩:ByteArray)=some (tv ([32]++[102])):=s_add (a:=[32]) (b:=[102]) (by decide);simp only[ZG,↓reduceIte,ZA,ZB,ZC,oX7.cells.ld,mbl,ZD,ZE,ZF,hk2,hk3];have hlw:lw=([32]++[102])++Lib.itoa x.2:=by rw[hlbe];simp [hk2,hk3,hk4]
  have hll:=congrArg Zm hlw;simp only[Z0,Z2,Z4] at hll;have s2:sbin .add (tx (([32]++[102]):Bs)) (tx (Lib.itoa x.2))=some (tv (([32]++[102])++Lib.itoa x.2)):=s_add (by simp only[Z0,Z2,Z4];omega);simp only[ZG,↓reduceIte,ZA,ZB,ZC,s1,mbl,ZD,ZE,ZF];refine XX_val (itoa_ok x.2 hrx.1 hrx.2 _) ?_;simp only[ZG,↓reduceIte,ZA,ZB,ZC,s2];obtain ⟨a8,b8⟩:=l7.bd;refine XX_of (writeString_ok b8 (([32]++[102])++Lib.itoa x.2) (by rw[<- hlw];simp only[Z0];omega)) (fun res h9 hle9 hn9=>?_);obtain ⟨rfl,k9,v9,b9,n9⟩:=hn9;refine .ret ?_;simp only[ZG,↓reduceIte,ZA,ZB,ZC,wi];refine next (i+1,v9) _ _ h9 ⟨by omega,?_,(w2.keepF k27).trans ⟨k9,n9⟩⟩ ⟨rfl,rfl,rfl,rfl,rfl,trivial⟩ (by simp;omega)
  have l9:=l7.wr k9 b9 n9
  show Lb h9 b L S bg bi bm vi ts bo (acc++s++(ws.take (i+1)).flatMap (S.lbl ts)) v9
  rw[htk,hlw,<- Z6];exact l9
 by_cases hk4:x.1=4
 ·have s1:sbin .add (⟨#[32]⟩:ByteArray) (⟨#[35]⟩:ByteArray)=some (tv ([32]++[35])):=s_add (a:=[32]) (b:=[35]) (by decide)
  have hpl:(pos x ts).getD 0<=2000000:=by
   cases hp:pos x ts with
   | none=>simp
   | some j=>have:=(Z1.1 (pos_get hp)).1;simp;omega
  simp only[ZG,↓reduceIte,ZA,ZB,ZC,oX7.cells.ld,box_ld oX7,l7.gr.og.cells.ld,mbl,ZD,ZE,ZF,hk2,hk3,hk4];have hw4:(.agg #[iv 4,iv x.2]:Value)=wv x:=by simp [wv,hk4]
  rw[hw4];refine XX_of (xFind_ok l7.gr.ix x) (fun res h8 hle8 hn8=>?_);obtain ⟨k8,e8,rfl⟩:=hn8;refine .ret ?_;have l8:=l7.keepF k8;have k28:=k27.trans k8;simp only[ZG,↓reduceIte,ZA,ZB,ZC,mbl,ZD,ZE,ZF];have hlw:lw=([32]++[35])++Lib.itoa (((pos x ts).getD 0:Nat):Int):=by rw[hlbe];simp [hk2,hk3,hk4]
  have hll:=congrArg Zm hlw;simp only[Z0,Z2,Z4] at hll;have s2:sbin .add (tx (([32]++[35]):Bs)) (tx (Lib.itoa (((pos x ts).getD 0:Nat):Int)))=some (tv (([32]++[35])++Lib.itoa (((pos x ts).getD 0:Nat):Int))):=s_add (by simp only[Z0,Z2,Z4];omega);simp only[ZG,↓reduceIte,ZA,ZB,ZC,s1,mbl,ZD,ZE,ZF];refine XX_val (itoa_ok (((pos x ts).getD 0:Nat):Int) (by omega) (by omega) _) ?_;simp only[ZG,↓reduceIte,ZA,ZB,ZC,s2];obtain ⟨a8,b8⟩:=l8.bd;refine XX_of (writeString_ok b8 (([32]++[35])++Lib.itoa (((pos x ts).getD 0:Nat):Int)) (by rw[<- hlw];simp only[Z0];omega)) (fun res h9 hle9 hn9=>?_);obtain ⟨rfl,k9,v9,b9,n9⟩:=hn9;refine .ret ?_;simp only[ZG,↓reduceIte,ZA,ZB,ZC,wi];refine next (i+1,v9) _ _ h9 ⟨by omega,?_,(w2.keepF k28).trans ⟨k9,n9⟩⟩ ⟨rfl,rfl,rfl,rfl,rfl,trivial⟩ (by simp;omega)
  have l9:=l8.wr k9 b9 n9
  show Lb h9 b L S bg bi bm vi ts bo (acc++s++(ws.take (i+1)).flatMap (S.lbl ts)) v9
  rw[htk,hlw,<- Z6];exact l9
 ·have s1:sbin .add (⟨#[32]⟩:ByteArray) (⟨#[]⟩:ByteArray)=some (tv [32]):=s_add (a:=[32]) (b:=[]) (by decide)
  simp only[ZG,↓reduceIte,ZA,ZB,ZC,oX7.cells.ld,mbl,ZD,ZE,ZF,hk2,hk3,hk4];have hlw:lw=([32]:Bs)++Lib.itoa x.2:=by rw[hlbe];simp [hk2,hk3,hk4]
  have hll:=congrArg Zm hlw;simp only[Z0,Z2,Z4] at hll;have s2:sbin .add (tx (([32]:Bs):Bs)) (tx (Lib.itoa x.2))=some (tv (([32]:Bs)++Lib.itoa x.2)):=s_add (by simp only[Z0,Z2,Z4];omega);simp only[ZG,↓reduceIte,ZA,ZB,ZC,s1,mbl,ZD,ZE,ZF];refine XX_val (itoa_ok x.2 hrx.1 hrx.2 _) ?_;simp only[ZG,↓reduceIte,ZA,ZB,ZC,s2];obtain ⟨a8,b8⟩:=l7.bd;refine XX_of (writeString_ok b8 (([32]:Bs)++Lib.itoa x.2) (by rw[<- hlw];simp only[Z0];omega)) (fun res h9 hle9 hn9=>?_);obtain ⟨rfl,k9,v9,b9,n9⟩:=hn9;refine .ret ?_;simp only[ZG,↓reduceIte,ZA,ZB,ZC,wi];refine next (i+1,v9) _ _ h9 ⟨by omega,?_,(w2.keepF k27).trans ⟨k9,n9⟩⟩ ⟨rfl,rfl,rfl,rfl,rfl,trivial⟩ (by simp;omega)
  have l9:=l7.wr k9 b9 n9
  show Lb h9 b L S bg bi bm vi ts bo (acc++s++(ws.take (i+1)).flatMap (S.lbl ts)) v9
  rw[htk,hlw,<- Z6];exact l9
end
end Go.S19
