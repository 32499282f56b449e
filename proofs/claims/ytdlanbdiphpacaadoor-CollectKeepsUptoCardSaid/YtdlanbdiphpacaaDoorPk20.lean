import Derived.Test.YtdlanbdiphpacaaDoorPk19
set_option linter.unusedVariables false
set_option linter.unusedSimpArgs false
open Nat renaming reduceEqDiff -> ZA,reduceAdd -> ZB,reduceMul -> ZC,reduceLeDiff -> ZD,reduceLT -> ZE
open Int renaming reduceEq -> ZF
open List renaming replicate->Z0,take_of_length_le->Z3,replicate_succ->Z5,ext_getElem->Z7,nil_append->Z9,append_nil->Za,range->Zc,length_append->Zf,flatten_cons->Zg
open Int renaming toNat_natCast->Z1,cast_ofNat_Int->Z6,natCast_add->Z8,toNat_of_nonneg->Zd
open Nat renaming le_refl->Z2,zero_le->Zb,zero_add->Ze
open Option renaming some->Z4
namespace Go.S19
open Go Go.Eng Go.Proofs Go.Chk
structure HS.Ok (S:HS):Prop where
 bw:∀ k n,mget k S.begins=some n->0<=k/\1<=n/\k+n<=S.now.length
 hi:∀ k n,mget k S.begins=some n->(wat S.now k).1=6->0<=(wat S.now k).2/\(wat S.now k).2<S.infos.length/\0<=S.fr (wat S.now k).2/\S.fr (wat S.now k).2<n
theorem HS.Ok.fresh {S:HS} (k:S.Ok):mget S.now.length S.begins=none:=by
 cases e:mget S.now.length S.begins with
 | none=>rfl
 | some n=>have:=k.bw _ _ e;omega
def fill (n:Nat) (g:Nat->Int × Int) (i:Nat):List (Int × Int):=(Zc n).map fun j=>if j<i then g j else (0,0)
theorem fill_len (n:Nat) (g:Nat->Int × Int) (i:Nat):(fill n g i).length=n:=by simp [fill]
theorem fill_zero (n:Nat) (g:Nat->Int × Int):fill n g 0=Z0 n (0,0):=by
 refine Z7 (by simp [fill]) (fun i _ _=>by simp [fill])
theorem fill_end (n:Nat) (g:Nat->Int × Int):fill n g n=(Zc n).map g:=by
 refine Z7 (by simp [fill]) (fun i h1 _=>?_);simp [fill];intro e;simp [fill] at h1;omega
theorem fill_set (n:Nat) (g:Nat->Int × Int) (i:Nat):(fill n g i).set i (g i)=fill n g (i+1):=by
 refine Z7 (by simp [fill]) (fun j h1 h2=>?_);rw[List.getElem_set];simp only[fill,List.getElem_map,List.getElem_range]
 split
 ·rename_i e;subst e;rw[if_pos (by omega)]
 ·rename_i e
  by_cases c:j<i
  ·rw[if_pos c,if_pos (by omega)]
  ·rw[if_neg c,if_neg (by omega)]
theorem ww_rep (n:Nat):ww (Z0 n ((0,0):Int × Int))=(Z0 n [iv 0,iv 0]).flatten:=by
 induction n with
 | zero=>rfl
 | succ n ih =>
   have e:∀ z (l:List (Int × Int)),ww (z::l)=ns (wc z)++ww l:=fun z l=>by simp [ww,rowsOf]
   rw[Z5,e,ih,Z5,Zg];rfl
theorem mslw (m:Nat) {n:Int} (h0:0<=n) (h1:n<=1048576):mslv m 44 [iv 0,iv 0] 16 (iv n) (iv n)=some (.slice (some ⟨m,0,none⟩) n.toNat n.toNat,some (row 44 m (ww (fill n.toNat (fun _=>(0,0)) 0)))):=by
 rw[fill_zero,ww_rep];simp only[mslv];rw[if_pos (by refine ⟨by omega,by omega,by omega,?_⟩;omega)]
theorem fill_g (n:Nat) (g g':Nat->Int × Int):fill n g 0=fill n g' 0:=by rw[fill_zero,fill_zero]
def HS.fcount (S:HS) (w:Int × Int):Int:=if (gx S.now w.2).1=12 then 1 else S.count w (gx S.now w.2)
def HS.flds (S:HS) (w:Int × Int):List (Int × Int):=(Zc (S.fcount w).toNat).map fun i:Nat=>gx S.now (w.2+1+(i:Int))
section
variable {h:AH} {b:Nat} {L:Lay} {S:HS}
theorem HS.Ok.fc {S:HS} (k:S.Ok) {w:Int × Int} (hl:S.lies w) (hm:S.now.length<=1048576) :
 ∃ n,mget w.2 S.begins=some n/\gx S.now w.2=wat S.now w.2/\((gx S.now w.2).1=6->0<=(gx S.now w.2).2/\(gx S.now w.2).2<S.infos.length)/\0<=n/\n<=1048576/\0<=S.fcount w/\S.fcount w<=1048576/\0<=w.2/\w.2<1048576:=by
 obtain ⟨n,hn⟩:=Option.isSome_iff_exists.1 hl.2;obtain ⟨a,c,d⟩:=k.bw _ _ hn;have e:gx S.now w.2=wat S.now w.2:=by rw[gx,if_pos (by omega)]
 refine ⟨n,hn,e,fun f=>?_,by omega,by omega,?_,?_,by omega,by omega⟩
 ·rw[e] at f ⊢;exact ⟨(k.hi _ _ hn f).1,(k.hi _ _ hn f).2.1⟩
 ·unfold HS.fcount HS.count
  rw[e,hn]
  split;· omega
  split;· rename_i f;exact (k.hi _ _ hn f).2.2.1
  split;· omega
  simp;omega
 ·unfold HS.fcount HS.count
  rw[e,hn]
  split;· omega
  split;· rename_i f;have:=(k.hi _ _ hn f).2.2.2;omega
  split;· omega
  simp;omega
theorem Fields_ok (s:Hp h b L S) (ok:S.Ok) (w:Int × Int):Gets Tryd.prog 20 [.pointer (some ⟨b,0,none⟩),wv w] h (fun res h'=>Keep (fun _=>False) h h' /\
 if S.lies w then ∃ v,res = .ret (.tuple #[v,iv 0])/\Ows h' 44 2 v (S.flds w).length (ww (S.flds w)) /\ ∀ q,bk v q->h.length<=q/\q<h'.length
 else res = .ret (.tuple #[.slice none 0 0,iv 1])):=by
 refine Gets.of (keep:=false) hP (draw_ok hM) k20 (by rfl) (fun Ψ hΨ=>?_);have oW:=Own.new h 44 h.length [iv w.1,iv w.2];have k1:Keep (fun _=>False) h (h++[row 44 h.length [iv w.1,iv w.2]]):=Keep.push _ _ _;have l1:(h++[row 44 h.length [iv w.1,iv w.2]]).length=h.length+1:=by simp
 simp only[ZG,↓reduceIte,ZA,ZB,ZC,r20,YE,YC,YO,YA,YL,YX,YS,Ya,Yb,Yl,Yf,Yg,Yi,Ym,Yk,Yt,Yn,Yz,Yp,Yq,Yd,wv,mbl,ZD,ZE,ZF];generalize h++[row 44 h.length [iv w.1,iv w.2]]=h1 at oW k1 l1 ⊢;simp only[ZG,↓reduceIte,ZA,ZB,ZC,oW.cells.lds 0 2 (by simp),mbl,ZD,ZE,ZF];refine XX_of (Head_ok (s.keepF k1) w) (fun res h2 hle hn=>?_);obtain ⟨k2,rfl⟩:=hn;refine .ret ?_;have k02:=k1.trans k2;have oW2:=oW.keep k2 (fun e=>e);have oD:=Own.new h2 44 h2.length [iv 0,iv 0];have k3:Keep (fun _=>False) h2 (h2++[row 44 h2.length [iv 0,iv 0]]):=Keep.push _ _ _;simp only[ZG,↓reduceIte,ZA,ZB,ZC,wv,mbl,ZD,ZE,ZF];refine XH_own oD rfl (by simp [Value.cells]) rfl (fun h3 q1 q2 q3=>?_);have oD3:Own h3 h2.length 44 [iv (S.head w).1.1,iv (S.head w).1.2]:=by simpa [Value.cells] using q1
 have k23:Keep (fun _=>False) h2 h3:=k3.trans' q2 (fun c hc e=>by omega);have k03:=k02.trans k23;have hl12:h.length+1<=h2.length:=by have:=k2.len;omega
 by_cases hl:S.lies w
 case neg =>
  have e0:S.head w=((0,0),1):=by rw[HS.head,if_neg hl]
  simp only[ZG,↓reduceIte,ZA,ZB,ZC,e0,mbl,ZD,ZE,ZF];refine hΨ _ _ (fin_ret (rv2 rfl rfl ⟨k03,?_⟩));rw[if_neg hl];rfl
 have e0:S.head w=(gx S.now w.2,0):=by rw[HS.head,if_pos hl]
 obtain ⟨nb,f1,f2,f3,f4,f5,f6,f7,f8,f9⟩:=ok.fc hl (by have:=s.ws.ln;have:=s.ws.sz;omega);have oW3:=oW2.keep k23 (fun e=>e);rw[e0] at oD3;simp only[ZG,↓reduceIte,ZA,ZB,ZC,e0,mbl,ZD,ZE,ZF,oW3.cells.lds 0 2 (by simp),oD3.cells.lds 0 2 (by simp)];refine XX_of (count_ok (s.keepF k03) w (gx S.now w.2) f3 (fun _ _=>⟨nb,f1,f4,f5⟩)) (fun res h4 hle4 hn=>?_);obtain ⟨k4,rfl⟩:=hn;refine .ret ?_;have k04:=k03.trans k4;have oD4:=oD3.keep k4 (fun e=>e);have oW4:=oW3.keep k4 (fun e=>e);have hl4:h.length+1<=h4.length:=by have:=(k23.trans k4).len;omega
 have hms:=mslw h4.length f6 f7;have oL:=Own.new h4 44 h4.length (ww (fill (S.fcount w).toNat (fun _=>(0,0)) 0));have k5:Keep (fun _=>False) h4 (h4++[row 44 h4.length (ww (fill (S.fcount w).toNat (fun _=>(0,0)) 0))]):=Keep.push _ _ _;rw[fill_g _ _ (fun i:Nat=>gx S.now (w.2+1+(i:Int)))] at hms oL k5;have fin:(S.flds w).length=(S.fcount w).toNat:=by simp [HS.flds]
 by_cases d12:(gx S.now w.2).1=12
 ·have hfc:iv 1=iv (S.fcount w):=by rw[HS.fcount,if_pos d12]
  have hms1:=hms;rw[<- hfc] at hms1;simp only[ZG,↓reduceIte,ZA,ZB,ZC,oD4.cells.ld,mbl,ZD,ZE,ZF,d12,hms1];generalize h4++[row 44 h4.length (ww (fill (S.fcount w).toNat (fun i:Nat=>gx S.now (w.2+1+(i:Int))) 0))]=h5 at oL k5 ⊢;have k05:=k04.trans k5;have oW5:=oW4.keep k5 (fun e=>e);have hnn:((S.fcount w).toNat:Int)=S.fcount w:=Zd f6;generalize hN:(S.fcount w).toNat=N at *;generalize hg:(fun i:Nat=>gx S.now (w.2+1+(i:Int)))=g at *;have hgi:∀ i:Nat,gx S.now (w.2+1+(i:Int))=g i:=fun i=>by rw[<- hg]
  refine XLo_rule (α:=Nat) (fun i=>[(0,.pointer (some ⟨b,0,none⟩)),(3,.pointer (some ⟨h.length,0,none⟩)),(9,.slice (some ⟨h4.length,0,none⟩) N N),(30,iv N),(31,iv i)])
   (fun i h'=>i<=N/\Keep (fun q=>q=h4.length) h5 h'/\Own h' h4.length 44 (ww (fill N g i))) (fun i=>N-i) 0 ⟨Zb _,.refl _ _,oL⟩ ⟨rfl,rfl,rfl,rfl,rfl,trivial⟩ ?_
  rintro i h6 Ψ2 ⟨i1,kp,oL6⟩ next out
  have k06:Keep (fun _=>False) h h6:=k05.trans' kp (fun c hc e=>by omega);have oW6:=oW5.keep kp (fun e=>by omega)
  by_cases hi:(i:Int)<(N:Int)
  ·have h0:0<=(i:Int):=by omega
   have hw1:IntKind.i64.wrap ((i:Int)+1)=i+1:=i64w (by omega) (by omega);have hw2:IntKind.i64.wrap (w.2+1)=w.2+1:=i64w (by omega) (by omega);have hw3:IntKind.i64.wrap (w.2+1+(i:Int))=w.2+1+i:=i64w (by omega) (by omega);have s6:=s.keepF k06;simp only[ZG,↓reduceIte,ZA,ZB,ZC,hi,s6.own.cells.ld,oW6.cells.ld,mbl,ZD,ZE,ZF,hw2,hw3];refine XX_of (wGet_ok s6.ws (w.2+1+(i:Int))) (fun res h7 hle7 hn=>?_);obtain ⟨k7,rfl⟩:=hn;refine .ret ?_;have oL7:=oL6.keep k7 (fun e=>e);simp only[ZG,↓reduceIte,ZA,ZB,ZC,gw_eq,mbl,ZD,ZE,ZF,h0,hi,and_self,Z1,Ze];refine XH_own oL7 rfl (by simp [Value.cells,ww_len,fill_len];omega) rfl (fun h8 t1 t2 t3=>?_);simp only[ZG,↓reduceIte,ZA,ZB,ZC,hw1];refine next (i+1) _ _ _ ⟨by omega,(kp.trans (k7.mono (fun _ e=>e.elim))).trans t2,?_⟩ ⟨rfl,rfl,rfl,rfl,?_,trivial⟩ (by omega)
   ·have e:=wset (xs:=fill N g i) (x:=g i) (i:=i) (by rw[fill_len];omega)
    rw[fill_set] at e;rw[e,<- hgi]
    simpa [Value.cells,wc,ns] using t1
   ·simp only[Z8,Z6];rfl
  ·have hie:i=N:=by omega
   subst hie;simp only[ZG,↓reduceIte,ZA,ZB,ZC,hi];refine out (.exit 0) _ _ _ _ (by intro e;cases e) ?_;simp only[ZG,↓reduceIte,ZA,ZB,ZC];refine hΨ _ _ (fin_ret (rv2 rfl rfl ⟨k06,?_⟩));rw[if_pos hl];have hf:S.flds w=fill i g i:=by rw[fill_end,HS.flds,hN,hg]
   refine ⟨_,rfl,?_,fun q e=>?_⟩
   ·rw[hf,fill_len]
    exact .mk oL6 (by rw[ww_len,fill_len]) (Z2 _) (by rw[Z3 (by rw[ww_len,fill_len];omega)])
   ·have:q=h4.length:=e
    have:=oL6.lt;omega
 ·have hfc:S.count w (gx S.now w.2)=S.fcount w:=by rw[HS.fcount,if_neg d12]
  simp only[ZG,↓reduceIte,ZA,ZB,ZC,oD4.cells.ld,mbl,ZD,ZE,ZF,d12,hfc,hms];generalize h4++[row 44 h4.length (ww (fill (S.fcount w).toNat (fun i:Nat=>gx S.now (w.2+1+(i:Int))) 0))]=h5 at oL k5 ⊢;have k05:=k04.trans k5;have oW5:=oW4.keep k5 (fun e=>e);have hnn:((S.fcount w).toNat:Int)=S.fcount w:=Zd f6;generalize hN:(S.fcount w).toNat=N at *;generalize hg:(fun i:Nat=>gx S.now (w.2+1+(i:Int)))=g at *;have hgi:∀ i:Nat,gx S.now (w.2+1+(i:Int))=g i:=fun i=>by rw[<- hg]
  refine XLo_rule (α:=Nat) (fun i=>[(0,.pointer (some ⟨b,0,none⟩)),(3,.pointer (some ⟨h.length,0,none⟩)),(9,.slice (some ⟨h4.length,0,none⟩) N N),(30,iv N),(31,iv i)])
   (fun i h'=>i<=N/\Keep (fun q=>q=h4.length) h5 h'/\Own h' h4.length 44 (ww (fill N g i))) (fun i=>N-i) 0 ⟨Zb _,.refl _ _,oL⟩ ⟨rfl,rfl,rfl,rfl,rfl,trivial⟩ ?_
  rintro i h6 Ψ2 ⟨i1,kp,oL6⟩ next out
  have k06:Keep (fun _=>False) h h6:=k05.trans' kp (fun c hc e=>by omega);have oW6:=oW5.keep kp (fun e=>by omega)
  by_cases hi:(i:Int)<(N:Int)
  ·have h0:0<=(i:Int):=by omega
   have hw1:IntKind.i64.wrap ((i:Int)+1)=i+1:=i64w (by omega) (by omega);have hw2:IntKind.i64.wrap (w.2+1)=w.2+1:=i64w (by omega) (by omega);have hw3:IntKind.i64.wrap (w.2+1+(i:Int))=w.2+1+i:=i64w (by omega) (by omega);have s6:=s.keepF k06;simp only[ZG,↓reduceIte,ZA,ZB,ZC,hi,s6.own.cells.ld,oW6.cells.ld,mbl,ZD,ZE,ZF,hw2,hw3];refine XX_of (wGet_ok s6.ws (w.2+1+(i:Int))) (fun res h7 hle7 hn=>?_);obtain ⟨k7,rfl⟩:=hn;refine .ret ?_;have oL7:=oL6.keep k7 (fun e=>e);simp only[ZG,↓reduceIte,ZA,ZB,ZC,gw_eq,mbl,ZD,ZE,ZF,h0,hi,and_self,Z1,Ze];refine XH_own oL7 rfl (by simp [Value.cells,ww_len,fill_len];omega) rfl (fun h8 t1 t2 t3=>?_);simp only[ZG,↓reduceIte,ZA,ZB,ZC,hw1];refine next (i+1) _ _ _ ⟨by omega,(kp.trans (k7.mono (fun _ e=>e.elim))).trans t2,?_⟩ ⟨rfl,rfl,rfl,rfl,?_,trivial⟩ (by omega)
   ·have e:=wset (xs:=fill N g i) (x:=g i) (i:=i) (by rw[fill_len];omega)
    rw[fill_set] at e;rw[e,<- hgi]
    simpa [Value.cells,wc,ns] using t1
   ·simp only[Z8,Z6];rfl
  ·have hie:i=N:=by omega
   subst hie;simp only[ZG,↓reduceIte,ZA,ZB,ZC,hi];refine out (.exit 0) _ _ _ _ (by intro e;cases e) ?_;simp only[ZG,↓reduceIte,ZA,ZB,ZC];refine hΨ _ _ (fin_ret (rv2 rfl rfl ⟨k06,?_⟩));rw[if_pos hl];have hf:S.flds w=fill i g i:=by rw[fill_end,HS.flds,hN,hg]
   refine ⟨_,rfl,?_,fun q e=>?_⟩
   ·rw[hf,fill_len]
    exact .mk oL6 (by rw[ww_len,fill_len]) (Z2 _) (by rw[Z3 (by rw[ww_len,fill_len];omega)])
   ·have:q=h4.length:=e
    have:=oL6.lt;omega
end
end Go.S19

namespace Go.S19
open Go Go.Eng Go.Proofs Go.Chk
theorem rep_len (n:Nat):(Z0 n [iv 0,iv 0]).flatten.length=n*2:=by
 induction n with
 | zero=>rfl
 | succ n ih=>rw[Z5,Zg,Zf,ih];simp;omega
theorem ows_clearw {h:AH} {v:Value} {n:Nat} {xs:List (Int × Int)} (ho:Ows h 44 2 v n (ww xs)) :
 ∃ h2 v',clrv h [iv 0,iv 0] v=some h2/\Keep (bk v) h h2/\h2.length=h.length/\sllv h2 44 2 v none (some (iv 0))=some (v',none)/\Ows h2 44 2 v' 0 (ww [])/\(∀ q,bk v' q->bk v q)/\v'.cells.size=1/\v'.cells.toList.length=1/\v'.cells.toList=[v']/\v'.cells.toList.all Value.oneCell'=true:=by
 by_cases h0:n=0
 ·subst h0
  generalize hc:ww xs=cs at ho;cases ho with
  | nil=>exact ⟨h,.slice none 0 0,rfl,.refl _ _,rfl,rfl,.nil,fun q e=>e,rfl,rfl,rfl,rfl⟩
  | @mk b n c all cs hb hl hn hx =>
    have hb':=hb;obtain ⟨g,hg⟩:=hb;have:helem h b=some 44:=by simp [helem,hg]
    refine ⟨h,.slice (some ⟨b,0,none⟩) 0 c,by simp [clrv],.refl _ _,rfl,by simp [sllv,this,bnd],.mk hb' hl (by omega) (by simp [ww,rowsOf]),fun q e=>e,rfl,rfl,rfl,rfl⟩
 ·obtain ⟨b,c,all,rfl,hb,hl,hn,hx⟩:=ows_openw ho (by omega)
  have hlen:=rep_len n;have hone:(Z0 n [iv 0,iv 0]).flatten.all Value.oneCell'=true:=by
   rw[<- ww_rep];exact rowsOf_one _
  obtain ⟨h2,k1,k2,k3,k4⟩:=hb.store (i:=0) (vs:=(Z0 n [iv 0,iv 0]).flatten) (by rw[hlen];omega) hone;have k2':=k2;obtain ⟨g,hg⟩:=k2;have:helem h2 b=some 44:=by simp [helem,hg]
  refine ⟨h2,.slice (some ⟨b,0,none⟩) 0 c,by simp only[clrv,h0,if_false,k1],k3,k4,by simp [sllv,this,bnd],.mk k2' (by simp only[Zf,List.length_take,List.length_drop,hlen];omega) (by omega) (by simp [ww,rowsOf]),fun q e=>e,rfl,rfl,rfl,rfl⟩
theorem wFlip_ok {h:AH} {b:Nat} {size side:Int} {v0 v1:Value} {now old:List (Int × Int)} (s:WS h b size side v0 v1 now old) :
 Gets Tryd.prog 52 [.pointer (some ⟨b,0,none⟩)] h (fun res h'=>res = .ret (.tuple #[])/\Keep (WOwns b v0 v1) h h' /\ ∃ v0' v1',WS h' b size (1-side) v0' v1' [] now /\ ∀ q,WOwns b v0' v1' q->WOwns b v0 v1 q):=by
 refine Gets.of (keep:=false) hP (draw_ok hM) k52 (by rfl) (fun Ψ hΨ=>?_);have hsz:=s.sz;have rn0:=s.rn;have ro0:=s.ro
 rcases s.sd with rfl|rfl
 ·simp only[if_true] at rn0 ro0
  simp only[ZG,↓reduceIte,ZA,ZB,ZC,r52,YE,YC,YO,YA,YL,YX,YS,Ya,Yb,Yl,Yf,Yg,Yi,Ym,Yk,Yt,Yn,Yz,Yp,Yq,Yd,s.own.cells.ld,mbl,ZD,ZE,ZF,a20,a21,z0,z1,w10,w11];refine XH_own s.own rfl (by simp [Value.cells]) rfl (fun h1 q1 q2 q3=>?_);have r1:=ro0.keep q2 (fun q e e'=>s.d1 q e e');have r0:=rn0.keep q2 (fun q e e'=>s.d0 q e e');simp only[vc_int,vl1,lts,lt0,lac,Z9,llc,lln,Nat.reduceAdd,lds,ld0,ldn,Za] at q1;obtain ⟨h2,v',c1,c2,c3,c4,c5,c6,c7,c8,c9,c10⟩:=ows_clearw r1;have own2:=q1.keep c2 (fun e=>s.d1 b e rfl);simp only[ZG,↓reduceIte,ZA,ZB,ZC,q1.cells.ld,mbl,ZD,ZE,ZF,a20,a21,z0,z1,w10,w11,c1];simp only[ZG,↓reduceIte,ZA,ZB,ZC,own2.cells.ld,mbl,ZD,ZE,ZF,a20,a21,z0,z1,w10,w11,c4];refine XH_own own2 c7.symm (by rw[c8];simp) c10 (fun h3 p1 p2 p3=>?_);rw[c8,c9] at p1;simp only[ZG,↓reduceIte,ZA,ZB,ZC];refine hΨ _ _ (fin_norm ⟨rfl,?_,v0,v',⟨p1,?_,?_,fun q e e'=>s.d q e (c6 q e'),s.d0,fun q e=>s.d1 q (c6 q e),.inr rfl,s.sz,by simpa using hsz.1,s.ln⟩,?_⟩)
  ·exact ((q2.mono (T:=WOwns b v0 v1) fun q e=>.inl e).trans (c2.mono fun q e=>.inr (.inr e))).trans (p2.mono fun q e=>.inl e)
  ·exact c5.keep p2 (fun q e e'=>s.d1 q (c6 q e) e')
  ·exact (r0.keep c2 (fun q e e'=>s.d q e e')).keep p2 (fun q e e'=>s.d0 q e e')
  ·rintro q (e|e|e)
   ·exact .inl e
   ·exact .inr (.inl e)
   ·exact .inr (.inr (c6 q e))
 ·simp only[f10',if_false] at rn0 ro0
  simp only[ZG,↓reduceIte,ZA,ZB,ZC,r52,YE,YC,YO,YA,YL,YX,YS,Ya,Yb,Yl,Yf,Yg,Yi,Ym,Yk,Yt,Yn,Yz,Yp,Yq,Yd,s.own.cells.ld,mbl,ZD,ZE,ZF,a20,a21,z0,z1,w10,w11];refine XH_own s.own rfl (by simp [Value.cells]) rfl (fun h1 q1 q2 q3=>?_);have r1:=rn0.keep q2 (fun q e e'=>s.d1 q e e');have r0:=ro0.keep q2 (fun q e e'=>s.d0 q e e');simp only[vc_int,vl1,lts,lt0,lac,Z9,llc,lln,Nat.reduceAdd,lds,ld0,ldn,Za] at q1;obtain ⟨h2,v',c1,c2,c3,c4,c5,c6,c7,c8,c9,c10⟩:=ows_clearw r0;have own2:=q1.keep c2 (fun e=>s.d0 b e rfl);simp only[ZG,↓reduceIte,ZA,ZB,ZC,q1.cells.ld,mbl,ZD,ZE,ZF,a20,a21,z0,z1,w10,w11,c1];simp only[ZG,↓reduceIte,ZA,ZB,ZC,own2.cells.ld,mbl,ZD,ZE,ZF,a20,a21,z0,z1,w10,w11,c4];refine XH_own own2 c7.symm (by rw[c8];simp) c10 (fun h3 p1 p2 p3=>?_);rw[c8,c9] at p1;simp only[ZG,↓reduceIte,ZA,ZB,ZC];refine hΨ _ _ (fin_norm ⟨rfl,?_,v',v1,⟨p1,?_,?_,fun q e e'=>s.d q (c6 q e) e',fun q e=>s.d0 q (c6 q e),s.d1,.inl rfl,s.sz,by simpa using hsz.1,s.ln⟩,?_⟩)
  ·exact ((q2.mono (T:=WOwns b v0 v1) fun q e=>.inl e).trans (c2.mono fun q e=>.inr (.inl e))).trans (p2.mono fun q e=>.inl e)
  ·exact c5.keep p2 (fun q e e'=>s.d0 q (c6 q e) e')
  ·exact (r1.keep c2 (fun q e e'=>s.d q e' e)).keep p2 (fun q e e'=>s.d1 q e e')
  ·rintro q (e|e|e)
   ·exact .inl e
   ·exact .inr (.inl (c6 q e))
   ·exact .inr (.inr e)
def HS.flip (S:HS):HS:={ S with side:=1-S.side,now:=[],old:=S.now,begins:=[],oldm:=S.begins }
section
variable {h:AH} {b:Nat} {L:Lay} {S:HS}
theorem Flip_ok (s:Hp h b L S):Gets Tryd.prog 24 [.pointer (some ⟨b,0,none⟩)] h (fun res h'=>res = .ret (.tuple #[])/\Keep (Mine L) h h' /\ ∃ L',Hp h' b L' S.flip/\Same h.length L L'):=by
 refine Gets.of (keep:=false) hP (draw_ok hM) k24 (by rfl) (fun Ψ hΨ=>?_);simp only[ZG,↓reduceIte,ZA,ZB,ZC,r24,YE,YC,YO,YA,YL,YX,YS,Ya,Yb,Yl,Yf,Yg,Yi,Ym,Yk,Yt,Yn,Yz,Yp,Yq,Yd,s.own.cells.ld,mbl,ZD,ZE,ZF];refine XX_of (wFlip_ok s.ws) (fun res h1 hle hn=>?_);obtain ⟨rfl,k1,v0',v1',ws1,hown⟩:=hn;refine .ret ?_;have hne:∀ q,WOwns L.bs L.v0 L.v1 q->L.cls q=2:=s.c2;have cb:∀ q,L.cls q≠2 -> ¬ WOwns L.bs L.v0 L.v1 q:=fun q a e=>a (hne q e)
 have own1:=s.own.keep k1 (cb b (by rw[s.c1];omega));have k2:Keep (fun _=>False) h1 (h1++[.map []]):=Keep.push _ _ _;have m2:MOwn (h1++[.map []]) h1.length []:=.new h1;have own2:=own1.keep k2 (fun e=>e);have l2:(h1++[Blk.map []]).length=h1.length+1:=by simp
 simp only[ZG,↓reduceIte,ZA,ZB,ZC,own1.cells.ld,mbl,ZD,ZE,ZF];generalize h1++[Blk.map []]=h2 at k2 m2 own2 l2 ⊢;refine XH_own own2 rfl (by simp [Value.cells]) rfl (fun h3 q1 q2 q3=>?_);simp only[vc_int,vl1,lts,lt0,lac,Z9,llc,lln,Nat.reduceAdd,lds,ld0,ldn,Za] at q1;simp only[ZG,↓reduceIte,ZA,ZB,ZC];refine XH_own q1 rfl (by simp [Value.cells]) rfl (fun h4 p1 p2 p3=>?_);simp only[ZG,↓reduceIte,ZA,ZB,ZC];have k24:Keep (fun q=>q=b) h2 h4:=q2.trans p2;have k04:Keep (fun q=>L.cls q=2\/q=b) h h4:=((k1.mono (fun q e=>.inl (hne q e))).trans (k2.mono fun _ e=>e.elim)).trans (k24.mono fun q e=>.inr e);have hb2:b<h.length:=s.own.lt;have hh1:h.length<=h1.length:=hle;have lt1:∀ q,L.cls q≠0->q<h.length:=fun q e=>Nat.lt_of_not_le fun c=>e (s.c0 q c)
 have hx:∀ q,L.cls q≠0->L.cls q≠2->L.cls q≠1 -> ¬ (L.cls q=2\/q=b):=by
  intro q a c d e
  rcases e with e|e
  ·exact c e
  ·rw[e] at d;exact d s.c1
 have hmn:L.mb≠h1.length:=by have:=s.mb.lt;omega
 refine hΨ _ _ (fin_norm ⟨rfl,k04.mono (fun q e=>?_),{ L with v0:=v0',v1:=v1',mb:=h1.length,mo:=some L.mb,cls:=fun q=>if q=L.mb then 4 else if q=h1.length then 3 else L.cls q },?_,?_⟩)
 ·rcases e with e|e
  ·rw[Mine,e];omega
  ·rw[Mine,e,s.c1];omega
 ·have old:∀ q,L.cls q≠0->L.cls q≠3->(if q=L.mb then 4 else if q=h1.length then 3 else L.cls q)=L.cls q:=by
   intro q a c;rw[if_neg (fun e=>c (by rw[e];exact s.c3)),if_neg (fun e=>by have:=lt1 q a;omega)]
  refine ⟨by simpa [Value.cells] using p1,(ws1.keep k2 (fun _ _ e=>e)).keep k24 (fun q e o=>by have:=s.c2 q (hown q e);rw[o,s.c1] at this;omega),?_,?_,?_,?_,?_,?_,?_,?_,?_,?_,?_,?_,?_,?_⟩
  ·exact s.ri.keep k04 (fun q e=>hx q (by rw[s.c6 q (.inl e)];omega) (by rw[s.c6 q (.inl e)];omega) (by rw[s.c6 q (.inl e)];omega))
  ·exact s.rt.keep k04 (fun q e=>hx q (by rw[s.c6 q (.inr (.inl e))];omega) (by rw[s.c6 q (.inr (.inl e))];omega) (by rw[s.c6 q (.inr (.inl e))];omega))
  ·exact s.rk.keep k04 (fun q e=>hx q (by rw[s.c6 q (.inr (.inr e))];omega) (by rw[s.c6 q (.inr (.inr e))];omega) (by rw[s.c6 q (.inr (.inr e))];omega))
  ·exact m2.keep k24 (fun e=>by omega)
  ·intro q e;simp only[Z4.injEq] at e;rw[<- e];exact s.mb.keep k04 (hx _ (by rw[s.c3];omega) (by rw[s.c3];omega) (by rw[s.c3];omega))
  ·intro e;cases e
  ·exact s.rg.keep k04 (fun q e=>hx q (by rw[s.c5 q e];omega) (by rw[s.c5 q e];omega) (by rw[s.c5 q e];omega))
  ·simp only;rw[old b (by rw[s.c1];omega) (by rw[s.c1];omega)];exact s.c1
  ·intro q e;simp only;have:=s.c2 q (hown q e);rw[old q (by omega) (by omega)];exact this
  ·simp only;rw[if_neg (fun e=>hmn e.symm)];simp
  ·intro q e;simp only[Z4.injEq] at e;simp only;rw[if_pos e.symm]
  ·intro q e;simp only;have:=s.c5 q e;rw[old q (by omega) (by omega)];exact this
  ·intro q e;simp only;have:=s.c6 q e;rw[old q (by omega) (by omega)];exact this
  ·intro q e;simp only
   have:=s.mb.lt;rw[if_neg (by omega),if_neg (by omega)];exact s.c0 q (by omega)
 ·intro q hq;simp only
  by_cases e:q=L.mb
  ·rw[if_pos e,e,s.c3];omega
  ·rw[if_neg e,if_neg (by omega)]
end
end Go.S19

namespace Go.S19
open Go Go.Eng Go.Proofs Go.Chk
def HS.fol (S:HS):Nat->Int × Int->Option (Int × Int)
 | 0,_=>none
 | n+1,w=>if w.1=4 then (if (gx S.now w.2).1=12 then S.fol n (gx S.now (w.2+1)) else some w) else some w
theorem gx_in {xs:List (Int × Int)} {i:Int} (h:(gx xs i).1≠0):0<=i/\i<xs.length:=by
 unfold gx at h;split at h
 ·assumption
 ·exact absurd rfl h
section
variable {h:AH} {b:Nat} {L:Lay} {S:HS}
theorem Follow_ok (s:Hp h b L S) (w:Int × Int) (hf:S.sound w -> ∃ n x,S.fol n w=some x):Gets Tryd.prog 48 [.pointer (some ⟨b,0,none⟩),wv w] h (fun res h'=>Keep (fun _=>False) h h' /\
 if S.sound w then ∃ n x,S.fol n w=some x/\res = .ret (.tuple #[wv x,iv 0]) else res = .ret (.tuple #[wv (0,0),iv 1])):=by
 refine Gets.of (keep:=false) hP (draw_ok hM) k48 (by rfl) (fun Ψ hΨ=>?_);have oW:=Own.new h 44 h.length [iv w.1,iv w.2];have k1:Keep (fun _=>False) h (h++[row 44 h.length [iv w.1,iv w.2]]):=Keep.push _ _ _;have l1:(h++[row 44 h.length [iv w.1,iv w.2]]).length=h.length+1:=by simp
 simp only[ZG,↓reduceIte,ZA,ZB,ZC,r48,YE,YC,YO,YA,YL,YX,YS,Ya,Yb,Yl,Yf,Yg,Yi,Ym,Yk,Yt,Yn,Yz,Yp,Yq,Yd,wv,mbl,ZD,ZE,ZF];generalize h++[row 44 h.length [iv w.1,iv w.2]]=h1 at oW k1 l1 ⊢;have oR:=Own.new h1 44 h1.length [iv 0,iv 0];have k2:Keep (fun _=>False) h1 (h1++[row 44 h1.length [iv 0,iv 0]]):=Keep.push _ _ _;have l2:(h1++[row 44 h1.length [iv 0,iv 0]]).length=h.length+2:=by simp [l1]
 generalize h1++[row 44 h1.length [iv 0,iv 0]]=h2 at oR k2 l2 ⊢;have oW2:=oW.keep k2 (fun e=>e);have k02:=k1.trans k2;simp only[ZG,↓reduceIte,ZA,ZB,ZC,oW2.cells.lds 0 2 (by simp),mbl,ZD,ZE,ZF];refine XX_of (sound_ok (s.keepF k02) w) (fun res h3 hle hn=>?_);obtain ⟨k3,rfl⟩:=hn;refine .ret ?_;have k03:=k02.trans k3;have oR3:=oR.keep k3 (fun e=>e);have oW3:=oW2.keep k3 (fun e=>e)
 by_cases hl:S.sound w
 case neg =>
  simp only[ZG,↓reduceIte,ZA,ZB,ZC,hl,mbl,ZD,ZE,ZF];refine XH_own oR3 rfl (by simp [Value.cells]) rfl (fun h4 q1 q2 q3=>?_);have oR4:Own h4 h1.length 44 [iv 0,iv 0]:=by simpa [Value.cells] using q1
  simp only[ZG,↓reduceIte,ZA,ZB,ZC];refine hΨ _ _ (fin_ret (rvw rfl oR4 rfl ⟨k03.trans' q2 (fun c hc e=>by omega),?_⟩));rw[if_neg hl];rfl
 obtain ⟨n,x,hx⟩:=hf hl;simp only[ZG,↓reduceIte,ZA,ZB,ZC,hl,mbl,ZD,ZE,ZF];refine XLo_rule (α:=Nat × (Int × Int)) (fun a=>[(0,.pointer (some ⟨b,0,none⟩)),(3,.pointer (some ⟨h.length,0,none⟩)),(4,.pointer (some ⟨h1.length,0,none⟩)),(5,iv 0)])
  (fun a h'=>S.fol a.1 a.2=some x/\Keep (fun q=>q=h.length) h3 h'/\Own h' h.length 44 [iv a.2.1,iv a.2.2]) (fun a=>a.1) (n,w) ⟨hx,.refl _ _,oW3⟩ ⟨rfl,rfl,rfl,rfl,trivial⟩ ?_
 rintro ⟨m,c1,c2⟩ h4 Ψ2 ⟨i1,kp,oC⟩ next out
 simp only at i1 oC;have k04:Keep (fun _=>False) h h4:=k03.trans' kp (fun c hc e=>by omega);have oR4:=oR3.keep kp (fun e=>by omega);have hl4:h.length+2<=h4.length:=by have:=(k3.mono (T:=fun q=>q=h.length) (fun _ e=>e.elim)).trans kp |>.len;omega
 have k44:=Keep.refl (fun _=>False) h4;cases m with
 | zero=>cases i1
 | succ m =>
 rw[HS.fol] at i1
 by_cases d4:c1=4
 case neg =>
  simp only[ZG,↓reduceIte,ZA,ZB,ZC,oC.cells.ld,mbl,ZD,ZE,ZF,d4];refine out (.exit 0) _ _ _ _ (by intro e;cases e) ?_;have oR5:=oR4.keep k44 (fun e=>e);have oC5:=oC.keep k44 (fun e=>e);simp only[ZG,↓reduceIte,ZA,ZB,ZC,oC5.cells.lds 0 2 (by simp),mbl,ZD,ZE,ZF];refine XH_own oR5 rfl (by simp [Value.cells]) rfl (fun h6 t1 t2 t3=>?_);have oR6:Own h6 h1.length 44 [iv c1,iv c2]:=by simpa [Value.cells] using t1
  simp only[ZG,↓reduceIte,ZA,ZB,ZC];refine hΨ _ _ (fin_ret (rvw rfl oR6 rfl ⟨(k04.trans k44).trans' t2 (fun c hc e=>by omega),?_⟩));rw[if_pos hl];exact ⟨n,x,hx,by rw[show x=(c1,c2) by rw[if_neg (show ¬ (c1,c2).1=4 from d4)] at i1;exact (Z4.inj i1).symm];rfl⟩
 have s4:=s.keepF k04;rw[if_pos (show (c1,c2).1=4 from d4)] at i1;simp only[ZG,↓reduceIte,ZA,ZB,ZC,oC.cells.ld,mbl,ZD,ZE,ZF,d4,s4.own.cells.ld];refine XX_of (wGet_ok s4.ws c2) (fun res h5 hle5 hn=>?_);obtain ⟨k5,rfl⟩:=hn;refine .ret ?_;have oD:=Own.new h5 44 h5.length [iv 0,iv 0];have k6:Keep (fun _=>False) h5 (h5++[row 44 h5.length [iv 0,iv 0]]):=Keep.push _ _ _;simp only[ZG,↓reduceIte,ZA,ZB,ZC,gw_eq,mbl,ZD,ZE,ZF];refine XH_own oD rfl (by simp [Value.cells]) rfl (fun h6 q1 q2 q3=>?_);have oD6:Own h6 h5.length 44 [iv (gx S.now c2).1,iv (gx S.now c2).2]:=by simpa [Value.cells] using q1
 have k46:Keep (fun _=>False) h4 h6:=(k5.trans k6).trans' q2 (fun c hc e=>by have:=k5.len;omega)
 by_cases d12:(gx S.now c2).1=12
 case neg =>
  rw[if_neg d12] at i1;simp only[ZG,↓reduceIte,ZA,ZB,ZC,oD6.cells.ld,mbl,ZD,ZE,ZF,d12];refine out (.exit 0) _ _ _ _ (by intro e;cases e) ?_;have oR5:=oR4.keep k46 (fun e=>e);have oC5:=oC.keep k46 (fun e=>e);simp only[ZG,↓reduceIte,ZA,ZB,ZC,oC5.cells.lds 0 2 (by simp),mbl,ZD,ZE,ZF];refine XH_own oR5 rfl (by simp [Value.cells]) rfl (fun h6 t1 t2 t3=>?_);have oR6:Own h6 h1.length 44 [iv c1,iv c2]:=by simpa [Value.cells] using t1
  simp only[ZG,↓reduceIte,ZA,ZB,ZC];refine hΨ _ _ (fin_ret (rvw rfl oR6 rfl ⟨(k04.trans k46).trans' t2 (fun c hc e=>by omega),?_⟩));rw[if_pos hl];exact ⟨n,x,hx,by rw[show x=(c1,c2) by exact (Z4.inj i1).symm];rfl⟩
 rw[if_pos d12] at i1;have hin:=gx_in (xs:=S.now) (i:=c2) (by omega);have hsz:=s.ws.ln;have hs2:=s.ws.sz;have hw1:IntKind.i64.wrap (c2+1)=c2+1:=i64w (by omega) (by omega);have oC6:=oC.keep k46 (fun e=>e);have k06:=k04.trans k46;have s6:=s.keepF k06;simp only[ZG,↓reduceIte,ZA,ZB,ZC,oD6.cells.ld,mbl,ZD,ZE,ZF,d12,s6.own.cells.ld,oC6.cells.ld,hw1];refine XX_of (wGet_ok s6.ws (c2+1)) (fun res h7 hle7 hn=>?_);obtain ⟨k7,rfl⟩:=hn;refine .ret ?_;have oC7:=oC6.keep k7 (fun e=>e);simp only[ZG,↓reduceIte,ZA,ZB,ZC,gw_eq,mbl,ZD,ZE,ZF];refine XH_own oC7 rfl (by simp [Value.cells]) rfl (fun h8 t1 t2 t3=>?_);simp only[ZG,↓reduceIte,ZA,ZB,ZC];exact next (m,gx S.now (c2+1)) _ _ _ ⟨i1,(kp.trans ((k46.trans k7).mono (fun _ e=>e.elim))).trans t2,by simpa [Value.cells] using t1⟩ ⟨rfl,rfl,rfl,rfl,trivial⟩ (by simp)
end
end Go.S19

namespace Go.S19
open Go Go.Eng Go.Proofs Go.Chk
def HS.setw (S:HS) (i:Int) (x:Int × Int):HS:={ S with now:=S.now.set i.toNat x }
def HS.setp (S:HS) (i:Int) (x:Int × Int):Int × HS:=if 0<=i/\i<S.now.length then (0,S.setw i x) else (2,S)
def HS.hd (S:HS) (w:Int × Int):Int × Int:=gx S.now w.2
section
variable {h:AH} {b:Nat} {L:Lay} {S:HS}
theorem Hp.setw (s:Hp h b L S) {h':AH} {i:Int} {x:Int × Int} (k:Keep (WOwns L.bs L.v0 L.v1) h h') (ws':WS h' L.bs S.size S.side L.v0 L.v1 (S.now.set i.toNat x) S.old):Hp h' b L (S.setw i x):=by
 have cb:∀ q,L.cls q≠2 -> ¬ WOwns L.bs L.v0 L.v1 q:=fun q a e=>a (s.c2 q e)
 exact ⟨s.own.keep k (cb b (by rw[s.c1];omega)),ws',s.ri.keep k (fun q e=>cb q (by rw[s.c6 q (.inl e)];omega)),s.rt.keep k (fun q e=>cb q (by rw[s.c6 q (.inr (.inl e))];omega)),s.rk.keep k (fun q e=>cb q (by rw[s.c6 q (.inr (.inr e))];omega)),
  s.mb.keep k (cb _ (by rw[s.c3];omega)),fun q e=>(s.mo q e).keep k (cb q (by rw[s.c4 q e];omega)),s.mo0,s.rg.keep k (fun q e=>cb q (by rw[s.c5 q e];omega)),s.c1,s.c2,s.c3,s.c4,s.c5,s.c6,fun q e=>s.c0 q (Nat.le_trans k.len e)⟩
theorem setp_ok (s:Hp h b L S) (i:Int) (x:Int × Int):Gets Tryd.prog 47 [.pointer (some ⟨L.bs,0,none⟩),iv i,wv x] h (fun res h'=>Keep (Mine L) h h'/\res = .ret (iv (S.setp i x).1)/\Hp h' b L (S.setp i x).2):=by
 refine (wSet_ok s.ws i x).mono (fun res h' hl ⟨k,hn⟩=>⟨k.mono (fun q e=>by rw[Mine,s.c2 q e];omega),?_⟩)
 by_cases c:0<=i/\i<S.now.length
 ·rw[if_pos c] at hn;rw[HS.setp,if_pos c];exact ⟨hn.1,s.setw k hn.2⟩
 ·rw[if_neg c] at hn;rw[HS.setp,if_neg c];exact ⟨hn.1,s.keepF hn.2⟩
def HS.sete (S:HS) (w:Int × Int) (k:Int) (x:Int × Int):Int × HS :=
 if S.lies w/\S.sound x then (if k<0\/(S.hd w).1=9\/(S.hd w).1=12\/S.count w (S.hd w)<=k then (2,S) else S.setp (w.2+1+k) x) else (1,S)
set_option maxHeartbeats 1000000 in
theorem Set_ok (s:Hp h b L S) (ok:S.Ok) (w:Int × Int) (k:Int) (x:Int × Int):Gets Tryd.prog 22 [.pointer (some ⟨b,0,none⟩),wv w,iv k,wv x] h (fun res h'=>Keep (Mine L) h h'/\res = .ret (iv (S.sete w k x).1)/\Hp h' b L (S.sete w k x).2):=by
 refine Gets.of (keep:=false) hP (draw_ok hM) k22 (by rfl) (fun Ψ hΨ=>?_);have oW:=Own.new h 44 h.length [iv w.1,iv w.2];have k1:Keep (fun _=>False) h (h++[row 44 h.length [iv w.1,iv w.2]]):=Keep.push _ _ _;have l1:(h++[row 44 h.length [iv w.1,iv w.2]]).length=h.length+1:=by simp
 simp only[ZG,↓reduceIte,ZA,ZB,ZC,r22,YE,YC,YO,YA,YL,YX,YS,Ya,Yb,Yl,Yf,Yg,Yi,Ym,Yk,Yt,Yn,Yz,Yp,Yq,Yd,wv,mbl,ZD,ZE,ZF];generalize h++[row 44 h.length [iv w.1,iv w.2]]=h1 at oW k1 l1 ⊢;have oX:=Own.new h1 44 h1.length [iv x.1,iv x.2];have k2:Keep (fun _=>False) h1 (h1++[row 44 h1.length [iv x.1,iv x.2]]):=Keep.push _ _ _;have l2:(h1++[row 44 h1.length [iv x.1,iv x.2]]).length=h.length+2:=by simp [l1]
 generalize h1++[row 44 h1.length [iv x.1,iv x.2]]=h2 at oX k2 l2 ⊢;have oW2:=oW.keep k2 (fun e=>e);have k02:=k1.trans k2;simp only[ZG,↓reduceIte,ZA,ZB,ZC,oW2.cells.lds 0 2 (by simp),mbl,ZD,ZE,ZF];refine XX_of (Head_ok (s.keepF k02) w) (fun res h3 hle hn=>?_);obtain ⟨k3,rfl⟩:=hn;refine .ret ?_;have k03:=k02.trans k3;have oD:=Own.new h3 44 h3.length [iv 0,iv 0];have k4:Keep (fun _=>False) h3 (h3++[row 44 h3.length [iv 0,iv 0]]):=Keep.push _ _ _;simp only[ZG,↓reduceIte,ZA,ZB,ZC,wv,mbl,ZD,ZE,ZF];refine XH_own oD rfl (by simp [Value.cells]) rfl (fun h4 q1 q2 q3=>?_);have oD4:Own h4 h3.length 44 [iv (S.head w).1.1,iv (S.head w).1.2]:=by simpa [Value.cells] using q1
 have k34:Keep (fun _=>False) h3 h4:=k4.trans' q2 (fun c hc e=>by omega);have k24:=k3.trans k34;have k04:=k02.trans k24;have oW4:=oW2.keep k24 (fun e=>e);have oX4:=oX.keep k24 (fun e=>e)
 by_cases hl:S.lies w
 case neg =>
  have e0:S.head w=((0,0),1):=by rw[HS.head,if_neg hl]
  have hno:¬ (S.lies w/\S.sound x):=fun e=>hl e.1
  simp only[ZG,↓reduceIte,ZA,ZB,ZC,e0,mbl,ZD,ZE,ZF];refine hΨ _ _ (fin_ret (rv1 rfl ⟨k04.mono (fun _ e=>e.elim),?_,?_⟩))
  ·rw[HS.sete,if_neg hno];rfl
  ·rw[HS.sete,if_neg hno];exact s.keepF k04
 have e0:S.head w=(S.hd w,0):=by rw[HS.head,if_pos hl];rfl
 rw[e0] at oD4;simp only[ZG,↓reduceIte,ZA,ZB,ZC,e0,mbl,ZD,ZE,ZF,oX4.cells.lds 0 2 (by simp)];refine XX_of (sound_ok (s.keepF k04) x) (fun res h5 hle5 hn=>?_);obtain ⟨k5,rfl⟩:=hn;refine .ret ?_;have k05:=k04.trans k5;have oD5:=oD4.keep k5 (fun e=>e);have oW5:=oW4.keep k5 (fun e=>e);have oX5:=oX4.keep k5 (fun e=>e)
 by_cases hs:S.sound x
 case neg =>
  have hno:¬ (S.lies w/\S.sound x):=fun e=>hs e.2
  simp only[ZG,↓reduceIte,ZA,ZB,ZC,hs,mbl,ZD,ZE,ZF];refine hΨ _ _ (fin_ret (rv1 rfl ⟨k05.mono (fun _ e=>e.elim),?_,?_⟩))
  ·rw[HS.sete,if_neg hno];rfl
  ·rw[HS.sete,if_neg hno];exact s.keepF k05
 have hyes:S.lies w/\S.sound x:=⟨hl,hs⟩
 by_cases d0:k<0
 ·simp only[ZG,↓reduceIte,ZA,ZB,ZC,hs,mbl,ZD,ZE,ZF,d0]
  refine hΨ _ _ (fin_ret (rv1 rfl ⟨k05.mono (fun _ e=>e.elim),?_,?_⟩))
  ·rw[HS.sete,if_pos hyes,if_pos (by exact .inl d0)];rfl
  ·rw[HS.sete,if_pos hyes,if_pos (by exact .inl d0)];exact s.keepF k05
 by_cases d9:(S.hd w).1=9
 ·simp only[ZG,↓reduceIte,ZA,ZB,ZC,hs,mbl,ZD,ZE,ZF,d0,oD5.cells.ld,d9]
  refine hΨ _ _ (fin_ret (rv1 rfl ⟨k05.mono (fun _ e=>e.elim),?_,?_⟩))
  ·rw[HS.sete,if_pos hyes,if_pos (by exact .inr (.inl d9))];rfl
  ·rw[HS.sete,if_pos hyes,if_pos (by exact .inr (.inl d9))];exact s.keepF k05
 by_cases d12:(S.hd w).1=12
 ·simp only[ZG,↓reduceIte,ZA,ZB,ZC,hs,mbl,ZD,ZE,ZF,d0,oD5.cells.ld,d9,d12]
  refine hΨ _ _ (fin_ret (rv1 rfl ⟨k05.mono (fun _ e=>e.elim),?_,?_⟩))
  ·rw[HS.sete,if_pos hyes,if_pos (by exact .inr (.inr (.inl d12)))];rfl
  ·rw[HS.sete,if_pos hyes,if_pos (by exact .inr (.inr (.inl d12)))];exact s.keepF k05
 obtain ⟨nb,f1,f2,f3,f4,f5,f6,f7,f8,f9⟩:=ok.fc hl (by have:=s.ws.ln;have:=s.ws.sz;omega);simp only[ZG,↓reduceIte,ZA,ZB,ZC,hs,mbl,ZD,ZE,ZF,d0,oD5.cells.ld,d9,d12,oW5.cells.lds 0 2 (by simp),oD5.cells.lds 0 2 (by simp)];refine XX_of (count_ok (s.keepF k05) w (S.hd w) f3 (fun _ _=>⟨nb,f1,f4,f5⟩)) (fun res h6 hle6 hn=>?_);obtain ⟨k6,rfl⟩:=hn;refine .ret ?_;have k06:=k05.trans k6
 by_cases dk:S.count w (S.hd w)<=k
 ·simp only[ZG,↓reduceIte,ZA,ZB,ZC,mbl,ZD,ZE,ZF,dk]
  refine hΨ _ _ (fin_ret (rv1 rfl ⟨k06.mono (fun _ e=>e.elim),?_,?_⟩))
  ·rw[HS.sete,if_pos hyes,if_pos (by exact .inr (.inr (.inr dk)))];rfl
  ·rw[HS.sete,if_pos hyes,if_pos (by exact .inr (.inr (.inr dk)))];exact s.keepF k06
 have oW6:=oW5.keep k6 (fun e=>e);have oX6:=oX5.keep k6 (fun e=>e);have s6:=s.keepF k06;have hfc:S.fcount w=S.count w (S.hd w):=by rw[HS.fcount];exact if_neg d12
 have hw1:IntKind.i64.wrap (w.2+1)=w.2+1:=i64w (by omega) (by omega);have hw2:IntKind.i64.wrap (w.2+1+k)=w.2+1+k:=i64w (by omega) (by omega);simp only[ZG,↓reduceIte,ZA,ZB,ZC,mbl,ZD,ZE,ZF,dk,s6.own.cells.ld,oW6.cells.ld,hw1,hw2,oX6.cells.lds 0 2 (by simp)];refine XX_of (setp_ok s6 (w.2+1+k) x) (fun res h7 hle7 hn=>?_);obtain ⟨k7,rfl,s7⟩:=hn;refine .ret ?_;simp only[ZG,↓reduceIte,ZA,ZB,ZC];have hno:¬ (k<0\/(S.hd w).1=9\/(S.hd w).1=12\/S.count w (S.hd w)<=k):=by
  rintro (e|e|e|e)
  ·exact d0 e
  ·exact d9 e
  ·exact d12 e
  ·exact dk e
 refine hΨ _ _ (fin_ret (rv1 rfl ⟨(k06.mono (fun _ e=>e.elim)).trans k7,?_,?_⟩))
 ·rw[HS.sete,if_pos hyes,if_neg hno];rfl
 ·rw[HS.sete,if_pos hyes,if_neg hno];exact s7
def HS.hole (S:HS) (w:Int × Int):Int × HS :=
 if S.lies w/\((S.hd w).1=9\/(S.hd w).1=10\/((S.hd w).1=6/\S.ik (S.hd w).2=2)) then S.setp w.2 (11,(mget w.2 S.begins).getD 0) else (1,S)
set_option maxHeartbeats 1000000 in
theorem Hole_ok (s:Hp h b L S) (ok:S.Ok) (w:Int × Int):Gets Tryd.prog 18 [.pointer (some ⟨b,0,none⟩),wv w] h (fun res h'=>Keep (Mine L) h h'/\res = .ret (iv (S.hole w).1)/\Hp h' b L (S.hole w).2):=by
 refine Gets.of (keep:=false) hP (draw_ok hM) k18 (by rfl) (fun Ψ hΨ=>?_);have oW:=Own.new h 44 h.length [iv w.1,iv w.2];have k1:Keep (fun _=>False) h (h++[row 44 h.length [iv w.1,iv w.2]]):=Keep.push _ _ _;have l1:(h++[row 44 h.length [iv w.1,iv w.2]]).length=h.length+1:=by simp
 simp only[ZG,↓reduceIte,ZA,ZB,ZC,r18,YE,YC,YO,YA,YL,YX,YS,Ya,Yb,Yl,Yf,Yg,Yi,Ym,Yk,Yt,Yn,Yz,Yp,Yq,Yd,wv,mbl,ZD,ZE,ZF];generalize h++[row 44 h.length [iv w.1,iv w.2]]=h2 at oW k1 l1 ⊢;simp only[ZG,↓reduceIte,ZA,ZB,ZC,oW.cells.lds 0 2 (by simp),mbl,ZD,ZE,ZF];refine XX_of (Head_ok (s.keepF k1) w) (fun res h3 hle hn=>?_);obtain ⟨k3,rfl⟩:=hn;refine .ret ?_;have k03:=k1.trans k3;have oD:=Own.new h3 44 h3.length [iv 0,iv 0];have k4:Keep (fun _=>False) h3 (h3++[row 44 h3.length [iv 0,iv 0]]):=Keep.push _ _ _;simp only[ZG,↓reduceIte,ZA,ZB,ZC,wv,mbl,ZD,ZE,ZF];refine XH_own oD rfl (by simp [Value.cells]) rfl (fun h4 q1 q2 q3=>?_);have oD4:Own h4 h3.length 44 [iv (S.head w).1.1,iv (S.head w).1.2]:=by simpa [Value.cells] using q1
 have k34:Keep (fun _=>False) h3 h4:=k4.trans' q2 (fun c hc e=>by omega);have k24:=k3.trans k34;have k04:=k1.trans k24;have oW4:=oW.keep k24 (fun e=>e);have s4:=s.keepF k04
 by_cases hl:S.lies w
 case neg =>
  have e0:S.head w=((0,0),1):=by rw[HS.head,if_neg hl]
  have hno:¬ (S.lies w/\((S.hd w).1=9\/(S.hd w).1=10\/((S.hd w).1=6/\S.ik (S.hd w).2=2))):=fun e=>hl e.1
  rw[e0] at oD4;simp only[ZG,↓reduceIte,ZA,ZB,ZC,e0,mbl,ZD,ZE,ZF,oD4.cells.ld];refine hΨ _ _ (fin_ret (rv1 rfl ⟨k04.mono (fun _ e=>e.elim),?_,?_⟩))
  ·rw[HS.hole,if_neg hno];rfl
  ·rw[HS.hole,if_neg hno];exact s4
 have e0:S.head w=(S.hd w,0):=by rw[HS.head,if_pos hl];rfl
 obtain ⟨nb,f1,f2,f3,f4,f5,f6,f7,f8,f9⟩:=ok.fc hl (by have:=s.ws.ln;have:=s.ws.sz;omega);rw[e0] at oD4
 by_cases d9:(S.hd w).1=9
 ·simp only[ZG,↓reduceIte,ZA,ZB,ZC,e0,mbl,ZD,ZE,ZF,oD4.cells.ld,oW4.cells.ld,d9,s4.own.cells.ld,lk_some kt3 s4.mb f1]
  refine XX_of (setp_ok s4 w.2 (11,nb)) (fun res h7 hle7 hn=>?_);obtain ⟨k7,rfl,s7⟩:=hn;refine .ret ?_;simp only[ZG,↓reduceIte,ZA,ZB,ZC];refine hΨ _ _ (fin_ret (rv1 rfl ⟨(k04.mono (fun _ e=>e.elim)).trans k7,?_,?_⟩))
  ·rw[HS.hole,if_pos ⟨hl,by exact .inl d9⟩,f1];rfl
  ·rw[HS.hole,if_pos ⟨hl,by exact .inl d9⟩,f1];exact s7
 by_cases d10:(S.hd w).1=10
 ·simp only[ZG,↓reduceIte,ZA,ZB,ZC,e0,mbl,ZD,ZE,ZF,oD4.cells.ld,oW4.cells.ld,d9,d10,s4.own.cells.ld,lk_some kt3 s4.mb f1]
  refine XX_of (setp_ok s4 w.2 (11,nb)) (fun res h7 hle7 hn=>?_);obtain ⟨k7,rfl,s7⟩:=hn;refine .ret ?_;simp only[ZG,↓reduceIte,ZA,ZB,ZC];refine hΨ _ _ (fin_ret (rv1 rfl ⟨(k04.mono (fun _ e=>e.elim)).trans k7,?_,?_⟩))
  ·rw[HS.hole,if_pos ⟨hl,by exact .inr (.inl d10)⟩,f1];rfl
  ·rw[HS.hole,if_pos ⟨hl,by exact .inr (.inl d10)⟩,f1];exact s7
 by_cases d6:(S.hd w).1=6
 case neg =>
  simp only[ZG,↓reduceIte,ZA,ZB,ZC,e0,mbl,ZD,ZE,ZF,oD4.cells.ld,oW4.cells.ld,d9,d10,d6];refine hΨ _ _ (fin_ret (rv1 rfl ⟨k04.mono (fun _ e=>e.elim),?_,?_⟩))
  ·rw[HS.hole,if_neg (by rintro ⟨_,e⟩;omega)];rfl
  ·rw[HS.hole,if_neg (by rintro ⟨_,e⟩;omega)];exact s4
 obtain ⟨g1,g2⟩:=f3 d6;have g1':0<=(S.hd w).2:=g1;have g2':(S.hd w).2<S.infos.length:=g2;obtain ⟨⟨k,a,f,c⟩,hx⟩:∃ x,S.infos[(S.hd w).2.toNat]?=some x:=⟨_,List.getElem?_eq_getElem (show (S.hd w).2.toNat<S.infos.length by omega)⟩
 obtain ⟨b1,o1,c1,e1,_,hld⟩:=rds_fld (by omega) Inf.len s4.ri hx;have hl0:=hld 0 (by omega);simp only[Inf.cells,List.getElem?_cons_succ,List.getElem?_cons_zero,Option.map_some,Nat.add_zero] at hl0;have hik:S.ik (S.hd w).2=k:=by rw[HS.ik,hx];rfl
 by_cases dk:k=2
 ·simp only[ZG,↓reduceIte,ZA,ZB,ZC,e0,mbl,ZD,ZE,ZF,oD4.cells.ld,oW4.cells.ld,d9,d10,d6,s4.own.cells.ld,lk_some kt3 s4.mb f1,e1,g1',g2',and_self,hl0,dk]
  refine XX_of (setp_ok s4 w.2 (11,nb)) (fun res h7 hle7 hn=>?_);obtain ⟨k7,rfl,s7⟩:=hn;refine .ret ?_;simp only[ZG,↓reduceIte,ZA,ZB,ZC];refine hΨ _ _ (fin_ret (rv1 rfl ⟨(k04.mono (fun _ e=>e.elim)).trans k7,?_,?_⟩))
  ·rw[HS.hole,if_pos ⟨hl,by exact .inr (.inr ⟨d6,by omega⟩)⟩,f1];rfl
  ·rw[HS.hole,if_pos ⟨hl,by exact .inr (.inr ⟨d6,by omega⟩)⟩,f1];exact s7
 ·simp only[ZG,↓reduceIte,ZA,ZB,ZC,e0,mbl,ZD,ZE,ZF,oD4.cells.ld,oW4.cells.ld,d9,d10,d6,s4.own.cells.ld,e1,g1',g2',and_self,hl0,dk]
  refine hΨ _ _ (fin_ret (rv1 rfl ⟨k04.mono (fun _ e=>e.elim),?_,?_⟩))
  ·rw[HS.hole,if_neg (by rintro ⟨_,e⟩;rw[hik] at e;omega)];rfl
  ·rw[HS.hole,if_neg (by rintro ⟨_,e⟩;rw[hik] at e;omega)];exact s4
def HS.become (S:HS) (w x y:Int × Int):Int × HS :=
 if S.lies w/\(S.hd w).1=11/\S.sound x/\y≠w then (S.setp w.2 (12,0)).2.setp (w.2+1) x else (1,S)
theorem ceq_w {a1 a2 b1 b2:Int}:ceq [0,0] [.int .i64 a1,.int .i64 a2] [.int .i64 b1,.int .i64 b2]=some (decide (a1=b1/\a2=b2)):=by
 simp [ceq];rfl
set_option maxHeartbeats 1000000 in
theorem Become_ok (s:Hp h b L S) (w x:Int × Int) (hf:S.lies w->(S.hd w).1=11->S.sound x -> ∃ n y,S.fol n x=some y):Gets Tryd.prog 19 [.pointer (some ⟨b,0,none⟩),wv w,wv x] h (fun res h'=>Keep (Mine L) h h' /\
 ∃ y,(S.lies w/\(S.hd w).1=11/\S.sound x -> ∃ n,S.fol n x=some y)/\res = .ret (iv (S.become w x y).1)/\Hp h' b L (S.become w x y).2):=by
 refine Gets.of (keep:=false) hP (draw_ok hM) k19 (by rfl) (fun Ψ hΨ=>?_);have oW:=Own.new h 44 h.length [iv w.1,iv w.2];have k1:Keep (fun _=>False) h (h++[row 44 h.length [iv w.1,iv w.2]]):=Keep.push _ _ _;have l1:(h++[row 44 h.length [iv w.1,iv w.2]]).length=h.length+1:=by simp
 simp only[ZG,↓reduceIte,ZA,ZB,ZC,r19,YE,YC,YO,YA,YL,YX,YS,Ya,Yb,Yl,Yf,Yg,Yi,Ym,Yk,Yt,Yn,Yz,Yp,Yq,Yd,wv,mbl,ZD,ZE,ZF];generalize h++[row 44 h.length [iv w.1,iv w.2]]=h1 at oW k1 l1 ⊢;have oX:=Own.new h1 44 h1.length [iv x.1,iv x.2];have k2:Keep (fun _=>False) h1 (h1++[row 44 h1.length [iv x.1,iv x.2]]):=Keep.push _ _ _;have l2:(h1++[row 44 h1.length [iv x.1,iv x.2]]).length=h.length+2:=by simp [l1]
 generalize h1++[row 44 h1.length [iv x.1,iv x.2]]=h2 at oX k2 l2 ⊢;have oW2:=oW.keep k2 (fun e=>e);have k02:=k1.trans k2;simp only[ZG,↓reduceIte,ZA,ZB,ZC,oW2.cells.lds 0 2 (by simp),mbl,ZD,ZE,ZF];refine XX_of (Head_ok (s.keepF k02) w) (fun res h3 hle hn=>?_);obtain ⟨k3,rfl⟩:=hn;refine .ret ?_;have k03:=k02.trans k3;have oD:=Own.new h3 44 h3.length [iv 0,iv 0];have k4:Keep (fun _=>False) h3 (h3++[row 44 h3.length [iv 0,iv 0]]):=Keep.push _ _ _;simp only[ZG,↓reduceIte,ZA,ZB,ZC,wv,mbl,ZD,ZE,ZF];refine XH_own oD rfl (by simp [Value.cells]) rfl (fun h4 q1 q2 q3=>?_);have oD4:Own h4 h3.length 44 [iv (S.head w).1.1,iv (S.head w).1.2]:=by simpa [Value.cells] using q1
 have k34:Keep (fun _=>False) h3 h4:=k4.trans' q2 (fun c hc e=>by omega);have k24:=k3.trans k34;have k04:=k02.trans k24;have oW4:=oW2.keep k24 (fun e=>e);have oX4:=oX.keep k24 (fun e=>e)
 by_cases hl:S.lies w
 case neg =>
  have e0:S.head w=((0,0),1):=by rw[HS.head,if_neg hl]
  simp only[ZG,↓reduceIte,ZA,ZB,ZC,e0,mbl,ZD,ZE,ZF];have hno:∀ y,¬ (S.lies w/\(S.hd w).1=11/\S.sound x/\y≠w):=by intro y e;exact hl e.1
  refine hΨ _ _ (fin_ret (rv1 rfl ⟨k04.mono (fun _ e=>e.elim),w,?_,?_,?_⟩))
  ·intro e;exact absurd e.1 hl
  ·rw[HS.become,if_neg (hno w)];rfl
  ·rw[HS.become,if_neg (hno w)];exact s.keepF k04
 have e0:S.head w=(S.hd w,0):=by rw[HS.head,if_pos hl];rfl
 rw[e0] at oD4
 by_cases d11:(S.hd w).1=11
 case neg =>
  simp only[ZG,↓reduceIte,ZA,ZB,ZC,e0,mbl,ZD,ZE,ZF,oD4.cells.ld,d11];have hno:∀ y,¬ (S.lies w/\(S.hd w).1=11/\S.sound x/\y≠w):=by intro y e;exact d11 e.2.1
  refine hΨ _ _ (fin_ret (rv1 rfl ⟨k04.mono (fun _ e=>e.elim),w,?_,?_,?_⟩))
  ·intro e;exact absurd e.2.1 d11
  ·rw[HS.become,if_neg (hno w)];rfl
  ·rw[HS.become,if_neg (hno w)];exact s.keepF k04
 simp only[ZG,↓reduceIte,ZA,ZB,ZC,e0,mbl,ZD,ZE,ZF,oD4.cells.ld,d11,oX4.cells.lds 0 2 (by simp)];refine XX_of (sound_ok (s.keepF k04) x) (fun res h5 hle5 hn=>?_);obtain ⟨k5,rfl⟩:=hn;refine .ret ?_;have k05:=k04.trans k5;have oW5:=oW4.keep k5 (fun e=>e);have oX5:=oX4.keep k5 (fun e=>e)
 by_cases hs:S.sound x
 case neg =>
  simp only[ZG,↓reduceIte,ZA,ZB,ZC,hs,mbl,ZD,ZE,ZF];have hno:∀ y,¬ (S.lies w/\(S.hd w).1=11/\S.sound x/\y≠w):=by intro y e;exact hs e.2.2.1
  refine hΨ _ _ (fin_ret (rv1 rfl ⟨k05.mono (fun _ e=>e.elim),w,?_,?_,?_⟩))
  ·intro e;exact absurd e.2.2 hs
  ·rw[HS.become,if_neg (hno w)];rfl
  ·rw[HS.become,if_neg (hno w)];exact s.keepF k05
 simp only[ZG,↓reduceIte,ZA,ZB,ZC,hs,mbl,ZD,ZE,ZF,oX5.cells.lds 0 2 (by simp)];refine XX_of (Follow_ok (s.keepF k05) x (fun _=>hf hl d11 hs)) (fun res h6 hle6 hn=>?_);obtain ⟨k6,hn⟩:=hn;rw[if_pos hs] at hn;obtain ⟨n,y,hy,rfl⟩:=hn;refine .ret ?_;have k06:=k05.trans k6;have oY:=Own.new h6 44 h6.length [iv 0,iv 0];have k7:Keep (fun _=>False) h6 (h6++[row 44 h6.length [iv 0,iv 0]]):=Keep.push _ _ _;simp only[ZG,↓reduceIte,ZA,ZB,ZC,wv,mbl,ZD,ZE,ZF];refine XH_own oY rfl (by simp [Value.cells]) rfl (fun h7 p1 p2 p3=>?_);have oY7:Own h7 h6.length 44 [iv y.1,iv y.2]:=by simpa [Value.cells] using p1
 have k67:Keep (fun _=>False) h6 h7:=k7.trans' p2 (fun c hc e=>by omega);have k07:=k06.trans k67;have oW7:=(oW5.keep k6 (fun e=>e)).keep k67 (fun e=>e);have oX7:=(oX5.keep k6 (fun e=>e)).keep k67 (fun e=>e);have s7:=s.keepF k07
 by_cases hyw:y.1=w.1/\y.2=w.2
 ·have hyw':y=w:=Prod.ext hyw.1 hyw.2
  subst hyw';simp only[ZG,↓reduceIte,ZA,ZB,ZC,oY7.cells.lds 0 2 (by simp),oW7.cells.lds 0 2 (by simp),mbl,ZD,ZE,ZF,ceq_w,and_self];have hno:¬ (S.lies y/\(S.hd y).1=11/\S.sound x/\y≠y):=fun e=>e.2.2.2 rfl
  refine hΨ _ _ (fin_ret (rv1 rfl ⟨k07.mono (fun _ e=>e.elim),y,fun _=>⟨n,hy⟩,?_,?_⟩))
  ·rw[HS.become,if_neg hno];rfl
  ·rw[HS.become,if_neg hno];exact s7
 have hne:y≠w:=fun e=>hyw ⟨by rw[e],by rw[e]⟩
 have hyes:S.lies w/\(S.hd w).1=11/\S.sound x/\y≠w:=⟨hl,d11,hs,hne⟩
 have hin:=gx_in (xs:=S.now) (i:=w.2) (by have:(gx S.now w.2).1=11:=d11;omega);have hsz:=s.ws.ln;have hs2:=s.ws.sz;have hw1:IntKind.i64.wrap (w.2+1)=w.2+1:=i64w (by omega) (by omega);simp only[ZG,↓reduceIte,ZA,ZB,ZC,oY7.cells.lds 0 2 (by simp),oW7.cells.lds 0 2 (by simp),mbl,ZD,ZE,ZF,ceq_w,hyw,s7.own.cells.ld,oW7.cells.ld];refine XX_of (setp_ok s7 w.2 (12,0)) (fun res h8 hle8 hn=>?_);obtain ⟨k8,rfl,s8⟩:=hn;refine .ret ?_;have hh7:h.length+2<=h7.length:=by have:=(k24.trans (k5.trans (k6.trans k67))).len;omega
 have oW8:=oW7.keep k8 (by have:=s.c0 h.length (Z2 _);simp [Mine,this]);have oX8:=oX7.keep k8 (by have:=s.c0 h1.length (by omega);simp [Mine,this]);simp only[ZG,↓reduceIte,ZA,ZB,ZC,mbl,ZD,ZE,ZF,s8.own.cells.ld,oW8.cells.ld,hw1,oX8.cells.lds 0 2 (by simp)];refine XX_of (setp_ok s8 (w.2+1) x) (fun res h9 hle9 hn=>?_);obtain ⟨k9,rfl,s9⟩:=hn;refine .ret ?_;simp only[ZG,↓reduceIte,ZA,ZB,ZC];refine hΨ _ _ (fin_ret (rv1 rfl ⟨((k07.mono (fun _ e=>e.elim)).trans k8).trans k9,y,fun _=>⟨n,hy⟩,?_,?_⟩))
 ·rw[HS.become,if_pos hyes];rfl
 ·rw[HS.become,if_pos hyes];exact s9
end
end Go.S19

namespace Go.S19
open Go Go.Eng Go.Proofs Go.Chk
def HS.owords (S:HS) (w:Int × Int):List (Int × Int):=(Zc ((mget w.2 S.oldm).getD 0).toNat).map fun i:Nat=>gx S.old (w.2+(i:Int))
def HS.setold (S:HS) (i:Int) (x:Int × Int):HS:={ S with old:=S.old.set i.toNat x }
def HS.mov (S:HS):Nat->Int × Int->Option ((Int × Int) × Int × HS)
 | 0,_=>none
 | n+1,w =>
   if S.plain w then some (w,0,S) else if w.1=4/\(mget w.2 S.oldm).isSome=true then
    (if (gx S.old w.2).1=13 then some ((4,(gx S.old w.2).2),0,S) else if (gx S.old w.2).1=12 then S.mov n (gx S.old (w.2+1)) else
     if S.size-(S.now.length:Int)<((S.owords w).length:Int) then some ((0,0),12,S) else some ((4,S.now.length),0,(S.laid (S.owords w)).setold w.2 (13,S.now.length)))
   else some ((0,0),1,S)
def HS.OkOld (S:HS):Prop:=∀ k n,mget k S.oldm=some n->0<=k/\1<=n/\k+n<=S.old.length
section
variable {h:AH} {b:Nat} {L:Lay} {S:HS}
theorem Hp.setold (s:Hp h b L S) {h':AH} {i:Int} {x:Int × Int} (k:Keep (WOwns L.bs L.v0 L.v1) h h') (ws':WS h' L.bs S.size S.side L.v0 L.v1 S.now (S.old.set i.toNat x)):Hp h' b L (S.setold i x):=by
 have cb:∀ q,L.cls q≠2 -> ¬ WOwns L.bs L.v0 L.v1 q:=fun q a e=>a (s.c2 q e)
 exact ⟨s.own.keep k (cb b (by rw[s.c1];omega)),ws',s.ri.keep k (fun q e=>cb q (by rw[s.c6 q (.inl e)];omega)),s.rt.keep k (fun q e=>cb q (by rw[s.c6 q (.inr (.inl e))];omega)),s.rk.keep k (fun q e=>cb q (by rw[s.c6 q (.inr (.inr e))];omega)),
  s.mb.keep k (cb _ (by rw[s.c3];omega)),fun q e=>(s.mo q e).keep k (cb q (by rw[s.c4 q e];omega)),s.mo0,s.rg.keep k (fun q e=>cb q (by rw[s.c5 q e];omega)),s.c1,s.c2,s.c3,s.c4,s.c5,s.c6,fun q e=>s.c0 q (Nat.le_trans k.len e)⟩
theorem setold_ok (s:Hp h b L S) (i:Int) (x:Int × Int) (hi:0<=i/\i<S.old.length):Gets Tryd.prog 55 [.pointer (some ⟨L.bs,0,none⟩),iv i,wv x] h (fun res h'=>Keep (Mine L) h h'/\res = .ret (iv 0)/\Hp h' b L (S.setold i x)):=by
 refine (wSetOld_ok s.ws i x).mono (fun res h' hl ⟨k,hn⟩=>⟨k.mono (fun q e=>by rw[Mine,s.c2 q e];omega),?_⟩);rw[if_pos hi] at hn;exact ⟨hn.1,s.setold k hn.2⟩
theorem lk_old (s:Hp h b L S) (i:Int):bval Tryd.prog h (.lk 3 (.int .i64 0) true) (.map L.mo) (iv i)=some (.tuple #[iv ((mget i S.oldm).getD 0),.bool (mget i S.oldm).isSome],none):=by
 cases hm:L.mo with
 | none=>rw[s.mo0 hm];exact lk_nil kt3
 | some q =>
   cases hg:mget i S.oldm with
   | none=>exact lk_none kt3 (s.mo q hm) hg
   | some n=>exact lk_some kt3 (s.mo q hm) hg
set_option maxHeartbeats 2000000 in
theorem Move_ok (s:Hp h b L S) (hfr:mget S.now.length S.begins=none) (oo:S.OkOld) (w:Int × Int) {n:Nat} {r:(Int × Int) × Int × HS} (hmv:S.mov n w=some r):Gets Tryd.prog 25 [.pointer (some ⟨b,0,none⟩),wv w] h (fun res h'=>Keep (Mine L) h h' /\
 res = .ret (.tuple #[wv r.1,iv r.2.1]) /\ ∃ L',Hp h' b L' r.2.2/\Same h.length L L'):=by
 refine Gets.of (keep:=false) hP (draw_ok hM) k25 (by rfl) (fun Ψ hΨ=>?_);have oW:=Own.new h 44 h.length [iv w.1,iv w.2];have k1:Keep (fun _=>False) h (h++[row 44 h.length [iv w.1,iv w.2]]):=Keep.push _ _ _;have l1:(h++[row 44 h.length [iv w.1,iv w.2]]).length=h.length+1:=by simp
 simp only[ZG,↓reduceIte,ZA,ZB,ZC,r25,YE,YC,YO,YA,YL,YX,YS,Ya,Yb,Yl,Yf,Yg,Yi,Ym,Yk,Yt,Yn,Yz,Yp,Yq,Yd,wv,mbl,ZD,ZE,ZF];generalize h++[row 44 h.length [iv w.1,iv w.2]]=h1 at oW k1 l1 ⊢;have oR:=Own.new h1 44 h1.length [iv 0,iv 0];have k2:Keep (fun _=>False) h1 (h1++[row 44 h1.length [iv 0,iv 0]]):=Keep.push _ _ _;have l2:(h1++[row 44 h1.length [iv 0,iv 0]]).length=h.length+2:=by simp [l1]
 generalize h1++[row 44 h1.length [iv 0,iv 0]]=h2 at oR k2 l2 ⊢;have oW2:=oW.keep k2 (fun e=>e);have k02:=k1.trans k2;refine XLo_rule (α:=Nat × (Int × Int)) (fun a=>[(0,.pointer (some ⟨b,0,none⟩)),(3,.pointer (some ⟨h.length,0,none⟩)),(4,.pointer (some ⟨h1.length,0,none⟩)),(5,iv 0)])
  (fun a h'=>S.mov a.1 a.2=some r/\Keep (fun q=>q=h.length) h2 h'/\Own h' h.length 44 [iv a.2.1,iv a.2.2]) (fun a=>a.1) (n,w) ⟨hmv,.refl _ _,oW2⟩ ⟨rfl,rfl,rfl,rfl,trivial⟩ ?_
 rintro ⟨m,c1,c2⟩ h4 Ψ2 ⟨i1,kp,oC⟩ next out
 simp only at i1 oC;have k04:Keep (fun _=>False) h h4:=k02.trans' kp (fun c hc e=>by omega);have oR4:=oR.keep kp (fun e=>by omega);have hl4:h.length+2<=h4.length:=by have:=kp.len;omega
 cases m with
 | zero=>cases i1
 | succ m =>
 rw[HS.mov] at i1;have s4:=s.keepF k04;simp only[ZG,↓reduceIte,ZA,ZB,ZC,oC.cells.lds 0 2 (by simp),mbl,ZD,ZE,ZF];refine XX_of (plain_ok s4 (c1,c2)) (fun res h5 hle5 hn=>?_);obtain ⟨k5,rfl⟩:=hn;refine .ret ?_;have k05:=k04.trans k5;have s5:=s.keepF k05;have oC5:=oC.keep k5 (fun e=>e);have oR5:=oR4.keep k5 (fun e=>e)
 by_cases hpl:S.plain (c1,c2)
 ·rw[if_pos hpl] at i1
  cases i1;simp only[ZG,↓reduceIte,ZA,ZB,ZC,hpl,oC5.cells.lds 0 2 (by simp),mbl,ZD,ZE,ZF];refine XH_own oR5 rfl (by simp [Value.cells]) rfl (fun h6 t1 t2 t3=>?_);have oR6:Own h6 h1.length 44 [iv c1,iv c2]:=by simpa [Value.cells] using t1
  simp only[ZG,↓reduceIte,ZA,ZB,ZC];refine out .ret _ _ _ _ (by intro e;cases e) ?_;simp only[ZG,↓reduceIte,ZA,ZB,ZC];have kF:Keep (fun _=>False) h h6:=k05.trans' t2 (fun c hc e=>by omega);exact hΨ _ _ (fin_ret (rvw rfl oR6 rfl ⟨kF.mono (fun _ e=>e.elim),rfl,L,s.keepF kF,Same.refl _ _⟩))
 rw[if_neg hpl] at i1;have lko:=lk_old s5 c2;simp only[ZG,↓reduceIte,ZA,ZB,ZC,hpl,s5.own.cells.ld,oC5.cells.ld,mbl,ZD,ZE,ZF,lko]
 by_cases d4:c1=4
 case neg =>
  simp only[ZG,↓reduceIte,ZA,ZB,ZC,d4,mbl,ZD,ZE,ZF];rw[if_neg (by intro e;exact d4 e.1)] at i1;cases i1;refine XH_own oR5 rfl (by simp [Value.cells]) rfl (fun h6 t1 t2 t3=>?_);have oR6:Own h6 h1.length 44 [iv 0,iv 0]:=by simpa [Value.cells] using t1
  simp only[ZG,↓reduceIte,ZA,ZB,ZC];refine out .ret _ _ _ _ (by intro e;cases e) ?_;simp only[ZG,↓reduceIte,ZA,ZB,ZC];have kF:Keep (fun _=>False) h h6:=k05.trans' t2 (fun c hc e=>by omega);exact hΨ _ _ (fin_ret (rvw rfl oR6 rfl ⟨kF.mono (fun _ e=>e.elim),rfl,L,s.keepF kF,Same.refl _ _⟩))
 cases hg:mget c2 S.oldm with
 | none =>
   simp only[ZG,↓reduceIte,ZA,ZB,ZC,d4,hg,mbl,ZD,ZE,ZF,Option.isSome_none];rw[if_neg (by intro e;have:=e.2;simp only[hg] at this;cases this)] at i1;cases i1;refine XH_own oR5 rfl (by simp [Value.cells]) rfl (fun h6 t1 t2 t3=>?_);have oR6:Own h6 h1.length 44 [iv 0,iv 0]:=by simpa [Value.cells] using t1
   simp only[ZG,↓reduceIte,ZA,ZB,ZC];refine out .ret _ _ _ _ (by intro e;cases e) ?_;simp only[ZG,↓reduceIte,ZA,ZB,ZC];have kF:Keep (fun _=>False) h h6:=k05.trans' t2 (fun c hc e=>by omega);exact hΨ _ _ (fin_ret (rvw rfl oR6 rfl ⟨kF.mono (fun _ e=>e.elim),rfl,L,s.keepF kF,Same.refl _ _⟩))
 | some nb =>
 obtain ⟨f1,f2,f3⟩:=oo _ _ hg;have hlo:=s.ws.lo;have hsz:=s.ws.sz;rw[if_pos (show c1=4/\(mget c2 S.oldm).isSome=true from ⟨d4,by rw[hg];rfl⟩)] at i1;simp only[ZG,↓reduceIte,ZA,ZB,ZC,d4,hg,mbl,ZD,ZE,ZF,Option.isSome_some,Option.getD_some,s5.own.cells.ld,oC5.cells.ld];refine XX_of (wOld_ok s5.ws c2) (fun res h6 hle6 hn=>?_);obtain ⟨k6,rfl⟩:=hn;refine .ret ?_;have oD:=Own.new h6 44 h6.length [iv 0,iv 0];have k7:Keep (fun _=>False) h6 (h6++[row 44 h6.length [iv 0,iv 0]]):=Keep.push _ _ _;simp only[ZG,↓reduceIte,ZA,ZB,ZC,gw_eq,mbl,ZD,ZE,ZF];refine XH_own oD rfl (by simp [Value.cells]) rfl (fun h7 q1 q2 q3=>?_);have oD7:Own h7 h6.length 44 [iv (gx S.old c2).1,iv (gx S.old c2).2]:=by simpa [Value.cells] using q1
 have k57:Keep (fun _=>False) h5 h7:=(k6.trans k7).trans' q2 (fun c hc e=>by omega);have k07:=k05.trans k57;have oC7:=oC5.keep k57 (fun e=>e);have oR7:=oR5.keep k57 (fun e=>e);have s7:=s.keepF k07
 by_cases d13:(gx S.old c2).1=13
 ·rw[if_pos d13] at i1
  cases i1;simp only[ZG,↓reduceIte,ZA,ZB,ZC,oD7.cells.ld,mbl,ZD,ZE,ZF,d13];refine XH_own oR7 rfl (by simp [Value.cells]) rfl (fun h8 t1 t2 t3=>?_);have oR8:Own h8 h1.length 44 [iv 4,iv (gx S.old c2).2]:=by simpa [Value.cells] using t1
  simp only[ZG,↓reduceIte,ZA,ZB,ZC];refine out .ret _ _ _ _ (by intro e;cases e) ?_;simp only[ZG,↓reduceIte,ZA,ZB,ZC];have kF:Keep (fun _=>False) h h8:=k07.trans' t2 (fun c hc e=>by omega);exact hΨ _ _ (fin_ret (rvw rfl oR8 rfl ⟨kF.mono (fun _ e=>e.elim),rfl,L,s.keepF kF,Same.refl _ _⟩))
 rw[if_neg d13] at i1;have hw1:IntKind.i64.wrap (c2+1)=c2+1:=i64w (by omega) (by omega)
 by_cases d12:(gx S.old c2).1=12
 ·rw[if_pos d12] at i1
  simp only[ZG,↓reduceIte,ZA,ZB,ZC,oD7.cells.ld,mbl,ZD,ZE,ZF,d13,d12,s7.own.cells.ld,oC7.cells.ld,hw1];refine XX_of (wOld_ok s7.ws (c2+1)) (fun res h8 hle8 hn=>?_);obtain ⟨k8,rfl⟩:=hn;refine .ret ?_;have oC8:=oC7.keep k8 (fun e=>e);simp only[ZG,↓reduceIte,ZA,ZB,ZC,gw_eq,mbl,ZD,ZE,ZF];refine XH_own oC8 rfl (by simp [Value.cells]) rfl (fun h9 t1 t2 t3=>?_);simp only[ZG,↓reduceIte,ZA,ZB,ZC];exact next (m,gx S.old (c2+1)) _ _ _ ⟨i1,(kp.trans ((k5.trans (k57.trans k8)).mono (fun _ e=>e.elim))).trans t2,by simpa [Value.cells] using t1⟩ ⟨rfl,rfl,rfl,rfl,trivial⟩ (by simp)
 rw[if_neg d12] at i1;have hms:=mslw h7.length (n:=nb) (by omega) (by omega);have oL:=Own.new h7 44 h7.length (ww (fill nb.toNat (fun _=>(0,0)) 0));have k8:Keep (fun _=>False) h7 (h7++[row 44 h7.length (ww (fill nb.toNat (fun _=>(0,0)) 0))]):=Keep.push _ _ _;rw[fill_g _ _ (fun i:Nat=>gx S.old (c2+(i:Int)))] at hms oL k8;simp only[ZG,↓reduceIte,ZA,ZB,ZC,oD7.cells.ld,mbl,ZD,ZE,ZF,d13,d12,hms];generalize h7++[row 44 h7.length (ww (fill nb.toNat (fun i:Nat=>gx S.old (c2+(i:Int))) 0))]=h8 at oL k8 ⊢;have how:S.owords (c1,c2)=fill nb.toNat (fun i:Nat=>gx S.old (c2+(i:Int))) nb.toNat:=by rw[fill_end,HS.owords,hg];rfl
 rw[how,fill_len] at i1;have k08:=k07.trans k8;have oC8:=oC7.keep k8 (fun e=>e);have oR8:=oR7.keep k8 (fun e=>e);have hh7:h.length+2<=h7.length:=by have:=(k5.trans k57).len;omega
 generalize hN:nb.toNat=N at *;generalize hG:(fun i:Nat=>gx S.old (c2+(i:Int)))=g at *;have hgi:∀ i:Nat,gx S.old (c2+(i:Int))=g i:=fun i=>by rw[<- hG]
 refine XLo_rule (α:=Nat) (fun i=>[(0,.pointer (some ⟨b,0,none⟩)),(3,.pointer (some ⟨h.length,0,none⟩)),(4,.pointer (some ⟨h1.length,0,none⟩)),(5,iv 0),(10,.slice (some ⟨h7.length,0,none⟩) N N),(72,iv N),(73,iv i)])
  (fun i h'=>i<=N/\Keep (fun q=>q=h7.length) h8 h'/\Own h' h7.length 44 (ww (fill N g i))) (fun i=>N-i) 0 ⟨Zb _,.refl _ _,oL⟩ ⟨rfl,rfl,rfl,rfl,rfl,rfl,rfl,trivial⟩ ?_
 rintro i h9 Ψ3 ⟨j1,kq,oL9⟩ next3 out3;have k09:Keep (fun _=>False) h h9:=k08.trans' kq (fun c hc e=>by omega);have oC9:=oC8.keep kq (fun e=>by omega);have oR9:=oR8.keep kq (fun e=>by omega);have s9:=s.keepF k09
 by_cases hi:(i:Int)<(N:Int)
 ·have h0:0<=(i:Int):=by omega
  have hw2:IntKind.i64.wrap ((i:Int)+1)=i+1:=i64w (by omega) (by omega);have hw3:IntKind.i64.wrap (c2+(i:Int))=c2+i:=i64w (by omega) (by omega);simp only[ZG,↓reduceIte,ZA,ZB,ZC,hi,s9.own.cells.ld,oC9.cells.ld,mbl,ZD,ZE,ZF,hw3];refine XX_of (wOld_ok s9.ws (c2+(i:Int))) (fun res ha hlea hn=>?_);obtain ⟨ka,rfl⟩:=hn;refine .ret ?_;have oLa:=oL9.keep ka (fun e=>e);simp only[ZG,↓reduceIte,ZA,ZB,ZC,gw_eq,mbl,ZD,ZE,ZF,h0,hi,and_self,Z1,Ze];refine XH_own oLa rfl (by simp [Value.cells,ww_len,fill_len];omega) rfl (fun hb t1 t2 t3=>?_);simp only[ZG,↓reduceIte,ZA,ZB,ZC,hw2];refine next3 (i+1) _ _ _ ⟨by omega,(kq.trans (ka.mono (fun _ e=>e.elim))).trans t2,?_⟩ ⟨rfl,rfl,rfl,rfl,rfl,rfl,?_,trivial⟩ (by omega)
  ·have e:=wset (xs:=fill N g i) (x:=g i) (i:=i) (by rw[fill_len];omega)
   rw[fill_set] at e;rw[e,<- hgi]
   simpa [Value.cells,wc,ns] using t1
  ·simp only[Z8,Z6];rfl
 have hie:i=N:=by omega
 subst hie;simp only[ZG,↓reduceIte,ZA,ZB,ZC,hi];refine out3 (.exit 3) _ _ _ _ (by intro e;cases e) ?_;have rL:Rds h9 2 (.slice (some ⟨h7.length,0,none⟩) i i) (fill i g i).length (ww (fill i g i)):=by
  rw[fill_len];exact .mk oL9.cells (by rw[ww_len,fill_len];omega) (by rw[List.drop_zero,Z3 (by rw[ww_len,fill_len];omega)])
 simp only[ZG,↓reduceIte,ZA,ZB,ZC];refine XX_of (lay_all s9 hfr rL) (fun res ha hlea hn=>?_);obtain ⟨ka,w',e',S',L',rfl,sa,sm,hres⟩:=hn;refine .ret ?_;have hh9:h.length+2<=h9.length:=by have:=(k5.trans (k57.trans (k8.trans' kq (fun c hc e=>by omega)))).len;omega
 have zC:¬ Mine L h.length:=by have:=s.c0 h.length (Z2 _);simp [Mine,this]
 have zR:¬ Mine L h1.length:=by have:=s.c0 h1.length (by omega);simp [Mine,this]
 have oCa:=oC9.keep ka zC;have oRa:=oR9.keep ka zR;have oT:=Own.new ha 44 ha.length [iv 0,iv 0];have kb:Keep (fun _=>False) ha (ha++[row 44 ha.length [iv 0,iv 0]]):=Keep.push _ _ _;simp only[ZG,↓reduceIte,ZA,ZB,ZC,wv,mbl,ZD,ZE,ZF];refine XH_own oT rfl (by simp [Value.cells]) rfl (fun hb q1b q2b q3b=>?_);have oTb:Own hb ha.length 44 [iv w'.1,iv w'.2]:=by simpa [Value.cells] using q1b
 have kab:Keep (fun _=>False) ha hb:=kb.trans' q2b (fun c hc e=>by omega);have oCb:=oCa.keep kab (fun e=>e);have oRb:=oRa.keep kab (fun e=>e);have sb:=sa.keepF kab;have k0b:Keep (Mine L) h hb:=((k09.mono (fun _ e=>e.elim)).trans ka).trans (kab.mono (fun _ e=>e.elim));rw[fill_len] at hres
 by_cases hroom:S.size-(S.now.length:Int)<(i:Int)
 ·rw[if_pos hroom] at i1 hres
  cases i1;cases hres;simp only[ZG,↓reduceIte,ZA,ZB,ZC,mbl,ZD,ZE,ZF,oTb.cells.lds 0 2 (by simp)];refine XH_own oRb rfl (by simp [Value.cells]) rfl (fun hc t1 t2 t3=>?_);have oRc:Own hc h1.length 44 [iv 0,iv 0]:=by simpa [Value.cells] using t1
  simp only[ZG,↓reduceIte,ZA,ZB,ZC];refine out .ret _ _ _ _ (by intro e;cases e) ?_;simp only[ZG,↓reduceIte,ZA,ZB,ZC];have z':L'.cls h1.length=0:=(sm _ (by omega)).2 (s.c0 _ (by omega));exact hΨ _ _ (fin_ret (rvw rfl oRc rfl ⟨k0b.trans' t2 (fun c hc e=>by omega),rfl,L',sb.keep t2 (fun q hq e=>hq (by rw[e];exact z')),fun q hq=>sm q (by omega)⟩))
 ·rw[if_neg hroom] at i1 hres
  cases i1;cases hres;simp only[ZG,↓reduceIte,ZA,ZB,ZC,mbl,ZD,ZE,ZF,oTb.cells.lds 0 2 (by simp),oTb.cells.ld,sb.own.cells.ld,oCb.cells.ld];refine XX_of (setold_ok sb c2 (13,(S.now.length:Int)) (by show 0<=c2/\c2<(S.old.length:Int);omega)) (fun res hc hlec hn=>?_);obtain ⟨kc,rfl,sc⟩:=hn;refine .ret ?_;have z':∀ q,h.length<=q->q<h9.length->L'.cls q=0:=fun q a c=>(sm _ c).2 (s.c0 _ a)
  have zt:L'.cls ha.length=0:=sa.c0 _ (Z2 _);have oTc:=oTb.keep kc (by simp [Mine,zt]);have oRc:=oRb.keep kc (by have:=z' h1.length (by omega) (by omega);simp [Mine,this]);simp only[ZG,↓reduceIte,ZA,ZB,ZC,mbl,ZD,ZE,ZF,oTc.cells.lds 0 2 (by simp)];refine XH_own oRc rfl (by simp [Value.cells]) rfl (fun hd t1 t2 t3=>?_);have oRd:Own hd h1.length 44 [iv 4,iv S.now.length]:=by simpa [Value.cells] using t1
  simp only[ZG,↓reduceIte,ZA,ZB,ZC];refine out .ret _ _ _ _ (by intro e;cases e) ?_;simp only[ZG,↓reduceIte,ZA,ZB,ZC];refine hΨ _ _ (fin_ret (rvw rfl oRd rfl ⟨?_,rfl,L',?_,fun q hq=>sm q (by omega)⟩))
  ·refine (k0b.trans' kc (fun c hc e=>?_)).trans' t2 (fun c hc e=>by omega)
   intro e0;exact e ((sm _ (by omega)).2 e0)
  ·exact sc.keep t2 (fun q hq e=>hq (by rw[e];exact z' _ (by omega) (by omega)))
end
end Go.S19

namespace Go.S19
open Go Go.Eng Go.Proofs Go.Chk
theorem blocks_on {C:Cx} {F:Nat}:∀ (l:List Inf) {p:Nat} {e:List Nat} {r:Nat},p<=C.code.length->blocks C F l p=some (e,r)->p+l.length<=r/\r<=C.code.length /\ ∀ i∈l,0<=i.f:=by
 intro l
 induction l with
 | nil=>intro p e r hp h;simp only[blocks,Z4.injEq,Prod.mk.injEq] at h;obtain ⟨_,rfl⟩:=h;simp;exact hp
 | cons i l ih =>
   intro p e r hp h;simp only[blocks] at h
   split at h
   case isFalse=>cases h
   rename_i hi
   split at h
   case h_2=>cases h
   rename_i q hq
   split at h
   case h_2=>cases h
   rename_i e' r' hb
   simp only[Z4.injEq,Prod.mk.injEq] at h;obtain ⟨_,rfl⟩:=h;obtain ⟨a1,a2⟩:=expr_on (C:=C) F i.a p q hq;obtain ⟨b1,b2,b3⟩:=ih a2 hb;refine ⟨by simp;omega,b2,fun j hj=>?_⟩
   rcases List.mem_cons.1 hj with rfl|hj
   ·exact hi.2.1
   ·exact b3 j hj
theorem ends_some {C:Cx} (h:(ends C).isSome=true):headOk C/\consOk C/\topsOk C/\C.infos.length<=200000 /\ ∀ i∈C.infos,0<=i.f:=by
 unfold ends at h
 split at h
 case isFalse=>cases h
 rename_i hc
 split at h
 case h_2=>cases h
 rename_i e r hb
 obtain ⟨b1,b2,b3⟩:=blocks_on _ (Zb _) hb;have:=hc.1.2.2.2;exact ⟨hc.1,hc.2.1,hc.2.2,by omega,b3⟩
theorem wat_app {a c:List (Int × Int)} {i:Int} (h:i.toNat<a.length):wat (a++c) i=wat a i:=by
 rw[wat,wat,List.getElem?_append_left h]
theorem mget_laid {S:HS} {ys:List (Int × Int)} (k:Int):mget k (S.laid ys).begins=match mget k S.begins with
 | some v=>some v
 | none=>if (S.now.length:Int)=k then some (ys.length:Int) else none:=by
 show mget k (S.begins++[((S.now.length:Int),(ys.length:Int))])=_
 rw[mget_app];rfl
theorem HS.Ok.laid {S:HS} (o:S.Ok) {ys:List (Int × Int)} (h0:1<=ys.length) (h6:(wat ys 0).1=6->0<=(wat ys 0).2/\(wat ys 0).2<S.infos.length/\0<=S.fr (wat ys 0).2/\S.fr (wat ys 0).2<ys.length):(S.laid ys).Ok:=by
 have e:∀ k n,mget k (S.laid ys).begins=some n->(mget k S.begins=some n)\/(k=S.now.length/\n=ys.length):=by
  intro k n h;rw[mget_laid] at h
  split at h
  ·left;rename_i v hv;rw[hv];exact h
  ·split at h
   ·rename_i c;right;exact ⟨c.symm,by cases h;rfl⟩
   ·cases h
 refine ⟨fun k n h=>?_,fun k n h=>?_⟩
 ·rcases e k n h with h|⟨h1,h2⟩
  ·have:=o.bw k n h
   simp [HS.laid];omega
  ·simp [HS.laid];omega
 ·rcases e k n h with h|⟨h1,h2⟩
  ·have hb:=o.bw k n h
   have:wat (S.laid ys).now k=wat S.now k:=wat_app (by omega);rw[this];exact o.hi k n h
  ·subst h1;subst h2
   have:wat (S.laid ys).now S.now.length=wat ys 0:=by
    show wat (S.now++ys) S.now.length=_
    rw[wat,wat,Z1,List.getElem?_append_right (Z2 _),Nat.sub_self];rfl
   rw[this];exact h6
theorem HS.Ok.put {S:HS} (o:S.Ok) (hd:Int × Int) (ys:List (Int × Int)) (hf:∀ i∈S.infos,0<=i.f):(S.put hd ys).2.2.Ok:=by
 unfold HS.put
 split
 case isFalse=>exact o
 split
 ·exact o
 rename_i c _
 have hw:wat (S.all hd ys) 0=hd:=by unfold HS.all;split<;>rfl
 have hl:ys.length+1<=(S.all hd ys).length:=by unfold HS.all;split<;>simp
 refine o.laid (by omega) ?_;rw[hw];intro h6;obtain ⟨c1,c2⟩:=c
 rcases c1 with c1|c1|c1|c1|c1
 ·refine ⟨by omega,by omega,by omega,by omega⟩
 all_goals omega
def HS.gl (S:HS) (k:Nat):Option HS :=
 if S.ik k=2 then (if (S.put (6,(k:Int)) []).2.1=0 then some { (S.put (6,(k:Int)) []).2.2 with globals:=S.globals++[(S.put (6,(k:Int)) []).1] } else none) else some { S with globals:=S.globals++[(3,(k:Int))] }
def HS.gls (S:HS):Nat->Option HS
 | 0=>some S
 | n+1=>(S.gls n).bind fun S=>S.gl n
def HS.start (C:Cx) (texts:List ByteArray) (words:Int):HS:={ infos:=C.infos,texts:=texts,cons:=C.cons,now:=[],old:=[],begins:=[],oldm:=[],globals:=[],size:=words,side:=0 }
theorem put_img (S:HS) (hd:Int × Int) (ys:List (Int × Int)):(S.put hd ys).2.2.infos=S.infos/\(S.put hd ys).2.2.texts=S.texts/\(S.put hd ys).2.2.cons=S.cons/\(S.put hd ys).2.2.size=S.size/\(S.put hd ys).2.2.globals=S.globals/\(S.put hd ys).2.2.oldm=S.oldm/\(S.put hd ys).2.2.old=S.old:=by
 unfold HS.put
 split
 ·split<;>exact ⟨rfl,rfl,rfl,rfl,rfl,rfl,rfl⟩
 ·exact ⟨rfl,rfl,rfl,rfl,rfl,rfl,rfl⟩
theorem gl_img {S S':HS} {k:Nat} (h:S.gl k=some S'):S'.infos=S.infos/\S'.texts=S.texts/\S'.cons=S.cons/\S'.size=S.size/\S'.globals.length=S.globals.length+1/\S'.oldm=S.oldm/\S'.old=S.old:=by
 unfold HS.gl at h;obtain ⟨a,b,c,d,e,f,g⟩:=put_img S (6,(k:Int)) []
 split at h
 ·split at h
  ·cases h;exact ⟨a,b,c,d,by simp,f,g⟩
  ·cases h
 ·cases h;exact ⟨rfl,rfl,rfl,rfl,by simp,rfl,rfl⟩
theorem gls_img {S:HS}:∀ {n:Nat} {S':HS},S.gls n=some S'->S'.infos=S.infos/\S'.texts=S.texts/\S'.cons=S.cons/\S'.size=S.size/\S'.globals.length=S.globals.length+n/\S'.oldm=S.oldm/\S'.old=S.old:=by
 intro n
 induction n with
 | zero=>intro S' h;cases h;exact ⟨rfl,rfl,rfl,rfl,rfl,rfl,rfl⟩
 | succ n ih =>
   intro S' h;rw[HS.gls] at h;obtain ⟨T,h1,h2⟩:=Option.bind_eq_some_iff.1 h;obtain ⟨a,b,c,d,e,f,g⟩:=ih h1;obtain ⟨a',b',c',d',e',f',g'⟩:=gl_img h2;exact ⟨a'.trans a,b'.trans b,c'.trans c,d'.trans d,by omega,f'.trans f,g'.trans g⟩
theorem HS.Ok.start (C:Cx) (texts:List ByteArray) (words:Int):(HS.start C texts words).Ok:=by
 refine ⟨?_,?_⟩
 ·intro k n h;cases h
 ·intro k n h;cases h
end Go.S19
