import Derived.Test.YtdlanbdiphpacaaDoorPk21
import Derived.Test.YtdlanbdiphpacaaDoorPk14
set_option linter.unusedVariables false
set_option linter.unusedSimpArgs false
open Nat renaming reduceEqDiff -> ZA,reduceAdd -> ZB,reduceMul -> ZC,reduceLeDiff -> ZD,reduceLT -> ZE
open Int renaming reduceEq -> ZF
open List renaming length_set->Z0,prefix_refl->Z3,getElem?_eq_some_iff->Z4,mem_singleton->Z7
open Int renaming add_zero->Z1
open Option renaming isSome_iff_exists->Z2,getD_some->Z5
open Nat renaming le_refl->Z6
namespace Go.S19
open Go Go.Eng Go.Proofs Go.Chk
theorem tm_same {S:HS} (v:Inv S) {p n i:Int} {x:Int × Int} (hm:(p,n)∈S.begins) (hi:p<=i/\i<p+n) (hd:(gx (S.now.set i.toNat x) p).1=12 ↔ (gx S.now p).1=12) (ht:(gx S.now p).1=12->gx (S.now.set i.toNat x) (p+1)=gx S.now (p+1)) :
 ∀ w,S.sound w -> ∃ m y,(S.setw i x).fol m w=some y:=by
 intro w hw;obtain ⟨m,y,h⟩:=v.tm w hw;refine ⟨m,y,fol_congr (S:=S) (S':=S.setw i x) (fun w' hl=>?_) hw h⟩;obtain ⟨n',hn',hm'⟩:=lies_mem hl
 by_cases e:(w'.2,n')=(p,n)
 ·have e2:w'.2=p:=congrArg Prod.fst e
  rw[e2];exact ⟨hd,fun h12=>⟨ht h12,by have:=v.chain hl (by rw[e2];exact h12);rw[e2] at this;exact this⟩⟩
 ·have ho:=set_other v hm hi x _ hm' e
  have ty:=tiles_in v.tn hm';have e0:=ho 0 (by omega) (by omega);simp only[Z1] at e0;refine ⟨by show (gx (S.now.set i.toNat x) w'.2).1=12 ↔ _;rw[e0],fun h12=>⟨?_,v.chain hl h12⟩⟩;have:=(v.kn _ hm').k12 h12;exact ho 1 (by omega) (by omega)
theorem lies4 {S:HS} {w:Int × Int} (h:S.lies w):w=(4,w.2):=Prod.ext h.1 rfl
theorem count_fcn {S:HS} {w:Int × Int} {n:Int} (hn:mget w.2 S.begins=some n) (h12:(gx S.now w.2).1≠12):S.count w (S.hd w)=S.fcn (gx S.now w.2) n:=by
 unfold HS.count HS.fcn HS.hd;rw[if_neg h12,hn];rfl
theorem sete_cases {S:HS} (v:Inv S) (w:Int × Int) (k:Int) (x:Int × Int) :
 (∃ e,S.sete w k x=(e,S)/\((e=1 /\ ¬ (S.lies w/\S.sound x))\/(e=2/\S.lies w/\S.sound x/\(k<0\/(gx S.now w.2).1=9\/(gx S.now w.2).1=12 \/ ∃ n,mget w.2 S.begins=some n/\S.fcn (gx S.now w.2) n<=k)))) \/
 (∃ n,S.lies w/\S.sound x/\mget w.2 S.begins=some n/\(w.2,n)∈S.begins/\0<=k/\(gx S.now w.2).1≠9/\(gx S.now w.2).1≠12/\k<S.fcn (gx S.now w.2) n/\w.2+1+k<w.2+n/\0<=w.2/\w.2+n<=S.now.length/\S.sete w k x=(0,S.setw (w.2+1+k) x)):=by
 by_cases hc:S.lies w/\S.sound x
 case neg=>exact .inl ⟨1,by rw[HS.sete,if_neg hc],.inl ⟨rfl,hc⟩⟩
 obtain ⟨n,hn,hm⟩:=lies_mem hc.1;have t:=tiles_in v.tn hm;have kd:=v.kn _ hm;simp only at t kd;have fc:=kd.fc t.2.1
 by_cases h12:(gx S.now w.2).1=12
 ·exact .inl ⟨2,by rw[HS.sete,if_pos hc,if_pos (.inr (.inr (.inl h12)))],.inr ⟨rfl,hc.1,hc.2,.inr (.inr (.inl h12))⟩⟩
 have hcnt:=count_fcn hn h12
 by_cases hr:k<0\/(S.hd w).1=9\/(S.hd w).1=12\/S.count w (S.hd w)<=k
 ·refine .inl ⟨2,by rw[HS.sete,if_pos hc,if_pos hr],.inr ⟨rfl,hc.1,hc.2,?_⟩⟩
  rcases hr with h|h|h|h
  ·exact .inl h
  ·exact .inr (.inl h)
  ·exact .inr (.inr (.inl h))
  ·exact .inr (.inr (.inr ⟨n,hn,by rw[<- hcnt];exact h⟩))
 ·have hr':=hr
  rw[hcnt] at hr;have e9:(gx S.now w.2).1≠9:=fun e=>hr (.inr (.inl e))
  refine .inr ⟨n,hc.1,hc.2,hn,hm,by omega,e9,h12,by omega,by omega,t.1,t.2.2,?_⟩;rw[HS.sete,if_pos hc,if_neg hr',HS.setp,if_pos (by omega)]
theorem Inv.sete {S:HS} (v:Inv S) (w:Int × Int) (k:Int) (x:Int × Int):Inv (S.sete w k x).2:=by
 rcases sete_cases v w k x with ⟨e,h,_⟩|⟨n,hl,hx,hn,hm,h0,h9,h12,hk,hi,g0,g1,h⟩
 ·rw[h];exact v
 rw[h];have kd:Kd S S.now w.2 n:=v.kn _ hm;have e0:gx (S.now.set (w.2+1+k).toNat x) w.2=gx S.now w.2:=by rw[gx_set (by omega),if_neg (by omega)]
 have fcn6:(gx S.now w.2).1=6->S.fcn (gx S.now w.2) n=S.fr (gx S.now w.2).2:=fun e=>by unfold HS.fcn;rw[if_neg h12,if_pos e]
 have fcn10:(gx S.now w.2).1=10->S.fcn (gx S.now w.2) n=0:=fun e=>by unfold HS.fcn;rw[if_neg h12,if_neg (by omega),if_pos e]
 refine v.setw hm (by omega) ⟨by rw[e0];exact kd.k,by rw[e0];exact kd.k6,?_,by rw[e0];exact kd.k9,?_,by rw[e0];exact kd.k11,by rw[e0];exact kd.k12⟩ (fun e=>absurd (by rw[<- e0];exact e) h12) (tm_same v hm (by omega) (by rw[e0]) (fun e=>absurd e h12))
 ·rw[e0];intro a b
  rcases kd.t6 a b with c|⟨c,d,_⟩
  ·exact .inl c
  ·have:=fcn6 a;omega
 ·rw[e0];intro a
  have:=fcn10 a;omega
def holeC (S:HS) (w:Int × Int):Prop:=S.lies w/\((gx S.now w.2).1=9\/(gx S.now w.2).1=10\/((gx S.now w.2).1=6/\S.ik (gx S.now w.2).2=2))
theorem hole_cases {S:HS} (v:Inv S) (w:Int × Int) :
 (S.hole w=(1,S) /\ ¬ holeC S w)\/(∃ n,holeC S w/\mget w.2 S.begins=some n/\(w.2,n)∈S.begins/\2<=n/\0<=w.2/\w.2+n<=S.now.length/\S.hole w=(0,S.setw w.2 (11,n))):=by
 by_cases hc:holeC S w
 case neg=>exact .inl ⟨by rw[HS.hole];exact if_neg hc,hc⟩
 obtain ⟨n,hn,hm⟩:=lies_mem hc.1;have t:=tiles_in v.tn hm;have kd:=v.kn _ hm;simp only at t kd;refine .inr ⟨n,hc,hn,hm,?_,t.1,t.2.2,?_⟩
 ·rcases hc.2 with e|e|⟨e,e2⟩
  ·have:=kd.k9 e;omega
  ·have:=kd.k10 e;omega
  ·rcases kd.t6 e e2 with c|c<;>omega
 ·rw[HS.hole]
  refine (if_pos hc).trans ?_;rw[hn,Z5,HS.setp,if_pos (by omega)]
theorem Inv.hole {S:HS} (v:Inv S) (w:Int × Int):Inv (S.hole w).2:=by
 rcases hole_cases v w with ⟨h,_⟩|⟨n,hc,hn,hm,h2,g0,g1,h⟩
 ·rw[h];exact v
 rw[h];have e0:gx (S.now.set w.2.toNat (11,n)) w.2=(11,n):=by rw[gx_set (by omega),if_pos rfl]
 have h12:(gx S.now w.2).1≠12:=by rcases hc.2 with e|e|⟨e,_⟩<;>omega
 refine v.setw hm (by omega) ⟨by rw[e0];simp,?_,?_,?_,?_,?_,?_⟩ (fun e=>by rw[e0] at e;cases e) (tm_same v hm (by omega) (by rw[e0];exact ⟨fun e=>(by cases e),fun e=>absurd e h12⟩) (fun e=>absurd e h12))
 all_goals (rw[e0];intro e)
 ·cases e
 ·cases e
 ·cases e
 ·cases e
 ·exact ⟨rfl,h2⟩
 ·cases e
def becC (S:HS) (w x y:Int × Int):Prop:=S.lies w/\(gx S.now w.2).1=11/\S.sound x/\y≠w
def HS.bec (S:HS) (w x:Int × Int):HS:=(S.setw w.2 (12,0)).setw (w.2+1) x
theorem become_cases {S:HS} (v:Inv S) (w x y:Int × Int) :
 (S.become w x y=(1,S) /\ ¬ becC S w x y)\/(∃ n,becC S w x y/\mget w.2 S.begins=some n/\(w.2,n)∈S.begins/\2<=n/\0<=w.2/\w.2+n<=S.now.length/\S.become w x y=(0,S.bec w x)):=by
 by_cases hc:becC S w x y
 case neg=>exact .inl ⟨by rw[HS.become];exact if_neg hc,hc⟩
 obtain ⟨n,hn,hm⟩:=lies_mem hc.1;have t:=tiles_in v.tn hm;have kd:=(v.kn _ hm).k11 hc.2.1;simp only at t kd;refine .inr ⟨n,hc,hn,hm,kd.2,t.1,t.2.2,?_⟩;have e1:S.setp w.2 (12,0)=(0,S.setw w.2 (12,0)):=by rw[HS.setp,if_pos (by omega)]
 rw[HS.become];refine (if_pos hc).trans ?_;rw[e1];have e2:(0:Int)<=w.2+1/\w.2+1<(S.setw w.2 (12,0)).now.length:=by
  show _/\_<((S.now.set w.2.toNat (12,0)).length:Int)
  rw[Z0];omega
 show (S.setw w.2 (12,0)).setp (w.2+1) x=_
 rw[HS.setp,if_pos e2];rfl
theorem bec_at {S:HS} {w x:Int × Int} {n:Int} (h2:2<=n) (g0:0<=w.2) (g1:w.2+n<=S.now.length):gx (S.bec w x).now w.2=(12,0)/\gx (S.bec w x).now (w.2+1)=x /\ ∀ j,j≠w.2->j≠w.2+1->gx (S.bec w x).now j=gx S.now j:=by
 have hl:w.2+1<(S.now.set w.2.toNat ((12,0):Int × Int)).length:=by rw[Z0];omega
 have e:∀ j,gx (S.bec w x).now j=if j=w.2+1 then x else if j=w.2 then (12,0) else gx S.now j:=fun j=>by
  show gx ((S.now.set w.2.toNat (12,0)).set (w.2+1).toNat x) j=_
  rw[gx_set ⟨by omega,hl⟩,gx_set (by omega)]
 refine ⟨by rw[e,if_neg (by omega),if_pos rfl],by rw[e,if_pos rfl],fun j h1 h3=>by rw[e,if_neg h3,if_neg h1]⟩
theorem bec_other {S:HS} (v:Inv S) {w x:Int × Int} {n:Int} (hm:(w.2,n)∈S.begins) (h2:2<=n):∀ y∈S.begins,y≠(w.2,n) -> ∀ j,0<=j->j<y.2->gx (S.bec w x).now (y.1+j)=gx S.now (y.1+j):=by
 intro y hy hne j h0 hj;have t:=tiles_in v.tn hm;have ty:=tiles_in v.tn hy;simp only at t;refine (bec_at h2 t.1 t.2.2).2.2 _ ?_ ?_
 all_goals
  rcases tiles_apart v.tn hm hy with e|e|e
  ·exact absurd e.symm hne
  ·simp only at e;omega
  ·simp only at e;omega
theorem bec_tm {S:HS} (v:Inv S) {w x y:Int × Int} {n mx:Nat} {k:Int} (hc:becC S w x y) (hy:S.fol mx x=some y) (hm:(w.2,k)∈S.begins) (h2:2<=k):∀ z,S.sound z -> ∃ m u,(S.bec w x).fol m z=some u:=by
 have t:=tiles_in v.tn hm;simp only at t;obtain ⟨b0,b1,_⟩:=bec_at (x:=x) h2 t.1 t.2.2;have away:∀ (m:Nat) (z u:Int × Int),S.sound z->S.fol m z=some u->u≠w->(S.bec w x).fol m z=some u:=by
  intro m
  induction m with
  | zero=>intro z u _ h;cases h
  | succ m ih =>
    intro z u hs h hu;rw[HS.fol] at h ⊢
    split at h
    ·rename_i h4
     rw[if_pos h4];have hl:S.lies z:=by
      rcases hs with hp|hl
      ·unfold HS.plain at hp;omega
      ·exact hl
     obtain ⟨n',hn',hm'⟩:=lies_mem hl
     by_cases e:(z.2,n')=(w.2,k)
     ·exfalso
      have e2:z.2=w.2:=congrArg Prod.fst e;rw[e2,if_neg (by rw[hc.2.1];decide)] at h;cases h;exact hu (by rw[lies4 hl,lies4 hc.1,e2])
     ·have ho:=bec_other (x:=x) v hm h2 _ hm' e
      have ty:=tiles_in v.tn hm';have e0:=ho 0 (by omega) (by omega);simp only[Z1] at e0;rw[e0]
      split at h
      ·rename_i h12
       have:=(v.kn _ hm').k12 h12;have e1:=ho 1 (by omega) (by omega);rw[if_pos h12,e1];exact ih _ u (v.chain hl h12) h hu
      ·rename_i h12;rw[if_neg h12];exact h
    ·rename_i h4;rw[if_neg h4];exact h
 have hx:=away mx x y hc.2.2.1 hy hc.2.2.2;have all:∀ (m:Nat) (z u:Int × Int),S.sound z->S.fol m z=some u -> ∃ m' u',(S.bec w x).fol m' z=some u':=by
  intro m
  induction m with
  | zero=>intro z u _ h;cases h
  | succ m ih =>
    intro z u hs h;rw[HS.fol] at h
    split at h
    ·rename_i h4
     have hl:S.lies z:=by
      rcases hs with hp|hl
      ·unfold HS.plain at hp;omega
      ·exact hl
     obtain ⟨n',hn',hm'⟩:=lies_mem hl
     by_cases e:(z.2,n')=(w.2,k)
     ·have e2:z.2=w.2:=congrArg Prod.fst e
      refine ⟨mx+1,y,?_⟩;rw[HS.fol,if_pos h4,e2,b0,if_pos rfl,b1];exact hx
     ·have ho:=bec_other (x:=x) v hm h2 _ hm' e
      have ty:=tiles_in v.tn hm';have e0:=ho 0 (by omega) (by omega);simp only[Z1] at e0
      split at h
      ·rename_i h12
       have:=(v.kn _ hm').k12 h12;have e1:=ho 1 (by omega) (by omega);obtain ⟨m',u',h'⟩:=ih _ u (v.chain hl h12) h;refine ⟨m'+1,u',?_⟩;rw[HS.fol,if_pos h4,e0,if_pos h12,e1];exact h'
      ·rename_i h12
       refine ⟨1,z,?_⟩;rw[HS.fol,if_pos h4,e0,if_neg h12]
    ·rename_i h4
     refine ⟨1,z,?_⟩;rw[HS.fol,if_neg h4]
 intro z hz;obtain ⟨m,u,h⟩:=v.tm z hz;exact all m z u hz h
theorem Inv.bec {S:HS} (v:Inv S) {w x y:Int × Int} {mx:Nat} {k:Int} (hc:becC S w x y) (hy:S.fol mx x=some y) (hm:(w.2,k)∈S.begins) (h2:2<=k):Inv (S.bec w x):=by
 have t:=tiles_in v.tn hm;simp only at t;obtain ⟨b0,b1,_⟩:=bec_at (x:=x) h2 t.1 t.2.2;have hlen:(S.bec w x).now.length=S.now.length:=by
  show ((S.now.set w.2.toNat (12,0)).set (w.2+1).toNat x).length=_
  rw[Z0,Z0]
 have ho:=bec_other (x:=x) v hm h2;refine ⟨v.inf,v.sz,by rw[hlen];exact v.ln,v.lo,by rw[hlen];exact v.tn,v.to,fun z hz=>?_,fun z hz=>(v.ko z hz).imp id (fun k=>k.congr rfl rfl (fun _=>rfl)),fun z hz h12=>?_,bec_tm (n:=0) v hc hy hm h2,fun z=>?_⟩
 ·by_cases e:z=(w.2,k)
  ·subst e
   refine ⟨by rw[b0];simp,?_,?_,?_,?_,?_,?_⟩
   all_goals (rw[b0];intro e)
   ·cases e
   ·cases e
   ·cases e
   ·cases e
   ·cases e
   ·exact h2
  ·have tz:=tiles_in v.tn hz
   refine (v.kn z hz).congr (S':=S.bec w x) rfl ?_ (fun h2=>ho z hz e 1 (by omega) (by omega));have:=ho z hz e 0 (by omega) (by omega)
   simpa using this
 ·by_cases e:z=(w.2,k)
  ·subst e;rw[b1];exact hc.2.2.1
  ·have tz:=tiles_in v.tn hz
   have e0:=ho z hz e 0 (by omega) (by omega);simp only[Z1] at e0;have h12':(gx S.now z.1).1=12:=by rw[<- e0];exact h12
   have:=(v.kn z hz).k12 h12';rw[ho z hz e 1 (by omega) (by omega)];exact v.is z hz h12'
 ·obtain ⟨m,r,h⟩:=v.tq z
  obtain ⟨r',h'⟩:=mov_some (S:=S) (S':=S.bec w x) rfl rfl rfl rfl ⟨r,h⟩;exact ⟨m,r',h'⟩
theorem Inv.flip {S:HS} (v:Inv S):Inv S.flip:=by
 have nol:∀ w,¬ S.flip.lies w:=fun w h=>by have h2:=h.2;simp [HS.flip,mget] at h2
 refine ⟨v.inf,v.sz,?_,v.ln,rfl,v.tn,fun x hx=>absurd hx (by simp [HS.flip]),fun x hx=>.inr ((v.kn x hx).congr rfl rfl (fun _=>rfl)),fun x hx=>absurd hx (by simp [HS.flip]),fun w hw=>⟨1,w,?_⟩,fun w=>?_⟩
 ·have:=v.ln;show ((0:Nat):Int)<=S.size;omega
 ·have hp:S.flip.plain w:=hw.resolve_right (nol w)
  have:w.1≠4:=by unfold HS.plain at hp;omega
  rw[HS.fol,if_neg this]
 ·have all:∀ (m:Nat) (w y:Int × Int),S.sound w->S.fol m w=some y -> ∃ r,S.flip.mov m w=some r:=by
   intro m
   induction m with
   | zero=>intro w y _ h;cases h
   | succ m ih =>
     intro w y hs h;rw[HS.mov]
     by_cases hp:S.flip.plain w
     ·rw[if_pos hp];exact ⟨_,rfl⟩
     rw[if_neg hp];have hl:S.lies w:=hs.resolve_left (fun e=>hp ((plain_congr rfl rfl w).2 e));rw[if_pos (show w.1=4/\(mget w.2 S.flip.oldm).isSome=true from hl)];rw[HS.fol,if_pos hl.1] at h
     show ∃ r,(if (gx S.now w.2).1=13 then _ else if (gx S.now w.2).1=12 then _ else _)=some r
     split
     ·exact ⟨_,rfl⟩
     split
     ·rename_i h12
      rw[if_pos h12] at h;exact ih _ y (v.chain hl h12) h
     ·split<;>exact ⟨_,rfl⟩
  by_cases hs:S.sound w
  ·obtain ⟨m,y,h⟩:=v.tm w hs
   obtain ⟨r,h'⟩:=all m w y hs h;exact ⟨m,r,h'⟩
  ·refine ⟨1,?_⟩
   have n1:¬ (w.1=4/\(mget w.2 S.flip.oldm).isSome=true):=fun e=>hs (.inr e)
   rw[HS.mov,if_neg (fun e=>hs (.inl ((plain_congr (S:=S) (S':=S.flip) rfl rfl w).1 e))),if_neg n1];exact ⟨_,rfl⟩
theorem owords_at {S:HS} {w:Int × Int} {n:Int} (hn:mget w.2 S.oldm=some n) {j:Int} (h0:0<=j) (h1:j<n):gx (S.owords w) j=gx S.old (w.2+j):=by
 unfold HS.owords;rw[hn,Z5,gx,if_pos ⟨h0,by simp;omega⟩,wat,List.getElem?_map,List.getElem?_range (by omega)];simp only[Option.map_some,Z5];rw[show ((j.toNat:Nat):Int)=j by omega]
theorem owords_len {S:HS} {w:Int × Int} {n:Int} (hn:mget w.2 S.oldm=some n) (h0:0<=n):((S.owords w).length:Int)=n:=by
 unfold HS.owords;rw[hn];simp;omega
theorem old_other {S:HS} (v:Inv S) {p n:Int} (hm:(p,n)∈S.oldm) (x:Int × Int):∀ y∈S.oldm,y≠(p,n) -> ∀ j,0<=j->j<y.2->gx (S.old.set p.toNat x) (y.1+j)=gx S.old (y.1+j):=by
 intro y hy hne j h0 hj;have t:=tiles_in v.to hm;have ty:=tiles_in v.to hy;simp only at t;rw[gx_set (by omega),if_neg]
 rcases tiles_apart v.to hm hy with e|e|e
 ·exact absurd e.symm hne
 ·simp only at e;omega
 ·simp only at e;omega
theorem Inv.setold {S:HS} (v:Inv S) {p n:Int} (hm:(p,n)∈S.oldm) (q:Int):Inv (S.setold p (13,q)):=by
 have ho:=old_other v hm (13,q);have t:=tiles_in v.to hm;simp only at t;have e0:gx (S.old.set p.toNat (13,q)) p=(13,q):=by rw[gx_set (by omega),if_pos rfl]
 refine ⟨v.inf,v.sz,v.ln,?_,v.tn,?_,fun x hx=>(v.kn x hx).congr rfl rfl (fun _=>rfl),fun y hy=>?_,v.is,fun w hw=>?_,fun w=>?_⟩
 ·show ((S.old.set p.toNat (13,q)).length:Int)<=S.size
  rw[Z0];exact v.lo
 ·show tiles 0 S.oldm ((S.old.set p.toNat (13,q)).length:Int)
  rw[Z0];exact v.to
 ·by_cases e:y=(p,n)
  ·subst e;left;show (gx (S.old.set p.toNat (13,q)) p).1=13;rw[e0]
  ·have ty:=tiles_in v.to hy
   have e1:=ho y hy e 0 (by omega) (by omega);simp only[Z1] at e1
   rcases v.ko y hy with k|k
   ·left;show (gx (S.old.set p.toNat (13,q)) y.1).1=13;rw[e1];exact k
   ·exact .inr (k.congr (S':=S.setold p (13,q)) rfl e1 (fun h2=>ho y hy e 1 (by omega) (by omega)))
 ·obtain ⟨m,y,h⟩:=v.tm w hw
  exact ⟨m,y,fol_congr (S:=S) (S':=S.setold p (13,q)) (fun w' hl=>⟨Iff.rfl,fun h12=>⟨rfl,v.chain hl h12⟩⟩) hw h⟩
 ·have all:∀ (m:Nat) (w:Int × Int),(∃ r,S.mov m w=some r) -> ∃ r,(S.setold p (13,q)).mov m w=some r:=by
   intro m
   induction m with
   | zero=>intro w ⟨r,h⟩;cases h
   | succ m ih =>
     intro w ⟨r,h⟩;rw[HS.mov] at h ⊢
     by_cases hp:S.plain w
     ·rw[if_pos (show (S.setold p (13,q)).plain w from hp)];exact ⟨_,rfl⟩
     rw[if_neg (show ¬ (S.setold p (13,q)).plain w from hp)];rw[if_neg hp] at h
     by_cases hl:w.1=4/\(mget w.2 S.oldm).isSome=true
     case neg=>rw[if_neg (show ¬ (w.1=4/\(mget w.2 (S.setold p (13,q)).oldm).isSome=true) from hl)];exact ⟨_,rfl⟩
     rw[if_pos (show w.1=4/\(mget w.2 (S.setold p (13,q)).oldm).isSome=true from hl)];rw[if_pos hl] at h;obtain ⟨n',hn'⟩:=Z2.1 hl.2;have hm':=mget_in hn'
     show ∃ r,(if (gx (S.old.set p.toNat (13,q)) w.2).1=13 then _ else if (gx (S.old.set p.toNat (13,q)) w.2).1=12 then _ else _)=some r
     by_cases e:(w.2,n')=(p,n)
     ·have e2:w.2=p:=congrArg Prod.fst e
      rw[e2,e0,if_pos rfl];exact ⟨_,rfl⟩
     have ty:=tiles_in v.to hm';have e1:=ho _ hm' e 0 (by omega) (by omega);simp only[Z1] at e1;rw[e1]
     split at h
     ·rename_i c13;rw[if_pos c13];exact ⟨_,rfl⟩
     rename_i c13
     rw[if_neg c13]
     split at h
     ·rename_i c12
      have:=((v.ko _ hm').resolve_left c13).k12 c12;rw[if_pos c12]
      show ∃ r,(S.setold p (13,q)).mov m (gx (S.old.set p.toNat (13,q)) (w.2+1))=some r
      rw[ho _ hm' e 1 (by omega) (by omega)];exact ih _ ⟨r,h⟩
     ·rename_i c12;rw[if_neg c12];split<;>exact ⟨_,rfl⟩
  obtain ⟨m,h⟩:=v.tq w;obtain ⟨r,h⟩:=h;obtain ⟨r',h'⟩:=all m w ⟨r,h⟩;exact ⟨m,r',h'⟩
inductive Mv (S:HS):Int × Int->(Int × Int) × Int × HS->Prop where
 | plain {w} (h:S.plain w):Mv S w (w,0,S)
 | none {w} (h:¬ S.plain w) (h2:¬ (w.1=4/\(mget w.2 S.oldm).isSome=true)):Mv S w ((0,0),1,S)
 | was {w n} (h:¬ S.plain w) (h1:w.1=4) (hn:mget w.2 S.oldm=some n) (h13:(gx S.old w.2).1=13):Mv S w ((4,(gx S.old w.2).2),0,S)
 | ind {w n r} (h:¬ S.plain w) (h1:w.1=4) (hn:mget w.2 S.oldm=some n) (h12:(gx S.old w.2).1=12) (hm:Mv S (gx S.old (w.2+1)) r):Mv S w r
 | full {w n} (h:¬ S.plain w) (h1:w.1=4) (hn:mget w.2 S.oldm=some n) (h13:(gx S.old w.2).1≠13) (h12:(gx S.old w.2).1≠12) (hf:S.size-(S.now.length:Int)<n):Mv S w ((0,0),12,S)
 | new {w n} (h:¬ S.plain w) (h1:w.1=4) (hn:mget w.2 S.oldm=some n) (h13:(gx S.old w.2).1≠13) (h12:(gx S.old w.2).1≠12) (hf:¬ S.size-(S.now.length:Int)<n):Mv S w ((4,S.now.length),0,(S.laid (S.owords w)).setold w.2 (13,S.now.length))
theorem mov_mv {S:HS} (v:Inv S):∀ {m:Nat} {w:Int × Int} {r:(Int × Int) × Int × HS},S.mov m w=some r->Mv S w r:=by
 intro m
 induction m with
 | zero=>intro w r h;cases h
 | succ m ih =>
   intro w r h;rw[HS.mov] at h
   split at h
   ·rename_i hp;cases h;exact .plain hp
   rename_i hp
   split at h
   ·rename_i hl
    obtain ⟨n,hn⟩:=Z2.1 hl.2;have t:=tiles_in v.to (mget_in hn)
    split at h
    ·rename_i h13;cases h;exact .was hp hl.1 hn h13
    rename_i h13
    split at h
    ·rename_i h12;exact .ind hp hl.1 hn h12 (ih h)
    rename_i h12
    have el:=owords_len hn (by omega)
    split at h
    ·rename_i hf;cases h;exact .full hp hl.1 hn h13 h12 (by omega)
    ·rename_i hf;cases h;exact .new hp hl.1 hn h13 h12 (by omega)
   ·rename_i hl;cases h;exact .none hp hl
theorem Inv.mv {S:HS} (v:Inv S) {w:Int × Int} {r:(Int × Int) × Int × HS} (h:Mv S w r):Inv r.2.2:=by
 induction h with
 | plain=>exact v
 | none=>exact v
 | was=>exact v
 | ind _ _ _ _ _ ih=>exact ih
 | full=>exact v
 | @new w n h h1 hn h13 h12 hf =>
   have hm:=mget_in hn;have t:=tiles_in v.to hm;simp only at t;have el:=owords_len hn (by omega);have kd:=(v.ko _ hm).resolve_left h13;have e0:=owords_at hn (j:=0) (by omega) (by omega);rw[Z1] at e0;refine (v.laid (zs:=S.owords w) (by omega) (by omega) ?_ (by rw[e0];exact h12)).setold (n:=n) hm _;rw[el];exact kd.congr rfl e0 (fun h2=>by have:=owords_at hn (j:=1) (by omega) (by omega);simpa using this)
end Go.S19

namespace Go.S19
open Go Go.Eng Go.Proofs Go.Chk
structure Ob where
 p:Int
 n:Int
 hd:Int × Int
 fs:List (Int × Int)
 mv:Bool
 to:Int
def Ob.pn (o:Ob):Int × Int:=(o.p,o.n)
structure VN (S:HS) (l:List Ob):Prop where
 bg:S.begins=l.map Ob.pn
 ob:∀ o∈l,o.hd=gx S.now o.p/\o.fs=fld S.now o.p (S.fcn o.hd o.n)/\o.mv=false
structure VO (S:HS) (l:List Ob):Prop where
 bg:S.oldm=l.map Ob.pn
 ob:∀ o∈l,(o.mv=true/\gx S.old o.p=(13,o.to)/\o.hd.1≠12)\/(o.mv=false/\(gx S.old o.p).1≠13/\o.hd=gx S.old o.p/\o.fs=fld S.old o.p (S.fcn o.hd o.n))
section
variable {S:HS} {l:List Ob}
end
end Go.S19

namespace Go.S19
open Go Go.Eng Go.Proofs Go.Chk
noncomputable def fsW:Array Field:=match Tryd.prog.underlying 44 with
 | some (.struct fs)=>fs
 | _=>#[]
theorem t2W:T2 Tryd.prog 44 fsW:=⟨by kernel_rfl,by kernel_rfl,by kernel_rfl⟩
theorem map_w:Tryd.prog.underlying 121=some (.map 44 3):=by kernel_rfl
def entF:List (Int × Int)->Nat->List ((Int × Int) × Int)
 | [],_=>[]
 | x::l,i=>(x,(i:Int))::entF l (i+1)
def ent (ts:List (Int × Int)):List ((Int × Int) × Int):=entF ts 0
theorem entF_app (a:List (Int × Int)) (x:Int × Int):∀ i,entF (a++[x]) i=entF a i++[(x,((i+a.length:Nat):Int))]:=by
 induction a with
 | nil=>intro i;rfl
 | cons y a ih=>intro i;simp only[List.cons_append,entF,ih];congr 4;simp;omega
theorem ent_app (a:List (Int × Int)) (x:Int × Int):ent (a++[x])=ent a++[(x,(a.length:Int))]:=by unfold ent;rw[entF_app];simp
def pos (x:Int × Int) (ts:List (Int × Int)):Option Nat:=ts.findIdx? (· = x)
theorem entF_get (x:Int × Int):∀ (ts:List (Int × Int)) (i:Nat),mget2 x (entF ts i)=(pos x ts).map fun j=>((i+j:Nat):Int):=by
 intro ts
 induction ts with
 | nil=>intro i;rfl
 | cons y ts ih =>
   intro i;simp only[entF,mget2,pos,List.findIdx?_cons]
   by_cases h:y=x
   ·simp [h]
   ·simp only[h,if_false,decide_false,Bool.false_eq_true,ih,pos,Option.map_map]
    cases ts.findIdx? (· = x) with
    | none=>rfl
    | some j=>simp;omega
theorem ent_get (x:Int × Int) (ts:List (Int × Int)):mget2 x (ent ts)=(pos x ts).map fun j=>(j:Int):=by
 unfold ent;rw[entF_get];cases pos x ts<;>simp
theorem pos_none {x:Int × Int} {ts:List (Int × Int)}:pos x ts=none ↔ x ∉ ts:=by
 unfold pos;rw[List.findIdx?_eq_none_iff]
 constructor
 ·intro h hx;have:=h x hx;simp at this
 ·intro h y hy;simp;intro e;subst e;exact h hy
theorem pos_some {x:Int × Int} {ts:List (Int × Int)} (h:x∈ts):∃ j,pos x ts=some j:=by
 cases hp:pos x ts with
 | none=>exact absurd h (pos_none.1 hp)
 | some j=>exact ⟨j,rfl⟩
def num (ts:List (Int × Int)) (x:Int × Int):List (Int × Int):=if x∈ts then ts else ts++[x]
structure Ixs (h:AH) (bi bm:Nat) (v:Value) (ts:List (Int × Int)):Prop where
 oi:Own h bi 123 [.map (some bm),v]
 om:MOwn2 h bm (ent ts)
 ov:Ows h 44 2 v ts.length (ww ts)
 ne:bm≠bi
 nv:∀ q,bk v q->q≠bi/\q≠bm
def IOwns (bi bm:Nat) (v:Value) (q:Nat):Prop:=q=bi\/q=bm\/bk v q
theorem Ixs.keep {X:Nat->Prop} {h h':AH} {bi bm:Nat} {v:Value} {ts:List (Int × Int)} (s:Ixs h bi bm v ts) (k:Keep X h h') (hx:∀ q,IOwns bi bm v q -> ¬ X q):Ixs h' bi bm v ts :=
 ⟨s.oi.keep k (hx _ (.inl rfl)),s.om.keep k (hx _ (.inr (.inl rfl))),s.ov.keep k (fun q e=>hx q (.inr (.inr e))),s.ne,s.nv⟩
theorem Ixs.lt {h:AH} {bi bm:Nat} {v:Value} {ts:List (Int × Int)} (s:Ixs h bi bm v ts):∀ q,IOwns bi bm v q->q<h.length:=by
 rintro q (e|e|e)
 ·rw[e];exact s.oi.lt
 ·rw[e];exact s.om.lt
 ·exact s.ov.lt q e
section
variable {h:AH} {bi bm:Nat} {v:Value} {ts:List (Int × Int)}
theorem iNew_ok (h:AH):Gets Tryd.prog 56 [] h (fun res h'=>Keep (fun _=>False) h h' /\ ∃ bi bm,res = .ret (.pointer (some ⟨bi,0,none⟩))/\Ixs h' bi bm (.slice none 0 0) []/\h.length<=bi/\h.length<=bm/\bi<h'.length/\bm<h'.length):=by
 refine Gets.of (keep:=false) hP (draw_ok hM) k56 (by rfl) (fun Ψ hΨ=>?_);simp only[ZG,↓reduceIte,ZA,ZB,ZC,r56,YE,YC,YO,YA,YL,YX,YS,Ya,Yb,Yl,Yf,Yg,Yi,Ym,Yk,Yt,Yn,Yz,Yp,Yq,Yd,mbl,ZD,ZE,ZF];have m0:=MOwn2.new h;have k0:Keep (fun _=>False) h (h++[.map []]):=Keep.push _ _ _;have l0:(h++[Blk.map []]).length=h.length+1:=by simp
 generalize h++[Blk.map []]=h1 at m0 k0 l0 ⊢;have o1:=Own.new h1 123 h1.length [.map (some h.length),.slice none 0 0];have k1:Keep (fun _=>False) h1 (h1++[row 123 h1.length [.map (some h.length),.slice none 0 0]]):=Keep.push _ _ _;have l1:(h1++[row 123 h1.length [.map (some h.length),.slice none 0 0]]).length=h1.length+1:=by simp
 refine hΨ _ _ (fin_ret (rv1 rfl ⟨k0.trans k1,h1.length,h.length,rfl,⟨o1,m0.keep k1 (fun e=>e),.nil,by omega,fun q e=>e.elim⟩,by omega,by omega,by omega,by omega⟩))
theorem iLen_ok (s:Ixs h bi bm v ts):Gets Tryd.prog 62 [.pointer (some ⟨bi,0,none⟩)] h (fun res h'=>h'=h/\res = .ret (iv ts.length)):=by
 refine Gets.of (keep:=false) hP (draw_ok hM) k62 (by rfl) (fun Ψ hΨ=>?_);obtain ⟨a,c,hv⟩:=row_shape s.ov.rds;simp only[ZG,↓reduceIte,ZA,ZB,ZC,r62,YE,YC,YO,YA,YL,YX,YS,Ya,Yb,Yl,Yf,Yg,Yi,Ym,Yk,Yt,Yn,Yz,Yp,Yq,Yd,mbl,ZD,ZE,ZF,s.oi.cells.ld,hv];exact hΨ _ _ (fin_ret (rv1 rfl ⟨rfl,rfl⟩))
theorem iAt_ok (s:Ixs h bi bm v ts) {i:Nat} {w:Int × Int} (hw:ts[i]?=some w):Gets Tryd.prog 63 [.pointer (some ⟨bi,0,none⟩),iv i] h (fun res h'=>Keep (fun _=>False) h h'/\res = .ret (.tuple #[wv w,iv 0])):=by
 refine Gets.of (keep:=false) hP (draw_ok hM) k63 (by rfl) (fun Ψ hΨ=>?_);have hi:i<ts.length:=(Z4.1 hw).1;have oR:=Own.new h 44 h.length [iv 0,iv 0];have k1:Keep (fun _=>False) h (h++[row 44 h.length [iv 0,iv 0]]):=Keep.push _ _ _;have s1:=s.keep k1 (fun _ _ e=>e);simp only[ZG,↓reduceIte,ZA,ZB,ZC,r63,YE,YC,YO,YA,YL,YX,YS,Ya,Yb,Yl,Yf,Yg,Yi,Ym,Yk,Yt,Yn,Yz,Yp,Yq,Yd,mbl,ZD,ZE,ZF];generalize h++[row 44 h.length [iv 0,iv 0]]=h1 at oR k1 s1 ⊢;obtain ⟨b,o,c,hv,hn,hl⟩:=rds_w s1.ov.rds (i:=(i:Int)) (by omega) (by omega);have hwat:wat ts (i:Int)=w:=by simp [wat,hw]
 have d1:((i:Int)<0)=False:=by simp
 have d2:((ts.length:Int)<=(i:Int))=False:=by simp;omega
 have d3:(0<=(i:Int)/\(i:Int)<((ts.length:Nat):Int))=True:=by simp;omega
 simp only[ZG,↓reduceIte,ZA,ZB,ZC,mbl,ZD,ZE,ZF,s1.oi.cells.ld,hv,d1,d2,d3,hl,hwat];refine XH_own oR rfl (by simp [Value.cells]) rfl (fun h2 q1 q2 q3=>?_);have oR2:Own h2 h.length 44 [iv w.1,iv w.2]:=by simpa [Value.cells] using q1
 simp only[ZG,↓reduceIte,ZA,ZB,ZC];have:∀ c,c<h.length->c=h.length->False:=fun c a e=>by omega
 exact hΨ _ _ (fin_ret (rvw rfl oR2 rfl ⟨k1.trans' q2 (fun c hc e=>by omega),rfl⟩))
theorem iFind_ok (s:Ixs h bi bm v ts) (w:Int × Int):Gets Tryd.prog 59 [.pointer (some ⟨bi,0,none⟩),wv w] h (fun res h'=>Keep (fun _=>False) h h' /\
 res = .ret (match pos w ts with
  | some j=>.tuple #[iv j,iv 0]
  | none=>.tuple #[iv 0,iv 6])):=by
 refine Gets.of (keep:=false) hP (draw_ok hM) k59 (by rfl) (fun Ψ hΨ=>?_);have oK:=Own.new h 44 h.length [iv w.1,iv w.2];have k1:Keep (fun _=>False) h (h++[row 44 h.length [iv w.1,iv w.2]]):=Keep.push _ _ _;have s1:=s.keep k1 (fun _ _ e=>e);simp only[ZG,↓reduceIte,ZA,ZB,ZC,r59,YE,YC,YO,YA,YL,YX,YS,Ya,Yb,Yl,Yf,Yg,Yi,Ym,Yk,Yt,Yn,Yz,Yp,Yq,Yd,wv,mbl,ZD,ZE,ZF];generalize h++[row 44 h.length [iv w.1,iv w.2]]=h1 at oK k1 s1 ⊢;have hg:=ent_get w ts;cases hp:pos w ts with
 | none =>
   rw[hp] at hg;have hl:=lk2_none (z:=.int .i64 0) (ok:=true) t2W s1.om hg;simp only[pv] at hl;simp only[ZG,↓reduceIte,ZA,ZB,ZC,mbl,ZD,ZE,ZF,s1.oi.cells.ld,oK.cells.lds 0 2 (by simp),hl];exact hΨ _ _ (fin_ret (rv2 rfl rfl ⟨k1,by rw[hp];rfl⟩))
 | some j =>
   rw[hp] at hg;have hl:=lk2_some (z:=.int .i64 0) (ok:=true) t2W s1.om hg;simp only[pv] at hl;simp only[ZG,↓reduceIte,ZA,ZB,ZC,mbl,ZD,ZE,ZF,s1.oi.cells.ld,oK.cells.lds 0 2 (by simp),hl];exact hΨ _ _ (fin_ret (rv2 rfl rfl ⟨k1,by rw[hp];rfl⟩))
theorem iNumber_ok (s:Ixs h bi bm v ts) (w:Int × Int) (hl:ts.length<=2000000):Gets Tryd.prog 71 [.pointer (some ⟨bi,0,none⟩),wv w] h (fun res h'=>Keep (IOwns bi bm v) h h' /\
 (∃ n,res = .ret (.tuple #[iv n,iv 0])) /\ ∃ v',Ixs h' bi bm v' (num ts w) /\ ∀ q,bk v' q->bk v q\/h.length<=q):=by
 refine Gets.of (keep:=false) hP (draw_ok hM) k71 (by rfl) (fun Ψ hΨ=>?_);have oK:=Own.new h 44 h.length [iv w.1,iv w.2];have k1:Keep (fun _=>False) h (h++[row 44 h.length [iv w.1,iv w.2]]):=Keep.push _ _ _;have s1:=s.keep k1 (fun _ _ e=>e);have l1:(h++[row 44 h.length [iv w.1,iv w.2]]).length=h.length+1:=by simp
 simp only[ZG,↓reduceIte,ZA,ZB,ZC,r71,YE,YC,YO,YA,YL,YX,YS,Ya,Yb,Yl,Yf,Yg,Yi,Ym,Yk,Yt,Yn,Yz,Yp,Yq,Yd,wv,mbl,ZD,ZE,ZF];generalize h++[row 44 h.length [iv w.1,iv w.2]]=h1 at oK k1 s1 l1 ⊢;have hg:=ent_get w ts
 by_cases hin:w∈ts
 ·obtain ⟨j,hp⟩:=pos_some hin
  rw[hp] at hg;have hl:=lk2_some (z:=.int .i64 0) (ok:=true) t2W s1.om hg;simp only[pv] at hl;simp only[ZG,↓reduceIte,ZA,ZB,ZC,mbl,ZD,ZE,ZF,s1.oi.cells.ld,oK.cells.lds 0 2 (by simp),hl];exact hΨ _ _ (fin_ret (rv2 rfl rfl ⟨k1.mono (fun _ e=>e.elim),⟨_,rfl⟩,v,by rw[num,if_pos hin];exact s1,fun q e=>.inl e⟩))
 ·rw[pos_none.2 hin] at hg
  have hlk:=lk2_none (z:=.int .i64 0) (ok:=true) t2W s1.om hg;simp only[pv] at hlk;obtain ⟨a,c,hv⟩:=row_shape s1.ov.rds;obtain ⟨h2,m1,m2,m3,m4⟩:=mup2_new map_w t2W s1.om (v:=(ts.length:Int)) hg;simp only[pv] at m1;have oi2:=s1.oi.keep m3 s1.ne.symm;have ov2:=s1.ov.keep m3 (fun q e c=>(s1.nv q e).2 c);have hkm:h.length≠bm:=by have:=s.om.lt;omega
  have oK2:=oK.keep m3 hkm;obtain ⟨v3,h3,p1,p2,p3,p4⟩:=app1 (bytes:=16) (xs:=[iv w.1,iv w.2]) ov2 rfl rfl (by omega) (by omega);have oi3:=oi2.keep p3 (fun e=>(s.nv _ e).1 rfl);have om3:=m2.keep p3 (fun e=>(s.nv _ e).2 rfl);obtain ⟨a3,c3,hv3⟩:=row_shape p2.rds;subst hv3;subst hv;simp only[ZG,↓reduceIte,ZA,ZB,ZC,mbl,ZD,ZE,ZF,s1.oi.cells.ld,oK.cells.lds 0 2 (by simp),hlk,m1,oi2.cells.ld,oK2.cells.lds 0 2 (by simp),p1,ct1,(oi2.keep (Keep.push (fun _=>False) h2 (row 44 h2.length [iv w.1,iv w.2])) (fun e=>e)).cells.ld];refine XH_own oi3 rfl (by simp [Value.cells]) rfl (fun h4 q1 q2 q3=>?_);have oi4:Own h4 bi 123 [.map (some bm),.slice a3 (ts.length+1) c3]:=by simpa [Value.cells] using q1
  simp only[ZG,↓reduceIte,ZA,ZB,ZC];have nb3:∀ q,bk (.slice a3 (ts.length+1) c3) q->q≠bi/\q≠bm:=fun q e=>(p4 q e).elim (fun e=>s.nv q e) (fun e=>by have:=s.oi.lt;have:=s.om.lt;omega)
  have kk:Keep (IOwns bi bm (.slice a ts.length c)) h1 h4:=((m3.mono (fun q e=>.inr (.inl e))).trans (p3.mono (fun q e=>.inr (.inr e)))).trans (q2.mono fun q e=>.inl e);refine hΨ _ _ (fin_ret (rv2 rfl rfl ⟨(k1.mono (fun _ e=>e.elim)).trans kk,⟨_,rfl⟩,_,?_,fun q e=>(p4 q e).imp id (fun e=>by omega)⟩));rw[num,if_neg hin];refine ⟨oi4,?_,?_,s.ne,nb3⟩
  ·rw[ent_app];exact om3.keep q2 s.ne
  ·rw[List.length_append,ww_app]
   exact p2.keep q2 (fun q e c=>(nb3 q e).1 c)
end
end Go.S19

namespace Go.S19
open Go Go.Eng Go.Proofs Go.Chk
section
variable {S:HS}
noncomputable def HS.folX (S:HS) (w:Int × Int):(Int × Int) × Int:=open Classical in if S.sound w then (if h:∃ y m,S.fol m w=some y then h.choose else w,0) else ((0,0),1)
theorem folX_eq {w x:Int × Int} {m:Nat} (hs:S.sound w) (hx:S.fol m w=some x):S.folX w=(x,0):=by
 classical
 unfold HS.folX;have hex:∃ y m,S.fol m w=some y:=⟨x,m,hx⟩
 rw[if_pos hs,dif_pos hex];obtain ⟨m2,hm2⟩:=hex.choose_spec;rw[<- fol_one hx hm2]
theorem folX_no {w:Int × Int} (hs:¬ S.sound w):S.folX w=((0,0),1):=by unfold HS.folX;rw[if_neg hs]
theorem fol_sound (v:Inv S):∀ {n:Nat} {w y:Int × Int},S.sound w->S.fol n w=some y->S.sound y/\(y.1=4->S.lies y/\(gx S.now y.2).1≠12):=by
 intro n
 induction n with
 | zero=>intro w y hs h;cases h
 | succ n ih =>
   intro w y hs h;rw[HS.fol] at h
   split at h
   ·rename_i h4
    have hl:S.lies w:=hs.resolve_left (fun hp=>by obtain ⟨a,c⟩:=w;simp only at h4;subst h4;rcases hp with e|e|e<;>simp at e)
    split at h
    ·rename_i h12;exact ih (v.chain hl h12) h
    ·rename_i h12;cases h;exact ⟨hs,fun _=>⟨hl,h12⟩⟩
   ·rename_i h4;cases h;exact ⟨hs,fun e=>absurd e h4⟩
theorem folX_sound (v:Inv S) {w:Int × Int} (hs:S.sound w):∃ x,S.folX w=(x,0)/\S.sound x/\(x.1=4->S.lies x/\(gx S.now x.2).1≠12):=by
 obtain ⟨m,x,hx⟩:=v.tm w hs;exact ⟨x,folX_eq hs hx,fol_sound v hs hx⟩
noncomputable def HS.meetT (S:HS):List (Int × Int)->List (Int × Int)->List (Int × Int) × Bool
 | [],ts=>(ts,true)
 | w::ws,ts=>if S.sound w then S.meetT ws (if (S.folX w).1.1=4 then num ts (S.folX w).1 else ts) else (ts,false)
def Gd (S:HS) (ts:List (Int × Int)):Prop:=(∀ x∈ts,S.lies x/\(gx S.now x.2).1≠12)/\ts.Nodup
theorem Gd.nil (S:HS):Gd S []:=⟨fun x h=>(by cases h),List.nodup_nil⟩
theorem Gd.num {ts:List (Int × Int)} (g:Gd S ts) {x:Int × Int} (hx:S.lies x/\(gx S.now x.2).1≠12):Gd S (num ts x):=by
 unfold Go.S19.num
 split
 ·exact g
 ·rename_i h
  refine ⟨fun y hy=>?_,?_⟩
  ·rcases List.mem_append.1 hy with e|e
   ·exact g.1 y e
   ·cases Z7.1 e;exact hx
  ·rw[List.nodup_append]
   exact ⟨g.2,by simp,fun a ha c hc=>by cases Z7.1 hc;intro e;subst e;exact h ha⟩
theorem Gd.meet (v:Inv S):∀ (ws:List (Int × Int)) {ts:List (Int × Int)},Gd S ts->Gd S (S.meetT ws ts).1:=by
 intro ws
 induction ws with
 | nil=>intro ts g;exact g
 | cons w ws ih =>
   intro ts g;rw[HS.meetT]
   split
   ·rename_i hs
    obtain ⟨x,e,h1,h2⟩:=folX_sound v hs;rw[e];refine ih ?_
    split
    ·rename_i h4;exact g.num (h2 h4)
    ·exact g
   ·exact g
theorem nodup_sub {α:Type} [DecidableEq α]:∀ {a l:List α},a.Nodup->(∀ x∈a,x∈l)->a.length<=l.length:=by
 intro a
 induction a with
 | nil=>intro l _ _;simp
 | cons x a ih =>
   intro l hn hs;have hx:=hs x List.mem_cons_self;have:=ih (l:=l.erase x) (List.nodup_cons.1 hn).2 (fun y hy=>(List.mem_erase_of_ne (fun e=>(List.nodup_cons.1 hn).1 (by rw[<- e];exact hy))).2 (hs y (List.mem_cons_of_mem _ hy)));rw[List.length_erase_of_mem hx] at this;have:0<l.length:=List.length_pos_of_mem hx;simp;omega
theorem tiles_count:∀ {l:List (Int × Int)} {a e:Int},tiles a l e->a+l.length<=e:=by
 intro l
 induction l with
 | nil=>intro a e h;simp only[tiles] at h;simp;omega
 | cons p l ih=>intro a e h;simp only[tiles] at h;have:=ih h.2.2;simp;omega
theorem Gd.len (v:Inv S) {ts:List (Int × Int)} (g:Gd S ts):ts.length<=S.begins.length:=by
 have h1:=nodup_sub (a:=ts) (l:=S.begins.map fun p=>((4:Int),p.1)) g.2 (fun x hx=>by
  obtain ⟨h4,hs⟩:=(g.1 x hx).1;obtain ⟨n,hn⟩:=Z2.1 hs;exact List.mem_map.2 ⟨_,mget_in hn,Prod.ext h4.symm rfl⟩)
 simpa using h1
theorem Inv.bg (v:Inv S):S.begins.length<=1048576:=by
 have:=tiles_count v.tn;have:=v.ln;have:=v.sz;omega
noncomputable def HS.bfsT (S:HS):Nat->Nat->List (Int × Int)->Bool->List (Int × Int) × Bool
 | 0,_,ts,sd=>(ts,sd)
 | n+1,i,ts,sd=>match ts[i]? with
   | none=>(ts,sd)
   | some w=>if sd && (S.meetT (S.flds w) ts).2 then S.bfsT n (i+1) (S.meetT (S.flds w) ts).1 true else ((S.meetT (S.flds w) ts).1,false)
noncomputable def HS.graph (S:HS) (roots:List (Int × Int)):List (Int × Int) × Bool :=
 S.bfsT (S.begins.length+1) 0 (S.meetT S.globals (S.meetT roots []).1).1 ((S.meetT roots []).2 && (S.meetT S.globals (S.meetT roots []).1).2)
end
section
variable {h:AH} {b:Nat} {L:Lay} {S:HS}
theorem xFollow_ok (s:Hp h b L S) (v:Inv S) (w:Int × Int):Gets Tryd.prog 48 [.pointer (some ⟨b,0,none⟩),wv w] h (fun res h'=>Keep (fun _=>False) h h'/\res = .ret (.tuple #[wv (S.folX w).1,iv (S.folX w).2])) :=
 (Follow_ok s w (v.tm w)).mono fun res h' _ ⟨a,c⟩=>by
  by_cases hs:S.sound w
  ·rw[if_pos hs] at c
   obtain ⟨m,x,hx,rfl⟩:=c;rw[folX_eq hs hx];exact ⟨a,rfl⟩
  ·rw[if_neg hs] at c
   rw[folX_no hs];exact ⟨a,c⟩
end
def GOwns (bg bi bm:Nat) (v:Value) (q:Nat):Prop:=q=bg\/IOwns bi bm v q
structure Gr (h:AH) (b:Nat) (L:Lay) (S:HS) (bg bi bm:Nat) (v:Value) (ts:List (Int × Int)) (sd:Bool):Prop where
 hp:Hp h b L S
 iv:Inv S
 og:Own h bg 101 [.pointer (some ⟨b,0,none⟩),.pointer (some ⟨bi,0,none⟩),.bool sd]
 ix:Ixs h bi bm v ts
 ng:¬ IOwns bi bm v bg
 fr:∀ q,GOwns bg bi bm v q->L.cls q=0
 gd:Gd S ts
theorem Gr.keepF {h h':AH} {b:Nat} {L:Lay} {S:HS} {bg bi bm:Nat} {v:Value} {ts:List (Int × Int)} {sd:Bool} (g:Gr h b L S bg bi bm v ts sd) (k:Keep (fun _=>False) h h'):Gr h' b L S bg bi bm v ts sd :=
 ⟨g.hp.keepF k,g.iv,g.og.keep k (fun e=>e),g.ix.keep k (fun _ _ e=>e),g.ng,g.fr,g.gd⟩
theorem Gr.lt {h:AH} {b:Nat} {L:Lay} {S:HS} {bg bi bm:Nat} {v:Value} {ts:List (Int × Int)} {sd:Bool} (g:Gr h b L S bg bi bm v ts sd):∀ q,GOwns bg bi bm v q->q<h.length:=by
 rintro q (e|e)
 ·rw[e];exact g.og.lt
 ·exact g.ix.lt q e
theorem Gr.num {h h':AH} {b:Nat} {L:Lay} {S:HS} {bg bi bm:Nat} {v v':Value} {ts:List (Int × Int)} {sd:Bool} (g:Gr h b L S bg bi bm v ts sd) (k:Keep (IOwns bi bm v) h h') {x:Int × Int} (hx:S.lies x/\(gx S.now x.2).1≠12)
 (ix:Ixs h' bi bm v' (num ts x)) (nv:∀ q,bk v' q->bk v q\/h.length<=q):Gr h' b L S bg bi bm v' (num ts x) sd:=by
 have key:∀ q,IOwns bi bm v' q->IOwns bi bm v q\/h.length<=q:=by
  rintro q (e|e|e)
  ·exact .inl (.inl e)
  ·exact .inl (.inr (.inl e))
  ·exact (nv q e).imp (fun e=>.inr (.inr e)) id
 refine ⟨g.hp.keep k (fun q hq e=>hq (g.fr q (.inr e))),g.iv,g.og.keep k g.ng,ix,fun e=>(key _ e).elim g.ng (fun e=>by have:=g.og.lt;omega),?_,g.gd.num hx⟩;rintro q (e|e)
 ·exact g.fr q (.inl e)
 ·rcases key q e with e|e
  ·exact g.fr q (.inr e)
  ·exact g.hp.c0 q e
theorem Gr.unsound {h h':AH} {b:Nat} {L:Lay} {S:HS} {bg bi bm:Nat} {v:Value} {ts:List (Int × Int)} {sd sd':Bool} (g:Gr h b L S bg bi bm v ts sd) (k:Keep (· = bg) h h')
 (og:Own h' bg 101 [.pointer (some ⟨b,0,none⟩),.pointer (some ⟨bi,0,none⟩),.bool sd']):Gr h' b L S bg bi bm v ts sd' :=
 ⟨g.hp.keep k (fun q hq e=>hq (g.fr q (.inl e))),g.iv,og,g.ix.keep k (fun q e c=>g.ng (by rw[<- c];exact e)),g.ng,g.fr,g.gd⟩
section
variable {h:AH} {b:Nat} {L:Lay} {S:HS} {bg bi bm:Nat} {v:Value} {ts:List (Int × Int)} {sd:Bool}
set_option maxHeartbeats 1000000 in
theorem meet_ok (g:Gr h b L S bg bi bm v ts sd) {u:Value} {ws:List (Int × Int)} (hu:Rds h 2 u ws.length (ww ws)) (hm:ws.length<=9000000000000000000) (hd:∀ q,rb u q -> ¬ GOwns bg bi bm v q) :
 Gets Tryd.prog 57 [.pointer (some ⟨bg,0,none⟩),u] h (fun res h'=>res = .ret (.tuple #[])/\Keep (GOwns bg bi bm v) h h' /\ ∃ v',Gr h' b L S bg bi bm v' (S.meetT ws ts).1 (sd && (S.meetT ws ts).2) /\ ∀ q,bk v' q->bk v q\/h.length<=q):=by
 refine Gets.of (keep:=false) hP (draw_ok hM) k57 (by rfl) (fun Ψ hΨ=>?_);obtain ⟨ua,uc,hv⟩:=row_shape hu;simp only[ZG,↓reduceIte,ZA,ZB,ZC,r57,YE,YC,YO,YA,YL,YX,YS,Ya,Yb,Yl,Yf,Yg,Yi,Ym,Yk,Yt,Yn,Yz,Yp,Yq,Yd,mbl,ZD,ZE,ZF,hv];rw[<- hv];refine XLo_rule (α:=Nat × Value × List (Int × Int)) (fun a=>[(0,.pointer (some ⟨bg,0,none⟩)),(8,u),(9,iv ws.length),(10,iv a.1)])
  (fun a h'=>a.1<=ws.length/\Gr h' b L S bg bi bm a.2.1 a.2.2 sd/\S.meetT (ws.drop a.1) a.2.2=S.meetT ws ts/\Keep (GOwns bg bi bm v) h h' /\ ∀ q,bk a.2.1 q->bk v q\/h.length<=q) (fun a=>ws.length-a.1) (0,v,ts)
  ⟨Nat.zero_le _,g,rfl,.refl _ _,fun q e=>.inl e⟩ ⟨by subst hv;rfl,by subst hv;rfl,rfl,rfl,trivial⟩ ?_
 rintro ⟨i,v1,t1⟩ h1 Ψ2 ⟨hi,g1,hmt,k1,hb1⟩ next out
 simp only at hi g1 hmt hb1
 by_cases hlt:i<ws.length
 case neg =>
  have d1:((i:Int)<((ws.length:Nat):Int))=False:=by simp;omega
  simp only[ZG,↓reduceIte,ZA,ZB,ZC,d1];refine out (.exit 0) _ _ _ _ (by intro e;cases e) ?_;simp only[ZG,↓reduceIte,ZA,ZB,ZC];refine hΨ _ _ (fin_norm (rv0 ?_));have:ws.drop i=[]:=List.drop_eq_nil_of_le (by omega);rw[this] at hmt;refine ⟨rfl,k1,v1,?_,hb1⟩;rw[<- hmt,HS.meetT,Bool.and_true];exact g1
 case pos =>
 have d1:((i:Int)<((ws.length:Nat):Int))=True:=by simp;omega
 have hu1:Rds h1 2 u ws.length (ww ws):=hu.keep k1 hd;obtain ⟨bu,o,c,hue,hn,hl⟩:=rds_w hu1 (i:=(i:Int)) (by omega) (by omega);have hdrop:ws.drop i=wat ws i::ws.drop (i+1):=by
  rw[List.drop_eq_getElem_cons hlt];congr 1;simp [wat,hlt]
 rw[hdrop,HS.meetT] at hmt;have d0:(0<=(i:Int))=True:=by simp
 have oW:=Own.new h1 44 h1.length [iv 0,iv 0];have k2:Keep (fun _=>False) h1 (h1++[row 44 h1.length [iv 0,iv 0]]):=Keep.push _ _ _;have l2:(h1++[row 44 h1.length [iv 0,iv 0]]).length=h1.length+1:=by simp
 simp only[ZG,↓reduceIte,ZA,ZB,ZC,d1,d0,and_self,hue,hl,mbl,ZD,ZE,ZF];rw[<- hue];generalize h1++[row 44 h1.length [iv 0,iv 0]]=h2 at oW k2 l2 ⊢;generalize hw:wat ws (i:Int)=w at hmt ⊢;refine XH_own oW rfl (by simp [Value.cells]) rfl (fun h3 q1 q2 q3=>?_);have oW3:Own h3 h1.length 44 [iv w.1,iv w.2]:=by simpa [Value.cells] using q1
 have k13:Keep (fun _=>False) h1 h3:=k2.trans' q2 (fun c hc e=>by omega);have g3:=g1.keepF k13;simp only[ZG,↓reduceIte,ZA,ZB,ZC,g3.og.cells.ld,oW3.cells.lds 0 2 (by simp),mbl,ZD,ZE,ZF];refine XX_of (xFollow_ok g3.hp g3.iv w) (fun res h4 hle hn=>?_);obtain ⟨k4,rfl⟩:=hn;refine .ret ?_;have g4:=g3.keepF k4;have l4:=k4.len;have oX:=Own.new h4 44 h4.length [iv 0,iv 0];have k5:Keep (fun _=>False) h4 (h4++[row 44 h4.length [iv 0,iv 0]]):=Keep.push _ _ _;simp only[ZG,↓reduceIte,ZA,ZB,ZC,wv,mbl,ZD,ZE,ZF];generalize h4++[row 44 h4.length [iv 0,iv 0]]=h5 at oX k5 ⊢;generalize hx:(S.folX w).1=x at hmt ⊢;refine XH_own oX rfl (by simp [Value.cells]) rfl (fun h6 q1' q2' q3'=>?_);have oX6:Own h6 h4.length 44 [iv x.1,iv x.2]:=by simpa [Value.cells] using q1'
 have k46:Keep (fun _=>False) h4 h6:=k5.trans' q2' (fun c hc e=>by omega);have g6:=g4.keepF k46;have k16:Keep (fun _=>False) h1 h6:=(k13.trans k4).trans k46;have k06:=k1.trans (k16.mono (fun _ e=>e.elim))
 by_cases hs:S.sound w
 case neg =>
  rw[if_neg hs] at hmt;rw[folX_no hs];simp only[ZG,↓reduceIte,ZA,ZB,ZC,mbl,ZD,ZE,ZF];refine XH_own g6.og rfl (by simp [Value.cells]) rfl (fun h7 r1 r2 r3=>?_);have og7:Own h7 bg 101 [.pointer (some ⟨b,0,none⟩),.pointer (some ⟨bi,0,none⟩),.bool false]:=by simpa [Value.cells] using r1
  simp only[ZG,↓reduceIte,ZA,ZB,ZC];refine out .ret _ _ _ _ (by intro e;cases e) ?_;simp only[ZG,↓reduceIte,ZA,ZB,ZC];refine hΨ _ _ (fin_ret (rv0 ?_));refine ⟨rfl,k06.trans (r2.mono fun q e=>.inl e),v1,?_,hb1⟩;rw[<- hmt,Bool.and_false];exact g6.unsound r2 og7
 rw[if_pos hs] at hmt;obtain ⟨x',e1,e2,e3⟩:=folX_sound g1.iv hs;have hx2:x'=x:=by rw[e1] at hx;exact hx
 subst hx2;rw[e1];have wi:IntKind.i64.wrap ((i:Int)+1)=((i+1:Nat):Int):=by rw[i64w (by omega) (by omega)];omega
 by_cases hk4:x'.1=4
 case neg =>
  rw[if_neg hk4] at hmt;simp only[ZG,↓reduceIte,ZA,ZB,ZC,mbl,ZD,ZE,ZF,oX6.cells.ld,hk4,wi];exact next (i+1,v1,t1) _ _ h6 ⟨by omega,g6,hmt,k06,hb1⟩ ⟨rfl,rfl,rfl,rfl,trivial⟩ (by simp;omega)
 case pos =>
  rw[if_pos hk4] at hmt;simp only[ZG,↓reduceIte,ZA,ZB,ZC,mbl,ZD,ZE,ZF,oX6.cells.ld,oX6.cells.lds 0 2 (by simp),hk4,g6.og.cells.ld];have hw4:(.agg #[iv 4,iv x'.2]:Value)=wv x':=by simp [wv,hk4]
  rw[hw4];refine XX_of (iNumber_ok g6.ix x' (by have:=g6.gd.len g6.iv;have:=g6.iv.bg;omega)) (fun res h7 hle7 hn7=>?_);obtain ⟨k7,⟨n7,rfl⟩,v2,ix7,nb7⟩:=hn7;refine .ret ?_;have g7:=g6.num k7 (e3 hk4) ix7 nb7;have l06:=k06.len;have k07:Keep (GOwns bg bi bm v) h h7:=k06.trans' (k7.mono (fun q e=>Or.inr e:∀ q,IOwns bi bm v1 q->GOwns bg bi bm v1 q)) (fun c hc e=>by
   rcases e with e|e|e|e
   ·exact .inl e
   ·exact .inr (.inl e)
   ·exact .inr (.inr (.inl e))
   ·exact (hb1 c e).elim (fun e=>.inr (.inr (.inr e))) (fun e=>by omega))
  simp only[ZG,↓reduceIte,ZA,ZB,ZC,wi];exact next (i+1,v2,num t1 x') _ _ h7 ⟨by omega,g7,hmt,k07,fun q e=>(nb7 q e).elim (fun e=>hb1 q e) (fun e=>.inr (by omega))⟩ ⟨rfl,rfl,rfl,rfl,trivial⟩ (by simp;omega)
end
end Go.S19

namespace Go.S19
open Go Go.Eng Go.Proofs Go.Chk
theorem each_ok {h:AH} {bg:Nat} (hb:bg<h.length):Gets Tryd.prog 28 [.pointer (some ⟨bg,0,none⟩)] h (fun res h'=>Keep (fun _=>False) h h' /\ ∃ bx t,res = .ret (.func (.func 61) #[] #[.pointer (some ⟨bx,0,none⟩)])/\Own h' bx t [.pointer (some ⟨bg,0,none⟩)]/\h.length<=bx):=by
 refine Gets.of (keep:=false) hP (draw_ok hM) k28 (by rfl) (fun Ψ hΨ=>?_);simp only[ZG,↓reduceIte,ZA,ZB,ZC,r28,YE,YC,YO,YA,YL,YX,YS,Ya,Yb,Yl,Yf,Yg,Yi,Ym,Yk,Yt,Yn,Yz,Yp,Yq,Yd,mbl,ZD,ZE,ZF];exact hΨ _ _ (fin_ret (rv1 rfl ⟨Keep.push _ _ _,h.length,_,rfl,Own.new _ _ _ _,Z6 _⟩))
def eachB:RC:=match ri61 with
 | .sq _ (.blk _ (.loop c))=>c
 | _=>.bad
set_option maxRecDepth 20000 in
theorem eachB_eq:ri61 = .sq (.rg [⟨(.n 3),none,(.u .mv (.c (.int .i64 0)))⟩]) (.blk 0 (.loop eachB)):=rfl
structure EachAt (RD:List Value->AH->Out->AH->Prop) (St:Nat->AH->Prop) (Fin:Out->AH->Prop) (bx M:Nat) (i:Nat) (h:AH):Prop where
 le:i<=M
 at_:∃ t bg c0 sdv bi bm v ts,Own h bx t [.pointer (some ⟨bg,0,none⟩)]/\Own h bg 101 [c0,.pointer (some ⟨bi,0,none⟩),sdv]/\Ixs h bi bm v ts/\i<=ts.length/\(i=ts.length->Fin .norm h) /\
  ∀ w,ts[i]?=some w -> ∀ h1,Keep (fun _=>False) h h1 -> ∃ j h2,RD [iv i,wv w] h1 j h2/\h1.length<=h2.length/\(j = .norm->St (i+1) h2)/\(j ≠ .norm->Fin j h2)
def yv (l:Nat):Value:=.func (.yield l) #[] #[]
theorem each_loop {RD:List Value->AH->Out->AH->Prop} {St:Nat->AH->Prop} {Fin:Out->AH->Prop} {bx M:Nat} (hM:M<=9000000000000000000) (open_:∀ i h,St i h->EachAt RD St Fin bx M i h) :
 ∀ (d i:Nat) (h:AH),St i h->M+1-i<=d -> ∃ out h',Fin out h'/\h.length<=h'.length /\ ∃ n,∀ (l:Nat) (s:PS),Lss ⟨[(0,yv l),(1,.pointer (some ⟨bx,0,none⟩)),(3,iv i)],[],h,[]⟩ s ->
   loopY (wpcY Tryd.prog false [0,1,3,4] (fun l' ags hh K=>l'=l /\ ∃ j h2,RD ags hh j h2/\hh.length<=h2.length/\K j h2) eachB) (blkY 0 (fun o s2 p=>(o = .norm\/o = .ret)/\p=out/\s2.h=h')) n s .norm:=by
 intro d
 induction d with
 | zero=>intro i h hs hd;have:=(open_ i h hs).le;omega
 | succ d ih =>
   intro i h hs hd;obtain ⟨hle,t,bg,c0,sdv,bi,bm,v,ts,ox,og,ix,hi,hend,hround⟩:=open_ i h hs;obtain ⟨_,_,hL,_,eh,er⟩:=iLen_ok ix;rw[eh,er] at hL;clear eh er
   rcases Nat.lt_or_eq_of_le hi with hlt|heq
   case inr =>
    have d1:((i:Int)<((ts.length:Nat):Int))=False:=by simp;omega
    refine ⟨.norm,_,hend heq,Z6 _,1,fun l s ls=>⟨_,ls,?_⟩⟩
    change Go.Eng.YC Tryd.prog false [0,1,3,4] (fun l' ags hh K=>l'=l /\ ∃ j h2,RD ags hh j h2/\hh.length<=h2.length/\K j h2) _ eachB [(0,yv l),(1,.pointer (some ⟨bx,0,none⟩)),(3,iv i)] [] _ .norm
    simp only[ZG,↓reduceIte,ZA,ZB,ZC,ymach,eachB,ri61,YE,YC,YO,YA,YL,YX,YS,Ya,Yb,Yl,Yf,Yg,Yi,Ym,Yk,Yt,Yn,Yz,Yp,Yq,Yd,ox.cells.ld,og.cells.ld,mbl,ZD,ZE,ZF];refine YX_of (v:=iv ts.length) ?_ (Z6 _) ?_
    ·with_reducible exact hL
    simp only[ZG,↓reduceIte,ZA,ZB,ZC,ymach,d1];exact ⟨.inl rfl,rfl,rfl⟩
   case inl =>
    have d1:((i:Int)<((ts.length:Nat):Int))=True:=by simp;omega
    have hw:ts[i]?=some (ts[i]'hlt):=List.getElem?_eq_getElem hlt;generalize ts[i]'hlt=w at hw;obtain ⟨_,h1,hA,hl1,k1,rfl⟩:=iAt_ok ix hw;have ox1:=ox.keep k1 (fun e=>e);have og1:=og.keep k1 (fun e=>e);have oW:=Own.new h1 44 h1.length [iv 0,iv 0];have k2:Keep (fun _=>False) h1 (h1++[row 44 h1.length [iv 0,iv 0]]):=Keep.push _ _ _;obtain ⟨h2,q0,q1,q2,q3⟩:=oW.store (i:=0) (vs:=[iv w.1,iv w.2]) (by simp) rfl;have oW2:Own h2 h1.length 44 [iv w.1,iv w.2]:=by simpa using q1
    have k12:Keep (fun _=>False) h1 h2:=k2.trans' q2 (fun c hc e=>by omega);obtain ⟨j,h3,hRD,hl3,hgo,hfin⟩:=hround w hw h2 (k1.trans k12);have hl02:=(k1.trans k12).len;have hst:stv (h1++[row 44 h1.length [iv 0,iv 0]]) 2 (.pointer (some ⟨h1.length,0,none⟩)) (wv w)=some h2:=by simpa [stv,wv,Value.cells] using q0
    have key:∀ {out:Out} {h':AH} {n:Nat},(∀ l (e' l':PE),j = .norm->Eng.look e' 0=some (yv l)->Eng.look e' 1=some (.pointer (some ⟨bx,0,none⟩))->Eng.look e' 3=some (iv ((i+1:Nat):Int)) ->
     loopY (wpcY Tryd.prog false [0,1,3,4] (fun l' ags hh K=>l'=l /\ ∃ j h2,RD ags hh j h2/\hh.length<=h2.length/\K j h2) eachB) (blkY 0 (fun o s2 p=>(o = .norm\/o = .ret)/\p=out/\s2.h=h')) n ⟨e',l',h3,[]⟩ .norm) ->
     (j ≠ .norm->out=j/\h'=h3) -> ∀ (l:Nat) (s:PS),Lss ⟨[(0,yv l),(1,.pointer (some ⟨bx,0,none⟩)),(3,iv i)],[],h,[]⟩ s ->
     loopY (wpcY Tryd.prog false [0,1,3,4] (fun l' ags hh K=>l'=l /\ ∃ j h2,RD ags hh j h2/\hh.length<=h2.length/\K j h2) eachB) (blkY 0 (fun o s2 p=>(o = .norm\/o = .ret)/\p=out/\s2.h=h')) (n+1) s .norm:=by
     intro out h' n hnext hstop l s ls;refine ⟨_,ls,?_⟩
     change Go.Eng.YC Tryd.prog false [0,1,3,4] (fun l' ags hh K=>l'=l /\ ∃ j h2,RD ags hh j h2/\hh.length<=h2.length/\K j h2) _ eachB [(0,yv l),(1,.pointer (some ⟨bx,0,none⟩)),(3,iv i)] [] _ .norm
     simp only[ZG,↓reduceIte,ZA,ZB,ZC,ymach,eachB,ri61,YE,YC,YO,YA,YL,YX,YS,Ya,Yb,Yl,Yf,Yg,Yi,Ym,Yk,Yt,Yn,Yz,Yp,Yq,Yd,ox.cells.ld,og.cells.ld,mbl,ZD,ZE,ZF];refine YX_of (v:=iv ts.length) ?_ (Z6 _) ?_
     ·with_reducible exact hL
     simp only[ZG,↓reduceIte,ZA,ZB,ZC,ymach,d1,ox.cells.ld,og.cells.ld,mbl,ZD,ZE,ZF];refine YX_of (v:=.tuple #[wv w,iv 0]) (h':=h1) ?_ hl1 ?_
     ·with_reducible exact hA
     simp only[ZG,↓reduceIte,ZA,ZB,ZC,ymach,mbl,ZD,ZE,ZF,hst,oW2.cells.lds 0 2 (by simp),yv];refine YY_of ⟨rfl,j,h3,hRD,hl3,?_⟩;cases hj:j with
     | norm =>
       have wi:IntKind.i64.wrap ((i:Int)+1)=((i+1:Nat):Int):=by rw[i64w (by omega) (by omega)];omega
       simp only[ZG,↓reduceIte,ZA,ZB,ZC,ymach,goesOn,wi];exact hnext l _ _ hj rfl rfl rfl
     | exit id =>
       obtain ⟨rfl,rfl⟩:=hstop (by rw[hj];intro e;cases e);simp only[ZG,↓reduceIte,ZA,ZB,ZC,ymach,goesOn];exact ⟨.inr rfl,hj.symm,rfl⟩
     | ret =>
       obtain ⟨rfl,rfl⟩:=hstop (by rw[hj];intro e;cases e);simp only[ZG,↓reduceIte,ZA,ZB,ZC,ymach,goesOn];exact ⟨.inr rfl,hj.symm,rfl⟩
     | pan v =>
       obtain ⟨rfl,rfl⟩:=hstop (by rw[hj];intro e;cases e);simp only[ZG,↓reduceIte,ZA,ZB,ZC,ymach,goesOn];exact ⟨.inr rfl,hj.symm,rfl⟩
    by_cases hj:j = .norm
    ·obtain ⟨out,h',hf,hl',n,hn⟩:=ih (i+1) h3 (hgo hj) (by omega)
     refine ⟨out,h',hf,by omega,n+1,key (fun l e' l' _ a0 a1 a3=>?_) (fun hne=>absurd hj hne)⟩;refine hn l _ ⟨fun t v hv=>?_,fun t v hv=>(by cases hv),rfl,rfl⟩;simp only[Eng.look] at hv
     split at hv
     ·rename_i e;subst e;cases hv;exact a0
     split at hv
     ·rename_i e;subst e;cases hv;exact a1
     split at hv
     ·rename_i e;subst e;cases hv;exact a3
     ·cases hv
    ·exact ⟨j,h3,hfin hj,by omega,1,key (n:=0) (fun l e' l' hj'=>absurd hj' hj) (fun _=>⟨rfl,rfl⟩)⟩
theorem each_rng {RD:List Value->AH->Out->AH->Prop} {St:Nat->AH->Prop} {Fin:Out->AH->Prop} {bx M:Nat} (hM:M<=9000000000000000000) (open_:∀ i h,St i h->EachAt RD St Fin bx M i h) {h:AH} (h0:St 0 h) :
 ∃ out h',RngH Tryd.prog RD 61 [.pointer (some ⟨bx,0,none⟩)] h out h'/\h.length<=h'.length/\Fin out h':=by
 obtain ⟨out,h',hf,hl,n,hn⟩:=each_loop hM open_ (M+1) 0 h h0 (by omega);refine ⟨out,h',⟨[0,1,3,4],_,ki61,rfl,fun l=>?_⟩,hl,hf⟩;rw[eachB_eq]
 change Go.Eng.YC Tryd.prog false [0,1,3,4] _ _ _ [(0,yv l),(1,.pointer (some ⟨bx,0,none⟩))] [] _ .norm
 simp only[ZG,↓reduceIte,ZA,ZB,ZC,ymach];exact ⟨n,hn l _ ⟨fun t v hv=>hv,fun t v hv=>(by cases hv),rfl,rfl⟩⟩
end Go.S19

namespace Go.S19
open Go Go.Eng Go.Proofs Go.Chk
theorem XRf_each {keep:Bool} {nm:List Nat} {Φ:Out->PS->Prop} {ps:List Nat} {xa xb:RC} {k:List Fm} {e:PE} {h:AH} {St:Nat->AH->Prop} {Fin:Out->AH->Prop} {bx M:Nat} (hM:M<=9000000000000000000) (h0:St 0 h)
 (open_:∀ i h,St i h->EachAt (RndH nm (wpc Tryd.prog keep nm xa) (wpc Tryd.prog keep nm xb) e ps) St Fin bx M i h)
 (hk:∀ out h',Fin out h'->h.length<=h'.length->XE Tryd.prog keep nm Φ out k e [] h' [mkD]):XRf Tryd.prog keep nm Φ (some (.func (.func 61) #[] #[.pointer (some ⟨bx,0,none⟩)])) ps xa xb k e h []:=by
 obtain ⟨out,h',h1,h2,h3⟩:=each_rng hM open_ h0;exact ⟨rfl,_,_,out,h',rfl,h1,h2,hk out h' h3 h2⟩
theorem RndH.ex {P:Program} {keep:Bool} {nm:List Nat} {e:PE} {ps:List Nat} {la:List RO} {xb:RC} {vs:List Value} {h:AH} {Q:Out->AH->Prop} (hl:vs.length=ps.length) (hps:∀ t∈ps,nm.contains t=true) (hn:∀ o∈la,∀ f vs,o.k ≠ .dfr f vs) (hq:∀ v h,¬ Q (.pan v) h)
 (hw:∀ Ψ:Out->PS->Prop,(∀ o e l hh ds,Q o hh->Ψ o ⟨e,l,hh,ds⟩)->XC P keep nm Ψ (.sq (.rg la) xb) [] (updps e ps vs) [] h []):∃ j h',RndH nm (wpc P keep nm (.rg la)) (wpc P keep nm xb) e ps vs h j h'/\h.length<=h'.length/\Q j h':=by
 obtain ⟨out,s',k1,k2,k3⟩:=wpc_one _ _ _ (hw (fun o s=>Q o s.h) (fun o e l hh ds h=>h));have hj:∀ v,out ≠ .pan v:=fun v e=>hq v s'.h (e ▸ k1)
 exact ⟨out,s'.h,RndH.asg hl hps hn hj (fun Ψ hΨ=>k3 Ψ (hΨ out s'.e s'.l s'.ds rfl)),k2,k1⟩
theorem RndH.go {P:Program} {keep:Bool} {nm:List Nat} {e:PE} {ps:List Nat} {la:List RO} {xb:RC} {vs:List Value} {h:AH} {A:AH->Prop} {B:Out->AH->Prop} (Q:Out->AH->Prop) (hl:vs.length=ps.length) (hps:∀ t∈ps,nm.contains t=true) (hn:∀ o∈la,∀ f vs,o.k ≠ .dfr f vs) (hq:∀ v h,¬ Q (.pan v) h)
 (hw:∀ Ψ:Out->PS->Prop,(∀ o e l hh ds,Q o hh->Ψ o ⟨e,l,hh,ds⟩)->XC P keep nm Ψ (.sq (.rg la) xb) [] (updps e ps vs) [] h []) (ha:∀ h',h.length<=h'.length->Q .norm h'->A h') (hb:∀ j h',h.length<=h'.length->j ≠ .norm->Q j h'->B j h') :
 ∃ j h',RndH nm (wpc P keep nm (.rg la)) (wpc P keep nm xb) e ps vs h j h'/\h.length<=h'.length/\(j = .norm->A h')/\(j ≠ .norm->B j h'):=by
 obtain ⟨j,h',h1,h2,h3⟩:=RndH.ex hl hps hn hq hw;exact ⟨j,h',h1,h2,fun e=>ha h' h2 (e ▸ h3),fun e=>hb j h' h2 e h3⟩
section
variable {h:AH} {b:Nat} {L:Lay} {S:HS}
theorem num_pre (ts:List (Int × Int)) (x:Int × Int):ts <+: num ts x:=by
 unfold num;split
 ·exact Z3 _
 ·exact List.prefix_append _ _
theorem meet_pre:∀ (ws ts:List (Int × Int)),ts <+: (S.meetT ws ts).1:=by
 intro ws
 induction ws with
 | nil=>intro ts;exact Z3 _
 | cons w ws ih =>
   intro ts;rw[HS.meetT]
   split
   ·refine List.IsPrefix.trans ?_ (ih _)
    split
    ·exact num_pre _ _
    ·exact Z3 _
   ·exact Z3 _
theorem bfs_end {n i:Nat} {ts:List (Int × Int)} {sd:Bool} (h:ts.length<=i):S.bfsT (n+1) i ts sd=(ts,sd):=by
 rw[HS.bfsT,List.getElem?_eq_none h]
theorem bfs_step {n i:Nat} {ts:List (Int × Int)} {sd:Bool} {w:Int × Int} (h:ts[i]?=some w):S.bfsT (n+1) i ts sd=if sd && (S.meetT (S.flds w) ts).2 then S.bfsT n (i+1) (S.meetT (S.flds w) ts).1 true else ((S.meetT (S.flds w) ts).1,false):=by
 rw[HS.bfsT,h]
structure Gb (h:AH) (b:Nat) (L:Lay) (S:HS) (bg bi bm:Nat) (v:Value) (ts:List (Int × Int)) (sd:Bool) (q6 qH:Nat):Prop where
 gr:Gr h b L S bg bi bm v ts sd
 o6:Own h q6 62 [.pointer (some ⟨bg,0,none⟩)]
 oH:Own h qH 30 [.pointer (some ⟨b,0,none⟩)]
 n6:¬ GOwns bg bi bm v q6
 nH:¬ GOwns bg bi bm v qH
theorem Gb.keepF {h h':AH} {b:Nat} {L:Lay} {S:HS} {bg bi bm:Nat} {v:Value} {ts:List (Int × Int)} {sd:Bool} {q6 qH:Nat} (g:Gb h b L S bg bi bm v ts sd q6 qH) (k:Keep (fun _=>False) h h'):Gb h' b L S bg bi bm v ts sd q6 qH :=
 ⟨g.gr.keepF k,g.o6.keep k (fun e=>e),g.oH.keep k (fun e=>e),g.n6,g.nH⟩
theorem gowns_new {h:AH} {bg bi bm:Nat} {v v':Value} (nv:∀ q,bk v' q->bk v q\/h.length<=q) {q:Nat} (e:GOwns bg bi bm v' q):GOwns bg bi bm v q\/h.length<=q:=by
 rcases e with e|e|e|e
 ·exact .inl (.inl e)
 ·exact .inl (.inr (.inl e))
 ·exact .inl (.inr (.inr (.inl e)))
 ·exact (nv q e).imp (fun e=>.inr (.inr (.inr e))) id
theorem Gb.meet {h h':AH} {b:Nat} {L:Lay} {S:HS} {bg bi bm:Nat} {v v':Value} {ts ts':List (Int × Int)} {sd sd':Bool} {q6 qH:Nat} (g:Gb h b L S bg bi bm v ts sd q6 qH) (k:Keep (GOwns bg bi bm v) h h') (g':Gr h' b L S bg bi bm v' ts' sd')
 (nv:∀ q,bk v' q->bk v q\/h.length<=q):Gb h' b L S bg bi bm v' ts' sd' q6 qH :=
 ⟨g',g.o6.keep k g.n6,g.oH.keep k g.nH,fun e=>(gowns_new nv e).elim g.n6 (fun e=>by have:=g.o6.lt;omega),fun e=>(gowns_new nv e).elim g.nH (fun e=>by have:=g.oH.lt;omega)⟩
set_option maxHeartbeats 1000000 in
theorem graphOf_ok (s:Hp h b L S) (v:Inv S) (hg:S.globals.length<=2000000) {u:Value} {roots:List (Int × Int)} (hu:Rds h 2 u roots.length (ww roots)) (hm:roots.length<=9000000000000000000) :
 Gets Tryd.prog 26 [.pointer (some ⟨b,0,none⟩),u] h (fun res h'=>Keep (fun _=>False) h h' /\ ∃ bg bi bm v',res = .ret (.tuple #[.pointer (some ⟨bg,0,none⟩),.bool (S.graph roots).2])/\Gr h' b L S bg bi bm v' (S.graph roots).1 (S.graph roots).2):=by
 refine Gets.ofI (keep:=false) hP hM k26 (by rfl) (fun Ψ hΨ=>?_);have oH:=Own.new h 30 h.length [.pointer (some ⟨b,0,none⟩)];have k1:Keep (fun _=>False) h (h++[row 30 h.length [.pointer (some ⟨b,0,none⟩)]]):=Keep.push _ _ _;have l1:(h++[row 30 h.length [.pointer (some ⟨b,0,none⟩)]]).length=h.length+1:=by simp
 simp only[ZG,↓reduceIte,ZA,ZB,ZC,r26,YE,YC,YO,YA,YL,YX,YS,Ya,Yb,Yl,Yf,Yg,Yi,Ym,Yk,Yt,Yn,Yz,Yp,Yq,Yd,mbl,ZD,ZE,ZF];generalize h++[row 30 h.length [.pointer (some ⟨b,0,none⟩)]]=h1 at oH k1 l1 ⊢;simp only[ZG,↓reduceIte,ZA,ZB,ZC,mbl,ZD,ZE,ZF,oH.cells.ld];refine XX_of (iNew_ok h1) (fun res h2 hle hn=>?_);obtain ⟨k2,bi,bm,rfl,ix,fi,fm,li,lm⟩:=hn;refine .ret ?_;have oH2:=oH.keep k2 (fun e=>e);have l2:=k2.len;have oG:=Own.new h2 101 h2.length [.pointer (some ⟨b,0,none⟩),.pointer (some ⟨bi,0,none⟩),.bool true];have k3:Keep (fun _=>False) h2 (h2++[row 101 h2.length [.pointer (some ⟨b,0,none⟩),.pointer (some ⟨bi,0,none⟩),.bool true]]):=Keep.push _ _ _;have l3:(h2++[row 101 h2.length [.pointer (some ⟨b,0,none⟩),.pointer (some ⟨bi,0,none⟩),.bool true]]).length=h2.length+1:=by simp
 simp only[ZG,↓reduceIte,ZA,ZB,ZC,mbl,ZD,ZE,ZF,ct1,oH2.cells.ld];generalize h2++[row 101 h2.length [.pointer (some ⟨b,0,none⟩),.pointer (some ⟨bi,0,none⟩),.bool true]]=h3 at oG k3 l3 ⊢;have o6:=Own.new h3 62 h3.length [.pointer none];have k4:Keep (fun _=>False) h3 (h3++[row 62 h3.length [.pointer none]]):=Keep.push _ _ _;have l4:(h3++[row 62 h3.length [.pointer none]]).length=h3.length+1:=by simp
 have oH3:=oH2.keep k3 (fun e=>e);generalize h3++[row 62 h3.length [.pointer none]]=h4 at o6 k4 l4 ⊢;have oH4:=oH3.keep k4 (fun e=>e);simp only[ZG,↓reduceIte,ZA,ZB,ZC,oH4.cells.ld,mbl,ZD,ZE,ZF];refine XH_own o6 rfl (by simp [Value.cells]) rfl (fun h5 q1 q2 q3=>?_);have o65:Own h5 h3.length 62 [.pointer (some ⟨h2.length,0,none⟩)]:=by simpa [Value.cells] using q1
 have k35:Keep (fun _=>False) h3 h5:=k4.trans' q2 (fun c hc e=>by omega);have k25:=k3.trans k35;have k15:=k2.trans k25;have k05:=k1.trans k15;have l5:h5.length=h.length+1+(h2.length-h1.length)+2:=by omega
 have oG5:=oG.keep k35 (fun e=>e);have oH5:=oH.keep k15 (fun e=>e);have g5:Gr h5 b L S h2.length bi bm (.slice none 0 0) [] true:=by
  refine ⟨s.keepF k05,v,oG5,ix.keep k25 (fun _ _ e=>e),?_,?_,.nil S⟩
  ·rintro (e|e|e)
   ·omega
   ·omega
   ·exact e
  ·rintro q (e|e|e|e)
   ·exact s.c0 q (by omega)
   ·exact s.c0 q (by omega)
   ·exact s.c0 q (by omega)
   ·exact e.elim
 have hfresh:∀ q,GOwns h2.length bi bm (.slice none 0 0) q->h.length<=q:=by
  rintro q (e|e|e|e)
  ·omega
  ·omega
  ·omega
  ·exact e.elim
 simp only[ZG,↓reduceIte,ZA,ZB,ZC,o65.cells.ld,mbl,ZD,ZE,ZF];refine XX_of (meet_ok g5 (hu.keep k05 (fun _ _ e=>e)) hm (fun q hq e=>by have:=hu.lt q hq;have:=hfresh q e;omega)) (fun res h6 hle6 hn6=>?_);obtain ⟨rfl,k6,v6,g6,n6⟩:=hn6;refine .ret ?_;have gb5:Gb h5 b L S h2.length bi bm (.slice none 0 0) [] true h3.length h.length:=by
  refine ⟨g5,o65,oH5,?_,fun e=>by have:=hfresh _ e;rcases e with e|e|e|e
                                  ·omega
                                  ·omega
                                  ·omega
                                  ·exact e⟩
  rintro (e|e|e|e)
  ·omega
  ·omega
  ·omega
  ·exact e.elim
 have gb6:=gb5.meet k6 g6 n6;have k06:Keep (fun _=>False) h h6:=k05.trans' k6 (fun c hc e=>by have:=hfresh c e;omega);simp only[ZG,↓reduceIte,ZA,ZB,ZC,gb6.o6.cells.ld,gb6.oH.cells.ld,mbl,ZD,ZE,ZF];refine XX_of (Globals_ok g6.hp (by omega)) (fun res h7 hle7 hn7=>?_);obtain ⟨k7,vg,rfl,og7,fg7⟩:=hn7;refine .ret ?_;have gb7:=gb6.keepF k7;simp only[ZG,↓reduceIte,ZA,ZB,ZC,ct1,gb7.o6.cells.ld,gb6.o6.cells.ld,gb6.oH.cells.ld,gb7.oH.cells.ld,mbl,ZD,ZE,ZF];have hd7:∀ q,rb vg q -> ¬ GOwns h2.length bi bm v6 q:=fun q hq e=>by have:=(fg7 q hq.bk).1;have:=gb6.gr.lt q e;omega
 refine XX_of (meet_ok gb7.gr og7.rds (by omega) hd7) (fun res h8 hle8 hn8=>?_);obtain ⟨rfl,k8,v8,g8,n8⟩:=hn8;refine .ret ?_;have gb8:=gb7.meet k8 g8 n8;have l6:=k06.len;have hfr6:∀ q,GOwns h2.length bi bm v6 q->h.length<=q:=fun q e=>(gowns_new n6 e).elim (hfresh q) (fun e=>by omega)
 have k08:Keep (fun _=>False) h h8:=(k06.trans k7).trans' k8 (fun c hc e=>by have:=hfr6 c e;omega);have hfr8:∀ q,GOwns h2.length bi bm v8 q->h.length<=q:=fun q e=>(gowns_new n8 e).elim (hfr6 q) (fun e=>by have:=k7.len;omega)
 simp only[Bool.true_and] at g8 gb8;simp only[ZG,↓reduceIte,ZA,ZB,ZC,ct1,gb8.o6.cells.ld,mbl,ZD,ZE,ZF];refine XX_of (each_ok gb8.gr.og.lt) (fun res h9 hle9 hn9=>?_);obtain ⟨k9,bx,tx,rfl,ox,fx⟩:=hn9;refine .ret ?_;have gb9:=gb8.keepF k9;simp only[ZG,↓reduceIte,ZA,ZB,ZC,XC_rf,rx_n,look_cons];refine XRf_each (M:=1048577) (St:=fun i h'=>∃ v1 ts sd,Gb h' b L S h2.length bi bm v1 ts sd h3.length h.length/\Own h' bx tx [.pointer (some ⟨h2.length,0,none⟩)] /\ ¬ GOwns h2.length bi bm v1 bx/\Keep (fun _=>False) h h'/\(∀ q,GOwns h2.length bi bm v1 q->h.length<=q) /\
  i<=ts.length/\S.bfsT (S.begins.length+1-i) i ts sd=S.graph roots)
  (Fin:=fun out h'=>(out = .norm\/out = .exit 0) /\ ∃ v1,Gb h' b L S h2.length bi bm v1 (S.graph roots).1 (S.graph roots).2 h3.length h.length/\Keep (fun _=>False) h h') (by omega)
  ⟨v8,_,_,gb9,ox,fun e=>by have:=gb8.gr.lt _ e;omega,k08.trans k9,hfr8,Nat.zero_le _,rfl⟩ ?_ ?_
 ·rintro i hh ⟨v1,ts,sd,gb,oxh,nx,kk,fr1,hi,hb⟩
  have hlen:=gb.gr.gd.len v;have hbg:=v.bg;refine ⟨by omega,tx,h2.length,_,_,bi,bm,v1,ts,oxh,gb.gr.og,gb.gr.ix,hi,fun he=>?_,fun w hw hx kx=>?_⟩
  ·rw[show S.begins.length+1-i=(S.begins.length-i)+1 by omega,bfs_end (by omega)] at hb
   refine ⟨.inl rfl,v1,?_,kk⟩;rw[<- hb];exact gb
  ·have hlt:i<ts.length:=(Z4.1 hw).1
   rw[show S.begins.length+1-i=(S.begins.length-i)+1 by omega,bfs_step hw] at hb;have gbx:=gb.keepF kx;refine RndH.go (fun o hz=>(o = .norm\/o = .exit 0) /\ ∃ v2,Gb hz b L S h2.length bi bm v2 (S.meetT (S.flds w) ts).1 (sd && (S.meetT (S.flds w) ts).2) h3.length h.length/\Keep (GOwns h2.length bi bm v1) hx hz/\(∀ q,bk v2 q->bk v1 q\/hx.length<=q)/\(o = .norm ↔ (sd && (S.meetT (S.flds w) ts).2)=true))
    rfl (by decide) (by intro o ho;simp only[List.mem_cons,List.not_mem_nil,or_false] at ho;rcases ho with rfl|rfl<;>(intro f vs e;cases e)) (by rintro v h ⟨e|e,_⟩<;>cases e) (fun Ψ hΨ=>?_) (fun hz hlz hQ=>?_) (fun j hz hlz hj hQ=>?_)
   ·simp only[ZG,↓reduceIte,ZA,ZB,ZC,updps]
    have oW:=Own.new hx 44 hx.length [iv 0,iv 0];have kp1:Keep (fun _=>False) hx (hx++[row 44 hx.length [iv 0,iv 0]]):=Keep.push _ _ _;generalize hx++[row 44 hx.length [iv 0,iv 0]]=hy at oW kp1 ⊢;refine XH_own oW rfl (by simp [Value.cells,wv]) rfl (fun hy2 p1 p2 p3=>?_);have oW2:Own hy2 hx.length 44 [iv w.1,iv w.2]:=by simpa [Value.cells,wv] using p1
    have kp2:Keep (fun _=>False) hx hy2:=kp1.trans' p2 (fun c hc e=>by omega);have gby:=gbx.keepF kp2;simp only[ZG,↓reduceIte,ZA,ZB,ZC,gby.oH.cells.ld,oW2.cells.lds 0 2 (by simp),mbl,ZD,ZE,ZF];refine XX_of (Fields_ok gby.gr.hp v.ok w) (fun res hy3 hle3 hn3=>?_);obtain ⟨k3',hn3⟩:=hn3;have hl:=(gbx.gr.gd.1 w (List.mem_of_getElem? hw)).1;rw[if_pos hl] at hn3;obtain ⟨vf,rfl,of,ff⟩:=hn3;refine .ret ?_;have gby3:=gby.keepF k3';simp only[ZG,↓reduceIte,ZA,ZB,ZC,gby3.o6.cells.ld,mbl,ZD,ZE,ZF];have hfl:(S.flds w).length<=9000000000000000000:=by
     have:=v.ok.fc hl (by have:=v.ln;have:=v.sz;omega);simp [HS.flds];omega
    refine XX_of (meet_ok gby3.gr of.rds hfl (fun q hq e=>by have:=(ff q hq.bk).1;have:=gby.gr.lt q e;omega)) (fun res hy4 hle4 hn4=>?_);obtain ⟨rfl,k4',v4,g4',n4⟩:=hn4;refine .ret ?_;have gb4:=gby3.meet k4' g4' n4;have kx4:Keep (GOwns h2.length bi bm v1) hx hy4:=((kp2.trans k3').mono (fun _ e=>e.elim)).trans k4';have lx4:=(kp2.trans k3').len;simp only[ZG,↓reduceIte,ZA,ZB,ZC,gb4.o6.cells.ld,gb4.gr.og.cells.ld,mbl,ZD,ZE,ZF]
    by_cases hc:(sd && (S.meetT (S.flds w) ts).2)=true
    ·rw[hc]
     simp only[ZG,↓reduceIte,ZA,ZB,ZC];exact hΨ _ _ _ _ _ ⟨.inl rfl,v4,gb4,kx4,fun q e=>(n4 q e).imp id (fun e=>by omega),by simp [hc]⟩
    ·rw[show (sd && (S.meetT (S.flds w) ts).2)=false by simpa using hc]
     simp only[ZG,↓reduceIte,ZA,ZB,ZC];exact hΨ _ _ _ _ _ ⟨.inr rfl,v4,gb4,kx4,fun q e=>(n4 q e).imp id (fun e=>by omega),by simp [hc]⟩
   ·obtain ⟨_,v2,gb2,k2,n2,hiff⟩:=hQ
    have hc:=hiff.1 rfl;rw[hc] at gb2;rw[if_pos hc] at hb;have lx:=(kk.trans kx).len;refine ⟨v2,_,_,gb2,(oxh.keep kx (fun e=>e)).keep k2 nx,fun e=>(gowns_new n2 e).elim nx (fun e=>by have:=oxh.lt;have:=kx.len;omega),(kk.trans kx).trans' k2 (fun c hc e=>by have:=fr1 c e;omega),fun q e=>(gowns_new n2 e).elim (fr1 q) (fun e=>by omega),?_,?_⟩
    ·have:=(meet_pre (S:=S) (S.flds w) ts).length_le;omega
    ·rw[show S.begins.length+1-(i+1)=S.begins.length-i by omega];exact hb
   ·obtain ⟨ho,v2,gb2,k2,n2,hiff⟩:=hQ
    have hc:¬ (sd && (S.meetT (S.flds w) ts).2)=true:=fun e=>hj (hiff.2 e)
    rw[if_neg hc] at hb;have hc2:(sd && (S.meetT (S.flds w) ts).2)=false:=by simpa using hc
    rw[hc2] at gb2;refine ⟨ho,v2,?_,(kk.trans kx).trans' k2 (fun c hc e=>by have:=fr1 c e;omega)⟩;rw[<- hb];exact gb2
 ·rintro out h' ⟨ho,v1,gb,kk⟩ hle
  rcases ho with rfl|rfl
  ·simp only[ZG,↓reduceIte,ZA,ZB,ZC,gb.o6.cells.ld,gb.gr.og.cells.ld,mbl,ZD,ZE,ZF]
   exact hΨ _ _ (finI_ret (.inr rfl) (rv2 rfl rfl ⟨kk,_,_,_,_,rfl,gb.gr⟩))
  ·simp only[ZG,↓reduceIte,ZA,ZB,ZC,gb.o6.cells.ld,gb.gr.og.cells.ld,mbl,ZD,ZE,ZF]
   exact hΨ _ _ (finI_ret (.inr rfl) (rv2 rfl rfl ⟨kk,_,_,_,_,rfl,gb.gr⟩))
end
end Go.S19
