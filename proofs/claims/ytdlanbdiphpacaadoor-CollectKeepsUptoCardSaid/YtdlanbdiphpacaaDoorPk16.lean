import Derived.Test.YtdlanbdiphpacaaDoorPk12
import Derived.Test.YtdlanbdiphpacaaDoorPk15
set_option linter.unusedVariables false
set_option linter.unusedSimpArgs false
open Nat renaming reduceEqDiff -> ZA,reduceAdd -> ZB,reduceMul -> ZC,reduceLeDiff -> ZD,reduceLT -> ZE
open Int renaming reduceEq -> ZF
open List renaming getElem?_eq_getElem->Z0
open Int renaming toNat_natCast->Z1
namespace Go.Chk
open Go Go.Eng
structure Inf where
 k:Int
 a:Int
 f:Int
 c:Int
def Inf.cells (i:Inf):List Int:=[i.k,i.a,i.f,i.c]
theorem Inf.len (i:Inf):i.cells.length=4:=rfl
def wayC (x:Int × Int):List Int:=[x.1,x.2]
structure Cx where
 infos:List Inf
 code:List Int
 nt:Nat
 tops:List Int
 main:Int
 cons:List Int
def cn (C:Cx) (c:Int):Int:=C.cons.getD c.toNat 0
def fr (C:Cx) (i:Int):Int:=(C.infos[i.toNat]?.map Inf.f).getD 0
variable (C:Cx)
def nx (p:Nat):Option (Int × Nat):=match C.code[p]? with
 | some x=>some (x,p+1)
 | none=>none
def bl (n:Int) (p:Nat):Option (Int × Nat):=match nx C p with
 | some (x,q)=>if 0<=x/\x<n then some (x,q) else none
 | none=>none
def exc (n:Int) (p:Nat):Option Nat:=match nx C p with
 | some (x,q)=>if x=n then some q else none
 | none=>none
def sn (x:Option (Int × Nat)):Option Nat:=match x with
 | some (_,q)=>some q
 | none=>none
def oprnd (s w:Int) (p:Nat):Option Nat:=match nx C p with
 | none=>none
 | some (k,q) =>
   if k=0 then sn (bl C s q) else if k=1 then sn (bl C w q) else if k=2 then sn (bl C C.tops.length q) else if k=3 then sn (nx C q)
   else if k=4 then (match bl C C.cons.length q with
    | some (c,r)=>if cn C c=0 then some r else none
    | none=>none) else none
def oprnds (s w:Int):Nat->Nat->Option Nat
 | 0,p=>some p
 | n+1,p=>match oprnd C s w p with
   | some q=>oprnds s w n q
   | none=>none
def flds (s w:Int) (p:Nat):Option Nat:=match bl C C.cons.length p with
 | none=>none
 | some (c,q)=>if 0<cn C c then (match exc C (cn C c) q with
  | some r=>oprnds C s w (cn C c).toNat r
  | none=>none) else none
def thing (s w:Int) (p:Nat):Option Nat:=match nx C p with
 | none=>none
 | some (k,q) =>
   if k=0 then (match bl C C.infos.length q with
    | some (i,r)=>(match exc C (fr C i) r with
      | some t=>oprnds C s w (fr C i).toNat t
      | none=>none)
    | none=>none)
   else if k=1 then flds C s w q
   else if k=2 then (match bl C C.nt q with
    | some (_,r)=>exc C 0 r
    | none=>none)
   else if k=3 then (match bl C C.cons.length q with
    | some (c,r)=>if cn C c=0 then exc C 0 r else none
    | none=>none)
   else if k=4 then (match nx C q with
    | some (_,r)=>exc C 0 r
    | none=>none)
   else none
def things (s w:Int):Nat->Nat->Option Nat
 | 0,p=>some p
 | n+1,p=>match thing C s w p with
   | some q=>things s w n q
   | none=>none
def way (last:Bool) (p:Nat):Option ((Int × Int) × Nat):=match nx C p with
 | none=>none
 | some (k,q) =>
   let v:Option (Int × Nat) :=
    if k=1 then (match bl C C.cons.length q with
     | some (c,r)=>(match exc C (cn C c) r with
       | some t=>some (cn C c,t)
       | none=>none)
     | none=>none)
    else if k=2 then (match nx C q with
     | some (_,r)=>(match exc C 0 r with
       | some t=>some (0,t)
       | none=>none)
     | none=>none)
    else if k=3 then (if last then (match exc C 0 q with
     | some r=>bl C 2 r
     | none=>none) else none)
    else none
   match v with
   | some (n,t)=>(match nx C t with
     | some (a,u)=>some ((n,a),u)
     | none=>none)
   | none=>none
def wys:Nat->Nat->Option (List (Int × Int) × Nat)
 | 0,p=>some ([],p)
 | k+1,p=>match way C (k == 0) p with
   | some (x,q)=>(match wys k q with
     | some (l,r)=>some (x::l,r)
     | none=>none)
   | none=>none
def runs (E:Int->Nat->Option Nat) (s:Int):List (Int × Int)->Nat->Option Nat
 | [],p=>some p
 | (v,a)::l,p=>if (p:Int)=a then (match E (IntKind.i64.wrap (s+v)) p with
  | some q=>runs E s l q
  | none=>none) else none
def brn (E:Int->Nat->Option Nat) (s:Int) (p:Nat):Option Nat:=match exc C 7 p with
 | none=>none
 | some q=>match bl C 200000 q with
   | none=>none
   | some (n,r)=>if 0<n then (match wys C n.toNat r with
    | some (l,t)=>runs E s l t
    | none=>none) else none
def arg1 (o:Int):Int:=if o=12 then 1 else if o=13 then 1 else 2
def expr:Nat->Int->Int->Nat->Option Nat
 | 0,_,_,_=>none
 | f+1,s,w,p=>match nx C p with
   | none=>none
   | some (k,q) =>
     if k=1 then oprnd C s w q
     else if k=2 then (match bl C 9 q with
      | some (n,r)=>if 0<n then oprnds C s w (n+1).toNat r else none
      | none=>none)
     else if k=3 then flds C s w q
     else if k=4 then (match bl C 14 q with
      | some (o,r)=>if 1<=o then (match exc C (arg1 o) r with
       | some t=>oprnds C s w (arg1 o).toNat t
       | none=>none) else none
      | none=>none)
     else if k=5 then (match bl C 200000 q with
      | some (n,r)=>if 0<n then (match things C (IntKind.i64.wrap (s+n)) w n.toNat r with
       | some t=>expr f (IntKind.i64.wrap (s+n)) w t
       | none=>none) else none
      | none=>none)
     else if k=6 then (match nx C q with
      | some (a,r)=>(match expr f s w r with
        | some t=>if (t:Int)=a then brn C (fun s' p'=>expr f s' w p') s t else none
        | none=>none)
      | none=>none)
     else if k=8 then (match bl C 2 q with
      | some (n,r)=>oprnds C s w n.toNat r
      | none=>none)
     else if k=9 then sn (bl C C.nt q)
     else none
def infoOk (i:Inf) (p:Nat):Prop:=((i.k=2/\i.a=0)\/(i.k=1/\0<i.a/\i.a<=8))/\0<=i.f/\i.c=p
instance (i:Inf) (p:Nat):Decidable (infoOk i p):=by unfold infoOk;infer_instance
def blocks (F:Nat):List Inf->Nat->Option (List Nat × Nat)
 | [],p=>some ([],p)
 | i::l,p=>if infoOk i p then (match expr C F i.a i.f p with
     | some q=>(match blocks F l q with
       | some (e,r)=>some (q::e,r)
       | none=>none)
     | none=>none) else none
def headOk:Prop:=0<=C.main/\C.main<C.tops.length/\C.tops.length<=C.infos.length/\C.code.length<=200000
instance:Decidable (headOk C):=by unfold headOk;infer_instance
def consOk:Prop:=∀ c∈C.cons,0<=c/\c<=8
instance:Decidable (consOk C):=by unfold consOk;infer_instance
def topOk (i:Nat):Prop:=C.tops[i]?=some (i:Int)/\(C.infos[i]?.map Inf.f)=some 0
instance (i:Nat):Decidable (topOk C i):=by unfold topOk;infer_instance
def topsOk:Prop:=∀ i,i<C.tops.length->topOk C i
instance:Decidable (topsOk C):=by unfold topsOk;infer_instance
def ends:Option (List Nat) :=
 if headOk C/\consOk C/\topsOk C then (match blocks C (C.code.length+1) C.infos 0 with
  | some (e,r)=>if r=C.code.length then some e else none
  | none=>none) else none
variable {C}
theorem cn_at {c:Int} (h0:0<=c) (h1:c<C.cons.length):C.cons[c.toNat]?=some (cn C c):=by
 rw[cn,List.getD_eq_getElem?_getD,Z0 (show c.toNat<C.cons.length by omega)];rfl
theorem fr_at {i:Int} (h0:0<=i) (h1:i<C.infos.length):∃ x,C.infos[i.toNat]?=some x/\x.f=fr C i:=by
 have h2:i.toNat<C.infos.length:=by omega
 exact ⟨C.infos[i.toNat],Z0 h2,by rw[fr,Z0 h2];rfl⟩
theorem nx_inv {p q:Nat} {x:Int} (h:nx C p=some (x,q)):q=p+1/\C.code[p]?=some x/\p<C.code.length:=by
 unfold nx at h
 split at h
 ·rename_i y hy;cases h;exact ⟨rfl,hy,(List.getElem?_eq_some_iff.1 hy).1⟩
 ·cases h
theorem bl_inv {n x:Int} {p q:Nat} (h:bl C n p=some (x,q)):q=p+1/\C.code[p]?=some x/\p<C.code.length/\0<=x/\x<n:=by
 unfold bl at h
 split at h
 ·rename_i y r hy
  obtain ⟨h1,h2,h3⟩:=nx_inv hy
  split at h
  ·rename_i hc;cases h;exact ⟨h1,h2,h3,hc⟩
  ·cases h
 ·cases h
theorem exc_inv {n:Int} {p q:Nat} (h:exc C n p=some q):q=p+1/\C.code[p]?=some n/\p<C.code.length:=by
 unfold exc at h
 split at h
 ·rename_i y r hy
  obtain ⟨h1,h2,h3⟩:=nx_inv hy
  split at h
  ·rename_i hc;cases h;subst hc;exact ⟨h1,h2,h3⟩
  ·cases h
 ·cases h
theorem sn_inv {x:Option (Int × Nat)} {q:Nat} (h:sn x=some q):∃ n,x=some (n,q):=by
 unfold sn at h
 split at h
 ·cases h;exact ⟨_,rfl⟩
 ·cases h
def On (C:Cx) (p:Nat) (x:Option Nat):Prop:=∀ q,x=some q->p<q/\q<=C.code.length
def Onn (C:Cx) (p:Nat) (x:Option Nat):Prop:=∀ q,x=some q->p<=q/\q<=C.code.length
theorem nx_on {p:Nat} {x:Int} {q:Nat} (h:nx C p=some (x,q)):p<q/\q<=C.code.length:=by obtain ⟨rfl,_,h⟩:=nx_inv h;omega
theorem bl_on {p:Nat} {n x:Int} {q:Nat} (h:bl C n p=some (x,q)):p<q/\q<=C.code.length:=by obtain ⟨rfl,_,h,_⟩:=bl_inv h;omega
theorem exc_on {p:Nat} {n:Int} {q:Nat} (h:exc C n p=some q):p<q/\q<=C.code.length:=by obtain ⟨rfl,_,h⟩:=exc_inv h;omega
theorem oprnd_on {s w:Int} {p:Nat}:On C p (oprnd C s w p):=by
 intro q h;unfold oprnd at h
 split at h
 ·cases h
 ·rename_i k q0 h0
  have:=nx_on h0
  split at h
  ·obtain ⟨n,hn⟩:=sn_inv h;have:=bl_on hn;omega
  ·split at h
   ·obtain ⟨n,hn⟩:=sn_inv h;have:=bl_on hn;omega
   ·split at h
    ·obtain ⟨n,hn⟩:=sn_inv h;have:=bl_on hn;omega
    ·split at h
     ·obtain ⟨n,hn⟩:=sn_inv h;have:=nx_on hn;omega
     ·split at h
      ·split at h
       ·rename_i c r hb
        have:=bl_on hb
        split at h
        ·cases h;omega
        ·cases h
       ·cases h
      ·cases h
theorem oprnds_on {s w:Int}:∀ (n:Nat) {p:Nat},p<=C.code.length->Onn C p (oprnds C s w n p):=by
 intro n
 induction n with
 | zero=>intro p hp q h;cases h;omega
 | succ n ih =>
   intro p hp q h;simp only[oprnds] at h
   split at h
   ·rename_i r hr
    have h1:=oprnd_on r hr;have:=ih h1.2 q h;omega
   ·cases h
theorem flds_on {s w:Int} {p:Nat}:On C p (flds C s w p):=by
 intro q h;unfold flds at h
 split at h
 ·cases h
 ·rename_i c q0 h0
  have:=bl_on h0
  split at h
  ·split at h
   ·rename_i r hr
    have h1:=exc_on hr;have:=oprnds_on _ h1.2 q h;omega
   ·cases h
  ·cases h
theorem thing_on {s w:Int} {p:Nat}:On C p (thing C s w p):=by
 intro q h;unfold thing at h
 split at h
 ·cases h
 ·rename_i k q0 h0
  have:=nx_on h0
  split at h
  ·split at h
   ·rename_i i r hb
    have:=bl_on hb
    split at h
    ·rename_i t ht
     have h1:=exc_on ht;have:=oprnds_on _ h1.2 q h;omega
    ·cases h
   ·cases h
  ·split at h
   ·have:=flds_on q h;omega
   ·split at h
    ·split at h
     ·rename_i r hb;have:=bl_on hb;have:=exc_on h;omega
     ·cases h
    ·split at h
     ·split at h
      ·rename_i c r hb
       have:=bl_on hb
       split at h
       ·have:=exc_on h;omega
       ·cases h
      ·cases h
     ·split at h
      ·split at h
       ·rename_i r hb;have:=nx_on hb;have:=exc_on h;omega
       ·cases h
      ·cases h
theorem things_on {s w:Int}:∀ (n:Nat) {p:Nat},p<=C.code.length->Onn C p (things C s w n p):=by
 intro n
 induction n with
 | zero=>intro p hp q h;cases h;omega
 | succ n ih =>
   intro p hp q h;simp only[things] at h
   split at h
   ·rename_i r hr
    have h1:=thing_on r hr;have:=ih h1.2 q h;omega
   ·cases h
theorem way_on {b:Bool} {p:Nat} {x:Int × Int} {q:Nat} (h:way C b p=some (x,q)):p<q/\q<=C.code.length:=by
 unfold way at h
 split at h
 ·cases h
 ·rename_i k q0 h0
  have h1:=nx_on h0;simp only at h
  split at h
  ·rename_i n t hv
   split at h
   ·rename_i a u hu
    cases h;have h2:=nx_on hu;have h3:q0<t:=by
     split at hv
     ·split at hv
      ·rename_i c r hb
       have:=bl_on hb
       split at hv
       ·rename_i t' ht;cases hv;have:=exc_on ht;omega
       ·cases hv
      ·cases hv
     ·split at hv
      ·split at hv
       ·rename_i r hb
        have:=nx_on hb
        split at hv
        ·rename_i t' ht;cases hv;have:=exc_on ht;omega
        ·cases hv
       ·cases hv
      ·split at hv
       ·split at hv
        ·split at hv
         ·rename_i r hr;have:=exc_on hr;have:=bl_on hv;omega
         ·cases hv
        ·cases hv
       ·cases hv
    omega
   ·cases h
  ·cases h
theorem wys_on:∀ (n:Nat) {p:Nat} {l:List (Int × Int)} {q:Nat},p<=C.code.length->wys C n p=some (l,q)->p<=q/\q<=C.code.length/\l.length=n:=by
 intro n
 induction n with
 | zero=>intro p l q hp h;cases h;simp [hp]
 | succ n ih =>
   intro p l q hp h;simp only[wys] at h
   split at h
   ·rename_i x r hr
    have h1:=way_on hr
    split at h
    ·rename_i l' r' hr'
     cases h;have:=ih h1.2 hr';simp [this.2.2];omega
    ·cases h
   ·cases h
theorem runs_on {E:Int->Nat->Option Nat} {s:Int} (hE:∀ s' p',p'<=C.code.length->On C p' (E s' p')):∀ (l:List (Int × Int)) {p:Nat},p<=C.code.length->Onn C p (runs E s l p):=by
 intro l
 induction l with
 | nil=>intro p hp q h;cases h;omega
 | cons x l ih =>
   obtain ⟨v,a⟩:=x;intro p hp q h;simp only[runs] at h
   split at h
   ·split at h
    ·rename_i r hr
     have h1:=hE _ _ hp r hr;have:=ih h1.2 q h;omega
    ·cases h
   ·cases h
theorem brn_on {E:Int->Nat->Option Nat} {s:Int} (hE:∀ s' p',p'<=C.code.length->On C p' (E s' p')) {p:Nat}:On C p (brn C E s p):=by
 intro q h;unfold brn at h
 split at h
 ·cases h
 ·rename_i q0 h0
  have:=exc_on h0
  split at h
  ·cases h
  ·rename_i n r hb
   have h2:=bl_on hb
   split at h
   ·split at h
    ·rename_i l t hw
     have h3:=wys_on _ h2.2 hw;have:=runs_on hE l h3.2.1 q h;omega
    ·cases h
   ·cases h
theorem expr_on {w:Int}:∀ (f:Nat) (s:Int) (p:Nat),On C p (expr C f s w p):=by
 intro f
 induction f with
 | zero=>intro s p q h;cases h
 | succ f ih =>
   intro s p q h;simp only[expr] at h
   split at h
   ·cases h
   ·rename_i k q0 h0
    have h1:=nx_on h0
    split at h
    ·have:=oprnd_on q h;omega
    ·split at h
     ·split at h
      ·rename_i n r hb
       have h2:=bl_on hb
       split at h
       ·have:=oprnds_on _ h2.2 q h;omega
       ·cases h
      ·cases h
     ·split at h
      ·have:=flds_on q h;omega
      ·split at h
       ·split at h
        ·rename_i o r hb
         have h2:=bl_on hb
         split at h
         ·split at h
          ·rename_i t ht
           have h3:=exc_on ht;have:=oprnds_on _ h3.2 q h;omega
          ·cases h
         ·cases h
        ·cases h
       ·split at h
        ·split at h
         ·rename_i n r hb
          have h2:=bl_on hb
          split at h
          ·split at h
           ·rename_i t ht
            have h3:=things_on _ h2.2 t ht;have:=ih _ _ q h;omega
           ·cases h
          ·cases h
         ·cases h
        ·split at h
         ·split at h
          ·rename_i a r hb
           have h2:=nx_on hb
           split at h
           ·rename_i t ht
            have h3:=ih _ _ t ht
            split at h
            ·have:=brn_on (fun s' p' _=>ih s' p') q h;omega
            ·cases h
           ·cases h
          ·cases h
         ·split at h
          ·split at h
           ·rename_i n r hb
            have h2:=bl_on hb;have:=oprnds_on _ h2.2 q h;omega
           ·cases h
          ·split at h
           ·obtain ⟨n,hn⟩:=sn_inv h;have:=bl_on hn;omega
           ·cases h
end Go.Chk

namespace Go.S19
open Go Go.Eng Go.Proofs Go.Chk
theorem hP:noGoroutines Tryd.prog=true:=by kernel_rfl
theorem hM:Tryd.prog.follows .mixedOrders=true:=by kernel_rfl
structure Img (h:AH) (C:Cx) (vi vc vt vp vk:Value):Prop where
 ri:Rds h 4 vi C.infos.length (rowsOf Inf.cells C.infos)
 rc:Rds h 1 vc C.code.length (ns C.code)
 rt:∃ a c,vt = .slice a C.nt c
 rp:Rds h 1 vp C.tops.length (ns C.tops)
 rk:Rds h 1 vk C.cons.length (ns C.cons)
theorem Img.keep {S:Nat->Prop} {h h':AH} {C:Cx} {vi vc vt vp vk:Value} (s:Img h C vi vc vt vp vk) (k:Keep S h h') (hs:∀ q,(rb vi q\/rb vc q\/rb vp q\/rb vk q) -> ¬ S q):Img h' C vi vc vt vp vk :=
 ⟨s.ri.keep k (fun q e=>hs q (.inl e)),s.rc.keep k (fun q e=>hs q (.inr (.inl e))),s.rt,s.rp.keep k (fun q e=>hs q (.inr (.inr (.inl e)))),s.rk.keep k (fun q e=>hs q (.inr (.inr (.inr e))))⟩
theorem Img.lt {h:AH} {C:Cx} {vi vc vt vp vk:Value} (s:Img h C vi vc vt vp vk):∀ q,(rb vi q\/rb vc q\/rb vp q\/rb vk q)->q<h.length:=by
 rintro q (e|e|e|e)
 ·exact s.ri.lt q e
 ·exact s.rc.lt q e
 ·exact s.rp.lt q e
 ·exact s.rk.lt q e
structure Rdr (h:AH) (b:Nat) (C:Cx) (vi vc vt vp vk:Value) (p:Nat):Prop where
 own:Own h b 132 [vi,vc,vt,vp,iv C.main,vk,iv p]
 im:Img h C vi vc vt vp vk
 ne:∀ q,(rb vi q\/rb vc q\/rb vp q\/rb vk q)->q≠b
 hl:C.code.length<=200000
theorem Rdr.keep {S:Nat->Prop} {h h':AH} {b:Nat} {C:Cx} {vi vc vt vp vk:Value} {p:Nat} (s:Rdr h b C vi vc vt vp vk p) (k:Keep S h h') (hs:∀ q,(q=b\/rb vi q\/rb vc q\/rb vp q\/rb vk q) -> ¬ S q):Rdr h' b C vi vc vt vp vk p :=
 ⟨s.own.keep k (hs _ (.inl rfl)),s.im.keep k (fun q e=>hs q (.inr e)),s.ne,s.hl⟩
def RdO (h:AH) (b:Nat) (C:Cx) (vi vc vt vp vk:Value) (x:Option Nat) (res:Res) (h':AH):Prop :=
 Keep (· = b) h h'/\match x with
 | some q=>res = .ret (.tuple #[])/\Rdr h' b C vi vc vt vp vk q
 | none=>∃ v:{v:Value // v = .agg #[]},res = .pan (.iface 126 v.1)
def RdN (h:AH) (b:Nat) (C:Cx) (vi vc vt vp vk:Value) (x:Option (Int × Nat)) (res:Res) (h':AH):Prop :=
 Keep (· = b) h h'/\match x with
 | some (n,q)=>res = .ret (iv n)/\Rdr h' b C vi vc vt vp vk q
 | none=>∃ v:{v:Value // v = .agg #[]},res = .pan (.iface 126 v.1)
theorem must_true (h:AH):Gets Tryd.prog 75 [.bool true] h (fun res h'=>h'=h/\res = .ret (.tuple #[])):=by
 refine Gets.of (keep:=false) hP (draw_ok hM) k75 (by rfl) (fun Ψ hΨ=>?_);simp only[ZG,↓reduceIte,ZA,ZB,ZC,r75,YE,YC,YO,YA,YL,YX,YS,Ya,Yb,Yl,Yf,Yg,Yi,Ym,Yk,Yt,Yn,Yz,Yp,Yq,Yd];exact hΨ _ _ (fin_norm ⟨rfl,rfl⟩)
theorem must_false (h:AH):Gets Tryd.prog 75 [.bool false] h (fun res h'=>h'=h /\ ∃ v:{v:Value // v = .agg #[]},res = .pan (.iface 126 v.1)):=by
 refine Gets.of (keep:=false) hP (draw_ok hM) k75 (by rfl) (fun Ψ hΨ=>?_);simp only[ZG,↓reduceIte,ZA,ZB,ZC,r75,YE,YC,YO,YA,YL,YX,YS,Ya,Yb,Yl,Yf,Yg,Yi,Ym,Yk,Yt,Yn,Yz,Yp,Yq,Yd,mbl,ZD,ZE,ZF];exact hΨ _ _ (fin_pan ⟨rfl,⟨_,rfl⟩,rfl⟩)
section
variable {h:AH} {b:Nat} {C:Cx} {vi vc vt vp vk:Value} {p:Nat}
theorem next_ok (s:Rdr h b C vi vc vt vp vk p):Gets Tryd.prog 86 [.pointer (some ⟨b,0,none⟩)] h (RdN h b C vi vc vt vp vk (nx C p)):=by
 refine Gets.of (keep:=false) hP (draw_ok hM) k86 (by rfl) (fun Ψ hΨ=>?_);obtain ⟨ca,cc,hvc⟩:=row_shape s.im.rc;have hl:=s.hl
 by_cases hp:p<C.code.length
 ·have hp':(p:Int)<(C.code.length:Int):=by omega
  have hw:IntKind.i64.wrap ((p:Int)+1)=((p+1:Nat):Int):=by rw[i64w (by omega) (by omega)];omega
  have hw2:IntKind.i64.wrap (((p+1:Nat):Int)-1)=(p:Int):=by rw[i64w (by omega) (by omega)];omega
  have hx:C.code[(p:Int).toNat]?=some C.code[p]:=by rw[Z1];exact Z0 hp
  obtain ⟨b1,o1,c1,e1,hlt,hld⟩:=rds_ix s.im.rc (by omega) hx;rw[Z1] at hld;simp only[ZG,↓reduceIte,ZA,ZB,ZC,r86,YE,YC,YO,YA,YL,YX,YS,Ya,Yb,Yl,Yf,Yg,Yi,Ym,Yk,Yt,Yn,Yz,Yp,Yq,Yd,s.own.cells.ld,mbl,ZD,ZE,ZF,e1,hp'];refine XX_val (must_true h) ?_;simp only[ZG,↓reduceIte,ZA,ZB,ZC,s.own.cells.ld,mbl,ZD,ZE,ZF,hw];refine XH_own s.own rfl (by simp [Value.cells]) rfl (fun h' q1 q2 q3=>?_);have o':Own h' b 132 [vi,vc,vt,vp,iv C.main,vk,iv ((p+1:Nat):Int)]:=by simpa [Value.cells] using q1
  have h0:0<=(p:Int):=by omega
  have hld':ldc h' b1 (o1+p)=some (iv C.code[p]):=by
   obtain ⟨b2,o2,c2,e2,_,hld2⟩:=rds_ix (s.im.rc.keep q2 (fun q e=>s.ne q (.inr (.inl e)))) (by omega) hx;rw[e1] at e2;cases e2;rw[Z1] at hld2;exact hld2
  simp only[ZG,↓reduceIte,ZA,ZB,ZC,o'.cells.ld,mbl,ZD,ZE,ZF,hw2,e1,h0,hp',and_self,Z1,Nat.mul_one,hld'];refine hΨ _ _ (fin_ret (rv1 rfl ⟨q2,?_⟩));rw[show nx C p=some (C.code[p],p+1) by unfold nx;rw[Z0 hp]];exact ⟨rfl,o',s.im.keep q2 s.ne,s.ne,s.hl⟩
 ·have hp':¬ (p:Int)<(C.code.length:Int):=by omega
  simp only[ZG,↓reduceIte,ZA,ZB,ZC,r86,YE,YC,YO,YA,YL,YX,YS,Ya,Yb,Yl,Yf,Yg,Yi,Ym,Yk,Yt,Yn,Yz,Yp,Yq,Yd,s.own.cells.ld,mbl,ZD,ZE,ZF,hvc,hp'];refine XX_of (must_false h) (fun res h' hle hn=>?_);obtain ⟨rfl,v,rfl⟩:=hn;refine .pan ?_;simp only[ZG,↓reduceIte,ZA,ZB,ZC];refine hΨ _ _ (fin_pan ⟨.refl _ _,?_⟩);rw[show nx C p=none by unfold nx;rw[List.getElem?_eq_none (by omega)]];exact ⟨_,rfl⟩
theorem below_ok (s:Rdr h b C vi vc vt vp vk p) (n:Int):Gets Tryd.prog 88 [.pointer (some ⟨b,0,none⟩),iv n] h (RdN h b C vi vc vt vp vk (bl C n p)):=by
 refine Gets.of (keep:=false) hP (draw_ok hM) k88 (by rfl) (fun Ψ hΨ=>?_);simp only[ZG,↓reduceIte,ZA,ZB,ZC,r88,YE,YC,YO,YA,YL,YX,YS,Ya,Yb,Yl,Yf,Yg,Yi,Ym,Yk,Yt,Yn,Yz,Yp,Yq,Yd];refine XX_of (next_ok s) (fun res h' hle hn=>?_);obtain ⟨kp,hn⟩:=hn;cases hx:nx C p with
 | none =>
   rw[hx] at hn;obtain ⟨v,rfl⟩:=hn;refine .pan ?_;simp only[ZG,↓reduceIte,ZA,ZB,ZC];exact hΨ _ _ (fin_pan ⟨kp,by rw[bl,hx];exact ⟨_,rfl⟩⟩)
 | some xq =>
   obtain ⟨x,q⟩:=xq;rw[hx] at hn;obtain ⟨rfl,s'⟩:=hn;refine .ret ?_
   by_cases hc:0<=x/\x<n
   ·simp only[ZG,↓reduceIte,ZA,ZB,ZC,hc]
    refine XX_val (must_true h') ?_;simp only[ZG,↓reduceIte,ZA,ZB,ZC];exact hΨ _ _ (fin_ret (rv1 rfl ⟨kp,by rw[bl,hx];simp only[hc,and_self,if_true];exact ⟨rfl,s'⟩⟩))
   ·by_cases h0:0<=x
    ·have h1:¬ x<n:=fun e=>hc ⟨h0,e⟩
     simp only[ZG,↓reduceIte,ZA,ZB,ZC,h0,h1];refine XX_of (must_false h') (fun res h2 hle hn=>?_);obtain ⟨rfl,v,rfl⟩:=hn;refine .pan ?_;simp only[ZG,↓reduceIte,ZA,ZB,ZC];exact hΨ _ _ (fin_pan ⟨kp,by rw[bl,hx];simp only[hc,if_false];exact ⟨_,rfl⟩⟩)
    ·simp only[ZG,↓reduceIte,ZA,ZB,ZC,h0]
     refine XX_of (must_false h') (fun res h2 hle hn=>?_);obtain ⟨rfl,v,rfl⟩:=hn;refine .pan ?_;simp only[ZG,↓reduceIte,ZA,ZB,ZC];exact hΨ _ _ (fin_pan ⟨kp,by rw[bl,hx];simp only[hc,if_false];exact ⟨_,rfl⟩⟩)
theorem exact_ok (s:Rdr h b C vi vc vt vp vk p) (n:Int):Gets Tryd.prog 91 [.pointer (some ⟨b,0,none⟩),iv n] h (RdO h b C vi vc vt vp vk (exc C n p)):=by
 refine Gets.of (keep:=false) hP (draw_ok hM) k91 (by rfl) (fun Ψ hΨ=>?_);simp only[ZG,↓reduceIte,ZA,ZB,ZC,r91,YE,YC,YO,YA,YL,YX,YS,Ya,Yb,Yl,Yf,Yg,Yi,Ym,Yk,Yt,Yn,Yz,Yp,Yq,Yd];refine XX_of (next_ok s) (fun res h' hle hn=>?_);obtain ⟨kp,hn⟩:=hn;cases hx:nx C p with
 | none =>
   rw[hx] at hn;obtain ⟨v,rfl⟩:=hn;refine .pan ?_;simp only[ZG,↓reduceIte,ZA,ZB,ZC];exact hΨ _ _ (fin_pan ⟨kp,by rw[exc,hx];exact ⟨_,rfl⟩⟩)
 | some xq =>
   obtain ⟨x,q⟩:=xq;rw[hx] at hn;obtain ⟨rfl,s'⟩:=hn;refine .ret ?_
   by_cases hc:x=n
   ·simp only[ZG,↓reduceIte,ZA,ZB,ZC,hc]
    refine XX_val (must_true h') ?_;simp only[ZG,↓reduceIte,ZA,ZB,ZC];exact hΨ _ _ (fin_norm ⟨kp,by rw[exc,hx];simp only[hc,if_true];exact ⟨rfl,s'⟩⟩)
   ·simp only[ZG,↓reduceIte,ZA,ZB,ZC,hc]
    refine XX_of (must_false h') (fun res h2 hle hn=>?_);obtain ⟨rfl,v,rfl⟩:=hn;refine .pan ?_;simp only[ZG,↓reduceIte,ZA,ZB,ZC];exact hΨ _ _ (fin_pan ⟨kp,by rw[exc,hx];simp only[hc,if_false];exact ⟨_,rfl⟩⟩)
end
end Go.S19
