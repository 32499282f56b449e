import Derived.Test.YtdlanbdiphpacaaDoorPk23
import Derived.Test.YtdlanbdiphpacaaDoorPk12
import Derived.Shelf.Strconv.Itoa3
import Derived.Test.YtdlanbdiphpacaaDoorProg
import Derived.Lib.ItoaLen
set_option linter.unusedVariables false
set_option linter.unusedSimpArgs false
open Nat renaming reduceEqDiff -> ZA,reduceAdd -> ZB,reduceMul -> ZC,reduceLeDiff -> ZD,reduceLT -> ZE
open Int renaming reduceEq -> ZF
open List renaming length_append->Z0,length_cons->Z1,length_nil->Z2,getElem?_eq_some_iff->Z3,mem_iff_getElem?->Z4,mem_of_getElem?->Z5,append_assoc->Z6,mem_cons_of_mem->Z7,mem_of_mem_take->Z8,map_congr_left->Z9,mem_cons_self->Za,getElem?_map->Zb,mem_map->Zc,getElem?_eq_getElem->Zd,length->Ze,flatMap_append->Zf,map_nil->Zg,flatMap_cons->Zh,take_add_one->Zi
open Nat renaming zero_le->Zj
namespace Go.S19
open Go Go.Eng Go.Proofs Go.Chk
section
variable {S T:HS} {ts:List (Int × Int)}
theorem bfs_true:∀ (n i:Nat) {ms:List (Int × Int)} {sd:Bool},(S.bfsT n i ms sd).2=true->sd=true:=by
 intro n
 induction n with
 | zero=>intro i ms sd h;exact h
 | succ n ih =>
   intro i ms sd h;rw[HS.bfsT] at h
   split at h
   ·exact h
   ·split at h
    ·rename_i hc;simp only[Bool.and_eq_true] at hc;exact hc.1
    ·cases h
def InT (S:HS) (ts:List (Int × Int)) (w:Int × Int):Prop:=S.sound w/\((S.folX w).1.1=4->(S.folX w).1∈ts)
theorem InT.pre {ts ts':List (Int × Int)} {w:Int × Int} (h:InT S ts w) (hp:ts <+: ts'):InT S ts' w:=⟨h.1,fun e=>hp.subset (h.2 e)⟩
structure Sg (S:HS) (roots ts:List (Int × Int)):Prop where
 r:(S.meetT roots []).2=true
 g:(S.meetT S.globals (S.meetT roots []).1).2=true
 b:S.bfsT (S.begins.length+1) 0 (S.meetT S.globals (S.meetT roots []).1).1 true=(ts,true)
theorem Sg.of {roots:List (Int × Int)} (h:(S.graph roots).2=true):Sg S roots (S.graph roots).1:=by
 have hs:=bfs_true _ _ h;simp only[Bool.and_eq_true] at hs;refine ⟨hs.1,hs.2,?_⟩;have:S.graph roots=((S.graph roots).1,true):=Prod.ext rfl h;rw[<- this,HS.graph,hs.1,hs.2];rfl
theorem Sg.to {roots:List (Int × Int)} (h:Sg S roots ts):S.graph roots=(ts,true):=by
 rw[HS.graph,h.r,h.g];exact h.b
structure Cd (S:HS) (roots ts news:List (Int × Int)) (T:HS):Prop where
 sg:Sg S roots ts
 nw:news=roots.map (S.ren ts)
 gl:T.globals=S.globals.map (S.ren ts)
 cm:Cm S ts ts.length T
 it:Inv T
 ir:∀ w∈roots,InT S ts w
 ig:∀ w∈S.globals,InT S ts w
theorem coll_cd (v:Inv S) (tx:Tx S) {roots news:List (Int × Int)} (hg:(S.graph roots).2=true) (h:CollR S roots news T) (vt:Inv T):Cd S roots (S.graph roots).1 news T:=by
 have sg:=Sg.of hg;generalize (S.graph roots).1=ts at sg;obtain ⟨S2,gs,S3,S4,m1,m2,sc,rfl⟩:=h;obtain ⟨c2,hn,i2⟩:=(Cm.start S).moves v roots v.flip sg.r m1;have v2:=m1.inv v.flip;obtain ⟨c3,hgs,i3⟩:=c2.moves v S.globals v2 sg.g m2;have v3:=m2.inv v2;rw[<- adr_zero (S:=S) (S.meetT S.globals (S.meetT roots []).1).1] at sc;obtain ⟨c4,hpre⟩:=Cm.scan v tx _ c3 v3 sg.b (by omega) sc;have hp1:=meet_pre (S:=S) S.globals (S.meetT roots []).1;have ir:∀ w∈roots,InT S ts w:=fun w hw=>InT.pre (InT.pre (i2 w hw) hp1) hpre
 have ig:∀ w∈S.globals,InT S ts w:=fun w hw=>InT.pre (i3 w hw) hpre
 have hgs':gs=S.globals.map (S.ren ts):=by
  rw[hgs];exact Z9 fun w hw=>(ren_pre (i3 w hw).2 hpre).symm
 have hset:S4.setg gs=(0,{ S4 with globals:=gs }):=by
  have key:∀ {A B:HS} {i:Int},Scan A i B->B.globals=A.globals:=by
   intro A B i hs
   induction hs with
   | done=>rfl
   | step _ m _ ih=>rw[ih,(setl_same _ _ _ _).2.2.1,m.mvs.gl]
  have e4:S4.globals=S.globals:=by rw[key sc,m2.mvs.gl,m1.mvs.gl];rfl
  have v4:Inv S4:=by
   have key2:∀ {A B:HS} {i:Int},Scan A i B->Inv A->Inv B:=by
    intro A B i hs
    induction hs with
    | done=>exact fun v=>v
    | step _ m _ ih=>exact fun v=>ih ((m.inv v).setl _ _ _)
   exact key2 sc v3
  rw[HS.setg,if_pos];refine ⟨by rw[e4,hgs',List.length_map],fun y hy=>?_⟩;rw[hgs'] at hy;obtain ⟨w,hw,rfl⟩:=Zc.1 hy;exact c4.rsound v v4 (ig w hw).1 (ig w hw).2
 rw[hset] at vt ⊢;refine ⟨sg,?_,hgs',⟨c4.gd,c4.kl,c4.inf,c4.cn,c4.sz,c4.om,c4.old1,c4.old2,c4.bg,c4.ln,c4.cw,c4.cl⟩,vt,ir,ig⟩;rw[hn];exact Z9 fun w hw=>(ren_pre (i2 w hw).2 (hp1.trans hpre)).symm
noncomputable def HS.ro (S:HS) (ts:List (Int × Int)) (x:Int × Int):Int × Int:=(4,S.adr ts ((pos x ts).getD 0))
theorem adr_lt (v:Inv S) (g:Gd S ts) {i:Nat}:∀ (d:Nat),i+d+1<=ts.length->S.adr ts i<S.adr ts (i+d+1):=by
 intro d
 induction d with
 | zero =>
   intro h;have hg:=Zd (l:=ts) (i:=i) (by omega);have:=adr_succ (S:=S) hg;have:=g.wn v (Z5 hg)
   show _<S.adr ts (i+1)
   omega
 | succ d ih =>
   intro h;have hg:=Zd (l:=ts) (i:=i+d+1) (by omega);have:=adr_succ (S:=S) hg;have:=g.wn v (Z5 hg);have:=ih (by omega);rw[show i+(d+1)+1=i+d+1+1 by omega];omega
theorem adr_inj (v:Inv S) (g:Gd S ts) {i j:Nat} (hi:i<ts.length) (hj:j<ts.length) (h:S.adr ts i=S.adr ts j):i=j:=by
 rcases Nat.lt_trichotomy i j with e|e|e
 ·have:=adr_lt v g (i:=i) (j-i-1) (by omega)
  rw[show i+(j-i-1)+1=j by omega] at this;omega
 ·exact e
 ·have:=adr_lt v g (i:=j) (i-j-1) (by omega)
  rw[show j+(i-j-1)+1=i by omega] at this;omega
theorem ro_ix (g:Gd S ts) {i:Nat} {x:Int × Int} (h:ts[i]?=some x):S.ro ts x=(4,S.adr ts i):=by
 rw[HS.ro,pos_ix g.2 h];rfl
theorem ro_inj (v:Inv S) (g:Gd S ts) {x y:Int × Int} (hx:x∈ts) (hy:y∈ts) (h:S.ro ts x=S.ro ts y):x=y:=by
 obtain ⟨i,hi⟩:=Z4.1 hx;obtain ⟨j,hj⟩:=Z4.1 hy;rw[ro_ix g hi,ro_ix g hj] at h;have:=adr_inj v g (Z3.1 hi).1 (Z3.1 hj).1 (congrArg Prod.snd h);subst this;rw[hi] at hj;cases hj;rfl
theorem ro_mem (v:Inv S) (g:Gd S ts) {x:Int × Int} (hx:x∈ts) {ms:List (Int × Int)} (hm:∀ y∈ms,y∈ts):S.ro ts x∈ms.map (S.ro ts) ↔ x∈ms:=by
 constructor
 ·intro h
  obtain ⟨y,hy,e⟩:=Zc.1 h;rw[<- ro_inj v g (hm y hy) hx e];exact hy
 ·intro h;exact Zc.2 ⟨x,h,rfl⟩
theorem num_ro (v:Inv S) (g:Gd S ts) {x:Int × Int} (hx:x∈ts) {ms:List (Int × Int)} (hm:∀ y∈ms,y∈ts):num (ms.map (S.ro ts)) (S.ro ts x)=(num ms x).map (S.ro ts):=by
 unfold num
 by_cases h:x∈ms
 ·rw[if_pos h,if_pos ((ro_mem v g hx hm).2 h)]
 ·rw[if_neg h,if_neg (fun e=>h ((ro_mem v g hx hm).1 e)),List.map_append];rfl
variable (c:Cm S ts ts.length T)
include c
theorem Cm.head (vt:Inv T) {i:Nat} {x:Int × Int} (hx:ts[i]?=some x):gx T.now (S.adr ts i)=gx S.now x.2:=by
 have h0:=c.cw i x hx 0 (by omega) (by have:=c.in_ vt hx;omega);rw[if_neg (by omega),Int.add_zero,Int.add_zero] at h0;exact h0
theorem Cm.fol (v:Inv S) (vt:Inv T) {w:Int × Int} (hi:InT S ts w):T.sound (S.ren ts w)/\T.folX (S.ren ts w)=(S.ren ts w,0)/\((S.ren ts w).1=4 ↔ (S.folX w).1.1=4)/\((S.folX w).1.1=4->S.ren ts w=S.ro ts (S.folX w).1)/\((S.folX w).1.1≠4->S.ren ts w=(S.folX w).1):=by
 have hs:=c.rsound v vt hi.1 hi.2
 by_cases h4:(S.folX w).1.1=4
 ·obtain ⟨i,hx⟩:=Z4.1 (hi.2 h4)
  have hro:S.ren ts w=S.ro ts (S.folX w).1:=by rw[HS.ren,if_pos h4,HS.ro]
  refine ⟨hs,?_,by rw[hro];exact ⟨fun _=>h4,fun _=>rfl⟩,fun _=>hro,fun e=>absurd h4 e⟩;refine folX_eq (m:=1) hs ?_;rw[hro,ro_ix c.gd hx,HS.fol,if_pos rfl];simp only;rw[if_neg];rw[c.head vt hx];exact (c.gd.1 _ (hi.2 h4)).2
 ·have hre:S.ren ts w=(S.folX w).1:=by rw[HS.ren,if_neg h4]
  refine ⟨hs,?_,by rw[hre],fun e=>absurd e h4,fun _=>hre⟩;refine folX_eq (m:=1) hs ?_;rw[hre,HS.fol,if_neg h4]
theorem Cm.fldsr (v:Inv S) (vt:Inv T) {x:Int × Int} (hx:x∈ts):T.flds (S.ro ts x)=(S.flds x).map (S.ren ts)/\(∀ w∈S.flds x,InT S ts w)/\T.wn (S.ro ts x)=S.wn x/\gx T.now (S.ro ts x).2=gx S.now x.2/\T.lies (S.ro ts x):=by
 obtain ⟨i,hi⟩:=Z4.1 hx;obtain ⟨h1,h2,h3,h4⟩:=obj_flds v (c.gd.1 x hx).1;have hl:=(Z3.1 hi).1;have hget:=c.get vt hi;rw[ro_ix c.gd hi];refine ⟨?_,?_,by rw[HS.wn,hget];rfl,c.head vt hi,rfl,by show (mget (S.adr ts i) T.begins).isSome=true;rw[hget];rfl⟩
 ·rw[flds_eq hget,h1,c.head vt hi,fcn_congr c.inf]
  apply List.ext_getElem?
  intro j;rw[Zb,fld_get,fld_get]
  split
  ·have:=c.cw i x hi (1+j) (by omega) (by omega)
   rw[if_pos ⟨hl,by omega,by omega⟩] at this;rw[show S.adr ts i+1+(j:Int)=S.adr ts i+(1+j) by omega,this,Option.map_some]
   congr 2
   rw[show x.2+1+(j:Int)=x.2+(1+j) by omega]
  ·rfl
 ·intro w hw
  rw[h1] at hw;obtain ⟨j,hj⟩:=Z4.1 hw;rw[fld_get] at hj
  split at hj
  ·cases hj
   have:=c.cl i x hi hl (1+j) (by omega) (by omega);rw[show x.2+1+(j:Int)=x.2+(1+j) by omega];exact this
  ·cases hj
theorem Cm.meet (v:Inv S) (vt:Inv T):∀ (ws:List (Int × Int)) {ms:List (Int × Int)},(∀ w∈ws,InT S ts w)->(∀ y∈ms,y∈ts) ->
 T.meetT (ws.map (S.ren ts)) (ms.map (S.ro ts))=((S.meetT ws ms).1.map (S.ro ts),true) /\ ∀ y∈(S.meetT ws ms).1,y∈ts:=by
 intro ws
 induction ws with
 | nil=>intro ms _ hm;exact ⟨rfl,hm⟩
 | cons w ws ih =>
   intro ms hi hm;have hw:=hi w Za;obtain ⟨f1,f2,f3,f4,f5⟩:=c.fol v vt hw;rw[List.map_cons,HS.meetT,if_pos f1,f2,HS.meetT,if_pos hw.1];have hrest:=fun y hy=>hi y (Z7 _ hy)
   by_cases h4:(S.folX w).1.1=4
   ·rw[if_pos (f3.2 h4),if_pos h4]
    simp only;rw[f4 h4,num_ro v c.gd (hw.2 h4) hm];refine ih hrest (fun y hy=>?_);unfold num at hy
    split at hy
    ·exact hm y hy
    ·rcases List.mem_append.1 hy with e|e
     ·exact hm y e
     ·rw[List.mem_singleton.1 e];exact hw.2 h4
   ·rw[if_neg (fun e=>h4 (f3.1 e)),if_neg h4]
    exact ih hrest hm
theorem Cm.bfs (v:Inv S) (vt:Inv T):∀ (n:Nat) {k:Nat} {ms:List (Int × Int)},S.bfsT n k ms true=(ts,true)->S.begins.length<n+k->(∀ y∈ms,y∈ts)->Gd S ms->k<=ms.length -> ∀ n',ts.length<n'+k->T.bfsT n' k (ms.map (S.ro ts)) true=(ts.map (S.ro ts),true):=by
 intro n
 induction n with
 | zero=>intro k ms hb hn hm gd hk n' _;have:=gd.len v;omega
 | succ n ih =>
   intro k ms hb hn hm gd hk n' hn';cases hx:ms[k]? with
   | none =>
     have hk2:ms.length<=k:=List.getElem?_eq_none_iff.1 hx;rw[bfs_end hk2] at hb;cases hb;rw[show n'=(n'-1)+1 by omega,bfs_end (by rw[List.length_map];exact hk2)]
   | some x =>
     rw[bfs_step hx] at hb;cases hb2:(S.meetT (S.flds x) ms).2 with
     | false=>rw[hb2] at hb;simp at hb
     | true =>
     rw[hb2] at hb;simp only[Bool.and_self,if_true] at hb;obtain ⟨e1,e2,_⟩:=c.fldsr v vt (hm x (Z5 hx));obtain ⟨m1,m2⟩:=c.meet v vt (S.flds x) e2 hm;have hlt:=(Z3.1 hx).1;have hpre:=(meet_pre (S:=S) (S.flds x) ms).length_le;have gd2:=Gd.meet v (S.flds x) gd;have hsub:=nodup_sub gd.2 hm;rw[show n'=(n'-1)+1 by omega,bfs_step (w:=S.ro ts x) (by rw[Zb,hx];rfl),e1,m1];simp only[Bool.and_self,if_true];exact ih hb (by omega) m2 gd2 (by omega) (n'-1) (by omega)
end
theorem bgF_len {S:HS}:∀ (l:List (Int × Int)) (a:Int),(S.bgF a l).length=l.length:=by
 intro l
 induction l with
 | nil=>intro a;rfl
 | cons x l ih=>intro a;simp [HS.bgF,ih]
theorem Cd.graph {S T:HS} {roots ts news:List (Int × Int)} (d:Cd S roots ts news T) (v:Inv S):T.graph news=(ts.map (S.ro ts),true):=by
 obtain ⟨m1,m2⟩:=d.cm.meet v d.it roots (ms:=[]) d.ir (fun y h=>by cases h);obtain ⟨m3,m4⟩:=d.cm.meet v d.it S.globals (ms:=(S.meetT roots []).1) d.ig m2;have gd:=Gd.meet v S.globals (Gd.meet v roots (Gd.nil S));have hl:T.begins.length=ts.length:=by rw[d.cm.bg,bgF_len]
 refine Sg.to ⟨?_,?_,?_⟩
 ·rw[d.nw];rw[Zg] at m1;rw[m1]
 ·rw[d.nw,d.gl];rw[Zg] at m1;rw[m1,m3]
 ·rw[d.nw,d.gl];rw[Zg] at m1;rw[m1]
  simp only;rw[m3];exact d.cm.bfs v d.it _ d.sg.b (by omega) m4 gd (Zj _) _ (by omega)
theorem Cd.adr {S T:HS} {roots ts news:List (Int × Int)} (d:Cd S roots ts news T) (v:Inv S):∀ (l:List (Int × Int)),(∀ x∈l,x∈ts)->(l.map (S.ro ts)).map T.wn=l.map S.wn:=by
 intro l hl;rw[List.map_map];exact Z9 fun x hx=>(d.cm.fldsr v d.it (hl x hx)).2.2.1
theorem Cd.pos {S T:HS} {roots ts news:List (Int × Int)} (d:Cd S roots ts news T) (v:Inv S) {x:Int × Int} (hx:x∈ts):Go.S19.pos (S.ro ts x) (ts.map (S.ro ts))=Go.S19.pos x ts:=by
 obtain ⟨i,hi⟩:=Z4.1 hx;have gdT:(ts.map (S.ro ts)).Nodup:=by
  rw[List.nodup_iff_pairwise_ne,List.pairwise_map];refine List.Pairwise.imp_of_mem (fun {a c} ha hc h e=>h (ro_inj v d.cm.gd ha hc e)) d.cm.gd.2
 rw[pos_ix gdT (i:=i) (by rw[Zb,hi];rfl),pos_ix d.cm.gd.2 hi]
theorem Cd.again {S T:HS} {roots ts news:List (Int × Int)} (d:Cd S roots ts news T) (v:Inv S) {w:Int × Int} (hw:InT S ts w):T.ren (ts.map (S.ro ts)) (S.ren ts w)=S.ren ts w:=by
 obtain ⟨f1,f2,f3,f4,f5⟩:=d.cm.fol v d.it hw;unfold HS.ren;rw[show T.folX (if (S.folX w).1.1=4 then (4,S.adr ts ((Go.S19.pos (S.folX w).1 ts).getD 0)) else (S.folX w).1)=(S.ren ts w,0) from f2];simp only
 by_cases h4:(S.folX w).1.1=4
 ·rw[if_pos (f3.2 h4),if_pos h4,f4 h4,d.pos v (hw.2 h4)]
  congr 1
  rw[HS.adr,HS.adr,<- List.map_take,d.adr v _ (fun x hx=>Z8 hx)]
 ·rw[if_neg (fun e=>h4 (f3.1 e)),if_neg h4,f5 h4]
end Go.S19

namespace Go.Scn
open Go
abbrev Bs:=List UInt8
def tx (l:Bs):ByteArray:=⟨l.toArray⟩
theorem tx_size (l:Bs):(tx l).size=l.length:=by simp [tx,ByteArray.size]
theorem tx_app (a b:Bs):tx a++tx b=tx (a++b):=by
 apply ByteArray.ext;simp [tx]
def digit (c:UInt8):Bool:=decide (48<=c.toNat/\c.toNat<=57)
def symL:Bs:=[33,35,36,37,38,42,43,46,47,60,61,62,63,64,92,94,124,45,126,58]
def symb (c:UInt8):Bool:=symL.contains c
def dash (c:UInt8):Bool:=decide (c.toNat=45)
def spn (p:UInt8->Bool) (l:Bs):Nat:=(l.takeWhile p).length
instance (l:Bs):Decidable (∀ c,l[spn dash l]?=some c->symb c=false) :=
 match h:l[spn dash l]? with
 | none=>.isTrue (fun c e=>by cases e)
 | some c=>if hc:symb c=false then .isTrue (fun d e=>by cases e;exact hc) else .isFalse (fun k=>hc (k c rfl))
def dg (c:UInt8):Nat:=if digit c then c.toNat-48 else if 97<=(c ||| 32).toNat/\(c ||| 32).toNat<=122 then (c ||| 32).toNat-87 else 99
inductive PU where
 | ok (n:Nat)
 | syn
 | rng
def wr3:Bs->UInt8 × Nat
 | a::b::_=>if dg a<16/\dg b<16 then (UInt8.ofNat (16*dg a+dg b),4) else (0,0)
 | _=>(0,0)
def wr2:Bs->UInt8 × Nat
 | []=>(0,0)
 | d::q=>if d.toNat=110 then (10,2) else if d.toNat=116 then (9,2) else if d.toNat=92\/d.toNat=39\/d.toNat=34 then (d,2) else
     if d.toNat=120 then wr3 q else (0,0)
def wr:Bs->UInt8 × Nat
 | []=>(0,0)
 | c::r=>if c.toNat<32\/126<c.toNat then (0,0) else if ¬ c.toNat=92 then (c,1) else wr2 r
structure Tk where
 k:Int
 t:Bs
 n:Int
 a:Nat
def pre (ts:List Tk):Except Nat (List Tk)->Except Nat (List Tk)
 | .error e=>.error e
 | .ok us=>.ok (ts++us)
end Go.Scn

namespace Go.S19
open Go Go.Eng Go.Proofs Go.Scn
abbrev bv (c:UInt8):Value:=.int .u8 (c.toNat:Int)
abbrev tv (l:Bs):Value:=.string (tx l)
theorem cells_tx (l:Bs):byteCells (tx l)=l.map bv:=rfl
theorem asBytes_tx:∀ (l:Bs),asBytes (l.map bv)=some (l.map fun c=>(c.toNat:Int)):=by
 intro l
 induction l with
 | nil=>rfl
 | cons c l ih=>show (asBytes (l.map bv)).map ((c.toNat:Int) :: ·)=_;rw[ih];rfl
theorem pushAll_tx (l:Bs):pushAll (l.map fun c=>(c.toNat:Int))=tx l:=by
 have:∀ (l:Bs) (b:ByteArray),(l.map fun c=>(c.toNat:Int)).foldl (fun r n=>r.push (UInt8.ofNat n.toNat)) b=⟨b.data++l.toArray⟩:=by
  intro l
  induction l with
  | nil=>intro b;simp
  | cons c l ih =>
    intro b;rw[List.map_cons,List.foldl_cons,ih]
    apply ByteArray.ext
    simp [ByteArray.push]
 rw[pushAll,this]
 apply ByteArray.ext;simp [tx]
theorem s_add {a b:Bs} (h:a.length+b.length<=9223372036854775807):sbin .add (tx a) (tx b)=some (.string (tx (a++b))):=by
 have:¬ (((tx a).size+(tx b).size:Nat):Int) > IntKind.i64.max:=by
  rw[tx_size,tx_size];have:IntKind.i64.max=9223372036854775807:=by decide
  omega
 simp only[sbin,if_neg this,tx_app]
end Go.S19

namespace Go.Proofs
open Go.Shelf
def Tryd.laysItoa_ren:Go.Shelf.Ren:=⟨fun|171=>31|243=>65|246=>73|283=>81|284=>82|285=>83|286=>84|129=>95|317=>94|318=>96|319=>97|320=>98|337=>99|338=>100|n=>n,fun|3=>3|9=>9|2=>2|4=>4|171=>138|0=>0|53=>139|37=>66|5=>5|173=>142|212=>149|51=>150|20=>20|213=>151|46=>152|232=>158|233=>159|n=>n,fun|17=>0|18=>1|19=>2|n=>n⟩
theorem Tryd.laysItoa:Go.Proofs.LaysM.n171 Tryd.prog Tryd.laysItoa_ren:={
 mixed:=by kernel_rfl
 f129:=Tryd.func95.trans (congrArg some (by kernel_rfl))
 f171:=Tryd.func31.trans (congrArg some (by kernel_rfl))
 f243:=Tryd.func65.trans (congrArg some (by kernel_rfl))
 f246:=Tryd.func73.trans (congrArg some (by kernel_rfl))
 f283:=Tryd.func81.trans (congrArg some (by kernel_rfl))
 f284:=Tryd.func82.trans (congrArg some (by kernel_rfl))
 f285:=Tryd.func83.trans (congrArg some (by kernel_rfl))
 f286:=Tryd.func84.trans (congrArg some (by kernel_rfl))
 f317:=Tryd.func94.trans (congrArg some (by kernel_rfl))
 f318:=Tryd.func96.trans (congrArg some (by kernel_rfl))
 f319:=Tryd.func97.trans (congrArg some (by kernel_rfl))
 f320:=Tryd.func98.trans (congrArg some (by kernel_rfl))
 f337:=Tryd.func99.trans (congrArg some (by kernel_rfl))
 f338:=Tryd.func100.trans (congrArg some (by kernel_rfl))
 t0:=Tryd.underlying0
 a0:=Tryd.isAgg0
 z0:=Tryd.sizeOf0
 v0:=Tryd.zeroValue0
 t2:=Tryd.underlying2
 a2:=Tryd.isAgg2
 z2:=Tryd.sizeOf2
 v2:=Tryd.zeroValue2
 t3:=Tryd.underlying3
 a3:=Tryd.isAgg3
 z3:=Tryd.sizeOf3
 v3:=Tryd.zeroValue3
 t4:=Tryd.underlying4
 a4:=Tryd.isAgg4
 z4:=Tryd.sizeOf4
 v4:=Tryd.zeroValue4
 t5:=Tryd.underlying5
 a5:=Tryd.isAgg5
 z5:=Tryd.sizeOf5
 v5:=Tryd.zeroValue5
 t9:=Tryd.underlying9
 a9:=Tryd.isAgg9
 z9:=Tryd.sizeOf9
 v9:=Tryd.zeroValue9
 t20:=Tryd.underlying20
 a20:=Tryd.isAgg20
 z20:=Tryd.sizeOf20
 v20:=Tryd.zeroValue20
 t37:=Tryd.underlying66
 a37:=Tryd.isAgg66
 z37:=Tryd.sizeOf66
 v37:=Tryd.zeroValue66
 t46:=Tryd.underlying152
 a46:=Tryd.isAgg152
 z46:=Tryd.sizeOf152
 v46:=Tryd.zeroValue152
 t51:=Tryd.underlying150
 a51:=Tryd.isAgg150
 z51:=Tryd.sizeOf150
 v51:=Tryd.zeroValue150
 t53:=Tryd.underlying139
 a53:=Tryd.isAgg139
 z53:=Tryd.sizeOf139
 v53:=Tryd.zeroValue139
 t171:=Tryd.underlying138
 a171:=Tryd.isAgg138
 z171:=Tryd.sizeOf138
 v171:=Tryd.zeroValue138
 t173:=Tryd.underlying142
 a173:=Tryd.isAgg142
 z173:=Tryd.sizeOf142
 v173:=Tryd.zeroValue142
 t212:=Tryd.underlying149
 a212:=Tryd.isAgg149
 z212:=Tryd.sizeOf149
 v212:=Tryd.zeroValue149
 t213:=Tryd.underlying151
 a213:=Tryd.isAgg151
 z213:=Tryd.sizeOf151
 t232:=Tryd.underlying158
 a232:=Tryd.isAgg158
 z232:=Tryd.sizeOf158
 v232:=Tryd.zeroValue158
 t233:=Tryd.underlying159
 a233:=Tryd.isAgg159
 z233:=Tryd.sizeOf159
 v233:=Tryd.zeroValue159
 g17:=by kernel_rfl
 g18:=by kernel_rfl
 g19:=by kernel_rfl
 i0:=by kernel_rfl
 i2:=by kernel_rfl
 i3:=by kernel_rfl
 i4:=by kernel_rfl
 i5:=by kernel_rfl
 i9:=by kernel_rfl
 i20:=by kernel_rfl
 i37:=by kernel_rfl
 i46:=by kernel_rfl
 i51:=by kernel_rfl
 i53:=by kernel_rfl
 i171:=by kernel_rfl
 i173:=by kernel_rfl
 i212:=by kernel_rfl
 i232:=by kernel_rfl
 i233:=by kernel_rfl
 m17:=by kernel_rfl
 m18:=by kernel_rfl
 m19:=by kernel_rfl }
end Go.Proofs

namespace Go.S19
open Go Go.Eng Go.Proofs Go.Scn
theorem itoa_ok (n:Int) (h0 : -9223372036854775808<=n) (h1:n<=9223372036854775807) (h:AH):Gets Tryd.prog 31 [iv n] h (fun res h'=>h'=h/\res = .ret (tv (Lib.itoa n))):=by
 refine Gets.ofCalls (fn:=Tryd.prog.funcs[31]!) hP (by kernel_rfl) (c:=(Tryd.prog.funcs[31]!).body.getD .skip) (by kernel_rfl) rfl rfl (fun W hT=>?_) h;refine Calls.mono (Any.strconv_Itoa (P := Tryd.prog) Tryd.laysItoa n h0 h1 W (tab_pow hT (by kernel_rfl : Tryd.prog.globalNamed "internal/strconv.uint64pow10" = some 0) (by kernel_rfl))) fun e w' he => ?_
 obtain ⟨rfl,k,os,rfl⟩:=he;exact ⟨rfl,below_grow⟩
end Go.S19

namespace Go.S19
open Go Go.Eng Go.Proofs Go.Scn
abbrev bdT:TypeId:=68
structure Bd (h:AH) (b:Nat) (acc:Bs) (a v:Value):Prop where
 own:Own h b bdT [a,v]
 ad:a = .pointer none\/a = .pointer (some ⟨b,0,none⟩)
 ow:Ows h 5 1 v acc.length (acc.map bv)
 ne:∀ q,bk v q->b<q
 nl:acc=[]->v = .slice none 0 0
theorem noesc_ok (v:Value) (h:AH):Gets Tryd.prog 80 [v] h (fun res h'=>h'=h/\res = .ret v):=by
 refine Gets.extB (h':=h) (res:=.ret v) ?_ (Nat.le_refl _) ⟨rfl,rfl⟩;have hf:Tryd.prog.funcs[(80:Nat)]?=some (Tryd.prog.funcs[80]!):=by kernel_rfl
 have hb:((Tryd.prog.funcs[80]!).body.isNone && ((Extern.allNextRows.lookup (Tryd.prog.funcs[80]!).origin).isNone))=true:=by kernel_rfl
 have hn : ((Tryd.prog.funcs[80]!).name == "internal/abi.NoEscape") = true := by kernel_rfl
 simp only[aextB,hf,hb,hn,if_true]
theorem copyCheck_ok {h:AH} {b:Nat} {acc:Bs} {a v:Value} (x:Bd h b acc a v):Gets Tryd.prog 72 [.pointer (some ⟨b,0,none⟩)] h
 (fun res h'=>res = .ret (.tuple #[])/\Keep (· = b) h h'/\Bd h' b acc (.pointer (some ⟨b,0,none⟩)) v):=by
 refine Gets.of (keep:=false) hP (draw_ok hM) k72 (by rfl) (fun Ψ hΨ=>?_);obtain ⟨va,vc,rfl⟩:=row_shape x.ow.rds;have o:=x.own;obtain ⟨g,hg⟩:=x.own
 rcases x.ad with rfl|rfl
 ·simp only[ZG,↓reduceIte,ZA,ZB,ZC,r72,YE,YC,YO,YA,YL,YX,YS,Ya,Yb,Yl,Yf,Yg,Yi,Ym,Yk,Yt,Yn,Yz,Yp,Yq,Yd,o.cells.ld,mbl,ZD,ZE,ZF,u_up o.cells (show 0<2 by omega)]
  refine XX_val (noesc_ok _ h) ?_;simp only[ZG,↓reduceIte,ZA,ZB,ZC,u_pu hg (show 2<=2 by omega)];refine XH_own o rfl (by simp [Value.cells]) rfl (fun h' q1 q2 q3=>?_);have o':Own h' b bdT [.pointer (some ⟨b,0,none⟩),.slice va acc.length vc]:=by simpa [Value.cells] using q1
  simp only[ZG,↓reduceIte,ZA,ZB,ZC];exact hΨ _ _ (fin_norm ⟨rfl,q2,o',.inr rfl,x.ow.keep q2 (fun q hq e=>by have:=x.ne q hq;omega),x.ne,x.nl⟩)
 ·simp only[ZG,↓reduceIte,ZA,ZB,ZC,r72,YE,YC,YO,YA,YL,YX,YS,Ya,Yb,Yl,Yf,Yg,Yi,Ym,Yk,Yt,Yn,Yz,Yp,Yq,Yd,o.cells.ld,mbl,ZD,ZE,ZF]
  exact hΨ _ _ (fin_norm ⟨rfl,.refl _ _,o,.inr rfl,x.ow,x.ne,x.nl⟩)
theorem writeByte_ok {h:AH} {b:Nat} {acc:Bs} {a v:Value} (x:Bd h b acc a v) (c:UInt8) (hl:acc.length<=140000000000000):Gets Tryd.prog 60 [.pointer (some ⟨b,0,none⟩),bv c] h
 (fun res h'=>res = .ret .nilIface/\Keep (fun q=>q=b\/bk v q) h h' /\ ∃ v',Bd h' b (acc++[c]) (.pointer (some ⟨b,0,none⟩)) v' /\ ∀ q,bk v' q->bk v q\/h.length<=q):=by
 refine Gets.of (keep:=false) hP (draw_ok hM) k60 (by rfl) (fun Ψ hΨ=>?_);simp only[ZG,↓reduceIte,ZA,ZB,ZC,r60,YE,YC,YO,YA,YL,YX,YS,Ya,Yb,Yl,Yf,Yg,Yi,Ym,Yk,Yt,Yn,Yz,Yp,Yq,Yd];refine XX_of (copyCheck_ok x) (fun res h1 hle hr=>?_);obtain ⟨rfl,k1,x1⟩:=hr;refine .ret ?_;obtain ⟨s',h',a1,a2,a3,a4⟩:=app1 (bytes:=1) x1.ow (xs:=[bv c]) rfl rfl (by omega) (by omega);obtain ⟨va,vc,rfl⟩:=row_shape x1.ow.rds;obtain ⟨sa,sc,rfl⟩:=row_shape a2.rds;simp only[ZG,↓reduceIte,ZA,ZB,ZC,x1.own.cells.ld,mbl,ZD,ZE,ZF,a1];have o2:Own h' b bdT [.pointer (some ⟨b,0,none⟩),.slice va acc.length vc]:=x1.own.keep a3 (fun e=>by have:=x1.ne b e;omega);refine XH_own o2 rfl (by simp [Value.cells]) rfl (fun h2 q1 q2 q3=>?_);have o3:Own h2 b bdT [.pointer (some ⟨b,0,none⟩),.slice sa (acc.length+1) sc]:=by simpa [Value.cells] using q1
 have hb:=x1.own.lt;have hlen:=k1.len;have hbl:=x.own.lt;have fr:∀ q,bk (.slice sa (acc.length+1) sc) q->b<q:=fun q hq=>by
  rcases a4 q hq with e|e
  ·exact x1.ne q e
  ·omega
 simp only[ZG,↓reduceIte,ZA,ZB,ZC];refine hΨ _ _ (fin_ret (rv1 rfl ⟨rfl,?_,_,⟨o3,.inr rfl,?_,fr,fun e=>by simp at e⟩,fun q hq=>?_⟩))
 ·exact ((k1.mono (fun c e=>.inl e)).trans' a3 (fun q hq e=>.inr e)).trans' q2 (fun q hq e=>.inl e)
 ·have:=a2.keep q2 (fun q hq e=>by have:=fr q hq;omega)
  simpa using this
 ·exact (a4 q hq).imp id (fun e=>by omega)
theorem writeString_ok {h:AH} {b:Nat} {acc:Bs} {a v:Value} (x:Bd h b acc a v) (l:Bs) (hl:acc.length+l.length<=140000000000000):Gets Tryd.prog 58 [.pointer (some ⟨b,0,none⟩),tv l] h
 (fun res h'=>res = .ret (.tuple #[iv l.length,.nilIface])/\Keep (fun q=>q=b\/bk v q) h h' /\ ∃ v',Bd h' b (acc++l) (.pointer (some ⟨b,0,none⟩)) v' /\ ∀ q,bk v' q->bk v q\/h.length<=q):=by
 refine Gets.of (keep:=false) hP (draw_ok hM) k58 (by rfl) (fun Ψ hΨ=>?_);simp only[ZG,↓reduceIte,ZA,ZB,ZC,r58,YE,YC,YO,YA,YL,YX,YS,Ya,Yb,Yl,Yf,Yg,Yi,Ym,Yk,Yt,Yn,Yz,Yp,Yq,Yd];refine XX_of (copyCheck_ok x) (fun res h1 hle hr=>?_);obtain ⟨rfl,k1,x1⟩:=hr;refine .ret ?_;obtain ⟨s',h',a1,a2,a3,a4⟩:=x1.ow.app (bytes:=1) (str:=true) (x:=tv l) (m:=l.length) (xs:=l.map bv) (by simp [srcv,tx_size,cells_tx]) (by simp) (by simp [Value.oneCell']) (by omega) (by omega);have nl:acc++l=[]->s' = .slice none 0 0:=fun e=>by
  obtain ⟨e1,e2⟩:=List.append_eq_nil_iff.1 e;have hv:=x1.nl e1;subst e2;rw[hv] at a1;simp [appv,srcv,tx_size] at a1;exact a1.1.symm
 obtain ⟨va,vc,rfl⟩:=row_shape x1.ow.rds;obtain ⟨sa,sc,rfl⟩:=row_shape a2.rds;simp only[ZG,↓reduceIte,ZA,ZB,ZC,x1.own.cells.ld,mbl,ZD,ZE,ZF,a1];have o2:Own h' b bdT [.pointer (some ⟨b,0,none⟩),.slice va acc.length vc]:=x1.own.keep a3 (fun e=>by have:=x1.ne b e;omega);refine XH_own o2 rfl (by simp [Value.cells]) rfl (fun h2 q1 q2 q3=>?_);have o3:Own h2 b bdT [.pointer (some ⟨b,0,none⟩),.slice sa (acc.length+l.length) sc]:=by simpa [Value.cells] using q1
 have hb:=x1.own.lt;have hlen:=k1.len;have hbl:=x.own.lt;have fr:∀ q,bk (.slice sa (acc.length+l.length) sc) q->b<q:=fun q hq=>by
  rcases a4 q hq with e|e
  ·exact x1.ne q e
  ·omega
 simp only[ZG,↓reduceIte,ZA,ZB,ZC,tx_size];refine hΨ _ _ (fin_ret (rv2 rfl rfl ⟨rfl,?_,_,⟨o3,.inr rfl,?_,fr,nl⟩,fun q hq=>?_⟩))
 ·exact ((k1.mono (fun c e=>.inl e)).trans' a3 (fun q hq e=>.inr e)).trans' q2 (fun q hq e=>.inl e)
 ·have:=a2.keep q2 (fun q hq e=>by have:=fr q hq;omega)
  simpa using this
 ·exact (a4 q hq).imp id (fun e=>by omega)
theorem string_ok {h:AH} {b:Nat} {acc:Bs} {a v:Value} (x:Bd h b acc a v) (hl:acc.length<=140000000000000):Gets Tryd.prog 32 [.pointer (some ⟨b,0,none⟩)] h
 (fun res h'=>res = .ret (tv acc)/\Keep (bk v) h h'):=by
 refine Gets.of (keep:=false) hP (draw_ok hM) k32 (by rfl) (fun Ψ hΨ=>?_);have hv:=x.own
 by_cases h0:acc=[]
 ·have e:=x.nl h0
  subst h0 e;have hu:ustv h 5 (.pointer none) (iv 0)=some (.string ByteArray.empty,h):=rfl;simp only[ZG,↓reduceIte,ZA,ZB,ZC,r32,YE,YC,YO,YA,YL,YX,YS,Ya,Yb,Yl,Yf,Yg,Yi,Ym,Yk,Yt,Yn,Yz,Yp,Yq,Yd,hv.cells.ld,mbl,ZD,ZE,ZF,hu];exact hΨ _ _ (fin_ret (rv1 rfl ⟨rfl,.refl _ _⟩))
 ·have hpos:0<acc.length:=List.length_pos_iff.2 h0
  obtain ⟨b2,c,all,e,ob,hall,hnc,htk⟩:=ows_open x.ow hpos;subst e;have hc0:c≠0:=by omega
  obtain ⟨g,hg⟩:=ob;have hu:ustv h 5 (.pointer (some ⟨b2,0,none⟩)) (iv acc.length)=some (.string (tx acc),h.set b2 (.cells false true g 0 5 all)):=by
   have h1:¬ (acc.length:Int)=0:=by omega
   have h2:(0:Int)<(acc.length:Int):=by omega
   have h3:0+acc.length<=all.length:=by omega
   have h4:(acc.length:Int)<=9223372036854775807:=by omega
   simp only[ustv,h1,if_false,hg,Int.toNat_natCast,h2,h3,h4,and_self,if_true,List.drop_zero,htk,asBytes_tx,Option.map_some,pushAll_tx]
  simp only[ZG,↓reduceIte,ZA,ZB,ZC,r32,YE,YC,YO,YA,YL,YX,YS,Ya,Yb,Yl,Yf,Yg,Yi,Ym,Yk,Yt,Yn,Yz,Yp,Yq,Yd,hv.cells.ld,mbl,ZD,ZE,ZF,hc0,hu,ct1];exact hΨ _ _ (fin_ret (rv1 rfl ⟨rfl,(Keep.set _ _ _).mono (fun q e=>e)⟩))
end Go.S19

namespace Go.S19
open Go Go.Eng Go.Proofs Go.Chk Go.Scn
def rgI (n:Int):Prop:=-9223372036854775808<=n/\n<=9223372036854775807
structure Rg (S:HS):Prop where
 now:∀ x∈S.now,rgI x.2
 old:∀ x∈S.old,rgI x.2
 gl:∀ x∈S.globals,rgI x.2
theorem gx_rg {ws:List (Int × Int)} (h:∀ x∈ws,rgI x.2) (i:Int):rgI (gx ws i).2:=by
 unfold gx
 split
 ·rename_i hi
  have:ws[i.toNat]?=some (wat ws i):=wat_at hi.1 hi.2;exact h _ (Z5 this)
 ·exact ⟨by decide,by decide⟩
theorem fol_rg {S:HS} (r:Rg S):∀ {n:Nat} {w y:Int × Int},rgI w.2->S.fol n w=some y->rgI y.2:=by
 intro n
 induction n with
 | zero=>intro w y _ h;cases h
 | succ n ih =>
   intro w y hw h;rw[HS.fol] at h
   split at h
   ·split at h
    ·exact ih (gx_rg r.now _) h
    ·cases h;exact hw
   ·cases h;exact hw
theorem folX_rg {S:HS} (r:Rg S) (v:Inv S) {w:Int × Int} (hw:rgI w.2):rgI (S.folX w).1.2:=by
 by_cases hs:S.sound w
 ·obtain ⟨m,x,hx⟩:=v.tm w hs
  rw[folX_eq hs hx];exact fol_rg r hw hx
 ·rw[folX_no hs];exact ⟨by decide,by decide⟩
noncomputable def HS.lbl (S:HS) (ts:List (Int × Int)) (w:Int × Int):Bs :=
 [32]++(if (S.folX w).1.1=2 then [99] else if (S.folX w).1.1=3 then [102] else if (S.folX w).1.1=4 then [35] else [])++Lib.itoa (if (S.folX w).1.1=4 then (((pos (S.folX w).1 ts).getD 0:Nat):Int) else (S.folX w).1.2)
noncomputable def HS.lineT (S:HS) (ts:List (Int × Int)) (s:Bs) (ws:List (Int × Int)):Bs:=s++ws.flatMap (S.lbl ts)++[10]
theorem lbl_len {S:HS} {ts:List (Int × Int)} (r:Rg S) (v:Inv S) (hl:ts.length<=2000000) {w:Int × Int} (hw:rgI w.2):(S.lbl ts w).length<=23:=by
 have h1:(Lib.itoa (if (S.folX w).1.1=4 then (((pos (S.folX w).1 ts).getD 0:Nat):Int) else (S.folX w).1.2)).length<=21:=by
  split
  ·have:(pos (S.folX w).1 ts).getD 0<=2000000:=by
    cases hp:pos (S.folX w).1 ts with
    | none=>simp
    | some j=>have:=(Z3.1 (pos_get hp)).1;simp;omega
   exact Lib.itoa_length_le _ (by omega) (by omega)
  ·have:=folX_rg r v hw
   exact Lib.itoa_length_le _ this.1 this.2
 unfold HS.lbl;simp only[Z0,Z1,Z2]
 repeat' split
 all_goals simp_all
 all_goals omega
theorem lbls_len {S:HS} {ts:List (Int × Int)} (r:Rg S) (v:Inv S) (hl:ts.length<=2000000):∀ {ws:List (Int × Int)},(∀ w∈ws,rgI w.2)->(ws.flatMap (S.lbl ts)).length<=23*ws.length:=by
 intro ws
 induction ws with
 | nil=>intro _;simp
 | cons w ws ih =>
   intro h;have h1:=lbl_len r v hl (h w Za);have h2:=ih (fun y hy=>h y (Z7 _ hy));simp only[Zh,Z0,Z1];omega
def Ng (L:Lay) (bg bi bm:Nat) (vi:Value) (q:Nat):Prop:=L.cls q=0 /\ ¬ GOwns bg bi bm vi q
structure Lb (h:AH) (b:Nat) (L:Lay) (S:HS) (bg bi bm:Nat) (vi:Value) (ts:List (Int × Int)) (bo:Nat) (acc:Bs) (v:Value):Prop where
 gr:Gr h b L S bg bi bm vi ts true
 bd:∃ a,Bd h bo acc a v
 nb:Ng L bg bi bm vi bo
 nv:∀ q,bk v q->Ng L bg bi bm vi q
theorem Bd.keep {S:Nat->Prop} {h h':AH} {b:Nat} {acc:Bs} {a v:Value} (x:Bd h b acc a v) (k:Keep S h h') (hb:¬ S b) (hv:∀ q,bk v q -> ¬ S q):Bd h' b acc a v :=
 ⟨x.own.keep k hb,x.ad,x.ow.keep k hv,x.ne,x.nl⟩
theorem xFind_ok {h:AH} {bi bm:Nat} {v:Value} {ts:List (Int × Int)} (s:Ixs h bi bm v ts) (w:Int × Int):Gets Tryd.prog 59 [.pointer (some ⟨bi,0,none⟩),wv w] h (fun res h'=>Keep (fun _=>False) h h' /\ ∃ e,res = .ret (.tuple #[iv (((pos w ts).getD 0:Nat):Int),e])) :=
 (iFind_ok s w).mono fun res h' _ hn=>by
  obtain ⟨k,rfl⟩:=hn;refine ⟨k,?_⟩;cases pos w ts with
  | none=>exact ⟨_,rfl⟩
  | some j=>exact ⟨_,rfl⟩
section
variable {h h':AH} {b:Nat} {L:Lay} {S:HS} {bg bi bm:Nat} {vi:Value} {ts:List (Int × Int)} {bo:Nat} {acc acc':Bs} {v v':Value}
theorem Lb.keepF (l:Lb h b L S bg bi bm vi ts bo acc v) (k:Keep (fun _=>False) h h'):Lb h' b L S bg bi bm vi ts bo acc v:=by
 obtain ⟨a,ba⟩:=l.bd;exact ⟨l.gr.keepF k,⟨a,ba.keep k (fun e=>e) (fun _ _ e=>e)⟩,l.nb,l.nv⟩
theorem Lb.wr (l:Lb h b L S bg bi bm vi ts bo acc v) (k:Keep (fun q=>q=bo\/bk v q) h h') (x:Bd h' bo acc' (.pointer (some ⟨bo,0,none⟩)) v') (nv:∀ q,bk v' q->bk v q\/h.length<=q):Lb h' b L S bg bi bm vi ts bo acc' v' :=
 ⟨l.gr.keepX k (fun q hq e=>e.elim (fun e=>hq (by rw[e];exact l.nb.1)) (fun e=>hq (l.nv q e).1)) (fun q hq e=>e.elim (fun e=>l.nb.2 (by rw[<- e];exact hq)) (fun e=>(l.nv q e).2 hq)),⟨_,x⟩,l.nb,
  fun q e=>(nv q e).elim (l.nv q) (fun e=>⟨l.gr.hp.c0 q e,fun e2=>by have:=l.gr.lt q e2;omega⟩)⟩
def Wt (bo:Nat) (h:AH) (v:Value) (h':AH) (v':Value):Prop:=Keep (fun q=>q=bo\/bk v q) h h' /\ ∀ q,bk v' q->bk v q\/h.length<=q
theorem Wt.refl (bo:Nat) (h:AH) (v:Value):Wt bo h v h v:=⟨.refl _ _,fun q e=>.inl e⟩
theorem Wt.trans {bo:Nat} {h h1 h2:AH} {v v1 v2:Value} (x:Wt bo h v h1 v1) (y:Wt bo h1 v1 h2 v2):Wt bo h v h2 v2:=by
 refine ⟨x.1.trans' y.1 (fun c hc e=>e.imp id (fun e=>(x.2 c e).elim id (fun e=>by omega))),fun q e=>?_⟩
 rcases y.2 q e with e|e
 ·exact x.2 q e
 ·have:=x.1.len;exact .inr (by omega)
theorem Wt.keepF {bo:Nat} {h h1 h2:AH} {v v1:Value} (x:Wt bo h v h1 v1) (k:Keep (fun _=>False) h1 h2):Wt bo h v h2 v1:=⟨x.1.trans (k.mono fun _ e=>e.elim),x.2⟩
set_option maxHeartbeats 4000000 in
theorem line_ok (l:Lb h b L S bg bi bm vi ts bo acc v) (r:Rg S) {s:Bs} {u:Value} {ws:List (Int × Int)} (hu:Rds h 2 u ws.length (ww ws)) (hd:∀ q,rb u q->q≠bo /\ ¬ bk v q) (hr:∀ w∈ws,rgI w.2) (hm:ws.length<=2000000) (hs:acc.length+s.length+23*ws.length+1<=140000000000000) :
 Gets Tryd.prog 27 [.pointer (some ⟨bg,0,none⟩),.pointer (some ⟨bo,0,none⟩),tv s,u] h (fun res h'=>res = .ret (.tuple #[]) /\ ∃ v',Lb h' b L S bg bi bm vi ts bo (acc++S.lineT ts s ws) v'/\Wt bo h v h' v'):=by
 refine Gets.of (keep:=false) hP (draw_ok hM) k27 (by rfl) (fun Ψ hΨ=>?_);have hlen:=l.gr.gd.len l.gr.iv;have hbg:=l.gr.iv.bg;simp only[ZG,↓reduceIte,ZA,ZB,ZC,r27,YE,YC,YO,YA,YL,YX,YS,Ya,Yb,Yl,Yf,Yg,Yi,Ym,Yk,Yt,Yn,Yz,Yp,Yq,Yd,mbl,ZD,ZE,ZF];obtain ⟨a0,b0⟩:=l.bd;refine XX_of (writeString_ok b0 s (by omega)) (fun res h1 hle hn=>?_);obtain ⟨rfl,k1,v1,b1,n1⟩:=hn;refine .ret ?_;have l1:=l.wr k1 b1 n1;have w1:Wt bo h v h1 v1:=⟨k1,n1⟩
 obtain ⟨ua,uc,hue⟩:=row_shape hu;simp only[ZG,↓reduceIte,ZA,ZB,ZC,mbl,ZD,ZE,ZF,hue];rw[<- hue];refine XLo_rule (α:=Nat × Value) (fun a=>[(0,.pointer (some ⟨bg,0,none⟩)),(1,.pointer (some ⟨bo,0,none⟩)),(17,u),(18,iv ws.length),(19,iv a.1)])
  (fun a h'=>a.1<=ws.length/\Lb h' b L S bg bi bm vi ts bo (acc++s++(ws.take a.1).flatMap (S.lbl ts)) a.2/\Wt bo h v h' a.2) (fun a=>ws.length-a.1) (0,v1)
  ⟨Zj _,by simpa using l1,w1⟩ ⟨rfl,rfl,by rw[hue];rfl,rfl,rfl,trivial⟩ ?_
 rintro ⟨i,v2⟩ h2 Ψ2 ⟨hi,l2,w2⟩ next out
 simp only at hi l2 w2;have htl:((ws.take i).flatMap (S.lbl ts)).length<=23*i:=by
  have:=lbls_len r l.gr.iv (ts:=ts) (by omega) (ws:=ws.take i) (fun w hw=>hr w (Z8 hw));rw[List.length_take] at this;omega
 by_cases hlt:i<ws.length
 case neg =>
  have d1:((i:Int)<((ws.length:Nat):Int))=False:=by simp;omega
  simp only[ZG,↓reduceIte,ZA,ZB,ZC,d1];refine out (.exit 0) _ _ _ _ (by intro e;cases e) ?_;simp only[ZG,↓reduceIte,ZA,ZB,ZC,mbl,ZD,ZE,ZF];obtain ⟨a2,b2⟩:=l2.bd;refine XX_of (writeByte_ok b2 10 (by simp only[Z0];omega)) (fun res h3 hle3 hn3=>?_);obtain ⟨rfl,k3,v3,b3,n3⟩:=hn3;refine .ret ?_;simp only[ZG,↓reduceIte,ZA,ZB,ZC];have l3:=l2.wr k3 b3 n3;rw[List.take_of_length_le (by omega)] at l3;refine hΨ _ _ (fin_norm (rv0 ⟨rfl,v3,?_,w2.trans ⟨k3,n3⟩⟩));rw[HS.lineT,<- Z6,<- Z6];exact l3
 case pos =>
 have d1:((i:Int)<((ws.length:Nat):Int))=True:=by simp;omega
 have d0:(0<=(i:Int))=True:=by simp
 have tn:Int.toNat (i:Int)=i:=by simp
 have hu2:Rds h2 2 u ws.length (ww ws):=hu.keep w2.1 (fun q hq e=>e.elim (hd q hq).1 (hd q hq).2);obtain ⟨bu,o,c,hue2,hnu,hld⟩:=rds_w hu2 (i:=(i:Int)) (by omega) (by omega);rw[tn] at hld;have hwi:ws[i]?=some (wat ws (i:Int)):=by simp [wat,hlt]
 have hrw:=hr _ (Z5 hwi);have htk:(ws.take (i+1)).flatMap (S.lbl ts)=(ws.take i).flatMap (S.lbl ts)++S.lbl ts (wat ws (i:Int)):=by
  rw[Zi,hwi,Zf];simp
 generalize wat ws (i:Int)=w at hld hwi hrw htk;have oW:=Own.new h2 44 h2.length [iv 0,iv 0];have k3:Keep (fun _=>False) h2 (h2++[row 44 h2.length [iv 0,iv 0]]):=Keep.push _ _ _;have l3':(h2++[row 44 h2.length [iv 0,iv 0]]).length=h2.length+1:=by simp
 simp only[ZG,↓reduceIte,ZA,ZB,ZC,d1,hue2,d0,and_self,tn,hld,mbl,ZD,ZE,ZF];rw[<- hue2];generalize h2++[row 44 h2.length [iv 0,iv 0]]=h3 at oW k3 l3' ⊢;refine XH_own oW rfl (by simp [Value.cells]) rfl (fun h4 q1 q2 q3=>?_);have oW4:Own h4 h2.length 44 [iv w.1,iv w.2]:=by simpa [Value.cells] using q1
 have k24:Keep (fun _=>False) h2 h4:=k3.trans' q2 (fun c hc e=>by omega);have l4:=l2.keepF k24;simp only[ZG,↓reduceIte,ZA,ZB,ZC,l4.gr.og.cells.ld,box_ld oW4,mbl,ZD,ZE,ZF];refine XX_of (xFollow_ok l4.gr.hp l4.gr.iv w) (fun res h5 hle5 hn5=>?_);obtain ⟨k5,rfl⟩:=hn5;refine .ret ?_;have l5:=l4.keepF k5;have oX:=Own.new h5 44 h5.length [iv 0,iv 0];have k6:Keep (fun _=>False) h5 (h5++[row 44 h5.length [iv 0,iv 0]]):=Keep.push _ _ _;simp only[ZG,↓reduceIte,ZA,ZB,ZC,wv,mbl,ZD,ZE,ZF];generalize h5++[row 44 h5.length [iv 0,iv 0]]=h6 at oX k6 ⊢;refine XH_own oX rfl (by simp [Value.cells]) rfl (fun h7 p1 p2 p3=>?_);have hrx:=folX_rg r l.gr.iv hrw;have hlb:=lbl_len r l.gr.iv (ts:=ts) (by omega) hrw;have hlbe:S.lbl ts w=[32]++(if (S.folX w).1.1=2 then [99] else if (S.folX w).1.1=3 then [102] else if (S.folX w).1.1=4 then [35] else [])++Lib.itoa (if (S.folX w).1.1=4 then (((pos (S.folX w).1 ts).getD 0:Nat):Int) else (S.folX w).1.2):=rfl;generalize S.lbl ts w=lw at htk hlb hlbe;generalize (S.folX w).1=x at hrx hlbe p1 ⊢;have oX7:Own h7 h5.length 44 [iv x.1,iv x.2]:=by simpa [Value.cells] using p1
 have k57:Keep (fun _=>False) h5 h7:=k6.trans' p2 (fun c hc e=>by omega);have k27:=(k24.trans k5).trans k57;have l7:=l5.keepF k57;have wi:IntKind.i64.wrap ((i:Int)+1)=((i+1:Nat):Int):=by rw[i64w (by omega) (by omega)];omega
 by_cases hk2:x.1=2
 ·have hk3:¬ x.1=3:=by omega
  have hk4:¬ x.1=4:=by omega
  have s1:sbin .add (⟨#[32]⟩:ByteArray) (⟨#[99]⟩:ByteArray)=some (tv ([32]++[99])):=s_add (a:=[32]) (b:=[99]) (by decide);simp only[ZG,↓reduceIte,ZA,ZB,ZC,oX7.cells.ld,mbl,ZD,ZE,ZF,hk2];have hlw:lw=([32]++[99])++Lib.itoa x.2:=by rw[hlbe];simp [hk2,hk3,hk4]
  have hll:=congrArg Ze hlw;simp only[Z0,Z1,Z2] at hll;have s2:sbin .add (tx (([32]++[99]):Bs)) (tx (Lib.itoa x.2))=some (tv (([32]++[99])++Lib.itoa x.2)):=s_add (by simp only[Z0,Z1,Z2];omega);simp only[ZG,↓reduceIte,ZA,ZB,ZC,s1,mbl,ZD,ZE,ZF];refine XX_val (itoa_ok x.2 hrx.1 hrx.2 _) ?_;simp only[ZG,↓reduceIte,ZA,ZB,ZC,s2];obtain ⟨a8,b8⟩:=l7.bd;refine XX_of (writeString_ok b8 (([32]++[99])++Lib.itoa x.2) (by rw[<- hlw];simp only[Z0];omega)) (fun res h9 hle9 hn9=>?_);obtain ⟨rfl,k9,v9,b9,n9⟩:=hn9;refine .ret ?_;simp only[ZG,↓reduceIte,ZA,ZB,ZC,wi];refine next (i+1,v9) _ _ h9 ⟨by omega,?_,(w2.keepF k27).trans ⟨k9,n9⟩⟩ ⟨rfl,rfl,rfl,rfl,rfl,trivial⟩ (by simp;omega)
  have l9:=l7.wr k9 b9 n9
  show Lb h9 b L S bg bi bm vi ts bo (acc++s++(ws.take (i+1)).flatMap (S.lbl ts)) v9
  rw[htk,hlw,<- Z6];exact l9
 by_cases hk3:x.1=3
 ·have hk4:¬ x.1=4:=by omega
  have s1:sbin .add (⟨#[32]⟩:ByteArray) (⟨#[102]⟩:ByteArray)=some (tv ([32]++[102])):=s_add (a:=[32]) (b:=[102]) (by decide);simp only[ZG,↓reduceIte,ZA,ZB,ZC,oX7.cells.ld,mbl,ZD,ZE,ZF,hk2,hk3];have hlw:lw=([32]++[102])++Lib.itoa x.2:=by rw[hlbe];simp [hk2,hk3,hk4]
  have hll:=congrArg Ze hlw;simp only[Z0,Z1,Z2] at hll;have s2:sbin .add (tx (([32]++[102]):Bs)) (tx (Lib.itoa x.2))=some (tv (([32]++[102])++Lib.itoa x.2)):=s_add (by simp only[Z0,Z1,Z2];omega);simp only[ZG,↓reduceIte,ZA,ZB,ZC,s1,mbl,ZD,ZE,ZF];refine XX_val (itoa_ok x.2 hrx.1 hrx.2 _) ?_;simp only[ZG,↓reduceIte,ZA,ZB,ZC,s2];obtain ⟨a8,b8⟩:=l7.bd;refine XX_of (writeString_ok b8 (([32]++[102])++Lib.itoa x.2) (by rw[<- hlw];simp only[Z0];omega)) (fun res h9 hle9 hn9=>?_);obtain ⟨rfl,k9,v9,b9,n9⟩:=hn9;refine .ret ?_;simp only[ZG,↓reduceIte,ZA,ZB,ZC,wi];refine next (i+1,v9) _ _ h9 ⟨by omega,?_,(w2.keepF k27).trans ⟨k9,n9⟩⟩ ⟨rfl,rfl,rfl,rfl,rfl,trivial⟩ (by simp;omega)
  have l9:=l7.wr k9 b9 n9
  show Lb h9 b L S bg bi bm vi ts bo (acc++s++(ws.take (i+1)).flatMap (S.lbl ts)) v9
  rw[htk,hlw,<- Z6];exact l9
 by_cases hk4:x.1=4
 ·have s1:sbin .add (⟨#[32]⟩:ByteArray) (⟨#[35]⟩:ByteArray)=some (tv ([32]++[35])):=s_add (a:=[32]) (b:=[35]) (by decide)
  have hpl:(pos x ts).getD 0<=2000000:=by
   cases hp:pos x ts with
   | none=>simp
   | some j=>have:=(Z3.1 (pos_get hp)).1;simp;omega
  simp only[ZG,↓reduceIte,ZA,ZB,ZC,oX7.cells.ld,box_ld oX7,l7.gr.og.cells.ld,mbl,ZD,ZE,ZF,hk2,hk3,hk4];have hw4:(.agg #[iv 4,iv x.2]:Value)=wv x:=by simp [wv,hk4]
  rw[hw4];refine XX_of (xFind_ok l7.gr.ix x) (fun res h8 hle8 hn8=>?_);obtain ⟨k8,e8,rfl⟩:=hn8;refine .ret ?_;have l8:=l7.keepF k8;have k28:=k27.trans k8;simp only[ZG,↓reduceIte,ZA,ZB,ZC,mbl,ZD,ZE,ZF];have hlw:lw=([32]++[35])++Lib.itoa (((pos x ts).getD 0:Nat):Int):=by rw[hlbe];simp [hk2,hk3,hk4]
  have hll:=congrArg Ze hlw;simp only[Z0,Z1,Z2] at hll;have s2:sbin .add (tx (([32]++[35]):Bs)) (tx (Lib.itoa (((pos x ts).getD 0:Nat):Int)))=some (tv (([32]++[35])++Lib.itoa (((pos x ts).getD 0:Nat):Int))):=s_add (by simp only[Z0,Z1,Z2];omega);simp only[ZG,↓reduceIte,ZA,ZB,ZC,s1,mbl,ZD,ZE,ZF];refine XX_val (itoa_ok (((pos x ts).getD 0:Nat):Int) (by omega) (by omega) _) ?_;simp only[ZG,↓reduceIte,ZA,ZB,ZC,s2];obtain ⟨a8,b8⟩:=l8.bd;refine XX_of (writeString_ok b8 (([32]++[35])++Lib.itoa (((pos x ts).getD 0:Nat):Int)) (by rw[<- hlw];simp only[Z0];omega)) (fun res h9 hle9 hn9=>?_);obtain ⟨rfl,k9,v9,b9,n9⟩:=hn9;refine .ret ?_;simp only[ZG,↓reduceIte,ZA,ZB,ZC,wi];refine next (i+1,v9) _ _ h9 ⟨by omega,?_,(w2.keepF k28).trans ⟨k9,n9⟩⟩ ⟨rfl,rfl,rfl,rfl,rfl,trivial⟩ (by simp;omega)
  have l9:=l8.wr k9 b9 n9
  show Lb h9 b L S bg bi bm vi ts bo (acc++s++(ws.take (i+1)).flatMap (S.lbl ts)) v9
  rw[htk,hlw,<- Z6];exact l9
 ·have s1:sbin .add (⟨#[32]⟩:ByteArray) (⟨#[]⟩:ByteArray)=some (tv [32]):=s_add (a:=[32]) (b:=[]) (by decide)
  simp only[ZG,↓reduceIte,ZA,ZB,ZC,oX7.cells.ld,mbl,ZD,ZE,ZF,hk2,hk3,hk4];have hlw:lw=([32]:Bs)++Lib.itoa x.2:=by rw[hlbe];simp [hk2,hk3,hk4]
  have hll:=congrArg Ze hlw;simp only[Z0,Z1,Z2] at hll;have s2:sbin .add (tx (([32]:Bs):Bs)) (tx (Lib.itoa x.2))=some (tv (([32]:Bs)++Lib.itoa x.2)):=s_add (by simp only[Z0,Z1,Z2];omega);simp only[ZG,↓reduceIte,ZA,ZB,ZC,s1,mbl,ZD,ZE,ZF];refine XX_val (itoa_ok x.2 hrx.1 hrx.2 _) ?_;simp only[ZG,↓reduceIte,ZA,ZB,ZC,s2];obtain ⟨a8,b8⟩:=l7.bd;refine XX_of (writeString_ok b8 (([32]:Bs)++Lib.itoa x.2) (by rw[<- hlw];simp only[Z0];omega)) (fun res h9 hle9 hn9=>?_);obtain ⟨rfl,k9,v9,b9,n9⟩:=hn9;refine .ret ?_;simp only[ZG,↓reduceIte,ZA,ZB,ZC,wi];refine next (i+1,v9) _ _ h9 ⟨by omega,?_,(w2.keepF k27).trans ⟨k9,n9⟩⟩ ⟨rfl,rfl,rfl,rfl,rfl,trivial⟩ (by simp;omega)
  have l9:=l7.wr k9 b9 n9
  show Lb h9 b L S bg bi bm vi ts bo (acc++s++(ws.take (i+1)).flatMap (S.lbl ts)) v9
  rw[htk,hlw,<- Z6];exact l9
end
end Go.S19

namespace Go.S19
open Go Go.Eng Go.Proofs Go.Chk Go.Scn
def nmd (k:Int):Bs:=if k=6 then [105,110,102,111] else if k=7 then [99,111,110] else if k=8 then [112,97,112] else if k=9 then [116,101,120,116] else if k=10 then [105,110,112,117,116] else [104,111,108,101]
theorem nmd_len (k:Int):(nmd k).length<=5:=by
 unfold nmd
 repeat' split
 all_goals decide
theorem named_ok (k:Int) (h:AH):Gets Tryd.prog 30 [iv k] h (fun res h'=>h'=h/\res = .ret (tv (nmd k))):=by
 refine Gets.of (keep:=false) hP (draw_ok hM) k30 (by rfl) (fun Ψ hΨ=>?_)
 by_cases h6:k=6
 ·simp only[ZG,↓reduceIte,ZA,ZB,ZC,r30,YE,YC,YO,YA,YL,YX,YS,Ya,Yb,Yl,Yf,Yg,Yi,Ym,Yk,Yt,Yn,Yz,Yp,Yq,Yd,h6,mbl,ZD,ZE,ZF]
  exact hΨ _ _ (fin_ret (rv1 rfl ⟨rfl,by subst_vars;rfl⟩))
 by_cases h7:k=7
 ·simp only[ZG,↓reduceIte,ZA,ZB,ZC,r30,YE,YC,YO,YA,YL,YX,YS,Ya,Yb,Yl,Yf,Yg,Yi,Ym,Yk,Yt,Yn,Yz,Yp,Yq,Yd,h6,h7,mbl,ZD,ZE,ZF]
  exact hΨ _ _ (fin_ret (rv1 rfl ⟨rfl,by subst_vars;rfl⟩))
 by_cases h8:k=8
 ·simp only[ZG,↓reduceIte,ZA,ZB,ZC,r30,YE,YC,YO,YA,YL,YX,YS,Ya,Yb,Yl,Yf,Yg,Yi,Ym,Yk,Yt,Yn,Yz,Yp,Yq,Yd,h6,h7,h8,mbl,ZD,ZE,ZF]
  exact hΨ _ _ (fin_ret (rv1 rfl ⟨rfl,by subst_vars;rfl⟩))
 by_cases h9:k=9
 ·simp only[ZG,↓reduceIte,ZA,ZB,ZC,r30,YE,YC,YO,YA,YL,YX,YS,Ya,Yb,Yl,Yf,Yg,Yi,Ym,Yk,Yt,Yn,Yz,Yp,Yq,Yd,h6,h7,h8,h9,mbl,ZD,ZE,ZF]
  exact hΨ _ _ (fin_ret (rv1 rfl ⟨rfl,by subst_vars;rfl⟩))
 by_cases hx:k=10
 ·simp only[ZG,↓reduceIte,ZA,ZB,ZC,r30,YE,YC,YO,YA,YL,YX,YS,Ya,Yb,Yl,Yf,Yg,Yi,Ym,Yk,Yt,Yn,Yz,Yp,Yq,Yd,h6,h7,h8,h9,hx,mbl,ZD,ZE,ZF]
  exact hΨ _ _ (fin_ret (rv1 rfl ⟨rfl,by subst_vars;rfl⟩))
 simp only[ZG,↓reduceIte,ZA,ZB,ZC,r30,YE,YC,YO,YA,YL,YX,YS,Ya,Yb,Yl,Yf,Yg,Yi,Ym,Yk,Yt,Yn,Yz,Yp,Yq,Yd,h6,h7,h8,h9,hx,mbl,ZD,ZE,ZF];have e:nmd k=[104,111,108,101]:=by simp [nmd,h6,h7,h8,h9,hx]
 exact hΨ _ _ (fin_ret (rv1 rfl ⟨rfl,by rw[e];rfl⟩))
noncomputable def HS.hdT (S:HS) (w:Int × Int):Bs:=nmd (S.head w).1.1++[32]++Lib.itoa (S.head w).1.2
noncomputable def HS.objT (S:HS) (ts:List (Int × Int)) (w:Int × Int):Bs:=S.lineT ts (S.hdT w) (S.flds w)
noncomputable def HS.shapeT (S:HS) (roots ts:List (Int × Int)):Bs:=S.lineT ts [114,111,111,116,115] roots++S.lineT ts [103,108,111,98,97,108,115] S.globals++ts.flatMap (S.objT ts)
theorem head_rg {S:HS} (r:Rg S) (w:Int × Int):rgI (S.head w).1.2:=by
 unfold HS.head;split
 ·exact gx_rg r.now _
 ·exact ⟨by decide,by decide⟩
theorem hdT_len {S:HS} (r:Rg S) (w:Int × Int):(S.hdT w).length<=27:=by
 have h1:=nmd_len (S.head w).1.1;have h2:=head_rg r w;have h3:=Lib.itoa_length_le _ h2.1 h2.2;simp only[HS.hdT,Z0,Z1,Z2];omega
theorem flds_rg {S:HS} (r:Rg S) (w:Int × Int):∀ x∈S.flds w,rgI x.2:=by
 intro x hx;simp only[HS.flds,Zc] at hx;obtain ⟨i,_,rfl⟩:=hx;exact gx_rg r.now _
theorem objT_len {S:HS} (r:Rg S) (v:Inv S) {ts:List (Int × Int)} (hl:ts.length<=2000000) {w:Int × Int} (hf:(S.flds w).length<=1048576):(S.objT ts w).length<=25000000:=by
 have h1:=hdT_len r w;have h2:=lbls_len r v hl (flds_rg r w);simp only[HS.objT,HS.lineT,Z0,Z1,Z2];omega
theorem objs_len {S:HS} (r:Rg S) (v:Inv S) {ts:List (Int × Int)} (hl:ts.length<=2000000):∀ {ws:List (Int × Int)},(∀ w∈ws,(S.flds w).length<=1048576)->(ws.flatMap (S.objT ts)).length<=25000000*ws.length:=by
 intro ws
 induction ws with
 | nil=>intro _;simp
 | cons w ws ih =>
   intro h;have h1:=objT_len r v hl (h w Za);have h2:=ih (fun y hy=>h y (Z7 _ hy));simp only[Zh,Z0,Z1];omega
theorem ct4:([0,4]:List Nat).contains 4=true:=rfl
theorem ct2:([0,4]:List Nat).contains 2=false:=rfl
theorem ct0:([0,4]:List Nat).contains 0=true:=rfl
section
variable {h:AH} {b:Nat} {L:Lay} {S:HS}
set_option maxHeartbeats 4000000 in
theorem Shape_ok (s:Hp h b L S) (v:Inv S) (r:Rg S) (hg:S.globals.length<=2000000) {u:Value} {roots:List (Int × Int)} (hu:Rds h 2 u roots.length (ww roots)) (hm:roots.length<=2000000) (hr:∀ w∈roots,rgI w.2) :
 Gets Tryd.prog 9 [.pointer (some ⟨b,0,none⟩),u] h (fun res h'=>Keep (fun _=>False) h h'/\res = .ret (if (S.graph roots).2=true then .tuple #[tv (S.shapeT roots (S.graph roots).1),iv 0] else .tuple #[tv [],iv 1])):=by
 refine Gets.ofI (keep:=false) hP hM k9 (by rfl) (fun Ψ hΨ=>?_);have oH:=Own.new h 30 h.length [.pointer (some ⟨b,0,none⟩)];have k1:Keep (fun _=>False) h (h++[row 30 h.length [.pointer (some ⟨b,0,none⟩)]]):=Keep.push _ _ _;have l1:(h++[row 30 h.length [.pointer (some ⟨b,0,none⟩)]]).length=h.length+1:=by simp
 simp only[ZG,↓reduceIte,ZA,ZB,ZC,r9,YE,YC,YO,YA,YL,YX,YS,Ya,Yb,Yl,Yf,Yg,Yi,Ym,Yk,Yt,Yn,Yz,Yp,Yq,Yd,mbl,ZD,ZE,ZF];generalize h++[row 30 h.length [.pointer (some ⟨b,0,none⟩)]]=h1 at oH k1 l1 ⊢;simp only[ZG,↓reduceIte,ZA,ZB,ZC,mbl,ZD,ZE,ZF,oH.cells.ld];refine XX_of (graphOf_ok (s.keepF k1) v hg (hu.keep k1 (fun _ _ e=>e)) (by omega)) (fun res h2 hle hn=>?_);obtain ⟨k2,bg,bi,bm,v2,rfl,g2⟩:=hn;refine .ret ?_;have k02:=k1.trans k2;have o6:=Own.new h2 62 h2.length [.pointer none];have k3:Keep (fun _=>False) h2 (h2++[row 62 h2.length [.pointer none]]):=Keep.push _ _ _;have l3:(h2++[row 62 h2.length [.pointer none]]).length=h2.length+1:=by simp
 simp only[ZG,↓reduceIte,ZA,ZB,ZC,mbl,ZD,ZE,ZF];generalize h2++[row 62 h2.length [.pointer none]]=h3 at o6 k3 l3 ⊢;refine XH_own o6 rfl (by simp [Value.cells]) rfl (fun h4 q1 q2 q3=>?_);have o64:Own h4 h2.length 62 [.pointer (some ⟨bg,0,none⟩)]:=by simpa [Value.cells] using q1
 have k24:Keep (fun _=>False) h2 h4:=k3.trans' q2 (fun c hc e=>by omega);have g4:=g2.keepF k24;have oH4:=(oH.keep k2 (fun e=>e)).keep k24 (fun e=>e);have k04:=k02.trans k24
 by_cases hok:(S.graph roots).2=true
 case neg =>
  have hok':(S.graph roots).2=false:=by simpa using hok
  rw[hok'];simp only[ZG,↓reduceIte,ZA,ZB,ZC,mbl,ZD,ZE,ZF];exact hΨ _ _ (finI_ret (.inl rfl) (rv2 rfl rfl ⟨k04,by rw[if_neg hok];rfl⟩))
 rw[hok] at g4 ⊢;generalize hts:(S.graph roots).1=ts at g4;have hlen:=g4.gd.len v;have hbg:=v.bg;have oB:=Own.new h4 bdT h4.length [.pointer none,.slice none 0 0];have k5:Keep (fun _=>False) h4 (h4++[row bdT h4.length [.pointer none,.slice none 0 0]]):=Keep.push _ _ _;have l5:(h4++[row bdT h4.length [.pointer none,.slice none 0 0]]).length=h4.length+1:=by simp
 simp only[ZG,↓reduceIte,ZA,ZB,ZC,mbl,ZD,ZE,ZF];generalize h4++[row bdT h4.length [.pointer none,.slice none 0 0]]=h5 at oB k5 l5 ⊢;have k05:=k04.trans k5;have lb5:Lb h5 b L S bg bi bm v2 ts h4.length [] (.slice none 0 0) :=
  ⟨g4.keepF k5,⟨_,oB,.inl rfl,.nil,fun q e=>e.elim,fun _=>rfl⟩,⟨g4.hp.c0 _ (Nat.le_refl _),fun e=>by have:=g4.lt _ e;omega⟩,fun q e=>e.elim⟩
 have o65:=o64.keep k5 (fun e=>e);have oH5:=oH4.keep k5 (fun e=>e);simp only[ZG,↓reduceIte,ZA,ZB,ZC,o65.cells.ld,oH5.cells.ld,mbl,ZD,ZE,ZF];have hlt4:=k04.len;have sl:([114,111,111,116,115]:Bs).length=5:=rfl;refine XX_of (line_ok lb5 r (s:=[114,111,111,116,115]) (hu.keep k05 (fun _ _ e=>e)) (fun q hq=>⟨fun e=>by have:=hu.lt q hq;omega,fun e=>e⟩) hr hm (by rw[sl,Z2];omega)) (fun res h6 hle6 hn6=>?_);obtain ⟨rfl,v6,lb6,w6⟩:=hn6;refine .ret ?_;have hn6:∀ q,bk v6 q->h4.length<q:=fun q e=>(w6.2 q e).elim (fun e=>e.elim) (fun e=>by omega)
 have kk6:Keep (fun _=>False) h4 h6:=k5.trans' w6.1 (fun c hc e=>e.elim (fun e=>by omega) (fun e=>e.elim));have o66:=o64.keep kk6 (fun e=>e);have oH6:=oH4.keep kk6 (fun e=>e);simp only[ZG,↓reduceIte,ZA,ZB,ZC,o66.cells.ld,oH6.cells.ld,mbl,ZD,ZE,ZF];refine XX_of (Globals_ok lb6.gr.hp (by omega)) (fun res h7 hle7 hn7=>?_);obtain ⟨k7,vg,rfl,og7,fg7⟩:=hn7;refine .ret ?_;have kk7:=kk6.trans k7;have lb7:=lb6.keepF k7;have o67:=o64.keep kk7 (fun e=>e);have oH7:=oH4.keep kk7 (fun e=>e);simp only[ZG,↓reduceIte,ZA,ZB,ZC,ct1,o66.cells.ld,oH6.cells.ld,o67.cells.ld,oH7.cells.ld,mbl,ZD,ZE,ZF];have sl2:([103,108,111,98,97,108,115]:Bs).length=7:=rfl;have hll6:(S.lineT ts [114,111,111,116,115] roots).length<=6+23*roots.length:=by
  have:=lbls_len r v (ts:=ts) (by omega) hr;simp only[HS.lineT,Z0,Z1,Z2];omega
 have hl6:=kk6.len;refine XX_of (line_ok lb7 r (s:=[103,108,111,98,97,108,115]) og7.rds (fun q hq=>⟨fun e=>by have:=(fg7 q hq.bk).1;omega,fun e=>by have:=(fg7 q hq.bk).1;obtain ⟨a,ba⟩:=lb6.bd;have:=ba.ow.lt q e;omega⟩) r.gl hg (by rw[sl2,List.nil_append];omega)) (fun res h8 hle8 hn8=>?_);obtain ⟨rfl,v8,lb8,w8⟩:=hn8;refine .ret ?_;rw[List.nil_append] at lb8;have hn8:∀ q,bk v8 q->h4.length<q:=fun q e=>(w8.2 q e).elim (hn6 q) (fun e=>by have:=kk7.len;have:=k5.len;omega)
 have kk8:Keep (fun _=>False) h4 h8:=kk7.trans' w8.1 (fun c hc e=>e.elim (fun e=>by omega) (fun e=>by have:=hn6 c e;omega));have o68:=o64.keep kk8 (fun e=>e);have oH8:=oH4.keep kk8 (fun e=>e);have hll8:(S.lineT ts [103,108,111,98,97,108,115] S.globals).length<=8+23*S.globals.length:=by
  have:=lbls_len r v (ts:=ts) (by omega) r.gl;simp only[HS.lineT,Z0,Z1,Z2];omega
 simp only[ZG,↓reduceIte,ZA,ZB,ZC,ct1,o66.cells.ld,o67.cells.ld,o68.cells.ld,oH8.cells.ld,mbl,ZD,ZE,ZF];refine XX_of (each_ok lb8.gr.og.lt) (fun res h9 hle9 hn9=>?_);obtain ⟨k9,bx,ty,rfl,ox,fx⟩:=hn9;refine .ret ?_;simp only[ZG,↓reduceIte,ZA,ZB,ZC,XC_rf,rx_n,look_cons];have kk9:=kk8.trans k9;have hbx:h4.length<bx:=by have:=k5.len;have:=w6.1.len;have:=k7.len;have:=w8.1.len;omega
 have hfn:∀ w∈ts,(S.flds w).length<=1048576:=fun w hw=>by
  obtain ⟨n,f⟩:=v.ok.fc (g4.gd.1 w hw).1 (by have:=v.ln;have:=v.sz;omega);simp [HS.flds];omega
 generalize hA:S.lineT ts [114,111,111,116,115] roots++S.lineT ts [103,108,111,98,97,108,115] S.globals=A at lb8;have hAl:A.length<=100000000:=by rw[<- hA,Z0];omega
 refine XRf_each (M:=1048577) (St:=fun i h'=>i<=ts.length /\ ∃ vb,Lb h' b L S bg bi bm v2 ts h4.length (A++(ts.take i).flatMap (S.objT ts)) vb/\Own h' bx ty [.pointer (some ⟨bg,0,none⟩)]/\(∀ q,bk vb q->h4.length<q/\q≠bx)/\Keep (fun _=>False) h4 h')
  (Fin:=fun out h'=>out = .norm /\ ∃ vb,Lb h' b L S bg bi bm v2 ts h4.length (A++ts.flatMap (S.objT ts)) vb/\(∀ q,bk vb q->h4.length<q)/\Keep (fun _=>False) h4 h') (by omega)
  ⟨Zj _,v8,by simpa using lb8.keepF k9,ox,fun q e=>⟨hn8 q e,fun c=>by obtain ⟨a,ba⟩:=lb8.bd;have:=ba.ow.lt q e;omega⟩,kk9⟩ ?_ ?_
 ·rintro i hh ⟨hi,vb,lb,oxh,fb,kk⟩
  refine ⟨by omega,ty,bg,_,_,bi,bm,v2,ts,oxh,lb.gr.og,lb.gr.ix,hi,fun he=>?_,fun w hw hx kx=>?_⟩
  ·refine ⟨rfl,vb,?_,fun q e=>(fb q e).1,kk⟩
   rw[he,List.take_length] at lb;exact lb
  ·have hlt:i<ts.length:=(Z3.1 hw).1
   have hmem:=Z5 hw;have hlies:=(lb.gr.gd.1 w hmem).1;have htk:(ts.take (i+1)).flatMap (S.objT ts)=(ts.take i).flatMap (S.objT ts)++S.objT ts w:=by
    rw[Zi,hw,Zf];simp
   have hal:=objs_len r v (ts:=ts) (by omega) (ws:=ts.take i) (fun w hw=>hfn w (Z8 hw));have hal2:(ts.take i).length<=1048577:=by rw[List.length_take];omega
   have hfw:=hfn w hmem;have hhd:=hdT_len r w;have kx0:=kk.trans kx;refine RndH.go (fun o hz=>o = .norm /\ ∃ vz,Lb hz b L S bg bi bm v2 ts h4.length (A++(ts.take (i+1)).flatMap (S.objT ts)) vz/\Wt h4.length hx vb hz vz)
    rfl (by decide) (by intro o ho;simp only[List.mem_cons,List.not_mem_nil,or_false] at ho;rcases ho with rfl|rfl<;>(intro f vs e;cases e)) (by rintro v h ⟨e,_⟩;cases e) (fun Ψ hΨ=>?_) (fun hz hlz hQ=>?_) (fun j hz hlz hj hQ=>absurd hQ.1 hj)
   ·simp only[ZG,↓reduceIte,ZA,ZB,ZC,updps]
    have oW:=Own.new hx 44 hx.length [iv 0,iv 0];have kp1:Keep (fun _=>False) hx (hx++[row 44 hx.length [iv 0,iv 0]]):=Keep.push _ _ _;generalize hx++[row 44 hx.length [iv 0,iv 0]]=hy at oW kp1 ⊢;refine XH_own oW rfl (by simp [Value.cells,wv]) rfl (fun hy2 p1 p2 p3=>?_);have oW2:Own hy2 hx.length 44 [iv w.1,iv w.2]:=by simpa [Value.cells,wv] using p1
    have kp2:Keep (fun _=>False) hx hy2:=kp1.trans' p2 (fun c hc e=>by omega);have lby:=(lb.keepF kx).keepF kp2;have oHy:=oH4.keep (kx0.trans kp2) (fun e=>e);simp only[ZG,↓reduceIte,ZA,ZB,ZC,oHy.cells.ld,oW2.cells.lds 0 2 (by simp),mbl,ZD,ZE,ZF];refine XX_of (Head_ok lby.gr.hp w) (fun res h13 hle13 hn13=>?_);obtain ⟨k13,rfl⟩:=hn13;refine .ret ?_;have oX:=Own.new h13 44 h13.length [iv 0,iv 0];have k14:Keep (fun _=>False) h13 (h13++[row 44 h13.length [iv 0,iv 0]]):=Keep.push _ _ _;simp only[ZG,↓reduceIte,ZA,ZB,ZC,wv,mbl,ZD,ZE,ZF];generalize h13++[row 44 h13.length [iv 0,iv 0]]=h14 at oX k14 ⊢;refine XH_own oX rfl (by simp [Value.cells]) rfl (fun h15 r1 r2 r3=>?_);have oX5:Own h15 h13.length 44 [iv (S.head w).1.1,iv (S.head w).1.2]:=by simpa [Value.cells] using r1
    have k15:Keep (fun _=>False) h13 h15:=k14.trans' r2 (fun c hc e=>by omega);have ky5:=k13.trans k15;have kx5:=kp2.trans ky5;have lb15:=lby.keepF ky5;have oW5:=oW2.keep ky5 (fun e=>e);have oH5':=oHy.keep ky5 (fun e=>e);simp only[ZG,↓reduceIte,ZA,ZB,ZC,oH5'.cells.ld,oW5.cells.lds 0 2 (by simp),mbl,ZD,ZE,ZF];refine XX_of (Fields_ok lb15.gr.hp v.ok w) (fun res h16 hle16 hn16=>?_);obtain ⟨k16,hn16⟩:=hn16;rw[if_pos hlies] at hn16;obtain ⟨vf,rfl,of,ff⟩:=hn16;refine .ret ?_;have kx6:=kx5.trans k16;have lb16:=lb15.keepF k16;have oX6:=oX5.keep k16 (fun e=>e);have o616:=o64.keep (kx0.trans kx6) (fun e=>e);have hrh:=head_rg r w;simp only[ZG,↓reduceIte,ZA,ZB,ZC,o616.cells.ld,oX6.cells.ld,mbl,ZD,ZE,ZF];refine XX_val (named_ok _ _) ?_;have hnl:=nmd_len (S.head w).1.1;have hil:=Lib.itoa_length_le _ hrh.1 hrh.2;have s1:sbin .add (tx (nmd (S.head w).1.1)) (⟨#[32]⟩:ByteArray)=some (tv (nmd (S.head w).1.1++[32])):=s_add (a:=nmd (S.head w).1.1) (b:=[32]) (by simp only[Z0,Z1,Z2];omega);have s2:sbin .add (tx (nmd (S.head w).1.1++[32])) (tx (Lib.itoa (S.head w).1.2))=some (tv (S.hdT w)):=s_add (by simp only[Z0,Z1,Z2];omega);simp only[ZG,↓reduceIte,ZA,ZB,ZC,ct4,ct2,ct0,ct1,o616.cells.ld,oX6.cells.ld,s1,mbl,ZD,ZE,ZF];refine XX_val (itoa_ok _ hrh.1 hrh.2 _) ?_;simp only[ZG,↓reduceIte,ZA,ZB,ZC,ct4,ct2,ct0,ct1,o616.cells.ld,oX6.cells.ld,s2,mbl,ZD,ZE,ZF];have hlb:=lb16.bd.choose_spec;refine XX_of (line_ok lb16 r of.rds (fun q hq=>⟨fun e=>by have:=(ff q hq.bk).1;have:=kx0.len;have:=kx5.len;have:=oxh.lt;have:=kx.len;omega,fun e=>by have:=(ff q hq.bk).1;have:=hlb.ow.lt q e;have:=lb15.bd.choose_spec.ow.lt q e;omega⟩) (flds_rg r w) (by omega) (by rw[Z0];omega)) (fun res h17 hle17 hn17=>?_);obtain ⟨rfl,vz,lbz,wz⟩:=hn17;refine .ret ?_;simp only[ZG,↓reduceIte,ZA,ZB,ZC,ct1];refine hΨ _ _ _ _ _ ⟨rfl,vz,?_,?_⟩
    ·rw[htk,<- Z6];exact lbz
    ·exact (Wt.refl h4.length hx vb).keepF kx6 |>.trans wz
   ·obtain ⟨_,vz,lbz,wz⟩:=hQ
    refine ⟨by omega,vz,lbz,(oxh.keep kx (fun e=>e)).keep wz.1 (fun e=>e.elim (fun e=>by omega) (fun e=>(fb _ e).2 rfl)),fun q e=>(wz.2 q e).elim (fb q) (fun e=>⟨by have:=oxh.lt;have:=kx.len;omega,fun c=>by have:=oxh.lt;have:=kx.len;omega⟩),kx0.trans' wz.1 (fun c hc e=>e.elim (fun e=>by omega) (fun e=>by have:=(fb c e).1;omega))⟩
 ·rintro out h' ⟨rfl,vb,lb,fb,kk⟩ hle
  obtain ⟨a,ba⟩:=lb.bd;simp only[ZG,↓reduceIte,ZA,ZB,ZC,mbl,ZD,ZE,ZF];refine XX_of (string_ok ba (by have:=objs_len r v (ts:=ts) (by omega) hfn;rw[Z0];omega)) (fun res h10 hle10 hn10=>?_);obtain ⟨rfl,k10⟩:=hn10;refine .ret ?_;simp only[ZG,↓reduceIte,ZA,ZB,ZC,mbl,ZD,ZE,ZF];exact hΨ _ _ (finI_ret (.inr rfl) (rv2 rfl rfl ⟨k04.trans (kk.trans' k10 (fun c hc e=>by have:=fb c e;omega)),by rw[if_pos hok,hts,HS.shapeT,hA];rfl⟩))
end
end Go.S19
