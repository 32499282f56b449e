import Derived.Test.YtnkbbpmcjopicaaDoorPk11
import GoSem.ClaimChange
import Derived.Carry
import Derived.OpenShut
import Derived.Test.YtnkbbpmcjopicaaDoorPk5
import Derived.Sort.Grow
import Derived.Deep.Draws
import Derived.Lib.LaidTab
import Derived.Lib.ItoaNum
import Derived.Test.YtnkbbpmcjopicaaDoorPk8
import Derived.Lib.IndexMore
import Derived.RangeFuncIn
import Derived.RangeFuncLeaves
import Derived.RangeFuncRecord
import Derived.LoopNIn
import Derived.Scope
import Derived.OrdersIn
set_option linter.unusedVariables false
set_option linter.unusedSimpArgs false
open Nat renaming reduceEqDiff -> ZA,reduceAdd -> ZB,reduceMul -> ZC,reduceLeDiff -> ZD,reduceLT -> ZE
open Int renaming reduceEq -> ZF
open List renaming getElem?_eq_some_iff->Z0,range->Z1,getElem?_range->Z2,getElem?_eq_none->Z3,mem_cons_self->Z6,getElem?_eq_getElem->Z7,getElem?_map->Z8,mem_cons_of_mem->Zb,getElem?_append->Zd,getElem?_append_left->Zf,take_append_of_le_length->Zj,flatten_cons->Zk,getElem?_eq_none_iff->Zl,length_eq_zero_iff->Zo,drop_of_length_le->Zq,drop_drop->Zs,mem_iff_getElem?->Zt,mem_of_getElem?->Zu,length_append->Zv,flatMap_cons->Zy
open Bool renaming and_eq_true->Z4,false_eq_true->Zx
open Option renaming bind_eq_some_iff->Z5,map_eq_some_iff->Zg,bind_some->Zh,map_some->Zi,getD_some->Zn
open Array renaming getD_eq_getD_getElem?->Z9,getElem?_eq_some_iff->Za,getElem?_eq_none->Zc,replicate->Zp
open Nat renaming add_mul->Ze,zero_add->Zm,le_refl->Zr,zero_mul->Zw,zero_le->Zz,one_mul->ZH
namespace Go.Eng
def tiles (P:Program):List Field->Nat->Nat->Bool
 | [],k,n=>k == n
 | f::fs,k,n=>f.offset == k && tiles P fs (k+P.cellsOf f.type) n
def plainT (P:Program):Nat->TypeId->Bool
 | 0,_=>false
 | n+1,t=>match P.underlying t with
   | some .bool=>true
   | some (.int _)=>true
   | some .string=>true
   | some (.slice e)=>plainT P n e && decide (0<P.cellsOf e) && (sizeT P e == some (P.cellsOf e))
   | some (.struct fs)=>tiles P fs.toList 0 (P.cellsOf t) && fs.toList.all fun f=>plainT P n f.type
   | some (.array m e)=>plainT P n e && (P.cellsOf t == m*P.cellsOf e)
   | _=>false
inductive Rd' {H:Type} (P:Program) (h:AH):TypeId->List Value->DataW H->Prop where
 | bool {t:TypeId} (hu:P.underlying t=some .bool) (b:Bool):Rd' P h t [.bool b] (.lit (.bool b))
 | int {t:TypeId} {k:IntKind} (hu:P.underlying t=some (.int k)) (n:Int) (hw:(Lit.int k n).wf=true):Rd' P h t [.int k n] (.lit (.int k n))
 | str {t:TypeId} (hu:P.underlying t=some .string) (s:ByteArray) (hs:s.size<=maxLen):Rd' P h t [.string s] (.lit (.string s.data.toList))
 | snil {t e:TypeId} (hu:P.underlying t=some (.slice e)):Rd' P h t [.slice none 0 0] .nil
 | sempty {t e:TypeId} (hu:P.underlying t=some (.slice e)) {b:Nat}:Rd' P h t [.slice (some ⟨b,0,none⟩) 0 0] (.slice [] [])
 | slice {t e:TypeId} (hu:P.underlying t=some (.slice e)) {b n:Nat} {css:List (List Value)} {ds rest:List (DataW H)} (hc:hcell h b=some css.flatten) (he:helem h b=some e) (hn:css.length=n) (hd:ds.length=n) (hm:n<=maxLen)
  (hsz:∀ cs∈css,cs.length=P.cellsOf e) (each:∀ (i:Nat) (cs:List Value) (d:DataW H),css[i]?=some cs->ds[i]?=some d->Rd' P h e cs d):Rd' P h t [.slice (some ⟨b,0,none⟩) n n] (.slice ds rest)
 | struct {t:TypeId} {fs:Array Field} (hu:P.underlying t=some (.struct fs)) {cs:List Value} (hl:cs.length=P.cellsOf t) {ds:List (DataW H)} (hd:ds.length=fs.size)
  (each:∀ (i:Nat) (f:Field) (d:DataW H),fs[i]?=some f->ds[i]?=some d->Rd' P h f.type ((cs.drop f.offset).take (P.cellsOf f.type)) d):Rd' P h t cs (.agg ds)
 | array {t e:TypeId} {n:Nat} (hu:P.underlying t=some (.array n e)) {cs:List Value} (hl:cs.length=P.cellsOf t) {ds:List (DataW H)} (hd:ds.length=n)
  (each:∀ (i:Nat) (d:DataW H),ds[i]?=some d->Rd' P h e ((cs.drop (i*P.cellsOf e)).take (P.cellsOf e)) d):Rd' P h t cs (.agg ds)
theorem hcell_ext {h ext:AH} {b:Nat} {cs:List Value} (hc:hcell h b=some cs):hcell (h++ext) b=some cs:=by
 have hl:b<h.length:=Cells.lt hc;unfold hcell at hc ⊢;rw[Zf hl];exact hc
theorem helem_ext {h ext:AH} {b:Nat} {e:TypeId} (hc:helem h b=some e):helem (h++ext) b=some e:=by
 have hl:b<h.length:=by
  unfold helem at hc
  split at hc
  ·rename_i h1;exact (Z0.1 h1).1
  ·cases hc
 unfold helem at hc ⊢;rw[Zf hl];exact hc
theorem Rd'.ext {H:Type} {P:Program} {h:AH} {t:TypeId} {cs:List Value} {d:DataW H} (hr:Rd' P h t cs d) (x:AH):Rd' P (h++x) t cs d:=by
 induction hr with
 | bool hu b=>exact .bool hu b
 | int hu n hw=>exact .int hu n hw
 | str hu s hs=>exact .str hu s hs
 | snil hu=>exact .snil hu
 | sempty hu=>exact .sempty hu
 | slice hu hc he hn hd hm hsz each ih=>exact .slice hu (hcell_ext hc) (helem_ext he) hn hd hm hsz ih
 | struct hu hl hd each ih=>exact .struct hu hl hd ih
 | array hu hl hd each ih=>exact .array hu hl hd ih
theorem mapM_inv {α β:Type} {f:α->Option β}:∀ (l:List α) (xs:List β),l.mapM f=some xs->xs.length=l.length /\ ∀ (i:Nat) (x:α),l[i]?=some x -> ∃ y,f x=some y/\xs[i]?=some y:=by
 intro l
 induction l with
 | nil=>intro xs h;simp at h;subst h;exact ⟨rfl,fun i x hx=>by simp at hx⟩
 | cons a l ih =>
   intro xs h;simp only[List.mapM_cons,Option.bind_eq_bind,Option.pure_def] at h;obtain ⟨y,h1,h⟩:=Z5.1 h;obtain ⟨ys,h2,h3⟩:=Z5.1 h;cases h3;obtain ⟨k1,k2⟩:=ih ys h2;refine ⟨by simp [k1],fun i x hx=>?_⟩;cases i with
   | zero=>simp at hx;subst hx;exact ⟨y,h1,rfl⟩
   | succ i=>obtain ⟨z,z1,z2⟩:=k2 i x (by simpa using hx);exact ⟨z,z1,by simpa using z2⟩
section
variable {H:Type} {enc:TypeId × Value->H} {P:Program} {W:World}
structure Dr (P:Program) (W:World) (h:AH) (r:Rho):Prop where
 hr:HR P r h W.heap
 ro:∀ (b:Nat) (B:Blk),h[b]?=some B->B.wr=false
def Ex (P:Program) (W:World) (h:AH) (r:Rho) (h':AH) (r':Rho):Prop:=Dr P W h' r'/\r.le r' /\ ∃ x,h'=h++x
theorem Ex.refl {h:AH} {r:Rho} (d:Dr P W h r):Ex P W h r h r:=⟨d,.refl r,[],by simp⟩
theorem Ex.trans {h h1 h2:AH} {r r1 r2:Rho} (a:Ex P W h r h1 r1) (b:Ex P W h1 r1 h2 r2):Ex P W h r h2 r2:=by
 obtain ⟨_,a2,x,rfl⟩:=a;obtain ⟨b1,b2,y,rfl⟩:=b;exact ⟨b1,a2.trans b2,x++y,by simp⟩
theorem Dr.push {h:AH} {r:Rho} (d:Dr P W h r) {x:Loc} {solo:Bool} {e:TypeId} {cs:List Value} (hx:x.blk<W.heap.size) (hb:BO P (r.upd h.length x) x (.cells false solo h.length 0 e cs) W.heap[x.blk]?) :
 Ex P W h r (h++[.cells false solo h.length 0 e cs]) (r.upd h.length x)/\(r.upd h.length x) h.length=some x:=by
 have hf:r h.length=none:=by
  cases hr:r h.length with
  | none=>rfl
  | some y=>have:=(d.hr.dom _ _ hr).1;omega
 have hle:=Rho.le_upd hf x;refine ⟨⟨⟨⟨fun b y hy=>?_,fun b B hB hl=>?_,fun b b' B B' y y' h1 h2 hne hw=>?_,d.hr.lay,fun g b B y _ h1 hw=>?_⟩,fun b B hB=>?_⟩,hle,_,rfl⟩,Rho.upd_same _ _ _⟩
 ·unfold Rho.upd at hy
  split at hy
  ·rename_i e;cases hy;subst e;exact ⟨by simp,hx⟩
  ·have:=d.hr.dom b y hy;exact ⟨by simp;omega,this.2⟩
 ·rw[Zd] at hB
  split at hB
  ·obtain ⟨y,h1,h2⟩:=d.hr.blk b B hB hl
   exact ⟨y,hle _ _ h1,h2.mono hle⟩
  ·rename_i hge
   by_cases e:b=h.length
   ·subst e;simp at hB;subst hB;exact ⟨x,Rho.upd_same _ _ _,hb⟩
   ·rw[Z3 (by simp;omega)] at hB;cases hB
 ·exfalso
  rw[Zd] at h1
  split at h1
  ·rw[d.ro b B h1] at hw;cases hw
  ·rename_i hge
   by_cases e:b=h.length
   ·subst e;simp at h1;subst h1;cases hw
   ·rw[Z3 (by simp;omega)] at h1;cases h1
 ·exfalso
  rw[Zd] at h1
  split at h1
  ·rw[d.ro b B h1] at hw;cases hw
  ·rename_i hge
   by_cases e:b=h.length
   ·subst e;simp at h1;subst h1;cases hw
   ·rw[Z3 (by simp;omega)] at h1;cases h1
 ·rw[Zd] at hB
  split at hB
  ·exact d.ro b B hB
  ·rename_i hge
   by_cases e:b=h.length
   ·subst e;simp at hB;subst hB;rfl
   ·rw[Z3 (by simp;omega)] at hB;cases hB
def Opens (P:Program) (W:World) (t:TypeId) (cs:List Value) (d:DataW H):Prop:=∀ (h:AH) (r:Rho),Dr P W h r -> ∃ (h':AH) (r':Rho) (avs:List Value),Ex P W h r h' r'/\VL r' avs cs/\Rd' P h' t avs d
theorem opens_many {e:TypeId}:∀ (l:List (List Value × DataW H)),(∀ x∈l,Opens P W e x.1 x.2) -> ∀ (h:AH) (r:Rho),Dr P W h r ->
 ∃ (h':AH) (r':Rho) (avss:List (List Value)),Ex P W h r h' r'/\avss.length=l.length /\ ∀ (i:Nat) (x:List Value × DataW H) (avs:List Value),l[i]?=some x->avss[i]?=some avs->VL r' avs x.1/\Rd' P h' e avs x.2:=by
 intro l
 induction l with
 | nil=>intro _ h r d;exact ⟨h,r,[],.refl d,rfl,fun i x avs hx=>by simp at hx⟩
 | cons x l ih =>
   intro hl h r d;obtain ⟨h1,r1,avs,e1,e2,e3⟩:=hl x Z6 h r d;obtain ⟨h2,r2,avss,k1,k2,k3⟩:=ih (fun y hy=>hl y (Zb _ hy)) h1 r1 e1.1;refine ⟨h2,r2,avs::avss,e1.trans k1,by simp [k2],fun i y a hy ha=>?_⟩;cases i with
   | zero =>
     simp at hy ha;subst hy;subst ha;obtain ⟨_,q2,z,rfl⟩:=k1;exact ⟨e2.mono q2,e3.ext z⟩
   | succ i=>exact k3 i y a (by simpa using hy) (by simpa using ha)
theorem opens_fields:∀ (fs:List Field) (k n:Nat) (cs:List Value) (ds:List (DataW H)),tiles P fs k n=true->cs.length=n->ds.length=fs.length ->
 (∀ (i:Nat) (f:Field) (d:DataW H),fs[i]?=some f->ds[i]?=some d->Opens P W f.type ((cs.drop f.offset).take (P.cellsOf f.type)) d)->k<=n -> ∀ (h:AH) (r:Rho),Dr P W h r ->
 ∃ (h':AH) (r':Rho) (avs:List Value),Ex P W h r h' r'/\VL r' avs (cs.drop k) /\ ∀ (i:Nat) (f:Field) (d:DataW H),fs[i]?=some f->ds[i]?=some d->k<=f.offset/\Rd' P h' f.type ((avs.drop (f.offset-k)).take (P.cellsOf f.type)) d:=by
 intro fs
 induction fs with
 | nil =>
   intro k n cs ds ht hl hd _ hk h r dr;simp only[tiles,beq_iff_eq] at ht;refine ⟨h,r,[],.refl dr,?_,fun i f d hf=>by simp at hf⟩;rw[Zq (by omega)];exact .nil r
 | cons f fs ih =>
   intro k n cs ds ht hl hd hop hk h r dr;cases ds with
   | nil=>simp at hd
   | cons d ds =>
     simp only[tiles,Z4,beq_iff_eq] at ht;obtain ⟨ho,ht⟩:=ht;have hkn:k+P.cellsOf f.type<=n:=by
      have:∀ (fs:List Field) (k n:Nat),tiles P fs k n=true->k<=n:=by
       intro fs
       induction fs with
       | nil=>intro k n h;simp only[tiles,beq_iff_eq] at h;omega
       | cons f fs ih=>intro k n h;simp only[tiles,Z4] at h;have:=ih _ _ h.2;omega
      exact this _ _ _ ht
     obtain ⟨h1,r1,avs,e1,e2,e3⟩:=hop 0 f d rfl rfl h r dr;rw[ho] at e2;obtain ⟨h2,r2,avs2,k1,k2,k3⟩:=ih (k+P.cellsOf f.type) n cs ds ht hl (by simpa using hd) (fun i f' d' a b=>hop (i+1) f' d' (by simpa using a) (by simpa using b)) hkn h1 r1 e1.1;have hlen:avs.length=P.cellsOf f.type:=by rw[e2.1];simp;omega
     refine ⟨h2,r2,avs++avs2,e1.trans k1,?_,fun i f' d' a b=>?_⟩
     ·have:=(e2.mono k1.2.1).append k2
      rw[<- Zs,List.take_append_drop] at this;exact this
     ·cases i with
      | zero =>
        simp at a b;subst a;subst b;refine ⟨by omega,?_⟩;rw[ho,Nat.sub_self,List.drop_zero,Zj (by omega),List.take_of_length_le (by omega)];obtain ⟨_,_,z,rfl⟩:=k1;exact e3.ext z
      | succ i =>
        obtain ⟨q1,q2⟩:=k3 i f' d' (by simpa using a) (by simpa using b);refine ⟨by omega,?_⟩;rw[List.drop_append,Zq (by omega),List.nil_append,hlen];rw[show f'.offset-k-P.cellsOf f.type=f'.offset-(k+P.cellsOf f.type) by omega];exact q2
theorem cell_inv {a:Addr} {v:Value} (h:W.cell? a=some v):a.spot=none/\a.block<W.heap.size /\ ∃ cur e fr,W.heap[a.block]?=some (.cells cur e fr)/\cur[a.off]?=some v:=by
 unfold World.cell? at h
 split at h
 ·rename_i cur e fr hb
  split at h
  ·cases h
  ·rename_i hs
   exact ⟨by simpa using hs,(Za.1 hb).1,cur,e,fr,hb,h⟩
 ·cases h
theorem cells_inv {a:Addr} {n:Nat} {cs:List Value} (h:W.cells? 0 a n=some cs):cs.length=n /\ ∀ j,j<n -> ∃ v,W.cell? (a.add j)=some v/\cs[j]?=some v:=by
 unfold World.cells? at h;rw[if_pos (Zz _)] at h;obtain ⟨h1,h2⟩:=mapM_inv _ _ h;exact ⟨by simpa using h1,fun j hj=>h2 j j (Z2 hj)⟩
theorem opens_slice {t e:TypeId} (hu:P.underlying t=some (.slice e)) (hpos:0<P.cellsOf e) (hsz:sizeT P e=some (P.cellsOf e)) {a:Addr} {len cap:Nat} {elems:List (DataW H × List MemPlace)} {rest:List (DataW H × List MemPlace)}
 (hlc:len<=cap) (hcm:cap<=maxLen) {fuel:Nat}
 (h1:(Z1 len).mapM (fun i=>(W.cells? 0 (a.add (i*P.cellsOf e)) (P.cellsOf e)).bind (DataW.trod enc P W 0 (fun _=>true) true fuel e))=some elems)
 (h2:(Z1 (cap-len)).mapM (fun j=>(W.cells? 0 (a.add ((len+j)*P.cellsOf e)) (P.cellsOf e)).bind (DataW.trod enc P W 0 (fun _=>true) true fuel e))=some rest)
 (ih:∀ cs d ps,DataW.trod enc P W 0 (fun _=>true) true fuel e cs=some (d,ps)->Opens P W e cs d):Opens P W t [.slice (some a) len cap] (.slice (elems.map (·.1)) (rest.map (·.1))):=by
 intro h r dr;obtain ⟨e1,e2⟩:=mapM_inv _ _ h1;obtain ⟨f1,f2⟩:=mapM_inv _ _ h2;simp only[List.length_range] at e1 f1
 by_cases hc0:cap=0
 ·subst hc0
  have hl0:len=0:=by omega
  subst hl0;have:elems=[]:=Zo.1 e1;have:rest=[]:=Zo.1 f1;subst elems;subst rest;exact ⟨h,r,[.slice (some ⟨0,0,none⟩) 0 0],.refl dr,.cons (.sempty rfl rfl) (.nil r),.sempty hu⟩
 ·
  have all:∀ i,i<cap -> ∃ cs d ps,W.cells? 0 (a.add (i*P.cellsOf e)) (P.cellsOf e)=some cs/\DataW.trod enc P W 0 (fun _=>true) true fuel e cs=some (d,ps)/\(i<len->elems[i]?=some (d,ps)):=by
   intro i hi
   by_cases hil:i<len
   ·obtain ⟨y,y1,y2⟩:=e2 i i (Z2 hil)
    obtain ⟨cs,c1,c2⟩:=Z5.1 y1;exact ⟨cs,y.1,y.2,c1,c2,fun _=>y2⟩
   ·obtain ⟨y,y1,y2⟩:=f2 (i-len) (i-len) (Z2 (by omega))
    rw[show len+(i-len)=i by omega] at y1;obtain ⟨cs,c1,c2⟩:=Z5.1 y1;exact ⟨cs,y.1,y.2,c1,c2,fun h=>absurd h hil⟩
  obtain ⟨cs0,d0,ps0,c0,_,_⟩:=all 0 (by omega);obtain ⟨_,c0'⟩:=cells_inv c0;obtain ⟨v0,v1,v2⟩:=c0' 0 hpos;have ha0:(a.add (0*P.cellsOf e)).add 0=a:=by simp [Addr.add]
  rw[ha0] at v1;obtain ⟨hspot,hblk,cur,te,fr,hcur,_⟩:=cell_inv v1;obtain ⟨blk,off,spot⟩:=a;simp only at hspot hblk hcur;subst hspot
  let l:List (List Value × DataW H):=(Z1 len).map fun i=>match W.cells? 0 (Addr.add ⟨blk,off,none⟩ (i*P.cellsOf e)) (P.cellsOf e),elems[i]? with
   | some cs,some x=>(cs,x.1)
   | _,_=>([],.nil)
  have lget:∀ (i:Nat),i<len -> ∃ (cs:List Value) (d:DataW H) (ps:List MemPlace),W.cells? 0 (Addr.add ⟨blk,off,none⟩ (i*P.cellsOf e)) (P.cellsOf e)=some cs/\DataW.trod enc P W 0 (fun _=>true) true fuel e cs=some (d,ps)/\elems[i]?=some (d,ps)/\l[i]?=some (cs,d):=by
   intro i hi;obtain ⟨cs,d,ps,c1,c2,c3⟩:=all i (by omega);refine ⟨cs,d,ps,c1,c2,c3 hi,?_⟩;simp only[l,Z8,Z2 hi,Zi,c1,c3 hi]
  have llen:l.length=len:=by simp [l]
  have hop:∀ x∈l,Opens P W e x.1 x.2:=by
   intro x hx;obtain ⟨i,hi⟩:=Zt.1 hx;have hil:i<len:=by have:=(Z0.1 hi).1;omega
   obtain ⟨cs,d,ps,c1,c2,c3,c4⟩:=lget i hil;rw[hi] at c4;cases c4;exact ih cs d ps c2
  obtain ⟨h',r',avss,k1,k2,k3⟩:=opens_many l hop h r dr;have kget:∀ (i:Nat) (avs:List Value),avss[i]?=some avs -> ∃ (cs:List Value) (d:DataW H),l[i]?=some (cs,d)/\VL r' avs cs/\Rd' P h' e avs d/\cs.length=P.cellsOf e:=by
   intro i avs hi;have hil:i<len:=by have:=(Z0.1 hi).1;omega
   obtain ⟨cs,d,ps,c1,c2,c3,c4⟩:=lget i hil;obtain ⟨q1,q2⟩:=k3 i _ avs c4 hi;exact ⟨cs,d,c4,q1,q2,(cells_inv c1).1⟩
  have havl:∀ avs∈avss,avs.length=P.cellsOf e:=by
   intro avs hx;obtain ⟨i,hi⟩:=Zt.1 hx;obtain ⟨cs,d,_,q1,_,q3⟩:=kget i avs hi;rw[q1.1,q3]
  have hflen:avss.flatten.length=len*P.cellsOf e:=by
   have:∀ (L:List (List Value)),(∀ x∈L,x.length=P.cellsOf e)->L.flatten.length=L.length*P.cellsOf e:=by
    intro L
    induction L with
    | nil=>intro _;simp
    | cons x L ih=>intro hL;simp only[Zk,Zv,List.length_cons,ih (fun y hy=>hL y (Zb _ hy)),hL x Z6,Ze,ZH];omega
   rw[this avss havl,k2,llen]
  have hfget:∀ (i j:Nat),i<len->j<P.cellsOf e->avss.flatten[i*P.cellsOf e+j]?=(avss[i]?).bind (·[j]?):=by
   have:∀ (L:List (List Value)),(∀ x∈L,x.length=P.cellsOf e) -> ∀ (i j:Nat),j<P.cellsOf e->L.flatten[i*P.cellsOf e+j]?=(L[i]?).bind (·[j]?):=by
    intro L
    induction L with
    | nil=>intro _ i j _;simp
    | cons x L ih =>
      intro hL i j hj;have hx:=hL x Z6;cases i with
      | zero=>simp only[Zk,Zw,Zm];rw[Zf (by omega)];simp
      | succ i =>
        simp only[Zk];rw[List.getElem?_append_right (by rw[hx,Ze];omega)];have:=ih (fun y hy=>hL y (Zb _ hy)) i j hj;rw[show (i+1)*P.cellsOf e+j-x.length=i*P.cellsOf e+j by rw[hx,Ze];omega]
        simpa using this
   intro i j _ hj;exact this avss havl i j hj
  have cellat:∀ q,q<len*P.cellsOf e -> ∃ v v',avss.flatten[q]?=some v/\cur[off+q]?=some v'/\VR r' v v':=by
   intro q hq;have hi:q / P.cellsOf e<len:=Nat.div_lt_of_lt_mul (by rw[Nat.mul_comm];exact hq);have hj:q % P.cellsOf e<P.cellsOf e:=Nat.mod_lt _ hpos;have hqe:q / P.cellsOf e*P.cellsOf e+q % P.cellsOf e=q:=by rw[Nat.mul_comm];exact Nat.div_add_mod _ _
   obtain ⟨cs,d,ps,c1,c2,c3,c4⟩:=lget (q / P.cellsOf e) hi;obtain ⟨avs,hav⟩:∃ avs,avss[q / P.cellsOf e]?=some avs:=⟨avss[q / P.cellsOf e]'(by omega),by simp⟩
   obtain ⟨q1,q2⟩:=k3 _ _ avs c4 hav;obtain ⟨_,cc⟩:=cells_inv c1;obtain ⟨v',w1,w2⟩:=cc _ hj;obtain ⟨_,_,cur2,te2,fr2,w3,w4⟩:=cell_inv w1;have hadd:(Addr.add (Addr.add ⟨blk,off,none⟩ (q / P.cellsOf e*P.cellsOf e)) (q % P.cellsOf e))=⟨blk,off+q,none⟩:=by
    simp only[Addr.add_lit];rw[show off+q / P.cellsOf e*P.cellsOf e+q % P.cellsOf e=off+q by omega]
   rw[hadd] at w3 w4;simp only at w3 w4;rw[hcur] at w3;cases w3;have hlt:q % P.cellsOf e<avs.length:=by rw[havl avs (Zu hav)];exact hj
   refine ⟨avs[q % P.cellsOf e],v',?_,w4,q1.2 _ _ _ (by simp [hlt]) w2⟩;have:=hfget _ _ hi hj;rw[hqe,hav] at this;rw[this];simp [hlt]
  have hoff:off<cur.size:=by
   obtain ⟨_,_,cur2,_,_,w3,w4⟩:=cell_inv v1;simp only at w3 w4;rw[hcur] at w3;cases w3;exact (Za.1 w4).1
  let x:Loc:=⟨blk,off,off+cap*P.cellsOf e,P.cellsOf e⟩
  have hBO:BO P (r'.upd h'.length x) x (.cells false true h'.length 0 e avss.flatten) W.heap[x.blk]?:=by
   have hf:r' h'.length=none:=by
    cases hr:r' h'.length with
    | none=>rfl
    | some y=>have:=(k1.1.hr.dom _ _ hr).1;omega
   refine ⟨cur,te,fr,hcur,(fun hh=>by cases hh),hsz,?_,fun i v v' hv hv'=>?_⟩
   ·show off+avss.flatten.length<=cur.size
    rw[hflen]
    by_cases hz:len*P.cellsOf e=0
    ·omega
    ·obtain ⟨_,v',_,q2,_⟩:=cellat (len*P.cellsOf e-1) (by omega)
     have:=(Za.1 q2).1;omega
   ·have hq:i<len*P.cellsOf e:=by have:=(Z0.1 hv).1;omega
    obtain ⟨u,u',q1,q2,q3⟩:=cellat i hq;rw[hv] at q1;cases q1;have hv'':cur[off+i]?=some v':=hv';rw[q2] at hv'';cases hv'';exact q3.mono (Rho.le_upd hf x)
  obtain ⟨m1,m2⟩:=k1.1.push (solo:=true) (e:=e) (cs:=avss.flatten) (x:=x) hblk hBO;refine ⟨_,_,[.slice (some ⟨h'.length,0,none⟩) len len],k1.trans m1,.cons ?_ (.nil _),?_⟩
  ·have:=VR.slice (r:=r'.upd h'.length x) (b:=h'.length) (o:=0) (n:=len) (c:=len) (c':=cap) m2 hlc (Zr _) (by show 0+off+cap*P.cellsOf e<=off+cap*P.cellsOf e;omega)
   simpa [x] using this
  ·refine .slice hu (css:=avss) ?_ ?_ (by rw[k2,llen]) (by simp [e1]) (by omega) havl (fun i cs d hi hd=>?_)
   ·simp [hcell]
   ·simp [helem]
   ·obtain ⟨cs',d',q1,q2,q3,q4⟩:=kget i cs hi
    have hil:i<len:=by have:=(Z0.1 hi).1;omega
    obtain ⟨cs2,d2,ps2,c1,c2,c3,c4⟩:=lget i hil;rw[q1] at c4;cases c4;rw[Z8,c3] at hd;simp at hd;subst hd;exact q3.ext _
theorem opens:∀ (fuel n:Nat) (t:TypeId) (cs:List Value) (d:DataW H) (ps:List MemPlace),plainT P n t=true->DataW.trod enc P W 0 (fun _=>true) true fuel t cs=some (d,ps)->Opens P W t cs d:=by
 intro fuel
 induction fuel with
 | zero=>intro n t cs d ps _ h;simp [DataW.trod] at h
 | succ fuel ih =>
   intro n t cs d ps hp h;cases n with
   | zero=>simp [plainT] at hp
   | succ n =>
     cases hu:P.underlying t with
     | none=>simp [plainT,hu] at hp
     | some u =>
       simp only[plainT,hu] at hp;cases u<;>simp only at hp<;>try (cases hp;done)
       case bool =>
        rcases cs with _|⟨v,_|⟨v2,cs⟩⟩<;>first|(simp [DataW.trod,hu] at h;done)|skip
        cases v<;>first|(simp [DataW.trod,hu] at h;done)|skip
        rename_i b
        simp [DataW.trod,hu] at h;obtain ⟨rfl,rfl⟩:=h;exact fun h r dr=>⟨h,r,[.bool b],.refl dr,.cons (.bool b) (.nil r),.bool hu b⟩
       case int k =>
        rcases cs with _|⟨v,_|⟨v2,cs⟩⟩<;>first|(simp [DataW.trod,hu] at h;done)|skip
        cases v<;>first|(simp [DataW.trod,hu] at h;done)|skip
        rename_i k' m
        simp only[DataW.trod,hu] at h
        split at h
        ·rename_i hc
         obtain ⟨rfl,hw⟩:=hc;cases h;exact fun h r dr=>⟨h,r,[.int _ m],.refl dr,.cons (.int _ m) (.nil r),.int hu m hw⟩
        ·cases h
       case string =>
        rcases cs with _|⟨v,_|⟨v2,cs⟩⟩<;>first|(simp [DataW.trod,hu] at h;done)|skip
        cases v<;>first|(simp [DataW.trod,hu] at h;done)|skip
        rename_i s
        simp only[DataW.trod,hu] at h
        split at h
        ·rename_i hc
         cases h;exact fun h r dr=>⟨h,r,[.string s],.refl dr,.cons (.string s) (.nil r),.str hu s hc⟩
        ·cases h
       case slice e =>
        simp only[Z4,decide_eq_true_eq,beq_iff_eq] at hp
        rcases cs with _|⟨v,_|⟨v2,cs⟩⟩<;>first|(simp [DataW.trod,hu] at h;done)|skip
        cases v<;>first|(simp [DataW.trod,hu] at h;done)|skip
        rename_i a len cap
        cases a with
        | none =>
          cases len<;>cases cap<;>first|(simp [DataW.trod,hu] at h;done)|skip
          simp [DataW.trod,hu] at h;obtain ⟨rfl,rfl⟩:=h;exact fun h r dr=>⟨h,r,[.slice none 0 0],.refl dr,.cons .snil (.nil r),.snil hu⟩
        | some a =>
          simp only[DataW.trod,hu,if_true] at h
          split at h
          ·rename_i hc
           obtain ⟨elems,h1,h⟩:=Z5.1 h;obtain ⟨rest,h2,h3⟩:=Zg.1 h;cases h3;exact opens_slice hu hp.1.2 hp.2 hc.2.1 hc.2.2 h1 h2 (fun cs d ps=>ih n e cs d ps hp.1.1)
          ·cases h
       case struct fs =>
        simp only[Z4] at hp;simp only[DataW.trod,hu] at h
        split at h
        ·rename_i hl
         obtain ⟨xs,h1,h2⟩:=Zg.1 h;cases h2;obtain ⟨e1,e2⟩:=mapM_inv _ _ h1;intro h r dr;obtain ⟨h',r',avs,k1,k2,k3⟩:=opens_fields (P:=P) (W:=W) fs.toList 0 (P.cellsOf t) cs (xs.map (·.1)) hp.1 hl (by simp [e1]) (fun i f d hf hd=>by
          obtain ⟨y,y1,y2⟩:=e2 i f hf;rw[Z8,y2] at hd;simp at hd;subst hd;exact ih n f.type _ _ _ (List.all_eq_true.1 hp.2 f (Zu hf)) y1) (Zz _) h r dr
         refine ⟨h',r',avs,k1,by simpa using k2,.struct hu (by have:=k2.1;simp at this;omega) (by simp [e1]) (fun i f d hf hd=>?_)⟩;obtain ⟨_,q2⟩:=k3 i f d (by simpa using hf) hd
         simpa using q2
        ·cases h
       case array m e =>
        simp only[DataW.trod,hu] at h
        split at h
        ·rename_i hl
         obtain ⟨xs,h1,h2⟩:=Zg.1 h;cases h2;simp only[Z4,beq_iff_eq] at hp;obtain ⟨e1,e2⟩:=mapM_inv _ _ h1
         let fa:Nat->Field:=fun i=>{ (default:Field) with type:=e,offset:=i*P.cellsOf e }
         have ht:∀ (j k:Nat),k+j=m->tiles P ((List.range' k j).map fa) (k*P.cellsOf e) (P.cellsOf t)=true:=by
          intro j
          induction j with
          | zero=>intro k hk;simp only[List.range'_zero,List.map_nil,tiles,beq_iff_eq];rw[hp.2];congr 1
          | succ j ihj =>
            intro k hk;simp only[List.range'_succ,List.map_cons,tiles,fa,Z4,beq_self_eq_true,true_and];have:=ihj (k+1) (by omega);rw[Ze,ZH] at this;exact this
         have h0:tiles P ((Z1 m).map fa) 0 (P.cellsOf t)=true:=by
          have:=ht m 0 (by omega);rw[<- List.range_eq_range',Zw] at this;exact this
         have fget:∀ (i:Nat) (f:Field),((Z1 m).map fa)[i]?=some f->i<m/\f=fa i:=by
          intro i f hf;rw[Z8] at hf
          by_cases hi:i<m
          ·rw[Z2 hi] at hf;simp at hf;exact ⟨hi,hf.symm⟩
          ·rw[Z3 (by simp;omega)] at hf;cases hf
         intro h r dr;obtain ⟨h',r',avs,k1,k2,k3⟩:=opens_fields (P:=P) (W:=W) ((Z1 m).map fa) 0 (P.cellsOf t) cs (xs.map (·.1)) h0 hl (by simpa using e1) (fun i f d hf hd=>by
          obtain ⟨hi,rfl⟩:=fget i f hf;obtain ⟨y,y1,y2⟩:=e2 i i (Z2 hi);rw[Z8,y2] at hd;simp at hd;subst hd;exact ih n e _ _ _ hp.1 y1) (Zz _) h r dr
         refine ⟨h',r',avs,k1,by simpa using k2,.array hu (by have:=k2.1;simp at this;omega) (by simpa using e1) (fun i d hd=>?_)⟩;have hi:i<m:=by
          have:=(Z0.1 hd).1;simp at this e1;omega
         obtain ⟨_,q2⟩:=k3 i (fa i) d (by rw[Z8,Z2 hi];rfl) hd
         simpa [fa] using q2
        ·cases h
end
end Go.Eng

namespace Go.Eng
open Go.RowKit Go.ChangeShapes
section
variable {H:Type} {enc:TypeId × Value->H} {P:Program} {W:World}
def isAg (P:Program) (t:TypeId):Bool:=match P.underlying t with
 | some (.struct _)=>true
 | some (.array _ _)=>true
 | _=>false
def RdA (P:Program) (h:AH) (t:TypeId) (v:Value) (d:DataW H):Prop :=
 if isAg P t then ∃ cs,v = .agg cs.toArray/\Rd' P h t cs d else Rd' P h t [v] d
theorem RdA.ext {h:AH} {t:TypeId} {v:Value} {d:DataW H} (hr:RdA P h t v d) (x:AH):RdA P (h++x) t v d:=by
 unfold RdA at hr ⊢
 split
 ·rename_i hh;rw[if_pos hh] at hr;obtain ⟨cs,h1,h2⟩:=hr;exact ⟨cs,h1,h2.ext x⟩
 ·rename_i hh;rw[if_neg hh] at hr;exact hr.ext x
theorem scalar_cells {t:TypeId} {v:Value} {d:DataW H} {fuel n:Nat} {ps:List MemPlace} (hp:plainT P n t=true) (ha:isAg P t=false) {b:Nat} (hok:Value.okWide P W .any b t v) (h:DataW.trod enc P W 0 (fun _=>true) true fuel t v.cells.toList=some (d,ps)):v.cells = #[v]:=by
 cases v<;>try rfl
 exfalso
 cases n with
 | zero=>simp [plainT] at hp
 | succ n =>
   cases hu:P.underlying t with
   | none=>simp [plainT,hu] at hp
   | some u =>
     simp only[plainT,hu] at hp;simp only[isAg,hu] at ha;simp only[Value.okWide,hu] at hok;cases u<;>simp only at hp ha hok<;>try (cases hp;done)
     all_goals first
      | (cases ha;done)
      | (simp [Cell.okWide,Cell.ok,hu] at hok;done)
theorem opens_args:∀ (ts:List TypeId) (vs:List Value) (ds:List (DataW H)) (ps:List MemPlace),(∀ t∈ts,plainT P 20 t=true)->DataW.TrodAll enc P W 0 (fun _=>true) true ts vs ds ps ->
 (∀ (j:Nat) (t:TypeId) (v:Value),ts[j]?=some t->vs[j]?=some v -> ∃ b,Value.okWide P W .any b t v) -> ∀ h r,Dr P W h r ->
 ∃ (h':AH) (r':Rho) (avs:List Value),Ex P W h r h' r'/\VL r' avs vs/\avs.length=ts.length/\ds.length=ts.length /\ ∀ (i:Nat) (t:TypeId) (v:Value) (d:DataW H),ts[i]?=some t->avs[i]?=some v->ds[i]?=some d->RdA P h' t v d:=by
 intro ts
 induction ts with
 | nil =>
   intro vs ds ps _ h _ hh r dr;cases vs<;>cases ds<;>first|(exact h.elim)|skip
   exact ⟨hh,r,[],.refl dr,.nil r,rfl,rfl,fun i t v d ht=>by simp at ht⟩
 | cons t ts ih =>
   intro vs ds ps hp h hok hh r dr;cases vs with
   | nil=>exact h.elim
   | cons v vs =>
     cases ds with
     | nil=>exact h.elim
     | cons d ds =>
       obtain ⟨p,q,h1,h2,_⟩:=h;obtain ⟨fuel,h1⟩:=h1;have hpt:=hp t Z6;obtain ⟨h',r',acs,e1,e2,e3⟩:=opens fuel 20 t v.cells.toList d p hpt h1 hh r dr;obtain ⟨bb,hokv⟩:=hok 0 t v rfl rfl;have hone:∃ av,VR r' av v/\RdA P h' t av d:=by
        cases ha:isAg P t with
        | true =>
          have hv:∃ cs,v = .agg cs:=by
           unfold isAg at ha;unfold Value.okWide at hokv
           split at ha
           ·rename_i hu;rw[hu] at hokv;obtain ⟨cs,h,_⟩:=hokv;exact ⟨cs,h⟩
           ·rename_i hu;rw[hu] at hokv;obtain ⟨cs,h,_⟩:=hokv;exact ⟨cs,h⟩
           ·cases ha
          obtain ⟨cs,rfl⟩:=hv;refine ⟨.agg acs.toArray,?_,by unfold RdA;rw[if_pos ha];exact ⟨acs,rfl,e3⟩⟩;exact VR.agg (by have:=e2.1;simpa [Value.cells] using this) (fun i a b h1 h2=>e2.2 i a b (by simpa using h1) (by simpa [Value.cells] using h2))
        | false =>
          have hc:=scalar_cells (enc:=enc) hpt ha hokv h1;rw[hc] at e2;have hlen:=e2.1;simp at hlen;cases acs with
          | nil=>simp at hlen
          | cons a acs =>
            have:acs=[]:=by simpa using hlen
            subst this;exact ⟨a,e2.2 0 a v rfl rfl,by unfold RdA;rw[if_neg (by rw[ha];simp)];exact e3⟩
       obtain ⟨av,k1,k2⟩:=hone;obtain ⟨h2',r2,avs,f1,f2,f3,f4,f5⟩:=ih vs ds q (fun t ht=>hp t (Zb _ ht)) h2 (fun j t v a b=>hok (j+1) t v (by simpa using a) (by simpa using b)) h' r' e1.1;refine ⟨h2',r2,av::avs,e1.trans f1,.cons (k1.mono f1.2.1) f2,by simp [f3],by simp [f4],fun i t' v' d' a b c=>?_⟩;cases i with
       | zero =>
         simp at a b c;subst a;subst b;subst c;obtain ⟨_,_,x,rfl⟩:=f1;exact k2.ext x
       | succ i=>exact f5 i t' v' d' (by simpa using a) (by simpa using b) (by simpa using c)
theorem Dr.empty (hT:TabOk P W.heap):Dr P W [] (fun _=>none):=⟨HR.empty P W.heap hT,fun b B h=>by simp at h⟩
theorem Gets.law (hP:noGoroutines P=true) {f:FuncId} {fn:Func} (hf:P.funcs[f]?=some fn) (hb:fn.body.isSome=true) {h:AH} {r:Rho} {avs:List Value} {args:Array Value} (hg:Gets P f avs h fun res _=>res = .ret (.bool true)) (hd:Dr P W h r) (hv:VL r avs args.toList) :
 Calls P f args W fun e W'=>e = .returned (.bool true)/\Below W.heap.size W W':=by
 obtain ⟨res,h',h1,h2,rfl⟩:=hg;obtain ⟨c,hc⟩:=Option.isSome_iff_exists.mp hb;refine Calls.mono (Holds.calls hP hf hc h1 hd.hr hv) fun e w' he=>?_
 obtain ⟨v',r',rfl,st,hvr⟩:=he;exact ⟨by rw[hvr.bool_inv],st.below' hd.ro⟩
theorem trodAll_below (hl:laidOutB P=true) {W':World} (hb:Below W.heap.size W W'):∀ (ts:List TypeId) (vs:List Value) (ds:List (DataW H)) (ps:List MemPlace),(∀ t∈ts,P.readableRec t=true/\t<P.types.size) ->
 DataW.TrodAll enc P W 0 (fun _=>true) true ts vs ds ps->(∀ x∈ps,x.block<W.heap.size)->DataW.TrodAll enc P W' 0 (fun b=>decide (b<W.heap.size)) true ts vs ds ps:=by
 intro ts
 induction ts with
 | nil =>
   intro vs ds ps _ h _;cases vs<;>cases ds<;>first|(exact h.elim)|exact h
 | cons t ts ih =>
   intro vs ds ps hr h hlt;cases vs with
   | nil=>exact h.elim
   | cons v vs =>
     cases ds with
     | nil=>exact h.elim
     | cons d ds =>
       obtain ⟨p,q,h1,h2,rfl⟩:=h;have:=hr t Z6;exact ⟨p,q,Below.trod hl this.1 this.2 h1 hb (fun x hx=>hlt x (List.mem_append_left _ hx)),ih vs ds q (fun t ht=>hr t (Zb _ ht)) h2 (fun x hx=>hlt x (List.mem_append_right _ hx)),rfl⟩
end
end Go.Eng

namespace Go.Eng
theorem vc_int {k:IntKind} {n:Int}:Value.cells (.int k n) = #[.int k n]:=rr rfl
theorem vc_bool {b:Bool}:Value.cells (.bool b) = #[.bool b]:=rr rfl
theorem vc_str {b:ByteArray}:Value.cells (.string b) = #[.string b]:=rr rfl
theorem vc_ptr {a:Option Addr}:Value.cells (.pointer a) = #[.pointer a]:=rr rfl
theorem vc_sl {a:Option Addr} {n c:Nat}:Value.cells (.slice a n c) = #[.slice a n c]:=rr rfl
theorem vc_map {a:Option Nat}:Value.cells (.map a) = #[.map a]:=rr rfl
theorem vc_if {t:Nat} {v:Value}:Value.cells (.iface t v) = #[.iface t v]:=rr rfl
theorem vc_ni:Value.cells .nilIface = #[.nilIface]:=rr rfl
theorem vc_nf:Value.cells .nilFunc = #[.nilFunc]:=rr rfl
theorem vc_fn {f:Fn} {a b:Array Value}:Value.cells (.func f a b) = #[.func f a b]:=rr rfl
theorem vc_agg {cs:List Value}:Value.cells (.agg cs.toArray)=cs.toArray:=rr rfl
theorem vs1 {v:Value}:(#[v]:Array Value).size=1:=rr rfl
theorem vl1 {v:Value}:(#[v]:Array Value).toList=[v]:=rr rfl
theorem vsl {cs:List Value}:cs.toArray.size=cs.length:=rr rfl
theorem vll {cs:List Value}:cs.toArray.toList=cs:=rr rfl
theorem bldv_nil {cs:List Value}:bldv cs []=some cs:=rr rfl
theorem bldv_cons {cs:List Value} {off n:Nat} {v:Value} {l:List (Nat × Nat × Value)}:bldv cs ((off,n,v)::l)=if v.cells.size=n/\off+n<=cs.length then bldv (cs.take off++v.cells.toList++cs.drop (off+n)) l else none:=rr rfl
theorem lt0 {cs:List Value}:cs.take 0=[]:=rr rfl
theorem lts {v:Value} {cs:List Value} {n:Nat}:(v::cs).take (n+1)=v::cs.take n:=rr rfl
theorem ld0 {cs:List Value}:cs.drop 0=cs:=rr rfl
theorem lds {v:Value} {cs:List Value} {n:Nat}:(v::cs).drop (n+1)=cs.drop n:=rr rfl
theorem ldn {n:Nat}:([]:List Value).drop n=[]:=by cases n<;>rfl
theorem lac {v:Value} {a b:List Value}:(v::a)++b=v::(a++b):=rr rfl
theorem lln:([]:List Value).length=0:=rr rfl
theorem llc {v:Value} {a:List Value}:(v::a).length=a.length+1:=rr rfl
theorem lg0 {v:Value} {a:List Value}:(v::a)[0]?=some v:=rr rfl
theorem lgs {v:Value} {a:List Value} {n:Nat}:(v::a)[n+1]?=a[n]?:=rr rfl
section
variable {P:Program} {keep:Bool} {nm:List Nat} {Φ:Out->PS->Prop} {c:Cn} {k:List Fm} {e l:PE} {h:AH} {ds:List Dfr} {d:D}
theorem XH_own {b o n:Nat} {t:TypeId} {cs:List Value} {v:Value} (ho:Own h b t cs) (hn:n=v.cells.size) (hl:o+v.cells.toList.length<=cs.length) (h1:v.cells.toList.all Value.oneCell'=true)
 (hk:∀ h',Own h' b t (cs.take o++v.cells.toList++cs.drop (o+v.cells.toList.length))->Keep (· = b) h h'->h'.length=h.length->XV P keep nm Φ undef d c k e l h' ds):XH P keep nm Φ (stv h n (.pointer (some ⟨b,o,none⟩)) v) d c k e l ds:=by
 obtain ⟨h',k1,k2,k3,k4⟩:=ho.store hl h1;simp only[stv,if_pos hn,k1];exact hk h' k2 k3 k4
end
theorem mbl:type_of% @vc_int/\type_of% @vc_bool/\type_of% @vc_str/\type_of% @vc_ptr/\type_of% @vc_sl/\type_of% @vc_map/\type_of% @vc_if/\type_of% @vc_ni/\type_of% @vc_nf/\type_of% @vc_fn/\type_of% @vc_agg/\type_of% @vs1/\type_of% @vl1/\type_of% @vsl/\type_of% @vll/\type_of% @bldv_nil/\type_of% @bldv_cons/\type_of% @lt0/\type_of% @lts/\type_of% @ld0/\type_of% @lds/\type_of% @ldn/\type_of% @lac/\type_of% @lln/\type_of% @llc/\type_of% @lg0/\type_of% @lgs/\type_of% @true_and/\type_of% @and_true/\type_of% @and_self:=⟨@vc_int,@vc_bool,@vc_str,@vc_ptr,@vc_sl,@vc_map,@vc_if,@vc_ni,@vc_nf,@vc_fn,@vc_agg,@vs1,@vl1,@vsl,@vll,@bldv_nil,@bldv_cons,@lt0,@lts,@ld0,@lds,@ldn,@lac,@lln,@llc,@lg0,@lgs,@true_and,@and_true,@and_self⟩
theorem mstd:type_of% @Nat.add_zero/\type_of% @Zm/\type_of% @decide_true/\type_of% @decide_false/\type_of% @Bool.not_true/\type_of% @Bool.not_false/\type_of% @Zx/\(∀ {α:Type} (l:List α),[]++l=l)/\(∀ {α:Type} (l:List α),l++[]=l)/\(∀ {α:Type} {a:α} [BEq α],([]:List α).contains a=false):=⟨@Nat.add_zero,@Zm,@decide_true,@decide_false,@Bool.not_true,@Bool.not_false,@Zx,@List.nil_append,@List.append_nil,@List.contains_nil⟩
theorem ZG:type_of% @mach/\type_of% @mach2/\type_of% @mstd:=⟨@mach,@mach2,@mstd⟩
end Go.Eng

namespace Go.Eng
structure Bulk (H:Type) where
 f:DataW H->Nat
 fa:List (DataW H)->Nat
 one:∀ d,1<=f d
 str:∀ l,f (.lit (.string l))=l.length+1
 sl:∀ a b,f (.slice a b)=fa a+fa b+1
 ag:∀ a,f (.agg a)=fa a+1
 nil:fa []=0
 cons:∀ d r,fa (d::r)=f d+fa r
end Go.Eng

namespace Go.Eng
section
variable {P:Program} {keep:Bool} {nm:List Nat} {r r':Rho} {s:PS} {a:Act} {w w':World} {N:Nat}
def lookd (P:Program) (g:FuncId) (nm:List Nat) (D:Array Oper->Bool):Option (Go.Eng.D × RC × List RV) :=
 match P.funcs[g]? with
 | some fn=>match fn.body.bind recHead with
   | some (o,rest)=>match resDst nm fn.ntmps o.dst,resC P nm fn.ntmps D rest,resRVs P nm fn.results.toList with
     | some d,some rc,some rvs=>some (d,rc,rvs)
     | _,_,_=>none
   | none=>none
 | none=>none
def dfrK (P:Program) (keep:Bool) (g:FuncId) (nm:List Nat) (d:D) (rc:RC) (rvd rvs:List RV) (Φ:Res->AH->Prop) (s:PS) (m:Option Value):Prop :=
 (∃ cap args,s.ds=[⟨.func g,cap,args⟩]/\((Z1 (args++cap).length).all nm.contains)=true /\
  wpc P keep nm rc (fun out t=>(out = .norm\/out = .ret)/\t.ds=[]/\s.h.length<=t.h.length/\(∃ vs,rvK P t rvd (· = vs))/\rvK P ⟨s.e,s.l,t.h,[]⟩ rvs fun vs=>Φ (.ret (tup vs)) t.h)
   ⟨pe d (argE 0 (args++cap)) (m.getD .nilIface),pl d [] (m.getD .nilIface),s.h,[]⟩) \/
 (s.ds=[]/\m=none/\rvK P s rvs fun vs=>Φ (.ret (tup vs)) s.h)
def finD (P:Program) (keep:Bool) (g:FuncId) (nm:List Nat) (d:D) (rc:RC) (rvd rvs:List RV) (Φ:Res->AH->Prop):Out->PS->Prop
 | .norm,s=>dfrK P keep g nm d rc rvd rvs Φ s none
 | .ret,s=>dfrK P keep g nm d rc rvd rvs Φ s none
 | .pan v,s=>dfrK P keep g nm d rc rvd rvs Φ s (some v)
 | .exit _,_=>False
theorem dfr_ok (hP:noGoroutines P=true) {g:FuncId} {D:Array Oper->Bool} (hD:∀ N,DrawOk P keep nm N D) {d:Go.Eng.D} {rc:RC} {rvd:List RV} (hk:lookd P g nm D=some (d,rc,rvd)) {fn:Func} {tmps:Array Value} {R:Ending->World->Prop}
 {h:AH} (hr:HR P r h w.heap) {cap args:List Value} (hnm:((Z1 (args++cap).length).all nm.contains)=true) {d':Deferred} (hd:DR1 r ⟨.func g,cap,args⟩ d') {m:Option Value} {u:FrameMode} (hu:MR r m u)
 {Ψ:Out->PS->Prop} (hw:wpc P keep nm rc Ψ ⟨pe d (argE 0 (args++cap)) (m.getD .nilIface),pl d [] (m.getD .nilIface),h,[]⟩)
 (hΨ:∀ out t,Ψ out t->(out = .norm\/out = .ret)/\t.ds=[] /\ ∃ vs,rvK P t rvd (· = vs))
 (hQ:∀ out t r' w',Ψ out t->Stp P r h w r' t.h w'->Leaves P fn tmps R [] .returning w'):Leaves P fn tmps R [d'] u w:=by
 obtain ⟨cap',args',rfl,hcap,hargs⟩:=hd;unfold lookd at hk
 split at hk
 case h_2=>cases hk
 case h_1 fn2 hf =>
  split at hk
  case h_2=>cases hk
  case h_1 o rest hrest =>
   split at hk
   case h_2=>cases hk
   case h_1 dd rc' rvs' g1 g2 g3 =>
    cases hk;obtain ⟨c,hb,hc⟩:=Z5.1 hrest;obtain ⟨id,rfl,hrec⟩:=recHead_inv hc;refine leaves_cons hu.ne_run (f:=g) (args:=args'++cap') (run_callFunc hP hf hb _ w) ?_;refine callsD_of_wpS hf hb fun c₀ cs hc0=>?_
    have hall:VL r (args++cap) (args'++cap').toList:=by
     have:=hargs.append hcap
     simpa using this
    have sp0:=start_sp (P:=P) (nm:=nm) (N:=fn2.ntmps) hr hall hnm;refine wpS_seq (wpS_region ?_);have hl:Z1 (#[o]:Array Oper).size=[0]:=rfl;rw[hl];have h0:(#[o]:Array Oper)[0]?=some o:=rfl;obtain ⟨hgd,hrun⟩:=recOp_run (P:=P) hrec { tmps:=args'++cap'++Zp (fn2.ntmps-(args'++cap').size) undef,defers:=[] } w;have hwd:Region.wanted o (yielded #[o] (args'++cap'++Zp (fn2.ntmps-(args'++cap').size) undef))=true:=by
     simp [Region.wanted,hgd]
    have key:∀ (v v':Value) (u':FrameMode),m.getD .nilIface=v->VR r v v'->settle u' = .returning->rest.wpS P (bodyPostS P fn2 c₀ cs fun
     | .returned _,u',w'=>Leaves P fn tmps R [] (settle u') w'
     | .panicked chain,u',w'=>Leaves P fn tmps R [] (raised u' chain) w'
     | .outgrown,_,w'=>R .outgrown w')
     (({ tmps:=args'++cap'++Zp (fn2.ntmps-(args'++cap').size) undef,defers:=[] }:Act).put o.dst v') ({ c₀ with mode:=u' }::cs) w:=by
     intro v v' u' hv hvr hset;refine wpS_of_wp ?_;rw[hv] at hw;have start:=sp0.put g1 (.refl hr) hvr;refine wpc_ok (hD _) rest g2 Ψ r _ _ w start hw _ (fun out t hp ex a' w' r' hoe st sr=>?_);obtain ⟨ho,hds,vs,hvs⟩:=hΨ _ _ hp;obtain ⟨v2,e1,e2⟩:=rtup_ok sr g3 hvs;have hdd:=(show DR r' [] a'.defers from hds ▸ sr.ds).nil_inv;have fin:Leaves P fn tmps R [] (settle u') w':=by rw[hset];exact hQ _ _ _ _ hp st
     rcases ho with rfl|rfl
     ·cases hoe;exact ⟨hdd,u',rfl,v2,e1,fin⟩
     ·cases hoe;exact ⟨hdd,u',rfl,v2,e1,fin⟩
    simp only[wpOpsS,h0,hwd,if_true,hrun];cases m with
    | none =>
      have hu':c₀.mode = .returning:=hc0.trans hu;have hn:recoverD (c₀::cs)=none:=by simp [recoverD,hu']
      rw[hn];have:=key .nilIface .nilIface .returning rfl .inil rfl;rw[<- hu'] at this;exact this
    | some v =>
      obtain ⟨v',hu1,hv⟩:=hu;have hu':c₀.mode = .panicking [entry v']:=hc0.trans hu1;have hn:recoverD (c₀::cs)=some (v',{ c₀ with mode:=.panicking [{ v:=v',recovered:=true }] }::cs):=by
       simp [recoverD,hu',entry]
      rw[hn];exact key v v' _ rfl hv (by simp [settle])
theorem SP.later (hs:SP P nm N r s a w) {h':AH} (st:Stp P r s.h w r' h' w'):SP P nm N r' ⟨s.e,s.l,h',[]⟩ { a with defers:=[] } w' :=
 ⟨fun t v h=>let ⟨u,h1,h2⟩:=hs.e t v h;⟨u,h1,h2.mono st.le⟩,fun t v h=>let ⟨u,h1,h2⟩:=hs.l t v h;⟨u,h1,h2.mono st.le⟩,hs.en,hs.ln,hs.sz,st.hr,trivial⟩
theorem Gets.fnd {keepg:Bool} {nmg:List Nat} (hP:noGoroutines P=true) {D:Array Oper->Bool} (hD:∀ N,DrawOk P keep nm N D) (hDg:∀ N,DrawOk P keepg nmg N D) {f:FuncId} {rc:RC} {rvs:List RV} (hk:look1 P f nm D=some (rc,rvs))
 {g:FuncId} {d:Go.Eng.D} {rcg:RC} {rvd:List RV} (hkg:lookd P g nmg D=some (d,rcg,rvd)) {args:List Value} (hnm:((Z1 args.length).all nm.contains)=true) {h:AH} {Φ:Res->AH->Prop}
 (hw:wpc P keep nm rc (finD P keepg g nmg d rcg rvd rvs Φ) ⟨argE 0 args,[],h,[]⟩):Gets P f args h Φ:=by
 unfold look1 at hk
 split at hk
 case h_2=>cases hk
 case h_1 fn hf =>
  split at hk
  case h_2=>cases hk
  case h_1 c hb =>
   split at hk
   case h_2=>cases hk
   case h_1 rc' rvs' g1 g2 =>
    cases hk;obtain ⟨out,s',k1,k2,k3⟩:=wpc_one rc _ _ hw;have main:∀ {m:Option Value},leftBy out=some m->dfrK P keepg g nmg d rcg rvd rvs Φ s' m->Gets P f args h Φ:=by
     rintro m hm (⟨cap,dargs,hds,hn,hwd⟩|⟨hds,rfl,hk2⟩)
     case inr =>
      obtain ⟨vs,p1,p2⟩:=rvK_one _ hk2;refine ⟨.ret (tup vs),s'.h,?_,k2,p1⟩;intro r w args' hr' ha o a K Q hK hQ;rw[run_callFunc hP hf hb];refine calls_of_wp_defers hf hb ?_;refine wpc_ok (hD _) c g1 (fun o' t=>o'=out/\t=s') r _ _ w (start_sp (N:=fn.ntmps) hr' ha hnm) (k3 _ ⟨rfl,rfl⟩) _ (fun o' t' hp ex a' w' r' hoe st sr=>?_);obtain ⟨rfl,rfl⟩:=hp;have hdd:=(show DR r' [] a'.defers from hds ▸ sr.ds).nil_inv;obtain ⟨v',e1,e2⟩:=rtup_ok sr g2 p2;have behind:Leaves P fn a'.tmps (fun
       | .returned v,w''=>K (a.put o.dst v) w''
       | .panicked chain,w''=>Q (.panic chain) a w''
       | .outgrown,_=>LetsOut Q) a'.defers .returning w':=by
       rw[hdd];exact ⟨v',e1,hK _ _ _ _ rfl st e2⟩
      cases o' with
      | norm=>cases hoe;exact behind
      | ret=>cases hoe;exact behind
      | pan v=>cases hm
      | exit id=>cases hm
     obtain ⟨out2,t,q1,q2,q3⟩:=wpc_one rcg _ _ hwd;obtain ⟨o1,o2,o4,⟨vsd,o3⟩,hk2⟩:=q1;obtain ⟨vs,p1,p2⟩:=rvK_one _ hk2;refine ⟨.ret (tup vs),t.h,?_,Nat.le_trans k2 o4,p1⟩;intro r w args' hr' ha o a K Q hK hQ;rw[run_callFunc hP hf hb];refine calls_of_wp_defers hf hb ?_;refine wpc_ok (hD _) c g1 (fun o' t=>o'=out/\t=s') r _ _ w (start_sp (N:=fn.ntmps) hr' ha hnm) (k3 _ ⟨rfl,rfl⟩) _ (fun o' t' hp ex a' w' r' hoe st sr=>?_);obtain ⟨rfl,rfl⟩:=hp;have hdr:DR r' [⟨.func g,cap,dargs⟩] a'.defers:=hds ▸ sr.ds;obtain ⟨d',rfl',hd'⟩:∃ d',a'.defers=[d']/\DR1 r' ⟨.func g,cap,dargs⟩ d':=by
      cases hx:a'.defers with
      | nil=>rw[hx] at hdr;exact hdr.elim
      | cons x xs =>
        rw[hx] at hdr;refine ⟨x,?_,hdr.1⟩;rw[DR.nil_inv hdr.2]
     have behind:∀ {u:FrameMode},MR r' m u->Leaves P fn a'.tmps (fun
      | .returned v,w''=>K (a.put o.dst v) w''
      | .panicked chain,w''=>Q (.panic chain) a w''
      | .outgrown,_=>LetsOut Q) a'.defers u w':=by
      intro u hu;rw[rfl'];refine dfr_ok hP hDg hkg sr.hr hn hd' hu (q3 (fun o' t'=>o'=out2/\t'=t) ⟨rfl,rfl⟩) (fun o' t' hp=>?_) (fun o' t' r2 w2 hp st2=>?_)
      ·obtain ⟨rfl,rfl⟩:=hp;exact ⟨o1,o2,vsd,o3⟩
      ·obtain ⟨rfl,rfl⟩:=hp
       obtain ⟨v',e1,e2⟩:=rtup_ok (sr.later st2) g2 p2;exact ⟨v',e1,hK _ _ _ _ rfl (st.trans st2) e2⟩
     cases o' with
     | norm=>cases hoe;cases hm;exact behind rfl
     | ret=>cases hoe;cases hm;exact behind rfl
     | pan v=>obtain ⟨v',rfl,hv⟩:=hoe;cases hm;exact behind ⟨v',rfl,hv⟩
     | exit id=>cases hm
    cases out with
    | norm=>exact main rfl k1
    | ret=>exact main rfl k1
    | exit id=>exact k1.elim
    | pan v=>exact main rfl k1
end
end Go.Eng

namespace Go.Eng
section
variable {P:Program} {keep:Bool} {nm:List Nat}
theorem Gets.ofd {keepg:Bool} {nmg:List Nat} (hP:noGoroutines P=true) {D:Array Oper->Bool} (hD:∀ N,DrawOk P keep nm N D) (hDg:∀ N,DrawOk P keepg nmg N D) {f:FuncId} {rc:RC} {rvs:List RV} (hk:look1 P f nm D=some (rc,rvs))
 {g:FuncId} {d:Go.Eng.D} {rcg:RC} {rvd:List RV} (hkg:lookd P g nmg D=some (d,rcg,rvd)) {args:List Value} (hnm:((Z1 args.length).all nm.contains)=true) {h:AH} {Φ:Res->AH->Prop}
 (hw:∀ Ψ:Out->PS->Prop,(∀ o s,finD P keepg g nmg d rcg rvd rvs Φ o s->Ψ o s)->XC P keep nm Ψ rc [] (argE 0 args) [] h []):Gets P f args h Φ :=
 Gets.fnd hP hD hDg hk hkg hnm (hw _ fun _ _ h=>h)
theorem dfr_of {keepg:Bool} {g:FuncId} {nmg:List Nat} {d:D} {rc:RC} {rvd rvs:List RV} {Φ:Res->AH->Prop} {e l:PE} {h:AH} {cap args:List Value} {m:Option Value} (hn:((Z1 (args++cap).length).all nmg.contains)=true)
 (hw:∀ Ψ2:Out->PS->Prop,(∀ out t,(out = .norm\/out = .ret)/\t.ds=[]/\h.length<=t.h.length/\(∃ vs,rvK P t rvd (· = vs))/\(rvK P ⟨e,l,t.h,[]⟩ rvs fun vs=>Φ (.ret (tup vs)) t.h)->Ψ2 out t) ->
  XC P keepg nmg Ψ2 rc [] (pe d (argE 0 (args++cap)) (m.getD .nilIface)) (pl d [] (m.getD .nilIface)) h []):dfrK P keepg g nmg d rc rvd rvs Φ ⟨e,l,h,[⟨.func g,cap,args⟩]⟩ m :=
 .inl ⟨cap,args,rfl,hn,hw _ fun _ _ h=>h⟩
theorem dfr_no {keepg:Bool} {g:FuncId} {nmg:List Nat} {d:D} {rc:RC} {rvd rvs:List RV} {Φ:Res->AH->Prop} {e l:PE} {h:AH} (hr:rvK P ⟨e,l,h,[]⟩ rvs fun vs=>Φ (.ret (tup vs)) h):dfrK P keepg g nmg d rc rvd rvs Φ ⟨e,l,h,[]⟩ none :=
 .inr ⟨rfl,rfl,hr⟩
end
end Go.Eng

namespace Go.Eng
abbrev iv (n:Int):Value:=.int .i64 n
theorem i64w {x:Int} (h0 : -9223372036854775808<=x) (h1:x<=9223372036854775807):IntKind.i64.wrap x=x:=by
 show (if (true && decide (x % (18446744073709551616:Int) ≥ (9223372036854775808:Int)))=true then x % (18446744073709551616:Int)-(18446744073709551616:Int) else x % (18446744073709551616:Int))=x
 by_cases h:0<=x
 ·have:x % (18446744073709551616:Int)=x:=Int.emod_eq_of_lt h (by omega)
  rw[this,if_neg (by simp;omega)]
 ·have:x % (18446744073709551616:Int)=x+18446744073709551616:=by omega
  rw[this,if_pos (by simp;omega)];omega
theorem row_shape {h:AH} {sz n:Nat} {v:Value} {cs:List Value} (hr:Rds h sz v n cs):∃ a c,v = .slice a n c:=by
 cases hr with
 | nil=>exact ⟨_,_,rfl⟩
 | emp=>exact ⟨_,_,rfl⟩
 | mk=>exact ⟨_,_,rfl⟩
theorem ct1 {a b:Nat}:[a].contains b=decide (b=a):=by simp [List.contains_cons]
def ns (xs:List Int):List Value:=xs.map iv
theorem ows_open {h:AH} {e n:Nat} {v:Value} {cs:List Value} (ho:Ows h e 1 v n cs) (hn:0<n):∃ b c all,v = .slice (some ⟨b,0,none⟩) n c/\Own h b e all/\all.length=c/\n<=c/\all.take n=cs:=by
 cases ho with
 | nil=>omega
 | @mk b n c all cs h1 h2 h3 h4=>exact ⟨b,c,all,rfl,h1,by rw[h2,Nat.mul_one],by omega,by simpa using h4⟩
theorem app1 {h:AH} {e n sz bytes:Nat} {v:Value} {xs cs:List Value} (ho:Ows h e sz v n cs) (hl:xs.length=sz) (hx:xs.all Value.oneCell'=true) (hb:(n+1)*bytes<=140737488355328) (hb2:n+1<=9223372036854775807) :
 ∃ s' h',appv false (h++[row e h.length xs]) false e sz bytes v (.slice (some ⟨h.length,0,none⟩) 1 1)=some (s',h')/\Ows h' e sz s' (n+1) (cs++xs)/\Keep (bk v) h h'/\(∀ q,bk s' q->bk v q\/h.length<=q):=by
 have k0:Keep (fun _=>False) h (h++[row e h.length xs]):=Keep.push _ _ _;have hr:Rds (h++[row e h.length xs]) sz (.slice (some ⟨h.length,0,none⟩) 1 1) 1 xs:=.mk (Own.new h e _ xs).cells (by simp [hl]) (by simp [<- hl]);obtain ⟨_,hsrc,rfl⟩:=hr.src hx;obtain ⟨s',h',k1,k2,k3,k4⟩:=(ho.keep k0 (fun _ _ e=>e)).app (bytes:=bytes) hsrc (by simp [hl]) hx hb hb2;exact ⟨s',h',k1,k2,(k0.mono (fun _ e=>e.elim)).trans k3,fun q hq=>(k4 q hq).imp id (fun e=>by simp at e;omega)⟩
end Go.Eng

namespace Go.Eng
def mp (l:List (Int × Int)):List (Value × Value):=l.map fun p=>(iv p.1,iv p.2)
section
variable {P:Program} {kt:TypeId}
theorem check_int (hu:P.underlying kt=some (.int .i64)) (e:Bool) (k:Int):pureRun P (Instr.checkKey e 10000 kt (iv k))=some ():=by
 show pureRun P (Instr.checkKey e (9999+1) kt (iv k))=some ()
 rw[Instr.checkKey];simp only[pureRun_bind,pureRun_underlying hu,Zh];rfl
end
end Go.Eng

namespace Go.Eng
section
variable {P:Program} {H:Type} {h:AH}
def rng (n:Int):Prop:=-9223372036854775808<=n/\n<=9223372036854775807
theorem flat_len {α:Type} {f:α->List Value} {k:Nat} (hf:∀ x,(f x).length=k) (xs:List α):(xs.flatMap f).length=xs.length*k:=by
 induction xs with
 | nil=>simp
 | cons x xs ih=>rw[Zy,Zv,ih,hf,List.length_cons,Ze];omega
theorem rds_sub {sz n:Nat} {v:Value} {cs:List Value} (hr:Rds h sz v n cs) {i j m:Nat} (hi:i<n) (hj:j+m<=sz):∃ b o c,v = .slice (some ⟨b,o,none⟩) n c/\ldcs h b (o+i*sz+j) m=some ((cs.drop (i*sz+j)).take m):=by
 cases hr with
 | nil=>omega
 | emp=>omega
 | @mk b o n c all cs hb hl hx =>
   have e:i*sz+sz<=n*sz:=by
    have:=Nat.mul_le_mul_right sz (show i+1<=n by omega);rw[Ze,ZH] at this;exact this
   refine ⟨b,o,c,rfl,?_⟩;rw[hb.lds (o+i*sz+j) m (by omega),<- hx,List.drop_take,Zs,List.take_take,Nat.add_assoc,Nat.min_eq_left (by omega)]
theorem flat_at {α:Type} {f:α->List Value} {k:Nat} (hf:∀ x,(f x).length=k):∀ {xs:List α} {i:Nat} {x:α},xs[i]?=some x -> ∀ {j m:Nat},j+m<=k->((xs.flatMap f).drop (i*k+j)).take m=((f x).drop j).take m:=by
 intro xs
 induction xs with
 | nil=>intro i x h;simp at h
 | cons y xs ih =>
   intro i x h j m hj;rw[Zy];cases i with
   | zero =>
     simp at h;subst h;rw[Zw,Zm,List.drop_append_of_le_length (by rw[hf];omega),Zj (by rw[List.length_drop,hf];omega)]
   | succ i =>
     have:=ih (i:=i) (by simpa using h) hj;rw[<- this,show (i+1)*k+j=(f y).length+(i*k+j) by rw[hf,Ze];omega,<- Zs,List.drop_left]
end
end Go.Eng

namespace Go.Eng
open Go.RowKit
abbrev Says:=Nat->Option Bool
def tests (P:Program) (rs:List ResultVar):Option (Out × St × List (Value × Bool))->Option (List (Value × Bool))
 | some (.ret,⟨env,h,[]⟩,q)=>match ares P env h rs with
   | some [.bool true]=>some q
   | _=>none
 | _=>none
end Go.Eng

namespace Go.Eng
theorem Gets.extB {P:Program} {f:FuncId} {args:List Value} {h h':AH} {res:Res} {Φ:Res->AH->Prop} (he:aextB P f args h=some (res,h')) (hl:h.length<=h'.length) (hΦ:Φ res h'):Gets P f args h Φ:=⟨res,h',Holds.extB he,hl,hΦ⟩
end Go.Eng

namespace Go.Eng
open Go.RowKit
theorem below_grow {w:World} {k:Nat} {os:Array Obj}:Below w.heap.size w (Sort.grow (w.drewN k) os) :=
 ⟨rfl,rfl,rfl,by show w.heap.size<=(w.heap++os).size;simp,fun i hi=>by
  show (w.heap++os)[i]?=w.heap[i]?
  rw[Array.getElem?_append_left hi]⟩
theorem Holds.ofCalls {P:Program} {f:FuncId} {fn:Func} {c:Code} (hP:noGoroutines P=true) (hf:P.funcs[f]?=some fn) (hb:fn.body=some c) {args:List Value} {v:Value} (ha:args.all (scal 8)=true) (hv:scal 8 v=true)
 (hc:∀ W:World,TabOk P W.heap->Calls P f args.toArray W fun e W'=>e = .returned v/\Below W.heap.size W W') (h:AH):Holds P f args h (.ret v) h:=by
 intro r w args' hr hargs o a K Q hK hQ;have hargs':args'=args.toArray:=all_scal_eq ha hargs;subst hargs';rw[run_callFunc hP hf hb];refine Calls.mono (hc w hr.lay) fun e w' ⟨he,hb⟩=>?_
 subst he;refine hK v v w' r rfl ⟨.refl r,⟨fun b x e=>?_,fun b B e hl=>?_,hr.sep,fun g cs hg=>?_,hr.nwr⟩,⟨hb.os,hb.tape,hb.output,hb.size,fun k hk _=>hb.block k hk⟩,fun b B x e hl hx _=>⟨b,B,x,e,hl,hx,rfl,id⟩,Zr _,fun _ h=>h⟩ (scal_refl 8 v hv)
 ·have:=hr.dom b x e
  exact ⟨this.1,Nat.lt_of_lt_of_le this.2 hb.size⟩
 ·obtain ⟨x,e1,e2⟩:=hr.blk b B e hl
  exact ⟨x,e1,by rw[hb.block _ (hr.dom b x e1).2];exact e2⟩
 ·obtain ⟨cur,e,fr,hc,hv⟩:=hr.lay g cs hg
  exact ⟨cur,e,fr,by rw[hb.block g (Za.1 hc).1];exact hc,hv⟩
theorem Gets.ofCalls {P:Program} {f:FuncId} {fn:Func} {c:Code} (hP:noGoroutines P=true) (hf:P.funcs[f]?=some fn) (hb:fn.body=some c) {args:List Value} {v:Value} (ha:args.all (scal 8)=true) (hv:scal 8 v=true)
 (hc:∀ W:World,TabOk P W.heap->Calls P f args.toArray W fun e W'=>e = .returned v/\Below W.heap.size W W') (h:AH):Gets P f args h (fun res h'=>h'=h/\res = .ret v) :=
 ⟨_,_,Holds.ofCalls hP hf hb ha hv hc h,Zr _,rfl,rfl⟩
theorem tab_pow {P : Program} {W : World} (hT : TabOk P W.heap) {g : Nat} (hg : P.globalNamed "internal/strconv.uint64pow10" = some g) (ht : Tab P g = some ((Z1 20).map fun i => Value.int .u64 (10 ^ i))) :
 Lib.TabIs P W "internal/strconv.uint64pow10" .u64 Lib.pow10Tab := by
 obtain ⟨cur,e,fr,hc,hv⟩:=hT g _ ht;have hcur:cur.toList=(Z1 20).map fun i=>Value.int .u64 (10 ^ i):=by
  apply List.ext_getElem?
  intro i;have hl:=hv.1
  by_cases hi:i<20
  ·have h1:((Z1 20).map fun i=>Value.int .u64 (10 ^ i))[i]?=some (.int .u64 (10 ^ i)):=by rw[Z8,Z2 hi];rfl
   have hi2:i<cur.toList.length:=by rw[<- hl];simpa using hi
   have h2:=hv.2 i _ _ h1 (Z7 hi2);rw[h1,Z7 hi2,VR.int_inv h2]
  ·rw[Z3 (by rw[<- hl];simp;omega),Z3 (by simp;omega)]
 unfold Lib.TabIs World.var?;rw[hg,Zh,hc];simp only[Option.some.injEq]
 apply Array.toList_inj.1
 rw[hcur];simp [Lib.pow10Tab,Function.comp_def]
end Go.Eng

namespace Go.Eng
open Go.RowKit
def reOp (inv:List Nat) (o:Oper):Oper:={ o with after:=o.after.map fun e=>{ e with on:=(inv[e.on]?).getD e.on },guard:=o.guard.map fun p=>((inv[p.1]?).getD p.1,p.2) }
def reOps (sg inv:List Nat) (ops:Array Oper):Array Oper:=(sg.map fun k=>reOp inv ((ops[k]?).getD default)).toArray
def permOk (n:Nat) (sg inv:List Nat):Bool:=sg.length == n && inv.length == n && (Z1 n).all fun k=>((sg[k]?).bind (inv[·]?)) == some k && ((inv[k]?).bind (sg[·]?)) == some k
structure Perm (n:Nat) (sg inv:List Nat):Prop where
 ls:sg.length=n
 li:inv.length=n
 si:∀ (k i:Nat),sg[k]?=some i->inv[i]?=some k
 is:∀ (i k:Nat),inv[i]?=some k->sg[k]?=some i
theorem permOk_inv {n:Nat} {sg inv:List Nat} (h:permOk n sg inv=true):Perm n sg inv:=by
 simp only[permOk,Z4,beq_iff_eq,List.all_eq_true,List.mem_range] at h;obtain ⟨⟨h1,h2⟩,h3⟩:=h;refine ⟨h1,h2,fun k i hk=>?_,fun i k hi=>?_⟩
 ·have hlt:=(Z0.1 hk).1
  have:=(h3 k (by omega)).1;rw[hk,Zh] at this;exact this
 ·have hlt:=(Z0.1 hi).1
  have:=(h3 i (by omega)).2;rw[hi,Zh] at this;exact this
section
variable {P:Program} {ops:Array Oper} {Q:Exit->Act->World->Prop} {md:Region.Mode} {sg inv:List Nat}
theorem reOps_size (hp:Perm ops.size sg inv):(reOps sg inv ops).size=ops.size:=by simp [reOps,hp.ls]
theorem reOps_get (hp:Perm ops.size sg inv) {i k:Nat} (h:sg[k]?=some i):(reOps sg inv ops)[k]?=(ops[i]?).map (reOp inv):=by
 have hi:=hp.si k i h;have hlt:i<ops.size:=by have:=(Z0.1 hi).1;have:=hp.li;omega
 simp [reOps,h,Array.getElem?_eq_getElem hlt]
theorem reOps_none (hp:Perm ops.size sg inv) {j:Nat} (h:inv[j]?=none):(reOps sg inv ops)[j]?=none/\ops[j]?=none:=by
 have:=Zl.1 h;have h2:=reOps_size hp;have:=hp.li;exact ⟨Zc (by omega),Zc (by omega)⟩
theorem reOps_yield (hp:Perm ops.size sg inv) (t:Array Value) (j:Nat):yielded (reOps sg inv ops) t ((inv[j]?).getD j)=yielded ops t j:=by
 unfold yielded;cases hj:inv[j]? with
 | none =>
   obtain ⟨e1,e2⟩:=reOps_none hp hj;rw[Option.getD_none,e1,e2]
 | some k =>
   rw[Zn,reOps_get hp (hp.is j k hj)];cases ops[j]?<;>rfl
theorem reOp_wanted (hp:Perm ops.size sg inv) (t:Array Value) (o:Oper):Region.wanted (reOp inv o) (yielded (reOps sg inv ops) t)=Region.wanted o (yielded ops t):=by
 unfold Region.wanted;obtain ⟨dst,op,type,pos,after,guard⟩:=o;cases guard with
 | none=>rfl
 | some p =>
   simp only[reOp,Zi];rw[reOps_yield hp]
theorem wpOp_re (hp:Perm ops.size sg inv) {i k:Nat} (h:sg[k]?=some i) {K:Act->World->Prop} {a:Act} {w:World} (hw:wpOp P (reOps sg inv ops) Q k K a w):wpOp P ops Q i K a w:=by
 unfold wpOp at hw ⊢;rw[reOps_get hp h] at hw;cases ho:ops[i]? with
 | none=>rw[ho] at hw;exact hw
 | some o =>
   rw[ho] at hw;simp only[Zi] at hw ⊢;rw[reOp_wanted hp] at hw;exact hw
def Same' (sg:List Nat) (L L':Array Bool):Prop:=∀ (k i:Nat),sg[k]?=some i -> ∀ b,L'.getD k b=L.getD i b
theorem mem_rdy {L:Array Bool} {i:Nat}:i∈Region.ready md ops L ↔ i<ops.size/\L.getD i true=false/\((ops[i]?).map (·.after.all fun e=>!Region.binds md e || L.getD e.on false)).getD false=true:=by
 unfold Region.ready;rw[List.mem_filter,List.mem_range,Z4,Bool.not_eq_true']
theorem ready_re (hp:Perm ops.size sg inv) {L L':Array Bool} (hs:L.size=ops.size) (hs':L'.size=ops.size) (hL:Same' sg L L') {i k:Nat} (h:sg[k]?=some i):k∈Region.ready md (reOps sg inv ops) L' ↔ i∈Region.ready md ops L:=by
 have hi:=hp.si k i h;have h1:i<ops.size:=by have:=(Z0.1 hi).1;have:=hp.li;omega
 have h2:k<(reOps sg inv ops).size:=by have:=(Z0.1 h).1;have:=hp.ls;rw[reOps_size hp];omega
 rw[mem_rdy,mem_rdy,hL k i h,reOps_get hp h];have e:((ops[i]?.map (reOp inv)).map (·.after.all fun e=>!Region.binds md e || L'.getD e.on false)).getD false=((ops[i]?).map (·.after.all fun e=>!Region.binds md e || L.getD e.on false)).getD false:=by
  cases ho:ops[i]? with
  | none=>rfl
  | some o =>
    simp only[Zi,Zn,reOp,Array.all_map]
    congr 1
    funext e
    simp only[Function.comp];have hb:Region.binds md { e with on:=(inv[e.on]?).getD e.on }=Region.binds md e:=rfl;rw[hb]
    congr 1
    cases hj:inv[e.on]? with
    | none =>
      have:=Zl.1 hj;have:=hp.li;rw[Option.getD_none,Z9,Z9,Zc (by omega),Zc (by omega)]
    | some j=>rw[Zn];exact hL j e.on (hp.is _ _ hj) false
 rw[e];exact ⟨fun x=>⟨h1,x.2⟩,fun x=>⟨h2,x.2⟩⟩
theorem ready_nil (hp:Perm ops.size sg inv) {L L':Array Bool} (hs:L.size=ops.size) (hs':L'.size=ops.size) (hL:Same' sg L L') (h:Region.ready md ops L=[]):Region.ready md (reOps sg inv ops) L'=[]:=by
 cases hr:Region.ready md (reOps sg inv ops) L' with
 | nil=>rfl
 | cons k r =>
   have hk:k∈Region.ready md (reOps sg inv ops) L':=by rw[hr];exact Z6
   have h2:=(mem_rdy.1 hk).1;rw[reOps_size hp] at h2;obtain ⟨i,hi⟩:∃ i,sg[k]?=some i:=⟨_,Z7 (by have:=hp.ls;omega)⟩
   have:=(ready_re hp hs hs' hL hi).1 hk;rw[h] at this;cases this
theorem wpAny_re (hp:Perm ops.size sg inv):∀ (fuel:Nat) (L L':Array Bool) (a:Act) (w:World),L.size=ops.size->L'.size=ops.size->Same' sg L L'->wpAny P md (reOps sg inv ops) Q fuel L' a w->wpAny P md ops Q fuel L a w:=by
 intro fuel
 induction fuel with
 | zero =>
   intro L L' a w hs hs' hL hw;refine ⟨?_,hw.2⟩;cases hr:Region.ready md ops L with
   | nil=>rfl
   | cons i r =>
     have hi:i∈Region.ready md ops L:=by rw[hr];exact Z6
     have h1:=(mem_rdy.1 hi).1;obtain ⟨k,hk⟩:∃ k,inv[i]?=some k:=⟨_,Z7 (by have:=hp.li;omega)⟩
     have:=(ready_re hp hs hs' hL (hp.is i k hk)).2 hi;rw[hw.1] at this;cases this
 | succ fuel ih =>
   intro L L' a w hs hs' hL hw;refine ⟨fun hn=>hw.1 (ready_nil hp hs hs' hL hn),fun i hi=>?_⟩;have h1:=(mem_rdy.1 hi).1;obtain ⟨k,hk⟩:∃ k,inv[i]?=some k:=⟨_,Z7 (by have:=hp.li;omega)⟩
   have hsk:=hp.is i k hk;have hwk:=hw.2 k ((ready_re hp hs hs' hL hsk).2 hi);refine wpOp_re hp hsk (wpOp_mono (fun a w hx=>?_) hwk);refine ih _ _ a w (by simpa using hs) (by simpa using hs') (fun k2 i2 h2 b=>?_) hx;have hk2:=(Z0.1 h2).1;have hi2:=(Z0.1 (hp.si _ _ h2)).1;have hkl:=(Z0.1 hsk).1;have:=hp.ls;have:=hp.li
   by_cases e:i=i2
   ·subst e
    have e2:k2=k:=by have:=hp.si _ _ h2;rw[hk] at this;cases this;rfl
    subst e2;simp [Z9,show k2<L'.size by omega,show i<L.size by omega]
   ·have e2:k≠k2:=by rintro rfl;rw[hsk] at h2;cases h2;exact e rfl
    rw[getD_set_ne b e,getD_set_ne b e2];exact hL k2 i2 h2 b
end
def lateGo (al:Nat->Bool) (A:List Nat):List Nat->List Nat->List Nat->List Nat
 | [],d,acc=>acc++d
 | i::l,d,acc=>if al i then lateGo al A l (d++[i]) acc else lateGo al A l (d.filter fun j=>!bit A i j) (acc++d.filter (fun j=>bit A i j)++[i])
def lateSg (ops:Array Oper):List Nat:=lateGo (fun i=>((ops[i]?).map allocOp).getD false) (ancs ops.toList) (Z1 ops.size) [] []
def invOf (n:Nat) (sg:List Nat):List Nat:=(Z1 n).map fun i=>sg.findIdx (· == i)
def adrawL (P:Program) (keep:Bool) (F:FT):DT:=fun ops s =>
 match adraw P keep F ops s with
 | some x=>some x
 | none =>
   let sg:=lateSg ops
   let inv:=invOf ops.size sg
   if permOk ops.size sg inv then adraw P keep F (reOps sg inv ops) s else none
theorem adrawL_ok {P:Program} (hm:P.follows .mixedOrders=true) {keep:Bool} {F:FT} (hF:FOk P F):DOk P (adrawL P keep F):=by
 intro ops s s' out he r a w id Q hs hQ;unfold adrawL at he
 split at he
 ·rename_i x hx
  cases he;exact adraw_ok hm hF ops s s' out hx r a w id Q hs hQ
 ·simp only at he
  split at he
  ·rename_i hp
   have hp:=permOk_inv hp;unfold adraw at he
   split at he
   case h_2=>cases he
   case h_1 trs fin htr =>
    split at he
    case isFalse=>cases he
    case isTrue hc =>
     simp only[Z4] at hc;obtain ⟨⟨⟨ht,hc⟩,hfl⟩,hrd⟩:=hc;refine wp_region_any hm ?_;have hd:=drawP_any hm hF htr ht hc hfl (readsOk_P hrd) (out:=out) (s':=s') (by cases fin<;>(cases he;rfl)) r a w Q hs hQ;rw[reOps_size hp] at hd;refine wpAny_re hp ops.size _ _ a _ (by simp) (by simp) (fun k i h b=>?_) hd;have hk:=(Z0.1 h).1;have hi:=(Z0.1 (hp.si _ _ h)).1;have:=hp.ls;have:=hp.li;simp [Z9,show k<ops.size by omega,show i<ops.size by omega]
  ·cases he
theorem closed_getsL {P:Program} {f:FuncId} {keep:FuncId->Bool} {n fuel:Nat} (hP:noGoroutines P=true) (hm:P.follows .mixedOrders=true) (hr:isTrue (afun P (adrawL P false) keep fuel n f [] [] none)=true) (h:AH):Gets P f [] h (fun res h'=>h'=h/\res = .ret (.bool true)):=by
 obtain ⟨h1,he⟩:=isTrue_inv hr;exact ⟨_,h,Holds.closed ((afun_ok hP (fun F hF=>adrawL_ok hm hF) n).holds he) rfl rfl h,Zr _,rfl,rfl⟩
end Go.Eng

namespace Go.Eng
open Go.RowKit
end Go.Eng

namespace Go.Eng
section
variable {P:Program} {r r' r0:Rho} {h h' h0:AH} {w w' w0:World}
end
abbrev FW (ro:Option Nat):Fence:={ Fence.wide with round:=ro }
section
variable {P:Program} {F:Fence} {n:Nat} {Q:Exit->Act->World->Prop} {a:Act} {w:World}
end
end Go.Eng

namespace Go.Eng
structure SI where
 env:List Value
 h:AH
 pe:Option Code
 mr:Bool
 ys:List Tmp
abbrev RT:=List Value->AH->Option (Option Code × AH)
abbrev HT:=Option RT
abbrev CX:=Rho->List Tmp->Option Code->Bool->Act->World->Prop
structure RI (P:Program) (r0:Rho) (h0:AH) (w0:World) (C:CX) (r:Rho) (s:SI) (a:Act) (w:World):Prop where
 env:ER r s.env a.tmps
 st:Stp P r0 h0 w0 r s.h w
 cx:C r s.ys s.pe s.mr a w
structure CxOk (P:Program) (r0:Rho) (h0:AH) (w0:World) (ro:Option Nat) (H:HT) (C:CX):Prop where
 step:∀ {r h w r' h' w' ys pe mk} {a a':Act},HR P r h w.heap->Stp P r h w r' h' w'->a'.defers=a.defers->(∀ t∈ys,a'.tmps[t]?=a.tmps[t]?)->C r ys pe mk a w->C r' ys pe mk a' w'
 mv:∀ {r ys pe mk} {a:Act} {w:World} {t d:Tmp} {v:Value},C r ys pe mk a w->t∈ys->a.tmps[t]?=some v->C r (d::ys) pe mk (a.put (some d) v) w
 one:∀ {r ys pe mk} {a:Act} {w:World} {t:Tmp} {v:Value},C r ys pe mk a w->t∈ys->a.tmps[t]?=some v->v.oneCell'=true
 dfr:∀ {r ys pe a w},C r ys pe false a w->a.defers=[]
 hook:∀ R,H=some R -> ∀ {vs h1 j h2},R vs h1=some (j,h2) -> ∀ {r ys mk} {a:Act} {w:World} {args':Array Value} {t:Tmp} {v:Value},Stp P r0 h0 w0 r h1 w->C r ys none mk a w->VL r vs args'.toList->t∈ys->a.tmps[t]?=some v ->
  ∃ l f tm asg bd,v = .func (.yield l) #[] #[]/\(Instr.yield l args').run P w = .ok (.round l f tm asg bd) w /\
    ∀ n,RoundIn (FW ro) n P l f tm asg bd w (fun e w'=>∃ r',e = .returned (.bool j.isNone)/\r.le r'/\Stp P r0 h0 w0 r' h2 w'/\C r' ys j mk a w')
section
variable {P:Program} {r0:Rho} {h0:AH} {w0:World} {ro:Option Nat} {H:HT} {C:CX} {F:FT} {keep:Bool}
end
end Go.Eng

namespace Go.Eng
section
variable {P:Program} {r0:Rho} {h0:AH} {w0:World}
end
end Go.Eng

namespace Go.Eng
open Go.RowKit
section
variable {P:Program}
end
end Go.Eng
