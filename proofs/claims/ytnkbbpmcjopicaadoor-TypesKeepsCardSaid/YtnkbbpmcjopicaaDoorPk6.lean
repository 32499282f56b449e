import Derived.Test.YtnkbbpmcjopicaaDoorPk5
set_option linter.unusedVariables false
set_option linter.unusedSimpArgs false
open Nat renaming reduceEqDiff -> ZA,reduceAdd -> ZB,reduceMul -> ZC,reduceLeDiff -> ZD,reduceLT -> ZE
open Int renaming reduceEq -> ZF
open Option renaming map_eq_some_iff->Z0,bind_some->Z1,bind_eq_some_iff->Z2
open Bool renaming false_eq_true->Z3
open List renaming getElem?_drop->Z4
namespace Go.Eng
inductive RX where
 | n (i:Nat)
 | t (i:Nat)
 | c (v:Value)
 | f (id:FuncId)
 | g (i:Nat)
 | m (named:Bool) (i:Nat) (tb:List (TypeId × FuncId))
inductive U where
 | mv
 | ld
 | ldn (n:Nat)
 | fa (off:Nat)
 | fd (off:Nat)
 | fdn (off n:Nat)
 | ex (i:Nat)
 | nk
 | nt
 | ng
 | cv (k:IntKind)
 | lenS
 | lenL
 | ifc (t:TypeId)
 | bx (e:TypeId)
 | b2s
 | s2b (e:TypeId)
 | up
 | pu (u:TypeId) (n:Nat)
 | sd
 | asn (t:TypeId) (ok:Bool) (z:Value)
inductive B where
 | ar (op:BinOp)
 | eb (neg:Bool)
 | es (neg:Bool) (ks:List Nat)
 | er (neg:Bool) (k:Nat)
 | ei (neg:Bool) (k:Nat)
 | ia (sz:Nat)
 | aa (len sz:Nat)
 | ixs
 | lk (kt:TypeId) (z:Value) (ok:Bool)
def ibin (op:BinOp) (k:IntKind) (a b:Int):Option Value :=
 match op with
 | .add=>some (.int k (k.wrap (a+b)))
 | .sub=>some (.int k (k.wrap (a-b)))
 | .mul=>some (.int k (k.wrap (a*b)))
 | .quo=>if b=0 then none else some (.int k (k.wrap (a.tdiv b)))
 | .rem=>if b=0 then none else some (.int k (a.tmod b))
 | .eql=>some (.bool (a == b))
 | .neq=>some (.bool (a != b))
 | .lss=>some (.bool (decide (a<b)))
 | .leq=>some (.bool (decide (a<=b)))
 | .gtr=>some (.bool (decide (a > b)))
 | .geq=>some (.bool (decide (a ≥ b)))
 | .and=>some (.int k (k.wrap (BitVec.ofInt k.bits a &&& BitVec.ofInt k.bits b).toNat))
 | .or=>some (.int k (k.wrap (BitVec.ofInt k.bits a ||| BitVec.ofInt k.bits b).toNat))
 | .xor=>some (.int k (k.wrap (BitVec.ofInt k.bits a ^^^ BitVec.ofInt k.bits b).toNat))
 | .shl=>if b<0 then none else some (.int k (k.wrap (a*2 ^ (min b.toNat k.bits))))
 | .shr=>if b<0 then none else some (.int k (a.fdiv (2 ^ (min b.toNat k.bits))))
 | _=>none
def sbin (op:BinOp) (x y:ByteArray):Option Value :=
 match op with
 | .add=>if ((x.size+y.size:Nat):Int) > IntKind.i64.max then none else some (.string (x++y))
 | .eql=>some (.bool (x.toList == y.toList))
 | .neq=>some (.bool !(x.toList == y.toList))
 | .lss=>some (.bool (Op.bytesLess x.toList y.toList))
 | .leq=>some (.bool (Op.bytesLess x.toList y.toList || x.toList == y.toList))
 | .gtr=>some (.bool !(Op.bytesLess x.toList y.toList || x.toList == y.toList))
 | .geq=>some (.bool !(Op.bytesLess x.toList y.toList))
 | _=>none
def ldc (h:AH) (b o:Nat):Option Value:=(hcell h b).bind fun cs=>cs[o]?
def uval (P:Program) (h:AH) (m:Nat):U->Value->Option RRes
 | .mv,v=>some (v,none)
 | .ld,.pointer (some ⟨b,o,none⟩)=>(ldc h b o).map fun v=>(v,none)
 | .ld,.pointer (some ⟨g,o,some _⟩)=>((Tab P g).bind fun cs=>cs[o]?).map fun v=>(v,none)
 | .ldn n,.pointer (some ⟨b,o,none⟩)=>(hcell h b).bind fun cs=>if o+n<=cs.length then some (.agg ((cs.drop o).take n).toArray,none) else none
 | .fa off,.pointer (some ⟨b,o,none⟩)=>some (.pointer (some ⟨b,o+off,none⟩),none)
 | .fd off,.agg cs=>(cs.toList[off]?).map fun v=>(v,none)
 | .fdn off n,.agg cs=>some (.agg ((cs.toList.drop off).take n).toArray,none)
 | .ex i,.tuple vs=>(vs.toList[i]?).map fun v=>(v,none)
 | .nk,.pointer (some a)=>some (.pointer (some a),none)
 | .nk,.func (.func f) a b=>some (.func (.func f) a b,none)
 | .nk,.func (.method nm) a b=>match a.toList with
   | .iface t _::_=>if (methF P t nm).isSome then some (.func (.method nm) a b,none) else none
   | _=>none
 | .nt,.bool b=>some (.bool !b,none)
 | .ng,.int k a=>some (.int k (k.wrap (0-a)),none)
 | .cv k,.int _ a=>some (.int k (k.wrap a),none)
 | .lenS,.string s=>some (.int .i64 s.size,none)
 | .lenL,.slice _ n _=>some (.int .i64 n,none)
 | .ifc t,v=>some (.iface t v,none)
 | .bx e,v=>some (.pointer (some ⟨m,0,none⟩),some (row e m v.cells.toList))
 | .b2s,.slice (some ⟨b,o,none⟩) n c =>
   if n=0 then some (.string ByteArray.empty,none) else
   (hcell h b).bind fun cs=>if o+n<=cs.length then (asBytes ((cs.drop o).take n)).map fun ns=>(.string (pushAll ns),none) else none
 | .b2s,.slice none 0 0=>some (.string ByteArray.empty,none)
 | .s2b e,.string s=>some (.slice (some ⟨m,0,none⟩) s.size s.size,some (.cells false true m 0 e (s.data.toList.map fun b=>Value.int .u8 b.toNat)))
 | .up,.pointer none=>some (.pointer none,none)
 | .up,.pointer (some ⟨b,o,none⟩)=>(hcell h b).bind fun cs=>if o<cs.length then some (.pointer (some ⟨b,o,none⟩),none) else none
 | .pu _ _,.pointer none=>some (.pointer none,none)
 | .pu u n,.pointer (some ⟨b,o,none⟩)=>match h[b]? with
   | some (.cells true _ _ _ e cs)=>if o=0/\e=u/\n<=cs.length then some (.pointer (some ⟨b,o,none⟩),none) else none
   | _=>none
 | .sd,.slice none 0 0=>some (.pointer none,none)
 | .sd,.slice (some ⟨b,o,none⟩) _ c=>if c=0 then none else some (.pointer (some ⟨b,o,none⟩),none)
 | .asn t ok z,.iface t' v=>if t'=t then some (if ok then .tuple #[v,.bool true] else v,none) else if ok then some (.tuple #[z,.bool false],none) else none
 | .asn t ok z,.nilIface=>if ok then some (.tuple #[z,.bool false],none) else none
 | _,_=>none
def ceq:List Nat->List Value->List Value->Option Bool
 | [],[],[]=>some true
 | 0::ks,.int k a::l,.int k' b::m=>if k=k' then (ceq ks l m).map fun r=>(a == b) && r else none
 | 1::ks,.bool a::l,.bool b::m=>(ceq ks l m).map fun r=>(a == b) && r
 | 2::ks,.string a::l,.string b::m=>(ceq ks l m).map fun r=>(a == b) && r
 | _,_,_=>none
def refV:Nat->Value->Value->Option Bool
 | 0,.pointer none,.pointer b=>some b.isNone
 | 0,.pointer (some _),.pointer none=>some false
 | 0,.pointer (some ⟨ab,ao,none⟩),.pointer (some ⟨bb,bo,none⟩)=>if ab=bb then some (ao == bo) else none
 | 1,.slice none _ _,.slice b _ _=>some b.isNone
 | 1,.slice (some _) _ _,.slice none _ _=>some false
 | 2,.map none,.map b=>some b.isNone
 | 2,.map (some _),.map none=>some false
 | 3,.func _ _ _,.nilFunc=>some false
 | 3,.nilFunc,.func _ _ _=>some false
 | 4,.nilIface,.iface _ _=>some false
 | 4,.iface _ _,.nilIface=>some false
 | 6,.nilIface,.nilIface=>some true
 | 6,.nilIface,.iface _ _=>some false
 | 6,.iface _ _,.nilIface=>some false
 | 5,.nilIface,.nilIface=>some true
 | 5,.nilIface,.iface _ _=>some false
 | 5,.iface _ _,.nilIface=>some false
 | _,_,_=>none
def intOk (P:Program) (t:TypeId):Bool:=match P.info? t,P.underlying t with
 | some i,some (.int _)=>i.comparable
 | _,_=>false
def iiV (P:Program) (tx ty:TypeId) (ka kb:IntKind) (a b:Int):Option Bool:=if tx=ty then (if ka=kb/\intOk P tx=true then some (a == b) else none) else some false
def eiV (P:Program) (k:Nat):Value->Value->Option Bool
 | .iface tx (.int ka a),.iface ty (.int kb b)=>iiV P tx ty ka kb a b
 | x,y=>refV k x y
def bval (P:Program) (h:AH):B->Value->Value->Option RRes
 | .ar op,.int k a,.int k' b=>if (k=k'\/op = .shl\/op = .shr) then (ibin op k a b).map fun v=>(v,none) else none
 | .ar op,.string a,.string b=>(sbin op a b).map fun v=>(v,none)
 | .eb neg,.bool a,.bool b=>some (.bool ((a == b) != neg),none)
 | .es neg ks,.agg a,.agg b=>(ceq ks a.toList b.toList).map fun r=>(.bool (r != neg),none)
 | .er neg k,x,y=>(refV k x y).map fun r=>(.bool (r != neg),none)
 | .ei neg k,x,y=>(eiV P k x y).map fun r=>(.bool (r != neg),none)
 | .ia sz,.slice (some ⟨b,o,none⟩) len c,.int k i=>if 0<=i/\i<len then some (.pointer (some ⟨b,o+i.toNat*sz,none⟩),none) else none
 | .aa len sz,.pointer (some ⟨b,o,none⟩),.int k i=>if 0<=i/\i<len then some (.pointer (some ⟨b,o+i.toNat*sz,none⟩),none) else none
 | .aa len sz,.pointer (some ⟨g,o,some m⟩),.int k i=>if 0<=i/\i<len then some (.pointer (some ⟨g,o+i.toNat*sz,some m⟩),none) else none
 | .ixs,.string s,.int _ i=>if 0<=i then (s[i.toNat]?).map fun b=>(.int .u8 b.toNat,none) else none
 | .lk kt z ok,x,k =>
   match (match x with | .map none=>some [] | .map (some b)=>hmap h b|_=>none) with
   | some es =>
     match rfind P kt k es with
     | some (some j)=>(es[j]?).map fun kv=>(if ok then .tuple #[kv.2,.bool true] else kv.2,none)
     | some none=>some (if ok then .tuple #[z,.bool false] else z,none)
     | none=>none
   | none=>none
 | _,_,_=>none
def bldv:List Value->List (Nat × Nat × Value)->Option (List Value)
 | cs,[]=>some cs
 | cs,(off,n,v)::l=>if v.cells.size=n/\off+n<=cs.length then bldv (cs.take off++v.cells.toList++cs.drop (off+n)) l else none
theorem pureRun_pure {P:Program} {α:Type} (a:α):pureRun P (pure a:Sem α)=some a:=rfl
theorem pureRun_program {P:Program}:pureRun P program=some P:=rfl
theorem pureRun_underlying {P:Program} {t:TypeId} {d:TypeDesc} (h:P.underlying t=some d):pureRun P (underlying t)=some d:=by
 simp only[underlying,pureRun_bind,pureRun_program,Z1,h];rfl
theorem foldl_splice (off:Nat):∀ (xs:List Value) (k:Nat) (cs:Array Value),off+k+xs.length<=cs.size ->
 ((xs.zipIdx k).foldl (fun (cs:Array Value) (x:Value × Nat)=>cs.setIfInBounds (off+x.2) x.1) cs).toList=cs.toList.take (off+k)++xs++cs.toList.drop (off+k+xs.length):=by
 intro xs
 induction xs with
 | nil=>intro k cs h;simp
 | cons x xs ih =>
   intro k cs h;simp only[List.length_cons] at h;rw[List.zipIdx_cons,List.foldl_cons,ih (k+1) _ (by simp;omega)];rw[Array.toList_setIfInBounds];have e1:off+(k+1)=off+k+1:=by omega
   rw[e1,List.take_set,List.drop_set];have hl:off+k<cs.toList.length:=by simp;omega
   rw[if_pos (by simp;omega)];have e2:(List.take (off+k+1) cs.toList).set (off+k) x=List.take (off+k) cs.toList++[x]:=by
    have hm:min (off+k) cs.size=off+k:=Nat.min_eq_left (by simp at hl;omega);rw[List.take_succ_eq_append_getElem hl,List.set_append];simp [hm]
   rw[e2];simp [Nat.add_assoc,Nat.add_comm,Nat.add_left_comm]
theorem fill_bldv (place:Nat->Option (Nat × Nat)):∀ (l:List (Nat × Value)) (l':List (Nat × Nat × Value)) (z:List Value) (out:List Value),l.length=l'.length ->
 (∀ (i:Nat) (p:Nat × Value) (q:Nat × Nat × Value),l[i]?=some p->l'[i]?=some q->place p.1=some (q.1,q.2.1)/\p.2=q.2.2)->bldv z l'=some out->Instr.fill place z.toArray l=some out.toArray:=by
 intro l
 induction l with
 | nil=>intro l' z out hl h hb;cases l' with
   | nil=>simp [bldv] at hb;subst hb;rfl
   | cons=>simp at hl
 | cons p l ih =>
   intro l' z out hl h hb;cases l' with
   | nil=>simp at hl
   | cons q l' =>
     obtain ⟨i,v⟩:=p;obtain ⟨off,n,v'⟩:=q;obtain ⟨e1,e2⟩:=h 0 _ _ rfl rfl;simp only at e1 e2;subst e2;simp only[bldv] at hb
     split at hb
     case isFalse=>cases hb
     case isTrue hc =>
      simp only[Instr.fill,e1];rw[if_neg (by simp;omega)];have:=ih l' _ out (by simpa using hl) (fun j a b ha hb=>h (j+1) a b (by simpa using ha) (by simpa using hb)) hb;refine Eq.trans ?_ this
      congr 1
      apply Array.ext'
      have hs:=foldl_splice off v.cells.toList 0 z.toArray (by simp;omega);simp only[<- Array.foldl_toList,Array.toList_zipIdx]
      simpa [hc.1] using hs
end Go.Eng

namespace Go.Eng
abbrev PE:=List (Nat × Value)
def look:PE->Nat->Option Value
 | [],_=>none
 | (t,v)::e,k=>if t=k then some v else look e k
def upd:PE->Nat->Value->PE
 | [],k,v=>[(k,v)]
 | (t,u)::e,k,v=>if t=k then (k,v)::e else (t,u)::upd e k v
theorem look_upd (e:PE) (k:Nat) (v:Value) (t:Nat):look (upd e k v) t=if k=t then some v else look e t:=by
 induction e with
 | nil=>rfl
 | cons p e ih =>
   obtain ⟨s,u⟩:=p;simp only[upd]
   by_cases h:s=k
   ·subst h
    simp only[if_true,look]
    by_cases h2:s=t
    ·simp [h2]
    ·simp [h2]
   ·simp only[h,if_false,look,ih]
    by_cases h2:s=t
    ·subst h2;simp [Ne.symm h]
    ·simp [h2]
def mtab (P:Program) (name:String):List (TypeId × FuncId):=(List.range P.types.size).filterMap fun t=>(methF P t name).map fun g=>(t,g)
def mlk:List (TypeId × FuncId)->TypeId->Option FuncId
 | [],_=>none
 | (a,g)::tb,t=>if a=t then some g else mlk tb t
theorem mlk_mem {tb:List (TypeId × FuncId)} {t:TypeId} {g:FuncId} (h:mlk tb t=some g):(t,g)∈tb:=by
 induction tb with
 | nil=>cases h
 | cons p tb ih =>
   obtain ⟨a,f⟩:=p;unfold mlk at h
   split at h
   ·rename_i e;subst e;cases h;exact List.mem_cons_self
   ·exact List.mem_cons_of_mem _ (ih h)
theorem mtab_methF {P:Program} {name:String} {t:TypeId} {g:FuncId} (h:mlk (mtab P name) t=some g):methF P t name=some g:=by
 have h1:=mlk_mem h;unfold mtab at h1;obtain ⟨u,_,h2⟩:=List.mem_filterMap.1 h1;obtain ⟨f,h3,h4⟩:=Z0.1 h2;cases h4;exact h3
def mfv (tb:List (TypeId × FuncId)):Value->Option Value
 | .iface t v=>(mlk tb t).map fun g=>.func (.func g) #[v] #[]
 | _=>none
def rx (e l:PE):RX->Option Value
 | .n i=>look e i
 | .t i=>look l i
 | .c v=>some v
 | .f id=>some (.func (.func id) #[] #[])
 | .g i=>some (.pointer (some ⟨i,0,some 0⟩))
 | .m nmd i tb=>(if nmd then look e i else look l i).bind (mfv tb)
def rxs (e l:PE):List RX->Option (List Value)
 | []=>some []
 | x::xs=>(rx e l x).bind fun v=>(rxs e l xs).map fun vs=>v::vs
def resX (nm:List Nat):Operand->Option RX
 | .tmp t=>some (if nm.contains t then .n t else .t t)
 | .const v=>if scal 8 v then some (.c v) else none
 | .func f=>some (.f f)
 | .global g=>some (.g g)
def resXs (nm:List Nat):List Operand->Option (List RX)
 | []=>some []
 | x::xs=>(resX nm x).bind fun v=>(resXs nm xs).map fun vs=>v::vs
def gof (nm:List Nat) (e l:PE):Operand->Option Value:=fun x=>(resX nm x).bind (rx e l)
theorem gof_of {nm:List Nat} {e l:PE} {x:Operand} {y:RX} (h:resX nm x=some y):gof nm e l x=rx e l y:=by simp [gof,h]
def GG (nm:List Nat) (e l:PE) (g:Operand->Option Value):Prop:=∀ {x:Operand} {y:RX} {v:Value},resX nm x=some y->rx e l y=some v->g x=some v
theorem GG.gof {nm:List Nat} {e l:PE}:GG nm e l (gof nm e l):=fun h k=>by rw[gof_of h];exact k
theorem evs_gof {nm:List Nat} {e l:PE} {g:Operand->Option Value} (hg:GG nm e l g):∀ {xs:List Operand} {ys:List RX},resXs nm xs=some ys -> ∀ {vs:List Value},rxs e l ys=some vs->evs g xs=some vs:=by
 intro xs
 induction xs with
 | nil=>intro ys h vs hv;cases h;cases hv;rfl
 | cons x xs ih =>
   intro ys h vs hv;simp only[resXs] at h;obtain ⟨y,h1,h2⟩:=Z2.1 h;obtain ⟨ys',h3,h4⟩:=Z0.1 h2;subst h4;simp only[rxs] at hv;obtain ⟨v,k1,k2⟩:=Z2.1 hv;obtain ⟨vs',k3,k4⟩:=Z0.1 k2;subst k4;simp only[evs,hg h1 k1,ih h3 k3]
inductive RK where
 | u (f:U) (x:RX)
 | b (f:B) (x y:RX)
 | pk (c a b:RX)
 | bld (z:List Value) (parts:List (Nat × Nat × RX))
 | bsl (e:TypeId) (n:Nat) (z:List Value) (parts:List (Nat × Nat × RX))
 | mkf (fn:Fn) (first cap:List RX)
 | al (e:TypeId) (z:List Value)
 | mm
 | msl (e:TypeId) (z:List Value) (bytes:Nat) (l c:RX)
 | sls (x:RX) (lo hi:Option RX)
 | sll (e:TypeId) (sz:Nat) (x:RX) (lo hi:Option RX)
 | st (n:Nat) (a x:RX)
 | app (str:Bool) (e:TypeId) (sz bytes:Nat) (z:List Value) (s x:RX)
 | clr (e:TypeId) (z:List Value) (x:RX)
 | cpy (sz:Nat) (str:Bool) (d s:RX)
 | ust (e:TypeId) (p l:RX)
 | mup (t:TypeId) (m k x:RX)
 | call (f:RX) (args:List RX)
 | dfr (f:RX) (args:List RX)
 | pan (x:RX)
 | raw (o:Oper)
inductive D where
 | z
 | n (i:Nat)
 | t (i:Nat)
structure RO where
 d:D
 g:Option (RX × Bool)
 k:RK
structure DO where
 o:RO
 i:Nat
 w:Bool
 chk:List Nat
 old:List Nat
inductive RC where
 | skip
 | rg (l:List RO)
 | dr (need:List RX) (np:Bool) (l:List DO)
 | sq (a b:RC)
 | ite (x:RX) (a b:RC)
 | blk (id:Nat) (b:RC)
 | loop (b:RC)
 | rf (g:RX) (ps:List Nat) (asg body:RC)
 | exit (id:Nat)
 | ret
 | bad
def argE (k:Nat):List Value->PE
 | []=>[]
 | v::l=>(k,v)::argE (k+1) l
def vK (x:Option Value) (K:Value->Prop):Prop:=match x with
 | some v=>K v
 | none=>False
def vsK (x:Option (List Value)) (K:List Value->Prop):Prop:=match x with
 | some v=>K v
 | none=>False
def rK (x:Option RRes) (h:AH) (K:Value->AH->Prop):Prop:=match x with
 | some (v,none)=>K v h
 | some (v,some B)=>K v (h++[B])
 | none=>False
def wK (x:Option (Value × AH)) (K:Value->AH->Prop):Prop:=match x with
 | some (v,h')=>K v h'
 | none=>False
def hK (x:Option AH) (K:Value->AH->Prop):Prop:=match x with
 | some h'=>K undef h'
 | none=>False
def br (b:Bool) (A B:Prop):Prop:=match b with
 | true=>A
 | false=>B
def bK (v:Value) (K:Bool->Prop):Prop:=match v with
 | .bool b=>K b
 | _=>False
inductive RP (K:Value->AH->Prop) (Kp:Value->AH->Prop):Res->AH->Prop where
 | ret {v:Value} {h':AH} (k:K v h'):RP K Kp (.ret v) h'
 | pan {v:Value} {h':AH} (k:Kp v h'):RP K Kp (.pan v) h'
def cK (P:Program) (f:Value) (args:List Value) (h:AH) (K:Value->AH->Prop) (Kp:Value->AH->Prop):Prop :=
 ∃ g first cap res h',f = .func (.func g) first cap/\Holds P g (first.toList++args++cap.toList) h res h'/\h.length<=h'.length/\RP K Kp res h'
def rxp (e l:PE):List (Nat × Nat × RX)->Option (List (Nat × Nat × Value))
 | []=>some []
 | (i,n,x)::xs=>(rx e l x).bind fun v=>(rxp e l xs).map fun vs=>(i,n,v)::vs
def pK (x:Option (List (Nat × Nat × Value))) (z:List Value) (K:List Value->Prop):Prop:=match x with
 | some ps=>match bldv z ps with
   | some cs=>K cs
   | none=>False
 | none=>False
def mslv (m:Nat) (e:TypeId) (z:List Value) (bytes:Nat):Value->Value->Option RRes
 | .int _ l,.int _ c =>
   if 0<=l/\l<=c/\c<9223372036854775808/\bytes*c<=140737488355328 then some (.slice (some ⟨m,0,none⟩) l.toNat c.toNat,some (row e m (List.replicate c.toNat z).flatten)) else none
 | _,_=>none
def ob (e l:PE):Option RX->Option (Option Value)
 | none=>some none
 | some x=>(rx e l x).map some
def slsv:Value->Option Value->Option Value->Option RRes
 | .string s,lo,hi=>(bnd s.size s.size hi).bind fun h=>(bnd 0 h lo).map fun l=>(.string (s.extract l h),none)
 | _,_,_=>none
def sllv (h0:AH) (e:TypeId) (sz:Nat):Value->Option Value->Option Value->Option RRes
 | .slice (some ⟨b,o,none⟩) n c,lo,hi=>if helem h0 b=some e then (bnd n c hi).bind fun h=>(bnd 0 h lo).map fun l=>(.slice (some ⟨b,o+l*sz,none⟩) (h-l) (c-l),none) else none
 | .slice none 0 0,lo,hi=>(bnd 0 0 hi).bind fun _=>(bnd 0 0 lo).map fun _=>(.slice none 0 0,none)
 | _,_,_=>none
def stv (h:AH) (n:Nat):Value->Value->Option AH
 | .pointer (some ⟨b,o,none⟩),v=>if n=v.cells.size then hstore h b o v.cells.toList else none
 | _,_=>none
def srcv (h:AH) (sz:Nat) (str:Bool):Value->Option (Nat × List Value)
 | .slice none 0 0=>if str then none else some (0,[])
 | .slice (some ⟨b,o,none⟩) n c=>if str then none else if n=0 then some (0,[]) else
  (hcell h b).bind fun cs=>if o+n*sz<=cs.length && ((cs.drop o).take (n*sz)).all Value.oneCell' then some (n,(cs.drop o).take (n*sz)) else none
 | .string s=>if str && sz == 1 then some (s.size,byteCells s) else none
 | _=>none
def appv (keep:Bool) (h:AH) (str:Bool) (e:TypeId) (sz bytes:Nat) (s x:Value):Option (Value × AH) :=
 (srcv h sz str x).bind fun (n,xs) =>
  match s with
  | .slice none 0 0 =>
    if n=0 then some (s,h) else
    if n*bytes<=140737488355328 && n<=9223372036854775807 then some (.slice (some ⟨h.length,0,none⟩) n n,h++[row e h.length xs]) else none
  | .slice (some ⟨b,o,none⟩) n0 c0 =>
    if n=0 then some (s,h) else
    match h[b]? with
    | some (.cells true solo grp del e' cs) =>
      if e'=e && o+n0*sz<=cs.length then
       if n0+n<=c0 then (hstore h b (o+n0*sz) xs).map fun h'=>(.slice (some ⟨b,o,none⟩) (n0+n) c0,h')
       else if (n0+n)*bytes<=140737488355328 && n0+n<=9223372036854775807 then
        some (.slice (some ⟨h.length,0,none⟩) (n0+n) (n0+n),
         hprep keep h b solo grp del e cs (o+n0*sz)++[.cells true (solo && !keep) (if solo && !keep then h.length else grp) (if solo && !keep then 0 else del+o) e ((cs.take (o+n0*sz)).drop o++xs)])
       else none
      else none
    | _=>none
  | _=>none
def clrv (h:AH) (z:List Value):Value->Option AH
 | .slice none 0 0=>some h
 | .slice (some ⟨b,o,none⟩) n c=>if n=0 then some h else hstore h b o (List.replicate n z).flatten
 | _=>none
def cpyv (h:AH) (sz:Nat) (str:Bool) (d s:Value):Option (Value × AH) :=
 (srcv h sz str s).bind fun (n,xs) =>
  match d with
  | .slice none 0 0=>some (.int .i64 0,h)
  | .slice (some ⟨b,o,none⟩) dn dc=>if n<=dn then if n=0 then some (.int .i64 0,h) else (hstore h b o xs).map fun h'=>(.int .i64 n,h') else none
  | _=>none
def ustv (h:AH) (e:TypeId):Value->Value->Option (Value × AH)
 | .pointer none,.int .i64 n=>if n=0 then some (.string ByteArray.empty,h) else none
 | .pointer (some ⟨b,o,none⟩),.int .i64 n =>
   if n=0 then some (.string ByteArray.empty,h) else
   match h[b]? with
   | some (.cells true true grp del e' cs) =>
     if e'=e/\0<n/\o+n.toNat<=cs.length/\n<=9223372036854775807 then
      (asBytes ((cs.drop o).take n.toNat)).map fun ns=>(.string (pushAll ns),h.set b (.cells false true grp del e' cs))
     else none
   | _=>none
 | _,_=>none
def wpk (P:Program) (keep:Bool) (nm:List Nat) (e l:PE) (h:AH) (K:Value->AH->Prop) (Kp:Value->AH->Prop):RK->Prop
 | .u f x=>vK (rx e l x) fun v=>rK (uval P h h.length f v) h K
 | .b f x y=>vK (rx e l x) fun u=>vK (rx e l y) fun v=>rK (bval P h f u v) h K
 | .pk c a b=>vK (rx e l c) fun v=>bK v fun t=>br t (vK (rx e l a) fun v=>K v h) (vK (rx e l b) fun v=>K v h)
 | .bld z ps=>pK (rxp e l ps) z fun cs=>K (.agg cs.toArray) h
 | .bsl t n z ps=>pK (rxp e l ps) z fun cs=>K (.slice (some ⟨h.length,0,none⟩) n n) (h++[row t h.length cs])
 | .mkf fn first cap=>vsK (rxs e l first) fun f=>vsK (rxs e l cap) fun c=>K (.func fn f.toArray c.toArray) h
 | .al t z=>K (.pointer (some ⟨h.length,0,none⟩)) (h++[row t h.length z])
 | .mm=>K (.map (some h.length)) (h++[.map []])
 | .msl t z bytes x y=>vK (rx e l x) fun u=>vK (rx e l y) fun v=>rK (mslv h.length t z bytes u v) h K
 | .sls x lo hi=>vK (rx e l x) fun u=>rK ((ob e l lo).bind fun lo=>(ob e l hi).bind fun hi=>slsv u lo hi) h K
 | .sll t sz x lo hi=>vK (rx e l x) fun u=>rK ((ob e l lo).bind fun lo=>(ob e l hi).bind fun hi=>sllv h t sz u lo hi) h K
 | .st n a x=>vK (rx e l a) fun u=>vK (rx e l x) fun v=>hK (stv h n u v) K
 | .app str t sz bytes z s x=>vK (rx e l s) fun u=>vK (rx e l x) fun v=>wK (appv keep h str t sz bytes u v) K
 | .clr t z x=>vK (rx e l x) fun u=>wK ((clrv h z u).map fun h'=>(.tuple #[],h')) K
 | .cpy sz str d s=>vK (rx e l d) fun u=>vK (rx e l s) fun v=>wK (cpyv h sz str u v) K
 | .ust t p n=>vK (rx e l p) fun u=>vK (rx e l n) fun v=>wK (ustv h t u v) K
 | .mup t m k x=>vK (rx e l m) fun u=>vK (rx e l k) fun kv=>vK (rx e l x) fun v=>hK (wmapUpdate P h t u kv v) K
 | .call f args=>vK (rx e l f) fun fv=>vsK (rxs e l args) fun ags=>cK P fv ags h K Kp
 | .pan x=>vK (rx e l x) fun v=>match v with
   | .iface t v=>Kp (.iface t v) h
   | _=>False
 | .dfr _ _=>False
 | .raw o=>rK (aread P (gof nm e l) h h.length o) h K
end Go.Eng

namespace Go.Eng
def resParts (nm:List Nat) (place:Nat->Option (Nat × Nat)):List (Nat × Operand)->Option (List (Nat × Nat × RX))
 | []=>some []
 | (i,x)::xs=>match place i,resX nm x,resParts nm place xs with
   | some (off,n),some y,some ys=>some ((off,n,y)::ys)
   | _,_,_=>none
def flatK (P:Program) (f:Field) (i:Nat):Option Nat :=
 if f.name != "_" && f.offset == i then match P.underlying f.type with
  | some (.int _)=>some 0
  | some .bool=>some 1
  | some .string=>some 2
  | _=>none
 else none
def flatKs (P:Program):List Field->Nat->Option (List Nat)
 | [],_=>some []
 | f::fs,i=>match flatK P f i,flatKs P fs (i+1) with
   | some k,some ks=>some (k::ks)
   | _,_=>none
def refK (P:Program):TypeDesc->Option Nat
 | .pointer e=>match sizeT P e with
   | some (_+1)=>some 0
   | _=>none
 | .slice _=>some 1
 | .map _ _=>some 2
 | .func _ _ _=>some 3
 | .interface ms=>if ms.isEmpty then some 5 else some 4
 | _=>none
def negOf:BinOp->Option Bool
 | .eql=>some false
 | .neq=>some true
 | _=>none
def resO (nm:List Nat):Option Operand->Option (Option RX)
 | none=>some none
 | some x=>(resX nm x).map some
def res1 (nm:List Nat) (f:U) (x:Operand):Option RK:=(resX nm x).map (.u f)
def res2 (nm:List Nat) (f:B) (x y:Operand):Option RK:=match resX nm x,resX nm y with
 | some a,some b=>some (.b f a b)
 | _,_=>none
def isC:Operand->Bool
 | .const _=>true
 | _=>false
def resCall (P:Program) (nm:List Nat) (o:Oper) (c:Call):Option RK :=
 match c.callee,c.args.toList,c.argTypes.toList with
 | .value f,args,_=>match resX nm f,resXs nm args with
   | some f,some ags=>some (.call f ags)
   | _,_=>none
 | .builtin .len,[x],[t]=>match P.underlying t with
   | some .string=>res1 nm .lenS x
   | some (.slice _)=>res1 nm .lenL x
   | _=>some (.raw o)
 | .builtin .append,[s,x],[t,tx]=>match P.underlying t,P.underlying tx with
   | some (.slice e),some d=>match P.info? e,resX nm s,resX nm x with
     | some i,some s,some x=>match i.zero with
       | some z=>if z.cells.size=i.size/\bldT P e=false then match d with
        | .slice _=>some (.app false e i.size i.bytes z.cells.toList s x)
        | .string=>if i.size=1 then some (.app true e i.size i.bytes z.cells.toList s x) else none
        | _=>none
         else none
       | none=>none
     | _,_,_=>none
   | _,_=>none
 | .builtin .clear,[x],[t]=>match P.underlying t,resX nm x with
   | some (.slice e),some x=>match zeroT P e with
     | some z=>if z.cells.toList.all (scal 8) && decide (0<z.cells.size) then some (.clr e z.cells.toList x) else none
     | none=>none
   | _,_=>none
 | .builtin .copy,[d,s],[t,tx]=>match P.underlying t,P.underlying tx,resX nm d,resX nm s with
   | some (.slice e),some k,some d,some s=>match sizeT P e,k with
     | some sz,.slice _=>some (.cpy sz false d s)
     | some 1,.string=>some (.cpy 1 true d s)
     | _,_=>none
   | _,_,_,_=>none
 | .builtin .unsafeSliceData,[x],_=>res1 nm .sd x
 | .builtin .unsafeString,[p,l],[t,_]=>match P.underlying t,resX nm p,resX nm l with
   | some (.pointer e),some p,some l=>if P.cellsOf e=1 then some (.ust e p l) else none
   | _,_,_=>none
 | .invoke (.tmp t) name,args,_=>(resXs nm args).map fun ags=>.call (.m (nm.contains t) t (mtab P name)) ags
 | _,_,_=>some (.raw o)
def resK (P:Program) (nm:List Nat) (o:Oper):Option RK :=
 match o.op with
 | .move x=>res1 nm .mv x
 | .assign x=>res1 nm .mv x
 | .pick c a b=>match resX nm c,resX nm a,resX nm b with
   | some c,some a,some b=>some (.pk c a b)
   | _,_,_=>none
 | .alloc t=>match zeroT P t,sizeT P t with
   | some z,some _=>some (.al t z.cells.toList)
   | _,_=>none
 | .box t x=>(sizeT P t).bind fun _=>res1 nm (.bx t) x
 | .build t parts=>match zeroT P t,P.underlying t with
   | some z,some (.struct fields)=>(places P fields.toList).bind fun pl=>(resParts nm (fun i=>pl[i]?) parts.toList).map fun ps=>.bld z.cells.toList ps
   | some z,some (.array _ e)=>(sizeT P e).bind fun n=>(resParts nm (fun i=>some (i*n,n)) parts.toList).map fun ps=>.bld z.cells.toList ps
   | _,_=>none
 | .buildSlice t len parts=>match P.underlying t with
   | some (.slice e)=>match sizeT P e,zeroT P e with
     | some sz,some z =>
       if len*sz<=16777216 then
        let cs0:=(Array.range (len*sz)).map (z.cells[· % z.cells.size]!)
        if cs0.toList.all (scal 8) then (resParts nm (fun i=>some (i*sz,sz)) parts.toList).map fun ps=>.bsl e len cs0.toList ps else none
       else none
     | _,_=>none
   | _=>none
 | .load t x=>match isAggT P t with
   | some true=>(sizeT P t).bind fun n=>res1 nm (.ldn n) x
   | some false=>res1 nm .ld x
   | none=>none
 | .nilCheck x=>res1 nm .nk x
 | .binOp op t x y _=>match P.underlying t with
   | some (.int _)=>res2 nm (.ar op) x y
   | some .string=>res2 nm (.ar op) x y
   | some .bool=>(negOf op).bind fun n=>res2 nm (.eb n) x y
   | some (.struct fields)=>match flatKs P fields.toList 0 with
     | some ks=>if !P.stoodInHeld t && !P.eqGuardType P.depth t then (negOf op).bind fun n=>res2 nm (.es n ks) x y else some (.raw o)
     | none=>some (.raw o)
   | some d=>match refK P d with
     | some k=>(negOf op).bind fun n=>res2 nm (if 3<k then .ei n (if isC x || isC y then 6 else k) else .er n k) x y
     | none=>some (.raw o)
   | none=>none
 | .unOp .not _ x=>res1 nm .nt x
 | .unOp .neg _ x=>res1 nm .ng x
 | .convert src dst x=>match P.underlying src,P.underlying dst with
   | some (.int _),some (.int k)=>res1 nm (.cv k) x
   | some .string,some .string=>some (.raw o)
   | some (.slice e),some .string=>match P.underlying e with
     | some (.int .u8)=>res1 nm .b2s x
     | _=>none
   | some .string,some (.slice e)=>match P.underlying e,sizeT P e with
     | some (.int .u8),some 1=>res1 nm (.s2b e) x
     | _,_=>none
   | some (.pointer t),some .unsafePointer=>match sizeT P t with
     | some (_+1)=>res1 nm .up x
     | _=>none
   | some .unsafePointer,some (.pointer u)=>match sizeT P u with
     | some (n+1)=>if bldT P u=true then res1 nm (.pu u (n+1)) x else none
     | _=>none
   | _,_=>some (.raw o)
 | .makeInterface t x=>match P.underlying t with
   | some (.interface _)=>none
   | some _=>res1 nm (.ifc t) x
   | none=>none
 | .makeFunc fn first cap=>match resXs nm first.toList,resXs nm cap.toList with
   | some f,some c=>some (.mkf fn f c)
   | _,_=>none
 | .makeMap _ none=>some .mm
 | .makeSlice t l c=>match P.underlying t with
   | some (.slice e)=>match P.info? e,zeroT P e,resX nm l,resX nm c with
     | some i,some z,some l,some c=>if z.cells.size=i.size && z.cells.toList.all (scal 8) then some (.msl e z.cells.toList i.bytes l c) else none
     | _,_,_,_=>none
   | _=>none
 | .slice t x lo hi none=>match P.underlying t,resX nm x,resO nm lo,resO nm hi with
   | some .string,some x,some lo,some hi=>some (.sls x lo hi)
   | some (.slice e),some x,some lo,some hi=>(sizeT P e).map fun sz=>.sll e sz x lo hi
   | _,_,_,_=>some (.raw o)
 | .fieldAddr s x f=>match P.underlying s with
   | some (.struct fields)=>match fields[f]? with
     | some fd=>match sizeT P fd.type with
       | some (_+1)=>res1 nm (.fa fd.offset) x
       | _=>none
     | none=>none
   | _=>none
 | .field t x f=>match P.underlying t with
   | some (.struct fields)=>match fields[f]? with
     | some fd=>match isAggT P fd.type with
       | some true=>(sizeT P fd.type).bind fun n=>res1 nm (.fdn fd.offset n) x
       | some false=>res1 nm (.fd fd.offset) x
       | none=>none
     | none=>none
   | _=>none
 | .indexAddr t x i=>match P.underlying t with
   | some (.slice e)=>(sizeT P e).bind fun n=>res2 nm (.ia n) x i
   | some (.array len e)=>(sizeT P e).bind fun n=>res2 nm (.aa len n) x i
   | _=>none
 | .index t x i=>match P.underlying t with
   | some .string=>res2 nm .ixs x i
   | _=>some (.raw o)
 | .lookup t x k ok=>match P.underlying t with
   | some (.map kt e)=>(zeroT P e).bind fun z=>res2 nm (.lk kt z ok) x k
   | _=>none
 | .typeAssert x _ t ok=>match P.underlying t with
   | some (.interface _)=>some (.raw o)
   | some _=>if ok then (zeroT P t).bind fun z=>res1 nm (.asn t ok z) x else res1 nm (.asn t ok undef) x
   | none=>none
 | .extract x i=>res1 nm (.ex i) x
 | .store t a x=>match sizeT P t,resX nm a,resX nm x with
   | some n,some a,some x=>some (.st n a x)
   | _,_,_=>none
 | .mapUpdate t m k x=>match resX nm m,resX nm k,resX nm x with
   | some m,some k,some x=>some (.mup t m k x)
   | _,_,_=>none
 | .call c=>resCall P nm o c
 | .defer c=>match c.callee with
   | .value f=>match resX nm f,resXs nm c.args.toList with
     | some f,some ags=>some (.dfr f ags)
     | _,_=>none
   | _=>none
 | .panic x=>(resX nm x).map .pan
 | _=>some (.raw o)
end Go.Eng

namespace Go.Eng
theorem vK_inv {x:Option Value} {K:Value->Prop} (h:vK x K):∃ v,x=some v/\K v:=by
 cases x with
 | none=>exact h.elim
 | some v=>exact ⟨v,rfl,h⟩
theorem vsK_inv {x:Option (List Value)} {K:List Value->Prop} (h:vsK x K):∃ v,x=some v/\K v:=by
 cases x with
 | none=>exact h.elim
 | some v=>exact ⟨v,rfl,h⟩
def RR (res:RRes) (h:AH) (K:Value->AH->Prop):Prop:=match res with
 | (v,none)=>K v h
 | (v,some B)=>K v (h++[B])
theorem rK_inv {x:Option RRes} {h:AH} {K:Value->AH->Prop} (hk:rK x h K):∃ res,x=some res/\RR res h K:=by
 cases x with
 | none=>exact hk.elim
 | some res=>obtain ⟨v,_|B⟩:=res<;>exact ⟨_,rfl,hk⟩
theorem wK_inv {x:Option (Value × AH)} {K:Value->AH->Prop} (hk:wK x K):∃ v h',x=some (v,h')/\K v h':=by
 cases x with
 | none=>exact hk.elim
 | some res=>obtain ⟨v,h'⟩:=res;exact ⟨v,h',rfl,hk⟩
theorem hK_inv {x:Option AH} {K:Value->AH->Prop} (hk:hK x K):∃ h',x=some h'/\K undef h':=by
 cases x with
 | none=>exact hk.elim
 | some h'=>exact ⟨h',rfl,hk⟩
theorem pK_inv {x:Option (List (Nat × Nat × Value))} {z:List Value} {K:List Value->Prop} (h:pK x z K):∃ ps cs,x=some ps/\bldv z ps=some cs/\K cs:=by
 cases x with
 | none=>exact h.elim
 | some ps =>
   unfold pK at h;simp only at h;cases hb:bldv z ps with
   | none=>rw[hb] at h;exact h.elim
   | some cs=>rw[hb] at h;exact ⟨ps,cs,rfl,hb,h⟩
theorem bK_inv {v:Value} {K:Bool->Prop} (h:bK v K):∃ b,v = .bool b/\K b:=by
 cases v<;>first|exact ⟨_,rfl,h⟩|exact h.elim
inductive OpS (P:Program) (keep:Bool) (g:Operand->Option Value) (h:AH) (o:Oper) (K:Value->AH->Prop) (Kp:Value->AH->Prop):Prop where
 | rd (res:RRes) (h1:aread P g h h.length o=some res) (k:RR res h K)
 | wr (v:Value) (h':AH) (h0:aread P g h h.length o=none) (h1:awrite P keep g h o=some (v,h')) (k:K v h')
 | call (c:Call) (fo:Operand) (f:FuncId) (first cap:Array Value) (args:List Value) (res:Res) (h':AH) (h0:aread P g h h.length o=none) (h9:awrite P keep g h o=none)
  (h1:o.op = .call c) (h2:c.callee = .value fo) (h3:g fo=some (.func (.func f) first cap)) (h4:evs g c.args.toList=some args)
  (h5:Holds P f (first.toList++args++cap.toList) h res h') (h6:h.length<=h'.length) (k:RP K Kp res h')
 | inv (c:Call) (x:Operand) (name:String) (t:TypeId) (v:Value) (f:FuncId) (args:List Value) (res:Res) (h':AH) (h0:aread P g h h.length o=none) (h9:awrite P keep g h o=none)
  (h1:o.op = .call c) (h2:c.callee = .invoke x name) (h3:g x=some (.iface t v)) (hm:methF P t name=some f) (h4:evs g c.args.toList=some args)
  (h5:Holds P f (v::args) h res h') (h6:h.length<=h'.length) (k:RP K Kp res h')
 | pan (x:Operand) (t:TypeId) (v:Value) (h0:aread P g h h.length o=none) (h9:awrite P keep g h o=none) (h1:o.op = .panic x) (h2:g x=some (.iface t v)) (k:Kp (.iface t v) h)
section
variable {P:Program} {keep:Bool} {nm:List Nat} {e l:PE} {h:AH} {K:Value->AH->Prop} {Kp:Value->AH->Prop}
theorem res1_inv {f:U} {x:Operand} {k:RK} (hk:res1 nm f x=some k):∃ y,resX nm x=some y/\k = .u f y:=by
 obtain ⟨y,h1,h2⟩:=Z0.1 hk;exact ⟨y,h1,h2.symm⟩
theorem res2_inv {f:B} {x y:Operand} {k:RK} (hk:res2 nm f x y=some k):∃ a b,resX nm x=some a/\resX nm y=some b/\k = .b f a b:=by
 unfold res2 at hk
 split at hk
 ·rename_i a b h1 h2;cases hk;exact ⟨a,b,h1,h2,rfl⟩
 ·cases hk
theorem u_ok {g:Operand->Option Value} (hg:GG nm e l g) {o:Oper} {f:U} {x:Operand} {k:RK} (hk:res1 nm f x=some k) (hw:wpk P keep nm e l h K Kp k)
 (hr:∀ v res,g x=some v->uval P h h.length f v=some res->aread P g h h.length o=some res):OpS P keep g h o K Kp:=by
 obtain ⟨y,h1,rfl⟩:=res1_inv hk;obtain ⟨v,hv,hw⟩:=vK_inv hw;obtain ⟨res,h2,h3⟩:=rK_inv hw;exact .rd res (hr v res (hg h1 hv) h2) h3
theorem b_ok {g:Operand->Option Value} (hg:GG nm e l g) {o:Oper} {f:B} {x y:Operand} {k:RK} (hk:res2 nm f x y=some k) (hw:wpk P keep nm e l h K Kp k)
 (hr:∀ u v res,g x=some u->g y=some v->bval P h f u v=some res->aread P g h h.length o=some res):OpS P keep g h o K Kp:=by
 obtain ⟨a,b,h1,h1',rfl⟩:=res2_inv hk;obtain ⟨u,hu,hw⟩:=vK_inv hw;obtain ⟨v,hv,hw⟩:=vK_inv hw;obtain ⟨res,h2,h3⟩:=rK_inv hw;exact .rd res (hr u v res (hg h1 hu) (hg h1' hv) h2) h3
theorem rscal_of {g:Operand->Option Value} {o:Oper} (hs:notSel o.op=true) (ha:∀ x∈o.op.operands.toList,okScal (g x)=true) {s:Sem Value} (he:execOp (fun x=>(g x).getD undef) o=nv s)
 {v:Value} (hv:pureRun P s=some v) (hsv:scal 8 v=true):rscal P g o=some (v,none):=by
 unfold rscal;rw[if_pos (by rw[hs,List.all_eq_true.2 ha];rfl),he];simp only[nv,pureRun_bind,hv,Z1,pureRun_pure,hsv,if_true]
theorem pureRun_eqGuard_int {op:BinOp} {t:TypeId} {x y:Operand} {k k':IntKind} {a b:Int}:pureRun P (eqGuard op t x y (.int k a) (.int k' b))=some ():=by cases op<;>rfl
theorem pureRun_eqGuard_str {op:BinOp} {t:TypeId} {x y:Operand} {a b:ByteArray}:pureRun P (eqGuard op t x y (.string a) (.string b))=some ():=by cases op<;>rfl
theorem pureRun_eqGuard_bool {op:BinOp} {t:TypeId} {x y:Operand} {a b:Bool}:pureRun P (eqGuard op t x y (.bool a) (.bool b))=some ():=by cases op<;>rfl
theorem pureRun_ibin {op:BinOp} {t:TypeId} {k k':IntKind} {a b:Int} {v:Value} (hk:k=k'\/op = .shl\/op = .shr) (hv:ibin op k a b=some v):pureRun P (binOp op t (.int k a) (.int k' b))=some v/\scal 8 v=true:=by
 cases op with
 | shl =>
   simp only[ibin] at hv
   split at hv
   ·cases hv
   ·rename_i hb;cases hv;refine ⟨?_,rfl⟩;show pureRun P (Op.shift .shl k a k' b)=_;unfold Op.shift;rw[if_neg hb];rfl
 | shr =>
   simp only[ibin] at hv
   split at hv
   ·cases hv
   ·rename_i hb;cases hv;refine ⟨?_,rfl⟩;show pureRun P (Op.shift .shr k a k' b)=_;unfold Op.shift;rw[if_neg hb];rfl
 | quo =>
   rcases hk with rfl|h|h<;>try cases h
   simp only[ibin] at hv
   split at hv
   ·cases hv
   ·rename_i hb;cases hv;refine ⟨?_,rfl⟩;simp only[binOp,ne_eq,not_true_eq_false,if_false,Op.intDiv,hb];rfl
 | rem =>
   rcases hk with rfl|h|h<;>try cases h
   simp only[ibin] at hv
   split at hv
   ·cases hv
   ·rename_i hb;cases hv;refine ⟨?_,rfl⟩;simp only[binOp,ne_eq,not_true_eq_false,if_false,Op.intDiv,hb];rfl
 | _ =>
   rcases hk with rfl|h|h<;>try cases h
   all_goals (first|(cases hv;refine ⟨?_,rfl⟩;simp only[binOp,ne_eq,not_true_eq_false,if_false];rfl)|cases hv)
theorem pureRun_sbin {op:BinOp} {t:TypeId} {a b:ByteArray} {v:Value} (hv:sbin op a b=some v):pureRun P (binOp op t (.string a) (.string b))=some v/\scal 8 v=true:=by
 cases op with
 | add =>
   simp only[sbin] at hv
   split at hv
   ·cases hv
   ·rename_i hb;cases hv;refine ⟨?_,rfl⟩;show pureRun P (Op.stringOp .add a b)=_;unfold Op.stringOp;simp only[hb,if_false];rfl
 | _=>first|(cases hv;exact ⟨rfl,rfl⟩)|cases hv
theorem bin_ok {o:Oper} {op:BinOp} {t:TypeId} {x y:Operand} {yt:TypeId} {u v z:Value} {g:Operand->Option Value} (ho:o.op = .binOp op t x y yt) (hx:g x=some u) (hy:g y=some v)
 (hu:scal 8 u=true) (hv:scal 8 v=true) (h0:pureRun P (eqGuard op t x y u v)=some ()) (h1:pureRun P (binOp op t u v)=some z) (hz:scal 8 z=true) (m:Nat):aread P g h m o=some (z,none):=by
 obtain ⟨dst,op',type,pos,after,guard⟩:=o;simp only at ho;subst ho;have:=rscal_of (P:=P) (g:=g) (o:=⟨dst,.binOp op t x y yt,type,pos,after,guard⟩) rfl (fun q hq=>by
  simp [Op.operands] at hq
  rcases hq with rfl|rfl
  ·simp [okScal,hx,hu]
  ·simp [okScal,hy,hv]) (s:=do eqGuard op t x y u v;binOp op t u v) (by simp [execOp,hx,hy,nv]) (v:=z) (by rw[pureRun_bind,h0];exact h1) hz
 simp only[aread,this,orElse]
inductive CE:Nat->Value->Value->Bool->Prop where
 | int (k:IntKind) (x y:Int):CE 0 (.int k x) (.int k y) (x == y)
 | bool (x y:Bool):CE 1 (.bool x) (.bool y) (x == y)
 | str (x y:ByteArray):CE 2 (.string x) (.string y) (x == y)
theorem ceq_cons {k:Nat} {ks:List Nat} {us vs:List Value} {r:Bool} (h:ceq (k::ks) us vs=some r):∃ u v l m b r',us=u::l/\vs=v::m/\ceq ks l m=some r'/\r=(b && r')/\CE k u v b:=by
 unfold ceq at h
 split at h
 ·exact absurd ‹k::ks=[]› (by simp)
 ·rename_i hh
  cases hh
  split at h
  ·rename_i hk;subst hk
   obtain ⟨r',h1,h2⟩:=Z0.1 h;exact ⟨_,_,_,_,_,r',rfl,rfl,h1,h2.symm,.int _ _ _⟩
  ·cases h
 ·rename_i hh
  cases hh;obtain ⟨r',h1,h2⟩:=Z0.1 h;exact ⟨_,_,_,_,_,r',rfl,rfl,h1,h2.symm,.bool _ _⟩
 ·rename_i hh
  cases hh;obtain ⟨r',h1,h2⟩:=Z0.1 h;exact ⟨_,_,_,_,_,r',rfl,rfl,h1,h2.symm,.str _ _⟩
 ·cases h
theorem pureRun_isAgg {t:TypeId} {b:Bool} (h:isAggT P t=some b):pureRun P (isAgg t)=some b:=by
 unfold isAggT at h;simp only[isAgg,pureRun_bind]
 split at h
 ·rename_i hu;cases h;rw[pureRun_underlying hu];rfl
 ·rename_i hu;cases h;rw[pureRun_underlying hu];rfl
 ·rename_i d h1 h2 hu
  cases h;rw[pureRun_underlying hu];simp only[Z1];cases d<;>first|rfl|exact absurd rfl (h1 _)|exact absurd rfl (h2 _ _)
 ·cases h
theorem flatK_inv {f : Field} {i k : Nat} (h : flatK P f i = some k) : (f.name ≠ "_") /\ f.offset = i /\ ((∃ kd, P.underlying f.type = some (.int kd) /\ k = 0) \/ (P.underlying f.type = some .bool /\ k = 1) \/ (P.underlying f.type = some .string /\ k = 2)) := by
 unfold flatK at h
 split at h
 ·rename_i hc
  simp only[Bool.and_eq_true,bne_iff_ne,ne_eq,beq_iff_eq] at hc;refine ⟨hc.1,hc.2,?_⟩
  split at h
  ·rename_i hu;cases h;exact .inl ⟨_,hu,rfl⟩
  ·rename_i hu;cases h;exact .inr (.inl ⟨hu,rfl⟩)
  ·rename_i hu;cases h;exact .inr (.inr ⟨hu,rfl⟩)
  ·cases h
 ·cases h
theorem flatK_part {f:Field} {i k:Nat} (hf:flatK P f i=some k) {xs:Array Value} {u:Value} (hx:xs.toList[i]?=some u):pureRun P (part f.type xs f.offset)=some u:=by
 obtain ⟨h1,h2,h3⟩:=flatK_inv hf;have ha:isAggT P f.type=some false:=by
  unfold isAggT
  rcases h3 with ⟨kd,h,_⟩|⟨h,_⟩|⟨h,_⟩<;>rw[h]
 simp only[part,pureRun_bind,pureRun_isAgg ha,Z1,Z3,if_false,h2];rw[show xs[i]?=some u by simpa using hx]
 rfl
theorem flatK_equal {d:Nat} {f:Field} {i k:Nat} (hf:flatK P f i=some k) {u v:Value} {b:Bool} (h:CE k u v b):pureRun P (Op.equalIn (d+1) f.type u v)=some b:=by
 obtain ⟨h1,h2,h3⟩:=flatK_inv hf;rw[Op.equalIn];simp only[pureRun_bind]
 rcases h3 with ⟨kd,hu,rfl⟩|⟨hu,rfl⟩|⟨hu,rfl⟩
 all_goals
  rw[pureRun_underlying hu];cases h
  first|rfl|(simp only[Z1,if_true];rfl)
theorem equal_flat (d:Nat) {t:TypeId} {fields:Array Field} (hu:P.underlying t=some (.struct fields)) (hs:P.stoodInHeld t=false) {ks:List Nat} (hk:flatKs P fields.toList 0=some ks) (xs ys:Array Value) {r:Bool}
 (hr:ceq ks xs.toList ys.toList=some r):pureRun P (Op.equalIn (d+2) t (.agg xs) (.agg ys))=some r:=by
 rw[Op.equalIn];simp only[pureRun_bind,pureRun_underlying hu,Z1,pureRun_program,hs,Z3,if_false,<- Array.forIn_toList]
 suffices H:∀ (fs:List Field) (i:Nat) (ks:List Nat) (r:Bool),flatKs P fs i=some ks->ceq ks (xs.toList.drop i) (ys.toList.drop i)=some r ->
  pureRun P (forIn fs ((none,()):Option Bool × Unit) fun f __s =>
   if f.name ≠ "_" then do
    let __do_lift <- part f.type xs f.offset
    let __do_lift_1 <- part f.type ys f.offset
    let __do_lift <- Op.equalIn (d+1) f.type __do_lift __do_lift_1
    if (!__do_lift)=true then pure (ForInStep.done (some false,())) else pure (ForInStep.yield (none,()))
   else pure (ForInStep.yield (none,())))=some (if r then (none,()) else (some false,())) by
  rw[H fields.toList 0 ks r hk (by simpa using hr)];cases r<;>rfl
 intro fs
 induction fs with
 | nil =>
   intro i ks r hk hr;cases hk;unfold ceq at hr
   split at hr
   ·cases hr;rfl
   ·rename_i h _ _;cases h
   ·rename_i h _ _;cases h
   ·rename_i h _ _;cases h
   ·cases hr
 | cons f fs ih =>
   intro i ks r hk hr;simp only[flatKs] at hk
   split at hk
   case h_2=>cases hk
   case h_1 k ks' hf hfs =>
    cases hk;obtain ⟨u,v,l,m,b,r',e1,e2,e3,rfl,hce⟩:=ceq_cons hr;have hl:xs.toList[i]?=some u:=by have:=congrArg (fun q:List Value=>q[0]?) e1;simpa [Z4] using this
    have hm:ys.toList[i]?=some v:=by have:=congrArg (fun q:List Value=>q[0]?) e2;simpa [Z4] using this
    have hd1:xs.toList.drop (i+1)=l:=by have:=congrArg (fun q:List Value=>q.drop 1) e1;simpa [List.drop_drop] using this
    have hd2:ys.toList.drop (i+1)=m:=by have:=congrArg (fun q:List Value=>q.drop 1) e2;simpa [List.drop_drop] using this
    have hih:=ih (i+1) ks' r' hfs (by rw[hd1,hd2];exact e3);simp only[List.forIn_cons,pureRun_bind];rw[if_pos (flatK_inv hf).1];simp only[pureRun_bind,flatK_part hf hl,flatK_part hf hm,flatK_equal hf hce,Z1];cases b with
    | true=>simp only[Bool.not_true,Z3,if_false,pureRun_pure,Z1,Bool.true_and];exact hih
    | false=>rfl
theorem pureRun_equal_bool {t:TypeId} {a b:Bool} (hu:P.underlying t=some .bool):pureRun P (Op.equal t (.bool a) (.bool b))=some (a == b):=by
 show pureRun P (Op.equalIn (9999+1) t _ _)=_
 rw[Op.equalIn];simp only[pureRun_bind,pureRun_underlying hu]
 rfl
theorem rload_ld {t:TypeId} {v:Value} {res:RRes} (ha:isAggT P t=some false) {m:Nat} (hu:uval P h m .ld v=some res):rload P h t v=some res:=by
 unfold uval at hu
 split at hu<;>try cases hu
 all_goals rename_i hh<;>try cases hh
 ·unfold ldc at hu
  obtain ⟨v,h1,h2⟩:=Z0.1 hu;obtain ⟨cs,h3,h4⟩:=Z2.1 h1;simp only[rload,h3,ha,h4,Option.map_some,h2]
 ·simp only[rload,ha];exact hu
theorem rload_ldn {t:TypeId} {n:Nat} {v:Value} {res:RRes} (ha:isAggT P t=some true) (hs:sizeT P t=some n) {m:Nat} (hu:uval P h m (.ldn n) v=some res):rload P h t v=some res:=by
 unfold uval at hu
 split at hu<;>try cases hu
 all_goals rename_i hh<;>try cases hh
 obtain ⟨cs,h3,h4⟩:=Z2.1 hu;simp only[rload,h3,ha,hs];exact h4
end
end Go.Eng
