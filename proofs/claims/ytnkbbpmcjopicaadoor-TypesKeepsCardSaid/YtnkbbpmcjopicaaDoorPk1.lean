import Derived.Laws.Append
import Derived.Laws.CopyRow
import Derived.Laws.Rows
import Derived.Orders
import Derived.Defers
import GoSem.Dispatch
set_option linter.unusedVariables false
set_option linter.unusedSimpArgs false
open Nat renaming reduceEqDiff -> ZA,reduceAdd -> ZB,reduceMul -> ZC,reduceLeDiff -> ZD,reduceLT -> ZE
open Int renaming reduceEq -> ZF
open List renaming getElem?_append_left->Z0,getElem?_append_right->Z1,getElem?_take->Z3,getElem?_eq_some_iff->Z4,getElem?_drop->Z5,length_take->Z7,append_assoc->Z8,getElem?_set->Za,all_eq_true->Zb,getElem?_eq_none->Zg,mem_of_getElem?->Zh,length_append->Zj
open Nat renaming le_refl->Z2,le_zero->Z9,zero_le->Zf,lt_of_lt_of_le->Zi
open Array renaming getElem?_eq_some_iff->Z6
open Bool renaming and_eq_true->Zc,false_eq_true->Zk
open Option renaming isSome_iff_exists->Zd,map_eq_some_iff->Ze
namespace Go.Eng
structure Loc where
 blk:Nat
 off:Nat
 lim:Nat
 sz:Nat
abbrev Rho:=Nat->Option Loc
def Rho.le (r r':Rho):Prop:=∀ b x,r b=some x->r' b=some x
theorem Rho.le.refl (r:Rho):r.le r:=fun _ _ h=>h
theorem Rho.le.trans {r r' r'':Rho} (h:r.le r') (k:r'.le r''):r.le r'':=fun b x hx=>k b x (h b x hx)
def Rho.upd (r:Rho) (m:Nat) (x:Loc):Rho:=fun b=>if b=m then some x else r b
theorem Rho.upd_same (r:Rho) (m:Nat) (x:Loc):r.upd m x m=some x:=by simp [Rho.upd]
theorem Rho.upd_ne (r:Rho) {m b:Nat} (x:Loc) (h:b≠m):r.upd m x b=r b:=by simp [Rho.upd,h]
theorem Rho.le_upd {r:Rho} {m:Nat} (h:r m=none) (x:Loc):r.le (r.upd m x):=fun b y hb=>by
 have:b≠m:=fun e=>by rw[e,h] at hb;cases hb
 rw[Rho.upd_ne r x this];exact hb
inductive VR (r:Rho):Value->Value->Prop
 | bool (b:Bool):VR r (.bool b) (.bool b)
 | int (k:IntKind) (n:Int):VR r (.int k n) (.int k n)
 | float (k:FloatKind) (n:Nat):VR r (.float k n) (.float k n)
 | unk (k:FloatKind) (n m:Nat) {v':Value} (h:v'.oneCell'=true) (h2:k = .f32 -> ∃ x,v' = .int .i64 x):VR r (.complex k n m) v'
 | string (s:ByteArray):VR r (.string s) (.string s)
 | pnil:VR r (.pointer none) (.pointer none)
 | ptr {b o:Nat} {x:Loc} (h:r b=some x):VR r (.pointer (some ⟨b,o,none⟩)) (.pointer (some ⟨x.blk,o+x.off,none⟩))
 | gptr (g o n:Nat):VR r (.pointer (some ⟨g,o,some n⟩)) (.pointer (some ⟨g,o,none⟩))
 | snil:VR r (.slice none 0 0) (.slice none 0 0)
 | slice {b o n c c':Nat} {x:Loc} (h:r b=some x) (hc:c<=c') (hn:n<=c) (hl:o+x.off+c'*x.sz<=x.lim):VR r (.slice (some ⟨b,o,none⟩) n c) (.slice (some ⟨x.blk,o+x.off,none⟩) n c')
 | sempty {b o n' c':Nat} {a':Addr} (hn:n'=0) (hc:c'=0):VR r (.slice (some ⟨b,o,none⟩) 0 0) (.slice (some a') n' c')
 | mnil:VR r (.map none) (.map none)
 | map {b:Nat} {x:Loc} (h:r b=some x) (h0:x.off=0):VR r (.map (some b)) (.map (some x.blk))
 | cnil:VR r (.chan none) (.chan none)
 | fnil:VR r .nilFunc .nilFunc
 | func {fn:Fn} {f f' c c':Array Value} (hf:f.size=f'.size) (hfs:∀ (i:Nat) (v v':Value),f[i]?=some v->f'[i]?=some v'->VR r v v')
  (hc:c.size=c'.size) (hcs:∀ (i:Nat) (v v':Value),c[i]?=some v->c'[i]?=some v'->VR r v v'):VR r (.func fn f c) (.func fn f' c')
 | inil:VR r .nilIface .nilIface
 | iface {t:TypeId} {v v':Value} (h:VR r v v'):VR r (.iface t v) (.iface t v')
 | agg {c c':Array Value} (hc:c.size=c'.size) (hcs:∀ (i:Nat) (v v':Value),c[i]?=some v->c'[i]?=some v'->VR r v v'):VR r (.agg c) (.agg c')
 | tuple {c c':Array Value} (hc:c.size=c'.size) (hcs:∀ (i:Nat) (v v':Value),c[i]?=some v->c'[i]?=some v'->VR r v v'):VR r (.tuple c) (.tuple c')
theorem VR.mono {r r':Rho} (hr:r.le r') {v v':Value} (h:VR r v v'):VR r' v v':=by
 induction h with
 | bool|int|float|string|pnil|gptr|snil|mnil|cnil|fnil|inil=>constructor
 | unk k n m h h2=>exact .unk k n m h h2
 | ptr h=>exact .ptr (hr _ _ h)
 | slice h hc hn hl=>exact .slice (hr _ _ h) hc hn hl
 | sempty h k=>exact .sempty h k
 | map h h0=>exact .map (hr _ _ h) h0
 | func hf _ hc _ ih1 ih2=>exact .func hf ih1 hc ih2
 | iface _ ih=>exact .iface ih
 | agg hc _ ih=>exact .agg hc ih
 | tuple hc _ ih=>exact .tuple hc ih
def VL (r:Rho) (l l':List Value):Prop:=l.length=l'.length /\ ∀ (i:Nat) (v v':Value),l[i]?=some v->l'[i]?=some v'->VR r v v'
theorem VL.mono {r r':Rho} (hr:r.le r') {l l':List Value} (h:VL r l l'):VL r' l l':=⟨h.1,fun i v v' a b=>(h.2 i v v' a b).mono hr⟩
theorem VL.nil (r:Rho):VL r [] []:=⟨rfl,fun i v v' h=>by simp at h⟩
theorem VL.cons {r:Rho} {v v':Value} {l l':List Value} (h:VR r v v') (k:VL r l l'):VL r (v::l) (v'::l') :=
 ⟨by simp [k.1],fun i x x' a b=>by cases i with
  | zero=>simp at a b;subst a;subst b;exact h
  | succ i=>simp at a b;exact k.2 i x x' a b⟩
theorem VL.get {r:Rho} {l l':List Value} (h:VL r l l') {i:Nat} {v:Value} (hv:l[i]?=some v):∃ v',l'[i]?=some v'/\VR r v v':=by
 have hi:i<l'.length:=by rw[<- h.1];exact (Z4.1 hv).1
 exact ⟨l'[i],by simp [hi],h.2 i v _ hv (by simp [hi])⟩
theorem VL.none {r:Rho} {l l':List Value} (h:VL r l l') {i:Nat} (hv:l[i]? = .none):l'[i]? = .none:=by
 rw[List.getElem?_eq_none_iff] at *;rw[<- h.1];exact hv
theorem VL.append {r:Rho} {l l' m m':List Value} (h:VL r l l') (k:VL r m m'):VL r (l++m) (l'++m'):=by
 refine ⟨by simp [h.1,k.1],fun i v v' a b=>?_⟩
 by_cases hi:i<l.length
 ·rw[Z0 hi] at a
  rw[Z0 (by rw[<- h.1];exact hi)] at b;exact h.2 i v v' a b
 ·rw[Z1 (by omega)] at a
  rw[Z1 (by rw[<- h.1];omega),<- h.1] at b;exact k.2 _ v v' a b
theorem VL.take {r:Rho} {l l':List Value} (h:VL r l l') (n:Nat):VL r (l.take n) (l'.take n):=by
 refine ⟨by simp [h.1],fun i v v' a b=>?_⟩;rw[Z3] at a b
 split at a<;>simp_all
 exact h.2 i v v' a b
theorem VL.drop {r:Rho} {l l':List Value} (h:VL r l l') (n:Nat):VL r (l.drop n) (l'.drop n):=by
 refine ⟨by simp [h.1],fun i v v' a b=>?_⟩;rw[Z5] at a b;exact h.2 _ v v' a b
theorem VL.set {r:Rho} {l l':List Value} (h:VL r l l') {v v':Value} (hv:VR r v v') (n:Nat):VL r (l.set n v) (l'.set n v'):=by
 refine ⟨by simp [h.1],fun i x x' a b=>?_⟩;rw[Za] at a b
 by_cases hn:n=i
 ·subst hn
  simp only[if_true] at a b
  by_cases hl:n<l.length
  ·rw[if_pos hl] at a;rw[if_pos (by rw[<- h.1];exact hl)] at b
   cases a;cases b;exact hv
  ·rw[if_neg hl] at a;cases a
 ·rw[if_neg hn] at a b;exact h.2 i x x' a b
theorem VL.replicate {r:Rho} {v v':Value} (hv:VR r v v') (n:Nat):VL r (List.replicate n v) (List.replicate n v'):=by
 refine ⟨by simp,fun i x x' a b=>?_⟩;rw[List.getElem?_replicate] at a b
 split at a<;>simp_all
theorem VL.head {r:Rho} {v:Value} {l m:List Value} (h:VL r (v::l) m):∃ v' l',m=v'::l'/\VR r v v'/\VL r l l':=by
 cases m with
 | nil=>have:=h.1;simp at this
 | cons v' l' =>
   exact ⟨v',l',rfl,h.2 0 v v' rfl rfl,by have:=h.1;simpa using this,fun i x x' a b=>h.2 (i+1) x x' (by simpa using a) (by simpa using b)⟩
theorem VL.nil_left {r:Rho} {m:List Value} (h:VL r [] m):m=[]:=by
 cases m with
 | nil=>rfl
 | cons=>have:=h.1;simp at this
theorem VR.agg_l {r:Rho} {c c':Array Value} (h:VL r c.toList c'.toList):VR r (.agg c) (.agg c') :=
 .agg (by simpa using h.1) fun i v v' a b=>h.2 i v v' (by simpa using a) (by simpa using b)
theorem VR.tuple_l {r:Rho} {c c':Array Value} (h:VL r c.toList c'.toList):VR r (.tuple c) (.tuple c') :=
 .tuple (by simpa using h.1) fun i v v' a b=>h.2 i v v' (by simpa using a) (by simpa using b)
theorem VR.func_l {r:Rho} {fn:Fn} {f f' c c':Array Value} (h:VL r f.toList f'.toList) (k:VL r c.toList c'.toList):VR r (.func fn f c) (.func fn f' c') :=
 .func (by simpa using h.1) (fun i v v' a b=>h.2 i v v' (by simpa using a) (by simpa using b)) (by simpa using k.1) fun i v v' a b=>k.2 i v v' (by simpa using a) (by simpa using b)
theorem VR.agg_inv {r:Rho} {c:Array Value} {v':Value} (h:VR r (.agg c) v'):∃ c',v' = .agg c'/\VL r c.toList c'.toList:=by
 cases h with
 | agg hc hcs=>exact ⟨_,rfl,by simpa using hc,fun i v v' a b=>hcs i v v' (by simpa using a) (by simpa using b)⟩
theorem VR.tuple_inv {r:Rho} {c:Array Value} {v':Value} (h:VR r (.tuple c) v'):∃ c',v' = .tuple c'/\VL r c.toList c'.toList:=by
 cases h with
 | tuple hc hcs=>exact ⟨_,rfl,by simpa using hc,fun i v v' a b=>hcs i v v' (by simpa using a) (by simpa using b)⟩
theorem VR.func_inv {r:Rho} {fn:Fn} {f c:Array Value} {v':Value} (h:VR r (.func fn f c) v'):∃ f' c',v' = .func fn f' c'/\VL r f.toList f'.toList/\VL r c.toList c'.toList:=by
 cases h with
 | func hf hfs hc hcs=>exact ⟨_,_,rfl,⟨by simpa using hf,fun i v v' a b=>hfs i v v' (by simpa using a) (by simpa using b)⟩,by simpa using hc,fun i v v' a b=>hcs i v v' (by simpa using a) (by simpa using b)⟩
theorem VR.ptr_inv {r:Rho} {b o:Nat} {v':Value} (h:VR r (.pointer (some ⟨b,o,none⟩)) v'):∃ x,r b=some x/\v' = .pointer (some ⟨x.blk,o+x.off,none⟩):=by
 cases h with
 | ptr h=>exact ⟨_,h,rfl⟩
theorem VR.gptr_inv {r:Rho} {g o n:Nat} {v':Value} (h:VR r (.pointer (some ⟨g,o,some n⟩)) v'):v' = .pointer (some ⟨g,o,none⟩):=by
 cases h;rfl
theorem VR.some_ptr {r:Rho} {a:Addr} {v':Value} (h:VR r (.pointer (some a)) v'):∃ a',v' = .pointer (some a')/\(a.spot=none -> ∃ x,r a.block=some x/\a'=⟨x.blk,a.off+x.off,none⟩):=by
 cases h with
 | ptr h=>exact ⟨_,rfl,fun _=>⟨_,h,rfl⟩⟩
 | gptr g o n=>exact ⟨_,rfl,fun h=>by cases h⟩
theorem cells_one {v:Value} (h:v.oneCell'=true):v.cells = #[v]:=by cases v<;>simp_all [Value.cells,Value.oneCell']
theorem VR.slice_inv {r:Rho} {a:Addr} {n c:Nat} {v':Value} (h:VR r (.slice (some a) n c) v') :
 (∃ x c',r a.block=some x/\a.spot=none/\v' = .slice (some ⟨x.blk,a.off+x.off,none⟩) n c'/\c<=c'/\n<=c/\a.off+x.off+c'*x.sz<=x.lim)\/(n=0/\c=0 /\ ∃ a',v' = .slice (some a') 0 0):=by
 cases h with
 | slice h hc hn hl=>exact .inl ⟨_,_,h,rfl,rfl,hc,hn,hl⟩
 | sempty h k=>subst h;subst k;exact .inr ⟨rfl,rfl,_,rfl⟩
theorem VR.snil_inv {r:Rho} {n c:Nat} {v':Value} (h:VR r (.slice none n c) v'):n=0/\c=0/\v' = .slice none 0 0:=by
 cases h;exact ⟨rfl,rfl,rfl⟩
theorem VR.map_inv {r:Rho} {b:Nat} {v':Value} (h:VR r (.map (some b)) v'):∃ x,r b=some x/\x.off=0/\v' = .map (some x.blk):=by
 cases h with
 | map h h0=>exact ⟨_,h,h0,rfl⟩
theorem VR.iface_inv {r:Rho} {t:TypeId} {v v':Value} (h:VR r (.iface t v) v'):∃ u,v' = .iface t u/\VR r v u:=by
 cases h with
 | iface h=>exact ⟨_,rfl,h⟩
theorem VR.int_inv {r:Rho} {k:IntKind} {n:Int} {v':Value} (h:VR r (.int k n) v'):v' = .int k n:=by cases h;rfl
theorem VR.bool_inv {r:Rho} {b:Bool} {v':Value} (h:VR r (.bool b) v'):v' = .bool b:=by cases h;rfl
theorem VR.string_inv {r:Rho} {s:ByteArray} {v':Value} (h:VR r (.string s) v'):v' = .string s:=by cases h;rfl
theorem VR.cells {r:Rho} {v v':Value} (h:VR r v v'):VL r v.cells.toList v'.cells.toList:=by
 cases h
 case agg hc hcs=>exact (VR.agg_inv (.agg hc hcs)).elim fun c' hh=>by cases hh.1;exact hh.2
 case unk k n m h h2=>rw[cells_one h];exact .cons (.unk k n m h h2) (.nil r)
 all_goals exact .cons (by constructor<;>assumption) (.nil r)
def scal:Nat->Value->Bool
 | _,.bool _|_,.int _ _|_,.float _ _|_,.string _|_,.pointer none|_,.slice none 0 0|_,.map none|_,.chan none|_,.nilFunc|_,.nilIface=>true
 | n+1,.iface _ v=>scal n v
 | n+1,.agg c=>c.toList.all (scal n)
 | n+1,.tuple c=>c.toList.all (scal n)
 | n+1,.func _ f c=>f.toList.all (scal n) && c.toList.all (scal n)
 | _,_=>false
theorem all_eq {r:Rho} {n:Nat} (ih:∀ v v',scal n v=true->VR r v v'->v'=v) {c c':Array Value} (h:c.toList.all (scal n)=true) (k:VL r c.toList c'.toList):c'=c:=by
 apply Array.ext'
 apply List.ext_getElem?
 intro i;cases hx:c.toList[i]? with
 | none=>exact k.none hx
 | some x =>
   obtain ⟨x',h1,h2⟩:=k.get hx;rw[h1,ih x x' (Zb.1 h x (Zh hx)) h2]
theorem scal_eq {r:Rho}:∀ (n:Nat) (v v':Value),scal n v=true->VR r v v'->v'=v:=by
 intro n
 induction n with
 | zero =>
   intro v v' h k;cases k<;>first|rfl|(simp [scal] at h)
 | succ n ih =>
   intro v v' h k;cases k with
   | iface k=>rw[ih _ _ (by simpa [scal] using h) k]
   | agg a b=>obtain ⟨c',e,k⟩:=VR.agg_inv (.agg a b);cases e;rw[all_eq ih (by simpa only [scal] using h) k]
   | tuple a b=>obtain ⟨c',e,k⟩:=VR.tuple_inv (.tuple a b);cases e;rw[all_eq ih (by simpa only [scal] using h) k]
   | @func fn _ _ _ _ a b c d =>
     obtain ⟨f',c',e,k1,k2⟩:=VR.func_inv (VR.func (fn:=fn) a b c d);cases e;simp only[scal,Zc] at h;rw[all_eq ih h.1 k1,all_eq ih h.2 k2]
   | _=>first|rfl|(simp [scal] at h)
theorem all_refl {r:Rho} {n:Nat} (ih:∀ v,scal n v=true->VR r v v) {c:Array Value} (h:c.toList.all (scal n)=true):VL r c.toList c.toList :=
 ⟨rfl,fun i v v' a b=>by rw[a] at b;cases b;exact ih v (Zb.1 h v (Zh a))⟩
theorem scal_refl {r:Rho}:∀ (n:Nat) (v:Value),scal n v=true->VR r v v:=by
 intro n
 induction n with
 | zero =>
   intro v h;unfold scal at h
   split at h<;>first|(constructor;done)|(simp at *;done)
 | succ n ih =>
   intro v h;unfold scal at h
   split at h<;>first
    | (constructor;done)
    | (rename_i n' _ e;cases e;exact .iface (ih _ h))
    | (rename_i n' _ e;cases e;exact .agg_l (all_refl ih h))
    | (rename_i n' _ e;cases e;exact .tuple_l (all_refl ih h))
    | (rename_i n' _ _ e;cases e;simp only[Zc] at h;exact .func_l (all_refl ih h.1) (all_refl ih h.2))
    | (simp at *;done)
def pureRun (P:Program) {α:Type}:Sem α->Option α
 | .pure a=>some a
 | .program k=>pureRun P (k P)
 | .mark _ k=>pureRun P k
 | _=>none
theorem pureRun_run {P:Program} {α:Type} {s:Sem α} {a:α} (h:pureRun P s=some a) (w:World):s.run P w = .ok a w:=by
 induction s with
 | pure b=>simp [pureRun] at h;subst h;rfl
 | program k ih=>simp only[pureRun] at h;simpa [Sem.run] using ih P h
 | mark m k ih=>simp only[pureRun] at h;simpa [Sem.run] using ih h
 | _=>simp [pureRun] at h
def sizeT (P:Program) (t:TypeId):Option Nat:=(P.info? t).map (·.size)
end Go.Eng

namespace Go.Eng
inductive Blk where
 | gone
 | cells (own solo:Bool) (grp del:Nat) (e:TypeId) (cs:List Value)
 | map (es:List (Value × Value))
abbrev AH:=List Blk
def Blk.wr:Blk->Bool
 | .gone=>false
 | .cells own ..=>own
 | .map _=>true
def Blk.live:Blk->Bool
 | .gone=>false
 | _=>true
def Blk.alone:Blk->Bool
 | .cells _ solo ..=>solo
 | _=>true
def bldT (P:Program) (e:TypeId):Bool:=match ((P.types[e]?).map fun (i:TypeInfo)=>i.desc:Option TypeDesc) with
 | some (.named n _) => n == "strings.Builder"
 | _=>false
def tabN (n:String):Option (List Value) :=
 if n == "internal/strconv.uint64pow10" then some ((List.range 20).map fun i => Value.int .u64 (10 ^ i))
 else if n == "strconv.ErrRange" || n == "strconv.ErrSyntax" then some [.complex .f64 0 0]
 else if n == "internal/bytealg.MaxLen" then some [.complex .f32 0 0]
 else none
def tabX (P : Program) (n : String) : Bool := (n == "strconv.ErrRange" || n == "strconv.ErrSyntax") && P.funcs.any fun f => f.name == "loiter/loiterlaw17.wakes"
def Tab (P:Program) (g:Nat):Option (List Value):=(P.globals[g]?).bind fun x=>if tabX P x.name then none else tabN x.name
def BO (P:Program) (r:Rho) (x:Loc):Blk->Option Obj->Prop
 | .gone,_=>True
 | .cells own _ _ _ e cs,o=>∃ cur e' fr,o=some (.cells cur e' fr)/\(own=true->e'=e/\fr=(0,0)/\cur.size=x.lim/\(bldT P e=true->x.off=0))/\sizeT P e=some x.sz/\x.off+cs.length<=cur.size /\
  ∀ (i:Nat) (v v':Value),cs[i]?=some v->cur[x.off+i]?=some v'->VR r v v'
 | .map es,o=>∃ ces clock,o=some (.map ces clock)/\x.off=0/\es.length=ces.size /\ ∀ (i:Nat) (kv:Value × Value) (m:MapEntry),es[i]?=some kv->ces[i]?=some m->VR r kv.1 m.key/\VR r kv.2 m.val
theorem BO.mono {P:Program} {r r':Rho} (hr:r.le r') {x:Loc} {B:Blk} {o:Option Obj} (h:BO P r x B o):BO P r' x B o:=by
 cases B with
 | gone=>trivial
 | cells =>
   obtain ⟨cur,e',fr,h1,h2,hs,h3,h4⟩:=h;exact ⟨cur,e',fr,h1,h2,hs,h3,fun i v v' a b=>(h4 i v v' a b).mono hr⟩
 | map =>
   obtain ⟨ces,clock,h1,h2,h3,h4⟩:=h;exact ⟨ces,clock,h1,h2,h3,fun i kv m a b=>⟨(h4 i kv m a b).1.mono hr,(h4 i kv m a b).2.mono hr⟩⟩
def Ali (B:Blk) (d:Nat) (B':Blk) (d':Nat):Prop :=
 ∃ grp del e cs del' e' cs',B = .cells true false grp del e cs/\B' = .cells true false grp del' e' cs'/\d+del'=d'+del
structure HR (P:Program) (r:Rho) (h:AH) (W:Array Obj):Prop where
 dom:∀ b x,r b=some x->b<h.length/\x.blk<W.size
 blk:∀ b B,h[b]?=some B->B.live=true -> ∃ x,r b=some x/\BO P r x B W[x.blk]?
 sep:∀ b b' B B' x x',h[b]?=some B->h[b']?=some B'->b≠b'->B.wr=true->B'.live=true->r b=some x->r b'=some x'->x.blk=x'.blk->Ali B x.off B' x'.off
 lay:∀ g cs,Tab P g=some cs -> ∃ cur e fr,W[g]?=some (.cells cur e fr)/\VL (fun _=>none) cs cur.toList
 nwr:∀ g b B x,(Tab P g).isSome=true->h[b]?=some B->B.wr=true->r b=some x->x.blk≠g
theorem HR.tab_lt {P:Program} {r:Rho} {h:AH} {W:Array Obj} (hr:HR P r h W) {g:Nat} (hg:(Tab P g).isSome=true):g<W.size:=by
 obtain ⟨cs,hcs⟩:=Zd.1 hg;obtain ⟨cur,e,fr,hc,_⟩:=hr.lay g cs hcs;exact (Z6.1 hc).1
theorem Blk.live_of_wr {B:Blk} (h:B.wr=true):B.live=true:=by cases B<;>simp_all [Blk.wr,Blk.live]
structure Fr (K:Nat->Prop) (w w':World):Prop where
 os:w'.os=w.os
 tape:w'.tape=w.tape
 output:w'.output=w.output
 size:w.heap.size<=w'.heap.size
 block:∀ k,k<w.heap.size -> ¬ K k->w'.heap[k]?=w.heap[k]?
theorem Fr.refl (K:Nat->Prop) (w:World):Fr K w w:=⟨rfl,rfl,rfl,Z2 _,fun _ _ _=>rfl⟩
theorem Fr.same {K:Nat->Prop} {w w':World} (h1:w'.os=w.os) (h2:w'.tape=w.tape) (h3:w'.output=w.output) (h4:w'.heap=w.heap):Fr K w w' :=
 ⟨h1,h2,h3,by rw[h4];exact Z2 _,fun k _ _=>by rw[h4]⟩
theorem Fr.trans {K K':Nat->Prop} {w w1 w2:World} (h:Fr K w w1) (k:Fr K' w1 w2) (hk:∀ b,b<w.heap.size->K' b->K b):Fr K w w2 :=
 ⟨k.os.trans h.os,k.tape.trans h.tape,k.output.trans h.output,Nat.le_trans h.size k.size,fun b hb hn =>
  (k.block b (Zi hb h.size) fun h'=>hn (hk b hb h')).trans (h.block b hb hn)⟩
def Wr (r:Rho) (h:AH) (k:Nat):Prop:=∃ b B x,h[b]?=some B/\B.wr=true/\r b=some x/\x.blk=k
structure Stp (P:Program) (r:Rho) (h:AH) (w:World) (r':Rho) (h':AH) (w':World):Prop where
 le:r.le r'
 hr:HR P r' h' w'.heap
 fr:Fr (Wr r h) w w'
 own:∀ b' B' x,h'[b']?=some B'->B'.live=true->r' b'=some x->x.blk<w.heap.size -> ∃ b B y,h[b]?=some B/\B.live=true/\r b=some y/\y.blk=x.blk/\(B'.wr=true->B.wr=true)
 len:h.length<=h'.length
 gone:∀ b:Nat,h[b]?=some .gone->h'[b]?=some .gone
theorem Stp.trans {P:Program} {r r1 r2:Rho} {h h1 h2:AH} {w w1 w2:World} (a:Stp P r h w r1 h1 w1) (b:Stp P r1 h1 w1 r2 h2 w2):Stp P r h w r2 h2 w2:=by
 refine ⟨a.le.trans b.le,b.hr,a.fr.trans b.fr ?_,?_,Nat.le_trans a.len b.len,fun k hk=>b.gone k (a.gone k hk)⟩
 ·rintro k hk ⟨c,C,x,h1,h2,h3,rfl⟩
  obtain ⟨c',C',y,e1,e2,e3,e4,e5⟩:=a.own c C x h1 (Blk.live_of_wr h2) h3 hk;exact ⟨c',C',y,e1,e5 h2,e3,e4⟩
 ·intro c C x h1 h2 h3 h4
  obtain ⟨c',C',y,e1,e2,e3,e4,e5⟩:=b.own c C x h1 h2 h3 (Zi h4 a.fr.size);obtain ⟨c'',C'',z,f1,f2,f3,f4,f5⟩:=a.own c' C' y e1 e2 e3 (by rw[e4];exact h4);exact ⟨c'',C'',z,f1,f2,f3,f4.trans e4,fun hh=>f5 (e5 hh)⟩
structure Same (w w':World):Prop where
 os:w'.os=w.os
 tape:w'.tape=w.tape
 output:w'.output=w.output
 heap:w'.heap=w.heap
theorem Same.refl (w:World):Same w w:=⟨rfl,rfl,rfl,rfl⟩
theorem Same.drew (w:World):Same w w.drew:=⟨rfl,rfl,rfl,rfl⟩
theorem Stp.same {P:Program} {r:Rho} {h:AH} {w w':World} (hr:HR P r h w.heap) (s:Same w w'):Stp P r h w r h w' :=
 ⟨.refl r,by rw[s.heap];exact hr,.same s.os s.tape s.output s.heap,fun b B x h1 h2 h3 _=>⟨b,B,x,h1,h2,h3,rfl,id⟩,Z2 _,fun _ h=>h⟩
theorem Stp.refl {P:Program} {r:Rho} {h:AH} {w:World} (hr:HR P r h w.heap):Stp P r h w r h w:=.same hr (.refl w)
def hput (h:AH) (m:Nat) (B:Blk):AH:=if m<h.length then h.set m B else h++[B]
theorem hput_get {h:AH} {m:Nat} (hm:m<=h.length) (B:Blk) (b:Nat):(hput h m B)[b]?=if b=m then some B else h[b]?:=by
 unfold hput
 split
 ·rename_i hlt
  rw[Za]
  by_cases e:m=b
  ·subst e;simp [hlt]
  ·simp [e,Ne.symm e]
 ·have:m=h.length:=by omega
  subst this
  by_cases e:b=h.length
  ·subst e;simp
  ·simp only[e,if_false]
   by_cases hb:b<h.length
   ·rw[Z0 hb]
   ·rw[Z1 (by omega),Zg (by simp;omega),Zg (by omega)]
theorem hput_length {h:AH} {m:Nat} (hm:m<=h.length) (B:Blk):h.length<=(hput h m B).length/\m<(hput h m B).length:=by
 unfold hput;split<;>simp<;>omega
def Free (r:Rho) (h:AH) (m:Nat):Prop:=m<=h.length/\r m=none/\(m<h.length->h[m]?=some .gone)
theorem HR.free_end {P:Program} {r:Rho} {h:AH} {W:Array Obj} (hr:HR P r h W):Free r h h.length :=
 ⟨Z2 _,by
  cases e:r h.length with
  | none=>rfl
  | some x=>exact absurd (hr.dom _ _ e).1 (Nat.lt_irrefl _),fun h=>absurd h (Nat.lt_irrefl _)⟩
theorem Stp.new {P:Program} {r:Rho} {h:AH} {w w':World} (hr:HR P r h w.heap) {m:Nat} (hm:Free r h m) {B:Blk} {o:Obj} {x0:Loc} (hx0:x0.blk=w.heap.size)
 (hB:BO P (r.upd m x0) x0 B (some o)) (h1:w'.os=w.os) (h2:w'.tape=w.tape) (h3:w'.output=w.output) (h4:w'.heap=w.heap.push o) :
 HR P (r.upd m x0) (hput h m B) w'.heap/\Fr (Wr r h) w w'/\r.le (r.upd m x0):=by
 have hle:=Rho.le_upd hm.2.1 x0;have hpush:∀ k,k<w.heap.size->w'.heap[k]?=w.heap[k]?:=fun k hk=>by rw[h4,Array.getElem?_push,if_neg (by omega)]
 have hnew:w'.heap[x0.blk]?=some o:=by rw[h4,hx0];simp
 have hlt:∀ b x,r b=some x->x.blk<w.heap.size:=fun b x e=>(hr.dom b x e).2
 refine ⟨⟨?_,?_,?_,?_,?_⟩,⟨h1,h2,h3,by rw[h4];simp,fun k hk _=>hpush k hk⟩,hle⟩
 ·intro b x e
  have hl:=hput_length hm.1 B
  by_cases hb:b=m
  ·subst hb;rw[Rho.upd_same] at e;cases e
   exact ⟨hl.2,by rw[h4,hx0];simp⟩
  ·rw[Rho.upd_ne _ _ hb] at e
   have:=hr.dom b x e;exact ⟨by omega,by rw[h4];simp;omega⟩
 ·intro b C e hl
  rw[hput_get hm.1] at e
  by_cases hb:b=m
  ·subst hb;simp at e;subst e
   exact ⟨_,Rho.upd_same _ _ _,by rw[hnew];exact hB⟩
  ·simp [hb] at e
   obtain ⟨x,e1,e2⟩:=hr.blk b C e hl;exact ⟨x,by rw[Rho.upd_ne _ _ hb];exact e1,by rw[hpush _ (hlt _ _ e1)];exact e2.mono hle⟩
 ·intro b b' C C' x x' e e' hne hw hl hx hx' heq
  rw[hput_get hm.1] at e e'
  by_cases hb:b=m
  ·subst hb
   have hb':b'≠b:=fun k=>hne k.symm
   rw[Rho.upd_same] at hx;cases hx;rw[Rho.upd_ne _ _ hb'] at hx';have:=hlt _ _ hx';omega
  ·by_cases hb':b'=m
   ·subst hb'
    rw[Rho.upd_same] at hx';cases hx';rw[Rho.upd_ne _ _ hb] at hx;have:=hlt _ _ hx;omega
   ·simp only[hb,hb',if_false] at e e'
    rw[Rho.upd_ne _ _ hb] at hx;rw[Rho.upd_ne _ _ hb'] at hx';exact hr.sep b b' C C' x x' e e' hne hw hl hx hx' heq
 ·intro g cs hg
  obtain ⟨cur,e,fr,hc,hv⟩:=hr.lay g cs hg;exact ⟨cur,e,fr,by rw[hpush g (Z6.1 hc).1];exact hc,hv⟩
 ·intro g b C x hg e hw hx
  rw[hput_get hm.1] at e
  by_cases hb:b=m
  ·subst hb
   rw[Rho.upd_same] at hx;cases hx;obtain ⟨cs,hcs⟩:=Zd.1 hg;obtain ⟨cur,e,fr,hc,hv⟩:=hr.lay g cs hcs;have:=(Z6.1 hc).1;omega
  ·simp only[hb,if_false] at e
   rw[Rho.upd_ne _ _ hb] at hx;exact hr.nwr g b C x hg e hw hx
theorem Stp.push {P:Program} {r:Rho} {h:AH} {w w':World} (hr:HR P r h w.heap) {B:Blk} {o:Obj} {x0:Loc} (hx0:x0.blk=w.heap.size)
 (hB:BO P (r.upd h.length x0) x0 B (some o)) (h1:w'.os=w.os) (h2:w'.tape=w.tape) (h3:w'.output=w.output) (h4:w'.heap=w.heap.push o) :
 Stp P r h w (r.upd h.length x0) (h++[B]) w':=by
 obtain ⟨a,b,c⟩:=Stp.new (B:=B) hr hr.free_end hx0 hB h1 h2 h3 h4;have e:hput h h.length B=h++[B]:=by simp [hput]
 rw[e] at a;refine ⟨c,a,b,?_,by simp,fun k hk=>?_⟩
 ·intro b' B' x h5 h6 h7 h8
  by_cases hb:b'=h.length
  ·subst hb;rw[Rho.upd_same] at h7;cases h7;omega
  ·rw[Rho.upd_ne _ _ hb] at h7
   have hlt:=(hr.dom _ _ h7).1;rw[Z0 hlt] at h5;exact ⟨b',B',x,h5,h6,h7,rfl,id⟩
 ·have:=(Z4.1 hk).1
  rw[Z0 this];exact hk
def hcut (grp k:Nat):Blk->Blk
 | .cells true false g d e cs=>if g=grp then .cells true false g d e (cs.take (k-d)) else .cells true false g d e cs
 | B=>B
def hstore (h:AH) (b i:Nat) (vs:List Value):Option AH :=
 match h[b]? with
 | some (.cells true solo grp del e cs) =>
   if i+vs.length<=cs.length && vs.all Value.oneCell' then
    some ((if solo then h else h.map (hcut grp (del+i))).set b (.cells true solo grp del e (cs.take i++vs++cs.drop (i+vs.length))))
   else none
 | _=>none
def Less:Blk->Blk->Prop
 | .cells own solo grp del e cs,B=>∃ n,B = .cells own solo grp del e (cs.take n)
 | A,B=>A=B
theorem hcut_less (grp k:Nat) (B:Blk):Less B (hcut grp k B):=by
 cases B with
 | cells own solo g d e cs =>
   unfold hcut
   split
   ·rename_i g' d' e' cs' heq
    cases heq
    split
    ·exact ⟨_,rfl⟩
    ·exact ⟨cs.length,by simp⟩
   ·exact ⟨cs.length,by simp⟩
 | _=>rfl
theorem Less.refl (B:Blk):Less B B:=by
 cases B with
 | cells own solo g d e cs=>exact ⟨cs.length,by simp⟩
 | _=>rfl
theorem Less.wr {A B:Blk} (h:Less A B):B.wr=A.wr:=by
 cases A with
 | cells=>obtain ⟨n,rfl⟩:=h;rfl
 | _=>cases h;rfl
theorem Less.live {A B:Blk} (h:Less A B):B.live=A.live:=by
 cases A with
 | cells=>obtain ⟨n,rfl⟩:=h;rfl
 | _=>cases h;rfl
theorem Less.ali {A B A' B':Blk} {d d':Nat} (h:Less A B) (h':Less A' B') (k:Ali A d A' d'):Ali B d B' d':=by
 obtain ⟨grp,del,e,cs,del',e',cs',rfl,rfl,hd⟩:=k;obtain ⟨n,rfl⟩:=h;obtain ⟨n',rfl⟩:=h';exact ⟨grp,del,e,_,del',e',_,rfl,rfl,hd⟩
theorem Less.bo {P:Program} {r:Rho} {x:Loc} {A B:Blk} {o:Option Obj} (h:Less A B) (k:BO P r x A o):BO P r x B o:=by
 cases A with
 | cells own solo grp del e cs =>
   obtain ⟨n,rfl⟩:=h;obtain ⟨cur,e',fr,h1,h2,hs,h3,h4⟩:=k;refine ⟨cur,e',fr,h1,h2,hs,by simp;omega,fun i v v' a b=>?_⟩;rw[Z3] at a
   split at a
   ·exact h4 i v v' a b
   ·cases a
 | gone=>cases h;trivial
 | map=>cases h;exact k
theorem VR.one {r:Rho} {v v':Value} (h:VR r v v'):v'.oneCell'=v.oneCell':=by cases h<;>first|rfl|assumption
theorem VL.one {r:Rho} {l l':List Value} (h:VL r l l') (k:l.all Value.oneCell'=true):∀ v∈l',v.oneCell'=true:=by
 intro v' hv;obtain ⟨i,hi⟩:=List.mem_iff_getElem?.1 hv;have hl:i<l.length:=by rw[h.1];exact (Z4.1 hi).1
 rw[(h.2 i l[i] v' (by simp [hl]) hi).one];exact Zb.1 k _ (List.getElem_mem hl)
theorem hstore_ok {P:Program} {r:Rho} {h h':AH} {w:World} (hr:HR P r h w.heap) {b i:Nat} {vs vs':List Value} (hs:hstore h b i vs=some h') (hv:VL r vs vs')
 {x:Loc} (hb:r b=some x):∃ w',(storeCells ⟨x.blk,i+x.off,none⟩ vs').run P w = .ok () w'/\Stp P r h w r h' w':=by
 obtain ⟨g,d,N,S⟩:=x;unfold hstore at hs
 split at hs
 case h_2=>cases hs
 case h_1 solo grp del e cs hB =>
  split at hs
  case isFalse=>cases hs
  case isTrue hc =>
   simp only[Zc,decide_eq_true_eq] at hc;obtain ⟨hlen,hone⟩:=hc;obtain ⟨x,hx,cur,e',fr,ho,he,hS,hsz,hcell⟩:=hr.blk b _ hB rfl;rw[hb] at hx;cases hx;obtain ⟨rfl,rfl,hN,hB0⟩:=he rfl;simp only at ho hsz hcell hN hS ⊢;have hl':=hv.1;refine ⟨_,run_storeCells_at P g (i+d) e' vs' 0 cur w ho (by omega) (hv.one hone),?_⟩;generalize hcur':(cur.toList.take (i+d+0)++vs'++cur.toList.drop (i+d+0+vs'.length)).toArray=cur';have hcurlen:cur.toList.length=cur.size:=by simp
   have hsz':cur'.size=cur.size:=by
    subst hcur';simp only[Nat.add_zero,List.size_toArray,Zj,Z7,List.length_drop,hcurlen];omega
   have hget:∀ j,cur'[j]?=if j<i+d then cur[j]? else if j<i+d+vs'.length then vs'[j-(i+d)]? else cur[j]?:=by
    intro j;subst hcur';simp only[Nat.add_zero,List.getElem?_toArray]
    by_cases h1:j<i+d
    ·rw[if_pos h1,Z8,Z0 (by simp;omega),Z3,if_pos h1];simp
    ·rw[if_neg h1,Z8,Z1 (by simp;omega)]
     have hm:min (i+d) cur.toList.length=i+d:=by omega
     rw[Z7,hm]
     by_cases h2:j<i+d+vs'.length
     ·rw[if_pos h2,Z0 (by omega)]
     ·rw[if_neg h2,Z1 (by omega),Z5]
      simp only[Array.getElem?_toList]
      congr 1;omega
   have hW:(w.setRow g cur').heap[g]?=some (.cells cur' e' (0,0)):=setRow_heap w g cur cur' e' (0,0) ho;have hWo:∀ k,k≠g->(w.setRow g cur').heap[k]?=w.heap[k]?:=fun k hk=>setRow_other w g k cur' hk
   have hent:∀ (c:Nat) (C:Blk),h'[c]?=some C -> ∃ C0,h[c]?=some C0/\(c≠b->Less C0 C/\(solo=false->C=hcut grp (del+i) C0)) /\
    (c=b->C0 = .cells true solo grp del e' cs/\C = .cells true solo grp del e' (cs.take i++vs++cs.drop (i+vs.length))):=by
    intro c C hC;cases hs
    by_cases hcb:b=c
    ·subst hcb
     have hbl:b<h.length:=(Z4.1 hB).1;rw[List.getElem?_set_self (by cases solo<;>simpa using hbl)] at hC;cases hC;exact ⟨_,hB,fun k=>absurd rfl k,fun _=>⟨rfl,rfl⟩⟩
    ·rw[List.getElem?_set_ne hcb] at hC
     cases solo with
     | true=>exact ⟨C,by simpa using hC,fun _=>⟨.refl C,fun k=>(by cases k)⟩,fun k=>absurd k.symm hcb⟩
     | false =>
       simp only[Zk,if_false,List.getElem?_map,Ze] at hC;obtain ⟨C0,h1,rfl⟩:=hC;exact ⟨C0,h1,fun _=>⟨hcut_less _ _ _,fun _=>rfl⟩,fun k=>absurd k.symm hcb⟩
   have hlen':h'.length=h.length:=by cases hs;cases solo<;>simp
   have hwr:∀ (c:Nat) (C C0:Blk),h[c]?=some C0->h'[c]?=some C->C.wr=C0.wr/\C.live=C0.live:=by
    intro c C C0 h0 h1;obtain ⟨C1,e1,e2,e3⟩:=hent c C h1;rw[h0] at e1;cases e1
    by_cases hcb:c=b
    ·obtain ⟨rfl,rfl⟩:=e3 hcb;exact ⟨rfl,rfl⟩
    ·exact ⟨(e2 hcb).1.wr,(e2 hcb).1.live⟩
   have hHR:HR P r h' (w.setRow g cur').heap:=by
    refine ⟨fun c x hcx=>?_,?_,?_,?_,?_⟩
    ·have:=hr.dom c x hcx
     exact ⟨by rw[hlen'];exact this.1,by rw[setRow_size];exact this.2⟩
    ·intro c C hC hl
     obtain ⟨C0,h0,e2,e3⟩:=hent c C hC;have hl0:C0.live=true:=by rw[<- (hwr c C C0 h0 hC).2];exact hl
     obtain ⟨x,hx,hbo⟩:=hr.blk c C0 h0 hl0;refine ⟨x,hx,?_⟩
     by_cases hcb:c=b
     ·obtain ⟨rfl,rfl⟩:=e3 hcb
      subst hcb;rw[hb] at hx;cases hx;refine ⟨cur',e',(0,0),hW,fun _=>⟨rfl,rfl,by rw[hsz'];exact hN,hB0⟩,hS,by simp only[Zj,Z7,List.length_drop];omega,fun j v v' a b'=>?_⟩;have hcslen:min i cs.length=i:=by omega
      dsimp only at b'
      rw[hget] at b'
      by_cases h1:j<i
      ·rw[Z8,Z0 (by simp;omega),Z3,if_pos h1] at a
       rw[if_pos (by omega)] at b';exact hcell j v v' a b'
      ·rw[if_neg (by omega)] at b'
       rw[Z8,Z1 (by simp;omega),Z7,hcslen] at a
       by_cases h2:j<i+vs.length
       ·rw[Z0 (by omega)] at a
        rw[if_pos (by omega)] at b';have:d+j-(i+d)=j-i:=by omega
        rw[this] at b';exact hv.2 _ v v' a b'
       ·rw[Z1 (by omega),Z5] at a
        rw[if_neg (by omega)] at b';have:i+vs.length+(j-i-vs.length)=j:=by omega
        rw[this] at a;exact hcell j v v' a b'
     ·obtain ⟨hless,hcut'⟩:=e2 hcb
      by_cases hg:x.blk=g
      ·have hAli:=hr.sep b c _ C0 ⟨g,d,N,S⟩ x hB h0 (fun k=>hcb k.symm) rfl hl0 hb hx hg.symm
       obtain ⟨grp',dl,e1,cs1,dl',e1',cs1',q1,q2,q3⟩:=hAli;cases q1;obtain ⟨curx,ex,frx,hox,hex,hSx,hszx,hcx⟩:=(q2 ▸ hbo:BO P r x (.cells true false grp dl' e1' cs1') _)
       rw[hg,ho] at hox;cases hox;rw[hcut' rfl,q2];simp only[hcut,if_true];rw[hg,hW];refine ⟨cur',e',(0,0),rfl,fun hh=>⟨(hex hh).1,(hex hh).2.1,by rw[hsz'];exact (hex hh).2.2.1,(hex hh).2.2.2⟩,hSx,by simp only[Z7];omega,fun j v v' a b'=>?_⟩;rw[Z3] at a
       split at a
       ·rename_i hj
        rw[hget,if_pos (by simp only at q3;omega)] at b';exact hcx j v v' a b'
       ·cases a
      ·rw[hWo _ hg];exact hless.bo hbo
    ·intro c c' C C' x x' hC hC' hne hw hl hx hx' heq
     obtain ⟨C0,h0,e2,e3⟩:=hent c C hC;obtain ⟨C0',h0',e2',e3'⟩:=hent c' C' hC';have:=hr.sep c c' C0 C0' x x' h0 h0' hne (by rw[<- (hwr c C C0 h0 hC).1];exact hw) (by rw[<- (hwr c' C' C0' h0' hC').2];exact hl) hx hx' heq
     by_cases hcb:c=b
     ·obtain ⟨rfl,rfl⟩:=e3 hcb
      have hcb':c'≠b:=fun k=>hne (hcb.trans k.symm)
      obtain ⟨grp',dl,e1,cs1,dl',e1',cs1',q1,q2,q3⟩:=this;cases q1;obtain ⟨hless,_⟩:=e2' hcb';subst q2;obtain ⟨n,rfl⟩:=hless;exact ⟨_,_,_,_,_,_,_,rfl,rfl,q3⟩
     ·by_cases hcb':c'=b
      ·obtain ⟨rfl,rfl⟩:=e3' hcb'
       obtain ⟨grp',dl,e1,cs1,dl',e1',cs1',q1,q2,q3⟩:=this;cases q2;obtain ⟨hless,_⟩:=e2 hcb;subst q1;obtain ⟨n,rfl⟩:=hless;exact ⟨_,_,_,_,_,_,_,rfl,rfl,q3⟩
      ·exact (e2 hcb).1.ali (e2' hcb').1 this
    ·intro k cs0 hk
     obtain ⟨cur0,e0,fr0,hc0,hv0⟩:=hr.lay k cs0 hk;exact ⟨cur0,e0,fr0,by rw[hWo k fun e=>hr.nwr k b _ _ (by rw[hk];rfl) hB rfl hb e.symm];exact hc0,hv0⟩
    ·intro k c C x hk hC hw hx
     obtain ⟨C0,h0,_,_⟩:=hent c C hC;exact hr.nwr k c C0 x hk h0 (by rw[<- (hwr c C C0 h0 hC).1];exact hw) hx
   refine ⟨.refl r,hHR,⟨rfl,rfl,rfl,by simp,fun k hk hn=>hWo k fun e=>hn ⟨b,_,_,hB,rfl,hb,e.symm⟩⟩,?_,by omega,?_⟩
   ·intro c C x hC hl hx _
    obtain ⟨C0,h0,_,_⟩:=hent c C hC;exact ⟨c,C0,x,h0,by rw[<- (hwr c C C0 h0 hC).2];exact hl,hx,rfl,fun hh=>by rw[<- (hwr c C C0 h0 hC).1];exact hh⟩
   ·intro c hc
    have hlt:c<h'.length:=by rw[hlen'];exact (Z4.1 hc).1
    have:(h'[c]'hlt).live=Blk.gone.live:=(hwr c _ _ hc (by simp [hlt])).2;have:h'[c]'hlt = .gone:=by cases hh:h'[c]'hlt<;>simp_all [Blk.live]
    rw[List.getElem?_eq_getElem hlt,this]
end Go.Eng

namespace Go.Eng
def ev (env:List Value):Operand->Option Value
 | .tmp t=>env[t]?
 | .const v=>if scal 8 v then some v else none
 | .global g=>some (.pointer (some ⟨g,0,some 0⟩))
 | .func f=>some (.func (.func f) #[] #[])
def ER (r:Rho) (env:List Value) (tmps:Array Value):Prop:=∀ (i:Nat) (v:Value),env[i]?=some v -> ∃ v',tmps[i]?=some v'/\VR r v v'
theorem ER.mono {r r':Rho} (hr:r.le r') {env:List Value} {t:Array Value} (h:ER r env t):ER r' env t:=fun i v a =>
 let ⟨v',b,c⟩:=h i v a;⟨v',b,c.mono hr⟩
theorem ev_ok {r:Rho} {env:List Value} {a:Act} (h:ER r env a.tmps) {x:Operand} {v:Value} (hx:ev env x=some v):VR r v (a.eval x):=by
 cases x with
 | tmp t =>
   obtain ⟨v',h1,h2⟩:=h t v hx
   simpa [Act.eval,h1] using h2
 | const u =>
   simp only[ev] at hx
   split at hx
   ·cases hx;exact scal_refl 8 _ ‹_›
   ·cases hx
 | global g=>cases hx;exact .gptr _ _ _
 | func f=>cases hx;exact VR.func_l (.nil r) (.nil r)
theorem ER.put {r:Rho} {env:List Value} {a:Act} (h:ER r env a.tmps) {v v':Value} (hv:VR r v v') (dst:Option Tmp) :
 ER r (match dst with|some d=>env.set d v|none=>env) (a.put dst v').tmps:=by
 cases dst with
 | none=>exact h
 | some d =>
   intro i x hx;rw[Za] at hx;simp only[Act.put]
   by_cases e:d=i
   ·subst e
    simp only[if_true] at hx
    split at hx
    ·rename_i hl
     cases hx;obtain ⟨u,hu,_⟩:=h d env[d] (by simp [hl]);have:=(Z6.1 hu).1;exact ⟨v',by simp [this],hv⟩
    ·cases hx
   ·rw[if_neg e] at hx
    obtain ⟨u,hu,hv'⟩:=h i x hx;exact ⟨u,by simp [Array.getElem?_setIfInBounds_ne e,hu],hv'⟩
def GR (r:Rho) (g:Operand->Option Value) (a:Act):Prop:=∀ x v,g x=some v->VR r v (a.eval x)
theorem ER.gr {r:Rho} {env:List Value} {a:Act} (h:ER r env a.tmps):GR r (ev env) a:=fun _ _ hx=>ev_ok h hx
def evs (g:Operand->Option Value):List Operand->Option (List Value)
 | []=>some []
 | x::l=>match g x,evs g l with
   | some v,some vs=>some (v::vs)
   | _,_=>none
theorem evs_ok {r:Rho} {g:Operand->Option Value} {a:Act} (h:GR r g a):∀ {l:List Operand} {vs:List Value},evs g l=some vs->VL r vs (l.map a.eval):=by
 intro l
 induction l with
 | nil=>intro vs hv;cases hv;exact .nil r
 | cons x l ih =>
   intro vs hv;simp only[evs] at hv
   split at hv
   ·rename_i v vs' h1 h2
    cases hv;exact .cons (h _ _ h1) (ih h2)
   ·cases hv
abbrev RRes:=Value × Option Blk
def RdOk (P:Program) (r:Rho) (w:World) (m:Nat) (s:Sem Next):RRes->Prop
 | (v,none)=>∃ v' w',s.run P w = .ok (.value v') w'/\Same w w'/\VR r v v'
 | (v,some B)=>∃ v' w' o x,s.run P w = .ok (.value v') w'/\w'.os=w.os/\w'.tape=w.tape/\w'.output=w.output/\w'.heap=w.heap.push o /\
  x.blk=w.heap.size/\BO P (r.upd m x) x B (some o)/\B.alone=true/\B.live=true/\VR (r.upd m x) v v'
def RdV (P:Program) (r:Rho) (w:World) (m:Nat) (s:Sem Value):RRes->Prop
 | (v,none)=>∃ v' w',s.run P w = .ok v' w'/\Same w w'/\VR r v v'
 | (v,some B)=>∃ v' w' o x,s.run P w = .ok v' w'/\w'.os=w.os/\w'.tape=w.tape/\w'.output=w.output/\w'.heap=w.heap.push o /\
  x.blk=w.heap.size/\BO P (r.upd m x) x B (some o)/\B.alone=true/\B.live=true/\VR (r.upd m x) v v'
def nv (s:Sem Value):Sem Next:=do pure (.value (<- s))
theorem RdV.value {P:Program} {r:Rho} {w:World} {m:Nat} {s:Sem Value} {res:RRes} (h:RdV P r w m s res) :
 RdOk P r w m (nv s) res:=by
 unfold nv;obtain ⟨v,_|B⟩:=res
 ·obtain ⟨v',w',h1,h2,h3⟩:=h
  exact ⟨v',w',by simp [h1],h2,h3⟩
 ·obtain ⟨v',w',o,x,h1,hh⟩:=h
  exact ⟨v',w',o,x,by simp [h1],hh⟩
theorem RdV.pure {P:Program} {r:Rho} {w:World} {m:Nat} {v v':Value} (h:VR r v v'):RdV P r w m (Pure.pure v') (v,none):=⟨v',w,rfl,.refl w,h⟩
def isAggT (P:Program) (t:TypeId):Option Bool :=
 match P.underlying t with
 | some (.struct _)=>some true
 | some (.array _ _)=>some true
 | some _=>some false
 | none=>none
theorem run_isAgg {P:Program} {t:TypeId} {b:Bool} (h:isAggT P t=some b) (w:World):(isAgg t).run P w = .ok b w:=by
 unfold isAggT at h;unfold isAgg;rw[Sem.run_bind];cases hu:P.underlying t with
 | none=>simp [hu] at h
 | some d =>
   rw[run_underlying hu];cases d<;>simp_all
theorem run_sizeT {P:Program} {t:TypeId} {n:Nat} (h:sizeT P t=some n) (w:World):(sizeOf t).run P w = .ok n w:=by
 unfold sizeT at h;cases hu:P.info? t with
 | none=>simp [hu] at h
 | some i=>simp [hu] at h;subst h;simp [sizeOf,typeInfo,hu]
def hcell (h:AH) (b:Nat):Option (List Value) :=
 match h[b]? with
 | some (.cells _ _ _ _ _ cs)=>some cs
 | _=>none
theorem hcell_ok {P:Program} {r:Rho} {h:AH} {w:World} (hr:HR P r h w.heap) {b:Nat} {cs:List Value} (hc:hcell h b=some cs) {x:Loc} (hb:r b=some x) :
 ∃ vs:List Value,VL r cs vs /\ ∀ j v',vs[j]?=some v'->w.cell? ⟨x.blk,x.off+j,none⟩=some v':=by
 unfold hcell at hc
 split at hc
 ·rename_i own solo grp del e cs' hB
  cases hc;obtain ⟨x,hx,cur,e',fr,ho,_,_,hsz,hcell⟩:=hr.blk b _ hB rfl;rw[hb] at hx;cases hx;refine ⟨(cur.toList.drop x.off).take cs.length,⟨by simp;omega,fun i v v' a b=>?_⟩,fun j v' hj=>?_⟩
  ·rw[Z3] at b
   split at b
   ·rw[Z5] at b;exact hcell i v v' a (by simpa using b)
   ·cases b
  ·rw[Z3] at hj
   split at hj
   ·rw[Z5] at hj
    simp [World.cell?,ho];simpa using hj
   ·cases hj
 ·cases hc
def rload (P:Program) (h:AH) (t:TypeId):Value->Option RRes
 | .pointer (some ⟨b,o,none⟩) =>
   match hcell h b,isAggT P t with
   | some cs,some true =>
     match sizeT P t with
     | some n=>if o+n<=cs.length then some (.agg ((cs.drop o).take n).toArray,none) else none
     | none=>none
   | some cs,some false=>(cs[o]?).map fun v=>(v,none)
   | _,_=>none
 | .pointer (some ⟨g,o,some _⟩) =>
   match isAggT P t with
   | some false=>((Tab P g).bind fun cs=>cs[o]?).map fun v=>(v,none)
   | _=>none
 | _=>none
theorem tab_cell {P:Program} {r:Rho} {h:AH} {w:World} (hr:HR P r h w.heap) {g o:Nat} {x:Value} (he:((Tab P g).bind fun cs=>cs[o]?)=some x):∃ x',w.cell? ⟨g,o,none⟩=some x'/\VR r x x':=by
 obtain ⟨cs,h1,h2⟩:=Option.bind_eq_some_iff.1 he;obtain ⟨cur,e,fr,h3,h4⟩:=hr.lay g cs h1;obtain ⟨x',h5,h6⟩:=h4.get h2;exact ⟨x',by simp only[World.cell?,h3];simpa using h5,h6.mono fun _ _ h=>by cases h⟩
theorem loadCells_off {P:Program} {w:World} {g o:Nat} {vs:List Value} (h:∀ j v',vs[j]?=some v'->w.cell? ⟨g,o+j,none⟩=some v') :
 (loadCells ⟨g,o,none⟩ vs.length).run P w = .ok vs.toArray w :=
 run_loadCells_list (P:=P) w ⟨g,o,none⟩ vs (fun j v hv=>by rw[Addr.add_lit];exact h j v hv)
theorem rload_ok2 {P:Program} {r:Rho} {h:AH} {w:World} (hr:HR P r h w.heap) {t:TypeId} {v v':Value} (hv:VR r v v') {res:RRes} (he:rload P h t v=some res) :
 res.2=none /\ ∃ x',(Instr.loadAt t v').run P w = .ok x' w/\VR r res.1 x':=by
 unfold rload at he
 split at he
 case h_3=>cases he
 case h_2 g o n =>
  cases hv.gptr_inv
  split at he
  ·rename_i ha
   obtain ⟨x,h1,h2⟩:=Ze.1 he;cases h2;obtain ⟨x',h3,h4⟩:=tab_cell hr h1;exact ⟨rfl,x',by simp [Instr.loadAt,Instr.sureAddr,loadVar,run_isAgg ha,h3],h4⟩
  ·cases he
 case h_1 b o =>
  obtain ⟨⟨g,d,N,S⟩,hb,_,rfl⟩:=hv.ptr_inv
  split at he
  ·rename_i cs hc ha
   obtain ⟨vs,hvl,hcs⟩:=hcell_ok hr hc hb
   split at he
   ·rename_i n hn
    split at he
    ·rename_i hl
     cases he;have hlen:((vs.drop o).take n).length=n:=by have:=hvl.1;simp;omega
     have hl2:=loadCells_off (P:=P) (w:=w) (g:=g) (o:=o+d) (vs:=(vs.drop o).take n) (fun j v' hj=>by
      rw[Z3] at hj
      split at hj
      ·rw[Z5] at hj
       have:=hcs _ _ hj;rw[show o+d+j=d+(o+j) by omega];exact this
      ·cases hj)
     rw[hlen] at hl2;refine ⟨rfl,.agg ((vs.drop o).take n).toArray,by simp [Instr.loadAt,Instr.sureAddr,loadVar,run_isAgg ha,run_sizeT hn,hl2],.agg_l ?_⟩
     simpa using (hvl.drop o).take n
    ·cases he
   ·cases he
  ·rename_i cs hc ha
   obtain ⟨vs,hvl,hcs⟩:=hcell_ok hr hc hb;cases hx:cs[o]? with
   | none=>simp [hx] at he
   | some x =>
     simp [hx] at he;subst he;obtain ⟨x',h1,h2⟩:=hvl.get hx;have h3:=hcs _ _ h1;simp only at h3;rw[Nat.add_comm d o] at h3;exact ⟨rfl,x',by simp [Instr.loadAt,Instr.sureAddr,loadVar,run_isAgg ha,h3],h2⟩
  ·cases he
theorem rload_ok {P:Program} {r:Rho} {h:AH} {w:World} (hr:HR P r h w.heap) {t:TypeId} {v v':Value} (hv:VR r v v') (m:Nat) {res:RRes} (he:rload P h t v=some res) :
 RdV P r w m (Instr.loadAt t v') res:=by
 obtain ⟨u,B⟩:=res;obtain ⟨h1,x',h2,h3⟩:=rload_ok2 hr hv he;cases h1;exact ⟨x',w,h2,.refl w,h3⟩
def rfieldAddr (P:Program) (s:TypeId) (f:Nat):Value->Option RRes
 | .pointer (some ⟨b,o,none⟩) =>
   match P.underlying s with
   | some (.struct fields) =>
     match fields[f]? with
     | some fd =>
       match sizeT P fd.type with
       | some (n+1)=>some (.pointer (some ⟨b,o+fd.offset,none⟩),none)
       | _=>none
     | none=>none
   | _=>none
 | _=>none
theorem rfieldAddr_ok {P:Program} {r:Rho} {w:World} {s:TypeId} {f:Nat} {v v':Value} (hv:VR r v v') (m:Nat) {res:RRes} (he:rfieldAddr P s f v=some res) :
 RdV P r w m (Instr.fieldAt s v' f) res:=by
 unfold rfieldAddr at he
 split at he
 case h_2=>cases he
 case h_1 b o =>
  obtain ⟨⟨g,d,N,S⟩,hb,_,rfl⟩:=hv.ptr_inv
  split at he
  ·rename_i fields hu
   split at he
   ·rename_i fd hf
    split at he
    ·rename_i n hn
     cases he;refine ⟨.pointer (some ⟨g,o+d+fd.offset,none⟩),w,?_,.refl w,?_⟩
     ·simp [Instr.fieldAt,run_underlying hu,hf,Instr.sureAddr,fieldPlace,run_sizeT hn,Addr.add_lit]
     ·have:=VR.ptr (o:=o+fd.offset) hb
      rwa [show o+fd.offset+d=o+d+fd.offset by omega] at this
    ·cases he
   ·cases he
  ·cases he
def rindexAddr (P:Program) (t:TypeId):Value->Value->Option RRes
 | .pointer (some ⟨b,o,none⟩),.int k i =>
   match P.underlying t with
   | some (.array len e) =>
     match sizeT P e with
     | some n=>if 0<=i/\i<len then some (.pointer (some ⟨b,o+i.toNat*n,none⟩),none) else none
     | none=>none
   | _=>none
 | .slice (some ⟨b,o,none⟩) len c,.int k i =>
   match P.underlying t with
   | some (.slice e) =>
     match sizeT P e with
     | some n=>if 0<=i/\i<len then some (.pointer (some ⟨b,o+i.toNat*n,none⟩),none) else none
     | none=>none
   | _=>none
 | .pointer (some ⟨g,o,some m⟩),.int k i =>
   match P.underlying t with
   | some (.array len e) =>
     match sizeT P e with
     | some n=>if 0<=i/\i<len then some (.pointer (some ⟨g,o+i.toNat*n,some m⟩),none) else none
     | none=>none
   | _=>none
 | _,_=>none
theorem rindexAddr_ok {P:Program} {r:Rho} {w:World} {t:TypeId} {v v' i i':Value} (hv:VR r v v') (hi:VR r i i') (m:Nat) {res:RRes} (he:rindexAddr P t v i=some res) :
 RdV P r w m (Instr.indexAt t v' i') res:=by
 unfold rindexAddr at he
 split at he
 case h_1 b o k j =>
  obtain ⟨⟨g,d,N,S⟩,hb,_,rfl⟩:=hv.ptr_inv;cases hi.int_inv
  split at he
  ·rename_i len e hu
   split at he
   ·rename_i n hn
    split at he
    ·rename_i hlt
     cases he;refine ⟨.pointer (some ⟨g,o+d+j.toNat*n,none⟩),w,?_,.refl w,?_⟩
     ·simp [Instr.indexAt,run_underlying hu,asIntOf,Instr.sureAddr,hlt,run_sizeT hn,Addr.add_lit]
     ·have:=VR.ptr (o:=o+j.toNat*n) hb
      rwa [show o+j.toNat*n+d=o+d+j.toNat*n by omega] at this
    ·cases he
   ·cases he
  ·cases he
 case h_2 b o len c k j =>
  cases hi.int_inv
  split at he
  ·rename_i e hu
   split at he
   ·rename_i n hn
    split at he
    ·rename_i hlt
     cases he
     rcases hv.slice_inv with ⟨⟨g,d,N,S⟩,c',hb,_,rfl,hc,hn',hlim⟩|⟨rfl,_,_⟩
     ·refine ⟨.pointer (some ⟨g,o+d+j.toNat*n,none⟩),w,?_,.refl w,?_⟩
      ·simp [Instr.indexAt,run_underlying hu,asIntOf,hlt,run_sizeT hn,Addr.add_lit]
      ·have:=VR.ptr (o:=o+j.toNat*n) hb
       rwa [show o+j.toNat*n+d=o+d+j.toNat*n by omega] at this
     ·omega
    ·cases he
   ·cases he
  ·cases he
 case h_3 g o m k j =>
  cases hv.gptr_inv;cases hi.int_inv
  split at he
  ·rename_i len e hu
   split at he
   ·rename_i n hn
    split at he
    ·rename_i hlt
     cases he;exact ⟨.pointer (some ⟨g,o+j.toNat*n,none⟩),w,by simp [Instr.indexAt,run_underlying hu,asIntOf,Instr.sureAddr,hlt,run_sizeT hn,Addr.add_lit],.refl w,.gptr _ _ _⟩
    ·cases he
   ·cases he
  ·cases he
 case h_4=>cases he
def bnd (dflt:Nat) (most:Nat):Option Value->Option Nat
 | none=>some dflt
 | some (.int _ i)=>if 0<=i/\i<=most then some i.toNat else none
 | _=>none
def helem (h:AH) (b:Nat):Option TypeId :=
 match h[b]? with
 | some (.cells _ _ _ _ e _)=>some e
 | _=>none
theorem helem_ok {P:Program} {r:Rho} {h:AH} {W:Array Obj} (hr:HR P r h W) {b:Nat} {e:TypeId} (he:helem h b=some e) {x:Loc} (hb:r b=some x):sizeT P e=some x.sz:=by
 unfold helem at he
 split at he
 ·rename_i own solo grp del e0 cs hB
  cases he;obtain ⟨y,hy,cur,e',fr,_,_,hs,_⟩:=hr.blk b _ hB rfl;rw[hb] at hy;cases hy;exact hs
 ·cases he
def rslice (P:Program) (h0:AH) (t:TypeId) (x:Value) (lo hi mx:Option Value):Option RRes :=
 match P.underlying t,x with
 | some (.slice e),.slice (some ⟨b,o,none⟩) n c =>
   if helem h0 b=some e then
   match sizeT P e,mx with
   | some sz,none =>
     match bnd n c hi with
     | some h=>match bnd 0 h lo with
       | some l=>some (.slice (some ⟨b,o+l*sz,none⟩) (h-l) (c-l),none)
       | none=>none
     | none=>none
   | some sz,some mxv =>
     match bnd 0 c (some mxv) with
     | some k=>match hi with
       | none=>none
       | some hv=>match bnd 0 k (some hv) with
         | some h=>match bnd 0 h lo with
           | some l=>some (.slice (some ⟨b,o+l*sz,none⟩) (h-l) (k-l),none)
           | none=>none
         | none=>none
     | none=>none
   | _,_=>none
   else none
 | some (.slice e),.slice none 0 0 =>
   match sizeT P e,mx,bnd 0 0 hi,bnd 0 0 lo with
   | some _,none,some _,some _=>some (.slice none 0 0,none)
   | _,_,_,_=>none
 | _,_=>none
def VO (r:Rho):Option Value->Option Value->Prop
 | none,none=>True
 | some v,some v'=>VR r v v'
 | _,_=>False
theorem run_bnd {P:Program} {w:World} {k:IntKind} {i:Int} {y:Nat} (h:0<=i/\i<=y) (code:BoundsCode):(Instr.sliceBound (.int k i) y code).run P w = .ok i.toNat w:=by
 simp [Instr.sliceBound,asIntOf,h]
theorem bnd_some {dflt most n:Nat} {v:Value} (h:bnd dflt most (some v)=some n):∃ k i,v = .int k i/\0<=i/\i<=most/\n=i.toNat:=by
 unfold bnd at h
 split at h
 ·cases ‹_=none›
 ·rename_i k i e
  cases e
  split at h
  ·cases h;exact ⟨k,i,rfl,‹_/\_›.1,‹_/\_›.2,rfl⟩
  ·cases h
 ·cases h
theorem bnd_same {r:Rho} {y y':Option Value} {dflt most n:Nat} (h:VO r y y') (hb:bnd dflt most y=some n):y'=y:=by
 cases y with
 | none=>cases y' with
   | none=>rfl
   | some=>exact h.elim
 | some v =>
   cases y' with
   | none=>exact h.elim
   | some v' =>
     obtain ⟨k,i,rfl,_⟩:=bnd_some hb;cases (show VR r (.int k i) v' from h).int_inv
     rfl
theorem bnd_le {dflt most n:Nat} {y:Option Value} (hd:dflt<=most) (hb:bnd dflt most y=some n):n<=most:=by
 cases y with
 | none=>cases hb;exact hd
 | some v=>obtain ⟨k,i,rfl,h0,h1,rfl⟩:=bnd_some hb;omega
theorem run_bounds {P:Program} {w:World} {n c c' l h:Nat} {lo hi:Option Value} (hc:c<=c') (hn:n<=c) (hh:bnd n c hi=some h) (hl:bnd 0 h lo=some l) :
 (Instr.sliceBounds true n c' lo hi none).run P w = .ok (l,h,c') w:=by
 cases hi with
 | none =>
   cases hh;cases lo with
   | none=>cases hl;simp [Instr.sliceBounds]
   | some v =>
     obtain ⟨k,i,rfl,h0,h1,rfl⟩:=bnd_some hl;simp [Instr.sliceBounds,run_bnd (P:=P) (w:=w) (k:=k) ⟨h0,h1⟩]
 | some u =>
   obtain ⟨k,i,rfl,h0,h1,rfl⟩:=bnd_some hh;have e1:=run_bnd (P:=P) (w:=w) (k:=k) (y:=c') (i:=i) ⟨h0,by omega⟩;cases lo with
   | none=>cases hl;simp [Instr.sliceBounds,e1]
   | some v =>
     obtain ⟨k',i',rfl,h0',h1',rfl⟩:=bnd_some hl;have e2:=run_bnd (P:=P) (w:=w) (k:=k') (y:=i.toNat) (i:=i') ⟨h0',h1'⟩;simp only[Instr.sliceBounds,Sem.run_bind,Sem.run_pure,Result.andThen_ok,Option.isSome_none,if_true,Zk,if_false,e1,e2]
theorem run_bounds3 {P:Program} {w:World} {n c c' l h k:Nat} {lo:Option Value} {hi mx:Value} (hc:c<=c') (hk:bnd 0 c (some mx)=some k) (hh:bnd 0 k (some hi)=some h) (hl:bnd 0 h lo=some l) :
 (Instr.sliceBounds true n c' lo (some hi) (some mx)).run P w = .ok (l,h,k) w:=by
 obtain ⟨k1,i1,rfl,p0,p1,rfl⟩:=bnd_some hk;obtain ⟨k2,i2,rfl,q0,q1,rfl⟩:=bnd_some hh;have e1:=run_bnd (P:=P) (w:=w) (k:=k1) (y:=c') (i:=i1) ⟨p0,by omega⟩;have e2:=run_bnd (P:=P) (w:=w) (k:=k2) (y:=i1.toNat) (i:=i2) ⟨q0,q1⟩;cases lo with
 | none=>cases hl;simp only[Instr.sliceBounds,Sem.run_bind,Sem.run_pure,Result.andThen_ok,if_true,e1,e2]
 | some v =>
   obtain ⟨k',i',rfl,h0',h1',rfl⟩:=bnd_some hl;have e3:=run_bnd (P:=P) (w:=w) (k:=k') (y:=i2.toNat) (i:=i') ⟨h0',h1'⟩;simp only[Instr.sliceBounds,Sem.run_bind,Sem.run_pure,Result.andThen_ok,Option.isSome_some,if_true,e1,e2,e3]
theorem run_slice_some {P:Program} {w:World} {t e:TypeId} {g o n c l h k sz:Nat} {lo hi mx:Option Value} (hu:P.underlying t=some (.slice e)) (hs:sizeT P e=some sz)
 (hb:(Instr.sliceBounds true n c lo hi mx).run P w = .ok (l,h,k) w) :
 (Instr.sliceAt t (.slice (some ⟨g,o,none⟩) n c) lo hi mx).run P w = .ok (.slice (if k=l then some ⟨g,o,none⟩ else some ⟨g,o+l*sz,none⟩) (h-l) (k-l)) w:=by
 simp [Instr.sliceAt,Instr.slice,run_underlying hu,hb,run_sizeT hs,Addr.add_lit]
theorem run_slice_any {P:Program} {w:World} {t e:TypeId} {n c sz:Nat} {a:Option Addr} {lo hi mx:Option Value} (hu:P.underlying t=some (.slice e)) (hs:sizeT P e=some sz)
 (hb:(Instr.sliceBounds true n c lo hi mx).run P w = .ok (0,0,0) w) :
 (Instr.sliceAt t (.slice a n c) lo hi mx).run P w = .ok (.slice a 0 0) w:=by
 simp [Instr.sliceAt,Instr.slice,run_underlying hu,hb,run_sizeT hs]
theorem rslice_ok {P:Program} {r:Rho} {h0:AH} {w:World} (hr:HR P r h0 w.heap) {t:TypeId} {x x':Value} {lo hi mx lo' hi' mx':Option Value} (hx:VR r x x') (hlo:VO r lo lo') (hhi:VO r hi hi') (hmx:VO r mx mx')
 (m:Nat) {res:RRes} (he:rslice P h0 t x lo hi mx=some res):RdV P r w m (Instr.sliceAt t x' lo' hi' mx') res:=by
 unfold rslice at he
 split at he
 case h_1 e b o n c hu =>
  split at he
  case isFalse=>cases he
  case isTrue helm =>
  split at he
  case h_1 sz hsz =>
   cases mx' with
   | some=>exact hmx.elim
   | none =>
   split at he
   case h_2=>cases he
   case h_1 h hh =>
    split at he
    case h_2=>cases he
    case h_1 l hl =>
     cases he;cases bnd_same hhi hh;cases bnd_same hlo hl
     rcases hx.slice_inv with ⟨⟨g,d,N,S⟩,c',hb,_,rfl,hc,hn',hlim⟩|⟨rfl,rfl,a',rfl⟩
     ·have hS:S=sz:=by have:=helem_ok hr helm hb;rw[hsz] at this;cases this;rfl
      subst hS;have hle:=bnd_le (Zf h) hl;have hle2:=bnd_le hn' hh;refine ⟨_,w,run_slice_some hu hsz (run_bounds hc hn' hh hl),.refl w,?_⟩;simp only
      split
      ·rename_i e;subst e
       rw[show h-c'=0 by omega,show c-c'=0 by omega];exact .sempty rfl (by omega)
      ·have hmul:l*S+(c'-l)*S=c'*S:=by rw[<- Nat.add_mul];congr 1;omega
       have:=VR.slice (o:=o+l*S) (n:=h-l) (c:=c-l) (c':=c'-l) hb (by omega) (by omega) (by simp only at hlim ⊢;omega);simp only at this
       rwa [show o+l*S+d=o+d+l*S by omega] at this
     ·have h0:h=0:=Z9.1 (bnd_le (Z2 0) hh)
      subst h0;have l0:l=0:=Z9.1 (bnd_le (Z2 0) hl);subst l0;exact ⟨_,w,run_slice_any hu hsz (run_bounds (Z2 0) (Z2 0) hh hl),.refl w,.sempty rfl rfl⟩
  case h_2 sz mxv hsz =>
   cases mx' with
   | none=>exact hmx.elim
   | some mxv' =>
   split at he
   case h_2=>cases he
   case h_1 k hk =>
    split at he
    case h_1=>cases he
    case h_2 hv =>
     split at he
     case h_2=>cases he
     case h_1 h hh =>
      split at he
      case h_2=>cases he
      case h_1 l hl =>
       cases he;cases bnd_same hhi hh;cases bnd_same hlo hl;cases bnd_same hmx hk;have hle:=bnd_le (Zf h) hl;have hle2:=bnd_le (Zf k) hh
       rcases hx.slice_inv with ⟨⟨g,d,N,S⟩,c',hb,_,rfl,hc,hn',hlim⟩|⟨rfl,rfl,a',rfl⟩
       ·have hS:S=sz:=by have:=helem_ok hr helm hb;rw[hsz] at this;cases this;rfl
        subst hS;have hkc:=bnd_le (Zf c) hk;refine ⟨_,w,run_slice_some hu hsz (run_bounds3 hc hk hh hl),.refl w,?_⟩;simp only
        split
        ·rename_i e
         rw[show h-l=0 by omega,show k-l=0 by omega];exact .sempty rfl rfl
        ·have hmul:l*S+(k-l)*S=k*S:=by rw[<- Nat.add_mul];congr 1;omega
         have hmul2:k*S<=c'*S:=Nat.mul_le_mul_right _ (by omega);have:=VR.slice (o:=o+l*S) (n:=h-l) (c:=k-l) (c':=k-l) hb (by omega) (by omega) (by simp only at hlim ⊢;omega);simp only at this
         rwa [show o+l*S+d=o+d+l*S by omega] at this
       ·have k0:k=0:=Z9.1 (bnd_le (Z2 0) hk)
        subst k0;have h0:h=0:=by omega
        subst h0;have l0:l=0:=by omega
        subst l0;exact ⟨_,w,run_slice_any hu hsz (run_bounds3 (Z2 0) hk hh hl),.refl w,.sempty rfl rfl⟩
  case h_3=>cases he
 case h_2 e hu =>
  obtain ⟨_,_,rfl⟩:=hx.snil_inv
  split at he
  case h_2=>cases he
  case h_1 sz a1 a2 hsz hh hl =>
   cases he;cases mx' with
   | some=>exact hmx.elim
   | none =>
   cases bnd_same hhi hh;cases bnd_same hlo hl;have h0:a1=0:=Z9.1 (bnd_le (Z2 0) hh);subst h0;have l0:a2=0:=Z9.1 (bnd_le (Z2 0) hl);subst l0;exact ⟨_,w,run_slice_any hu hsz (run_bounds (Z2 0) (Z2 0) hh hl),.refl w,.snil⟩
 case h_3=>cases he
end Go.Eng
