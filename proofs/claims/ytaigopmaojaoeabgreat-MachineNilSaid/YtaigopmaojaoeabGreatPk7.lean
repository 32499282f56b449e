import Derived.Test.YtaigopmaojaoeabGreatPk6
import GoSem.ClaimChange
import Derived.Carry
import Derived.OpenShut
import Derived.Sort.Grow
import Derived.Deep.Draws
import Derived.Lib.LaidTab
import Derived.Lib.ItoaNum
import Derived.Lib.IndexMore
import Derived.RangeFuncIn
import Derived.RangeFuncLeaves
import Derived.RangeFuncRecord
import Derived.RangeFuncCalls
import Derived.LoopNIn
import Derived.TacticsIn
import Derived.Scope
import Derived.OrdersIn
set_option linter.unusedVariables false
set_option linter.unusedSimpArgs false
namespace Go.Eng
inductive RX where
  | n (i : Nat)
  | t (i : Nat)
  | c (v : Value)
  | f (id : FuncId)
  | g (i : Nat)
  | m (named : Bool) (i : Nat) (tb : List (TypeId × FuncId))
inductive U where
  | mv
  | ld
  | ldn (n : Nat)
  | fa (off : Nat)
  | fd (off : Nat)
  | fdn (off n : Nat)
  | ex (i : Nat)
  | nk
  | nt
  | ng
  | cv (k : IntKind)
  | lenS
  | lenL
  | ifc (t : TypeId)
  | bx (e : TypeId)
  | b2s
  | s2b (e : TypeId)
  | up
  | pu (u : TypeId) (n : Nat)
  | sd
  | asn (t : TypeId) (ok : Bool) (z : Value)
inductive B where
  | ar (op : BinOp)
  | eb (neg : Bool)
  | es (neg : Bool) (ks : List Nat)
  | er (neg : Bool) (k : Nat)
  | ei (neg : Bool) (k : Nat)
  | ia (sz : Nat)
  | aa (len sz : Nat)
  | ixs
  | lk (kt : TypeId) (z : Value) (ok : Bool)
def ldc (h : AH) (b o : Nat) : Option Value := (hcell h b).bind fun cs => cs[o]?
def uval (P : Program) (h : AH) (m : Nat) : U -> Value -> Option RRes
  | .mv, v => some (v, none)
  | .ld, .pointer (some ⟨b, o, none⟩) => (ldc h b o).map fun v => (v, none)
  | .ld, .pointer (some ⟨g, o, some _⟩) => ((Tab P g).bind fun cs => cs[o]?).map fun v => (v, none)
  | .ldn n, .pointer (some ⟨b, o, none⟩) => (hcell h b).bind fun cs => if o + n <= cs.length then some (.agg ((cs.drop o).take n).toArray, none) else none
  | .fa off, .pointer (some ⟨b, o, none⟩) => some (.pointer (some ⟨b, o + off, none⟩), none)
  | .fd off, .agg cs => (cs.toList[off]?).map fun v => (v, none)
  | .fdn off n, .agg cs => some (.agg ((cs.toList.drop off).take n).toArray, none)
  | .ex i, .tuple vs => (vs.toList[i]?).map fun v => (v, none)
  | .nk, .pointer (some a) => some (.pointer (some a), none)
  | .nk, .func (.func f) a b => some (.func (.func f) a b, none)
  | .nk, .func (.method nm) a b => match a.toList with
    | .iface t _ :: _ => if (methF P t nm).isSome then some (.func (.method nm) a b, none) else none
    | _ => none
  | .nt, .bool b => some (.bool !b, none)
  | .ng, .int k a => some (.int k (k.wrap (0 - a)), none)
  | .cv k, .int _ a => some (.int k (k.wrap a), none)
  | .lenS, .string s => some (.int .i64 s.size, none)
  | .lenL, .slice _ n _ => some (.int .i64 n, none)
  | .ifc t, v => some (.iface t v, none)
  | .bx e, v => some (.pointer (some ⟨m, 0, none⟩), some (row e m v.cells.toList))
  | .b2s, .slice (some ⟨b, o, none⟩) n c =>
    if n = 0 then some (.string ByteArray.empty, none) else
    (hcell h b).bind fun cs => if o + n <= cs.length then (asBytes ((cs.drop o).take n)).map fun ns => (.string (pushAll ns), none) else none
  | .b2s, .slice none 0 0 => some (.string ByteArray.empty, none)
  | .s2b e, .string s => some (.slice (some ⟨m, 0, none⟩) s.size s.size, some (.cells false true m 0 e (s.data.toList.map fun b => Value.int .u8 b.toNat)))
  | .up, .pointer none => some (.pointer none, none)
  | .up, .pointer (some ⟨b, o, none⟩) => (hcell h b).bind fun cs => if o < cs.length then some (.pointer (some ⟨b, o, none⟩), none) else none
  | .pu _ _, .pointer none => some (.pointer none, none)
  | .pu u n, .pointer (some ⟨b, o, none⟩) => match h[b]? with
    | some (.cells true _ _ _ e cs) => if o = 0 /\ e = u /\ n <= cs.length then some (.pointer (some ⟨b, o, none⟩), none) else none
    | _ => none
  | .sd, .slice none 0 0 => some (.pointer none, none)
  | .sd, .slice (some ⟨b, o, none⟩) _ c => if c = 0 then none else some (.pointer (some ⟨b, o, none⟩), none)
  | .asn t ok z, .iface t' v => if t' = t then some (if ok then .tuple #[v, .bool true] else v, none) else if ok then some (.tuple #[z, .bool false], none) else none
  | .asn t ok z, .nilIface => if ok then some (.tuple #[z, .bool false], none) else none
  | _, _ => none
end Go.Eng

namespace Go.Eng
abbrev PE := List (Nat × Value)
def look : PE -> Nat -> Option Value
  | [], _ => none
  | (t, v) :: e, k => if t = k then some v else look e k
def upd : PE -> Nat -> Value -> PE
  | [], k, v => [(k, v)]
  | (t, u) :: e, k, v => if t = k then (k, v) :: e else (t, u) :: upd e k v
def mtab (P : Program) (name : String) : List (TypeId × FuncId) := (List.range P.types.size).filterMap fun t => (methF P t name).map fun g => (t, g)
def mlk : List (TypeId × FuncId) -> TypeId -> Option FuncId
  | [], _ => none
  | (a, g) :: tb, t => if a = t then some g else mlk tb t
def mfv (tb : List (TypeId × FuncId)) : Value -> Option Value
  | .iface t v => (mlk tb t).map fun g => .func (.func g) #[v] #[]
  | _ => none
def rx (e l : PE) : RX -> Option Value
  | .n i => look e i
  | .t i => look l i
  | .c v => some v
  | .f id => some (.func (.func id) #[] #[])
  | .g i => some (.pointer (some ⟨i, 0, some 0⟩))
  | .m nmd i tb => (if nmd then look e i else look l i).bind (mfv tb)
def resX (nm : List Nat) : Operand -> Option RX
  | .tmp t => some (if nm.contains t then .n t else .t t)
  | .const v => if scal 8 v then some (.c v) else none
  | .func f => some (.f f)
  | .global g => some (.g g)
def resXs (nm : List Nat) : List Operand -> Option (List RX)
  | [] => some []
  | x :: xs => (resX nm x).bind fun v => (resXs nm xs).map fun vs => v :: vs
inductive RK where
  | u (f : U) (x : RX)
  | b (f : B) (x y : RX)
  | pk (c a b : RX)
  | bld (z : List Value) (parts : List (Nat × Nat × RX))
  | bsl (e : TypeId) (n : Nat) (z : List Value) (parts : List (Nat × Nat × RX))
  | mkf (fn : Fn) (first cap : List RX)
  | al (e : TypeId) (z : List Value)
  | mm
  | msl (e : TypeId) (z : List Value) (bytes : Nat) (l c : RX)
  | sls (x : RX) (lo hi : Option RX)
  | sll (e : TypeId) (sz : Nat) (x : RX) (lo hi : Option RX)
  | st (n : Nat) (a x : RX)
  | app (str : Bool) (e : TypeId) (sz bytes : Nat) (z : List Value) (s x : RX)
  | clr (e : TypeId) (z : List Value) (x : RX)
  | cpy (sz : Nat) (str : Bool) (d s : RX)
  | ust (e : TypeId) (p l : RX)
  | mup (t : TypeId) (m k x : RX)
  | call (f : RX) (args : List RX)
  | dfr (f : RX) (args : List RX)
  | pan (x : RX)
  | raw (o : Oper)
inductive D where
  | z
  | n (i : Nat)
  | t (i : Nat)
structure RO where
  d : D
  g : Option (RX × Bool)
  k : RK
structure DO where
  o : RO
  i : Nat
  w : Bool
  chk : List Nat
  old : List Nat
inductive RC where
  | skip
  | rg (l : List RO)
  | dr (need : List RX) (np : Bool) (l : List DO)
  | sq (a b : RC)
  | ite (x : RX) (a b : RC)
  | blk (id : Nat) (b : RC)
  | loop (b : RC)
  | exit (id : Nat)
  | ret
  | bad
def hK (x : Option AH) (K : Value -> AH -> Prop) : Prop := match x with
  | some h' => K undef h'
  | none => False
inductive RP (K : Value -> AH -> Prop) (Kp : Value -> AH -> Prop) : Res -> AH -> Prop where
  | ret {v : Value} {h' : AH} (k : K v h') : RP K Kp (.ret v) h'
  | pan {v : Value} {h' : AH} (k : Kp v h') : RP K Kp (.pan v) h'
def ob (e l : PE) : Option RX -> Option (Option Value)
  | none => some none
  | some x => (rx e l x).map some
end Go.Eng

namespace Go.Eng
def resParts (nm : List Nat) (place : Nat -> Option (Nat × Nat)) : List (Nat × Operand) -> Option (List (Nat × Nat × RX))
  | [] => some []
  | (i, x) :: xs => match place i, resX nm x, resParts nm place xs with
    | some (off, n), some y, some ys => some ((off, n, y) :: ys)
    | _, _, _ => none
def flatK (P : Program) (f : Field) (i : Nat) : Option Nat :=
  if f.name != "_" && f.offset == i then match P.underlying f.type with
    | some (.int _) => some 0
    | some .bool => some 1
    | some .string => some 2
    | _ => none
  else none
def flatKs (P : Program) : List Field -> Nat -> Option (List Nat)
  | [], _ => some []
  | f :: fs, i => match flatK P f i, flatKs P fs (i + 1) with
    | some k, some ks => some (k :: ks)
    | _, _ => none
def refK (P : Program) : TypeDesc -> Option Nat
  | .pointer e => match sizeT P e with
    | some (_ + 1) => some 0
    | _ => none
  | .slice _ => some 1
  | .map _ _ => some 2
  | .func _ _ _ => some 3
  | .interface ms => if ms.isEmpty then some 5 else some 4
  | _ => none
def negOf : BinOp -> Option Bool
  | .eql => some false
  | .neq => some true
  | _ => none
def resO (nm : List Nat) : Option Operand -> Option (Option RX)
  | none => some none
  | some x => (resX nm x).map some
def res1 (nm : List Nat) (f : U) (x : Operand) : Option RK := (resX nm x).map (.u f)
def res2 (nm : List Nat) (f : B) (x y : Operand) : Option RK := match resX nm x, resX nm y with
  | some a, some b => some (.b f a b)
  | _, _ => none
def isC : Operand -> Bool
  | .const _ => true
  | _ => false
def resCall (P : Program) (nm : List Nat) (o : Oper) (c : Call) : Option RK :=
  match c.callee, c.args.toList, c.argTypes.toList with
  | .value f, args, _ => match resX nm f, resXs nm args with
    | some f, some ags => some (.call f ags)
    | _, _ => none
  | .builtin .len, [x], [t] => match P.underlying t with
    | some .string => res1 nm .lenS x
    | some (.slice _) => res1 nm .lenL x
    | _ => some (.raw o)
  | .builtin .append, [s, x], [t, tx] => match P.underlying t, P.underlying tx with
    | some (.slice e), some d => match P.info? e, resX nm s, resX nm x with
      | some i, some s, some x => match i.zero with
        | some z => if z.cells.size = i.size /\ bldT P e = false then match d with
            | .slice _ => some (.app false e i.size i.bytes z.cells.toList s x)
            | .string => if i.size = 1 then some (.app true e i.size i.bytes z.cells.toList s x) else none
            | _ => none
          else none
        | none => none
      | _, _, _ => none
    | _, _ => none
  | .builtin .clear, [x], [t] => match P.underlying t, resX nm x with
    | some (.slice e), some x => match zeroT P e with
      | some z => if z.cells.toList.all (scal 8) && decide (0 < z.cells.size) then some (.clr e z.cells.toList x) else none
      | none => none
    | _, _ => none
  | .builtin .copy, [d, s], [t, tx] => match P.underlying t, P.underlying tx, resX nm d, resX nm s with
    | some (.slice e), some k, some d, some s => match sizeT P e, k with
      | some sz, .slice _ => some (.cpy sz false d s)
      | some 1, .string => some (.cpy 1 true d s)
      | _, _ => none
    | _, _, _, _ => none
  | .builtin .unsafeSliceData, [x], _ => res1 nm .sd x
  | .builtin .unsafeString, [p, l], [t, _] => match P.underlying t, resX nm p, resX nm l with
    | some (.pointer e), some p, some l => if P.cellsOf e = 1 then some (.ust e p l) else none
    | _, _, _ => none
  | .invoke (.tmp t) name, args, _ => (resXs nm args).map fun ags => .call (.m (nm.contains t) t (mtab P name)) ags
  | _, _, _ => some (.raw o)
def resK (P : Program) (nm : List Nat) (o : Oper) : Option RK :=
  match o.op with
  | .move x => res1 nm .mv x
  | .assign x => res1 nm .mv x
  | .pick c a b => match resX nm c, resX nm a, resX nm b with
    | some c, some a, some b => some (.pk c a b)
    | _, _, _ => none
  | .alloc t => match zeroT P t, sizeT P t with
    | some z, some _ => some (.al t z.cells.toList)
    | _, _ => none
  | .box t x => (sizeT P t).bind fun _ => res1 nm (.bx t) x
  | .build t parts => match zeroT P t, P.underlying t with
    | some z, some (.struct fields) => (places P fields.toList).bind fun pl => (resParts nm (fun i => pl[i]?) parts.toList).map fun ps => .bld z.cells.toList ps
    | some z, some (.array _ e) => (sizeT P e).bind fun n => (resParts nm (fun i => some (i * n, n)) parts.toList).map fun ps => .bld z.cells.toList ps
    | _, _ => none
  | .buildSlice t len parts => match P.underlying t with
    | some (.slice e) => match sizeT P e, zeroT P e with
      | some sz, some z =>
        if len * sz <= 16777216 then
          let cs0 := (Array.range (len * sz)).map (z.cells[· % z.cells.size]!)
          if cs0.toList.all (scal 8) then (resParts nm (fun i => some (i * sz, sz)) parts.toList).map fun ps => .bsl e len cs0.toList ps else none
        else none
      | _, _ => none
    | _ => none
  | .load t x => match isAggT P t with
    | some true => (sizeT P t).bind fun n => res1 nm (.ldn n) x
    | some false => res1 nm .ld x
    | none => none
  | .nilCheck x => res1 nm .nk x
  | .binOp op t x y _ => match P.underlying t with
    | some (.int _) => res2 nm (.ar op) x y
    | some .string => res2 nm (.ar op) x y
    | some .bool => (negOf op).bind fun n => res2 nm (.eb n) x y
    | some (.struct fields) => match flatKs P fields.toList 0 with
      | some ks => if !P.stoodInHeld t && !P.eqGuardType P.depth t then (negOf op).bind fun n => res2 nm (.es n ks) x y else some (.raw o)
      | none => some (.raw o)
    | some d => match refK P d with
      | some k => (negOf op).bind fun n => res2 nm (if 3 < k then .ei n (if isC x || isC y then 6 else k) else .er n k) x y
      | none => some (.raw o)
    | none => none
  | .unOp .not _ x => res1 nm .nt x
  | .unOp .neg _ x => res1 nm .ng x
  | .convert src dst x => match P.underlying src, P.underlying dst with
    | some (.int _), some (.int k) => res1 nm (.cv k) x
    | some .string, some .string => some (.raw o)
    | some (.slice e), some .string => match P.underlying e with
      | some (.int .u8) => res1 nm .b2s x
      | _ => none
    | some .string, some (.slice e) => match P.underlying e, sizeT P e with
      | some (.int .u8), some 1 => res1 nm (.s2b e) x
      | _, _ => none
    | some (.pointer t), some .unsafePointer => match sizeT P t with
      | some (_ + 1) => res1 nm .up x
      | _ => none
    | some .unsafePointer, some (.pointer u) => match sizeT P u with
      | some (n + 1) => if bldT P u = true then res1 nm (.pu u (n + 1)) x else none
      | _ => none
    | _, _ => some (.raw o)
  | .makeInterface t x => match P.underlying t with
    | some (.interface _) => none
    | some _ => res1 nm (.ifc t) x
    | none => none
  | .makeFunc fn first cap => match resXs nm first.toList, resXs nm cap.toList with
    | some f, some c => some (.mkf fn f c)
    | _, _ => none
  | .makeMap _ none => some .mm
  | .makeSlice t l c => match P.underlying t with
    | some (.slice e) => match P.info? e, zeroT P e, resX nm l, resX nm c with
      | some i, some z, some l, some c => if z.cells.size = i.size && z.cells.toList.all (scal 8) then some (.msl e z.cells.toList i.bytes l c) else none
      | _, _, _, _ => none
    | _ => none
  | .slice t x lo hi none => match P.underlying t, resX nm x, resO nm lo, resO nm hi with
    | some .string, some x, some lo, some hi => some (.sls x lo hi)
    | some (.slice e), some x, some lo, some hi => (sizeT P e).map fun sz => .sll e sz x lo hi
    | _, _, _, _ => some (.raw o)
  | .fieldAddr s x f => match P.underlying s with
    | some (.struct fields) => match fields[f]? with
      | some fd => match sizeT P fd.type with
        | some (_ + 1) => res1 nm (.fa fd.offset) x
        | _ => none
      | none => none
    | _ => none
  | .field t x f => match P.underlying t with
    | some (.struct fields) => match fields[f]? with
      | some fd => match isAggT P fd.type with
        | some true => (sizeT P fd.type).bind fun n => res1 nm (.fdn fd.offset n) x
        | some false => res1 nm (.fd fd.offset) x
        | none => none
      | none => none
    | _ => none
  | .indexAddr t x i => match P.underlying t with
    | some (.slice e) => (sizeT P e).bind fun n => res2 nm (.ia n) x i
    | some (.array len e) => (sizeT P e).bind fun n => res2 nm (.aa len n) x i
    | _ => none
  | .index t x i => match P.underlying t with
    | some .string => res2 nm .ixs x i
    | _ => some (.raw o)
  | .lookup t x k ok => match P.underlying t with
    | some (.map kt e) => (zeroT P e).bind fun z => res2 nm (.lk kt z ok) x k
    | _ => none
  | .typeAssert x _ t ok => match P.underlying t with
    | some (.interface _) => some (.raw o)
    | some _ => if ok then (zeroT P t).bind fun z => res1 nm (.asn t ok z) x else res1 nm (.asn t ok undef) x
    | none => none
  | .extract x i => res1 nm (.ex i) x
  | .store t a x => match sizeT P t, resX nm a, resX nm x with
    | some n, some a, some x => some (.st n a x)
    | _, _, _ => none
  | .mapUpdate t m k x => match resX nm m, resX nm k, resX nm x with
    | some m, some k, some x => some (.mup t m k x)
    | _, _, _ => none
  | .call c => resCall P nm o c
  | .defer c => match c.callee with
    | .value f => match resX nm f, resXs nm c.args.toList with
      | some f, some ags => some (.dfr f ags)
      | _, _ => none
    | _ => none
  | .panic x => (resX nm x).map .pan
  | _ => some (.raw o)
end Go.Eng

namespace Go.Eng
def RR (res : RRes) (h : AH) (K : Value -> AH -> Prop) : Prop := match res with
  | (v, none) => K v h
  | (v, some B) => K v (h ++ [B])
inductive OpS (P : Program) (keep : Bool) (g : Operand -> Option Value) (h : AH) (o : Oper) (K : Value -> AH -> Prop) (Kp : Value -> AH -> Prop) : Prop where
  | rd (res : RRes) (h1 : aread P g h h.length o = some res) (k : RR res h K)
  | wr (v : Value) (h' : AH) (h0 : aread P g h h.length o = none) (h1 : awrite P keep g h o = some (v, h')) (k : K v h')
  | call (c : Call) (fo : Operand) (f : FuncId) (first cap : Array Value) (args : List Value) (res : Res) (h' : AH) (h0 : aread P g h h.length o = none) (h9 : awrite P keep g h o = none)
      (h1 : o.op = .call c) (h2 : c.callee = .value fo) (h3 : g fo = some (.func (.func f) first cap)) (h4 : evs g c.args.toList = some args)
      (h5 : Holds P f (first.toList ++ args ++ cap.toList) h res h') (h6 : h.length <= h'.length) (k : RP K Kp res h')
  | inv (c : Call) (x : Operand) (name : String) (t : TypeId) (v : Value) (f : FuncId) (args : List Value) (res : Res) (h' : AH) (h0 : aread P g h h.length o = none) (h9 : awrite P keep g h o = none)
      (h1 : o.op = .call c) (h2 : c.callee = .invoke x name) (h3 : g x = some (.iface t v)) (hm : methF P t name = some f) (h4 : evs g c.args.toList = some args)
      (h5 : Holds P f (v :: args) h res h') (h6 : h.length <= h'.length) (k : RP K Kp res h')
  | pan (x : Operand) (t : TypeId) (v : Value) (h0 : aread P g h h.length o = none) (h9 : awrite P keep g h o = none) (h1 : o.op = .panic x) (h2 : g x = some (.iface t v)) (k : Kp (.iface t v) h)
section
variable {P : Program} {keep : Bool} {nm : List Nat} {e l : PE} {h : AH} {K : Value -> AH -> Prop} {Kp : Value -> AH -> Prop}
inductive CE : Nat -> Value -> Value -> Bool -> Prop where
  | int (k : IntKind) (x y : Int) : CE 0 (.int k x) (.int k y) (x == y)
  | bool (x y : Bool) : CE 1 (.bool x) (.bool y) (x == y)
  | str (x y : ByteArray) : CE 2 (.string x) (.string y) (x == y)
end
end Go.Eng

namespace Go.Eng
section
variable {P : Program} {keep : Bool} {nm : List Nat} {e l : PE} {h : AH} {K : Value -> AH -> Prop} {Kp : Value -> AH -> Prop}
  {dst : Option Tmp} {type : TypeId} {pos : String} {after : Array Edge} {guard : Option (Nat × Bool)}
end
end Go.Eng

namespace Go.Eng
def resDst (nm : List Nat) (N : Nat) : Option Tmp -> Option D
  | none => some .z
  | some d => if d < N then some (if nm.contains d then .n d else .t d) else none
def resG (nm : List Nat) (ops : Array Oper) : Option (Nat × Bool) -> Option (Option (RX × Bool))
  | none => some none
  | some (j, want) => match (ops[j]?).bind (·.dst) with
    | some d => some (some (if nm.contains d then .n d else .t d, want))
    | none => none
def resOp (P : Program) (nm : List Nat) (N : Nat) (ops : Array Oper) (o : Oper) : Option RO :=
  match resDst nm N o.dst, resG nm ops o.guard, resK P nm o with
  | some d, some g, some k => some ⟨d, g, k⟩
  | _, _, _ => none
def resOps (P : Program) (nm : List Nat) (N : Nat) (ops : Array Oper) : List Oper -> Option (List RO)
  | [] => some []
  | o :: l => match resOp P nm N ops o, resOps P nm N ops l with
    | some x, some xs => some (x :: xs)
    | _, _ => none
def pe (d : D) (e : PE) (v : Value) : PE := match d with
  | .n i => upd e i v
  | _ => e
def pl (d : D) (l : PE) (v : Value) : PE := match d with
  | .t i => (i, v) :: l
  | _ => l
structure PS where
  e : PE
  l : PE
  h : AH
  ds : List Dfr
abbrev Rd := Nat × U × Value × Value
def isLd : U -> Bool
  | .ld => true
  | .ldn _ => true
  | .b2s => true
  | _ => false
structure Lss (s0 s : PS) : Prop where
  e : ∀ t v, look s0.e t = some v -> look s.e t = some v
  l : ∀ t v, look s0.l t = some v -> look s.l t = some v
  h : s0.h = s.h
  ds : s0.ds = s.ds
structure SP (P : Program) (nm : List Nat) (N : Nat) (r : Rho) (s : PS) (a : Act) (w : World) : Prop where
  e : ∀ t v, look s.e t = some v -> ∃ v', a.tmps[t]? = some v' /\ VR r v v'
  l : ∀ t v, look s.l t = some v -> ∃ v', a.tmps[t]? = some v' /\ VR r v v'
  en : ∀ t v, look s.e t = some v -> nm.contains t = true
  ln : ∀ t v, look s.l t = some v -> nm.contains t = false
  sz : N <= a.tmps.size
  hr : HR P r s.h w.heap
  ds : DR r s.ds a.defers
section
variable {P : Program} {keep : Bool} {nm : List Nat} {N : Nat} {r r' : Rho} {s : PS} {a : Act} {w w' : World}
end
end Go.Eng

namespace Go.Eng
section
variable {P : Program} {keep : Bool} {nm : List Nat} {N : Nat} {r r' : Rho} {s : PS} {a : Act} {w w' : World}
def potK : RK -> Bool
  | .u (.bx _) _ | .u (.s2b _) _ => true
  | .u _ _ | .b _ _ _ | .pk _ _ _ | .bld _ _ | .mkf _ _ _ | .sls _ _ _ | .sll _ _ _ _ _ => false
  | _ => true
def alK : RK -> Bool
  | .u (.bx _) _ | .al _ _ | .bsl _ _ _ _ | .mm => true
  | _ => false
def ldK : RK -> Bool
  | .u f _ => isLd f
  | _ => false
def freeU : U -> Bool
  | .mv | .fa _ | .fd _ | .fdn _ _ | .ex _ | .nk | .nt | .ng | .cv _ | .lenS | .lenL | .ifc _ | .asn _ _ _ => true
  | _ => false
def freeB : B -> Bool
  | .lk _ _ _ => false
  | _ => true
def freeK : RK -> Bool
  | .u f _ => freeU f
  | .b f _ _ => freeB f
  | .pk _ _ _ | .bld _ _ | .mkf _ _ _ => true
  | _ => false
def bitA (A : List Nat) (i j : Nat) : Bool := ((A[i]?).getD 0).testBit j
def panS (A : List Nat) (rl : List RO) : Bool := rl.zipIdx.all fun (o, i) => match o.k with
  | .call _ _ => (List.range rl.length).all fun j => !decide (i < j) || bitA A j i
  | _ => true
def pickQ (n : Nat) (A : List Nat) (hl : Nat -> Bool) : Nat -> List Nat -> List Nat
  | 0, acc => acc.reverse
  | f + 1, acc => match (List.range n).find? (fun j => !acc.contains j && hl j && (List.range n).all fun i => i == j || !bitA A j i || acc.contains i) with
    | some j => pickQ n A hl f (j :: acc)
    | none => match (List.range n).find? (fun j => !acc.contains j) with
      | some j => pickQ n A hl f (j :: acc)
      | none => acc.reverse
def rnO (q : List Nat) (o : Oper) : Oper := { o with after := o.after.map fun e => { e with on := q.idxOf e.on }, guard := o.guard.map fun g => (q.idxOf g.1, g.2) }
def permQ (q : List Nat) (ops : Array Oper) : Array Oper := (q.map fun i => rnO q (ops[i]?.getD default)).toArray
def goodQ (q : List Nat) (n : Nat) : Bool := q.length == n && (List.range n).all q.contains && q.all (fun i => decide (i < n)) && (List.range n).all fun i => q.idxOf (q[i]?.getD n) == i
def hstQ (P : Program) (nm : List Nat) (N : Nat) (ops : Array Oper) : Option (List Nat) :=
  match resOps P nm N ops ops.toList with
  | some rl => if panS (ancs ops.toList) rl then none else
    (fun q => if goodQ q ops.size then some q else none) (pickQ ops.size (ancs ops.toList) (fun j => match rl[j]? with
      | some o => freeK o.k || ldK o.k || alK o.k
      | none => false) ops.size [])
  | none => none
def hst (P : Program) (nm : List Nat) (N : Nat) (ops : Array Oper) : Array Oper := match hstQ P nm N ops with
  | some q => permQ q ops
  | none => ops
end
end Go.Eng

namespace Go.Eng
section
variable {P : Program} {keep : Bool} {nm : List Nat}
inductive RV where
  | v (x : RX)
  | c (x : RX) (u : U)
end
end Go.Eng

namespace Go.Eng
section
variable {P : Program} {keep : Bool} {nm : List Nat} {N : Nat} {r : Rho} {s : PS} {a : Act} {w : World}
end
end Go.Eng

namespace Go.Eng
structure Ag (K0 : Nat -> Prop) (ops : Array Oper) (listed : Array Bool) (a0 a b : Act) : Prop where
  sz : a.tmps.size = b.tmps.size
  s0 : a.tmps.size = a0.tmps.size
  df : a.defers = b.defers
  ag : ∀ t, (K0 t \/ ∃ (i : Nat) (o : Oper), ops[i]? = some o /\ listed.getD i false = true /\ o.dst = some t) -> a.tmps[t]? = b.tmps[t]?
  out : ∀ t, (∀ (i : Nat) (o : Oper), ops[i]? = some o -> o.dst ≠ some t) -> a.tmps[t]? = a0.tmps[t]?
  cl : Closed ops (fun i => listed.getD i false)
  ls : listed.size = ops.size
section
variable {P : Program} {keep : Bool} {ops : Array Oper} {F : FT}
def Same1 (P : Program) (env : List Value) (o : Oper) (f : U) (p v : Value) : Prop := ∀ h2 m m', uval P h2 m f p = some (v, none) -> aread P (ev env) h2 m' o = some (v, none)
inductive Run (P : Program) (keep : Bool) (ops : Array Oper) (F : FT) : Nat -> List DO -> List Oper -> List Value -> AH -> List (Nat × AH) -> List Rd -> List TR -> Fin' -> Prop where
  | nil (n : Nat) (env : List Value) (h : AH) (hs : List (Nat × AH)) (rs : List Rd) : Run P keep ops F n [] [] env h hs rs [] (.norm env h)
  | skip {n : Nat} {d : DO} {dl : List DO} {o : Oper} {os : List Oper} {env : List Value} {h : AH} {hs : List (Nat × AH)} {rs : List Rd} {trs : List TR} {fin : Fin'} (hw : wantA ops env o = some false)
      (k : Run P keep ops F (n + 1) dl os (putv env o.dst undef) h hs rs trs fin) : Run P keep ops F n (d :: dl) (o :: os) env h hs rs (⟨env, h, false, false, undef⟩ :: trs) fin
  | read {n : Nat} {d : DO} {dl : List DO} {o : Oper} {os : List Oper} {env : List Value} {h : AH} {hs hs' : List (Nat × AH)} {rs rs' : List Rd} {trs : List TR} {fin : Fin'} {v : Value} (hw : wantA ops env o = some true)
      (ha : aread P (ev env) h h.length o = some (v, none)) (hs1 : ∀ x ∈ hs, x ∈ hs') (hr1 : ∀ x ∈ rs, x ∈ rs') (hr2 : ldK d.o.k = true -> ∃ f p, (n, f, p, v) ∈ rs' /\ Same1 P env o f p v)
      (hold : ldK d.o.k = true -> ∀ x ∈ hs, d.old.contains x.1 = true -> aread P (ev env) x.2 x.2.length o = some (v, none))
      (hnp : potK d.o.k = false) (hfr : freeK d.o.k = true -> ∀ h2 : AH, aread P (ev env) h2 h2.length o = some (v, none))
      (k : Run P keep ops F (n + 1) dl os (putv env o.dst v) h hs' rs' trs fin) : Run P keep ops F n (d :: dl) (o :: os) env h hs rs (⟨env, h, true, false, v⟩ :: trs) fin
  | write {n : Nat} {d : DO} {dl : List DO} {o : Oper} {os : List Oper} {env : List Value} {h h' : AH} {hs hs' : List (Nat × AH)} {rs rs' : List Rd} {trs : List TR} {fin : Fin'} {v : Value} (hw : wantA ops env o = some true)
      (ha : ∀ u, aread P (ev env) h h.length o ≠ some (u, none)) (ha2 : aopv P F keep env h o = some (.ret v, h')) (hp : potK d.o.k = true) (hal : alK d.o.k = true -> allocOp o = true /\ ∃ u B, aread P (ev env) h h.length o = some (u, some B))
      (hl : h.length <= h'.length) (hs1 : ∀ x ∈ hs, x ∈ hs') (hs2 : (n, h) ∈ hs') (hr1 : ∀ x ∈ rs, x ∈ rs') (hchk : ∀ x ∈ rs, d.chk.contains x.1 = true -> uval P h' h'.length x.2.1 x.2.2.1 = some (x.2.2.2, none))
      (k : Run P keep ops F (n + 1) dl os (putv env o.dst v) h' hs' rs' trs fin) : Run P keep ops F n (d :: dl) (o :: os) env h hs rs (⟨env, h, true, true, v⟩ :: trs) fin
  | pan {n : Nat} {d : DO} {dl : List DO} {o : Oper} {os : List Oper} {env : List Value} {h h' : AH} {hs : List (Nat × AH)} {rs : List Rd} {v : Value} (hw : wantA ops env o = some true)
      (ha : ∀ u, aread P (ev env) h h.length o ≠ some (u, none)) (ha2 : aopv P F keep env h o = some (.pan v, h')) (hp : ∃ f ags, d.o.k = .call f ags) : Run P keep ops F n (d :: dl) (o :: os) env h hs rs [⟨env, h, true, true, v⟩] (.pan v h')
variable {n : Nat} {dl : List DO} {os : List Oper} {env : List Value} {h : AH} {hs : List (Nat × AH)} {rs : List Rd} {trs : List TR} {fin : Fin'}
end
end Go.Eng

namespace Go.Eng
section
variable {P : Program} {keep : Bool} {nm : List Nat} {N : Nat} {e l : PE} {h : AH} {K Kp : Value -> AH -> Prop}
end
end Go.Eng

namespace Go.Eng
section
variable {P : Program} {keep : Bool} {nm : List Nat} {N : Nat}
structure EM (nm : List Nat) (N : Nat) (e l : PE) (env : List Value) : Prop where
  ee : ∀ t v, look e t = some v -> env[t]? = some v
  ll : ∀ t v, look l t = some v -> env[t]? = some v
  en : ∀ t v, look e t = some v -> nm.contains t = true
  ln : ∀ t v, look l t = some v -> nm.contains t = false
  len : N <= env.length
open Classical in
end
end Go.Eng

namespace Go.Eng
section
variable {P : Program} {keep : Bool} {nm : List Nat} {N : Nat} {ops : Array Oper} {F : FT} {rl : List RO}
end
end Go.Eng

namespace Go.Eng
section
variable {P : Program} {keep : Bool} {nm : List Nat}
theorem rr {α : Sort _} {a b : α} (h : a = b) : a = b := h
inductive Fm where
  | sq (c : RC)
  | blk (id : Nat)
  | np
  | ep (e : PE)
inductive Cn where
  | ro (os : List RO)
  | dr (i : Nat) (w : Bool) (chk old : List Nat) (kk : RK) (h0 : AH) (dl : List DO) (hs : List (Nat × AH)) (rs : List Rd)
variable (P keep nm) (Φ : Out -> PS -> Prop)
variable {P keep nm Φ}
variable {os : List RO} {c : Cn} {k : List Fm} {e l : PE} {h : AH} {ds : List Dfr} {d : D}
section
variable {rq r rs : List Rd} {chk old : List Nat} {hh hs : List (Nat × AH)} {dl : List DO}
end
section
variable {v p : Value} {i : Nat} {w : Bool} {chk old : List Nat} {h0 : AH} {dl : List DO} {hs hs' : List (Nat × AH)} {rs : List Rd}
end
end
section
variable {P : Program} {h : AH} {m : Nat}
theorem isNone_some {α : Type} {a : α} : (some a).isNone = false := rr rfl
end
section
variable {P : Program} {keep : Bool} {nm : List Nat}
end
end Go.Eng

namespace Go.Eng
structure Keep (S : Nat -> Prop) (h h' : AH) : Prop where
  len : h.length <= h'.length
  same : ∀ b, b < h.length -> ¬ S b -> h'[b]? = h[b]?
def Cells (h : AH) (b : Nat) (cs : List Value) : Prop := hcell h b = some cs
def Own (h : AH) (b : Nat) (e : TypeId) (cs : List Value) : Prop := ∃ g, h[b]? = some (.cells true true g 0 e cs)
inductive Rds (h : AH) (sz : Nat) : Value -> Nat -> List Value -> Prop where
  | nil : Rds h sz (.slice none 0 0) 0 []
  | emp {b o c : Nat} : Rds h sz (.slice (some ⟨b, o, none⟩) 0 c) 0 []
  | mk {b o n c : Nat} {all cs : List Value} (hb : Cells h b all) (hl : o + n * sz <= all.length) (hx : (all.drop o).take (n * sz) = cs) : Rds h sz (.slice (some ⟨b, o, none⟩) n c) n cs
inductive Ows (h : AH) (e : TypeId) (sz : Nat) : Value -> Nat -> List Value -> Prop where
  | nil : Ows h e sz (.slice none 0 0) 0 []
  | mk {b n c : Nat} {all cs : List Value} (hb : Own h b e all) (hl : all.length = c * sz) (hn : n <= c) (hx : all.take (n * sz) = cs) : Ows h e sz (.slice (some ⟨b, 0, none⟩) n c) n cs
end Go.Eng

namespace Go.Eng
inductive Rd' {H : Type} (P : Program) (h : AH) : TypeId -> List Value -> DataW H -> Prop where
  | bool {t : TypeId} (hu : P.underlying t = some .bool) (b : Bool) : Rd' P h t [.bool b] (.lit (.bool b))
  | int {t : TypeId} {k : IntKind} (hu : P.underlying t = some (.int k)) (n : Int) (hw : (Lit.int k n).wf = true) : Rd' P h t [.int k n] (.lit (.int k n))
  | str {t : TypeId} (hu : P.underlying t = some .string) (s : ByteArray) (hs : s.size <= maxLen) : Rd' P h t [.string s] (.lit (.string s.data.toList))
  | snil {t e : TypeId} (hu : P.underlying t = some (.slice e)) : Rd' P h t [.slice none 0 0] .nil
  | sempty {t e : TypeId} (hu : P.underlying t = some (.slice e)) {b : Nat} : Rd' P h t [.slice (some ⟨b, 0, none⟩) 0 0] (.slice [] [])
  | slice {t e : TypeId} (hu : P.underlying t = some (.slice e)) {b n : Nat} {css : List (List Value)} {ds rest : List (DataW H)} (hc : hcell h b = some css.flatten) (he : helem h b = some e) (hn : css.length = n) (hd : ds.length = n) (hm : n <= maxLen)
      (hsz : ∀ cs ∈ css, cs.length = P.cellsOf e) (each : ∀ (i : Nat) (cs : List Value) (d : DataW H), css[i]? = some cs -> ds[i]? = some d -> Rd' P h e cs d) : Rd' P h t [.slice (some ⟨b, 0, none⟩) n n] (.slice ds rest)
  | struct {t : TypeId} {fs : Array Field} (hu : P.underlying t = some (.struct fs)) {cs : List Value} (hl : cs.length = P.cellsOf t) {ds : List (DataW H)} (hd : ds.length = fs.size)
      (each : ∀ (i : Nat) (f : Field) (d : DataW H), fs[i]? = some f -> ds[i]? = some d -> Rd' P h f.type ((cs.drop f.offset).take (P.cellsOf f.type)) d) : Rd' P h t cs (.agg ds)
  | array {t e : TypeId} {n : Nat} (hu : P.underlying t = some (.array n e)) {cs : List Value} (hl : cs.length = P.cellsOf t) {ds : List (DataW H)} (hd : ds.length = n)
      (each : ∀ (i : Nat) (d : DataW H), ds[i]? = some d -> Rd' P h e ((cs.drop (i * P.cellsOf e)).take (P.cellsOf e)) d) : Rd' P h t cs (.agg ds)
section
variable {H : Type} {enc : TypeId × Value -> H} {P : Program} {W : World}
structure Dr (P : Program) (W : World) (h : AH) (r : Rho) : Prop where
  hr : HR P r h W.heap
  ro : ∀ (b : Nat) (B : Blk), h[b]? = some B -> B.wr = false
end
end Go.Eng

namespace Go.Eng
open Go.RowKit Go.ChangeShapes
section
variable {H : Type} {enc : TypeId × Value -> H} {P : Program} {W : World}
end
end Go.Eng

namespace Go.Eng
theorem vs1 {v : Value} : (#[v] : Array Value).size = 1 := rr rfl
theorem ldn {n : Nat} : ([] : List Value).drop n = [] := by cases n <;> rfl
section
variable {P : Program} {keep : Bool} {nm : List Nat} {Φ : Out -> PS -> Prop} {c : Cn} {k : List Fm} {e l : PE} {h : AH} {ds : List Dfr} {d : D}
end
end Go.Eng

namespace Go.Eng
structure Bulk (H : Type) where
  f : DataW H -> Nat
  fa : List (DataW H) -> Nat
  one : ∀ d, 1 <= f d
  str : ∀ l, f (.lit (.string l)) = l.length + 1
  sl : ∀ a b, f (.slice a b) = fa a + fa b + 1
  ag : ∀ a, f (.agg a) = fa a + 1
  nil : fa [] = 0
  cons : ∀ d r, fa (d :: r) = f d + fa r
end Go.Eng

namespace Go.Eng
section
variable {P : Program} {keep : Bool} {nm : List Nat} {r r' : Rho} {s : PS} {a : Act} {w w' : World} {N : Nat}
end
end Go.Eng

namespace Go.Eng
section
variable {P : Program} {keep : Bool} {nm : List Nat}
end
end Go.Eng

namespace Go.Eng
abbrev iv (n : Int) : Value := .int .i64 n
def ns (xs : List Int) : List Value := xs.map iv
end Go.Eng

namespace Go.Eng
def mp (l : List (Int × Int)) : List (Value × Value) := l.map fun p => (iv p.1, iv p.2)
section
variable {P : Program} {kt : TypeId}
end
end Go.Eng

namespace Go.Eng
section
variable {P : Program} {H : Type} {h : AH}
end
end Go.Eng

namespace Go.Eng
open Go.RowKit
def tests (P : Program) (rs : List ResultVar) : Option (Out × St × List (Value × Bool)) -> Option (List (Value × Bool))
  | some (.ret, ⟨env, h, []⟩, q) => match ares P env h rs with
    | some [.bool true] => some q
    | _ => none
  | _ => none
end Go.Eng

namespace Go.Eng
end Go.Eng

namespace Go.Eng
open Go.RowKit
end Go.Eng

namespace Go.Eng
end Go.Eng

namespace Go.Eng
open Go.RowKit
def reOp (inv : List Nat) (o : Oper) : Oper := { o with after := o.after.map fun e => { e with on := (inv[e.on]?).getD e.on }, guard := o.guard.map fun p => ((inv[p.1]?).getD p.1, p.2) }
def reOps (sg inv : List Nat) (ops : Array Oper) : Array Oper := (sg.map fun k => reOp inv ((ops[k]?).getD default)).toArray
def permOk (n : Nat) (sg inv : List Nat) : Bool := sg.length == n && inv.length == n && (List.range n).all fun k => ((sg[k]?).bind (inv[·]?)) == some k && ((inv[k]?).bind (sg[·]?)) == some k
structure Perm (n : Nat) (sg inv : List Nat) : Prop where
  ls : sg.length = n
  li : inv.length = n
  si : ∀ (k i : Nat), sg[k]? = some i -> inv[i]? = some k
  is : ∀ (i k : Nat), inv[i]? = some k -> sg[k]? = some i
theorem permOk_inv {n : Nat} {sg inv : List Nat} (h : permOk n sg inv = true) : Perm n sg inv := by
  simp only [permOk, Bool.and_eq_true, beq_iff_eq, List.all_eq_true, List.mem_range] at h
  obtain ⟨⟨h1, h2⟩, h3⟩ := h
  refine ⟨h1, h2, fun k i hk => ?_, fun i k hi => ?_⟩
  · have hlt := (List.getElem?_eq_some_iff.1 hk).1
    have := (h3 k (by omega)).1
    rw [hk, Option.bind_some] at this
    exact this
  · have hlt := (List.getElem?_eq_some_iff.1 hi).1
    have := (h3 i (by omega)).2
    rw [hi, Option.bind_some] at this
    exact this
section
variable {P : Program} {ops : Array Oper} {Q : Exit -> Act -> World -> Prop} {md : Region.Mode} {sg inv : List Nat}
theorem reOps_size (hp : Perm ops.size sg inv) : (reOps sg inv ops).size = ops.size := by simp [reOps, hp.ls]
theorem reOps_get (hp : Perm ops.size sg inv) {i k : Nat} (h : sg[k]? = some i) : (reOps sg inv ops)[k]? = (ops[i]?).map (reOp inv) := by
  have hi := hp.si k i h
  have hlt : i < ops.size := by have := (List.getElem?_eq_some_iff.1 hi).1; have := hp.li; omega
  simp [reOps, h, Array.getElem?_eq_getElem hlt]
theorem reOps_none (hp : Perm ops.size sg inv) {j : Nat} (h : inv[j]? = none) : (reOps sg inv ops)[j]? = none /\ ops[j]? = none := by
  have := List.getElem?_eq_none_iff.1 h
  have h2 := reOps_size hp
  have := hp.li
  exact ⟨Array.getElem?_eq_none (by omega), Array.getElem?_eq_none (by omega)⟩
theorem reOps_yield (hp : Perm ops.size sg inv) (t : Array Value) (j : Nat) : yielded (reOps sg inv ops) t ((inv[j]?).getD j) = yielded ops t j := by
  unfold yielded
  cases hj : inv[j]? with
  | none =>
    obtain ⟨e1, e2⟩ := reOps_none hp hj
    rw [Option.getD_none, e1, e2]
  | some k =>
    rw [Option.getD_some, reOps_get hp (hp.is j k hj)]
    cases ops[j]? <;> rfl
theorem reOp_wanted (hp : Perm ops.size sg inv) (t : Array Value) (o : Oper) : Region.wanted (reOp inv o) (yielded (reOps sg inv ops) t) = Region.wanted o (yielded ops t) := by
  unfold Region.wanted
  obtain ⟨dst, op, type, pos, after, guard⟩ := o
  cases guard with
  | none => rfl
  | some p =>
    simp only [reOp, Option.map_some]
    rw [reOps_yield hp]
theorem wpOp_re (hp : Perm ops.size sg inv) {i k : Nat} (h : sg[k]? = some i) {K : Act -> World -> Prop} {a : Act} {w : World} (hw : wpOp P (reOps sg inv ops) Q k K a w) : wpOp P ops Q i K a w := by
  unfold wpOp at hw ⊢
  rw [reOps_get hp h] at hw
  cases ho : ops[i]? with
  | none => rw [ho] at hw; exact hw
  | some o =>
    rw [ho] at hw
    simp only [Option.map_some] at hw ⊢
    rw [reOp_wanted hp] at hw
    exact hw
def Same' (sg : List Nat) (L L' : Array Bool) : Prop := ∀ (k i : Nat), sg[k]? = some i -> ∀ b, L'.getD k b = L.getD i b
theorem mem_rdy {L : Array Bool} {i : Nat} : i ∈ Region.ready md ops L ↔ i < ops.size /\ L.getD i true = false /\ ((ops[i]?).map (·.after.all fun e => !Region.binds md e || L.getD e.on false)).getD false = true := by
  unfold Region.ready
  rw [List.mem_filter, List.mem_range, Bool.and_eq_true, Bool.not_eq_true']
theorem ready_re (hp : Perm ops.size sg inv) {L L' : Array Bool} (hs : L.size = ops.size) (hs' : L'.size = ops.size) (hL : Same' sg L L') {i k : Nat} (h : sg[k]? = some i) : k ∈ Region.ready md (reOps sg inv ops) L' ↔ i ∈ Region.ready md ops L := by
  have hi := hp.si k i h
  have h1 : i < ops.size := by have := (List.getElem?_eq_some_iff.1 hi).1; have := hp.li; omega
  have h2 : k < (reOps sg inv ops).size := by have := (List.getElem?_eq_some_iff.1 h).1; have := hp.ls; rw [reOps_size hp]; omega
  rw [mem_rdy, mem_rdy, hL k i h, reOps_get hp h]
  have e : ((ops[i]?.map (reOp inv)).map (·.after.all fun e => !Region.binds md e || L'.getD e.on false)).getD false = ((ops[i]?).map (·.after.all fun e => !Region.binds md e || L.getD e.on false)).getD false := by
    cases ho : ops[i]? with
    | none => rfl
    | some o =>
      simp only [Option.map_some, Option.getD_some, reOp, Array.all_map]
      congr 1
      funext e
      simp only [Function.comp]
      have hb : Region.binds md { e with on := (inv[e.on]?).getD e.on } = Region.binds md e := rfl
      rw [hb]
      congr 1
      cases hj : inv[e.on]? with
      | none =>
        have := List.getElem?_eq_none_iff.1 hj
        have := hp.li
        rw [Option.getD_none, Array.getD_eq_getD_getElem?, Array.getD_eq_getD_getElem?, Array.getElem?_eq_none (by omega), Array.getElem?_eq_none (by omega)]
      | some j => rw [Option.getD_some]; exact hL j e.on (hp.is _ _ hj) false
  rw [e]
  exact ⟨fun x => ⟨h1, x.2⟩, fun x => ⟨h2, x.2⟩⟩
theorem ready_nil (hp : Perm ops.size sg inv) {L L' : Array Bool} (hs : L.size = ops.size) (hs' : L'.size = ops.size) (hL : Same' sg L L') (h : Region.ready md ops L = []) : Region.ready md (reOps sg inv ops) L' = [] := by
  cases hr : Region.ready md (reOps sg inv ops) L' with
  | nil => rfl
  | cons k r =>
    have hk : k ∈ Region.ready md (reOps sg inv ops) L' := by rw [hr]; exact List.mem_cons_self
    have h2 := (mem_rdy.1 hk).1
    rw [reOps_size hp] at h2
    obtain ⟨i, hi⟩ : ∃ i, sg[k]? = some i := ⟨_, List.getElem?_eq_getElem (by have := hp.ls; omega)⟩
    have := (ready_re hp hs hs' hL hi).1 hk
    rw [h] at this; cases this
theorem wpAny_re (hp : Perm ops.size sg inv) : ∀ (fuel : Nat) (L L' : Array Bool) (a : Act) (w : World), L.size = ops.size -> L'.size = ops.size -> Same' sg L L' -> wpAny P md (reOps sg inv ops) Q fuel L' a w -> wpAny P md ops Q fuel L a w := by
  intro fuel
  induction fuel with
  | zero =>
    intro L L' a w hs hs' hL hw
    refine ⟨?_, hw.2⟩
    cases hr : Region.ready md ops L with
    | nil => rfl
    | cons i r =>
      have hi : i ∈ Region.ready md ops L := by rw [hr]; exact List.mem_cons_self
      have h1 := (mem_rdy.1 hi).1
      obtain ⟨k, hk⟩ : ∃ k, inv[i]? = some k := ⟨_, List.getElem?_eq_getElem (by have := hp.li; omega)⟩
      have := (ready_re hp hs hs' hL (hp.is i k hk)).2 hi
      rw [hw.1] at this; cases this
  | succ fuel ih =>
    intro L L' a w hs hs' hL hw
    refine ⟨fun hn => hw.1 (ready_nil hp hs hs' hL hn), fun i hi => ?_⟩
    have h1 := (mem_rdy.1 hi).1
    obtain ⟨k, hk⟩ : ∃ k, inv[i]? = some k := ⟨_, List.getElem?_eq_getElem (by have := hp.li; omega)⟩
    have hsk := hp.is i k hk
    have hwk := hw.2 k ((ready_re hp hs hs' hL hsk).2 hi)
    refine wpOp_re hp hsk (wpOp_mono (fun a w hx => ?_) hwk)
    refine ih _ _ a w (by simpa using hs) (by simpa using hs') (fun k2 i2 h2 b => ?_) hx
    have hk2 := (List.getElem?_eq_some_iff.1 h2).1
    have hi2 := (List.getElem?_eq_some_iff.1 (hp.si _ _ h2)).1
    have hkl := (List.getElem?_eq_some_iff.1 hsk).1
    have := hp.ls
    have := hp.li
    by_cases e : i = i2
    · subst e
      have e2 : k2 = k := by have := hp.si _ _ h2; rw [hk] at this; cases this; rfl
      subst e2
      simp [Array.getD_eq_getD_getElem?, show k2 < L'.size by omega, show i < L.size by omega]
    · have e2 : k ≠ k2 := by rintro rfl; rw [hsk] at h2; cases h2; exact e rfl
      rw [getD_set_ne b e, getD_set_ne b e2]
      exact hL k2 i2 h2 b
end
def lateGo (al : Nat -> Bool) (A : List Nat) : List Nat -> List Nat -> List Nat -> List Nat
  | [], d, acc => acc ++ d
  | i :: l, d, acc => if al i then lateGo al A l (d ++ [i]) acc else lateGo al A l (d.filter fun j => !bit A i j) (acc ++ d.filter (fun j => bit A i j) ++ [i])
def lateSg (ops : Array Oper) : List Nat := lateGo (fun i => ((ops[i]?).map allocOp).getD false) (ancs ops.toList) (List.range ops.size) [] []
def invOf (n : Nat) (sg : List Nat) : List Nat := (List.range n).map fun i => sg.findIdx (· == i)
def adrawL (P : Program) (keep : Bool) (F : FT) : DT := fun ops s =>
  match adraw P keep F ops s with
  | some x => some x
  | none =>
    let sg := lateSg ops
    let inv := invOf ops.size sg
    if permOk ops.size sg inv then adraw P keep F (reOps sg inv ops) s else none
theorem adrawL_ok {P : Program} (hm : P.follows .mixedOrders = true) {keep : Bool} {F : FT} (hF : FOk P F) : DOk P (adrawL P keep F) := by
  intro ops s s' out he r a w id Q hs hQ
  unfold adrawL at he
  split at he
  · rename_i x hx
    cases he
    exact adraw_ok hm hF ops s s' out hx r a w id Q hs hQ
  · simp only at he
    split at he
    · rename_i hp
      have hp := permOk_inv hp
      unfold adraw at he
      split at he
      case h_2 => cases he
      case h_1 trs fin htr =>
        split at he
        case isFalse => cases he
        case isTrue hc =>
          simp only [Bool.and_eq_true] at hc
          obtain ⟨⟨⟨ht, hc⟩, hfl⟩, hrd⟩ := hc
          refine wp_region_any hm ?_
          have hd := drawP_any hm hF htr ht hc hfl (readsOk_P hrd) (out := out) (s' := s') (by cases fin <;> (cases he; rfl)) r a w Q hs hQ
          rw [reOps_size hp] at hd
          refine wpAny_re hp ops.size _ _ a _ (by simp) (by simp) (fun k i h b => ?_) hd
          have hk := (List.getElem?_eq_some_iff.1 h).1
          have hi := (List.getElem?_eq_some_iff.1 (hp.si _ _ h)).1
          have := hp.ls
          have := hp.li
          simp [Array.getD_eq_getD_getElem?, show k < ops.size by omega, show i < ops.size by omega]
    · cases he
end Go.Eng

namespace Go.Eng
open Go.RowKit
def astep (P : Program) (D : FT -> DT) (keep : FuncId -> Bool) (fuel : Nat) (F : FT) : FT := fun f args h _ =>
  match P.funcs[f]? with
  | some fn =>
    match fn.body with
    | some c =>
      match acode P F (D F) (keep f) fuel c ⟨args ++ List.replicate (fn.ntmps - args.length) undef, h, []⟩ with
      | some (out, s') => match leftBy out with
        | some m => match adefs P F D keep fuel s'.ds m s'.h with
          | some (none, h') => (ares P s'.env h' fn.results.toList).map fun vs => (.ret (tup vs), h')
          | some (some v, h') => some (.pan v, h')
          | none => none
        | none => none
      | none => none
    | none => match aext P f args h with
      | some x => some x
      | none => aextB P f args h
  | none => none
theorem astep_ok {P : Program} (hP : noGoroutines P = true) {D : FT -> DT} (hD : ∀ F, FOk P F -> DOk P (D F)) {keep : FuncId -> Bool} {fuel : Nat} {F : FT} (hF : FOk P F) : FOk P (astep P D keep fuel F) := by
  intro f args h tg res h' he r w args' hr hargs o a K Q hK hQ
  simp only [astep] at he
  split at he
  case h_2 => cases he
  case h_1 fn hf =>
    split at he
    case h_2 hb =>
      split at he
      case h_2 => exact aextB_ok he hr hargs hK
      case h_1 x hx =>
      cases he
      unfold aext at hx
      split at hx
      · rename_i hs
        split at hx
        · rename_i v hp
          split at hx
          · rename_i hv
            cases hx
            rw [all_scal_eq hs hargs, pureRun_run hp]
            exact hK _ _ _ r rfl (Stp.refl hr) (scal_refl 8 v hv)
          · cases hx
        · cases hx
      · cases hx
    case h_1 c hb =>
      rw [run_callFunc hP hf hb]
      have start : SR P r ⟨args ++ List.replicate (fn.ntmps - args.length) undef, h, []⟩ { tmps := args' ++ Array.replicate (fn.ntmps - args'.size) undef, defers := [] } w :=
        ⟨start_env (P := P) (h := h) (w := w) hargs fn.ntmps, hr, trivial⟩
      refine calls_of_wp_defers hf hb ?_
      have hcode := acode_ok hF (hD _ hF) (keep := keep f) fuel c
      split at he
      case h_2 => cases he
      case h_1 out s' h1 =>
        split at he
        case h_2 => cases he
        case h_1 m hm =>
          have behind : ∀ {a' : Act} {w' : World} {r' : Rho} {u : FrameMode}, Stp P r h w r' s'.h w' -> SR P r' s' a' w' -> MR r' m u -> Leaves P fn a'.tmps (fun
            | .returned v, w'' => K (a.put o.dst v) w''
            | .panicked chain, w'' => Q (.panic chain) a w''
            | .outgrown, _ => LetsOut Q) a'.defers u w' := by
            intro a' w' r' u st sr hu
            split at he
            · rename_i h2 h3
              obtain ⟨vs, hvs, hh⟩ := Option.map_eq_some_iff.1 he
              cases hh
              refine adefs_ok hP hF (hD _ hF) h3 sr.hr sr.ds hu fun r2 w2 u2 st2 hm2 => ?_
              obtain ⟨v', e1, e2⟩ := tup_ok (sr.env.mono st2.le) st2.hr hvs
              rw [show u2 = .returning from hm2]
              exact ⟨v', e1, hK _ _ _ _ rfl (st.trans st2) e2⟩
            · rename_i v h2 h3
              cases he
              refine adefs_ok hP hF (hD _ hF) h3 sr.hr sr.ds hu fun r2 w2 u2 st2 hm2 => ?_
              obtain ⟨v', e1, e2⟩ := hm2
              rw [e1]
              exact hQ _ _ _ _ rfl (st.trans st2) e2
            · cases he
          refine hcode _ _ _ h1 r _ w _ start (fun e a' w' r' ho st sr => ?_)
          cases out with
          | norm => cases ho; cases hm; exact behind st sr rfl
          | ret => cases ho; cases hm; exact behind st sr rfl
          | pan v => obtain ⟨v', rfl, hv⟩ := ho; cases hm; exact behind st sr ⟨v', rfl, hv⟩
          | exit id => cases hm
abbrev XT := FuncId -> List Value -> Option Value
def XOk (P : Program) (X : XT) : Prop := ∀ f args v, X f args = some v -> ∀ h, Holds P f args h (.ret v) h
end Go.Eng

namespace Go.Eng
open Go.RowKit
end Go.Eng

namespace Go.Eng
def idl : Obj -> Bool
  | .loop _ => true
  | .deferred _ => true
  | _ => false
theorem BO.noIdl {P : Program} {r : Rho} {x : Loc} {B : Blk} {o : Obj} (h : BO P r x B (some o)) (hl : B.live = true) : idl o = false := by
  cases B with
  | gone => cases hl
  | cells => obtain ⟨_, _, _, e, _⟩ := h; cases e; rfl
  | map => obtain ⟨_, _, e, _⟩ := h; cases e; rfl
section
variable {P : Program} {r r' r0 : Rho} {h h' h0 : AH} {w w' w0 : World}
theorem HR.put_idl (hr : HR P r h w.heap) {l : Nat} {o : Obj} (hl : w.heap[l]? = some o) (hi : idl o = true) (o' : Obj) : HR P r h (w.putObj l o').heap := by
  have ne : ∀ {k : Nat} {o2 : Obj}, w.heap[k]? = some o2 -> idl o2 = false -> k ≠ l := fun hk h2 e => by subst e; rw [hl] at hk; cases hk; rw [hi] at h2; cases h2
  refine ⟨fun b x hb => ?_, fun b B hb hB => ?_, hr.sep, fun g cs hg => ?_, hr.nwr⟩
  · rw [World.putObj_size]; exact hr.dom b x hb
  · obtain ⟨x, h1, h2⟩ := hr.blk b B hb hB
    refine ⟨x, h1, ?_⟩
    have hx : ∃ o2, w.heap[x.blk]? = some o2 := ⟨_, Array.getElem?_eq_getElem (hr.dom b x h1).2⟩
    obtain ⟨o2, h3⟩ := hx
    rw [h3] at h2
    rw [World.putObj_heap_other (ne h3 (h2.noIdl hB)), h3]; exact h2
  · obtain ⟨cur, e, fr, h1, h2⟩ := hr.lay g cs hg
    exact ⟨cur, e, fr, by rw [World.putObj_heap_other (ne h1 rfl)]; exact h1, h2⟩
theorem HR.push_idl (hr : HR P r h w.heap) (o : Obj) : HR P r h (w.alloc o).heap := by
  have get : ∀ {k : Nat} {o2 : Obj}, w.heap[k]? = some o2 -> (w.alloc o).heap[k]? = some o2 := fun {k o2} hk => by
    have := (Array.getElem?_eq_some_iff.1 hk).1
    show (w.heap.push o)[k]? = some o2
    rw [Array.getElem?_push_lt this, <- Array.getElem?_eq_getElem this]; exact hk
  refine ⟨fun b x hb => ?_, fun b B hb hB => ?_, hr.sep, fun g cs hg => ?_, hr.nwr⟩
  · rw [World.size_alloc]; have := hr.dom b x hb; exact ⟨this.1, by omega⟩
  · obtain ⟨x, h1, h2⟩ := hr.blk b B hb hB
    obtain ⟨o2, h3⟩ : ∃ o2, w.heap[x.blk]? = some o2 := ⟨_, Array.getElem?_eq_getElem (hr.dom b x h1).2⟩
    refine ⟨x, h1, ?_⟩
    rw [get h3]; rw [h3] at h2; exact h2
  · obtain ⟨cur, e, fr, h1, h2⟩ := hr.lay g cs hg
    exact ⟨cur, e, fr, get h1, h2⟩
theorem Stp.keepIdl (st : Stp P r h w r' h' w') (hr : HR P r h w.heap) {k : Nat} {o : Obj} (hk : w.heap[k]? = some o) (hi : idl o = true) : w'.heap[k]? = some o := by
  rw [st.fr.block k (Array.getElem?_eq_some_iff.1 hk).1 ?_]; · exact hk
  rintro ⟨b, B, x, h1, h2, h3, rfl⟩
  obtain ⟨y, h4, h5⟩ := hr.blk b B h1 (Blk.live_of_wr h2)
  rw [h3] at h4; cases h4
  rw [hk] at h5
  rw [h5.noIdl (Blk.live_of_wr h2)] at hi; cases hi
theorem Stp.putIdl (st : Stp P r0 h0 w0 r h w) {l : Nat} {o : Obj} (hl : w.heap[l]? = some o) (hi : idl o = true) (hlt : w0.heap.size <= l) (o' : Obj) : Stp P r0 h0 w0 r h (w.putObj l o') :=
  ⟨st.le, st.hr.put_idl hl hi o', ⟨st.fr.os, st.fr.tape, st.fr.output, by rw [World.putObj_size]; exact st.fr.size, fun k hk hn => by
    rw [World.putObj_heap_other (by omega)]; exact st.fr.block k hk hn⟩, st.own, st.len, st.gone⟩
theorem Stp.pushIdl (st : Stp P r0 h0 w0 r h w) (o : Obj) : Stp P r0 h0 w0 r h (w.alloc o) :=
  ⟨st.le, st.hr.push_idl o, ⟨st.fr.os, st.fr.tape, st.fr.output, by rw [World.size_alloc]; have := st.fr.size; omega, fun k hk hn => by
    have := st.fr.size
    have e : (w.alloc o).heap[k]? = w.heap[k]? := by
      show (w.heap.push o)[k]? = w.heap[k]?
      rw [Array.getElem?_push_lt (by omega), <- Array.getElem?_eq_getElem (by omega)]
    rw [e]; exact st.fr.block k hk hn⟩, st.own, st.len, st.gone⟩
end
abbrev FW (ro : Option Nat) : Fence := { Fence.wide with round := ro }
theorem rows_in {P : Program} {ro : Option Nat} {n : Nat} {row : String} {args : Array Value} {w : World} {R : Value -> World -> Prop} (h : Rows P row args w R) : RowsIn (FW ro) n P row args w R :=
  fun c cs _ => let ⟨v, w', a, b⟩ := h c cs; ⟨v, w', a, stepsIn_wide.2 b⟩
theorem calls_in {P : Program} {ro : Option Nat} {n : Nat} {f : FuncId} {args : Array Value} {w : World} {R : Ending -> World -> Prop} (h : Calls P f args w R) : CallsIn (FW ro) n P f args w R :=
  (callsIn_wide (n := n)).2 h
theorem FW_depth {ro : Option Nat} {n : Nat} : ((FW ro).depth.isSome = true -> 1 <= n) := fun h => by cases h
theorem op_in {P : Program} {ro : Option Nat} {n : Nat} {o : Oper} {tm : Array Value} {X : List Deferred} {K K' : Act -> World -> Prop} {Q' : Exit -> Act -> World -> Prop} {res : Result Next}
    (h : o.upon P ⟨tm, []⟩ K (fun _ _ _ => False) res) (kd : ∀ a w, K a w -> a.defers = []) (k : ∀ v w', K (Act.put ⟨tm, []⟩ o.dst v) w' -> K' (Act.put ⟨tm, X⟩ o.dst v) w') :
    o.uponIn (FW ro) n P ⟨tm, X⟩ K' Q' res := by
  unfold Oper.upon at h
  split at h
  · exact k _ _ h
  · exact k _ _ h
  · rename_i d w'
    have := kd _ _ h
    rw [put_defers] at this
    cases this
  · refine ⟨FW_depth, CallsIn.mono (calls_in h) fun e w' he => ?_⟩
    cases e with
    | returned v => exact k _ _ he
    | panicked chain => exact he.elim
    | outgrown => obtain ⟨_, _, hh⟩ := he; exact hh.elim
  · exact ⟨FW_depth, RowsIn.mono (rows_in h) fun v w' he => k _ _ he⟩
  · exact h.elim
  · exact h.elim
theorem wpAny_defers {P : Program} {md : Region.Mode} {ops : Array Oper} {G : Act -> World -> Prop} : ∀ (fuel : Nat) (listed : Array Bool) (a : Act) (w : World),
    wpAny P md ops (fun e a w => e = .normal /\ a.defers = [] /\ G a w) fuel listed a w -> a.defers = [] := by
  intro fuel
  induction fuel with
  | zero => intro listed a w h; exact h.2.2.1
  | succ fuel ih =>
    intro listed a w h
    obtain ⟨h0, h1⟩ := h
    cases hr : Region.ready md ops listed with
    | nil => exact (h0 hr).2.1
    | cons i l =>
      have h2 := h1 i (by rw [hr]; exact List.mem_cons_self)
      unfold wpOp at h2
      split at h2
      · exact ih _ _ _ h2
      · rename_i o ho
        have letsF : ∀ {X : Prop}, LetsOut (fun (e : Exit) (a : Act) (w : World) => e = .normal /\ a.defers = [] /\ G a w) -> X := fun ⟨_, _, hh⟩ => by cases hh.1
        split at h2
        · rcases h2 with h2 | ⟨_, h2⟩
          case inr => exact letsF h2
          unfold Oper.wp Oper.upon at h2
          split at h2
          · have := ih _ _ _ h2; rwa [put_defers] at this
          · have := ih _ _ _ h2; rwa [put_defers] at this
          · have := ih _ _ _ h2; rw [put_defers] at this; cases this
          · obtain ⟨e, w', fr, hR, _⟩ := h2 []
            cases e with
            | returned v => have := ih _ _ _ hR; rwa [put_defers] at this
            | panicked chain => cases hR.1
            | outgrown => exact letsF hR
          · obtain ⟨v, w', hR, _⟩ := h2 default []
            have := ih _ _ _ hR; rwa [put_defers] at this
          · cases h2.1
          · exact h2.elim
        · have := ih _ _ _ h2; rwa [put_defers] at this
theorem any_in {P : Program} {ro : Option Nat} {n : Nat} {md : Region.Mode} {ops : Array Oper} {G : Act -> World -> Prop} {X : List Deferred} {Q' : Exit -> Act -> World -> Prop} (hn : ∀ o ∈ ops, ∀ c, o.op ≠ .defer c) (hq : ∀ tm w, G ⟨tm, []⟩ w -> Q' .normal ⟨tm, X⟩ w) :
    ∀ (fuel : Nat) (listed : Array Bool) (tm : Array Value) (w : World), wpAny P md ops (fun e a w => e = .normal /\ a.defers = [] /\ G a w) fuel listed ⟨tm, []⟩ w -> wpAnyIn (FW ro) n P md ops Q' fuel listed ⟨tm, X⟩ w := by
  intro fuel
  induction fuel with
  | zero => intro listed tm w h; exact ⟨h.1, hq _ _ h.2.2.2⟩
  | succ fuel ih =>
    intro listed tm w h
    obtain ⟨h0, h1⟩ := h
    refine ⟨fun e => hq _ _ (h0 e).2.2, fun i hi => ?_⟩
    have h2 := h1 i hi
    have shape : ∀ (d : Option Tmp) (v : Value) (Y : List Deferred), ∃ tm', Act.put ⟨tm, Y⟩ d v = ⟨tm', Y⟩ /\ ∀ Z, Act.put ⟨tm, Z⟩ d v = ⟨tm', Z⟩ := fun d v Y => by cases d <;> exact ⟨_, rfl, fun Z => rfl⟩
    unfold wpOp at h2
    unfold wpOpIn
    split at h2
    · rename_i ho; rw [ho]; exact ih _ _ _ h2
    · rename_i o ho
      rw [ho]
      have hno := hn o (Array.mem_of_getElem? ho)
      show if Region.wanted o (yielded ops tm) = true then _ else _
      split at h2
      · rename_i hw
        rw [if_pos hw]
        rcases h2 with h2 | ⟨_, h2⟩
        case inr => obtain ⟨_, _, hh⟩ := h2; cases hh.1
        refine ⟨fun _ _ => trivial, ?_⟩
        rw [Oper.semAt_eq _ _ _ hno]
        refine op_in (X := X) (o := o) (tm := tm) (K := wpAny P md ops (fun e a w => e = .normal /\ a.defers = [] /\ G a w) fuel (listed.setIfInBounds i true)) ?_ (fun a w hk => wpAny_defers _ _ _ _ hk) (fun v w' hk => ?_)
        · have : ∀ {res : Result Next} {K : Act -> World -> Prop}, o.upon P ⟨tm, []⟩ K (fun e a w => e = .normal /\ a.defers = [] /\ G a w) res -> o.upon P ⟨tm, []⟩ K (fun _ _ _ => False) res := by
            intro res K hu
            unfold Oper.upon at hu ⊢
            split at hu
            · exact hu
            · exact hu
            · exact hu
            · refine Calls.mono hu fun e w' he => ?_
              cases e with
              | returned v => exact he
              | panicked chain => cases he.1
              | outgrown => obtain ⟨_, _, hh⟩ := he; cases hh.1
            · exact hu
            · cases hu.1
            · exact hu.elim
          exact this h2
        · obtain ⟨tm', e1, e2⟩ := shape o.dst v []
          rw [e1] at hk
          rw [e2 X]; exact ih _ _ _ hk
      · rename_i hw
        rw [if_neg hw]
        obtain ⟨tm', e1, e2⟩ := shape o.dst undef []
        rw [e1] at h2
        refine ⟨fun _ _ => trivial, ?_⟩
        rw [e2 X]; exact ih _ _ _ h2
section
variable {P : Program} {F : Fence} {n : Nat} {Q : Exit -> Act -> World -> Prop} {a : Act} {w : World}
theorem wpIn_scope {c : Code} (h : c.wpIn F n P (Exit.noGoto Q) a w) : (Code.scope c).wpIn F n P Q a w := by
  intro b k cs hro hb hr
  have s1 : ∀ {a : Act} {w : World}, step P (lone (b.atR a (.code (.scope c) :: k)) cs w) = .next (lone (b.atR a (.code c :: .inScope c :: k)) cs w) := fun {a w} => step_lone_go (by simp [stepG, stepG.exec, Frame.atR])
  have s2 : ∀ {a : Act} {w : World}, step P (lone (b.atR a (.inScope c :: k)) cs w) = .next (lone (b.atR a k) cs w) := fun {a w} => step_lone_go (by simp [stepG, stepG.exec, Frame.atR])
  have h0 : (lone (b.atR a (.code (.scope c) :: k)) cs w).fenced P F := fenced_calm hb hr rfl
  obtain ⟨e, a₁, w₁, hq, harr⟩ := h b (.inScope c :: k) cs hro hb hr
  cases e with
  | normal => exact ⟨.normal, a₁, w₁, hq, .head h0 s1 (StepsIn.trans harr (.one (fenced_calm (fr := b.atR a₁ (.inScope c :: k)) hb hr rfl) s2))⟩
  | exit id => exact ⟨.exit id, a₁, w₁, hq, .of_steps (.one h0 s1) ⟨fun k' hk => harr.1 k' (by simp [exitTo, hk]), fun hx hk => harr.2 hx (by simp [exitTo, hk])⟩⟩
  | goto l => exact hq.elim
  | ret => exact ⟨_, a₁, w₁, hq, .of_steps (.one h0 s1) harr⟩
  | panic ch => exact ⟨_, a₁, w₁, hq, .of_steps (.one h0 s1) harr⟩
  | outgrown => exact ⟨_, a₁, w₁, hq, .of_steps (.one h0 s1) harr⟩
end
end Go.Eng
