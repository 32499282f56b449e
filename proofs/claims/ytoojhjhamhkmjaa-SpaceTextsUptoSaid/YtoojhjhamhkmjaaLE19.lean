/- The engine, part 19: an operation looked up ahead comes to what the engine says. -/
import Derived.Test.YtoojhjhamhkmjaaLE18
set_option linter.unusedVariables false
set_option linter.unusedSimpArgs false
namespace Go.Eng

/-! ### Looking up -/

def resParts (nm : List Nat) (place : Nat → Option (Nat × Nat)) : List (Nat × Operand) → Option (List (Nat × Nat × RX))
  | [] => some []
  | (i, x) :: xs => match place i, resX nm x, resParts nm place xs with
    | some (off, n), some y, some ys => some ((off, n, y) :: ys)
    | _, _, _ => none

def flatK (P : Program) (f : Field) (i : Nat) : Option Nat :=
  if f.name != "_" && f.offset == i then match P.underlying f.type with
    | some (.int _) => some 0
    | some .bool => some 1
    | some .string => some 2
    | _ => none
  else none

def flatKs (P : Program) : List Field → Nat → Option (List Nat)
  | [], _ => some []
  | f :: fs, i => match flatK P f i, flatKs P fs (i + 1) with
    | some k, some ks => some (k :: ks)
    | _, _ => none

def refK (P : Program) : TypeDesc → Option Nat
  | .pointer e => match sizeT P e with
    | some (_ + 1) => some 0
    | _ => none
  | .slice _ => some 1
  | .map _ _ => some 2
  | .func _ _ _ => some 3
  | .interface _ => some 4
  | _ => none

def negOf : BinOp → Option Bool
  | .eql => some false
  | .neq => some true
  | _ => none

def resO (nm : List Nat) : Option Operand → Option (Option RX)
  | none => some none
  | some x => (resX nm x).map some

def res1 (nm : List Nat) (f : U) (x : Operand) : Option RK := (resX nm x).map (.u f)
def res2 (nm : List Nat) (f : B) (x y : Operand) : Option RK := match resX nm x, resX nm y with
  | some a, some b => some (.b f a b)
  | _, _ => none

def resCall (P : Program) (nm : List Nat) (o : Oper) (c : Call) : Option RK :=
  match c.callee, c.args.toList, c.argTypes.toList with
  | .value f, args, _ => match resX nm f, resXs nm args with
    | some f, some as => some (.call f as)
    | _, _ => none
  | .builtin .len, [x], [t] => match P.underlying t with
    | some .string => res1 nm .lenS x
    | some (.slice _) => res1 nm .lenL x
    | _ => some (.raw o)
  | .builtin .append, [s, x], [t, tx] => match P.underlying t, P.underlying tx with
    | some (.slice e), some d => match P.info? e, resX nm s, resX nm x with
      | some i, some s, some x => match i.zero with
        | some z => if z.cells.size = i.size then match d with
            | .slice _ => some (.app false e i.size i.bytes z.cells.toList s x)
            | .string => if i.size = 1 then some (.app true e i.size i.bytes z.cells.toList s x) else none
            | _ => none
          else none
        | none => none
      | _, _, _ => none
    | _, _ => none
  | .builtin .clear, [x], [t] => match P.underlying t, resX nm x with
    | some (.slice e), some x => match zeroT P e with
      | some z => if z.cells.toList.all (scal 8) && decide (0 < z.cells.size) then some (.clr e z.cells.toList x) else none
      | none => none
    | _, _ => none
  | .builtin .copy, [d, s], [t, tx] => match P.underlying t, P.underlying tx, resX nm d, resX nm s with
    | some (.slice e), some k, some d, some s => match sizeT P e, k with
      | some sz, .slice _ => some (.cpy sz false d s)
      | some 1, .string => some (.cpy 1 true d s)
      | _, _ => none
    | _, _, _, _ => none
  | _, _, _ => some (.raw o)

def resK (P : Program) (nm : List Nat) (o : Oper) : Option RK :=
  match o.op with
  | .move x => res1 nm .mv x
  | .assign x => res1 nm .mv x
  | .pick c a b => match resX nm c, resX nm a, resX nm b with
    | some c, some a, some b => some (.pk c a b)
    | _, _, _ => none
  | .alloc t => match zeroT P t, sizeT P t with
    | some z, some _ => some (.al t z.cells.toList)
    | _, _ => none
  | .box t x => (sizeT P t).bind fun _ => res1 nm (.bx t) x
  | .build t parts => match zeroT P t, P.underlying t with
    | some z, some (.struct fields) => (places P fields.toList).bind fun pl => (resParts nm (fun i => pl[i]?) parts.toList).map fun ps => .bld z.cells.toList ps
    | some z, some (.array _ e) => (sizeT P e).bind fun n => (resParts nm (fun i => some (i * n, n)) parts.toList).map fun ps => .bld z.cells.toList ps
    | _, _ => none
  | .buildSlice t len parts => match P.underlying t with
    | some (.slice e) => match sizeT P e, zeroT P e with
      | some sz, some z =>
        if len * sz ≤ 16777216 then
          let cs0 := (Array.range (len * sz)).map (z.cells[· % z.cells.size]!)
          if cs0.toList.all (scal 8) then (resParts nm (fun i => some (i * sz, sz)) parts.toList).map fun ps => .bsl e len cs0.toList ps else none
        else none
      | _, _ => none
    | _ => none
  | .load t x => match isAggT P t with
    | some true => (sizeT P t).bind fun n => res1 nm (.ldn n) x
    | some false => res1 nm .ld x
    | none => none
  | .nilCheck x => res1 nm .nk x
  | .binOp op t x y _ => match P.underlying t with
    | some (.int _) => res2 nm (.ar op) x y
    | some .string => res2 nm (.ar op) x y
    | some .bool => (negOf op).bind fun n => res2 nm (.eb n) x y
    | some (.struct fields) => match flatKs P fields.toList 0 with
      | some ks => if !P.stoodInHeld t && !P.eqGuardType P.depth t then (negOf op).bind fun n => res2 nm (.es n ks) x y else some (.raw o)
      | none => some (.raw o)
    | some d => match refK P d with
      | some k => (negOf op).bind fun n => res2 nm (.er n k) x y
      | none => some (.raw o)
    | none => none
  | .unOp .not _ x => res1 nm .nt x
  | .unOp .neg _ x => res1 nm .ng x
  | .convert src dst x => match P.underlying src, P.underlying dst with
    | some (.int _), some (.int k) => res1 nm (.cv k) x
    | some .string, some .string => some (.raw o)
    | some (.slice e), some .string => match P.underlying e with
      | some (.int .u8) => res1 nm .b2s x
      | _ => none
    | some .string, some (.slice e) => match P.underlying e, sizeT P e with
      | some (.int .u8), some 1 => res1 nm (.s2b e) x
      | _, _ => none
    | _, _ => some (.raw o)
  | .makeInterface t x => match P.underlying t with
    | some (.interface _) => none
    | some _ => res1 nm (.ifc t) x
    | none => none
  | .makeFunc fn first cap => match resXs nm first.toList, resXs nm cap.toList with
    | some f, some c => some (.mkf fn f c)
    | _, _ => none
  | .makeMap _ none => some .mm
  | .makeSlice t l c => match P.underlying t with
    | some (.slice e) => match P.info? e, zeroT P e, resX nm l, resX nm c with
      | some i, some z, some l, some c => if z.cells.size = i.size && z.cells.toList.all (scal 8) then some (.msl e z.cells.toList i.bytes l c) else none
      | _, _, _, _ => none
    | _ => none
  | .slice t x lo hi none => match P.underlying t, resX nm x, resO nm lo, resO nm hi with
    | some .string, some x, some lo, some hi => some (.sls x lo hi)
    | some (.slice e), some x, some lo, some hi => (sizeT P e).map fun sz => .sll e sz x lo hi
    | _, _, _, _ => some (.raw o)
  | .fieldAddr s x f => match P.underlying s with
    | some (.struct fields) => match fields[f]? with
      | some fd => match sizeT P fd.type with
        | some (_ + 1) => res1 nm (.fa fd.offset) x
        | _ => none
      | none => none
    | _ => none
  | .field t x f => match P.underlying t with
    | some (.struct fields) => match fields[f]? with
      | some fd => match isAggT P fd.type with
        | some true => (sizeT P fd.type).bind fun n => res1 nm (.fdn fd.offset n) x
        | some false => res1 nm (.fd fd.offset) x
        | none => none
      | none => none
    | _ => none
  | .indexAddr t x i => match P.underlying t with
    | some (.slice e) => (sizeT P e).bind fun n => res2 nm (.ia n) x i
    | some (.array len e) => (sizeT P e).bind fun n => res2 nm (.aa len n) x i
    | _ => none
  | .index t x i => match P.underlying t with
    | some .string => res2 nm .ixs x i
    | _ => some (.raw o)
  | .lookup t x k ok => match P.underlying t with
    | some (.map kt e) => (zeroT P e).bind fun z => res2 nm (.lk kt z ok) x k
    | _ => none
  | .typeAssert x _ t ok => match P.underlying t with
    | some (.interface _) => some (.raw o)
    | some _ => if ok then (zeroT P t).bind fun z => res1 nm (.asn t ok z) x else res1 nm (.asn t ok undef) x
    | none => none
  | .extract x i => res1 nm (.ex i) x
  | .store t a x => match sizeT P t, resX nm a, resX nm x with
    | some n, some a, some x => some (.st n a x)
    | _, _, _ => none
  | .mapUpdate t m k x => match resX nm m, resX nm k, resX nm x with
    | some m, some k, some x => some (.mup t m k x)
    | _, _, _ => none
  | .call c => resCall P nm o c
  | .defer c => match c.callee with
    | .value f => match resX nm f, resXs nm c.args.toList with
      | some f, some as => some (.dfr f as)
      | _, _ => none
    | _ => none
  | .panic x => (resX nm x).map .pan
  | _ => some (.raw o)

end Go.Eng
