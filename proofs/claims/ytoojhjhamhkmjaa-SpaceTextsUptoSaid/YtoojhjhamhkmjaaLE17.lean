/- The engine, part 17: operations whose types are looked up ahead: what they come to, as plain functions of values. -/
import Derived.Test.YtoojhjhamhkmjaaLE16
set_option linter.unusedVariables false
set_option linter.unusedSimpArgs false
namespace Go.Eng

/-- An operand: a named variable, a temporary, a constant, a function. -/
inductive RX where
  | n (i : Nat)
  | t (i : Nat)
  | c (v : Value)
  | f (id : FuncId)

/-- Operations of one operand that write nothing. -/
inductive U where
  | mv
  | ld
  | ldn (n : Nat)
  | fa (off : Nat)
  | fd (off : Nat)
  | fdn (off n : Nat)
  | ex (i : Nat)
  | nk
  | nt
  | ng
  | cv (k : IntKind)
  | lenS
  | lenL
  | ifc (t : TypeId)
  | bx (e : TypeId)
  | b2s
  | s2b (e : TypeId)
  | asn (t : TypeId) (ok : Bool) (z : Value)

/-- The same of two operands. -/
inductive B where
  | ar (op : BinOp)
  | eb (neg : Bool)
  | es (neg : Bool) (ks : List Nat)
  | er (neg : Bool) (k : Nat)
  | ia (sz : Nat)
  | aa (len sz : Nat)
  | ixs
  | lk (kt : TypeId) (z : Value) (ok : Bool)

/-- Numbers. -/
def ibin (op : BinOp) (k : IntKind) (a b : Int) : Option Value :=
  match op with
  | .add => some (.int k (k.wrap (a + b)))
  | .sub => some (.int k (k.wrap (a - b)))
  | .mul => some (.int k (k.wrap (a * b)))
  | .quo => if b = 0 then none else some (.int k (k.wrap (a.tdiv b)))
  | .rem => if b = 0 then none else some (.int k (a.tmod b))
  | .eql => some (.bool (a == b))
  | .neq => some (.bool (a != b))
  | .lss => some (.bool (decide (a < b)))
  | .leq => some (.bool (decide (a ≤ b)))
  | .gtr => some (.bool (decide (a > b)))
  | .geq => some (.bool (decide (a ≥ b)))
  | .and => some (.int k (k.wrap (BitVec.ofInt k.bits a &&& BitVec.ofInt k.bits b).toNat))
  | .or => some (.int k (k.wrap (BitVec.ofInt k.bits a ||| BitVec.ofInt k.bits b).toNat))
  | .xor => some (.int k (k.wrap (BitVec.ofInt k.bits a ^^^ BitVec.ofInt k.bits b).toNat))
  | .shl => if b < 0 then none else some (.int k (k.wrap (a * 2 ^ (min b.toNat k.bits))))
  | .shr => if b < 0 then none else some (.int k (a.fdiv (2 ^ (min b.toNat k.bits))))
  | _ => none

/-- Texts. -/
def sbin (op : BinOp) (x y : ByteArray) : Option Value :=
  match op with
  | .add => if ((x.size + y.size : Nat) : Int) > IntKind.i64.max then none else some (.string (x ++ y))
  | .eql => some (.bool (x.toList == y.toList))
  | .neq => some (.bool !(x.toList == y.toList))
  | .lss => some (.bool (Op.bytesLess x.toList y.toList))
  | .leq => some (.bool (Op.bytesLess x.toList y.toList || x.toList == y.toList))
  | .gtr => some (.bool !(Op.bytesLess x.toList y.toList || x.toList == y.toList))
  | .geq => some (.bool !(Op.bytesLess x.toList y.toList))
  | _ => none

def ldc (h : AH) (b o : Nat) : Option Value := (hcell h b).bind fun cs => cs[o]?

def uval (P : Program) (h : AH) (m : Nat) : U → Value → Option RRes
  | .mv, v => some (v, none)
  | .ld, .pointer (some ⟨b, o, none⟩) => (ldc h b o).map fun v => (v, none)
  | .ldn n, .pointer (some ⟨b, o, none⟩) => (hcell h b).bind fun cs => if o + n ≤ cs.length then some (.agg ((cs.drop o).take n).toArray, none) else none
  | .fa off, .pointer (some ⟨b, o, none⟩) => some (.pointer (some ⟨b, o + off, none⟩), none)
  | .fd off, .agg cs => (cs.toList[off]?).map fun v => (v, none)
  | .fdn off n, .agg cs => some (.agg ((cs.toList.drop off).take n).toArray, none)
  | .ex i, .tuple vs => (vs.toList[i]?).map fun v => (v, none)
  | .nk, .pointer (some a) => some (.pointer (some a), none)
  | .nk, .func (.func f) a b => some (.func (.func f) a b, none)
  | .nt, .bool b => some (.bool !b, none)
  | .ng, .int k a => some (.int k (k.wrap (0 - a)), none)
  | .cv k, .int _ a => some (.int k (k.wrap a), none)
  | .lenS, .string s => some (.int .i64 s.size, none)
  | .lenL, .slice _ n _ => some (.int .i64 n, none)
  | .ifc t, v => some (.iface t v, none)
  | .bx e, v => some (.pointer (some ⟨m, 0, none⟩), some (row e m v.cells.toList))
  | .b2s, .slice (some ⟨b, o, none⟩) n c =>
    if n = 0 then some (.string ByteArray.empty, none) else
    (hcell h b).bind fun cs => if o + n ≤ cs.length then (asBytes ((cs.drop o).take n)).map fun ns => (.string (pushAll ns), none) else none
  | .b2s, .slice none 0 0 => some (.string ByteArray.empty, none)
  | .s2b e, .string s => some (.slice (some ⟨m, 0, none⟩) s.size s.size, some (.cells false true m 0 e (s.data.toList.map fun b => Value.int .u8 b.toNat)))
  | .asn t ok z, .iface t' v => if t' = t then some (if ok then .tuple #[v, .bool true] else v, none) else if ok then some (.tuple #[z, .bool false], none) else none
  | .asn t ok z, .nilIface => if ok then some (.tuple #[z, .bool false], none) else none
  | _, _ => none

/-- Rows of numbers (0), truths (1), texts (2) held against each other. -/
def ceq : List Nat → List Value → List Value → Option Bool
  | [], [], [] => some true
  | 0 :: ks, .int k a :: l, .int k' b :: m => if k = k' then (ceq ks l m).map fun r => (a == b) && r else none
  | 1 :: ks, .bool a :: l, .bool b :: m => (ceq ks l m).map fun r => (a == b) && r
  | 2 :: ks, .string a :: l, .string b :: m => (ceq ks l m).map fun r => (a == b) && r
  | _, _, _ => none

/-- Things of one kind held against each other: pointers (0), rows (1), maps (2), functions (3), boxed values (4). -/
def refV : Nat → Value → Value → Option Bool
  | 0, .pointer none, .pointer b => some b.isNone
  | 0, .pointer (some _), .pointer none => some false
  | 0, .pointer (some a), .pointer (some b) => if a.block = b.block then some (a.off == b.off) else none
  | 1, .slice none _ _, .slice b _ _ => some b.isNone
  | 1, .slice (some _) _ _, .slice none _ _ => some false
  | 2, .map none, .map b => some b.isNone
  | 2, .map (some _), .map none => some false
  | 3, .func _ _ _, .nilFunc => some false
  | 3, .nilFunc, .func _ _ _ => some false
  | 4, .nilIface, .iface _ _ => some false
  | 4, .iface _ _, .nilIface => some false
  | _, _, _ => none

def bval (P : Program) (h : AH) : B → Value → Value → Option RRes
  | .ar op, .int k a, .int k' b => if (k = k' ∨ op = .shl ∨ op = .shr) then (ibin op k a b).map fun v => (v, none) else none
  | .ar op, .string a, .string b => (sbin op a b).map fun v => (v, none)
  | .eb neg, .bool a, .bool b => some (.bool ((a == b) != neg), none)
  | .es neg ks, .agg a, .agg b => (ceq ks a.toList b.toList).map fun r => (.bool (r != neg), none)
  | .er neg k, x, y => (refV k x y).map fun r => (.bool (r != neg), none)
  | .ia sz, .slice (some ⟨b, o, none⟩) len c, .int k i => if 0 ≤ i ∧ i < len then some (.pointer (some ⟨b, o + i.toNat * sz, none⟩), none) else none
  | .aa len sz, .pointer (some ⟨b, o, none⟩), .int k i => if 0 ≤ i ∧ i < len then some (.pointer (some ⟨b, o + i.toNat * sz, none⟩), none) else none
  | .ixs, .string s, .int _ i => if 0 ≤ i then (s[i.toNat]?).map fun b => (.int .u8 b.toNat, none) else none
  | .lk kt z ok, x, k =>
    match (match x with | .map none => some [] | .map (some b) => hmap h b | _ => none) with
    | some es =>
      match rfind P kt k es with
      | some (some j) => (es[j]?).map fun kv => (if ok then .tuple #[kv.2, .bool true] else kv.2, none)
      | some none => some (if ok then .tuple #[z, .bool false] else z, none)
      | none => none
    | none => none
  | _, _, _ => none

/-- Parts laid into a row: where, how many cells, what. -/
def bldv : List Value → List (Nat × Nat × Value) → Option (List Value)
  | cs, [] => some cs
  | cs, (off, n, v) :: l => if v.cells.size = n ∧ off + n ≤ cs.length then bldv (cs.take off ++ v.cells.toList ++ cs.drop (off + n)) l else none

/-! ### That they are what the engine says -/

theorem pureRun_pure {P : Program} {α : Type} (a : α) : pureRun P (pure a : Sem α) = some a := rfl
theorem pureRun_program {P : Program} : pureRun P program = some P := rfl
theorem pureRun_underlying {P : Program} {t : TypeId} {d : TypeDesc} (h : P.underlying t = some d) : pureRun P (underlying t) = some d := by
  simp only [underlying, pureRun_bind, pureRun_program, Option.bind_some, h]; rfl
theorem pureRun_sizeOf {P : Program} {t : TypeId} {n : Nat} (h : sizeT P t = some n) : pureRun P (sizeOf t) = some n := by
  unfold sizeT at h
  cases hi : P.info? t with
  | none => simp [hi] at h
  | some i => simp [hi] at h; simp only [sizeOf, typeInfo, pureRun_bind, pureRun_program, Option.bind_some, hi, pureRun_pure, h]
theorem pureRun_asBool {P : Program} {b : Bool} : pureRun P (asBool (.bool b)) = some b := rfl

theorem foldl_splice (off : Nat) : ∀ (xs : List Value) (k : Nat) (cs : Array Value), off + k + xs.length ≤ cs.size →
    ((xs.zipIdx k).foldl (fun (cs : Array Value) (x : Value × Nat) => cs.setIfInBounds (off + x.2) x.1) cs).toList = cs.toList.take (off + k) ++ xs ++ cs.toList.drop (off + k + xs.length) := by
  intro xs
  induction xs with
  | nil => intro k cs h; simp
  | cons x xs ih =>
    intro k cs h
    simp only [List.length_cons] at h
    rw [List.zipIdx_cons, List.foldl_cons, ih (k + 1) _ (by simp; omega)]
    rw [Array.toList_setIfInBounds]
    have e1 : off + (k + 1) = off + k + 1 := by omega
    rw [e1, List.take_set, List.drop_set]
    have hl : off + k < cs.toList.length := by simp; omega
    rw [if_pos (by simp; omega)]
    have e2 : (List.take (off + k + 1) cs.toList).set (off + k) x = List.take (off + k) cs.toList ++ [x] := by
      have hm : min (off + k) cs.size = off + k := Nat.min_eq_left (by simp at hl; omega)
      rw [List.take_succ_eq_append_getElem hl, List.set_append]
      simp [hm]
    rw [e2]
    simp [Nat.add_assoc, Nat.add_comm, Nat.add_left_comm]

theorem fill_bldv (place : Nat → Option (Nat × Nat)) : ∀ (l : List (Nat × Value)) (l' : List (Nat × Nat × Value)) (z : List Value) (out : List Value), l.length = l'.length →
    (∀ (i : Nat) (p : Nat × Value) (q : Nat × Nat × Value), l[i]? = some p → l'[i]? = some q → place p.1 = some (q.1, q.2.1) ∧ p.2 = q.2.2) → bldv z l' = some out → Instr.fill place z.toArray l = some out.toArray := by
  intro l
  induction l with
  | nil => intro l' z out hl h hb; cases l' with
    | nil => simp [bldv] at hb; subst hb; rfl
    | cons => simp at hl
  | cons p l ih =>
    intro l' z out hl h hb
    cases l' with
    | nil => simp at hl
    | cons q l' =>
      obtain ⟨i, v⟩ := p
      obtain ⟨off, n, v'⟩ := q
      obtain ⟨e1, e2⟩ := h 0 _ _ rfl rfl
      simp only at e1 e2
      subst e2
      simp only [bldv] at hb
      split at hb
      case isFalse => cases hb
      case isTrue hc =>
        simp only [Instr.fill, e1]
        rw [if_neg (by simp; omega)]
        have := ih l' _ out (by simpa using hl) (fun j a b ha hb => h (j + 1) a b (by simpa using ha) (by simpa using hb)) hb
        refine Eq.trans ?_ this
        congr 1
        apply Array.ext'
        have hs := foldl_splice off v.cells.toList 0 z.toArray (by simp; omega)
        simp only [← Array.foldl_toList, Array.toList_zipIdx]
        simpa [hc.1] using hs

end Go.Eng
