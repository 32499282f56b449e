import Derived.Shelf.Strconv.Itoa3
import Derived.Shelf.Strings.Shaped
import Derived.Test.YtijanegfgaphoaaGreatDoorProg
import Derived.Test.YtijanegfgaphoaaGreatDoorPk20
import Derived.Test.YtijanegfgaphoaaGreatDoorPk14
import Derived.Tactics
import Derived.Tactics2
import Derived.WalkKit
import Derived.WalkSpells
import Derived.StillTactics
import Derived.Laws.IdiomStrings
import Derived.KernelRfl
import Derived.Great.BuildSlice
import Derived.Lib.ItoaNum
import Derived.Below
set_option linter.unusedVariables false
set_option linter.unusedSimpArgs false
namespace Go.Proofs
open Go.Shelf
def Tryz.laysItoa_ren : Go.Shelf.Ren := ⟨fun | 171 => 36 | 243 => 52 | 246 => 73 | 283 => 80 | 284 => 81 | 285 => 82 | 286 => 83 | 129 => 88 | 317 => 87 | 318 => 89 | 319 => 90 | 320 => 91 | 337 => 93 | 338 => 94 | n => n, fun | 3 => 3 | 9 => 9 | 2 => 2 | 4 => 4 | 171 => 125 | 0 => 0 | 53 => 126 | 37 => 47 | 5 => 5 | 173 => 129 | 212 => 136 | 51 => 131 | 20 => 20 | 213 => 137 | 46 => 121 | 232 => 141 | 233 => 142 | n => n, fun | 17 => 1 | 18 => 2 | 19 => 3 | n => n⟩
theorem Tryz.laysItoa : Go.Proofs.LaysM.n171 Tryz.prog Tryz.laysItoa_ren := {
  mixed := by kernel_rfl
  f129 := Tryz.func88.trans (congrArg some (by kernel_rfl))
  f171 := Tryz.func36.trans (congrArg some (by kernel_rfl))
  f243 := Tryz.func52.trans (congrArg some (by kernel_rfl))
  f246 := Tryz.func73.trans (congrArg some (by kernel_rfl))
  f283 := Tryz.func80.trans (congrArg some (by kernel_rfl))
  f284 := Tryz.func81.trans (congrArg some (by kernel_rfl))
  f285 := Tryz.func82.trans (congrArg some (by kernel_rfl))
  f286 := Tryz.func83.trans (congrArg some (by kernel_rfl))
  f317 := Tryz.func87.trans (congrArg some (by kernel_rfl))
  f318 := Tryz.func89.trans (congrArg some (by kernel_rfl))
  f319 := Tryz.func90.trans (congrArg some (by kernel_rfl))
  f320 := Tryz.func91.trans (congrArg some (by kernel_rfl))
  f337 := Tryz.func93.trans (congrArg some (by kernel_rfl))
  f338 := Tryz.func94.trans (congrArg some (by kernel_rfl))
  t0 := Tryz.underlying0
  a0 := Tryz.isAgg0
  z0 := Tryz.sizeOf0
  v0 := Tryz.zeroValue0
  t2 := Tryz.underlying2
  a2 := Tryz.isAgg2
  z2 := Tryz.sizeOf2
  v2 := Tryz.zeroValue2
  t3 := Tryz.underlying3
  a3 := Tryz.isAgg3
  z3 := Tryz.sizeOf3
  v3 := Tryz.zeroValue3
  t4 := Tryz.underlying4
  a4 := Tryz.isAgg4
  z4 := Tryz.sizeOf4
  v4 := Tryz.zeroValue4
  t5 := Tryz.underlying5
  a5 := Tryz.isAgg5
  z5 := Tryz.sizeOf5
  v5 := Tryz.zeroValue5
  t9 := Tryz.underlying9
  a9 := Tryz.isAgg9
  z9 := Tryz.sizeOf9
  v9 := Tryz.zeroValue9
  t20 := Tryz.underlying20
  a20 := Tryz.isAgg20
  z20 := Tryz.sizeOf20
  v20 := Tryz.zeroValue20
  t37 := Tryz.underlying47
  a37 := Tryz.isAgg47
  z37 := Tryz.sizeOf47
  v37 := Tryz.zeroValue47
  t46 := Tryz.underlying121
  a46 := Tryz.isAgg121
  z46 := Tryz.sizeOf121
  v46 := Tryz.zeroValue121
  t51 := Tryz.underlying131
  a51 := Tryz.isAgg131
  z51 := Tryz.sizeOf131
  v51 := Tryz.zeroValue131
  t53 := Tryz.underlying126
  a53 := Tryz.isAgg126
  z53 := Tryz.sizeOf126
  v53 := Tryz.zeroValue126
  t171 := Tryz.underlying125
  a171 := Tryz.isAgg125
  z171 := Tryz.sizeOf125
  v171 := Tryz.zeroValue125
  t173 := Tryz.underlying129
  a173 := Tryz.isAgg129
  z173 := Tryz.sizeOf129
  v173 := Tryz.zeroValue129
  t212 := Tryz.underlying136
  a212 := Tryz.isAgg136
  z212 := Tryz.sizeOf136
  v212 := Tryz.zeroValue136
  t213 := Tryz.underlying137
  a213 := Tryz.isAgg137
  z213 := Tryz.sizeOf137
  t232 := Tryz.underlying141
  a232 := Tryz.isAgg141
  z232 := Tryz.sizeOf141
  v232 := Tryz.zeroValue141
  t233 := Tryz.underlying142
  a233 := Tryz.isAgg142
  z233 := Tryz.sizeOf142
  v233 := Tryz.zeroValue142
  g17 := by kernel_rfl
  g18 := by kernel_rfl
  g19 := by kernel_rfl
  i0 := by kernel_rfl
  i2 := by kernel_rfl
  i3 := by kernel_rfl
  i4 := by kernel_rfl
  i5 := by kernel_rfl
  i9 := by kernel_rfl
  i20 := by kernel_rfl
  i37 := by kernel_rfl
  i46 := by kernel_rfl
  i51 := by kernel_rfl
  i53 := by kernel_rfl
  i171 := by kernel_rfl
  i173 := by kernel_rfl
  i212 := by kernel_rfl
  i232 := by kernel_rfl
  i233 := by kernel_rfl
  m17 := by kernel_rfl
  m18 := by kernel_rfl
  m19 := by kernel_rfl }
def Tryz.laysContains_ren : Go.Shelf.Ren := ⟨fun | 144 => 28 | 143 => 41 | 219 => 54 | 217 => 74 | 225 => 75 | 224 => 76 | 267 => 77 | 266 => 84 | 314 => 85 | n => n, fun | 9 => 9 | 4 => 4 | 3 => 3 | 5 => 5 | 46 => 121 | 146 => 132 | 51 => 131 | n => n, fun | 1 => 0 | n => n⟩
theorem Tryz.laysContains : Go.Proofs.LaysM.n144 Tryz.prog Tryz.laysContains_ren := {
  mixed := by kernel_rfl
  f143 := Tryz.func41.trans (congrArg some (by kernel_rfl))
  f144 := Tryz.func28.trans (congrArg some (by kernel_rfl))
  f217 := Tryz.func74.trans (congrArg some (by kernel_rfl))
  f219 := Tryz.func54.trans (congrArg some (by kernel_rfl))
  f224 := Tryz.func76.trans (congrArg some (by kernel_rfl))
  f225 := Tryz.func75.trans (congrArg some (by kernel_rfl))
  f266 := Tryz.func84.trans (congrArg some (by kernel_rfl))
  f267 := Tryz.func77.trans (congrArg some (by kernel_rfl))
  f314 := Tryz.func85.trans (congrArg some (by kernel_rfl))
  t3 := Tryz.underlying3
  a3 := Tryz.isAgg3
  z3 := Tryz.sizeOf3
  v3 := Tryz.zeroValue3
  t4 := Tryz.underlying4
  a4 := Tryz.isAgg4
  z4 := Tryz.sizeOf4
  v4 := Tryz.zeroValue4
  t5 := Tryz.underlying5
  a5 := Tryz.isAgg5
  z5 := Tryz.sizeOf5
  v5 := Tryz.zeroValue5
  t9 := Tryz.underlying9
  a9 := Tryz.isAgg9
  z9 := Tryz.sizeOf9
  v9 := Tryz.zeroValue9
  t46 := Tryz.underlying121
  a46 := Tryz.isAgg121
  z46 := Tryz.sizeOf121
  v46 := Tryz.zeroValue121
  t51 := Tryz.underlying131
  a51 := Tryz.isAgg131
  z51 := Tryz.sizeOf131
  v51 := Tryz.zeroValue131
  t146 := Tryz.underlying132
  a146 := Tryz.isAgg132
  z146 := Tryz.sizeOf132
  v146 := Tryz.zeroValue132
  g1 := by kernel_rfl
  i3 := by kernel_rfl
  i4 := by kernel_rfl
  i5 := by kernel_rfl
  i9 := by kernel_rfl
  i46 := by kernel_rfl
  i51 := by kernel_rfl
  i146 := by kernel_rfl
  m1 := by kernel_rfl
  s1_3 := fun w h => Go.Proofs.cell_of_shapedOpen_int (zero := #[.int .i64 0]) (t := 3) h (of_decide_eq_true (by kernel_rfl)) (by kernel_rfl) rfl (by kernel_rfl) (by kernel_rfl) Tryz.underlying3 }
end Go.Proofs

namespace Go.S17
open Go Go.Eng Go.Proofs Go.Scn
theorem itoa_ok (n : Int) (h0 : -9223372036854775808 <= n) (h1 : n <= 9223372036854775807) (h : AH) : Gets Tryz.prog 36 [iv n] h (fun res h' => h' = h /\ res = .ret (tv (Lib.itoa n))) := by
  refine Gets.ofCalls (fn := Tryz.prog.funcs[36]!) hP (by kernel_rfl) (c := (Tryz.prog.funcs[36]!).body.getD .skip) (by kernel_rfl) rfl rfl (fun W hT => ?_) h
  refine Calls.mono (Any.strconv_Itoa (P := Tryz.prog) Tryz.laysItoa n h0 h1 W (tab_pow hT (by kernel_rfl : Tryz.prog.globalNamed "internal/strconv.uint64pow10" = some 1) (by kernel_rfl))) fun e w' he => ?_
  obtain ⟨rfl, k, os, rfl⟩ := he
  exact ⟨rfl, below_grow⟩
end Go.S17

namespace Go.S17
open Go Go.Eng Go.Proofs Go.Scn
abbrev bdT : TypeId := 49
structure Bd (h : AH) (b : Nat) (acc : Bs) (a v : Value) : Prop where
  own : Own h b bdT [a, v]
  ad : a = .pointer none \/ a = .pointer (some ⟨b, 0, none⟩)
  ow : Ows h 5 1 v acc.length (acc.map bv)
  ne : ∀ q, bk v q -> b < q
  nl : acc = [] -> v = .slice none 0 0
theorem noesc_ok (v : Value) (h : AH) : Gets Tryz.prog 51 [v] h (fun res h' => h' = h /\ res = .ret v) := by
  refine Gets.extB (h' := h) (res := .ret v) ?_ (Nat.le_refl _) ⟨rfl, rfl⟩
  have hf : Tryz.prog.funcs[(51 : Nat)]? = some (Tryz.prog.funcs[51]!) := by kernel_rfl
  have hb : ((Tryz.prog.funcs[51]!).body.isNone && ((Extern.allNextRows.lookup (Tryz.prog.funcs[51]!).origin).isNone)) = true := by kernel_rfl
  have hn : ((Tryz.prog.funcs[51]!).name == "internal/abi.NoEscape") = true := by kernel_rfl
  simp only [aextB, hf, hb, hn, if_true]
theorem copyCheck_ok {h : AH} {b : Nat} {acc : Bs} {a v : Value} (x : Bd h b acc a v) : Gets Tryz.prog 34 [.pointer (some ⟨b, 0, none⟩)] h
    (fun res h' => res = .ret (.tuple #[]) /\ Keep (· = b) h h' /\ Bd h' b acc (.pointer (some ⟨b, 0, none⟩)) v) := by
  refine Gets.of (keep := false) hP (draw_ok hM) k34 (by rfl) (fun Ψ hΨ => ?_)
  obtain ⟨va, vc, rfl⟩ := row_shape x.ow.rds
  have o := x.own
  obtain ⟨g, hg⟩ := x.own
  rcases x.ad with rfl | rfl
  · simp only [mach, mach2, mstd, ↓reduceIte, Nat.reduceEqDiff, Nat.reduceAdd, Nat.reduceMul, r34, o.cells.ld, mbl, Nat.reduceLeDiff, Nat.reduceLT, Int.reduceEq, u_up o.cells (show 0 < 2 by omega)]
    refine XX_val (noesc_ok _ h) ?_
    simp only [mach, mach2, mstd, ↓reduceIte, Nat.reduceEqDiff, Nat.reduceAdd, Nat.reduceMul, u_pu hg (show 2 <= 2 by omega)]
    refine XH_own o rfl (by simp [Value.cells]) rfl (fun h' q1 q2 q3 => ?_)
    have o' : Own h' b bdT [.pointer (some ⟨b, 0, none⟩), .slice va acc.length vc] := by simpa [Value.cells] using q1
    simp only [mach, mach2, mstd, ↓reduceIte, Nat.reduceEqDiff, Nat.reduceAdd, Nat.reduceMul]
    exact hΨ _ _ (fin_norm ⟨rfl, q2, o', .inr rfl, x.ow.keep q2 (fun q hq e => by have := x.ne q hq; omega), x.ne, x.nl⟩)
  · simp only [mach, mach2, mstd, ↓reduceIte, Nat.reduceEqDiff, Nat.reduceAdd, Nat.reduceMul, r34, o.cells.ld, mbl, Nat.reduceLeDiff, Nat.reduceLT, Int.reduceEq]
    exact hΨ _ _ (fin_norm ⟨rfl, .refl _ _, o, .inr rfl, x.ow, x.ne, x.nl⟩)
theorem writeByte_ok {h : AH} {b : Nat} {acc : Bs} {a v : Value} (x : Bd h b acc a v) (c : UInt8) (hl : acc.length <= 140000000000000) : Gets Tryz.prog 35 [.pointer (some ⟨b, 0, none⟩), bv c] h
    (fun res h' => res = .ret .nilIface /\ Keep (fun q => q = b \/ bk v q) h h' /\ ∃ v', Bd h' b (acc ++ [c]) (.pointer (some ⟨b, 0, none⟩)) v' /\ ∀ q, bk v' q -> bk v q \/ h.length <= q) := by
  refine Gets.of (keep := false) hP (draw_ok hM) k35 (by rfl) (fun Ψ hΨ => ?_)
  simp only [mach, mach2, mstd, ↓reduceIte, Nat.reduceEqDiff, Nat.reduceAdd, Nat.reduceMul, r35]
  refine XX_of (copyCheck_ok x) (fun res h1 hle hr => ?_)
  obtain ⟨rfl, k1, x1⟩ := hr
  refine .ret ?_
  obtain ⟨s', h', a1, a2, a3, a4⟩ := app1 (bytes := 1) x1.ow (xs := [bv c]) rfl rfl (by omega) (by omega)
  obtain ⟨va, vc, rfl⟩ := row_shape x1.ow.rds
  obtain ⟨sa, sc, rfl⟩ := row_shape a2.rds
  simp only [mach, mach2, mstd, ↓reduceIte, Nat.reduceEqDiff, Nat.reduceAdd, Nat.reduceMul, x1.own.cells.ld, mbl, Nat.reduceLeDiff, Nat.reduceLT, Int.reduceEq, a1]
  have o2 : Own h' b bdT [.pointer (some ⟨b, 0, none⟩), .slice va acc.length vc] := x1.own.keep a3 (fun e => by have := x1.ne b e; omega)
  refine XH_own o2 rfl (by simp [Value.cells]) rfl (fun h2 q1 q2 q3 => ?_)
  have o3 : Own h2 b bdT [.pointer (some ⟨b, 0, none⟩), .slice sa (acc.length + 1) sc] := by simpa [Value.cells] using q1
  have hb := x1.own.lt
  have hlen := k1.len
  have hbl := x.own.lt
  have fr : ∀ q, bk (.slice sa (acc.length + 1) sc) q -> b < q := fun q hq => by
    rcases a4 q hq with e | e
    · exact x1.ne q e
    · omega
  simp only [mach, mach2, mstd, ↓reduceIte, Nat.reduceEqDiff, Nat.reduceAdd, Nat.reduceMul]
  refine hΨ _ _ (fin_ret (rv1 rfl ⟨rfl, ?_, _, ⟨o3, .inr rfl, ?_, fr, fun e => by simp at e⟩, fun q hq => ?_⟩))
  · exact ((k1.mono (fun c e => .inl e)).trans' a3 (fun q hq e => .inr e)).trans' q2 (fun q hq e => .inl e)
  · have := a2.keep q2 (fun q hq e => by have := fr q hq; omega)
    simpa using this
  · exact (a4 q hq).imp id (fun e => by omega)
theorem writeString_ok {h : AH} {b : Nat} {acc : Bs} {a v : Value} (x : Bd h b acc a v) (l : Bs) (hl : acc.length + l.length <= 140000000000000) : Gets Tryz.prog 19 [.pointer (some ⟨b, 0, none⟩), tv l] h
    (fun res h' => res = .ret (.tuple #[iv l.length, .nilIface]) /\ Keep (fun q => q = b \/ bk v q) h h' /\ ∃ v', Bd h' b (acc ++ l) (.pointer (some ⟨b, 0, none⟩)) v' /\ ∀ q, bk v' q -> bk v q \/ h.length <= q) := by
  refine Gets.of (keep := false) hP (draw_ok hM) k19 (by rfl) (fun Ψ hΨ => ?_)
  simp only [mach, mach2, mstd, ↓reduceIte, Nat.reduceEqDiff, Nat.reduceAdd, Nat.reduceMul, r19]
  refine XX_of (copyCheck_ok x) (fun res h1 hle hr => ?_)
  obtain ⟨rfl, k1, x1⟩ := hr
  refine .ret ?_
  obtain ⟨s', h', a1, a2, a3, a4⟩ := x1.ow.app (bytes := 1) (str := true) (x := tv l) (m := l.length) (xs := l.map bv) (by simp [srcv, tx_size, cells_tx]) (by simp) (by simp [Value.oneCell']) (by omega) (by omega)
  have nl : acc ++ l = [] -> s' = .slice none 0 0 := fun e => by
    obtain ⟨e1, e2⟩ := List.append_eq_nil_iff.1 e
    have hv := x1.nl e1
    subst e2
    rw [hv] at a1
    simp [appv, srcv, tx_size] at a1
    exact a1.1.symm
  obtain ⟨va, vc, rfl⟩ := row_shape x1.ow.rds
  obtain ⟨sa, sc, rfl⟩ := row_shape a2.rds
  simp only [mach, mach2, mstd, ↓reduceIte, Nat.reduceEqDiff, Nat.reduceAdd, Nat.reduceMul, x1.own.cells.ld, mbl, Nat.reduceLeDiff, Nat.reduceLT, Int.reduceEq, a1]
  have o2 : Own h' b bdT [.pointer (some ⟨b, 0, none⟩), .slice va acc.length vc] := x1.own.keep a3 (fun e => by have := x1.ne b e; omega)
  refine XH_own o2 rfl (by simp [Value.cells]) rfl (fun h2 q1 q2 q3 => ?_)
  have o3 : Own h2 b bdT [.pointer (some ⟨b, 0, none⟩), .slice sa (acc.length + l.length) sc] := by simpa [Value.cells] using q1
  have hb := x1.own.lt
  have hlen := k1.len
  have hbl := x.own.lt
  have fr : ∀ q, bk (.slice sa (acc.length + l.length) sc) q -> b < q := fun q hq => by
    rcases a4 q hq with e | e
    · exact x1.ne q e
    · omega
  simp only [mach, mach2, mstd, ↓reduceIte, Nat.reduceEqDiff, Nat.reduceAdd, Nat.reduceMul, tx_size]
  refine hΨ _ _ (fin_ret (rv2 rfl rfl ⟨rfl, ?_, _, ⟨o3, .inr rfl, ?_, fr, nl⟩, fun q hq => ?_⟩))
  · exact ((k1.mono (fun c e => .inl e)).trans' a3 (fun q hq e => .inr e)).trans' q2 (fun q hq e => .inl e)
  · have := a2.keep q2 (fun q hq e => by have := fr q hq; omega)
    simpa using this
  · exact (a4 q hq).imp id (fun e => by omega)
theorem string_ok {h : AH} {b : Nat} {acc : Bs} {a v : Value} (x : Bd h b acc a v) (hl : acc.length <= 140000000000000) : Gets Tryz.prog 22 [.pointer (some ⟨b, 0, none⟩)] h
    (fun res h' => res = .ret (tv acc) /\ Keep (bk v) h h') := by
  refine Gets.of (keep := false) hP (draw_ok hM) k22 (by rfl) (fun Ψ hΨ => ?_)
  have hv := x.own
  by_cases h0 : acc = []
  · have e := x.nl h0
    subst h0 e
    have hu : ustv h 5 (.pointer none) (iv 0) = some (.string ByteArray.empty, h) := rfl
    simp only [mach, mach2, mstd, ↓reduceIte, Nat.reduceEqDiff, Nat.reduceAdd, Nat.reduceMul, r22, hv.cells.ld, mbl, Nat.reduceLeDiff, Nat.reduceLT, Int.reduceEq, hu]
    exact hΨ _ _ (fin_ret (rv1 rfl ⟨rfl, .refl _ _⟩))
  · have hpos : 0 < acc.length := List.length_pos_iff.2 h0
    obtain ⟨b2, c, all, e, ob, hall, hnc, htk⟩ := ows_open x.ow hpos
    subst e
    have hc0 : c ≠ 0 := by omega
    obtain ⟨g, hg⟩ := ob
    have hu : ustv h 5 (.pointer (some ⟨b2, 0, none⟩)) (iv acc.length) = some (.string (tx acc), h.set b2 (.cells false true g 0 5 all)) := by
      have h1 : ¬ (acc.length : Int) = 0 := by omega
      have h2 : (0 : Int) < (acc.length : Int) := by omega
      have h3 : 0 + acc.length <= all.length := by omega
      have h4 : (acc.length : Int) <= 9223372036854775807 := by omega
      simp only [ustv, h1, if_false, hg, Int.toNat_natCast, h2, h3, h4, and_self, if_true, List.drop_zero, htk, asBytes_tx, Option.map_some, pushAll_tx]
    simp only [mach, mach2, mstd, ↓reduceIte, Nat.reduceEqDiff, Nat.reduceAdd, Nat.reduceMul, r22, hv.cells.ld, mbl, Nat.reduceLeDiff, Nat.reduceLT, Int.reduceEq, hc0, hu, ct1]
    exact hΨ _ _ (fin_ret (rv1 rfl ⟨rfl, (Keep.set _ _ _).mono (fun q e => e)⟩))
end Go.S17

namespace Go.Proofs
open Go.RowKit Go.Eng
def dgDst : List Nat := [10, 11, 12, 13, 14, 15, 16, 17, 18, 19, 2]
def dgVal (n : Nat) (S : ByteArray) : Nat -> Option Value
  | 0 => some (.int .i64 n)
  | 1 => some (.int .i64 ((n / 10 : Nat) : Int))
  | 2 => some (.string S)
  | 3 => some (.int .i64 n)
  | 4 => some (.int .i64 ((n % 10 : Nat) : Int))
  | 5 => some (.int .i64 ((48 + n % 10 : Nat) : Int))
  | 6 => some (.int .u8 ((48 + n % 10 : Nat) : Int))
  | 8 => some (.string ⟨#[UInt8.ofNat (48 + n % 10)]⟩)
  | 9 => some (.string (S ++ ⟨#[UInt8.ofNat (48 + n % 10)]⟩))
  | 10 => some (.string (S ++ ⟨#[UInt8.ofNat (48 + n % 10)]⟩))
  | _ => none
structure DgI (w0 : World) (n : Nat) (S : ByteArray) (L : Nat -> Bool) (a : Act) (w : World) : Prop where
  be : Below w0.heap.size w0 w
  ds : a.defers = []
  sz : a.tmps.size = 20
  t0 : a.tmps[0]? = some (.int .i64 n)
  vs : ∀ i t v, L i = true -> dgDst[i]? = some t -> dgVal n S i = some v -> a.tmps[t]? = some v
  row : L 7 = true -> ∃ g, a.tmps[17]? = some (.slice (some ⟨g, 0, none⟩) 1 1) /\ w.cell? ⟨g, 0, none⟩ = some (.int .u8 ((48 + n % 10 : Nat) : Int))
section
variable {a : Act} {w : World} {n : Nat}
end
set_option maxRecDepth 100000
end Go.Proofs

namespace Go.S17
open Go Go.Eng Go.Proofs Go.Scn
def hxd : Bs := [48, 49, 50, 51, 52, 53, 54, 55, 56, 57, 97, 98, 99, 100, 101, 102]
def escS (c : Int) : Option Bs :=
  if c < 0 \/ 255 < c then none else if c = 10 then some [92, 110] else if c = 9 then some [92, 116] else
  if c = 92 \/ c = 39 \/ c = 34 then some [92, UInt8.ofNat c.toNat] else if 32 <= c /\ c <= 126 then some [UInt8.ofNat c.toNat] else
  some [92, 120, hxd.getD (c.toNat / 16) 0, hxd.getD (c.toNat % 16) 0]
def escV : Option Bs -> Value
  | none => .tuple #[.string ⟨#[]⟩, iv 1]
  | some l => .tuple #[tv l, iv 0]
theorem escS_len {c : Int} {l : Bs} (h : escS c = some l) : l.length <= 4 := by
  unfold escS at h
  split at h
  · cases h
  · split at h
    · cases h; simp
    · split at h
      · cases h; simp
      · split at h
        · cases h; simp
        · split at h <;> (cases h; simp)
theorem bv_of {c : Int} (h0 : 0 <= c) (h1 : c <= 255) : bv (UInt8.ofNat c.toNat) = .int .u8 c := by
  show Value.int .u8 (((UInt8.ofNat c.toNat).toNat : Nat) : Int) = _
  rw [u8nat (by omega)]; congr 1; omega
theorem b2s_row {h : AH} {m : Nat} {l : Bs} : uval Tryz.prog (h ++ [row 5 h.length (l.map bv)]) m .b2s (.slice (some ⟨h.length, 0, none⟩) l.length l.length) = some (.string (tx l), none) :=
  b2s_tx (l := l) (.mk (Own.new h 5 h.length (l.map bv)).cells (by simp) (by rw [List.drop_zero, Nat.mul_one]; exact List.take_of_length_le (by simp)))
set_option maxHeartbeats 1000000 in
theorem Escape_ok (c : Int) (h : AH) : Gets Tryz.prog 37 [iv c] h (fun res h' => Keep (fun _ => False) h h' /\ res = .ret (escV (escS c))) := by
  refine Gets.of (keep := false) hP (draw_ok hM) k37 (by rfl) (fun Ψ hΨ => ?_)
  by_cases h0 : c < 0
  · simp only [mach, mach2, mstd, ↓reduceIte, Nat.reduceEqDiff, Nat.reduceAdd, Nat.reduceMul, r37, eq_true h0]
    exact hΨ _ _ (fin_ret (rv2 rfl rfl ⟨.refl _ _, by rw [escS, if_pos (by omega)]; rfl⟩))
  by_cases h1 : 255 < c
  · simp only [mach, mach2, mstd, ↓reduceIte, Nat.reduceEqDiff, Nat.reduceAdd, Nat.reduceMul, r37, h0, eq_true h1]
    exact hΨ _ _ (fin_ret (rv2 rfl rfl ⟨.refl _ _, by rw [escS, if_pos (by omega)]; rfl⟩))
  by_cases h2 : c = 10
  · simp only [mach, mach2, mstd, ↓reduceIte, Nat.reduceEqDiff, Nat.reduceAdd, Nat.reduceMul, r37, h0, h1, eq_true h2]
    exact hΨ _ _ (fin_ret (rv2 rfl rfl ⟨.refl _ _, by rw [escS, if_neg (by omega), if_pos h2]; rfl⟩))
  by_cases h3 : c = 9
  · simp only [mach, mach2, mstd, ↓reduceIte, Nat.reduceEqDiff, Nat.reduceAdd, Nat.reduceMul, r37, h0, h1, h2, eq_true h3]
    exact hΨ _ _ (fin_ret (rv2 rfl rfl ⟨.refl _ _, by rw [escS, if_neg (by omega), if_neg h2, if_pos h3]; rfl⟩))
  have hw : IntKind.u8.wrap c = c := u8w (by omega) (by omega)
  have hbv := bv_of (c := c) (by omega) (by omega)
  have k2 : ∀ (l : List Value), Keep (fun _ => False) h (h ++ [row 5 h.length l]) := fun l => Keep.push _ _ _
  have e2 : uval Tryz.prog (h ++ [row 5 h.length [.int .u8 92, .int .u8 c]]) (h ++ [row 5 h.length [.int .u8 92, .int .u8 c]]).length .b2s (.slice (some ⟨h.length, 0, none⟩) 2 2) = some (tv [92, UInt8.ofNat c.toNat], none) := by
    have := b2s_row (h := h) (m := (h ++ [row 5 h.length [.int .u8 92, .int .u8 c]]).length) (l := [92, UInt8.ofNat c.toNat])
    rw [show ([92, UInt8.ofNat c.toNat] : Bs).map bv = [.int .u8 92, .int .u8 c] by rw [List.map_cons, List.map_cons, hbv]; rfl] at this
    exact this
  have e1 : uval Tryz.prog (h ++ [row 5 h.length [.int .u8 c]]) (h ++ [row 5 h.length [.int .u8 c]]).length .b2s (.slice (some ⟨h.length, 0, none⟩) 1 1) = some (tv [UInt8.ofNat c.toNat], none) := by
    have := b2s_row (h := h) (m := (h ++ [row 5 h.length [.int .u8 c]]).length) (l := [UInt8.ofNat c.toNat])
    rw [show ([UInt8.ofNat c.toNat] : Bs).map bv = [.int .u8 c] by rw [List.map_cons, hbv]; rfl] at this
    exact this
  by_cases h4 : c = 92
  · simp only [mach, mach2, mstd, ↓reduceIte, Nat.reduceEqDiff, Nat.reduceAdd, Nat.reduceMul, r37, h0, h1, h2, h3, eq_true h4, hw, mbl, Nat.reduceLeDiff, Nat.reduceLT, Int.reduceEq, e2]
    refine hΨ _ _ (fin_ret (rv2 rfl rfl ⟨k2 _, ?_⟩))
    rw [escS, if_neg (by omega), if_neg h2, if_neg h3, if_pos (by omega)]; rfl
  by_cases h5 : c = 39
  · simp only [mach, mach2, mstd, ↓reduceIte, Nat.reduceEqDiff, Nat.reduceAdd, Nat.reduceMul, r37, h0, h1, h2, h3, h4, eq_true h5, hw, mbl, Nat.reduceLeDiff, Nat.reduceLT, Int.reduceEq, e2]
    refine hΨ _ _ (fin_ret (rv2 rfl rfl ⟨k2 _, ?_⟩))
    rw [escS, if_neg (by omega), if_neg h2, if_neg h3, if_pos (by omega)]; rfl
  by_cases h6 : c = 34
  · simp only [mach, mach2, mstd, ↓reduceIte, Nat.reduceEqDiff, Nat.reduceAdd, Nat.reduceMul, r37, h0, h1, h2, h3, h4, h5, eq_true h6, hw, mbl, Nat.reduceLeDiff, Nat.reduceLT, Int.reduceEq, e2]
    refine hΨ _ _ (fin_ret (rv2 rfl rfl ⟨k2 _, ?_⟩))
    rw [escS, if_neg (by omega), if_neg h2, if_neg h3, if_pos (by omega)]; rfl
  have hz : ¬ (c = 92 \/ c = 39 \/ c = 34) := by omega
  have hq : Int.tdiv c 16 = ((c.toNat / 16 : Nat) : Int) := by rw [Int.tdiv_eq_ediv_of_nonneg (by omega)]; omega
  have hr : Int.tmod c 16 = ((c.toNat % 16 : Nat) : Int) := by rw [Int.tmod_eq_emod_of_nonneg (by omega)]; omega
  have hwq : IntKind.i64.wrap ((c.toNat / 16 : Nat) : Int) = ((c.toNat / 16 : Nat) : Int) := i64w (by omega) (by omega)
  have a1 : hxd[c.toNat / 16]? = some (hxd.getD (c.toNat / 16) 0) := by rw [List.getD_eq_getElem?_getD, List.getElem?_eq_getElem (by simp [hxd]; omega)]; rfl
  have a2 : hxd[c.toNat % 16]? = some (hxd.getD (c.toNat % 16) 0) := by rw [List.getD_eq_getElem?_getD, List.getElem?_eq_getElem (by simp [hxd]; omega)]; rfl
  have z1 : (0 : Int) <= ((c.toNat / 16 : Nat) : Int) := by omega
  have z2 : (0 : Int) <= ((c.toNat % 16 : Nat) : Int) := by omega
  have x1 : (⟨#[48, 49, 50, 51, 52, 53, 54, 55, 56, 57, 97, 98, 99, 100, 101, 102]⟩ : ByteArray)[c.toNat / 16]? = some (hxd.getD (c.toNat / 16) 0) := (tx_get hxd _).trans a1
  have x2 : (⟨#[48, 49, 50, 51, 52, 53, 54, 55, 56, 57, 97, 98, 99, 100, 101, 102]⟩ : ByteArray)[c.toNat % 16]? = some (hxd.getD (c.toNat % 16) 0) := (tx_get hxd _).trans a2
  have e4 : uval Tryz.prog (h ++ [row 5 h.length [.int .u8 92, .int .u8 120, .int .u8 ((hxd.getD (c.toNat / 16) 0).toNat : Int), .int .u8 ((hxd.getD (c.toNat % 16) 0).toNat : Int)]]) (h ++ [row 5 h.length [.int .u8 92, .int .u8 120, .int .u8 ((hxd.getD (c.toNat / 16) 0).toNat : Int), .int .u8 ((hxd.getD (c.toNat % 16) 0).toNat : Int)]]).length .b2s (.slice (some ⟨h.length, 0, none⟩) 4 4) = some (tv [92, 120, hxd.getD (c.toNat / 16) 0, hxd.getD (c.toNat % 16) 0], none) :=
    b2s_row (h := h) (l := [92, 120, hxd.getD (c.toNat / 16) 0, hxd.getD (c.toNat % 16) 0])
  by_cases h7 : 32 <= c
  · by_cases h8 : c <= 126
    · simp only [mach, mach2, mstd, ↓reduceIte, Nat.reduceEqDiff, Nat.reduceAdd, Nat.reduceMul, r37, h0, h1, h2, h3, h4, h5, h6, h7, h8, hw, mbl, Nat.reduceLeDiff, Nat.reduceLT, Int.reduceEq, e1]
      refine hΨ _ _ (fin_ret (rv2 rfl rfl ⟨k2 _, ?_⟩))
      rw [escS, if_neg (by omega), if_neg h2, if_neg h3, if_neg hz, if_pos ⟨h7, h8⟩]; rfl
    · simp only [mach, mach2, mstd, ↓reduceIte, Nat.reduceEqDiff, Nat.reduceAdd, Nat.reduceMul, r37, h0, h1, h2, h3, h4, h5, h6, h7, h8, hq, hr, hwq, x1, x2, z1, z2, Int.toNat_natCast, show ((16 : Int) = 0) = False by simp, mbl, Nat.reduceLeDiff, Nat.reduceLT, Int.reduceEq, e4]
      refine hΨ _ _ (fin_ret (rv2 rfl rfl ⟨k2 _, ?_⟩))
      rw [escS, if_neg (by omega), if_neg h2, if_neg h3, if_neg hz, if_neg (by omega)]; rfl
  · simp only [mach, mach2, mstd, ↓reduceIte, Nat.reduceEqDiff, Nat.reduceAdd, Nat.reduceMul, r37, h0, h1, h2, h3, h4, h5, h6, h7, hq, hr, hwq, x1, x2, z1, z2, Int.toNat_natCast, show ((16 : Int) = 0) = False by simp, mbl, Nat.reduceLeDiff, Nat.reduceLT, Int.reduceEq, e4]
    refine hΨ _ _ (fin_ret (rv2 rfl rfl ⟨k2 _, ?_⟩))
    rw [escS, if_neg (by omega), if_neg h2, if_neg h3, if_neg hz, if_neg (by omega)]; rfl
end Go.S17

namespace Go.S17
open Go Go.Eng Go.Proofs Go.Scn
def escB (c : UInt8) : Bs := (escS c.toNat).getD []
def quoS (t : Bs) : Bs := t.flatMap escB
theorem escB_some (c : UInt8) : escS c.toNat = some (escB c) := by
  have hlt := c.toNat_lt
  unfold escB escS
  rw [if_neg (by omega)]
  split
  · rfl
  · split
    · rfl
    · split
      · rfl
      · split <;> rfl
theorem escB_len (c : UInt8) : (escB c).length <= 4 := escS_len (escB_some c)
theorem quoS_len (t : Bs) : (quoS t).length <= 4 * t.length := by
  induction t with
  | nil => exact Nat.le_refl _
  | cons c t ih =>
    have := escB_len c
    simp only [quoS, List.flatMap_cons, List.length_append, List.length_cons] at *
    omega
end Go.S17

namespace Go.S17
open Go Go.Eng Go.Proofs Go.Scn Go.Chk
def num1 (n : Int) : Bs := 32 :: Lib.itoa n
def numsT (l : List Int) : Bs := l.flatMap num1 ++ [10]
def txtT (t : Bs) : Bs := [116, 101, 120, 116, 32, 34] ++ quoS t ++ [34, 10]
def infT (x : Inf) : Bs := if x.k = 1 then [102, 117, 110] ++ numsT [x.a, x.f, x.c] else [116, 104, 117, 110, 107] ++ numsT [x.f, x.c]
def imgT (C : Cx) (ts : List Bs) : Bs := [105, 109, 97, 103, 101] ++ numsT [C.main, C.tops.length] ++ [99, 111, 110, 115] ++ numsT C.cons ++ ts.flatMap txtT ++ C.infos.flatMap infT ++ [99, 111, 100, 101] ++ numsT C.code
def rgI (n : Int) : Prop := -9223372036854775808 <= n /\ n <= 9223372036854775807
theorem itoa_len {n : Int} (h : rgI n) : (Lib.itoa n).length <= 21 := by
  obtain ⟨h0, h1⟩ := h
  have hd : ∀ u : Nat, u < 18446744073709551616 -> (Lib.decDigits u).length <= 20 := fun u hu => by
    rw [Lib.decDigits_length]
    rcases Nat.eq_zero_or_pos u with e | e
    · subst e; rw [Lib.nDigits_small (by omega)]; omega
    · have := Lib.numDigits_eq u e hu
      split at this <;> omega
  unfold Lib.itoa
  split
  · have := hd n.natAbs (by omega); simp; omega
  · have := hd n.toNat (by omega); omega
theorem num1_len {n : Int} (h : rgI n) : (num1 n).length <= 22 := by have := itoa_len h; simp [num1]; omega
theorem nums_len : ∀ {l : List Int}, (∀ n ∈ l, rgI n) -> (l.flatMap num1).length <= 22 * l.length := by
  intro l
  induction l with
  | nil => intro _; simp
  | cons n l ih =>
    intro h
    have h1 := num1_len (h n List.mem_cons_self)
    have h2 := ih fun m hm => h m (List.mem_cons_of_mem _ hm)
    rw [List.flatMap_cons, List.length_append, List.length_cons]; omega
theorem numsT_len {l : List Int} (h : ∀ n ∈ l, rgI n) : (numsT l).length <= 22 * l.length + 1 := by
  have := nums_len h; simp only [numsT, List.length_append, List.length_cons, List.length_nil]; omega
theorem txtT_len (t : Bs) : (txtT t).length <= 4 * t.length + 8 := by
  have := quoS_len t; simp only [txtT, List.length_append, List.length_cons, List.length_nil]; omega
theorem flat_len {α : Type} {f : α -> Bs} {k : Nat} : ∀ {l : List α}, (∀ x ∈ l, (f x).length <= k) -> (l.flatMap f).length <= l.length * k := by
  intro l
  induction l with
  | nil => intro _; simp
  | cons x l ih =>
    intro h
    have h1 := h x List.mem_cons_self
    have h2 := ih fun y hy => h y (List.mem_cons_of_mem _ hy)
    rw [List.flatMap_cons, List.length_append, List.length_cons, Nat.add_mul]; omega
theorem infT_len {x : Inf} (h : rgI x.a /\ rgI x.f /\ rgI x.c) : (infT x).length <= 80 := by
  unfold infT
  split
  · have := numsT_len (l := [x.a, x.f, x.c]) (by simp; exact h)
    simp only [List.length_append, List.length_cons, List.length_nil] at this ⊢; omega
  · have := numsT_len (l := [x.f, x.c]) (by simp; exact h.2)
    simp only [List.length_append, List.length_cons, List.length_nil] at this ⊢; omega
theorem flat_take {α : Type} {f : α -> Bs} {l : List α} {i : Nat} (hi : i < l.length) : (l.take (i + 1)).flatMap f = (l.take i).flatMap f ++ f l[i] := by
  rw [List.take_succ_eq_append_getElem hi, List.flatMap_append, List.flatMap_cons, List.flatMap_nil, List.append_nil]
end Go.S17

namespace Go.S17
open Go Go.Eng Go.Proofs Go.Scn Go.Chk
def WO (h : AH) (b : Nat) (v : Value) (acc' : Bs) (h' : AH) (v' : Value) : Prop :=
  Keep (fun q => q = b \/ bk v q) h h' /\ Bd h' b acc' (.pointer (some ⟨b, 0, none⟩)) v' /\ ∀ q, bk v' q -> bk v q \/ h.length <= q
theorem WO.trans {h h1 h2 : AH} {b : Nat} {v v1 v2 : Value} {a1 a2 : Bs} (x : WO h b v a1 h1 v1) (y : WO h1 b v1 a2 h2 v2) : WO h b v a2 h2 v2 := by
  obtain ⟨k1, b1, f1⟩ := x
  obtain ⟨k2, b2, f2⟩ := y
  refine ⟨k1.trans' k2 (fun c hc e => ?_), b2, fun q hq => ?_⟩
  · rcases e with e | e
    · exact .inl e
    · rcases f1 c e with e2 | e2
      · exact .inr e2
      · omega
  · rcases f2 q hq with e | e
    · exact f1 q e
    · have := k1.len; exact .inr (by omega)
theorem Bd.keep {S : Nat -> Prop} {h h' : AH} {b : Nat} {acc : Bs} {a v : Value} (x : Bd h b acc a v) (k : Keep S h h') (hb : ¬ S b) (hv : ∀ q, bk v q -> ¬ S q) : Bd h' b acc a v :=
  ⟨x.own.keep k hb, x.ad, x.ow.keep k hv, x.ne, x.nl⟩
theorem numbers_ok {h : AH} {b : Nat} {acc : Bs} {v lv : Value} {l : List Int} (x : Bd h b acc (.pointer (some ⟨b, 0, none⟩)) v) (rl : Rds h 1 lv l.length (ns l)) (hne : ∀ q, rb lv q -> q ≠ b /\ ¬ bk v q) (hr : ∀ n ∈ l, rgI n) (hs : acc.length + 22 * l.length + 1 <= 140000000000000) :
    Gets Tryz.prog 20 [.pointer (some ⟨b, 0, none⟩), lv] h (fun res h' => res = .ret (.tuple #[]) /\ ∃ v', WO h b v (acc ++ numsT l) h' v') := by
  refine Gets.of (keep := false) hP (draw_ok hM) k20 (by rfl) (fun Ψ hΨ => ?_)
  obtain ⟨la, lc, rfl⟩ := row_shape rl
  simp only [mach, mach2, mstd, ↓reduceIte, Nat.reduceEqDiff, Nat.reduceAdd, Nat.reduceMul, r20]
  refine XLo_rule (α := Nat × Value) (fun a => [(0, .pointer (some ⟨b, 0, none⟩)), (6, .slice la l.length lc), (7, iv l.length), (8, iv a.1)])
    (fun a h' => a.1 <= l.length /\ WO h b v (acc ++ (l.take a.1).flatMap num1) h' a.2) (fun a => l.length - a.1) (0, v)
    ⟨Nat.zero_le _, .refl _ _, by simpa using x, fun q e => .inl e⟩ ⟨rfl, rfl, rfl, rfl, trivial⟩ ?_
  rintro ⟨i, w⟩ h1 Ψ2 ⟨hi, wo⟩ next out
  simp only at hi wo
  have hnl := nums_len (l := l.take i) (fun n hn => hr n (List.mem_of_mem_take hn))
  have htl : (l.take i).length = i := by simp; omega
  rw [htl] at hnl
  by_cases hlt : (i : Int) < (l.length : Int)
  · have hil : i < l.length := by omega
    have g0 : (0 : Int) <= (i : Int) := by omega
    have hx : l[(i : Int).toNat]? = some l[i] := by rw [Int.toNat_natCast]; exact List.getElem?_eq_getElem hil
    have ro := rl.keep wo.1 (fun q hq e => by
      rcases e with e | e
      · exact (hne q hq).1 e
      · exact (hne q hq).2 e)
    obtain ⟨b1, o1, c1, e1, _, l1⟩ := rds_ix ro g0 hx
    rw [Int.toNat_natCast] at l1
    cases e1
    have hrg := hr l[i] (List.getElem_mem _)
    have hil21 := itoa_len hrg
    have hw : IntKind.i64.wrap ((i : Int) + 1) = ((i + 1 : Nat) : Int) := by rw [i64w (by omega) (by omega)]; omega
    simp only [mach, mach2, mstd, ↓reduceIte, Nat.reduceEqDiff, Nat.reduceAdd, Nat.reduceMul, hlt, g0, and_self, Int.toNat_natCast, Nat.mul_one, l1]
    refine XX_of (writeByte_ok wo.2.1 32 (by simp only [List.length_append]; omega)) (fun res h2 hle hr2 => ?_)
    obtain ⟨rfl, k2, v2, b2, f2⟩ := hr2
    refine .ret ?_
    simp only [mach, mach2, mstd, ↓reduceIte, Nat.reduceEqDiff, Nat.reduceAdd, Nat.reduceMul]
    refine XX_val (itoa_ok l[i] hrg.1 hrg.2 h2) ?_
    simp only [mach, mach2, mstd, ↓reduceIte, Nat.reduceEqDiff, Nat.reduceAdd, Nat.reduceMul]
    refine XX_of (writeString_ok b2 (Lib.itoa l[i]) (by simp only [List.length_append, List.length_cons, List.length_nil]; omega)) (fun res h3 hle hr3 => ?_)
    obtain ⟨rfl, k3, v3, b3, f3⟩ := hr3
    refine .ret ?_
    simp only [mach, mach2, mstd, ↓reduceIte, Nat.reduceEqDiff, Nat.reduceAdd, Nat.reduceMul, hw]
    have hst : acc ++ (l.take i).flatMap num1 ++ [32] ++ Lib.itoa l[i] = acc ++ (l.take (i + 1)).flatMap num1 := by
      rw [flat_take hil]; simp [num1]
    rw [hst] at b3
    exact next (i + 1, v3) _ _ _ ⟨by simp only; omega, wo.trans (WO.trans (a1 := acc ++ (l.take i).flatMap num1 ++ [32]) ⟨k2, b2, f2⟩ ⟨k3, b3, f3⟩)⟩ ⟨rfl, rfl, rfl, rfl, trivial⟩ (by simp only; omega)
  · have hie : i = l.length := by omega
    simp only [mach, mach2, mstd, ↓reduceIte, Nat.reduceEqDiff, Nat.reduceAdd, Nat.reduceMul, hlt]
    refine out (.exit 0) _ _ _ _ (by intro e; cases e) ?_
    simp only [mach, mach2, mstd, ↓reduceIte, Nat.reduceEqDiff, Nat.reduceAdd, Nat.reduceMul]
    refine XX_of (writeByte_ok wo.2.1 10 (by simp only [List.length_append]; omega)) (fun res h2 hle hr2 => ?_)
    obtain ⟨rfl, k2, v2, b2, f2⟩ := hr2
    refine .ret ?_
    simp only [mach, mach2, mstd, ↓reduceIte, Nat.reduceEqDiff, Nat.reduceAdd, Nat.reduceMul]
    have hst : acc ++ (l.take i).flatMap num1 ++ [10] = acc ++ numsT l := by
      rw [hie, List.take_length]; simp [numsT]
    rw [hst] at b2
    exact hΨ _ _ (fin_norm ⟨rfl, v2, wo.trans ⟨k2, b2, f2⟩⟩)
structure QI (h : AH) (b rb : Nat) (t : Bs) (i : Nat) (v : Value) (h' : AH) : Prop where
  kp : Keep (fun _ => False) h h'
  bd : Bd h' b ([34] ++ quoS (t.take i)) (.pointer (some ⟨b, 0, none⟩)) v
  ro : Rds h' 1 (.slice (some ⟨rb, 0, none⟩) t.length t.length) t.length (t.map bv)
  lt : rb < h'.length
  ne : ∀ q, bk v q -> q ≠ rb
  brb : b ≠ rb
  hb : h.length <= b
theorem quote_ok (t : Bs) (hl : t.length <= 10000000000000) (h : AH) :
    Gets Tryz.prog 21 [tv t] h (fun res h' => Keep (fun _ => False) h h' /\ res = .ret (tv ([34] ++ quoS t ++ [34]))) := by
  refine Gets.of (keep := false) hP (draw_ok hM) k21 (by rfl) (fun Ψ hΨ => ?_)
  simp only [mach, mach2, mstd, ↓reduceIte, Nat.reduceEqDiff, Nat.reduceAdd, Nat.reduceMul, r21]
  have ob := Own.new h bdT h.length [.pointer none, .slice none 0 0]
  have k2 : Keep (fun _ => False) h (h ++ [row bdT h.length [.pointer none, .slice none 0 0]]) := Keep.push _ _ _
  generalize hh2 : h ++ [row bdT h.length [.pointer none, .slice none 0 0]] = h2 at ob k2 ⊢
  have hl2 : h2.length = h.length + 1 := by rw [<- hh2]; simp
  have b0 : Bd h2 h.length [] (.pointer none) (.slice none 0 0) := ⟨ob, .inl rfl, .nil, fun q e => e.elim, fun _ => rfl⟩
  refine XX_of (writeByte_ok b0 34 (by simp)) (fun res h3' hle hr => ?_)
  obtain ⟨rfl, k3, v3, b3, f3⟩ := hr
  refine .ret ?_
  have kp3 : Keep (fun _ => False) h h3' := k2.trans' k3 (fun c hc e => by
    rcases e with e | e
    · omega
    · exact e.elim)
  simp only [mach, mach2, mstd, ↓reduceIte, Nat.reduceEqDiff, Nat.reduceAdd, Nat.reduceMul, u_s2bt]
  generalize hh4 : h3' ++ [.cells false true h3'.length 0 5 (t.map bv)] = h4
  have k4 : Keep (fun _ => False) h3' h4 := by rw [<- hh4]; exact Keep.push _ _ _
  have hl4 : h4.length = h3'.length + 1 := by rw [<- hh4]; simp
  have hro : Rds h4 1 (.slice (some ⟨h3'.length, 0, none⟩) t.length t.length) t.length (t.map bv) := by
    rw [<- hh4]
    exact .mk (all := t.map bv) (by simp [Cells, hcell]) (by simp) (by rw [List.drop_zero, Nat.mul_one]; exact List.take_of_length_le (by simp))
  have hb3 := b3.own.lt
  have b4 : Bd h4 h.length [34] (.pointer (some ⟨h.length, 0, none⟩)) v3 := b3.keep k4 (fun e => e) (fun _ _ e => e)
  have hlt3 := b3.ow.lt
  refine XLo_rule (α := Nat × Value) (fun a => [(3, .pointer (some ⟨h.length, 0, none⟩)), (10, .slice (some ⟨h3'.length, 0, none⟩) t.length t.length), (11, iv t.length), (12, iv a.1)])
    (fun a h' => a.1 <= t.length /\ QI h h.length h3'.length t a.1 a.2 h') (fun a => t.length - a.1) (0, v3)
    ⟨Nat.zero_le _, kp3.trans k4, by simpa [quoS] using b4, hro, by omega, fun q hq e => by have := hlt3 q hq; omega, by omega, Nat.le_refl _⟩ ⟨rfl, rfl, rfl, rfl, trivial⟩ ?_
  rintro ⟨i, v⟩ g1 Ψ2 ⟨hi, qi⟩ next out
  simp only at hi qi
  have hqb := quoS_len (t.take i)
  have htl : (t.take i).length <= t.length := by simp; omega
  by_cases hlt : (i : Int) < (t.length : Int)
  · have hil : i < t.length := by omega
    have g0 : (0 : Int) <= (i : Int) := by omega
    have hcl := t[i].toNat_lt
    have he4 := escB_len t[i]
    have hld : ldc g1 h3'.length i = some (bv t[i]) := by
      obtain ⟨b', o', c', e', kk⟩ := qi.ro.at (i := i) hil
      cases e'
      have := kk 0 (by omega)
      rw [Nat.zero_add, Nat.mul_one, Nat.add_zero] at this
      rw [this, List.getElem?_map, List.getElem?_eq_getElem hil]; rfl
    have hw : IntKind.i64.wrap (t[i].toNat : Int) = (t[i].toNat : Int) := i64w (by omega) (by omega)
    have hwi : IntKind.i64.wrap ((i : Int) + 1) = ((i + 1 : Nat) : Int) := by rw [i64w (by omega) (by omega)]; omega
    simp only [mach, mach2, mstd, ↓reduceIte, Nat.reduceEqDiff, Nat.reduceAdd, Nat.reduceMul, hlt, g0, and_self, Int.toNat_natCast, Nat.mul_one, Nat.zero_add, hld, hw]
    refine XX_of (Escape_ok _ g1) (fun res g2 hle hr => ?_)
    obtain ⟨m2, rfl⟩ := hr
    refine .ret ?_
    rw [escB_some, escV]
    have bd2 : Bd g2 h.length ([34] ++ quoS (t.take i)) (.pointer (some ⟨h.length, 0, none⟩)) v := qi.bd.keep m2 (fun e => e) (fun _ _ e => e)
    simp only [mach, mach2, mstd, ↓reduceIte, Nat.reduceEqDiff, Nat.reduceAdd, Nat.reduceMul, mbl, Nat.reduceLeDiff, Nat.reduceLT, Int.reduceEq]
    refine XX_of (writeString_ok bd2 (escB t[i]) (by simp only [List.length_append, List.length_cons, List.length_nil]; omega)) (fun res g3 hle hr => ?_)
    obtain ⟨rfl, m3, v', bd3, f3'⟩ := hr
    refine .ret ?_
    have hst : quoS (t.take (i + 1)) = quoS (t.take i) ++ escB t[i] := flat_take hil
    have hlt2 := qi.lt
    have hm2 := m2.len
    simp only [mach, mach2, mstd, ↓reduceIte, Nat.reduceEqDiff, Nat.reduceAdd, Nat.reduceMul, hwi]
    refine next (i + 1, v') _ _ _ ⟨by simp only; omega, (qi.kp.trans m2).trans' m3 (fun c hc e => ?_), by rw [hst, <- List.append_assoc]; exact bd3, (qi.ro.keep m2 (fun _ _ e => e)).keep m3 (fun q hq e => ?_), by have := m3.len; omega, fun q hq e => ?_, qi.brb, qi.hb⟩ ⟨rfl, rfl, rfl, rfl, trivial⟩ (by simp only; omega)
    · rcases e with e | e
      · omega
      · have := qi.bd.ne c e; omega
    · have hq' : q = h3'.length := hq.1
      rcases e with e | e
      · exact qi.brb (e.symm.trans hq')
      · exact qi.ne q e hq'
    · rcases f3' q hq with e2 | e2
      · exact qi.ne q e2 e
      · omega
  · have hie : i = t.length := by omega
    simp only [mach, mach2, mstd, ↓reduceIte, Nat.reduceEqDiff, Nat.reduceAdd, Nat.reduceMul, hlt]
    refine out (.exit 0) _ _ _ _ (by intro e; cases e) ?_
    simp only [mach, mach2, mstd, ↓reduceIte, Nat.reduceEqDiff, Nat.reduceAdd, Nat.reduceMul]
    refine XX_of (writeByte_ok qi.bd 34 (by simp only [List.length_append, List.length_cons, List.length_nil]; omega)) (fun res g2 hle hr => ?_)
    obtain ⟨rfl, m2, v', bd2, f2⟩ := hr
    refine .ret ?_
    simp only [mach, mach2, mstd, ↓reduceIte, Nat.reduceEqDiff, Nat.reduceAdd, Nat.reduceMul]
    refine XX_of (string_ok bd2 (by simp only [List.length_append, List.length_cons, List.length_nil]; omega)) (fun res g3 hle hr => ?_)
    obtain ⟨rfl, m3⟩ := hr
    refine .ret ?_
    simp only [mach, mach2, mstd, ↓reduceIte, Nat.reduceEqDiff, Nat.reduceAdd, Nat.reduceMul]
    have hlt2 := qi.lt
    refine hΨ _ _ (fin_ret (rv1 rfl ⟨(qi.kp.trans' m2 (fun c hc e => ?_)).trans' m3 (fun c hc e => ?_), ?_⟩))
    · rcases e with e | e
      · omega
      · have := qi.bd.ne c e; omega
    · have := bd2.ne c e; omega
    · rw [hie, List.take_length]; rfl
end Go.S17

namespace Go.S17
open Go Go.Eng Go.Proofs Go.Scn Go.Chk
structure Fit (C : Cx) (ts : List Bs) : Prop where
  li : C.infos.length <= 1048576
  lc : C.code.length <= 1048576
  lp : C.tops.length <= 1048576
  lk : C.cons.length <= 1048576
  lt : ts.length <= 1048576
  l1 : ∀ t ∈ ts, t.length <= 1048576
  gm : rgI C.main
  gc : ∀ n ∈ C.code, rgI n
  gk : ∀ n ∈ C.cons, rgI n
  gi : ∀ x ∈ C.infos, rgI x.k /\ rgI x.a /\ rgI x.f /\ rgI x.c
  nt : C.nt = ts.length
theorem Fit.fits {C : Cx} {ts : List Bs} (f : Fit C ts) : Cx.fits C := by
  have := f.li; have := f.lc; have := f.lp; have := f.lk
  exact ⟨by omega, by omega, by omega, by omega⟩
structure Im (h : AH) (C : Cx) (ts : List Bs) (vi vc vt vp vk : Value) : Prop where
  im : Img h C vi vc vt vp vk
  rt : Rds h 1 vt ts.length (ts.map tv)
def rbs (vi vc vt vp vk : Value) (q : Nat) : Prop := rb vi q \/ rb vc q \/ rb vp q \/ rb vk q \/ rb vt q
theorem Im.keep {S : Nat -> Prop} {h h' : AH} {C : Cx} {ts : List Bs} {vi vc vt vp vk : Value} (x : Im h C ts vi vc vt vp vk) (k : Keep S h h') (hs : ∀ q, rbs vi vc vt vp vk q -> ¬ S q) : Im h' C ts vi vc vt vp vk :=
  ⟨x.im.keep k (fun q e => hs q (by unfold rbs; rcases e with e | e | e | e <;> simp [e])), x.rt.keep k (fun q e => hs q (by unfold rbs; simp [e]))⟩
theorem Im.lt {h : AH} {C : Cx} {ts : List Bs} {vi vc vt vp vk : Value} (x : Im h C ts vi vc vt vp vk) : ∀ q, rbs vi vc vt vp vk q -> q < h.length := by
  rintro q (e | e | e | e | e)
  · exact x.im.lt q (.inl e)
  · exact x.im.lt q (.inr (.inl e))
  · exact x.im.lt q (.inr (.inr (.inl e)))
  · exact x.im.lt q (.inr (.inr (.inr e)))
  · exact x.rt.lt q e
theorem rds_tx {h : AH} {v : Value} {n : Nat} {xs : List Bs} (hr : Rds h 1 v n (xs.map tv)) {i : Nat} (hi : i < xs.length) :
    ∃ b o c, v = .slice (some ⟨b, o, none⟩) n c /\ i < n /\ ldc h b (o + i) = some (tv xs[i]) := by
  have hlen := hr.len
  rw [List.length_map, Nat.mul_one] at hlen
  obtain ⟨b', o', c', e', kk⟩ := hr.at (i := i) (by omega)
  refine ⟨b', o', c', e', by omega, ?_⟩
  have := kk 0 (by omega)
  rw [Nat.mul_one, Nat.add_zero, Nat.add_zero] at this
  rw [this, List.getElem?_map, List.getElem?_eq_getElem hi]; rfl
structure PI (h : AH) (C : Cx) (ts : List Bs) (vi vc vt vp vk : Value) (b : Nat) (acc : Bs) (h' : AH) (v : Value) : Prop where
  kp : Keep (fun _ => False) h h'
  oI : Own h' h.length 26 [vi, vc, vt, vp, iv C.main, vk]
  im : Im h' C ts vi vc vt vp vk
  bd : Bd h' b acc (.pointer (some ⟨b, 0, none⟩)) v
  hb : h.length < b
  rl : ∀ q, rbs vi vc vt vp vk q -> q < h.length
section
variable {h h' h2 : AH} {C : Cx} {ts : List Bs} {vi vc vt vp vk : Value} {b : Nat} {acc acc' : Bs} {v v' : Value}
theorem PI.step (p : PI h C ts vi vc vt vp vk b acc h' v) (w : WO h' b v acc' h2 v') : PI h C ts vi vc vt vp vk b acc' h2 v' := by
  obtain ⟨k, bd, f⟩ := w
  have hb := p.hb
  have lo : ∀ q, q < h.length + 1 -> ¬ (q = b \/ bk v q) := fun q hq e => by
    rcases e with e | e
    · omega
    · have := p.bd.ne q e; omega
  exact ⟨p.kp.trans' k (fun c hc e => lo c (by omega) e), p.oI.keep k (lo _ (by omega)), p.im.keep k (fun q e => lo q (by have := p.rl q e; omega)), bd, hb, p.rl⟩
theorem PI.grow (p : PI h C ts vi vc vt vp vk b acc h' v) (k : Keep (fun _ => False) h' h2) : PI h C ts vi vc vt vp vk b acc h2 v :=
  ⟨p.kp.trans k, p.oI.keep k (fun e => e), p.im.keep k (fun _ _ e => e), p.bd.keep k (fun e => e) (fun _ _ e => e), p.hb, p.rl⟩
theorem PI.nums (p : PI h C ts vi vc vt vp vk b acc h' v) {lv : Value} {l : List Int} (rl : Rds h' 1 lv l.length (ns l)) (hne : ∀ q, rb lv q -> q ≠ b /\ ¬ bk v q) (hr : ∀ n ∈ l, rgI n) (hs : acc.length + 22 * l.length + 1 <= 140000000000000) :
    Gets Tryz.prog 20 [.pointer (some ⟨b, 0, none⟩), lv] h' (fun res h2 => res = .ret (.tuple #[]) /\ ∃ v', PI h C ts vi vc vt vp vk b (acc ++ numsT l) h2 v') :=
  (numbers_ok p.bd rl hne hr hs).mono fun res h2 _ ⟨e, v', w⟩ => ⟨e, v', p.step w⟩
theorem PI.lo (p : PI h C ts vi vc vt vp vk b acc h' v) : ∀ q, q < h.length -> q ≠ b /\ ¬ bk v q := fun q hq => by
  have hb := p.hb
  exact ⟨by omega, fun e => by have := p.bd.ne q e; omega⟩
theorem PI.str (p : PI h C ts vi vc vt vp vk b acc h' v) (l : Bs) (hl : acc.length + l.length <= 140000000000000) :
    Gets Tryz.prog 19 [.pointer (some ⟨b, 0, none⟩), tv l] h' (fun res h2 => res = .ret (.tuple #[iv l.length, .nilIface]) /\ ∃ v', PI h C ts vi vc vt vp vk b (acc ++ l) h2 v') :=
  (writeString_ok p.bd l hl).mono fun res h2 _ ⟨e, k, v', w, f⟩ => ⟨e, v', p.step ⟨k, w, f⟩⟩
theorem PI.row (p : PI h C ts vi vc vt vp vk b acc h' v) (l : List Int) : PI h C ts vi vc vt vp vk b acc (h' ++ [row 3 h'.length (ns l)]) v /\
    Rds (h' ++ [row 3 h'.length (ns l)]) 1 (.slice (some ⟨h'.length, 0, none⟩) l.length l.length) l.length (ns l) /\ ∀ q, rb (.slice (some ⟨h'.length, 0, none⟩) l.length l.length) q -> q ≠ b /\ ¬ bk v q := by
  refine ⟨p.grow (Keep.push _ _ _), .mk (all := ns l) (Own.new _ _ _ _).cells (by simp [ns]) (by rw [List.drop_zero, Nat.mul_one]; exact List.take_of_length_le (by simp [ns])), fun q hq => ?_⟩
  have e : q = h'.length := hq.1
  have := p.bd.own.lt
  exact ⟨by omega, fun e2 => by have := p.bd.ow.lt q e2; omega⟩
end
end Go.S17

namespace Go.S17
open Go Go.Eng Go.Proofs Go.Scn Go.Chk
section
variable {h h' h2 : AH} {C : Cx} {ts : List Bs} {vi vc vt vp vk : Value} {b : Nat} {acc acc' : Bs} {v v' : Value}
theorem PI.two (p : PI h C ts vi vc vt vp vk b acc h' v) (m n : Int) (hm : rgI m) (hn : rgI n) (hs : acc.length + 45 <= 140000000000000) :
    Gets Tryz.prog 20 [.pointer (some ⟨b, 0, none⟩), .slice (some ⟨h'.length, 0, none⟩) 2 2] (h' ++ [Eng.row 3 h'.length [iv m, iv n]]) (fun res h2 => res = .ret (.tuple #[]) /\ ∃ v', PI h C ts vi vc vt vp vk b (acc ++ numsT [m, n]) h2 v') := by
  have pr := p.row [m, n]
  exact pr.1.nums pr.2.1 pr.2.2 (by simp; exact ⟨hm, hn⟩) (by simp; omega)
theorem PI.three (p : PI h C ts vi vc vt vp vk b acc h' v) (m n o : Int) (hm : rgI m) (hn : rgI n) (ho : rgI o) (hs : acc.length + 67 <= 140000000000000) :
    Gets Tryz.prog 20 [.pointer (some ⟨b, 0, none⟩), .slice (some ⟨h'.length, 0, none⟩) 3 3] (h' ++ [Eng.row 3 h'.length [iv m, iv n, iv o]]) (fun res h2 => res = .ret (.tuple #[]) /\ ∃ v', PI h C ts vi vc vt vp vk b (acc ++ numsT [m, n, o]) h2 v') := by
  have pr := p.row [m, n, o]
  exact pr.1.nums pr.2.1 pr.2.2 (by simp; exact ⟨hm, hn, ho⟩) (by simp; omega)
theorem PI.str2 (p : PI h C ts vi vc vt vp vk b acc h' v) {q : Nat} {t : TypeId} {cs : List Value} (o : Own h' q t cs) (hq : ¬ (q = b \/ bk v q)) (l : Bs) (hl : acc.length + l.length <= 140000000000000) :
    Gets Tryz.prog 19 [.pointer (some ⟨b, 0, none⟩), tv l] h' (fun res h2 => res = .ret (.tuple #[iv l.length, .nilIface]) /\ ∃ v', PI h C ts vi vc vt vp vk b (acc ++ l) h2 v' /\ Own h2 q t cs) :=
  (writeString_ok p.bd l hl).mono fun res h2 _ ⟨e, k, v', w, f⟩ => ⟨e, v', p.step ⟨k, w, f⟩, o.keep k hq⟩
end
section
variable {h : AH} {C : Cx} {ts : List Bs} {vi vc vt vp vk : Value}
theorem txts_len {C : Cx} {ts : List Bs} (f : Fit C ts) (i : Nat) : ((ts.take i).flatMap txtT).length <= 1048576 * 4194312 := by
  have := flat_len (f := txtT) (k := 4194312) (l := ts.take i) (fun x hx => by
    have := txtT_len x; have := f.l1 x (List.mem_of_mem_take hx); omega)
  have h1 := f.lt
  have h2 : (ts.take i).length <= 1048576 := by simp; omega
  exact Nat.le_trans this (Nat.mul_le_mul h2 (Nat.le_refl _))
theorem infs_len {C : Cx} {ts : List Bs} (f : Fit C ts) (i : Nat) : ((C.infos.take i).flatMap infT).length <= 1048576 * 80 := by
  have := flat_len (f := infT) (k := 80) (l := C.infos.take i) (fun x hx => infT_len (f.gi x (List.mem_of_mem_take hx)).2)
  have h1 := f.li
  have h2 : (C.infos.take i).length <= 1048576 := by simp; omega
  exact Nat.le_trans this (Nat.mul_le_mul h2 (Nat.le_refl _))
set_option maxHeartbeats 4000000 in
theorem Print_ok (x : Im h C ts vi vc vt vp vk) (f : Fit C ts) : Gets Tryz.prog 9 [.agg #[vi, vc, vt, vp, iv C.main, vk]] h (fun res h' => Keep (fun _ => False) h h' /\ res = .ret (.tuple #[tv (if (ends C).isSome then imgT C ts else []), iv (if (ends C).isSome then 0 else 7)])) := by
  refine Gets.of (keep := false) hP (draw_ok hM) k9 (by rfl) (fun Ψ hΨ => ?_)
  have fli := f.li; have flc := f.lc; have flp := f.lp; have flk := f.lk; have flt := f.lt
  have oI := Own.new h 26 h.length [vi, vc, vt, vp, iv C.main, vk]
  have kp1 : Keep (fun _ => False) h (h ++ [row 26 h.length [vi, vc, vt, vp, iv C.main, vk]]) := Keep.push _ _ _
  simp only [mach, mach2, mstd, ↓reduceIte, Nat.reduceEqDiff, Nat.reduceAdd, Nat.reduceMul, r9, mbl, Nat.reduceLeDiff, Nat.reduceLT, Int.reduceEq]
  generalize hh1 : h ++ [row 26 h.length [vi, vc, vt, vp, iv C.main, vk]] = h1 at oI kp1 ⊢
  have hl1 : h1.length = h.length + 1 := by rw [<- hh1]; simp
  have im1 := x.keep kp1 (fun _ _ e => e)
  simp only [mach, mach2, mstd, ↓reduceIte, Nat.reduceEqDiff, Nat.reduceAdd, Nat.reduceMul, oI.cells.lds 0 6 (by simp), mbl, Nat.reduceLeDiff, Nat.reduceLT, Int.reduceEq]
  refine XX_of (Check_ok im1.im f.fits) (fun res h2 hle hn => ?_)
  obtain ⟨k2, rfl⟩ := hn
  refine .ret ?_
  have hl2 := k2.len
  cases he : (ends C).isSome with
  | false =>
    simp only [mach, mach2, mstd, ↓reduceIte, Nat.reduceEqDiff, Nat.reduceAdd, Nat.reduceMul, he, mbl, Nat.reduceLeDiff, Nat.reduceLT, Int.reduceEq]
    exact hΨ _ _ (fin_ret (rv2 rfl rfl ⟨kp1.trans k2, by rw [he]; rfl⟩))
  | true =>
    have ob := Own.new h2 bdT h2.length [.pointer none, .slice none 0 0]
    have k3 : Keep (fun _ => False) h2 (h2 ++ [row bdT h2.length [.pointer none, .slice none 0 0]]) := Keep.push _ _ _
    simp only [mach, mach2, mstd, ↓reduceIte, Nat.reduceEqDiff, Nat.reduceAdd, Nat.reduceMul, he, mbl, Nat.reduceLeDiff, Nat.reduceLT, Int.reduceEq]
    generalize hh3 : h2 ++ [row bdT h2.length [.pointer none, .slice none 0 0]] = h3 at ob k3 ⊢
    have hl3 : h3.length = h2.length + 1 := by rw [<- hh3]; simp
    have b0 : Bd h3 h2.length [] (.pointer none) (.slice none 0 0) := ⟨ob, .inl rfl, .nil, fun q e => e.elim, fun _ => rfl⟩
    refine XX_of (writeString_ok b0 [105, 109, 97, 103, 101] (by simp)) (fun res h4 hle hr => ?_)
    obtain ⟨rfl, k4, v4, b4, f4⟩ := hr
    refine .ret ?_
    have lo4 : ∀ q, q < h2.length -> ¬ (q = h2.length \/ bk (.slice none 0 0) q) := fun q hq e => by
      rcases e with e | e
      · omega
      · exact e.elim
    have k13 : Keep (fun _ => False) h1 h3 := k2.trans k3
    have p4 : PI h C ts vi vc vt vp vk h2.length [105, 109, 97, 103, 101] h4 v4 :=
      ⟨(kp1.trans k13).trans' k4 (fun c hc e => lo4 c (by omega) e), (oI.keep k13 (fun e => e)).keep k4 (lo4 _ (by omega)), (im1.keep k13 (fun _ _ e => e)).keep k4 (fun q e => lo4 q (by have := x.lt q e; omega)), b4, by omega, x.lt⟩
    obtain ⟨ia, ic, hvi⟩ := row_shape x.im.ri
    obtain ⟨ca, cc, hvc⟩ := row_shape x.im.rc
    obtain ⟨pa, pc, hvp⟩ := row_shape x.im.rp
    obtain ⟨ka, kc, hvk⟩ := row_shape x.im.rk
    obtain ⟨ta, tc, hvt⟩ := row_shape x.rt
    subst hvi hvc hvp hvk hvt
    simp only [mach, mach2, mstd, ↓reduceIte, Nat.reduceEqDiff, Nat.reduceAdd, Nat.reduceMul, p4.oI.cells.ld, mbl, Nat.reduceLeDiff, Nat.reduceLT, Int.reduceEq]
    refine XX_of (p4.two C.main C.tops.length f.gm ⟨by omega, by omega⟩ (by simp)) (fun res h5 hle hr => ?_)
    obtain ⟨rfl, v5, p5⟩ := hr
    refine .ret ?_
    have n2 : (numsT [C.main, (C.tops.length : Int)]).length <= 45 := by
      have := numsT_len (l := [C.main, (C.tops.length : Int)]) (by simp; exact ⟨f.gm, ⟨by omega, by omega⟩⟩)
      simp only [List.length_cons, List.length_nil] at this; omega
    simp only [mach, mach2, mstd, ↓reduceIte, Nat.reduceEqDiff, Nat.reduceAdd, Nat.reduceMul]
    refine XX_of (p5.str [99, 111, 110, 115] (by simp only [List.length_append, List.length_cons, List.length_nil]; omega)) (fun res h6 hle hr => ?_)
    obtain ⟨rfl, v6, p6⟩ := hr
    refine .ret ?_
    simp only [mach, mach2, mstd, ↓reduceIte, Nat.reduceEqDiff, Nat.reduceAdd, Nat.reduceMul, p6.oI.cells.ld, mbl, Nat.reduceLeDiff, Nat.reduceLT, Int.reduceEq]
    refine XX_of (p6.nums p6.im.im.rk (fun q hq => p6.lo q (x.lt q (by unfold rbs; simp [hq]))) f.gk (by simp only [List.length_append, List.length_cons, List.length_nil]; omega)) (fun res h7 hle hr => ?_)
    obtain ⟨rfl, v7, p7⟩ := hr
    refine .ret ?_
    have n3 := numsT_len (l := C.cons) f.gk
    generalize hA : ([105, 109, 97, 103, 101] ++ numsT [C.main, (C.tops.length : Int)] ++ [99, 111, 110, 115] ++ numsT C.cons : Bs) = A at p7
    have hAl : A.length <= 30000000 := by rw [<- hA]; simp only [List.length_append, List.length_cons, List.length_nil]; omega
    simp only [mach, mach2, mstd, ↓reduceIte, Nat.reduceEqDiff, Nat.reduceAdd, Nat.reduceMul, p7.oI.cells.ld, mbl, Nat.reduceLeDiff, Nat.reduceLT, Int.reduceEq]
    refine XLo_rule (α := Nat × Value) (fun a => [(1, .pointer (some ⟨h.length, 0, none⟩)), (5, .pointer (some ⟨h2.length, 0, none⟩)), (28, .slice ta ts.length tc), (29, iv ts.length), (30, iv a.1)])
      (fun a h' => a.1 <= ts.length /\ PI h C ts (.slice ia C.infos.length ic) (.slice ca C.code.length cc) (.slice ta ts.length tc) (.slice pa C.tops.length pc) (.slice ka C.cons.length kc) h2.length (A ++ (ts.take a.1).flatMap txtT) h' a.2) (fun a => ts.length - a.1) (0, v7)
      ⟨Nat.zero_le _, by simpa using p7⟩ ⟨rfl, rfl, rfl, rfl, rfl, trivial⟩ ?_
    rintro ⟨i, v⟩ g1 Ψ2 ⟨hi, p⟩ next out
    simp only at hi p
    have tl := txts_len f i
    by_cases hlt : (i : Int) < (ts.length : Int)
    · have hil : i < ts.length := by omega
      have g0 : (0 : Int) <= (i : Int) := by omega
      obtain ⟨b1, o1, c1, e1, _, l1⟩ := rds_tx p.im.rt hil
      cases e1
      have hq := f.l1 ts[i] (List.getElem_mem _)
      have hqb := quoS_len ts[i]
      have hwi : IntKind.i64.wrap ((i : Int) + 1) = ((i + 1 : Nat) : Int) := by rw [i64w (by omega) (by omega)]; omega
      simp only [mach, mach2, mstd, ↓reduceIte, Nat.reduceEqDiff, Nat.reduceAdd, Nat.reduceMul, hlt, g0, and_self, Int.toNat_natCast, Nat.mul_one, l1]
      refine XX_of (quote_ok ts[i] (by omega) g1) (fun res g2 hle hr => ?_)
      obtain ⟨m2, rfl⟩ := hr
      refine .ret ?_
      have p2 := p.grow m2
      have s1 : sbin .add (⟨#[116, 101, 120, 116, 32]⟩ : ByteArray) (tx ([34] ++ quoS ts[i] ++ [34])) = some (tv ([116, 101, 120, 116, 32] ++ ([34] ++ quoS ts[i] ++ [34]))) := s_add (a := [116, 101, 120, 116, 32]) (b := [34] ++ quoS ts[i] ++ [34]) (by simp only [List.length_append, List.length_cons, List.length_nil]; omega)
      have s2 : sbin .add (tx ([116, 101, 120, 116, 32] ++ ([34] ++ quoS ts[i] ++ [34]))) (⟨#[10]⟩ : ByteArray) = some (tv ([116, 101, 120, 116, 32] ++ ([34] ++ quoS ts[i] ++ [34]) ++ [10])) := s_add (a := [116, 101, 120, 116, 32] ++ ([34] ++ quoS ts[i] ++ [34])) (b := [10]) (by simp only [List.length_append, List.length_cons, List.length_nil]; omega)
      simp only [mach, mach2, mstd, ↓reduceIte, Nat.reduceEqDiff, Nat.reduceAdd, Nat.reduceMul, mbl, Nat.reduceLeDiff, Nat.reduceLT, Int.reduceEq, s1, s2]
      refine XX_of (p2.str ([116, 101, 120, 116, 32] ++ ([34] ++ quoS ts[i] ++ [34]) ++ [10]) (by simp only [List.length_append, List.length_cons, List.length_nil]; omega)) (fun res g3 hle hr => ?_)
      obtain ⟨rfl, v3, p3⟩ := hr
      refine .ret ?_
      have hst : A ++ (ts.take i).flatMap txtT ++ ([116, 101, 120, 116, 32] ++ ([34] ++ quoS ts[i] ++ [34]) ++ [10]) = A ++ (ts.take (i + 1)).flatMap txtT := by
        rw [flat_take hil]; simp [txtT]
      rw [hst] at p3
      simp only [mach, mach2, mstd, ↓reduceIte, Nat.reduceEqDiff, Nat.reduceAdd, Nat.reduceMul, hwi]
      exact next (i + 1, v3) _ _ _ ⟨by simp only; omega, p3⟩ ⟨rfl, rfl, rfl, rfl, rfl, trivial⟩ (by simp only; omega)
    have hie : i = ts.length := by omega
    rw [hie, List.take_length] at p tl
    simp only [mach, mach2, mstd, ↓reduceIte, Nat.reduceEqDiff, Nat.reduceAdd, Nat.reduceMul, hlt]
    refine out (.exit 0) _ _ _ _ (by intro e; cases e) ?_
    generalize hB : A ++ ts.flatMap txtT = B at p
    have hBl : B.length <= 4399000000000 := by rw [<- hB]; simp only [List.length_append]; omega
    simp only [mach, mach2, mstd, ↓reduceIte, Nat.reduceEqDiff, Nat.reduceAdd, Nat.reduceMul, p.oI.cells.ld, mbl, Nat.reduceLeDiff, Nat.reduceLT, Int.reduceEq]
    refine XLo_rule (α := Nat × Value) (fun a => [(1, .pointer (some ⟨h.length, 0, none⟩)), (5, .pointer (some ⟨h2.length, 0, none⟩)), (41, .slice ia C.infos.length ic), (42, iv C.infos.length), (43, iv a.1)])
      (fun a h' => a.1 <= C.infos.length /\ PI h C ts (.slice ia C.infos.length ic) (.slice ca C.code.length cc) (.slice ta ts.length tc) (.slice pa C.tops.length pc) (.slice ka C.cons.length kc) h2.length (B ++ (C.infos.take a.1).flatMap infT) h' a.2) (fun a => C.infos.length - a.1) (0, v)
      ⟨Nat.zero_le _, by simpa using p⟩ ⟨rfl, rfl, rfl, rfl, rfl, trivial⟩ ?_
    rintro ⟨j, w⟩ g4 Ψ3 ⟨hj, q⟩ next3 out3
    simp only at hj q
    have il := infs_len f j
    by_cases hlt2 : (j : Int) < (C.infos.length : Int)
    · have hjl : j < C.infos.length := by omega
      have g0 : (0 : Int) <= (j : Int) := by omega
      have hxi : C.infos[j]? = some C.infos[j] := List.getElem?_eq_getElem hjl
      obtain ⟨gk, ga, gf, gc⟩ := f.gi C.infos[j] (List.getElem_mem _)
      have hft : (C.infos.take (j + 1)).flatMap infT = (C.infos.take j).flatMap infT ++ infT C.infos[j] := flat_take hjl
      generalize C.infos[j] = xx at hxi gk ga gf gc hft
      obtain ⟨xk, xa, xf, xc⟩ := xx
      simp only at gk ga gf gc
      obtain ⟨b8, o8, c8, e8, hlt8, hld8⟩ := rds_str (by omega) Inf.len q.im.im.ri hxi
      simp only [Inf.cells, ns, List.map_cons, List.map_nil] at hld8
      cases e8
      have hwj : IntKind.i64.wrap ((j : Int) + 1) = ((j + 1 : Nat) : Int) := by rw [i64w (by omega) (by omega)]; omega
      have on := Own.new g4 40 g4.length [iv 0, iv 0, iv 0, iv 0]
      simp only [mach, mach2, mstd, ↓reduceIte, Nat.reduceEqDiff, Nat.reduceAdd, Nat.reduceMul, hlt2, g0, and_self, hld8, Int.toNat_natCast, mbl, Nat.reduceLeDiff, Nat.reduceLT, Int.reduceEq]
      refine XH_own on rfl (by simp [Value.cells]) rfl (fun g5 q1 q2 q3 => ?_)
      have on5 : Own g5 g4.length 40 [iv xk, iv xa, iv xf, iv xc] := by simpa [Value.cells] using q1
      have kp5 : Keep (fun _ => False) g4 g5 := (Keep.push (fun _ => False) g4 _).trans' q2 (fun c hc e => by omega)
      have p5' := q.grow kp5
      have hbl4 := q.bd.own.lt
      have nb5 : ¬ (g4.length = h2.length \/ bk w g4.length) := fun e => by
        rcases e with e | e
        · omega
        · have := q.bd.ow.lt _ e; omega
      by_cases h1 : xk = 1
      · have hst : ∀ B0 : Bs, B0 ++ (C.infos.take j).flatMap infT ++ [102, 117, 110] ++ numsT [xa, xf, xc] = B0 ++ (C.infos.take (j + 1)).flatMap infT := fun B0 => by
          rw [hft, infT, if_pos h1]; simp
        simp only [mach, mach2, mstd, ↓reduceIte, Nat.reduceEqDiff, Nat.reduceAdd, Nat.reduceMul, on5.cells.ld, mbl, Nat.reduceLeDiff, Nat.reduceLT, Int.reduceEq, eq_true h1]
        refine XX_of (p5'.str2 on5 nb5 [102, 117, 110] (by simp only [List.length_append, List.length_cons, List.length_nil]; omega)) (fun res g6 hle hr => ?_)
        obtain ⟨rfl, v6', p6', on6⟩ := hr
        refine .ret ?_
        simp only [mach, mach2, mstd, ↓reduceIte, Nat.reduceEqDiff, Nat.reduceAdd, Nat.reduceMul, p6'.oI.cells.ld, on6.cells.ld, mbl, Nat.reduceLeDiff, Nat.reduceLT, Int.reduceEq]
        refine XX_of (p6'.three xa xf xc ga gf gc (by simp only [List.length_append, List.length_cons, List.length_nil]; omega)) (fun res g7 hle hr => ?_)
        obtain ⟨rfl, v7', p7'⟩ := hr
        refine .ret ?_
        rw [hst] at p7'
        simp only [mach, mach2, mstd, ↓reduceIte, Nat.reduceEqDiff, Nat.reduceAdd, Nat.reduceMul, hwj]
        exact next3 (j + 1, v7') _ _ _ ⟨by simp only; omega, p7'⟩ ⟨rfl, rfl, rfl, rfl, rfl, trivial⟩ (by simp only; omega)
      · have hst : ∀ B0 : Bs, B0 ++ (C.infos.take j).flatMap infT ++ [116, 104, 117, 110, 107] ++ numsT [xf, xc] = B0 ++ (C.infos.take (j + 1)).flatMap infT := fun B0 => by
          rw [hft, infT, if_neg h1]; simp
        simp only [mach, mach2, mstd, ↓reduceIte, Nat.reduceEqDiff, Nat.reduceAdd, Nat.reduceMul, on5.cells.ld, mbl, Nat.reduceLeDiff, Nat.reduceLT, Int.reduceEq, h1]
        refine XX_of (p5'.str2 on5 nb5 [116, 104, 117, 110, 107] (by simp only [List.length_append, List.length_cons, List.length_nil]; omega)) (fun res g6 hle hr => ?_)
        obtain ⟨rfl, v6', p6', on6⟩ := hr
        refine .ret ?_
        simp only [mach, mach2, mstd, ↓reduceIte, Nat.reduceEqDiff, Nat.reduceAdd, Nat.reduceMul, p6'.oI.cells.ld, on6.cells.ld, mbl, Nat.reduceLeDiff, Nat.reduceLT, Int.reduceEq]
        refine XX_of (p6'.two xf xc gf gc (by simp only [List.length_append, List.length_cons, List.length_nil]; omega)) (fun res g7 hle hr => ?_)
        obtain ⟨rfl, v7', p7'⟩ := hr
        refine .ret ?_
        rw [hst] at p7'
        simp only [mach, mach2, mstd, ↓reduceIte, Nat.reduceEqDiff, Nat.reduceAdd, Nat.reduceMul, hwj]
        exact next3 (j + 1, v7') _ _ _ ⟨by simp only; omega, p7'⟩ ⟨rfl, rfl, rfl, rfl, rfl, trivial⟩ (by simp only; omega)
    · have hje : j = C.infos.length := by omega
      rw [hje, List.take_length] at q il
      simp only [mach, mach2, mstd, ↓reduceIte, Nat.reduceEqDiff, Nat.reduceAdd, Nat.reduceMul, hlt2]
      refine out3 (.exit 2) _ _ _ _ (by intro e; cases e) ?_
      simp only [mach, mach2, mstd, ↓reduceIte, Nat.reduceEqDiff, Nat.reduceAdd, Nat.reduceMul]
      refine XX_of (q.str [99, 111, 100, 101] (by simp only [List.length_append, List.length_cons, List.length_nil]; omega)) (fun res g5 hle hr => ?_)
      obtain ⟨rfl, v5', p5'⟩ := hr
      refine .ret ?_
      simp only [mach, mach2, mstd, ↓reduceIte, Nat.reduceEqDiff, Nat.reduceAdd, Nat.reduceMul, p5'.oI.cells.ld, mbl, Nat.reduceLeDiff, Nat.reduceLT, Int.reduceEq]
      refine XX_of (p5'.nums p5'.im.im.rc (fun q' hq => p5'.lo q' (x.lt q' (by unfold rbs; simp [hq]))) f.gc (by simp only [List.length_append, List.length_cons, List.length_nil]; omega)) (fun res g6 hle hr => ?_)
      obtain ⟨rfl, v6', p6'⟩ := hr
      refine .ret ?_
      have n4 := numsT_len (l := C.code) f.gc
      simp only [mach, mach2, mstd, ↓reduceIte, Nat.reduceEqDiff, Nat.reduceAdd, Nat.reduceMul]
      refine XX_of (string_ok p6'.bd (by simp only [List.length_append, List.length_cons, List.length_nil]; omega)) (fun res g7 hle hr => ?_)
      obtain ⟨rfl, m7⟩ := hr
      refine .ret ?_
      simp only [mach, mach2, mstd, ↓reduceIte, Nat.reduceEqDiff, Nat.reduceAdd, Nat.reduceMul]
      refine hΨ _ _ (fin_ret (rv2 rfl rfl ⟨p6'.kp.trans' m7 (fun c hc e => ?_), ?_⟩))
      · have := p6'.bd.ne c e; have := p6'.hb; omega
      · rw [he, if_pos rfl, if_pos rfl, imgT, <- hB, <- hA]; rfl
end
end Go.S17

namespace Go.S17
open Go Go.Eng Go.Proofs Go.Scn Go.Chk
section
variable {h : AH} {C : Cx} {vi vc vt vp vk : Value}
theorem rCheck_ok (im : Img h C vi vc vt vp vk) (z : Sz C) (hfr : ∀ x ∈ C.infos, x.f <= 9223372036854775807) (hcl : C.code.length <= 9223372036854775807) : Gets Tryz.prog 16 [.agg #[vi, vc, vt, vp, iv C.main, vk]] h (fun res h' => Keep (fun _ => False) h h' /\ res = .ret (iv (if (ends C).isSome then 0 else 7))) := by
  refine Gets.of (keep := false) hP (draw_ok hM) k16 (by rfl) (fun Ψ hΨ => ?_)
  have oI0 := Own.new h 26 h.length [vi, vc, vt, vp, iv C.main, vk]
  have kp1 : Keep (fun _ => False) h (h ++ [row 26 h.length [vi, vc, vt, vp, iv C.main, vk]]) := Keep.push _ _ _
  simp only [mach, mach2, mstd, ↓reduceIte, Nat.reduceEqDiff, Nat.reduceAdd, Nat.reduceMul, r16, mbl, Nat.reduceLeDiff, Nat.reduceLT, Int.reduceEq]
  generalize hh1 : h ++ [row 26 h.length [vi, vc, vt, vp, iv C.main, vk]] = h1 at oI0 kp1 ⊢
  have im1 := im.keep kp1 (fun _ _ e => e)
  simp only [mach, mach2, mstd, ↓reduceIte, Nat.reduceEqDiff, Nat.reduceAdd, Nat.reduceMul, oI0.cells.lds 0 6 (by simp), mbl, Nat.reduceLeDiff, Nat.reduceLT, Int.reduceEq]
  refine XX_of (rends_ok im1 z hfr hcl) (fun res h2 hle hn => ?_)
  obtain ⟨k2, v, rfl, hv⟩ := hn
  refine .ret ?_
  have kk := kp1.trans k2
  cases he : (ends C).isSome with
  | false =>
    simp only [mach, mach2, mstd, ↓reduceIte, Nat.reduceEqDiff, Nat.reduceAdd, Nat.reduceMul, he, mbl, Nat.reduceLeDiff, Nat.reduceLT, Int.reduceEq]
    exact hΨ _ _ (fin_ret (rv1 rfl ⟨kk, by rw [he]; rfl⟩))
  | true =>
    simp only [mach, mach2, mstd, ↓reduceIte, Nat.reduceEqDiff, Nat.reduceAdd, Nat.reduceMul, he, mbl, Nat.reduceLeDiff, Nat.reduceLT, Int.reduceEq]
    exact hΨ _ _ (fin_ret (rv1 rfl ⟨kk, by rw [he]; rfl⟩))
end
theorem dec1 {m : Nat} (h : m < 10) : Lib.decDigits m = [UInt8.ofNat (48 + m)] := by rw [Lib.decDigits, dif_pos h]
theorem dec2 {m : Nat} (h : ¬ m < 10) : Lib.decDigits m = Lib.decDigits (m / 10) ++ [UInt8.ofNat (48 + m % 10)] := by rw [Lib.decDigits, dif_neg h]
section
variable {h h1 h2 : AH} {v s s2 : Value} {acc acc2 : Bs}
end
end Go.S17

namespace Go.S17
open Go Go.Eng Go.Proofs Go.Scn Go.Chk
structure RI (h : AH) (C : Cx) (ts : List Bs) (vi vc vt vp vk : Value) (acc : Bs) (h' : AH) (v : Value) : Prop where
  kp : Keep (fun _ => False) h h'
  oI : Own h' h.length 26 [vi, vc, vt, vp, iv C.main, vk]
  im : Im h' C ts vi vc vt vp vk
  ow : Ows h' 5 1 v acc.length (acc.map bv)
  fr : ∀ q, bk v q -> h.length < q
  rl : ∀ q, rbs vi vc vt vp vk q -> q < h.length
section
variable {h h' h2 : AH} {C : Cx} {ts : List Bs} {vi vc vt vp vk : Value} {acc acc' : Bs} {v v' : Value}
end
section
variable {h : AH} {C : Cx} {ts : List Bs} {vi vc vt vp vk : Value}
end
end Go.S17
