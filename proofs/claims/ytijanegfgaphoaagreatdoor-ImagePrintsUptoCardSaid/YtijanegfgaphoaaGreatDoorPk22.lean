import Derived.Shelf.Strconv.Itoa3
import Derived.Shelf.Strings.Shaped
import Derived.Test.YtijanegfgaphoaaGreatDoorProg
import Derived.Test.YtijanegfgaphoaaGreatDoorPk21
import Derived.Test.YtijanegfgaphoaaGreatDoorPk15
import Derived.Tactics
import Derived.Tactics2
import Derived.WalkKit
import Derived.WalkSpells
import Derived.StillTactics
import Derived.Laws.IdiomStrings
import Derived.KernelRfl
import Derived.Great.BuildSlice
import Derived.Lib.ItoaNum
import Derived.Below
/-
  DERIVED: THE SHELF's CONTRACTS AT THIS DUMP, IN PLAIN WORDS (tools/lay-plain.mjs out of 'TryzShelf.lean', which tools/lay-shelf.mjs wrote): THE SAME DECLARATIONS UNDER THE SAME NAMES: 'import', 'namespace', 'open', 'def', 'theorem' AND NOTHING ELSE: no command of the shelf's: FOR A HAND-IN. Each laying: the table of numbers ('.._ren') and one theorem, a field a fact of the dump's own or the kernel's comparison; each contract: ONE APPLICATION.
-/
namespace Go.Proofs
open Go.Shelf
def Tryz.laysItoa_ren : Go.Shelf.Ren := ⟨fun | 171 => 36 | 243 => 52 | 246 => 73 | 283 => 80 | 284 => 81 | 285 => 82 | 286 => 83 | 129 => 88 | 317 => 87 | 318 => 89 | 319 => 90 | 320 => 91 | 337 => 93 | 338 => 94 | n => n, fun | 3 => 3 | 9 => 9 | 2 => 2 | 4 => 4 | 171 => 125 | 0 => 0 | 53 => 126 | 37 => 47 | 5 => 5 | 173 => 129 | 212 => 136 | 51 => 131 | 20 => 20 | 213 => 137 | 46 => 121 | 232 => 141 | 233 => 142 | n => n, fun | 17 => 1 | 18 => 2 | 19 => 3 | n => n⟩
theorem Tryz.laysItoa : Go.Proofs.LaysM.n171 Tryz.prog Tryz.laysItoa_ren := {
  mixed := by kernel_rfl
  f129 := Tryz.func88.trans (congrArg some (by kernel_rfl))
  f171 := Tryz.func36.trans (congrArg some (by kernel_rfl))
  f243 := Tryz.func52.trans (congrArg some (by kernel_rfl))
  f246 := Tryz.func73.trans (congrArg some (by kernel_rfl))
  f283 := Tryz.func80.trans (congrArg some (by kernel_rfl))
  f284 := Tryz.func81.trans (congrArg some (by kernel_rfl))
  f285 := Tryz.func82.trans (congrArg some (by kernel_rfl))
  f286 := Tryz.func83.trans (congrArg some (by kernel_rfl))
  f317 := Tryz.func87.trans (congrArg some (by kernel_rfl))
  f318 := Tryz.func89.trans (congrArg some (by kernel_rfl))
  f319 := Tryz.func90.trans (congrArg some (by kernel_rfl))
  f320 := Tryz.func91.trans (congrArg some (by kernel_rfl))
  f337 := Tryz.func93.trans (congrArg some (by kernel_rfl))
  f338 := Tryz.func94.trans (congrArg some (by kernel_rfl))
  t0 := Tryz.underlying0
  a0 := Tryz.isAgg0
  z0 := Tryz.sizeOf0
  v0 := Tryz.zeroValue0
  t2 := Tryz.underlying2
  a2 := Tryz.isAgg2
  z2 := Tryz.sizeOf2
  v2 := Tryz.zeroValue2
  t3 := Tryz.underlying3
  a3 := Tryz.isAgg3
  z3 := Tryz.sizeOf3
  v3 := Tryz.zeroValue3
  t4 := Tryz.underlying4
  a4 := Tryz.isAgg4
  z4 := Tryz.sizeOf4
  v4 := Tryz.zeroValue4
  t5 := Tryz.underlying5
  a5 := Tryz.isAgg5
  z5 := Tryz.sizeOf5
  v5 := Tryz.zeroValue5
  t9 := Tryz.underlying9
  a9 := Tryz.isAgg9
  z9 := Tryz.sizeOf9
  v9 := Tryz.zeroValue9
  t20 := Tryz.underlying20
  a20 := Tryz.isAgg20
  z20 := Tryz.sizeOf20
  v20 := Tryz.zeroValue20
  t37 := Tryz.underlying47
  a37 := Tryz.isAgg47
  z37 := Tryz.sizeOf47
  v37 := Tryz.zeroValue47
  t46 := Tryz.underlying121
  a46 := Tryz.isAgg121
  z46 := Tryz.sizeOf121
  v46 := Tryz.zeroValue121
  t51 := Tryz.underlying131
  a51 := Tryz.isAgg131
  z51 := Tryz.sizeOf131
  v51 := Tryz.zeroValue131
  t53 := Tryz.underlying126
  a53 := Tryz.isAgg126
  z53 := Tryz.sizeOf126
  v53 := Tryz.zeroValue126
  t171 := Tryz.underlying125
  a171 := Tryz.isAgg125
  z171 := Tryz.sizeOf125
  v171 := Tryz.zeroValue125
  t173 := Tryz.underlying129
  a173 := Tryz.isAgg129
  z173 := Tryz.sizeOf129
  v173 := Tryz.zeroValue129
  t212 := Tryz.underlying136
  a212 := Tryz.isAgg136
  z212 := Tryz.sizeOf136
  v212 := Tryz.zeroValue136
  t213 := Tryz.underlying137
  a213 := Tryz.isAgg137
  z213 := Tryz.sizeOf137
  t232 := Tryz.underlying141
  a232 := Tryz.isAgg141
  z232 := Tryz.sizeOf141
  v232 := Tryz.zeroValue141
  t233 := Tryz.underlying142
  a233 := Tryz.isAgg142
  z233 := Tryz.sizeOf142
  v233 := Tryz.zeroValue142
  g17 := by kernel_rfl
  g18 := by kernel_rfl
  g19 := by kernel_rfl
  i0 := by kernel_rfl
  i2 := by kernel_rfl
  i3 := by kernel_rfl
  i4 := by kernel_rfl
  i5 := by kernel_rfl
  i9 := by kernel_rfl
  i20 := by kernel_rfl
  i37 := by kernel_rfl
  i46 := by kernel_rfl
  i51 := by kernel_rfl
  i53 := by kernel_rfl
  i171 := by kernel_rfl
  i173 := by kernel_rfl
  i212 := by kernel_rfl
  i232 := by kernel_rfl
  i233 := by kernel_rfl
  m17 := by kernel_rfl
  m18 := by kernel_rfl
  m19 := by kernel_rfl }
def Tryz.laysContains_ren : Go.Shelf.Ren := ⟨fun | 144 => 28 | 143 => 41 | 219 => 54 | 217 => 74 | 225 => 75 | 224 => 76 | 267 => 77 | 266 => 84 | 314 => 85 | n => n, fun | 9 => 9 | 4 => 4 | 3 => 3 | 5 => 5 | 46 => 121 | 146 => 132 | 51 => 131 | n => n, fun | 1 => 0 | n => n⟩
theorem Tryz.laysContains : Go.Proofs.LaysM.n144 Tryz.prog Tryz.laysContains_ren := {
  mixed := by kernel_rfl
  f143 := Tryz.func41.trans (congrArg some (by kernel_rfl))
  f144 := Tryz.func28.trans (congrArg some (by kernel_rfl))
  f217 := Tryz.func74.trans (congrArg some (by kernel_rfl))
  f219 := Tryz.func54.trans (congrArg some (by kernel_rfl))
  f224 := Tryz.func76.trans (congrArg some (by kernel_rfl))
  f225 := Tryz.func75.trans (congrArg some (by kernel_rfl))
  f266 := Tryz.func84.trans (congrArg some (by kernel_rfl))
  f267 := Tryz.func77.trans (congrArg some (by kernel_rfl))
  f314 := Tryz.func85.trans (congrArg some (by kernel_rfl))
  t3 := Tryz.underlying3
  a3 := Tryz.isAgg3
  z3 := Tryz.sizeOf3
  v3 := Tryz.zeroValue3
  t4 := Tryz.underlying4
  a4 := Tryz.isAgg4
  z4 := Tryz.sizeOf4
  v4 := Tryz.zeroValue4
  t5 := Tryz.underlying5
  a5 := Tryz.isAgg5
  z5 := Tryz.sizeOf5
  v5 := Tryz.zeroValue5
  t9 := Tryz.underlying9
  a9 := Tryz.isAgg9
  z9 := Tryz.sizeOf9
  v9 := Tryz.zeroValue9
  t46 := Tryz.underlying121
  a46 := Tryz.isAgg121
  z46 := Tryz.sizeOf121
  v46 := Tryz.zeroValue121
  t51 := Tryz.underlying131
  a51 := Tryz.isAgg131
  z51 := Tryz.sizeOf131
  v51 := Tryz.zeroValue131
  t146 := Tryz.underlying132
  a146 := Tryz.isAgg132
  z146 := Tryz.sizeOf132
  v146 := Tryz.zeroValue132
  g1 := by kernel_rfl
  i3 := by kernel_rfl
  i4 := by kernel_rfl
  i5 := by kernel_rfl
  i9 := by kernel_rfl
  i46 := by kernel_rfl
  i51 := by kernel_rfl
  i146 := by kernel_rfl
  m1 := by kernel_rfl
  s1_3 := fun w h => Go.Proofs.cell_of_shapedOpen_int (zero := #[.int .i64 0]) (t := 3) h (of_decide_eq_true (by kernel_rfl)) (by kernel_rfl) rfl (by kernel_rfl) (by kernel_rfl) Tryz.underlying3 }
end Go.Proofs

/- Tokens: numbers as texts. -/
set_option linter.unusedVariables false
set_option linter.unusedSimpArgs false
namespace Go.S17
open Go Go.Eng Go.Proofs Go.Scn

theorem itoa_ok (n : Int) (h0 : -9223372036854775808 ≤ n) (h1 : n ≤ 9223372036854775807) (h : AH) : Gets Tryz.prog 36 [iv n] h (fun res h' => h' = h ∧ res = .ret (tv (Lib.itoa n))) := by
  refine Gets.ofCalls (fn := Tryz.prog.funcs[36]!) hP (by kernel_rfl) (c := (Tryz.prog.funcs[36]!).body.getD .skip) (by kernel_rfl) rfl rfl (fun W hT => ?_) h
  refine Calls.mono (Any.strconv_Itoa (P := Tryz.prog) Tryz.laysItoa n h0 h1 W (tab_pow hT (by kernel_rfl : Tryz.prog.globalNamed "internal/strconv.uint64pow10" = some 1) (by kernel_rfl))) fun e w' he => ?_
  obtain ⟨rfl, k, os, rfl⟩ := he
  exact ⟨rfl, below_grow⟩
end Go.S17

/- Texts: strings.Builder. -/
set_option linter.unusedVariables false
set_option linter.unusedSimpArgs false
namespace Go.S17
open Go Go.Eng Go.Proofs Go.Scn

abbrev bdT : TypeId := 49
/-- A strings.Builder with its bytes. -/
structure Bd (h : AH) (b : Nat) (acc : Bs) (a v : Value) : Prop where
  own : Own h b bdT [a, v]
  ad : a = .pointer none ∨ a = .pointer (some ⟨b, 0, none⟩)
  ow : Ows h 5 1 v acc.length (acc.map bv)
  ne : ∀ q, bk v q → b < q
  nl : acc = [] → v = .slice none 0 0

theorem noesc_ok (v : Value) (h : AH) : Gets Tryz.prog 51 [v] h (fun res h' => h' = h ∧ res = .ret v) := by
  refine Gets.extB (h' := h) (res := .ret v) ?_ (Nat.le_refl _) ⟨rfl, rfl⟩
  have hf : Tryz.prog.funcs[(51 : Nat)]? = some (Tryz.prog.funcs[51]!) := by kernel_rfl
  have hb : ((Tryz.prog.funcs[51]!).body.isNone && ((Extern.allNextRows.lookup (Tryz.prog.funcs[51]!).origin).isNone)) = true := by kernel_rfl
  have hn : ((Tryz.prog.funcs[51]!).name == "internal/abi.NoEscape") = true := by kernel_rfl
  simp only [aextB, hf, hb, hn, if_true]

theorem copyCheck_ok {h : AH} {b : Nat} {acc : Bs} {a v : Value} (x : Bd h b acc a v) : Gets Tryz.prog 34 [.pointer (some ⟨b, 0, none⟩)] h
    (fun res h' => res = .ret (.tuple #[]) ∧ Keep (· = b) h h' ∧ Bd h' b acc (.pointer (some ⟨b, 0, none⟩)) v) := by
  refine Gets.of (keep := false) hP (draw_ok hM) k34 (by rfl) (fun Ψ hΨ => ?_)
  obtain ⟨va, vc, rfl⟩ := row_shape x.ow.rds
  have o := x.own
  obtain ⟨g, hg⟩ := x.own
  rcases x.ad with rfl | rfl
  · simp only [mach, mach2, mstd, ↓reduceIte, Nat.reduceEqDiff, Nat.reduceAdd, Nat.reduceMul, r34, o.cells.ld, mbl, Nat.reduceLeDiff, Nat.reduceLT, Int.reduceEq, u_up o.cells (show 0 < 2 by omega)]
    refine XX_val (noesc_ok _ h) ?_
    simp only [mach, mach2, mstd, ↓reduceIte, Nat.reduceEqDiff, Nat.reduceAdd, Nat.reduceMul, u_pu hg (show 2 ≤ 2 by omega)]
    refine XH_own o rfl (by simp [Value.cells]) rfl (fun h' q1 q2 q3 => ?_)
    have o' : Own h' b bdT [.pointer (some ⟨b, 0, none⟩), .slice va acc.length vc] := by simpa [Value.cells] using q1
    simp only [mach, mach2, mstd, ↓reduceIte, Nat.reduceEqDiff, Nat.reduceAdd, Nat.reduceMul]
    exact hΨ _ _ (fin_norm ⟨rfl, q2, o', .inr rfl, x.ow.keep q2 (fun q hq e => by have := x.ne q hq; omega), x.ne, x.nl⟩)
  · simp only [mach, mach2, mstd, ↓reduceIte, Nat.reduceEqDiff, Nat.reduceAdd, Nat.reduceMul, r34, o.cells.ld, mbl, Nat.reduceLeDiff, Nat.reduceLT, Int.reduceEq]
    exact hΨ _ _ (fin_norm ⟨rfl, .refl _ _, o, .inr rfl, x.ow, x.ne, x.nl⟩)

theorem writeByte_ok {h : AH} {b : Nat} {acc : Bs} {a v : Value} (x : Bd h b acc a v) (c : UInt8) (hl : acc.length ≤ 140000000000000) : Gets Tryz.prog 35 [.pointer (some ⟨b, 0, none⟩), bv c] h
    (fun res h' => res = .ret .nilIface ∧ Keep (fun q => q = b ∨ bk v q) h h' ∧ ∃ v', Bd h' b (acc ++ [c]) (.pointer (some ⟨b, 0, none⟩)) v' ∧ ∀ q, bk v' q → bk v q ∨ h.length ≤ q) := by
  refine Gets.of (keep := false) hP (draw_ok hM) k35 (by rfl) (fun Ψ hΨ => ?_)
  simp only [mach, mach2, mstd, ↓reduceIte, Nat.reduceEqDiff, Nat.reduceAdd, Nat.reduceMul, r35]
  refine XX_of (copyCheck_ok x) (fun res h1 hle hr => ?_)
  obtain ⟨rfl, k1, x1⟩ := hr
  refine .ret ?_
  obtain ⟨s', h', a1, a2, a3, a4⟩ := app1 (bytes := 1) x1.ow (xs := [bv c]) rfl rfl (by omega) (by omega)
  obtain ⟨va, vc, rfl⟩ := row_shape x1.ow.rds
  obtain ⟨sa, sc, rfl⟩ := row_shape a2.rds
  simp only [mach, mach2, mstd, ↓reduceIte, Nat.reduceEqDiff, Nat.reduceAdd, Nat.reduceMul, x1.own.cells.ld, mbl, Nat.reduceLeDiff, Nat.reduceLT, Int.reduceEq, a1]
  have o2 : Own h' b bdT [.pointer (some ⟨b, 0, none⟩), .slice va acc.length vc] := x1.own.keep a3 (fun e => by have := x1.ne b e; omega)
  refine XH_own o2 rfl (by simp [Value.cells]) rfl (fun h2 q1 q2 q3 => ?_)
  have o3 : Own h2 b bdT [.pointer (some ⟨b, 0, none⟩), .slice sa (acc.length + 1) sc] := by simpa [Value.cells] using q1
  have hb := x1.own.lt
  have hlen := k1.len
  have hbl := x.own.lt
  have fr : ∀ q, bk (.slice sa (acc.length + 1) sc) q → b < q := fun q hq => by
    rcases a4 q hq with e | e
    · exact x1.ne q e
    · omega
  simp only [mach, mach2, mstd, ↓reduceIte, Nat.reduceEqDiff, Nat.reduceAdd, Nat.reduceMul]
  refine hΨ _ _ (fin_ret (rv1 rfl ⟨rfl, ?_, _, ⟨o3, .inr rfl, ?_, fr, fun e => by simp at e⟩, fun q hq => ?_⟩))
  · exact ((k1.mono (fun c e => .inl e)).trans' a3 (fun q hq e => .inr e)).trans' q2 (fun q hq e => .inl e)
  · have := a2.keep q2 (fun q hq e => by have := fr q hq; omega)
    simpa using this
  · exact (a4 q hq).imp id (fun e => by omega)

theorem writeString_ok {h : AH} {b : Nat} {acc : Bs} {a v : Value} (x : Bd h b acc a v) (l : Bs) (hl : acc.length + l.length ≤ 140000000000000) : Gets Tryz.prog 19 [.pointer (some ⟨b, 0, none⟩), tv l] h
    (fun res h' => res = .ret (.tuple #[iv l.length, .nilIface]) ∧ Keep (fun q => q = b ∨ bk v q) h h' ∧ ∃ v', Bd h' b (acc ++ l) (.pointer (some ⟨b, 0, none⟩)) v' ∧ ∀ q, bk v' q → bk v q ∨ h.length ≤ q) := by
  refine Gets.of (keep := false) hP (draw_ok hM) k19 (by rfl) (fun Ψ hΨ => ?_)
  simp only [mach, mach2, mstd, ↓reduceIte, Nat.reduceEqDiff, Nat.reduceAdd, Nat.reduceMul, r19]
  refine XX_of (copyCheck_ok x) (fun res h1 hle hr => ?_)
  obtain ⟨rfl, k1, x1⟩ := hr
  refine .ret ?_
  obtain ⟨s', h', a1, a2, a3, a4⟩ := x1.ow.app (bytes := 1) (str := true) (x := tv l) (m := l.length) (xs := l.map bv) (by simp [srcv, tx_size, cells_tx]) (by simp) (by simp [Value.oneCell']) (by omega) (by omega)
  have nl : acc ++ l = [] → s' = .slice none 0 0 := fun e => by
    obtain ⟨e1, e2⟩ := List.append_eq_nil_iff.1 e
    have hv := x1.nl e1
    subst e2
    rw [hv] at a1
    simp [appv, srcv, tx_size] at a1
    exact a1.1.symm
  obtain ⟨va, vc, rfl⟩ := row_shape x1.ow.rds
  obtain ⟨sa, sc, rfl⟩ := row_shape a2.rds
  simp only [mach, mach2, mstd, ↓reduceIte, Nat.reduceEqDiff, Nat.reduceAdd, Nat.reduceMul, x1.own.cells.ld, mbl, Nat.reduceLeDiff, Nat.reduceLT, Int.reduceEq, a1]
  have o2 : Own h' b bdT [.pointer (some ⟨b, 0, none⟩), .slice va acc.length vc] := x1.own.keep a3 (fun e => by have := x1.ne b e; omega)
  refine XH_own o2 rfl (by simp [Value.cells]) rfl (fun h2 q1 q2 q3 => ?_)
  have o3 : Own h2 b bdT [.pointer (some ⟨b, 0, none⟩), .slice sa (acc.length + l.length) sc] := by simpa [Value.cells] using q1
  have hb := x1.own.lt
  have hlen := k1.len
  have hbl := x.own.lt
  have fr : ∀ q, bk (.slice sa (acc.length + l.length) sc) q → b < q := fun q hq => by
    rcases a4 q hq with e | e
    · exact x1.ne q e
    · omega
  simp only [mach, mach2, mstd, ↓reduceIte, Nat.reduceEqDiff, Nat.reduceAdd, Nat.reduceMul, tx_size]
  refine hΨ _ _ (fin_ret (rv2 rfl rfl ⟨rfl, ?_, _, ⟨o3, .inr rfl, ?_, fr, nl⟩, fun q hq => ?_⟩))
  · exact ((k1.mono (fun c e => .inl e)).trans' a3 (fun q hq e => .inr e)).trans' q2 (fun q hq e => .inl e)
  · have := a2.keep q2 (fun q hq e => by have := fr q hq; omega)
    simpa using this
  · exact (a4 q hq).imp id (fun e => by omega)

theorem string_ok {h : AH} {b : Nat} {acc : Bs} {a v : Value} (x : Bd h b acc a v) (hl : acc.length ≤ 140000000000000) : Gets Tryz.prog 22 [.pointer (some ⟨b, 0, none⟩)] h
    (fun res h' => res = .ret (tv acc) ∧ Keep (bk v) h h') := by
  refine Gets.of (keep := false) hP (draw_ok hM) k22 (by rfl) (fun Ψ hΨ => ?_)
  have hv := x.own
  by_cases h0 : acc = []
  · have e := x.nl h0
    subst h0 e
    have hu : ustv h 5 (.pointer none) (iv 0) = some (.string ByteArray.empty, h) := rfl
    simp only [mach, mach2, mstd, ↓reduceIte, Nat.reduceEqDiff, Nat.reduceAdd, Nat.reduceMul, r22, hv.cells.ld, mbl, Nat.reduceLeDiff, Nat.reduceLT, Int.reduceEq, hu]
    exact hΨ _ _ (fin_ret (rv1 rfl ⟨rfl, .refl _ _⟩))
  · have hpos : 0 < acc.length := List.length_pos_iff.2 h0
    obtain ⟨b2, c, all, e, ob, hall, hnc, htk⟩ := ows_open x.ow hpos
    subst e
    have hc0 : c ≠ 0 := by omega
    obtain ⟨g, hg⟩ := ob
    have hu : ustv h 5 (.pointer (some ⟨b2, 0, none⟩)) (iv acc.length) = some (.string (tx acc), h.set b2 (.cells false true g 0 5 all)) := by
      have h1 : ¬ (acc.length : Int) = 0 := by omega
      have h2 : (0 : Int) < (acc.length : Int) := by omega
      have h3 : 0 + acc.length ≤ all.length := by omega
      have h4 : (acc.length : Int) ≤ 9223372036854775807 := by omega
      simp only [ustv, h1, if_false, hg, Int.toNat_natCast, h2, h3, h4, and_self, if_true, List.drop_zero, htk, asBytes_tx, Option.map_some, pushAll_tx]
    simp only [mach, mach2, mstd, ↓reduceIte, Nat.reduceEqDiff, Nat.reduceAdd, Nat.reduceMul, r22, hv.cells.ld, mbl, Nat.reduceLeDiff, Nat.reduceLT, Int.reduceEq, hc0, hu, ct1]
    exact hΨ _ _ (fin_ret (rv1 rfl ⟨rfl, (Keep.set _ _ _).mono (fun q e => e)⟩))
end Go.S17

/- Texts: the document's digits of a number, walked by the kit's rules and any_inv. -/
set_option linter.unusedVariables false
set_option linter.unusedSimpArgs false
namespace Go.Proofs
open Go.RowKit Go.Eng

theorem conv_at (W : World) (a : Addr) (x : Nat) (hx : x < 256) (hc : W.cell? a = some (.int .u8 x)) (ha : a.spot = none) :
    (convert 47 9 (.slice (some a) 1 1)).run Tryz.prog W = .ok (.string ⟨#[UInt8.ofNat x]⟩) W := by
  have := run_convert_bytes_back (P := Tryz.prog) W 47 9 5 a 1 [UInt8.ofNat x] Tryz.underlying47 Tryz.underlying5 Tryz.underlying9 (fun j hj => by
    have : j = 0 := by simp at hj; exact hj
    subst this
    have e : a.add 0 = a := by simp [Addr.add]
    rw [e, hc]
    simp
    omega)
  exact this

def dgDst : List Nat := [10, 11, 12, 13, 14, 15, 16, 17, 18, 19, 2]
def dgVal (n : Nat) (S : ByteArray) : Nat → Option Value
  | 0 => some (.int .i64 n)
  | 1 => some (.int .i64 ((n / 10 : Nat) : Int))
  | 2 => some (.string S)
  | 3 => some (.int .i64 n)
  | 4 => some (.int .i64 ((n % 10 : Nat) : Int))
  | 5 => some (.int .i64 ((48 + n % 10 : Nat) : Int))
  | 6 => some (.int .u8 ((48 + n % 10 : Nat) : Int))
  | 8 => some (.string ⟨#[UInt8.ofNat (48 + n % 10)]⟩)
  | 9 => some (.string (S ++ ⟨#[UInt8.ofNat (48 + n % 10)]⟩))
  | 10 => some (.string (S ++ ⟨#[UInt8.ofNat (48 + n % 10)]⟩))
  | _ => none
structure DgI (w0 : World) (n : Nat) (S : ByteArray) (L : Nat → Bool) (a : Act) (w : World) : Prop where
  be : Below w0.heap.size w0 w
  ds : a.defers = []
  sz : a.tmps.size = 20
  t0 : a.tmps[0]? = some (.int .i64 n)
  vs : ∀ i t v, L i = true → dgDst[i]? = some t → dgVal n S i = some v → a.tmps[t]? = some v
  row : L 7 = true → ∃ g, a.tmps[17]? = some (.slice (some ⟨g, 0, none⟩) 1 1) ∧ w.cell? ⟨g, 0, none⟩ = some (.int .u8 ((48 + n % 10 : Nat) : Int))

/-- One more value. -/
theorem DgI.put {w0 w w' : World} {n : Nat} {S : ByteArray} {L : Nat → Bool} {a : Act} (x : DgI w0 n S L a w) {i t : Nat} {v : Value} (hi : i ≠ 7) (ht : dgDst[i]? = some t) (hv : dgVal n S i = some v)
    (hb : Below w0.heap.size w0 w') (hc : ∀ g, w.cell? ⟨g, 0, none⟩ = some (.int .u8 ((48 + n % 10 : Nat) : Int)) → w'.cell? ⟨g, 0, none⟩ = some (.int .u8 ((48 + n % 10 : Nat) : Int))) : DgI w0 n S (put1 L i) (a.put (some t) v) w' := by
  have hi11 : i < 11 := (List.getElem?_eq_some_iff.1 ht).1
  have h20 : t < 20 := by
    have : ∀ j < 11, ∀ u, dgDst[j]? = some u → u < 20 := by decide
    exact this i hi11 t ht
  have hset : (a.put (some t) v).tmps = a.tmps.setIfInBounds t v := by simp [Act.put]
  have hother : ∀ u, u ≠ t → (a.put (some t) v).tmps[u]? = a.tmps[u]? := fun u hu => by rw [hset, Array.getElem?_setIfInBounds_ne (Ne.symm hu)]
  have hdist : ∀ j < 11, ∀ k < 11, ∀ u, dgDst[j]? = some u → dgDst[k]? = some u → j = k := by decide
  refine ⟨hb, by simpa [Act.put] using x.ds, by rw [hset]; simpa using x.sz, ?_, fun j u y hj hu hy => ?_, fun h7 => ?_⟩
  · rw [hother 0 (by
      have : ∀ j < 11, ∀ u, dgDst[j]? = some u → u ≠ 0 := by decide
      exact (this i hi11 t ht).symm)]; exact x.t0
  · by_cases e : u = t
    · subst e
      have : j = i := hdist j (List.getElem?_eq_some_iff.1 hu).1 i hi11 u hu ht
      subst this
      rw [hv] at hy; cases hy
      rw [hset, Array.getElem?_setIfInBounds_self_of_lt (by rw [x.sz]; exact h20)]
    · rw [hother u e]
      refine x.vs j u y ?_ hu hy
      unfold put1 at hj
      by_cases e2 : j = i
      · subst e2; rw [ht] at hu; cases hu; exact absurd rfl e
      · simpa [e2] using hj
  · have h7' : L 7 = true := by
      unfold put1 at h7
      have : (7 == i) = false := by simp; omega
      simpa [this] using h7
    obtain ⟨g, h1, h2⟩ := x.row h7'
    refine ⟨g, ?_, hc g h2⟩
    rw [hother 17 (fun e => hi (hdist i hi11 7 (by omega) 17 (by rw [ht, e]) rfl))]
    exact h1

theorem wpOp_val {P : Program} {ops : Array Oper} {Q : Exit → Act → World → Prop} {i : Nat} {K : Act → World → Prop} {a : Act} {w w' : World} {o : Oper} {v : Value} (ho : ops[i]? = some o) (hg : o.guard = none)
    (hr : (execOp a.eval o).run P w = .ok (.value v) w') (hk : K (a.put o.dst v) w') : wpOp P ops Q i K a w := by
  unfold wpOp
  rw [ho]
  simp only
  rw [if_pos (by simp [Region.wanted, hg])]
  left
  unfold Oper.wp
  rw [hr]
  exact hk
theorem wpOp_call {P : Program} {ops : Array Oper} {Q : Exit → Act → World → Prop} {i : Nat} {K : Act → World → Prop} {a : Act} {w : World} {o : Oper} {f : FuncId} {args : Array Value} (ho : ops[i]? = some o) (hg : o.guard = none)
    (hr : (execOp a.eval o).run P w = .ok (.enter f args) w) (hk : Calls P f args w fun e w' => ∃ v, e = .returned v ∧ K (a.put o.dst v) w') : wpOp P ops Q i K a w := by
  unfold wpOp
  rw [ho]
  simp only
  rw [if_pos (by simp [Region.wanted, hg])]
  left
  unfold Oper.wp
  rw [hr]
  show Calls P f args w _
  refine hk.mono fun e w' h => ?_
  obtain ⟨v, rfl, h⟩ := h
  exact h
theorem run_ib {P : Program} {w : World} {op : BinOp} {t : TypeId} {k : IntKind} {a b : Int} {v : Value} (hv : ibin op k a b = some v) : (binOp op t (.int k a) (.int k b)).run P w = .ok v w :=
  pureRun_run (pureRun_ibin (.inl rfl) hv).1 w
theorem run_sb {P : Program} {w : World} {op : BinOp} {t : TypeId} {a b : ByteArray} {v : Value} (hv : sbin op a b = some v) : (binOp op t (.string a) (.string b)).run P w = .ok v w :=
  pureRun_run (pureRun_sbin hv).1 w
section
variable {a : Act} {w : World} {n : Nat}
theorem ev_t {s : Nat} {v : Value} (h : a.tmps[s]? = some v) : a.eval (.tmp s) = v := by
  simp [Act.eval, h]
theorem ev_c {v : Value} : a.eval (.const v) = v := rfl
theorem op_mv {s t : Nat} {v : Value} {ty : TypeId} {pos : String} {af : Array Edge} (h : a.tmps[s]? = some v) : (execOp a.eval ⟨some t, Op.move (Operand.tmp s), ty, pos, af, none⟩).run Tryz.prog w = .ok (.value v) w := by
  simp [execOp, ev_c, ev_t h]
theorem op_as {s t : Nat} {v : Value} {ty : TypeId} {pos : String} {af : Array Edge} (h : a.tmps[s]? = some v) : (execOp a.eval ⟨some t, Op.assign (Operand.tmp s), ty, pos, af, none⟩).run Tryz.prog w = .ok (.value v) w := by
  simp [execOp, ev_c, ev_t h]
theorem op_tc {s t : Nat} {x y : Int} {op : BinOp} {v : Value} {ty tt t2 : TypeId} {pos : String} {af : Array Edge} (h : a.tmps[s]? = some (.int .i64 x)) (hv : ibin op .i64 x y = some v) (he : ∀ u, (eqGuard op tt (.tmp s) (.const (.int .i64 y)) (.int .i64 x) (.int .i64 y)).run Tryz.prog u = .ok () u) :
    (execOp a.eval ⟨some t, Op.binOp op tt (Operand.tmp s) (Operand.const (.int .i64 y)) t2, ty, pos, af, none⟩).run Tryz.prog w = .ok (.value v) w := by
  simp [execOp, ev_c, ev_t h, run_ib hv, he]
theorem op_ct {s t : Nat} {x y : Int} {op : BinOp} {v : Value} {ty tt t2 : TypeId} {pos : String} {af : Array Edge} (h : a.tmps[s]? = some (.int .i64 x)) (hv : ibin op .i64 y x = some v) (he : ∀ u, (eqGuard op tt (.const (.int .i64 y)) (.tmp s) (.int .i64 y) (.int .i64 x)).run Tryz.prog u = .ok () u) :
    (execOp a.eval ⟨some t, Op.binOp op tt (Operand.const (.int .i64 y)) (Operand.tmp s) t2, ty, pos, af, none⟩).run Tryz.prog w = .ok (.value v) w := by
  simp [execOp, ev_c, ev_t h, run_ib hv, he]
theorem op_ss {s s2 t : Nat} {x y : ByteArray} {op : BinOp} {v : Value} {ty tt t2 : TypeId} {pos : String} {af : Array Edge} (h : a.tmps[s]? = some (.string x)) (h2 : a.tmps[s2]? = some (.string y)) (hv : sbin op x y = some v) (he : ∀ u, (eqGuard op tt (.tmp s) (.tmp s2) (.string x) (.string y)).run Tryz.prog u = .ok () u) :
    (execOp a.eval ⟨some t, Op.binOp op tt (Operand.tmp s) (Operand.tmp s2) t2, ty, pos, af, none⟩).run Tryz.prog w = .ok (.value v) w := by
  simp [execOp, ev_t h, ev_t h2, ev_c, run_sb hv, he]
theorem op_cv {s t : Nat} {x : Int} {ty : TypeId} {pos : String} {af : Array Edge} (h : a.tmps[s]? = some (.int .i64 x)) : (execOp a.eval ⟨some t, Op.convert 3 5 (Operand.tmp s), ty, pos, af, none⟩).run Tryz.prog w = .ok (.value (.int .u8 (IntKind.u8.wrap x))) w := by
  have hc : (convert 3 5 (.int .i64 x)).run Tryz.prog w = .ok (.int .u8 (IntKind.u8.wrap x)) w :=
    pureRun_run (by simp only [convert, pureRun_bind, pureRun_underlying Tryz.underlying3, pureRun_underlying Tryz.underlying5, Option.bind_some]; rfl) w
  simp [execOp, ev_c, ev_t h, hc]
theorem op_bs {s t : Nat} {x : Int} {ty : TypeId} {pos : String} {af : Array Edge} (h : a.tmps[s]? = some (.int .u8 x)) : (execOp a.eval ⟨some t, Op.buildSlice 47 1 #[(0, Operand.tmp s)], ty, pos, af, none⟩).run Tryz.prog w = .ok (.value (.slice (some ⟨w.heap.size, 0, none⟩) 1 1)) (w.alloc (.cells #[.int .u8 x] 5)) := by
  have hi : (Tryz.prog.info? 5).map (fun i => (i.zero, i.size)) = some (some (Value.int .u8 0), 1) := by kernel_rfl
  obtain ⟨ie, hie, hie2⟩ := Option.map_eq_some_iff.1 hi
  simp only [Prod.mk.injEq] at hie2
  have hb : (Instr.buildSlice 47 1 #[(0, .int .u8 x)]).run Tryz.prog w = .ok (.slice (some ⟨w.heap.size, 0, none⟩) 1 1) (w.alloc (.cells #[.int .u8 x] 5)) :=
    run_buildSlice w 47 5 1 #[(0, .int .u8 x)] #[.int .u8 x] ie (.int .u8 0) Tryz.underlying47 hie hie2.1 (by rw [hie2.2]; decide) (by rw [hie2.2]; decide) (by rw [hie2.2]; simp [Instr.fill, Value.cells]; rw [show Array.range 1 = #[0] from rfl]; simp)
  simp [execOp, ev_c, ev_t h, hb]
theorem op_cb {s t : Nat} {x : Nat} {g : Nat} {ty : TypeId} {pos : String} {af : Array Edge} (hx : x < 256) (h : a.tmps[s]? = some (.slice (some ⟨g, 0, none⟩) 1 1)) (hc : w.cell? ⟨g, 0, none⟩ = some (.int .u8 x)) : (execOp a.eval ⟨some t, Op.convert 47 9 (Operand.tmp s), ty, pos, af, none⟩).run Tryz.prog w = .ok (.value (.string ⟨#[UInt8.ofNat x]⟩)) w := by
  simp [execOp, ev_c, ev_t h, conv_at w _ x hx hc rfl]
end

theorem below_cell {w w' : World} {g : Nat} {v : Value} (h : Below w.heap.size w w') (hc : w.cell? ⟨g, 0, none⟩ = some v) : w'.cell? ⟨g, 0, none⟩ = some v := by
  have hg : g < w.heap.size := by
    rcases Nat.lt_or_ge g w.heap.size with e | e
    · exact e
    · simp [World.cell?, Array.getElem?_eq_none e] at hc
  simp only [World.cell?] at hc ⊢
  rw [h.block g hg]; exact hc
theorem below_alloc (w : World) (o : Obj) : Below w.heap.size w (w.alloc o) :=
  ⟨rfl, rfl, rfl, by show w.heap.size ≤ (w.heap.push o).size; simp, fun i hi => by show (w.heap.push o)[i]? = w.heap[i]?; rw [Array.getElem?_push_lt hi, Array.getElem?_eq_getElem hi]⟩
theorem below_tr {w w1 w2 : World} (a : Below w.heap.size w w1) (b : Below w1.heap.size w1 w2) : Below w.heap.size w w2 :=
  ⟨b.os.trans a.os, b.tape.trans a.tape, b.output.trans a.output, Nat.le_trans a.size b.size, fun i hi => by rw [b.block i (Nat.lt_of_lt_of_le hi a.size), a.block i hi]⟩

theorem s_add' {a b : ByteArray} (h : a.size + b.size ≤ 9223372036854775807) : sbin .add a b = some (.string (a ++ b)) := by
  have : ¬ ((a.size + b.size : Nat) : Int) > IntKind.i64.max := by
    have : IntKind.i64.max = 9223372036854775807 := by decide
    omega
  simp only [sbin, if_neg this]
theorem hord_of {ops : Array Oper} (h : (ops.toList.zipIdx.all fun p => p.1.after.toList.all fun e => decide (e.on < p.2)) = true) : ∀ i o, ops[i]? = some o → ∀ e ∈ o.after, Region.binds .any e = true → e.on < i := by
  intro i o ho e he _
  have h1 : (o, i) ∈ ops.toList.zipIdx := by
    rw [List.mk_mem_zipIdx_iff_getElem?]; simpa using ho
  have h2 := List.all_eq_true.1 (List.all_eq_true.1 h _ h1) e (by simpa using he)
  simpa using h2
theorem DgI.row1 {w0 w : World} {n : Nat} {S : ByteArray} {L : Nat → Bool} {a : Act} (x : DgI w0 n S L a w) (hL : L 7 = false) :
    DgI w0 n S (put1 L 7) (a.put (some 17) (.slice (some ⟨w.heap.size, 0, none⟩) 1 1)) (w.alloc (.cells #[.int .u8 ((48 + n % 10 : Nat) : Int)] 5)) := by
  have hset : (a.put (some 17) (.slice (some ⟨w.heap.size, 0, none⟩) 1 1)).tmps = a.tmps.setIfInBounds 17 (.slice (some ⟨w.heap.size, 0, none⟩) 1 1) := by simp [Act.put]
  have hother : ∀ u, u ≠ 17 → (a.put (some 17) (.slice (some ⟨w.heap.size, 0, none⟩) 1 1)).tmps[u]? = a.tmps[u]? := fun u hu => by rw [hset, Array.getElem?_setIfInBounds_ne (Ne.symm hu)]
  refine ⟨below_tr x.be (below_alloc w _), by simpa [Act.put] using x.ds, by rw [hset]; simpa using x.sz, by rw [hother 0 (by omega)]; exact x.t0, fun j u y hj hu hy => ?_, fun _ => ⟨w.heap.size, ?_, ?_⟩⟩
  · have hj7 : j ≠ 7 := by rintro rfl; cases hy
    have hu17 : u ≠ 17 := by
      have : ∀ j < 11, ∀ u, dgDst[j]? = some u → j ≠ 7 → u ≠ 17 := by decide
      exact this j (List.getElem?_eq_some_iff.1 hu).1 u hu hj7
    rw [hother u hu17]
    refine x.vs j u y ?_ hu hy
    unfold put1 at hj
    simpa [hj7] using hj
  · rw [hset, Array.getElem?_setIfInBounds_self_of_lt (by rw [x.sz]; omega)]
  · show (match (w.heap.push (.cells #[.int .u8 ((48 + n % 10 : Nat) : Int)] 5))[w.heap.size]? with | some (.cells cs _ _) => cs[0]? | _ => none) = _
    rw [Array.getElem?_push_size]
    rfl
set_option maxRecDepth 100000
set_option maxHeartbeats 3200000 in
theorem digits_calls (n : Nat) : ∀ (hn : n < 9223372036854775808) (w : World), Calls Tryz.prog 53 #[.int .i64 n] w fun e w' => e = .returned (.string ⟨(Lib.decDigits n).toArray⟩) ∧ Below w.heap.size w w' := by
  induction n using Nat.strongRecOn with
  | _ n ih =>
    intro hn w
    by_cases hs : n < 10
    · have h1 : (n : Int) < 10 := by omega
      have h2 : IntKind.i64.wrap (48 + (n : Int)) = 48 + (n : Int) := by rw [IntKind.wrap_i64]; omega
      have hconv : (convert 47 9 (.slice (some ⟨w.heap.size, 0, none⟩) 1 1)).run Tryz.prog (w.alloc (.cells #[.int .u8 (48 + (n : Int))] 5)) = .ok (.string ⟨#[UInt8.ofNat (48 + n)]⟩) (w.alloc (.cells #[.int .u8 (48 + (n : Int))] 5)) :=
        conv_at _ _ (48 + n) (by omega) (by
          show (match (w.heap.push (.cells #[.int .u8 (48 + (n : Int))] 5))[w.heap.size]? with | some (.cells cs _ _) => cs[0]? | _ => none) = _
          rw [Array.getElem?_push_size]
          rfl) rfl
      go_enter Tryz.func53, Tryz.ntmps53
      go_wp2
      go_ret
      rw [Lib.decDigits_one hs]
      refine ⟨?_, below_alloc w _⟩
      show Ending.returned (.string ⟨#[48 + UInt8.ofNat n]⟩) = Ending.returned (.string ⟨#[UInt8.ofNat (48 + n)]⟩)
      rw [UInt8.ofNat_add]; rfl
    have h1 : ¬ (n : Int) < 10 := by omega
    have hq : Int.tdiv (n : Int) 10 = ((n / 10 : Nat) : Int) := by rw [Int.tdiv_eq_ediv_of_nonneg (by omega)]; omega
    have hr : Int.tmod (n : Int) 10 = ((n % 10 : Nat) : Int) := by rw [Int.tmod_eq_emod_of_nonneg (by omega)]; omega
    have hw1 : IntKind.i64.wrap ((n / 10 : Nat) : Int) = ((n / 10 : Nat) : Int) := by rw [IntKind.wrap_i64]; omega
    have hw4 : IntKind.i64.wrap ((n % 10 : Nat) : Int) = ((n % 10 : Nat) : Int) := by rw [IntKind.wrap_i64]; omega
    have hw2 : IntKind.i64.wrap (48 + ((n % 10 : Nat) : Int)) = ((48 + n % 10 : Nat) : Int) := by rw [IntKind.wrap_i64]; omega
    have hw3 : IntKind.u8.wrap ((48 + n % 10 : Nat) : Int) = ((48 + n % 10 : Nat) : Int) := by rw [IntKind.wrap_u8]; omega
    go_enter Tryz.func53, Tryz.ntmps53
    go_wp2
    refine wp_region_any (by kernel_rfl) ?_
    have hx : 48 + n % 10 < 256 := by omega
    have hlen : (Lib.decDigits (n / 10)).length ≤ 1000 := by
      rw [Lib.decDigits_length]
      have := Lib.numDigits_eq (n / 10) (by omega) (by omega)
      split at this <;> omega
    refine any_inv (DgI w n ⟨(Lib.decDigits (n / 10)).toArray⟩) (hord_of (by decide)) ?_ ?_ _ _ _ _ rfl (by decide) ?_
    · intro L a W i o hI ho hL hp
      match i, ho, hL with
      | 0, ho, hL =>
        obtain rfl := Option.some.inj ho
        exact wpOp_val ho rfl (op_mv hI.t0) (hI.put (by omega) rfl rfl hI.be (fun g h => h))
      | 1, ho, hL =>
        obtain rfl := Option.some.inj ho
        have l0 := hp ⟨0, .data⟩ (by simp) rfl
        exact wpOp_val ho rfl (op_tc (hI.vs 0 10 _ l0 rfl rfl) (by show (if (10:Int) = 0 then none else some (Value.int .i64 (IntKind.i64.wrap (Int.tdiv n 10)))) = _; rw [if_neg (by omega), hq, hw1] : ibin .quo .i64 (n : Int) 10 = some (.int .i64 ((n / 10 : Nat) : Int))) (fun u => rfl)) (hI.put (by omega) rfl rfl hI.be (fun g h => h))
      | 2, ho, hL =>
        obtain rfl := Option.some.inj ho
        have l1 := hp ⟨1, .data⟩ (by simp) rfl
        refine wpOp_call (f := 53) (args := #[.int .i64 ((n / 10 : Nat) : Int)]) ho rfl ?_ ((ih (n / 10) (by omega) (by omega) W).mono fun e w' he => ?_)
        · refine (congrArg (fun s : Sem Next => s.run Tryz.prog W) (run_call (a := a) (c := ⟨.value (.func 53), #[.tmp 11], #[3]⟩) (f := .func 53) rfl (g := 53) (first := #[]) (cap := #[]) rfl)).trans ?_
          show (callFunc 53 _).run Tryz.prog W = _
          rw [run_callFunc (fn := Tryz.f53) (by kernel_rfl) Tryz.func53 (c := Tryz.f53.body.getD .skip) (by kernel_rfl)]
          simp [ev_t (hI.vs 1 11 _ l1 rfl rfl)]
        · obtain ⟨rfl, hb⟩ := he
          exact ⟨_, rfl, hI.put (by omega) rfl rfl (below_tr hI.be hb) (fun g h => below_cell hb h)⟩
      | 3, ho, hL =>
        obtain rfl := Option.some.inj ho
        exact wpOp_val ho rfl (op_mv hI.t0) (hI.put (by omega) rfl rfl hI.be (fun g h => h))
      | 4, ho, hL =>
        obtain rfl := Option.some.inj ho
        have l0 := hp ⟨3, .data⟩ (by simp) rfl
        exact wpOp_val ho rfl (op_tc (hI.vs 3 13 _ l0 rfl rfl) (by simp [ibin, hr, hw4] : ibin .rem .i64 (n : Int) 10 = some (.int .i64 ((n % 10 : Nat) : Int))) (fun u => rfl)) (hI.put (by omega) rfl rfl hI.be (fun g h => h))
      | 5, ho, hL =>
        obtain rfl := Option.some.inj ho
        have l0 := hp ⟨4, .data⟩ (by simp) rfl
        exact wpOp_val ho rfl (op_ct (hI.vs 4 14 _ l0 rfl rfl) (by simp only [ibin, hw2] : ibin .add .i64 48 ((n % 10 : Nat) : Int) = some (.int .i64 ((48 + n % 10 : Nat) : Int))) (fun u => rfl)) (hI.put (by omega) rfl rfl hI.be (fun g h => h))
      | 6, ho, hL =>
        obtain rfl := Option.some.inj ho
        have l0 := hp ⟨5, .data⟩ (by simp) rfl
        refine wpOp_val ho rfl (op_cv (hI.vs 5 15 _ l0 rfl rfl)) ?_
        rw [hw3]
        exact hI.put (by omega) rfl rfl hI.be (fun g h => h)
      | 7, ho, hL =>
        obtain rfl := Option.some.inj ho
        have l0 := hp ⟨6, .data⟩ (by simp) rfl
        exact wpOp_val ho rfl (op_bs (hI.vs 6 16 _ l0 rfl rfl)) (hI.row1 hL)
      | 8, ho, hL =>
        obtain rfl := Option.some.inj ho
        have l0 := hp ⟨7, .data⟩ (by simp) rfl
        obtain ⟨g, r1, r2⟩ := hI.row l0
        exact wpOp_val ho rfl (op_cb hx r1 r2) (hI.put (by omega) rfl rfl hI.be (fun g h => h))
      | 9, ho, hL =>
        obtain rfl := Option.some.inj ho
        have l0 := hp ⟨2, .data⟩ (by simp) rfl
        have l1 := hp ⟨8, .data⟩ (by simp) rfl
        refine wpOp_val ho rfl (op_ss (hI.vs 2 12 _ l0 rfl rfl) (hI.vs 8 18 _ l1 rfl rfl) (s_add' (by show (Lib.decDigits (n / 10)).toArray.size + 1 ≤ _; simp; omega)) (fun u => rfl)) (hI.put (by omega) rfl rfl hI.be (fun g h => h))
      | 10, ho, hL =>
        obtain rfl := Option.some.inj ho
        have l0 := hp ⟨9, .data⟩ (by simp) rfl
        exact wpOp_val ho rfl (op_as (hI.vs 9 19 _ l0 rfl rfl)) (hI.put (by omega) rfl rfl hI.be (fun g h => h))
      | i + 11, ho, hL => cases ho
    · intro L a W hI hall
      rename_i Q' K hK
      show K a W
      refine hK a W ?_
      go_wp2
      have hres := hI.vs 10 2 _ (hall 10 (by decide)) rfl rfl
      refine ⟨hI.ds, .string ((⟨(Lib.decDigits (n / 10)).toArray⟩ : ByteArray) ++ ⟨#[UInt8.ofNat (48 + n % 10)]⟩), ?_, ?_, hI.be⟩
      · first
          | (simp [results, Tryz.results53, hres]; done)
          | (have hr : Tryz.f53.results = #[.tmp 2] := by kernel_rfl
             simp [results, hr, hres])
      · rw [show Lib.decDigits n = Lib.decDigits (n / 10) ++ [UInt8.ofNat (48 + n % 10)] from by rw [Lib.decDigits, dif_neg hs]]
        apply congrArg
        apply congrArg
        apply ByteArray.ext
        simp
    · refine ⟨⟨rfl, rfl, rfl, Nat.le_refl _, fun i hi => rfl⟩, rfl, rfl, rfl, fun i t v hL => ?_, fun hL => ?_⟩
      · exfalso; revert hL; simp [Array.getD, Array.getElem_replicate]
      · exfalso; revert hL; simp [Array.getD]
end Go.Proofs

/- Texts: digits, bytes as they are written. -/
set_option linter.unusedVariables false
set_option linter.unusedSimpArgs false
namespace Go.S17
open Go Go.Eng Go.Proofs Go.Scn

theorem digits_ok (n : Nat) (hn : n < 9223372036854775808) (h : AH) : Gets Tryz.prog 53 [iv n] h (fun res h' => h' = h ∧ res = .ret (tv (Lib.itoa n))) := by
  refine Gets.ofCalls (fn := Tryz.prog.funcs[53]!) hP (by kernel_rfl) (c := (Tryz.prog.funcs[53]!).body.getD .skip) (by kernel_rfl) rfl rfl (fun W hT => ?_) h
  rw [Lib.itoa_nonneg]
  exact digits_calls n hn W

def hxd : Bs := [48, 49, 50, 51, 52, 53, 54, 55, 56, 57, 97, 98, 99, 100, 101, 102]
/-- A byte as it is written; none: it is no byte. -/
def escS (c : Int) : Option Bs :=
  if c < 0 ∨ 255 < c then none else if c = 10 then some [92, 110] else if c = 9 then some [92, 116] else
  if c = 92 ∨ c = 39 ∨ c = 34 then some [92, UInt8.ofNat c.toNat] else if 32 ≤ c ∧ c ≤ 126 then some [UInt8.ofNat c.toNat] else
  some [92, 120, hxd.getD (c.toNat / 16) 0, hxd.getD (c.toNat % 16) 0]
def escV : Option Bs → Value
  | none => .tuple #[.string ⟨#[]⟩, iv 1]
  | some l => .tuple #[tv l, iv 0]
theorem escS_len {c : Int} {l : Bs} (h : escS c = some l) : l.length ≤ 4 := by
  unfold escS at h
  split at h
  · cases h
  · split at h
    · cases h; simp
    · split at h
      · cases h; simp
      · split at h
        · cases h; simp
        · split at h <;> (cases h; simp)
theorem bv_of {c : Int} (h0 : 0 ≤ c) (h1 : c ≤ 255) : bv (UInt8.ofNat c.toNat) = .int .u8 c := by
  show Value.int .u8 (((UInt8.ofNat c.toNat).toNat : Nat) : Int) = _
  rw [u8nat (by omega)]; congr 1; omega

theorem b2s_row {h : AH} {m : Nat} {l : Bs} : uval Tryz.prog (h ++ [row 5 h.length (l.map bv)]) m .b2s (.slice (some ⟨h.length, 0, none⟩) l.length l.length) = some (.string (tx l), none) :=
  b2s_tx (l := l) (.mk (Own.new h 5 h.length (l.map bv)).cells (by simp) (by rw [List.drop_zero, Nat.mul_one]; exact List.take_of_length_le (by simp)))

set_option maxHeartbeats 1000000 in
theorem Escape_ok (c : Int) (h : AH) : Gets Tryz.prog 37 [iv c] h (fun res h' => Keep (fun _ => False) h h' ∧ res = .ret (escV (escS c))) := by
  refine Gets.of (keep := false) hP (draw_ok hM) k37 (by rfl) (fun Ψ hΨ => ?_)
  by_cases h0 : c < 0
  · simp only [mach, mach2, mstd, ↓reduceIte, Nat.reduceEqDiff, Nat.reduceAdd, Nat.reduceMul, r37, eq_true h0]
    exact hΨ _ _ (fin_ret (rv2 rfl rfl ⟨.refl _ _, by rw [escS, if_pos (by omega)]; rfl⟩))
  by_cases h1 : 255 < c
  · simp only [mach, mach2, mstd, ↓reduceIte, Nat.reduceEqDiff, Nat.reduceAdd, Nat.reduceMul, r37, h0, eq_true h1]
    exact hΨ _ _ (fin_ret (rv2 rfl rfl ⟨.refl _ _, by rw [escS, if_pos (by omega)]; rfl⟩))
  by_cases h2 : c = 10
  · simp only [mach, mach2, mstd, ↓reduceIte, Nat.reduceEqDiff, Nat.reduceAdd, Nat.reduceMul, r37, h0, h1, eq_true h2]
    exact hΨ _ _ (fin_ret (rv2 rfl rfl ⟨.refl _ _, by rw [escS, if_neg (by omega), if_pos h2]; rfl⟩))
  by_cases h3 : c = 9
  · simp only [mach, mach2, mstd, ↓reduceIte, Nat.reduceEqDiff, Nat.reduceAdd, Nat.reduceMul, r37, h0, h1, h2, eq_true h3]
    exact hΨ _ _ (fin_ret (rv2 rfl rfl ⟨.refl _ _, by rw [escS, if_neg (by omega), if_neg h2, if_pos h3]; rfl⟩))
  have hw : IntKind.u8.wrap c = c := u8w (by omega) (by omega)
  have hbv := bv_of (c := c) (by omega) (by omega)
  have k2 : ∀ (l : List Value), Keep (fun _ => False) h (h ++ [row 5 h.length l]) := fun l => Keep.push _ _ _
  have e2 : uval Tryz.prog (h ++ [row 5 h.length [.int .u8 92, .int .u8 c]]) (h ++ [row 5 h.length [.int .u8 92, .int .u8 c]]).length .b2s (.slice (some ⟨h.length, 0, none⟩) 2 2) = some (tv [92, UInt8.ofNat c.toNat], none) := by
    have := b2s_row (h := h) (m := (h ++ [row 5 h.length [.int .u8 92, .int .u8 c]]).length) (l := [92, UInt8.ofNat c.toNat])
    rw [show ([92, UInt8.ofNat c.toNat] : Bs).map bv = [.int .u8 92, .int .u8 c] by rw [List.map_cons, List.map_cons, hbv]; rfl] at this
    exact this
  have e1 : uval Tryz.prog (h ++ [row 5 h.length [.int .u8 c]]) (h ++ [row 5 h.length [.int .u8 c]]).length .b2s (.slice (some ⟨h.length, 0, none⟩) 1 1) = some (tv [UInt8.ofNat c.toNat], none) := by
    have := b2s_row (h := h) (m := (h ++ [row 5 h.length [.int .u8 c]]).length) (l := [UInt8.ofNat c.toNat])
    rw [show ([UInt8.ofNat c.toNat] : Bs).map bv = [.int .u8 c] by rw [List.map_cons, hbv]; rfl] at this
    exact this
  by_cases h4 : c = 92
  · simp only [mach, mach2, mstd, ↓reduceIte, Nat.reduceEqDiff, Nat.reduceAdd, Nat.reduceMul, r37, h0, h1, h2, h3, eq_true h4, hw, mbl, Nat.reduceLeDiff, Nat.reduceLT, Int.reduceEq, e2]
    refine hΨ _ _ (fin_ret (rv2 rfl rfl ⟨k2 _, ?_⟩))
    rw [escS, if_neg (by omega), if_neg h2, if_neg h3, if_pos (by omega)]; rfl
  by_cases h5 : c = 39
  · simp only [mach, mach2, mstd, ↓reduceIte, Nat.reduceEqDiff, Nat.reduceAdd, Nat.reduceMul, r37, h0, h1, h2, h3, h4, eq_true h5, hw, mbl, Nat.reduceLeDiff, Nat.reduceLT, Int.reduceEq, e2]
    refine hΨ _ _ (fin_ret (rv2 rfl rfl ⟨k2 _, ?_⟩))
    rw [escS, if_neg (by omega), if_neg h2, if_neg h3, if_pos (by omega)]; rfl
  by_cases h6 : c = 34
  · simp only [mach, mach2, mstd, ↓reduceIte, Nat.reduceEqDiff, Nat.reduceAdd, Nat.reduceMul, r37, h0, h1, h2, h3, h4, h5, eq_true h6, hw, mbl, Nat.reduceLeDiff, Nat.reduceLT, Int.reduceEq, e2]
    refine hΨ _ _ (fin_ret (rv2 rfl rfl ⟨k2 _, ?_⟩))
    rw [escS, if_neg (by omega), if_neg h2, if_neg h3, if_pos (by omega)]; rfl
  have hz : ¬ (c = 92 ∨ c = 39 ∨ c = 34) := by omega
  have hq : Int.tdiv c 16 = ((c.toNat / 16 : Nat) : Int) := by rw [Int.tdiv_eq_ediv_of_nonneg (by omega)]; omega
  have hr : Int.tmod c 16 = ((c.toNat % 16 : Nat) : Int) := by rw [Int.tmod_eq_emod_of_nonneg (by omega)]; omega
  have hwq : IntKind.i64.wrap ((c.toNat / 16 : Nat) : Int) = ((c.toNat / 16 : Nat) : Int) := i64w (by omega) (by omega)
  have a1 : hxd[c.toNat / 16]? = some (hxd.getD (c.toNat / 16) 0) := by rw [List.getD_eq_getElem?_getD, List.getElem?_eq_getElem (by simp [hxd]; omega)]; rfl
  have a2 : hxd[c.toNat % 16]? = some (hxd.getD (c.toNat % 16) 0) := by rw [List.getD_eq_getElem?_getD, List.getElem?_eq_getElem (by simp [hxd]; omega)]; rfl
  have z1 : (0 : Int) ≤ ((c.toNat / 16 : Nat) : Int) := by omega
  have z2 : (0 : Int) ≤ ((c.toNat % 16 : Nat) : Int) := by omega
  have x1 : (⟨#[48, 49, 50, 51, 52, 53, 54, 55, 56, 57, 97, 98, 99, 100, 101, 102]⟩ : ByteArray)[c.toNat / 16]? = some (hxd.getD (c.toNat / 16) 0) := (tx_get hxd _).trans a1
  have x2 : (⟨#[48, 49, 50, 51, 52, 53, 54, 55, 56, 57, 97, 98, 99, 100, 101, 102]⟩ : ByteArray)[c.toNat % 16]? = some (hxd.getD (c.toNat % 16) 0) := (tx_get hxd _).trans a2
  have e4 : uval Tryz.prog (h ++ [row 5 h.length [.int .u8 92, .int .u8 120, .int .u8 ((hxd.getD (c.toNat / 16) 0).toNat : Int), .int .u8 ((hxd.getD (c.toNat % 16) 0).toNat : Int)]]) (h ++ [row 5 h.length [.int .u8 92, .int .u8 120, .int .u8 ((hxd.getD (c.toNat / 16) 0).toNat : Int), .int .u8 ((hxd.getD (c.toNat % 16) 0).toNat : Int)]]).length .b2s (.slice (some ⟨h.length, 0, none⟩) 4 4) = some (tv [92, 120, hxd.getD (c.toNat / 16) 0, hxd.getD (c.toNat % 16) 0], none) :=
    b2s_row (h := h) (l := [92, 120, hxd.getD (c.toNat / 16) 0, hxd.getD (c.toNat % 16) 0])
  by_cases h7 : 32 ≤ c
  · by_cases h8 : c ≤ 126
    · simp only [mach, mach2, mstd, ↓reduceIte, Nat.reduceEqDiff, Nat.reduceAdd, Nat.reduceMul, r37, h0, h1, h2, h3, h4, h5, h6, h7, h8, hw, mbl, Nat.reduceLeDiff, Nat.reduceLT, Int.reduceEq, e1]
      refine hΨ _ _ (fin_ret (rv2 rfl rfl ⟨k2 _, ?_⟩))
      rw [escS, if_neg (by omega), if_neg h2, if_neg h3, if_neg hz, if_pos ⟨h7, h8⟩]; rfl
    · simp only [mach, mach2, mstd, ↓reduceIte, Nat.reduceEqDiff, Nat.reduceAdd, Nat.reduceMul, r37, h0, h1, h2, h3, h4, h5, h6, h7, h8, hq, hr, hwq, x1, x2, z1, z2, Int.toNat_natCast, show ((16 : Int) = 0) = False by simp, mbl, Nat.reduceLeDiff, Nat.reduceLT, Int.reduceEq, e4]
      refine hΨ _ _ (fin_ret (rv2 rfl rfl ⟨k2 _, ?_⟩))
      rw [escS, if_neg (by omega), if_neg h2, if_neg h3, if_neg hz, if_neg (by omega)]; rfl
  · simp only [mach, mach2, mstd, ↓reduceIte, Nat.reduceEqDiff, Nat.reduceAdd, Nat.reduceMul, r37, h0, h1, h2, h3, h4, h5, h6, h7, hq, hr, hwq, x1, x2, z1, z2, Int.toNat_natCast, show ((16 : Int) = 0) = False by simp, mbl, Nat.reduceLeDiff, Nat.reduceLT, Int.reduceEq, e4]
    refine hΨ _ _ (fin_ret (rv2 rfl rfl ⟨k2 _, ?_⟩))
    rw [escS, if_neg (by omega), if_neg h2, if_neg h3, if_neg hz, if_neg (by omega)]; rfl
end Go.S17

/- Texts: bytes as they are written, the document's side. -/
set_option linter.unusedVariables false
set_option linter.unusedSimpArgs false
namespace Go.S17
open Go Go.Eng Go.Proofs Go.Scn

set_option maxHeartbeats 1000000 in
theorem rEscape_ok (c : Int) (h : AH) : Gets Tryz.prog 39 [iv c] h (fun res h' => Keep (fun _ => False) h h' ∧ res = .ret (escV (escS c))) := by
  refine Gets.of (keep := false) hP (draw_ok hM) k39 (by rfl) (fun Ψ hΨ => ?_)
  by_cases h0 : c < 0
  · simp only [mach, mach2, mstd, ↓reduceIte, Nat.reduceEqDiff, Nat.reduceAdd, Nat.reduceMul, r39, eq_true h0]
    exact hΨ _ _ (fin_ret (rv2 rfl rfl ⟨.refl _ _, by rw [escS, if_pos (by omega)]; rfl⟩))
  by_cases h1 : 255 < c
  · simp only [mach, mach2, mstd, ↓reduceIte, Nat.reduceEqDiff, Nat.reduceAdd, Nat.reduceMul, r39, h0, eq_true h1]
    exact hΨ _ _ (fin_ret (rv2 rfl rfl ⟨.refl _ _, by rw [escS, if_pos (by omega)]; rfl⟩))
  by_cases h2 : c = 10
  · simp only [mach, mach2, mstd, ↓reduceIte, Nat.reduceEqDiff, Nat.reduceAdd, Nat.reduceMul, r39, h0, h1, eq_true h2]
    exact hΨ _ _ (fin_ret (rv2 rfl rfl ⟨.refl _ _, by rw [escS, if_neg (by omega), if_pos h2]; rfl⟩))
  by_cases h3 : c = 9
  · simp only [mach, mach2, mstd, ↓reduceIte, Nat.reduceEqDiff, Nat.reduceAdd, Nat.reduceMul, r39, h0, h1, h2, eq_true h3]
    exact hΨ _ _ (fin_ret (rv2 rfl rfl ⟨.refl _ _, by rw [escS, if_neg (by omega), if_neg h2, if_pos h3]; rfl⟩))
  have hw : IntKind.u8.wrap c = c := u8w (by omega) (by omega)
  have hbv := bv_of (c := c) (by omega) (by omega)
  have k2 : ∀ (l : List Value), Keep (fun _ => False) h (h ++ [row 5 h.length l]) := fun l => Keep.push _ _ _
  have e1 : uval Tryz.prog (h ++ [row 5 h.length [.int .u8 c]]) (h ++ [row 5 h.length [.int .u8 c]]).length .b2s (.slice (some ⟨h.length, 0, none⟩) 1 1) = some (tv [UInt8.ofNat c.toNat], none) := by
    have := b2s_row (h := h) (m := (h ++ [row 5 h.length [.int .u8 c]]).length) (l := [UInt8.ofNat c.toNat])
    rw [show ([UInt8.ofNat c.toNat] : Bs).map bv = [.int .u8 c] by rw [List.map_cons, hbv]; rfl] at this
    exact this
  have s1 : sbin .add (⟨#[92]⟩ : ByteArray) (tx [UInt8.ofNat c.toNat]) = some (tv [92, UInt8.ofNat c.toNat]) := s_add (a := [92]) (b := [UInt8.ofNat c.toNat]) (by simp)
  by_cases h4 : c = 92
  · simp only [mach, mach2, mstd, ↓reduceIte, Nat.reduceEqDiff, Nat.reduceAdd, Nat.reduceMul, r39, h0, h1, h2, h3, eq_true h4, hw, mbl, Nat.reduceLeDiff, Nat.reduceLT, Int.reduceEq, e1, s1]
    refine hΨ _ _ (fin_ret (rv2 rfl rfl ⟨k2 _, ?_⟩))
    rw [escS, if_neg (by omega), if_neg h2, if_neg h3, if_pos (by omega)]; rfl
  by_cases h5 : c = 39
  · simp only [mach, mach2, mstd, ↓reduceIte, Nat.reduceEqDiff, Nat.reduceAdd, Nat.reduceMul, r39, h0, h1, h2, h3, h4, eq_true h5, hw, mbl, Nat.reduceLeDiff, Nat.reduceLT, Int.reduceEq, e1, s1]
    refine hΨ _ _ (fin_ret (rv2 rfl rfl ⟨k2 _, ?_⟩))
    rw [escS, if_neg (by omega), if_neg h2, if_neg h3, if_pos (by omega)]; rfl
  by_cases h6 : c = 34
  · simp only [mach, mach2, mstd, ↓reduceIte, Nat.reduceEqDiff, Nat.reduceAdd, Nat.reduceMul, r39, h0, h1, h2, h3, h4, h5, eq_true h6, hw, mbl, Nat.reduceLeDiff, Nat.reduceLT, Int.reduceEq, e1, s1]
    refine hΨ _ _ (fin_ret (rv2 rfl rfl ⟨k2 _, ?_⟩))
    rw [escS, if_neg (by omega), if_neg h2, if_neg h3, if_pos (by omega)]; rfl
  have hz : ¬ (c = 92 ∨ c = 39 ∨ c = 34) := by omega
  have hq : Int.tdiv c 16 = ((c.toNat / 16 : Nat) : Int) := by rw [Int.tdiv_eq_ediv_of_nonneg (by omega)]; omega
  have hr : Int.tmod c 16 = ((c.toNat % 16 : Nat) : Int) := by rw [Int.tmod_eq_emod_of_nonneg (by omega)]; omega
  have hwq : IntKind.i64.wrap ((c.toNat / 16 : Nat) : Int) = ((c.toNat / 16 : Nat) : Int) := i64w (by omega) (by omega)
  have hwq1 : IntKind.i64.wrap (((c.toNat / 16 : Nat) : Int) + 1) = ((c.toNat / 16 + 1 : Nat) : Int) := by rw [i64w (by omega) (by omega)]; omega
  have hwr1 : IntKind.i64.wrap (((c.toNat % 16 : Nat) : Int) + 1) = ((c.toNat % 16 + 1 : Nat) : Int) := by rw [i64w (by omega) (by omega)]; omega
  have one : ∀ i, i < 16 → slsv (.string ⟨#[48, 49, 50, 51, 52, 53, 54, 55, 56, 57, 97, 98, 99, 100, 101, 102]⟩) (some (iv ((i : Nat) : Int))) (some (iv ((i + 1 : Nat) : Int))) = some (.string (tx [hxd.getD i 0]), none) := fun i hi => by
    have := sl_ft (l := hxd) (p := i) (n := i + 1) (by omega) (by simp [hxd]; omega)
    have hd : (hxd.take (i + 1)).drop i = [hxd.getD i 0] := by
      have : ∀ i < 16, (hxd.take (i + 1)).drop i = [hxd.getD i 0] := by decide
      exact this i hi
    rw [hd] at this
    exact this
  have o1 := one (c.toNat / 16) (by omega)
  have o2 := one (c.toNat % 16) (by omega)
  have s2 : sbin .add (⟨#[92, 120]⟩ : ByteArray) (tx [hxd.getD (c.toNat / 16) 0]) = some (tv [92, 120, hxd.getD (c.toNat / 16) 0]) := s_add (a := [92, 120]) (b := [hxd.getD (c.toNat / 16) 0]) (by simp)
  have s3 : sbin .add (tx [92, 120, hxd.getD (c.toNat / 16) 0]) (tx [hxd.getD (c.toNat % 16) 0]) = some (tv [92, 120, hxd.getD (c.toNat / 16) 0, hxd.getD (c.toNat % 16) 0]) := s_add (by simp)
  by_cases h7 : 32 ≤ c
  · by_cases h8 : c ≤ 126
    · simp only [mach, mach2, mstd, ↓reduceIte, Nat.reduceEqDiff, Nat.reduceAdd, Nat.reduceMul, r39, h0, h1, h2, h3, h4, h5, h6, h7, h8, hw, mbl, Nat.reduceLeDiff, Nat.reduceLT, Int.reduceEq, e1]
      refine hΨ _ _ (fin_ret (rv2 rfl rfl ⟨k2 _, ?_⟩))
      rw [escS, if_neg (by omega), if_neg h2, if_neg h3, if_neg hz, if_pos ⟨h7, h8⟩]; rfl
    · simp only [mach, mach2, mstd, ↓reduceIte, Nat.reduceEqDiff, Nat.reduceAdd, Nat.reduceMul, r39, h0, h1, h2, h3, h4, h5, h6, h7, h8, hq, hr, hwq, hwq1, hwr1, show ((16 : Int) = 0) = False by simp, mbl, Nat.reduceLeDiff, Nat.reduceLT, Int.reduceEq, o1, o2, s2, s3]
      refine hΨ _ _ (fin_ret (rv2 rfl rfl ⟨.refl _ _, ?_⟩))
      rw [escS, if_neg (by omega), if_neg h2, if_neg h3, if_neg hz, if_neg (by omega)]; rfl
  · simp only [mach, mach2, mstd, ↓reduceIte, Nat.reduceEqDiff, Nat.reduceAdd, Nat.reduceMul, r39, h0, h1, h2, h3, h4, h5, h6, h7, hq, hr, hwq, hwq1, hwr1, show ((16 : Int) = 0) = False by simp, mbl, Nat.reduceLeDiff, Nat.reduceLT, Int.reduceEq, o1, o2, s2, s3]
    refine hΨ _ _ (fin_ret (rv2 rfl rfl ⟨.refl _ _, ?_⟩))
    rw [escS, if_neg (by omega), if_neg h2, if_neg h3, if_neg hz, if_neg (by omega)]; rfl

/-- A text as it is written. -/
def escB (c : UInt8) : Bs := (escS c.toNat).getD []
def quoS (t : Bs) : Bs := t.flatMap escB
theorem escB_some (c : UInt8) : escS c.toNat = some (escB c) := by
  have hlt := c.toNat_lt
  unfold escB escS
  rw [if_neg (by omega)]
  split
  · rfl
  · split
    · rfl
    · split
      · rfl
      · split <;> rfl
theorem escB_len (c : UInt8) : (escB c).length ≤ 4 := escS_len (escB_some c)
theorem quoS_len (t : Bs) : (quoS t).length ≤ 4 * t.length := by
  induction t with
  | nil => exact Nat.le_refl _
  | cons c t ih =>
    have := escB_len c
    simp only [quoS, List.flatMap_cons, List.length_append, List.length_cons] at *
    omega

theorem rQuote_ok (t : Bs) (ht : t.length ≤ 10000000000000) (h : AH) : Gets Tryz.prog 24 [tv t] h (fun res h' => Keep (fun _ => False) h h' ∧ res = .ret (tv (quoS t))) := by
  refine Gets.of (keep := false) hP (draw_ok hM) k24 (by rfl) (fun Ψ hΨ => ?_)
  simp only [mach, mach2, mstd, ↓reduceIte, Nat.reduceEqDiff, Nat.reduceAdd, Nat.reduceMul, r24]
  refine XLo_rule (α := Nat × Value) (fun a => [(0, tv t), (3, a.2), (4, iv a.1)])
    (fun a h' => a.1 ≤ t.length ∧ Keep (fun _ => False) h h' ∧ Ows h' 5 1 a.2 (quoS (t.take a.1)).length ((quoS (t.take a.1)).map bv) ∧ ∀ q, bk a.2 q → h.length ≤ q) (fun a => t.length - a.1) (0, .slice none 0 0)
    ⟨Nat.zero_le _, .refl _ _, .nil, fun q e => e.elim⟩ ⟨rfl, rfl, rfl, trivial⟩ ?_
  rintro ⟨i, v⟩ h1 Ψ2 ⟨hi, kp, ow, fr⟩ next out
  simp only at hi ow fr
  obtain ⟨va, vc, rfl⟩ := row_shape ow.rds
  by_cases hlt : (i : Int) < (t.length : Int)
  · have hil : i < t.length := by omega
    have g0 : (0 : Int) ≤ (i : Int) := by omega
    have hc : t[i]? = some t[i] := List.getElem?_eq_getElem hil
    have hcl := t[i].toNat_lt
    have hw : IntKind.i64.wrap (t[i].toNat : Int) = (t[i].toNat : Int) := i64w (by omega) (by omega)
    have hwi : IntKind.i64.wrap ((i : Int) + 1) = ((i + 1 : Nat) : Int) := by rw [i64w (by omega) (by omega)]; omega
    simp only [mach, mach2, mstd, ↓reduceIte, Nat.reduceEqDiff, Nat.reduceAdd, Nat.reduceMul, tx_size, hlt, tx_get, hc, g0, Int.toNat_natCast, hw]
    refine XX_of (rEscape_ok _ h1) (fun res h2 hle hr => ?_)
    obtain ⟨k2, rfl⟩ := hr
    refine .ret ?_
    rw [escB_some, escV]
    have ow2 := ow.keep k2 (fun _ _ e => e)
    have hq := quoS_len (t.take i)
    have he := escB_len t[i]
    have htl : (t.take i).length ≤ t.length := by simp; omega
    obtain ⟨s', h', a1, a2, a3, a4⟩ := ow2.app (bytes := 1) (str := true) (x := tv (escB t[i])) (m := (escB t[i]).length) (xs := (escB t[i]).map bv) (by simp [srcv, tx_size, cells_tx]) (by simp) (by simp [Value.oneCell']) (by omega) (by omega)
    simp only [mach, mach2, mstd, ↓reduceIte, Nat.reduceEqDiff, Nat.reduceAdd, Nat.reduceMul, mbl, Nat.reduceLeDiff, Nat.reduceLT, Int.reduceEq, a1, hwi]
    have hst : quoS (t.take (i + 1)) = quoS (t.take i) ++ escB t[i] := by
      unfold quoS
      rw [List.take_succ_eq_append_getElem hil, List.flatMap_append, List.flatMap_cons, List.flatMap_nil, List.append_nil]
    refine next (i + 1, s') _ _ _ ⟨by simp only; omega, (kp.trans k2).trans' a3 (fun q hq e => by have := fr q e; omega), ?_, fun q hq => ?_⟩ ⟨rfl, rfl, rfl, trivial⟩ (by simp only; omega)
    · simp only
      rw [hst, List.length_append, List.map_append]; exact a2
    · rcases a4 q hq with e | e
      · exact fr q e
      · have := (kp.trans k2).len; omega
  · have hie : i = t.length := by omega
    simp only [mach, mach2, mstd, ↓reduceIte, Nat.reduceEqDiff, Nat.reduceAdd, Nat.reduceMul, tx_size, hlt]
    refine out (.exit 0) _ _ _ _ (by intro e; cases e) ?_
    simp only [mach, mach2, mstd, ↓reduceIte, Nat.reduceEqDiff, Nat.reduceAdd, Nat.reduceMul, b2s_tx ow.rds]
    refine hΨ _ _ (fin_ret (rv1 rfl ⟨kp, ?_⟩))
    rw [hie, List.take_length]; rfl
end Go.S17

/- Images as texts: numbers behind a word; a text in quotes. -/
set_option linter.unusedVariables false
set_option linter.unusedSimpArgs false
namespace Go.S17
open Go Go.Eng Go.Proofs Go.Scn Go.Chk

/-! ### Plain -/
def num1 (n : Int) : Bs := 32 :: Lib.itoa n
def numsT (l : List Int) : Bs := l.flatMap num1 ++ [10]
def txtT (t : Bs) : Bs := [116, 101, 120, 116, 32, 34] ++ quoS t ++ [34, 10]
def infT (x : Inf) : Bs := if x.k = 1 then [102, 117, 110] ++ numsT [x.a, x.f, x.c] else [116, 104, 117, 110, 107] ++ numsT [x.f, x.c]
def imgT (C : Cx) (ts : List Bs) : Bs := [105, 109, 97, 103, 101] ++ numsT [C.main, C.tops.length] ++ [99, 111, 110, 115] ++ numsT C.cons ++ ts.flatMap txtT ++ C.infos.flatMap infT ++ [99, 111, 100, 101] ++ numsT C.code
def rgI (n : Int) : Prop := -9223372036854775808 ≤ n ∧ n ≤ 9223372036854775807
theorem itoa_len {n : Int} (h : rgI n) : (Lib.itoa n).length ≤ 21 := by
  obtain ⟨h0, h1⟩ := h
  have hd : ∀ u : Nat, u < 18446744073709551616 → (Lib.decDigits u).length ≤ 20 := fun u hu => by
    rw [Lib.decDigits_length]
    rcases Nat.eq_zero_or_pos u with e | e
    · subst e; rw [Lib.nDigits_small (by omega)]; omega
    · have := Lib.numDigits_eq u e hu
      split at this <;> omega
  unfold Lib.itoa
  split
  · have := hd n.natAbs (by omega); simp; omega
  · have := hd n.toNat (by omega); omega
theorem num1_len {n : Int} (h : rgI n) : (num1 n).length ≤ 22 := by have := itoa_len h; simp [num1]; omega
theorem nums_len : ∀ {l : List Int}, (∀ n ∈ l, rgI n) → (l.flatMap num1).length ≤ 22 * l.length := by
  intro l
  induction l with
  | nil => intro _; simp
  | cons n l ih =>
    intro h
    have h1 := num1_len (h n List.mem_cons_self)
    have h2 := ih fun m hm => h m (List.mem_cons_of_mem _ hm)
    rw [List.flatMap_cons, List.length_append, List.length_cons]; omega
theorem numsT_len {l : List Int} (h : ∀ n ∈ l, rgI n) : (numsT l).length ≤ 22 * l.length + 1 := by
  have := nums_len h; simp only [numsT, List.length_append, List.length_cons, List.length_nil]; omega
theorem txtT_len (t : Bs) : (txtT t).length ≤ 4 * t.length + 8 := by
  have := quoS_len t; simp only [txtT, List.length_append, List.length_cons, List.length_nil]; omega
theorem flat_len {α : Type} {f : α → Bs} {k : Nat} : ∀ {l : List α}, (∀ x ∈ l, (f x).length ≤ k) → (l.flatMap f).length ≤ l.length * k := by
  intro l
  induction l with
  | nil => intro _; simp
  | cons x l ih =>
    intro h
    have h1 := h x List.mem_cons_self
    have h2 := ih fun y hy => h y (List.mem_cons_of_mem _ hy)
    rw [List.flatMap_cons, List.length_append, List.length_cons, Nat.add_mul]; omega
theorem infT_len {x : Inf} (h : rgI x.a ∧ rgI x.f ∧ rgI x.c) : (infT x).length ≤ 80 := by
  unfold infT
  split
  · have := numsT_len (l := [x.a, x.f, x.c]) (by simp; exact h)
    simp only [List.length_append, List.length_cons, List.length_nil] at this ⊢; omega
  · have := numsT_len (l := [x.f, x.c]) (by simp; exact h.2)
    simp only [List.length_append, List.length_cons, List.length_nil] at this ⊢; omega
theorem flat_take {α : Type} {f : α → Bs} {l : List α} {i : Nat} (hi : i < l.length) : (l.take (i + 1)).flatMap f = (l.take i).flatMap f ++ f l[i] := by
  rw [List.take_succ_eq_append_getElem hi, List.flatMap_append, List.flatMap_cons, List.flatMap_nil, List.append_nil]

end Go.S17
