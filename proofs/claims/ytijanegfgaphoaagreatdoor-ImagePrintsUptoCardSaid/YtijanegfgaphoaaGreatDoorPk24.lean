import Derived.Test.YtijanegfgaphoaaGreatDoorPk23
import Derived.Test.YtijanegfgaphoaaGreatDoorPk14
import Derived.Test.YtijanegfgaphoaaGreatDoorPk15
import Derived.Shelf.Strings.Search3
import Derived.Test.YtijanegfgaphoaaGreatDoorRows
import Derived.Test.YtijanegfgaphoaaGreatDoorPk22
import Derived.LaidMore
import Derived.OpenShut
import Derived.MakeChecks
/- Images as texts: a fixed call; what is given; Prints, the walk. -/
set_option linter.unusedVariables false
set_option linter.unusedSimpArgs false
namespace Go.S17
open Go Go.Eng Go.Proofs Go.Scn Go.Chk

/-! ### A fixed call -/
def xT : XT := fun f args => if f = 28 then match args with
  | [.string s, .string sub] => if s.size < 4294967281 then some (.bool (hasT s.data.toList sub.data.toList)) else none
  | _ => none else none
set_option maxRecDepth 100000 in
theorem xT_ok : XOk Tryz.prog xT := by
  intro f args v he h
  unfold xT at he
  split at he
  · rename_i hf
    subst hf
    split at he
    · rename_i s sub
      split at he
      · rename_i hs
        cases he
        refine Holds.ofCalls (args := [.string s, .string sub]) (v := .bool (hasT s.data.toList sub.data.toList)) (fn := Tryz.prog.funcs[28]!) hP (by kernel_rfl) (c := (Tryz.prog.funcs[28]!).body.getD .skip) (by kernel_rfl) rfl rfl (fun W hT => ?_) h
        obtain ⟨m, hm⟩ := tab_int hT (g := 0) (by kernel_rfl)
        refine Calls.mono (Any.strings_Contains (P := Tryz.prog) { Tryz.laysContains with } s sub m W hs hm) fun e w' he => ?_
        obtain ⟨rfl, rfl⟩ := he
        rw [hasT_eq]
        exact ⟨rfl, ⟨rfl, rfl, rfl, Nat.le_refl _, fun i hi => rfl⟩⟩
      · cases he
    · cases he
  · cases he
set_option maxRecDepth 100000 in
theorem wakes_ok (h : AH) : Gets Tryz.prog 7 [] h (fun res h' => h' = h ∧ res = .ret (.bool true)) :=
  closed_getsX (n := 100) (fuel := 1000) (keep := fun _ => false) xT_ok hP hM (by kernel_rfl) h

/-! ### What is given -/
noncomputable def fsOf (t : TypeId) : Array Field := match Tryz.prog.underlying t with
  | some (.struct fs) => fs
  | _ => #[]
theorem u_img : Tryz.prog.underlying 26 = some (.struct (fsOf 26)) := by kernel_rfl
theorem u_inf : Tryz.prog.underlying 40 = some (.struct (fsOf 40)) := by kernel_rfl
theorem f_img : ((fsOf 26).map fun f => (f.type, f.offset)).toList = [(22, 0), (23, 1), (24, 2), (23, 3), (3, 4), (23, 5)] := by kernel_rfl
theorem f_inf : ((fsOf 40).map fun f => (f.type, f.offset)).toList = [(3, 0), (3, 1), (3, 2), (3, 3)] := by kernel_rfl
theorem u_infs : Tryz.prog.underlying 22 = some (.slice 40) := by kernel_rfl
theorem u_ints : Tryz.prog.underlying 23 = some (.slice 3) := by kernel_rfl
theorem u_strs : Tryz.prog.underlying 24 = some (.slice 9) := by kernel_rfl
theorem u_str : Tryz.prog.underlying 9 = some .string := by kernel_rfl
theorem u_int : Tryz.prog.underlying 3 = some (.int .i64) := by kernel_rfl
theorem c_img : Tryz.prog.cellsOf 26 = 6 := by kernel_rfl
theorem c_inf : Tryz.prog.cellsOf 40 = 4 := by kernel_rfl
theorem c_int : Tryz.prog.cellsOf 3 = 1 := by kernel_rfl
theorem c_infs : Tryz.prog.cellsOf 22 = 1 := by kernel_rfl
theorem c_ints : Tryz.prog.cellsOf 23 = 1 := by kernel_rfl
theorem c_strs : Tryz.prog.cellsOf 24 = 1 := by kernel_rfl
theorem len4 {α : Type} {l : List α} (h : l.length = 4) : ∃ a b c e, l = [a, b, c, e] := by
  match l, h with
  | [a, b, c, e], _ => exact ⟨a, b, c, e, rfl⟩
theorem len6 {α : Type} {l : List α} (h : l.length = 6) : ∃ a b c e f g, l = [a, b, c, e, f, g] := by
  match l, h with
  | [a, b, c, e, f, g], _ => exact ⟨a, b, c, e, f, g, rfl⟩
/-- Texts as cells. -/
def sts (l : List ByteArray) : List Value := l.map Value.string

section
variable {H : Type} {h : AH} {N : Nat}
theorem ints_of (B : Bulk H) {v : Value} {d : DataW H} (hr : Rd' Tryz.prog h 23 [v] d) (hB : B.f d ≤ N) : ∃ ys : List Int, Rds h 1 v ys.length (ns ys) ∧ (∀ y ∈ ys, rng y) ∧ ys.length ≤ N := by
  obtain ⟨ys, a, b, c⟩ := rdRow B (f := fun x : Int => [iv x]) (Q := rng) u_ints (fun x => rfl) (fun cs d' r _ => by obtain ⟨w, e, g⟩ := rdI u_int r; exact ⟨w, e, g⟩) hr hB
  refine ⟨ys, ?_, b, c⟩
  have : ns ys = ys.flatMap fun x => [iv x] := by
    clear a b c
    induction ys with
    | nil => rfl
    | cons y ys ih => simp only [ns, List.map_cons, List.flatMap_cons] at ih ⊢; rw [ih]; rfl
  rw [this]; exact a
theorem texts_of (B : Bulk H) {v : Value} {d : DataW H} (hr : Rd' Tryz.prog h 24 [v] d) (hB : B.f d ≤ N) : ∃ ys : List ByteArray, Rds h 1 v ys.length (sts ys) ∧ (∀ y ∈ ys, y.size ≤ N) ∧ ys.length ≤ N := by
  obtain ⟨ys, a, b, c⟩ := rdRow B (f := fun x : ByteArray => [Value.string x]) (Q := fun y => y.size ≤ N) u_strs (fun x => rfl) (fun cs d' r hb => by obtain ⟨w, e, g⟩ := rdS B u_str r; exact ⟨w, e, Nat.le_trans g hb⟩) hr hB
  refine ⟨ys, ?_, b, c⟩
  have : sts ys = ys.flatMap fun x => [Value.string x] := by
    clear a b c
    induction ys with
    | nil => rfl
    | cons y ys ih => simp only [sts, List.map_cons, List.flatMap_cons] at ih ⊢; rw [ih]; rfl
  rw [this]; exact a
theorem inf_of (B : Bulk H) {cs : List Value} {d : DataW H} (hr : Rd' Tryz.prog h 40 cs d) : ∃ w : Inf, cs = ns w.cells ∧ rng w.k ∧ rng w.a ∧ rng w.f ∧ rng w.c := by
  obtain ⟨hl, hf⟩ := rdT B u_inf f_inf hr
  rw [c_inf] at hl
  obtain ⟨a, b, c, e, rfl⟩ := len4 hl
  obtain ⟨d0, r0, _⟩ := hf 0 _ _ rfl
  obtain ⟨d1, r1, _⟩ := hf 1 _ _ rfl
  obtain ⟨d2, r2, _⟩ := hf 2 _ _ rfl
  obtain ⟨d3, r3, _⟩ := hf 3 _ _ rfl
  rw [c_int] at r0 r1 r2 r3
  obtain ⟨n0, e0, g0⟩ := rdI u_int r0
  obtain ⟨n1, e1, g1⟩ := rdI u_int r1
  obtain ⟨n2, e2, g2⟩ := rdI u_int r2
  obtain ⟨n3, e3, g3⟩ := rdI u_int r3
  simp at e0 e1 e2 e3
  subst e0; subst e1; subst e2; subst e3
  exact ⟨⟨n0, n1, n2, n3⟩, rfl, g0, g1, g2, g3⟩
theorem infs_of (B : Bulk H) {v : Value} {d : DataW H} (hr : Rd' Tryz.prog h 22 [v] d) (hB : B.f d ≤ N) : ∃ ys : List Inf, Rds h 4 v ys.length (rowsOf Inf.cells ys) ∧ (∀ w ∈ ys, rng w.k ∧ rng w.a ∧ rng w.f ∧ rng w.c) ∧ ys.length ≤ N :=
  rdRow B (f := fun x : Inf => ns x.cells) (Q := fun w => rng w.k ∧ rng w.a ∧ rng w.f ∧ rng w.c) u_infs (fun x => rfl) (fun cs d' r _ => by obtain ⟨w, e, g⟩ := inf_of B r; exact ⟨w, e, g⟩) hr hB
theorem image_of (B : Bulk H) {cs : List Value} {d : DataW H} (hr : Rd' Tryz.prog h 26 cs d) (hB : B.f d ≤ 1048576) : ∃ C ts vi vc vt vp vk, cs = [vi, vc, vt, vp, iv C.main, vk] ∧ Im h C ts vi vc vt vp vk ∧ Fit C ts := by
  obtain ⟨hl, hf⟩ := rdT B u_img f_img hr
  rw [c_img] at hl
  obtain ⟨a, b, c, e, f, g, rfl⟩ := len6 hl
  obtain ⟨d0, r0, b0⟩ := hf 0 _ _ rfl
  obtain ⟨d1, r1, b1⟩ := hf 1 _ _ rfl
  obtain ⟨d2, r2, b2⟩ := hf 2 _ _ rfl
  obtain ⟨d3, r3, b3⟩ := hf 3 _ _ rfl
  obtain ⟨d4, r4, b4⟩ := hf 4 _ _ rfl
  obtain ⟨d5, r5, b5⟩ := hf 5 _ _ rfl
  rw [c_infs] at r0
  rw [c_ints] at r1 r3 r5
  rw [c_strs] at r2
  rw [c_int] at r4
  have q0 : Rd' Tryz.prog h 22 [a] d0 := by simpa using r0
  have q1 : Rd' Tryz.prog h 23 [b] d1 := by simpa using r1
  have q2 : Rd' Tryz.prog h 24 [c] d2 := by simpa using r2
  have q3 : Rd' Tryz.prog h 23 [e] d3 := by simpa using r3
  have q5 : Rd' Tryz.prog h 23 [g] d5 := by simpa using r5
  obtain ⟨is, i1, i2, i3⟩ := infs_of B (v := a) (N := 1048576) q0 (by omega)
  obtain ⟨co, c1, c2, c3⟩ := ints_of B (v := b) (N := 1048576) q1 (by omega)
  obtain ⟨tx', t1, t2, t3⟩ := texts_of B (v := c) (N := 1048576) q2 (by omega)
  obtain ⟨tp, p1, p2, p3⟩ := ints_of B (v := e) (N := 1048576) q3 (by omega)
  obtain ⟨m, e4, gm⟩ := rdI u_int r4
  obtain ⟨ks, k1, k2, k3⟩ := ints_of B (v := g) (N := 1048576) q5 (by omega)
  simp at e4
  subst e4
  obtain ⟨ta, tc, ht⟩ := row_shape t1
  have et : (tx'.map fun x => x.data.toList).map tv = sts tx' := by
    rw [List.map_map]; unfold sts
    exact List.map_congr_left fun x _ => rfl
  refine ⟨⟨is, co, tx'.length, tp, m, ks⟩, tx'.map fun x => x.data.toList, a, b, c, e, g, rfl, ⟨⟨i1, c1, ⟨ta, tc, ht⟩, p1, k1⟩, by rw [et, List.length_map]; exact t1⟩, ⟨i3, c3, p3, k3, by rw [List.length_map]; exact t3, fun t ht' => ?_, gm, c2, k2, i2, by rw [List.length_map]⟩⟩
  obtain ⟨x, hx, rfl⟩ := List.mem_map.1 ht'
  have := t2 x hx
  rw [Array.length_toList]; exact this
end

/-! ### Prints -/
section
variable {h : AH} {C : Cx} {ts : List Bs} {vi vc vt vp vk : Value}
theorem ImagePrints_ok (x : Im h C ts vi vc vt vp vk) (f : Fit C ts) : Gets Tryz.prog 4 [.agg #[vi, vc, vt, vp, iv C.main, vk]] h (fun res h' => Keep (fun _ => False) h h' ∧ res = .ret (.bool true)) := by
  refine Gets.of (keep := false) hP (draw_ok hM) k4 (by rfl) (fun Ψ hΨ => ?_)
  have oI := Own.new h 26 h.length [vi, vc, vt, vp, iv C.main, vk]
  have kp1 : Keep (fun _ => False) h (h ++ [row 26 h.length [vi, vc, vt, vp, iv C.main, vk]]) := Keep.push _ _ _
  simp only [mach, mach2, mstd, ↓reduceIte, Nat.reduceEqDiff, Nat.reduceAdd, Nat.reduceMul, r4, mbl, Nat.reduceLeDiff, Nat.reduceLT, Int.reduceEq]
  generalize hh1 : h ++ [row 26 h.length [vi, vc, vt, vp, iv C.main, vk]] = h1 at oI kp1 ⊢
  have im1 := x.keep kp1 (fun _ _ e => e)
  refine XX_val (wakes_ok h1) ?_
  simp only [mach, mach2, mstd, ↓reduceIte, Nat.reduceEqDiff, Nat.reduceAdd, Nat.reduceMul, oI.cells.lds 0 6 (by simp), mbl, Nat.reduceLeDiff, Nat.reduceLT, Int.reduceEq]
  refine XX_of (Print_ok im1 f) (fun res h2 hle hn => ?_)
  obtain ⟨k2, rfl⟩ := hn
  refine .ret ?_
  have oI2 := oI.keep k2 (fun e => e)
  have im2 := im1.keep k2 (fun _ _ e => e)
  simp only [mach, mach2, mstd, ↓reduceIte, Nat.reduceEqDiff, Nat.reduceAdd, Nat.reduceMul, oI2.cells.lds 0 6 (by simp), mbl, Nat.reduceLeDiff, Nat.reduceLT, Int.reduceEq]
  refine XX_of (rPrint_ok im2 f) (fun res h3 hle hn => ?_)
  obtain ⟨k3, rfl⟩ := hn
  refine .ret ?_
  generalize (if (ends C).isSome then imgT C ts else []) = T
  generalize (if (ends C).isSome then (0 : Int) else 7) = E
  simp only [mach, mach2, mstd, ↓reduceIte, Nat.reduceEqDiff, Nat.reduceAdd, Nat.reduceMul, mbl, Nat.reduceLeDiff, Nat.reduceLT, Int.reduceEq, beq_self_eq_true]
  exact hΨ _ _ (fin_ret (rv1 rfl ⟨(kp1.trans k2).trans k3, rfl⟩))
end
end Go.S17

/- Images as texts: package variables that are laid, and one that holds a number. -/
set_option linter.unusedVariables false
set_option linter.unusedSimpArgs false
namespace Go.S17
open Go Go.Eng Go.Proofs Go.Proofs.YtijanegfgaphoaaGreatDoor

theorem var_heap {P : Program} {W : World} {n : String} {g : Nat} {cs : Array Value} (hg : P.globalNamed n = some g) (h : W.var? P n = some cs) : ∃ e fr, W.heap[g]? = some (.cells cs e fr) := by
  simp only [World.var?, hg, Option.bind_some] at h
  split at h
  · cases h; exact ⟨_, _, by assumption⟩
  · cases h

def laidL : List (String × DataW Unit) := [("math/bits.deBruijn32tab", Rows.laid_math_bits_deBruijn32tab), ("math/bits.deBruijn64tab", Rows.laid_math_bits_deBruijn64tab), ("internal/strconv.uint64pow10", Rows.laid_internal_strconv_uint64pow10)]

theorem gPow : Tryz.prog.globalNamed "internal/strconv.uint64pow10" = some 1 := by kernel_rfl
theorem tPow : (Tryz.prog.globals[1]?).map (·.type) = some 136 := by kernel_rfl
theorem uPow : Tryz.prog.underlying 136 = some (.array 20 126) := by kernel_rfl
theorem uU64 : Tryz.prog.underlying 126 = some (.int .u64) := by kernel_rfl
theorem cPow : Tryz.prog.cellsOf 136 = 20 := by kernel_rfl
theorem cU64 : Tryz.prog.cellsOf 126 = 1 := by kernel_rfl
theorem gsz : Tryz.prog.globals.size = 6 := by kernel_rfl
theorem tabM : Tab Tryz.prog 0 = some [.complex .f32 0 0] := by kernel_rfl
theorem tabP : Tab Tryz.prog 1 = some ((List.range 20).map fun i => Value.int .u64 (10 ^ i)) := by kernel_rfl
theorem tabO : ∀ g, g < 6 → g ≠ 0 → g ≠ 1 → Tab Tryz.prog g = none := by
  intro g h1 h2 h3
  have h : ((List.range 6).all fun g => g == 0 || g == 1 || (Tab Tryz.prog g).isNone) = true := by kernel_rfl
  have := List.all_eq_true.1 h g (List.mem_range.2 h1)
  simp only [Bool.or_eq_true, beq_iff_eq, Option.isNone_iff_eq_none] at this
  rcases this with (e | e) | e
  · exact absurd e h2
  · exact absurd e h3
  · exact e
theorem powD : (Rows.laid_internal_strconv_uint64pow10 : DataW Unit) = .agg ((List.range 20).map fun i => .lit (.int .u64 (10 ^ i))) := by rfl
theorem zMax : (((begin Tryz.prog (fun _ _ => 0) default).world.heap[(0 : Nat)]?).bind Obj.row?) = some (#[.int .i64 0], 3) := by kernel_rfl

set_option maxRecDepth 100000 in
theorem tab_of_laid {W : World} (h : laidMetH Tryz.prog laidL W) (hS : W.ShapedOpen Tryz.prog) : TabOk Tryz.prog W.heap := by
  rw [MakeChecks.laidMetH_plain _ _ _ (by kernel_rfl)] at h
  obtain ⟨ps, ⟨_, _, _, _, _, _, _, _, _, _, ⟨_, _, _, _, _, _, _, _, _, _, ⟨g3, t3, cs3, f3, p3, q3, hg3, ht3, hv3, hd3, _, _⟩, _⟩, _⟩, _, _⟩ := h
  obtain rfl := Option.some.inj (gPow.symm.trans hg3)
  obtain rfl := Option.some.inj (tPow.symm.trans ht3)
  obtain ⟨e3, fr3, hh3⟩ := var_heap hg3 hv3
  intro g cs hg
  by_cases hgM : g = 0
  · subst hgM
    rw [tabM] at hg; cases hg
    obtain ⟨m, hm⟩ := Tryz.laysContains.s1_3 W hS
    obtain ⟨cur, hh, hsz, _⟩ := hS.1 0 _ _ (by rw [gsz]; omega) zMax
    refine ⟨cur, _, _, hh, ?_⟩
    have hc : cur[0]? = some (.int .i64 m) := by
      have hm' : W.cell? ⟨(0 : Nat), 0, none⟩ = some (.int .i64 m) := hm
      simpa [World.cell?, hh] using hm'
    have h1 : cur.size = 1 := hsz
    refine ⟨by simp [h1], fun i u v hu hv => ?_⟩
    have hi : i = 0 := by have := (List.getElem?_eq_some_iff.1 hu).1; simp at this; omega
    subst hi
    rw [Array.getElem?_toList, hc] at hv
    cases hv
    cases hu
    exact .unk _ _ _ rfl (fun _ => ⟨m, rfl⟩)
  by_cases hgP : g = 1
  · subst hgP
    rw [tabP] at hg; cases hg
    refine ⟨cs3, e3, fr3, hh3, ?_⟩
    obtain ⟨xs, m, rfl, hx, hlen, hn, hel⟩ := DataW.trod_array uPow hd3
    rw [cPow] at hlen
    rw [powD] at hx
    simp only [Prod.mk.injEq, DataW.agg.injEq] at hx
    have hkey : ∀ i, i < 20 → cs3.toList[i]? = some (.int .u64 (10 ^ i)) := by
      intro i hi
      have h1 := hel i hi
      rw [cU64, Nat.mul_one, List.getElem?_eq_getElem (by omega)] at h1
      obtain ⟨n, k1, k2, _⟩ := DataW.trod_int uU64 h1
      have h2 := congrArg (fun l => l[i]?) hx.1
      simp only [List.getElem?_map] at h2
      rw [List.getElem?_range hi, List.getElem?_eq_getElem (by omega), Option.map_some, Option.map_some, k2] at h2
      have h3 : n = 10 ^ i := by
        have := Option.some.inj h2
        simp only [DataW.lit.injEq, Lit.int.injEq, true_and] at this
        exact this.symm
      have h4 := congrArg (fun l => l[0]?) k1
      simp only [List.getElem?_take, Nat.zero_lt_one, if_true, List.getElem?_drop, Nat.add_zero] at h4
      rw [h4, h3]; rfl
    refine ⟨by simp [hlen], fun i u v hu hv => ?_⟩
    have hi : i < 20 := by have := (List.getElem?_eq_some_iff.1 hu).1; simpa using this
    rw [hkey i hi] at hv
    cases hv
    rw [List.getElem?_map, List.getElem?_range hi] at hu
    cases hu
    exact .int _ _
  by_cases hlt : g < 6
  · rw [tabO g hlt hgM hgP] at hg; cases hg
  · unfold Tab at hg
    rw [Array.getElem?_eq_none (by rw [gsz]; omega)] at hg
    cases hg

/-- The door's own heap meets the condition. -/
theorem door_met (os : Os) (args : Array Value) : laidMetH Tryz.prog laidL ((World.doorLaid Tryz.prog 400 os).forCall (fun _ _ => 0) ⟨#[], args, []⟩).memory :=
  laidMetH_of_parts3 (fuel := 8) (laidMet_of_run' 8 (by kernel_rfl) (by kernel_rfl)) (by kernel_rfl) (by kernel_rfl)
end Go.S17
