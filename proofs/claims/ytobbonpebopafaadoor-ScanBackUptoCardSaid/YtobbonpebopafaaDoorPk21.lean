import Derived.Test.YtobbonpebopafaaDoorRows
import Derived.Test.YtobbonpebopafaaDoorPk14
import Derived.LaidMore
import Derived.OpenShut
import Derived.MakeChecks
/- Tokens: package variables that are laid. -/
set_option linter.unusedVariables false
set_option linter.unusedSimpArgs false
namespace Go.S07
open Go Go.Eng Go.Proofs Go.Proofs.YtobbonpebopafaaDoor

theorem iface_one {P : Program} {W : World} {fuel : Nat} {t : TypeId} {ms : Array (String × TypeId)} {cs : List Value} {n : String} {d : DataW Unit} {q : List MemPlace} {sp : Nat → Bool} (hu : P.underlying t = some (.interface ms))
    (h : DataW.trod (fun _ => ()) P W 0 sp false fuel t cs = some (.iface n d, q)) : ∃ u v, cs = [.iface u v] := by
  cases fuel with
  | zero => simp [DataW.trod] at h
  | succ m =>
    unfold DataW.trod at h
    rw [hu] at h
    split at h <;> simp_all
theorem var_heap {P : Program} {W : World} {n : String} {g : Nat} {cs : Array Value} (hg : P.globalNamed n = some g) (h : W.var? P n = some cs) : ∃ e fr, W.heap[g]? = some (.cells cs e fr) := by
  simp only [World.var?, hg, Option.bind_some] at h
  split at h
  · cases h; exact ⟨_, _, by assumption⟩
  · cases h

def laidL : List (String × DataW Unit) := [("math/bits.deBruijn32tab", Rows.laid_math_bits_deBruijn32tab), ("math/bits.deBruijn64tab", Rows.laid_math_bits_deBruijn64tab), ("internal/strconv.uint64pow10", Rows.laid_internal_strconv_uint64pow10), ("strconv.ErrRange", Rows.laid_strconv_ErrRange), ("strconv.ErrSyntax", Rows.laid_strconv_ErrSyntax)]

theorem gPow : Tryd.prog.globalNamed "internal/strconv.uint64pow10" = some 3 := by kernel_rfl
theorem gRng : Tryd.prog.globalNamed "strconv.ErrRange" = some 1 := by kernel_rfl
theorem gSyn : Tryd.prog.globalNamed "strconv.ErrSyntax" = some 0 := by kernel_rfl
theorem tPow : (Tryd.prog.globals[3]?).map (·.type) = some 102 := by kernel_rfl
theorem tRng : (Tryd.prog.globals[1]?).map (·.type) = some 53 := by kernel_rfl
theorem tSyn : (Tryd.prog.globals[0]?).map (·.type) = some 53 := by kernel_rfl
theorem uPow : Tryd.prog.underlying 102 = some (.array 20 79) := by kernel_rfl
theorem uErr : Tryd.prog.underlying 53 = some (.interface #[("Error", 57)]) := by kernel_rfl
theorem uU64 : Tryd.prog.underlying 79 = some (.int .u64) := by kernel_rfl
theorem cPow : Tryd.prog.cellsOf 102 = 20 := by kernel_rfl
theorem cU64 : Tryd.prog.cellsOf 79 = 1 := by kernel_rfl
theorem gsz : Tryd.prog.globals.size = 6 := by kernel_rfl
theorem tab0 : Tab Tryd.prog 0 = some [.complex .f64 0 0] := by kernel_rfl
theorem tab1 : Tab Tryd.prog 1 = some [.complex .f64 0 0] := by kernel_rfl
theorem tab2 : Tab Tryd.prog 2 = none := by kernel_rfl
theorem tab3 : Tab Tryd.prog 3 = some ((List.range 20).map fun i => Value.int .u64 (10 ^ i)) := by kernel_rfl
theorem tab4 : Tab Tryd.prog 4 = none := by kernel_rfl
theorem tab5 : Tab Tryd.prog 5 = none := by kernel_rfl
theorem powD : (Rows.laid_internal_strconv_uint64pow10 : DataW Unit) = .agg ((List.range 20).map fun i => .lit (.int .u64 (10 ^ i))) := by rfl

set_option maxRecDepth 100000 in
theorem tab_of_laid {W : World} (h : laidMetH Tryd.prog laidL W) : TabOk Tryd.prog W.heap := by
  rw [MakeChecks.laidMetH_plain _ _ _ (by kernel_rfl)] at h
  obtain ⟨ps, ⟨_, _, _, _, _, _, _, _, _, _, ⟨_, _, _, _, _, _, _, _, _, _, ⟨g3, t3, cs3, f3, p3, q3, hg3, ht3, hv3, hd3, ⟨g1, t1, cs1, f1, p1, q1, hg1, ht1, hv1, hd1, ⟨g0, t0, cs0, f0, p0, q0, hg0, ht0, hv0, hd0, _, _⟩, _⟩, _⟩, _⟩, _⟩, _, _⟩ := h
  obtain rfl := Option.some.inj (gPow.symm.trans hg3)
  obtain rfl := Option.some.inj (gRng.symm.trans hg1)
  obtain rfl := Option.some.inj (gSyn.symm.trans hg0)
  obtain rfl := Option.some.inj (tPow.symm.trans ht3)
  obtain rfl := Option.some.inj (tRng.symm.trans ht1)
  obtain rfl := Option.some.inj (tSyn.symm.trans ht0)
  obtain ⟨e3, fr3, hh3⟩ := var_heap hg3 hv3
  obtain ⟨e1, fr1, hh1⟩ := var_heap hg1 hv1
  obtain ⟨e0, fr0, hh0⟩ := var_heap hg0 hv0
  obtain ⟨u1, v1, hc1⟩ := iface_one uErr hd1
  obtain ⟨u0, v0, hc0⟩ := iface_one uErr hd0
  intro g cs hg
  match g, hg with
  | 0, hg =>
    rw [tab0] at hg; cases hg
    refine ⟨cs0, e0, fr0, hh0, ?_⟩
    rw [hc0]
    exact .cons (.unk _ _ _ rfl) (.nil _)
  | 1, hg =>
    rw [tab1] at hg; cases hg
    refine ⟨cs1, e1, fr1, hh1, ?_⟩
    rw [hc1]
    exact .cons (.unk _ _ _ rfl) (.nil _)
  | 2, hg => rw [tab2] at hg; cases hg
  | 3, hg =>
    rw [tab3] at hg; cases hg
    refine ⟨cs3, e3, fr3, hh3, ?_⟩
    obtain ⟨xs, m, rfl, hx, hlen, hn, hel⟩ := DataW.trod_array uPow hd3
    rw [cPow] at hlen
    rw [powD] at hx
    simp only [Prod.mk.injEq, DataW.agg.injEq] at hx
    have hkey : ∀ i, i < 20 → cs3.toList[i]? = some (.int .u64 (10 ^ i)) := by
      intro i hi
      have h1 := hel i hi
      rw [cU64, Nat.mul_one, List.getElem?_eq_getElem (by omega)] at h1
      obtain ⟨n, k1, k2, _⟩ := DataW.trod_int uU64 h1
      have h2 := congrArg (fun l => l[i]?) hx.1
      simp only [List.getElem?_map] at h2
      rw [List.getElem?_range hi, List.getElem?_eq_getElem (by omega), Option.map_some, Option.map_some, k2] at h2
      have h3 : n = 10 ^ i := by
        have := Option.some.inj h2
        simp only [DataW.lit.injEq, Lit.int.injEq, true_and] at this
        exact this.symm
      have h4 := congrArg (fun l => l[0]?) k1
      simp only [List.getElem?_take, Nat.zero_lt_one, if_true, List.getElem?_drop, Nat.add_zero] at h4
      rw [h4, h3]; rfl
    refine ⟨by simp [hlen], fun i u v hu hv => ?_⟩
    have hi : i < 20 := by have := (List.getElem?_eq_some_iff.1 hu).1; simpa using this
    rw [hkey i hi] at hv
    cases hv
    rw [List.getElem?_map, List.getElem?_range hi] at hu
    cases hu
    exact .int _ _
  | 4, hg => rw [tab4] at hg; cases hg
  | 5, hg => rw [tab5] at hg; cases hg
  | g + 6, hg =>
    unfold Tab at hg
    rw [Array.getElem?_eq_none (by rw [gsz]; omega)] at hg
    cases hg

/-- The door's own heap meets the condition. -/
theorem door_met (os : Os) (args : Array Value) : laidMetH Tryd.prog laidL ((World.doorLaid Tryd.prog 400 os).forCall (fun _ _ => 0) ⟨#[], args, []⟩).memory :=
  laidMetH_of_parts3 (fuel := 8) (laidMet_of_run' 8 (by kernel_rfl) (by kernel_rfl)) (by kernel_rfl) (by kernel_rfl)
end Go.S07
