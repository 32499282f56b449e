import Derived.Test.YtobbonpebopafaaDoorPk20
import Derived.Test.YtobbonpebopafaaDoorPk13
import Derived.Test.YtobbonpebopafaaDoorPk14
import Derived.Test.YtobbonpebopafaaDoorRows
import Derived.LaidMore
import Derived.OpenShut
import Derived.MakeChecks
/- Texts: one token as a text, the document's side. -/
set_option linter.unusedVariables false
set_option linter.unusedSimpArgs false
namespace Go.S07
open Go Go.Eng Go.Proofs Go.Scn

set_option maxHeartbeats 4000000 in
theorem one_ok (t : Tk) (at' : Int) (hn0 : -9223372036854775808 ≤ t.n) (hn1 : t.n ≤ 9223372036854775807) (hl : t.t.length ≤ 10000000000000) (h : AH) :
    Gets Tryd.prog 30 [.agg #[iv t.k, tv t.t, iv t.n, iv at']] h (TxO h t) := by
  refine Gets.of (keep := false) hP (draw_ok hM) k30 (by rfl) (fun Ψ hΨ => ?_)
  have o1 := Own.new h tkT h.length [iv t.k, tv t.t, iv t.n, iv at']
  have k1 : Keep (fun _ => False) h (h ++ [row tkT h.length [iv t.k, tv t.t, iv t.n, iv at']]) := Keep.push _ _ _
  have c17 : (([1, 7] : List Nat).contains 1) = true := rfl
  have c77 : (([1, 7] : List Nat).contains 7) = true := rfl
  have c57 : (([1, 7] : List Nat).contains 5) = false := rfl
  by_cases h1 : t.k = 1
  · skip
    have n3 : t.k ≠ 3 := by omega
    have n4 : t.k ≠ 4 := by omega
    have hok := okT_else n3 n4
    rw [if_neg (by omega), if_neg (by omega), if_neg (by omega), decide_eq_true (show t.k = 1 ∨ t.k = 2 ∨ t.k = 6 by omega), Bool.true_and] at hok
    by_cases hz : t.n = 0
    · rw [decide_eq_true hz, Bool.true_and] at hok
      simp only [mach, mach2, mstd, ↓reduceIte, Nat.reduceEqDiff, Nat.reduceAdd, Nat.reduceMul, r30, o1.cells.ld, mbl, Nat.reduceLeDiff, Nat.reduceLT, Int.reduceEq, eq_true h1, eq_true hz, ct1]
      generalize hh1 : h ++ [row tkT h.length [iv t.k, tv t.t, iv t.n, iv at']] = h1 at o1 k1 ⊢
      refine XX_val (rname_ok t.t (by omega) h1) ?_
      simp only [mach, mach2, mstd, ↓reduceIte, Nat.reduceEqDiff, Nat.reduceAdd, Nat.reduceMul, o1.cells.ld, mbl, Nat.reduceLeDiff, Nat.reduceLT, Int.reduceEq, ct1, c17, c77, c57]
      exact hΨ _ _ (fin_ret (rv2 rfl rfl ⟨k1, _, by rw [hok]; rfl, fun _ => (txT_else n3 n4 (by omega)).symm⟩))
    · rw [decide_eq_false hz, Bool.false_and] at hok
      simp only [mach, mach2, mstd, ↓reduceIte, Nat.reduceEqDiff, Nat.reduceAdd, Nat.reduceMul, r30, o1.cells.ld, mbl, Nat.reduceLeDiff, Nat.reduceLT, Int.reduceEq, eq_true h1, hz, ct1]
      exact hΨ _ _ (fin_ret (rv2 rfl rfl ⟨k1, _, by rw [hok]; rfl, fun _ => (txT_else n3 n4 (by omega)).symm⟩))
  by_cases h2 : t.k = 2
  · skip
    have n3 : t.k ≠ 3 := by omega
    have n4 : t.k ≠ 4 := by omega
    have hok := okT_else n3 n4
    rw [if_neg (by omega), if_neg (by omega), if_neg (by omega), decide_eq_true (show t.k = 1 ∨ t.k = 2 ∨ t.k = 6 by omega), Bool.true_and] at hok
    by_cases hz : t.n = 0
    · rw [decide_eq_true hz, Bool.true_and] at hok
      simp only [mach, mach2, mstd, ↓reduceIte, Nat.reduceEqDiff, Nat.reduceAdd, Nat.reduceMul, r30, o1.cells.ld, mbl, Nat.reduceLeDiff, Nat.reduceLT, Int.reduceEq, h1, eq_true h2, eq_true hz, ct1]
      generalize hh1 : h ++ [row tkT h.length [iv t.k, tv t.t, iv t.n, iv at']] = h1 at o1 k1 ⊢
      refine XX_val (rname_ok t.t (by omega) h1) ?_
      simp only [mach, mach2, mstd, ↓reduceIte, Nat.reduceEqDiff, Nat.reduceAdd, Nat.reduceMul, o1.cells.ld, mbl, Nat.reduceLeDiff, Nat.reduceLT, Int.reduceEq, ct1, c17, c77, c57]
      exact hΨ _ _ (fin_ret (rv2 rfl rfl ⟨k1, _, by rw [hok]; rfl, fun _ => (txT_else n3 n4 (by omega)).symm⟩))
    · rw [decide_eq_false hz, Bool.false_and] at hok
      simp only [mach, mach2, mstd, ↓reduceIte, Nat.reduceEqDiff, Nat.reduceAdd, Nat.reduceMul, r30, o1.cells.ld, mbl, Nat.reduceLeDiff, Nat.reduceLT, Int.reduceEq, h1, eq_true h2, hz, ct1]
      exact hΨ _ _ (fin_ret (rv2 rfl rfl ⟨k1, _, by rw [hok]; rfl, fun _ => (txT_else n3 n4 (by omega)).symm⟩))
  by_cases h6 : t.k = 6
  · skip
    have n3 : t.k ≠ 3 := by omega
    have n4 : t.k ≠ 4 := by omega
    have hok := okT_else n3 n4
    rw [if_neg (by omega), if_neg (by omega), if_neg (by omega), decide_eq_true (show t.k = 1 ∨ t.k = 2 ∨ t.k = 6 by omega), Bool.true_and] at hok
    by_cases hz : t.n = 0
    · rw [decide_eq_true hz, Bool.true_and] at hok
      simp only [mach, mach2, mstd, ↓reduceIte, Nat.reduceEqDiff, Nat.reduceAdd, Nat.reduceMul, r30, o1.cells.ld, mbl, Nat.reduceLeDiff, Nat.reduceLT, Int.reduceEq, h1, h2, eq_true h6, eq_true hz, ct1]
      generalize hh1 : h ++ [row tkT h.length [iv t.k, tv t.t, iv t.n, iv at']] = h1 at o1 k1 ⊢
      refine XX_val (rname_ok t.t (by omega) h1) ?_
      simp only [mach, mach2, mstd, ↓reduceIte, Nat.reduceEqDiff, Nat.reduceAdd, Nat.reduceMul, o1.cells.ld, mbl, Nat.reduceLeDiff, Nat.reduceLT, Int.reduceEq, ct1, c17, c77, c57]
      exact hΨ _ _ (fin_ret (rv2 rfl rfl ⟨k1, _, by rw [hok]; rfl, fun _ => (txT_else n3 n4 (by omega)).symm⟩))
    · rw [decide_eq_false hz, Bool.false_and] at hok
      simp only [mach, mach2, mstd, ↓reduceIte, Nat.reduceEqDiff, Nat.reduceAdd, Nat.reduceMul, r30, o1.cells.ld, mbl, Nat.reduceLeDiff, Nat.reduceLT, Int.reduceEq, h1, h2, eq_true h6, hz, ct1]
      exact hΨ _ _ (fin_ret (rv2 rfl rfl ⟨k1, _, by rw [hok]; rfl, fun _ => (txT_else n3 n4 (by omega)).symm⟩))
  by_cases h7 : t.k = 7
  · have n3 : t.k ≠ 3 := by omega
    have n4 : t.k ≠ 4 := by omega
    have hok := okT_else n3 n4
    rw [if_pos h7] at hok
    by_cases hz : t.n = 0
    · rw [decide_eq_true hz, Bool.true_and] at hok
      simp only [mach, mach2, mstd, ↓reduceIte, Nat.reduceEqDiff, Nat.reduceAdd, Nat.reduceMul, r30, o1.cells.ld, mbl, Nat.reduceLeDiff, Nat.reduceLT, Int.reduceEq, h1, h2, h6, eq_true h7, eq_true hz, ct1]
      generalize hh1 : h ++ [row tkT h.length [iv t.k, tv t.t, iv t.n, iv at']] = h1 at o1 k1 ⊢
      refine XX_val (among_ok t.t marksW (by omega) (by decide) h1) ?_
      rw [am_marks]
      simp only [mach, mach2, mstd, ↓reduceIte, Nat.reduceEqDiff, Nat.reduceAdd, Nat.reduceMul, o1.cells.ld, mbl, Nat.reduceLeDiff, Nat.reduceLT, Int.reduceEq, ct1]
      exact hΨ _ _ (fin_ret (rv2 rfl rfl ⟨k1, _, by rw [hok]; rfl, fun _ => (txT_else n3 n4 (by omega)).symm⟩))
    · rw [decide_eq_false hz, Bool.false_and] at hok
      simp only [mach, mach2, mstd, ↓reduceIte, Nat.reduceEqDiff, Nat.reduceAdd, Nat.reduceMul, r30, o1.cells.ld, mbl, Nat.reduceLeDiff, Nat.reduceLT, Int.reduceEq, h1, h2, h6, eq_true h7, hz, ct1]
      exact hΨ _ _ (fin_ret (rv2 rfl rfl ⟨k1, _, by rw [hok]; rfl, fun _ => (txT_else n3 n4 (by omega)).symm⟩))
  by_cases h8 : t.k = 8
  · have n3 : t.k ≠ 3 := by omega
    have n4 : t.k ≠ 4 := by omega
    have hok := okT_else n3 n4
    rw [if_neg h7, if_pos h8] at hok
    by_cases hz : t.n = 0
    · rw [decide_eq_true hz, Bool.true_and] at hok
      simp only [mach, mach2, mstd, ↓reduceIte, Nat.reduceEqDiff, Nat.reduceAdd, Nat.reduceMul, r30, o1.cells.ld, mbl, Nat.reduceLeDiff, Nat.reduceLT, Int.reduceEq, h1, h2, h6, h7, eq_true h8, eq_true hz, ct1]
      generalize hh1 : h ++ [row tkT h.length [iv t.k, tv t.t, iv t.n, iv at']] = h1 at o1 k1 ⊢
      refine XX_val (among_ok t.t opsW (by omega) (by decide) h1) ?_
      rw [am_ops]
      simp only [mach, mach2, mstd, ↓reduceIte, Nat.reduceEqDiff, Nat.reduceAdd, Nat.reduceMul, o1.cells.ld, mbl, Nat.reduceLeDiff, Nat.reduceLT, Int.reduceEq, ct1]
      exact hΨ _ _ (fin_ret (rv2 rfl rfl ⟨k1, _, by rw [hok]; rfl, fun _ => (txT_else n3 n4 (by omega)).symm⟩))
    · rw [decide_eq_false hz, Bool.false_and] at hok
      simp only [mach, mach2, mstd, ↓reduceIte, Nat.reduceEqDiff, Nat.reduceAdd, Nat.reduceMul, r30, o1.cells.ld, mbl, Nat.reduceLeDiff, Nat.reduceLT, Int.reduceEq, h1, h2, h6, h7, eq_true h8, hz, ct1]
      exact hΨ _ _ (fin_ret (rv2 rfl rfl ⟨k1, _, by rw [hok]; rfl, fun _ => (txT_else n3 n4 (by omega)).symm⟩))
  by_cases h3 : t.k = 3
  · have hok : okT t = (decide (0 ≤ t.n) && (t.t == [])) := by unfold okT; rw [if_pos h3]
    have htx : txT t = Lib.itoa t.n := by unfold txT; rw [if_pos h3]
    by_cases hge : t.n < 0
    · simp only [mach, mach2, mstd, ↓reduceIte, Nat.reduceEqDiff, Nat.reduceAdd, Nat.reduceMul, r30, o1.cells.ld, mbl, Nat.reduceLeDiff, Nat.reduceLT, Int.reduceEq, h1, h2, h6, h7, h8, eq_true h3, eq_true hge, ct1]
      have hng : decide (0 ≤ t.n) = false := decide_eq_false (by omega)
      exact hΨ _ _ (fin_ret (rv2 rfl rfl ⟨k1, [], by rw [hok, hng]; rfl, fun e => by rw [hok, hng] at e; cases e⟩))
    · have hng : decide (0 ≤ t.n) = true := decide_eq_true (by omega)
      cases hE : (t.t == ([] : Bs)) with
      | true =>
        simp only [mach, mach2, mstd, ↓reduceIte, Nat.reduceEqDiff, Nat.reduceAdd, Nat.reduceMul, r30, o1.cells.ld, mbl, Nat.reduceLeDiff, Nat.reduceLT, Int.reduceEq, h1, h2, h6, h7, h8, eq_true h3, hge, ct1, tx_toList, mk_toList, hE]
        generalize hh1 : h ++ [row tkT h.length [iv t.k, tv t.t, iv t.n, iv at']] = h1 at o1 k1 ⊢
        obtain ⟨m, hm⟩ : ∃ m : Nat, t.n = m := ⟨t.n.toNat, by omega⟩
        rw [hm] at htx ⊢
        refine XX_val (digits_ok m (by omega) h1) ?_
        simp only [mach, mach2, mstd, ↓reduceIte, Nat.reduceEqDiff, Nat.reduceAdd, Nat.reduceMul, o1.cells.ld, mbl, Nat.reduceLeDiff, Nat.reduceLT, Int.reduceEq, ct1, tx_toList, mk_toList, hE]
        exact hΨ _ _ (fin_ret (rv2 rfl rfl ⟨k1, _, by rw [hok, hE, hng]; rfl, fun _ => htx.symm⟩))
      | false =>
        simp only [mach, mach2, mstd, ↓reduceIte, Nat.reduceEqDiff, Nat.reduceAdd, Nat.reduceMul, r30, o1.cells.ld, mbl, Nat.reduceLeDiff, Nat.reduceLT, Int.reduceEq, h1, h2, h6, h7, h8, eq_true h3, hge, ct1, tx_toList, mk_toList, hE]
        generalize hh1 : h ++ [row tkT h.length [iv t.k, tv t.t, iv t.n, iv at']] = h1 at o1 k1 ⊢
        obtain ⟨m, hm⟩ : ∃ m : Nat, t.n = m := ⟨t.n.toNat, by omega⟩
        rw [hm] at htx ⊢
        refine XX_val (digits_ok m (by omega) h1) ?_
        simp only [mach, mach2, mstd, ↓reduceIte, Nat.reduceEqDiff, Nat.reduceAdd, Nat.reduceMul, o1.cells.ld, mbl, Nat.reduceLeDiff, Nat.reduceLT, Int.reduceEq, ct1, tx_toList, mk_toList, hE]
        exact hΨ _ _ (fin_ret (rv2 rfl rfl ⟨k1, _, by rw [hok, hE, hng]; rfl, fun _ => htx.symm⟩))
  by_cases h4 : t.k = 4
  · have hok : okT t = ((escS t.n).isSome && (t.t == [])) := by unfold okT; rw [if_neg h3, if_pos h4]
    have htx : txT t = [39] ++ (escS t.n).getD [] ++ [39] := by unfold txT; rw [if_neg h3, if_pos h4]
    simp only [mach, mach2, mstd, ↓reduceIte, Nat.reduceEqDiff, Nat.reduceAdd, Nat.reduceMul, r30, o1.cells.ld, mbl, Nat.reduceLeDiff, Nat.reduceLT, Int.reduceEq, h1, h2, h6, h7, h8, h3, eq_true h4]
    generalize hh1 : h ++ [row tkT h.length [iv t.k, tv t.t, iv t.n, iv at']] = h1 at o1 k1 ⊢
    refine XX_of (rEscape_ok t.n h1) (fun res h2 hle hr => ?_)
    obtain ⟨k2, rfl⟩ := hr
    refine .ret ?_
    have o2 := o1.keep k2 (fun e => e)
    cases hes : escS t.n with
    | none =>
      rw [escV]
      have s1 : sbin .add (⟨#[39]⟩ : ByteArray) (⟨#[]⟩ : ByteArray) = some (tv [39]) := s_add (a := [39]) (b := []) (by simp)
      have s2 : sbin .add (tx [39]) (⟨#[39]⟩ : ByteArray) = some (tv [39, 39]) := s_add (a := [39]) (b := [39]) (by simp)
      cases hE : (t.t == ([] : Bs)) with
      | true =>
        simp only [mach, mach2, mstd, ↓reduceIte, Nat.reduceEqDiff, Nat.reduceAdd, Nat.reduceMul, o2.cells.ld, mbl, Nat.reduceLeDiff, Nat.reduceLT, Int.reduceEq, ct1, s1, s2, Int.reduceEq, tx_toList, mk_toList, hE]
        exact hΨ _ _ (fin_ret (rv2 rfl rfl ⟨k1.trans k2, _, by rw [hok, hes]; rfl, fun e => by rw [hok, hes] at e; cases e⟩))
      | false =>
        simp only [mach, mach2, mstd, ↓reduceIte, Nat.reduceEqDiff, Nat.reduceAdd, Nat.reduceMul, o2.cells.ld, mbl, Nat.reduceLeDiff, Nat.reduceLT, Int.reduceEq, ct1, s1, s2, Int.reduceEq, tx_toList, mk_toList, hE]
        exact hΨ _ _ (fin_ret (rv2 rfl rfl ⟨k1.trans k2, _, by rw [hok, hes]; rfl, fun e => by rw [hok, hes] at e; cases e⟩))
    | some l =>
      have hl4 := escS_len hes
      rw [escV]
      have s1 : sbin .add (⟨#[39]⟩ : ByteArray) (tx l) = some (tv ([39] ++ l)) := s_add (a := [39]) (b := l) (by simp; omega)
      have s2 : sbin .add (tx ([39] ++ l)) (⟨#[39]⟩ : ByteArray) = some (tv ([39] ++ l ++ [39])) := s_add (a := [39] ++ l) (b := [39]) (by simp; omega)
      cases hE : (t.t == ([] : Bs)) with
      | true =>
        simp only [mach, mach2, mstd, ↓reduceIte, Nat.reduceEqDiff, Nat.reduceAdd, Nat.reduceMul, o2.cells.ld, mbl, Nat.reduceLeDiff, Nat.reduceLT, Int.reduceEq, ct1, s1, s2, tx_toList, mk_toList, hE]
        exact hΨ _ _ (fin_ret (rv2 rfl rfl ⟨k1.trans k2, _, by rw [hok, hes, hE]; rfl, fun _ => by rw [htx, hes]; rfl⟩))
      | false =>
        simp only [mach, mach2, mstd, ↓reduceIte, Nat.reduceEqDiff, Nat.reduceAdd, Nat.reduceMul, o2.cells.ld, mbl, Nat.reduceLeDiff, Nat.reduceLT, Int.reduceEq, ct1, s1, s2, tx_toList, mk_toList, hE]
        exact hΨ _ _ (fin_ret (rv2 rfl rfl ⟨k1.trans k2, _, by rw [hok, hes, hE]; rfl, fun e => by rw [hok, hes, hE] at e; cases e⟩))
  have hok := okT_else h3 h4
  rw [if_neg h7, if_neg h8] at hok
  by_cases h5 : t.k = 5
  · rw [if_pos h5, Bool.and_true] at hok
    have htx : txT t = [34] ++ quoS t.t ++ [34] := by unfold txT; rw [if_neg h3, if_neg h4, if_pos h5]
    have hq := quoS_len t.t
    have s1 : sbin .add (⟨#[34]⟩ : ByteArray) (tx (quoS t.t)) = some (tv ([34] ++ quoS t.t)) := s_add (a := [34]) (b := quoS t.t) (by simp; omega)
    have s2 : sbin .add (tx ([34] ++ quoS t.t)) (⟨#[34]⟩ : ByteArray) = some (tv ([34] ++ quoS t.t ++ [34])) := s_add (a := [34] ++ quoS t.t) (b := [34]) (by simp; omega)
    simp only [mach, mach2, mstd, ↓reduceIte, Nat.reduceEqDiff, Nat.reduceAdd, Nat.reduceMul, r30, o1.cells.ld, mbl, Nat.reduceLeDiff, Nat.reduceLT, Int.reduceEq, h1, h2, h6, h7, h8, h3, h4, eq_true h5]
    generalize hh1 : h ++ [row tkT h.length [iv t.k, tv t.t, iv t.n, iv at']] = h1 at o1 k1 ⊢
    refine XX_of (rQuote_ok t.t hl h1) (fun res h2 hle hr => ?_)
    obtain ⟨k2, rfl⟩ := hr
    refine .ret ?_
    simp only [mach, mach2, mstd, ↓reduceIte, Nat.reduceEqDiff, Nat.reduceAdd, Nat.reduceMul, mbl, Nat.reduceLeDiff, Nat.reduceLT, Int.reduceEq, s1, s2]
    exact hΨ _ _ (fin_ret (rv2 rfl rfl ⟨k1.trans k2, _, by rw [hok]; rfl, fun _ => htx.symm⟩))
  · rw [if_neg h5, decide_eq_false (show ¬ (t.k = 1 ∨ t.k = 2 ∨ t.k = 6) by omega), Bool.false_and, Bool.and_false] at hok
    simp only [mach, mach2, mstd, ↓reduceIte, Nat.reduceEqDiff, Nat.reduceAdd, Nat.reduceMul, r30, o1.cells.ld, mbl, Nat.reduceLeDiff, Nat.reduceLT, Int.reduceEq, h1, h2, h6, h7, h8, h3, h4, h5]
    exact hΨ _ _ (fin_ret (rv2 rfl rfl ⟨k1, [], by rw [hok]; rfl, fun e => by rw [hok] at e; cases e⟩))
end Go.S07

/- Texts: lists of tokens as texts. -/
set_option linter.unusedVariables false
set_option linter.unusedSimpArgs false
namespace Go.S07
open Go Go.Eng Go.Proofs Go.Scn

/-- A token as it comes in: its place is any number. -/
abbrev Tg := Tk × Int
def tgC (x : Tg) : List Value := [iv x.1.k, tv x.1.t, iv x.1.n, iv x.2]
theorem tgC_len (x : Tg) : (tgC x).length = 4 := rfl
/-- Numbers of the machine, no text is longer than M. -/
def fitT (M : Nat) (t : Tk) : Prop := -9223372036854775808 ≤ t.n ∧ t.n ≤ 9223372036854775807 ∧ t.t.length ≤ M
theorem tg_at {h : AH} {v : Value} {n : Nat} {ts : List Tg} (hr : Rds h 4 v n (ts.flatMap tgC)) {i : Nat} {t : Tg} (hx : ts[i]? = some t) :
    ∃ b o c, v = .slice (some ⟨b, o, none⟩) n c ∧ i < n ∧ ldcs h b (o + i * 4) 4 = some (tgC t) := by
  have hl : i < ts.length := (List.getElem?_eq_some_iff.1 hx).1
  have hlen : (ts.flatMap tgC).length = ts.length * 4 := by
    clear hr hx hl
    induction ts with
    | nil => rfl
    | cons t ts ih => rw [List.flatMap_cons, List.length_append, ih, tgC_len, List.length_cons, Nat.add_mul]; omega
  have hn : i < n := by have := hr.len; rw [hlen] at this; omega
  obtain ⟨b, o, c, e, h1⟩ := rds_sub hr (i := i) (j := 0) (m := 4) hn (by omega)
  have h2 := flat_at (f := tgC) (k := 4) tgC_len hx (j := 0) (m := 4) (by omega)
  refine ⟨b, o, c, e, hn, ?_⟩
  rw [Nat.add_zero] at h1
  rw [h1, h2]; rfl

theorem itoa_len {n : Int} (h0 : -9223372036854775808 ≤ n) (h1 : n ≤ 9223372036854775807) : (Lib.itoa n).length ≤ 21 := by
  have hd : ∀ u : Nat, u < 18446744073709551616 → (Lib.decDigits u).length ≤ 20 := fun u hu => by
    rw [Lib.decDigits_length]
    rcases Nat.eq_zero_or_pos u with e | e
    · subst e; rw [Lib.nDigits_small (by omega)]; omega
    · have := Lib.numDigits_eq u e hu
      split at this <;> omega
  unfold Lib.itoa
  split
  · have := hd n.natAbs (by omega); simp; omega
  · have := hd n.toNat (by omega); omega
theorem txT_len {M : Nat} {t : Tk} (h : fitT M t) : (txT t).length ≤ 4 * M + 30 := by
  obtain ⟨h0, h1, h2⟩ := h
  unfold txT
  split
  · have := itoa_len h0 h1; omega
  · split
    · cases he : escS t.n with
      | none => simp
      | some l => have := escS_len he; simp; omega
    · split
      · have := quoS_len t.t; simp; omega
      · omega
def sepT (i : Nat) : Bs := if 0 < i then [32] else []
/-- Texts with blanks between. -/
def catT : List Tk → Bs
  | [] => []
  | t :: r => txT t ++ r.flatMap fun u => 32 :: txT u
theorem catT_snoc (ts : List Tk) (t : Tk) : catT (ts ++ [t]) = catT ts ++ sepT ts.length ++ txT t := by
  cases ts with
  | nil => simp [catT, sepT]
  | cons a r => simp [catT, sepT]
theorem catT_len {M : Nat} : ∀ (ts : List Tk), (∀ t ∈ ts, fitT M t) → (catT ts).length ≤ ts.length * (4 * M + 31) := by
  have aux : ∀ (r : List Tk), (∀ t ∈ r, fitT M t) → (r.flatMap fun u => 32 :: txT u).length ≤ r.length * (4 * M + 31) := by
    intro r
    induction r with
    | nil => intro _; simp
    | cons a r ih =>
      intro h
      have h1 := txT_len (h a List.mem_cons_self)
      have h2 := ih fun t ht => h t (List.mem_cons_of_mem _ ht)
      rw [List.flatMap_cons, List.length_append, List.length_cons, List.length_cons, Nat.add_mul]; omega
  intro ts h
  cases ts with
  | nil => simp [catT]
  | cons a r =>
    have h1 := txT_len (h a List.mem_cons_self)
    have h2 := aux r fun t ht => h t (List.mem_cons_of_mem _ ht)
    rw [catT, List.length_append, List.length_cons, Nat.add_mul]; omega
/-- What Text says. -/
def texS (ts : List Tk) : Bs × Int := if ts.all okT then (catT ts, 0) else ([], 7)

set_option maxHeartbeats 4000000 in
theorem Text_ok (ts : List Tg) (h : AH) (v : Value) (hr : Rds h 4 v ts.length (ts.flatMap tgC)) {M : Nat} (hM : M ≤ 4000000) (hN : ts.length ≤ 4000000) (hf : ∀ t ∈ ts.map (·.1), fitT M t) :
    Gets Tryd.prog 14 [v] h (fun res h' => Keep (fun _ => False) h h' ∧ res = .ret (.tuple #[tv (texS (ts.map (·.1))).1, iv (texS (ts.map (·.1))).2])) := by
  refine Gets.of (keep := false) hP (draw_ok (Go.S07.hM)) k14 (by rfl) (fun Ψ hΨ => ?_)
  obtain ⟨ua, uc, rfl⟩ := row_shape hr
  have ob := Own.new h bdT h.length [.pointer none, .slice none 0 0]
  have k1 : Keep (fun _ => False) h (h ++ [row bdT h.length [.pointer none, .slice none 0 0]]) := Keep.push _ _ _
  simp only [mach, mach2, mstd, ↓reduceIte, Nat.reduceEqDiff, Nat.reduceAdd, Nat.reduceMul, r14, mbl, Nat.reduceLeDiff, Nat.reduceLT, Int.reduceEq]
  generalize hh1 : h ++ [row bdT h.length [.pointer none, .slice none 0 0]] = h1 at ob k1 ⊢
  have hl1 : h1.length = h.length + 1 := by rw [← hh1]; simp
  refine XLo_rule (α := Nat × Value × Value) (fun a => [(4, .pointer (some ⟨h.length, 0, none⟩)), (9, .slice ua ts.length uc), (10, iv ts.length), (11, iv a.1)])
    (fun a h' => a.1 ≤ ts.length ∧ Keep (fun _ => False) h h' ∧ Bd h' h.length (catT ((ts.map (·.1)).take a.1)) a.2.1 a.2.2 ∧ ((ts.map (·.1)).take a.1).all okT = true) (fun a => ts.length - a.1) (0, .pointer none, .slice none 0 0)
    ⟨Nat.zero_le _, k1, ⟨ob, .inl rfl, .nil, fun q e => e.elim, fun _ => rfl⟩, rfl⟩ ⟨rfl, rfl, rfl, rfl, trivial⟩ ?_
  rintro ⟨i, ad, vb⟩ g1 Ψ2 ⟨hi, kp, bd, hall⟩ next out
  simp only at hi bd hall
  have hcl := catT_len ((ts.map (·.1)).take i) (fun t ht => hf t (List.mem_of_mem_take ht))
  have htl : ((ts.map (·.1)).take i).length = i := by simp; omega
  rw [htl] at hcl
  have hbig : i * (4 * M + 31) ≤ 4000000 * 16000031 := Nat.mul_le_mul (by omega) (by omega)
  have hbl := bd.own.lt
  by_cases hlt : (i : Int) < (ts.length : Int)
  case neg =>
    have hie : i = ts.length := by omega
    have htk : (ts.map (·.1)).take i = ts.map (·.1) := List.take_of_length_le (by simp; omega)
    rw [htk] at bd hall hcl
    simp only [mach, mach2, mstd, ↓reduceIte, Nat.reduceEqDiff, Nat.reduceAdd, Nat.reduceMul, hlt]
    refine out (.exit 0) _ _ _ _ (by intro e; cases e) ?_
    simp only [mach, mach2, mstd, ↓reduceIte, Nat.reduceEqDiff, Nat.reduceAdd, Nat.reduceMul]
    refine XX_of (string_ok bd (by omega)) (fun res g2 hle hrs => ?_)
    obtain ⟨rfl, m2⟩ := hrs
    refine .ret ?_
    simp only [mach, mach2, mstd, ↓reduceIte, Nat.reduceEqDiff, Nat.reduceAdd, Nat.reduceMul]
    refine hΨ _ _ (fin_ret (rv2 rfl rfl ⟨kp.trans' m2 (fun c hc e => by have := bd.ne c e; omega), ?_⟩))
    rw [texS, if_pos hall]; rfl
  have hil : i < ts.length := by omega
  have g0 : (0 : Int) ≤ (i : Int) := by omega
  have hx : ts[i]? = some ts[i] := List.getElem?_eq_getElem hil
  obtain ⟨b1, o1, c1, e1, _, l1⟩ := tg_at (hr.keep kp (fun _ _ e => e)) hx
  cases e1
  have ea : tgC ts[i] = [iv ts[i].1.k, tv ts[i].1.t, iv ts[i].1.n, iv ts[i].2] := rfl
  rw [ea] at l1
  simp only [mach, mach2, mstd, ↓reduceIte, Nat.reduceEqDiff, Nat.reduceAdd, Nat.reduceMul, hlt, g0, true_and, and_self, if_true, Int.toNat_natCast, l1, mbl, Nat.reduceLeDiff, Nat.reduceLT, Int.reduceEq]
  have k2 : Keep (fun _ => False) g1 (g1 ++ [row tkT g1.length [iv 0, tv [], iv 0, iv 0]]) := Keep.push _ _ _
  have l2 : (g1 ++ [row tkT g1.length [iv 0, tv [], iv 0, iv 0]]).length = g1.length + 1 := by simp
  refine XH_own (Own.new g1 tkT g1.length [iv 0, tv [], iv 0, iv 0]) rfl (by simp [Value.cells]) rfl (fun h5 p1 p2 p3 => ?_)
  have o5 : Own h5 g1.length tkT [iv ts[i].1.k, tv ts[i].1.t, iv ts[i].1.n, iv ts[i].2] := by simpa [Value.cells] using p1
  have k5 : Keep (fun _ => False) g1 h5 := k2.trans' p2 (fun c hc e => by omega)
  obtain ⟨hn0, hn1, hlM⟩ := hf ts[i].1 (List.mem_map.2 ⟨ts[i], List.getElem_mem _, rfl⟩)
  have hl5 : ldcs h5 g1.length 0 4 = some [iv ts[i].1.k, tv ts[i].1.t, iv ts[i].1.n, iv ts[i].2] := o5.cells.lds 0 4 (by simp)
  simp only [mach, mach2, mstd, ↓reduceIte, Nat.reduceEqDiff, Nat.reduceAdd, Nat.reduceMul, hl5]
  refine XX_of (text_ok ts[i].1 ts[i].2 hn0 hn1 (by omega) h5) (fun res g2 hle hrs => ?_)
  obtain ⟨m2, s, rfl, hs⟩ := hrs
  refine .ret ?_
  have k6 : Keep (fun _ => False) g1 g2 := k5.trans m2
  have bd2 : Bd g2 h.length (catT ((ts.map (·.1)).take i)) ad vb := ⟨bd.own.keep k6 (fun e => e), bd.ad, bd.ow.keep k6 (fun _ _ e => e), bd.ne, bd.nl⟩
  cases hok : okT ts[i].1 with
  | false =>
    simp only [mach, mach2, mstd, ↓reduceIte, Nat.reduceEqDiff, Nat.reduceAdd, Nat.reduceMul]
    refine out .ret _ _ _ _ (by intro e; cases e) ?_
    simp only [mach, mach2, mstd, ↓reduceIte, Nat.reduceEqDiff, Nat.reduceAdd, Nat.reduceMul]
    refine hΨ _ _ (fin_ret (rv2 rfl rfl ⟨kp.trans k6, ?_⟩))
    have hna : (ts.map (·.1)).all okT = false := by
      rw [List.all_eq_false]
      exact ⟨ts[i].1, List.mem_map.2 ⟨ts[i], List.getElem_mem _, rfl⟩, by rw [hok]; decide⟩
    rw [texS, hna]; rfl
  | true =>
    obtain rfl := hs hok
    have hsn : (ts.map (·.1)).take (i + 1) = (ts.map (·.1)).take i ++ [ts[i].1] := by
      rw [List.take_succ_eq_append_getElem (by simp; omega), List.getElem_map]
    have hcat : catT ((ts.map (·.1)).take (i + 1)) = catT ((ts.map (·.1)).take i) ++ sepT i ++ txT ts[i].1 := by rw [hsn, catT_snoc, htl]
    have hall' : ((ts.map (·.1)).take (i + 1)).all okT = true := by rw [hsn, List.all_append, hall]; simp [hok]
    have hwi : IntKind.i64.wrap ((i : Int) + 1) = ((i + 1 : Nat) : Int) := by rw [i64w (by omega) (by omega)]; omega
    have htxl := txT_len (hf ts[i].1 (List.mem_map.2 ⟨ts[i], List.getElem_mem _, rfl⟩))
    by_cases hi0 : i = 0
    · have hsp : sepT i = [] := by rw [hi0]; rfl
      have hz : ¬ (0 : Int) < (i : Int) := by omega
      simp only [mach, mach2, mstd, ↓reduceIte, Nat.reduceEqDiff, Nat.reduceAdd, Nat.reduceMul, mbl, Nat.reduceLeDiff, Nat.reduceLT, Int.reduceEq, hz]
      refine XX_of (writeString_ok bd2 (txT ts[i].1) (by omega)) (fun res g3 hle hr3 => ?_)
      obtain ⟨rfl, m3, v', bd3, f3⟩ := hr3
      refine .ret ?_
      simp only [mach, mach2, mstd, ↓reduceIte, Nat.reduceEqDiff, Nat.reduceAdd, Nat.reduceMul, hwi]
      refine next (i + 1, _, v') _ _ _ ⟨by simp only; omega, (kp.trans k6).trans' m3 (fun c hc e => ?_), by simp only; rw [hcat, hsp, List.append_nil]; exact bd3, hall'⟩ ⟨rfl, rfl, rfl, rfl, trivial⟩ (by simp only; omega)
      rcases e with e | e
      · omega
      · have := bd.ne c e; omega
    · have hsp : sepT i = [32] := by rw [sepT, if_pos (by omega)]
      have hz : (0 : Int) < (i : Int) := by omega
      simp only [mach, mach2, mstd, ↓reduceIte, Nat.reduceEqDiff, Nat.reduceAdd, Nat.reduceMul, mbl, Nat.reduceLeDiff, Nat.reduceLT, Int.reduceEq, hz]
      refine XX_of (writeByte_ok bd2 32 (by omega)) (fun res g3 hle hr3 => ?_)
      obtain ⟨rfl, m3, v', bd3, f3⟩ := hr3
      refine .ret ?_
      have q3 : Keep (fun _ => False) h g3 := (kp.trans k6).trans' m3 (fun c hc e => by
        rcases e with e | e
        · omega
        · have := bd.ne c e; omega)
      simp only [mach, mach2, mstd, ↓reduceIte, Nat.reduceEqDiff, Nat.reduceAdd, Nat.reduceMul]
      refine XX_of (writeString_ok bd3 (txT ts[i].1) (by simp only [List.length_append, List.length_cons, List.length_nil]; omega)) (fun res g4 hle hr4 => ?_)
      obtain ⟨rfl, m4, v4, bd4, f4⟩ := hr4
      refine .ret ?_
      simp only [mach, mach2, mstd, ↓reduceIte, Nat.reduceEqDiff, Nat.reduceAdd, Nat.reduceMul, hwi]
      refine next (i + 1, _, v4) _ _ _ ⟨by simp only; omega, q3.trans' m4 (fun c hc e => ?_), by simp only; rw [hcat, hsp]; exact bd4, hall'⟩ ⟨rfl, rfl, rfl, rfl, trivial⟩ (by simp only; omega)
      rcases e with e | e
      · omega
      · have := bd3.ne c e; omega
end Go.S07

/- Texts: tokens as a text, the document's side, the walk. -/
set_option linter.unusedVariables false
set_option linter.unusedSimpArgs false
namespace Go.S07
open Go Go.Eng Go.Proofs Go.Scn

set_option maxHeartbeats 4000000 in
theorem rText_ok (ts : List Tg) (h : AH) (v : Value) (hr : Rds h 4 v ts.length (ts.flatMap tgC)) {M : Nat} (hM' : M ≤ 4000000) (hN : ts.length ≤ 4000000) (hf : ∀ t ∈ ts.map (·.1), fitT M t) :
    Gets Tryd.prog 15 [v] h (fun res h' => Keep (fun _ => False) h h' ∧ res = .ret (.tuple #[tv (texS (ts.map (·.1))).1, iv (texS (ts.map (·.1))).2])) := by
  refine Gets.of (keep := false) hP (draw_ok hM) k15 (by rfl) (fun Ψ hΨ => ?_)
  obtain ⟨ua, uc, rfl⟩ := row_shape hr
  simp only [mach, mach2, mstd, ↓reduceIte, Nat.reduceEqDiff, Nat.reduceAdd, Nat.reduceMul, r15]
  refine XLo_rule (α := Nat × Value) (fun a => [(0, .slice ua ts.length uc), (4, a.2), (5, iv a.1)])
    (fun a h' => a.1 ≤ ts.length ∧ Keep (fun _ => False) h h' ∧ Ows h' 5 1 a.2 (catT ((ts.map (·.1)).take a.1)).length ((catT ((ts.map (·.1)).take a.1)).map bv) ∧ (∀ q, bk a.2 q → h.length ≤ q) ∧ ((ts.map (·.1)).take a.1).all okT = true) (fun a => ts.length - a.1) (0, .slice none 0 0)
    ⟨Nat.zero_le _, .refl _ _, .nil, fun q e => e.elim, rfl⟩ ⟨rfl, rfl, rfl, trivial⟩ ?_
  rintro ⟨i, v⟩ g1 Ψ2 ⟨hi, kp, ow, fr, hall⟩ next out
  simp only at hi ow fr hall
  have hcl := catT_len ((ts.map (·.1)).take i) (fun t ht => hf t (List.mem_of_mem_take ht))
  have htl : ((ts.map (·.1)).take i).length = i := by simp; omega
  rw [htl] at hcl
  have hbig : i * (4 * M + 31) ≤ 4000000 * 16000031 := Nat.mul_le_mul (by omega) (by omega)
  obtain ⟨va, vc, rfl⟩ := row_shape ow.rds
  by_cases hlt : (i : Int) < (ts.length : Int)
  case neg =>
    have hie : i = ts.length := by omega
    have htk : (ts.map (·.1)).take i = ts.map (·.1) := List.take_of_length_le (by simp; omega)
    rw [htk] at ow hall
    simp only [mach, mach2, mstd, ↓reduceIte, Nat.reduceEqDiff, Nat.reduceAdd, Nat.reduceMul, hlt]
    refine out (.exit 0) _ _ _ _ (by intro e; cases e) ?_
    rw [htk]
    simp only [mach, mach2, mstd, ↓reduceIte, Nat.reduceEqDiff, Nat.reduceAdd, Nat.reduceMul, b2s_tx ow.rds]
    refine hΨ _ _ (fin_ret (rv2 rfl rfl ⟨kp, ?_⟩))
    rw [texS, if_pos hall]; rfl
  have hil : i < ts.length := by omega
  have g0 : (0 : Int) ≤ (i : Int) := by omega
  have hx : ts[i]? = some ts[i] := List.getElem?_eq_getElem hil
  obtain ⟨b1, o1, c1, e1, _, l1⟩ := tg_at (hr.keep kp (fun _ _ e => e)) hx
  cases e1
  have ea : tgC ts[i] = [iv ts[i].1.k, tv ts[i].1.t, iv ts[i].1.n, iv ts[i].2] := rfl
  rw [ea] at l1
  obtain ⟨hn0, hn1, hlM⟩ := hf ts[i].1 (List.mem_map.2 ⟨ts[i], List.getElem_mem _, rfl⟩)
  simp only [mach, mach2, mstd, ↓reduceIte, Nat.reduceEqDiff, Nat.reduceAdd, Nat.reduceMul, hlt, g0, true_and, and_self, if_true, Int.toNat_natCast, l1, mbl, Nat.reduceLeDiff, Nat.reduceLT, Int.reduceEq]
  refine XX_of (one_ok ts[i].1 ts[i].2 hn0 hn1 (by omega) g1) (fun res g2 hle hrs => ?_)
  obtain ⟨m2, s, rfl, hs⟩ := hrs
  refine .ret ?_
  have ow2 := ow.keep m2 (fun _ _ e => e)
  cases hok : okT ts[i].1 with
  | false =>
    simp only [mach, mach2, mstd, ↓reduceIte, Nat.reduceEqDiff, Nat.reduceAdd, Nat.reduceMul]
    refine out .ret _ _ _ _ (by intro e; cases e) ?_
    simp only [mach, mach2, mstd, ↓reduceIte, Nat.reduceEqDiff, Nat.reduceAdd, Nat.reduceMul]
    refine hΨ _ _ (fin_ret (rv2 rfl rfl ⟨kp.trans m2, ?_⟩))
    have hna : (ts.map (·.1)).all okT = false := by
      rw [List.all_eq_false]
      exact ⟨ts[i].1, List.mem_map.2 ⟨ts[i], List.getElem_mem _, rfl⟩, by rw [hok]; decide⟩
    rw [texS, hna]; rfl
  | true =>
    obtain rfl := hs hok
    have hsn : (ts.map (·.1)).take (i + 1) = (ts.map (·.1)).take i ++ [ts[i].1] := by
      rw [List.take_succ_eq_append_getElem (by simp; omega), List.getElem_map]
    have hcat : catT ((ts.map (·.1)).take (i + 1)) = catT ((ts.map (·.1)).take i) ++ sepT i ++ txT ts[i].1 := by rw [hsn, catT_snoc, htl]
    have hall' : ((ts.map (·.1)).take (i + 1)).all okT = true := by rw [hsn, List.all_append, hall]; simp [hok]
    have hwi : IntKind.i64.wrap ((i : Int) + 1) = ((i + 1 : Nat) : Int) := by rw [i64w (by omega) (by omega)]; omega
    have htxl := txT_len (hf ts[i].1 (List.mem_map.2 ⟨ts[i], List.getElem_mem _, rfl⟩))
    by_cases hi0 : i = 0
    · have hsp : sepT i = [] := by rw [hi0]; rfl
      have hz : ¬ (0 : Int) < (i : Int) := by omega
      obtain ⟨s', h', a1, a2, a3, a4⟩ := ow2.app (bytes := 1) (str := true) (x := tv (txT ts[i].1)) (m := (txT ts[i].1).length) (xs := (txT ts[i].1).map bv) (by simp [srcv, tx_size, cells_tx]) (by simp) (by simp [Value.oneCell']) (by omega) (by omega)
      simp only [mach, mach2, mstd, ↓reduceIte, Nat.reduceEqDiff, Nat.reduceAdd, Nat.reduceMul, mbl, Nat.reduceLeDiff, Nat.reduceLT, Int.reduceEq, hz, a1, hwi]
      refine next (i + 1, s') _ _ _ ⟨by simp only; omega, (kp.trans m2).trans' a3 (fun q hq e => by have := fr q e; omega), ?_, fun q hq => ?_, hall'⟩ ⟨rfl, rfl, rfl, trivial⟩ (by simp only; omega)
      · simp only
        rw [hcat, hsp, List.append_nil, List.length_append, List.map_append]; exact a2
      · rcases a4 q hq with e | e
        · exact fr q e
        · have := (kp.trans m2).len; omega
    · have hsp : sepT i = [32] := by rw [sepT, if_pos (by omega)]
      have hz : (0 : Int) < (i : Int) := by omega
      obtain ⟨s1, h1, a1, a2, a3, a4⟩ := app1 (bytes := 1) ow2 (xs := [bv 32]) rfl rfl (by omega) (by omega)
      have b32 : bv 32 = .int .u8 32 := rfl
      rw [b32] at a1
      obtain ⟨sa, sc, rfl⟩ := row_shape a2.rds
      obtain ⟨s', h', d1, d2, d3, d4⟩ := a2.app (bytes := 1) (str := true) (x := tv (txT ts[i].1)) (m := (txT ts[i].1).length) (xs := (txT ts[i].1).map bv) (by simp [srcv, tx_size, cells_tx]) (by simp) (by simp [Value.oneCell']) (by omega) (by omega)
      have fr1 : ∀ q, bk (.slice sa ((catT ((ts.map (·.1)).take i)).length + 1) sc) q → h.length ≤ q := fun q hq => by
        rcases a4 q hq with e | e
        · exact fr q e
        · have := (kp.trans m2).len; omega
      have k3 : Keep (fun _ => False) h h1 := (kp.trans m2).trans' a3 (fun q hq e => by have := fr q e; omega)
      simp only [mach, mach2, mstd, ↓reduceIte, Nat.reduceEqDiff, Nat.reduceAdd, Nat.reduceMul, mbl, Nat.reduceLeDiff, Nat.reduceLT, Int.reduceEq, hz, a1, d1, hwi]
      refine next (i + 1, s') _ _ _ ⟨by simp only; omega, k3.trans' d3 (fun q hq e => by have := fr1 q e; omega), ?_, fun q hq => ?_, hall'⟩ ⟨rfl, rfl, rfl, trivial⟩ (by simp only; omega)
      · simp only
        rw [hcat, hsp, List.length_append, List.map_append, List.length_append, List.map_append]; exact d2
      · rcases d4 q hq with e | e
        · exact fr1 q e
        · have := k3.len; omega
end Go.S07

/- Texts: the law's walk. -/
set_option linter.unusedVariables false
set_option linter.unusedSimpArgs false
namespace Go.S07
open Go Go.Eng Go.Proofs Go.Scn

theorem escV_of (c : Int) : ∃ l k, escV (escS c) = .tuple #[tv l, iv k] := by
  unfold escV
  cases escS c with
  | none => exact ⟨[], _, rfl⟩
  | some l => exact ⟨l, _, rfl⟩

set_option maxHeartbeats 4000000 in
theorem ScanTexts_ok (ts : List Tg) (c : Int) (nm : Bs) (h : AH) (v : Value) (hr : Rds h 4 v ts.length (ts.flatMap tgC)) {M : Nat} (hM' : M ≤ 4000000) (hN : ts.length ≤ 4000000) (hf : ∀ t ∈ ts.map (·.1), fitT M t) (hnm : nm.length ≤ 9000000000000000000) :
    Gets Tryd.prog 6 [v, iv c, tv nm] h (fun res h' => Keep (fun _ => False) h h' ∧ res = .ret (.bool true)) := by
  refine Gets.of (keep := false) hP (draw_ok hM) k6 (by rfl) (fun Ψ hΨ => ?_)
  simp only [mach, mach2, mstd, ↓reduceIte, Nat.reduceEqDiff, Nat.reduceAdd, Nat.reduceMul, r6]
  refine XX_of (wakes_ok h) (fun res h1 hle hrs => ?_)
  obtain ⟨k1, rfl⟩ := hrs
  refine .ret ?_
  simp only [mach, mach2, mstd, ↓reduceIte, Nat.reduceEqDiff, Nat.reduceAdd, Nat.reduceMul, mbl, Nat.reduceLeDiff, Nat.reduceLT, Int.reduceEq]
  refine XX_of (Text_ok ts h1 v (hr.keep k1 (fun _ _ e => e)) hM' hN hf) (fun res h2 hle hrs => ?_)
  obtain ⟨k2, rfl⟩ := hrs
  refine .ret ?_
  simp only [mach, mach2, mstd, ↓reduceIte, Nat.reduceEqDiff, Nat.reduceAdd, Nat.reduceMul, mbl, Nat.reduceLeDiff, Nat.reduceLT, Int.reduceEq]
  refine XX_of (rText_ok ts h2 v ((hr.keep k1 (fun _ _ e => e)).keep k2 (fun _ _ e => e)) hM' hN hf) (fun res h3 hle hrs => ?_)
  obtain ⟨k3, rfl⟩ := hrs
  refine .ret ?_
  simp only [mach, mach2, mstd, ↓reduceIte, Nat.reduceEqDiff, Nat.reduceAdd, Nat.reduceMul, mbl, Nat.reduceLeDiff, Nat.reduceLT, Int.reduceEq]
  obtain ⟨el, ek, he⟩ := escV_of c
  refine XX_of (Escape_ok c h3) (fun res h4 hle hrs => ?_)
  obtain ⟨k4, rfl⟩ := hrs
  refine .ret ?_
  rw [he]
  simp only [mach, mach2, mstd, ↓reduceIte, Nat.reduceEqDiff, Nat.reduceAdd, Nat.reduceMul, mbl, Nat.reduceLeDiff, Nat.reduceLT, Int.reduceEq]
  refine XX_of (rEscape_ok c h4) (fun res h5 hle hrs => ?_)
  obtain ⟨k5, rfl⟩ := hrs
  refine .ret ?_
  rw [he]
  simp only [mach, mach2, mstd, ↓reduceIte, Nat.reduceEqDiff, Nat.reduceAdd, Nat.reduceMul, mbl, Nat.reduceLeDiff, Nat.reduceLT, Int.reduceEq, mk_toList, beq_self_eq_true]
  refine XX_of (name_ok nm (by omega) h5) (fun res h6 hle hrs => ?_)
  obtain ⟨rfl, rfl⟩ := hrs
  refine .ret ?_
  simp only [mach, mach2, mstd, ↓reduceIte, Nat.reduceEqDiff, Nat.reduceAdd, Nat.reduceMul]
  refine XX_of (rname_ok nm (by omega) h6) (fun res h7 hle hrs => ?_)
  obtain ⟨rfl, rfl⟩ := hrs
  refine .ret ?_
  simp only [mach, mach2, mstd, ↓reduceIte, Nat.reduceEqDiff, Nat.reduceAdd, Nat.reduceMul, mbl, Nat.reduceLeDiff, Nat.reduceLT, Int.reduceEq]
  exact hΨ _ _ (fin_ret (rv1 rfl ⟨(((k1.trans k2).trans k3).trans k4).trans k5, rfl⟩))
end Go.S07

/- Tokens that are given. -/
set_option linter.unusedVariables false
set_option linter.unusedSimpArgs false
namespace Go.S07
open Go Go.Eng Go.Proofs Go.Scn

noncomputable def fsTok : Array Field := match Tryd.prog.underlying 30 with
  | some (.struct fs) => fs
  | _ => #[]
theorem u_tok : Tryd.prog.underlying 30 = some (.struct fsTok) := by kernel_rfl
theorem f_tok : (fsTok.map fun f => (f.type, f.offset)).toList = [(3, 0), (9, 1), (3, 2), (3, 3)] := by kernel_rfl
theorem u_toks : Tryd.prog.underlying 23 = some (.slice 30) := by kernel_rfl
theorem u_strT : Tryd.prog.underlying 9 = some .string := by kernel_rfl
theorem u_intT : Tryd.prog.underlying 3 = some (.int .i64) := by kernel_rfl
theorem c_tok : Tryd.prog.cellsOf 30 = 4 := by kernel_rfl
theorem c_intT : Tryd.prog.cellsOf 3 = 1 := by kernel_rfl
theorem c_strT : Tryd.prog.cellsOf 9 = 1 := by kernel_rfl
theorem len4' {cs : List Value} (h : cs.length = 4) : ∃ a b c e, cs = [a, b, c, e] := by
  obtain ⟨a, r, rfl⟩ := List.exists_cons_of_length_eq_add_one h
  obtain ⟨b, r, rfl⟩ := List.exists_cons_of_length_eq_add_one (Nat.succ.inj h)
  obtain ⟨c, r, rfl⟩ := List.exists_cons_of_length_eq_add_one (Nat.succ.inj (Nat.succ.inj h))
  obtain ⟨e, r, rfl⟩ := List.exists_cons_of_length_eq_add_one (Nat.succ.inj (Nat.succ.inj (Nat.succ.inj h)))
  obtain rfl := List.eq_nil_of_length_eq_zero (Nat.succ.inj (Nat.succ.inj (Nat.succ.inj (Nat.succ.inj h))))
  exact ⟨_, _, _, _, rfl⟩
section
variable {H : Type} {h : AH} {N : Nat}
theorem tok_of (B : Bulk H) {cs : List Value} {d : DataW H} (hr : Rd' Tryd.prog h 30 cs d) (hB : B.f d ≤ N) : ∃ x : Tg, cs = tgC x ∧ fitT N x.1 := by
  obtain ⟨hl, hf⟩ := rdT B u_tok f_tok hr
  rw [c_tok] at hl
  obtain ⟨a, b, c, e, rfl⟩ := len4' hl
  obtain ⟨d0, r0, b0⟩ := hf 0 _ _ rfl
  obtain ⟨d1, r1, b1⟩ := hf 1 _ _ rfl
  obtain ⟨d2, r2, b2⟩ := hf 2 _ _ rfl
  obtain ⟨d3, r3, b3⟩ := hf 3 _ _ rfl
  rw [c_intT] at r0 r2 r3
  rw [c_strT] at r1
  obtain ⟨n0, e0, g0⟩ := rdI u_intT r0
  obtain ⟨s, e1, g1⟩ := rdS B u_strT r1
  obtain ⟨n2, e2, g2⟩ := rdI u_intT r2
  obtain ⟨n3, e3, g3⟩ := rdI u_intT r3
  simp at e0 e1 e2 e3
  subst e0; subst e1; subst e2; subst e3
  have hsz : s.data.toList.length = s.size := Array.length_toList
  have e2 : Value.string s = tv s.data.toList := by rw [tv, ← tx_of]
  exact ⟨(⟨n0, s.data.toList, n2, 0⟩, n3), by rw [e2]; rfl, g2.1, g2.2, by show s.data.toList.length ≤ N; omega⟩
theorem toks_of (B : Bulk H) {v : Value} {d : DataW H} (hr : Rd' Tryd.prog h 23 [v] d) (hB : B.f d ≤ N) : ∃ ts : List Tg, Rds h 4 v ts.length (ts.flatMap tgC) ∧ (∀ t ∈ ts.map (·.1), fitT N t) ∧ ts.length ≤ N := by
  obtain ⟨ts, h1, h2, h3⟩ := rdRow B (f := tgC) (Q := fun x => fitT N x.1) u_toks tgC_len (fun cs d' r hb => tok_of B r hb) hr hB
  refine ⟨ts, h1, fun t ht => ?_, h3⟩
  obtain ⟨x, hx, rfl⟩ := List.mem_map.1 ht
  exact h2 x hx
end
end Go.S07

/- Tokens: package variables that are laid. -/
set_option linter.unusedVariables false
set_option linter.unusedSimpArgs false
namespace Go.S07
open Go Go.Eng Go.Proofs Go.Proofs.YtobbonpebopafaaDoor

theorem iface_one {P : Program} {W : World} {fuel : Nat} {t : TypeId} {ms : Array (String × TypeId)} {cs : List Value} {n : String} {d : DataW Unit} {q : List MemPlace} {sp : Nat → Bool} (hu : P.underlying t = some (.interface ms))
    (h : DataW.trod (fun _ => ()) P W 0 sp false fuel t cs = some (.iface n d, q)) : ∃ u v, cs = [.iface u v] := by
  cases fuel with
  | zero => simp [DataW.trod] at h
  | succ m =>
    unfold DataW.trod at h
    rw [hu] at h
    split at h <;> simp_all
theorem var_heap {P : Program} {W : World} {n : String} {g : Nat} {cs : Array Value} (hg : P.globalNamed n = some g) (h : W.var? P n = some cs) : ∃ e fr, W.heap[g]? = some (.cells cs e fr) := by
  simp only [World.var?, hg, Option.bind_some] at h
  split at h
  · cases h; exact ⟨_, _, by assumption⟩
  · cases h

def laidL : List (String × DataW Unit) := [("math/bits.deBruijn32tab", Rows.laid_math_bits_deBruijn32tab), ("math/bits.deBruijn64tab", Rows.laid_math_bits_deBruijn64tab), ("internal/strconv.uint64pow10", Rows.laid_internal_strconv_uint64pow10), ("strconv.ErrRange", Rows.laid_strconv_ErrRange), ("strconv.ErrSyntax", Rows.laid_strconv_ErrSyntax)]

theorem gPow : Tryd.prog.globalNamed "internal/strconv.uint64pow10" = some 3 := by kernel_rfl
theorem gRng : Tryd.prog.globalNamed "strconv.ErrRange" = some 1 := by kernel_rfl
theorem gSyn : Tryd.prog.globalNamed "strconv.ErrSyntax" = some 0 := by kernel_rfl
theorem tPow : (Tryd.prog.globals[3]?).map (·.type) = some 102 := by kernel_rfl
theorem tRng : (Tryd.prog.globals[1]?).map (·.type) = some 53 := by kernel_rfl
theorem tSyn : (Tryd.prog.globals[0]?).map (·.type) = some 53 := by kernel_rfl
theorem uPow : Tryd.prog.underlying 102 = some (.array 20 79) := by kernel_rfl
theorem uErr : Tryd.prog.underlying 53 = some (.interface #[("Error", 57)]) := by kernel_rfl
theorem uU64 : Tryd.prog.underlying 79 = some (.int .u64) := by kernel_rfl
theorem cPow : Tryd.prog.cellsOf 102 = 20 := by kernel_rfl
theorem cU64 : Tryd.prog.cellsOf 79 = 1 := by kernel_rfl
theorem gsz : Tryd.prog.globals.size = 6 := by kernel_rfl
theorem tab0 : Tab Tryd.prog 0 = some [.complex .f64 0 0] := by kernel_rfl
theorem tab1 : Tab Tryd.prog 1 = some [.complex .f64 0 0] := by kernel_rfl
theorem tab2 : Tab Tryd.prog 2 = none := by kernel_rfl
theorem tab3 : Tab Tryd.prog 3 = some ((List.range 20).map fun i => Value.int .u64 (10 ^ i)) := by kernel_rfl
theorem tab4 : Tab Tryd.prog 4 = none := by kernel_rfl
theorem tab5 : Tab Tryd.prog 5 = none := by kernel_rfl
theorem powD : (Rows.laid_internal_strconv_uint64pow10 : DataW Unit) = .agg ((List.range 20).map fun i => .lit (.int .u64 (10 ^ i))) := by rfl

set_option maxRecDepth 100000 in
theorem tab_of_laid {W : World} (h : laidMetH Tryd.prog laidL W) : TabOk Tryd.prog W.heap := by
  rw [MakeChecks.laidMetH_plain _ _ _ (by kernel_rfl)] at h
  obtain ⟨ps, ⟨_, _, _, _, _, _, _, _, _, _, ⟨_, _, _, _, _, _, _, _, _, _, ⟨g3, t3, cs3, f3, p3, q3, hg3, ht3, hv3, hd3, ⟨g1, t1, cs1, f1, p1, q1, hg1, ht1, hv1, hd1, ⟨g0, t0, cs0, f0, p0, q0, hg0, ht0, hv0, hd0, _, _⟩, _⟩, _⟩, _⟩, _⟩, _, _⟩ := h
  obtain rfl := Option.some.inj (gPow.symm.trans hg3)
  obtain rfl := Option.some.inj (gRng.symm.trans hg1)
  obtain rfl := Option.some.inj (gSyn.symm.trans hg0)
  obtain rfl := Option.some.inj (tPow.symm.trans ht3)
  obtain rfl := Option.some.inj (tRng.symm.trans ht1)
  obtain rfl := Option.some.inj (tSyn.symm.trans ht0)
  obtain ⟨e3, fr3, hh3⟩ := var_heap hg3 hv3
  obtain ⟨e1, fr1, hh1⟩ := var_heap hg1 hv1
  obtain ⟨e0, fr0, hh0⟩ := var_heap hg0 hv0
  obtain ⟨u1, v1, hc1⟩ := iface_one uErr hd1
  obtain ⟨u0, v0, hc0⟩ := iface_one uErr hd0
  intro g cs hg
  match g, hg with
  | 0, hg =>
    rw [tab0] at hg; cases hg
    refine ⟨cs0, e0, fr0, hh0, ?_⟩
    rw [hc0]
    exact .cons (.unk _ _ _ rfl) (.nil _)
  | 1, hg =>
    rw [tab1] at hg; cases hg
    refine ⟨cs1, e1, fr1, hh1, ?_⟩
    rw [hc1]
    exact .cons (.unk _ _ _ rfl) (.nil _)
  | 2, hg => rw [tab2] at hg; cases hg
  | 3, hg =>
    rw [tab3] at hg; cases hg
    refine ⟨cs3, e3, fr3, hh3, ?_⟩
    obtain ⟨xs, m, rfl, hx, hlen, hn, hel⟩ := DataW.trod_array uPow hd3
    rw [cPow] at hlen
    rw [powD] at hx
    simp only [Prod.mk.injEq, DataW.agg.injEq] at hx
    have hkey : ∀ i, i < 20 → cs3.toList[i]? = some (.int .u64 (10 ^ i)) := by
      intro i hi
      have h1 := hel i hi
      rw [cU64, Nat.mul_one, List.getElem?_eq_getElem (by omega)] at h1
      obtain ⟨n, k1, k2, _⟩ := DataW.trod_int uU64 h1
      have h2 := congrArg (fun l => l[i]?) hx.1
      simp only [List.getElem?_map] at h2
      rw [List.getElem?_range hi, List.getElem?_eq_getElem (by omega), Option.map_some, Option.map_some, k2] at h2
      have h3 : n = 10 ^ i := by
        have := Option.some.inj h2
        simp only [DataW.lit.injEq, Lit.int.injEq, true_and] at this
        exact this.symm
      have h4 := congrArg (fun l => l[0]?) k1
      simp only [List.getElem?_take, Nat.zero_lt_one, if_true, List.getElem?_drop, Nat.add_zero] at h4
      rw [h4, h3]; rfl
    refine ⟨by simp [hlen], fun i u v hu hv => ?_⟩
    have hi : i < 20 := by have := (List.getElem?_eq_some_iff.1 hu).1; simpa using this
    rw [hkey i hi] at hv
    cases hv
    rw [List.getElem?_map, List.getElem?_range hi] at hu
    cases hu
    exact .int _ _
  | 4, hg => rw [tab4] at hg; cases hg
  | 5, hg => rw [tab5] at hg; cases hg
  | g + 6, hg =>
    unfold Tab at hg
    rw [Array.getElem?_eq_none (by rw [gsz]; omega)] at hg
    cases hg

/-- The door's own heap meets the condition. -/
theorem door_met (os : Os) (args : Array Value) : laidMetH Tryd.prog laidL ((World.doorLaid Tryd.prog 400 os).forCall (fun _ _ => 0) ⟨#[], args, []⟩).memory :=
  laidMetH_of_parts3 (fuel := 8) (laidMet_of_run' 8 (by kernel_rfl) (by kernel_rfl)) (by kernel_rfl) (by kernel_rfl)
end Go.S07
