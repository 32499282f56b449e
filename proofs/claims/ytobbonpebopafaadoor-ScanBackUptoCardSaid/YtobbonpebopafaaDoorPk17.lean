import Derived.Test.YtobbonpebopafaaDoorPk16
/- Tokens: comments in braces, what is skipped, names. -/
set_option linter.unusedVariables false
set_option linter.unusedSimpArgs false
namespace Go.S07
open Go Go.Eng Go.Proofs Go.Scn

section
variable {h : AH} {b : Nat} {s : Bs} {p : Nat} {lv : Value}

set_option maxHeartbeats 1000000 in
theorem nested_ok (x : Scn h b s p lv) : Gets Tryd.prog 43 [.pointer (some ⟨b, 0, none⟩)] h (ScnO h b s lv (match nestN (s.drop p) with | some n => .ok (p + n) | none => .error p)) := by
  refine Gets.of (keep := false) hP (draw_ok hM) k43 (by rfl) (fun Ψ hΨ => ?_)
  have hle := x.le
  have hsl := x.sl
  simp only [mach, mach2, mstd, ↓reduceIte, Nat.reduceEqDiff, Nat.reduceAdd, Nat.reduceMul, r43]
  refine XX_val (rest_ok x) ?_
  simp only [mach, mach2, mstd, ↓reduceIte, Nat.reduceEqDiff, Nat.reduceAdd, Nat.reduceMul]
  refine XX_val (hasPrefix_ok (s.drop p) [123, 45] h) ?_
  cases hpre : ((s.drop p).take 2 == [123, 45]) with
  | false =>
    simp only [mach, mach2, mstd, ↓reduceIte, Nat.reduceEqDiff, Nat.reduceAdd, Nat.reduceMul, show ([123, 45] : Bs).length = 2 from rfl, hpre]
    refine hΨ _ _ (fin_ret ⟨.refl _ _, ?_⟩)
    rw [nestN_no (by simpa using hpre)]
    exact ⟨rfl, x⟩
  | true =>
  simp only [mach, mach2, mstd, ↓reduceIte, Nat.reduceEqDiff, Nat.reduceAdd, Nat.reduceMul, show ([123, 45] : Bs).length = 2 from rfl, hpre, x.own.cells.ld, mbl, Nat.reduceLeDiff, Nat.reduceLT, Int.reduceEq]
  refine XLo_rule (α := Nat × Nat) (fun a => [(0, .pointer (some ⟨b, 0, none⟩)), (2, iv p), (3, iv a.2)])
    (fun a h' => Keep (· = b) h h' ∧ Scn h' b s a.1 lv ∧ p ≤ a.1 ∧ a.2 ≤ a.1 ∧ (a.2 = 0 → a.1 = p) ∧ nestN (s.drop p) = (nz a.2 (s.drop a.1)).map (· + (a.1 - p))) (fun a => s.length - a.1) (p, 0)
    ⟨.refl _ _, x, Nat.le_refl _, Nat.zero_le _, fun _ => rfl, by simp [nz]⟩ ⟨rfl, rfl, rfl, trivial⟩ ?_
  rintro ⟨q, d⟩ h1 Ψ2 ⟨kp, x1, hpq, hd, hd0, hn⟩ next out
  simp only at x1 hpq hd hd0 hn
  have hq := x1.le
  simp only [mach, mach2, mstd, ↓reduceIte, Nat.reduceEqDiff, Nat.reduceAdd, Nat.reduceMul]
  refine XX_val (rest_ok x1) ?_
  simp only [mach, mach2, mstd, ↓reduceIte, Nat.reduceEqDiff, Nat.reduceAdd, Nat.reduceMul]
  refine XX_val (hasPrefix_ok (s.drop q) [123, 45] h1) ?_
  cases ho : ((s.drop q).take 2 == [123, 45]) with
  | true =>
    have e1 := tk2 (by simpa using ho : (s.drop q).take 2 = [123, 45])
    rw [List.drop_drop] at e1
    have hlen : q + 2 ≤ s.length := by have := congrArg List.length e1; simp at this; omega
    have hw : IntKind.i64.wrap ((d : Int) + 1) = ((d + 1 : Nat) : Int) := by rw [i64w (by omega) (by omega)]; omega
    have hw2 : IntKind.i64.wrap ((q : Int) + 2) = ((q + 2 : Nat) : Int) := by rw [i64w (by omega) (by omega)]; omega
    simp only [mach, mach2, mstd, ↓reduceIte, Nat.reduceEqDiff, Nat.reduceAdd, Nat.reduceMul, show ([123, 45] : Bs).length = 2 from rfl, ho, hw, x1.own.cells.ld, mbl, Nat.reduceLeDiff, Nat.reduceLT, Int.reduceEq, hw2]
    refine XH_own x1.own rfl (by simp [Value.cells]) rfl (fun h' q1 q2 q3 => ?_)
    have o' : Own h' b 41 [tv s, iv ((q + 2 : Nat) : Int), lv] := by simpa [Value.cells] using q1
    simp only [mach, mach2, mstd, ↓reduceIte, Nat.reduceEqDiff, Nat.reduceAdd, Nat.reduceMul]
    refine next (q + 2, d + 1) _ _ _ ⟨kp.trans' q2 (fun c hc e => e), ⟨o', hlen, hsl⟩, by simp only; omega, by simp only; omega, fun e => by simp at e, ?_⟩ ⟨rfl, rfl, rfl, trivial⟩ (by simp only; omega)
    rw [hn, e1, nz_open]
    simp only [nz, Nat.add_eq_zero_iff, Nat.one_ne_zero, and_false, if_false, Option.map_map]
    congr 1
    funext m; simp only [Function.comp]; omega
  | false =>
  have hd1 : 1 ≤ d := by
    rcases Nat.eq_zero_or_pos d with e | e
    · have := hd0 e; subst this; rw [hpre] at ho; cases ho
    · exact e
  have hz : nz d (s.drop q) = nst d (s.drop q) := by unfold nz; rw [if_neg (by omega)]
  rw [hz] at hn
  simp only [mach, mach2, mstd, ↓reduceIte, Nat.reduceEqDiff, Nat.reduceAdd, Nat.reduceMul, show ([123, 45] : Bs).length = 2 from rfl, ho]
  refine XX_val (rest_ok x1) ?_
  simp only [mach, mach2, mstd, ↓reduceIte, Nat.reduceEqDiff, Nat.reduceAdd, Nat.reduceMul]
  refine XX_val (hasPrefix_ok (s.drop q) [45, 125] h1) ?_
  cases hc : ((s.drop q).take 2 == [45, 125]) with
  | true =>
    have e1 := tk2 (by simpa using hc : (s.drop q).take 2 = [45, 125])
    rw [List.drop_drop] at e1
    have hlen : q + 2 ≤ s.length := by have := congrArg List.length e1; simp at this; omega
    have hw : IntKind.i64.wrap ((d : Int) - 1) = ((d - 1 : Nat) : Int) := by rw [i64w (by omega) (by omega)]; omega
    have hw2 : IntKind.i64.wrap ((q : Int) + 2) = ((q + 2 : Nat) : Int) := by rw [i64w (by omega) (by omega)]; omega
    simp only [mach, mach2, mstd, ↓reduceIte, Nat.reduceEqDiff, Nat.reduceAdd, Nat.reduceMul, show ([45, 125] : Bs).length = 2 from rfl, hc, hw, x1.own.cells.ld, mbl, Nat.reduceLeDiff, Nat.reduceLT, Int.reduceEq, hw2]
    refine XH_own x1.own rfl (by simp [Value.cells]) rfl (fun h' q1 q2 q3 => ?_)
    have o' : Own h' b 41 [tv s, iv ((q + 2 : Nat) : Int), lv] := by simpa [Value.cells] using q1
    have kp' := kp.trans' q2 (fun c hc e => e)
    by_cases hd2 : ((d - 1 : Nat) : Int) = 0
    · simp only [mach, mach2, mstd, ↓reduceIte, Nat.reduceEqDiff, Nat.reduceAdd, Nat.reduceMul, eq_true hd2]
      refine out .ret _ _ _ _ (by intro e; cases e) ?_
      simp only [mach, mach2, mstd, ↓reduceIte, Nat.reduceEqDiff, Nat.reduceAdd, Nat.reduceMul]
      refine hΨ _ _ (fin_ret ⟨kp', ?_⟩)
      rw [hn, e1]
      simp only [nst, show d ≤ 1 by omega, if_true, Option.map_some]
      exact ⟨rfl, by rw [show p + (2 + (q - p)) = q + 2 by omega]; exact ⟨o', hlen, hsl⟩⟩
    · simp only [mach, mach2, mstd, ↓reduceIte, Nat.reduceEqDiff, Nat.reduceAdd, Nat.reduceMul, hd2]
      refine next (q + 2, d - 1) _ _ _ ⟨kp', ⟨o', hlen, hsl⟩, by simp only; omega, by simp only; omega, fun e => by simp only at e; omega, ?_⟩ ⟨rfl, rfl, rfl, trivial⟩ (by simp only; omega)
      rw [hn, e1]
      simp only [nst, show ¬ d ≤ 1 by omega, nz, show ¬ d - 1 = 0 by omega, if_false, Option.map_map]
      congr 1
      funext m; simp only [Function.comp]; omega
  | false =>
  by_cases he : (q : Int) = (s.length : Int)
  · simp only [mach, mach2, mstd, ↓reduceIte, Nat.reduceEqDiff, Nat.reduceAdd, Nat.reduceMul, show ([45, 125] : Bs).length = 2 from rfl, hc, x1.own.cells.ld, mbl, Nat.reduceLeDiff, Nat.reduceLT, Int.reduceEq, tx_size, eq_true he]
    refine out (.pan _) _ _ _ _ (by intro e; cases e) ?_
    simp only [mach, mach2, mstd, ↓reduceIte, Nat.reduceEqDiff, Nat.reduceAdd, Nat.reduceMul]
    refine hΨ _ _ (fin_pan ⟨kp, ?_⟩)
    rw [hn, List.drop_eq_nil_of_le (show s.length ≤ q by omega)]
    rfl
  · have hw : IntKind.i64.wrap ((q : Int) + 1) = ((q + 1 : Nat) : Int) := by rw [i64w (by omega) (by omega)]; omega
    simp only [mach, mach2, mstd, ↓reduceIte, Nat.reduceEqDiff, Nat.reduceAdd, Nat.reduceMul, show ([45, 125] : Bs).length = 2 from rfl, hc, x1.own.cells.ld, mbl, Nat.reduceLeDiff, Nat.reduceLT, Int.reduceEq, tx_size, he, hw]
    refine XH_own x1.own rfl (by simp [Value.cells]) rfl (fun h' q1 q2 q3 => ?_)
    have o' : Own h' b 41 [tv s, iv ((q + 1 : Nat) : Int), lv] := by simpa [Value.cells] using q1
    simp only [mach, mach2, mstd, ↓reduceIte, Nat.reduceEqDiff, Nat.reduceAdd, Nat.reduceMul]
    refine next (q + 1, d) _ _ _ ⟨kp.trans' q2 (fun c hc e => e), ⟨o', by simp only; omega, hsl⟩, by simp only; omega, by simp only; omega, fun e => by simp only at e; omega, ?_⟩ ⟨rfl, rfl, rfl, trivial⟩ (by simp only; omega)
    have hlt : q < s.length := by omega
    rw [hn, List.drop_eq_getElem_cons hlt, nst_step (by rw [← List.drop_eq_getElem_cons hlt]; simpa using ho) (by rw [← List.drop_eq_getElem_cons hlt]; simpa using hc)]
    simp only [nz, show ¬ d = 0 by omega, if_false, Option.map_map]
    congr 1
    funext m; simp only [Function.comp]; omega

/-- Where what is left begins. -/
def plc (s : Bs) : Except Bs Bs → Except Nat Nat
  | .ok r => .ok (s.length - r.length)
  | .error r => .error (s.length - r.length)

set_option maxHeartbeats 1000000 in
theorem skip_ok (x : Scn h b s p lv) : Gets Tryd.prog 21 [.pointer (some ⟨b, 0, none⟩)] h (ScnO h b s lv (plc s (skp (s.drop p)))) := by
  refine Gets.of (keep := false) hP (draw_ok hM) k21 (by rfl) (fun Ψ hΨ => ?_)
  have hsl := x.sl
  simp only [mach, mach2, mstd, ↓reduceIte, Nat.reduceEqDiff, Nat.reduceAdd, Nat.reduceMul, r21]
  refine XLo_rule (α := Nat) (fun a => [(0, .pointer (some ⟨b, 0, none⟩))])
    (fun a h' => Keep (· = b) h h' ∧ Scn h' b s a lv ∧ skp (s.drop a) = skp (s.drop p)) (fun a => s.length - a) p
    ⟨.refl _ _, x, rfl⟩ ⟨rfl, trivial⟩ ?_
  rintro q h1 Ψ2 ⟨kp, x1, hs⟩ next out
  have hq := x1.le
  have hdl : (s.drop q).length = s.length - q := by simp
  have hn := spn_le wsp (s.drop q)
  simp only [mach, mach2, mstd, ↓reduceIte, Nat.reduceEqDiff, Nat.reduceAdd, Nat.reduceMul, x1.own.cells.ld, mbl, Nat.reduceLeDiff, Nat.reduceLT, Int.reduceEq]
  refine XX_val (rest_ok x1) ?_
  simp only [mach, mach2, mstd, ↓reduceIte, Nat.reduceEqDiff, Nat.reduceAdd, Nat.reduceMul, x1.own.cells.ld, mbl, Nat.reduceLeDiff, Nat.reduceLT, Int.reduceEq, ct1]
  refine XX_val (span_ok isBlank_ok (s.drop q) (by omega) h1) ?_
  have hw : IntKind.i64.wrap ((q : Int) + (spn wsp (s.drop q) : Int)) = ((q + spn wsp (s.drop q) : Nat) : Int) := by rw [i64w (by omega) (by omega)]; omega
  simp only [mach, mach2, mstd, ↓reduceIte, Nat.reduceEqDiff, Nat.reduceAdd, Nat.reduceMul, x1.own.cells.ld, mbl, Nat.reduceLeDiff, Nat.reduceLT, Int.reduceEq, ct1, hw]
  refine XH_own x1.own rfl (by simp [Value.cells]) rfl (fun h2 q1 q2 q3 => ?_)
  have x2 : Scn h2 b s (q + spn wsp (s.drop q)) lv := ⟨by simpa [Value.cells] using q1, by omega, hsl⟩
  have kp2 := kp.trans' q2 (fun c hc e => e)
  generalize hq2 : q + spn wsp (s.drop q) = a at x2
  have hs2 : skp (s.drop a) = skp (s.drop p) := by rw [← hs, ← skp_blank (s.drop q), List.drop_drop, hq2]
  simp only [mach, mach2, mstd, ↓reduceIte, Nat.reduceEqDiff, Nat.reduceAdd, Nat.reduceMul]
  refine XX_of (line_ok x2) (fun res h3 hle hr => ?_)
  obtain ⟨k3, rfl, x3⟩ := hr
  refine .ret ?_
  have kp3 := kp2.trans' k3 (fun c hc e => e)
  generalize ha2 : a + lineN (s.drop a) = c at x3
  have hs3 : skp (s.drop c) = skp (s.drop p) := by rw [← hs2, ← skp_line (s.drop a), List.drop_drop, ha2]
  simp only [mach, mach2, mstd, ↓reduceIte, Nat.reduceEqDiff, Nat.reduceAdd, Nat.reduceMul]
  refine XX_of (nested_ok x3) (fun res h4 hle hr => ?_)
  obtain ⟨k4, hr⟩ := hr
  have kp4 := kp3.trans' k4 (fun c hc e => e)
  cases hm : nestN (s.drop c) with
  | none =>
    rw [hm] at hr
    cases hr
    refine .pan ?_
    simp only [mach, mach2, mstd, ↓reduceIte, Nat.reduceEqDiff, Nat.reduceAdd, Nat.reduceMul]
    refine out (.pan _) _ _ _ _ (by intro e; cases e) ?_
    simp only [mach, mach2, mstd, ↓reduceIte, Nat.reduceEqDiff, Nat.reduceAdd, Nat.reduceMul]
    refine hΨ _ _ (fin_pan ⟨kp4, ?_⟩)
    have hc := x3.le
    rw [← hs3, skp_fault hm]
    simp only [plc, List.length_drop]
    rw [show s.length - (s.length - c) = c by omega]
  | some n =>
    rw [hm] at hr
    obtain ⟨rfl, x4⟩ := hr
    refine .ret ?_
    have hc := x3.le
    have hd := x4.le
    have hs4 : skp (s.drop (c + n)) = skp (s.drop p) := by rw [← hs3, ← skp_nest hm, List.drop_drop]
    by_cases he : ((c + n : Nat) : Int) = (q : Int)
    · simp only [mach, mach2, mstd, ↓reduceIte, Nat.reduceEqDiff, Nat.reduceAdd, Nat.reduceMul, x4.own.cells.ld, mbl, Nat.reduceLeDiff, Nat.reduceLT, Int.reduceEq, eq_true he]
      refine out .ret _ _ _ _ (by intro e; cases e) ?_
      simp only [mach, mach2, mstd, ↓reduceIte, Nat.reduceEqDiff, Nat.reduceAdd, Nat.reduceMul]
      refine hΨ _ _ (fin_ret ⟨kp4, ?_⟩)
      have e1 : spn wsp (s.drop q) = 0 := by omega
      have e2 : a = q := by omega
      subst e2
      have e3 : lineN (s.drop a) = 0 := by omega
      have e4 : c = a := by omega
      subst e4
      have e5 : n = 0 := by omega
      subst e5
      rw [← hs, skp_rest e1 e3 hm]
      simp only [plc, List.length_drop]
      rw [show s.length - (s.length - c) = c by omega]
      exact ⟨rfl, by simpa using x4⟩
    · simp only [mach, mach2, mstd, ↓reduceIte, Nat.reduceEqDiff, Nat.reduceAdd, Nat.reduceMul, x4.own.cells.ld, mbl, Nat.reduceLeDiff, Nat.reduceLT, Int.reduceEq, he]
      exact next (c + n) _ _ _ ⟨kp4, x4, hs4⟩ ⟨rfl, trivial⟩ (by omega)

end

set_option maxHeartbeats 1000000 in
theorem name_ok (l : Bs) (hl : l.length ≤ 9223372036854775807) (h : AH) : Gets Tryd.prog 18 [tv l] h (fun res h' => h' = h ∧ res = .ret (iv (nameK l))) := by
  refine Gets.of (keep := false) hP (draw_ok hM) k18 (by rfl) (fun Ψ hΨ => ?_)
  cases l with
  | nil =>
    simp only [mach, mach2, mstd, ↓reduceIte, Nat.reduceEqDiff, Nat.reduceAdd, Nat.reduceMul, r18, tx_toList, mk_toList, beq_self_eq_true]
    exact hΨ _ _ (fin_ret (rv1 rfl ⟨rfl, rfl⟩))
  | cons c r =>
  have hne : ((c :: r) == ([] : Bs)) = false := rfl
  have hc : (c :: r)[0]? = some c := rfl
  have zero : ∀ {k : Int}, (32 < (c :: r).length ∨ digit c = true ∨ c.toNat = 39 ∨ spn inner (c :: r) < (c :: r).length) → k = 0 → k = nameK (c :: r) := by
    intro k hk e
    rw [nameK_zero hk, e]
  by_cases h1 : (32 : Int) < ((c :: r).length : Int)
  · simp only [mach, mach2, mstd, ↓reduceIte, Nat.reduceEqDiff, Nat.reduceAdd, Nat.reduceMul, r18, tx_toList, mk_toList, hne, tx_size, h1]
    exact hΨ _ _ (fin_ret (rv1 rfl ⟨rfl, congrArg (fun k => Res.ret (iv k)) (zero (.inl (by omega)) rfl)⟩))
  simp only [mach, mach2, mstd, ↓reduceIte, Nat.reduceEqDiff, Nat.reduceAdd, Nat.reduceMul, r18, tx_toList, mk_toList, hne, tx_size, h1, tx_get, hc, Int.toNat_zero, Int.le_refl]
  refine XX_val (isDigit_ok c h) ?_
  cases h2 : digit c with
  | true =>
    simp only [mach, mach2, mstd, ↓reduceIte, Nat.reduceEqDiff, Nat.reduceAdd, Nat.reduceMul]
    exact hΨ _ _ (fin_ret (rv1 rfl ⟨rfl, congrArg (fun k => Res.ret (iv k)) (zero (.inr (.inl h2)) rfl)⟩))
  | false =>
  by_cases h3 : (c.toNat : Int) = 39
  · simp only [mach, mach2, mstd, ↓reduceIte, Nat.reduceEqDiff, Nat.reduceAdd, Nat.reduceMul, tx_get, hc, Int.toNat_zero, Int.le_refl, eq_true h3]
    exact hΨ _ _ (fin_ret (rv1 rfl ⟨rfl, congrArg (fun k => Res.ret (iv k)) (zero (.inr (.inr (.inl (by omega)))) rfl)⟩))
  simp only [mach, mach2, mstd, ↓reduceIte, Nat.reduceEqDiff, Nat.reduceAdd, Nat.reduceMul, tx_get, hc, Int.toNat_zero, Int.le_refl, h3]
  refine XX_val (span_ok isInner_ok (c :: r) hl h) ?_
  by_cases h4 : (spn inner (c :: r) : Int) < ((c :: r).length : Int)
  · simp only [mach, mach2, mstd, ↓reduceIte, Nat.reduceEqDiff, Nat.reduceAdd, Nat.reduceMul, tx_size, h4]
    exact hΨ _ _ (fin_ret (rv1 rfl ⟨rfl, congrArg (fun k => Res.ret (iv k)) (zero (.inr (.inr (.inr (by omega)))) rfl)⟩))
  simp only [mach, mach2, mstd, ↓reduceIte, Nat.reduceEqDiff, Nat.reduceAdd, Nat.reduceMul, tx_size, h4, tx_get, hc, Int.toNat_zero, Int.le_refl]
  have hz : ¬ (32 < (c :: r).length ∨ digit c = true ∨ c.toNat = 39 ∨ spn inner (c :: r) < (c :: r).length) := by
    rw [h2]; simp only [Bool.false_eq_true, false_or]; omega
  refine XX_val (isLarge_ok c h) ?_
  cases h5 : large c with
  | true =>
    simp only [mach, mach2, mstd, ↓reduceIte, Nat.reduceEqDiff, Nat.reduceAdd, Nat.reduceMul]
    exact hΨ _ _ (fin_ret (rv1 rfl ⟨rfl, by rw [nameK_else hz, h5]; rfl⟩))
  | false =>
  simp only [mach, mach2, mstd, ↓reduceIte, Nat.reduceEqDiff, Nat.reduceAdd, Nat.reduceMul]
  refine XX_val (isKey_ok (c :: r) h) ?_
  cases h6 : keyL.contains (c :: r) with
  | true =>
    simp only [mach, mach2, mstd, ↓reduceIte, Nat.reduceEqDiff, Nat.reduceAdd, Nat.reduceMul]
    exact hΨ _ _ (fin_ret (rv1 rfl ⟨rfl, by rw [nameK_else hz, h5, h6]; rfl⟩))
  | false =>
  cases h7 : ((c :: r) == [95]) with
  | true =>
    simp only [mach, mach2, mstd, ↓reduceIte, Nat.reduceEqDiff, Nat.reduceAdd, Nat.reduceMul, tx_toList, mk_toList, h7]
    exact hΨ _ _ (fin_ret (rv1 rfl ⟨rfl, by rw [nameK_else hz, h5, h6, h7]; rfl⟩))
  | false =>
  simp only [mach, mach2, mstd, ↓reduceIte, Nat.reduceEqDiff, Nat.reduceAdd, Nat.reduceMul, tx_toList, mk_toList, h7]
  exact hΨ _ _ (fin_ret (rv1 rfl ⟨rfl, by rw [nameK_else hz, h5, h6, h7]; rfl⟩))
end Go.S07

/- Tokens: numbers that are read. -/
set_option linter.unusedVariables false
set_option linter.unusedSimpArgs false
namespace Go.S07
open Go Go.Eng Go.Proofs Go.Scn

theorem u64w {x : Int} (h0 : 0 ≤ x) (h1 : x ≤ 18446744073709551615) : IntKind.u64.wrap x = x := by
  show (if (false && decide (x % (18446744073709551616 : Int) ≥ (9223372036854775808 : Int))) = true then x % (18446744073709551616 : Int) - (18446744073709551616 : Int) else x % (18446744073709551616 : Int)) = x
  rw [if_neg (by simp)]; omega
theorem u64over {x : Int} (h0 : 18446744073709551616 ≤ x) (h1 : x ≤ 18446744073709551616 + 18446744073709551615) : IntKind.u64.wrap x = x - 18446744073709551616 := by
  show (if (false && decide (x % (18446744073709551616 : Int) ≥ (9223372036854775808 : Int))) = true then x % (18446744073709551616 : Int) - (18446744073709551616 : Int) else x % (18446744073709551616 : Int)) = _
  rw [if_neg (by simp)]; omega

theorem i_or {k : IntKind} {a b : Int} : ibin .or k a b = some (.int k (k.wrap (BitVec.ofInt k.bits a ||| BitVec.ofInt k.bits b).toNat)) := rr rfl
theorem low_eq (c : UInt8) : IntKind.u8.wrap ((BitVec.ofInt IntKind.u8.bits (c.toNat : Int) ||| BitVec.ofInt IntKind.u8.bits 32).toNat : Int) = ((c ||| 32).toNat : Int) := by
  show IntKind.u8.wrap (((BitVec.ofInt 8 (c.toNat : Int) ||| BitVec.ofInt 8 32).toNat : Nat) : Int) = _
  have h1 : BitVec.ofInt 8 (c.toNat : Int) = c.toBitVec := by
    apply BitVec.eq_of_toNat_eq
    rw [BitVec.toNat_ofInt]
    have := c.toNat_lt
    show ((c.toNat : Int) % ((2 ^ 8 : Nat) : Int)).toNat = c.toBitVec.toNat
    have h2 : c.toBitVec.toNat = c.toNat := rfl
    rw [h2]; omega
  rw [h1]
  have h3 : (c.toBitVec ||| BitVec.ofInt 8 32).toNat = (c ||| 32).toNat := rfl
  rw [h3]
  have := (c ||| 32).toNat_lt
  exact u8w (by omega) (by omega)

theorem lower_ok (c : UInt8) (h : AH) : Gets Tryd.prog 82 [bv c] h (fun res h' => h' = h ∧ res = .ret (bv (c ||| 32))) := by
  refine Gets.of (keep := false) hP (draw_ok hM) k82 (by rfl) (fun Ψ hΨ => ?_)
  simp only [mach, mach2, mstd, ↓reduceIte, Nat.reduceEqDiff, Nat.reduceAdd, Nat.reduceMul, r82, i_or, low_eq]
  exact hΨ _ _ (fin_ret (rv1 rfl ⟨rfl, rfl⟩))

theorem u_s2bt {h : AH} {m : Nat} {e : TypeId} {l : Bs} : uval Tryd.prog h m (.s2b e) (.string (tx l)) = some (.slice (some ⟨m, 0, none⟩) l.length l.length, some (.cells false true m 0 e (l.map bv))) := by
  have h1 : (tx l).size = l.length := tx_size l
  simp only [uval, h1]
  rfl
theorem ld_by {h : AH} {e : TypeId} {l : Bs} {i : Nat} {c : UInt8} (hc : l[i]? = some c) : ldc (h ++ [.cells false true h.length 0 e (l.map bv)]) h.length i = some (bv c) := by
  simp [ldc, hcell, hc]

abbrev eT : TypeId := 78
/-- What a number that was read comes to. -/
def PuR (mx : Nat) : PU → Value
  | .ok n => .tuple #[.int .u64 n, .nilIface]
  | .syn => .tuple #[.int .u64 0, .iface eT (iv 2)]
  | .rng => .tuple #[.int .u64 mx, .iface eT (iv 1)]

theorem dg_digit {c : UInt8} (h1 : (48:Int) ≤ c.toNat) (h2 : (c.toNat : Int) ≤ 57) : dg c = c.toNat - 48 := by
  unfold dg; rw [if_pos (by simp [digit]; omega)]
theorem dg_letter {c : UInt8} (h0 : ¬ ((48:Int) ≤ c.toNat ∧ (c.toNat : Int) ≤ 57)) (h1 : (97:Int) ≤ (c ||| 32).toNat) (h2 : ((c ||| 32).toNat : Int) ≤ 122) : dg c = (c ||| 32).toNat - 87 := by
  unfold dg; rw [if_neg (by simp [digit]; omega), if_pos (by omega)]
theorem dg_none {c : UInt8} (h0 : ¬ ((48:Int) ≤ c.toNat ∧ (c.toNat : Int) ≤ 57)) (h1 : ¬ ((97:Int) ≤ (c ||| 32).toNat ∧ ((c ||| 32).toNat : Int) ≤ 122)) : dg c = 99 := by
  unfold dg; rw [if_neg (by simp [digit]; omega), if_neg (by omega)]




set_option maxHeartbeats 4000000 in
theorem puD_ok (l : Bs) (h0 : l ≠ []) (hl : l.length ≤ 9223372036854775807) (h : AH) : Gets Tryd.prog 73 [tv l, iv 10, iv 64] h (fun res h' => Keep (fun _ => False) h h' ∧ res = .ret (PuR 18446744073709551615 (puS 10 18446744073709551615 0 l))) := by
  refine (?_ : Gets Tryd.prog 73 [tv l, iv 10, iv 64] h (fun res h' => h' = h ++ [.cells false true h.length 0 5 (l.map bv)] ∧ Keep (fun _ => False) h h' ∧ res = .ret (PuR 18446744073709551615 (puS 10 18446744073709551615 0 l)))).mono (fun _ _ _ ⟨_, a, b⟩ => ⟨a, b⟩)
  refine Gets.of (keep := false) hP (draw_ok hM) k73 (by rfl) (fun Ψ hΨ => ?_)
  have hne : (l == ([] : Bs)) = false := by simpa using h0
  have e1 : ibin .shl .u64 1 64 = some (.int .u64 0) := by rfl
  have e2 : IntKind.u64.wrap (0 - 1) = 18446744073709551615 := by decide
  have e3 : IntKind.u64.wrap 64 = 64 := by decide
  have kw64 : IntKind.u64.wrap 10 = 10 := by decide
  have kw8 : IntKind.u8.wrap 10 = 10 := by decide
  have kp : Keep (fun _ => False) h (h ++ [.cells false true h.length 0 5 (l.map bv)]) := Keep.push _ _ _
  simp only [mach, mach2, mstd, ↓reduceIte, Nat.reduceEqDiff, Nat.reduceAdd, Nat.reduceMul, r73, tx_toList, mk_toList, hne, Int.reduceLE, Int.reduceLT, Int.reduceEq, e1, e2, e3, u_s2bt]
  refine XLo_rule (α := Nat × Nat) (fun a => [(1, iv 10), (8, .bool false), (10, .int .u64 1844674407370955162), (11, .int .u64 18446744073709551615), (12, .bool false), (13, .int .u64 a.2), (99, .slice (some ⟨h.length, 0, none⟩) l.length l.length), (100, iv l.length), (101, iv a.1)])
    (fun a h' => a.1 ≤ l.length ∧ h' = h ++ [.cells false true h.length 0 5 (l.map bv)] ∧ a.2 ≤ 18446744073709551615 ∧ puS 10 18446744073709551615 0 l = puS 10 18446744073709551615 a.2 (l.drop a.1)) (fun a => l.length - a.1) (0, 0)
    ⟨Nat.zero_le _, rfl, Nat.zero_le _, rfl⟩ ⟨rfl, rfl, rfl, rfl, rfl, rfl, rfl, rfl, rfl, trivial⟩ ?_
  rintro ⟨i, n⟩ h1 Ψ2 ⟨i1, rfl, hn, heq⟩ next out
  simp only at i1 hn heq
  by_cases hi : (i : Int) < (l.length : Int)
  · have hil : i < l.length := by omega
    have g0 : (0 : Int) ≤ (i : Int) := by omega
    have hwi : IntKind.i64.wrap ((i : Int) + 1) = ((i + 1 : Nat) : Int) := by rw [i64w (by omega) (by omega)]; omega
    have hc : l[i]? = some l[i] := List.getElem?_eq_getElem hil
    have hlt := l[i].toNat_lt
    have key : ∀ (b : Bool), (if b then false else false) = false := by intro b; cases b <;> rfl
    by_cases hd1 : (48 : Int) ≤ (l[i].toNat : Int) ∧ (l[i].toNat : Int) ≤ 57
    · have hd := dg_digit hd1.1 hd1.2
      have h95 : ¬ (l[i].toNat : Int) = 95 := by omega
      have hwd : IntKind.u8.wrap ((l[i].toNat : Int) - 48) = (dg l[i] : Int) := by rw [u8w (by omega) (by omega), hd]; omega
      simp only [mach, mach2, mstd, ↓reduceIte, Nat.reduceEqDiff, Nat.reduceAdd, Nat.reduceMul, hi, g0, and_self, Int.toNat_natCast, Nat.mul_one, ld_by hc, h95, hd1.1, hd1.2, hwd, kw8]
      have hdn : (dg l[i] : Int) ≤ 35 := by omega
      by_cases hb : (10 : Int) ≤ (dg l[i] : Int)
      · simp only [mach, mach2, mstd, ↓reduceIte, Nat.reduceEqDiff, Nat.reduceAdd, Nat.reduceMul, eq_true hb, mbl, Nat.reduceLeDiff, Nat.reduceLT, Int.reduceEq]
        refine out .ret _ _ _ _ (by intro e; cases e) ?_
        simp only [mach, mach2, mstd, ↓reduceIte, Nat.reduceEqDiff, Nat.reduceAdd, Nat.reduceMul]
        refine hΨ _ _ (fin_ret (rv2 rfl rfl ⟨rfl, kp, ?_⟩))
        rw [heq, List.drop_eq_getElem_cons hil, puS, if_pos (by omega)]; rfl
      by_cases hcut : (1844674407370955162 : Int) ≤ (n : Int)
      · simp only [mach, mach2, mstd, ↓reduceIte, Nat.reduceEqDiff, Nat.reduceAdd, Nat.reduceMul, hb, eq_true hcut, mbl, Nat.reduceLeDiff, Nat.reduceLT, Int.reduceEq]
        refine out .ret _ _ _ _ (by intro e; cases e) ?_
        simp only [mach, mach2, mstd, ↓reduceIte, Nat.reduceEqDiff, Nat.reduceAdd, Nat.reduceMul]
        refine hΨ _ _ (fin_ret (rv2 rfl rfl ⟨rfl, kp, ?_⟩))
        rw [heq, List.drop_eq_getElem_cons hil, puS, if_neg (by omega), if_pos (by omega)]; rfl
      have hw1 : IntKind.u64.wrap ((n : Int) * 10) = ((n * 10 : Nat) : Int) := by rw [u64w (by omega) (by omega)]; omega
      have hw2 : IntKind.u64.wrap (dg l[i] : Int) = (dg l[i] : Int) := u64w (by omega) (by omega)
      by_cases hov : ((n * 10 + dg l[i] : Nat) : Int) ≤ 18446744073709551615
      · have hw3 : IntKind.u64.wrap (((n * 10 : Nat) : Int) + (dg l[i] : Int)) = ((n * 10 + dg l[i] : Nat) : Int) := by rw [u64w (by omega) (by omega)]; omega
        have c1 : (((n * 10 + dg l[i] : Nat) : Int) < ((n * 10 : Nat) : Int)) = False := by simp only [eq_iff_iff, iff_false]; omega
        have c2 : ((18446744073709551615 : Int) < ((n * 10 + dg l[i] : Nat) : Int)) = False := by simp only [eq_iff_iff, iff_false]; omega
        simp only [mach, mach2, mstd, ↓reduceIte, Nat.reduceEqDiff, Nat.reduceAdd, Nat.reduceMul, hb, hcut, hw1, hw2, hw3, c1, c2, hwi, kw64]
        refine next (i + 1, n * 10 + dg l[i]) _ _ _ ⟨by simp only; omega, rfl, by simp only; omega, ?_⟩ ⟨rfl, rfl, rfl, rfl, rfl, rfl, rfl, rfl, rfl, trivial⟩ (by simp only; omega)
        rw [heq, List.drop_eq_getElem_cons hil, puS, if_neg (by omega), if_neg (by omega)]
      · have rng : puS 10 18446744073709551615 0 l = .rng := by rw [heq, List.drop_eq_getElem_cons hil, puS, if_neg (by omega), if_pos (by omega)]
        by_cases hbig : ((n * 10 + dg l[i] : Nat) : Int) ≤ 18446744073709551615
        · have hw3 : IntKind.u64.wrap (((n * 10 : Nat) : Int) + (dg l[i] : Int)) = ((n * 10 + dg l[i] : Nat) : Int) := by rw [u64w (by omega) (by omega)]; omega
          have c1 : (((n * 10 + dg l[i] : Nat) : Int) < ((n * 10 : Nat) : Int)) = False := by simp only [eq_iff_iff, iff_false]; omega
          have c2 : ((18446744073709551615 : Int) < ((n * 10 + dg l[i] : Nat) : Int)) = True := by simp only [eq_iff_iff, iff_true]; omega
          simp only [mach, mach2, mstd, ↓reduceIte, Nat.reduceEqDiff, Nat.reduceAdd, Nat.reduceMul, hb, hcut, hw1, hw2, hw3, c1, c2, hwi, kw64, mbl, Nat.reduceLeDiff, Nat.reduceLT, Int.reduceEq]
          refine out .ret _ _ _ _ (by intro e; cases e) ?_
          simp only [mach, mach2, mstd, ↓reduceIte, Nat.reduceEqDiff, Nat.reduceAdd, Nat.reduceMul]
          exact hΨ _ _ (fin_ret (rv2 rfl rfl ⟨rfl, kp, by rw [rng]; rfl⟩))
        · have hw3 : IntKind.u64.wrap (((n * 10 : Nat) : Int) + (dg l[i] : Int)) = ((n * 10 : Nat) : Int) + (dg l[i] : Int) - 18446744073709551616 := u64over (by omega) (by omega)
          have c1 : (((n * 10 : Nat) : Int) + (dg l[i] : Int) - 18446744073709551616 < ((n * 10 : Nat) : Int)) = True := by simp only [eq_iff_iff, iff_true]; omega
          simp only [mach, mach2, mstd, ↓reduceIte, Nat.reduceEqDiff, Nat.reduceAdd, Nat.reduceMul, hb, hcut, hw1, hw2, hw3, c1, hwi, kw64, mbl, Nat.reduceLeDiff, Nat.reduceLT, Int.reduceEq]
          refine out .ret _ _ _ _ (by intro e; cases e) ?_
          simp only [mach, mach2, mstd, ↓reduceIte, Nat.reduceEqDiff, Nat.reduceAdd, Nat.reduceMul]
          exact hΨ _ _ (fin_ret (rv2 rfl rfl ⟨rfl, kp, by rw [rng]; rfl⟩))
    · have hlo := (l[i] ||| 32).toNat_lt
      by_cases h95 : (l[i].toNat : Int) = 95
      · have hlow : (l[i] ||| 32).toNat = 127 := by rw [show l[i] = 95 from UInt8.toNat_inj.1 (by simpa using (by omega : l[i].toNat = 95))]; rfl
        have hp1 : (48 : Int) ≤ (l[i].toNat : Int) := by omega
        have hp2 : ¬ (l[i].toNat : Int) ≤ 57 := by omega
        simp only [mach, mach2, mstd, ↓reduceIte, Nat.reduceEqDiff, Nat.reduceAdd, Nat.reduceMul, hi, g0, and_self, Int.toNat_natCast, Nat.mul_one, ld_by hc, eq_true h95, hp1, hp2]
        refine XX_val (lower_ok _ _) ?_
        have hq1 : (97 : Int) ≤ ((l[i] ||| 32).toNat : Int) := by omega
        have hq2 : ¬ ((l[i] ||| 32).toNat : Int) ≤ 122 := by omega
        simp only [mach, mach2, mstd, ↓reduceIte, Nat.reduceEqDiff, Nat.reduceAdd, Nat.reduceMul, hq1]
        refine XX_val (lower_ok _ _) ?_
        simp only [mach, mach2, mstd, ↓reduceIte, Nat.reduceEqDiff, Nat.reduceAdd, Nat.reduceMul, hq2, mbl, Nat.reduceLeDiff, Nat.reduceLT, Int.reduceEq]
        refine out .ret _ _ _ _ (by intro e; cases e) ?_
        simp only [mach, mach2, mstd, ↓reduceIte, Nat.reduceEqDiff, Nat.reduceAdd, Nat.reduceMul]
        refine hΨ _ _ (fin_ret (rv2 rfl rfl ⟨rfl, kp, ?_⟩))
        rw [heq, List.drop_eq_getElem_cons hil, puS, if_pos (by rw [dg_none (by omega) (by omega)]; omega)]; rfl
      · by_cases hq : (97 : Int) ≤ ((l[i] ||| 32).toNat : Int) ∧ ((l[i] ||| 32).toNat : Int) ≤ 122
        · have hd := dg_letter hd1 hq.1 hq.2
          have hwd1 : IntKind.u8.wrap (((l[i] ||| 32).toNat : Int) - 97) = ((l[i] ||| 32).toNat : Int) - 97 := u8w (by omega) (by omega)
          have hwd : IntKind.u8.wrap (((l[i] ||| 32).toNat : Int) - 97 + 10) = (dg l[i] : Int) := by rw [u8w (by omega) (by omega), hd]; omega
          by_cases hp1 : (48 : Int) ≤ (l[i].toNat : Int)
          · have hp2 : ¬ (l[i].toNat : Int) ≤ 57 := by omega
            simp only [mach, mach2, mstd, ↓reduceIte, Nat.reduceEqDiff, Nat.reduceAdd, Nat.reduceMul, hi, g0, and_self, Int.toNat_natCast, Nat.mul_one, ld_by hc, h95, hp1, hp2]
            refine XX_val (lower_ok _ _) ?_
            simp only [mach, mach2, mstd, ↓reduceIte, Nat.reduceEqDiff, Nat.reduceAdd, Nat.reduceMul, hq.1]
            refine XX_val (lower_ok _ _) ?_
            simp only [mach, mach2, mstd, ↓reduceIte, Nat.reduceEqDiff, Nat.reduceAdd, Nat.reduceMul, hq.2]
            refine XX_val (lower_ok _ _) ?_
            simp only [mach, mach2, mstd, ↓reduceIte, Nat.reduceEqDiff, Nat.reduceAdd, Nat.reduceMul, hwd1, hwd, kw8]
            have hdn : (dg l[i] : Int) ≤ 35 := by omega
            by_cases hb : (10 : Int) ≤ (dg l[i] : Int)
            · simp only [mach, mach2, mstd, ↓reduceIte, Nat.reduceEqDiff, Nat.reduceAdd, Nat.reduceMul, eq_true hb, mbl, Nat.reduceLeDiff, Nat.reduceLT, Int.reduceEq]
              refine out .ret _ _ _ _ (by intro e; cases e) ?_
              simp only [mach, mach2, mstd, ↓reduceIte, Nat.reduceEqDiff, Nat.reduceAdd, Nat.reduceMul]
              refine hΨ _ _ (fin_ret (rv2 rfl rfl ⟨rfl, kp, ?_⟩))
              rw [heq, List.drop_eq_getElem_cons hil, puS, if_pos (by omega)]; rfl
            by_cases hcut : (1844674407370955162 : Int) ≤ (n : Int)
            · simp only [mach, mach2, mstd, ↓reduceIte, Nat.reduceEqDiff, Nat.reduceAdd, Nat.reduceMul, hb, eq_true hcut, mbl, Nat.reduceLeDiff, Nat.reduceLT, Int.reduceEq]
              refine out .ret _ _ _ _ (by intro e; cases e) ?_
              simp only [mach, mach2, mstd, ↓reduceIte, Nat.reduceEqDiff, Nat.reduceAdd, Nat.reduceMul]
              refine hΨ _ _ (fin_ret (rv2 rfl rfl ⟨rfl, kp, ?_⟩))
              rw [heq, List.drop_eq_getElem_cons hil, puS, if_neg (by omega), if_pos (by omega)]; rfl
            have hw1 : IntKind.u64.wrap ((n : Int) * 10) = ((n * 10 : Nat) : Int) := by rw [u64w (by omega) (by omega)]; omega
            have hw2 : IntKind.u64.wrap (dg l[i] : Int) = (dg l[i] : Int) := u64w (by omega) (by omega)
            by_cases hov : ((n * 10 + dg l[i] : Nat) : Int) ≤ 18446744073709551615
            · have hw3 : IntKind.u64.wrap (((n * 10 : Nat) : Int) + (dg l[i] : Int)) = ((n * 10 + dg l[i] : Nat) : Int) := by rw [u64w (by omega) (by omega)]; omega
              have c1 : (((n * 10 + dg l[i] : Nat) : Int) < ((n * 10 : Nat) : Int)) = False := by simp only [eq_iff_iff, iff_false]; omega
              have c2 : ((18446744073709551615 : Int) < ((n * 10 + dg l[i] : Nat) : Int)) = False := by simp only [eq_iff_iff, iff_false]; omega
              simp only [mach, mach2, mstd, ↓reduceIte, Nat.reduceEqDiff, Nat.reduceAdd, Nat.reduceMul, hb, hcut, hw1, hw2, hw3, c1, c2, hwi, kw64]
              refine next (i + 1, n * 10 + dg l[i]) _ _ _ ⟨by simp only; omega, rfl, by simp only; omega, ?_⟩ ⟨rfl, rfl, rfl, rfl, rfl, rfl, rfl, rfl, rfl, trivial⟩ (by simp only; omega)
              rw [heq, List.drop_eq_getElem_cons hil, puS, if_neg (by omega), if_neg (by omega)]
            · have rng : puS 10 18446744073709551615 0 l = .rng := by rw [heq, List.drop_eq_getElem_cons hil, puS, if_neg (by omega), if_pos (by omega)]
              by_cases hbig : ((n * 10 + dg l[i] : Nat) : Int) ≤ 18446744073709551615
              · have hw3 : IntKind.u64.wrap (((n * 10 : Nat) : Int) + (dg l[i] : Int)) = ((n * 10 + dg l[i] : Nat) : Int) := by rw [u64w (by omega) (by omega)]; omega
                have c1 : (((n * 10 + dg l[i] : Nat) : Int) < ((n * 10 : Nat) : Int)) = False := by simp only [eq_iff_iff, iff_false]; omega
                have c2 : ((18446744073709551615 : Int) < ((n * 10 + dg l[i] : Nat) : Int)) = True := by simp only [eq_iff_iff, iff_true]; omega
                simp only [mach, mach2, mstd, ↓reduceIte, Nat.reduceEqDiff, Nat.reduceAdd, Nat.reduceMul, hb, hcut, hw1, hw2, hw3, c1, c2, hwi, kw64, mbl, Nat.reduceLeDiff, Nat.reduceLT, Int.reduceEq]
                refine out .ret _ _ _ _ (by intro e; cases e) ?_
                simp only [mach, mach2, mstd, ↓reduceIte, Nat.reduceEqDiff, Nat.reduceAdd, Nat.reduceMul]
                exact hΨ _ _ (fin_ret (rv2 rfl rfl ⟨rfl, kp, by rw [rng]; rfl⟩))
              · have hw3 : IntKind.u64.wrap (((n * 10 : Nat) : Int) + (dg l[i] : Int)) = ((n * 10 : Nat) : Int) + (dg l[i] : Int) - 18446744073709551616 := u64over (by omega) (by omega)
                have c1 : (((n * 10 : Nat) : Int) + (dg l[i] : Int) - 18446744073709551616 < ((n * 10 : Nat) : Int)) = True := by simp only [eq_iff_iff, iff_true]; omega
                simp only [mach, mach2, mstd, ↓reduceIte, Nat.reduceEqDiff, Nat.reduceAdd, Nat.reduceMul, hb, hcut, hw1, hw2, hw3, c1, hwi, kw64, mbl, Nat.reduceLeDiff, Nat.reduceLT, Int.reduceEq]
                refine out .ret _ _ _ _ (by intro e; cases e) ?_
                simp only [mach, mach2, mstd, ↓reduceIte, Nat.reduceEqDiff, Nat.reduceAdd, Nat.reduceMul]
                exact hΨ _ _ (fin_ret (rv2 rfl rfl ⟨rfl, kp, by rw [rng]; rfl⟩))
          · simp only [mach, mach2, mstd, ↓reduceIte, Nat.reduceEqDiff, Nat.reduceAdd, Nat.reduceMul, hi, g0, and_self, Int.toNat_natCast, Nat.mul_one, ld_by hc, h95, hp1]
            refine XX_val (lower_ok _ _) ?_
            simp only [mach, mach2, mstd, ↓reduceIte, Nat.reduceEqDiff, Nat.reduceAdd, Nat.reduceMul, hq.1]
            refine XX_val (lower_ok _ _) ?_
            simp only [mach, mach2, mstd, ↓reduceIte, Nat.reduceEqDiff, Nat.reduceAdd, Nat.reduceMul, hq.2]
            refine XX_val (lower_ok _ _) ?_
            simp only [mach, mach2, mstd, ↓reduceIte, Nat.reduceEqDiff, Nat.reduceAdd, Nat.reduceMul, hwd1, hwd, kw8]
            have hdn : (dg l[i] : Int) ≤ 35 := by omega
            by_cases hb : (10 : Int) ≤ (dg l[i] : Int)
            · simp only [mach, mach2, mstd, ↓reduceIte, Nat.reduceEqDiff, Nat.reduceAdd, Nat.reduceMul, eq_true hb, mbl, Nat.reduceLeDiff, Nat.reduceLT, Int.reduceEq]
              refine out .ret _ _ _ _ (by intro e; cases e) ?_
              simp only [mach, mach2, mstd, ↓reduceIte, Nat.reduceEqDiff, Nat.reduceAdd, Nat.reduceMul]
              refine hΨ _ _ (fin_ret (rv2 rfl rfl ⟨rfl, kp, ?_⟩))
              rw [heq, List.drop_eq_getElem_cons hil, puS, if_pos (by omega)]; rfl
            by_cases hcut : (1844674407370955162 : Int) ≤ (n : Int)
            · simp only [mach, mach2, mstd, ↓reduceIte, Nat.reduceEqDiff, Nat.reduceAdd, Nat.reduceMul, hb, eq_true hcut, mbl, Nat.reduceLeDiff, Nat.reduceLT, Int.reduceEq]
              refine out .ret _ _ _ _ (by intro e; cases e) ?_
              simp only [mach, mach2, mstd, ↓reduceIte, Nat.reduceEqDiff, Nat.reduceAdd, Nat.reduceMul]
              refine hΨ _ _ (fin_ret (rv2 rfl rfl ⟨rfl, kp, ?_⟩))
              rw [heq, List.drop_eq_getElem_cons hil, puS, if_neg (by omega), if_pos (by omega)]; rfl
            have hw1 : IntKind.u64.wrap ((n : Int) * 10) = ((n * 10 : Nat) : Int) := by rw [u64w (by omega) (by omega)]; omega
            have hw2 : IntKind.u64.wrap (dg l[i] : Int) = (dg l[i] : Int) := u64w (by omega) (by omega)
            by_cases hov : ((n * 10 + dg l[i] : Nat) : Int) ≤ 18446744073709551615
            · have hw3 : IntKind.u64.wrap (((n * 10 : Nat) : Int) + (dg l[i] : Int)) = ((n * 10 + dg l[i] : Nat) : Int) := by rw [u64w (by omega) (by omega)]; omega
              have c1 : (((n * 10 + dg l[i] : Nat) : Int) < ((n * 10 : Nat) : Int)) = False := by simp only [eq_iff_iff, iff_false]; omega
              have c2 : ((18446744073709551615 : Int) < ((n * 10 + dg l[i] : Nat) : Int)) = False := by simp only [eq_iff_iff, iff_false]; omega
              simp only [mach, mach2, mstd, ↓reduceIte, Nat.reduceEqDiff, Nat.reduceAdd, Nat.reduceMul, hb, hcut, hw1, hw2, hw3, c1, c2, hwi, kw64]
              refine next (i + 1, n * 10 + dg l[i]) _ _ _ ⟨by simp only; omega, rfl, by simp only; omega, ?_⟩ ⟨rfl, rfl, rfl, rfl, rfl, rfl, rfl, rfl, rfl, trivial⟩ (by simp only; omega)
              rw [heq, List.drop_eq_getElem_cons hil, puS, if_neg (by omega), if_neg (by omega)]
            · have rng : puS 10 18446744073709551615 0 l = .rng := by rw [heq, List.drop_eq_getElem_cons hil, puS, if_neg (by omega), if_pos (by omega)]
              by_cases hbig : ((n * 10 + dg l[i] : Nat) : Int) ≤ 18446744073709551615
              · have hw3 : IntKind.u64.wrap (((n * 10 : Nat) : Int) + (dg l[i] : Int)) = ((n * 10 + dg l[i] : Nat) : Int) := by rw [u64w (by omega) (by omega)]; omega
                have c1 : (((n * 10 + dg l[i] : Nat) : Int) < ((n * 10 : Nat) : Int)) = False := by simp only [eq_iff_iff, iff_false]; omega
                have c2 : ((18446744073709551615 : Int) < ((n * 10 + dg l[i] : Nat) : Int)) = True := by simp only [eq_iff_iff, iff_true]; omega
                simp only [mach, mach2, mstd, ↓reduceIte, Nat.reduceEqDiff, Nat.reduceAdd, Nat.reduceMul, hb, hcut, hw1, hw2, hw3, c1, c2, hwi, kw64, mbl, Nat.reduceLeDiff, Nat.reduceLT, Int.reduceEq]
                refine out .ret _ _ _ _ (by intro e; cases e) ?_
                simp only [mach, mach2, mstd, ↓reduceIte, Nat.reduceEqDiff, Nat.reduceAdd, Nat.reduceMul]
                exact hΨ _ _ (fin_ret (rv2 rfl rfl ⟨rfl, kp, by rw [rng]; rfl⟩))
              · have hw3 : IntKind.u64.wrap (((n * 10 : Nat) : Int) + (dg l[i] : Int)) = ((n * 10 : Nat) : Int) + (dg l[i] : Int) - 18446744073709551616 := u64over (by omega) (by omega)
                have c1 : (((n * 10 : Nat) : Int) + (dg l[i] : Int) - 18446744073709551616 < ((n * 10 : Nat) : Int)) = True := by simp only [eq_iff_iff, iff_true]; omega
                simp only [mach, mach2, mstd, ↓reduceIte, Nat.reduceEqDiff, Nat.reduceAdd, Nat.reduceMul, hb, hcut, hw1, hw2, hw3, c1, hwi, kw64, mbl, Nat.reduceLeDiff, Nat.reduceLT, Int.reduceEq]
                refine out .ret _ _ _ _ (by intro e; cases e) ?_
                simp only [mach, mach2, mstd, ↓reduceIte, Nat.reduceEqDiff, Nat.reduceAdd, Nat.reduceMul]
                exact hΨ _ _ (fin_ret (rv2 rfl rfl ⟨rfl, kp, by rw [rng]; rfl⟩))
        · have hsyn : puS 10 18446744073709551615 0 l = .syn := by rw [heq, List.drop_eq_getElem_cons hil, puS, if_pos (by rw [dg_none (by omega) (by omega)]; omega)]
          by_cases hp1 : (48 : Int) ≤ (l[i].toNat : Int)
          · have hp2 : ¬ (l[i].toNat : Int) ≤ 57 := by omega
            simp only [mach, mach2, mstd, ↓reduceIte, Nat.reduceEqDiff, Nat.reduceAdd, Nat.reduceMul, hi, g0, and_self, Int.toNat_natCast, Nat.mul_one, ld_by hc, h95, hp1, hp2]
            refine XX_val (lower_ok _ _) ?_
            by_cases hq1 : (97 : Int) ≤ ((l[i] ||| 32).toNat : Int)
            · have hq2 : ¬ ((l[i] ||| 32).toNat : Int) ≤ 122 := by omega
              simp only [mach, mach2, mstd, ↓reduceIte, Nat.reduceEqDiff, Nat.reduceAdd, Nat.reduceMul, hq1]
              refine XX_val (lower_ok _ _) ?_
              simp only [mach, mach2, mstd, ↓reduceIte, Nat.reduceEqDiff, Nat.reduceAdd, Nat.reduceMul, hq2, mbl, Nat.reduceLeDiff, Nat.reduceLT, Int.reduceEq]
              refine out .ret _ _ _ _ (by intro e; cases e) ?_
              simp only [mach, mach2, mstd, ↓reduceIte, Nat.reduceEqDiff, Nat.reduceAdd, Nat.reduceMul]
              exact hΨ _ _ (fin_ret (rv2 rfl rfl ⟨rfl, kp, by rw [hsyn]; rfl⟩))
            · simp only [mach, mach2, mstd, ↓reduceIte, Nat.reduceEqDiff, Nat.reduceAdd, Nat.reduceMul, hq1, mbl, Nat.reduceLeDiff, Nat.reduceLT, Int.reduceEq]
              refine out .ret _ _ _ _ (by intro e; cases e) ?_
              simp only [mach, mach2, mstd, ↓reduceIte, Nat.reduceEqDiff, Nat.reduceAdd, Nat.reduceMul]
              exact hΨ _ _ (fin_ret (rv2 rfl rfl ⟨rfl, kp, by rw [hsyn]; rfl⟩))
          · simp only [mach, mach2, mstd, ↓reduceIte, Nat.reduceEqDiff, Nat.reduceAdd, Nat.reduceMul, hi, g0, and_self, Int.toNat_natCast, Nat.mul_one, ld_by hc, h95, hp1]
            refine XX_val (lower_ok _ _) ?_
            by_cases hq1 : (97 : Int) ≤ ((l[i] ||| 32).toNat : Int)
            · have hq2 : ¬ ((l[i] ||| 32).toNat : Int) ≤ 122 := by omega
              simp only [mach, mach2, mstd, ↓reduceIte, Nat.reduceEqDiff, Nat.reduceAdd, Nat.reduceMul, hq1]
              refine XX_val (lower_ok _ _) ?_
              simp only [mach, mach2, mstd, ↓reduceIte, Nat.reduceEqDiff, Nat.reduceAdd, Nat.reduceMul, hq2, mbl, Nat.reduceLeDiff, Nat.reduceLT, Int.reduceEq]
              refine out .ret _ _ _ _ (by intro e; cases e) ?_
              simp only [mach, mach2, mstd, ↓reduceIte, Nat.reduceEqDiff, Nat.reduceAdd, Nat.reduceMul]
              exact hΨ _ _ (fin_ret (rv2 rfl rfl ⟨rfl, kp, by rw [hsyn]; rfl⟩))
            · simp only [mach, mach2, mstd, ↓reduceIte, Nat.reduceEqDiff, Nat.reduceAdd, Nat.reduceMul, hq1, mbl, Nat.reduceLeDiff, Nat.reduceLT, Int.reduceEq]
              refine out .ret _ _ _ _ (by intro e; cases e) ?_
              simp only [mach, mach2, mstd, ↓reduceIte, Nat.reduceEqDiff, Nat.reduceAdd, Nat.reduceMul]
              exact hΨ _ _ (fin_ret (rv2 rfl rfl ⟨rfl, kp, by rw [hsyn]; rfl⟩))
  · have hie : i = l.length := by omega
    simp only [mach, mach2, mstd, ↓reduceIte, Nat.reduceEqDiff, Nat.reduceAdd, Nat.reduceMul, hi]
    refine out (.exit 3) _ _ _ _ (by intro e; cases e) ?_
    simp only [mach, mach2, mstd, ↓reduceIte, Nat.reduceEqDiff, Nat.reduceAdd, Nat.reduceMul]
    refine hΨ _ _ (fin_ret (rv2 rfl rfl ⟨rfl, kp, ?_⟩))
    rw [heq, hie, List.drop_length, puS]; rfl
set_option maxHeartbeats 4000000 in
theorem puX_ok (l : Bs) (h0 : l ≠ []) (hl : l.length ≤ 9223372036854775807) (h : AH) : Gets Tryd.prog 73 [tv l, iv 16, iv 8] h (fun res h' => Keep (fun _ => False) h h' ∧ res = .ret (PuR 255 (puS 16 255 0 l))) := by
  refine (?_ : Gets Tryd.prog 73 [tv l, iv 16, iv 8] h (fun res h' => h' = h ++ [.cells false true h.length 0 5 (l.map bv)] ∧ Keep (fun _ => False) h h' ∧ res = .ret (PuR 255 (puS 16 255 0 l)))).mono (fun _ _ _ ⟨_, a, b⟩ => ⟨a, b⟩)
  refine Gets.of (keep := false) hP (draw_ok hM) k73 (by rfl) (fun Ψ hΨ => ?_)
  have hne : (l == ([] : Bs)) = false := by simpa using h0
  have e1 : ibin .shl .u64 1 8 = some (.int .u64 256) := by rfl
  have e2 : IntKind.u64.wrap (256 - 1) = 255 := by decide
  have e3 : IntKind.u64.wrap 8 = 8 := by decide
  have kw64 : IntKind.u64.wrap 16 = 16 := by decide
  have kw8 : IntKind.u8.wrap 16 = 16 := by decide
  have kp : Keep (fun _ => False) h (h ++ [.cells false true h.length 0 5 (l.map bv)]) := Keep.push _ _ _
  simp only [mach, mach2, mstd, ↓reduceIte, Nat.reduceEqDiff, Nat.reduceAdd, Nat.reduceMul, r73, tx_toList, mk_toList, hne, Int.reduceLE, Int.reduceLT, Int.reduceEq, e1, e2, e3, u_s2bt]
  refine XLo_rule (α := Nat × Nat) (fun a => [(1, iv 16), (8, .bool false), (10, .int .u64 1152921504606846976), (11, .int .u64 255), (12, .bool false), (13, .int .u64 a.2), (99, .slice (some ⟨h.length, 0, none⟩) l.length l.length), (100, iv l.length), (101, iv a.1)])
    (fun a h' => a.1 ≤ l.length ∧ h' = h ++ [.cells false true h.length 0 5 (l.map bv)] ∧ a.2 ≤ 255 ∧ puS 16 255 0 l = puS 16 255 a.2 (l.drop a.1)) (fun a => l.length - a.1) (0, 0)
    ⟨Nat.zero_le _, rfl, Nat.zero_le _, rfl⟩ ⟨rfl, rfl, rfl, rfl, rfl, rfl, rfl, rfl, rfl, trivial⟩ ?_
  rintro ⟨i, n⟩ h1 Ψ2 ⟨i1, rfl, hn, heq⟩ next out
  simp only at i1 hn heq
  by_cases hi : (i : Int) < (l.length : Int)
  · have hil : i < l.length := by omega
    have g0 : (0 : Int) ≤ (i : Int) := by omega
    have hwi : IntKind.i64.wrap ((i : Int) + 1) = ((i + 1 : Nat) : Int) := by rw [i64w (by omega) (by omega)]; omega
    have hc : l[i]? = some l[i] := List.getElem?_eq_getElem hil
    have hlt := l[i].toNat_lt
    have key : ∀ (b : Bool), (if b then false else false) = false := by intro b; cases b <;> rfl
    by_cases hd1 : (48 : Int) ≤ (l[i].toNat : Int) ∧ (l[i].toNat : Int) ≤ 57
    · have hd := dg_digit hd1.1 hd1.2
      have h95 : ¬ (l[i].toNat : Int) = 95 := by omega
      have hwd : IntKind.u8.wrap ((l[i].toNat : Int) - 48) = (dg l[i] : Int) := by rw [u8w (by omega) (by omega), hd]; omega
      simp only [mach, mach2, mstd, ↓reduceIte, Nat.reduceEqDiff, Nat.reduceAdd, Nat.reduceMul, hi, g0, and_self, Int.toNat_natCast, Nat.mul_one, ld_by hc, h95, hd1.1, hd1.2, hwd, kw8]
      have hdn : (dg l[i] : Int) ≤ 35 := by omega
      by_cases hb : (16 : Int) ≤ (dg l[i] : Int)
      · simp only [mach, mach2, mstd, ↓reduceIte, Nat.reduceEqDiff, Nat.reduceAdd, Nat.reduceMul, eq_true hb, mbl, Nat.reduceLeDiff, Nat.reduceLT, Int.reduceEq]
        refine out .ret _ _ _ _ (by intro e; cases e) ?_
        simp only [mach, mach2, mstd, ↓reduceIte, Nat.reduceEqDiff, Nat.reduceAdd, Nat.reduceMul]
        refine hΨ _ _ (fin_ret (rv2 rfl rfl ⟨rfl, kp, ?_⟩))
        rw [heq, List.drop_eq_getElem_cons hil, puS, if_pos (by omega)]; rfl
      by_cases hcut : (1152921504606846976 : Int) ≤ (n : Int)
      · simp only [mach, mach2, mstd, ↓reduceIte, Nat.reduceEqDiff, Nat.reduceAdd, Nat.reduceMul, hb, eq_true hcut, mbl, Nat.reduceLeDiff, Nat.reduceLT, Int.reduceEq]
        refine out .ret _ _ _ _ (by intro e; cases e) ?_
        simp only [mach, mach2, mstd, ↓reduceIte, Nat.reduceEqDiff, Nat.reduceAdd, Nat.reduceMul]
        refine hΨ _ _ (fin_ret (rv2 rfl rfl ⟨rfl, kp, ?_⟩))
        rw [heq, List.drop_eq_getElem_cons hil, puS, if_neg (by omega), if_pos (by omega)]; rfl
      have hw1 : IntKind.u64.wrap ((n : Int) * 16) = ((n * 16 : Nat) : Int) := by rw [u64w (by omega) (by omega)]; omega
      have hw2 : IntKind.u64.wrap (dg l[i] : Int) = (dg l[i] : Int) := u64w (by omega) (by omega)
      by_cases hov : ((n * 16 + dg l[i] : Nat) : Int) ≤ 255
      · have hw3 : IntKind.u64.wrap (((n * 16 : Nat) : Int) + (dg l[i] : Int)) = ((n * 16 + dg l[i] : Nat) : Int) := by rw [u64w (by omega) (by omega)]; omega
        have c1 : (((n * 16 + dg l[i] : Nat) : Int) < ((n * 16 : Nat) : Int)) = False := by simp only [eq_iff_iff, iff_false]; omega
        have c2 : ((255 : Int) < ((n * 16 + dg l[i] : Nat) : Int)) = False := by simp only [eq_iff_iff, iff_false]; omega
        simp only [mach, mach2, mstd, ↓reduceIte, Nat.reduceEqDiff, Nat.reduceAdd, Nat.reduceMul, hb, hcut, hw1, hw2, hw3, c1, c2, hwi, kw64]
        refine next (i + 1, n * 16 + dg l[i]) _ _ _ ⟨by simp only; omega, rfl, by simp only; omega, ?_⟩ ⟨rfl, rfl, rfl, rfl, rfl, rfl, rfl, rfl, rfl, trivial⟩ (by simp only; omega)
        rw [heq, List.drop_eq_getElem_cons hil, puS, if_neg (by omega), if_neg (by omega)]
      · have rng : puS 16 255 0 l = .rng := by rw [heq, List.drop_eq_getElem_cons hil, puS, if_neg (by omega), if_pos (by omega)]
        by_cases hbig : ((n * 16 + dg l[i] : Nat) : Int) ≤ 18446744073709551615
        · have hw3 : IntKind.u64.wrap (((n * 16 : Nat) : Int) + (dg l[i] : Int)) = ((n * 16 + dg l[i] : Nat) : Int) := by rw [u64w (by omega) (by omega)]; omega
          have c1 : (((n * 16 + dg l[i] : Nat) : Int) < ((n * 16 : Nat) : Int)) = False := by simp only [eq_iff_iff, iff_false]; omega
          have c2 : ((255 : Int) < ((n * 16 + dg l[i] : Nat) : Int)) = True := by simp only [eq_iff_iff, iff_true]; omega
          simp only [mach, mach2, mstd, ↓reduceIte, Nat.reduceEqDiff, Nat.reduceAdd, Nat.reduceMul, hb, hcut, hw1, hw2, hw3, c1, c2, hwi, kw64, mbl, Nat.reduceLeDiff, Nat.reduceLT, Int.reduceEq]
          refine out .ret _ _ _ _ (by intro e; cases e) ?_
          simp only [mach, mach2, mstd, ↓reduceIte, Nat.reduceEqDiff, Nat.reduceAdd, Nat.reduceMul]
          exact hΨ _ _ (fin_ret (rv2 rfl rfl ⟨rfl, kp, by rw [rng]; rfl⟩))
        · have hw3 : IntKind.u64.wrap (((n * 16 : Nat) : Int) + (dg l[i] : Int)) = ((n * 16 : Nat) : Int) + (dg l[i] : Int) - 18446744073709551616 := u64over (by omega) (by omega)
          have c1 : (((n * 16 : Nat) : Int) + (dg l[i] : Int) - 18446744073709551616 < ((n * 16 : Nat) : Int)) = True := by simp only [eq_iff_iff, iff_true]; omega
          simp only [mach, mach2, mstd, ↓reduceIte, Nat.reduceEqDiff, Nat.reduceAdd, Nat.reduceMul, hb, hcut, hw1, hw2, hw3, c1, hwi, kw64, mbl, Nat.reduceLeDiff, Nat.reduceLT, Int.reduceEq]
          refine out .ret _ _ _ _ (by intro e; cases e) ?_
          simp only [mach, mach2, mstd, ↓reduceIte, Nat.reduceEqDiff, Nat.reduceAdd, Nat.reduceMul]
          exact hΨ _ _ (fin_ret (rv2 rfl rfl ⟨rfl, kp, by rw [rng]; rfl⟩))
    · have hlo := (l[i] ||| 32).toNat_lt
      by_cases h95 : (l[i].toNat : Int) = 95
      · have hlow : (l[i] ||| 32).toNat = 127 := by rw [show l[i] = 95 from UInt8.toNat_inj.1 (by simpa using (by omega : l[i].toNat = 95))]; rfl
        have hp1 : (48 : Int) ≤ (l[i].toNat : Int) := by omega
        have hp2 : ¬ (l[i].toNat : Int) ≤ 57 := by omega
        simp only [mach, mach2, mstd, ↓reduceIte, Nat.reduceEqDiff, Nat.reduceAdd, Nat.reduceMul, hi, g0, and_self, Int.toNat_natCast, Nat.mul_one, ld_by hc, eq_true h95, hp1, hp2]
        refine XX_val (lower_ok _ _) ?_
        have hq1 : (97 : Int) ≤ ((l[i] ||| 32).toNat : Int) := by omega
        have hq2 : ¬ ((l[i] ||| 32).toNat : Int) ≤ 122 := by omega
        simp only [mach, mach2, mstd, ↓reduceIte, Nat.reduceEqDiff, Nat.reduceAdd, Nat.reduceMul, hq1]
        refine XX_val (lower_ok _ _) ?_
        simp only [mach, mach2, mstd, ↓reduceIte, Nat.reduceEqDiff, Nat.reduceAdd, Nat.reduceMul, hq2, mbl, Nat.reduceLeDiff, Nat.reduceLT, Int.reduceEq]
        refine out .ret _ _ _ _ (by intro e; cases e) ?_
        simp only [mach, mach2, mstd, ↓reduceIte, Nat.reduceEqDiff, Nat.reduceAdd, Nat.reduceMul]
        refine hΨ _ _ (fin_ret (rv2 rfl rfl ⟨rfl, kp, ?_⟩))
        rw [heq, List.drop_eq_getElem_cons hil, puS, if_pos (by rw [dg_none (by omega) (by omega)]; omega)]; rfl
      · by_cases hq : (97 : Int) ≤ ((l[i] ||| 32).toNat : Int) ∧ ((l[i] ||| 32).toNat : Int) ≤ 122
        · have hd := dg_letter hd1 hq.1 hq.2
          have hwd1 : IntKind.u8.wrap (((l[i] ||| 32).toNat : Int) - 97) = ((l[i] ||| 32).toNat : Int) - 97 := u8w (by omega) (by omega)
          have hwd : IntKind.u8.wrap (((l[i] ||| 32).toNat : Int) - 97 + 10) = (dg l[i] : Int) := by rw [u8w (by omega) (by omega), hd]; omega
          by_cases hp1 : (48 : Int) ≤ (l[i].toNat : Int)
          · have hp2 : ¬ (l[i].toNat : Int) ≤ 57 := by omega
            simp only [mach, mach2, mstd, ↓reduceIte, Nat.reduceEqDiff, Nat.reduceAdd, Nat.reduceMul, hi, g0, and_self, Int.toNat_natCast, Nat.mul_one, ld_by hc, h95, hp1, hp2]
            refine XX_val (lower_ok _ _) ?_
            simp only [mach, mach2, mstd, ↓reduceIte, Nat.reduceEqDiff, Nat.reduceAdd, Nat.reduceMul, hq.1]
            refine XX_val (lower_ok _ _) ?_
            simp only [mach, mach2, mstd, ↓reduceIte, Nat.reduceEqDiff, Nat.reduceAdd, Nat.reduceMul, hq.2]
            refine XX_val (lower_ok _ _) ?_
            simp only [mach, mach2, mstd, ↓reduceIte, Nat.reduceEqDiff, Nat.reduceAdd, Nat.reduceMul, hwd1, hwd, kw8]
            have hdn : (dg l[i] : Int) ≤ 35 := by omega
            by_cases hb : (16 : Int) ≤ (dg l[i] : Int)
            · simp only [mach, mach2, mstd, ↓reduceIte, Nat.reduceEqDiff, Nat.reduceAdd, Nat.reduceMul, eq_true hb, mbl, Nat.reduceLeDiff, Nat.reduceLT, Int.reduceEq]
              refine out .ret _ _ _ _ (by intro e; cases e) ?_
              simp only [mach, mach2, mstd, ↓reduceIte, Nat.reduceEqDiff, Nat.reduceAdd, Nat.reduceMul]
              refine hΨ _ _ (fin_ret (rv2 rfl rfl ⟨rfl, kp, ?_⟩))
              rw [heq, List.drop_eq_getElem_cons hil, puS, if_pos (by omega)]; rfl
            by_cases hcut : (1152921504606846976 : Int) ≤ (n : Int)
            · simp only [mach, mach2, mstd, ↓reduceIte, Nat.reduceEqDiff, Nat.reduceAdd, Nat.reduceMul, hb, eq_true hcut, mbl, Nat.reduceLeDiff, Nat.reduceLT, Int.reduceEq]
              refine out .ret _ _ _ _ (by intro e; cases e) ?_
              simp only [mach, mach2, mstd, ↓reduceIte, Nat.reduceEqDiff, Nat.reduceAdd, Nat.reduceMul]
              refine hΨ _ _ (fin_ret (rv2 rfl rfl ⟨rfl, kp, ?_⟩))
              rw [heq, List.drop_eq_getElem_cons hil, puS, if_neg (by omega), if_pos (by omega)]; rfl
            have hw1 : IntKind.u64.wrap ((n : Int) * 16) = ((n * 16 : Nat) : Int) := by rw [u64w (by omega) (by omega)]; omega
            have hw2 : IntKind.u64.wrap (dg l[i] : Int) = (dg l[i] : Int) := u64w (by omega) (by omega)
            by_cases hov : ((n * 16 + dg l[i] : Nat) : Int) ≤ 255
            · have hw3 : IntKind.u64.wrap (((n * 16 : Nat) : Int) + (dg l[i] : Int)) = ((n * 16 + dg l[i] : Nat) : Int) := by rw [u64w (by omega) (by omega)]; omega
              have c1 : (((n * 16 + dg l[i] : Nat) : Int) < ((n * 16 : Nat) : Int)) = False := by simp only [eq_iff_iff, iff_false]; omega
              have c2 : ((255 : Int) < ((n * 16 + dg l[i] : Nat) : Int)) = False := by simp only [eq_iff_iff, iff_false]; omega
              simp only [mach, mach2, mstd, ↓reduceIte, Nat.reduceEqDiff, Nat.reduceAdd, Nat.reduceMul, hb, hcut, hw1, hw2, hw3, c1, c2, hwi, kw64]
              refine next (i + 1, n * 16 + dg l[i]) _ _ _ ⟨by simp only; omega, rfl, by simp only; omega, ?_⟩ ⟨rfl, rfl, rfl, rfl, rfl, rfl, rfl, rfl, rfl, trivial⟩ (by simp only; omega)
              rw [heq, List.drop_eq_getElem_cons hil, puS, if_neg (by omega), if_neg (by omega)]
            · have rng : puS 16 255 0 l = .rng := by rw [heq, List.drop_eq_getElem_cons hil, puS, if_neg (by omega), if_pos (by omega)]
              by_cases hbig : ((n * 16 + dg l[i] : Nat) : Int) ≤ 18446744073709551615
              · have hw3 : IntKind.u64.wrap (((n * 16 : Nat) : Int) + (dg l[i] : Int)) = ((n * 16 + dg l[i] : Nat) : Int) := by rw [u64w (by omega) (by omega)]; omega
                have c1 : (((n * 16 + dg l[i] : Nat) : Int) < ((n * 16 : Nat) : Int)) = False := by simp only [eq_iff_iff, iff_false]; omega
                have c2 : ((255 : Int) < ((n * 16 + dg l[i] : Nat) : Int)) = True := by simp only [eq_iff_iff, iff_true]; omega
                simp only [mach, mach2, mstd, ↓reduceIte, Nat.reduceEqDiff, Nat.reduceAdd, Nat.reduceMul, hb, hcut, hw1, hw2, hw3, c1, c2, hwi, kw64, mbl, Nat.reduceLeDiff, Nat.reduceLT, Int.reduceEq]
                refine out .ret _ _ _ _ (by intro e; cases e) ?_
                simp only [mach, mach2, mstd, ↓reduceIte, Nat.reduceEqDiff, Nat.reduceAdd, Nat.reduceMul]
                exact hΨ _ _ (fin_ret (rv2 rfl rfl ⟨rfl, kp, by rw [rng]; rfl⟩))
              · have hw3 : IntKind.u64.wrap (((n * 16 : Nat) : Int) + (dg l[i] : Int)) = ((n * 16 : Nat) : Int) + (dg l[i] : Int) - 18446744073709551616 := u64over (by omega) (by omega)
                have c1 : (((n * 16 : Nat) : Int) + (dg l[i] : Int) - 18446744073709551616 < ((n * 16 : Nat) : Int)) = True := by simp only [eq_iff_iff, iff_true]; omega
                simp only [mach, mach2, mstd, ↓reduceIte, Nat.reduceEqDiff, Nat.reduceAdd, Nat.reduceMul, hb, hcut, hw1, hw2, hw3, c1, hwi, kw64, mbl, Nat.reduceLeDiff, Nat.reduceLT, Int.reduceEq]
                refine out .ret _ _ _ _ (by intro e; cases e) ?_
                simp only [mach, mach2, mstd, ↓reduceIte, Nat.reduceEqDiff, Nat.reduceAdd, Nat.reduceMul]
                exact hΨ _ _ (fin_ret (rv2 rfl rfl ⟨rfl, kp, by rw [rng]; rfl⟩))
          · simp only [mach, mach2, mstd, ↓reduceIte, Nat.reduceEqDiff, Nat.reduceAdd, Nat.reduceMul, hi, g0, and_self, Int.toNat_natCast, Nat.mul_one, ld_by hc, h95, hp1]
            refine XX_val (lower_ok _ _) ?_
            simp only [mach, mach2, mstd, ↓reduceIte, Nat.reduceEqDiff, Nat.reduceAdd, Nat.reduceMul, hq.1]
            refine XX_val (lower_ok _ _) ?_
            simp only [mach, mach2, mstd, ↓reduceIte, Nat.reduceEqDiff, Nat.reduceAdd, Nat.reduceMul, hq.2]
            refine XX_val (lower_ok _ _) ?_
            simp only [mach, mach2, mstd, ↓reduceIte, Nat.reduceEqDiff, Nat.reduceAdd, Nat.reduceMul, hwd1, hwd, kw8]
            have hdn : (dg l[i] : Int) ≤ 35 := by omega
            by_cases hb : (16 : Int) ≤ (dg l[i] : Int)
            · simp only [mach, mach2, mstd, ↓reduceIte, Nat.reduceEqDiff, Nat.reduceAdd, Nat.reduceMul, eq_true hb, mbl, Nat.reduceLeDiff, Nat.reduceLT, Int.reduceEq]
              refine out .ret _ _ _ _ (by intro e; cases e) ?_
              simp only [mach, mach2, mstd, ↓reduceIte, Nat.reduceEqDiff, Nat.reduceAdd, Nat.reduceMul]
              refine hΨ _ _ (fin_ret (rv2 rfl rfl ⟨rfl, kp, ?_⟩))
              rw [heq, List.drop_eq_getElem_cons hil, puS, if_pos (by omega)]; rfl
            by_cases hcut : (1152921504606846976 : Int) ≤ (n : Int)
            · simp only [mach, mach2, mstd, ↓reduceIte, Nat.reduceEqDiff, Nat.reduceAdd, Nat.reduceMul, hb, eq_true hcut, mbl, Nat.reduceLeDiff, Nat.reduceLT, Int.reduceEq]
              refine out .ret _ _ _ _ (by intro e; cases e) ?_
              simp only [mach, mach2, mstd, ↓reduceIte, Nat.reduceEqDiff, Nat.reduceAdd, Nat.reduceMul]
              refine hΨ _ _ (fin_ret (rv2 rfl rfl ⟨rfl, kp, ?_⟩))
              rw [heq, List.drop_eq_getElem_cons hil, puS, if_neg (by omega), if_pos (by omega)]; rfl
            have hw1 : IntKind.u64.wrap ((n : Int) * 16) = ((n * 16 : Nat) : Int) := by rw [u64w (by omega) (by omega)]; omega
            have hw2 : IntKind.u64.wrap (dg l[i] : Int) = (dg l[i] : Int) := u64w (by omega) (by omega)
            by_cases hov : ((n * 16 + dg l[i] : Nat) : Int) ≤ 255
            · have hw3 : IntKind.u64.wrap (((n * 16 : Nat) : Int) + (dg l[i] : Int)) = ((n * 16 + dg l[i] : Nat) : Int) := by rw [u64w (by omega) (by omega)]; omega
              have c1 : (((n * 16 + dg l[i] : Nat) : Int) < ((n * 16 : Nat) : Int)) = False := by simp only [eq_iff_iff, iff_false]; omega
              have c2 : ((255 : Int) < ((n * 16 + dg l[i] : Nat) : Int)) = False := by simp only [eq_iff_iff, iff_false]; omega
              simp only [mach, mach2, mstd, ↓reduceIte, Nat.reduceEqDiff, Nat.reduceAdd, Nat.reduceMul, hb, hcut, hw1, hw2, hw3, c1, c2, hwi, kw64]
              refine next (i + 1, n * 16 + dg l[i]) _ _ _ ⟨by simp only; omega, rfl, by simp only; omega, ?_⟩ ⟨rfl, rfl, rfl, rfl, rfl, rfl, rfl, rfl, rfl, trivial⟩ (by simp only; omega)
              rw [heq, List.drop_eq_getElem_cons hil, puS, if_neg (by omega), if_neg (by omega)]
            · have rng : puS 16 255 0 l = .rng := by rw [heq, List.drop_eq_getElem_cons hil, puS, if_neg (by omega), if_pos (by omega)]
              by_cases hbig : ((n * 16 + dg l[i] : Nat) : Int) ≤ 18446744073709551615
              · have hw3 : IntKind.u64.wrap (((n * 16 : Nat) : Int) + (dg l[i] : Int)) = ((n * 16 + dg l[i] : Nat) : Int) := by rw [u64w (by omega) (by omega)]; omega
                have c1 : (((n * 16 + dg l[i] : Nat) : Int) < ((n * 16 : Nat) : Int)) = False := by simp only [eq_iff_iff, iff_false]; omega
                have c2 : ((255 : Int) < ((n * 16 + dg l[i] : Nat) : Int)) = True := by simp only [eq_iff_iff, iff_true]; omega
                simp only [mach, mach2, mstd, ↓reduceIte, Nat.reduceEqDiff, Nat.reduceAdd, Nat.reduceMul, hb, hcut, hw1, hw2, hw3, c1, c2, hwi, kw64, mbl, Nat.reduceLeDiff, Nat.reduceLT, Int.reduceEq]
                refine out .ret _ _ _ _ (by intro e; cases e) ?_
                simp only [mach, mach2, mstd, ↓reduceIte, Nat.reduceEqDiff, Nat.reduceAdd, Nat.reduceMul]
                exact hΨ _ _ (fin_ret (rv2 rfl rfl ⟨rfl, kp, by rw [rng]; rfl⟩))
              · have hw3 : IntKind.u64.wrap (((n * 16 : Nat) : Int) + (dg l[i] : Int)) = ((n * 16 : Nat) : Int) + (dg l[i] : Int) - 18446744073709551616 := u64over (by omega) (by omega)
                have c1 : (((n * 16 : Nat) : Int) + (dg l[i] : Int) - 18446744073709551616 < ((n * 16 : Nat) : Int)) = True := by simp only [eq_iff_iff, iff_true]; omega
                simp only [mach, mach2, mstd, ↓reduceIte, Nat.reduceEqDiff, Nat.reduceAdd, Nat.reduceMul, hb, hcut, hw1, hw2, hw3, c1, hwi, kw64, mbl, Nat.reduceLeDiff, Nat.reduceLT, Int.reduceEq]
                refine out .ret _ _ _ _ (by intro e; cases e) ?_
                simp only [mach, mach2, mstd, ↓reduceIte, Nat.reduceEqDiff, Nat.reduceAdd, Nat.reduceMul]
                exact hΨ _ _ (fin_ret (rv2 rfl rfl ⟨rfl, kp, by rw [rng]; rfl⟩))
        · have hsyn : puS 16 255 0 l = .syn := by rw [heq, List.drop_eq_getElem_cons hil, puS, if_pos (by rw [dg_none (by omega) (by omega)]; omega)]
          by_cases hp1 : (48 : Int) ≤ (l[i].toNat : Int)
          · have hp2 : ¬ (l[i].toNat : Int) ≤ 57 := by omega
            simp only [mach, mach2, mstd, ↓reduceIte, Nat.reduceEqDiff, Nat.reduceAdd, Nat.reduceMul, hi, g0, and_self, Int.toNat_natCast, Nat.mul_one, ld_by hc, h95, hp1, hp2]
            refine XX_val (lower_ok _ _) ?_
            by_cases hq1 : (97 : Int) ≤ ((l[i] ||| 32).toNat : Int)
            · have hq2 : ¬ ((l[i] ||| 32).toNat : Int) ≤ 122 := by omega
              simp only [mach, mach2, mstd, ↓reduceIte, Nat.reduceEqDiff, Nat.reduceAdd, Nat.reduceMul, hq1]
              refine XX_val (lower_ok _ _) ?_
              simp only [mach, mach2, mstd, ↓reduceIte, Nat.reduceEqDiff, Nat.reduceAdd, Nat.reduceMul, hq2, mbl, Nat.reduceLeDiff, Nat.reduceLT, Int.reduceEq]
              refine out .ret _ _ _ _ (by intro e; cases e) ?_
              simp only [mach, mach2, mstd, ↓reduceIte, Nat.reduceEqDiff, Nat.reduceAdd, Nat.reduceMul]
              exact hΨ _ _ (fin_ret (rv2 rfl rfl ⟨rfl, kp, by rw [hsyn]; rfl⟩))
            · simp only [mach, mach2, mstd, ↓reduceIte, Nat.reduceEqDiff, Nat.reduceAdd, Nat.reduceMul, hq1, mbl, Nat.reduceLeDiff, Nat.reduceLT, Int.reduceEq]
              refine out .ret _ _ _ _ (by intro e; cases e) ?_
              simp only [mach, mach2, mstd, ↓reduceIte, Nat.reduceEqDiff, Nat.reduceAdd, Nat.reduceMul]
              exact hΨ _ _ (fin_ret (rv2 rfl rfl ⟨rfl, kp, by rw [hsyn]; rfl⟩))
          · simp only [mach, mach2, mstd, ↓reduceIte, Nat.reduceEqDiff, Nat.reduceAdd, Nat.reduceMul, hi, g0, and_self, Int.toNat_natCast, Nat.mul_one, ld_by hc, h95, hp1]
            refine XX_val (lower_ok _ _) ?_
            by_cases hq1 : (97 : Int) ≤ ((l[i] ||| 32).toNat : Int)
            · have hq2 : ¬ ((l[i] ||| 32).toNat : Int) ≤ 122 := by omega
              simp only [mach, mach2, mstd, ↓reduceIte, Nat.reduceEqDiff, Nat.reduceAdd, Nat.reduceMul, hq1]
              refine XX_val (lower_ok _ _) ?_
              simp only [mach, mach2, mstd, ↓reduceIte, Nat.reduceEqDiff, Nat.reduceAdd, Nat.reduceMul, hq2, mbl, Nat.reduceLeDiff, Nat.reduceLT, Int.reduceEq]
              refine out .ret _ _ _ _ (by intro e; cases e) ?_
              simp only [mach, mach2, mstd, ↓reduceIte, Nat.reduceEqDiff, Nat.reduceAdd, Nat.reduceMul]
              exact hΨ _ _ (fin_ret (rv2 rfl rfl ⟨rfl, kp, by rw [hsyn]; rfl⟩))
            · simp only [mach, mach2, mstd, ↓reduceIte, Nat.reduceEqDiff, Nat.reduceAdd, Nat.reduceMul, hq1, mbl, Nat.reduceLeDiff, Nat.reduceLT, Int.reduceEq]
              refine out .ret _ _ _ _ (by intro e; cases e) ?_
              simp only [mach, mach2, mstd, ↓reduceIte, Nat.reduceEqDiff, Nat.reduceAdd, Nat.reduceMul]
              exact hΨ _ _ (fin_ret (rv2 rfl rfl ⟨rfl, kp, by rw [hsyn]; rfl⟩))
  · have hie : i = l.length := by omega
    simp only [mach, mach2, mstd, ↓reduceIte, Nat.reduceEqDiff, Nat.reduceAdd, Nat.reduceMul, hi]
    refine out (.exit 3) _ _ _ _ (by intro e; cases e) ?_
    simp only [mach, mach2, mstd, ↓reduceIte, Nat.reduceEqDiff, Nat.reduceAdd, Nat.reduceMul]
    refine hΨ _ _ (fin_ret (rv2 rfl rfl ⟨rfl, kp, ?_⟩))
    rw [heq, hie, List.drop_length, puS]; rfl
end Go.S07
