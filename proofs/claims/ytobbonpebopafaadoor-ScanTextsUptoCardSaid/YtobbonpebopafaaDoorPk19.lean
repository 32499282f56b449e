import Derived.Test.YtobbonpebopafaaDoorPk18
import Derived.Test.YtobbonpebopafaaDoorPk16
import Derived.Shelf.Strconv.Itoa3
import Derived.Test.YtobbonpebopafaaDoorProg
import Derived.Test.YtobbonpebopafaaDoorPk14
/- Tokens: a text's tokens, what Tokens comes to. -/
set_option linter.unusedVariables false
set_option linter.unusedSimpArgs false
namespace Go.S07
open Go Go.Eng Go.Proofs Go.Scn

theorem skp_plc {s : Bs} {p : Nat} {r : Bs} (hp : p ≤ s.length) (h : skp (s.drop p) = .ok r) : ∃ q, p ≤ q ∧ q ≤ s.length ∧ r = s.drop q ∧ s.length - r.length = q := by
  obtain ⟨_, n, rfl⟩ := skp_fix h
  by_cases hn : n ≤ s.length - p
  · refine ⟨p + n, by omega, by omega, by rw [List.drop_drop], ?_⟩
    simp; omega
  · refine ⟨s.length, by omega, Nat.le_refl _, ?_, ?_⟩
    · rw [List.drop_drop, List.drop_length, List.drop_eq_nil_of_le (by omega)]
    · rw [List.drop_drop, List.drop_eq_nil_of_le (by omega)]; simp

section
variable {h : AH} {s : Bs}

set_option maxHeartbeats 4000000 in
theorem Tokens_ok (s : Bs) (h : AH) : Gets Tryd.prog 10 [tv s] h (TokO h s) := by
  refine Gets.ofd (keep := false) (keepg := false) hP (draw_ok hM) (draw_ok hM) k10 k20 (by rfl) (fun Ψ hΨ => ?_)
  have oA0 := Own.new h tlT h.length [.slice none 0 0]
  have kp1 : Keep (fun _ => False) h (h ++ [row tlT h.length [.slice none 0 0]]) := Keep.push _ _ _
  by_cases h8 : (8000 : Int) < (s.length : Int)
  · simp only [mach, mach2, mstd, ↓reduceIte, Nat.reduceEqDiff, Nat.reduceAdd, Nat.reduceMul, r10, mbl, Nat.reduceLeDiff, Nat.reduceLT, Int.reduceEq, tx_size, eq_true h8]
    generalize hh1 : h ++ [row tlT h.length [.slice none 0 0]] = h1 at oA0 kp1 ⊢
    have hl1 : h1.length = h.length + 1 := by rw [← hh1]; simp
    have oB0 := Own.new h1 inT h1.length [iv 0]
    have kp2 : Keep (fun _ => False) h1 (h1 ++ [row inT h1.length [iv 0]]) := Keep.push _ _ _
    generalize hh2 : h1 ++ [row inT h1.length [iv 0]] = h2 at oB0 kp2 ⊢
    have hl2 : h2.length = h1.length + 1 := by rw [← hh2]; simp
    have oC := Own.new h2 erT h2.length [iv 0]
    have kp3 : Keep (fun _ => False) h2 (h2 ++ [row erT h2.length [iv 0]]) := Keep.push _ _ _
    generalize hh3 : h2 ++ [row erT h2.length [iv 0]] = h3 at oC kp3 ⊢
    have hl3 : h3.length = h2.length + 1 := by rw [← hh3]; simp
    have oA := (oA0.keep kp2 (fun e => e)).keep kp3 (fun e => e)
    have oB := oB0.keep kp3 (fun e => e)
    refine XH_own oA rfl (by simp [Value.cells]) rfl (fun h5 p1 p2 p3 => ?_)
    have oA5 : Own h5 h.length tlT [.slice none 0 0] := by simpa [Value.cells] using p1
    have oB5 := oB.keep p2 (fun e => by omega)
    have oC5 := oC.keep p2 (fun e => by omega)
    simp only [mach, mach2, mstd, ↓reduceIte, Nat.reduceEqDiff, Nat.reduceAdd, Nat.reduceMul]
    refine XH_own oB5 rfl (by simp [Value.cells]) rfl (fun h6 t1 t2 t3 => ?_)
    have oB6 : Own h6 h1.length inT [iv 0] := by simpa [Value.cells] using t1
    have oA6 := oA5.keep t2 (fun e => by omega)
    have oC6 := oC5.keep t2 (fun e => by omega)
    simp only [mach, mach2, mstd, ↓reduceIte, Nat.reduceEqDiff, Nat.reduceAdd, Nat.reduceMul]
    refine XH_own oC6 rfl (by simp [Value.cells]) rfl (fun h7 u1 u2 u3 => ?_)
    have oC7 : Own h7 h2.length erT [iv 11] := by simpa [Value.cells] using u1
    have oA7 := oA6.keep u2 (fun e => by omega)
    have oB7 := oB6.keep u2 (fun e => by omega)
    simp only [mach, mach2, mstd, ↓reduceIte, Nat.reduceEqDiff, Nat.reduceAdd, Nat.reduceMul]
    have kk : Keep (fun _ => False) h h7 := ((((kp1.trans kp2).trans kp3).trans' p2 (fun c hc e => by omega)).trans' t2 (fun c hc e => by omega)).trans' u2 (fun c hc e => by omega)
    have hF : tokF s = ([], 0, 11) := by rw [tokF, if_pos (by omega)]
    refine hΨ _ _ (dfr_no (rvc3 (p := .pointer (some ⟨h.length, 0, none⟩)) (q := .pointer (some ⟨h1.length, 0, none⟩)) (r := .pointer (some ⟨h2.length, 0, none⟩)) (u := .slice none 0 0) (v := iv 0) (w := iv 11) rfl ?_ rfl ?_ rfl ?_ ⟨kk, .slice none 0 0, by rw [hF]; rfl, by rw [hF]; exact .nil, fun q e => e.elim⟩))
    · simp only [uval]; rw [oA7.cells.ld]; rfl
    · simp only [uval]; rw [oB7.cells.ld]; rfl
    · simp only [uval]; rw [oC7.cells.ld]; rfl
  · simp only [mach, mach2, mstd, ↓reduceIte, Nat.reduceEqDiff, Nat.reduceAdd, Nat.reduceMul, r10, mbl, Nat.reduceLeDiff, Nat.reduceLT, Int.reduceEq, tx_size, h8]
    generalize hh1 : h ++ [row tlT h.length [.slice none 0 0]] = h1 at oA0 kp1 ⊢
    have hl1 : h1.length = h.length + 1 := by rw [← hh1]; simp
    have oB0 := Own.new h1 inT h1.length [iv 0]
    have kp2 : Keep (fun _ => False) h1 (h1 ++ [row inT h1.length [iv 0]]) := Keep.push _ _ _
    generalize hh2 : h1 ++ [row inT h1.length [iv 0]] = h2 at oB0 kp2 ⊢
    have hl2 : h2.length = h1.length + 1 := by rw [← hh2]; simp
    have oC0 := Own.new h2 erT h2.length [iv 0]
    have kp3 : Keep (fun _ => False) h2 (h2 ++ [row erT h2.length [iv 0]]) := Keep.push _ _ _
    generalize hh3 : h2 ++ [row erT h2.length [iv 0]] = h3 at oC0 kp3 ⊢
    have hl3 : h3.length = h2.length + 1 := by rw [← hh3]; simp
    have oS := Own.new h3 41 h3.length [tv s, iv 0, .slice none 0 0]
    have kp4 : Keep (fun _ => False) h3 (h3 ++ [row 41 h3.length [tv s, iv 0, .slice none 0 0]]) := Keep.push _ _ _
    generalize hh4 : h3 ++ [row 41 h3.length [tv s, iv 0, .slice none 0 0]] = h4 at oS kp4 ⊢
    have hl4 : h4.length = h3.length + 1 := by rw [← hh4]; simp
    have oA := ((oA0.keep kp2 (fun e => e)).keep kp3 (fun e => e)).keep kp4 (fun e => e)
    have oB := (oB0.keep kp3 (fun e => e)).keep kp4 (fun e => e)
    have oC := oC0.keep kp4 (fun e => e)
    have kpa : Keep (fun _ => False) h h4 := ((kp1.trans kp2).trans kp3).trans kp4
    have x0 : Sc h4 h3.length s 0 [] (.slice none 0 0) := ⟨⟨oS, Nat.zero_le _, by omega⟩, .nil, fun q e => e.elim, Nat.zero_le _⟩
    refine XX_of (skip_ok x0.sc) (fun res h5 hle hr => ?_)
    obtain ⟨k5, hr⟩ := hr
    have kpb : Keep (fun _ => False) h h5 := kpa.trans' k5 (fun c hc e => by omega)
    have oA5 := oA.keep k5 (fun e => by omega)
    have oB5 := oB.keep k5 (fun e => by omega)
    have oC5 := oC.keep k5 (fun e => by omega)
    rw [List.drop_zero] at hr
    cases hsk : skp s with
    | error r =>
      rw [hsk] at hr
      simp only [plc] at hr
      subst hr
      refine .pan ?_
      simp only [mach, mach2, mstd, ↓reduceIte, Nat.reduceEqDiff, Nat.reduceAdd, Nat.reduceMul]
      exact tok_fail hΨ rfl rfl rfl oA5 oB5 oC5 (by omega) (by omega) (by omega) (by omega) (by omega) (by omega) kpb (by omega) (toks_fault hsk)
    | ok r =>
    rw [hsk] at hr
    simp only [plc] at hr
    obtain ⟨rfl, y5⟩ := hr
    obtain ⟨q0, _, hq0, hr0, hr1⟩ := skp_plc (p := 0) (Nat.zero_le _) (by rw [List.drop_zero]; exact hsk)
    rw [hr1] at y5
    have hfix : skp (s.drop q0) = .ok (s.drop q0) := by rw [← hr0]; exact (skp_fix hsk).1
    have hts : toks s.length (s.drop q0) = toks s.length s := by rw [← hr0]; exact (toks_skip hsk).symm
    refine .ret ?_
    simp only [mach, mach2, mstd, ↓reduceIte, Nat.reduceEqDiff, Nat.reduceAdd, Nat.reduceMul]
    refine XLo_rule (α := Nat × List Tk × Value) (fun a => [(0, tv s), (2, .pointer (some ⟨h.length, 0, none⟩)), (3, .pointer (some ⟨h1.length, 0, none⟩)), (4, .pointer (some ⟨h2.length, 0, none⟩)), (5, .pointer (some ⟨h3.length, 0, none⟩))])
      (fun a h' => Keep (fun _ => False) h h' ∧ Own h' h.length tlT [.slice none 0 0] ∧ Own h' h1.length inT [iv 0] ∧ Own h' h2.length erT [iv 0] ∧ Sc h' h3.length s a.1 a.2.1 a.2.2 ∧ skp (s.drop a.1) = .ok (s.drop a.1) ∧ pre a.2.1 (toks s.length (s.drop a.1)) = toks s.length s) (fun a => s.length - a.1) (q0, [], .slice none 0 0)
      ⟨kpb, oA5, oB5, oC5, ⟨y5, .nil, fun q e => e.elim, Nat.zero_le _⟩, hfix, by rw [pre_nil]; exact hts⟩ ⟨rfl, rfl, rfl, rfl, rfl, trivial⟩ ?_
    rintro ⟨p, ts, lv⟩ g1 Ψ2 ⟨kp, nA, nB, nC, x1, hfx, heq⟩ next out
    simp only at x1 hfx heq
    have hple := x1.sc.le
    by_cases hp : (p : Int) < (s.length : Int)
    case neg =>
      have hF : tokF s = (ts, 0, 0) := by
        rw [tokF, if_neg (by omega), ← heq, show s.drop p = [] from List.drop_eq_nil_of_le (by omega), toks_end]
        simp [pre]
      simp only [mach, mach2, mstd, ↓reduceIte, Nat.reduceEqDiff, Nat.reduceAdd, Nat.reduceMul, x1.sc.own.cells.ld, mbl, Nat.reduceLeDiff, Nat.reduceLT, Int.reduceEq, tx_size, hp]
      refine out (.exit 0) _ _ _ _ (by intro e; cases e) ?_
      obtain ⟨va, vc, rfl⟩ := row_shape x1.ow.rds
      simp only [mach, mach2, mstd, ↓reduceIte, Nat.reduceEqDiff, Nat.reduceAdd, Nat.reduceMul, x1.sc.own.cells.ld, mbl, Nat.reduceLeDiff, Nat.reduceLT, Int.reduceEq]
      refine XH_own nA rfl (by simp [Value.cells]) rfl (fun h5 p1 p2 p3 => ?_)
      have oA5 : Own h5 h.length tlT [.slice va ts.length vc] := by simpa [Value.cells] using p1
      have oB5 := nB.keep p2 (fun e => by omega)
      have oC5 := nC.keep p2 (fun e => by omega)
      simp only [mach, mach2, mstd, ↓reduceIte, Nat.reduceEqDiff, Nat.reduceAdd, Nat.reduceMul]
      refine XH_own oB5 rfl (by simp [Value.cells]) rfl (fun h6 t1 t2 t3 => ?_)
      have oB6 : Own h6 h1.length inT [iv 0] := by simpa [Value.cells] using t1
      have oA6 := oA5.keep t2 (fun e => by omega)
      have oC6 := oC5.keep t2 (fun e => by omega)
      simp only [mach, mach2, mstd, ↓reduceIte, Nat.reduceEqDiff, Nat.reduceAdd, Nat.reduceMul]
      refine XH_own oC6 rfl (by simp [Value.cells]) rfl (fun h7 u1 u2 u3 => ?_)
      have oC7 : Own h7 h2.length erT [iv 0] := by simpa [Value.cells] using u1
      have oA7 := oA6.keep u2 (fun e => by omega)
      have oB7 := oB6.keep u2 (fun e => by omega)
      simp only [mach, mach2, mstd, ↓reduceIte, Nat.reduceEqDiff, Nat.reduceAdd, Nat.reduceMul]
      have ow7 := ((x1.ow.keep p2 (fun q hq e => by have := x1.fr q hq; omega)).keep t2 (fun q hq e => by have := x1.fr q hq; omega)).keep u2 (fun q hq e => by have := x1.fr q hq; omega)
      refine tok_done hΨ rfl rfl rfl oA7 (by rw [hF]; exact oB7) (by rw [hF]; exact oC7) (((kp.trans' p2 (fun c hc e => by omega)).trans' t2 (fun c hc e => by omega)).trans' u2 (fun c hc e => by omega)) (by rw [hF]; exact ow7) (fun q hq => by have := x1.fr q hq; omega)
    simp only [mach, mach2, mstd, ↓reduceIte, Nat.reduceEqDiff, Nat.reduceAdd, Nat.reduceMul, x1.sc.own.cells.ld, mbl, Nat.reduceLeDiff, Nat.reduceLT, Int.reduceEq, tx_size, hp]
    refine XX_of (token_ok x1 (by omega) (by omega)) (fun res g2 hle hr => ?_)
    obtain ⟨k2, hr⟩ := hr
    have kp2 : Keep (fun _ => False) h g2 := kp.trans' k2 (fun c hc e => by omega)
    have mA := nA.keep k2 (fun e => by omega)
    have mB := nB.keep k2 (fun e => by omega)
    have mC := nC.keep k2 (fun e => by omega)
    have hne : s.drop p ≠ [] := by rw [List.drop_eq_getElem_cons (show p < s.length by omega)]; exact List.cons_ne_nil _ _
    have hNp : s.length - (s.drop p).length = p := by rw [List.length_drop]; omega
    cases htk : tokS (s.drop p) with
    | none =>
      rw [toO, htk] at hr
      simp only at hr
      subst hr
      refine .pan ?_
      simp only [mach, mach2, mstd, ↓reduceIte, Nat.reduceEqDiff, Nat.reduceAdd, Nat.reduceMul]
      refine out (.pan _) _ _ _ _ (by intro e; cases e) ?_
      simp only [mach, mach2, mstd, ↓reduceIte, Nat.reduceEqDiff, Nat.reduceAdd, Nat.reduceMul]
      refine tok_fail hΨ rfl rfl rfl mA mB mC (by omega) (by omega) (by omega) (by omega) (by omega) (by omega) kp2 (by omega) (q := p) ?_
      rw [← heq, toks_none hfx hne htk, hNp]; rfl
    | some y =>
      obtain ⟨k, t, v, n⟩ := y
      rw [toO, htk] at hr
      simp only at hr
      obtain ⟨rfl, lv2, x2⟩ := hr
      refine .ret ?_
      have hst : pre (ts ++ [⟨k, t, v, p⟩]) (toks s.length (s.drop (p + n))) = toks s.length s := by
        rw [← heq, toks_step hfx hne htk, pre_pre, hNp, List.drop_drop]
      have hpn := (tokS_pos htk).1
      simp only [mach, mach2, mstd, ↓reduceIte, Nat.reduceEqDiff, Nat.reduceAdd, Nat.reduceMul]
      refine XX_of (skip_ok x2.sc) (fun res g3 hle hr => ?_)
      obtain ⟨k3, hr⟩ := hr
      have kp3 : Keep (fun _ => False) h g3 := kp2.trans' k3 (fun c hc e => by omega)
      have lA := mA.keep k3 (fun e => by omega)
      have lB := mB.keep k3 (fun e => by omega)
      have lC := mC.keep k3 (fun e => by omega)
      cases hsk2 : skp (s.drop (p + n)) with
      | error r =>
        rw [hsk2] at hr
        simp only [plc] at hr
        subst hr
        refine .pan ?_
        simp only [mach, mach2, mstd, ↓reduceIte, Nat.reduceEqDiff, Nat.reduceAdd, Nat.reduceMul]
        refine out (.pan _) _ _ _ _ (by intro e; cases e) ?_
        simp only [mach, mach2, mstd, ↓reduceIte, Nat.reduceEqDiff, Nat.reduceAdd, Nat.reduceMul]
        refine tok_fail hΨ rfl rfl rfl lA lB lC (by omega) (by omega) (by omega) (by omega) (by omega) (by omega) kp3 (by omega) ?_
        rw [← hst, toks_fault hsk2]; rfl
      | ok r =>
        rw [hsk2] at hr
        simp only [plc] at hr
        obtain ⟨rfl, y3⟩ := hr
        refine .ret ?_
        obtain ⟨q, hq1, hq2, hq3, hq4⟩ := skp_plc x2.sc.le hsk2
        rw [hq4] at y3
        simp only [mach, mach2, mstd, ↓reduceIte, Nat.reduceEqDiff, Nat.reduceAdd, Nat.reduceMul]
        refine next (q, ts ++ [⟨k, t, v, p⟩], lv2) _ _ _ ⟨kp3, lA, lB, lC, ⟨y3, x2.ow.keep k3 (fun c hc e => by have := x2.fr c hc; omega), x2.fr, by have := x2.ln; simp only; omega⟩, ?_, ?_⟩ ⟨rfl, rfl, rfl, rfl, rfl, trivial⟩ (by simp only; omega)
        · simp only; rw [← hq3]; exact (skp_fix hsk2).1
        · simp only; rw [← hst, ← hq3, toks_skip hsk2]
end
end Go.S07

/- Tokens: the document's side: bytes, words, names. -/
set_option linter.unusedVariables false
set_option linter.unusedSimpArgs false
namespace Go.S07
open Go Go.Eng Go.Proofs Go.Scn

theorem rsmall_ok : Says 36 small := by
  intro c h
  refine Gets.of (keep := false) hP (draw_ok hM) k36 (by rfl) (fun Ψ hΨ => ?_)
  by_cases h1 : (97:Int) ≤ c.toNat <;> by_cases h2 : (c.toNat : Int) ≤ 122 <;>
    (simp only [mach, mach2, mstd, ↓reduceIte, Nat.reduceEqDiff, Nat.reduceAdd, Nat.reduceMul, r36, h1, h2]; exact hΨ _ _ (fin_ret (rv1 rfl ⟨rfl, by
      first
        | exact congrArg (fun b => Res.ret (.bool b)) (decide_eq_true (by omega)).symm
        | exact congrArg (fun b => Res.ret (.bool b)) (by unfold small; rw [decide_eq_decide]; omega)⟩)))
theorem rlarge_ok : Says 37 large := by
  intro c h
  refine Gets.of (keep := false) hP (draw_ok hM) k37 (by rfl) (fun Ψ hΨ => ?_)
  by_cases h1 : (65:Int) ≤ c.toNat <;> by_cases h2 : (c.toNat : Int) ≤ 90 <;>
    (simp only [mach, mach2, mstd, ↓reduceIte, Nat.reduceEqDiff, Nat.reduceAdd, Nat.reduceMul, r37, h1, h2]; exact hΨ _ _ (fin_ret (rv1 rfl ⟨rfl, (by first | exact congrArg (fun b => Res.ret (.bool b)) (decide_eq_true (by omega)).symm | exact congrArg (fun b => Res.ret (.bool b)) (decide_eq_false (by omega)).symm)⟩)))
theorem rdigit_ok : Says 53 digit := by
  intro c h
  refine Gets.of (keep := false) hP (draw_ok hM) k53 (by rfl) (fun Ψ hΨ => ?_)
  by_cases h1 : (48:Int) ≤ c.toNat <;> by_cases h2 : (c.toNat : Int) ≤ 57 <;>
    (simp only [mach, mach2, mstd, ↓reduceIte, Nat.reduceEqDiff, Nat.reduceAdd, Nat.reduceMul, r53, h1, h2]; exact hΨ _ _ (fin_ret (rv1 rfl ⟨rfl, (by first | exact congrArg (fun b => Res.ret (.bool b)) (decide_eq_true (by omega)).symm | exact congrArg (fun b => Res.ret (.bool b)) (decide_eq_false (by omega)).symm)⟩)))
theorem rinner_ok : Says 38 inner := by
  intro c h
  refine Gets.of (keep := false) hP (draw_ok hM) k38 (by rfl) (fun Ψ hΨ => ?_)
  simp only [mach, mach2, mstd, ↓reduceIte, Nat.reduceEqDiff, Nat.reduceAdd, Nat.reduceMul, r38]
  refine XX_val (rsmall_ok c h) ?_
  cases h1 : small c with
  | true => simp only [mach, mach2, mstd, ↓reduceIte, Nat.reduceEqDiff, Nat.reduceAdd, Nat.reduceMul]; exact hΨ _ _ (fin_ret (rv1 rfl ⟨rfl, by simp [tup, inner, h1]⟩))
  | false =>
  simp only [mach, mach2, mstd, ↓reduceIte, Nat.reduceEqDiff, Nat.reduceAdd, Nat.reduceMul]
  refine XX_val (rlarge_ok c h) ?_
  cases h2 : large c with
  | true => simp only [mach, mach2, mstd, ↓reduceIte, Nat.reduceEqDiff, Nat.reduceAdd, Nat.reduceMul]; exact hΨ _ _ (fin_ret (rv1 rfl ⟨rfl, by simp [tup, inner, h2]⟩))
  | false =>
  simp only [mach, mach2, mstd, ↓reduceIte, Nat.reduceEqDiff, Nat.reduceAdd, Nat.reduceMul]
  refine XX_val (rdigit_ok c h) ?_
  cases h3 : digit c with
  | true => simp only [mach, mach2, mstd, ↓reduceIte, Nat.reduceEqDiff, Nat.reduceAdd, Nat.reduceMul]; exact hΨ _ _ (fin_ret (rv1 rfl ⟨rfl, by simp [tup, inner, h3]⟩))
  | false =>
  simp only [mach, mach2, mstd, ↓reduceIte, Nat.reduceEqDiff, Nat.reduceAdd, Nat.reduceMul]
  exact hΨ _ _ (fin_ret (rv1 rfl ⟨rfl, by
    simp only [tup, inner, h1, h2, h3, Bool.false_or]
    exact congrArg (fun b => Res.ret (.bool b)) (by rw [decide_eq_decide]; omega)⟩))

theorem in_ok (c : UInt8) (l : Bs) (hl : l.length ≤ 8000) (h : AH) : Gets Tryd.prog 51 [bv c, tv l] h (fun res h' => h' = h ∧ res = .ret (.bool (l.contains c))) := by
  refine Gets.of (keep := false) hP (draw_ok hM) k51 (by rfl) (fun Ψ hΨ => ?_)
  simp only [mach, mach2, mstd, ↓reduceIte, Nat.reduceEqDiff, Nat.reduceAdd, Nat.reduceMul, r51]
  refine XLo_rule (α := Nat) (fun i => [(0, bv c), (1, tv l), (5, iv i)]) (fun i h' => h' = h ∧ i ≤ l.length ∧ ∀ j, j < i → l[j]? ≠ some c) (fun i => l.length - i) 0
    ⟨rfl, Nat.zero_le _, fun j hj => by omega⟩ ⟨rfl, rfl, rfl, trivial⟩ ?_
  rintro i h1 Ψ2 ⟨rfl, hi, hall⟩ next out
  by_cases hlt : (i : Int) < (l.length : Int)
  · have hil : i < l.length := by omega
    have hc : l[i]? = some l[i] := List.getElem?_eq_getElem hil
    have g0 : (0 : Int) ≤ (i : Int) := by omega
    have hw : IntKind.i64.wrap ((i : Int) + 1) = ((i + 1 : Nat) : Int) := by rw [i64w (by omega) (by omega)]; omega
    by_cases he : (l[i].toNat : Int) = (c.toNat : Int)
    · have hec : l[i] = c := UInt8.toNat_inj.1 (by omega)
      simp only [mach, mach2, mstd, ↓reduceIte, Nat.reduceEqDiff, Nat.reduceAdd, Nat.reduceMul, tx_size, hlt, tx_get, g0, Int.toNat_natCast, hc, eq_true he]
      refine out .ret _ _ _ _ (by intro e; cases e) ?_
      simp only [mach, mach2, mstd, ↓reduceIte, Nat.reduceEqDiff, Nat.reduceAdd, Nat.reduceMul]
      refine hΨ _ _ (fin_ret (rv1 rfl ⟨rfl, ?_⟩))
      rw [List.contains_iff_mem.2 (hec ▸ List.getElem_mem hil)]; rfl
    · simp only [mach, mach2, mstd, ↓reduceIte, Nat.reduceEqDiff, Nat.reduceAdd, Nat.reduceMul, tx_size, hlt, tx_get, g0, Int.toNat_natCast, hc, he, hw]
      refine next (i + 1) _ _ _ ⟨rfl, by omega, fun j hj => ?_⟩ ⟨rfl, rfl, rfl, trivial⟩ (by omega)
      rcases Nat.lt_or_ge j i with e | e
      · exact hall j e
      · have : j = i := by omega
        subst this
        rw [hc]; intro e2; cases e2; exact he rfl
  · simp only [mach, mach2, mstd, ↓reduceIte, Nat.reduceEqDiff, Nat.reduceAdd, Nat.reduceMul, tx_size, hlt]
    refine out (.exit 0) _ _ _ _ (by intro e; cases e) ?_
    simp only [mach, mach2, mstd, ↓reduceIte, Nat.reduceEqDiff, Nat.reduceAdd, Nat.reduceMul]
    refine hΨ _ _ (fin_ret (rv1 rfl ⟨rfl, ?_⟩))
    have : l.contains c = false := by
      rw [Bool.eq_false_iff]
      intro hm
      obtain ⟨j, hj, e⟩ := List.getElem_of_mem (List.contains_iff_mem.1 hm)
      exact hall j (by omega) (by rw [List.getElem?_eq_getElem hj, e])
    rw [this]; rfl

/-! ### Words -/

def hitA (s w : Bs) (i : Nat) : Bool := w[i]? == some 32 && decide (s.length + 1 < w.length - i) && ((w.drop (i + 1)).take s.length == s) && w[i + 1 + s.length]? == some 32
def wordA (s : Bs) : Bool := decide (0 < s.length) && !s.contains 32
def amS (s w : Bs) : Bool := (List.range w.length).any (hitA s w) && wordA s
theorem am_of {w : Bs} {L : List Bs} (h1 : ((List.range w.length).all fun i => (List.range w.length).all fun n => !(hitA ((w.drop (i + 1)).take n) w i && wordA ((w.drop (i + 1)).take n)) || L.contains ((w.drop (i + 1)).take n)) = true)
    (h2 : (L.all fun s => amS s w) = true) (s : Bs) : amS s w = L.contains s := by
  rw [Bool.eq_iff_iff]
  constructor
  · intro h
    unfold amS at h
    rw [Bool.and_eq_true] at h
    obtain ⟨ha, hw⟩ := h
    obtain ⟨i, hi, hh⟩ := List.any_eq_true.1 ha
    have hi' : i < w.length := List.mem_range.1 hi
    have hh2 := hh
    unfold hitA at hh2
    simp only [Bool.and_eq_true, decide_eq_true_eq] at hh2
    have hn : s.length < w.length := by have := hh2.1.1.2; omega
    have e : (w.drop (i + 1)).take s.length = s := eq_of_beq hh2.1.2
    have := List.all_eq_true.1 (List.all_eq_true.1 h1 i hi) s.length (List.mem_range.2 hn)
    rw [e, hh, hw] at this
    simpa using this
  · intro h
    exact List.all_eq_true.1 h2 s (List.contains_iff_mem.1 h)

def keysW : Bs := [32, 100, 97, 116, 97, 32, 108, 101, 116, 32, 105, 110, 32, 119, 104, 101, 114, 101, 32, 99, 97, 115, 101, 32, 111, 102, 32, 105, 102, 32, 116, 104, 101, 110, 32, 101, 108, 115, 101, 32]
def marksW : Bs := [32, 40, 32, 41, 32, 91, 32, 93, 32, 123, 32, 125, 32, 44, 32, 59, 32, 95, 32, 61, 32, 124, 32, 45, 62, 32, 92, 32]
def opsW : Bs := [32, 36, 32, 124, 124, 32, 38, 38, 32, 61, 61, 32, 47, 61, 32, 60, 32, 60, 61, 32, 62, 32, 62, 61, 32, 58, 32, 43, 32, 45, 32, 42, 32, 46, 32]
theorem am_keys (s : Bs) : amS s keysW = keyL.contains s := am_of (by decide +kernel) (by decide +kernel) s
theorem am_marks (s : Bs) : amS s marksW = markL.contains s := am_of (by decide +kernel) (by decide +kernel) s
theorem am_ops (s : Bs) : amS s opsW = opL.contains s := am_of (by decide +kernel) (by decide +kernel) s

set_option maxHeartbeats 2000000 in
theorem among_ok (s w : Bs) (hs : s.length ≤ 9223372036854775800) (hw8 : w.length ≤ 8000) (h : AH) : Gets Tryd.prog 39 [tv s, tv w] h (fun res h' => h' = h ∧ res = .ret (.bool (amS s w))) := by
  refine Gets.of (keep := false) hP (draw_ok hM) k39 (by rfl) (fun Ψ hΨ => ?_)
  simp only [mach, mach2, mstd, ↓reduceIte, Nat.reduceEqDiff, Nat.reduceAdd, Nat.reduceMul, r39]
  refine XLo_rule (α := Nat) (fun i => [(0, tv s), (1, tv w), (5, iv i)]) (fun i h' => h' = h ∧ i ≤ w.length ∧ ∀ j, j < i → hitA s w j = false) (fun i => w.length - i) 0
    ⟨rfl, Nat.zero_le _, fun j hj => by omega⟩ ⟨rfl, rfl, rfl, trivial⟩ ?_
  rintro i h1 Ψ2 ⟨rfl, hi, hall⟩ next out
  by_cases hlt : (i : Int) < (w.length : Int)
  case neg =>
    simp only [mach, mach2, mstd, ↓reduceIte, Nat.reduceEqDiff, Nat.reduceAdd, Nat.reduceMul, tx_size, hlt]
    refine out (.exit 0) _ _ _ _ (by intro e; cases e) ?_
    simp only [mach, mach2, mstd, ↓reduceIte, Nat.reduceEqDiff, Nat.reduceAdd, Nat.reduceMul]
    refine hΨ _ _ (fin_ret (rv1 rfl ⟨rfl, ?_⟩))
    have : amS s w = false := by
      unfold amS
      rw [Bool.and_eq_false_iff]; left
      rw [List.any_eq_false]
      intro j hj
      have := hall j (by have := List.mem_range.1 hj; omega)
      rw [this]; simp
    rw [this]; rfl
  have hil : i < w.length := by omega
  have hc : w[i]? = some w[i] := List.getElem?_eq_getElem hil
  have g0 : (0 : Int) ≤ (i : Int) := by omega
  have hw1 : IntKind.i64.wrap ((i : Int) + 1) = ((i + 1 : Nat) : Int) := by rw [i64w (by omega) (by omega)]; omega
  have hw2 : IntKind.i64.wrap ((w.length : Int) - (i : Int)) = ((w.length - i : Nat) : Int) := by rw [i64w (by omega) (by omega)]; omega
  have hw3 : IntKind.i64.wrap ((s.length : Int) + 1) = ((s.length + 1 : Nat) : Int) := by rw [i64w (by omega) (by omega)]; omega
  have step : hitA s w i = false → ∀ l', Ψ2 .norm ⟨upd [(0, tv s), (1, tv w), (5, iv i)] 5 (iv ((i + 1 : Nat) : Int)), l', h1, []⟩ := fun e l' =>
    next (i + 1) _ _ _ ⟨rfl, by omega, fun j hj => by
      rcases Nat.lt_or_ge j i with e2 | e2
      · exact hall j e2
      · have : j = i := by omega
        subst this; exact e⟩ ⟨rfl, rfl, rfl, trivial⟩ (by omega)
  by_cases c1 : (w[i].toNat : Int) = 32
  case neg =>
    simp only [mach, mach2, mstd, ↓reduceIte, Nat.reduceEqDiff, Nat.reduceAdd, Nat.reduceMul, tx_size, hlt, tx_get, g0, Int.toNat_natCast, hc, c1, hw1]
    refine step ?_ _
    unfold hitA
    rw [hc]
    have : (some w[i] == some (32 : UInt8)) = false := by
      rw [beq_eq_false_iff_ne]; intro e
      exact c1 (by rw [Option.some.inj e]; rfl)
    rw [this]; rfl
  have q1 : w[i]? = some 32 := by rw [hc]; exact congrArg some (UInt8.toNat_inj.1 (by show w[i].toNat = 32; omega))
  by_cases c2 : ((s.length + 1 : Nat) : Int) < ((w.length - i : Nat) : Int)
  case neg =>
    simp only [mach, mach2, mstd, ↓reduceIte, Nat.reduceEqDiff, Nat.reduceAdd, Nat.reduceMul, tx_size, hlt, tx_get, g0, Int.toNat_natCast, hc, eq_true c1, hw1, hw2, hw3, c2]
    refine step ?_ _
    unfold hitA
    rw [show decide (s.length + 1 < w.length - i) = false from decide_eq_false (by omega)]; simp
  have hw4 : IntKind.i64.wrap (((i + 1 : Nat) : Int) + (s.length : Int)) = ((i + 1 + s.length : Nat) : Int) := by rw [i64w (by omega) (by omega)]; omega
  have hsl : slsv (.string (tx w)) (some (iv ((i + 1 : Nat) : Int))) (some (iv ((i + 1 + s.length : Nat) : Int))) = some (.string (tx ((w.drop (i + 1)).take s.length)), none) := by
    rw [sl_ft (by omega) (by omega), List.drop_take, show i + 1 + s.length - (i + 1) = s.length by omega]
  have hil2 : i + 1 + s.length < w.length := by omega
  have hd : w[i + 1 + s.length]? = some w[i + 1 + s.length] := List.getElem?_eq_getElem hil2
  have g1 : (0 : Int) ≤ ((i + 1 + s.length : Nat) : Int) := by omega
  have hd2 : decide (s.length + 1 < w.length - i) = true := decide_eq_true (by omega)
  cases c3 : ((w.drop (i + 1)).take s.length == s) with
  | false =>
    simp only [mach, mach2, mstd, ↓reduceIte, Nat.reduceEqDiff, Nat.reduceAdd, Nat.reduceMul, tx_size, hlt, tx_get, g0, Int.toNat_natCast, hc, eq_true c1, hw1, hw2, hw3, hw4, eq_true c2, hsl, tx_toList, c3]
    refine step ?_ _
    unfold hitA
    rw [c3]; simp
  | true =>
  by_cases c4 : (w[i + 1 + s.length].toNat : Int) = 32
  case neg =>
    simp only [mach, mach2, mstd, ↓reduceIte, Nat.reduceEqDiff, Nat.reduceAdd, Nat.reduceMul, tx_size, hlt, tx_get, g0, g1, Int.toNat_natCast, hc, hd, eq_true c1, hw1, hw2, hw3, hw4, eq_true c2, hsl, tx_toList, c3, c4]
    refine step ?_ _
    unfold hitA
    have : (some w[i + 1 + s.length] == some (32 : UInt8)) = false := by
      rw [beq_eq_false_iff_ne]; intro e
      exact c4 (by rw [Option.some.inj e]; rfl)
    rw [hd, this]; simp
  have q4 : w[i + 1 + s.length]? = some 32 := by rw [hd]; exact congrArg some (UInt8.toNat_inj.1 (by show w[i + 1 + s.length].toNat = 32; omega))
  have hit : hitA s w i = true := by
    unfold hitA
    rw [q1, q4, hd2, c3]; rfl
  have ham : amS s w = wordA s := by
    unfold amS
    rw [List.any_eq_true.2 ⟨i, List.mem_range.2 hil, hit⟩]; rfl
  by_cases c5 : (0 : Int) < (s.length : Int)
  · simp only [mach, mach2, mstd, ↓reduceIte, Nat.reduceEqDiff, Nat.reduceAdd, Nat.reduceMul, tx_size, hlt, tx_get, g0, g1, Int.toNat_natCast, hc, hd, eq_true c1, hw1, hw2, hw3, hw4, eq_true c2, hsl, tx_toList, c3, eq_true c4, eq_true c5]
    refine XX_val (in_ok 32 s (by omega) h1) ?_
    simp only [mach, mach2, mstd, ↓reduceIte, Nat.reduceEqDiff, Nat.reduceAdd, Nat.reduceMul]
    refine out .ret _ _ _ _ (by intro e; cases e) ?_
    simp only [mach, mach2, mstd, ↓reduceIte, Nat.reduceEqDiff, Nat.reduceAdd, Nat.reduceMul]
    refine hΨ _ _ (fin_ret (rv1 rfl ⟨rfl, ?_⟩))
    rw [ham, wordA, decide_eq_true (show 0 < s.length by omega)]; rfl
  · simp only [mach, mach2, mstd, ↓reduceIte, Nat.reduceEqDiff, Nat.reduceAdd, Nat.reduceMul, tx_size, hlt, tx_get, g0, g1, Int.toNat_natCast, hc, hd, eq_true c1, hw1, hw2, hw3, hw4, eq_true c2, hsl, tx_toList, c3, eq_true c4, c5]
    refine out .ret _ _ _ _ (by intro e; cases e) ?_
    simp only [mach, mach2, mstd, ↓reduceIte, Nat.reduceEqDiff, Nat.reduceAdd, Nat.reduceMul]
    refine hΨ _ _ (fin_ret (rv1 rfl ⟨rfl, ?_⟩))
    rw [ham, wordA, decide_eq_false (show ¬ 0 < s.length by omega)]; rfl
end Go.S07

/- Tokens: the document's side: names, bytes as written, comments. -/
set_option linter.unusedVariables false
set_option linter.unusedSimpArgs false
namespace Go.S07
open Go Go.Eng Go.Proofs Go.Scn

theorem spn_zero {f : UInt8 → Bool} {l : Bs} (h : ∀ c, l[0]? = some c → f c = false) : spn f l = 0 := by
  cases l with
  | nil => rfl
  | cons c l => rw [spn_cons, if_neg (by rw [h c rfl]; simp)]

/-! ### Names -/

theorem nameK_bad {c : UInt8} {r : Bs} (h : spn inner (c :: r) < (c :: r).length) : nameK (c :: r) = 0 := nameK_zero (.inr (.inr (.inr h)))

set_option maxHeartbeats 1000000 in
theorem rname_ok (l : Bs) (hl : l.length ≤ 9223372036854775800) (h : AH) : Gets Tryd.prog 19 [tv l] h (fun res h' => h' = h ∧ res = .ret (iv (nameK l))) := by
  refine Gets.of (keep := false) hP (draw_ok hM) k19 (by rfl) (fun Ψ hΨ => ?_)
  cases l with
  | nil =>
    simp only [mach, mach2, mstd, ↓reduceIte, Nat.reduceEqDiff, Nat.reduceAdd, Nat.reduceMul, r19, tx_size, show ((([] : Bs).length : Nat) : Int) = 0 from rfl]
    exact hΨ _ _ (fin_ret (rv1 rfl ⟨rfl, rfl⟩))
  | cons c r =>
  have hc : (c :: r)[0]? = some c := rfl
  have hne : (((c :: r).length : Nat) : Int) = 0 ↔ False := by simp; omega
  by_cases h1 : (32 : Int) < ((c :: r).length : Int)
  · simp only [mach, mach2, mstd, ↓reduceIte, Nat.reduceEqDiff, Nat.reduceAdd, Nat.reduceMul, r19, tx_size, hne, eq_true h1]
    exact hΨ _ _ (fin_ret (rv1 rfl ⟨rfl, by rw [nameK_zero (.inl (by omega))]; rfl⟩))
  simp only [mach, mach2, mstd, ↓reduceIte, Nat.reduceEqDiff, Nat.reduceAdd, Nat.reduceMul, r19, tx_size, hne, h1, tx_get, hc, Int.toNat_zero, Int.le_refl]
  refine XX_val (rsmall_ok c h) ?_
  cases hs : small c with
  | true =>
    have hsl : (small c || large c) = true := by rw [hs]; rfl
    simp only [mach, mach2, mstd, ↓reduceIte, Nat.reduceEqDiff, Nat.reduceAdd, Nat.reduceMul]
    refine XLo_rule (α := Nat) (fun i => [(0, tv (c :: r)), (3, iv i)]) (fun i h' => h' = h ∧ i ≤ (c :: r).length ∧ ∀ j d, j < i → (c :: r)[j]? = some d → inner d = true) (fun i => (c :: r).length - i) 0
      ⟨rfl, Nat.zero_le _, fun j d hj => by omega⟩ ⟨rfl, rfl, trivial⟩ ?_
    rintro i h2 Ψ2 ⟨rfl, hi, hall⟩ next out
    by_cases hlt : (i : Int) < ((c :: r).length : Int)
    · have hil : i < (c :: r).length := by omega
      have g0 : (0 : Int) ≤ (i : Int) := by omega
      have hd : (c :: r)[i]? = some (c :: r)[i] := List.getElem?_eq_getElem hil
      have hw : IntKind.i64.wrap ((i : Int) + 1) = ((i + 1 : Nat) : Int) := by rw [i64w (by omega) (by omega)]; omega
      simp only [mach, mach2, mstd, ↓reduceIte, Nat.reduceEqDiff, Nat.reduceAdd, Nat.reduceMul, tx_size, hlt, tx_get, g0, Int.toNat_natCast, hd]
      refine XX_val (rinner_ok _ _) ?_
      cases hin : inner (c :: r)[i] with
      | true =>
        simp only [mach, mach2, mstd, ↓reduceIte, Nat.reduceEqDiff, Nat.reduceAdd, Nat.reduceMul, hw]
        refine next (i + 1) _ _ _ ⟨rfl, by omega, fun j d hj hjd => ?_⟩ ⟨rfl, rfl, trivial⟩ (by omega)
        rcases Nat.lt_or_ge j i with e | e
        · exact hall j d e hjd
        · have : j = i := by omega
          subst this
          rw [hd] at hjd; cases hjd; exact hin
      | false =>
        simp only [mach, mach2, mstd, ↓reduceIte, Nat.reduceEqDiff, Nat.reduceAdd, Nat.reduceMul]
        refine out .ret _ _ _ _ (by intro e; cases e) ?_
        simp only [mach, mach2, mstd, ↓reduceIte, Nat.reduceEqDiff, Nat.reduceAdd, Nat.reduceMul]
        have hz : spn inner (c :: r) < (c :: r).length := by
          refine Nat.lt_of_le_of_lt ?_ hil
          refine Nat.le_of_not_lt (fun hh => ?_)
          obtain ⟨d, e1, e2⟩ := spn_at hh
          rw [hd] at e1; cases e1
          rw [hin] at e2; cases e2
        exact hΨ _ _ (fin_ret (rv1 rfl ⟨rfl, by rw [nameK_bad hz]; rfl⟩))
    · simp only [mach, mach2, mstd, ↓reduceIte, Nat.reduceEqDiff, Nat.reduceAdd, Nat.reduceMul, tx_size, hlt]
      refine out (.exit 0) _ _ _ _ (by intro e; cases e) ?_
      have hie : i = (c :: r).length := by omega
      have hsp : spn inner (c :: r) = (c :: r).length := spn_eq (Nat.le_refl _) (fun j d hj => hall j d (by omega)) (fun d hd => by rw [List.getElem?_eq_none (Nat.le_refl _)] at hd; cases hd)
      have hz : ¬ (32 < (c :: r).length ∨ digit c = true ∨ c.toNat = 39 ∨ spn inner (c :: r) < (c :: r).length) := by
        rintro (e | e | e | e)
        · omega
        · simp [small, large, digit] at hsl e; omega
        · simp [small, large] at hsl; omega
        · omega
      simp only [mach, mach2, mstd, ↓reduceIte, Nat.reduceEqDiff, Nat.reduceAdd, Nat.reduceMul, tx_get, hc, Int.toNat_zero, Int.le_refl]
      refine XX_val (rlarge_ok c _) ?_
      cases h5 : large c with
      | true =>
        simp only [mach, mach2, mstd, ↓reduceIte, Nat.reduceEqDiff, Nat.reduceAdd, Nat.reduceMul]
        exact hΨ _ _ (fin_ret (rv1 rfl ⟨rfl, by rw [nameK_else hz, h5]; rfl⟩))
      | false =>
      simp only [mach, mach2, mstd, ↓reduceIte, Nat.reduceEqDiff, Nat.reduceAdd, Nat.reduceMul]
      refine XX_val (among_ok (c :: r) keysW (by omega) (by decide) _) ?_
      rw [am_keys]
      cases h6 : keyL.contains (c :: r) with
      | true =>
        simp only [mach, mach2, mstd, ↓reduceIte, Nat.reduceEqDiff, Nat.reduceAdd, Nat.reduceMul]
        exact hΨ _ _ (fin_ret (rv1 rfl ⟨rfl, by rw [nameK_else hz, h5, h6]; rfl⟩))
      | false =>
      cases h7 : ((c :: r) == [95]) with
      | true =>
        simp only [mach, mach2, mstd, ↓reduceIte, Nat.reduceEqDiff, Nat.reduceAdd, Nat.reduceMul, tx_toList, mk_toList, h7]
        exact hΨ _ _ (fin_ret (rv1 rfl ⟨rfl, by rw [nameK_else hz, h5, h6, h7]; rfl⟩))
      | false =>
      simp only [mach, mach2, mstd, ↓reduceIte, Nat.reduceEqDiff, Nat.reduceAdd, Nat.reduceMul, tx_toList, mk_toList, h7]
      exact hΨ _ _ (fin_ret (rv1 rfl ⟨rfl, by rw [nameK_else hz, h5, h6, h7]; rfl⟩))
  | false =>
  simp only [mach, mach2, mstd, ↓reduceIte, Nat.reduceEqDiff, Nat.reduceAdd, Nat.reduceMul, tx_get, hc, Int.toNat_zero, Int.le_refl]
  refine XX_val (rlarge_ok c h) ?_
  cases hL : large c with
  | true =>
    have hsl : (small c || large c) = true := by rw [hs, hL]; rfl
    simp only [mach, mach2, mstd, ↓reduceIte, Nat.reduceEqDiff, Nat.reduceAdd, Nat.reduceMul]
    refine XLo_rule (α := Nat) (fun i => [(0, tv (c :: r)), (3, iv i)]) (fun i h' => h' = h ∧ i ≤ (c :: r).length ∧ ∀ j d, j < i → (c :: r)[j]? = some d → inner d = true) (fun i => (c :: r).length - i) 0
      ⟨rfl, Nat.zero_le _, fun j d hj => by omega⟩ ⟨rfl, rfl, trivial⟩ ?_
    rintro i h2 Ψ2 ⟨rfl, hi, hall⟩ next out
    by_cases hlt : (i : Int) < ((c :: r).length : Int)
    · have hil : i < (c :: r).length := by omega
      have g0 : (0 : Int) ≤ (i : Int) := by omega
      have hd : (c :: r)[i]? = some (c :: r)[i] := List.getElem?_eq_getElem hil
      have hw : IntKind.i64.wrap ((i : Int) + 1) = ((i + 1 : Nat) : Int) := by rw [i64w (by omega) (by omega)]; omega
      simp only [mach, mach2, mstd, ↓reduceIte, Nat.reduceEqDiff, Nat.reduceAdd, Nat.reduceMul, tx_size, hlt, tx_get, g0, Int.toNat_natCast, hd]
      refine XX_val (rinner_ok _ _) ?_
      cases hin : inner (c :: r)[i] with
      | true =>
        simp only [mach, mach2, mstd, ↓reduceIte, Nat.reduceEqDiff, Nat.reduceAdd, Nat.reduceMul, hw]
        refine next (i + 1) _ _ _ ⟨rfl, by omega, fun j d hj hjd => ?_⟩ ⟨rfl, rfl, trivial⟩ (by omega)
        rcases Nat.lt_or_ge j i with e | e
        · exact hall j d e hjd
        · have : j = i := by omega
          subst this
          rw [hd] at hjd; cases hjd; exact hin
      | false =>
        simp only [mach, mach2, mstd, ↓reduceIte, Nat.reduceEqDiff, Nat.reduceAdd, Nat.reduceMul]
        refine out .ret _ _ _ _ (by intro e; cases e) ?_
        simp only [mach, mach2, mstd, ↓reduceIte, Nat.reduceEqDiff, Nat.reduceAdd, Nat.reduceMul]
        have hz : spn inner (c :: r) < (c :: r).length := by
          refine Nat.lt_of_le_of_lt ?_ hil
          refine Nat.le_of_not_lt (fun hh => ?_)
          obtain ⟨d, e1, e2⟩ := spn_at hh
          rw [hd] at e1; cases e1
          rw [hin] at e2; cases e2
        exact hΨ _ _ (fin_ret (rv1 rfl ⟨rfl, by rw [nameK_bad hz]; rfl⟩))
    · simp only [mach, mach2, mstd, ↓reduceIte, Nat.reduceEqDiff, Nat.reduceAdd, Nat.reduceMul, tx_size, hlt]
      refine out (.exit 0) _ _ _ _ (by intro e; cases e) ?_
      have hie : i = (c :: r).length := by omega
      have hsp : spn inner (c :: r) = (c :: r).length := spn_eq (Nat.le_refl _) (fun j d hj => hall j d (by omega)) (fun d hd => by rw [List.getElem?_eq_none (Nat.le_refl _)] at hd; cases hd)
      have hz : ¬ (32 < (c :: r).length ∨ digit c = true ∨ c.toNat = 39 ∨ spn inner (c :: r) < (c :: r).length) := by
        rintro (e | e | e | e)
        · omega
        · simp [small, large, digit] at hsl e; omega
        · simp [small, large] at hsl; omega
        · omega
      simp only [mach, mach2, mstd, ↓reduceIte, Nat.reduceEqDiff, Nat.reduceAdd, Nat.reduceMul, tx_get, hc, Int.toNat_zero, Int.le_refl]
      refine XX_val (rlarge_ok c _) ?_
      cases h5 : large c with
      | true =>
        simp only [mach, mach2, mstd, ↓reduceIte, Nat.reduceEqDiff, Nat.reduceAdd, Nat.reduceMul]
        exact hΨ _ _ (fin_ret (rv1 rfl ⟨rfl, by rw [nameK_else hz, h5]; rfl⟩))
      | false =>
      simp only [mach, mach2, mstd, ↓reduceIte, Nat.reduceEqDiff, Nat.reduceAdd, Nat.reduceMul]
      refine XX_val (among_ok (c :: r) keysW (by omega) (by decide) _) ?_
      rw [am_keys]
      cases h6 : keyL.contains (c :: r) with
      | true =>
        simp only [mach, mach2, mstd, ↓reduceIte, Nat.reduceEqDiff, Nat.reduceAdd, Nat.reduceMul]
        exact hΨ _ _ (fin_ret (rv1 rfl ⟨rfl, by rw [nameK_else hz, h5, h6]; rfl⟩))
      | false =>
      cases h7 : ((c :: r) == [95]) with
      | true =>
        simp only [mach, mach2, mstd, ↓reduceIte, Nat.reduceEqDiff, Nat.reduceAdd, Nat.reduceMul, tx_toList, mk_toList, h7]
        exact hΨ _ _ (fin_ret (rv1 rfl ⟨rfl, by rw [nameK_else hz, h5, h6, h7]; rfl⟩))
      | false =>
      simp only [mach, mach2, mstd, ↓reduceIte, Nat.reduceEqDiff, Nat.reduceAdd, Nat.reduceMul, tx_toList, mk_toList, h7]
      exact hΨ _ _ (fin_ret (rv1 rfl ⟨rfl, by rw [nameK_else hz, h5, h6, h7]; rfl⟩))
  | false =>
    simp only [mach, mach2, mstd, ↓reduceIte, Nat.reduceEqDiff, Nat.reduceAdd, Nat.reduceMul]
    refine hΨ _ _ (fin_ret (rv1 rfl ⟨rfl, ?_⟩))
    have : nameK (c :: r) = 0 := by
      cases hd : digit c with
      | true => exact nameK_zero (.inr (.inl hd))
      | false =>
        by_cases h39 : c.toNat = 39
        · exact nameK_zero (.inr (.inr (.inl h39)))
        · refine nameK_bad ?_
          rw [spn_zero (fun d e => by cases e; simp [inner, hs, hL, hd, h39])]; simp
    rw [this]; rfl

/-! ### Bytes as written -/

end Go.S07

/- Tokens: the document's side: comments, quotes, numbers. -/
set_option linter.unusedVariables false
set_option linter.unusedSimpArgs false
namespace Go.S07
open Go Go.Eng Go.Proofs Go.Scn

/-! ### Comments -/

end Go.S07

/- Tokens: the document's side: quotes, numbers. -/
set_option linter.unusedVariables false
set_option linter.unusedSimpArgs false
namespace Go.S07
open Go Go.Eng Go.Proofs Go.Scn

/-! ### Numbers -/

end Go.S07

/- Tokens: the document's side: one token, all tokens. -/
set_option linter.unusedVariables false
set_option linter.unusedSimpArgs false
namespace Go.S07
open Go Go.Eng Go.Proofs Go.Scn

end Go.S07

/- Tokens: the document's tokens; ScanTokens. -/
set_option linter.unusedVariables false
set_option linter.unusedSimpArgs false
namespace Go.S07
open Go Go.Eng Go.Proofs Go.Scn

theorem tk_at {h : AH} {v : Value} {n : Nat} {ts : List Tk} (hr : Rds h 4 v n (ts.flatMap tkC)) {i : Nat} {t : Tk} (hx : ts[i]? = some t) :
    ∃ b o c, v = .slice (some ⟨b, o, none⟩) n c ∧ i < n ∧ ldcs h b (o + i * 4) 4 = some (tkC t) ∧ ∀ j, j < 4 → ldc h b (o + i * 4 + j) = (tkC t)[j]? := by
  have hl : i < ts.length := (List.getElem?_eq_some_iff.1 hx).1
  have hlen : (ts.flatMap tkC).length = ts.length * 4 := by
    clear hr hx hl
    induction ts with
    | nil => rfl
    | cons t ts ih => rw [List.flatMap_cons, List.length_append, ih, tkC_len, List.length_cons, Nat.add_mul]; omega
  have hn : i < n := by have := hr.len; rw [hlen] at this; omega
  obtain ⟨b, o, c, e, h1⟩ := rds_sub hr (i := i) (j := 0) (m := 4) hn (by omega)
  obtain ⟨b', o', c', e', kk⟩ := hr.at (i := i) hn
  rw [e] at e'; cases e'
  have h2 := flat_at (f := tkC) (k := 4) tkC_len hx (j := 0) (m := 4) (by omega)
  refine ⟨b, o, c, e, hn, ?_, fun j hj => ?_⟩
  · rw [Nat.add_zero] at h1
    rw [h1, h2]; rfl
  · rw [kk j hj]
    have h3 := congrArg (fun l => l[j]?) h2
    simp only [List.getElem?_take, hj, if_true, List.getElem?_drop, List.drop_zero, Nat.add_zero] at h3
    exact h3

end Go.S07

/- Tokens: a fixed call; ScanTokens, the walk. -/
set_option linter.unusedVariables false
set_option linter.unusedSimpArgs false
namespace Go.S07
open Go Go.Eng Go.Proofs Go.Scn

theorem toks_wake : toks 4 [102, 32, 49, 50] = .ok [⟨1, [102], 0, 0⟩, ⟨3, [], 12, 2⟩] := by
  have s1 : skp [102, 32, 49, 50] = .ok [102, 32, 49, 50] := skp_rest (by decide) (by decide) rfl
  have s2 : skp [49, 50] = .ok [49, 50] := skp_rest (by decide) (by decide) rfl
  have s3 : skp [32, 49, 50] = .ok [49, 50] := by rw [skp_cons, if_pos (by decide), s2]
  rw [toks_step (k := 1) (v := 0) (t := [102]) (n := 1) s1 (by simp) (by rfl), show ([102, 32, 49, 50] : Bs).drop 1 = [32, 49, 50] from rfl, toks_skip s3,
    toks_step (k := 3) (v := 12) (t := []) (n := 2) s2 (by simp) (by rfl), show ([49, 50] : Bs).drop 2 = [] from rfl, toks_end]
  rfl
theorem tokF_wake : tokF [102, 32, 49, 50] = ([⟨1, [102], 0, 0⟩, ⟨3, [], 12, 2⟩], 0, 0) := by
  rw [tokF, if_neg (by decide)]
  show (match toks 4 [102, 32, 49, 50] with
    | .ok ts => (ts, (0 : Int), (0 : Int))
    | .error e => ([], (e : Int), 8)) = _
  rw [toks_wake]

theorem wakes_ok (h : AH) : Gets Tryd.prog 9 [] h (fun res h' => Keep (fun _ => False) h h' ∧ res = .ret (.bool true)) := by
  refine Gets.of (keep := false) hP (draw_ok hM) k9 (by rfl) (fun Ψ hΨ => ?_)
  simp only [mach, mach2, mstd, ↓reduceIte, Nat.reduceEqDiff, Nat.reduceAdd, Nat.reduceMul, r9]
  refine XX_of (Tokens_ok [102, 32, 49, 50] h) (fun res h1 hle hr => ?_)
  obtain ⟨kp, lv, rfl, ow, fr⟩ := hr
  rw [tokF_wake] at ow
  rw [tokF_wake]
  refine .ret ?_
  obtain ⟨b, o, c, e1, _, _, f0⟩ := tk_at ow.rds (i := 0) (t := ⟨1, [102], 0, 0⟩) rfl
  obtain ⟨b', o', c', e2, _, _, f1⟩ := tk_at ow.rds (i := 1) (t := ⟨3, [], 12, 2⟩) rfl
  subst e1
  cases e2
  have l00 : ldc h1 b (o + 0 + 0) = some (iv 1) := by have := f0 0 (by omega); simpa [tkC] using this
  have l00' : ldc h1 b o = some (iv 1) := l00
  have l01 : ldc h1 b (o + 1) = some (.string ⟨#[102]⟩) := by
    have := f0 1 (by omega)
    have e : ldc h1 b (o + 1) = some (tv [102]) := by simpa [tkC] using this
    exact e
  have l12 : ldc h1 b (o + 4 + 2) = some (iv 12) := by have := f1 2 (by omega); simpa [tkC] using this
  have l13 : ldc h1 b (o + 4 + 3) = some (iv 2) := by have := f1 3 (by omega); simpa [tkC] using this
  simp only [mach, mach2, mstd, ↓reduceIte, Nat.reduceEqDiff, Nat.reduceAdd, Nat.reduceMul, mbl, Nat.reduceLeDiff, Nat.reduceLT, Int.reduceEq, show ((([⟨1, [102], 0, 0⟩, ⟨3, [], 12, 2⟩] : List Tk).length : Nat) : Int) = 2 from rfl, Int.reduceLT, Int.reduceLE, Int.reduceEq, and_self, Int.toNat_zero, Nat.zero_mul, Nat.add_zero, l00', l01, show (1 : Int).toNat = 1 from rfl, Nat.one_mul, l12, l13, mk_toList, beq_self_eq_true]
  exact hΨ _ _ (fin_ret (rv1 rfl ⟨kp, rfl⟩))

end Go.S07

/- Tokens: plain laws: beginnings of texts, texts one behind the other, places. -/
set_option linter.unusedVariables false
set_option linter.unusedSimpArgs false
namespace Go.Scn
open Go

/-- The first n bytes are the same; behind them stands what stood there, or a line's end, or nothing. -/
structure Ag (n : Nat) (l l' : Bs) : Prop where
  same : ∀ i, i < n → l'[i]? = l[i]?
  full : n ≤ l'.length
  next : ∀ c, l'[n]? = some c → l[n]? = some c ∨ c = 10
theorem Ag.le {m n : Nat} {l l' : Bs} (h : Ag n l l') (hm : m ≤ n) : Ag m l l' :=
  ⟨fun i hi => h.same i (by omega), by have := h.full; omega, fun c hc => by
    rcases Nat.lt_or_ge m n with e | e
    · exact .inl (by rw [← h.same m e]; exact hc)
    · have : m = n := by omega
      subst this; exact h.next c hc⟩
theorem Ag.app {n : Nat} {l r' : Bs} (hn : n ≤ l.length) (h : ∀ c, r'[0]? = some c → l[n]? = some c ∨ c = 10) : Ag n l (l.take n ++ r') := by
  have hl : (l.take n).length = n := by simp; omega
  refine ⟨fun i hi => ?_, by simp; omega, fun c hc => ?_⟩
  · rw [List.getElem?_append_left (by omega), List.getElem?_take, if_pos hi]
  · rw [List.getElem?_append_right (by omega), hl, Nat.sub_self] at hc
    exact h c hc
theorem Ag.drop {m n : Nat} {l l' : Bs} (h : Ag n l l') (hm : m ≤ n) : Ag (n - m) (l.drop m) (l'.drop m) :=
  ⟨fun i hi => by rw [List.getElem?_drop, List.getElem?_drop]; exact h.same _ (by omega), by have := h.full; simp; omega, fun c hc => by
    rw [List.getElem?_drop] at hc ⊢
    rw [show m + (n - m) = n by omega] at hc ⊢
    exact h.next c hc⟩
/-! ### Tokens of texts -/

/-- Places further on. -/
def Tk.at (d : Nat) (t : Tk) : Tk := { t with a := t.a + d }
end Go.Scn

/- Tokens: ScanFault, the walk. -/
set_option linter.unusedVariables false
set_option linter.unusedSimpArgs false
namespace Go.S07
open Go Go.Eng Go.Proofs Go.Scn

end Go.S07

/- Tokens: ScanPlaces, the walk. -/
set_option linter.unusedVariables false
set_option linter.unusedSimpArgs false
namespace Go.S07
open Go Go.Eng Go.Proofs Go.Scn

end Go.S07

/- Tokens: ScanPlaces, the walk. -/
set_option linter.unusedVariables false
set_option linter.unusedSimpArgs false
namespace Go.S07
open Go Go.Eng Go.Proofs Go.Scn

theorem s_add {a b : Bs} (h : a.length + b.length ≤ 9223372036854775807) : sbin .add (tx a) (tx b) = some (.string (tx (a ++ b))) := by
  have : ¬ (((tx a).size + (tx b).size : Nat) : Int) > IntKind.i64.max := by
    rw [tx_size, tx_size]
    have : IntKind.i64.max = 9223372036854775807 := by decide
    omega
  simp only [sbin, if_neg this, tx_app]
end Go.S07

/-
  DERIVED: THE SHELF's CONTRACTS AT THIS DUMP, IN PLAIN WORDS (tools/lay-plain.mjs out of 'TrydShelf.lean', which tools/lay-shelf.mjs wrote): THE SAME DECLARATIONS UNDER THE SAME NAMES: 'import', 'namespace', 'open', 'def', 'theorem' AND NOTHING ELSE: no command of the shelf's: FOR A HAND-IN. Each laying: the table of numbers ('.._ren') and one theorem, a field a fact of the dump's own or the kernel's comparison; each contract: ONE APPLICATION.
-/

namespace Go.Proofs
open Go.Shelf
def Tryd.laysItoa_ren : Go.Shelf.Ren := ⟨fun | 171 => 56 | 243 => 68 | 246 => 80 | 283 => 86 | 284 => 87 | 285 => 88 | 286 => 89 | 129 => 91 | 317 => 90 | 318 => 92 | 319 => 93 | 320 => 94 | 337 => 95 | 338 => 96 | n => n, fun | 3 => 3 | 9 => 9 | 2 => 2 | 4 => 4 | 171 => 92 | 0 => 0 | 53 => 79 | 37 => 47 | 5 => 5 | 173 => 95 | 212 => 102 | 51 => 103 | 20 => 20 | 213 => 104 | 46 => 82 | 232 => 108 | 233 => 109 | n => n, fun | 17 => 3 | 18 => 4 | 19 => 5 | n => n⟩
theorem Tryd.laysItoa : Go.Proofs.LaysM.n171 Tryd.prog Tryd.laysItoa_ren := {
  mixed := by kernel_rfl
  f129 := Tryd.func91.trans (congrArg some (by kernel_rfl))
  f171 := Tryd.func56.trans (congrArg some (by kernel_rfl))
  f243 := Tryd.func68.trans (congrArg some (by kernel_rfl))
  f246 := Tryd.func80.trans (congrArg some (by kernel_rfl))
  f283 := Tryd.func86.trans (congrArg some (by kernel_rfl))
  f284 := Tryd.func87.trans (congrArg some (by kernel_rfl))
  f285 := Tryd.func88.trans (congrArg some (by kernel_rfl))
  f286 := Tryd.func89.trans (congrArg some (by kernel_rfl))
  f317 := Tryd.func90.trans (congrArg some (by kernel_rfl))
  f318 := Tryd.func92.trans (congrArg some (by kernel_rfl))
  f319 := Tryd.func93.trans (congrArg some (by kernel_rfl))
  f320 := Tryd.func94.trans (congrArg some (by kernel_rfl))
  f337 := Tryd.func95.trans (congrArg some (by kernel_rfl))
  f338 := Tryd.func96.trans (congrArg some (by kernel_rfl))
  t0 := Tryd.underlying0
  a0 := Tryd.isAgg0
  z0 := Tryd.sizeOf0
  v0 := Tryd.zeroValue0
  t2 := Tryd.underlying2
  a2 := Tryd.isAgg2
  z2 := Tryd.sizeOf2
  v2 := Tryd.zeroValue2
  t3 := Tryd.underlying3
  a3 := Tryd.isAgg3
  z3 := Tryd.sizeOf3
  v3 := Tryd.zeroValue3
  t4 := Tryd.underlying4
  a4 := Tryd.isAgg4
  z4 := Tryd.sizeOf4
  v4 := Tryd.zeroValue4
  t5 := Tryd.underlying5
  a5 := Tryd.isAgg5
  z5 := Tryd.sizeOf5
  v5 := Tryd.zeroValue5
  t9 := Tryd.underlying9
  a9 := Tryd.isAgg9
  z9 := Tryd.sizeOf9
  v9 := Tryd.zeroValue9
  t20 := Tryd.underlying20
  a20 := Tryd.isAgg20
  z20 := Tryd.sizeOf20
  v20 := Tryd.zeroValue20
  t37 := Tryd.underlying47
  a37 := Tryd.isAgg47
  z37 := Tryd.sizeOf47
  v37 := Tryd.zeroValue47
  t46 := Tryd.underlying82
  a46 := Tryd.isAgg82
  z46 := Tryd.sizeOf82
  v46 := Tryd.zeroValue82
  t51 := Tryd.underlying103
  a51 := Tryd.isAgg103
  z51 := Tryd.sizeOf103
  v51 := Tryd.zeroValue103
  t53 := Tryd.underlying79
  a53 := Tryd.isAgg79
  z53 := Tryd.sizeOf79
  v53 := Tryd.zeroValue79
  t171 := Tryd.underlying92
  a171 := Tryd.isAgg92
  z171 := Tryd.sizeOf92
  v171 := Tryd.zeroValue92
  t173 := Tryd.underlying95
  a173 := Tryd.isAgg95
  z173 := Tryd.sizeOf95
  v173 := Tryd.zeroValue95
  t212 := Tryd.underlying102
  a212 := Tryd.isAgg102
  z212 := Tryd.sizeOf102
  v212 := Tryd.zeroValue102
  t213 := Tryd.underlying104
  a213 := Tryd.isAgg104
  z213 := Tryd.sizeOf104
  t232 := Tryd.underlying108
  a232 := Tryd.isAgg108
  z232 := Tryd.sizeOf108
  v232 := Tryd.zeroValue108
  t233 := Tryd.underlying109
  a233 := Tryd.isAgg109
  z233 := Tryd.sizeOf109
  v233 := Tryd.zeroValue109
  g17 := by kernel_rfl
  g18 := by kernel_rfl
  g19 := by kernel_rfl
  i0 := by kernel_rfl
  i2 := by kernel_rfl
  i3 := by kernel_rfl
  i4 := by kernel_rfl
  i5 := by kernel_rfl
  i9 := by kernel_rfl
  i20 := by kernel_rfl
  i37 := by kernel_rfl
  i46 := by kernel_rfl
  i51 := by kernel_rfl
  i53 := by kernel_rfl
  i171 := by kernel_rfl
  i173 := by kernel_rfl
  i212 := by kernel_rfl
  i232 := by kernel_rfl
  i233 := by kernel_rfl
  m17 := by kernel_rfl
  m18 := by kernel_rfl
  m19 := by kernel_rfl }
end Go.Proofs

/- Tokens: numbers as texts. -/
set_option linter.unusedVariables false
set_option linter.unusedSimpArgs false
namespace Go.S07
open Go Go.Eng Go.Proofs Go.Scn

theorem itoa_ok (n : Int) (h0 : -9223372036854775808 ≤ n) (h1 : n ≤ 9223372036854775807) (h : AH) : Gets Tryd.prog 56 [iv n] h (fun res h' => h' = h ∧ res = .ret (tv (Lib.itoa n))) := by
  refine Gets.ofCalls (fn := Tryd.prog.funcs[56]!) hP (by kernel_rfl) (c := (Tryd.prog.funcs[56]!).body.getD .skip) (by kernel_rfl) rfl rfl (fun W hT => ?_) h
  refine Calls.mono (Any.strconv_Itoa (P := Tryd.prog) Tryd.laysItoa n h0 h1 W (tab_pow hT (by kernel_rfl : Tryd.prog.globalNamed "internal/strconv.uint64pow10" = some 3) (by kernel_rfl))) fun e w' he => ?_
  obtain ⟨rfl, k, os, rfl⟩ := he
  exact ⟨rfl, below_grow⟩
end Go.S07

/- Texts: strings.Builder. -/
set_option linter.unusedVariables false
set_option linter.unusedSimpArgs false
namespace Go.S07
open Go Go.Eng Go.Proofs Go.Scn

abbrev bdT : TypeId := 49
/-- A strings.Builder with its bytes. -/
structure Bd (h : AH) (b : Nat) (acc : Bs) (a v : Value) : Prop where
  own : Own h b bdT [a, v]
  ad : a = .pointer none ∨ a = .pointer (some ⟨b, 0, none⟩)
  ow : Ows h 5 1 v acc.length (acc.map bv)
  ne : ∀ q, bk v q → b < q
  nl : acc = [] → v = .slice none 0 0

theorem noesc_ok (v : Value) (h : AH) : Gets Tryd.prog 70 [v] h (fun res h' => h' = h ∧ res = .ret v) := by
  refine Gets.extB (h' := h) (res := .ret v) ?_ (Nat.le_refl _) ⟨rfl, rfl⟩
  have hf : Tryd.prog.funcs[(70 : Nat)]? = some (Tryd.prog.funcs[70]!) := by kernel_rfl
  have hb : ((Tryd.prog.funcs[70]!).body.isNone && ((Extern.allNextRows.lookup (Tryd.prog.funcs[70]!).origin).isNone)) = true := by kernel_rfl
  have hn : ((Tryd.prog.funcs[70]!).name == "internal/abi.NoEscape") = true := by kernel_rfl
  simp only [aextB, hf, hb, hn, if_true]

theorem copyCheck_ok {h : AH} {b : Nat} {acc : Bs} {a v : Value} (x : Bd h b acc a v) : Gets Tryd.prog 58 [.pointer (some ⟨b, 0, none⟩)] h
    (fun res h' => res = .ret (.tuple #[]) ∧ Keep (· = b) h h' ∧ Bd h' b acc (.pointer (some ⟨b, 0, none⟩)) v) := by
  refine Gets.of (keep := false) hP (draw_ok hM) k58 (by rfl) (fun Ψ hΨ => ?_)
  obtain ⟨va, vc, rfl⟩ := row_shape x.ow.rds
  have o := x.own
  obtain ⟨g, hg⟩ := x.own
  rcases x.ad with rfl | rfl
  · simp only [mach, mach2, mstd, ↓reduceIte, Nat.reduceEqDiff, Nat.reduceAdd, Nat.reduceMul, r58, o.cells.ld, mbl, Nat.reduceLeDiff, Nat.reduceLT, Int.reduceEq, u_up o.cells (show 0 < 2 by omega)]
    refine XX_val (noesc_ok _ h) ?_
    simp only [mach, mach2, mstd, ↓reduceIte, Nat.reduceEqDiff, Nat.reduceAdd, Nat.reduceMul, u_pu hg (show 2 ≤ 2 by omega)]
    refine XH_own o rfl (by simp [Value.cells]) rfl (fun h' q1 q2 q3 => ?_)
    have o' : Own h' b bdT [.pointer (some ⟨b, 0, none⟩), .slice va acc.length vc] := by simpa [Value.cells] using q1
    simp only [mach, mach2, mstd, ↓reduceIte, Nat.reduceEqDiff, Nat.reduceAdd, Nat.reduceMul]
    exact hΨ _ _ (fin_norm ⟨rfl, q2, o', .inr rfl, x.ow.keep q2 (fun q hq e => by have := x.ne q hq; omega), x.ne, x.nl⟩)
  · simp only [mach, mach2, mstd, ↓reduceIte, Nat.reduceEqDiff, Nat.reduceAdd, Nat.reduceMul, r58, o.cells.ld, mbl, Nat.reduceLeDiff, Nat.reduceLT, Int.reduceEq]
    exact hΨ _ _ (fin_norm ⟨rfl, .refl _ _, o, .inr rfl, x.ow, x.ne, x.nl⟩)

theorem writeByte_ok {h : AH} {b : Nat} {acc : Bs} {a v : Value} (x : Bd h b acc a v) (c : UInt8) (hl : acc.length ≤ 140000000000000) : Gets Tryd.prog 27 [.pointer (some ⟨b, 0, none⟩), bv c] h
    (fun res h' => res = .ret .nilIface ∧ Keep (fun q => q = b ∨ bk v q) h h' ∧ ∃ v', Bd h' b (acc ++ [c]) (.pointer (some ⟨b, 0, none⟩)) v' ∧ ∀ q, bk v' q → bk v q ∨ h.length ≤ q) := by
  refine Gets.of (keep := false) hP (draw_ok hM) k27 (by rfl) (fun Ψ hΨ => ?_)
  simp only [mach, mach2, mstd, ↓reduceIte, Nat.reduceEqDiff, Nat.reduceAdd, Nat.reduceMul, r27]
  refine XX_of (copyCheck_ok x) (fun res h1 hle hr => ?_)
  obtain ⟨rfl, k1, x1⟩ := hr
  refine .ret ?_
  obtain ⟨s', h', a1, a2, a3, a4⟩ := app1 (bytes := 1) x1.ow (xs := [bv c]) rfl rfl (by omega) (by omega)
  obtain ⟨va, vc, rfl⟩ := row_shape x1.ow.rds
  obtain ⟨sa, sc, rfl⟩ := row_shape a2.rds
  simp only [mach, mach2, mstd, ↓reduceIte, Nat.reduceEqDiff, Nat.reduceAdd, Nat.reduceMul, x1.own.cells.ld, mbl, Nat.reduceLeDiff, Nat.reduceLT, Int.reduceEq, a1]
  have o2 : Own h' b bdT [.pointer (some ⟨b, 0, none⟩), .slice va acc.length vc] := x1.own.keep a3 (fun e => by have := x1.ne b e; omega)
  refine XH_own o2 rfl (by simp [Value.cells]) rfl (fun h2 q1 q2 q3 => ?_)
  have o3 : Own h2 b bdT [.pointer (some ⟨b, 0, none⟩), .slice sa (acc.length + 1) sc] := by simpa [Value.cells] using q1
  have hb := x1.own.lt
  have hlen := k1.len
  have hbl := x.own.lt
  have fr : ∀ q, bk (.slice sa (acc.length + 1) sc) q → b < q := fun q hq => by
    rcases a4 q hq with e | e
    · exact x1.ne q e
    · omega
  simp only [mach, mach2, mstd, ↓reduceIte, Nat.reduceEqDiff, Nat.reduceAdd, Nat.reduceMul]
  refine hΨ _ _ (fin_ret (rv1 rfl ⟨rfl, ?_, _, ⟨o3, .inr rfl, ?_, fr, fun e => by simp at e⟩, fun q hq => ?_⟩))
  · exact ((k1.mono (fun c e => .inl e)).trans' a3 (fun q hq e => .inr e)).trans' q2 (fun q hq e => .inl e)
  · have := a2.keep q2 (fun q hq e => by have := fr q hq; omega)
    simpa using this
  · exact (a4 q hq).imp id (fun e => by omega)

theorem writeString_ok {h : AH} {b : Nat} {acc : Bs} {a v : Value} (x : Bd h b acc a v) (l : Bs) (hl : acc.length + l.length ≤ 140000000000000) : Gets Tryd.prog 28 [.pointer (some ⟨b, 0, none⟩), tv l] h
    (fun res h' => res = .ret (.tuple #[iv l.length, .nilIface]) ∧ Keep (fun q => q = b ∨ bk v q) h h' ∧ ∃ v', Bd h' b (acc ++ l) (.pointer (some ⟨b, 0, none⟩)) v' ∧ ∀ q, bk v' q → bk v q ∨ h.length ≤ q) := by
  refine Gets.of (keep := false) hP (draw_ok hM) k28 (by rfl) (fun Ψ hΨ => ?_)
  simp only [mach, mach2, mstd, ↓reduceIte, Nat.reduceEqDiff, Nat.reduceAdd, Nat.reduceMul, r28]
  refine XX_of (copyCheck_ok x) (fun res h1 hle hr => ?_)
  obtain ⟨rfl, k1, x1⟩ := hr
  refine .ret ?_
  obtain ⟨s', h', a1, a2, a3, a4⟩ := x1.ow.app (bytes := 1) (str := true) (x := tv l) (m := l.length) (xs := l.map bv) (by simp [srcv, tx_size, cells_tx]) (by simp) (by simp [Value.oneCell']) (by omega) (by omega)
  have nl : acc ++ l = [] → s' = .slice none 0 0 := fun e => by
    obtain ⟨e1, e2⟩ := List.append_eq_nil_iff.1 e
    have hv := x1.nl e1
    subst e2
    rw [hv] at a1
    simp [appv, srcv, tx_size] at a1
    exact a1.1.symm
  obtain ⟨va, vc, rfl⟩ := row_shape x1.ow.rds
  obtain ⟨sa, sc, rfl⟩ := row_shape a2.rds
  simp only [mach, mach2, mstd, ↓reduceIte, Nat.reduceEqDiff, Nat.reduceAdd, Nat.reduceMul, x1.own.cells.ld, mbl, Nat.reduceLeDiff, Nat.reduceLT, Int.reduceEq, a1]
  have o2 : Own h' b bdT [.pointer (some ⟨b, 0, none⟩), .slice va acc.length vc] := x1.own.keep a3 (fun e => by have := x1.ne b e; omega)
  refine XH_own o2 rfl (by simp [Value.cells]) rfl (fun h2 q1 q2 q3 => ?_)
  have o3 : Own h2 b bdT [.pointer (some ⟨b, 0, none⟩), .slice sa (acc.length + l.length) sc] := by simpa [Value.cells] using q1
  have hb := x1.own.lt
  have hlen := k1.len
  have hbl := x.own.lt
  have fr : ∀ q, bk (.slice sa (acc.length + l.length) sc) q → b < q := fun q hq => by
    rcases a4 q hq with e | e
    · exact x1.ne q e
    · omega
  simp only [mach, mach2, mstd, ↓reduceIte, Nat.reduceEqDiff, Nat.reduceAdd, Nat.reduceMul, tx_size]
  refine hΨ _ _ (fin_ret (rv2 rfl rfl ⟨rfl, ?_, _, ⟨o3, .inr rfl, ?_, fr, nl⟩, fun q hq => ?_⟩))
  · exact ((k1.mono (fun c e => .inl e)).trans' a3 (fun q hq e => .inr e)).trans' q2 (fun q hq e => .inl e)
  · have := a2.keep q2 (fun q hq e => by have := fr q hq; omega)
    simpa using this
  · exact (a4 q hq).imp id (fun e => by omega)

theorem string_ok {h : AH} {b : Nat} {acc : Bs} {a v : Value} (x : Bd h b acc a v) (hl : acc.length ≤ 140000000000000) : Gets Tryd.prog 29 [.pointer (some ⟨b, 0, none⟩)] h
    (fun res h' => res = .ret (tv acc) ∧ Keep (bk v) h h') := by
  refine Gets.of (keep := false) hP (draw_ok hM) k29 (by rfl) (fun Ψ hΨ => ?_)
  have hv := x.own
  by_cases h0 : acc = []
  · have e := x.nl h0
    subst h0 e
    have hu : ustv h 5 (.pointer none) (iv 0) = some (.string ByteArray.empty, h) := rfl
    simp only [mach, mach2, mstd, ↓reduceIte, Nat.reduceEqDiff, Nat.reduceAdd, Nat.reduceMul, r29, hv.cells.ld, mbl, Nat.reduceLeDiff, Nat.reduceLT, Int.reduceEq, hu]
    exact hΨ _ _ (fin_ret (rv1 rfl ⟨rfl, .refl _ _⟩))
  · have hpos : 0 < acc.length := List.length_pos_iff.2 h0
    obtain ⟨b2, c, all, e, ob, hall, hnc, htk⟩ := ows_open x.ow hpos
    subst e
    have hc0 : c ≠ 0 := by omega
    obtain ⟨g, hg⟩ := ob
    have hu : ustv h 5 (.pointer (some ⟨b2, 0, none⟩)) (iv acc.length) = some (.string (tx acc), h.set b2 (.cells false true g 0 5 all)) := by
      have h1 : ¬ (acc.length : Int) = 0 := by omega
      have h2 : (0 : Int) < (acc.length : Int) := by omega
      have h3 : 0 + acc.length ≤ all.length := by omega
      have h4 : (acc.length : Int) ≤ 9223372036854775807 := by omega
      simp only [ustv, h1, if_false, hg, Int.toNat_natCast, h2, h3, h4, and_self, if_true, List.drop_zero, htk, asBytes_tx, Option.map_some, pushAll_tx]
    simp only [mach, mach2, mstd, ↓reduceIte, Nat.reduceEqDiff, Nat.reduceAdd, Nat.reduceMul, r29, hv.cells.ld, mbl, Nat.reduceLeDiff, Nat.reduceLT, Int.reduceEq, hc0, hu, ct1]
    exact hΨ _ _ (fin_ret (rv1 rfl ⟨rfl, (Keep.set _ _ _).mono (fun q e => e)⟩))
end Go.S07
