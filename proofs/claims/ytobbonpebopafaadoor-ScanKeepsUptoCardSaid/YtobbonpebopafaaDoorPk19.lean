import Derived.Test.YtobbonpebopafaaDoorPk18
/- Tokens: a text's tokens, what Tokens comes to. -/
set_option linter.unusedVariables false
set_option linter.unusedSimpArgs false
namespace Go.S07
open Go Go.Eng Go.Proofs Go.Scn

theorem skp_plc {s : Bs} {p : Nat} {r : Bs} (hp : p ≤ s.length) (h : skp (s.drop p) = .ok r) : ∃ q, p ≤ q ∧ q ≤ s.length ∧ r = s.drop q ∧ s.length - r.length = q := by
  obtain ⟨_, n, rfl⟩ := skp_fix h
  by_cases hn : n ≤ s.length - p
  · refine ⟨p + n, by omega, by omega, by rw [List.drop_drop], ?_⟩
    simp; omega
  · refine ⟨s.length, by omega, Nat.le_refl _, ?_, ?_⟩
    · rw [List.drop_drop, List.drop_length, List.drop_eq_nil_of_le (by omega)]
    · rw [List.drop_drop, List.drop_eq_nil_of_le (by omega)]; simp

section
variable {h : AH} {s : Bs}

set_option maxHeartbeats 4000000 in
theorem Tokens_ok (s : Bs) (h : AH) : Gets Tryd.prog 10 [tv s] h (TokO h s) := by
  refine Gets.ofd (keep := false) (keepg := false) hP (draw_ok hM) (draw_ok hM) k10 k20 (by rfl) (fun Ψ hΨ => ?_)
  have oA0 := Own.new h tlT h.length [.slice none 0 0]
  have kp1 : Keep (fun _ => False) h (h ++ [row tlT h.length [.slice none 0 0]]) := Keep.push _ _ _
  by_cases h8 : (8000 : Int) < (s.length : Int)
  · simp only [mach, mach2, mstd, ↓reduceIte, Nat.reduceEqDiff, Nat.reduceAdd, Nat.reduceMul, r10, mbl, Nat.reduceLeDiff, Nat.reduceLT, Int.reduceEq, tx_size, eq_true h8]
    generalize hh1 : h ++ [row tlT h.length [.slice none 0 0]] = h1 at oA0 kp1 ⊢
    have hl1 : h1.length = h.length + 1 := by rw [← hh1]; simp
    have oB0 := Own.new h1 inT h1.length [iv 0]
    have kp2 : Keep (fun _ => False) h1 (h1 ++ [row inT h1.length [iv 0]]) := Keep.push _ _ _
    generalize hh2 : h1 ++ [row inT h1.length [iv 0]] = h2 at oB0 kp2 ⊢
    have hl2 : h2.length = h1.length + 1 := by rw [← hh2]; simp
    have oC := Own.new h2 erT h2.length [iv 0]
    have kp3 : Keep (fun _ => False) h2 (h2 ++ [row erT h2.length [iv 0]]) := Keep.push _ _ _
    generalize hh3 : h2 ++ [row erT h2.length [iv 0]] = h3 at oC kp3 ⊢
    have hl3 : h3.length = h2.length + 1 := by rw [← hh3]; simp
    have oA := (oA0.keep kp2 (fun e => e)).keep kp3 (fun e => e)
    have oB := oB0.keep kp3 (fun e => e)
    refine XH_own oA rfl (by simp [Value.cells]) rfl (fun h5 p1 p2 p3 => ?_)
    have oA5 : Own h5 h.length tlT [.slice none 0 0] := by simpa [Value.cells] using p1
    have oB5 := oB.keep p2 (fun e => by omega)
    have oC5 := oC.keep p2 (fun e => by omega)
    simp only [mach, mach2, mstd, ↓reduceIte, Nat.reduceEqDiff, Nat.reduceAdd, Nat.reduceMul]
    refine XH_own oB5 rfl (by simp [Value.cells]) rfl (fun h6 t1 t2 t3 => ?_)
    have oB6 : Own h6 h1.length inT [iv 0] := by simpa [Value.cells] using t1
    have oA6 := oA5.keep t2 (fun e => by omega)
    have oC6 := oC5.keep t2 (fun e => by omega)
    simp only [mach, mach2, mstd, ↓reduceIte, Nat.reduceEqDiff, Nat.reduceAdd, Nat.reduceMul]
    refine XH_own oC6 rfl (by simp [Value.cells]) rfl (fun h7 u1 u2 u3 => ?_)
    have oC7 : Own h7 h2.length erT [iv 11] := by simpa [Value.cells] using u1
    have oA7 := oA6.keep u2 (fun e => by omega)
    have oB7 := oB6.keep u2 (fun e => by omega)
    simp only [mach, mach2, mstd, ↓reduceIte, Nat.reduceEqDiff, Nat.reduceAdd, Nat.reduceMul]
    have kk : Keep (fun _ => False) h h7 := ((((kp1.trans kp2).trans kp3).trans' p2 (fun c hc e => by omega)).trans' t2 (fun c hc e => by omega)).trans' u2 (fun c hc e => by omega)
    have hF : tokF s = ([], 0, 11) := by rw [tokF, if_pos (by omega)]
    refine hΨ _ _ (dfr_no (rvc3 (p := .pointer (some ⟨h.length, 0, none⟩)) (q := .pointer (some ⟨h1.length, 0, none⟩)) (r := .pointer (some ⟨h2.length, 0, none⟩)) (u := .slice none 0 0) (v := iv 0) (w := iv 11) rfl ?_ rfl ?_ rfl ?_ ⟨kk, .slice none 0 0, by rw [hF]; rfl, by rw [hF]; exact .nil, fun q e => e.elim⟩))
    · simp only [uval]; rw [oA7.cells.ld]; rfl
    · simp only [uval]; rw [oB7.cells.ld]; rfl
    · simp only [uval]; rw [oC7.cells.ld]; rfl
  · simp only [mach, mach2, mstd, ↓reduceIte, Nat.reduceEqDiff, Nat.reduceAdd, Nat.reduceMul, r10, mbl, Nat.reduceLeDiff, Nat.reduceLT, Int.reduceEq, tx_size, h8]
    generalize hh1 : h ++ [row tlT h.length [.slice none 0 0]] = h1 at oA0 kp1 ⊢
    have hl1 : h1.length = h.length + 1 := by rw [← hh1]; simp
    have oB0 := Own.new h1 inT h1.length [iv 0]
    have kp2 : Keep (fun _ => False) h1 (h1 ++ [row inT h1.length [iv 0]]) := Keep.push _ _ _
    generalize hh2 : h1 ++ [row inT h1.length [iv 0]] = h2 at oB0 kp2 ⊢
    have hl2 : h2.length = h1.length + 1 := by rw [← hh2]; simp
    have oC0 := Own.new h2 erT h2.length [iv 0]
    have kp3 : Keep (fun _ => False) h2 (h2 ++ [row erT h2.length [iv 0]]) := Keep.push _ _ _
    generalize hh3 : h2 ++ [row erT h2.length [iv 0]] = h3 at oC0 kp3 ⊢
    have hl3 : h3.length = h2.length + 1 := by rw [← hh3]; simp
    have oS := Own.new h3 41 h3.length [tv s, iv 0, .slice none 0 0]
    have kp4 : Keep (fun _ => False) h3 (h3 ++ [row 41 h3.length [tv s, iv 0, .slice none 0 0]]) := Keep.push _ _ _
    generalize hh4 : h3 ++ [row 41 h3.length [tv s, iv 0, .slice none 0 0]] = h4 at oS kp4 ⊢
    have hl4 : h4.length = h3.length + 1 := by rw [← hh4]; simp
    have oA := ((oA0.keep kp2 (fun e => e)).keep kp3 (fun e => e)).keep kp4 (fun e => e)
    have oB := (oB0.keep kp3 (fun e => e)).keep kp4 (fun e => e)
    have oC := oC0.keep kp4 (fun e => e)
    have kpa : Keep (fun _ => False) h h4 := ((kp1.trans kp2).trans kp3).trans kp4
    have x0 : Sc h4 h3.length s 0 [] (.slice none 0 0) := ⟨⟨oS, Nat.zero_le _, by omega⟩, .nil, fun q e => e.elim, Nat.zero_le _⟩
    refine XX_of (skip_ok x0.sc) (fun res h5 hle hr => ?_)
    obtain ⟨k5, hr⟩ := hr
    have kpb : Keep (fun _ => False) h h5 := kpa.trans' k5 (fun c hc e => by omega)
    have oA5 := oA.keep k5 (fun e => by omega)
    have oB5 := oB.keep k5 (fun e => by omega)
    have oC5 := oC.keep k5 (fun e => by omega)
    rw [List.drop_zero] at hr
    cases hsk : skp s with
    | error r =>
      rw [hsk] at hr
      simp only [plc] at hr
      subst hr
      refine .pan ?_
      simp only [mach, mach2, mstd, ↓reduceIte, Nat.reduceEqDiff, Nat.reduceAdd, Nat.reduceMul]
      exact tok_fail hΨ rfl rfl rfl oA5 oB5 oC5 (by omega) (by omega) (by omega) (by omega) (by omega) (by omega) kpb (by omega) (toks_fault hsk)
    | ok r =>
    rw [hsk] at hr
    simp only [plc] at hr
    obtain ⟨rfl, y5⟩ := hr
    obtain ⟨q0, _, hq0, hr0, hr1⟩ := skp_plc (p := 0) (Nat.zero_le _) (by rw [List.drop_zero]; exact hsk)
    rw [hr1] at y5
    have hfix : skp (s.drop q0) = .ok (s.drop q0) := by rw [← hr0]; exact (skp_fix hsk).1
    have hts : toks s.length (s.drop q0) = toks s.length s := by rw [← hr0]; exact (toks_skip hsk).symm
    refine .ret ?_
    simp only [mach, mach2, mstd, ↓reduceIte, Nat.reduceEqDiff, Nat.reduceAdd, Nat.reduceMul]
    refine XLo_rule (α := Nat × List Tk × Value) (fun a => [(0, tv s), (2, .pointer (some ⟨h.length, 0, none⟩)), (3, .pointer (some ⟨h1.length, 0, none⟩)), (4, .pointer (some ⟨h2.length, 0, none⟩)), (5, .pointer (some ⟨h3.length, 0, none⟩))])
      (fun a h' => Keep (fun _ => False) h h' ∧ Own h' h.length tlT [.slice none 0 0] ∧ Own h' h1.length inT [iv 0] ∧ Own h' h2.length erT [iv 0] ∧ Sc h' h3.length s a.1 a.2.1 a.2.2 ∧ skp (s.drop a.1) = .ok (s.drop a.1) ∧ pre a.2.1 (toks s.length (s.drop a.1)) = toks s.length s) (fun a => s.length - a.1) (q0, [], .slice none 0 0)
      ⟨kpb, oA5, oB5, oC5, ⟨y5, .nil, fun q e => e.elim, Nat.zero_le _⟩, hfix, by rw [pre_nil]; exact hts⟩ ⟨rfl, rfl, rfl, rfl, rfl, trivial⟩ ?_
    rintro ⟨p, ts, lv⟩ g1 Ψ2 ⟨kp, nA, nB, nC, x1, hfx, heq⟩ next out
    simp only at x1 hfx heq
    have hple := x1.sc.le
    by_cases hp : (p : Int) < (s.length : Int)
    case neg =>
      have hF : tokF s = (ts, 0, 0) := by
        rw [tokF, if_neg (by omega), ← heq, show s.drop p = [] from List.drop_eq_nil_of_le (by omega), toks_end]
        simp [pre]
      simp only [mach, mach2, mstd, ↓reduceIte, Nat.reduceEqDiff, Nat.reduceAdd, Nat.reduceMul, x1.sc.own.cells.ld, mbl, Nat.reduceLeDiff, Nat.reduceLT, Int.reduceEq, tx_size, hp]
      refine out (.exit 0) _ _ _ _ (by intro e; cases e) ?_
      obtain ⟨va, vc, rfl⟩ := row_shape x1.ow.rds
      simp only [mach, mach2, mstd, ↓reduceIte, Nat.reduceEqDiff, Nat.reduceAdd, Nat.reduceMul, x1.sc.own.cells.ld, mbl, Nat.reduceLeDiff, Nat.reduceLT, Int.reduceEq]
      refine XH_own nA rfl (by simp [Value.cells]) rfl (fun h5 p1 p2 p3 => ?_)
      have oA5 : Own h5 h.length tlT [.slice va ts.length vc] := by simpa [Value.cells] using p1
      have oB5 := nB.keep p2 (fun e => by omega)
      have oC5 := nC.keep p2 (fun e => by omega)
      simp only [mach, mach2, mstd, ↓reduceIte, Nat.reduceEqDiff, Nat.reduceAdd, Nat.reduceMul]
      refine XH_own oB5 rfl (by simp [Value.cells]) rfl (fun h6 t1 t2 t3 => ?_)
      have oB6 : Own h6 h1.length inT [iv 0] := by simpa [Value.cells] using t1
      have oA6 := oA5.keep t2 (fun e => by omega)
      have oC6 := oC5.keep t2 (fun e => by omega)
      simp only [mach, mach2, mstd, ↓reduceIte, Nat.reduceEqDiff, Nat.reduceAdd, Nat.reduceMul]
      refine XH_own oC6 rfl (by simp [Value.cells]) rfl (fun h7 u1 u2 u3 => ?_)
      have oC7 : Own h7 h2.length erT [iv 0] := by simpa [Value.cells] using u1
      have oA7 := oA6.keep u2 (fun e => by omega)
      have oB7 := oB6.keep u2 (fun e => by omega)
      simp only [mach, mach2, mstd, ↓reduceIte, Nat.reduceEqDiff, Nat.reduceAdd, Nat.reduceMul]
      have ow7 := ((x1.ow.keep p2 (fun q hq e => by have := x1.fr q hq; omega)).keep t2 (fun q hq e => by have := x1.fr q hq; omega)).keep u2 (fun q hq e => by have := x1.fr q hq; omega)
      refine tok_done hΨ rfl rfl rfl oA7 (by rw [hF]; exact oB7) (by rw [hF]; exact oC7) (((kp.trans' p2 (fun c hc e => by omega)).trans' t2 (fun c hc e => by omega)).trans' u2 (fun c hc e => by omega)) (by rw [hF]; exact ow7) (fun q hq => by have := x1.fr q hq; omega)
    simp only [mach, mach2, mstd, ↓reduceIte, Nat.reduceEqDiff, Nat.reduceAdd, Nat.reduceMul, x1.sc.own.cells.ld, mbl, Nat.reduceLeDiff, Nat.reduceLT, Int.reduceEq, tx_size, hp]
    refine XX_of (token_ok x1 (by omega) (by omega)) (fun res g2 hle hr => ?_)
    obtain ⟨k2, hr⟩ := hr
    have kp2 : Keep (fun _ => False) h g2 := kp.trans' k2 (fun c hc e => by omega)
    have mA := nA.keep k2 (fun e => by omega)
    have mB := nB.keep k2 (fun e => by omega)
    have mC := nC.keep k2 (fun e => by omega)
    have hne : s.drop p ≠ [] := by rw [List.drop_eq_getElem_cons (show p < s.length by omega)]; exact List.cons_ne_nil _ _
    have hNp : s.length - (s.drop p).length = p := by rw [List.length_drop]; omega
    cases htk : tokS (s.drop p) with
    | none =>
      rw [toO, htk] at hr
      simp only at hr
      subst hr
      refine .pan ?_
      simp only [mach, mach2, mstd, ↓reduceIte, Nat.reduceEqDiff, Nat.reduceAdd, Nat.reduceMul]
      refine out (.pan _) _ _ _ _ (by intro e; cases e) ?_
      simp only [mach, mach2, mstd, ↓reduceIte, Nat.reduceEqDiff, Nat.reduceAdd, Nat.reduceMul]
      refine tok_fail hΨ rfl rfl rfl mA mB mC (by omega) (by omega) (by omega) (by omega) (by omega) (by omega) kp2 (by omega) (q := p) ?_
      rw [← heq, toks_none hfx hne htk, hNp]; rfl
    | some y =>
      obtain ⟨k, t, v, n⟩ := y
      rw [toO, htk] at hr
      simp only at hr
      obtain ⟨rfl, lv2, x2⟩ := hr
      refine .ret ?_
      have hst : pre (ts ++ [⟨k, t, v, p⟩]) (toks s.length (s.drop (p + n))) = toks s.length s := by
        rw [← heq, toks_step hfx hne htk, pre_pre, hNp, List.drop_drop]
      have hpn := (tokS_pos htk).1
      simp only [mach, mach2, mstd, ↓reduceIte, Nat.reduceEqDiff, Nat.reduceAdd, Nat.reduceMul]
      refine XX_of (skip_ok x2.sc) (fun res g3 hle hr => ?_)
      obtain ⟨k3, hr⟩ := hr
      have kp3 : Keep (fun _ => False) h g3 := kp2.trans' k3 (fun c hc e => by omega)
      have lA := mA.keep k3 (fun e => by omega)
      have lB := mB.keep k3 (fun e => by omega)
      have lC := mC.keep k3 (fun e => by omega)
      cases hsk2 : skp (s.drop (p + n)) with
      | error r =>
        rw [hsk2] at hr
        simp only [plc] at hr
        subst hr
        refine .pan ?_
        simp only [mach, mach2, mstd, ↓reduceIte, Nat.reduceEqDiff, Nat.reduceAdd, Nat.reduceMul]
        refine out (.pan _) _ _ _ _ (by intro e; cases e) ?_
        simp only [mach, mach2, mstd, ↓reduceIte, Nat.reduceEqDiff, Nat.reduceAdd, Nat.reduceMul]
        refine tok_fail hΨ rfl rfl rfl lA lB lC (by omega) (by omega) (by omega) (by omega) (by omega) (by omega) kp3 (by omega) ?_
        rw [← hst, toks_fault hsk2]; rfl
      | ok r =>
        rw [hsk2] at hr
        simp only [plc] at hr
        obtain ⟨rfl, y3⟩ := hr
        refine .ret ?_
        obtain ⟨q, hq1, hq2, hq3, hq4⟩ := skp_plc x2.sc.le hsk2
        rw [hq4] at y3
        simp only [mach, mach2, mstd, ↓reduceIte, Nat.reduceEqDiff, Nat.reduceAdd, Nat.reduceMul]
        refine next (q, ts ++ [⟨k, t, v, p⟩], lv2) _ _ _ ⟨kp3, lA, lB, lC, ⟨y3, x2.ow.keep k3 (fun c hc e => by have := x2.fr c hc; omega), x2.fr, by have := x2.ln; simp only; omega⟩, ?_, ?_⟩ ⟨rfl, rfl, rfl, rfl, rfl, trivial⟩ (by simp only; omega)
        · simp only; rw [← hq3]; exact (skp_fix hsk2).1
        · simp only; rw [← hst, ← hq3, toks_skip hsk2]
end
end Go.S07

/- Tokens: the document's side: bytes, words, names. -/
set_option linter.unusedVariables false
set_option linter.unusedSimpArgs false
namespace Go.S07
open Go Go.Eng Go.Proofs Go.Scn

theorem rsmall_ok : Says 36 small := by
  intro c h
  refine Gets.of (keep := false) hP (draw_ok hM) k36 (by rfl) (fun Ψ hΨ => ?_)
  by_cases h1 : (97:Int) ≤ c.toNat <;> by_cases h2 : (c.toNat : Int) ≤ 122 <;>
    (simp only [mach, mach2, mstd, ↓reduceIte, Nat.reduceEqDiff, Nat.reduceAdd, Nat.reduceMul, r36, h1, h2]; exact hΨ _ _ (fin_ret (rv1 rfl ⟨rfl, by
      first
        | exact congrArg (fun b => Res.ret (.bool b)) (decide_eq_true (by omega)).symm
        | exact congrArg (fun b => Res.ret (.bool b)) (by unfold small; rw [decide_eq_decide]; omega)⟩)))
theorem rlarge_ok : Says 37 large := by
  intro c h
  refine Gets.of (keep := false) hP (draw_ok hM) k37 (by rfl) (fun Ψ hΨ => ?_)
  by_cases h1 : (65:Int) ≤ c.toNat <;> by_cases h2 : (c.toNat : Int) ≤ 90 <;>
    (simp only [mach, mach2, mstd, ↓reduceIte, Nat.reduceEqDiff, Nat.reduceAdd, Nat.reduceMul, r37, h1, h2]; exact hΨ _ _ (fin_ret (rv1 rfl ⟨rfl, (by first | exact congrArg (fun b => Res.ret (.bool b)) (decide_eq_true (by omega)).symm | exact congrArg (fun b => Res.ret (.bool b)) (decide_eq_false (by omega)).symm)⟩)))
theorem rdigit_ok : Says 53 digit := by
  intro c h
  refine Gets.of (keep := false) hP (draw_ok hM) k53 (by rfl) (fun Ψ hΨ => ?_)
  by_cases h1 : (48:Int) ≤ c.toNat <;> by_cases h2 : (c.toNat : Int) ≤ 57 <;>
    (simp only [mach, mach2, mstd, ↓reduceIte, Nat.reduceEqDiff, Nat.reduceAdd, Nat.reduceMul, r53, h1, h2]; exact hΨ _ _ (fin_ret (rv1 rfl ⟨rfl, (by first | exact congrArg (fun b => Res.ret (.bool b)) (decide_eq_true (by omega)).symm | exact congrArg (fun b => Res.ret (.bool b)) (decide_eq_false (by omega)).symm)⟩)))
theorem rinner_ok : Says 38 inner := by
  intro c h
  refine Gets.of (keep := false) hP (draw_ok hM) k38 (by rfl) (fun Ψ hΨ => ?_)
  simp only [mach, mach2, mstd, ↓reduceIte, Nat.reduceEqDiff, Nat.reduceAdd, Nat.reduceMul, r38]
  refine XX_val (rsmall_ok c h) ?_
  cases h1 : small c with
  | true => simp only [mach, mach2, mstd, ↓reduceIte, Nat.reduceEqDiff, Nat.reduceAdd, Nat.reduceMul]; exact hΨ _ _ (fin_ret (rv1 rfl ⟨rfl, by simp [tup, inner, h1]⟩))
  | false =>
  simp only [mach, mach2, mstd, ↓reduceIte, Nat.reduceEqDiff, Nat.reduceAdd, Nat.reduceMul]
  refine XX_val (rlarge_ok c h) ?_
  cases h2 : large c with
  | true => simp only [mach, mach2, mstd, ↓reduceIte, Nat.reduceEqDiff, Nat.reduceAdd, Nat.reduceMul]; exact hΨ _ _ (fin_ret (rv1 rfl ⟨rfl, by simp [tup, inner, h2]⟩))
  | false =>
  simp only [mach, mach2, mstd, ↓reduceIte, Nat.reduceEqDiff, Nat.reduceAdd, Nat.reduceMul]
  refine XX_val (rdigit_ok c h) ?_
  cases h3 : digit c with
  | true => simp only [mach, mach2, mstd, ↓reduceIte, Nat.reduceEqDiff, Nat.reduceAdd, Nat.reduceMul]; exact hΨ _ _ (fin_ret (rv1 rfl ⟨rfl, by simp [tup, inner, h3]⟩))
  | false =>
  simp only [mach, mach2, mstd, ↓reduceIte, Nat.reduceEqDiff, Nat.reduceAdd, Nat.reduceMul]
  exact hΨ _ _ (fin_ret (rv1 rfl ⟨rfl, by
    simp only [tup, inner, h1, h2, h3, Bool.false_or]
    exact congrArg (fun b => Res.ret (.bool b)) (by rw [decide_eq_decide]; omega)⟩))

theorem in_ok (c : UInt8) (l : Bs) (hl : l.length ≤ 8000) (h : AH) : Gets Tryd.prog 51 [bv c, tv l] h (fun res h' => h' = h ∧ res = .ret (.bool (l.contains c))) := by
  refine Gets.of (keep := false) hP (draw_ok hM) k51 (by rfl) (fun Ψ hΨ => ?_)
  simp only [mach, mach2, mstd, ↓reduceIte, Nat.reduceEqDiff, Nat.reduceAdd, Nat.reduceMul, r51]
  refine XLo_rule (α := Nat) (fun i => [(0, bv c), (1, tv l), (5, iv i)]) (fun i h' => h' = h ∧ i ≤ l.length ∧ ∀ j, j < i → l[j]? ≠ some c) (fun i => l.length - i) 0
    ⟨rfl, Nat.zero_le _, fun j hj => by omega⟩ ⟨rfl, rfl, rfl, trivial⟩ ?_
  rintro i h1 Ψ2 ⟨rfl, hi, hall⟩ next out
  by_cases hlt : (i : Int) < (l.length : Int)
  · have hil : i < l.length := by omega
    have hc : l[i]? = some l[i] := List.getElem?_eq_getElem hil
    have g0 : (0 : Int) ≤ (i : Int) := by omega
    have hw : IntKind.i64.wrap ((i : Int) + 1) = ((i + 1 : Nat) : Int) := by rw [i64w (by omega) (by omega)]; omega
    by_cases he : (l[i].toNat : Int) = (c.toNat : Int)
    · have hec : l[i] = c := UInt8.toNat_inj.1 (by omega)
      simp only [mach, mach2, mstd, ↓reduceIte, Nat.reduceEqDiff, Nat.reduceAdd, Nat.reduceMul, tx_size, hlt, tx_get, g0, Int.toNat_natCast, hc, eq_true he]
      refine out .ret _ _ _ _ (by intro e; cases e) ?_
      simp only [mach, mach2, mstd, ↓reduceIte, Nat.reduceEqDiff, Nat.reduceAdd, Nat.reduceMul]
      refine hΨ _ _ (fin_ret (rv1 rfl ⟨rfl, ?_⟩))
      rw [List.contains_iff_mem.2 (hec ▸ List.getElem_mem hil)]; rfl
    · simp only [mach, mach2, mstd, ↓reduceIte, Nat.reduceEqDiff, Nat.reduceAdd, Nat.reduceMul, tx_size, hlt, tx_get, g0, Int.toNat_natCast, hc, he, hw]
      refine next (i + 1) _ _ _ ⟨rfl, by omega, fun j hj => ?_⟩ ⟨rfl, rfl, rfl, trivial⟩ (by omega)
      rcases Nat.lt_or_ge j i with e | e
      · exact hall j e
      · have : j = i := by omega
        subst this
        rw [hc]; intro e2; cases e2; exact he rfl
  · simp only [mach, mach2, mstd, ↓reduceIte, Nat.reduceEqDiff, Nat.reduceAdd, Nat.reduceMul, tx_size, hlt]
    refine out (.exit 0) _ _ _ _ (by intro e; cases e) ?_
    simp only [mach, mach2, mstd, ↓reduceIte, Nat.reduceEqDiff, Nat.reduceAdd, Nat.reduceMul]
    refine hΨ _ _ (fin_ret (rv1 rfl ⟨rfl, ?_⟩))
    have : l.contains c = false := by
      rw [Bool.eq_false_iff]
      intro hm
      obtain ⟨j, hj, e⟩ := List.getElem_of_mem (List.contains_iff_mem.1 hm)
      exact hall j (by omega) (by rw [List.getElem?_eq_getElem hj, e])
    rw [this]; rfl

theorem rsymbol_ok : Says 52 symb := by
  intro c h
  refine Gets.of (keep := false) hP (draw_ok hM) k52 (by rfl) (fun Ψ hΨ => ?_)
  simp only [mach, mach2, mstd, ↓reduceIte, Nat.reduceEqDiff, Nat.reduceAdd, Nat.reduceMul, r52]
  refine XX_val (in_ok c symL (by decide) h) ?_
  simp only [mach, mach2, mstd, ↓reduceIte, Nat.reduceEqDiff, Nat.reduceAdd, Nat.reduceMul]
  exact hΨ _ _ (fin_ret (rv1 rfl ⟨rfl, rfl⟩))
theorem rblank_ok : Says 23 wsp := by
  intro c h
  refine Gets.of (keep := false) hP (draw_ok hM) k23 (by rfl) (fun Ψ hΨ => ?_)
  simp only [mach, mach2, mstd, ↓reduceIte, Nat.reduceEqDiff, Nat.reduceAdd, Nat.reduceMul, r23]
  refine XX_val (in_ok c [32, 9, 10, 13] (by decide) h) ?_
  simp only [mach, mach2, mstd, ↓reduceIte, Nat.reduceEqDiff, Nat.reduceAdd, Nat.reduceMul]
  refine hΨ _ _ (fin_ret (rv1 rfl ⟨rfl, ?_⟩))
  have : ([32, 9, 10, 13] : Bs).contains c = wsp c := by
    rw [Bool.eq_iff_iff]
    simp only [List.contains_iff_mem, wsp, decide_eq_true_eq, List.mem_cons, List.not_mem_nil, or_false]
    have e : ∀ n : Nat, n < 256 → (c = UInt8.ofNat n ↔ c.toNat = n) := fun n hn => by
      constructor
      · intro e; rw [e]; show n % 256 = n; omega
      · intro e; apply UInt8.toNat_inj.1; rw [e]; show n = n % 256; omega
    have e1 := e 32 (by omega)
    have e2 := e 9 (by omega)
    have e3 := e 10 (by omega)
    have e4 := e 13 (by omega)
    exact or_congr e1 (or_congr e2 (or_congr e3 e4))
  rw [this]; rfl

/-! ### Words -/

def hitA (s w : Bs) (i : Nat) : Bool := w[i]? == some 32 && decide (s.length + 1 < w.length - i) && ((w.drop (i + 1)).take s.length == s) && w[i + 1 + s.length]? == some 32
def wordA (s : Bs) : Bool := decide (0 < s.length) && !s.contains 32
def amS (s w : Bs) : Bool := (List.range w.length).any (hitA s w) && wordA s
theorem am_of {w : Bs} {L : List Bs} (h1 : ((List.range w.length).all fun i => (List.range w.length).all fun n => !(hitA ((w.drop (i + 1)).take n) w i && wordA ((w.drop (i + 1)).take n)) || L.contains ((w.drop (i + 1)).take n)) = true)
    (h2 : (L.all fun s => amS s w) = true) (s : Bs) : amS s w = L.contains s := by
  rw [Bool.eq_iff_iff]
  constructor
  · intro h
    unfold amS at h
    rw [Bool.and_eq_true] at h
    obtain ⟨ha, hw⟩ := h
    obtain ⟨i, hi, hh⟩ := List.any_eq_true.1 ha
    have hi' : i < w.length := List.mem_range.1 hi
    have hh2 := hh
    unfold hitA at hh2
    simp only [Bool.and_eq_true, decide_eq_true_eq] at hh2
    have hn : s.length < w.length := by have := hh2.1.1.2; omega
    have e : (w.drop (i + 1)).take s.length = s := eq_of_beq hh2.1.2
    have := List.all_eq_true.1 (List.all_eq_true.1 h1 i hi) s.length (List.mem_range.2 hn)
    rw [e, hh, hw] at this
    simpa using this
  · intro h
    exact List.all_eq_true.1 h2 s (List.contains_iff_mem.1 h)

def keysW : Bs := [32, 100, 97, 116, 97, 32, 108, 101, 116, 32, 105, 110, 32, 119, 104, 101, 114, 101, 32, 99, 97, 115, 101, 32, 111, 102, 32, 105, 102, 32, 116, 104, 101, 110, 32, 101, 108, 115, 101, 32]
def marksW : Bs := [32, 40, 32, 41, 32, 91, 32, 93, 32, 123, 32, 125, 32, 44, 32, 59, 32, 95, 32, 61, 32, 124, 32, 45, 62, 32, 92, 32]
def opsW : Bs := [32, 36, 32, 124, 124, 32, 38, 38, 32, 61, 61, 32, 47, 61, 32, 60, 32, 60, 61, 32, 62, 32, 62, 61, 32, 58, 32, 43, 32, 45, 32, 42, 32, 46, 32]
theorem am_keys (s : Bs) : amS s keysW = keyL.contains s := am_of (by decide +kernel) (by decide +kernel) s
theorem am_marks (s : Bs) : amS s marksW = markL.contains s := am_of (by decide +kernel) (by decide +kernel) s
theorem am_ops (s : Bs) : amS s opsW = opL.contains s := am_of (by decide +kernel) (by decide +kernel) s

set_option maxHeartbeats 2000000 in
theorem among_ok (s w : Bs) (hs : s.length ≤ 9223372036854775800) (hw8 : w.length ≤ 8000) (h : AH) : Gets Tryd.prog 39 [tv s, tv w] h (fun res h' => h' = h ∧ res = .ret (.bool (amS s w))) := by
  refine Gets.of (keep := false) hP (draw_ok hM) k39 (by rfl) (fun Ψ hΨ => ?_)
  simp only [mach, mach2, mstd, ↓reduceIte, Nat.reduceEqDiff, Nat.reduceAdd, Nat.reduceMul, r39]
  refine XLo_rule (α := Nat) (fun i => [(0, tv s), (1, tv w), (5, iv i)]) (fun i h' => h' = h ∧ i ≤ w.length ∧ ∀ j, j < i → hitA s w j = false) (fun i => w.length - i) 0
    ⟨rfl, Nat.zero_le _, fun j hj => by omega⟩ ⟨rfl, rfl, rfl, trivial⟩ ?_
  rintro i h1 Ψ2 ⟨rfl, hi, hall⟩ next out
  by_cases hlt : (i : Int) < (w.length : Int)
  case neg =>
    simp only [mach, mach2, mstd, ↓reduceIte, Nat.reduceEqDiff, Nat.reduceAdd, Nat.reduceMul, tx_size, hlt]
    refine out (.exit 0) _ _ _ _ (by intro e; cases e) ?_
    simp only [mach, mach2, mstd, ↓reduceIte, Nat.reduceEqDiff, Nat.reduceAdd, Nat.reduceMul]
    refine hΨ _ _ (fin_ret (rv1 rfl ⟨rfl, ?_⟩))
    have : amS s w = false := by
      unfold amS
      rw [Bool.and_eq_false_iff]; left
      rw [List.any_eq_false]
      intro j hj
      have := hall j (by have := List.mem_range.1 hj; omega)
      rw [this]; simp
    rw [this]; rfl
  have hil : i < w.length := by omega
  have hc : w[i]? = some w[i] := List.getElem?_eq_getElem hil
  have g0 : (0 : Int) ≤ (i : Int) := by omega
  have hw1 : IntKind.i64.wrap ((i : Int) + 1) = ((i + 1 : Nat) : Int) := by rw [i64w (by omega) (by omega)]; omega
  have hw2 : IntKind.i64.wrap ((w.length : Int) - (i : Int)) = ((w.length - i : Nat) : Int) := by rw [i64w (by omega) (by omega)]; omega
  have hw3 : IntKind.i64.wrap ((s.length : Int) + 1) = ((s.length + 1 : Nat) : Int) := by rw [i64w (by omega) (by omega)]; omega
  have step : hitA s w i = false → ∀ l', Ψ2 .norm ⟨upd [(0, tv s), (1, tv w), (5, iv i)] 5 (iv ((i + 1 : Nat) : Int)), l', h1, []⟩ := fun e l' =>
    next (i + 1) _ _ _ ⟨rfl, by omega, fun j hj => by
      rcases Nat.lt_or_ge j i with e2 | e2
      · exact hall j e2
      · have : j = i := by omega
        subst this; exact e⟩ ⟨rfl, rfl, rfl, trivial⟩ (by omega)
  by_cases c1 : (w[i].toNat : Int) = 32
  case neg =>
    simp only [mach, mach2, mstd, ↓reduceIte, Nat.reduceEqDiff, Nat.reduceAdd, Nat.reduceMul, tx_size, hlt, tx_get, g0, Int.toNat_natCast, hc, c1, hw1]
    refine step ?_ _
    unfold hitA
    rw [hc]
    have : (some w[i] == some (32 : UInt8)) = false := by
      rw [beq_eq_false_iff_ne]; intro e
      exact c1 (by rw [Option.some.inj e]; rfl)
    rw [this]; rfl
  have q1 : w[i]? = some 32 := by rw [hc]; exact congrArg some (UInt8.toNat_inj.1 (by show w[i].toNat = 32; omega))
  by_cases c2 : ((s.length + 1 : Nat) : Int) < ((w.length - i : Nat) : Int)
  case neg =>
    simp only [mach, mach2, mstd, ↓reduceIte, Nat.reduceEqDiff, Nat.reduceAdd, Nat.reduceMul, tx_size, hlt, tx_get, g0, Int.toNat_natCast, hc, eq_true c1, hw1, hw2, hw3, c2]
    refine step ?_ _
    unfold hitA
    rw [show decide (s.length + 1 < w.length - i) = false from decide_eq_false (by omega)]; simp
  have hw4 : IntKind.i64.wrap (((i + 1 : Nat) : Int) + (s.length : Int)) = ((i + 1 + s.length : Nat) : Int) := by rw [i64w (by omega) (by omega)]; omega
  have hsl : slsv (.string (tx w)) (some (iv ((i + 1 : Nat) : Int))) (some (iv ((i + 1 + s.length : Nat) : Int))) = some (.string (tx ((w.drop (i + 1)).take s.length)), none) := by
    rw [sl_ft (by omega) (by omega), List.drop_take, show i + 1 + s.length - (i + 1) = s.length by omega]
  have hil2 : i + 1 + s.length < w.length := by omega
  have hd : w[i + 1 + s.length]? = some w[i + 1 + s.length] := List.getElem?_eq_getElem hil2
  have g1 : (0 : Int) ≤ ((i + 1 + s.length : Nat) : Int) := by omega
  have hd2 : decide (s.length + 1 < w.length - i) = true := decide_eq_true (by omega)
  cases c3 : ((w.drop (i + 1)).take s.length == s) with
  | false =>
    simp only [mach, mach2, mstd, ↓reduceIte, Nat.reduceEqDiff, Nat.reduceAdd, Nat.reduceMul, tx_size, hlt, tx_get, g0, Int.toNat_natCast, hc, eq_true c1, hw1, hw2, hw3, hw4, eq_true c2, hsl, tx_toList, c3]
    refine step ?_ _
    unfold hitA
    rw [c3]; simp
  | true =>
  by_cases c4 : (w[i + 1 + s.length].toNat : Int) = 32
  case neg =>
    simp only [mach, mach2, mstd, ↓reduceIte, Nat.reduceEqDiff, Nat.reduceAdd, Nat.reduceMul, tx_size, hlt, tx_get, g0, g1, Int.toNat_natCast, hc, hd, eq_true c1, hw1, hw2, hw3, hw4, eq_true c2, hsl, tx_toList, c3, c4]
    refine step ?_ _
    unfold hitA
    have : (some w[i + 1 + s.length] == some (32 : UInt8)) = false := by
      rw [beq_eq_false_iff_ne]; intro e
      exact c4 (by rw [Option.some.inj e]; rfl)
    rw [hd, this]; simp
  have q4 : w[i + 1 + s.length]? = some 32 := by rw [hd]; exact congrArg some (UInt8.toNat_inj.1 (by show w[i + 1 + s.length].toNat = 32; omega))
  have hit : hitA s w i = true := by
    unfold hitA
    rw [q1, q4, hd2, c3]; rfl
  have ham : amS s w = wordA s := by
    unfold amS
    rw [List.any_eq_true.2 ⟨i, List.mem_range.2 hil, hit⟩]; rfl
  by_cases c5 : (0 : Int) < (s.length : Int)
  · simp only [mach, mach2, mstd, ↓reduceIte, Nat.reduceEqDiff, Nat.reduceAdd, Nat.reduceMul, tx_size, hlt, tx_get, g0, g1, Int.toNat_natCast, hc, hd, eq_true c1, hw1, hw2, hw3, hw4, eq_true c2, hsl, tx_toList, c3, eq_true c4, eq_true c5]
    refine XX_val (in_ok 32 s (by omega) h1) ?_
    simp only [mach, mach2, mstd, ↓reduceIte, Nat.reduceEqDiff, Nat.reduceAdd, Nat.reduceMul]
    refine out .ret _ _ _ _ (by intro e; cases e) ?_
    simp only [mach, mach2, mstd, ↓reduceIte, Nat.reduceEqDiff, Nat.reduceAdd, Nat.reduceMul]
    refine hΨ _ _ (fin_ret (rv1 rfl ⟨rfl, ?_⟩))
    rw [ham, wordA, decide_eq_true (show 0 < s.length by omega)]; rfl
  · simp only [mach, mach2, mstd, ↓reduceIte, Nat.reduceEqDiff, Nat.reduceAdd, Nat.reduceMul, tx_size, hlt, tx_get, g0, g1, Int.toNat_natCast, hc, hd, eq_true c1, hw1, hw2, hw3, hw4, eq_true c2, hsl, tx_toList, c3, eq_true c4, c5]
    refine out .ret _ _ _ _ (by intro e; cases e) ?_
    simp only [mach, mach2, mstd, ↓reduceIte, Nat.reduceEqDiff, Nat.reduceAdd, Nat.reduceMul]
    refine hΨ _ _ (fin_ret (rv1 rfl ⟨rfl, ?_⟩))
    rw [ham, wordA, decide_eq_false (show ¬ 0 < s.length by omega)]; rfl
end Go.S07

/- Tokens: the document's side: names, bytes as written, comments. -/
set_option linter.unusedVariables false
set_option linter.unusedSimpArgs false
namespace Go.S07
open Go Go.Eng Go.Proofs Go.Scn

theorem spn_add {f : UInt8 → Bool} : ∀ (m : Nat) (l : Bs), (∀ i c, i < m → l[i]? = some c → f c = true) → m ≤ l.length → spn f l = m + spn f (l.drop m) := by
  intro m
  induction m with
  | zero => intro l _ _; simp
  | succ m ih =>
    intro l h hl
    cases l with
    | nil => simp at hl
    | cons c l =>
      rw [spn_cons, if_pos (h 0 c (by omega) rfl), List.drop_succ_cons, ih l (fun i d hi hd => h (i + 1) d (by omega) (by simpa using hd)) (by simpa using hl)]
      omega
theorem spn_zero {f : UInt8 → Bool} {l : Bs} (h : ∀ c, l[0]? = some c → f c = false) : spn f l = 0 := by
  cases l with
  | nil => rfl
  | cons c l => rw [spn_cons, if_neg (by rw [h c rfl]; simp)]

/-! ### Names -/

theorem nameK_bad {c : UInt8} {r : Bs} (h : spn inner (c :: r) < (c :: r).length) : nameK (c :: r) = 0 := nameK_zero (.inr (.inr (.inr h)))

set_option maxHeartbeats 1000000 in
theorem rname_ok (l : Bs) (hl : l.length ≤ 9223372036854775800) (h : AH) : Gets Tryd.prog 19 [tv l] h (fun res h' => h' = h ∧ res = .ret (iv (nameK l))) := by
  refine Gets.of (keep := false) hP (draw_ok hM) k19 (by rfl) (fun Ψ hΨ => ?_)
  cases l with
  | nil =>
    simp only [mach, mach2, mstd, ↓reduceIte, Nat.reduceEqDiff, Nat.reduceAdd, Nat.reduceMul, r19, tx_size, show ((([] : Bs).length : Nat) : Int) = 0 from rfl]
    exact hΨ _ _ (fin_ret (rv1 rfl ⟨rfl, rfl⟩))
  | cons c r =>
  have hc : (c :: r)[0]? = some c := rfl
  have hne : (((c :: r).length : Nat) : Int) = 0 ↔ False := by simp; omega
  by_cases h1 : (32 : Int) < ((c :: r).length : Int)
  · simp only [mach, mach2, mstd, ↓reduceIte, Nat.reduceEqDiff, Nat.reduceAdd, Nat.reduceMul, r19, tx_size, hne, eq_true h1]
    exact hΨ _ _ (fin_ret (rv1 rfl ⟨rfl, by rw [nameK_zero (.inl (by omega))]; rfl⟩))
  simp only [mach, mach2, mstd, ↓reduceIte, Nat.reduceEqDiff, Nat.reduceAdd, Nat.reduceMul, r19, tx_size, hne, h1, tx_get, hc, Int.toNat_zero, Int.le_refl]
  refine XX_val (rsmall_ok c h) ?_
  cases hs : small c with
  | true =>
    have hsl : (small c || large c) = true := by rw [hs]; rfl
    simp only [mach, mach2, mstd, ↓reduceIte, Nat.reduceEqDiff, Nat.reduceAdd, Nat.reduceMul]
    refine XLo_rule (α := Nat) (fun i => [(0, tv (c :: r)), (3, iv i)]) (fun i h' => h' = h ∧ i ≤ (c :: r).length ∧ ∀ j d, j < i → (c :: r)[j]? = some d → inner d = true) (fun i => (c :: r).length - i) 0
      ⟨rfl, Nat.zero_le _, fun j d hj => by omega⟩ ⟨rfl, rfl, trivial⟩ ?_
    rintro i h2 Ψ2 ⟨rfl, hi, hall⟩ next out
    by_cases hlt : (i : Int) < ((c :: r).length : Int)
    · have hil : i < (c :: r).length := by omega
      have g0 : (0 : Int) ≤ (i : Int) := by omega
      have hd : (c :: r)[i]? = some (c :: r)[i] := List.getElem?_eq_getElem hil
      have hw : IntKind.i64.wrap ((i : Int) + 1) = ((i + 1 : Nat) : Int) := by rw [i64w (by omega) (by omega)]; omega
      simp only [mach, mach2, mstd, ↓reduceIte, Nat.reduceEqDiff, Nat.reduceAdd, Nat.reduceMul, tx_size, hlt, tx_get, g0, Int.toNat_natCast, hd]
      refine XX_val (rinner_ok _ _) ?_
      cases hin : inner (c :: r)[i] with
      | true =>
        simp only [mach, mach2, mstd, ↓reduceIte, Nat.reduceEqDiff, Nat.reduceAdd, Nat.reduceMul, hw]
        refine next (i + 1) _ _ _ ⟨rfl, by omega, fun j d hj hjd => ?_⟩ ⟨rfl, rfl, trivial⟩ (by omega)
        rcases Nat.lt_or_ge j i with e | e
        · exact hall j d e hjd
        · have : j = i := by omega
          subst this
          rw [hd] at hjd; cases hjd; exact hin
      | false =>
        simp only [mach, mach2, mstd, ↓reduceIte, Nat.reduceEqDiff, Nat.reduceAdd, Nat.reduceMul]
        refine out .ret _ _ _ _ (by intro e; cases e) ?_
        simp only [mach, mach2, mstd, ↓reduceIte, Nat.reduceEqDiff, Nat.reduceAdd, Nat.reduceMul]
        have hz : spn inner (c :: r) < (c :: r).length := by
          refine Nat.lt_of_le_of_lt ?_ hil
          refine Nat.le_of_not_lt (fun hh => ?_)
          obtain ⟨d, e1, e2⟩ := spn_at hh
          rw [hd] at e1; cases e1
          rw [hin] at e2; cases e2
        exact hΨ _ _ (fin_ret (rv1 rfl ⟨rfl, by rw [nameK_bad hz]; rfl⟩))
    · simp only [mach, mach2, mstd, ↓reduceIte, Nat.reduceEqDiff, Nat.reduceAdd, Nat.reduceMul, tx_size, hlt]
      refine out (.exit 0) _ _ _ _ (by intro e; cases e) ?_
      have hie : i = (c :: r).length := by omega
      have hsp : spn inner (c :: r) = (c :: r).length := spn_eq (Nat.le_refl _) (fun j d hj => hall j d (by omega)) (fun d hd => by rw [List.getElem?_eq_none (Nat.le_refl _)] at hd; cases hd)
      have hz : ¬ (32 < (c :: r).length ∨ digit c = true ∨ c.toNat = 39 ∨ spn inner (c :: r) < (c :: r).length) := by
        rintro (e | e | e | e)
        · omega
        · simp [small, large, digit] at hsl e; omega
        · simp [small, large] at hsl; omega
        · omega
      simp only [mach, mach2, mstd, ↓reduceIte, Nat.reduceEqDiff, Nat.reduceAdd, Nat.reduceMul, tx_get, hc, Int.toNat_zero, Int.le_refl]
      refine XX_val (rlarge_ok c _) ?_
      cases h5 : large c with
      | true =>
        simp only [mach, mach2, mstd, ↓reduceIte, Nat.reduceEqDiff, Nat.reduceAdd, Nat.reduceMul]
        exact hΨ _ _ (fin_ret (rv1 rfl ⟨rfl, by rw [nameK_else hz, h5]; rfl⟩))
      | false =>
      simp only [mach, mach2, mstd, ↓reduceIte, Nat.reduceEqDiff, Nat.reduceAdd, Nat.reduceMul]
      refine XX_val (among_ok (c :: r) keysW (by omega) (by decide) _) ?_
      rw [am_keys]
      cases h6 : keyL.contains (c :: r) with
      | true =>
        simp only [mach, mach2, mstd, ↓reduceIte, Nat.reduceEqDiff, Nat.reduceAdd, Nat.reduceMul]
        exact hΨ _ _ (fin_ret (rv1 rfl ⟨rfl, by rw [nameK_else hz, h5, h6]; rfl⟩))
      | false =>
      cases h7 : ((c :: r) == [95]) with
      | true =>
        simp only [mach, mach2, mstd, ↓reduceIte, Nat.reduceEqDiff, Nat.reduceAdd, Nat.reduceMul, tx_toList, mk_toList, h7]
        exact hΨ _ _ (fin_ret (rv1 rfl ⟨rfl, by rw [nameK_else hz, h5, h6, h7]; rfl⟩))
      | false =>
      simp only [mach, mach2, mstd, ↓reduceIte, Nat.reduceEqDiff, Nat.reduceAdd, Nat.reduceMul, tx_toList, mk_toList, h7]
      exact hΨ _ _ (fin_ret (rv1 rfl ⟨rfl, by rw [nameK_else hz, h5, h6, h7]; rfl⟩))
  | false =>
  simp only [mach, mach2, mstd, ↓reduceIte, Nat.reduceEqDiff, Nat.reduceAdd, Nat.reduceMul, tx_get, hc, Int.toNat_zero, Int.le_refl]
  refine XX_val (rlarge_ok c h) ?_
  cases hL : large c with
  | true =>
    have hsl : (small c || large c) = true := by rw [hs, hL]; rfl
    simp only [mach, mach2, mstd, ↓reduceIte, Nat.reduceEqDiff, Nat.reduceAdd, Nat.reduceMul]
    refine XLo_rule (α := Nat) (fun i => [(0, tv (c :: r)), (3, iv i)]) (fun i h' => h' = h ∧ i ≤ (c :: r).length ∧ ∀ j d, j < i → (c :: r)[j]? = some d → inner d = true) (fun i => (c :: r).length - i) 0
      ⟨rfl, Nat.zero_le _, fun j d hj => by omega⟩ ⟨rfl, rfl, trivial⟩ ?_
    rintro i h2 Ψ2 ⟨rfl, hi, hall⟩ next out
    by_cases hlt : (i : Int) < ((c :: r).length : Int)
    · have hil : i < (c :: r).length := by omega
      have g0 : (0 : Int) ≤ (i : Int) := by omega
      have hd : (c :: r)[i]? = some (c :: r)[i] := List.getElem?_eq_getElem hil
      have hw : IntKind.i64.wrap ((i : Int) + 1) = ((i + 1 : Nat) : Int) := by rw [i64w (by omega) (by omega)]; omega
      simp only [mach, mach2, mstd, ↓reduceIte, Nat.reduceEqDiff, Nat.reduceAdd, Nat.reduceMul, tx_size, hlt, tx_get, g0, Int.toNat_natCast, hd]
      refine XX_val (rinner_ok _ _) ?_
      cases hin : inner (c :: r)[i] with
      | true =>
        simp only [mach, mach2, mstd, ↓reduceIte, Nat.reduceEqDiff, Nat.reduceAdd, Nat.reduceMul, hw]
        refine next (i + 1) _ _ _ ⟨rfl, by omega, fun j d hj hjd => ?_⟩ ⟨rfl, rfl, trivial⟩ (by omega)
        rcases Nat.lt_or_ge j i with e | e
        · exact hall j d e hjd
        · have : j = i := by omega
          subst this
          rw [hd] at hjd; cases hjd; exact hin
      | false =>
        simp only [mach, mach2, mstd, ↓reduceIte, Nat.reduceEqDiff, Nat.reduceAdd, Nat.reduceMul]
        refine out .ret _ _ _ _ (by intro e; cases e) ?_
        simp only [mach, mach2, mstd, ↓reduceIte, Nat.reduceEqDiff, Nat.reduceAdd, Nat.reduceMul]
        have hz : spn inner (c :: r) < (c :: r).length := by
          refine Nat.lt_of_le_of_lt ?_ hil
          refine Nat.le_of_not_lt (fun hh => ?_)
          obtain ⟨d, e1, e2⟩ := spn_at hh
          rw [hd] at e1; cases e1
          rw [hin] at e2; cases e2
        exact hΨ _ _ (fin_ret (rv1 rfl ⟨rfl, by rw [nameK_bad hz]; rfl⟩))
    · simp only [mach, mach2, mstd, ↓reduceIte, Nat.reduceEqDiff, Nat.reduceAdd, Nat.reduceMul, tx_size, hlt]
      refine out (.exit 0) _ _ _ _ (by intro e; cases e) ?_
      have hie : i = (c :: r).length := by omega
      have hsp : spn inner (c :: r) = (c :: r).length := spn_eq (Nat.le_refl _) (fun j d hj => hall j d (by omega)) (fun d hd => by rw [List.getElem?_eq_none (Nat.le_refl _)] at hd; cases hd)
      have hz : ¬ (32 < (c :: r).length ∨ digit c = true ∨ c.toNat = 39 ∨ spn inner (c :: r) < (c :: r).length) := by
        rintro (e | e | e | e)
        · omega
        · simp [small, large, digit] at hsl e; omega
        · simp [small, large] at hsl; omega
        · omega
      simp only [mach, mach2, mstd, ↓reduceIte, Nat.reduceEqDiff, Nat.reduceAdd, Nat.reduceMul, tx_get, hc, Int.toNat_zero, Int.le_refl]
      refine XX_val (rlarge_ok c _) ?_
      cases h5 : large c with
      | true =>
        simp only [mach, mach2, mstd, ↓reduceIte, Nat.reduceEqDiff, Nat.reduceAdd, Nat.reduceMul]
        exact hΨ _ _ (fin_ret (rv1 rfl ⟨rfl, by rw [nameK_else hz, h5]; rfl⟩))
      | false =>
      simp only [mach, mach2, mstd, ↓reduceIte, Nat.reduceEqDiff, Nat.reduceAdd, Nat.reduceMul]
      refine XX_val (among_ok (c :: r) keysW (by omega) (by decide) _) ?_
      rw [am_keys]
      cases h6 : keyL.contains (c :: r) with
      | true =>
        simp only [mach, mach2, mstd, ↓reduceIte, Nat.reduceEqDiff, Nat.reduceAdd, Nat.reduceMul]
        exact hΨ _ _ (fin_ret (rv1 rfl ⟨rfl, by rw [nameK_else hz, h5, h6]; rfl⟩))
      | false =>
      cases h7 : ((c :: r) == [95]) with
      | true =>
        simp only [mach, mach2, mstd, ↓reduceIte, Nat.reduceEqDiff, Nat.reduceAdd, Nat.reduceMul, tx_toList, mk_toList, h7]
        exact hΨ _ _ (fin_ret (rv1 rfl ⟨rfl, by rw [nameK_else hz, h5, h6, h7]; rfl⟩))
      | false =>
      simp only [mach, mach2, mstd, ↓reduceIte, Nat.reduceEqDiff, Nat.reduceAdd, Nat.reduceMul, tx_toList, mk_toList, h7]
      exact hΨ _ _ (fin_ret (rv1 rfl ⟨rfl, by rw [nameK_else hz, h5, h6, h7]; rfl⟩))
  | false =>
    simp only [mach, mach2, mstd, ↓reduceIte, Nat.reduceEqDiff, Nat.reduceAdd, Nat.reduceMul]
    refine hΨ _ _ (fin_ret (rv1 rfl ⟨rfl, ?_⟩))
    have : nameK (c :: r) = 0 := by
      cases hd : digit c with
      | true => exact nameK_zero (.inr (.inl hd))
      | false =>
        by_cases h39 : c.toNat = 39
        · exact nameK_zero (.inr (.inr (.inl h39)))
        · refine nameK_bad ?_
          rw [spn_zero (fun d e => by cases e; simp [inner, hs, hL, hd, h39])]; simp
    rw [this]; rfl

/-! ### Bytes as written -/

def hexS (c : UInt8) : Int := if dg c < 16 then (dg c : Int) else -1
theorem hex_all : ((List.range 256).all fun n => hexS (UInt8.ofNat n) == (if 48 ≤ n ∧ n ≤ 57 then (n : Int) - 48 else if 97 ≤ n ∧ n ≤ 102 then (n : Int) - 87 else if 65 ≤ n ∧ n ≤ 70 then (n : Int) - 55 else -1)) = true := by decide +kernel
theorem hex_eq (c : UInt8) : hexS c = (if 48 ≤ c.toNat ∧ c.toNat ≤ 57 then (c.toNat : Int) - 48 else if 97 ≤ c.toNat ∧ c.toNat ≤ 102 then (c.toNat : Int) - 87 else if 65 ≤ c.toNat ∧ c.toNat ≤ 70 then (c.toNat : Int) - 55 else -1) := by
  have := List.all_eq_true.1 hex_all c.toNat (List.mem_range.2 c.toNat_lt)
  rw [UInt8.ofNat_toNat] at this
  exact eq_of_beq this
theorem hex_ok (c : UInt8) (h : AH) : Gets Tryd.prog 79 [bv c] h (fun res h' => h' = h ∧ res = .ret (iv (hexS c))) := by
  refine Gets.of (keep := false) hP (draw_ok hM) k79 (by rfl) (fun Ψ hΨ => ?_)
  have hclt := c.toNat_lt
  simp only [mach, mach2, mstd, ↓reduceIte, Nat.reduceEqDiff, Nat.reduceAdd, Nat.reduceMul, r79]
  refine XX_val (rdigit_ok c h) ?_
  cases hd : digit c with
  | true =>
    have hd' : 48 ≤ c.toNat ∧ c.toNat ≤ 57 := by simpa [digit] using hd
    have w1 : IntKind.u8.wrap ((c.toNat : Int) - 48) = (c.toNat : Int) - 48 := u8w (by omega) (by omega)
    have w2 : IntKind.i64.wrap ((c.toNat : Int) - 48) = (c.toNat : Int) - 48 := i64w (by omega) (by omega)
    simp only [mach, mach2, mstd, ↓reduceIte, Nat.reduceEqDiff, Nat.reduceAdd, Nat.reduceMul, w1, w2]
    exact hΨ _ _ (fin_ret (rv1 rfl ⟨rfl, by rw [hex_eq, if_pos hd']; rfl⟩))
  | false =>
  have hd' : ¬ (48 ≤ c.toNat ∧ c.toNat ≤ 57) := by simpa [digit] using hd
  have w1 : ∀ k : Int, 97 ≤ (c.toNat : Int) → IntKind.u8.wrap ((c.toNat : Int) - 97) = (c.toNat : Int) - 97 := fun _ _ => u8w (by omega) (by omega)
  by_cases h1 : (97 : Int) ≤ (c.toNat : Int)
  · by_cases h2 : (c.toNat : Int) ≤ 102
    · have w1 : IntKind.u8.wrap ((c.toNat : Int) - 97) = (c.toNat : Int) - 97 := u8w (by omega) (by omega)
      have w2 : IntKind.i64.wrap ((c.toNat : Int) - 97) = (c.toNat : Int) - 97 := i64w (by omega) (by omega)
      have w3 : IntKind.i64.wrap ((c.toNat : Int) - 97 + 10) = (c.toNat : Int) - 87 := by rw [i64w (by omega) (by omega)]; omega
      simp only [mach, mach2, mstd, ↓reduceIte, Nat.reduceEqDiff, Nat.reduceAdd, Nat.reduceMul, h1, h2, w1, w2, w3]
      exact hΨ _ _ (fin_ret (rv1 rfl ⟨rfl, by rw [hex_eq, if_neg hd', if_pos (by omega)]; rfl⟩))
    · have h3 : (65 : Int) ≤ (c.toNat : Int) := by omega
      have h4 : ¬ (c.toNat : Int) ≤ 70 := by omega
      simp only [mach, mach2, mstd, ↓reduceIte, Nat.reduceEqDiff, Nat.reduceAdd, Nat.reduceMul, h1, h2, h3, h4]
      exact hΨ _ _ (fin_ret (rv1 rfl ⟨rfl, by rw [hex_eq, if_neg hd', if_neg (by omega), if_neg (by omega)]; rfl⟩))
  · by_cases h3 : (65 : Int) ≤ (c.toNat : Int)
    · by_cases h4 : (c.toNat : Int) ≤ 70
      · have w1 : IntKind.u8.wrap ((c.toNat : Int) - 65) = (c.toNat : Int) - 65 := u8w (by omega) (by omega)
        have w2 : IntKind.i64.wrap ((c.toNat : Int) - 65) = (c.toNat : Int) - 65 := i64w (by omega) (by omega)
        have w3 : IntKind.i64.wrap ((c.toNat : Int) - 65 + 10) = (c.toNat : Int) - 55 := by rw [i64w (by omega) (by omega)]; omega
        simp only [mach, mach2, mstd, ↓reduceIte, Nat.reduceEqDiff, Nat.reduceAdd, Nat.reduceMul, h1, h3, h4, w1, w2, w3]
        exact hΨ _ _ (fin_ret (rv1 rfl ⟨rfl, by rw [hex_eq, if_neg hd', if_neg (by omega), if_pos (by omega)]; rfl⟩))
      · simp only [mach, mach2, mstd, ↓reduceIte, Nat.reduceEqDiff, Nat.reduceAdd, Nat.reduceMul, h1, h3, h4]
        exact hΨ _ _ (fin_ret (rv1 rfl ⟨rfl, by rw [hex_eq, if_neg hd', if_neg (by omega), if_neg (by omega)]; rfl⟩))
    · simp only [mach, mach2, mstd, ↓reduceIte, Nat.reduceEqDiff, Nat.reduceAdd, Nat.reduceMul, h1, h3]
      exact hΨ _ _ (fin_ret (rv1 rfl ⟨rfl, by rw [hex_eq, if_neg hd', if_neg (by omega), if_neg (by omega)]; rfl⟩))

set_option maxHeartbeats 4000000 in
theorem rwritten_ok (s : Bs) (p : Nat) (hs : s.length ≤ 8000) (hp : p ≤ s.length) (h : AH) : Gets Tryd.prog 67 [tv s, iv p] h (fun res h' => h' = h ∧ res = .ret (.tuple #[iv (wr (s.drop p)).1.toNat, iv (wr (s.drop p)).2])) := by
  refine Gets.of (keep := false) hP (draw_ok hM) k67 (by rfl) (fun Ψ hΨ => ?_)
  by_cases h0 : (s.length : Int) ≤ (p : Int)
  · simp only [mach, mach2, mstd, ↓reduceIte, Nat.reduceEqDiff, Nat.reduceAdd, Nat.reduceMul, r67, tx_size, eq_true h0]
    exact hΨ _ _ (fin_ret (rv2 rfl rfl ⟨rfl, by rw [List.drop_eq_nil_of_le (by omega)]; rfl⟩))
  have hpl : p < s.length := by omega
  have hdr := List.drop_eq_getElem_cons hpl
  have hc : s[p]? = some s[p] := List.getElem?_eq_getElem hpl
  have g0 : (0 : Int) ≤ (p : Int) := by omega
  generalize hcc : s[p] = c at hc hdr
  have hclt := c.toNat_lt
  rw [hdr] at hΨ
  by_cases h1 : (c.toNat : Int) < 32
  · simp only [mach, mach2, mstd, ↓reduceIte, Nat.reduceEqDiff, Nat.reduceAdd, Nat.reduceMul, r67, tx_size, h0, tx_get, hc, g0, Int.toNat_natCast, eq_true h1]
    exact hΨ _ _ (fin_ret (rv2 rfl rfl ⟨rfl, by rw [wr, if_pos (by omega)]; rfl⟩))
  by_cases h2 : (126 : Int) < (c.toNat : Int)
  · simp only [mach, mach2, mstd, ↓reduceIte, Nat.reduceEqDiff, Nat.reduceAdd, Nat.reduceMul, r67, tx_size, h0, tx_get, hc, g0, Int.toNat_natCast, h1, eq_true h2]
    exact hΨ _ _ (fin_ret (rv2 rfl rfl ⟨rfl, by rw [wr, if_pos (by omega)]; rfl⟩))
  by_cases h3 : (c.toNat : Int) = 92
  case neg =>
    have w : IntKind.i64.wrap (c.toNat : Int) = (c.toNat : Int) := i64w (by omega) (by omega)
    simp only [mach, mach2, mstd, ↓reduceIte, Nat.reduceEqDiff, Nat.reduceAdd, Nat.reduceMul, r67, tx_size, h0, tx_get, hc, g0, Int.toNat_natCast, h1, h2, h3, w]
    exact hΨ _ _ (fin_ret (rv2 rfl rfl ⟨rfl, by rw [wr, if_neg (by omega), if_pos (by omega)]; rfl⟩))
  have w1 : ¬ (c.toNat < 32 ∨ 126 < c.toNat) := by omega
  have w2 : ¬ ¬ c.toNat = 92 := by omega
  rw [wr, if_neg w1, if_neg w2] at hΨ
  have hw1 : IntKind.i64.wrap ((p : Int) + 1) = ((p + 1 : Nat) : Int) := by rw [i64w (by omega) (by omega)]; omega
  have hw2 : IntKind.i64.wrap ((p : Int) + 2) = ((p + 2 : Nat) : Int) := by rw [i64w (by omega) (by omega)]; omega
  have hw3 : IntKind.i64.wrap ((p : Int) + 3) = ((p + 3 : Nat) : Int) := by rw [i64w (by omega) (by omega)]; omega
  by_cases h4 : (s.length : Int) ≤ ((p + 1 : Nat) : Int)
  · simp only [mach, mach2, mstd, ↓reduceIte, Nat.reduceEqDiff, Nat.reduceAdd, Nat.reduceMul, r67, tx_size, h0, tx_get, hc, g0, Int.toNat_natCast, h1, h2, eq_true h3, hw1, eq_true h4]
    exact hΨ _ _ (fin_ret (rv2 rfl rfl ⟨rfl, by rw [List.drop_eq_nil_of_le (by omega)]; rfl⟩))
  have hpl1 : p + 1 < s.length := by omega
  have hdr1 := List.drop_eq_getElem_cons hpl1
  have hd : s[p + 1]? = some s[p + 1] := List.getElem?_eq_getElem hpl1
  have g1 : (0 : Int) ≤ ((p + 1 : Nat) : Int) := by omega
  generalize hdd : s[p + 1] = d at hd hdr1
  have hdlt := d.toNat_lt
  rw [hdr1, wr2] at hΨ
  simp only [mach, mach2, mstd, ↓reduceIte, Nat.reduceEqDiff, Nat.reduceAdd, Nat.reduceMul, r67, tx_size, h0, tx_get, hc, g0, Int.toNat_natCast, h1, h2, eq_true h3, hw1, h4, hd, g1]
  by_cases e1 : (d.toNat : Int) = 110
  · simp only [mach, mach2, mstd, ↓reduceIte, Nat.reduceEqDiff, Nat.reduceAdd, Nat.reduceMul, eq_true e1]
    exact hΨ _ _ (fin_ret (rv2 rfl rfl ⟨rfl, by rw [if_pos (by omega)]; rfl⟩))
  by_cases e2 : (d.toNat : Int) = 116
  · simp only [mach, mach2, mstd, ↓reduceIte, Nat.reduceEqDiff, Nat.reduceAdd, Nat.reduceMul, e1, eq_true e2]
    exact hΨ _ _ (fin_ret (rv2 rfl rfl ⟨rfl, by rw [if_neg (by omega), if_pos (by omega)]; rfl⟩))
  have wd : IntKind.i64.wrap (d.toNat : Int) = (d.toNat : Int) := i64w (by omega) (by omega)
  by_cases e3 : (d.toNat : Int) = 92
  · simp only [mach, mach2, mstd, ↓reduceIte, Nat.reduceEqDiff, Nat.reduceAdd, Nat.reduceMul, e1, e2, eq_true e3, hw1, tx_get, hd, g1, Int.toNat_natCast, wd]
    exact hΨ _ _ (fin_ret (rv2 rfl rfl ⟨rfl, by rw [if_neg (by omega), if_neg (by omega), if_pos (by omega)]; rfl⟩))
  by_cases e4 : (d.toNat : Int) = 39
  · simp only [mach, mach2, mstd, ↓reduceIte, Nat.reduceEqDiff, Nat.reduceAdd, Nat.reduceMul, e1, e2, e3, eq_true e4, hw1, tx_get, hd, g1, Int.toNat_natCast, wd]
    exact hΨ _ _ (fin_ret (rv2 rfl rfl ⟨rfl, by rw [if_neg (by omega), if_neg (by omega), if_pos (by omega)]; rfl⟩))
  by_cases e5 : (d.toNat : Int) = 34
  · simp only [mach, mach2, mstd, ↓reduceIte, Nat.reduceEqDiff, Nat.reduceAdd, Nat.reduceMul, e1, e2, e3, e4, eq_true e5, hw1, tx_get, hd, g1, Int.toNat_natCast, wd]
    exact hΨ _ _ (fin_ret (rv2 rfl rfl ⟨rfl, by rw [if_neg (by omega), if_neg (by omega), if_pos (by omega)]; rfl⟩))
  by_cases e6 : (d.toNat : Int) = 120
  case neg =>
    simp only [mach, mach2, mstd, ↓reduceIte, Nat.reduceEqDiff, Nat.reduceAdd, Nat.reduceMul, e1, e2, e3, e4, e5, e6]
    exact hΨ _ _ (fin_ret (rv2 rfl rfl ⟨rfl, by rw [if_neg (by omega), if_neg (by omega), if_neg (by omega), if_neg (by omega)]; rfl⟩))
  rw [if_neg (by omega), if_neg (by omega), if_neg (by omega), if_pos (by omega)] at hΨ
  by_cases h5 : ((p + 3 : Nat) : Int) < (s.length : Int)
  case neg =>
    simp only [mach, mach2, mstd, ↓reduceIte, Nat.reduceEqDiff, Nat.reduceAdd, Nat.reduceMul, e1, e2, e3, e4, e5, eq_true e6, hw3, tx_size, h5]
    refine hΨ _ _ (fin_ret (rv2 rfl rfl ⟨rfl, ?_⟩))
    have hq : ((s.drop (p + 1 + 1)).length : Int) ≤ 1 := by simp; omega
    cases hqq : s.drop (p + 1 + 1) with
    | nil => rfl
    | cons a q =>
      cases q with
      | nil => rfl
      | cons b q => rw [hqq] at hq; simp at hq; omega
  have hpl2 : p + 2 < s.length := by omega
  have hpl3 : p + 3 < s.length := by omega
  have ha : s[p + 2]? = some s[p + 2] := List.getElem?_eq_getElem hpl2
  have hb : s[p + 3]? = some s[p + 3] := List.getElem?_eq_getElem hpl3
  have g2 : (0 : Int) ≤ ((p + 2 : Nat) : Int) := by omega
  have g3 : (0 : Int) ≤ ((p + 3 : Nat) : Int) := by omega
  have hq : s.drop (p + 1 + 1) = s[p + 2] :: s[p + 3] :: s.drop (p + 3 + 1) := by
    rw [← List.drop_eq_getElem_cons hpl3, ← List.drop_eq_getElem_cons hpl2]
  rw [hq, wr3] at hΨ
  generalize s[p + 2] = a at ha hΨ
  generalize s[p + 3] = b at hb hΨ
  simp only [mach, mach2, mstd, ↓reduceIte, Nat.reduceEqDiff, Nat.reduceAdd, Nat.reduceMul, e1, e2, e3, e4, e5, eq_true e6, hw3, tx_size, h5, hw2, tx_get, ha, g2, Int.toNat_natCast]
  refine XX_val (hex_ok a h) ?_
  by_cases ha16 : dg a < 16
  case neg =>
    have : hexS a = -1 := by rw [hexS, if_neg ha16]
    rw [this]
    simp only [mach, mach2, mstd, ↓reduceIte, Nat.reduceEqDiff, Nat.reduceAdd, Nat.reduceMul, show ((0 : Int) ≤ -1) = False by simp]
    exact hΨ _ _ (fin_ret (rv2 rfl rfl ⟨rfl, by rw [if_neg (by omega)]; rfl⟩))
  have hxa : hexS a = (dg a : Int) := by rw [hexS, if_pos ha16]
  have za : (0 : Int) ≤ (dg a : Int) := by omega
  rw [hxa]
  simp only [mach, mach2, mstd, ↓reduceIte, Nat.reduceEqDiff, Nat.reduceAdd, Nat.reduceMul, za, hw3, tx_get, hb, g3, Int.toNat_natCast]
  refine XX_val (hex_ok b h) ?_
  by_cases hb16 : dg b < 16
  case neg =>
    have : hexS b = -1 := by rw [hexS, if_neg hb16]
    rw [this]
    simp only [mach, mach2, mstd, ↓reduceIte, Nat.reduceEqDiff, Nat.reduceAdd, Nat.reduceMul, show ((0 : Int) ≤ -1) = False by simp]
    exact hΨ _ _ (fin_ret (rv2 rfl rfl ⟨rfl, by rw [if_neg (by omega)]; rfl⟩))
  have hxb : hexS b = (dg b : Int) := by rw [hexS, if_pos hb16]
  have zb : (0 : Int) ≤ (dg b : Int) := by omega
  rw [hxb]
  simp only [mach, mach2, mstd, ↓reduceIte, Nat.reduceEqDiff, Nat.reduceAdd, Nat.reduceMul, zb, hw2, hw3, tx_get, ha, hb, g2, g3, Int.toNat_natCast]
  refine XX_val (hex_ok a h) ?_
  rw [hxa]
  have w4 : IntKind.i64.wrap (16 * (dg a : Int)) = ((16 * dg a : Nat) : Int) := by rw [i64w (by omega) (by omega)]; omega
  have w5 : IntKind.i64.wrap (((16 * dg a : Nat) : Int) + (dg b : Int)) = ((16 * dg a + dg b : Nat) : Int) := by rw [i64w (by omega) (by omega)]; omega
  simp only [mach, mach2, mstd, ↓reduceIte, Nat.reduceEqDiff, Nat.reduceAdd, Nat.reduceMul, w4]
  refine XX_val (hex_ok b h) ?_
  rw [hxb]
  simp only [mach, mach2, mstd, ↓reduceIte, Nat.reduceEqDiff, Nat.reduceAdd, Nat.reduceMul, w5]
  refine hΨ _ _ (fin_ret (rv2 rfl rfl ⟨rfl, ?_⟩))
  rw [if_pos ⟨ha16, hb16⟩]
  simp only
  rw [u8nat (by omega)]; rfl
end Go.S07
