import Derived.Test.YtobbonpebopafaaDoorPk18
import Derived.Test.YtobbonpebopafaaDoorPk16
/- Tokens: a text's tokens, what Tokens comes to. -/
set_option linter.unusedVariables false
set_option linter.unusedSimpArgs false
namespace Go.S07
open Go Go.Eng Go.Proofs Go.Scn

theorem skp_plc {s : Bs} {p : Nat} {r : Bs} (hp : p ≤ s.length) (h : skp (s.drop p) = .ok r) : ∃ q, p ≤ q ∧ q ≤ s.length ∧ r = s.drop q ∧ s.length - r.length = q := by
  obtain ⟨_, n, rfl⟩ := skp_fix h
  by_cases hn : n ≤ s.length - p
  · refine ⟨p + n, by omega, by omega, by rw [List.drop_drop], ?_⟩
    simp; omega
  · refine ⟨s.length, by omega, Nat.le_refl _, ?_, ?_⟩
    · rw [List.drop_drop, List.drop_length, List.drop_eq_nil_of_le (by omega)]
    · rw [List.drop_drop, List.drop_eq_nil_of_le (by omega)]; simp

section
variable {h : AH} {s : Bs}

set_option maxHeartbeats 4000000 in
theorem Tokens_ok (s : Bs) (h : AH) : Gets Tryd.prog 10 [tv s] h (TokO h s) := by
  refine Gets.ofd (keep := false) (keepg := false) hP (draw_ok hM) (draw_ok hM) k10 k20 (by rfl) (fun Ψ hΨ => ?_)
  have oA0 := Own.new h tlT h.length [.slice none 0 0]
  have kp1 : Keep (fun _ => False) h (h ++ [row tlT h.length [.slice none 0 0]]) := Keep.push _ _ _
  by_cases h8 : (8000 : Int) < (s.length : Int)
  · simp only [mach, mach2, mstd, ↓reduceIte, Nat.reduceEqDiff, Nat.reduceAdd, Nat.reduceMul, r10, mbl, Nat.reduceLeDiff, Nat.reduceLT, Int.reduceEq, tx_size, eq_true h8]
    generalize hh1 : h ++ [row tlT h.length [.slice none 0 0]] = h1 at oA0 kp1 ⊢
    have hl1 : h1.length = h.length + 1 := by rw [← hh1]; simp
    have oB0 := Own.new h1 inT h1.length [iv 0]
    have kp2 : Keep (fun _ => False) h1 (h1 ++ [row inT h1.length [iv 0]]) := Keep.push _ _ _
    generalize hh2 : h1 ++ [row inT h1.length [iv 0]] = h2 at oB0 kp2 ⊢
    have hl2 : h2.length = h1.length + 1 := by rw [← hh2]; simp
    have oC := Own.new h2 erT h2.length [iv 0]
    have kp3 : Keep (fun _ => False) h2 (h2 ++ [row erT h2.length [iv 0]]) := Keep.push _ _ _
    generalize hh3 : h2 ++ [row erT h2.length [iv 0]] = h3 at oC kp3 ⊢
    have hl3 : h3.length = h2.length + 1 := by rw [← hh3]; simp
    have oA := (oA0.keep kp2 (fun e => e)).keep kp3 (fun e => e)
    have oB := oB0.keep kp3 (fun e => e)
    refine XH_own oA rfl (by simp [Value.cells]) rfl (fun h5 p1 p2 p3 => ?_)
    have oA5 : Own h5 h.length tlT [.slice none 0 0] := by simpa [Value.cells] using p1
    have oB5 := oB.keep p2 (fun e => by omega)
    have oC5 := oC.keep p2 (fun e => by omega)
    simp only [mach, mach2, mstd, ↓reduceIte, Nat.reduceEqDiff, Nat.reduceAdd, Nat.reduceMul]
    refine XH_own oB5 rfl (by simp [Value.cells]) rfl (fun h6 t1 t2 t3 => ?_)
    have oB6 : Own h6 h1.length inT [iv 0] := by simpa [Value.cells] using t1
    have oA6 := oA5.keep t2 (fun e => by omega)
    have oC6 := oC5.keep t2 (fun e => by omega)
    simp only [mach, mach2, mstd, ↓reduceIte, Nat.reduceEqDiff, Nat.reduceAdd, Nat.reduceMul]
    refine XH_own oC6 rfl (by simp [Value.cells]) rfl (fun h7 u1 u2 u3 => ?_)
    have oC7 : Own h7 h2.length erT [iv 11] := by simpa [Value.cells] using u1
    have oA7 := oA6.keep u2 (fun e => by omega)
    have oB7 := oB6.keep u2 (fun e => by omega)
    simp only [mach, mach2, mstd, ↓reduceIte, Nat.reduceEqDiff, Nat.reduceAdd, Nat.reduceMul]
    have kk : Keep (fun _ => False) h h7 := ((((kp1.trans kp2).trans kp3).trans' p2 (fun c hc e => by omega)).trans' t2 (fun c hc e => by omega)).trans' u2 (fun c hc e => by omega)
    have hF : tokF s = ([], 0, 11) := by rw [tokF, if_pos (by omega)]
    refine hΨ _ _ (dfr_no (rvc3 (p := .pointer (some ⟨h.length, 0, none⟩)) (q := .pointer (some ⟨h1.length, 0, none⟩)) (r := .pointer (some ⟨h2.length, 0, none⟩)) (u := .slice none 0 0) (v := iv 0) (w := iv 11) rfl ?_ rfl ?_ rfl ?_ ⟨kk, .slice none 0 0, by rw [hF]; rfl, by rw [hF]; exact .nil, fun q e => e.elim⟩))
    · simp only [uval]; rw [oA7.cells.ld]; rfl
    · simp only [uval]; rw [oB7.cells.ld]; rfl
    · simp only [uval]; rw [oC7.cells.ld]; rfl
  · simp only [mach, mach2, mstd, ↓reduceIte, Nat.reduceEqDiff, Nat.reduceAdd, Nat.reduceMul, r10, mbl, Nat.reduceLeDiff, Nat.reduceLT, Int.reduceEq, tx_size, h8]
    generalize hh1 : h ++ [row tlT h.length [.slice none 0 0]] = h1 at oA0 kp1 ⊢
    have hl1 : h1.length = h.length + 1 := by rw [← hh1]; simp
    have oB0 := Own.new h1 inT h1.length [iv 0]
    have kp2 : Keep (fun _ => False) h1 (h1 ++ [row inT h1.length [iv 0]]) := Keep.push _ _ _
    generalize hh2 : h1 ++ [row inT h1.length [iv 0]] = h2 at oB0 kp2 ⊢
    have hl2 : h2.length = h1.length + 1 := by rw [← hh2]; simp
    have oC0 := Own.new h2 erT h2.length [iv 0]
    have kp3 : Keep (fun _ => False) h2 (h2 ++ [row erT h2.length [iv 0]]) := Keep.push _ _ _
    generalize hh3 : h2 ++ [row erT h2.length [iv 0]] = h3 at oC0 kp3 ⊢
    have hl3 : h3.length = h2.length + 1 := by rw [← hh3]; simp
    have oS := Own.new h3 41 h3.length [tv s, iv 0, .slice none 0 0]
    have kp4 : Keep (fun _ => False) h3 (h3 ++ [row 41 h3.length [tv s, iv 0, .slice none 0 0]]) := Keep.push _ _ _
    generalize hh4 : h3 ++ [row 41 h3.length [tv s, iv 0, .slice none 0 0]] = h4 at oS kp4 ⊢
    have hl4 : h4.length = h3.length + 1 := by rw [← hh4]; simp
    have oA := ((oA0.keep kp2 (fun e => e)).keep kp3 (fun e => e)).keep kp4 (fun e => e)
    have oB := (oB0.keep kp3 (fun e => e)).keep kp4 (fun e => e)
    have oC := oC0.keep kp4 (fun e => e)
    have kpa : Keep (fun _ => False) h h4 := ((kp1.trans kp2).trans kp3).trans kp4
    have x0 : Sc h4 h3.length s 0 [] (.slice none 0 0) := ⟨⟨oS, Nat.zero_le _, by omega⟩, .nil, fun q e => e.elim, Nat.zero_le _⟩
    refine XX_of (skip_ok x0.sc) (fun res h5 hle hr => ?_)
    obtain ⟨k5, hr⟩ := hr
    have kpb : Keep (fun _ => False) h h5 := kpa.trans' k5 (fun c hc e => by omega)
    have oA5 := oA.keep k5 (fun e => by omega)
    have oB5 := oB.keep k5 (fun e => by omega)
    have oC5 := oC.keep k5 (fun e => by omega)
    rw [List.drop_zero] at hr
    cases hsk : skp s with
    | error r =>
      rw [hsk] at hr
      simp only [plc] at hr
      subst hr
      refine .pan ?_
      simp only [mach, mach2, mstd, ↓reduceIte, Nat.reduceEqDiff, Nat.reduceAdd, Nat.reduceMul]
      exact tok_fail hΨ rfl rfl rfl oA5 oB5 oC5 (by omega) (by omega) (by omega) (by omega) (by omega) (by omega) kpb (by omega) (toks_fault hsk)
    | ok r =>
    rw [hsk] at hr
    simp only [plc] at hr
    obtain ⟨rfl, y5⟩ := hr
    obtain ⟨q0, _, hq0, hr0, hr1⟩ := skp_plc (p := 0) (Nat.zero_le _) (by rw [List.drop_zero]; exact hsk)
    rw [hr1] at y5
    have hfix : skp (s.drop q0) = .ok (s.drop q0) := by rw [← hr0]; exact (skp_fix hsk).1
    have hts : toks s.length (s.drop q0) = toks s.length s := by rw [← hr0]; exact (toks_skip hsk).symm
    refine .ret ?_
    simp only [mach, mach2, mstd, ↓reduceIte, Nat.reduceEqDiff, Nat.reduceAdd, Nat.reduceMul]
    refine XLo_rule (α := Nat × List Tk × Value) (fun a => [(0, tv s), (2, .pointer (some ⟨h.length, 0, none⟩)), (3, .pointer (some ⟨h1.length, 0, none⟩)), (4, .pointer (some ⟨h2.length, 0, none⟩)), (5, .pointer (some ⟨h3.length, 0, none⟩))])
      (fun a h' => Keep (fun _ => False) h h' ∧ Own h' h.length tlT [.slice none 0 0] ∧ Own h' h1.length inT [iv 0] ∧ Own h' h2.length erT [iv 0] ∧ Sc h' h3.length s a.1 a.2.1 a.2.2 ∧ skp (s.drop a.1) = .ok (s.drop a.1) ∧ pre a.2.1 (toks s.length (s.drop a.1)) = toks s.length s) (fun a => s.length - a.1) (q0, [], .slice none 0 0)
      ⟨kpb, oA5, oB5, oC5, ⟨y5, .nil, fun q e => e.elim, Nat.zero_le _⟩, hfix, by rw [pre_nil]; exact hts⟩ ⟨rfl, rfl, rfl, rfl, rfl, trivial⟩ ?_
    rintro ⟨p, ts, lv⟩ g1 Ψ2 ⟨kp, nA, nB, nC, x1, hfx, heq⟩ next out
    simp only at x1 hfx heq
    have hple := x1.sc.le
    by_cases hp : (p : Int) < (s.length : Int)
    case neg =>
      have hF : tokF s = (ts, 0, 0) := by
        rw [tokF, if_neg (by omega), ← heq, show s.drop p = [] from List.drop_eq_nil_of_le (by omega), toks_end]
        simp [pre]
      simp only [mach, mach2, mstd, ↓reduceIte, Nat.reduceEqDiff, Nat.reduceAdd, Nat.reduceMul, x1.sc.own.cells.ld, mbl, Nat.reduceLeDiff, Nat.reduceLT, Int.reduceEq, tx_size, hp]
      refine out (.exit 0) _ _ _ _ (by intro e; cases e) ?_
      obtain ⟨va, vc, rfl⟩ := row_shape x1.ow.rds
      simp only [mach, mach2, mstd, ↓reduceIte, Nat.reduceEqDiff, Nat.reduceAdd, Nat.reduceMul, x1.sc.own.cells.ld, mbl, Nat.reduceLeDiff, Nat.reduceLT, Int.reduceEq]
      refine XH_own nA rfl (by simp [Value.cells]) rfl (fun h5 p1 p2 p3 => ?_)
      have oA5 : Own h5 h.length tlT [.slice va ts.length vc] := by simpa [Value.cells] using p1
      have oB5 := nB.keep p2 (fun e => by omega)
      have oC5 := nC.keep p2 (fun e => by omega)
      simp only [mach, mach2, mstd, ↓reduceIte, Nat.reduceEqDiff, Nat.reduceAdd, Nat.reduceMul]
      refine XH_own oB5 rfl (by simp [Value.cells]) rfl (fun h6 t1 t2 t3 => ?_)
      have oB6 : Own h6 h1.length inT [iv 0] := by simpa [Value.cells] using t1
      have oA6 := oA5.keep t2 (fun e => by omega)
      have oC6 := oC5.keep t2 (fun e => by omega)
      simp only [mach, mach2, mstd, ↓reduceIte, Nat.reduceEqDiff, Nat.reduceAdd, Nat.reduceMul]
      refine XH_own oC6 rfl (by simp [Value.cells]) rfl (fun h7 u1 u2 u3 => ?_)
      have oC7 : Own h7 h2.length erT [iv 0] := by simpa [Value.cells] using u1
      have oA7 := oA6.keep u2 (fun e => by omega)
      have oB7 := oB6.keep u2 (fun e => by omega)
      simp only [mach, mach2, mstd, ↓reduceIte, Nat.reduceEqDiff, Nat.reduceAdd, Nat.reduceMul]
      have ow7 := ((x1.ow.keep p2 (fun q hq e => by have := x1.fr q hq; omega)).keep t2 (fun q hq e => by have := x1.fr q hq; omega)).keep u2 (fun q hq e => by have := x1.fr q hq; omega)
      refine tok_done hΨ rfl rfl rfl oA7 (by rw [hF]; exact oB7) (by rw [hF]; exact oC7) (((kp.trans' p2 (fun c hc e => by omega)).trans' t2 (fun c hc e => by omega)).trans' u2 (fun c hc e => by omega)) (by rw [hF]; exact ow7) (fun q hq => by have := x1.fr q hq; omega)
    simp only [mach, mach2, mstd, ↓reduceIte, Nat.reduceEqDiff, Nat.reduceAdd, Nat.reduceMul, x1.sc.own.cells.ld, mbl, Nat.reduceLeDiff, Nat.reduceLT, Int.reduceEq, tx_size, hp]
    refine XX_of (token_ok x1 (by omega) (by omega)) (fun res g2 hle hr => ?_)
    obtain ⟨k2, hr⟩ := hr
    have kp2 : Keep (fun _ => False) h g2 := kp.trans' k2 (fun c hc e => by omega)
    have mA := nA.keep k2 (fun e => by omega)
    have mB := nB.keep k2 (fun e => by omega)
    have mC := nC.keep k2 (fun e => by omega)
    have hne : s.drop p ≠ [] := by rw [List.drop_eq_getElem_cons (show p < s.length by omega)]; exact List.cons_ne_nil _ _
    have hNp : s.length - (s.drop p).length = p := by rw [List.length_drop]; omega
    cases htk : tokS (s.drop p) with
    | none =>
      rw [toO, htk] at hr
      simp only at hr
      subst hr
      refine .pan ?_
      simp only [mach, mach2, mstd, ↓reduceIte, Nat.reduceEqDiff, Nat.reduceAdd, Nat.reduceMul]
      refine out (.pan _) _ _ _ _ (by intro e; cases e) ?_
      simp only [mach, mach2, mstd, ↓reduceIte, Nat.reduceEqDiff, Nat.reduceAdd, Nat.reduceMul]
      refine tok_fail hΨ rfl rfl rfl mA mB mC (by omega) (by omega) (by omega) (by omega) (by omega) (by omega) kp2 (by omega) (q := p) ?_
      rw [← heq, toks_none hfx hne htk, hNp]; rfl
    | some y =>
      obtain ⟨k, t, v, n⟩ := y
      rw [toO, htk] at hr
      simp only at hr
      obtain ⟨rfl, lv2, x2⟩ := hr
      refine .ret ?_
      have hst : pre (ts ++ [⟨k, t, v, p⟩]) (toks s.length (s.drop (p + n))) = toks s.length s := by
        rw [← heq, toks_step hfx hne htk, pre_pre, hNp, List.drop_drop]
      have hpn := (tokS_pos htk).1
      simp only [mach, mach2, mstd, ↓reduceIte, Nat.reduceEqDiff, Nat.reduceAdd, Nat.reduceMul]
      refine XX_of (skip_ok x2.sc) (fun res g3 hle hr => ?_)
      obtain ⟨k3, hr⟩ := hr
      have kp3 : Keep (fun _ => False) h g3 := kp2.trans' k3 (fun c hc e => by omega)
      have lA := mA.keep k3 (fun e => by omega)
      have lB := mB.keep k3 (fun e => by omega)
      have lC := mC.keep k3 (fun e => by omega)
      cases hsk2 : skp (s.drop (p + n)) with
      | error r =>
        rw [hsk2] at hr
        simp only [plc] at hr
        subst hr
        refine .pan ?_
        simp only [mach, mach2, mstd, ↓reduceIte, Nat.reduceEqDiff, Nat.reduceAdd, Nat.reduceMul]
        refine out (.pan _) _ _ _ _ (by intro e; cases e) ?_
        simp only [mach, mach2, mstd, ↓reduceIte, Nat.reduceEqDiff, Nat.reduceAdd, Nat.reduceMul]
        refine tok_fail hΨ rfl rfl rfl lA lB lC (by omega) (by omega) (by omega) (by omega) (by omega) (by omega) kp3 (by omega) ?_
        rw [← hst, toks_fault hsk2]; rfl
      | ok r =>
        rw [hsk2] at hr
        simp only [plc] at hr
        obtain ⟨rfl, y3⟩ := hr
        refine .ret ?_
        obtain ⟨q, hq1, hq2, hq3, hq4⟩ := skp_plc x2.sc.le hsk2
        rw [hq4] at y3
        simp only [mach, mach2, mstd, ↓reduceIte, Nat.reduceEqDiff, Nat.reduceAdd, Nat.reduceMul]
        refine next (q, ts ++ [⟨k, t, v, p⟩], lv2) _ _ _ ⟨kp3, lA, lB, lC, ⟨y3, x2.ow.keep k3 (fun c hc e => by have := x2.fr c hc; omega), x2.fr, by have := x2.ln; simp only; omega⟩, ?_, ?_⟩ ⟨rfl, rfl, rfl, rfl, rfl, trivial⟩ (by simp only; omega)
        · simp only; rw [← hq3]; exact (skp_fix hsk2).1
        · simp only; rw [← hst, ← hq3, toks_skip hsk2]
end
end Go.S07

/- Tokens: the document's side: bytes, words, names. -/
set_option linter.unusedVariables false
set_option linter.unusedSimpArgs false
namespace Go.S07
open Go Go.Eng Go.Proofs Go.Scn

/-! ### Words -/

end Go.S07

/- Tokens: the document's side: names, bytes as written, comments. -/
set_option linter.unusedVariables false
set_option linter.unusedSimpArgs false
namespace Go.S07
open Go Go.Eng Go.Proofs Go.Scn

/-! ### Names -/

/-! ### Bytes as written -/

end Go.S07

/- Tokens: the document's side: comments, quotes, numbers. -/
set_option linter.unusedVariables false
set_option linter.unusedSimpArgs false
namespace Go.S07
open Go Go.Eng Go.Proofs Go.Scn

/-! ### Comments -/

end Go.S07

/- Tokens: the document's side: quotes, numbers. -/
set_option linter.unusedVariables false
set_option linter.unusedSimpArgs false
namespace Go.S07
open Go Go.Eng Go.Proofs Go.Scn

/-! ### Numbers -/

end Go.S07

/- Tokens: the document's side: one token, all tokens. -/
set_option linter.unusedVariables false
set_option linter.unusedSimpArgs false
namespace Go.S07
open Go Go.Eng Go.Proofs Go.Scn

end Go.S07

/- Tokens: the document's tokens; ScanTokens. -/
set_option linter.unusedVariables false
set_option linter.unusedSimpArgs false
namespace Go.S07
open Go Go.Eng Go.Proofs Go.Scn

theorem tk_at {h : AH} {v : Value} {n : Nat} {ts : List Tk} (hr : Rds h 4 v n (ts.flatMap tkC)) {i : Nat} {t : Tk} (hx : ts[i]? = some t) :
    ∃ b o c, v = .slice (some ⟨b, o, none⟩) n c ∧ i < n ∧ ldcs h b (o + i * 4) 4 = some (tkC t) ∧ ∀ j, j < 4 → ldc h b (o + i * 4 + j) = (tkC t)[j]? := by
  have hl : i < ts.length := (List.getElem?_eq_some_iff.1 hx).1
  have hlen : (ts.flatMap tkC).length = ts.length * 4 := by
    clear hr hx hl
    induction ts with
    | nil => rfl
    | cons t ts ih => rw [List.flatMap_cons, List.length_append, ih, tkC_len, List.length_cons, Nat.add_mul]; omega
  have hn : i < n := by have := hr.len; rw [hlen] at this; omega
  obtain ⟨b, o, c, e, h1⟩ := rds_sub hr (i := i) (j := 0) (m := 4) hn (by omega)
  obtain ⟨b', o', c', e', kk⟩ := hr.at (i := i) hn
  rw [e] at e'; cases e'
  have h2 := flat_at (f := tkC) (k := 4) tkC_len hx (j := 0) (m := 4) (by omega)
  refine ⟨b, o, c, e, hn, ?_, fun j hj => ?_⟩
  · rw [Nat.add_zero] at h1
    rw [h1, h2]; rfl
  · rw [kk j hj]
    have h3 := congrArg (fun l => l[j]?) h2
    simp only [List.getElem?_take, hj, if_true, List.getElem?_drop, List.drop_zero, Nat.add_zero] at h3
    exact h3

end Go.S07

/- Tokens: a fixed call; ScanTokens, the walk. -/
set_option linter.unusedVariables false
set_option linter.unusedSimpArgs false
namespace Go.S07
open Go Go.Eng Go.Proofs Go.Scn

theorem toks_wake : toks 4 [102, 32, 49, 50] = .ok [⟨1, [102], 0, 0⟩, ⟨3, [], 12, 2⟩] := by
  have s1 : skp [102, 32, 49, 50] = .ok [102, 32, 49, 50] := skp_rest (by decide) (by decide) rfl
  have s2 : skp [49, 50] = .ok [49, 50] := skp_rest (by decide) (by decide) rfl
  have s3 : skp [32, 49, 50] = .ok [49, 50] := by rw [skp_cons, if_pos (by decide), s2]
  rw [toks_step (k := 1) (v := 0) (t := [102]) (n := 1) s1 (by simp) (by rfl), show ([102, 32, 49, 50] : Bs).drop 1 = [32, 49, 50] from rfl, toks_skip s3,
    toks_step (k := 3) (v := 12) (t := []) (n := 2) s2 (by simp) (by rfl), show ([49, 50] : Bs).drop 2 = [] from rfl, toks_end]
  rfl
theorem tokF_wake : tokF [102, 32, 49, 50] = ([⟨1, [102], 0, 0⟩, ⟨3, [], 12, 2⟩], 0, 0) := by
  rw [tokF, if_neg (by decide)]
  show (match toks 4 [102, 32, 49, 50] with
    | .ok ts => (ts, (0 : Int), (0 : Int))
    | .error e => ([], (e : Int), 8)) = _
  rw [toks_wake]

theorem wakes_ok (h : AH) : Gets Tryd.prog 9 [] h (fun res h' => Keep (fun _ => False) h h' ∧ res = .ret (.bool true)) := by
  refine Gets.of (keep := false) hP (draw_ok hM) k9 (by rfl) (fun Ψ hΨ => ?_)
  simp only [mach, mach2, mstd, ↓reduceIte, Nat.reduceEqDiff, Nat.reduceAdd, Nat.reduceMul, r9]
  refine XX_of (Tokens_ok [102, 32, 49, 50] h) (fun res h1 hle hr => ?_)
  obtain ⟨kp, lv, rfl, ow, fr⟩ := hr
  rw [tokF_wake] at ow
  rw [tokF_wake]
  refine .ret ?_
  obtain ⟨b, o, c, e1, _, _, f0⟩ := tk_at ow.rds (i := 0) (t := ⟨1, [102], 0, 0⟩) rfl
  obtain ⟨b', o', c', e2, _, _, f1⟩ := tk_at ow.rds (i := 1) (t := ⟨3, [], 12, 2⟩) rfl
  subst e1
  cases e2
  have l00 : ldc h1 b (o + 0 + 0) = some (iv 1) := by have := f0 0 (by omega); simpa [tkC] using this
  have l00' : ldc h1 b o = some (iv 1) := l00
  have l01 : ldc h1 b (o + 1) = some (.string ⟨#[102]⟩) := by
    have := f0 1 (by omega)
    have e : ldc h1 b (o + 1) = some (tv [102]) := by simpa [tkC] using this
    exact e
  have l12 : ldc h1 b (o + 4 + 2) = some (iv 12) := by have := f1 2 (by omega); simpa [tkC] using this
  have l13 : ldc h1 b (o + 4 + 3) = some (iv 2) := by have := f1 3 (by omega); simpa [tkC] using this
  simp only [mach, mach2, mstd, ↓reduceIte, Nat.reduceEqDiff, Nat.reduceAdd, Nat.reduceMul, mbl, Nat.reduceLeDiff, Nat.reduceLT, Int.reduceEq, show ((([⟨1, [102], 0, 0⟩, ⟨3, [], 12, 2⟩] : List Tk).length : Nat) : Int) = 2 from rfl, Int.reduceLT, Int.reduceLE, Int.reduceEq, and_self, Int.toNat_zero, Nat.zero_mul, Nat.add_zero, l00', l01, show (1 : Int).toNat = 1 from rfl, Nat.one_mul, l12, l13, mk_toList, beq_self_eq_true]
  exact hΨ _ _ (fin_ret (rv1 rfl ⟨kp, rfl⟩))

theorem toks_len {N : Nat} : ∀ (n : Nat) (l : Bs) (ts : List Tk), l.length ≤ n → toks N l = .ok ts → ts.length ≤ l.length := by
  intro n
  induction n with
  | zero =>
    intro l ts hn h
    have : l = [] := List.eq_nil_of_length_eq_zero (by omega)
    subst this
    rw [toks_end] at h; cases h; exact Nat.le_refl _
  | succ n ih =>
    intro l ts hn h
    rw [toks_eq] at h
    split at h
    · cases h
    · rename_i r hr
      have hrl := skp_len hr
      split at h
      · cases h; exact Nat.zero_le _
      · split at h
        · cases h
        · rename_i k t v m htk
          obtain ⟨m1, m2⟩ := tokS_pos htk
          split at h
          · cases h
          · rename_i us hu
            cases h
            have := ih (r.drop m) us (by simp; omega) hu
            simp only [List.length_cons, List.length_drop] at *
            omega
theorem tokF_len (s : Bs) : (tokF s).1.length ≤ 8000 := by
  unfold tokF
  split
  · exact Nat.zero_le _
  · split
    · rename_i ts h
      have := toks_len _ _ _ (Nat.le_refl _) h
      simp only; omega
    · exact Nat.zero_le _

end Go.S07

/- Tokens: plain laws: beginnings of texts, texts one behind the other, places. -/
set_option linter.unusedVariables false
set_option linter.unusedSimpArgs false
namespace Go.Scn
open Go

/-- The first n bytes are the same; behind them stands what stood there, or a line's end, or nothing. -/
structure Ag (n : Nat) (l l' : Bs) : Prop where
  same : ∀ i, i < n → l'[i]? = l[i]?
  full : n ≤ l'.length
  next : ∀ c, l'[n]? = some c → l[n]? = some c ∨ c = 10
theorem Ag.tk {n : Nat} {l l' : Bs} (h : Ag n l l') : l'.take n = l.take n := by
  apply List.ext_getElem?
  intro i
  rw [List.getElem?_take, List.getElem?_take]
  split
  · exact h.same i (by assumption)
  · rfl
theorem Ag.le {m n : Nat} {l l' : Bs} (h : Ag n l l') (hm : m ≤ n) : Ag m l l' :=
  ⟨fun i hi => h.same i (by omega), by have := h.full; omega, fun c hc => by
    rcases Nat.lt_or_ge m n with e | e
    · exact .inl (by rw [← h.same m e]; exact hc)
    · have : m = n := by omega
      subst this; exact h.next c hc⟩
theorem Ag.app {n : Nat} {l r' : Bs} (hn : n ≤ l.length) (h : ∀ c, r'[0]? = some c → l[n]? = some c ∨ c = 10) : Ag n l (l.take n ++ r') := by
  have hl : (l.take n).length = n := by simp; omega
  refine ⟨fun i hi => ?_, by simp; omega, fun c hc => ?_⟩
  · rw [List.getElem?_append_left (by omega), List.getElem?_take, if_pos hi]
  · rw [List.getElem?_append_right (by omega), hl, Nat.sub_self] at hc
    exact h c hc
theorem Ag.tl {n : Nat} {c : UInt8} {l l' : Bs} (h : Ag (n + 1) (c :: l) l') : ∃ r', l' = c :: r' ∧ Ag n l r' := by
  cases l' with
  | nil => have := h.full; simp at this
  | cons d r' =>
    have := h.same 0 (by omega)
    simp at this
    subst this
    exact ⟨r', rfl, fun i hi => by simpa using h.same (i + 1) (by omega), by have := h.full; simpa using this, fun c hc => by simpa using h.next c (by simpa using hc)⟩

theorem spn_ag {p : UInt8 → Bool} (h10 : p 10 = false) {l l' : Bs} (h : Ag (spn p l) l l') : spn p l' = spn p l := by
  refine spn_eq h.full (fun i c hi hc => ?_) (fun c hc => ?_)
  · rw [h.same i hi] at hc
    obtain ⟨d, h1, h2⟩ := spn_at hi
    rw [h1] at hc; cases hc; exact h2
  · rcases h.next c hc with e | e
    · exact spn_end e
    · subst e; exact h10
theorem wr_ag {l l' : Bs} (h0 : (wr l).2 ≠ 0) (h : Ag (wr l).2 l l') : wr l' = wr l := by
  cases l with
  | nil => simp [wr] at h0
  | cons c r =>
    by_cases a1 : c.toNat < 32 ∨ 126 < c.toNat
    · rw [wr, if_pos a1] at h0; exact absurd rfl h0
    by_cases a2 : ¬ c.toNat = 92
    · rw [wr, if_neg a1, if_pos a2] at h
      obtain ⟨r', rfl, _⟩ := h.tl
      rw [wr, wr, if_neg a1, if_pos a2, if_neg a1, if_pos a2]
    rw [wr, if_neg a1, if_neg a2] at h h0
    cases r with
    | nil => simp [wr2] at h0
    | cons d q =>
      by_cases b1 : d.toNat = 120
      · have e1 : wr2 (d :: q) = wr3 q := by rw [wr2, if_neg (by omega), if_neg (by omega), if_neg (by omega), if_pos b1]
        rw [e1] at h h0
        rcases wr3_le q with e | ⟨e, e2⟩
        · exact absurd e h0
        · rw [e] at h
          obtain ⟨r1, rfl, h1⟩ := h.tl
          obtain ⟨r2, rfl, h2⟩ := h1.tl
          match q, e2 with
          | a :: b :: q, _ =>
            obtain ⟨r3, rfl, h3⟩ := h2.tl
            obtain ⟨r4, rfl, h4⟩ := h3.tl
            have e1' : wr2 (d :: a :: b :: r4) = wr3 (a :: b :: r4) := by rw [wr2, if_neg (by omega), if_neg (by omega), if_neg (by omega), if_pos b1]
            rw [wr, wr, if_neg a1, if_neg a2, if_neg a1, if_neg a2, e1, e1']
            rfl
      · have e2 : (wr2 (d :: q)).2 = 2 := by
          revert h0; rw [wr2]; split
          · intro _; rfl
          · split
            · intro _; rfl
            · split
              · intro _; rfl
              · simp
        rw [e2] at h
        obtain ⟨r1, rfl, h1⟩ := h.tl
        obtain ⟨r2, rfl, h2⟩ := h1.tl
        rw [wr, wr, if_neg a1, if_neg a2, if_neg a1, if_neg a2, wr2, wr2, if_neg b1, if_neg b1]
theorem Ag.drop {m n : Nat} {l l' : Bs} (h : Ag n l l') (hm : m ≤ n) : Ag (n - m) (l.drop m) (l'.drop m) :=
  ⟨fun i hi => by rw [List.getElem?_drop, List.getElem?_drop]; exact h.same _ (by omega), by have := h.full; simp; omega, fun c hc => by
    rw [List.getElem?_drop] at hc ⊢
    rw [show m + (n - m) = n by omega] at hc ⊢
    exact h.next c hc⟩
theorem qt_ag {q : UInt8} : ∀ {l : Bs} {bs : Bs} {n : Nat} {l' : Bs}, qt q l = some (bs, n) → Ag (n + 1) l l' → qt q l' = some (bs, n) := by
  intro l
  induction l using (qt.induct q) with
  | case1 => intro bs n l' h; rw [qt_nil] at h; cases h
  | case2 r =>
    intro bs n l' h ha
    rw [qt_cons, if_pos rfl] at h
    cases h
    obtain ⟨r', rfl, _⟩ := ha.tl
    rw [qt_cons, if_pos rfl]
  | case3 c r hc hw => intro bs n l' h; rw [qt_cons, if_neg hc, if_pos hw] at h; cases h
  | case4 c r hc hw ih =>
    intro bs n l' h ha
    rw [qt_cons, if_neg hc, if_neg hw] at h
    obtain ⟨⟨b2, m⟩, h1, h2⟩ := Option.map_eq_some_iff.1 h
    simp only [Prod.mk.injEq] at h2
    obtain ⟨rfl, rfl⟩ := h2
    have hwr := wr_ag hw (ha.le (by omega))
    have hd := ih h1 (l' := l'.drop (wr (c :: r)).2) ((ha.drop (m := (wr (c :: r)).2) (by omega)).le (by omega))
    obtain ⟨r', rfl, _⟩ := (ha.le (show 0 + 1 ≤ _ by omega)).tl
    rw [qt_cons, if_neg hc, hwr, if_neg hw, hd]
    rfl

theorem inner10 : inner 10 = false := by decide
theorem digit10 : digit 10 = false := by decide
theorem symb10 : symb 10 = false := by decide
theorem dash10 : dash 10 = false := by decide
theorem noEnd10 : noEnd 10 = false := by decide

/-- The token that comes is the same where its bytes are. -/
theorem tok_ag {l l' : Bs} {k v : Int} {t : Bs} {n : Nat} (h : tokS l = some (k, t, v, n)) (ha : Ag n l l') : tokS l' = some (k, t, v, n) := by
  have hpos := (tokS_pos h).1
  cases l with
  | nil => simp [tokS] at h
  | cons c r =>
    obtain ⟨r', rfl, ht⟩ := (ha.le (show 0 + 1 ≤ n by omega)).tl
    have h' := h
    rw [tokS] at h ⊢
    by_cases c1 : (small c || large c) = true
    · rw [if_pos c1] at h ⊢
      split at h
      · cases h
      · rename_i hk
        simp only [Option.some.injEq, Prod.mk.injEq] at h
        obtain ⟨e1, e2, e3, e4⟩ := h
        rw [← e4] at ha
        have hs := spn_ag inner10 ha
        rw [hs, ha.tk, if_neg hk, e1, e2, e3, e4]
    rw [if_neg c1] at h ⊢
    by_cases c2 : digit c = true
    · rw [if_pos c2] at h ⊢
      obtain ⟨w, h1, h2⟩ := Option.map_eq_some_iff.1 h
      simp only [Prod.mk.injEq] at h2
      obtain ⟨e1, e2, e3, e4⟩ := h2
      rw [← e4] at ha
      have hs := spn_ag digit10 ha
      rw [hs, ha.tk, h1, Option.map_some, e1, e2, e3, e4]
    rw [if_neg c2] at h ⊢
    by_cases c3 : c.toNat = 39 ∨ c.toNat = 34
    · rw [if_pos c3] at h ⊢
      cases hq : qt c r with
      | none => rw [hq] at h; cases h
      | some y =>
        obtain ⟨bs, m⟩ := y
        rw [hq] at h
        simp only at h
        have hm : n = m + 2 := by
          split at h
          · cases h; rfl
          · split at h
            · cases h; rfl
            · cases h
        subst hm
        obtain ⟨r2, e, hr⟩ := (show Ag (m + 1 + 1) (c :: r) (c :: r') from ha).tl
        cases e
        rw [qt_ag hq hr]
        exact h
    rw [if_neg c3] at h ⊢
    by_cases c4 : symb c = true
    · rw [if_pos c4] at h ⊢
      have hn : n = spn symb (c :: r) := by
        split at h
        · simp only [Option.some.injEq, Prod.mk.injEq] at h; exact h.2.2.2.symm
        · split at h
          · simp only [Option.some.injEq, Prod.mk.injEq] at h; exact h.2.2.2.symm
          · cases h
      rw [hn] at ha
      have hs := spn_ag symb10 ha
      rw [hs, ha.tk]
      exact h
    · rw [if_neg c4] at h ⊢
      exact h

theorem lineN_ag {l l' : Bs} (h0 : 0 < lineN l) (ha : Ag (lineN l) l l') : lineN l' = lineN l := by
  have hl : lineN l = spn noEnd l ∧ 2 ≤ spn dash l ∧ ∀ c, l[spn dash l]? = some c → symb c = false := by
    unfold lineN at h0 ⊢
    split
    · rename_i hc; exact ⟨rfl, hc⟩
    · rename_i hc; rw [if_neg hc] at h0; omega
  obtain ⟨e1, e2, e3⟩ := hl
  have hle : spn dash l ≤ spn noEnd l := by
    have := spn_eq (p := noEnd) (l := l) (n := spn noEnd l) (spn_le _ _) (fun i c hi hc => by
      obtain ⟨d, h1, h2⟩ := spn_at hi; rw [h1] at hc; cases hc; exact h2) (fun c hc => spn_end hc)
    rcases Nat.lt_or_ge (spn noEnd l) (spn dash l) with hlt | hge
    · obtain ⟨c, hc, hd⟩ := spn_at hlt
      have := spn_end hc
      simp [dash] at hd
      simp [noEnd, hd] at this
    · exact hge
  rw [e1] at ha
  have hs := spn_ag noEnd10 ha
  have hd := spn_ag dash10 (ha.le hle)
  rw [e1]
  have hcond : 2 ≤ spn dash l' ∧ ∀ c, l'[spn dash l']? = some c → symb c = false := by
    rw [hd]
    refine ⟨e2, fun c hc => ?_⟩
    rcases (ha.le hle).next c hc with e | e
    · exact e3 c e
    · subst e; exact symb10
  unfold lineN
  rw [if_pos hcond, hs]

theorem nst_ag : ∀ (d : Nat) (l : Bs) (n : Nat) (l' : Bs), nst d l = some n → Ag n l l' → nst d l' = some n := by
  intro d l
  induction d, l using nst.induct with
  | case1 d l ih =>
    intro n l' h ha
    simp only [nst] at h; obtain ⟨m, h1, rfl⟩ := Option.map_eq_some_iff.1 h
    obtain ⟨r1, rfl, h2⟩ := ha.tl
    obtain ⟨r2, rfl, h3⟩ := h2.tl
    simp only [nst, ih m r2 h1 h3, Option.map_some]
  | case2 d l hd =>
    intro n l' h ha
    simp only [nst, hd, if_true] at h; cases h
    obtain ⟨r1, rfl, h2⟩ := (show Ag (1 + 1) _ l' from ha).tl
    obtain ⟨r2, rfl, h3⟩ := (show Ag (0 + 1) _ r1 from h2).tl
    simp only [nst, hd, if_true]
  | case3 d l hd ih =>
    intro n l' h ha
    simp only [nst, hd, if_false] at h; obtain ⟨m, h1, rfl⟩ := Option.map_eq_some_iff.1 h
    obtain ⟨r1, rfl, h2⟩ := ha.tl
    obtain ⟨r2, rfl, h3⟩ := h2.tl
    simp only [nst, hd, if_false, ih m r2 h1 h3, Option.map_some]
  | case4 d => intro n l' h; simp [nst] at h
  | case5 d c l h1 h2 ih =>
    intro n l' h ha
    have hs : nst d (c :: l) = (nst d l).map (· + 1) := by
      rw [nst]
      · exact h1
      · exact h2
    rw [hs] at h
    obtain ⟨m, h3, rfl⟩ := Option.map_eq_some_iff.1 h
    obtain ⟨r1, rfl, h4⟩ := ha.tl
    have hm0 : 0 < m := by
      rcases Nat.eq_zero_or_pos m with e | e
      · exfalso; subst e
        cases l with
        | nil => simp [nst] at h3
        | cons x l =>
          have : ∀ y, nst d (x :: l) = some y → 0 < y := by
            intro y hy
            rw [nst.eq_def] at hy
            split at hy
            · obtain ⟨z, _, rfl⟩ := Option.map_eq_some_iff.1 hy; omega
            · split at hy
              · cases hy; omega
              · obtain ⟨z, _, rfl⟩ := Option.map_eq_some_iff.1 hy; omega
            · cases hy
            · obtain ⟨z, _, rfl⟩ := Option.map_eq_some_iff.1 hy; omega
          have := this 0 h3; omega
      · exact e
    obtain ⟨x, l2, rfl⟩ : ∃ x l2, l = x :: l2 := by
      cases l with
      | nil => simp [nst] at h3
      | cons x l => exact ⟨x, l, rfl⟩
    obtain ⟨r2, rfl, h5⟩ := (h4.le (show 0 + 1 ≤ m by omega)).tl
    rw [nst]
    · rw [ih m _ h3 h4]; rfl
    · intro q e1 e2
      cases e2
      exact h1 l2 e1 rfl
    · intro q e1 e2
      cases e2
      exact h2 l2 e1 rfl

theorem nestN_ag {l l' : Bs} {n : Nat} (h0 : 0 < n) (h : nestN l = some n) (ha : Ag n l l') : nestN l' = some n := by
  obtain ⟨r, rfl⟩ := nest_head (l := l) (by rw [h]; simp; omega)
  simp only [nestN] at h
  obtain ⟨m, h1, rfl⟩ := Option.map_eq_some_iff.1 h
  obtain ⟨r1, rfl, h2⟩ := ha.tl
  obtain ⟨r2, rfl, h3⟩ := h2.tl
  simp only [nestN, nst_ag _ _ _ _ h1 h3, Option.map_some]

/-- What is skipped is skipped, whatever stands behind it that begins alike. -/
theorem skp_ag : ∀ {l r r' : Bs}, (skp l = .ok r ∨ skp l = .error r) → (∀ c, r'[0]? = some c → r[0]? = some c ∨ c = 10) → skp (l.take (l.length - r.length) ++ r') = skp r' := by
  intro l
  induction l using skp.induct with
  | case1 =>
    intro r r' h _
    simp
  | case2 c tl hb ih =>
    intro r r' h hh
    have h' : skp tl = .ok r ∨ skp tl = .error r := by rw [skp_cons, if_pos hb] at h; exact h
    have hle : r.length ≤ tl.length := by
      rcases h' with e | e
      · exact skp_len e
      · obtain ⟨n, e2, _⟩ := skp_err e; rw [e2]; simp
    rw [show (c :: tl).length - r.length = (tl.length - r.length) + 1 by simp; omega, List.take_succ_cons, List.cons_append, skp_cons, if_pos hb]
    exact ih h' hh
  | case3 c tl hb hl ih =>
    intro r r' h hh
    have h' : skp ((c :: tl).drop (lineN (c :: tl))) = .ok r ∨ skp ((c :: tl).drop (lineN (c :: tl))) = .error r := by
      rw [skp_cons, if_neg hb, if_pos hl] at h; exact h
    have hL := lineN_le (c :: tl)
    have hle : r.length ≤ ((c :: tl).drop (lineN (c :: tl))).length := by
      rcases h' with e | e
      · exact skp_len e
      · obtain ⟨n, e2, _⟩ := skp_err e
        have := congrArg List.length e2
        rw [List.length_drop] at this; omega
    have hr0 : r[0]? = (c :: tl)[(c :: tl).length - r.length]? := by
      obtain ⟨n, e⟩ : ∃ n, r = ((c :: tl).drop (lineN (c :: tl))).drop n := by
        rcases h' with e | e
        · obtain ⟨_, n, e2⟩ := skp_fix e; exact ⟨n, e2⟩
        · obtain ⟨n, e2, _⟩ := skp_err e; exact ⟨n, e2⟩
      rcases Nat.eq_zero_or_pos r.length with e0 | e0
      · rw [List.eq_nil_of_length_eq_zero e0]; simp
      · have hn : r.length = (c :: tl).length - lineN (c :: tl) - n := by
          have := congrArg List.length e; rw [List.length_drop, List.length_drop] at this; exact this
        conv => lhs; rw [e]
        rw [List.getElem?_drop, List.getElem?_drop]; congr 1; omega
    rw [List.length_drop] at hle
    have hA : Ag ((c :: tl).length - r.length) (c :: tl) ((c :: tl).take ((c :: tl).length - r.length) ++ r') := Ag.app (by omega) (fun d hd => by rw [← hr0]; exact hh d hd)
    have hline := lineN_ag hl (hA.le (by omega))
    have hih := ih h' hh
    have hdrop : ((c :: tl).take ((c :: tl).length - r.length) ++ r').drop (lineN (c :: tl)) = ((c :: tl).drop (lineN (c :: tl))).take (((c :: tl).drop (lineN (c :: tl))).length - r.length) ++ r' := by
      rw [List.drop_append_of_le_length (by simp only [List.length_take]; omega), List.drop_take, List.length_drop]
      congr 2; omega
    rw [← hih, ← hdrop]
    generalize hx : (c :: tl).take ((c :: tl).length - r.length) ++ r' = x at hA hline
    have := hline
    conv => lhs; rw [← skp_line x]
    rw [hline]
  | case4 c tl hb hl hn =>
    intro r r' h hh
    rw [skp_cons, if_neg hb, if_neg hl, hn] at h
    rcases h with h | h
    · cases h
    · cases h; simp
  | case5 c tl hb hl n hn h0 ih =>
    intro r r' h hh
    have h' : skp ((c :: tl).drop n) = .ok r ∨ skp ((c :: tl).drop n) = .error r := by
      rw [skp_cons, if_neg hb, if_neg hl, hn] at h
      simpa only [h0, if_true] using h
    have hL := nestN_le hn
    have hle : r.length ≤ ((c :: tl).drop n).length := by
      rcases h' with e | e
      · exact skp_len e
      · obtain ⟨n, e2, _⟩ := skp_err e
        have := congrArg List.length e2
        rw [List.length_drop] at this; omega
    have hr0 : r[0]? = (c :: tl)[(c :: tl).length - r.length]? := by
      obtain ⟨m, e⟩ : ∃ m, r = ((c :: tl).drop n).drop m := by
        rcases h' with e | e
        · obtain ⟨_, n, e2⟩ := skp_fix e; exact ⟨n, e2⟩
        · obtain ⟨n, e2, _⟩ := skp_err e; exact ⟨n, e2⟩
      rcases Nat.eq_zero_or_pos r.length with e0 | e0
      · rw [List.eq_nil_of_length_eq_zero e0]; simp
      · have hn : r.length = (c :: tl).length - n - m := by
          have := congrArg List.length e; rw [List.length_drop, List.length_drop] at this; exact this
        conv => lhs; rw [e]
        rw [List.getElem?_drop, List.getElem?_drop]; congr 1; omega
    rw [List.length_drop] at hle
    have hA : Ag ((c :: tl).length - r.length) (c :: tl) ((c :: tl).take ((c :: tl).length - r.length) ++ r') := Ag.app (by omega) (fun d hd => by rw [← hr0]; exact hh d hd)
    have hnest := nestN_ag h0 hn (hA.le (by omega))
    have hih := ih h' hh
    have hdrop : ((c :: tl).take ((c :: tl).length - r.length) ++ r').drop n = ((c :: tl).drop n).take (((c :: tl).drop n).length - r.length) ++ r' := by
      rw [List.drop_append_of_le_length (by simp only [List.length_take]; omega), List.drop_take, List.length_drop]
      congr 2; omega
    rw [← hih, ← hdrop, skp_nest hnest]
  | case6 c tl hb hl n hn h0 =>
    intro r r' h hh
    rw [skp_cons, if_neg hb, if_neg hl, hn] at h
    simp only [h0, if_false] at h
    rcases h with h | h
    · cases h; simp
    · cases h

/-- What stands where nothing is skipped, and a token comes: nothing is skipped there where its bytes are. -/
theorem skp_here {l l' : Bs} {k v : Int} {t : Bs} {n : Nat} (h : skp l = .ok l) (ht : tokS l = some (k, t, v, n)) (ha : Ag n l l') : skp l' = .ok l' := by
  have hpos := (tokS_pos ht).1
  cases l with
  | nil => simp [tokS] at ht
  | cons c r =>
  obtain ⟨r', rfl, h1⟩ := (ha.le (show 0 + 1 ≤ n by omega)).tl
  have hb : ¬ wsp c = true := by
    intro hb
    rw [skp_cons, if_pos hb] at h
    have := skp_len h
    simp at this; omega
  have hl : ¬ 0 < lineN (c :: r) := by
    intro hl
    rw [skp_cons, if_neg hb, if_pos hl] at h
    have := skp_len h
    rw [List.length_drop] at this
    have := lineN_le (c :: r)
    simp at *; omega
  have hn : nestN (c :: r) = some 0 := by
    rw [skp_cons, if_neg hb, if_neg hl] at h
    cases hn : nestN (c :: r) with
    | none => rw [hn] at h; cases h
    | some m =>
      rw [hn] at h
      simp only at h
      by_cases h0 : 0 < m
      · rw [if_pos h0] at h
        have := skp_len h
        rw [List.length_drop] at this
        have := nestN_le hn
        simp at *; omega
      · rw [show m = 0 by omega]
  refine skp_rest ?_ ?_ ?_
  · rw [spn_cons, if_neg hb]
  · -- no comment begins
    by_cases hd : dash c = true
    case neg =>
      unfold lineN
      rw [if_neg]
      rintro ⟨e, _⟩
      rw [spn_cons, if_neg hd] at e; omega
    have hc45 : c.toNat = 45 := by simpa [dash] using hd
    have htk : tokS (c :: r) = some (k, t, v, n) := ht
    have hsy : symb c = true := by
      have : c = 45 := UInt8.toNat_inj.1 hc45
      subst this; decide
    have hnn : n = spn symb (c :: r) := by
      have h2 := ht
      rw [tokS, if_neg (by simp [small, large, hc45]), if_neg (by simp [digit, hc45]), if_neg (by omega), if_pos hsy] at h2
      split at h2
      · simp only [Option.some.injEq, Prod.mk.injEq] at h2; exact h2.2.2.2.symm
      · split at h2
        · simp only [Option.some.injEq, Prod.mk.injEq] at h2; exact h2.2.2.2.symm
        · cases h2
    have hdn : spn dash (c :: r) ≤ n := by
      rw [hnn]
      rcases Nat.lt_or_ge (spn symb (c :: r)) (spn dash (c :: r)) with e | e
      · obtain ⟨d, e1, e2⟩ := spn_at e
        have e3 := spn_end e1
        have : d = 45 := UInt8.toNat_inj.1 (by simpa [dash] using e2)
        subst this
        exact absurd e3 (by decide)
      · exact e
    have hds := spn_ag dash10 (ha.le hdn)
    unfold lineN
    rw [if_neg]
    rintro ⟨e1, e2⟩
    rw [hds] at e1 e2
    refine hl ?_
    have hcond : 2 ≤ spn dash (c :: r) ∧ ∀ d, (c :: r)[spn dash (c :: r)]? = some d → symb d = false := by
      refine ⟨e1, fun d hd2 => ?_⟩
      rcases Nat.lt_or_ge (spn dash (c :: r)) n with e | e
      · exact e2 d (by rw [ha.same _ e]; exact hd2)
      · have he : spn dash (c :: r) = spn symb (c :: r) := by omega
        rw [he] at hd2
        exact spn_end hd2
    unfold lineN
    rw [if_pos hcond, spn_cons, if_pos (by simp [noEnd, hc45])]
    omega
  · -- none in braces either
    by_cases hc : c.toNat = 123
    case neg =>
      refine nestN_no (fun e => hc ?_)
      simp at e
      rw [e.1]; rfl
    have hc' : c = 123 := UInt8.toNat_inj.1 hc
    subst hc'
    refine nestN_no (fun e => ?_)
    cases r' with
    | nil => simp at e
    | cons d q =>
      simp at e
      subst e
      have h45 : (123 :: r)[1]? = some 45 ∨ (45 : UInt8) = 10 := by
        rcases Nat.lt_or_ge 1 n with e | e
        · left; rw [← ha.same 1 e]; rfl
        · have : n = 1 := by omega
          subst this
          exact ha.next 45 rfl
      rcases h45 with e | e
      · cases r with
        | nil => simp at e
        | cons x q2 =>
          simp at e
          subst e
          simp only [nestN] at hn
          obtain ⟨m, _, e2⟩ := Option.map_eq_some_iff.1 hn
          omega
      · exact absurd e (by decide)

/-! ### Tokens of texts -/

/-- Places further on. -/
def Tk.at (d : Nat) (t : Tk) : Tk := { t with a := t.a + d }
def shR (d : Nat) : Except Nat (List Tk) → Except Nat (List Tk)
  | .error e => .error (e + d)
  | .ok ts => .ok (ts.map (Tk.at d))
theorem toks_ind {M : Bs → Prop} (h : ∀ l, (∀ l', l'.length < l.length → M l') → M l) (l : Bs) : M l := by
  have : ∀ n (l : Bs), l.length < n → M l := by
    intro n
    induction n with
    | zero => intro l h; omega
    | succ n ih => intro l hl; exact h l fun l' hl' => ih l' (by omega)
  exact this (l.length + 1) l (by omega)

theorem toks_shift (d : Nat) (l : Bs) : ∀ N, l.length ≤ N → toks (N + d) l = shR d (toks N l) := by
  induction l using toks_ind with
  | h l ih =>
    intro N hN
    rw [toks_eq, toks_eq N l]
    cases hs : skp l with
    | error r =>
      obtain ⟨n, e, _⟩ := skp_err hs
      have : r.length ≤ l.length := by rw [e]; simp
      simp only [shR]; congr 1; omega
    | ok r =>
      have hr := skp_len hs
      simp only
      by_cases h0 : r = []
      · rw [if_pos h0, if_pos h0]; rfl
      · rw [if_neg h0, if_neg h0]
        cases ht : tokS r with
        | none => simp only [shR]; congr 1; omega
        | some y =>
          obtain ⟨k, t, v, n⟩ := y
          obtain ⟨h1, h2⟩ := tokS_pos ht
          simp only
          rw [ih (r.drop n) (by rw [List.length_drop]; omega) N (by rw [List.length_drop]; omega)]
          cases toks N (r.drop n) with
          | error e => rfl
          | ok us => simp only [shR, List.map_cons]; congr 2; simp only [Tk.at]; congr 1; omega

/-- Where the tokens are. -/
theorem toks_range {N : Nat} (l : Bs) : ∀ ts, l.length ≤ N → toks N l = .ok ts → ∀ t ∈ ts, N - l.length ≤ t.a ∧ t.a < N := by
  induction l using toks_ind with
  | h l ih =>
    intro ts hN h
    rw [toks_eq] at h
    cases hs : skp l with
    | error r => rw [hs] at h; cases h
    | ok r =>
      have hr := skp_len hs
      rw [hs] at h
      simp only at h
      by_cases h0 : r = []
      · rw [if_pos h0] at h; cases h; intro t ht; cases ht
      · rw [if_neg h0] at h
        cases ht : tokS r with
        | none => rw [ht] at h; cases h
        | some y =>
          obtain ⟨k, t, v, n⟩ := y
          obtain ⟨h1, h2⟩ := tokS_pos ht
          rw [ht] at h
          simp only at h
          cases hu : toks N (r.drop n) with
          | error e => rw [hu] at h; cases h
          | ok us =>
            rw [hu] at h
            cases h
            intro x hx
            rcases List.mem_cons.1 hx with e | e
            · subst e; simp only; omega
            · have := ih (r.drop n) (by rw [List.length_drop]; omega) us (by rw [List.length_drop]; omega) hu x e
              rw [List.length_drop] at this; omega

/-- The tokens from a token on. -/
theorem toks_from {N : Nat} (l : Bs) : ∀ ts, l.length ≤ N → toks N l = .ok ts → ∀ i t, ts[i]? = some t → t.a < N ∧ N - l.length ≤ t.a ∧ toks N (l.drop (t.a - (N - l.length))) = .ok (ts.drop i) ∧
    ∀ j u, j < i → ts[j]? = some u → u.a < t.a := by
  induction l using toks_ind with
  | h l ih =>
    intro ts hN h i t hi
    have h' := h
    rw [toks_eq] at h
    cases hs : skp l with
    | error r => rw [hs] at h; cases h
    | ok r =>
      have hr := skp_len hs
      obtain ⟨hfix, m, hm⟩ := skp_fix hs
      rw [hs] at h
      simp only at h
      by_cases h0 : r = []
      · rw [if_pos h0] at h; cases h; simp at hi
      · rw [if_neg h0] at h
        cases ht : tokS r with
        | none => rw [ht] at h; cases h
        | some y =>
          obtain ⟨k, tt, v, n⟩ := y
          obtain ⟨h1, h2⟩ := tokS_pos ht
          rw [ht] at h
          simp only at h
          cases hu : toks N (r.drop n) with
          | error e => rw [hu] at h; cases h
          | ok us =>
            rw [hu] at h
            cases h
            have hrm : r.length = l.length - m := by rw [hm]; simp
            have hr0 : 0 < r.length := by cases r with
              | nil => exact absurd rfl h0
              | cons => simp
            cases i with
            | zero =>
              simp at hi; subst hi
              simp only
              refine ⟨by omega, by omega, ?_, fun j u hj => by omega⟩
              have : l.drop (N - r.length - (N - l.length)) = r := by rw [show N - r.length - (N - l.length) = m by omega, ← hm]
              rw [this, ← toks_skip hs, h']; rfl
            | succ i =>
              simp only [List.getElem?_cons_succ] at hi
              obtain ⟨k1, k2, k3, k4⟩ := ih (r.drop n) (by rw [List.length_drop]; omega) us (by rw [List.length_drop]; omega) hu i t hi
              rw [List.length_drop] at k2 k3
              refine ⟨k1, by omega, ?_, fun j u hj hju => ?_⟩
              · have e : ∀ j, (r.drop n).drop j = l.drop (m + n + j) := fun j => by rw [hm, List.drop_drop, List.drop_drop, Nat.add_assoc]
                rw [List.drop_succ_cons, ← k3, e]
                congr 2; omega
              · cases j with
                | zero => simp at hju; subst hju; simp only; omega
                | succ j => exact k4 j u (by omega) (by simpa using hju)

/-- Two texts with a line's end between. -/
theorem toks_app (t : Bs) (l : Bs) : ∀ N ts, l.length ≤ N → toks N l = .ok ts → toks (N + 1 + t.length) (l ++ 10 :: t) = pre ts (toks (N + 1 + t.length) t) := by
  induction l using toks_ind with
  | h l ih =>
    intro N ts hN h
    rw [toks_eq] at h
    have h10 : skp (10 :: t) = skp t := by rw [skp_cons, if_pos (by decide)]
    cases hs : skp l with
    | error r => rw [hs] at h; cases h
    | ok r =>
      have hr := skp_len hs
      obtain ⟨hfix, m, hm⟩ := skp_fix hs
      have hrm : r.length = l.length - m := by rw [hm]; simp
      have hl : l.take (l.length - r.length) ++ (r ++ 10 :: t) = l ++ 10 :: t := by
        rw [← List.append_assoc]; congr 1
        rcases Nat.lt_or_ge l.length m with e | e
        · have : r = [] := List.eq_nil_of_length_eq_zero (by omega)
          subst this; simp
        · rw [show l.length - r.length = m by omega, hm, List.take_append_drop]
      have hsk := skp_ag (l := l) (r := r) (r' := r ++ 10 :: t) (.inl hs) (fun c hc => by
        cases r with
        | nil => right; simpa using hc.symm
        | cons x q => left; simpa using hc)
      rw [hl] at hsk
      rw [hs] at h
      simp only at h
      by_cases h0 : r = []
      · rw [if_pos h0] at h; cases h
        subst h0
        rw [pre_nil, toks_eq, hsk, List.nil_append, h10, ← toks_eq]
      · rw [if_neg h0] at h
        cases ht : tokS r with
        | none => rw [ht] at h; cases h
        | some y =>
          obtain ⟨k, tt, v, n⟩ := y
          obtain ⟨h1, h2⟩ := tokS_pos ht
          rw [ht] at h
          simp only at h
          have hag : Ag n r (r ++ 10 :: t) := by
            have := Ag.app (r' := r.drop n ++ 10 :: t) h2 (fun c hc => by
              rcases Nat.lt_or_ge n r.length with e | e
              · rw [List.getElem?_append_left (by rw [List.length_drop]; omega), List.getElem?_drop, Nat.add_zero] at hc
                exact .inl hc
              · rw [List.drop_eq_nil_of_le e] at hc
                right; simpa using hc.symm)
            rwa [← List.append_assoc, List.take_append_drop] at this
          have hsk2 := skp_here hfix ht hag
          have htk := tok_ag ht hag
          have hdr : (r ++ 10 :: t).drop n = r.drop n ++ 10 :: t := List.drop_append_of_le_length h2
          cases hu : toks N (r.drop n) with
          | error e => rw [hu] at h; cases h
          | ok us =>
            rw [hu] at h
            cases h
            have := ih (r.drop n) (by rw [List.length_drop]; omega) N us (by rw [List.length_drop]; omega) hu
            rw [toks_skip (r := r ++ 10 :: t) (by rw [hsk, hsk2]), toks_step hsk2 (by simp) htk, hdr, this, pre_pre]
            have e : N + 1 + t.length - (r ++ 10 :: t).length = N - r.length := by simp; omega
            rw [e]; rfl

/-- What lies ahead of a fault is tokens. -/
theorem toks_cut (l : Bs) : ∀ N p, l.length ≤ N → toks N l = .error p → N - l.length ≤ p ∧ p < N ∧ ∀ M, ∃ ts, toks M (l.take (p - (N - l.length))) = .ok ts := by
  induction l using toks_ind with
  | h l ih =>
    intro N p hN h
    rw [toks_eq] at h
    have stop : ∀ r, (skp l = .ok r ∨ skp l = .error r) → r.length ≤ l.length → ∀ M, ∃ ts, toks M (l.take (N - r.length - (N - l.length))) = .ok ts := fun r hr hle M => by
      have := skp_ag (l := l) (r := r) (r' := []) hr (fun c hc => by simp at hc)
      rw [List.append_nil, skp_nil] at this
      rw [show N - r.length - (N - l.length) = l.length - r.length by omega]
      exact ⟨[], by rw [toks_eq, this]; rfl⟩
    cases hs : skp l with
    | error r =>
      rw [hs] at h
      cases h
      obtain ⟨m, e, hm⟩ := skp_err hs
      have hle : r.length = l.length - m := by rw [e]; simp
      exact ⟨by omega, by omega, stop r (.inr hs) (by omega)⟩
    | ok r =>
      have hr := skp_len hs
      obtain ⟨hfix, m, hm⟩ := skp_fix hs
      have hrm : r.length = l.length - m := by rw [hm]; simp
      rw [hs] at h
      simp only at h
      by_cases h0 : r = []
      · rw [if_pos h0] at h; cases h
      · have hr0 : 0 < r.length := by cases r with
          | nil => exact absurd rfl h0
          | cons => simp
        rw [if_neg h0] at h
        cases ht : tokS r with
        | none =>
          rw [ht] at h; cases h
          exact ⟨by omega, by omega, stop r (.inl hs) hr⟩
        | some y =>
          obtain ⟨k, tt, v, n⟩ := y
          obtain ⟨h1, h2⟩ := tokS_pos ht
          rw [ht] at h
          simp only at h
          cases hu : toks N (r.drop n) with
          | ok us => rw [hu] at h; cases h
          | error e =>
            rw [hu] at h
            cases h
            obtain ⟨q1, q2, q3⟩ := ih (r.drop n) (by rw [List.length_drop]; omega) N p (by rw [List.length_drop]; omega) hu
            rw [List.length_drop] at q1 q3
            refine ⟨by omega, q2, fun M => ?_⟩
            obtain ⟨us, hus⟩ := q3 M
            generalize hj : p - (N - (r.length - n)) = j at hus
            have hjl : j ≤ r.length - n := by omega
            have hcut : l.take (p - (N - l.length)) = l.take (l.length - r.length) ++ r.take (n + j) := by
              have hsplit : ∀ x, m ≤ x → l.take x = l.take m ++ r.take (x - m) := fun x hx => by
                conv => lhs; rw [← List.take_append_drop m (l.take x)]
                rw [List.take_take, Nat.min_eq_left hx, List.drop_take, ← hm]
              rw [hsplit _ (by omega), show l.length - r.length = m by omega]
              congr 2; omega
            have hag : Ag n r (r.take (n + j)) := ⟨fun i hi => by rw [List.getElem?_take, if_pos (by omega)], by simp; omega, fun c hc => by
              rw [List.getElem?_take] at hc
              split at hc
              · exact .inl hc
              · cases hc⟩
            have hsk2 := skp_here hfix ht hag
            have htk := tok_ag ht hag
            have hsk := skp_ag (l := l) (r := r) (r' := r.take (n + j)) (.inl hs) (fun c hc => by
              rw [List.getElem?_take, if_pos (by omega)] at hc; exact .inl hc)
            rw [hcut]
            have hne : r.take (n + j) ≠ [] := by
              intro e; have := congrArg List.length e; rw [List.length_take, List.length_nil] at this; omega
            have hd : (r.take (n + j)).drop n = (r.drop n).take j := by rw [List.drop_take]; congr 1; omega
            refine ⟨⟨k, tt, v, M - (r.take (n + j)).length⟩ :: us, ?_⟩
            rw [toks_skip (r := r.take (n + j)) (by rw [hsk, hsk2]), toks_step hsk2 hne htk, hd, hus]; rfl
end Go.Scn

/- Tokens: ScanFault, the walk. -/
set_option linter.unusedVariables false
set_option linter.unusedSimpArgs false
namespace Go.S07
open Go Go.Eng Go.Proofs Go.Scn

theorem tokF_ok {s : Bs} {ts : List Tk} (h8 : s.length ≤ 8000) (h : toks s.length s = .ok ts) : tokF s = (ts, 0, 0) := by rw [tokF, if_neg (by omega), h]
theorem tokF_err {s : Bs} {q : Nat} (h8 : s.length ≤ 8000) (h : toks s.length s = .error q) : tokF s = ([], (q : Int), 8) := by rw [tokF, if_neg (by omega), h]
theorem tokF_big {s : Bs} (h8 : 8000 < s.length) : tokF s = ([], 0, 11) := by rw [tokF, if_pos h8]

set_option maxHeartbeats 1000000 in
theorem ScanFault_ok (s : Bs) (h : AH) : Gets Tryd.prog 4 [tv s] h (fun res h' => Keep (fun _ => False) h h' ∧ res = .ret (.bool true)) := by
  refine Gets.of (keep := false) hP (draw_ok hM) k4 (by rfl) (fun Ψ hΨ => ?_)
  simp only [mach, mach2, mstd, ↓reduceIte, Nat.reduceEqDiff, Nat.reduceAdd, Nat.reduceMul, r4]
  refine XX_of (wakes_ok h) (fun res h1 hle hr => ?_)
  obtain ⟨k1, rfl⟩ := hr
  refine .ret ?_
  simp only [mach, mach2, mstd, ↓reduceIte, Nat.reduceEqDiff, Nat.reduceAdd, Nat.reduceMul]
  refine XX_of (Tokens_ok s h1) (fun res h2 hle hr => ?_)
  obtain ⟨k2, lv, rfl, ow, fr⟩ := hr
  refine .ret ?_
  obtain ⟨va, vc, rfl⟩ := row_shape ow.rds
  by_cases h8 : (8000 : Int) < (s.length : Int)
  · rw [tokF_big (by omega)] at ow ⊢
    simp only [mach, mach2, mstd, ↓reduceIte, Nat.reduceEqDiff, Nat.reduceAdd, Nat.reduceMul, mbl, Nat.reduceLeDiff, Nat.reduceLT, Int.reduceEq, tx_size, eq_true h8, show ((([] : List Tk).length : Nat) : Int) = 0 from rfl]
    exact hΨ _ _ (fin_ret (rv1 rfl ⟨k1.trans k2, rfl⟩))
  cases ht : toks s.length s with
  | ok ts =>
    rw [tokF_ok (by omega) ht] at ow ⊢
    simp only [mach, mach2, mstd, ↓reduceIte, Nat.reduceEqDiff, Nat.reduceAdd, Nat.reduceMul, mbl, Nat.reduceLeDiff, Nat.reduceLT, Int.reduceEq, tx_size, h8]
    exact hΨ _ _ (fin_ret (rv1 rfl ⟨k1.trans k2, rfl⟩))
  | error q =>
    obtain ⟨_, hq, hcut⟩ := toks_cut s s.length q (Nat.le_refl _) ht
    rw [Nat.sub_self, Nat.sub_zero] at hcut
    have hql : (s.take q).length = q := by simp; omega
    obtain ⟨ts, hts⟩ := hcut q
    have hF2 : tokF (s.take q) = (ts, 0, 0) := tokF_ok (by omega) (by rw [hql]; exact hts)
    have hrng := toks_range (s.take q) ts (by rw [hql]; exact Nat.le_refl _) hts
    rw [tokF_err (by omega) ht] at ow ⊢
    have c1 : ((q : Int) < 0) = False := eq_false (by omega)
    have c2 : ((s.length : Int) ≤ (q : Int)) = False := eq_false (by omega)
    simp only [mach, mach2, mstd, ↓reduceIte, Nat.reduceEqDiff, Nat.reduceAdd, Nat.reduceMul, mbl, Nat.reduceLeDiff, Nat.reduceLT, Int.reduceEq, tx_size, h8, c1, c2, Int.reduceEq, show ((([] : List Tk).length : Nat) : Int) = 0 from rfl, sl_to (show q ≤ s.length by omega)]
    refine XX_of (Tokens_ok (s.take q) h2) (fun res h3 hle hr => ?_)
    obtain ⟨k3, lw, rfl, ow2, fr2⟩ := hr
    refine .ret ?_
    have hlen := tokF_len (s.take q)
    rw [hF2] at ow2 hlen ⊢
    simp only at hlen
    obtain ⟨wa, wc, rfl⟩ := row_shape ow2.rds
    simp only [mach, mach2, mstd, ↓reduceIte, Nat.reduceEqDiff, Nat.reduceAdd, Nat.reduceMul, mbl, Nat.reduceLeDiff, Nat.reduceLT, Int.reduceEq, Int.reduceEq]
    refine XLo_rule (α := Nat) (fun i => [(4, iv q), (6, .slice wa ts.length wc), (9, iv i)]) (fun i h' => h' = h3 ∧ i ≤ ts.length) (fun i => ts.length - i) 0 ⟨rfl, Nat.zero_le _⟩ ⟨rfl, rfl, rfl, trivial⟩ ?_
    rintro i h4 Ψ2 ⟨rfl, hi⟩ next out
    by_cases hlt : (i : Int) < (ts.length : Int)
    · have hil : i < ts.length := by omega
      have g0 : (0 : Int) ≤ (i : Int) := by omega
      have hx : ts[i]? = some ts[i] := List.getElem?_eq_getElem hil
      obtain ⟨b1, o1, cc, e1, _, _, f1⟩ := tk_at ow2.rds hx
      cases e1
      have l3 : ldc h4 b1 (o1 + i * 4 + 3) = some (iv ts[i].a) := f1 3 (by omega)
      have hr := (hrng ts[i] (List.getElem_mem hil)).2
      have d1 : ((ts[i].a : Int) < 0) = False := eq_false (by omega)
      have d2 : ((q : Int) ≤ (ts[i].a : Int)) = False := eq_false (by omega)
      have hw : IntKind.i64.wrap ((i : Int) + 1) = ((i + 1 : Nat) : Int) := by rw [i64w (by omega) (by omega)]; omega
      simp only [mach, mach2, mstd, ↓reduceIte, Nat.reduceEqDiff, Nat.reduceAdd, Nat.reduceMul, hlt, g0, and_self, Int.toNat_natCast, l3, d1, d2, hw]
      exact next (i + 1) _ _ _ ⟨rfl, by omega⟩ ⟨rfl, rfl, rfl, trivial⟩ (by omega)
    · simp only [mach, mach2, mstd, ↓reduceIte, Nat.reduceEqDiff, Nat.reduceAdd, Nat.reduceMul, hlt]
      refine out (.exit 0) _ _ _ _ (by intro e; cases e) ?_
      simp only [mach, mach2, mstd, ↓reduceIte, Nat.reduceEqDiff, Nat.reduceAdd, Nat.reduceMul]
      exact hΨ _ _ (fin_ret (rv1 rfl ⟨(k1.trans k2).trans k3, rfl⟩))
end Go.S07

/- Tokens: ScanPlaces, the walk. -/
set_option linter.unusedVariables false
set_option linter.unusedSimpArgs false
namespace Go.S07
open Go Go.Eng Go.Proofs Go.Scn

theorem fm_drop : ∀ (ts : List Tk) (i : Nat), (ts.flatMap tkC).drop (i * 4) = (ts.drop i).flatMap tkC := by
  intro ts
  induction ts with
  | nil => intro i; simp
  | cons t ts ih =>
    intro i
    cases i with
    | zero => simp
    | succ i => rw [List.flatMap_cons, List.drop_succ_cons, ← ih i, show (i + 1) * 4 = (tkC t).length + i * 4 by rw [tkC_len]; omega, ← List.drop_drop, List.drop_left]
theorem fm_take : ∀ (ts : List Tk) (i : Nat), (ts.flatMap tkC).take (i * 4) = (ts.take i).flatMap tkC := by
  intro ts
  induction ts with
  | nil => intro i; simp
  | cons t ts ih =>
    intro i
    cases i with
    | zero => simp
    | succ i =>
      rw [List.flatMap_cons, List.take_succ_cons, List.flatMap_cons, ← ih i, show (i + 1) * 4 = (tkC t).length + i * 4 by rw [tkC_len]; omega, List.take_length_add_append]
theorem own_helem {h : AH} {b : Nat} {t : TypeId} {cs : List Value} (hb : Own h b t cs) : helem h b = some t := by
  obtain ⟨g, hg⟩ := hb
  simp [helem, hg]
theorem ows_from {h : AH} {v : Value} {ts : List Tk} {i : Nat} (ho : Ows h tkT 4 v ts.length (ts.flatMap tkC)) (hi : i ≤ ts.length) :
    ∃ v', sllv h tkT 4 v (some (iv i)) none = some (v', none) ∧ Rds h 4 v' (ts.drop i).length ((ts.drop i).flatMap tkC) := by
  generalize hn : ts.length = n at ho hi
  generalize hc : ts.flatMap tkC = cs at ho
  cases ho with
  | nil =>
    have : ts = [] := List.eq_nil_of_length_eq_zero hn
    subst this
    have : i = 0 := by omega
    subst this
    exact ⟨_, rfl, by simpa using Rds.nil⟩
  | @mk b n c all cs hb hl hn2 hx =>
    have h1 : (0 : Int) ≤ (i : Int) ∧ (i : Int) ≤ (n : Int) := by omega
    refine ⟨.slice (some ⟨b, 0 + i * 4, none⟩) (n - i) (c - i), ?_, ?_⟩
    · simp only [sllv, own_helem hb, if_true, bnd, Option.bind_some, if_pos h1, Option.map_some, Int.toNat_natCast]
    · rw [List.length_drop, hn, ← fm_drop, hc]
      refine .mk hb.cells ?_ ?_
      · rw [hl]
        have := Nat.mul_le_mul_right 4 hn2
        rw [Nat.sub_mul]; have := Nat.mul_le_mul_right 4 hi; omega
      · rw [← hx, List.drop_take, Nat.zero_add, Nat.sub_mul]
theorem ows_to {h : AH} {v : Value} {ts : List Tk} {i : Nat} (ho : Ows h tkT 4 v ts.length (ts.flatMap tkC)) (hi : i ≤ ts.length) :
    ∃ v', sllv h tkT 4 v none (some (iv i)) = some (v', none) ∧ Rds h 4 v' (ts.take i).length ((ts.take i).flatMap tkC) := by
  generalize hn : ts.length = n at ho hi
  generalize hc : ts.flatMap tkC = cs at ho
  cases ho with
  | nil =>
    have : ts = [] := List.eq_nil_of_length_eq_zero hn
    subst this
    have : i = 0 := by omega
    subst this
    exact ⟨_, rfl, by simpa using Rds.nil⟩
  | @mk b n c all cs hb hl hn2 hx =>
    have h1 : (0 : Int) ≤ (i : Int) ∧ (i : Int) ≤ (c : Int) := by omega
    refine ⟨.slice (some ⟨b, 0 + 0 * 4, none⟩) (i - 0) (c - 0), ?_, ?_⟩
    · simp only [sllv, own_helem hb, if_true, bnd, Option.bind_some, if_pos h1, Option.map_some, Int.toNat_natCast]
    · rw [List.length_take, hn, ← fm_take, hc, Nat.min_eq_left hi]
      refine .mk hb.cells ?_ ?_
      · rw [hl]
        have := Nat.mul_le_mul_right 4 (show i ≤ c by omega)
        omega
      · rw [← hx, List.take_take]; simp; congr 1; omega

theorem alike_ok (xs ys : List Tk) (h : AH) (u v : Value) (hu : Rds h 4 u xs.length (xs.flatMap tkC)) (hv : Rds h 4 v ys.length (ys.flatMap tkC)) (hl : xs.length ≤ 9223372036854775800) (hab : xs.length = ys.length)
    (he : ∀ (i : Nat) (a b : Tk), xs[i]? = some a → ys[i]? = some b → a.k = b.k ∧ a.t = b.t ∧ a.n = b.n) : Gets Tryd.prog 13 [u, v] h (fun res h' => h' = h ∧ res = .ret (.bool true)) := by
  refine Gets.of (keep := false) hP (draw_ok hM) k13 (by rfl) (fun Ψ hΨ => ?_)
  obtain ⟨ua, uc, rfl⟩ := row_shape hu
  obtain ⟨va, vc, rfl⟩ := row_shape hv
  have hab' : (xs.length : Int) = (ys.length : Int) := by omega
  simp only [mach, mach2, mstd, ↓reduceIte, Nat.reduceEqDiff, Nat.reduceAdd, Nat.reduceMul, r13, eq_true hab']
  refine XLo_rule (α := Nat) (fun i => [(0, .slice ua xs.length uc), (1, .slice va ys.length vc), (5, iv i)]) (fun i h' => h' = h ∧ i ≤ xs.length) (fun i => xs.length - i) 0 ⟨rfl, Nat.zero_le _⟩ ⟨rfl, rfl, rfl, trivial⟩ ?_
  rintro i h1 Ψ2 ⟨rfl, hi⟩ next out
  by_cases hlt : (i : Int) < (xs.length : Int)
  · have hil : i < xs.length := by omega
    have g0 : (0 : Int) ≤ (i : Int) := by omega
    have hx : xs[i]? = some xs[i] := List.getElem?_eq_getElem hil
    have hy : ys[i]? = some ys[i] := List.getElem?_eq_getElem (by omega)
    have hlt2 : (i : Int) < (ys.length : Int) := by omega
    obtain ⟨e1, e2, e3⟩ := he i _ _ hx hy
    obtain ⟨b1, o1, c1, q1, _, _, f1⟩ := tk_at hu hx
    obtain ⟨b2, o2, c2, q2, _, _, f2⟩ := tk_at hv hy
    cases q1; cases q2
    have a0 : ldc h1 b1 (o1 + i * 4) = some (iv xs[i].k) := f1 0 (by omega)
    have a1 : ldc h1 b1 (o1 + i * 4 + 1) = some (tv xs[i].t) := f1 1 (by omega)
    have a2 : ldc h1 b1 (o1 + i * 4 + 2) = some (iv xs[i].n) := f1 2 (by omega)
    have d0 : ldc h1 b2 (o2 + i * 4) = some (iv xs[i].k) := by rw [e1]; exact f2 0 (by omega)
    have d1 : ldc h1 b2 (o2 + i * 4 + 1) = some (tv xs[i].t) := by rw [e2]; exact f2 1 (by omega)
    have d2 : ldc h1 b2 (o2 + i * 4 + 2) = some (iv xs[i].n) := by rw [e3]; exact f2 2 (by omega)
    have hw : IntKind.i64.wrap ((i : Int) + 1) = ((i + 1 : Nat) : Int) := by rw [i64w (by omega) (by omega)]; omega
    simp only [mach, mach2, mstd, ↓reduceIte, Nat.reduceEqDiff, Nat.reduceAdd, Nat.reduceMul, hlt, hlt2, g0, and_self, Int.toNat_natCast, Nat.add_zero, a0, a1, a2, d0, d1, d2, tx_toList, beq_self_eq_true, ct1, hw]
    exact next (i + 1) _ _ _ ⟨rfl, by omega⟩ ⟨rfl, rfl, rfl, trivial⟩ (by omega)
  · simp only [mach, mach2, mstd, ↓reduceIte, Nat.reduceEqDiff, Nat.reduceAdd, Nat.reduceMul, hlt]
    refine out (.exit 0) _ _ _ _ (by intro e; cases e) ?_
    simp only [mach, mach2, mstd, ↓reduceIte, Nat.reduceEqDiff, Nat.reduceAdd, Nat.reduceMul]
    exact hΨ _ _ (fin_ret (rv1 rfl ⟨rfl, rfl⟩))
end Go.S07
