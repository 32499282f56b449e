import Derived.Test.YtobbonpebopafaaDoorPk18
import Derived.Test.YtobbonpebopafaaDoorPk16
import Derived.Shelf.Strconv.Itoa3
import Derived.Test.YtobbonpebopafaaDoorProg
import Derived.Test.YtobbonpebopafaaDoorPk14
import Derived.Tactics
import Derived.Tactics2
import Derived.WalkKit
import Derived.WalkSpells
import Derived.StillTactics
import Derived.Laws.IdiomStrings
import Derived.KernelRfl
import Derived.Great.BuildSlice
import Derived.Lib.ItoaNum
import Derived.Below
/- Tokens: a text's tokens, what Tokens comes to. -/
set_option linter.unusedVariables false
set_option linter.unusedSimpArgs false
namespace Go.S07
open Go Go.Eng Go.Proofs Go.Scn

theorem skp_plc {s : Bs} {p : Nat} {r : Bs} (hp : p ≤ s.length) (h : skp (s.drop p) = .ok r) : ∃ q, p ≤ q ∧ q ≤ s.length ∧ r = s.drop q ∧ s.length - r.length = q := by
  obtain ⟨_, n, rfl⟩ := skp_fix h
  by_cases hn : n ≤ s.length - p
  · refine ⟨p + n, by omega, by omega, by rw [List.drop_drop], ?_⟩
    simp; omega
  · refine ⟨s.length, by omega, Nat.le_refl _, ?_, ?_⟩
    · rw [List.drop_drop, List.drop_length, List.drop_eq_nil_of_le (by omega)]
    · rw [List.drop_drop, List.drop_eq_nil_of_le (by omega)]; simp

section
variable {h : AH} {s : Bs}

set_option maxHeartbeats 4000000 in
theorem Tokens_ok (s : Bs) (h : AH) : Gets Tryd.prog 10 [tv s] h (TokO h s) := by
  refine Gets.ofd (keep := false) (keepg := false) hP (draw_ok hM) (draw_ok hM) k10 k20 (by rfl) (fun Ψ hΨ => ?_)
  have oA0 := Own.new h tlT h.length [.slice none 0 0]
  have kp1 : Keep (fun _ => False) h (h ++ [row tlT h.length [.slice none 0 0]]) := Keep.push _ _ _
  by_cases h8 : (8000 : Int) < (s.length : Int)
  · simp only [mach, mach2, mstd, ↓reduceIte, Nat.reduceEqDiff, Nat.reduceAdd, Nat.reduceMul, r10, mbl, Nat.reduceLeDiff, Nat.reduceLT, Int.reduceEq, tx_size, eq_true h8]
    generalize hh1 : h ++ [row tlT h.length [.slice none 0 0]] = h1 at oA0 kp1 ⊢
    have hl1 : h1.length = h.length + 1 := by rw [← hh1]; simp
    have oB0 := Own.new h1 inT h1.length [iv 0]
    have kp2 : Keep (fun _ => False) h1 (h1 ++ [row inT h1.length [iv 0]]) := Keep.push _ _ _
    generalize hh2 : h1 ++ [row inT h1.length [iv 0]] = h2 at oB0 kp2 ⊢
    have hl2 : h2.length = h1.length + 1 := by rw [← hh2]; simp
    have oC := Own.new h2 erT h2.length [iv 0]
    have kp3 : Keep (fun _ => False) h2 (h2 ++ [row erT h2.length [iv 0]]) := Keep.push _ _ _
    generalize hh3 : h2 ++ [row erT h2.length [iv 0]] = h3 at oC kp3 ⊢
    have hl3 : h3.length = h2.length + 1 := by rw [← hh3]; simp
    have oA := (oA0.keep kp2 (fun e => e)).keep kp3 (fun e => e)
    have oB := oB0.keep kp3 (fun e => e)
    refine XH_own oA rfl (by simp [Value.cells]) rfl (fun h5 p1 p2 p3 => ?_)
    have oA5 : Own h5 h.length tlT [.slice none 0 0] := by simpa [Value.cells] using p1
    have oB5 := oB.keep p2 (fun e => by omega)
    have oC5 := oC.keep p2 (fun e => by omega)
    simp only [mach, mach2, mstd, ↓reduceIte, Nat.reduceEqDiff, Nat.reduceAdd, Nat.reduceMul]
    refine XH_own oB5 rfl (by simp [Value.cells]) rfl (fun h6 t1 t2 t3 => ?_)
    have oB6 : Own h6 h1.length inT [iv 0] := by simpa [Value.cells] using t1
    have oA6 := oA5.keep t2 (fun e => by omega)
    have oC6 := oC5.keep t2 (fun e => by omega)
    simp only [mach, mach2, mstd, ↓reduceIte, Nat.reduceEqDiff, Nat.reduceAdd, Nat.reduceMul]
    refine XH_own oC6 rfl (by simp [Value.cells]) rfl (fun h7 u1 u2 u3 => ?_)
    have oC7 : Own h7 h2.length erT [iv 11] := by simpa [Value.cells] using u1
    have oA7 := oA6.keep u2 (fun e => by omega)
    have oB7 := oB6.keep u2 (fun e => by omega)
    simp only [mach, mach2, mstd, ↓reduceIte, Nat.reduceEqDiff, Nat.reduceAdd, Nat.reduceMul]
    have kk : Keep (fun _ => False) h h7 := ((((kp1.trans kp2).trans kp3).trans' p2 (fun c hc e => by omega)).trans' t2 (fun c hc e => by omega)).trans' u2 (fun c hc e => by omega)
    have hF : tokF s = ([], 0, 11) := by rw [tokF, if_pos (by omega)]
    refine hΨ _ _ (dfr_no (rvc3 (p := .pointer (some ⟨h.length, 0, none⟩)) (q := .pointer (some ⟨h1.length, 0, none⟩)) (r := .pointer (some ⟨h2.length, 0, none⟩)) (u := .slice none 0 0) (v := iv 0) (w := iv 11) rfl ?_ rfl ?_ rfl ?_ ⟨kk, .slice none 0 0, by rw [hF]; rfl, by rw [hF]; exact .nil, fun q e => e.elim⟩))
    · simp only [uval]; rw [oA7.cells.ld]; rfl
    · simp only [uval]; rw [oB7.cells.ld]; rfl
    · simp only [uval]; rw [oC7.cells.ld]; rfl
  · simp only [mach, mach2, mstd, ↓reduceIte, Nat.reduceEqDiff, Nat.reduceAdd, Nat.reduceMul, r10, mbl, Nat.reduceLeDiff, Nat.reduceLT, Int.reduceEq, tx_size, h8]
    generalize hh1 : h ++ [row tlT h.length [.slice none 0 0]] = h1 at oA0 kp1 ⊢
    have hl1 : h1.length = h.length + 1 := by rw [← hh1]; simp
    have oB0 := Own.new h1 inT h1.length [iv 0]
    have kp2 : Keep (fun _ => False) h1 (h1 ++ [row inT h1.length [iv 0]]) := Keep.push _ _ _
    generalize hh2 : h1 ++ [row inT h1.length [iv 0]] = h2 at oB0 kp2 ⊢
    have hl2 : h2.length = h1.length + 1 := by rw [← hh2]; simp
    have oC0 := Own.new h2 erT h2.length [iv 0]
    have kp3 : Keep (fun _ => False) h2 (h2 ++ [row erT h2.length [iv 0]]) := Keep.push _ _ _
    generalize hh3 : h2 ++ [row erT h2.length [iv 0]] = h3 at oC0 kp3 ⊢
    have hl3 : h3.length = h2.length + 1 := by rw [← hh3]; simp
    have oS := Own.new h3 41 h3.length [tv s, iv 0, .slice none 0 0]
    have kp4 : Keep (fun _ => False) h3 (h3 ++ [row 41 h3.length [tv s, iv 0, .slice none 0 0]]) := Keep.push _ _ _
    generalize hh4 : h3 ++ [row 41 h3.length [tv s, iv 0, .slice none 0 0]] = h4 at oS kp4 ⊢
    have hl4 : h4.length = h3.length + 1 := by rw [← hh4]; simp
    have oA := ((oA0.keep kp2 (fun e => e)).keep kp3 (fun e => e)).keep kp4 (fun e => e)
    have oB := (oB0.keep kp3 (fun e => e)).keep kp4 (fun e => e)
    have oC := oC0.keep kp4 (fun e => e)
    have kpa : Keep (fun _ => False) h h4 := ((kp1.trans kp2).trans kp3).trans kp4
    have x0 : Sc h4 h3.length s 0 [] (.slice none 0 0) := ⟨⟨oS, Nat.zero_le _, by omega⟩, .nil, fun q e => e.elim, Nat.zero_le _⟩
    refine XX_of (skip_ok x0.sc) (fun res h5 hle hr => ?_)
    obtain ⟨k5, hr⟩ := hr
    have kpb : Keep (fun _ => False) h h5 := kpa.trans' k5 (fun c hc e => by omega)
    have oA5 := oA.keep k5 (fun e => by omega)
    have oB5 := oB.keep k5 (fun e => by omega)
    have oC5 := oC.keep k5 (fun e => by omega)
    rw [List.drop_zero] at hr
    cases hsk : skp s with
    | error r =>
      rw [hsk] at hr
      simp only [plc] at hr
      subst hr
      refine .pan ?_
      simp only [mach, mach2, mstd, ↓reduceIte, Nat.reduceEqDiff, Nat.reduceAdd, Nat.reduceMul]
      exact tok_fail hΨ rfl rfl rfl oA5 oB5 oC5 (by omega) (by omega) (by omega) (by omega) (by omega) (by omega) kpb (by omega) (toks_fault hsk)
    | ok r =>
    rw [hsk] at hr
    simp only [plc] at hr
    obtain ⟨rfl, y5⟩ := hr
    obtain ⟨q0, _, hq0, hr0, hr1⟩ := skp_plc (p := 0) (Nat.zero_le _) (by rw [List.drop_zero]; exact hsk)
    rw [hr1] at y5
    have hfix : skp (s.drop q0) = .ok (s.drop q0) := by rw [← hr0]; exact (skp_fix hsk).1
    have hts : toks s.length (s.drop q0) = toks s.length s := by rw [← hr0]; exact (toks_skip hsk).symm
    refine .ret ?_
    simp only [mach, mach2, mstd, ↓reduceIte, Nat.reduceEqDiff, Nat.reduceAdd, Nat.reduceMul]
    refine XLo_rule (α := Nat × List Tk × Value) (fun a => [(0, tv s), (2, .pointer (some ⟨h.length, 0, none⟩)), (3, .pointer (some ⟨h1.length, 0, none⟩)), (4, .pointer (some ⟨h2.length, 0, none⟩)), (5, .pointer (some ⟨h3.length, 0, none⟩))])
      (fun a h' => Keep (fun _ => False) h h' ∧ Own h' h.length tlT [.slice none 0 0] ∧ Own h' h1.length inT [iv 0] ∧ Own h' h2.length erT [iv 0] ∧ Sc h' h3.length s a.1 a.2.1 a.2.2 ∧ skp (s.drop a.1) = .ok (s.drop a.1) ∧ pre a.2.1 (toks s.length (s.drop a.1)) = toks s.length s) (fun a => s.length - a.1) (q0, [], .slice none 0 0)
      ⟨kpb, oA5, oB5, oC5, ⟨y5, .nil, fun q e => e.elim, Nat.zero_le _⟩, hfix, by rw [pre_nil]; exact hts⟩ ⟨rfl, rfl, rfl, rfl, rfl, trivial⟩ ?_
    rintro ⟨p, ts, lv⟩ g1 Ψ2 ⟨kp, nA, nB, nC, x1, hfx, heq⟩ next out
    simp only at x1 hfx heq
    have hple := x1.sc.le
    by_cases hp : (p : Int) < (s.length : Int)
    case neg =>
      have hF : tokF s = (ts, 0, 0) := by
        rw [tokF, if_neg (by omega), ← heq, show s.drop p = [] from List.drop_eq_nil_of_le (by omega), toks_end]
        simp [pre]
      simp only [mach, mach2, mstd, ↓reduceIte, Nat.reduceEqDiff, Nat.reduceAdd, Nat.reduceMul, x1.sc.own.cells.ld, mbl, Nat.reduceLeDiff, Nat.reduceLT, Int.reduceEq, tx_size, hp]
      refine out (.exit 0) _ _ _ _ (by intro e; cases e) ?_
      obtain ⟨va, vc, rfl⟩ := row_shape x1.ow.rds
      simp only [mach, mach2, mstd, ↓reduceIte, Nat.reduceEqDiff, Nat.reduceAdd, Nat.reduceMul, x1.sc.own.cells.ld, mbl, Nat.reduceLeDiff, Nat.reduceLT, Int.reduceEq]
      refine XH_own nA rfl (by simp [Value.cells]) rfl (fun h5 p1 p2 p3 => ?_)
      have oA5 : Own h5 h.length tlT [.slice va ts.length vc] := by simpa [Value.cells] using p1
      have oB5 := nB.keep p2 (fun e => by omega)
      have oC5 := nC.keep p2 (fun e => by omega)
      simp only [mach, mach2, mstd, ↓reduceIte, Nat.reduceEqDiff, Nat.reduceAdd, Nat.reduceMul]
      refine XH_own oB5 rfl (by simp [Value.cells]) rfl (fun h6 t1 t2 t3 => ?_)
      have oB6 : Own h6 h1.length inT [iv 0] := by simpa [Value.cells] using t1
      have oA6 := oA5.keep t2 (fun e => by omega)
      have oC6 := oC5.keep t2 (fun e => by omega)
      simp only [mach, mach2, mstd, ↓reduceIte, Nat.reduceEqDiff, Nat.reduceAdd, Nat.reduceMul]
      refine XH_own oC6 rfl (by simp [Value.cells]) rfl (fun h7 u1 u2 u3 => ?_)
      have oC7 : Own h7 h2.length erT [iv 0] := by simpa [Value.cells] using u1
      have oA7 := oA6.keep u2 (fun e => by omega)
      have oB7 := oB6.keep u2 (fun e => by omega)
      simp only [mach, mach2, mstd, ↓reduceIte, Nat.reduceEqDiff, Nat.reduceAdd, Nat.reduceMul]
      have ow7 := ((x1.ow.keep p2 (fun q hq e => by have := x1.fr q hq; omega)).keep t2 (fun q hq e => by have := x1.fr q hq; omega)).keep u2 (fun q hq e => by have := x1.fr q hq; omega)
      refine tok_done hΨ rfl rfl rfl oA7 (by rw [hF]; exact oB7) (by rw [hF]; exact oC7) (((kp.trans' p2 (fun c hc e => by omega)).trans' t2 (fun c hc e => by omega)).trans' u2 (fun c hc e => by omega)) (by rw [hF]; exact ow7) (fun q hq => by have := x1.fr q hq; omega)
    simp only [mach, mach2, mstd, ↓reduceIte, Nat.reduceEqDiff, Nat.reduceAdd, Nat.reduceMul, x1.sc.own.cells.ld, mbl, Nat.reduceLeDiff, Nat.reduceLT, Int.reduceEq, tx_size, hp]
    refine XX_of (token_ok x1 (by omega) (by omega)) (fun res g2 hle hr => ?_)
    obtain ⟨k2, hr⟩ := hr
    have kp2 : Keep (fun _ => False) h g2 := kp.trans' k2 (fun c hc e => by omega)
    have mA := nA.keep k2 (fun e => by omega)
    have mB := nB.keep k2 (fun e => by omega)
    have mC := nC.keep k2 (fun e => by omega)
    have hne : s.drop p ≠ [] := by rw [List.drop_eq_getElem_cons (show p < s.length by omega)]; exact List.cons_ne_nil _ _
    have hNp : s.length - (s.drop p).length = p := by rw [List.length_drop]; omega
    cases htk : tokS (s.drop p) with
    | none =>
      rw [toO, htk] at hr
      simp only at hr
      subst hr
      refine .pan ?_
      simp only [mach, mach2, mstd, ↓reduceIte, Nat.reduceEqDiff, Nat.reduceAdd, Nat.reduceMul]
      refine out (.pan _) _ _ _ _ (by intro e; cases e) ?_
      simp only [mach, mach2, mstd, ↓reduceIte, Nat.reduceEqDiff, Nat.reduceAdd, Nat.reduceMul]
      refine tok_fail hΨ rfl rfl rfl mA mB mC (by omega) (by omega) (by omega) (by omega) (by omega) (by omega) kp2 (by omega) (q := p) ?_
      rw [← heq, toks_none hfx hne htk, hNp]; rfl
    | some y =>
      obtain ⟨k, t, v, n⟩ := y
      rw [toO, htk] at hr
      simp only at hr
      obtain ⟨rfl, lv2, x2⟩ := hr
      refine .ret ?_
      have hst : pre (ts ++ [⟨k, t, v, p⟩]) (toks s.length (s.drop (p + n))) = toks s.length s := by
        rw [← heq, toks_step hfx hne htk, pre_pre, hNp, List.drop_drop]
      have hpn := (tokS_pos htk).1
      simp only [mach, mach2, mstd, ↓reduceIte, Nat.reduceEqDiff, Nat.reduceAdd, Nat.reduceMul]
      refine XX_of (skip_ok x2.sc) (fun res g3 hle hr => ?_)
      obtain ⟨k3, hr⟩ := hr
      have kp3 : Keep (fun _ => False) h g3 := kp2.trans' k3 (fun c hc e => by omega)
      have lA := mA.keep k3 (fun e => by omega)
      have lB := mB.keep k3 (fun e => by omega)
      have lC := mC.keep k3 (fun e => by omega)
      cases hsk2 : skp (s.drop (p + n)) with
      | error r =>
        rw [hsk2] at hr
        simp only [plc] at hr
        subst hr
        refine .pan ?_
        simp only [mach, mach2, mstd, ↓reduceIte, Nat.reduceEqDiff, Nat.reduceAdd, Nat.reduceMul]
        refine out (.pan _) _ _ _ _ (by intro e; cases e) ?_
        simp only [mach, mach2, mstd, ↓reduceIte, Nat.reduceEqDiff, Nat.reduceAdd, Nat.reduceMul]
        refine tok_fail hΨ rfl rfl rfl lA lB lC (by omega) (by omega) (by omega) (by omega) (by omega) (by omega) kp3 (by omega) ?_
        rw [← hst, toks_fault hsk2]; rfl
      | ok r =>
        rw [hsk2] at hr
        simp only [plc] at hr
        obtain ⟨rfl, y3⟩ := hr
        refine .ret ?_
        obtain ⟨q, hq1, hq2, hq3, hq4⟩ := skp_plc x2.sc.le hsk2
        rw [hq4] at y3
        simp only [mach, mach2, mstd, ↓reduceIte, Nat.reduceEqDiff, Nat.reduceAdd, Nat.reduceMul]
        refine next (q, ts ++ [⟨k, t, v, p⟩], lv2) _ _ _ ⟨kp3, lA, lB, lC, ⟨y3, x2.ow.keep k3 (fun c hc e => by have := x2.fr c hc; omega), x2.fr, by have := x2.ln; simp only; omega⟩, ?_, ?_⟩ ⟨rfl, rfl, rfl, rfl, rfl, trivial⟩ (by simp only; omega)
        · simp only; rw [← hq3]; exact (skp_fix hsk2).1
        · simp only; rw [← hst, ← hq3, toks_skip hsk2]
end
end Go.S07

/- Tokens: the document's side: bytes, words, names. -/
set_option linter.unusedVariables false
set_option linter.unusedSimpArgs false
namespace Go.S07
open Go Go.Eng Go.Proofs Go.Scn

/-! ### Words -/

end Go.S07

/- Tokens: the document's side: names, bytes as written, comments. -/
set_option linter.unusedVariables false
set_option linter.unusedSimpArgs false
namespace Go.S07
open Go Go.Eng Go.Proofs Go.Scn

/-! ### Names -/

/-! ### Bytes as written -/

end Go.S07

/- Tokens: the document's side: comments, quotes, numbers. -/
set_option linter.unusedVariables false
set_option linter.unusedSimpArgs false
namespace Go.S07
open Go Go.Eng Go.Proofs Go.Scn

/-! ### Comments -/

end Go.S07

/- Tokens: the document's side: quotes, numbers. -/
set_option linter.unusedVariables false
set_option linter.unusedSimpArgs false
namespace Go.S07
open Go Go.Eng Go.Proofs Go.Scn

/-! ### Numbers -/

end Go.S07

/- Tokens: the document's side: one token, all tokens. -/
set_option linter.unusedVariables false
set_option linter.unusedSimpArgs false
namespace Go.S07
open Go Go.Eng Go.Proofs Go.Scn

end Go.S07

/- Tokens: the document's tokens; ScanTokens. -/
set_option linter.unusedVariables false
set_option linter.unusedSimpArgs false
namespace Go.S07
open Go Go.Eng Go.Proofs Go.Scn

theorem toks_same {N : Nat} {l r : Bs} (h : skp l = skp r) : toks N l = toks N r := by rw [toks_eq N l, toks_eq N r, h]

theorem tk_at {h : AH} {v : Value} {n : Nat} {ts : List Tk} (hr : Rds h 4 v n (ts.flatMap tkC)) {i : Nat} {t : Tk} (hx : ts[i]? = some t) :
    ∃ b o c, v = .slice (some ⟨b, o, none⟩) n c ∧ i < n ∧ ldcs h b (o + i * 4) 4 = some (tkC t) ∧ ∀ j, j < 4 → ldc h b (o + i * 4 + j) = (tkC t)[j]? := by
  have hl : i < ts.length := (List.getElem?_eq_some_iff.1 hx).1
  have hlen : (ts.flatMap tkC).length = ts.length * 4 := by
    clear hr hx hl
    induction ts with
    | nil => rfl
    | cons t ts ih => rw [List.flatMap_cons, List.length_append, ih, tkC_len, List.length_cons, Nat.add_mul]; omega
  have hn : i < n := by have := hr.len; rw [hlen] at this; omega
  obtain ⟨b, o, c, e, h1⟩ := rds_sub hr (i := i) (j := 0) (m := 4) hn (by omega)
  obtain ⟨b', o', c', e', kk⟩ := hr.at (i := i) hn
  rw [e] at e'; cases e'
  have h2 := flat_at (f := tkC) (k := 4) tkC_len hx (j := 0) (m := 4) (by omega)
  refine ⟨b, o, c, e, hn, ?_, fun j hj => ?_⟩
  · rw [Nat.add_zero] at h1
    rw [h1, h2]; rfl
  · rw [kk j hj]
    have h3 := congrArg (fun l => l[j]?) h2
    simp only [List.getElem?_take, hj, if_true, List.getElem?_drop, List.drop_zero, Nat.add_zero] at h3
    exact h3

end Go.S07

/- Tokens: a fixed call; ScanTokens, the walk. -/
set_option linter.unusedVariables false
set_option linter.unusedSimpArgs false
namespace Go.S07
open Go Go.Eng Go.Proofs Go.Scn

theorem toks_wake : toks 4 [102, 32, 49, 50] = .ok [⟨1, [102], 0, 0⟩, ⟨3, [], 12, 2⟩] := by
  have s1 : skp [102, 32, 49, 50] = .ok [102, 32, 49, 50] := skp_rest (by decide) (by decide) rfl
  have s2 : skp [49, 50] = .ok [49, 50] := skp_rest (by decide) (by decide) rfl
  have s3 : skp [32, 49, 50] = .ok [49, 50] := by rw [skp_cons, if_pos (by decide), s2]
  rw [toks_step (k := 1) (v := 0) (t := [102]) (n := 1) s1 (by simp) (by rfl), show ([102, 32, 49, 50] : Bs).drop 1 = [32, 49, 50] from rfl, toks_skip s3,
    toks_step (k := 3) (v := 12) (t := []) (n := 2) s2 (by simp) (by rfl), show ([49, 50] : Bs).drop 2 = [] from rfl, toks_end]
  rfl
theorem tokF_wake : tokF [102, 32, 49, 50] = ([⟨1, [102], 0, 0⟩, ⟨3, [], 12, 2⟩], 0, 0) := by
  rw [tokF, if_neg (by decide)]
  show (match toks 4 [102, 32, 49, 50] with
    | .ok ts => (ts, (0 : Int), (0 : Int))
    | .error e => ([], (e : Int), 8)) = _
  rw [toks_wake]

theorem wakes_ok (h : AH) : Gets Tryd.prog 9 [] h (fun res h' => Keep (fun _ => False) h h' ∧ res = .ret (.bool true)) := by
  refine Gets.of (keep := false) hP (draw_ok hM) k9 (by rfl) (fun Ψ hΨ => ?_)
  simp only [mach, mach2, mstd, ↓reduceIte, Nat.reduceEqDiff, Nat.reduceAdd, Nat.reduceMul, r9]
  refine XX_of (Tokens_ok [102, 32, 49, 50] h) (fun res h1 hle hr => ?_)
  obtain ⟨kp, lv, rfl, ow, fr⟩ := hr
  rw [tokF_wake] at ow
  rw [tokF_wake]
  refine .ret ?_
  obtain ⟨b, o, c, e1, _, _, f0⟩ := tk_at ow.rds (i := 0) (t := ⟨1, [102], 0, 0⟩) rfl
  obtain ⟨b', o', c', e2, _, _, f1⟩ := tk_at ow.rds (i := 1) (t := ⟨3, [], 12, 2⟩) rfl
  subst e1
  cases e2
  have l00 : ldc h1 b (o + 0 + 0) = some (iv 1) := by have := f0 0 (by omega); simpa [tkC] using this
  have l00' : ldc h1 b o = some (iv 1) := l00
  have l01 : ldc h1 b (o + 1) = some (.string ⟨#[102]⟩) := by
    have := f0 1 (by omega)
    have e : ldc h1 b (o + 1) = some (tv [102]) := by simpa [tkC] using this
    exact e
  have l12 : ldc h1 b (o + 4 + 2) = some (iv 12) := by have := f1 2 (by omega); simpa [tkC] using this
  have l13 : ldc h1 b (o + 4 + 3) = some (iv 2) := by have := f1 3 (by omega); simpa [tkC] using this
  simp only [mach, mach2, mstd, ↓reduceIte, Nat.reduceEqDiff, Nat.reduceAdd, Nat.reduceMul, mbl, Nat.reduceLeDiff, Nat.reduceLT, Int.reduceEq, show ((([⟨1, [102], 0, 0⟩, ⟨3, [], 12, 2⟩] : List Tk).length : Nat) : Int) = 2 from rfl, Int.reduceLT, Int.reduceLE, Int.reduceEq, and_self, Int.toNat_zero, Nat.zero_mul, Nat.add_zero, l00', l01, show (1 : Int).toNat = 1 from rfl, Nat.one_mul, l12, l13, mk_toList, beq_self_eq_true]
  exact hΨ _ _ (fin_ret (rv1 rfl ⟨kp, rfl⟩))

theorem toks_len {N : Nat} : ∀ (n : Nat) (l : Bs) (ts : List Tk), l.length ≤ n → toks N l = .ok ts → ts.length ≤ l.length := by
  intro n
  induction n with
  | zero =>
    intro l ts hn h
    have : l = [] := List.eq_nil_of_length_eq_zero (by omega)
    subst this
    rw [toks_end] at h; cases h; exact Nat.le_refl _
  | succ n ih =>
    intro l ts hn h
    rw [toks_eq] at h
    split at h
    · cases h
    · rename_i r hr
      have hrl := skp_len hr
      split at h
      · cases h; exact Nat.zero_le _
      · split at h
        · cases h
        · rename_i k t v m htk
          obtain ⟨m1, m2⟩ := tokS_pos htk
          split at h
          · cases h
          · rename_i us hu
            cases h
            have := ih (r.drop m) us (by simp; omega) hu
            simp only [List.length_cons, List.length_drop] at *
            omega
theorem tokF_len (s : Bs) : (tokF s).1.length ≤ 8000 := by
  unfold tokF
  split
  · exact Nat.zero_le _
  · split
    · rename_i ts h
      have := toks_len _ _ _ (Nat.le_refl _) h
      simp only; omega
    · exact Nat.zero_le _

end Go.S07

/- Tokens: plain laws: beginnings of texts, texts one behind the other, places. -/
set_option linter.unusedVariables false
set_option linter.unusedSimpArgs false
namespace Go.Scn
open Go

/-- The first n bytes are the same; behind them stands what stood there, or a line's end, or nothing. -/
structure Ag (n : Nat) (l l' : Bs) : Prop where
  same : ∀ i, i < n → l'[i]? = l[i]?
  full : n ≤ l'.length
  next : ∀ c, l'[n]? = some c → l[n]? = some c ∨ c = 10
theorem Ag.tk {n : Nat} {l l' : Bs} (h : Ag n l l') : l'.take n = l.take n := by
  apply List.ext_getElem?
  intro i
  rw [List.getElem?_take, List.getElem?_take]
  split
  · exact h.same i (by assumption)
  · rfl
theorem Ag.le {m n : Nat} {l l' : Bs} (h : Ag n l l') (hm : m ≤ n) : Ag m l l' :=
  ⟨fun i hi => h.same i (by omega), by have := h.full; omega, fun c hc => by
    rcases Nat.lt_or_ge m n with e | e
    · exact .inl (by rw [← h.same m e]; exact hc)
    · have : m = n := by omega
      subst this; exact h.next c hc⟩
theorem Ag.app {n : Nat} {l r' : Bs} (hn : n ≤ l.length) (h : ∀ c, r'[0]? = some c → l[n]? = some c ∨ c = 10) : Ag n l (l.take n ++ r') := by
  have hl : (l.take n).length = n := by simp; omega
  refine ⟨fun i hi => ?_, by simp; omega, fun c hc => ?_⟩
  · rw [List.getElem?_append_left (by omega), List.getElem?_take, if_pos hi]
  · rw [List.getElem?_append_right (by omega), hl, Nat.sub_self] at hc
    exact h c hc
theorem Ag.tl {n : Nat} {c : UInt8} {l l' : Bs} (h : Ag (n + 1) (c :: l) l') : ∃ r', l' = c :: r' ∧ Ag n l r' := by
  cases l' with
  | nil => have := h.full; simp at this
  | cons d r' =>
    have := h.same 0 (by omega)
    simp at this
    subst this
    exact ⟨r', rfl, fun i hi => by simpa using h.same (i + 1) (by omega), by have := h.full; simpa using this, fun c hc => by simpa using h.next c (by simpa using hc)⟩

theorem spn_ag {p : UInt8 → Bool} (h10 : p 10 = false) {l l' : Bs} (h : Ag (spn p l) l l') : spn p l' = spn p l := by
  refine spn_eq h.full (fun i c hi hc => ?_) (fun c hc => ?_)
  · rw [h.same i hi] at hc
    obtain ⟨d, h1, h2⟩ := spn_at hi
    rw [h1] at hc; cases hc; exact h2
  · rcases h.next c hc with e | e
    · exact spn_end e
    · subst e; exact h10
theorem wr_ag {l l' : Bs} (h0 : (wr l).2 ≠ 0) (h : Ag (wr l).2 l l') : wr l' = wr l := by
  cases l with
  | nil => simp [wr] at h0
  | cons c r =>
    by_cases a1 : c.toNat < 32 ∨ 126 < c.toNat
    · rw [wr, if_pos a1] at h0; exact absurd rfl h0
    by_cases a2 : ¬ c.toNat = 92
    · rw [wr, if_neg a1, if_pos a2] at h
      obtain ⟨r', rfl, _⟩ := h.tl
      rw [wr, wr, if_neg a1, if_pos a2, if_neg a1, if_pos a2]
    rw [wr, if_neg a1, if_neg a2] at h h0
    cases r with
    | nil => simp [wr2] at h0
    | cons d q =>
      by_cases b1 : d.toNat = 120
      · have e1 : wr2 (d :: q) = wr3 q := by rw [wr2, if_neg (by omega), if_neg (by omega), if_neg (by omega), if_pos b1]
        rw [e1] at h h0
        rcases wr3_le q with e | ⟨e, e2⟩
        · exact absurd e h0
        · rw [e] at h
          obtain ⟨r1, rfl, h1⟩ := h.tl
          obtain ⟨r2, rfl, h2⟩ := h1.tl
          match q, e2 with
          | a :: b :: q, _ =>
            obtain ⟨r3, rfl, h3⟩ := h2.tl
            obtain ⟨r4, rfl, h4⟩ := h3.tl
            have e1' : wr2 (d :: a :: b :: r4) = wr3 (a :: b :: r4) := by rw [wr2, if_neg (by omega), if_neg (by omega), if_neg (by omega), if_pos b1]
            rw [wr, wr, if_neg a1, if_neg a2, if_neg a1, if_neg a2, e1, e1']
            rfl
      · have e2 : (wr2 (d :: q)).2 = 2 := by
          revert h0; rw [wr2]; split
          · intro _; rfl
          · split
            · intro _; rfl
            · split
              · intro _; rfl
              · simp
        rw [e2] at h
        obtain ⟨r1, rfl, h1⟩ := h.tl
        obtain ⟨r2, rfl, h2⟩ := h1.tl
        rw [wr, wr, if_neg a1, if_neg a2, if_neg a1, if_neg a2, wr2, wr2, if_neg b1, if_neg b1]
theorem Ag.drop {m n : Nat} {l l' : Bs} (h : Ag n l l') (hm : m ≤ n) : Ag (n - m) (l.drop m) (l'.drop m) :=
  ⟨fun i hi => by rw [List.getElem?_drop, List.getElem?_drop]; exact h.same _ (by omega), by have := h.full; simp; omega, fun c hc => by
    rw [List.getElem?_drop] at hc ⊢
    rw [show m + (n - m) = n by omega] at hc ⊢
    exact h.next c hc⟩
theorem qt_ag {q : UInt8} : ∀ {l : Bs} {bs : Bs} {n : Nat} {l' : Bs}, qt q l = some (bs, n) → Ag (n + 1) l l' → qt q l' = some (bs, n) := by
  intro l
  induction l using (qt.induct q) with
  | case1 => intro bs n l' h; rw [qt_nil] at h; cases h
  | case2 r =>
    intro bs n l' h ha
    rw [qt_cons, if_pos rfl] at h
    cases h
    obtain ⟨r', rfl, _⟩ := ha.tl
    rw [qt_cons, if_pos rfl]
  | case3 c r hc hw => intro bs n l' h; rw [qt_cons, if_neg hc, if_pos hw] at h; cases h
  | case4 c r hc hw ih =>
    intro bs n l' h ha
    rw [qt_cons, if_neg hc, if_neg hw] at h
    obtain ⟨⟨b2, m⟩, h1, h2⟩ := Option.map_eq_some_iff.1 h
    simp only [Prod.mk.injEq] at h2
    obtain ⟨rfl, rfl⟩ := h2
    have hwr := wr_ag hw (ha.le (by omega))
    have hd := ih h1 (l' := l'.drop (wr (c :: r)).2) ((ha.drop (m := (wr (c :: r)).2) (by omega)).le (by omega))
    obtain ⟨r', rfl, _⟩ := (ha.le (show 0 + 1 ≤ _ by omega)).tl
    rw [qt_cons, if_neg hc, hwr, if_neg hw, hd]
    rfl

theorem inner10 : inner 10 = false := by decide
theorem digit10 : digit 10 = false := by decide
theorem symb10 : symb 10 = false := by decide
theorem dash10 : dash 10 = false := by decide
/-- The token that comes is the same where its bytes are. -/
theorem tok_ag {l l' : Bs} {k v : Int} {t : Bs} {n : Nat} (h : tokS l = some (k, t, v, n)) (ha : Ag n l l') : tokS l' = some (k, t, v, n) := by
  have hpos := (tokS_pos h).1
  cases l with
  | nil => simp [tokS] at h
  | cons c r =>
    obtain ⟨r', rfl, ht⟩ := (ha.le (show 0 + 1 ≤ n by omega)).tl
    have h' := h
    rw [tokS] at h ⊢
    by_cases c1 : (small c || large c) = true
    · rw [if_pos c1] at h ⊢
      split at h
      · cases h
      · rename_i hk
        simp only [Option.some.injEq, Prod.mk.injEq] at h
        obtain ⟨e1, e2, e3, e4⟩ := h
        rw [← e4] at ha
        have hs := spn_ag inner10 ha
        rw [hs, ha.tk, if_neg hk, e1, e2, e3, e4]
    rw [if_neg c1] at h ⊢
    by_cases c2 : digit c = true
    · rw [if_pos c2] at h ⊢
      obtain ⟨w, h1, h2⟩ := Option.map_eq_some_iff.1 h
      simp only [Prod.mk.injEq] at h2
      obtain ⟨e1, e2, e3, e4⟩ := h2
      rw [← e4] at ha
      have hs := spn_ag digit10 ha
      rw [hs, ha.tk, h1, Option.map_some, e1, e2, e3, e4]
    rw [if_neg c2] at h ⊢
    by_cases c3 : c.toNat = 39 ∨ c.toNat = 34
    · rw [if_pos c3] at h ⊢
      cases hq : qt c r with
      | none => rw [hq] at h; cases h
      | some y =>
        obtain ⟨bs, m⟩ := y
        rw [hq] at h
        simp only at h
        have hm : n = m + 2 := by
          split at h
          · cases h; rfl
          · split at h
            · cases h; rfl
            · cases h
        subst hm
        obtain ⟨r2, e, hr⟩ := (show Ag (m + 1 + 1) (c :: r) (c :: r') from ha).tl
        cases e
        rw [qt_ag hq hr]
        exact h
    rw [if_neg c3] at h ⊢
    by_cases c4 : symb c = true
    · rw [if_pos c4] at h ⊢
      have hn : n = spn symb (c :: r) := by
        split at h
        · simp only [Option.some.injEq, Prod.mk.injEq] at h; exact h.2.2.2.symm
        · split at h
          · simp only [Option.some.injEq, Prod.mk.injEq] at h; exact h.2.2.2.symm
          · cases h
      rw [hn] at ha
      have hs := spn_ag symb10 ha
      rw [hs, ha.tk]
      exact h
    · rw [if_neg c4] at h ⊢
      exact h

/-- What stands where nothing is skipped, and a token comes: nothing is skipped there where its bytes are. -/
theorem skp_here {l l' : Bs} {k v : Int} {t : Bs} {n : Nat} (h : skp l = .ok l) (ht : tokS l = some (k, t, v, n)) (ha : Ag n l l') : skp l' = .ok l' := by
  have hpos := (tokS_pos ht).1
  cases l with
  | nil => simp [tokS] at ht
  | cons c r =>
  obtain ⟨r', rfl, h1⟩ := (ha.le (show 0 + 1 ≤ n by omega)).tl
  have hb : ¬ wsp c = true := by
    intro hb
    rw [skp_cons, if_pos hb] at h
    have := skp_len h
    simp at this; omega
  have hl : ¬ 0 < lineN (c :: r) := by
    intro hl
    rw [skp_cons, if_neg hb, if_pos hl] at h
    have := skp_len h
    rw [List.length_drop] at this
    have := lineN_le (c :: r)
    simp at *; omega
  have hn : nestN (c :: r) = some 0 := by
    rw [skp_cons, if_neg hb, if_neg hl] at h
    cases hn : nestN (c :: r) with
    | none => rw [hn] at h; cases h
    | some m =>
      rw [hn] at h
      simp only at h
      by_cases h0 : 0 < m
      · rw [if_pos h0] at h
        have := skp_len h
        rw [List.length_drop] at this
        have := nestN_le hn
        simp at *; omega
      · rw [show m = 0 by omega]
  refine skp_rest ?_ ?_ ?_
  · rw [spn_cons, if_neg hb]
  · -- no comment begins
    by_cases hd : dash c = true
    case neg =>
      unfold lineN
      rw [if_neg]
      rintro ⟨e, _⟩
      rw [spn_cons, if_neg hd] at e; omega
    have hc45 : c.toNat = 45 := by simpa [dash] using hd
    have htk : tokS (c :: r) = some (k, t, v, n) := ht
    have hsy : symb c = true := by
      have : c = 45 := UInt8.toNat_inj.1 hc45
      subst this; decide
    have hnn : n = spn symb (c :: r) := by
      have h2 := ht
      rw [tokS, if_neg (by simp [small, large, hc45]), if_neg (by simp [digit, hc45]), if_neg (by omega), if_pos hsy] at h2
      split at h2
      · simp only [Option.some.injEq, Prod.mk.injEq] at h2; exact h2.2.2.2.symm
      · split at h2
        · simp only [Option.some.injEq, Prod.mk.injEq] at h2; exact h2.2.2.2.symm
        · cases h2
    have hdn : spn dash (c :: r) ≤ n := by
      rw [hnn]
      rcases Nat.lt_or_ge (spn symb (c :: r)) (spn dash (c :: r)) with e | e
      · obtain ⟨d, e1, e2⟩ := spn_at e
        have e3 := spn_end e1
        have : d = 45 := UInt8.toNat_inj.1 (by simpa [dash] using e2)
        subst this
        exact absurd e3 (by decide)
      · exact e
    have hds := spn_ag dash10 (ha.le hdn)
    unfold lineN
    rw [if_neg]
    rintro ⟨e1, e2⟩
    rw [hds] at e1 e2
    refine hl ?_
    have hcond : 2 ≤ spn dash (c :: r) ∧ ∀ d, (c :: r)[spn dash (c :: r)]? = some d → symb d = false := by
      refine ⟨e1, fun d hd2 => ?_⟩
      rcases Nat.lt_or_ge (spn dash (c :: r)) n with e | e
      · exact e2 d (by rw [ha.same _ e]; exact hd2)
      · have he : spn dash (c :: r) = spn symb (c :: r) := by omega
        rw [he] at hd2
        exact spn_end hd2
    unfold lineN
    rw [if_pos hcond, spn_cons, if_pos (by simp [noEnd, hc45])]
    omega
  · -- none in braces either
    by_cases hc : c.toNat = 123
    case neg =>
      refine nestN_no (fun e => hc ?_)
      simp at e
      rw [e.1]; rfl
    have hc' : c = 123 := UInt8.toNat_inj.1 hc
    subst hc'
    refine nestN_no (fun e => ?_)
    cases r' with
    | nil => simp at e
    | cons d q =>
      simp at e
      subst e
      have h45 : (123 :: r)[1]? = some 45 ∨ (45 : UInt8) = 10 := by
        rcases Nat.lt_or_ge 1 n with e | e
        · left; rw [← ha.same 1 e]; rfl
        · have : n = 1 := by omega
          subst this
          exact ha.next 45 rfl
      rcases h45 with e | e
      · cases r with
        | nil => simp at e
        | cons x q2 =>
          simp at e
          subst e
          simp only [nestN] at hn
          obtain ⟨m, _, e2⟩ := Option.map_eq_some_iff.1 hn
          omega
      · exact absurd e (by decide)

/-! ### Tokens of texts -/

/-- Places further on. -/
def Tk.at (d : Nat) (t : Tk) : Tk := { t with a := t.a + d }
end Go.Scn

/- Tokens: ScanFault, the walk. -/
set_option linter.unusedVariables false
set_option linter.unusedSimpArgs false
namespace Go.S07
open Go Go.Eng Go.Proofs Go.Scn

end Go.S07

/- Tokens: ScanPlaces, the walk. -/
set_option linter.unusedVariables false
set_option linter.unusedSimpArgs false
namespace Go.S07
open Go Go.Eng Go.Proofs Go.Scn

theorem alike_ok (xs ys : List Tk) (h : AH) (u v : Value) (hu : Rds h 4 u xs.length (xs.flatMap tkC)) (hv : Rds h 4 v ys.length (ys.flatMap tkC)) (hl : xs.length ≤ 9223372036854775800) (hab : xs.length = ys.length)
    (he : ∀ (i : Nat) (a b : Tk), xs[i]? = some a → ys[i]? = some b → a.k = b.k ∧ a.t = b.t ∧ a.n = b.n) : Gets Tryd.prog 13 [u, v] h (fun res h' => h' = h ∧ res = .ret (.bool true)) := by
  refine Gets.of (keep := false) hP (draw_ok hM) k13 (by rfl) (fun Ψ hΨ => ?_)
  obtain ⟨ua, uc, rfl⟩ := row_shape hu
  obtain ⟨va, vc, rfl⟩ := row_shape hv
  have hab' : (xs.length : Int) = (ys.length : Int) := by omega
  simp only [mach, mach2, mstd, ↓reduceIte, Nat.reduceEqDiff, Nat.reduceAdd, Nat.reduceMul, r13, eq_true hab']
  refine XLo_rule (α := Nat) (fun i => [(0, .slice ua xs.length uc), (1, .slice va ys.length vc), (5, iv i)]) (fun i h' => h' = h ∧ i ≤ xs.length) (fun i => xs.length - i) 0 ⟨rfl, Nat.zero_le _⟩ ⟨rfl, rfl, rfl, trivial⟩ ?_
  rintro i h1 Ψ2 ⟨rfl, hi⟩ next out
  by_cases hlt : (i : Int) < (xs.length : Int)
  · have hil : i < xs.length := by omega
    have g0 : (0 : Int) ≤ (i : Int) := by omega
    have hx : xs[i]? = some xs[i] := List.getElem?_eq_getElem hil
    have hy : ys[i]? = some ys[i] := List.getElem?_eq_getElem (by omega)
    have hlt2 : (i : Int) < (ys.length : Int) := by omega
    obtain ⟨e1, e2, e3⟩ := he i _ _ hx hy
    obtain ⟨b1, o1, c1, q1, _, _, f1⟩ := tk_at hu hx
    obtain ⟨b2, o2, c2, q2, _, _, f2⟩ := tk_at hv hy
    cases q1; cases q2
    have a0 : ldc h1 b1 (o1 + i * 4) = some (iv xs[i].k) := f1 0 (by omega)
    have a1 : ldc h1 b1 (o1 + i * 4 + 1) = some (tv xs[i].t) := f1 1 (by omega)
    have a2 : ldc h1 b1 (o1 + i * 4 + 2) = some (iv xs[i].n) := f1 2 (by omega)
    have d0 : ldc h1 b2 (o2 + i * 4) = some (iv xs[i].k) := by rw [e1]; exact f2 0 (by omega)
    have d1 : ldc h1 b2 (o2 + i * 4 + 1) = some (tv xs[i].t) := by rw [e2]; exact f2 1 (by omega)
    have d2 : ldc h1 b2 (o2 + i * 4 + 2) = some (iv xs[i].n) := by rw [e3]; exact f2 2 (by omega)
    have hw : IntKind.i64.wrap ((i : Int) + 1) = ((i + 1 : Nat) : Int) := by rw [i64w (by omega) (by omega)]; omega
    simp only [mach, mach2, mstd, ↓reduceIte, Nat.reduceEqDiff, Nat.reduceAdd, Nat.reduceMul, hlt, hlt2, g0, and_self, Int.toNat_natCast, Nat.add_zero, a0, a1, a2, d0, d1, d2, tx_toList, beq_self_eq_true, ct1, hw]
    exact next (i + 1) _ _ _ ⟨rfl, by omega⟩ ⟨rfl, rfl, rfl, trivial⟩ (by omega)
  · simp only [mach, mach2, mstd, ↓reduceIte, Nat.reduceEqDiff, Nat.reduceAdd, Nat.reduceMul, hlt]
    refine out (.exit 0) _ _ _ _ (by intro e; cases e) ?_
    simp only [mach, mach2, mstd, ↓reduceIte, Nat.reduceEqDiff, Nat.reduceAdd, Nat.reduceMul]
    exact hΨ _ _ (fin_ret (rv1 rfl ⟨rfl, rfl⟩))
end Go.S07

/- Tokens: ScanPlaces, the walk. -/
set_option linter.unusedVariables false
set_option linter.unusedSimpArgs false
namespace Go.S07
open Go Go.Eng Go.Proofs Go.Scn

theorem s_add {a b : Bs} (h : a.length + b.length ≤ 9223372036854775807) : sbin .add (tx a) (tx b) = some (.string (tx (a ++ b))) := by
  have : ¬ (((tx a).size + (tx b).size : Nat) : Int) > IntKind.i64.max := by
    rw [tx_size, tx_size]
    have : IntKind.i64.max = 9223372036854775807 := by decide
    omega
  simp only [sbin, if_neg this, tx_app]
end Go.S07

/-
  DERIVED: THE SHELF's CONTRACTS AT THIS DUMP, IN PLAIN WORDS (tools/lay-plain.mjs out of 'TrydShelf.lean', which tools/lay-shelf.mjs wrote): THE SAME DECLARATIONS UNDER THE SAME NAMES: 'import', 'namespace', 'open', 'def', 'theorem' AND NOTHING ELSE: no command of the shelf's: FOR A HAND-IN. Each laying: the table of numbers ('.._ren') and one theorem, a field a fact of the dump's own or the kernel's comparison; each contract: ONE APPLICATION.
-/

namespace Go.Proofs
open Go.Shelf
def Tryd.laysItoa_ren : Go.Shelf.Ren := ⟨fun | 171 => 56 | 243 => 68 | 246 => 80 | 283 => 86 | 284 => 87 | 285 => 88 | 286 => 89 | 129 => 91 | 317 => 90 | 318 => 92 | 319 => 93 | 320 => 94 | 337 => 95 | 338 => 96 | n => n, fun | 3 => 3 | 9 => 9 | 2 => 2 | 4 => 4 | 171 => 92 | 0 => 0 | 53 => 79 | 37 => 47 | 5 => 5 | 173 => 95 | 212 => 102 | 51 => 103 | 20 => 20 | 213 => 104 | 46 => 82 | 232 => 108 | 233 => 109 | n => n, fun | 17 => 3 | 18 => 4 | 19 => 5 | n => n⟩
theorem Tryd.laysItoa : Go.Proofs.LaysM.n171 Tryd.prog Tryd.laysItoa_ren := {
  mixed := by kernel_rfl
  f129 := Tryd.func91.trans (congrArg some (by kernel_rfl))
  f171 := Tryd.func56.trans (congrArg some (by kernel_rfl))
  f243 := Tryd.func68.trans (congrArg some (by kernel_rfl))
  f246 := Tryd.func80.trans (congrArg some (by kernel_rfl))
  f283 := Tryd.func86.trans (congrArg some (by kernel_rfl))
  f284 := Tryd.func87.trans (congrArg some (by kernel_rfl))
  f285 := Tryd.func88.trans (congrArg some (by kernel_rfl))
  f286 := Tryd.func89.trans (congrArg some (by kernel_rfl))
  f317 := Tryd.func90.trans (congrArg some (by kernel_rfl))
  f318 := Tryd.func92.trans (congrArg some (by kernel_rfl))
  f319 := Tryd.func93.trans (congrArg some (by kernel_rfl))
  f320 := Tryd.func94.trans (congrArg some (by kernel_rfl))
  f337 := Tryd.func95.trans (congrArg some (by kernel_rfl))
  f338 := Tryd.func96.trans (congrArg some (by kernel_rfl))
  t0 := Tryd.underlying0
  a0 := Tryd.isAgg0
  z0 := Tryd.sizeOf0
  v0 := Tryd.zeroValue0
  t2 := Tryd.underlying2
  a2 := Tryd.isAgg2
  z2 := Tryd.sizeOf2
  v2 := Tryd.zeroValue2
  t3 := Tryd.underlying3
  a3 := Tryd.isAgg3
  z3 := Tryd.sizeOf3
  v3 := Tryd.zeroValue3
  t4 := Tryd.underlying4
  a4 := Tryd.isAgg4
  z4 := Tryd.sizeOf4
  v4 := Tryd.zeroValue4
  t5 := Tryd.underlying5
  a5 := Tryd.isAgg5
  z5 := Tryd.sizeOf5
  v5 := Tryd.zeroValue5
  t9 := Tryd.underlying9
  a9 := Tryd.isAgg9
  z9 := Tryd.sizeOf9
  v9 := Tryd.zeroValue9
  t20 := Tryd.underlying20
  a20 := Tryd.isAgg20
  z20 := Tryd.sizeOf20
  v20 := Tryd.zeroValue20
  t37 := Tryd.underlying47
  a37 := Tryd.isAgg47
  z37 := Tryd.sizeOf47
  v37 := Tryd.zeroValue47
  t46 := Tryd.underlying82
  a46 := Tryd.isAgg82
  z46 := Tryd.sizeOf82
  v46 := Tryd.zeroValue82
  t51 := Tryd.underlying103
  a51 := Tryd.isAgg103
  z51 := Tryd.sizeOf103
  v51 := Tryd.zeroValue103
  t53 := Tryd.underlying79
  a53 := Tryd.isAgg79
  z53 := Tryd.sizeOf79
  v53 := Tryd.zeroValue79
  t171 := Tryd.underlying92
  a171 := Tryd.isAgg92
  z171 := Tryd.sizeOf92
  v171 := Tryd.zeroValue92
  t173 := Tryd.underlying95
  a173 := Tryd.isAgg95
  z173 := Tryd.sizeOf95
  v173 := Tryd.zeroValue95
  t212 := Tryd.underlying102
  a212 := Tryd.isAgg102
  z212 := Tryd.sizeOf102
  v212 := Tryd.zeroValue102
  t213 := Tryd.underlying104
  a213 := Tryd.isAgg104
  z213 := Tryd.sizeOf104
  t232 := Tryd.underlying108
  a232 := Tryd.isAgg108
  z232 := Tryd.sizeOf108
  v232 := Tryd.zeroValue108
  t233 := Tryd.underlying109
  a233 := Tryd.isAgg109
  z233 := Tryd.sizeOf109
  v233 := Tryd.zeroValue109
  g17 := by kernel_rfl
  g18 := by kernel_rfl
  g19 := by kernel_rfl
  i0 := by kernel_rfl
  i2 := by kernel_rfl
  i3 := by kernel_rfl
  i4 := by kernel_rfl
  i5 := by kernel_rfl
  i9 := by kernel_rfl
  i20 := by kernel_rfl
  i37 := by kernel_rfl
  i46 := by kernel_rfl
  i51 := by kernel_rfl
  i53 := by kernel_rfl
  i171 := by kernel_rfl
  i173 := by kernel_rfl
  i212 := by kernel_rfl
  i232 := by kernel_rfl
  i233 := by kernel_rfl
  m17 := by kernel_rfl
  m18 := by kernel_rfl
  m19 := by kernel_rfl }
end Go.Proofs

/- Tokens: numbers as texts. -/
set_option linter.unusedVariables false
set_option linter.unusedSimpArgs false
namespace Go.S07
open Go Go.Eng Go.Proofs Go.Scn

theorem itoa_ok (n : Int) (h0 : -9223372036854775808 ≤ n) (h1 : n ≤ 9223372036854775807) (h : AH) : Gets Tryd.prog 56 [iv n] h (fun res h' => h' = h ∧ res = .ret (tv (Lib.itoa n))) := by
  refine Gets.ofCalls (fn := Tryd.prog.funcs[56]!) hP (by kernel_rfl) (c := (Tryd.prog.funcs[56]!).body.getD .skip) (by kernel_rfl) rfl rfl (fun W hT => ?_) h
  refine Calls.mono (Any.strconv_Itoa (P := Tryd.prog) Tryd.laysItoa n h0 h1 W (tab_pow hT (by kernel_rfl : Tryd.prog.globalNamed "internal/strconv.uint64pow10" = some 3) (by kernel_rfl))) fun e w' he => ?_
  obtain ⟨rfl, k, os, rfl⟩ := he
  exact ⟨rfl, below_grow⟩
end Go.S07

/- Texts: strings.Builder. -/
set_option linter.unusedVariables false
set_option linter.unusedSimpArgs false
namespace Go.S07
open Go Go.Eng Go.Proofs Go.Scn

abbrev bdT : TypeId := 49
/-- A strings.Builder with its bytes. -/
structure Bd (h : AH) (b : Nat) (acc : Bs) (a v : Value) : Prop where
  own : Own h b bdT [a, v]
  ad : a = .pointer none ∨ a = .pointer (some ⟨b, 0, none⟩)
  ow : Ows h 5 1 v acc.length (acc.map bv)
  ne : ∀ q, bk v q → b < q
  nl : acc = [] → v = .slice none 0 0

theorem noesc_ok (v : Value) (h : AH) : Gets Tryd.prog 70 [v] h (fun res h' => h' = h ∧ res = .ret v) := by
  refine Gets.extB (h' := h) (res := .ret v) ?_ (Nat.le_refl _) ⟨rfl, rfl⟩
  have hf : Tryd.prog.funcs[(70 : Nat)]? = some (Tryd.prog.funcs[70]!) := by kernel_rfl
  have hb : ((Tryd.prog.funcs[70]!).body.isNone && ((Extern.allNextRows.lookup (Tryd.prog.funcs[70]!).origin).isNone)) = true := by kernel_rfl
  have hn : ((Tryd.prog.funcs[70]!).name == "internal/abi.NoEscape") = true := by kernel_rfl
  simp only [aextB, hf, hb, hn, if_true]

theorem copyCheck_ok {h : AH} {b : Nat} {acc : Bs} {a v : Value} (x : Bd h b acc a v) : Gets Tryd.prog 58 [.pointer (some ⟨b, 0, none⟩)] h
    (fun res h' => res = .ret (.tuple #[]) ∧ Keep (· = b) h h' ∧ Bd h' b acc (.pointer (some ⟨b, 0, none⟩)) v) := by
  refine Gets.of (keep := false) hP (draw_ok hM) k58 (by rfl) (fun Ψ hΨ => ?_)
  obtain ⟨va, vc, rfl⟩ := row_shape x.ow.rds
  have o := x.own
  obtain ⟨g, hg⟩ := x.own
  rcases x.ad with rfl | rfl
  · simp only [mach, mach2, mstd, ↓reduceIte, Nat.reduceEqDiff, Nat.reduceAdd, Nat.reduceMul, r58, o.cells.ld, mbl, Nat.reduceLeDiff, Nat.reduceLT, Int.reduceEq, u_up o.cells (show 0 < 2 by omega)]
    refine XX_val (noesc_ok _ h) ?_
    simp only [mach, mach2, mstd, ↓reduceIte, Nat.reduceEqDiff, Nat.reduceAdd, Nat.reduceMul, u_pu hg (show 2 ≤ 2 by omega)]
    refine XH_own o rfl (by simp [Value.cells]) rfl (fun h' q1 q2 q3 => ?_)
    have o' : Own h' b bdT [.pointer (some ⟨b, 0, none⟩), .slice va acc.length vc] := by simpa [Value.cells] using q1
    simp only [mach, mach2, mstd, ↓reduceIte, Nat.reduceEqDiff, Nat.reduceAdd, Nat.reduceMul]
    exact hΨ _ _ (fin_norm ⟨rfl, q2, o', .inr rfl, x.ow.keep q2 (fun q hq e => by have := x.ne q hq; omega), x.ne, x.nl⟩)
  · simp only [mach, mach2, mstd, ↓reduceIte, Nat.reduceEqDiff, Nat.reduceAdd, Nat.reduceMul, r58, o.cells.ld, mbl, Nat.reduceLeDiff, Nat.reduceLT, Int.reduceEq]
    exact hΨ _ _ (fin_norm ⟨rfl, .refl _ _, o, .inr rfl, x.ow, x.ne, x.nl⟩)

theorem writeByte_ok {h : AH} {b : Nat} {acc : Bs} {a v : Value} (x : Bd h b acc a v) (c : UInt8) (hl : acc.length ≤ 140000000000000) : Gets Tryd.prog 27 [.pointer (some ⟨b, 0, none⟩), bv c] h
    (fun res h' => res = .ret .nilIface ∧ Keep (fun q => q = b ∨ bk v q) h h' ∧ ∃ v', Bd h' b (acc ++ [c]) (.pointer (some ⟨b, 0, none⟩)) v' ∧ ∀ q, bk v' q → bk v q ∨ h.length ≤ q) := by
  refine Gets.of (keep := false) hP (draw_ok hM) k27 (by rfl) (fun Ψ hΨ => ?_)
  simp only [mach, mach2, mstd, ↓reduceIte, Nat.reduceEqDiff, Nat.reduceAdd, Nat.reduceMul, r27]
  refine XX_of (copyCheck_ok x) (fun res h1 hle hr => ?_)
  obtain ⟨rfl, k1, x1⟩ := hr
  refine .ret ?_
  obtain ⟨s', h', a1, a2, a3, a4⟩ := app1 (bytes := 1) x1.ow (xs := [bv c]) rfl rfl (by omega) (by omega)
  obtain ⟨va, vc, rfl⟩ := row_shape x1.ow.rds
  obtain ⟨sa, sc, rfl⟩ := row_shape a2.rds
  simp only [mach, mach2, mstd, ↓reduceIte, Nat.reduceEqDiff, Nat.reduceAdd, Nat.reduceMul, x1.own.cells.ld, mbl, Nat.reduceLeDiff, Nat.reduceLT, Int.reduceEq, a1]
  have o2 : Own h' b bdT [.pointer (some ⟨b, 0, none⟩), .slice va acc.length vc] := x1.own.keep a3 (fun e => by have := x1.ne b e; omega)
  refine XH_own o2 rfl (by simp [Value.cells]) rfl (fun h2 q1 q2 q3 => ?_)
  have o3 : Own h2 b bdT [.pointer (some ⟨b, 0, none⟩), .slice sa (acc.length + 1) sc] := by simpa [Value.cells] using q1
  have hb := x1.own.lt
  have hlen := k1.len
  have hbl := x.own.lt
  have fr : ∀ q, bk (.slice sa (acc.length + 1) sc) q → b < q := fun q hq => by
    rcases a4 q hq with e | e
    · exact x1.ne q e
    · omega
  simp only [mach, mach2, mstd, ↓reduceIte, Nat.reduceEqDiff, Nat.reduceAdd, Nat.reduceMul]
  refine hΨ _ _ (fin_ret (rv1 rfl ⟨rfl, ?_, _, ⟨o3, .inr rfl, ?_, fr, fun e => by simp at e⟩, fun q hq => ?_⟩))
  · exact ((k1.mono (fun c e => .inl e)).trans' a3 (fun q hq e => .inr e)).trans' q2 (fun q hq e => .inl e)
  · have := a2.keep q2 (fun q hq e => by have := fr q hq; omega)
    simpa using this
  · exact (a4 q hq).imp id (fun e => by omega)

theorem writeString_ok {h : AH} {b : Nat} {acc : Bs} {a v : Value} (x : Bd h b acc a v) (l : Bs) (hl : acc.length + l.length ≤ 140000000000000) : Gets Tryd.prog 28 [.pointer (some ⟨b, 0, none⟩), tv l] h
    (fun res h' => res = .ret (.tuple #[iv l.length, .nilIface]) ∧ Keep (fun q => q = b ∨ bk v q) h h' ∧ ∃ v', Bd h' b (acc ++ l) (.pointer (some ⟨b, 0, none⟩)) v' ∧ ∀ q, bk v' q → bk v q ∨ h.length ≤ q) := by
  refine Gets.of (keep := false) hP (draw_ok hM) k28 (by rfl) (fun Ψ hΨ => ?_)
  simp only [mach, mach2, mstd, ↓reduceIte, Nat.reduceEqDiff, Nat.reduceAdd, Nat.reduceMul, r28]
  refine XX_of (copyCheck_ok x) (fun res h1 hle hr => ?_)
  obtain ⟨rfl, k1, x1⟩ := hr
  refine .ret ?_
  obtain ⟨s', h', a1, a2, a3, a4⟩ := x1.ow.app (bytes := 1) (str := true) (x := tv l) (m := l.length) (xs := l.map bv) (by simp [srcv, tx_size, cells_tx]) (by simp) (by simp [Value.oneCell']) (by omega) (by omega)
  have nl : acc ++ l = [] → s' = .slice none 0 0 := fun e => by
    obtain ⟨e1, e2⟩ := List.append_eq_nil_iff.1 e
    have hv := x1.nl e1
    subst e2
    rw [hv] at a1
    simp [appv, srcv, tx_size] at a1
    exact a1.1.symm
  obtain ⟨va, vc, rfl⟩ := row_shape x1.ow.rds
  obtain ⟨sa, sc, rfl⟩ := row_shape a2.rds
  simp only [mach, mach2, mstd, ↓reduceIte, Nat.reduceEqDiff, Nat.reduceAdd, Nat.reduceMul, x1.own.cells.ld, mbl, Nat.reduceLeDiff, Nat.reduceLT, Int.reduceEq, a1]
  have o2 : Own h' b bdT [.pointer (some ⟨b, 0, none⟩), .slice va acc.length vc] := x1.own.keep a3 (fun e => by have := x1.ne b e; omega)
  refine XH_own o2 rfl (by simp [Value.cells]) rfl (fun h2 q1 q2 q3 => ?_)
  have o3 : Own h2 b bdT [.pointer (some ⟨b, 0, none⟩), .slice sa (acc.length + l.length) sc] := by simpa [Value.cells] using q1
  have hb := x1.own.lt
  have hlen := k1.len
  have hbl := x.own.lt
  have fr : ∀ q, bk (.slice sa (acc.length + l.length) sc) q → b < q := fun q hq => by
    rcases a4 q hq with e | e
    · exact x1.ne q e
    · omega
  simp only [mach, mach2, mstd, ↓reduceIte, Nat.reduceEqDiff, Nat.reduceAdd, Nat.reduceMul, tx_size]
  refine hΨ _ _ (fin_ret (rv2 rfl rfl ⟨rfl, ?_, _, ⟨o3, .inr rfl, ?_, fr, nl⟩, fun q hq => ?_⟩))
  · exact ((k1.mono (fun c e => .inl e)).trans' a3 (fun q hq e => .inr e)).trans' q2 (fun q hq e => .inl e)
  · have := a2.keep q2 (fun q hq e => by have := fr q hq; omega)
    simpa using this
  · exact (a4 q hq).imp id (fun e => by omega)

theorem string_ok {h : AH} {b : Nat} {acc : Bs} {a v : Value} (x : Bd h b acc a v) (hl : acc.length ≤ 140000000000000) : Gets Tryd.prog 29 [.pointer (some ⟨b, 0, none⟩)] h
    (fun res h' => res = .ret (tv acc) ∧ Keep (bk v) h h') := by
  refine Gets.of (keep := false) hP (draw_ok hM) k29 (by rfl) (fun Ψ hΨ => ?_)
  have hv := x.own
  by_cases h0 : acc = []
  · have e := x.nl h0
    subst h0 e
    have hu : ustv h 5 (.pointer none) (iv 0) = some (.string ByteArray.empty, h) := rfl
    simp only [mach, mach2, mstd, ↓reduceIte, Nat.reduceEqDiff, Nat.reduceAdd, Nat.reduceMul, r29, hv.cells.ld, mbl, Nat.reduceLeDiff, Nat.reduceLT, Int.reduceEq, hu]
    exact hΨ _ _ (fin_ret (rv1 rfl ⟨rfl, .refl _ _⟩))
  · have hpos : 0 < acc.length := List.length_pos_iff.2 h0
    obtain ⟨b2, c, all, e, ob, hall, hnc, htk⟩ := ows_open x.ow hpos
    subst e
    have hc0 : c ≠ 0 := by omega
    obtain ⟨g, hg⟩ := ob
    have hu : ustv h 5 (.pointer (some ⟨b2, 0, none⟩)) (iv acc.length) = some (.string (tx acc), h.set b2 (.cells false true g 0 5 all)) := by
      have h1 : ¬ (acc.length : Int) = 0 := by omega
      have h2 : (0 : Int) < (acc.length : Int) := by omega
      have h3 : 0 + acc.length ≤ all.length := by omega
      have h4 : (acc.length : Int) ≤ 9223372036854775807 := by omega
      simp only [ustv, h1, if_false, hg, Int.toNat_natCast, h2, h3, h4, and_self, if_true, List.drop_zero, htk, asBytes_tx, Option.map_some, pushAll_tx]
    simp only [mach, mach2, mstd, ↓reduceIte, Nat.reduceEqDiff, Nat.reduceAdd, Nat.reduceMul, r29, hv.cells.ld, mbl, Nat.reduceLeDiff, Nat.reduceLT, Int.reduceEq, hc0, hu, ct1]
    exact hΨ _ _ (fin_ret (rv1 rfl ⟨rfl, (Keep.set _ _ _).mono (fun q e => e)⟩))
end Go.S07

/- Texts: the document's digits of a number, walked by the kit's rules and any_inv. -/
set_option linter.unusedVariables false
set_option linter.unusedSimpArgs false
namespace Go.Proofs
open Go.RowKit Go.Eng

def dgDst : List Nat := [10, 11, 12, 13, 14, 15, 16, 17, 18, 19, 2]
def dgVal (n : Nat) (S : ByteArray) : Nat → Option Value
  | 0 => some (.int .i64 n)
  | 1 => some (.int .i64 ((n / 10 : Nat) : Int))
  | 2 => some (.string S)
  | 3 => some (.int .i64 n)
  | 4 => some (.int .i64 ((n % 10 : Nat) : Int))
  | 5 => some (.int .i64 ((48 + n % 10 : Nat) : Int))
  | 6 => some (.int .u8 ((48 + n % 10 : Nat) : Int))
  | 8 => some (.string ⟨#[UInt8.ofNat (48 + n % 10)]⟩)
  | 9 => some (.string (S ++ ⟨#[UInt8.ofNat (48 + n % 10)]⟩))
  | 10 => some (.string (S ++ ⟨#[UInt8.ofNat (48 + n % 10)]⟩))
  | _ => none
structure DgI (w0 : World) (n : Nat) (S : ByteArray) (L : Nat → Bool) (a : Act) (w : World) : Prop where
  be : Below w0.heap.size w0 w
  ds : a.defers = []
  sz : a.tmps.size = 20
  t0 : a.tmps[0]? = some (.int .i64 n)
  vs : ∀ i t v, L i = true → dgDst[i]? = some t → dgVal n S i = some v → a.tmps[t]? = some v
  row : L 7 = true → ∃ g, a.tmps[17]? = some (.slice (some ⟨g, 0, none⟩) 1 1) ∧ w.cell? ⟨g, 0, none⟩ = some (.int .u8 ((48 + n % 10 : Nat) : Int))

/-- One more value. -/
theorem DgI.put {w0 w w' : World} {n : Nat} {S : ByteArray} {L : Nat → Bool} {a : Act} (x : DgI w0 n S L a w) {i t : Nat} {v : Value} (hi : i ≠ 7) (ht : dgDst[i]? = some t) (hv : dgVal n S i = some v)
    (hb : Below w0.heap.size w0 w') (hc : ∀ g, w.cell? ⟨g, 0, none⟩ = some (.int .u8 ((48 + n % 10 : Nat) : Int)) → w'.cell? ⟨g, 0, none⟩ = some (.int .u8 ((48 + n % 10 : Nat) : Int))) : DgI w0 n S (put1 L i) (a.put (some t) v) w' := by
  have hi11 : i < 11 := (List.getElem?_eq_some_iff.1 ht).1
  have h20 : t < 20 := by
    have : ∀ j < 11, ∀ u, dgDst[j]? = some u → u < 20 := by decide
    exact this i hi11 t ht
  have hset : (a.put (some t) v).tmps = a.tmps.setIfInBounds t v := by simp [Act.put]
  have hother : ∀ u, u ≠ t → (a.put (some t) v).tmps[u]? = a.tmps[u]? := fun u hu => by rw [hset, Array.getElem?_setIfInBounds_ne (Ne.symm hu)]
  have hdist : ∀ j < 11, ∀ k < 11, ∀ u, dgDst[j]? = some u → dgDst[k]? = some u → j = k := by decide
  refine ⟨hb, by simpa [Act.put] using x.ds, by rw [hset]; simpa using x.sz, ?_, fun j u y hj hu hy => ?_, fun h7 => ?_⟩
  · rw [hother 0 (by
      have : ∀ j < 11, ∀ u, dgDst[j]? = some u → u ≠ 0 := by decide
      exact (this i hi11 t ht).symm)]; exact x.t0
  · by_cases e : u = t
    · subst e
      have : j = i := hdist j (List.getElem?_eq_some_iff.1 hu).1 i hi11 u hu ht
      subst this
      rw [hv] at hy; cases hy
      rw [hset, Array.getElem?_setIfInBounds_self_of_lt (by rw [x.sz]; exact h20)]
    · rw [hother u e]
      refine x.vs j u y ?_ hu hy
      unfold put1 at hj
      by_cases e2 : j = i
      · subst e2; rw [ht] at hu; cases hu; exact absurd rfl e
      · simpa [e2] using hj
  · have h7' : L 7 = true := by
      unfold put1 at h7
      have : (7 == i) = false := by simp; omega
      simpa [this] using h7
    obtain ⟨g, h1, h2⟩ := x.row h7'
    refine ⟨g, ?_, hc g h2⟩
    rw [hother 17 (fun e => hi (hdist i hi11 7 (by omega) 17 (by rw [ht, e]) rfl))]
    exact h1

section
variable {a : Act} {w : World} {n : Nat}
end

set_option maxRecDepth 100000
end Go.Proofs

/- Texts: digits, bytes as they are written. -/
set_option linter.unusedVariables false
set_option linter.unusedSimpArgs false
namespace Go.S07
open Go Go.Eng Go.Proofs Go.Scn

def hxd : Bs := [48, 49, 50, 51, 52, 53, 54, 55, 56, 57, 97, 98, 99, 100, 101, 102]
/-- A byte as it is written; none: it is no byte. -/
def escS (c : Int) : Option Bs :=
  if c < 0 ∨ 255 < c then none else if c = 10 then some [92, 110] else if c = 9 then some [92, 116] else
  if c = 92 ∨ c = 39 ∨ c = 34 then some [92, UInt8.ofNat c.toNat] else if 32 ≤ c ∧ c ≤ 126 then some [UInt8.ofNat c.toNat] else
  some [92, 120, hxd.getD (c.toNat / 16) 0, hxd.getD (c.toNat % 16) 0]
def escV : Option Bs → Value
  | none => .tuple #[.string ⟨#[]⟩, iv 1]
  | some l => .tuple #[tv l, iv 0]
theorem escS_len {c : Int} {l : Bs} (h : escS c = some l) : l.length ≤ 4 := by
  unfold escS at h
  split at h
  · cases h
  · split at h
    · cases h; simp
    · split at h
      · cases h; simp
      · split at h
        · cases h; simp
        · split at h <;> (cases h; simp)
theorem bv_of {c : Int} (h0 : 0 ≤ c) (h1 : c ≤ 255) : bv (UInt8.ofNat c.toNat) = .int .u8 c := by
  show Value.int .u8 (((UInt8.ofNat c.toNat).toNat : Nat) : Int) = _
  rw [u8nat (by omega)]; congr 1; omega

theorem b2s_row {h : AH} {m : Nat} {l : Bs} : uval Tryd.prog (h ++ [row 5 h.length (l.map bv)]) m .b2s (.slice (some ⟨h.length, 0, none⟩) l.length l.length) = some (.string (tx l), none) :=
  b2s_tx (l := l) (.mk (Own.new h 5 h.length (l.map bv)).cells (by simp) (by rw [List.drop_zero, Nat.mul_one]; exact List.take_of_length_le (by simp)))

set_option maxHeartbeats 1000000 in
theorem Escape_ok (c : Int) (h : AH) : Gets Tryd.prog 16 [iv c] h (fun res h' => Keep (fun _ => False) h h' ∧ res = .ret (escV (escS c))) := by
  refine Gets.of (keep := false) hP (draw_ok hM) k16 (by rfl) (fun Ψ hΨ => ?_)
  by_cases h0 : c < 0
  · simp only [mach, mach2, mstd, ↓reduceIte, Nat.reduceEqDiff, Nat.reduceAdd, Nat.reduceMul, r16, eq_true h0]
    exact hΨ _ _ (fin_ret (rv2 rfl rfl ⟨.refl _ _, by rw [escS, if_pos (by omega)]; rfl⟩))
  by_cases h1 : 255 < c
  · simp only [mach, mach2, mstd, ↓reduceIte, Nat.reduceEqDiff, Nat.reduceAdd, Nat.reduceMul, r16, h0, eq_true h1]
    exact hΨ _ _ (fin_ret (rv2 rfl rfl ⟨.refl _ _, by rw [escS, if_pos (by omega)]; rfl⟩))
  by_cases h2 : c = 10
  · simp only [mach, mach2, mstd, ↓reduceIte, Nat.reduceEqDiff, Nat.reduceAdd, Nat.reduceMul, r16, h0, h1, eq_true h2]
    exact hΨ _ _ (fin_ret (rv2 rfl rfl ⟨.refl _ _, by rw [escS, if_neg (by omega), if_pos h2]; rfl⟩))
  by_cases h3 : c = 9
  · simp only [mach, mach2, mstd, ↓reduceIte, Nat.reduceEqDiff, Nat.reduceAdd, Nat.reduceMul, r16, h0, h1, h2, eq_true h3]
    exact hΨ _ _ (fin_ret (rv2 rfl rfl ⟨.refl _ _, by rw [escS, if_neg (by omega), if_neg h2, if_pos h3]; rfl⟩))
  have hw : IntKind.u8.wrap c = c := u8w (by omega) (by omega)
  have hbv := bv_of (c := c) (by omega) (by omega)
  have k2 : ∀ (l : List Value), Keep (fun _ => False) h (h ++ [row 5 h.length l]) := fun l => Keep.push _ _ _
  have e2 : uval Tryd.prog (h ++ [row 5 h.length [.int .u8 92, .int .u8 c]]) (h ++ [row 5 h.length [.int .u8 92, .int .u8 c]]).length .b2s (.slice (some ⟨h.length, 0, none⟩) 2 2) = some (tv [92, UInt8.ofNat c.toNat], none) := by
    have := b2s_row (h := h) (m := (h ++ [row 5 h.length [.int .u8 92, .int .u8 c]]).length) (l := [92, UInt8.ofNat c.toNat])
    rw [show ([92, UInt8.ofNat c.toNat] : Bs).map bv = [.int .u8 92, .int .u8 c] by rw [List.map_cons, List.map_cons, hbv]; rfl] at this
    exact this
  have e1 : uval Tryd.prog (h ++ [row 5 h.length [.int .u8 c]]) (h ++ [row 5 h.length [.int .u8 c]]).length .b2s (.slice (some ⟨h.length, 0, none⟩) 1 1) = some (tv [UInt8.ofNat c.toNat], none) := by
    have := b2s_row (h := h) (m := (h ++ [row 5 h.length [.int .u8 c]]).length) (l := [UInt8.ofNat c.toNat])
    rw [show ([UInt8.ofNat c.toNat] : Bs).map bv = [.int .u8 c] by rw [List.map_cons, hbv]; rfl] at this
    exact this
  by_cases h4 : c = 92
  · simp only [mach, mach2, mstd, ↓reduceIte, Nat.reduceEqDiff, Nat.reduceAdd, Nat.reduceMul, r16, h0, h1, h2, h3, eq_true h4, hw, mbl, Nat.reduceLeDiff, Nat.reduceLT, Int.reduceEq, e2]
    refine hΨ _ _ (fin_ret (rv2 rfl rfl ⟨k2 _, ?_⟩))
    rw [escS, if_neg (by omega), if_neg h2, if_neg h3, if_pos (by omega)]; rfl
  by_cases h5 : c = 39
  · simp only [mach, mach2, mstd, ↓reduceIte, Nat.reduceEqDiff, Nat.reduceAdd, Nat.reduceMul, r16, h0, h1, h2, h3, h4, eq_true h5, hw, mbl, Nat.reduceLeDiff, Nat.reduceLT, Int.reduceEq, e2]
    refine hΨ _ _ (fin_ret (rv2 rfl rfl ⟨k2 _, ?_⟩))
    rw [escS, if_neg (by omega), if_neg h2, if_neg h3, if_pos (by omega)]; rfl
  by_cases h6 : c = 34
  · simp only [mach, mach2, mstd, ↓reduceIte, Nat.reduceEqDiff, Nat.reduceAdd, Nat.reduceMul, r16, h0, h1, h2, h3, h4, h5, eq_true h6, hw, mbl, Nat.reduceLeDiff, Nat.reduceLT, Int.reduceEq, e2]
    refine hΨ _ _ (fin_ret (rv2 rfl rfl ⟨k2 _, ?_⟩))
    rw [escS, if_neg (by omega), if_neg h2, if_neg h3, if_pos (by omega)]; rfl
  have hz : ¬ (c = 92 ∨ c = 39 ∨ c = 34) := by omega
  have hq : Int.tdiv c 16 = ((c.toNat / 16 : Nat) : Int) := by rw [Int.tdiv_eq_ediv_of_nonneg (by omega)]; omega
  have hr : Int.tmod c 16 = ((c.toNat % 16 : Nat) : Int) := by rw [Int.tmod_eq_emod_of_nonneg (by omega)]; omega
  have hwq : IntKind.i64.wrap ((c.toNat / 16 : Nat) : Int) = ((c.toNat / 16 : Nat) : Int) := i64w (by omega) (by omega)
  have a1 : hxd[c.toNat / 16]? = some (hxd.getD (c.toNat / 16) 0) := by rw [List.getD_eq_getElem?_getD, List.getElem?_eq_getElem (by simp [hxd]; omega)]; rfl
  have a2 : hxd[c.toNat % 16]? = some (hxd.getD (c.toNat % 16) 0) := by rw [List.getD_eq_getElem?_getD, List.getElem?_eq_getElem (by simp [hxd]; omega)]; rfl
  have z1 : (0 : Int) ≤ ((c.toNat / 16 : Nat) : Int) := by omega
  have z2 : (0 : Int) ≤ ((c.toNat % 16 : Nat) : Int) := by omega
  have x1 : (⟨#[48, 49, 50, 51, 52, 53, 54, 55, 56, 57, 97, 98, 99, 100, 101, 102]⟩ : ByteArray)[c.toNat / 16]? = some (hxd.getD (c.toNat / 16) 0) := (tx_get hxd _).trans a1
  have x2 : (⟨#[48, 49, 50, 51, 52, 53, 54, 55, 56, 57, 97, 98, 99, 100, 101, 102]⟩ : ByteArray)[c.toNat % 16]? = some (hxd.getD (c.toNat % 16) 0) := (tx_get hxd _).trans a2
  have e4 : uval Tryd.prog (h ++ [row 5 h.length [.int .u8 92, .int .u8 120, .int .u8 ((hxd.getD (c.toNat / 16) 0).toNat : Int), .int .u8 ((hxd.getD (c.toNat % 16) 0).toNat : Int)]]) (h ++ [row 5 h.length [.int .u8 92, .int .u8 120, .int .u8 ((hxd.getD (c.toNat / 16) 0).toNat : Int), .int .u8 ((hxd.getD (c.toNat % 16) 0).toNat : Int)]]).length .b2s (.slice (some ⟨h.length, 0, none⟩) 4 4) = some (tv [92, 120, hxd.getD (c.toNat / 16) 0, hxd.getD (c.toNat % 16) 0], none) :=
    b2s_row (h := h) (l := [92, 120, hxd.getD (c.toNat / 16) 0, hxd.getD (c.toNat % 16) 0])
  by_cases h7 : 32 ≤ c
  · by_cases h8 : c ≤ 126
    · simp only [mach, mach2, mstd, ↓reduceIte, Nat.reduceEqDiff, Nat.reduceAdd, Nat.reduceMul, r16, h0, h1, h2, h3, h4, h5, h6, h7, h8, hw, mbl, Nat.reduceLeDiff, Nat.reduceLT, Int.reduceEq, e1]
      refine hΨ _ _ (fin_ret (rv2 rfl rfl ⟨k2 _, ?_⟩))
      rw [escS, if_neg (by omega), if_neg h2, if_neg h3, if_neg hz, if_pos ⟨h7, h8⟩]; rfl
    · simp only [mach, mach2, mstd, ↓reduceIte, Nat.reduceEqDiff, Nat.reduceAdd, Nat.reduceMul, r16, h0, h1, h2, h3, h4, h5, h6, h7, h8, hq, hr, hwq, x1, x2, z1, z2, Int.toNat_natCast, show ((16 : Int) = 0) = False by simp, mbl, Nat.reduceLeDiff, Nat.reduceLT, Int.reduceEq, e4]
      refine hΨ _ _ (fin_ret (rv2 rfl rfl ⟨k2 _, ?_⟩))
      rw [escS, if_neg (by omega), if_neg h2, if_neg h3, if_neg hz, if_neg (by omega)]; rfl
  · simp only [mach, mach2, mstd, ↓reduceIte, Nat.reduceEqDiff, Nat.reduceAdd, Nat.reduceMul, r16, h0, h1, h2, h3, h4, h5, h6, h7, hq, hr, hwq, x1, x2, z1, z2, Int.toNat_natCast, show ((16 : Int) = 0) = False by simp, mbl, Nat.reduceLeDiff, Nat.reduceLT, Int.reduceEq, e4]
    refine hΨ _ _ (fin_ret (rv2 rfl rfl ⟨k2 _, ?_⟩))
    rw [escS, if_neg (by omega), if_neg h2, if_neg h3, if_neg hz, if_neg (by omega)]; rfl
end Go.S07

/- Texts: bytes as they are written, the document's side. -/
set_option linter.unusedVariables false
set_option linter.unusedSimpArgs false
namespace Go.S07
open Go Go.Eng Go.Proofs Go.Scn

/-- A text as it is written. -/
def escB (c : UInt8) : Bs := (escS c.toNat).getD []
def quoS (t : Bs) : Bs := t.flatMap escB
theorem escB_some (c : UInt8) : escS c.toNat = some (escB c) := by
  have hlt := c.toNat_lt
  unfold escB escS
  rw [if_neg (by omega)]
  split
  · rfl
  · split
    · rfl
    · split
      · rfl
      · split <;> rfl
theorem escB_len (c : UInt8) : (escB c).length ≤ 4 := escS_len (escB_some c)
theorem quoS_len (t : Bs) : (quoS t).length ≤ 4 * t.length := by
  induction t with
  | nil => exact Nat.le_refl _
  | cons c t ih =>
    have := escB_len c
    simp only [quoS, List.flatMap_cons, List.length_append, List.length_cons] at *
    omega

end Go.S07

/- Texts: one token as a text. -/
set_option linter.unusedVariables false
set_option linter.unusedSimpArgs false
namespace Go.S07
open Go Go.Eng Go.Proofs Go.Scn

/-- Could the token stand in a list? -/
def okT (t : Tk) : Bool :=
  if t.k = 3 then decide (0 ≤ t.n) && (t.t == []) else if t.k = 4 then (escS t.n).isSome && (t.t == []) else
  decide (t.n = 0) && (if t.k = 7 then markL.contains t.t else if t.k = 8 then opL.contains t.t else if t.k = 5 then true else
    decide (t.k = 1 ∨ t.k = 2 ∨ t.k = 6) && decide (nameK t.t = t.k))
/-- Its text. -/
def txT (t : Tk) : Bs := if t.k = 3 then Lib.itoa t.n else if t.k = 4 then [39] ++ (escS t.n).getD [] ++ [39] else if t.k = 5 then [34] ++ quoS t.t ++ [34] else t.t

theorem index_ok (k : Int) (h : AH) : Gets Tryd.prog 69 [.slice (some ⟨h.length, 0, none⟩) 3 3, iv k] (h ++ [row 3 h.length [iv 1, iv 2, iv 6]]) (fun res h' => h' = h ++ [row 3 h.length [iv 1, iv 2, iv 6]] ∧ ∃ j, res = .ret (iv j) ∧ (0 ≤ j ↔ (k = 1 ∨ k = 2 ∨ k = 6))) := by
  refine Gets.of (keep := false) hP (draw_ok hM) k69 (by rfl) (fun Ψ hΨ => ?_)
  have o := Own.new h 3 h.length [iv 1, iv 2, iv 6]
  have len3 : (3 : Nat) = 3 := rfl
  simp only [mach, mach2, mstd, ↓reduceIte, Nat.reduceEqDiff, Nat.reduceAdd, Nat.reduceMul, r69]
  refine XLo_rule (α := Nat) (fun i => [(0, .slice (some ⟨h.length, 0, none⟩) 3 3), (1, iv k), (7, iv 3), (8, iv i)])
    (fun i h' => h' = h ++ [row 3 h.length [iv 1, iv 2, iv 6]] ∧ i ≤ 3 ∧ (0 < i → k ≠ 1) ∧ (1 < i → k ≠ 2) ∧ (2 < i → k ≠ 6)) (fun i => 3 - i) 0
    ⟨rfl, by omega, by omega, by omega, by omega⟩ ⟨rfl, rfl, rfl, rfl, trivial⟩ ?_
  rintro i h1 Ψ2 ⟨rfl, hi, n1, n2, n3⟩ next out
  by_cases hlt : (i : Int) < 3
  · have g0 : (0 : Int) ≤ (i : Int) := by omega
    have hw : IntKind.i64.wrap ((i : Int) + 1) = ((i + 1 : Nat) : Int) := by rw [i64w (by omega) (by omega)]; omega
    obtain ⟨x, hx, hk⟩ : ∃ x : Int, ([iv 1, iv 2, iv 6] : List Value)[i]? = some (iv x) ∧ ((i = 0 ∧ x = 1) ∨ (i = 1 ∧ x = 2) ∨ (i = 2 ∧ x = 6)) := by
      match i, hlt with
      | 0, _ => exact ⟨1, rfl, by omega⟩
      | 1, _ => exact ⟨2, rfl, by omega⟩
      | 2, _ => exact ⟨6, rfl, by omega⟩
    have hc3 : ((3 : Nat) : Int) = 3 := rfl
    by_cases he : k = x
    · simp only [mach, mach2, mstd, ↓reduceIte, Nat.reduceEqDiff, Nat.reduceAdd, Nat.reduceMul, hlt, g0, hc3, and_self, Int.toNat_natCast, Nat.mul_one, Nat.zero_add, o.cells.ld, hx, eq_true he]
      refine out .ret _ _ _ _ (by intro e; cases e) ?_
      simp only [mach, mach2, mstd, ↓reduceIte, Nat.reduceEqDiff, Nat.reduceAdd, Nat.reduceMul]
      exact hΨ _ _ (fin_ret (rv1 rfl ⟨rfl, _, rfl, by omega⟩))
    · simp only [mach, mach2, mstd, ↓reduceIte, Nat.reduceEqDiff, Nat.reduceAdd, Nat.reduceMul, hlt, g0, hc3, and_self, Int.toNat_natCast, Nat.mul_one, Nat.zero_add, o.cells.ld, hx, he, hw]
      exact next (i + 1) _ _ _ ⟨rfl, by omega, by omega, by omega, by omega⟩ ⟨rfl, rfl, rfl, rfl, trivial⟩ (by omega)
  · simp only [mach, mach2, mstd, ↓reduceIte, Nat.reduceEqDiff, Nat.reduceAdd, Nat.reduceMul, hlt]
    refine out (.exit 0) _ _ _ _ (by intro e; cases e) ?_
    simp only [mach, mach2, mstd, ↓reduceIte, Nat.reduceEqDiff, Nat.reduceAdd, Nat.reduceMul]
    exact hΨ _ _ (fin_ret (rv1 rfl ⟨rfl, _, rfl, by omega⟩))
theorem contains_ok (k : Int) (h : AH) : Gets Tryd.prog 57 [.slice (some ⟨h.length, 0, none⟩) 3 3, iv k] (h ++ [row 3 h.length [iv 1, iv 2, iv 6]]) (fun res h' => h' = h ++ [row 3 h.length [iv 1, iv 2, iv 6]] ∧ res = .ret (.bool (decide (k = 1 ∨ k = 2 ∨ k = 6)))) := by
  refine Gets.of (keep := false) hP (draw_ok hM) k57 (by rfl) (fun Ψ hΨ => ?_)
  simp only [mach, mach2, mstd, ↓reduceIte, Nat.reduceEqDiff, Nat.reduceAdd, Nat.reduceMul, r57]
  refine XX_of (index_ok k h) (fun res h' _ hn => ?_)
  obtain ⟨rfl, i, rfl, hi⟩ := hn
  refine .ret ?_
  simp only [mach, mach2, mstd, ↓reduceIte, Nat.reduceEqDiff, Nat.reduceAdd, Nat.reduceMul]
  refine hΨ _ _ (fin_ret (rv1 rfl ⟨rfl, ?_⟩))
  simp only [tup]
  congr 2
  exact decide_eq_decide.2 hi
end Go.S07
