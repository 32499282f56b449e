import Derived.Test.YtobbonpebopafaaDoorPk19
import Derived.Test.YtobbonpebopafaaDoorRows
import Derived.Test.YtobbonpebopafaaDoorPk14
import Derived.LaidMore
import Derived.OpenShut
import Derived.MakeChecks
/- Tokens: ScanPlaces, the walk. -/
set_option linter.unusedVariables false
set_option linter.unusedSimpArgs false
namespace Go.S07
open Go Go.Eng Go.Proofs Go.Scn

theorem s_add {a b : Bs} (h : a.length + b.length ≤ 9223372036854775807) : sbin .add (tx a) (tx b) = some (.string (tx (a ++ b))) := by
  have : ¬ (((tx a).size + (tx b).size : Nat) : Int) > IntKind.i64.max := by
    rw [tx_size, tx_size]
    have : IntKind.i64.max = 9223372036854775807 := by decide
    omega
  simp only [sbin, if_neg this, tx_app]
theorem s_nl {s : Bs} (h : s.length ≤ 8000) : sbin .add (tx s) (⟨#[10]⟩ : ByteArray) = some (.string (tx (s ++ [10]))) := s_add (b := [10]) (by simp; omega)

set_option maxHeartbeats 4000000 in
theorem ScanPlaces_ok (s t : Bs) (h : AH) : Gets Tryd.prog 5 [tv s, tv t] h (fun res h' => Keep (fun _ => False) h h' ∧ res = .ret (.bool true)) := by
  refine Gets.of (keep := false) hP (draw_ok hM) k5 (by rfl) (fun Ψ hΨ => ?_)
  simp only [mach, mach2, mstd, ↓reduceIte, Nat.reduceEqDiff, Nat.reduceAdd, Nat.reduceMul, r5]
  refine XX_of (wakes_ok h) (fun res h1 hle hr => ?_)
  obtain ⟨k1, rfl⟩ := hr
  refine .ret ?_
  simp only [mach, mach2, mstd, ↓reduceIte, Nat.reduceEqDiff, Nat.reduceAdd, Nat.reduceMul]
  refine XX_of (Tokens_ok s h1) (fun res h2 hle hr => ?_)
  obtain ⟨k2, lv, rfl, ow, fr⟩ := hr
  refine .ret ?_
  simp only [mach, mach2, mstd, ↓reduceIte, Nat.reduceEqDiff, Nat.reduceAdd, Nat.reduceMul, mbl, Nat.reduceLeDiff, Nat.reduceLT, Int.reduceEq]
  refine XX_of (Tokens_ok t h2) (fun res h3 hle hr => ?_)
  obtain ⟨k3, lw, rfl, ow2, fr2⟩ := hr
  refine .ret ?_
  have kp := (k1.trans k2).trans k3
  by_cases h8 : 8000 < s.length
  · rw [tokF_big h8]
    simp only [mach, mach2, mstd, ↓reduceIte, Nat.reduceEqDiff, Nat.reduceAdd, Nat.reduceMul, mbl, Nat.reduceLeDiff, Nat.reduceLT, Int.reduceEq, Int.reduceEq]
    exact hΨ _ _ (fin_ret (rv1 rfl ⟨kp, rfl⟩))
  cases hs : toks s.length s with
  | error q =>
    rw [tokF_err (by omega) hs]
    simp only [mach, mach2, mstd, ↓reduceIte, Nat.reduceEqDiff, Nat.reduceAdd, Nat.reduceMul, mbl, Nat.reduceLeDiff, Nat.reduceLT, Int.reduceEq, Int.reduceEq]
    exact hΨ _ _ (fin_ret (rv1 rfl ⟨kp, rfl⟩))
  | ok ts =>
  rw [tokF_ok (by omega) hs] at ow ⊢
  by_cases h9 : 8000 < t.length
  · rw [tokF_big h9]
    simp only [mach, mach2, mstd, ↓reduceIte, Nat.reduceEqDiff, Nat.reduceAdd, Nat.reduceMul, mbl, Nat.reduceLeDiff, Nat.reduceLT, Int.reduceEq, Int.reduceEq]
    exact hΨ _ _ (fin_ret (rv1 rfl ⟨kp, rfl⟩))
  cases ht : toks t.length t with
  | error q =>
    rw [tokF_err (by omega) ht]
    simp only [mach, mach2, mstd, ↓reduceIte, Nat.reduceEqDiff, Nat.reduceAdd, Nat.reduceMul, mbl, Nat.reduceLeDiff, Nat.reduceLT, Int.reduceEq, Int.reduceEq]
    exact hΨ _ _ (fin_ret (rv1 rfl ⟨kp, rfl⟩))
  | ok us =>
  rw [tokF_ok (by omega) ht] at ow2 ⊢
  simp only at ow ow2
  have hsum : IntKind.i64.wrap ((s.length : Int) + (t.length : Int)) = ((s.length + t.length : Nat) : Int) := by rw [i64w (by omega) (by omega)]; omega
  by_cases h7 : (7999 : Int) < ((s.length + t.length : Nat) : Int)
  · simp only [mach, mach2, mstd, ↓reduceIte, Nat.reduceEqDiff, Nat.reduceAdd, Nat.reduceMul, mbl, Nat.reduceLeDiff, Nat.reduceLT, Int.reduceEq, Int.reduceEq, tx_size, hsum, eq_true h7]
    exact hΨ _ _ (fin_ret (rv1 rfl ⟨kp, rfl⟩))
  have hlen := toks_len _ _ _ (Nat.le_refl _) hs
  have hlen2 := toks_len _ _ _ (Nat.le_refl _) ht
  obtain ⟨va, vc, rfl⟩ := row_shape ow.rds
  obtain ⟨wa, wc, rfl⟩ := row_shape ow2.rds
  have ow3 := ow.keep k3 (fun _ _ e => e)
  simp only [mach, mach2, mstd, ↓reduceIte, Nat.reduceEqDiff, Nat.reduceAdd, Nat.reduceMul, mbl, Nat.reduceLeDiff, Nat.reduceLT, Int.reduceEq, Int.reduceEq, tx_size, hsum, h7]
  refine XLo_rule (α := Nat) (fun i => [(0, tv s), (1, tv t), (5, .slice va ts.length vc), (8, .slice wa us.length wc), (11, iv i)]) (fun i h' => i ≤ ts.length ∧ Keep (fun _ => False) h3 h') (fun i => ts.length - i) 0
    ⟨Nat.zero_le _, .refl _ _⟩ ⟨rfl, rfl, rfl, rfl, rfl, trivial⟩ ?_
  rintro i g1 Ψ2 ⟨hi, kk⟩ next out
  have owa := ow3.keep kk (fun _ _ e => e)
  have owb := ow2.keep kk (fun _ _ e => e)
  by_cases hlt : (i : Int) < (ts.length : Int)
  case neg =>
    simp only [mach, mach2, mstd, ↓reduceIte, Nat.reduceEqDiff, Nat.reduceAdd, Nat.reduceMul, hlt]
    refine out (.exit 0) _ _ _ _ (by intro e; cases e) ?_
    have hfull : (s ++ [10] ++ t).length = s.length + 1 + t.length := by simp; omega
    have hboth : toks (s ++ [10] ++ t).length (s ++ [10] ++ t) = .ok (ts ++ us.map (Tk.at (s.length + 1))) := by
      have e1 := toks_app t s s.length ts (Nat.le_refl _) hs
      have e2 := toks_shift (s.length + 1) t t.length (Nat.le_refl _)
      rw [ht, show t.length + (s.length + 1) = s.length + 1 + t.length by omega] at e2
      rw [e2] at e1
      rw [hfull, show s ++ [10] ++ t = s ++ 10 :: t by simp]
      exact e1
    simp only [mach, mach2, mstd, ↓reduceIte, Nat.reduceEqDiff, Nat.reduceAdd, Nat.reduceMul, s_nl (show s.length ≤ 8000 by omega), s_add (a := s ++ [10]) (b := t) (by simp; omega)]
    refine XX_of (Tokens_ok (s ++ [10] ++ t) g1) (fun res g2 hle hr => ?_)
    obtain ⟨m1, lb, rfl, ob, frb⟩ := hr
    refine .ret ?_
    rw [tokF_ok (by rw [hfull]; omega) hboth] at ob ⊢
    simp only at ob
    have owa2 := owa.keep m1 (fun _ _ e => e)
    have owb2 := owb.keep m1 (fun _ _ e => e)
    have hbl : (ts ++ us.map (Tk.at (s.length + 1))).length = ts.length + us.length := by simp
    obtain ⟨pb, ec1, rd1⟩ := ows_to (i := ts.length) ob (by omega)
    obtain ⟨qb, ec2, rd2⟩ := ows_from (i := ts.length) ob (by omega)
    rw [List.take_left] at rd1
    rw [List.drop_left] at rd2
    obtain ⟨xa, xc, rfl⟩ := row_shape ob.rds
    have hsl : IntKind.i64.wrap ((ts.length : Int) + (us.length : Int)) = ((ts.length + us.length : Nat) : Int) := by rw [i64w (by omega) (by omega)]; omega
    rw [hbl] at ec1 ec2 ⊢
    simp only [mach, mach2, mstd, ↓reduceIte, Nat.reduceEqDiff, Nat.reduceAdd, Nat.reduceMul, mbl, Nat.reduceLeDiff, Nat.reduceLT, Int.reduceEq, Int.reduceEq, hsl, ec1]
    refine XX_of (alike_ok ts ts g2 _ _ rd1 owa2.rds (by omega) rfl (fun i a b e1 e2 => by rw [e1] at e2; cases e2; exact ⟨rfl, rfl, rfl⟩)) (fun res g3 hle hr => ?_)
    obtain ⟨rfl, rfl⟩ := hr
    refine .ret ?_
    simp only [mach, mach2, mstd, ↓reduceIte, Nat.reduceEqDiff, Nat.reduceAdd, Nat.reduceMul, ec2]
    refine XX_of (alike_ok (us.map (Tk.at (s.length + 1))) us g3 _ _ rd2 owb2.rds (by simp; omega) (by simp) (fun i a b e1 e2 => by
      rw [List.getElem?_map, e2, Option.map_some] at e1; cases e1; exact ⟨rfl, rfl, rfl⟩)) (fun res g4 hle hr => ?_)
    obtain ⟨rfl, rfl⟩ := hr
    refine .ret ?_
    simp only [mach, mach2, mstd, ↓reduceIte, Nat.reduceEqDiff, Nat.reduceAdd, Nat.reduceMul]
    refine XLo_rule (α := Nat) (fun i => [(0, tv s), (5, .slice va ts.length vc), (8, .slice wa us.length wc), (15, .slice xa (ts.length + us.length) xc), (18, iv i)]) (fun i h' => h' = g4 ∧ i ≤ us.length) (fun i => us.length - i) 0
      ⟨rfl, Nat.zero_le _⟩ ⟨rfl, rfl, rfl, rfl, rfl, trivial⟩ ?_
    rintro j g5 Ψ3 ⟨rfl, hj⟩ next2 out2
    by_cases hlt2 : (j : Int) < (us.length : Int)
    · have hjl : j < us.length := by omega
      have z1 : (0 : Int) ≤ (j : Int) := by omega
      have z2 : (0 : Int) ≤ ((ts.length + j : Nat) : Int) := by omega
      have z3 : ((ts.length + j : Nat) : Int) < ((ts.length + us.length : Nat) : Int) := by omega
      have hxj : us[j]? = some us[j] := List.getElem?_eq_getElem hjl
      have hyj : (ts ++ us.map (Tk.at (s.length + 1)))[ts.length + j]? = some (us[j].at (s.length + 1)) := by
        rw [List.getElem?_append_right (by omega), Nat.add_sub_cancel_left, List.getElem?_map, hxj]; rfl
      obtain ⟨b1, o1, c1, q1, _, _, f1⟩ := tk_at owb2.rds hxj
      obtain ⟨b2, o2, c2, q2, _, _, f2⟩ := tk_at ob.rds hyj
      cases q1
      rw [hbl] at q2
      cases q2
      have a3 : ldc g5 b1 (o1 + j * 4 + 3) = some (iv us[j].a) := f1 3 (by omega)
      have d3 : ldc g5 b2 (o2 + (ts.length + j) * 4 + 3) = some (iv ((us[j].a + (s.length + 1) : Nat) : Int)) := f2 3 (by omega)
      have hrg := (toks_range t us (Nat.le_refl _) ht us[j] (List.getElem_mem hjl)).2
      have w1 : IntKind.i64.wrap ((ts.length : Int) + (j : Int)) = ((ts.length + j : Nat) : Int) := by rw [i64w (by omega) (by omega)]; omega
      have w2 : IntKind.i64.wrap ((s.length : Int) + 1) = ((s.length + 1 : Nat) : Int) := by rw [i64w (by omega) (by omega)]; omega
      have w3 : IntKind.i64.wrap (((s.length + 1 : Nat) : Int) + (us[j].a : Int)) = ((us[j].a + (s.length + 1) : Nat) : Int) := by rw [i64w (by omega) (by omega)]; omega
      have w4 : IntKind.i64.wrap ((j : Int) + 1) = ((j + 1 : Nat) : Int) := by rw [i64w (by omega) (by omega)]; omega
      simp only [mach, mach2, mstd, ↓reduceIte, Nat.reduceEqDiff, Nat.reduceAdd, Nat.reduceMul, hlt2, z1, z2, z3, and_self, Int.toNat_natCast, a3, d3, tx_size, w1, w2, w3, w4, ct1]
      exact next2 (j + 1) _ _ _ ⟨rfl, by omega⟩ ⟨rfl, rfl, rfl, rfl, rfl, trivial⟩ (by omega)
    · simp only [mach, mach2, mstd, ↓reduceIte, Nat.reduceEqDiff, Nat.reduceAdd, Nat.reduceMul, hlt2]
      refine out2 (.exit 2) _ _ _ _ (by intro e; cases e) ?_
      simp only [mach, mach2, mstd, ↓reduceIte, Nat.reduceEqDiff, Nat.reduceAdd, Nat.reduceMul]
      exact hΨ _ _ (fin_ret (rv1 rfl ⟨(kp.trans kk).trans m1, rfl⟩))
  by_cases h50 : (i : Int) < 50
  case neg =>
    simp only [mach, mach2, mstd, ↓reduceIte, Nat.reduceEqDiff, Nat.reduceAdd, Nat.reduceMul, hlt, h50]
    refine out (.exit 0) _ _ _ _ (by intro e; cases e) ?_
    have hfull : (s ++ [10] ++ t).length = s.length + 1 + t.length := by simp; omega
    have hboth : toks (s ++ [10] ++ t).length (s ++ [10] ++ t) = .ok (ts ++ us.map (Tk.at (s.length + 1))) := by
      have e1 := toks_app t s s.length ts (Nat.le_refl _) hs
      have e2 := toks_shift (s.length + 1) t t.length (Nat.le_refl _)
      rw [ht, show t.length + (s.length + 1) = s.length + 1 + t.length by omega] at e2
      rw [e2] at e1
      rw [hfull, show s ++ [10] ++ t = s ++ 10 :: t by simp]
      exact e1
    simp only [mach, mach2, mstd, ↓reduceIte, Nat.reduceEqDiff, Nat.reduceAdd, Nat.reduceMul, s_nl (show s.length ≤ 8000 by omega), s_add (a := s ++ [10]) (b := t) (by simp; omega)]
    refine XX_of (Tokens_ok (s ++ [10] ++ t) g1) (fun res g2 hle hr => ?_)
    obtain ⟨m1, lb, rfl, ob, frb⟩ := hr
    refine .ret ?_
    rw [tokF_ok (by rw [hfull]; omega) hboth] at ob ⊢
    simp only at ob
    have owa2 := owa.keep m1 (fun _ _ e => e)
    have owb2 := owb.keep m1 (fun _ _ e => e)
    have hbl : (ts ++ us.map (Tk.at (s.length + 1))).length = ts.length + us.length := by simp
    obtain ⟨pb, ec1, rd1⟩ := ows_to (i := ts.length) ob (by omega)
    obtain ⟨qb, ec2, rd2⟩ := ows_from (i := ts.length) ob (by omega)
    rw [List.take_left] at rd1
    rw [List.drop_left] at rd2
    obtain ⟨xa, xc, rfl⟩ := row_shape ob.rds
    have hsl : IntKind.i64.wrap ((ts.length : Int) + (us.length : Int)) = ((ts.length + us.length : Nat) : Int) := by rw [i64w (by omega) (by omega)]; omega
    rw [hbl] at ec1 ec2 ⊢
    simp only [mach, mach2, mstd, ↓reduceIte, Nat.reduceEqDiff, Nat.reduceAdd, Nat.reduceMul, mbl, Nat.reduceLeDiff, Nat.reduceLT, Int.reduceEq, Int.reduceEq, hsl, ec1]
    refine XX_of (alike_ok ts ts g2 _ _ rd1 owa2.rds (by omega) rfl (fun i a b e1 e2 => by rw [e1] at e2; cases e2; exact ⟨rfl, rfl, rfl⟩)) (fun res g3 hle hr => ?_)
    obtain ⟨rfl, rfl⟩ := hr
    refine .ret ?_
    simp only [mach, mach2, mstd, ↓reduceIte, Nat.reduceEqDiff, Nat.reduceAdd, Nat.reduceMul, ec2]
    refine XX_of (alike_ok (us.map (Tk.at (s.length + 1))) us g3 _ _ rd2 owb2.rds (by simp; omega) (by simp) (fun i a b e1 e2 => by
      rw [List.getElem?_map, e2, Option.map_some] at e1; cases e1; exact ⟨rfl, rfl, rfl⟩)) (fun res g4 hle hr => ?_)
    obtain ⟨rfl, rfl⟩ := hr
    refine .ret ?_
    simp only [mach, mach2, mstd, ↓reduceIte, Nat.reduceEqDiff, Nat.reduceAdd, Nat.reduceMul]
    refine XLo_rule (α := Nat) (fun i => [(0, tv s), (5, .slice va ts.length vc), (8, .slice wa us.length wc), (15, .slice xa (ts.length + us.length) xc), (18, iv i)]) (fun i h' => h' = g4 ∧ i ≤ us.length) (fun i => us.length - i) 0
      ⟨rfl, Nat.zero_le _⟩ ⟨rfl, rfl, rfl, rfl, rfl, trivial⟩ ?_
    rintro j g5 Ψ3 ⟨rfl, hj⟩ next2 out2
    by_cases hlt2 : (j : Int) < (us.length : Int)
    · have hjl : j < us.length := by omega
      have z1 : (0 : Int) ≤ (j : Int) := by omega
      have z2 : (0 : Int) ≤ ((ts.length + j : Nat) : Int) := by omega
      have z3 : ((ts.length + j : Nat) : Int) < ((ts.length + us.length : Nat) : Int) := by omega
      have hxj : us[j]? = some us[j] := List.getElem?_eq_getElem hjl
      have hyj : (ts ++ us.map (Tk.at (s.length + 1)))[ts.length + j]? = some (us[j].at (s.length + 1)) := by
        rw [List.getElem?_append_right (by omega), Nat.add_sub_cancel_left, List.getElem?_map, hxj]; rfl
      obtain ⟨b1, o1, c1, q1, _, _, f1⟩ := tk_at owb2.rds hxj
      obtain ⟨b2, o2, c2, q2, _, _, f2⟩ := tk_at ob.rds hyj
      cases q1
      rw [hbl] at q2
      cases q2
      have a3 : ldc g5 b1 (o1 + j * 4 + 3) = some (iv us[j].a) := f1 3 (by omega)
      have d3 : ldc g5 b2 (o2 + (ts.length + j) * 4 + 3) = some (iv ((us[j].a + (s.length + 1) : Nat) : Int)) := f2 3 (by omega)
      have hrg := (toks_range t us (Nat.le_refl _) ht us[j] (List.getElem_mem hjl)).2
      have w1 : IntKind.i64.wrap ((ts.length : Int) + (j : Int)) = ((ts.length + j : Nat) : Int) := by rw [i64w (by omega) (by omega)]; omega
      have w2 : IntKind.i64.wrap ((s.length : Int) + 1) = ((s.length + 1 : Nat) : Int) := by rw [i64w (by omega) (by omega)]; omega
      have w3 : IntKind.i64.wrap (((s.length + 1 : Nat) : Int) + (us[j].a : Int)) = ((us[j].a + (s.length + 1) : Nat) : Int) := by rw [i64w (by omega) (by omega)]; omega
      have w4 : IntKind.i64.wrap ((j : Int) + 1) = ((j + 1 : Nat) : Int) := by rw [i64w (by omega) (by omega)]; omega
      simp only [mach, mach2, mstd, ↓reduceIte, Nat.reduceEqDiff, Nat.reduceAdd, Nat.reduceMul, hlt2, z1, z2, z3, and_self, Int.toNat_natCast, a3, d3, tx_size, w1, w2, w3, w4, ct1]
      exact next2 (j + 1) _ _ _ ⟨rfl, by omega⟩ ⟨rfl, rfl, rfl, rfl, rfl, trivial⟩ (by omega)
    · simp only [mach, mach2, mstd, ↓reduceIte, Nat.reduceEqDiff, Nat.reduceAdd, Nat.reduceMul, hlt2]
      refine out2 (.exit 2) _ _ _ _ (by intro e; cases e) ?_
      simp only [mach, mach2, mstd, ↓reduceIte, Nat.reduceEqDiff, Nat.reduceAdd, Nat.reduceMul]
      exact hΨ _ _ (fin_ret (rv1 rfl ⟨(kp.trans kk).trans m1, rfl⟩))
  have hil : i < ts.length := by omega
  have g0 : (0 : Int) ≤ (i : Int) := by omega
  have hx : ts[i]? = some ts[i] := List.getElem?_eq_getElem hil
  obtain ⟨r1, _, r2, r3⟩ := toks_from s ts (Nat.le_refl _) hs i _ hx
  rw [Nat.sub_self, Nat.sub_zero] at r2
  obtain ⟨b1, o1, c1, q1, _, _, f1⟩ := tk_at owa.rds hx
  cases q1
  have a3 : ldc g1 b1 (o1 + i * 4 + 3) = some (iv ts[i].a) := f1 3 (by omega)
  have d1 : ((ts[i].a : Int) < 0) = False := eq_false (by omega)
  have d2 : ((s.length : Int) ≤ (ts[i].a : Int)) = False := eq_false (by omega)
  have hdl : (s.drop ts[i].a).length = s.length - ts[i].a := by simp
  obtain ⟨ws, hws, hsh⟩ : ∃ ws, toks (s.drop ts[i].a).length (s.drop ts[i].a) = .ok ws ∧ ws.map (Tk.at ts[i].a) = ts.drop i := by
    have e := toks_shift ts[i].a (s.drop ts[i].a) (s.drop ts[i].a).length (Nat.le_refl _)
    rw [hdl, show s.length - ts[i].a + ts[i].a = s.length by omega, r2] at e
    rw [hdl]
    cases hh : toks (s.length - ts[i].a) (s.drop ts[i].a) with
    | error q => rw [hh] at e; cases e
    | ok ws => rw [hh] at e; simp only [shR, Except.ok.injEq] at e; exact ⟨ws, rfl, e.symm⟩
  have hwl : ws.length = ts.length - i := by have := congrArg List.length hsh; simpa using this
  have hw0 : ∃ w, ws[0]? = some w ∧ w.a = 0 := by
    have : 0 < ws.length := by omega
    refine ⟨ws[0], List.getElem?_eq_getElem this, ?_⟩
    have := congrArg (fun l => l[0]?) hsh
    simp only [List.getElem?_map, List.getElem?_drop, Nat.add_zero] at this
    rw [List.getElem?_eq_getElem (by omega), hx, Option.map_some] at this
    have := congrArg Tk.a (Option.some.inj this)
    simp only [Tk.at] at this
    omega
  obtain ⟨w, hw0, hwa⟩ := hw0
  have hw : IntKind.i64.wrap ((i : Int) + 1) = ((i + 1 : Nat) : Int) := by rw [i64w (by omega) (by omega)]; omega
  by_cases hi0 : (0 : Int) < (i : Int)
  · have hpl : i - 1 < ts.length := by omega
    have hxp : ts[i - 1]? = some ts[i - 1] := List.getElem?_eq_getElem hpl
    have hlow := r3 (i - 1) _ (by omega) hxp
    obtain ⟨b3, o3, c3, q3, _, _, f3⟩ := tk_at owa.rds hxp
    cases q3
    have p3 : ldc g1 b1 (o1 + (i - 1) * 4 + 3) = some (iv ts[i - 1].a) := f3 3 (by omega)
    have w1 : IntKind.i64.wrap ((i : Int) - 1) = ((i - 1 : Nat) : Int) := by rw [i64w (by omega) (by omega)]; omega
    have z1 : (0 : Int) ≤ ((i - 1 : Nat) : Int) := by omega
    have z2 : ((i - 1 : Nat) : Int) < (ts.length : Int) := by omega
    have d3 : ((ts[i].a : Int) ≤ (ts[i - 1].a : Int)) = False := eq_false (by omega)
    simp only [mach, mach2, mstd, ↓reduceIte, Nat.reduceEqDiff, Nat.reduceAdd, Nat.reduceMul, hlt, h50, g0, z1, z2, and_self, Int.toNat_natCast, a3, p3, d1, d2, d3, eq_true hi0, w1, tx_size, ct1, sl_from (show ts[i].a ≤ s.length by omega)]
    refine XX_of (Tokens_ok (s.drop ts[i].a) g1) (fun res g2 hle hr => ?_)
    obtain ⟨m1, lb, rfl, ob, frb⟩ := hr
    refine .ret ?_
    rw [tokF_ok (by omega) hws] at ob ⊢
    simp only at ob
    have owa2 := owa.keep m1 (fun _ _ e => e)
    obtain ⟨qb, ec2, rd2⟩ := ows_from (i := i) owa2 (by omega)
    obtain ⟨b2, o2, c2, q2, _, _, f2⟩ := tk_at ob.rds hw0
    subst q2
    have a0 : ldc g2 b2 (o2 + 3) = some (iv 0) := by
      have := f2 3 (by omega)
      rw [Nat.zero_mul, Nat.add_zero] at this
      rw [this]; show some (iv (w.a : Int)) = _; rw [hwa]; rfl
    simp only [mach, mach2, mstd, ↓reduceIte, Nat.reduceEqDiff, Nat.reduceAdd, Nat.reduceMul, mbl, Nat.reduceLeDiff, Nat.reduceLT, Int.reduceEq, Int.reduceEq, ec2]
    refine XX_of (alike_ok ws (ts.drop i) g2 _ _ ob.rds rd2 (by omega) (by rw [hwl, List.length_drop]) (fun j a b e1 e2 => by
      rw [← hsh, List.getElem?_map, e1, Option.map_some] at e2; cases e2; exact ⟨rfl, rfl, rfl⟩)) (fun res g3 hle hr => ?_)
    obtain ⟨rfl, rfl⟩ := hr
    refine .ret ?_
    have hz : ((ws.length : Int) = 0) = False := eq_false (by omega)
    have hz2 : ((0 : Int) < (ws.length : Int)) = True := eq_true (by omega)
    simp only [mach, mach2, mstd, ↓reduceIte, Nat.reduceEqDiff, Nat.reduceAdd, Nat.reduceMul, hz, hz2, Int.le_refl, and_self, Int.toNat_zero, Nat.zero_mul, Nat.add_zero, a0, Int.reduceEq, hw]
    exact next (i + 1) _ _ _ ⟨by omega, kk.trans m1⟩ ⟨rfl, rfl, rfl, rfl, rfl, trivial⟩ (by omega)
  · simp only [mach, mach2, mstd, ↓reduceIte, Nat.reduceEqDiff, Nat.reduceAdd, Nat.reduceMul, hlt, h50, g0, and_self, Int.toNat_natCast, a3, d1, d2, hi0, tx_size, ct1, sl_from (show ts[i].a ≤ s.length by omega)]
    refine XX_of (Tokens_ok (s.drop ts[i].a) g1) (fun res g2 hle hr => ?_)
    obtain ⟨m1, lb, rfl, ob, frb⟩ := hr
    refine .ret ?_
    rw [tokF_ok (by omega) hws] at ob ⊢
    simp only at ob
    have owa2 := owa.keep m1 (fun _ _ e => e)
    obtain ⟨qb, ec2, rd2⟩ := ows_from (i := i) owa2 (by omega)
    obtain ⟨b2, o2, c2, q2, _, _, f2⟩ := tk_at ob.rds hw0
    subst q2
    have a0 : ldc g2 b2 (o2 + 3) = some (iv 0) := by
      have := f2 3 (by omega)
      rw [Nat.zero_mul, Nat.add_zero] at this
      rw [this]; show some (iv (w.a : Int)) = _; rw [hwa]; rfl
    simp only [mach, mach2, mstd, ↓reduceIte, Nat.reduceEqDiff, Nat.reduceAdd, Nat.reduceMul, mbl, Nat.reduceLeDiff, Nat.reduceLT, Int.reduceEq, Int.reduceEq, ec2]
    refine XX_of (alike_ok ws (ts.drop i) g2 _ _ ob.rds rd2 (by omega) (by rw [hwl, List.length_drop]) (fun j a b e1 e2 => by
      rw [← hsh, List.getElem?_map, e1, Option.map_some] at e2; cases e2; exact ⟨rfl, rfl, rfl⟩)) (fun res g3 hle hr => ?_)
    obtain ⟨rfl, rfl⟩ := hr
    refine .ret ?_
    have hz : ((ws.length : Int) = 0) = False := eq_false (by omega)
    have hz2 : ((0 : Int) < (ws.length : Int)) = True := eq_true (by omega)
    simp only [mach, mach2, mstd, ↓reduceIte, Nat.reduceEqDiff, Nat.reduceAdd, Nat.reduceMul, hz, hz2, Int.le_refl, and_self, Int.toNat_zero, Nat.zero_mul, Nat.add_zero, a0, Int.reduceEq, hw]
    exact next (i + 1) _ _ _ ⟨by omega, kk.trans m1⟩ ⟨rfl, rfl, rfl, rfl, rfl, trivial⟩ (by omega)
end Go.S07

/- Tokens: package variables that are laid. -/
set_option linter.unusedVariables false
set_option linter.unusedSimpArgs false
namespace Go.S07
open Go Go.Eng Go.Proofs Go.Proofs.YtobbonpebopafaaDoor

theorem iface_one {P : Program} {W : World} {fuel : Nat} {t : TypeId} {ms : Array (String × TypeId)} {cs : List Value} {n : String} {d : DataW Unit} {q : List MemPlace} {sp : Nat → Bool} (hu : P.underlying t = some (.interface ms))
    (h : DataW.trod (fun _ => ()) P W 0 sp false fuel t cs = some (.iface n d, q)) : ∃ u v, cs = [.iface u v] := by
  cases fuel with
  | zero => simp [DataW.trod] at h
  | succ m =>
    unfold DataW.trod at h
    rw [hu] at h
    split at h <;> simp_all
theorem var_heap {P : Program} {W : World} {n : String} {g : Nat} {cs : Array Value} (hg : P.globalNamed n = some g) (h : W.var? P n = some cs) : ∃ e fr, W.heap[g]? = some (.cells cs e fr) := by
  simp only [World.var?, hg, Option.bind_some] at h
  split at h
  · cases h; exact ⟨_, _, by assumption⟩
  · cases h

def laidL : List (String × DataW Unit) := [("math/bits.deBruijn32tab", Rows.laid_math_bits_deBruijn32tab), ("math/bits.deBruijn64tab", Rows.laid_math_bits_deBruijn64tab), ("internal/strconv.uint64pow10", Rows.laid_internal_strconv_uint64pow10), ("strconv.ErrRange", Rows.laid_strconv_ErrRange), ("strconv.ErrSyntax", Rows.laid_strconv_ErrSyntax)]

theorem gPow : Tryd.prog.globalNamed "internal/strconv.uint64pow10" = some 3 := by kernel_rfl
theorem gRng : Tryd.prog.globalNamed "strconv.ErrRange" = some 1 := by kernel_rfl
theorem gSyn : Tryd.prog.globalNamed "strconv.ErrSyntax" = some 0 := by kernel_rfl
theorem tPow : (Tryd.prog.globals[3]?).map (·.type) = some 102 := by kernel_rfl
theorem tRng : (Tryd.prog.globals[1]?).map (·.type) = some 53 := by kernel_rfl
theorem tSyn : (Tryd.prog.globals[0]?).map (·.type) = some 53 := by kernel_rfl
theorem uPow : Tryd.prog.underlying 102 = some (.array 20 79) := by kernel_rfl
theorem uErr : Tryd.prog.underlying 53 = some (.interface #[("Error", 57)]) := by kernel_rfl
theorem uU64 : Tryd.prog.underlying 79 = some (.int .u64) := by kernel_rfl
theorem cPow : Tryd.prog.cellsOf 102 = 20 := by kernel_rfl
theorem cU64 : Tryd.prog.cellsOf 79 = 1 := by kernel_rfl
theorem gsz : Tryd.prog.globals.size = 6 := by kernel_rfl
theorem tab0 : Tab Tryd.prog 0 = some [.complex .f64 0 0] := by kernel_rfl
theorem tab1 : Tab Tryd.prog 1 = some [.complex .f64 0 0] := by kernel_rfl
theorem tab2 : Tab Tryd.prog 2 = none := by kernel_rfl
theorem tab3 : Tab Tryd.prog 3 = some ((List.range 20).map fun i => Value.int .u64 (10 ^ i)) := by kernel_rfl
theorem tab4 : Tab Tryd.prog 4 = none := by kernel_rfl
theorem tab5 : Tab Tryd.prog 5 = none := by kernel_rfl
theorem powD : (Rows.laid_internal_strconv_uint64pow10 : DataW Unit) = .agg ((List.range 20).map fun i => .lit (.int .u64 (10 ^ i))) := by rfl

set_option maxRecDepth 100000 in
theorem tab_of_laid {W : World} (h : laidMetH Tryd.prog laidL W) : TabOk Tryd.prog W.heap := by
  rw [MakeChecks.laidMetH_plain _ _ _ (by kernel_rfl)] at h
  obtain ⟨ps, ⟨_, _, _, _, _, _, _, _, _, _, ⟨_, _, _, _, _, _, _, _, _, _, ⟨g3, t3, cs3, f3, p3, q3, hg3, ht3, hv3, hd3, ⟨g1, t1, cs1, f1, p1, q1, hg1, ht1, hv1, hd1, ⟨g0, t0, cs0, f0, p0, q0, hg0, ht0, hv0, hd0, _, _⟩, _⟩, _⟩, _⟩, _⟩, _, _⟩ := h
  obtain rfl := Option.some.inj (gPow.symm.trans hg3)
  obtain rfl := Option.some.inj (gRng.symm.trans hg1)
  obtain rfl := Option.some.inj (gSyn.symm.trans hg0)
  obtain rfl := Option.some.inj (tPow.symm.trans ht3)
  obtain rfl := Option.some.inj (tRng.symm.trans ht1)
  obtain rfl := Option.some.inj (tSyn.symm.trans ht0)
  obtain ⟨e3, fr3, hh3⟩ := var_heap hg3 hv3
  obtain ⟨e1, fr1, hh1⟩ := var_heap hg1 hv1
  obtain ⟨e0, fr0, hh0⟩ := var_heap hg0 hv0
  obtain ⟨u1, v1, hc1⟩ := iface_one uErr hd1
  obtain ⟨u0, v0, hc0⟩ := iface_one uErr hd0
  intro g cs hg
  match g, hg with
  | 0, hg =>
    rw [tab0] at hg; cases hg
    refine ⟨cs0, e0, fr0, hh0, ?_⟩
    rw [hc0]
    exact .cons (.unk _ _ _ rfl) (.nil _)
  | 1, hg =>
    rw [tab1] at hg; cases hg
    refine ⟨cs1, e1, fr1, hh1, ?_⟩
    rw [hc1]
    exact .cons (.unk _ _ _ rfl) (.nil _)
  | 2, hg => rw [tab2] at hg; cases hg
  | 3, hg =>
    rw [tab3] at hg; cases hg
    refine ⟨cs3, e3, fr3, hh3, ?_⟩
    obtain ⟨xs, m, rfl, hx, hlen, hn, hel⟩ := DataW.trod_array uPow hd3
    rw [cPow] at hlen
    rw [powD] at hx
    simp only [Prod.mk.injEq, DataW.agg.injEq] at hx
    have hkey : ∀ i, i < 20 → cs3.toList[i]? = some (.int .u64 (10 ^ i)) := by
      intro i hi
      have h1 := hel i hi
      rw [cU64, Nat.mul_one, List.getElem?_eq_getElem (by omega)] at h1
      obtain ⟨n, k1, k2, _⟩ := DataW.trod_int uU64 h1
      have h2 := congrArg (fun l => l[i]?) hx.1
      simp only [List.getElem?_map] at h2
      rw [List.getElem?_range hi, List.getElem?_eq_getElem (by omega), Option.map_some, Option.map_some, k2] at h2
      have h3 : n = 10 ^ i := by
        have := Option.some.inj h2
        simp only [DataW.lit.injEq, Lit.int.injEq, true_and] at this
        exact this.symm
      have h4 := congrArg (fun l => l[0]?) k1
      simp only [List.getElem?_take, Nat.zero_lt_one, if_true, List.getElem?_drop, Nat.add_zero] at h4
      rw [h4, h3]; rfl
    refine ⟨by simp [hlen], fun i u v hu hv => ?_⟩
    have hi : i < 20 := by have := (List.getElem?_eq_some_iff.1 hu).1; simpa using this
    rw [hkey i hi] at hv
    cases hv
    rw [List.getElem?_map, List.getElem?_range hi] at hu
    cases hu
    exact .int _ _
  | 4, hg => rw [tab4] at hg; cases hg
  | 5, hg => rw [tab5] at hg; cases hg
  | g + 6, hg =>
    unfold Tab at hg
    rw [Array.getElem?_eq_none (by rw [gsz]; omega)] at hg
    cases hg

/-- The door's own heap meets the condition. -/
theorem door_met (os : Os) (args : Array Value) : laidMetH Tryd.prog laidL ((World.doorLaid Tryd.prog 400 os).forCall (fun _ _ => 0) ⟨#[], args, []⟩).memory :=
  laidMetH_of_parts3 (fuel := 8) (laidMet_of_run' 8 (by kernel_rfl) (by kernel_rfl)) (by kernel_rfl) (by kernel_rfl)
end Go.S07
