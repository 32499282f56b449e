import Derived.Test.YtijanegfgaphoaaGreatDoorPk19
import Derived.Test.YtijanegfgaphoaaGreatDoorPk16
set_option linter.unusedVariables false
set_option linter.unusedSimpArgs false
namespace Go.S17
open Go Go.Eng Go.Proofs Go.Chk
section
variable {h : AH} {b : Nat} {C : Cx} {vi vc vt vp vk : Value}
theorem rexpr_none (s : Ro h b C vi vc vt vp vk none) (d w : Int) : Gets Tryz.prog 45 [.pointer (some ⟨b, 0, none⟩), iv d, iv w] h (RfO h b C vi vc vt vp vk none) := by
  refine Gets.of (keep := false) hP (draw_ok hM) k45 (by rfl) (fun Ψ hΨ => ?_)
  simp only [mach, mach2, mstd, ↓reduceIte, Nat.reduceEqDiff, Nat.reduceAdd, Nat.reduceMul, r45]
  refine XX_of (want_ok s 1 9 (by omega)) (fun res h1 hle hn => ?_)
  obtain ⟨kp, rfl, s1⟩ := hn
  refine .ret ?_
  rw [wt_none] at s1 ⊢
  obtain ⟨p, s1⟩ := s1
  simp only [mach, mach2, mstd, ↓reduceIte, Nat.reduceEqDiff, Nat.reduceAdd, Nat.reduceMul, s1.own.cells.ld, mbl, Nat.reduceLeDiff, Nat.reduceLT, Int.reduceEq]
  exact hΨ _ _ (fin_ret (rv0 ⟨kp, rfl, p, s1⟩))
theorem wt_bl1' {n : Int} {q : Nat} : wt C 1 (n - 1) (some q) = match bl C n q with
    | some (x, r) => if 0 < x then (x, some r) else (1, none)
    | none => (1, none) := wt_bl1
set_option maxHeartbeats 2000000 in
theorem rexpr_ok (z : Sz C) (hc : consOk C) (w : Int) (hw : -9000000000000000000 <= w) (hw2 : w <= 9223372036854775807) : ∀ (f : Nat) (h : AH) (p : Nat) (d : Int), C.code.length - p < f -> 0 <= d -> d <= 8 + 8 * (p : Int) -> Ro h b C vi vc vt vp vk (some p) ->
    Gets Tryz.prog 45 [.pointer (some ⟨b, 0, none⟩), iv d, iv w] h (RfO h b C vi vc vt vp vk (expr C f d w p)) := by
  intro f
  induction f with
  | zero => intro h p d hf; omega
  | succ f ih =>
    intro h p d hf hd0 hdp s
    refine Gets.of (keep := false) hP (draw_ok hM) k45 (by rfl) (fun Ψ hΨ => ?_)
    have s0 : Rf h b C vi vc vt vp vk p false := s
    have hl := s0.hl
    have hpl := s0.le
    have hd : -9000000000000000000 <= d := by omega
    have hd2 : d <= 9223372036854775807 := by omega
    obtain ⟨ta, tc, hvt⟩ := s0.im.rt
    simp only [mach, mach2, mstd, ↓reduceIte, Nat.reduceEqDiff, Nat.reduceAdd, Nat.reduceMul, r45]
    refine XX_of (want_ok s 1 9 (by omega)) (fun res h1 hle hn => ?_)
    obtain ⟨kp, rfl, s1⟩ := hn
    refine .ret ?_
    rcases wt_cases C 1 9 (some p) with ⟨p', x, q, eo, e1, x0, x9, e2⟩ | ⟨e2, hno⟩
    · cases eo
      have g1 := nx_on e1
      rw [e2] at s1 ⊢
      have s1r : Rf h1 b C vi vc vt vp vk q false := s1
      have s1' : Ro h1 b C vi vc vt vp vk (some q) := s1
      by_cases d1 : x = 1
      · simp only [mach, mach2, mstd, ↓reduceIte, Nat.reduceEqDiff, Nat.reduceAdd, Nat.reduceMul, s1r.own.cells.ld, mbl, Nat.reduceLeDiff, Nat.reduceLT, Int.reduceEq, eq_true d1]
        refine XX_of (roperand_ok s1' z d w hd hd2 hw hw2) (fun res h9 hle9 hn => ?_)
        obtain ⟨kp9, rfl, s9⟩ := hn
        refine .ret ?_
        simp only [mach, mach2, mstd, ↓reduceIte, Nat.reduceEqDiff, Nat.reduceAdd, Nat.reduceMul, mbl, Nat.reduceLeDiff, Nat.reduceLT, Int.reduceEq]
        refine hΨ _ _ (fin_norm ⟨kp.trans kp9, rfl, ?_⟩)
        rw [show expr C (f + 1) d w p = (some q).bind (oprnd C d w) by simp [expr, e1, d1]]
        exact s9
      by_cases d2 : x = 2
      · simp only [mach, mach2, mstd, ↓reduceIte, Nat.reduceEqDiff, Nat.reduceAdd, Nat.reduceMul, s1r.own.cells.ld, mbl, Nat.reduceLeDiff, Nat.reduceLT, Int.reduceEq, d1, eq_true d2]
        refine XX_of (want_ok s1' 1 8 (by omega)) (fun res h2 hle2 hn => ?_)
        obtain ⟨kp2, rfl, s2⟩ := hn
        refine .ret ?_
        have ew : wt C 1 8 (some q) = _ := wt_bl1' (n := 9)
        cases hb : bl C 9 q with
        | none =>
          rw [hb] at ew
          simp only at ew
          rw [ew] at s2 ⊢
          simp only [mach, mach2, mstd, ↓reduceIte, Nat.reduceEqDiff, Nat.reduceAdd, Nat.reduceMul, mbl, Nat.reduceLeDiff, Nat.reduceLT, Int.reduceEq, show IntKind.i64.wrap ((1 : Int) + 1) = 2 from rfl]
          refine XX_of (roperands_ok s2 z 2 d w hd hd2 hw hw2) (fun res h9 hle9 hn => ?_)
          obtain ⟨kp9, rfl, s9⟩ := hn
          refine .ret ?_
          simp only [mach, mach2, mstd, ↓reduceIte, Nat.reduceEqDiff, Nat.reduceAdd, Nat.reduceMul, mbl, Nat.reduceLeDiff, Nat.reduceLT, Int.reduceEq]
          refine hΨ _ _ (fin_norm ⟨(kp.trans kp2).trans kp9, rfl, ?_⟩)
          rw [show expr C (f + 1) d w p = (none : Option Nat).bind (oprnds C d w 2) by simp [expr, e1, d1, d2, hb]]
          exact s9
        | some v =>
          obtain ⟨n, r⟩ := v
          rw [hb] at ew
          simp only at ew
          by_cases n0 : 0 < n
          · rw [if_pos n0] at ew
            rw [ew] at s2 ⊢
            have hb5 := bl_inv hb
            simp only [mach, mach2, mstd, ↓reduceIte, Nat.reduceEqDiff, Nat.reduceAdd, Nat.reduceMul, mbl, Nat.reduceLeDiff, Nat.reduceLT, Int.reduceEq, show IntKind.i64.wrap (n + 1) = n + 1 from i64w (by omega) (by omega)]
            refine XX_of (roperands_ok s2 z (n + 1) d w hd hd2 hw hw2) (fun res h9 hle9 hn => ?_)
            obtain ⟨kp9, rfl, s9⟩ := hn
            refine .ret ?_
            simp only [mach, mach2, mstd, ↓reduceIte, Nat.reduceEqDiff, Nat.reduceAdd, Nat.reduceMul, mbl, Nat.reduceLeDiff, Nat.reduceLT, Int.reduceEq]
            refine hΨ _ _ (fin_norm ⟨(kp.trans kp2).trans kp9, rfl, ?_⟩)
            rw [show expr C (f + 1) d w p = (some r).bind (oprnds C d w (n + 1).toNat) by simp [expr, e1, d1, d2, hb, n0]]
            exact s9
          · rw [if_neg n0] at ew
            rw [ew] at s2 ⊢
            simp only [mach, mach2, mstd, ↓reduceIte, Nat.reduceEqDiff, Nat.reduceAdd, Nat.reduceMul, mbl, Nat.reduceLeDiff, Nat.reduceLT, Int.reduceEq, show IntKind.i64.wrap ((1 : Int) + 1) = 2 from rfl]
            refine XX_of (roperands_ok s2 z 2 d w hd hd2 hw hw2) (fun res h9 hle9 hn => ?_)
            obtain ⟨kp9, rfl, s9⟩ := hn
            refine .ret ?_
            simp only [mach, mach2, mstd, ↓reduceIte, Nat.reduceEqDiff, Nat.reduceAdd, Nat.reduceMul, mbl, Nat.reduceLeDiff, Nat.reduceLT, Int.reduceEq]
            refine hΨ _ _ (fin_norm ⟨(kp.trans kp2).trans kp9, rfl, ?_⟩)
            rw [show expr C (f + 1) d w p = (none : Option Nat).bind (oprnds C d w 2) by simp [expr, e1, d1, d2, hb, n0]]
            exact s9
      by_cases d3 : x = 3
      · simp only [mach, mach2, mstd, ↓reduceIte, Nat.reduceEqDiff, Nat.reduceAdd, Nat.reduceMul, s1r.own.cells.ld, mbl, Nat.reduceLeDiff, Nat.reduceLT, Int.reduceEq, d1, d2, eq_true d3]
        refine XX_of (rfields_ok s1' z hc d w hd hd2 hw hw2) (fun res h9 hle9 hn => ?_)
        obtain ⟨kp9, rfl, s9⟩ := hn
        refine .ret ?_
        simp only [mach, mach2, mstd, ↓reduceIte, Nat.reduceEqDiff, Nat.reduceAdd, Nat.reduceMul, mbl, Nat.reduceLeDiff, Nat.reduceLT, Int.reduceEq]
        refine hΨ _ _ (fin_norm ⟨kp.trans kp9, rfl, ?_⟩)
        rw [show expr C (f + 1) d w p = (some q).bind (flds C d w) by simp [expr, e1, d1, d2, d3]]
        exact s9
      by_cases d4 : x = 4
      · simp only [mach, mach2, mstd, ↓reduceIte, Nat.reduceEqDiff, Nat.reduceAdd, Nat.reduceMul, s1r.own.cells.ld, mbl, Nat.reduceLeDiff, Nat.reduceLT, Int.reduceEq, d1, d2, d3, eq_true d4]
        refine XX_of (want_ok s1' 1 13 (by omega)) (fun res h2 hle2 hn => ?_)
        obtain ⟨kp2, rfl, s2⟩ := hn
        refine .ret ?_
        have ew : wt C 1 13 (some q) = _ := wt_bl1' (n := 14)
        cases hb : bl C 14 q with
        | none =>
          rw [hb] at ew
          simp only at ew
          rw [ew] at s2 ⊢
          simp only [mach, mach2, mstd, ↓reduceIte, Nat.reduceEqDiff, Nat.reduceAdd, Nat.reduceMul, mbl, Nat.reduceLeDiff, Nat.reduceLT, Int.reduceEq, show ¬ (1 : Int) = 12 by omega, show ¬ (1 : Int) = 13 by omega]
          refine XX_of (want_ok s2 2 2 (by omega)) (fun res h3 hle3 hn => ?_)
          obtain ⟨kp3, rfl, s3⟩ := hn
          refine .ret ?_
          rw [wt_exc'] at s3
          simp only at s3
          simp only [mach, mach2, mstd, ↓reduceIte, Nat.reduceEqDiff, Nat.reduceAdd, Nat.reduceMul, mbl, Nat.reduceLeDiff, Nat.reduceLT, Int.reduceEq]
          refine XX_of (roperands_ok s3 z 2 d w hd hd2 hw hw2) (fun res h9 hle9 hn => ?_)
          obtain ⟨kp9, rfl, s9⟩ := hn
          refine .ret ?_
          simp only [mach, mach2, mstd, ↓reduceIte, Nat.reduceEqDiff, Nat.reduceAdd, Nat.reduceMul, mbl, Nat.reduceLeDiff, Nat.reduceLT, Int.reduceEq]
          refine hΨ _ _ (fin_norm ⟨((kp.trans kp2).trans kp3).trans kp9, rfl, ?_⟩)
          rw [show expr C (f + 1) d w p = ((none : Option Nat).bind (exc C 2)).bind (oprnds C d w 2) by simp [expr, e1, d1, d2, d3, d4, hb]]
          exact s9
        | some v =>
          obtain ⟨n, r⟩ := v
          rw [hb] at ew
          simp only at ew
          by_cases n0 : 0 < n
          · have n1 : 1 <= n := by omega
            rw [if_pos n0] at ew
            rw [ew] at s2 ⊢
            have ee : expr C (f + 1) d w p = ((some r).bind (exc C (arg1 n))).bind (oprnds C d w (arg1 n).toNat) := by
              simp only [expr, e1, d1, d2, d3, if_true, if_false, d4, hb, n1, Option.bind_some, show ¬ (4 : Int) = 1 by omega, show ¬ (4 : Int) = 2 by omega, show ¬ (4 : Int) = 3 by omega]
              cases exc C (arg1 n) r <;> rfl
            by_cases a12 : n = 12
            · simp only [mach, mach2, mstd, ↓reduceIte, Nat.reduceEqDiff, Nat.reduceAdd, Nat.reduceMul, mbl, Nat.reduceLeDiff, Nat.reduceLT, Int.reduceEq, eq_true a12]
              refine XX_of (want_ok s2 1 1 (by omega)) (fun res h3 hle3 hn => ?_)
              obtain ⟨kp3, rfl, s3⟩ := hn
              refine .ret ?_
              rw [wt_exc'] at s3
              simp only at s3
              simp only [mach, mach2, mstd, ↓reduceIte, Nat.reduceEqDiff, Nat.reduceAdd, Nat.reduceMul, mbl, Nat.reduceLeDiff, Nat.reduceLT, Int.reduceEq]
              refine XX_of (roperands_ok s3 z 1 d w hd hd2 hw hw2) (fun res h9 hle9 hn => ?_)
              obtain ⟨kp9, rfl, s9⟩ := hn
              refine .ret ?_
              simp only [mach, mach2, mstd, ↓reduceIte, Nat.reduceEqDiff, Nat.reduceAdd, Nat.reduceMul, mbl, Nat.reduceLeDiff, Nat.reduceLT, Int.reduceEq]
              refine hΨ _ _ (fin_norm ⟨((kp.trans kp2).trans kp3).trans kp9, rfl, ?_⟩)
              rw [ee, show arg1 n = 1 by simp [arg1, a12]]
              exact s9
            · by_cases a13 : n = 13
              · simp only [mach, mach2, mstd, ↓reduceIte, Nat.reduceEqDiff, Nat.reduceAdd, Nat.reduceMul, mbl, Nat.reduceLeDiff, Nat.reduceLT, Int.reduceEq, a12, eq_true a13]
                refine XX_of (want_ok s2 1 1 (by omega)) (fun res h3 hle3 hn => ?_)
                obtain ⟨kp3, rfl, s3⟩ := hn
                refine .ret ?_
                rw [wt_exc'] at s3
                simp only at s3
                simp only [mach, mach2, mstd, ↓reduceIte, Nat.reduceEqDiff, Nat.reduceAdd, Nat.reduceMul, mbl, Nat.reduceLeDiff, Nat.reduceLT, Int.reduceEq]
                refine XX_of (roperands_ok s3 z 1 d w hd hd2 hw hw2) (fun res h9 hle9 hn => ?_)
                obtain ⟨kp9, rfl, s9⟩ := hn
                refine .ret ?_
                simp only [mach, mach2, mstd, ↓reduceIte, Nat.reduceEqDiff, Nat.reduceAdd, Nat.reduceMul, mbl, Nat.reduceLeDiff, Nat.reduceLT, Int.reduceEq]
                refine hΨ _ _ (fin_norm ⟨((kp.trans kp2).trans kp3).trans kp9, rfl, ?_⟩)
                rw [ee, show arg1 n = 1 by simp [arg1, a13]]
                exact s9
              · simp only [mach, mach2, mstd, ↓reduceIte, Nat.reduceEqDiff, Nat.reduceAdd, Nat.reduceMul, mbl, Nat.reduceLeDiff, Nat.reduceLT, Int.reduceEq, a12, a13]
                refine XX_of (want_ok s2 2 2 (by omega)) (fun res h3 hle3 hn => ?_)
                obtain ⟨kp3, rfl, s3⟩ := hn
                refine .ret ?_
                rw [wt_exc'] at s3
                simp only at s3
                simp only [mach, mach2, mstd, ↓reduceIte, Nat.reduceEqDiff, Nat.reduceAdd, Nat.reduceMul, mbl, Nat.reduceLeDiff, Nat.reduceLT, Int.reduceEq]
                refine XX_of (roperands_ok s3 z 2 d w hd hd2 hw hw2) (fun res h9 hle9 hn => ?_)
                obtain ⟨kp9, rfl, s9⟩ := hn
                refine .ret ?_
                simp only [mach, mach2, mstd, ↓reduceIte, Nat.reduceEqDiff, Nat.reduceAdd, Nat.reduceMul, mbl, Nat.reduceLeDiff, Nat.reduceLT, Int.reduceEq]
                refine hΨ _ _ (fin_norm ⟨((kp.trans kp2).trans kp3).trans kp9, rfl, ?_⟩)
                rw [ee, show arg1 n = 2 by simp [arg1, a12, a13]]
                exact s9
          · rw [if_neg n0] at ew
            rw [ew] at s2 ⊢
            have n1 : ¬ 1 <= n := by omega
            simp only [mach, mach2, mstd, ↓reduceIte, Nat.reduceEqDiff, Nat.reduceAdd, Nat.reduceMul, mbl, Nat.reduceLeDiff, Nat.reduceLT, Int.reduceEq, show ¬ (1 : Int) = 12 by omega, show ¬ (1 : Int) = 13 by omega]
            refine XX_of (want_ok s2 2 2 (by omega)) (fun res h3 hle3 hn => ?_)
            obtain ⟨kp3, rfl, s3⟩ := hn
            refine .ret ?_
            rw [wt_exc'] at s3
            simp only at s3
            simp only [mach, mach2, mstd, ↓reduceIte, Nat.reduceEqDiff, Nat.reduceAdd, Nat.reduceMul, mbl, Nat.reduceLeDiff, Nat.reduceLT, Int.reduceEq]
            refine XX_of (roperands_ok s3 z 2 d w hd hd2 hw hw2) (fun res h9 hle9 hn => ?_)
            obtain ⟨kp9, rfl, s9⟩ := hn
            refine .ret ?_
            simp only [mach, mach2, mstd, ↓reduceIte, Nat.reduceEqDiff, Nat.reduceAdd, Nat.reduceMul, mbl, Nat.reduceLeDiff, Nat.reduceLT, Int.reduceEq]
            refine hΨ _ _ (fin_norm ⟨((kp.trans kp2).trans kp3).trans kp9, rfl, ?_⟩)
            rw [show expr C (f + 1) d w p = ((none : Option Nat).bind (exc C 2)).bind (oprnds C d w 2) by simp [expr, e1, d1, d2, d3, d4, hb, n1]]
            exact s9
      by_cases d5 : x = 5
      · simp only [mach, mach2, mstd, ↓reduceIte, Nat.reduceEqDiff, Nat.reduceAdd, Nat.reduceMul, s1r.own.cells.ld, mbl, Nat.reduceLeDiff, Nat.reduceLT, Int.reduceEq, d1, d2, d3, d4, eq_true d5]
        refine XX_of (want_ok s1' 1 200000 (by omega)) (fun res h2 hle2 hn => ?_)
        obtain ⟨kp2, rfl, s2⟩ := hn
        refine .ret ?_
        have k12 := kp.trans kp2
        rcases wt_cases C 1 200000 (some q) with ⟨q', n, r, eo, en, n0, n9, ew⟩ | ⟨ew, hnn⟩
        · cases eo
          have g2 := nx_on en
          rw [ew] at s2 ⊢
          have hdn : IntKind.i64.wrap (d + n) = d + n := i64w (by omega) (by omega)
          simp only [mach, mach2, mstd, ↓reduceIte, Nat.reduceEqDiff, Nat.reduceAdd, Nat.reduceMul, mbl, Nat.reduceLeDiff, Nat.reduceLT, Int.reduceEq]
          refine XLo_rule (α := Nat × Option Nat) (fun a => [(0, .pointer (some ⟨b, 0, none⟩)), (1, iv d), (2, iv w), (10, iv n), (11, iv a.1)])
            (fun a h' => a.1 <= n.toNat /\ Keep (· = b) h2 h' /\ Ro h' b C vi vc vt vp vk a.2 /\ (∀ t, a.2 = some t -> a.1 <= t) /\ things C (d + n) w n.toNat r = a.2.bind (things C (d + n) w (n.toNat - a.1))) (fun a => n.toNat - a.1) (0, some r)
            ⟨Nat.zero_le _, .refl _ _, s2, fun t _ => Nat.zero_le _, rfl⟩ ⟨rfl, rfl, rfl, rfl, rfl, trivial⟩ ?_
          rintro ⟨i, o1⟩ h3 Ψ2 ⟨i1, k3, s3, i3, ie⟩ next out
          simp only at i1 s3 i3 ie
          by_cases hi : (i : Int) < n
          · cases o1 with
            | none =>
              obtain ⟨p3, s3⟩ := s3
              simp only [mach, mach2, mstd, ↓reduceIte, Nat.reduceEqDiff, Nat.reduceAdd, Nat.reduceMul, hi, s3.own.cells.ld, mbl, Nat.reduceLeDiff, Nat.reduceLT, Int.reduceEq]
              refine out (.exit 1) _ _ _ _ (by intro e; cases e) ?_
              simp only [mach, mach2, mstd, ↓reduceIte, Nat.reduceEqDiff, Nat.reduceAdd, Nat.reduceMul, mbl, Nat.reduceLeDiff, Nat.reduceLT, Int.reduceEq, hdn]
              refine XX_of (rexpr_none ⟨p3, s3⟩ (d + n) w) (fun res h9 hle9 hn => ?_)
              obtain ⟨kp9, rfl, s9⟩ := hn
              refine .ret ?_
              simp only [mach, mach2, mstd, ↓reduceIte, Nat.reduceEqDiff, Nat.reduceAdd, Nat.reduceMul, mbl, Nat.reduceLeDiff, Nat.reduceLT, Int.reduceEq]
              refine hΨ _ _ (fin_norm ⟨(k12.trans k3).trans kp9, rfl, ?_⟩)
              rw [show expr C (f + 1) d w p = none by
                simp only [expr, e1]
                rw [if_neg d1, if_neg d2, if_neg d3, if_neg d4, if_pos d5]
                cases hb : bl C 200000 q with
                | none => rfl
                | some v =>
                  obtain ⟨v1, v2⟩ := v
                  obtain ⟨hv2, hcd, _, _, _⟩ := bl_inv hb
                  have hnx : nx C q = some (v1, q + 1) := by unfold nx; rw [hcd]
                  rw [en] at hnx
                  simp only [Option.some.injEq, Prod.mk.injEq] at hnx
                  obtain ⟨hx1, hq1⟩ := hnx
                  rw [hv2, <- hx1, <- hq1]
                  simp only
                  rw [if_pos (by omega), hdn, ie]
                  rfl]
              exact s9
            | some p3 =>
              have s3r : Rf h3 b C vi vc vt vp vk p3 false := s3
              have i4 := i3 p3 rfl
              have := s3r.le
              have hwi : IntKind.i64.wrap ((i : Int) + 1) = ((i + 1 : Nat) : Int) := by rw [i64w (by omega) (by omega)]; omega
              simp only [mach, mach2, mstd, ↓reduceIte, Nat.reduceEqDiff, Nat.reduceAdd, Nat.reduceMul, hi, s3r.own.cells.ld, mbl, Nat.reduceLeDiff, Nat.reduceLT, Int.reduceEq, hdn]
              refine XX_of (rthing_ok s3 z hc (d + n) w (by omega) (by omega) hw hw2) (fun res h4 hle4 hn => ?_)
              obtain ⟨kp4, rfl, s4⟩ := hn
              refine .ret ?_
              simp only [mach, mach2, mstd, ↓reduceIte, Nat.reduceEqDiff, Nat.reduceAdd, Nat.reduceMul, mbl, Nat.reduceLeDiff, Nat.reduceLT, Int.reduceEq, hwi]
              refine next (i + 1, thing C (d + n) w p3) _ _ _ ⟨by omega, k3.trans kp4, s4, fun t e => ?_, ?_⟩ ⟨rfl, rfl, rfl, rfl, rfl, trivial⟩ (by simp only; omega)
              · have := thing_on t e
                simp only
                omega
              · rw [ie, Option.bind_some, show n.toNat - i = (n.toNat - (i + 1)) + 1 by omega, things]
                cases thing C (d + n) w p3 <;> rfl
          · have hi0 : n.toNat - i = 0 := by omega
            rw [hi0] at ie
            simp only [mach, mach2, mstd, ↓reduceIte, Nat.reduceEqDiff, Nat.reduceAdd, Nat.reduceMul, hi]
            refine out (.exit 1) _ _ _ _ (by intro e; cases e) ?_
            simp only [mach, mach2, mstd, ↓reduceIte, Nat.reduceEqDiff, Nat.reduceAdd, Nat.reduceMul, mbl, Nat.reduceLeDiff, Nat.reduceLT, Int.reduceEq, hdn]
            cases o1 with
            | none =>
              obtain ⟨p3, s3⟩ := s3
              refine XX_of (rexpr_none ⟨p3, s3⟩ (d + n) w) (fun res h9 hle9 hn => ?_)
              obtain ⟨kp9, rfl, s9⟩ := hn
              refine .ret ?_
              simp only [mach, mach2, mstd, ↓reduceIte, Nat.reduceEqDiff, Nat.reduceAdd, Nat.reduceMul, mbl, Nat.reduceLeDiff, Nat.reduceLT, Int.reduceEq]
              refine hΨ _ _ (fin_norm ⟨(k12.trans k3).trans kp9, rfl, ?_⟩)
              rw [show expr C (f + 1) d w p = none by
                simp only [expr, e1]
                rw [if_neg d1, if_neg d2, if_neg d3, if_neg d4, if_pos d5]
                cases hb : bl C 200000 q with
                | none => rfl
                | some v =>
                  obtain ⟨v1, v2⟩ := v
                  obtain ⟨hv2, hcd, _, _, _⟩ := bl_inv hb
                  have hnx : nx C q = some (v1, q + 1) := by unfold nx; rw [hcd]
                  rw [en] at hnx
                  simp only [Option.some.injEq, Prod.mk.injEq] at hnx
                  obtain ⟨hx1, hq1⟩ := hnx
                  rw [hv2, <- hx1, <- hq1]
                  simp only
                  rw [if_pos (by omega), hdn, ie]
                  rfl]
              exact s9
            | some t =>
              have ie : things C (d + n) w n.toNat r = some t := ie
              have hlong := things_long _ ie
              have s3r : Rf h3 b C vi vc vt vp vk t false := s3
              have := s3r.le
              have hbl : bl C 200000 q = some (n, r) := by unfold bl; rw [en]; simp only; rw [if_pos (by omega)]
              refine XX_of (ih h3 t (d + n) (by omega) (by omega) (by omega) s3) (fun res h9 hle9 hn => ?_)
              obtain ⟨kp9, rfl, s9⟩ := hn
              refine .ret ?_
              simp only [mach, mach2, mstd, ↓reduceIte, Nat.reduceEqDiff, Nat.reduceAdd, Nat.reduceMul, mbl, Nat.reduceLeDiff, Nat.reduceLT, Int.reduceEq]
              refine hΨ _ _ (fin_norm ⟨(k12.trans k3).trans kp9, rfl, ?_⟩)
              rw [show expr C (f + 1) d w p = expr C f (d + n) w t by simp only [expr, e1]; rw [if_neg d1, if_neg d2, if_neg d3, if_neg d4, if_pos d5, hbl]; simp only; rw [if_pos (by omega), hdn, ie]]
              exact s9
        · rw [ew] at s2 ⊢
          obtain ⟨p3, s3⟩ := s2
          have hd1 : IntKind.i64.wrap (d + 1) = d + 1 := i64w (by omega) (by omega)
          simp only [mach, mach2, mstd, ↓reduceIte, Nat.reduceEqDiff, Nat.reduceAdd, Nat.reduceMul, mbl, Nat.reduceLeDiff, Nat.reduceLT, Int.reduceEq]
          refine XLo_rule (α := Nat) (fun _ => [(0, .pointer (some ⟨b, 0, none⟩)), (1, iv d), (2, iv w), (10, iv 1), (11, iv 0)])
            (fun _ h' => h' = h2) (fun _ => 0) 0 rfl ⟨rfl, rfl, rfl, rfl, rfl, trivial⟩ ?_
          rintro _ g1 Ψ3 rfl _ out2
          have x01 : (0 : Int) < 1 := by omega
          simp only [mach, mach2, mstd, ↓reduceIte, Nat.reduceEqDiff, Nat.reduceAdd, Nat.reduceMul, x01, s3.own.cells.ld, mbl, Nat.reduceLeDiff, Nat.reduceLT, Int.reduceEq]
          refine out2 (.exit 1) _ _ _ _ (by intro e; cases e) ?_
          simp only [mach, mach2, mstd, ↓reduceIte, Nat.reduceEqDiff, Nat.reduceAdd, Nat.reduceMul, mbl, Nat.reduceLeDiff, Nat.reduceLT, Int.reduceEq, hd1]
          refine XX_of (rexpr_none ⟨p3, s3⟩ (d + 1) w) (fun res h9 hle9 hn => ?_)
          obtain ⟨kp9, rfl, s9⟩ := hn
          refine .ret ?_
          simp only [mach, mach2, mstd, ↓reduceIte, Nat.reduceEqDiff, Nat.reduceAdd, Nat.reduceMul, mbl, Nat.reduceLeDiff, Nat.reduceLT, Int.reduceEq]
          refine hΨ _ _ (fin_norm ⟨k12.trans kp9, rfl, ?_⟩)
          rw [show expr C (f + 1) d w p = none by
            simp only [expr, e1]
            rw [if_neg d1, if_neg d2, if_neg d3, if_neg d4, if_pos d5]
            cases hb : bl C 200000 q with
            | none => rfl
            | some v =>
              obtain ⟨v1, v2⟩ := v
              obtain ⟨hv2, hcd, _, b0, b1⟩ := bl_inv hb
              have hnx : nx C q = some (v1, q + 1) := by unfold nx; rw [hcd]
              have := hnn q v1 _ rfl hnx
              simp only
              rw [if_neg (by omega)]]
          exact s9
      by_cases d6 : x = 6
      · simp only [mach, mach2, mstd, ↓reduceIte, Nat.reduceEqDiff, Nat.reduceAdd, Nat.reduceMul, s1r.own.cells.ld, mbl, Nat.reduceLeDiff, Nat.reduceLT, Int.reduceEq, d1, d2, d3, d4, d5, eq_true d6]
        refine XX_of (rnext_ok s1') (fun res h2 hle2 hn => ?_)
        obtain ⟨kp2, rfl, s2⟩ := hn
        refine .ret ?_
        have k12 := kp.trans kp2
        have hE : ∀ (h2 : AH) (q : Nat) (d2 : Int), C.code.length - q < f -> 0 <= d2 -> d2 <= 8 + 8 * (q : Int) -> Ro h2 b C vi vc vt vp vk (some q) -> Gets Tryz.prog 45 [.pointer (some ⟨b, 0, none⟩), iv d2, iv w] h2 (RfO h2 b C vi vc vt vp vk (expr C f d2 w q)) := fun h2 q d2 a1 a2 a3 a4 => ih h2 q d2 a1 a2 a3 a4
        cases hx : nx C q with
        | none =>
          have en : Chk.nt C (some q) = (0, none) := by simp only [Chk.nt, hx]
          rw [en] at s2 ⊢
          have ee : expr C (f + 1) d w p = none := by simp only [expr, e1]; rw [if_neg d1, if_neg d2, if_neg d3, if_neg d4, if_neg d5, if_pos d6, hx]
          simp only [mach, mach2, mstd, ↓reduceIte, Nat.reduceEqDiff, Nat.reduceAdd, Nat.reduceMul, mbl, Nat.reduceLeDiff, Nat.reduceLT, Int.reduceEq]
          refine XX_of (rexpr_none s2 d w) (fun res h5 hle5 hn => ?_)
          obtain ⟨kp5, rfl, s5⟩ := hn
          refine .ret ?_
          obtain ⟨p5, s5⟩ := s5
          by_cases da : (p5 : Int) = 0
          · simp only [mach, mach2, mstd, ↓reduceIte, Nat.reduceEqDiff, Nat.reduceAdd, Nat.reduceMul, s5.own.cells.ld, mbl, Nat.reduceLeDiff, Nat.reduceLT, Int.reduceEq, eq_true da]
            refine XX_of (rcases_ok (f := f) (o := none) ⟨p5, s5⟩ z hc d w hd0 (fun p e => by cases e) hE) (fun res h9 hle9 hn => ?_)
            obtain ⟨kp9, rfl, s9⟩ := hn
            refine .ret ?_
            simp only [mach, mach2, mstd, ↓reduceIte, Nat.reduceEqDiff, Nat.reduceAdd, Nat.reduceMul, mbl, Nat.reduceLeDiff, Nat.reduceLT, Int.reduceEq]
            refine hΨ _ _ (fin_norm ⟨(k12.trans kp5).trans kp9, rfl, ?_⟩)
            rw [ee]
            exact s9
          · simp only [mach, mach2, mstd, ↓reduceIte, Nat.reduceEqDiff, Nat.reduceAdd, Nat.reduceMul, s5.own.cells.ld, mbl, Nat.reduceLeDiff, Nat.reduceLT, Int.reduceEq, da]
            refine XH_own s5.own rfl (by simp [Value.cells]) rfl (fun h4 q1 q2 q3 => ?_)
            have o' : Own h4 b 95 [vi, vc, vt, vp, iv C.main, vk, iv p5, .bool true] := by simpa [Value.cells] using q1
            simp only [mach, mach2, mstd, ↓reduceIte, Nat.reduceEqDiff, Nat.reduceAdd, Nat.reduceMul, mbl, Nat.reduceLeDiff, Nat.reduceLT, Int.reduceEq]
            refine hΨ _ _ (fin_ret (rv0 ⟨(k12.trans kp5).trans q2, rfl, ?_⟩))
            rw [ee]
            exact ⟨p5, o', s5.im.keep q2 s5.ne, s5.ne, s5.hl, s5.le⟩
        | some v =>
          obtain ⟨a, r⟩ := v
          have g2 := nx_on hx
          have en : Chk.nt C (some q) = (a, some r) := by simp only [Chk.nt, hx]
          rw [en] at s2 ⊢
          simp only [mach, mach2, mstd, ↓reduceIte, Nat.reduceEqDiff, Nat.reduceAdd, Nat.reduceMul, mbl, Nat.reduceLeDiff, Nat.reduceLT, Int.reduceEq]
          refine XX_of (ih h2 r d (by omega) hd0 (by omega) s2) (fun res h5 hle5 hn => ?_)
          obtain ⟨kp5, rfl, s5⟩ := hn
          refine .ret ?_
          cases he : expr C f d w r with
          | none =>
            have ee : expr C (f + 1) d w p = none := by simp only [expr, e1]; rw [if_neg d1, if_neg d2, if_neg d3, if_neg d4, if_neg d5, if_pos d6, hx]; simp only; rw [he]
            rw [he] at s5
            obtain ⟨p5, s5⟩ := s5
            by_cases da : (p5 : Int) = a
            · simp only [mach, mach2, mstd, ↓reduceIte, Nat.reduceEqDiff, Nat.reduceAdd, Nat.reduceMul, s5.own.cells.ld, mbl, Nat.reduceLeDiff, Nat.reduceLT, Int.reduceEq, eq_true da]
              refine XX_of (rcases_ok (f := f) (o := none) ⟨p5, s5⟩ z hc d w hd0 (fun p e => by cases e) hE) (fun res h9 hle9 hn => ?_)
              obtain ⟨kp9, rfl, s9⟩ := hn
              refine .ret ?_
              simp only [mach, mach2, mstd, ↓reduceIte, Nat.reduceEqDiff, Nat.reduceAdd, Nat.reduceMul, mbl, Nat.reduceLeDiff, Nat.reduceLT, Int.reduceEq]
              refine hΨ _ _ (fin_norm ⟨(k12.trans kp5).trans kp9, rfl, ?_⟩)
              rw [ee]
              exact s9
            · simp only [mach, mach2, mstd, ↓reduceIte, Nat.reduceEqDiff, Nat.reduceAdd, Nat.reduceMul, s5.own.cells.ld, mbl, Nat.reduceLeDiff, Nat.reduceLT, Int.reduceEq, da]
              refine XH_own s5.own rfl (by simp [Value.cells]) rfl (fun h4 q1 q2 q3 => ?_)
              have o' : Own h4 b 95 [vi, vc, vt, vp, iv C.main, vk, iv p5, .bool true] := by simpa [Value.cells] using q1
              simp only [mach, mach2, mstd, ↓reduceIte, Nat.reduceEqDiff, Nat.reduceAdd, Nat.reduceMul, mbl, Nat.reduceLeDiff, Nat.reduceLT, Int.reduceEq]
              refine hΨ _ _ (fin_ret (rv0 ⟨(k12.trans kp5).trans q2, rfl, ?_⟩))
              rw [ee]
              exact ⟨p5, o', s5.im.keep q2 s5.ne, s5.ne, s5.hl, s5.le⟩
          | some t =>
            have gt := expr_on _ _ _ t he
            have ee : expr C (f + 1) d w p = if (t : Int) = a then brn C (fun s' p' => expr C f s' w p') d t else none := by simp only [expr, e1]; rw [if_neg d1, if_neg d2, if_neg d3, if_neg d4, if_neg d5, if_pos d6, hx]; simp only; rw [he]
            rw [he] at s5
            have s5r : Rf h5 b C vi vc vt vp vk t false := s5
            by_cases da : (t : Int) = a
            · simp only [mach, mach2, mstd, ↓reduceIte, Nat.reduceEqDiff, Nat.reduceAdd, Nat.reduceMul, s5r.own.cells.ld, mbl, Nat.reduceLeDiff, Nat.reduceLT, Int.reduceEq, eq_true da]
              refine XX_of (rcases_ok (f := f) s5 z hc d w hd0 (fun p e => by cases e; omega) hE) (fun res h9 hle9 hn => ?_)
              obtain ⟨kp9, rfl, s9⟩ := hn
              refine .ret ?_
              simp only [mach, mach2, mstd, ↓reduceIte, Nat.reduceEqDiff, Nat.reduceAdd, Nat.reduceMul, mbl, Nat.reduceLeDiff, Nat.reduceLT, Int.reduceEq]
              refine hΨ _ _ (fin_norm ⟨(k12.trans kp5).trans kp9, rfl, ?_⟩)
              rw [ee, if_pos da]
              exact s9
            · simp only [mach, mach2, mstd, ↓reduceIte, Nat.reduceEqDiff, Nat.reduceAdd, Nat.reduceMul, s5r.own.cells.ld, mbl, Nat.reduceLeDiff, Nat.reduceLT, Int.reduceEq, da]
              refine XH_own s5r.own rfl (by simp [Value.cells]) rfl (fun h4 q1 q2 q3 => ?_)
              have o' : Own h4 b 95 [vi, vc, vt, vp, iv C.main, vk, iv t, .bool true] := by simpa [Value.cells] using q1
              simp only [mach, mach2, mstd, ↓reduceIte, Nat.reduceEqDiff, Nat.reduceAdd, Nat.reduceMul, mbl, Nat.reduceLeDiff, Nat.reduceLT, Int.reduceEq]
              refine hΨ _ _ (fin_ret (rv0 ⟨(k12.trans kp5).trans q2, rfl, ?_⟩))
              rw [ee, if_neg da]
              exact ⟨t, o', s5r.im.keep q2 s5r.ne, s5r.ne, s5r.hl, s5r.le⟩
      by_cases d8 : x = 8
      · simp only [mach, mach2, mstd, ↓reduceIte, Nat.reduceEqDiff, Nat.reduceAdd, Nat.reduceMul, s1r.own.cells.ld, mbl, Nat.reduceLeDiff, Nat.reduceLT, Int.reduceEq, d1, d2, d3, d4, d5, d6, eq_true d8]
        refine XX_of (want_ok s1' 0 1 (by omega)) (fun res h2 hle2 hn => ?_)
        obtain ⟨kp2, rfl, s2⟩ := hn
        refine .ret ?_
        have ew : wt C 0 1 (some q) = _ := wt_bl (n := 2)
        cases hb : bl C 2 q with
        | none =>
          rw [hb] at ew
          simp only at ew
          rw [ew] at s2 ⊢
          simp only [mach, mach2, mstd, ↓reduceIte, Nat.reduceEqDiff, Nat.reduceAdd, Nat.reduceMul, mbl, Nat.reduceLeDiff, Nat.reduceLT, Int.reduceEq]
          refine XX_of (roperands_ok s2 z 0 d w hd hd2 hw hw2) (fun res h9 hle9 hn => ?_)
          obtain ⟨kp9, rfl, s9⟩ := hn
          refine .ret ?_
          simp only [mach, mach2, mstd, ↓reduceIte, Nat.reduceEqDiff, Nat.reduceAdd, Nat.reduceMul, mbl, Nat.reduceLeDiff, Nat.reduceLT, Int.reduceEq]
          refine hΨ _ _ (fin_norm ⟨(kp.trans kp2).trans kp9, rfl, ?_⟩)
          rw [show expr C (f + 1) d w p = (none : Option Nat).bind (oprnds C d w 0) by simp [expr, e1, d1, d2, d3, d4, d5, d6, d8, hb]]
          exact s9
        | some v =>
          obtain ⟨n, r⟩ := v
          rw [hb] at ew
          simp only at ew
          rw [ew] at s2 ⊢
          simp only [mach, mach2, mstd, ↓reduceIte, Nat.reduceEqDiff, Nat.reduceAdd, Nat.reduceMul, mbl, Nat.reduceLeDiff, Nat.reduceLT, Int.reduceEq]
          refine XX_of (roperands_ok s2 z n d w hd hd2 hw hw2) (fun res h9 hle9 hn => ?_)
          obtain ⟨kp9, rfl, s9⟩ := hn
          refine .ret ?_
          simp only [mach, mach2, mstd, ↓reduceIte, Nat.reduceEqDiff, Nat.reduceAdd, Nat.reduceMul, mbl, Nat.reduceLeDiff, Nat.reduceLT, Int.reduceEq]
          refine hΨ _ _ (fin_norm ⟨(kp.trans kp2).trans kp9, rfl, ?_⟩)
          rw [show expr C (f + 1) d w p = (some r).bind (oprnds C d w n.toNat) by simp [expr, e1, d1, d2, d3, d4, d5, d6, d8, hb]]
          exact s9
      by_cases d9 : x = 9
      · simp only [mach, mach2, mstd, ↓reduceIte, Nat.reduceEqDiff, Nat.reduceAdd, Nat.reduceMul, s1r.own.cells.ld, mbl, Nat.reduceLeDiff, Nat.reduceLT, Int.reduceEq, d1, d2, d3, d4, d5, d6, d8, eq_true d9, hvt, lenw z.nt]
        refine XX_of (want_ok s1' 0 _ (Int.le_refl _)) (fun res h9 hle9 hn => ?_)
        obtain ⟨kp9, rfl, s9⟩ := hn
        refine .ret ?_
        simp only [mach, mach2, mstd, ↓reduceIte, Nat.reduceEqDiff, Nat.reduceAdd, Nat.reduceMul, mbl, Nat.reduceLeDiff, Nat.reduceLT, Int.reduceEq]
        refine hΨ _ _ (fin_norm ⟨kp.trans kp9, rfl, ?_⟩)
        rw [wt_bl2, Option.bind_some] at s9
        rw [show expr C (f + 1) d w p = sn (bl C C.nt q) by simp [expr, e1, d1, d2, d3, d4, d5, d6, d8, d9]]
        exact s9
      · simp only [mach, mach2, mstd, ↓reduceIte, Nat.reduceEqDiff, Nat.reduceAdd, Nat.reduceMul, s1r.own.cells.ld, mbl, Nat.reduceLeDiff, Nat.reduceLT, Int.reduceEq, d1, d2, d3, d4, d5, d6, d8, d9]
        refine XH_own s1r.own rfl (by simp [Value.cells]) rfl (fun h4 q1 q2 q3 => ?_)
        have o' : Own h4 b 95 [vi, vc, vt, vp, iv C.main, vk, iv q, .bool true] := by simpa [Value.cells] using q1
        simp only [mach, mach2, mstd, ↓reduceIte, Nat.reduceEqDiff, Nat.reduceAdd, Nat.reduceMul, mbl, Nat.reduceLeDiff, Nat.reduceLT, Int.reduceEq]
        refine hΨ _ _ (fin_norm ⟨kp.trans q2, rfl, ?_⟩)
        rw [show expr C (f + 1) d w p = none by simp [expr, e1, d1, d2, d3, d4, d5, d6, d8, d9]]
        exact ⟨q, o', s1r.im.keep q2 s1r.ne, s1r.ne, s1r.hl, s1r.le⟩
    · rw [e2] at s1 ⊢
      rw [show expr C (f + 1) d w p = none by
        unfold expr
        cases hn : nx C p with
        | none => rfl
        | some v =>
          have := hno p v.1 v.2 rfl hn
          simp only
          rw [if_neg (by omega), if_neg (by omega), if_neg (by omega), if_neg (by omega), if_neg (by omega), if_neg (by omega), if_neg (by omega), if_neg (by omega)]] at hΨ
      obtain ⟨p, s1⟩ := s1
      simp only [mach, mach2, mstd, ↓reduceIte, Nat.reduceEqDiff, Nat.reduceAdd, Nat.reduceMul, s1.own.cells.ld, mbl, Nat.reduceLeDiff, Nat.reduceLT, Int.reduceEq]
      exact hΨ _ _ (fin_ret (rv0 ⟨kp, rfl, p, s1⟩))
end
end Go.S17

namespace Go.S17
open Go Go.Eng Go.Proofs Go.Chk
def EndF (h : AH) (C : Cx) (res : Res) (h' : AH) : Prop := Keep (fun _ => False) h h' /\ ∃ v, res = .ret (.tuple #[v, .bool (ends C).isSome]) /\ ∀ l, ends C = some l -> Ows h' 3 1 v l.length (ns (l.map Int.ofNat)) /\ ∀ q, bk v q -> h.length <= q
structure Mi (h : AH) (C : Cx) (vi vc vt vp vk : Value) (bI bR : Nat) (a : Nat × Nat × Value × List Nat) (h' : AH) : Prop where
  i1 : a.1 <= C.infos.length
  s : Rf h' bR C vi vc vt vp vk a.2.1 false
  oI : Own h' bI 26 [vi, vc, vt, vp, iv C.main, vk]
  ow : Ows h' 3 1 a.2.2.1 a.1 (ns (a.2.2.2.map Int.ofNat))
  fr : ∀ q, bk a.2.2.1 q -> bR < q
  ln : a.2.2.2.length = a.1
  kp : Keep (fun _ => False) h h'
  bl : a.1 <= a.2.1
  eq : ∀ x, blocks C (C.code.length + 1) (C.infos.drop a.1) a.2.1 = x -> blocks C (C.code.length + 1) C.infos 0 = (match x with
    | some (e, r) => some (a.2.2.2 ++ e, r)
    | none => none)
section
variable {h : AH} {C : Cx} {vi vc vt vp vk : Value}
set_option maxHeartbeats 4000000 in
theorem rends_ok (im : Img h C vi vc vt vp vk) (z : Sz C) (hfr : ∀ x ∈ C.infos, x.f <= 9223372036854775807) (hcl : C.code.length <= 9223372036854775807) : Gets Tryz.prog 32 [.agg #[vi, vc, vt, vp, iv C.main, vk]] h (EndF h C) := by
  refine Gets.of (keep := false) hP (draw_ok hM) k32 (by rfl) (fun Ψ hΨ => ?_)
  obtain ⟨ia, ic, hvi⟩ := row_shape im.ri
  obtain ⟨ca, cc, hvc⟩ := row_shape im.rc
  obtain ⟨pa, pc, hvp⟩ := row_shape im.rp
  obtain ⟨ka, kc, hvk⟩ := row_shape im.rk
  have z1 := z.tops
  have z2 := z.cons
  have z3 := z.infos
  have oI0 := Own.new h 26 h.length [vi, vc, vt, vp, iv C.main, vk]
  have kp1 : Keep (fun _ => False) h (h ++ [row 26 h.length [vi, vc, vt, vp, iv C.main, vk]]) := Keep.push _ _ _
  simp only [mach, mach2, mstd, ↓reduceIte, Nat.reduceEqDiff, Nat.reduceAdd, Nat.reduceMul, r32, mbl, Nat.reduceLeDiff, Nat.reduceLT, Int.reduceEq]
  generalize hh1 : h ++ [row 26 h.length [vi, vc, vt, vp, iv C.main, vk]] = h1 at oI0 kp1 ⊢
  have hl1 : h1.length = h.length + 1 := by rw [<- hh1]; simp
  have im1 := im.keep kp1 (fun _ _ e => e)
  have lt1 : ((1 : Nat) : Int) = 1 := rfl
  by_cases c1 : (C.tops.length : Int) < 1
  · simp only [mach, mach2, mstd, ↓reduceIte, Nat.reduceEqDiff, Nat.reduceAdd, Nat.reduceMul, oI0.cells.ld, mbl, Nat.reduceLeDiff, Nat.reduceLT, Int.reduceEq, hvp, eq_true c1]
    have hn : ends C = none := by unfold ends; rw [if_neg]; rintro ⟨⟨_, e, _⟩, _⟩; omega
    refine hΨ _ _ (fin_ret (rv2 rfl rfl ⟨kp1, .slice none 0 0, ?_, ?_⟩))
    · rw [hn]; rfl
    · intro l hl; rw [hn] at hl; cases hl
  by_cases c2 : C.main < 0
  · simp only [mach, mach2, mstd, ↓reduceIte, Nat.reduceEqDiff, Nat.reduceAdd, Nat.reduceMul, oI0.cells.ld, mbl, Nat.reduceLeDiff, Nat.reduceLT, Int.reduceEq, hvp, c1, eq_true c2]
    have hn : ends C = none := by unfold ends; rw [if_neg]; rintro ⟨⟨e, _⟩, _⟩; omega
    refine hΨ _ _ (fin_ret (rv2 rfl rfl ⟨kp1, .slice none 0 0, ?_, ?_⟩))
    · rw [hn]; rfl
    · intro l hl; rw [hn] at hl; cases hl
  by_cases c3 : C.main ≥ (C.tops.length : Int)
  · simp only [mach, mach2, mstd, ↓reduceIte, Nat.reduceEqDiff, Nat.reduceAdd, Nat.reduceMul, oI0.cells.ld, mbl, Nat.reduceLeDiff, Nat.reduceLT, Int.reduceEq, hvp, c1, c2, eq_true c3]
    have hn : ends C = none := by unfold ends; rw [if_neg]; rintro ⟨⟨_, e, _⟩, _⟩; omega
    refine hΨ _ _ (fin_ret (rv2 rfl rfl ⟨kp1, .slice none 0 0, ?_, ?_⟩))
    · rw [hn]; rfl
    · intro l hl; rw [hn] at hl; cases hl
  by_cases c4 : (C.tops.length : Int) > (C.infos.length : Int)
  · simp only [mach, mach2, mstd, ↓reduceIte, Nat.reduceEqDiff, Nat.reduceAdd, Nat.reduceMul, oI0.cells.ld, mbl, Nat.reduceLeDiff, Nat.reduceLT, Int.reduceEq, hvp, hvi, c1, c2, c3, eq_true c4]
    have hn : ends C = none := by unfold ends; rw [if_neg]; rintro ⟨⟨_, _, e, _⟩, _⟩; omega
    refine hΨ _ _ (fin_ret (rv2 rfl rfl ⟨kp1, .slice none 0 0, ?_, ?_⟩))
    · rw [hn]; rfl
    · intro l hl; rw [hn] at hl; cases hl
  by_cases c5 : (C.code.length : Int) > 200000
  · simp only [mach, mach2, mstd, ↓reduceIte, Nat.reduceEqDiff, Nat.reduceAdd, Nat.reduceMul, oI0.cells.ld, mbl, Nat.reduceLeDiff, Nat.reduceLT, Int.reduceEq, hvp, hvi, hvc, c1, c2, c3, c4, eq_true c5]
    have hn : ends C = none := by unfold ends; rw [if_neg]; rintro ⟨⟨_, _, _, e⟩, _⟩; omega
    refine hΨ _ _ (fin_ret (rv2 rfl rfl ⟨kp1, .slice none 0 0, ?_, ?_⟩))
    · rw [hn]; rfl
    · intro l hl; rw [hn] at hl; cases hl
  have hd : headOk C := ⟨by omega, by omega, by omega, by omega⟩
  simp only [mach, mach2, mstd, ↓reduceIte, Nat.reduceEqDiff, Nat.reduceAdd, Nat.reduceMul, oI0.cells.ld, mbl, Nat.reduceLeDiff, Nat.reduceLT, Int.reduceEq, hvp, hvi, hvc, c1, c2, c3, c4, c5]
  refine XLo_rule (α := Nat) (fun i => [(1, .pointer (some ⟨h.length, 0, none⟩)), (4, iv i)])
    (fun i h' => i <= C.cons.length /\ h' = h1 /\ ∀ j x, j < i -> C.cons[j]? = some x -> 0 <= x /\ x <= 8) (fun i => C.cons.length - i) 0
    ⟨Nat.zero_le _, rfl, fun j x hj => by omega⟩ ⟨rfl, rfl, trivial⟩ ?_
  rintro i h' Ψ2 ⟨i1, rfl, hall⟩ next out
  by_cases hi : (i : Int) < (C.cons.length : Int)
  · have h0 : 0 <= (i : Int) := by omega
    have hil : i < C.cons.length := by omega
    have hw : IntKind.i64.wrap ((i : Int) + 1) = ((i + 1 : Nat) : Int) := by rw [i64w (by omega) (by omega)]; omega
    have hxi : C.cons[i]? = some C.cons[i] := List.getElem?_eq_getElem hil
    obtain ⟨b2, o2, cc2, e2, hlt, hld⟩ := rds_ix im1.rk h0 (x := C.cons[i]) (by rw [Int.toNat_natCast]; exact hxi)
    rw [Int.toNat_natCast] at hld
    by_cases x1 : C.cons[i] < 0
    · simp only [mach, mach2, mstd, ↓reduceIte, Nat.reduceEqDiff, Nat.reduceAdd, Nat.reduceMul, oI0.cells.ld, mbl, Nat.reduceLeDiff, Nat.reduceLT, Int.reduceEq, hi, e2, h0, and_self, Int.toNat_natCast, Nat.mul_one, hld, eq_true x1]
      refine out .ret _ _ _ _ (by intro e; cases e) ?_
      simp only [mach, mach2, mstd, ↓reduceIte, Nat.reduceEqDiff, Nat.reduceAdd, Nat.reduceMul, mbl, Nat.reduceLeDiff, Nat.reduceLT, Int.reduceEq]
      have hn : ends C = none := by unfold ends; rw [if_neg]; rintro ⟨_, e, _⟩; have := e _ (List.getElem_mem hil); omega
      refine hΨ _ _ (fin_ret (rv2 rfl rfl ⟨kp1, .slice none 0 0, ?_, ?_⟩))
      · rw [hn]; rfl
      · intro l hl; rw [hn] at hl; cases hl
    by_cases x2 : C.cons[i] > 8
    · simp only [mach, mach2, mstd, ↓reduceIte, Nat.reduceEqDiff, Nat.reduceAdd, Nat.reduceMul, oI0.cells.ld, mbl, Nat.reduceLeDiff, Nat.reduceLT, Int.reduceEq, hi, e2, h0, and_self, Int.toNat_natCast, Nat.mul_one, hld, x1, eq_true x2]
      refine out .ret _ _ _ _ (by intro e; cases e) ?_
      simp only [mach, mach2, mstd, ↓reduceIte, Nat.reduceEqDiff, Nat.reduceAdd, Nat.reduceMul, mbl, Nat.reduceLeDiff, Nat.reduceLT, Int.reduceEq]
      have hn : ends C = none := by unfold ends; rw [if_neg]; rintro ⟨_, e, _⟩; have := e _ (List.getElem_mem hil); omega
      refine hΨ _ _ (fin_ret (rv2 rfl rfl ⟨kp1, .slice none 0 0, ?_, ?_⟩))
      · rw [hn]; rfl
      · intro l hl; rw [hn] at hl; cases hl
    simp only [mach, mach2, mstd, ↓reduceIte, Nat.reduceEqDiff, Nat.reduceAdd, Nat.reduceMul, oI0.cells.ld, mbl, Nat.reduceLeDiff, Nat.reduceLT, Int.reduceEq, hi, e2, h0, and_self, Int.toNat_natCast, Nat.mul_one, hld, x1, x2, hw]
    refine next (i + 1) _ _ _ ⟨by omega, rfl, fun j x hj hx => ?_⟩ ⟨rfl, rfl, trivial⟩ (by omega)
    by_cases hji : j < i
    · exact hall j x hji hx
    · have : j = i := by omega
      subst this
      rw [hxi] at hx
      cases hx
      omega
  have hc : consOk C := fun x hx => by
    obtain ⟨j, hj, e⟩ := List.getElem_of_mem hx
    exact hall j x (by omega) (by rw [List.getElem?_eq_getElem hj, e])
  simp only [mach, mach2, mstd, ↓reduceIte, Nat.reduceEqDiff, Nat.reduceAdd, Nat.reduceMul, oI0.cells.ld, mbl, Nat.reduceLeDiff, Nat.reduceLT, Int.reduceEq, hvk, hi]
  refine out (.exit 0) _ _ _ _ (by intro e; cases e) ?_
  simp only [mach, mach2, mstd, ↓reduceIte, Nat.reduceEqDiff, Nat.reduceAdd, Nat.reduceMul, mbl, Nat.reduceLeDiff, Nat.reduceLT, Int.reduceEq]
  refine XLo_rule (α := Nat) (fun i => [(1, .pointer (some ⟨h.length, 0, none⟩)), (5, iv i)])
    (fun i h2 => i <= C.tops.length /\ h2 = h' /\ ∀ j, j < i -> topOk C j) (fun i => C.tops.length - i) 0
    ⟨Nat.zero_le _, rfl, fun j hj => by omega⟩ ⟨rfl, rfl, trivial⟩ ?_
  clear hi i1 hall next out
  rintro i h2 Ψ3 ⟨i1, rfl, hall⟩ next out
  by_cases hi : (i : Int) < (C.tops.length : Int)
  · have h0 : 0 <= (i : Int) := by omega
    have hil : i < C.tops.length := by omega
    have hii : (i : Int) < (C.infos.length : Int) := by omega
    have hw : IntKind.i64.wrap ((i : Int) + 1) = ((i + 1 : Nat) : Int) := by rw [i64w (by omega) (by omega)]; omega
    have hxi : C.tops[i]? = some C.tops[i] := List.getElem?_eq_getElem hil
    obtain ⟨b2, o2, cc2, e2, hlt, hld⟩ := rds_ix im1.rp h0 (x := C.tops[i]) (by rw [Int.toNat_natCast]; exact hxi)
    rw [Int.toNat_natCast] at hld
    have hyi : C.infos[i]? = some C.infos[i] := List.getElem?_eq_getElem (by omega)
    obtain ⟨kb, ko, kc3, ke, kl, kd⟩ := rds_fld (by omega) Inf.len im1.ri hyi
    have kd2 := kd 2 (by omega)
    simp only [Inf.cells, List.getElem?_cons_succ, List.getElem?_cons_zero, Option.map_some] at kd2
    by_cases x1 : C.tops[i] = (i : Int)
    · by_cases x2 : C.infos[i].f = 0
      · simp only [mach, mach2, mstd, ↓reduceIte, Nat.reduceEqDiff, Nat.reduceAdd, Nat.reduceMul, oI0.cells.ld, mbl, Nat.reduceLeDiff, Nat.reduceLT, Int.reduceEq, hi, e2, ke, h0, hii, and_self, Int.toNat_natCast, Nat.mul_one, hld, eq_true x1, kd2, eq_true x2, hw]
        refine next (i + 1) _ _ _ ⟨by omega, rfl, fun j hj => ?_⟩ ⟨rfl, rfl, trivial⟩ (by omega)
        by_cases hji : j < i
        · exact hall j hji
        · have : j = i := by omega
          subst this
          exact ⟨by rw [hxi, x1], by rw [hyi, Option.map_some, x2]⟩
      · simp only [mach, mach2, mstd, ↓reduceIte, Nat.reduceEqDiff, Nat.reduceAdd, Nat.reduceMul, oI0.cells.ld, mbl, Nat.reduceLeDiff, Nat.reduceLT, Int.reduceEq, hi, e2, ke, h0, hii, and_self, Int.toNat_natCast, Nat.mul_one, hld, eq_true x1, kd2, x2]
        refine out .ret _ _ _ _ (by intro e; cases e) ?_
        simp only [mach, mach2, mstd, ↓reduceIte, Nat.reduceEqDiff, Nat.reduceAdd, Nat.reduceMul, mbl, Nat.reduceLeDiff, Nat.reduceLT, Int.reduceEq]
        have hn : ends C = none := by unfold ends; rw [if_neg]; rintro ⟨_, _, e⟩; have := (e i hil).2; rw [hyi, Option.map_some] at this; exact x2 (Option.some.inj this)
        refine hΨ _ _ (fin_ret (rv2 rfl rfl ⟨kp1, .slice none 0 0, ?_, ?_⟩))
        · rw [hn]; rfl
        · intro l hl; rw [hn] at hl; cases hl
    · simp only [mach, mach2, mstd, ↓reduceIte, Nat.reduceEqDiff, Nat.reduceAdd, Nat.reduceMul, oI0.cells.ld, mbl, Nat.reduceLeDiff, Nat.reduceLT, Int.reduceEq, hi, e2, h0, and_self, Int.toNat_natCast, Nat.mul_one, hld, x1]
      refine out .ret _ _ _ _ (by intro e; cases e) ?_
      simp only [mach, mach2, mstd, ↓reduceIte, Nat.reduceEqDiff, Nat.reduceAdd, Nat.reduceMul, mbl, Nat.reduceLeDiff, Nat.reduceLT, Int.reduceEq]
      have hn : ends C = none := by unfold ends; rw [if_neg]; rintro ⟨_, _, e⟩; have := (e i hil).1; rw [hxi] at this; exact x1 (Option.some.inj this)
      refine hΨ _ _ (fin_ret (rv2 rfl rfl ⟨kp1, .slice none 0 0, ?_, ?_⟩))
      · rw [hn]; rfl
      · intro l hl; rw [hn] at hl; cases hl
  have htops : topsOk C := fun j hj => hall j (by omega)
  have hcond : headOk C /\ consOk C /\ topsOk C := ⟨hd, hc, htops⟩
  have eqE : ends C = (match blocks C (C.code.length + 1) C.infos 0 with
    | some (e, r) => if r = C.code.length then some e else none
    | none => none) := by unfold ends; rw [if_pos hcond]; rfl
  simp only [mach, mach2, mstd, ↓reduceIte, Nat.reduceEqDiff, Nat.reduceAdd, Nat.reduceMul, oI0.cells.ld, mbl, Nat.reduceLeDiff, Nat.reduceLT, Int.reduceEq, hvp, hi]
  refine out (.exit 2) _ _ _ _ (by intro e; cases e) ?_
  have s0 := Own.new h2 95 h2.length [vi, vc, vt, vp, iv C.main, vk, iv 0, .bool false]
  have kp4 : Keep (fun _ => False) h2 (h2 ++ [row 95 h2.length [vi, vc, vt, vp, iv C.main, vk, iv 0, .bool false]]) := Keep.push _ _ _
  simp only [mach, mach2, mstd, ↓reduceIte, Nat.reduceEqDiff, Nat.reduceAdd, Nat.reduceMul, oI0.cells.lds 0 6 (by simp), mbl, Nat.reduceLeDiff, Nat.reduceLT, Int.reduceEq]
  generalize hh4 : h2 ++ [row 95 h2.length [vi, vc, vt, vp, iv C.main, vk, iv 0, .bool false]] = h4 at s0 kp4 ⊢
  have hl4 : h4.length = h2.length + 1 := by rw [<- hh4]; simp
  have kp04 := kp1.trans kp4
  have r0 : Rf h4 h2.length C vi vc vt vp vk 0 false := ⟨s0, im1.keep kp4 (fun _ _ e => e), fun q e => by have := im1.lt q e; omega, by omega, Nat.zero_le _⟩
  refine XLo_rule (α := Nat × Nat × Value × List Nat) (fun a => [(1, .pointer (some ⟨h.length, 0, none⟩)), (6, .pointer (some ⟨h2.length, 0, none⟩)), (7, a.2.2.1), (8, iv a.1)])
    (Mi h C vi vc vt vp vk h.length h2.length) (fun a => C.infos.length - a.1) (0, 0, .slice none 0 0, [])
    ⟨Nat.zero_le _, r0, oI0.keep kp4 (fun e => e), .nil, fun q e => (by cases e), rfl, kp04, Nat.zero_le _, fun x hx => by
      rw [show blocks C (C.code.length + 1) C.infos 0 = x from hx]
      cases x with
      | none => rfl
      | some y => rfl⟩ ⟨rfl, rfl, rfl, rfl, trivial⟩ ?_
  rintro ⟨i, p, lv, l⟩ h5 Ψ4 ⟨j1, s5, oI5, ow5, fr5, ln5, kp5, bl5, eq5⟩ next2 out2
  simp only at j1 s5 ow5 fr5 ln5 bl5 eq5
  have lb : h2.length < h5.length := s5.own.lt
  have hlc := s5.hl
  have ple := s5.le
  by_cases hi2 : (i : Int) < (C.infos.length : Int)
  · have h0 : 0 <= (i : Int) := by omega
    have hw : IntKind.i64.wrap ((i : Int) + 1) = ((i + 1 : Nat) : Int) := by rw [i64w (by omega) (by omega)]; omega
    have hil : i < C.infos.length := by omega
    obtain ⟨⟨k, a, f, c⟩, hxi⟩ : ∃ x, C.infos[i]? = some x := ⟨_, List.getElem?_eq_getElem hil⟩
    have hff : f <= 9223372036854775807 := hfr _ (List.mem_of_getElem? hxi)
    have hdr : C.infos.drop i = ⟨k, a, f, c⟩ :: C.infos.drop (i + 1) := by
      rw [List.drop_eq_getElem_cons hil]
      have := List.getElem?_eq_getElem hil
      rw [hxi] at this
      rw [<- Option.some.inj this]
    obtain ⟨b8, o8, c8, e8, hlt8, hld8⟩ := rds_str (by omega) Inf.len s5.im.ri hxi
    simp only [Inf.cells, ns, List.map_cons, List.map_nil] at hld8
    have on := Own.new h5 40 h5.length [iv 0, iv 0, iv 0, iv 0]
    simp only [mach, mach2, mstd, ↓reduceIte, Nat.reduceEqDiff, Nat.reduceAdd, Nat.reduceMul, oI5.cells.ld, mbl, Nat.reduceLeDiff, Nat.reduceLT, Int.reduceEq, hi2, e8, h0, and_self, hld8, Int.toNat_natCast]
    refine XH_own on rfl (by simp [Value.cells]) rfl (fun h8 q1 q2 q3 => ?_)
    have on8 : Own h8 h5.length 40 [iv k, iv a, iv f, iv c] := by simpa [Value.cells] using q1
    have kp8 : Keep (fun q => q = h5.length) h5 h8 := ((Keep.push (fun _ => False) h5 _).mono (fun _ e => e.elim)).trans q2
    have ll8 : h8.length = h5.length + 1 := by rw [q3]; simp
    have s8 := s5.keep kp8 (by rintro q0 (rfl | e) e2; omega; have := s5.im.lt _ e; omega)
    have oI8 := oI5.keep kp8 (fun e => by have := oI5.lt; omega)
    have ow8 := ow5.keep kp8 (fun q0 e e2 => by have := ow5.lt q0 e; omega)
    have hk5 := kp5.len
    have kph8 : Keep (fun _ => False) h h8 := kp5.trans' kp8 (fun c hc e => by omega)
    have noI : ¬ infoOk ⟨k, a, f, c⟩ p -> ends C = none := fun hno => by
      have := eq5 none (by rw [hdr, blocks, if_neg hno])
      rw [eqE, this]
    by_cases k1 : k = 1
    · have k2n : ¬ k = 2 := by omega
      by_cases a1 : a ≥ 1
      · by_cases a8 : a <= 8
        by_cases f0 : f < 0
        · simp only [mach, mach2, mstd, ↓reduceIte, Nat.reduceEqDiff, Nat.reduceAdd, Nat.reduceMul, on8.cells.ld, mbl, Nat.reduceLeDiff, Nat.reduceLT, Int.reduceEq, eq_true k1, k2n, eq_true a1, eq_true a8, eq_true f0]
          refine out2 .ret _ _ _ _ (by intro e; cases e) ?_
          simp only [mach, mach2, mstd, ↓reduceIte, Nat.reduceEqDiff, Nat.reduceAdd, Nat.reduceMul, mbl, Nat.reduceLeDiff, Nat.reduceLT, Int.reduceEq]
          have hn : ends C = none := noI (by rintro ⟨e1 | e1, e2, e3⟩ <;> simp only at e1 e2 e3 <;> omega)
          refine hΨ _ _ (fin_ret (rv2 rfl rfl ⟨kph8, .slice none 0 0, ?_, ?_⟩))
          · rw [hn]; rfl
          · intro l hl; rw [hn] at hl; cases hl
        by_cases cp : c = (p : Int)
        · have hio : infoOk ⟨k, a, f, c⟩ p := ⟨.inr ⟨k1, by show 0 < a; omega, a8⟩, by show 0 <= f; omega, cp⟩
          simp only [mach, mach2, mstd, ↓reduceIte, Nat.reduceEqDiff, Nat.reduceAdd, Nat.reduceMul, on8.cells.ld, s8.own.cells.ld, mbl, Nat.reduceLeDiff, Nat.reduceLT, Int.reduceEq, eq_true k1, k2n, eq_true a1, eq_true a8, f0, eq_true cp]
          refine XX_of (rexpr_ok z hc f (by omega) hff (C.code.length + 1) h8 p a (by omega) (by omega) (by omega) s8) (fun res h9 hle9 hn => ?_)
          obtain ⟨kp9, rfl, s9⟩ := hn
          refine .ret ?_
          have kph9 : Keep (fun _ => False) h h9 := kph8.trans' kp9 (fun c hc e => by omega)
          cases hx9 : expr C (C.code.length + 1) a f p with
          | none =>
            rw [hx9] at s9
            obtain ⟨p9, s9⟩ := s9
            simp only [mach, mach2, mstd, ↓reduceIte, Nat.reduceEqDiff, Nat.reduceAdd, Nat.reduceMul, s9.own.cells.ld, mbl, Nat.reduceLeDiff, Nat.reduceLT, Int.reduceEq]
            refine out2 .ret _ _ _ _ (by intro e; cases e) ?_
            simp only [mach, mach2, mstd, ↓reduceIte, Nat.reduceEqDiff, Nat.reduceAdd, Nat.reduceMul, mbl, Nat.reduceLeDiff, Nat.reduceLT, Int.reduceEq]
            have hn : ends C = none := by
              have := eq5 none (by rw [hdr, blocks, if_pos hio]; simp only [hx9])
              rw [eqE, this]
            refine hΨ _ _ (fin_ret (rv2 rfl rfl ⟨kph9, .slice none 0 0, ?_, ?_⟩))
            · rw [hn]; rfl
            · intro l hl; rw [hn] at hl; cases hl
          | some q9 =>
            rw [hx9] at s9
            have s9 : Rf h9 h2.length C vi vc vt vp vk q9 false := s9
            have hon := expr_on _ _ _ _ hx9
            have oI9 := oI8.keep kp9 (fun e => by omega)
            have ow9 := ow8.keep kp9 (fun q0 e e2 => by have := fr5 q0 e; omega)
            obtain ⟨v6, h6, k1', k2', k3, k4⟩ := app1 (bytes := 8) ow9 (xs := [iv q9]) rfl rfl (by omega) (by omega)
            simp only [mach, mach2, mstd, ↓reduceIte, Nat.reduceEqDiff, Nat.reduceAdd, Nat.reduceMul, s9.own.cells.ld, mbl, Nat.reduceLeDiff, Nat.reduceLT, Int.reduceEq, k1', hw]
            have l9 := kp9.len
            have fr6 : ∀ q0, bk v6 q0 -> h2.length < q0 := fun q0 e => by
              rcases k4 q0 e with e | e
              · exact fr5 q0 e
              · omega
            refine next2 (i + 1, q9, v6, l ++ [q9]) _ _ _ ⟨by simp only; omega, ?_, ?_, ?_, fr6, by simp [ln5], kph9.trans' k3 (fun c hc e => by have := fr5 _ e; omega), by simp only; omega, ?_⟩ ⟨rfl, rfl, rfl, rfl, trivial⟩ (by simp only; omega)
            · refine s9.keep k3 ?_
              rintro q0 (rfl | e) e2
              · have := fr5 _ e2; omega
              · have := fr5 _ e2; have := im1.lt _ e; omega
            · exact oI9.keep k3 (fun e => by have := fr5 _ e; omega)
            · simpa [ns] using k2'
            · intro x hx
              simp only at hx
              cases x with
              | none =>
                have := eq5 none (by rw [hdr, blocks, if_pos hio]; simp only [hx9, hx])
                rw [this]
              | some y =>
                obtain ⟨ye, yr⟩ := y
                have := eq5 (some (q9 :: ye, yr)) (by rw [hdr, blocks, if_pos hio]; simp only [hx9, hx])
                rw [this]; simp
        · simp only [mach, mach2, mstd, ↓reduceIte, Nat.reduceEqDiff, Nat.reduceAdd, Nat.reduceMul, on8.cells.ld, s8.own.cells.ld, mbl, Nat.reduceLeDiff, Nat.reduceLT, Int.reduceEq, eq_true k1, k2n, eq_true a1, eq_true a8, f0, cp]
          refine out2 .ret _ _ _ _ (by intro e; cases e) ?_
          simp only [mach, mach2, mstd, ↓reduceIte, Nat.reduceEqDiff, Nat.reduceAdd, Nat.reduceMul, mbl, Nat.reduceLeDiff, Nat.reduceLT, Int.reduceEq]
          have hn : ends C = none := noI (by rintro ⟨e1 | e1, e2, e3⟩ <;> simp only at e1 e2 e3 <;> omega)
          refine hΨ _ _ (fin_ret (rv2 rfl rfl ⟨kph8, .slice none 0 0, ?_, ?_⟩))
          · rw [hn]; rfl
          · intro l hl; rw [hn] at hl; cases hl
        · simp only [mach, mach2, mstd, ↓reduceIte, Nat.reduceEqDiff, Nat.reduceAdd, Nat.reduceMul, on8.cells.ld, mbl, Nat.reduceLeDiff, Nat.reduceLT, Int.reduceEq, eq_true k1, k2n, eq_true a1, a8]
          refine out2 .ret _ _ _ _ (by intro e; cases e) ?_
          simp only [mach, mach2, mstd, ↓reduceIte, Nat.reduceEqDiff, Nat.reduceAdd, Nat.reduceMul, mbl, Nat.reduceLeDiff, Nat.reduceLT, Int.reduceEq]
          have hn : ends C = none := noI (by rintro ⟨e1 | e1, e2, e3⟩ <;> simp only at e1 e2 e3 <;> omega)
          refine hΨ _ _ (fin_ret (rv2 rfl rfl ⟨kph8, .slice none 0 0, ?_, ?_⟩))
          · rw [hn]; rfl
          · intro l hl; rw [hn] at hl; cases hl
      · simp only [mach, mach2, mstd, ↓reduceIte, Nat.reduceEqDiff, Nat.reduceAdd, Nat.reduceMul, on8.cells.ld, mbl, Nat.reduceLeDiff, Nat.reduceLT, Int.reduceEq, eq_true k1, k2n, a1]
        refine out2 .ret _ _ _ _ (by intro e; cases e) ?_
        simp only [mach, mach2, mstd, ↓reduceIte, Nat.reduceEqDiff, Nat.reduceAdd, Nat.reduceMul, mbl, Nat.reduceLeDiff, Nat.reduceLT, Int.reduceEq]
        have hn : ends C = none := noI (by rintro ⟨e1 | e1, e2, e3⟩ <;> simp only at e1 e2 e3 <;> omega)
        refine hΨ _ _ (fin_ret (rv2 rfl rfl ⟨kph8, .slice none 0 0, ?_, ?_⟩))
        · rw [hn]; rfl
        · intro l hl; rw [hn] at hl; cases hl
    · by_cases k2 : k = 2
      · by_cases a0 : a = 0
        by_cases f0 : f < 0
        · simp only [mach, mach2, mstd, ↓reduceIte, Nat.reduceEqDiff, Nat.reduceAdd, Nat.reduceMul, on8.cells.ld, mbl, Nat.reduceLeDiff, Nat.reduceLT, Int.reduceEq, k1, eq_true k2, eq_true a0, eq_true f0]
          refine out2 .ret _ _ _ _ (by intro e; cases e) ?_
          simp only [mach, mach2, mstd, ↓reduceIte, Nat.reduceEqDiff, Nat.reduceAdd, Nat.reduceMul, mbl, Nat.reduceLeDiff, Nat.reduceLT, Int.reduceEq]
          have hn : ends C = none := noI (by rintro ⟨e1 | e1, e2, e3⟩ <;> simp only at e1 e2 e3 <;> omega)
          refine hΨ _ _ (fin_ret (rv2 rfl rfl ⟨kph8, .slice none 0 0, ?_, ?_⟩))
          · rw [hn]; rfl
          · intro l hl; rw [hn] at hl; cases hl
        by_cases cp : c = (p : Int)
        · have hio : infoOk ⟨k, a, f, c⟩ p := ⟨.inl ⟨k2, a0⟩, by show 0 <= f; omega, cp⟩
          simp only [mach, mach2, mstd, ↓reduceIte, Nat.reduceEqDiff, Nat.reduceAdd, Nat.reduceMul, on8.cells.ld, s8.own.cells.ld, mbl, Nat.reduceLeDiff, Nat.reduceLT, Int.reduceEq, k1, eq_true k2, eq_true a0, f0, eq_true cp]
          refine XX_of (rexpr_ok z hc f (by omega) hff (C.code.length + 1) h8 p a (by omega) (by omega) (by omega) s8) (fun res h9 hle9 hn => ?_)
          obtain ⟨kp9, rfl, s9⟩ := hn
          refine .ret ?_
          have kph9 : Keep (fun _ => False) h h9 := kph8.trans' kp9 (fun c hc e => by omega)
          cases hx9 : expr C (C.code.length + 1) a f p with
          | none =>
            rw [hx9] at s9
            obtain ⟨p9, s9⟩ := s9
            simp only [mach, mach2, mstd, ↓reduceIte, Nat.reduceEqDiff, Nat.reduceAdd, Nat.reduceMul, s9.own.cells.ld, mbl, Nat.reduceLeDiff, Nat.reduceLT, Int.reduceEq]
            refine out2 .ret _ _ _ _ (by intro e; cases e) ?_
            simp only [mach, mach2, mstd, ↓reduceIte, Nat.reduceEqDiff, Nat.reduceAdd, Nat.reduceMul, mbl, Nat.reduceLeDiff, Nat.reduceLT, Int.reduceEq]
            have hn : ends C = none := by
              have := eq5 none (by rw [hdr, blocks, if_pos hio]; simp only [hx9])
              rw [eqE, this]
            refine hΨ _ _ (fin_ret (rv2 rfl rfl ⟨kph9, .slice none 0 0, ?_, ?_⟩))
            · rw [hn]; rfl
            · intro l hl; rw [hn] at hl; cases hl
          | some q9 =>
            rw [hx9] at s9
            have s9 : Rf h9 h2.length C vi vc vt vp vk q9 false := s9
            have hon := expr_on _ _ _ _ hx9
            have oI9 := oI8.keep kp9 (fun e => by omega)
            have ow9 := ow8.keep kp9 (fun q0 e e2 => by have := fr5 q0 e; omega)
            obtain ⟨v6, h6, k1', k2', k3, k4⟩ := app1 (bytes := 8) ow9 (xs := [iv q9]) rfl rfl (by omega) (by omega)
            simp only [mach, mach2, mstd, ↓reduceIte, Nat.reduceEqDiff, Nat.reduceAdd, Nat.reduceMul, s9.own.cells.ld, mbl, Nat.reduceLeDiff, Nat.reduceLT, Int.reduceEq, k1', hw]
            have l9 := kp9.len
            have fr6 : ∀ q0, bk v6 q0 -> h2.length < q0 := fun q0 e => by
              rcases k4 q0 e with e | e
              · exact fr5 q0 e
              · omega
            refine next2 (i + 1, q9, v6, l ++ [q9]) _ _ _ ⟨by simp only; omega, ?_, ?_, ?_, fr6, by simp [ln5], kph9.trans' k3 (fun c hc e => by have := fr5 _ e; omega), by simp only; omega, ?_⟩ ⟨rfl, rfl, rfl, rfl, trivial⟩ (by simp only; omega)
            · refine s9.keep k3 ?_
              rintro q0 (rfl | e) e2
              · have := fr5 _ e2; omega
              · have := fr5 _ e2; have := im1.lt _ e; omega
            · exact oI9.keep k3 (fun e => by have := fr5 _ e; omega)
            · simpa [ns] using k2'
            · intro x hx
              simp only at hx
              cases x with
              | none =>
                have := eq5 none (by rw [hdr, blocks, if_pos hio]; simp only [hx9, hx])
                rw [this]
              | some y =>
                obtain ⟨ye, yr⟩ := y
                have := eq5 (some (q9 :: ye, yr)) (by rw [hdr, blocks, if_pos hio]; simp only [hx9, hx])
                rw [this]; simp
        · simp only [mach, mach2, mstd, ↓reduceIte, Nat.reduceEqDiff, Nat.reduceAdd, Nat.reduceMul, on8.cells.ld, s8.own.cells.ld, mbl, Nat.reduceLeDiff, Nat.reduceLT, Int.reduceEq, k1, eq_true k2, eq_true a0, f0, cp]
          refine out2 .ret _ _ _ _ (by intro e; cases e) ?_
          simp only [mach, mach2, mstd, ↓reduceIte, Nat.reduceEqDiff, Nat.reduceAdd, Nat.reduceMul, mbl, Nat.reduceLeDiff, Nat.reduceLT, Int.reduceEq]
          have hn : ends C = none := noI (by rintro ⟨e1 | e1, e2, e3⟩ <;> simp only at e1 e2 e3 <;> omega)
          refine hΨ _ _ (fin_ret (rv2 rfl rfl ⟨kph8, .slice none 0 0, ?_, ?_⟩))
          · rw [hn]; rfl
          · intro l hl; rw [hn] at hl; cases hl
        · simp only [mach, mach2, mstd, ↓reduceIte, Nat.reduceEqDiff, Nat.reduceAdd, Nat.reduceMul, on8.cells.ld, mbl, Nat.reduceLeDiff, Nat.reduceLT, Int.reduceEq, k1, eq_true k2, a0]
          refine out2 .ret _ _ _ _ (by intro e; cases e) ?_
          simp only [mach, mach2, mstd, ↓reduceIte, Nat.reduceEqDiff, Nat.reduceAdd, Nat.reduceMul, mbl, Nat.reduceLeDiff, Nat.reduceLT, Int.reduceEq]
          have hn : ends C = none := noI (by rintro ⟨e1 | e1, e2, e3⟩ <;> simp only at e1 e2 e3 <;> omega)
          refine hΨ _ _ (fin_ret (rv2 rfl rfl ⟨kph8, .slice none 0 0, ?_, ?_⟩))
          · rw [hn]; rfl
          · intro l hl; rw [hn] at hl; cases hl
      · simp only [mach, mach2, mstd, ↓reduceIte, Nat.reduceEqDiff, Nat.reduceAdd, Nat.reduceMul, on8.cells.ld, mbl, Nat.reduceLeDiff, Nat.reduceLT, Int.reduceEq, k1, k2]
        refine out2 .ret _ _ _ _ (by intro e; cases e) ?_
        simp only [mach, mach2, mstd, ↓reduceIte, Nat.reduceEqDiff, Nat.reduceAdd, Nat.reduceMul, mbl, Nat.reduceLeDiff, Nat.reduceLT, Int.reduceEq]
        have hn : ends C = none := noI (by rintro ⟨e1 | e1, e2, e3⟩ <;> simp only at e1 e2 e3 <;> omega)
        refine hΨ _ _ (fin_ret (rv2 rfl rfl ⟨kph8, .slice none 0 0, ?_, ?_⟩))
        · rw [hn]; rfl
        · intro l hl; rw [hn] at hl; cases hl
  · have hin : C.infos.drop i = [] := List.drop_eq_nil_of_le (by omega)
    have hb := eq5 (some ([], p)) (by rw [hin, blocks])
    simp only [List.append_nil] at hb
    obtain ⟨va, vc5, hv5⟩ := row_shape ow5.rds
    simp only [mach, mach2, mstd, ↓reduceIte, Nat.reduceEqDiff, Nat.reduceAdd, Nat.reduceMul, oI5.cells.ld, mbl, Nat.reduceLeDiff, Nat.reduceLT, Int.reduceEq, hvi, hi2]
    refine out2 (.exit 4) _ _ _ _ (by intro e; cases e) ?_
    simp only [mach, mach2, mstd, ↓reduceIte, Nat.reduceEqDiff, Nat.reduceAdd, Nat.reduceMul, oI5.cells.ld, s5.own.cells.ld, mbl, Nat.reduceLeDiff, Nat.reduceLT, Int.reduceEq, hvc]
    have hek : ends C = if p = C.code.length then some l else none := by rw [eqE, hb]
    by_cases hp : (p : Int) = (C.code.length : Int)
    · have hen : ends C = some l := by rw [hek, if_pos (by omega)]
      refine hΨ _ _ (fin_ret (rv2 rfl rfl ⟨kp5, lv, ?_, fun l' hl' => ?_⟩))
      · rw [hen]
        simp [hp]
        rfl
      · rw [hen] at hl'
        cases hl'
        rw [ln5]
        exact ⟨ow5, fun q e => by have := fr5 q e; omega⟩
    · have hen : ends C = none := by rw [hek, if_neg (by omega)]
      refine hΨ _ _ (fin_ret (rv2 rfl rfl ⟨kp5, lv, ?_, fun l' hl' => ?_⟩))
      · rw [hen]
        simp [hp]
        rfl
      · rw [hen] at hl'; cases hl'
end
end Go.S17

namespace Go.S17
open Go Go.Eng Go.Proofs Go.Scn
abbrev bv (c : UInt8) : Value := .int .u8 (c.toNat : Int)
abbrev tv (l : Bs) : Value := .string (tx l)
theorem sl_ft {l : Bs} {p n : Nat} (hp : p <= n) (hn : n <= l.length) : slsv (.string (tx l)) (some (iv p)) (some (iv n)) = some (.string (tx ((l.take n).drop p)), none) := by
  have h1 : (0 : Int) <= (n : Int) /\ (n : Int) <= (l.length : Int) := by omega
  have h2 : (0 : Int) <= (p : Int) /\ (p : Int) <= (n : Int) := by omega
  simp only [slsv, bnd, tx_size, if_pos h1, Option.bind_some, Int.toNat_natCast, if_pos h2, Option.map_some, tx_ext]
theorem u_s2bt {h : AH} {m : Nat} {e : TypeId} {l : Bs} : uval Tryz.prog h m (.s2b e) (.string (tx l)) = some (.slice (some ⟨m, 0, none⟩) l.length l.length, some (.cells false true m 0 e (l.map bv))) := by
  have h1 : (tx l).size = l.length := tx_size l
  simp only [uval, h1]
  rfl
theorem cells_tx (l : Bs) : byteCells (tx l) = l.map bv := rfl
theorem asBytes_tx : ∀ (l : Bs), asBytes (l.map bv) = some (l.map fun c => (c.toNat : Int)) := by
  intro l
  induction l with
  | nil => rfl
  | cons c l ih => show (asBytes (l.map bv)).map ((c.toNat : Int) :: ·) = _; rw [ih]; rfl
theorem pushAll_tx (l : Bs) : pushAll (l.map fun c => (c.toNat : Int)) = tx l := by
  have : ∀ (l : Bs) (b : ByteArray), (l.map fun c => (c.toNat : Int)).foldl (fun r n => r.push (UInt8.ofNat n.toNat)) b = ⟨b.data ++ l.toArray⟩ := by
    intro l
    induction l with
    | nil => intro b; simp
    | cons c l ih =>
      intro b
      rw [List.map_cons, List.foldl_cons, ih]
      apply ByteArray.ext
      simp [ByteArray.push]
  rw [pushAll, this]
  apply ByteArray.ext; simp [tx]
theorem u8nat {n : Nat} (h : n <= 255) : (((UInt8.ofNat n).toNat : Nat) : Int) = (n : Int) := by
  show ((n % 256 : Nat) : Int) = (n : Int)
  omega
theorem b2s_tx {h : AH} {m n : Nat} {v : Value} {l : Bs} (hr : Rds h 1 v n (l.map bv)) : uval Tryz.prog h m .b2s v = some (.string (tx l), none) := by
  generalize hc : l.map bv = cs at hr
  cases hr with
  | nil =>
    cases l with
    | nil => rfl
    | cons => simp at hc
  | emp =>
    cases l with
    | nil => rfl
    | cons => simp at hc
  | mk hb hl hx =>
    by_cases h0 : n = 0
    · subst h0
      simp at hx
      subst hx
      cases l with
      | nil => rfl
      | cons => simp at hc
    · unfold Cells at hb
      rw [Nat.mul_one] at hx hl
      simp only [uval, h0, if_false, hb, Option.bind_some, hl, if_true, hx, <- hc, asBytes_tx, Option.map_some, pushAll_tx]
theorem s_add {a b : Bs} (h : a.length + b.length <= 9223372036854775807) : sbin .add (tx a) (tx b) = some (.string (tx (a ++ b))) := by
  have : ¬ (((tx a).size + (tx b).size : Nat) : Int) > IntKind.i64.max := by
    rw [tx_size, tx_size]
    have : IntKind.i64.max = 9223372036854775807 := by decide
    omega
  simp only [sbin, if_neg this, tx_app]
end Go.S17
