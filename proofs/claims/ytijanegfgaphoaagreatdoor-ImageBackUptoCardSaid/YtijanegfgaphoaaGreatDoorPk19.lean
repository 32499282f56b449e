import Derived.Test.YtijanegfgaphoaaGreatDoorPk18
set_option linter.unusedVariables false
set_option linter.unusedSimpArgs false
namespace Go.S17
open Go Go.Eng Go.Proofs Go.Chk
structure Sz (C : Cx) : Prop where
  tops : C.tops.length <= 9223372036854775807
  cons : C.cons.length <= 9223372036854775807
  infos : C.infos.length <= 9223372036854775807
  nt : C.nt <= 9223372036854775807
theorem wt_cases (C : Cx) (lo hi : Int) (o : Option Nat) : (∃ p x q, o = some p /\ nx C p = some (x, q) /\ lo <= x /\ x <= hi /\ wt C lo hi o = (x, some q)) \/ (wt C lo hi o = (lo, none) /\ ∀ p x q, o = some p -> nx C p = some (x, q) -> ¬ (lo <= x /\ x <= hi)) := by
  cases o with
  | none => exact .inr ⟨rfl, fun p x q e => by cases e⟩
  | some p =>
    cases hn : nx C p with
    | none => exact .inr ⟨by simp only [wt, hn], fun p' x q e h => by cases e; rw [hn] at h; cases h⟩
    | some v =>
      obtain ⟨x, q⟩ := v
      by_cases c : lo <= x /\ x <= hi
      · exact .inl ⟨p, x, q, rfl, hn, c.1, c.2, by simp only [wt, hn, if_pos c]⟩
      · exact .inr ⟨by simp only [wt, hn, if_neg c], fun p' x' q' e h => by cases e; rw [hn] at h; cases h; exact c⟩
theorem bind_no {C : Cx} {o : Option Nat} {f : Nat -> Option Nat} (h : ∀ p, o = some p -> f p = none) : o.bind f = none := by
  cases o with
  | none => rfl
  | some p => exact h p rfl
theorem lenw {n : Nat} (h : n <= 9223372036854775807) : IntKind.i64.wrap ((n : Int) - 1) = (n : Int) - 1 := i64w (by omega) (by omega)
section
variable {h : AH} {b : Nat} {C : Cx} {vi vc vt vp vk : Value}
theorem roperand_ok {o : Option Nat} (s : Ro h b C vi vc vt vp vk o) (z : Sz C) (d w : Int) (hd : -9000000000000000000 <= d) (hd2 : d <= 9223372036854775807) (hw : -9000000000000000000 <= w) (hw2 : w <= 9223372036854775807) :
    Gets Tryz.prog 58 [.pointer (some ⟨b, 0, none⟩), iv d, iv w] h (RfO h b C vi vc vt vp vk (o.bind (oprnd C d w))) := by
  refine Gets.of (keep := false) hP (draw_ok hM) k58 (by rfl) (fun Ψ hΨ => ?_)
  obtain ⟨p0, bad0, s0⟩ := s.any
  obtain ⟨pa, pc, hvp⟩ := row_shape s0.im.rp
  simp only [mach, mach2, mstd, ↓reduceIte, Nat.reduceEqDiff, Nat.reduceAdd, Nat.reduceMul, r58]
  refine XX_of (want_ok s 0 4 (Int.le_refl _)) (fun res h1 hle hn => ?_)
  obtain ⟨kp, rfl, s1⟩ := hn
  refine .ret ?_
  rcases wt_cases C 0 4 o with ⟨p, x, q, rfl, e1, x0, x4, e2⟩ | ⟨e2, hno⟩
  · rw [e2] at s1 ⊢
    rw [Option.bind_some] at hΨ
    have s1 : Rf h1 b C vi vc vt vp vk q false := s1
    have s1' : Ro h1 b C vi vc vt vp vk (some q) := s1
    by_cases d0 : x = 0
    · have hw1 : IntKind.i64.wrap (d - 1) = d - 1 := i64w (by omega) (by omega)
      simp only [mach, mach2, mstd, ↓reduceIte, Nat.reduceEqDiff, Nat.reduceAdd, Nat.reduceMul, s1.own.cells.ld, mbl, Nat.reduceLeDiff, Nat.reduceLT, Int.reduceEq, eq_true d0, hw1]
      refine XX_of (want_ok s1' 0 _ (Int.le_refl _)) (fun res h2 hle2 hn => ?_)
      obtain ⟨kp2, rfl, s2⟩ := hn
      refine .ret ?_
      simp only [mach, mach2, mstd, ↓reduceIte, Nat.reduceEqDiff, Nat.reduceAdd, Nat.reduceMul, mbl, Nat.reduceLeDiff, Nat.reduceLT, Int.reduceEq]
      refine hΨ _ _ (fin_norm ⟨kp.trans kp2, rfl, ?_⟩)
      rw [wt_bl2, Option.bind_some] at s2
      rw [show oprnd C d w p = sn (bl C d q) by simp [oprnd, e1, d0]]
      exact s2
    by_cases d1 : x = 1
    · have hw1 : IntKind.i64.wrap (w - 1) = w - 1 := i64w (by omega) (by omega)
      simp only [mach, mach2, mstd, ↓reduceIte, Nat.reduceEqDiff, Nat.reduceAdd, Nat.reduceMul, s1.own.cells.ld, mbl, Nat.reduceLeDiff, Nat.reduceLT, Int.reduceEq, d0, eq_true d1, hw1]
      refine XX_of (want_ok s1' 0 _ (Int.le_refl _)) (fun res h2 hle2 hn => ?_)
      obtain ⟨kp2, rfl, s2⟩ := hn
      refine .ret ?_
      simp only [mach, mach2, mstd, ↓reduceIte, Nat.reduceEqDiff, Nat.reduceAdd, Nat.reduceMul, mbl, Nat.reduceLeDiff, Nat.reduceLT, Int.reduceEq]
      refine hΨ _ _ (fin_norm ⟨kp.trans kp2, rfl, ?_⟩)
      rw [wt_bl2, Option.bind_some] at s2
      rw [show oprnd C d w p = sn (bl C w q) by simp [oprnd, e1, d0, d1]]
      exact s2
    by_cases d2 : x = 2
    · simp only [mach, mach2, mstd, ↓reduceIte, Nat.reduceEqDiff, Nat.reduceAdd, Nat.reduceMul, s1.own.cells.ld, mbl, Nat.reduceLeDiff, Nat.reduceLT, Int.reduceEq, d0, d1, eq_true d2, hvp, lenw z.tops]
      refine XX_of (want_ok s1' 0 _ (Int.le_refl _)) (fun res h2 hle2 hn => ?_)
      obtain ⟨kp2, rfl, s2⟩ := hn
      refine .ret ?_
      simp only [mach, mach2, mstd, ↓reduceIte, Nat.reduceEqDiff, Nat.reduceAdd, Nat.reduceMul, mbl, Nat.reduceLeDiff, Nat.reduceLT, Int.reduceEq]
      refine hΨ _ _ (fin_norm ⟨kp.trans kp2, rfl, ?_⟩)
      rw [wt_bl2, Option.bind_some] at s2
      rw [show oprnd C d w p = sn (bl C C.tops.length q) by simp [oprnd, e1, d0, d1, d2]]
      exact s2
    by_cases d3 : x = 3
    · simp only [mach, mach2, mstd, ↓reduceIte, Nat.reduceEqDiff, Nat.reduceAdd, Nat.reduceMul, s1.own.cells.ld, mbl, Nat.reduceLeDiff, Nat.reduceLT, Int.reduceEq, d0, d1, d2, eq_true d3]
      refine XX_of (rnext_ok s1') (fun res h2 hle2 hn => ?_)
      obtain ⟨kp2, rfl, s2⟩ := hn
      refine .ret ?_
      simp only [mach, mach2, mstd, ↓reduceIte, Nat.reduceEqDiff, Nat.reduceAdd, Nat.reduceMul, mbl, Nat.reduceLeDiff, Nat.reduceLT, Int.reduceEq]
      refine hΨ _ _ (fin_norm ⟨kp.trans kp2, rfl, ?_⟩)
      rw [nt_2, Option.bind_some] at s2
      rw [show oprnd C d w p = sn (nx C q) by simp [oprnd, e1, d0, d1, d2, d3]]
      exact s2
    · have d4 : x = 4 := by omega
      simp only [mach, mach2, mstd, ↓reduceIte, Nat.reduceEqDiff, Nat.reduceAdd, Nat.reduceMul, s1.own.cells.ld, mbl, Nat.reduceLeDiff, Nat.reduceLT, Int.reduceEq, d0, d1, d2, d3]
      refine XX_of (rcon_ok s1' z.cons) (fun res h2 hle2 hn => ?_)
      obtain ⟨kp2, rfl, s2⟩ := hn
      refine .ret ?_
      simp only [mach, mach2, mstd, ↓reduceIte, Nat.reduceEqDiff, Nat.reduceAdd, Nat.reduceMul, mbl, Nat.reduceLeDiff, Nat.reduceLT, Int.reduceEq]
      refine hΨ _ _ (fin_norm ⟨kp.trans kp2, rfl, ?_⟩)
      rw [Option.bind_some] at s2
      rw [show oprnd C d w p = con0 C q by unfold oprnd; rw [e1]; simp only; rw [if_neg d0, if_neg d1, if_neg d2, if_neg d3, if_pos d4]; rfl]
      exact s2
  · rw [e2] at s1 ⊢
    rw [bind_no (C := C) (f := oprnd C d w) (fun p hp => ?_)] at hΨ
    rotate_left
    · unfold oprnd
      cases hn : nx C p with
      | none => rfl
      | some v =>
        have := hno p v.1 v.2 hp hn
        simp only
        rw [if_neg (by omega), if_neg (by omega), if_neg (by omega), if_neg (by omega), if_neg (by omega)]
    obtain ⟨p, s1⟩ := s1
    simp only [mach, mach2, mstd, ↓reduceIte, Nat.reduceEqDiff, Nat.reduceAdd, Nat.reduceMul, s1.own.cells.ld, mbl, Nat.reduceLeDiff, Nat.reduceLT, Int.reduceEq]
    exact hΨ _ _ (fin_norm ⟨kp, rfl, p, s1⟩)
theorem roperands_ok {o : Option Nat} (s : Ro h b C vi vc vt vp vk o) (z : Sz C) (n d w : Int) (hd : -9000000000000000000 <= d) (hd2 : d <= 9223372036854775807) (hw : -9000000000000000000 <= w) (hw2 : w <= 9223372036854775807) :
    Gets Tryz.prog 59 [.pointer (some ⟨b, 0, none⟩), iv n, iv d, iv w] h (RfO h b C vi vc vt vp vk (o.bind (oprnds C d w n.toNat))) := by
  refine Gets.of (keep := false) hP (draw_ok hM) k59 (by rfl) (fun Ψ hΨ => ?_)
  simp only [mach, mach2, mstd, ↓reduceIte, Nat.reduceEqDiff, Nat.reduceAdd, Nat.reduceMul, r59]
  refine XLo_rule (α := Nat × Option Nat) (fun a => [(0, .pointer (some ⟨b, 0, none⟩)), (1, iv n), (2, iv d), (3, iv w), (8, iv a.1)])
    (fun a h' => a.1 <= n.toNat /\ Keep (· = b) h h' /\ Ro h' b C vi vc vt vp vk a.2 /\ (∀ q, a.2 = some q -> a.1 <= q) /\ o.bind (oprnds C d w n.toNat) = a.2.bind (oprnds C d w (n.toNat - a.1))) (fun a => n.toNat - a.1) (0, o)
    ⟨by omega, .refl _ _, s, fun q _ => Nat.zero_le _, rfl⟩ ⟨rfl, rfl, rfl, rfl, rfl, trivial⟩ ?_
  rintro ⟨i, o1⟩ h1 Ψ2 ⟨i1, kp, s1, i2, eq⟩ next out
  simp only at i1 s1 i2 eq
  obtain ⟨p1, bad1, s1r⟩ := s1.any
  by_cases hi : (i : Int) < n
  · cases o1 with
    | none =>
      obtain ⟨p1, s1⟩ := s1
      simp only [mach, mach2, mstd, ↓reduceIte, Nat.reduceEqDiff, Nat.reduceAdd, Nat.reduceMul, hi, s1.own.cells.ld, mbl, Nat.reduceLeDiff, Nat.reduceLT, Int.reduceEq]
      refine out (.exit 0) _ _ _ _ (by intro e; cases e) ?_
      simp only [mach, mach2, mstd, ↓reduceIte, Nat.reduceEqDiff, Nat.reduceAdd, Nat.reduceMul]
      refine hΨ _ _ (fin_norm ⟨kp, rfl, ?_⟩)
      rw [eq]
      exact ⟨p1, s1⟩
    | some p1 =>
      have s1r : Rf h1 b C vi vc vt vp vk p1 false := s1
      have i3 := i2 p1 rfl
      have := s1r.le
      have := s1r.hl
      have hw1 : IntKind.i64.wrap ((i : Int) + 1) = i + 1 := i64w (by omega) (by omega)
      simp only [mach, mach2, mstd, ↓reduceIte, Nat.reduceEqDiff, Nat.reduceAdd, Nat.reduceMul, hi, s1r.own.cells.ld, mbl, Nat.reduceLeDiff, Nat.reduceLT, Int.reduceEq]
      refine XX_of (roperand_ok s1 z d w hd hd2 hw hw2) (fun res h2 hle hn2 => ?_)
      obtain ⟨kp2, rfl, s2⟩ := hn2
      refine .ret ?_
      have e1 : n.toNat - i = (n.toNat - (i + 1)) + 1 := by omega
      simp only [mach, mach2, mstd, ↓reduceIte, Nat.reduceEqDiff, Nat.reduceAdd, Nat.reduceMul, hw1]
      refine next (i + 1, oprnd C d w p1) _ _ _ ⟨by omega, kp.trans kp2, s2, fun q hq => ?_, ?_⟩ ⟨rfl, rfl, rfl, rfl, ?_, trivial⟩ (by simp only; omega)
      · have := oprnd_on q hq
        simp only
        omega
      · rw [eq, Option.bind_some, e1, oprnds]
        cases oprnd C d w p1 <;> rfl
      · simp only [Int.natCast_add, Int.cast_ofNat_Int]; rfl
  · have e1 : n.toNat - i = 0 := by omega
    simp only [mach, mach2, mstd, ↓reduceIte, Nat.reduceEqDiff, Nat.reduceAdd, Nat.reduceMul, hi]
    refine out (.exit 0) _ _ _ _ (by intro e; cases e) ?_
    simp only [mach, mach2, mstd, ↓reduceIte, Nat.reduceEqDiff, Nat.reduceAdd, Nat.reduceMul]
    refine hΨ _ _ (fin_norm ⟨kp, rfl, ?_⟩)
    rw [eq, e1]
    cases o1 <;> exact s1
theorem rfields_ok {o : Option Nat} (s : Ro h b C vi vc vt vp vk o) (z : Sz C) (hc : consOk C) (d w : Int) (hd : -9000000000000000000 <= d) (hd2 : d <= 9223372036854775807) (hw : -9000000000000000000 <= w) (hw2 : w <= 9223372036854775807) :
    Gets Tryz.prog 60 [.pointer (some ⟨b, 0, none⟩), iv d, iv w] h (RfO h b C vi vc vt vp vk (o.bind (flds C d w))) := by
  refine Gets.of (keep := false) hP (draw_ok hM) k60 (by rfl) (fun Ψ hΨ => ?_)
  obtain ⟨p0, bad0, s0⟩ := s.any
  obtain ⟨ka, kc, hvk⟩ := row_shape s0.im.rk
  simp only [mach, mach2, mstd, ↓reduceIte, Nat.reduceEqDiff, Nat.reduceAdd, Nat.reduceMul, r60, s0.own.cells.ld, mbl, Nat.reduceLeDiff, Nat.reduceLT, Int.reduceEq, hvk, lenw z.cons]
  refine XX_of (want_ok s 0 _ (Int.le_refl _)) (fun res h1 hle hn => ?_)
  obtain ⟨kp, rfl, s1⟩ := hn
  refine .ret ?_
  simp only [mach, mach2, mstd, ↓reduceIte, Nat.reduceEqDiff, Nat.reduceAdd, Nat.reduceMul, mbl, Nat.reduceLeDiff, Nat.reduceLT, Int.reduceEq]
  refine XX_of (want_ok s1 1 8 (by omega)) (fun res h2 hle2 hn => ?_)
  obtain ⟨kp2, rfl, s2⟩ := hn
  refine .ret ?_
  rcases wt_cases C 1 8 (wt C 0 ((C.cons.length : Int) - 1) o).2 with ⟨p1, n, q, eo, e1, x0, x8, e2⟩ | ⟨e2, hno⟩
  · rw [e2] at s2 ⊢
    have s2r : Rf h2 b C vi vc vt vp vk q false := s2
    have s2' : Ro h2 b C vi vc vt vp vk (some q) := s2
    obtain ⟨p, rfl, hb⟩ : ∃ p, o = some p /\ ∃ c, bl C C.cons.length p = some (c, p1) := by
      cases o with
      | none => cases eo
      | some p =>
        rw [wt_bl] at eo
        cases hb : bl C C.cons.length p with
        | none => rw [hb] at eo; cases eo
        | some v => rw [hb] at eo; cases eo; exact ⟨p, rfl, v.1, hb⟩
    obtain ⟨c, hb⟩ := hb
    have ec : (wt C 0 ((C.cons.length : Int) - 1) (some p)).1 = c := by rw [wt_bl, hb]
    rw [ec]
    obtain ⟨_, _, _, c0, c1⟩ := bl_inv hb
    obtain ⟨kb, ko, kc2, ke, kl, kd⟩ := rds_ix s2r.im.rk c0 (cn_at c0 c1)
    have hvk2 := ke.symm.trans hvk
    cases hvk2
    rw [Option.bind_some] at hΨ
    by_cases y : cn C c = n
    · simp only [mach, mach2, mstd, ↓reduceIte, Nat.reduceEqDiff, Nat.reduceAdd, Nat.reduceMul, s2r.own.cells.ld, mbl, Nat.reduceLeDiff, Nat.reduceLT, Int.reduceEq, ke, c0, kl, c1, and_self, Nat.mul_one, kd, eq_true y]
      refine XX_of (roperands_ok s2' z n d w hd hd2 hw hw2) (fun res h3 hle3 hn => ?_)
      obtain ⟨kp3, rfl, s3⟩ := hn
      refine .ret ?_
      simp only [mach, mach2, mstd, ↓reduceIte, Nat.reduceEqDiff, Nat.reduceAdd, Nat.reduceMul, mbl, Nat.reduceLeDiff, Nat.reduceLT, Int.reduceEq]
      refine hΨ _ _ (fin_norm ⟨(kp.trans kp2).trans kp3, rfl, ?_⟩)
      rw [show flds C d w p = oprnds C d w n.toNat q by
        unfold flds; rw [hb]; simp only; rw [if_pos (by omega), show exc C (cn C c) p1 = some q by unfold exc; rw [e1]; simp only; rw [if_pos y.symm], y]]
      exact s3
    · simp only [mach, mach2, mstd, ↓reduceIte, Nat.reduceEqDiff, Nat.reduceAdd, Nat.reduceMul, s2r.own.cells.ld, mbl, Nat.reduceLeDiff, Nat.reduceLT, Int.reduceEq, ke, c0, kl, c1, and_self, Nat.mul_one, kd, y]
      refine XH_own s2r.own rfl (by simp [Value.cells]) rfl (fun h' q1 q2 q3 => ?_)
      have o' : Own h' b 95 [vi, vc, vt, vp, iv C.main, vk, iv q, .bool true] := by simpa [Value.cells] using q1
      simp only [mach, mach2, mstd, ↓reduceIte, Nat.reduceEqDiff, Nat.reduceAdd, Nat.reduceMul, mbl, Nat.reduceLeDiff, Nat.reduceLT, Int.reduceEq]
      refine hΨ _ _ (fin_ret (rv0 ⟨(kp.trans kp2).trans q2, rfl, ?_⟩))
      rw [show flds C d w p = none by
        unfold flds; rw [hb]; simp only
        split
        · rw [show exc C (cn C c) p1 = none by unfold exc; rw [e1]; simp only; rw [if_neg (fun e => y e.symm)]]
        · rfl]
      exact ⟨q, o', s2r.im.keep q2 s2r.ne, s2r.ne, s2r.hl, s2r.le⟩
  · rw [e2] at s2 ⊢
    obtain ⟨q, s2⟩ := s2
    rw [bind_no (C := C) (f := flds C d w) (fun p hp => ?_)] at hΨ
    rotate_left
    · subst hp
      unfold flds
      cases hb : bl C C.cons.length p with
      | none => rfl
      | some v =>
        obtain ⟨c, p1⟩ := v
        simp only
        split
        · rename_i c0
          rw [show exc C (cn C c) p1 = none by
            unfold exc
            cases hn : nx C p1 with
            | none => rfl
            | some v =>
              simp only
              rw [if_neg]
              intro e
              have h1 := hno p1 v.1 v.2 (by rw [wt_bl, hb]) hn
              have h2 : cn C c <= 8 := by
                obtain ⟨_, _, _, c0, c1⟩ := bl_inv hb
                have := cn_at c0 c1
                exact (hc _ (List.mem_of_getElem? this)).2
              omega]
        · rfl
    simp only [mach, mach2, mstd, ↓reduceIte, Nat.reduceEqDiff, Nat.reduceAdd, Nat.reduceMul, s2.own.cells.ld, mbl, Nat.reduceLeDiff, Nat.reduceLT, Int.reduceEq]
    refine XH_own s2.own rfl (by simp [Value.cells]) rfl (fun h' q1 q2 q3 => ?_)
    have o' : Own h' b 95 [vi, vc, vt, vp, iv C.main, vk, iv q, .bool true] := by simpa [Value.cells] using q1
    simp only [mach, mach2, mstd, ↓reduceIte, Nat.reduceEqDiff, Nat.reduceAdd, Nat.reduceMul, mbl, Nat.reduceLeDiff, Nat.reduceLT, Int.reduceEq]
    exact hΨ _ _ (fin_ret (rv0 ⟨(kp.trans kp2).trans q2, rfl, q, o', s2.im.keep q2 s2.ne, s2.ne, s2.hl, s2.le⟩))
end
end Go.S17

namespace Go.S17
open Go Go.Eng Go.Proofs Go.Chk
section
variable {h : AH} {b : Nat} {C : Cx} {vi vc vt vp vk : Value}
theorem rthing_ok {o : Option Nat} (s : Ro h b C vi vc vt vp vk o) (z : Sz C) (hc : consOk C) (d w : Int) (hd : -9000000000000000000 <= d) (hd2 : d <= 9223372036854775807) (hw : -9000000000000000000 <= w) (hw2 : w <= 9223372036854775807) :
    Gets Tryz.prog 61 [.pointer (some ⟨b, 0, none⟩), iv d, iv w] h (RfO h b C vi vc vt vp vk (o.bind (thing C d w))) := by
  refine Gets.of (keep := false) hP (draw_ok hM) k61 (by rfl) (fun Ψ hΨ => ?_)
  obtain ⟨p0, bad0, s0⟩ := s.any
  obtain ⟨ia, ic, hvi⟩ := row_shape s0.im.ri
  obtain ⟨ta, tc, hvt⟩ := s0.im.rt
  simp only [mach, mach2, mstd, ↓reduceIte, Nat.reduceEqDiff, Nat.reduceAdd, Nat.reduceMul, r61]
  refine XX_of (want_ok s 0 4 (Int.le_refl _)) (fun res h1 hle hn => ?_)
  obtain ⟨kp, rfl, s1⟩ := hn
  refine .ret ?_
  rcases wt_cases C 0 4 o with ⟨p, x, q, rfl, e1, x0, x4, e2⟩ | ⟨e2, hno⟩
  · rw [e2] at s1 ⊢
    rw [Option.bind_some] at hΨ
    have s1r : Rf h1 b C vi vc vt vp vk q false := s1
    have s1' : Ro h1 b C vi vc vt vp vk (some q) := s1
    by_cases d0 : x = 0
    · simp only [mach, mach2, mstd, ↓reduceIte, Nat.reduceEqDiff, Nat.reduceAdd, Nat.reduceMul, s1r.own.cells.ld, mbl, Nat.reduceLeDiff, Nat.reduceLT, Int.reduceEq, eq_true d0, hvi, lenw z.infos]
      refine XX_of (want_ok s1' 0 _ (Int.le_refl _)) (fun res h2 hle2 hn => ?_)
      obtain ⟨kp2, rfl, s2⟩ := hn
      refine .ret ?_
      simp only [mach, mach2, mstd, ↓reduceIte, Nat.reduceEqDiff, Nat.reduceAdd, Nat.reduceMul, mbl, Nat.reduceLeDiff, Nat.reduceLT, Int.reduceEq]
      refine XX_of (rnext_ok s2) (fun res h3 hle3 hn => ?_)
      obtain ⟨kp3, rfl, s3⟩ := hn
      refine .ret ?_
      have kq := (kp.trans kp2).trans kp3
      cases hb : bl C C.infos.length q with
      | none =>
        have ew : wt C 0 ((C.infos.length : Int) - 1) (some q) = (0, none) := by rw [wt_bl, hb]
        rw [ew, nt_none] at s3 ⊢
        obtain ⟨px, sx⟩ := s3
        simp only [mach, mach2, mstd, ↓reduceIte, Nat.reduceEqDiff, Nat.reduceAdd, Nat.reduceMul, sx.own.cells.ld, mbl, Nat.reduceLeDiff, Nat.reduceLT, Int.reduceEq]
        refine XH_own sx.own rfl (by simp [Value.cells]) rfl (fun h' q1 q2 q3 => ?_)
        have o' : Own h' b 95 [vi, vc, vt, vp, iv C.main, vk, iv px, .bool true] := by simpa [Value.cells] using q1
        simp only [mach, mach2, mstd, ↓reduceIte, Nat.reduceEqDiff, Nat.reduceAdd, Nat.reduceMul, mbl, Nat.reduceLeDiff, Nat.reduceLT, Int.reduceEq]
        refine hΨ _ _ (fin_ret (rv0 ⟨kq.trans q2, rfl, ?_⟩))
        rw [show thing C d w p = none by simp [thing, e1, d0, hb]]
        exact ⟨px, o', sx.im.keep q2 sx.ne, sx.ne, sx.hl, sx.le⟩
      | some v =>
        obtain ⟨i, r⟩ := v
        have ew : wt C 0 ((C.infos.length : Int) - 1) (some q) = (i, some r) := by rw [wt_bl, hb]
        rw [ew] at s3 ⊢
        simp only at s3 ⊢
        cases hx : nx C r with
        | none =>
          have en : Chk.nt C (some r) = (0, none) := by simp only [Chk.nt, hx]
          rw [en] at s3 ⊢
          obtain ⟨px, sx⟩ := s3
          simp only [mach, mach2, mstd, ↓reduceIte, Nat.reduceEqDiff, Nat.reduceAdd, Nat.reduceMul, sx.own.cells.ld, mbl, Nat.reduceLeDiff, Nat.reduceLT, Int.reduceEq]
          refine XH_own sx.own rfl (by simp [Value.cells]) rfl (fun h' q1 q2 q3 => ?_)
          have o' : Own h' b 95 [vi, vc, vt, vp, iv C.main, vk, iv px, .bool true] := by simpa [Value.cells] using q1
          simp only [mach, mach2, mstd, ↓reduceIte, Nat.reduceEqDiff, Nat.reduceAdd, Nat.reduceMul, mbl, Nat.reduceLeDiff, Nat.reduceLT, Int.reduceEq]
          refine hΨ _ _ (fin_ret (rv0 ⟨kq.trans q2, rfl, ?_⟩))
          rw [show thing C d w p = none by simp [thing, e1, d0, hb, exc, hx]]
          exact ⟨px, o', sx.im.keep q2 sx.ne, sx.ne, sx.hl, sx.le⟩
        | some v =>
          obtain ⟨n, px⟩ := v
          have en : Chk.nt C (some r) = (n, some px) := by simp only [Chk.nt, hx]
          rw [en] at s3 ⊢
          have sx : Rf h3 b C vi vc vt vp vk px false := s3
          have sx' : Ro h3 b C vi vc vt vp vk (some px) := s3
          obtain ⟨_, _, _, c0, c1⟩ := bl_inv hb
          obtain ⟨y, yx, yf⟩ := fr_at c0 c1
          obtain ⟨kb, ko, kc, ke, kl, kd⟩ := rds_fld (by omega) Inf.len sx.im.ri yx
          have kd2 := kd 2 (by omega)
          simp only [Inf.cells, List.getElem?_cons_succ, List.getElem?_cons_zero, Option.map_some, yf] at kd2
          have hv2 := ke.symm.trans hvi
          cases hv2
          by_cases dn : n = fr C i
          · simp only [mach, mach2, mstd, ↓reduceIte, Nat.reduceEqDiff, Nat.reduceAdd, Nat.reduceMul, sx.own.cells.ld, mbl, Nat.reduceLeDiff, Nat.reduceLT, Int.reduceEq, ke, hvi, c0, c1, and_self, kd2, eq_true dn]
            refine XX_of (roperands_ok sx' z n d w hd hd2 hw hw2) (fun res h4 hle4 hn => ?_)
            obtain ⟨kp4, rfl, s4⟩ := hn
            refine .ret ?_
            simp only [mach, mach2, mstd, ↓reduceIte, Nat.reduceEqDiff, Nat.reduceAdd, Nat.reduceMul, mbl, Nat.reduceLeDiff, Nat.reduceLT, Int.reduceEq]
            refine hΨ _ _ (fin_norm ⟨kq.trans kp4, rfl, ?_⟩)
            rw [show thing C d w p = oprnds C d w n.toNat px by simp [thing, e1, d0, hb, exc, hx, dn]]
            exact s4
          · simp only [mach, mach2, mstd, ↓reduceIte, Nat.reduceEqDiff, Nat.reduceAdd, Nat.reduceMul, sx.own.cells.ld, mbl, Nat.reduceLeDiff, Nat.reduceLT, Int.reduceEq, ke, hvi, c0, c1, and_self, kd2, dn]
            refine XH_own sx.own rfl (by simp [Value.cells]) rfl (fun h' q1 q2 q3 => ?_)
            have o' : Own h' b 95 [vi, vc, vt, vp, iv C.main, vk, iv px, .bool true] := by simpa [Value.cells] using q1
            simp only [mach, mach2, mstd, ↓reduceIte, Nat.reduceEqDiff, Nat.reduceAdd, Nat.reduceMul, mbl, Nat.reduceLeDiff, Nat.reduceLT, Int.reduceEq]
            refine hΨ _ _ (fin_ret (rv0 ⟨kq.trans q2, rfl, ?_⟩))
            rw [show thing C d w p = none by simp [thing, e1, d0, hb, exc, hx, dn]]
            exact ⟨px, o', sx.im.keep q2 sx.ne, sx.ne, sx.hl, sx.le⟩
    by_cases d1 : x = 1
    · simp only [mach, mach2, mstd, ↓reduceIte, Nat.reduceEqDiff, Nat.reduceAdd, Nat.reduceMul, s1r.own.cells.ld, mbl, Nat.reduceLeDiff, Nat.reduceLT, Int.reduceEq, d0, eq_true d1]
      refine XX_of (rfields_ok s1' z hc d w hd hd2 hw hw2) (fun res h2 hle2 hn => ?_)
      obtain ⟨kp2, rfl, s2⟩ := hn
      refine .ret ?_
      simp only [mach, mach2, mstd, ↓reduceIte, Nat.reduceEqDiff, Nat.reduceAdd, Nat.reduceMul, mbl, Nat.reduceLeDiff, Nat.reduceLT, Int.reduceEq]
      refine hΨ _ _ (fin_norm ⟨kp.trans kp2, rfl, ?_⟩)
      rw [show thing C d w p = flds C d w q by simp [thing, e1, d0, d1]]
      exact s2
    by_cases d2 : x = 2
    · simp only [mach, mach2, mstd, ↓reduceIte, Nat.reduceEqDiff, Nat.reduceAdd, Nat.reduceMul, s1r.own.cells.ld, mbl, Nat.reduceLeDiff, Nat.reduceLT, Int.reduceEq, d0, d1, eq_true d2, hvt, lenw z.nt]
      refine XX_of (want_ok s1' 0 _ (Int.le_refl _)) (fun res h2 hle2 hn => ?_)
      obtain ⟨kp2, rfl, s2⟩ := hn
      refine .ret ?_
      simp only [mach, mach2, mstd, ↓reduceIte, Nat.reduceEqDiff, Nat.reduceAdd, Nat.reduceMul, mbl, Nat.reduceLeDiff, Nat.reduceLT, Int.reduceEq]
      refine XX_of (want_ok s2 0 0 (Int.le_refl _)) (fun res h3 hle3 hn => ?_)
      rw [wt_bl2] at hn
      obtain ⟨kp3, rfl, s3⟩ := hn
      refine .ret ?_
      simp only [mach, mach2, mstd, ↓reduceIte, Nat.reduceEqDiff, Nat.reduceAdd, Nat.reduceMul, mbl, Nat.reduceLeDiff, Nat.reduceLT, Int.reduceEq]
      refine hΨ _ _ (fin_norm ⟨(kp.trans kp2).trans kp3, rfl, ?_⟩)
      rw [wt_exc'] at s3
      rw [show thing C d w p = ((some q).bind fun p => sn (bl C C.nt p)).bind (exc C 0) by simp only [thing, e1, d0, d1, d2, if_true, if_false, Option.bind_some]; cases bl C C.nt q <;> rfl]
      exact s3
    by_cases d3 : x = 3
    · simp only [mach, mach2, mstd, ↓reduceIte, Nat.reduceEqDiff, Nat.reduceAdd, Nat.reduceMul, s1r.own.cells.ld, mbl, Nat.reduceLeDiff, Nat.reduceLT, Int.reduceEq, d0, d1, d2, eq_true d3]
      refine XX_of (rcon_ok s1' z.cons) (fun res h2 hle2 hn => ?_)
      obtain ⟨kp2, rfl, s2⟩ := hn
      refine .ret ?_
      simp only [mach, mach2, mstd, ↓reduceIte, Nat.reduceEqDiff, Nat.reduceAdd, Nat.reduceMul, mbl, Nat.reduceLeDiff, Nat.reduceLT, Int.reduceEq]
      refine XX_of (want_ok s2 0 0 (Int.le_refl _)) (fun res h3 hle3 hn => ?_)
      have e3 : thing C d w p = ((some q).bind (con0 C)).bind (exc C 0) := by
        unfold thing
        rw [e1]
        simp only
        rw [if_neg d0, if_neg d1, if_neg d2, if_pos d3, Option.bind_some]
        unfold con0
        cases bl C C.cons.length q with
        | none => rfl
        | some v =>
          simp only
          by_cases c : cn C v.1 = 0
          · rw [if_pos c, if_pos c]; rfl
          · rw [if_neg c, if_neg c]; rfl
      obtain ⟨kp3, rfl, s3⟩ := hn
      refine .ret ?_
      simp only [mach, mach2, mstd, ↓reduceIte, Nat.reduceEqDiff, Nat.reduceAdd, Nat.reduceMul, mbl, Nat.reduceLeDiff, Nat.reduceLT, Int.reduceEq]
      refine hΨ _ _ (fin_norm ⟨(kp.trans kp2).trans kp3, rfl, ?_⟩)
      rw [wt_exc'] at s3
      rw [show thing C d w p = ((some q).bind (con0 C)).bind (exc C 0) from e3]
      exact s3
    · have d4 : x = 4 := by omega
      simp only [mach, mach2, mstd, ↓reduceIte, Nat.reduceEqDiff, Nat.reduceAdd, Nat.reduceMul, s1r.own.cells.ld, mbl, Nat.reduceLeDiff, Nat.reduceLT, Int.reduceEq, d0, d1, d2, d3, eq_true d4]
      refine XX_of (rnext_ok s1') (fun res h2 hle2 hn => ?_)
      obtain ⟨kp2, rfl, s2⟩ := hn
      refine .ret ?_
      simp only [mach, mach2, mstd, ↓reduceIte, Nat.reduceEqDiff, Nat.reduceAdd, Nat.reduceMul, mbl, Nat.reduceLeDiff, Nat.reduceLT, Int.reduceEq]
      refine XX_of (want_ok s2 0 0 (Int.le_refl _)) (fun res h3 hle3 hn => ?_)
      rw [nt_2] at hn
      obtain ⟨kp3, rfl, s3⟩ := hn
      refine .ret ?_
      simp only [mach, mach2, mstd, ↓reduceIte, Nat.reduceEqDiff, Nat.reduceAdd, Nat.reduceMul, mbl, Nat.reduceLeDiff, Nat.reduceLT, Int.reduceEq]
      refine hΨ _ _ (fin_norm ⟨(kp.trans kp2).trans kp3, rfl, ?_⟩)
      rw [wt_exc'] at s3
      rw [show thing C d w p = ((some q).bind fun p => sn (nx C p)).bind (exc C 0) by simp only [thing, e1, d0, d1, d2, d3, eq_true d4, if_true, if_false, Option.bind_some]; cases nx C q <;> rfl]
      exact s3
  · rw [e2] at s1 ⊢
    rw [bind_no (C := C) (f := thing C d w) (fun p hp => ?_)] at hΨ
    rotate_left
    · unfold thing
      cases hn : nx C p with
      | none => rfl
      | some v =>
        have := hno p v.1 v.2 hp hn
        simp only
        rw [if_neg (by omega), if_neg (by omega), if_neg (by omega), if_neg (by omega), if_neg (by omega)]
    obtain ⟨p, s1⟩ := s1
    simp only [mach, mach2, mstd, ↓reduceIte, Nat.reduceEqDiff, Nat.reduceAdd, Nat.reduceMul, s1.own.cells.ld, mbl, Nat.reduceLeDiff, Nat.reduceLT, Int.reduceEq]
    exact hΨ _ _ (fin_ret (rv0 ⟨kp, rfl, p, s1⟩))
end
end Go.S17

namespace Go.S17
open Go Go.Eng Go.Proofs Go.Chk
structure Ml (h : AH) (b : Nat) (C : Cx) (vi vc vt vp vk : Value) (n : Int) (q : Nat) (a : Nat × Option Nat × Value × Value × List (Int × Int)) (h' : AH) : Prop where
  i1 : a.1 <= n.toNat
  kp : Keep (· = b) h h'
  s : Ro h' b C vi vc vt vp vk a.2.1
  op : Ows h' 3 1 a.2.2.1 a.1 (ns (a.2.2.2.2.map (·.2)))
  om : Ows h' 3 1 a.2.2.2.1 a.1 (ns (a.2.2.2.2.map (·.1)))
  fp : ∀ x, bk a.2.2.1 x -> h.length <= x
  fm : ∀ x, bk a.2.2.2.1 x -> h.length <= x
  ne : ∀ x, bk a.2.2.1 x -> ¬ bk a.2.2.2.1 x
  ln : a.2.2.2.2.length = a.1
  pl : ∀ p, a.2.1 = some p -> a.1 <= p
  eq : wys C n.toNat q = a.2.1.bind fun p => (wys C (n.toNat - a.1) p).map fun y => (a.2.2.2.2 ++ y.1, y.2)
theorem nil_ows {h : AH} {e : TypeId} : Ows h e 1 (.slice none 0 0) 0 [] := .nil
section
variable {h : AH} {b : Nat} {C : Cx} {vi vc vt vp vk : Value}
theorem Ml.next {n : Int} {q i : Nat} {o o2 : Option Nat} {wp wm : Value} {l : List (Int × Int)} {h1 h2 : AH} {p v : Int} (m : Ml h b C vi vc vt vp vk n q (i, o, wp, wm, l) h1) (him : ∀ x, (x = b \/ rb vi x \/ rb vc x \/ rb vp x \/ rb vk x) -> x < h.length) (hi : i <= 200000) (hin : i + 1 <= n.toNat) (k : Keep (· = b) h1 h2) (s : Ro h2 b C vi vc vt vp vk o2) (hpl : ∀ p, o2 = some p -> i + 1 <= p)
    (eq : wys C n.toNat q = o2.bind fun u => (wys C (n.toNat - (i + 1)) u).map fun y => ((l ++ [(v, p)]) ++ y.1, y.2)) :
    ∃ wp' wm' h3 h4, appv false (h2 ++ [row 3 h2.length [iv p]]) false 3 1 8 wp (.slice (some ⟨h2.length, 0, none⟩) 1 1) = some (wp', h3) /\ appv false (h3 ++ [row 3 h3.length [iv v]]) false 3 1 8 wm (.slice (some ⟨h3.length, 0, none⟩) 1 1) = some (wm', h4) /\
      Ml h b C vi vc vt vp vk n q (i + 1, o2, wp', wm', l ++ [(v, p)]) h4 := by
  obtain ⟨i1, kp, s0, op, om, fp, fm, ne, ln, pl, _⟩ := m
  have hb := him b (.inl rfl)
  simp only at i1 op om fp fm ne ln
  have hbp : ∀ x, bk wp x -> ¬ x = b := fun x hx e => by have := fp x hx; omega
  have hbm : ∀ x, bk wm x -> ¬ x = b := fun x hx e => by have := fm x hx; omega
  have hlen := kp.len
  have hlen2 := k.len
  obtain ⟨wp', h3, a1, a2, a3, a4⟩ := app1 (bytes := 8) (xs := [iv p]) (op.keep k hbp) rfl rfl (by omega) (by omega)
  have omk := (om.keep k hbm).keep a3 (fun x hx e => ne x e hx)
  have hmlt := om.lt
  have hplt := op.lt
  obtain ⟨wm', h4, b1, b2, b3, b4⟩ := app1 (bytes := 8) (xs := [iv v]) omk rfl rfl (by omega) (by omega)
  have fp' : ∀ x, bk wp' x -> h.length <= x := fun x hx => by
    rcases a4 x hx with e | e
    · exact fp x e
    · omega
  have hl3 := a3.len
  have fm' : ∀ x, bk wm' x -> h.length <= x := fun x hx => by
    rcases b4 x hx with e | e
    · exact fm x e
    · omega
  have npm : ∀ x, bk wp' x -> ¬ bk wm x := fun x hx e => by
    rcases a4 x hx with c | c
    · exact ne x c e
    · have := hmlt x e
      omega
  have hplt' := a2.lt
  refine ⟨wp', wm', h3, h4, a1, b1, hin, ?_, ?_, ?_, ?_, fp', fm', ?_, by simp [ln], hpl, eq⟩
  · exact ((kp.trans k).trans' a3 (fun x hx e => by have := fp x e; omega)).trans' b3 (fun x hx e => by have := fm x e; omega)
  · exact (s.keep a3 (fun x hx e => by have := fp x e; have := him x hx; omega)).keep b3 (fun x hx e => by have := fm x e; have := him x hx; omega)
  · have := a2.keep b3 npm
    simp only [List.map_append, List.map_cons, List.map_nil, ns_app] at this ⊢
    exact this
  · simp only [List.map_append, List.map_cons, List.map_nil, ns_app] at b2 ⊢
    exact b2
  · intro x hx e
    rcases b4 x e with c | c
    · exact npm x hx c
    · have := hplt' x hx
      omega
theorem Ro.lt {o : Option Nat} (s : Ro h b C vi vc vt vp vk o) : ∀ x, (x = b \/ rb vi x \/ rb vc x \/ rb vp x \/ rb vk x) -> x < h.length := by
  obtain ⟨p, bad, s⟩ := s.any
  rintro x (rfl | e)
  · exact s.own.lt
  · exact s.im.lt x e
theorem rcases_ok {f : Nat} {o : Option Nat} (s : Ro h b C vi vc vt vp vk o) (z : Sz C) (hc : consOk C) (d w : Int) (hd : 0 <= d) (hdp : ∀ p, o = some p -> C.code.length - p < f /\ d <= 8 + 8 * (p : Int))
    (hE : ∀ (h2 : AH) (q : Nat) (d2 : Int), C.code.length - q < f -> 0 <= d2 -> d2 <= 8 + 8 * (q : Int) -> Ro h2 b C vi vc vt vp vk (some q) -> Gets Tryz.prog 45 [.pointer (some ⟨b, 0, none⟩), iv d2, iv w] h2 (RfO h2 b C vi vc vt vp vk (expr C f d2 w q))) :
    Gets Tryz.prog 63 [.pointer (some ⟨b, 0, none⟩), iv d, iv w] h (RfO h b C vi vc vt vp vk (o.bind (brn C (fun s' p' => expr C f s' w p') d))) := by
  refine Gets.of (keep := false) hP (draw_ok hM) k63 (by rfl) (fun Ψ hΨ => ?_)
  obtain ⟨p0, bad0, s0⟩ := s.any
  have hl := s0.hl
  obtain ⟨ka, kc, hvk⟩ := row_shape s0.im.rk
  have him := s.lt
  simp only [mach, mach2, mstd, ↓reduceIte, Nat.reduceEqDiff, Nat.reduceAdd, Nat.reduceMul, r63]
  refine XX_of (want_ok s 7 7 (by omega)) (fun res h1 hle hn => ?_)
  obtain ⟨kp, rfl, s1⟩ := hn
  refine .ret ?_
  rw [wt_exc'] at s1
  simp only at s1
  simp only [mach, mach2, mstd, ↓reduceIte, Nat.reduceEqDiff, Nat.reduceAdd, Nat.reduceMul, mbl, Nat.reduceLeDiff, Nat.reduceLT, Int.reduceEq]
  refine XX_of (want_ok s1 1 200000 (by omega)) (fun res h2 hle2 hn => ?_)
  obtain ⟨kp2, rfl, s2⟩ := hn
  refine .ret ?_
  have k12 := kp.trans kp2
  rcases wt_cases C 1 200000 (o.bind (exc C 7)) with ⟨p1, x, q, eo, e1, x0, x4, e2⟩ | ⟨e2, hno⟩
  · rw [e2] at s2 ⊢
    simp only at s2 ⊢
    obtain ⟨p, rfl, e7⟩ := Option.bind_eq_some_iff.1 eo
    rw [Option.bind_some] at hΨ
    obtain ⟨f1, f2⟩ := hdp p rfl
    have g7 := exc_on e7
    have g1 := nx_on e1
    simp only [mach, mach2, mstd, ↓reduceIte, Nat.reduceEqDiff, Nat.reduceAdd, Nat.reduceMul, mbl, Nat.reduceLeDiff, Nat.reduceLT, Int.reduceEq]
    refine XLo_rule (α := Nat × Option Nat × Value × Value × List (Int × Int)) (fun a => [(0, .pointer (some ⟨b, 0, none⟩)), (1, iv d), (2, iv w), (6, iv x), (7, a.2.2.1), (8, a.2.2.2.1), (9, iv a.1)])
      (fun a h' => Ml h b C vi vc vt vp vk x q a h') (fun a => x.toNat - a.1) (0, some q, .slice none 0 0, .slice none 0 0, [])
      ⟨by simp, k12, s2, nil_ows, nil_ows, fun y e => by (cases e), fun y e => by (cases e), fun y e => by (cases e), rfl, fun p _ => Nat.zero_le _, by
        simp only [Option.bind_some, Nat.sub_zero, List.nil_append]
        cases wys C x.toNat q <;> rfl⟩ ⟨rfl, rfl, rfl, rfl, rfl, rfl, rfl, trivial⟩ ?_
    rintro ⟨i, o1, wp, wm, l⟩ h3 Ψ2 m next out
    have ms : Ro h3 b C vi vc vt vp vk o1 := m.s
    have mi := m.i1
    have mp := m.pl
    have me := m.eq
    have mk := m.kp
    simp only at mi mp me mk
    have x01 : (0 : Int) < x := by omega
    by_cases hi : (i : Int) < x
    · cases o1 with
      | none =>
        obtain ⟨p3, s3⟩ := ms
        simp only [mach, mach2, mstd, ↓reduceIte, Nat.reduceEqDiff, Nat.reduceAdd, Nat.reduceMul, hi, s3.own.cells.ld, mbl, Nat.reduceLeDiff, Nat.reduceLT, Int.reduceEq]
        refine out (.exit 0) _ _ _ _ (by intro e; cases e) ?_
        simp only [mach, mach2, mstd, ↓reduceIte, Nat.reduceEqDiff, Nat.reduceAdd, Nat.reduceMul, mbl, Nat.reduceLeDiff, Nat.reduceLT, Int.reduceEq]
        refine XLo_rule (α := Nat) (fun _ => [(0, .pointer (some ⟨b, 0, none⟩)), (6, iv x), (12, iv 0)])
          (fun _ h' => h' = h3) (fun _ => 0) 0 rfl ⟨rfl, rfl, rfl, trivial⟩ ?_
        rintro _ g1 Ψ3 rfl _ out2
        simp only [mach, mach2, mstd, ↓reduceIte, Nat.reduceEqDiff, Nat.reduceAdd, Nat.reduceMul, x01, s3.own.cells.ld, mbl, Nat.reduceLeDiff, Nat.reduceLT, Int.reduceEq]
        refine out2 (.exit 3) _ _ _ _ (by intro e; cases e) ?_
        simp only [mach, mach2, mstd, ↓reduceIte, Nat.reduceEqDiff, Nat.reduceAdd, Nat.reduceMul, mbl, Nat.reduceLeDiff, Nat.reduceLT, Int.reduceEq]
        refine hΨ _ _ (fin_norm ⟨mk, rfl, ?_⟩)
        rw [show brn C (fun s' p' => expr C f s' w p') d p = none by
          unfold brn; rw [e7]; simp only
          cases hb : bl C 200000 p1 with
          | none => rfl
          | some v =>
            obtain ⟨v1, v2⟩ := v
            obtain ⟨hv2, hcd, _, _, _⟩ := bl_inv hb
            have hnx : nx C p1 = some (v1, p1 + 1) := by unfold nx; rw [hcd]
            rw [e1] at hnx
            simp only [Option.some.injEq, Prod.mk.injEq] at hnx
            obtain ⟨hx1, hq1⟩ := hnx
            rw [hv2, <- hx1, <- hq1]
            simp only
            rw [if_pos (by omega), show wys C x.toNat q = none from me]]
        exact ⟨p3, s3⟩
      | some p3 =>
        have s3r : Rf h3 b C vi vc vt vp vk p3 false := ms
        have mp3 := mp p3 rfl
        have := s3r.le
        have hwi : IntKind.i64.wrap ((i : Int) + 1) = ((i + 1 : Nat) : Int) := by rw [i64w (by omega) (by omega)]; omega
        simp only [mach, mach2, mstd, ↓reduceIte, Nat.reduceEqDiff, Nat.reduceAdd, Nat.reduceMul, hi, s3r.own.cells.ld, mbl, Nat.reduceLeDiff, Nat.reduceLT, Int.reduceEq]
        refine XX_of (want_ok ms 1 3 (by omega)) (fun res h4 hle4 hn => ?_)
        obtain ⟨kp4, rfl, s4⟩ := hn
        refine .ret ?_
        rcases wt_cases C 1 3 (some p3) with ⟨p3', k, q3, eo3, e3, k0, k4, e4⟩ | ⟨e4, hno4⟩
        · cases eo3
          have g3 := nx_on e3
          rw [e4] at s4 ⊢
          have s4r : Rf h4 b C vi vc vt vp vk q3 false := s4
          have s4' : Ro h4 b C vi vc vt vp vk (some q3) := s4
          by_cases d1 : k = 1
          · simp only [mach, mach2, mstd, ↓reduceIte, Nat.reduceEqDiff, Nat.reduceAdd, Nat.reduceMul, s4r.own.cells.ld, mbl, Nat.reduceLeDiff, Nat.reduceLT, Int.reduceEq, eq_true d1, hvk, lenw z.cons]
            refine XX_of (want_ok s4' 0 _ (Int.le_refl _)) (fun res h5 hle5 hn => ?_)
            obtain ⟨kp5, rfl, s5⟩ := hn
            refine .ret ?_
            cases hb : bl C C.cons.length q3 with
            | none =>
              have ew : wt C 0 ((C.cons.length : Int) - 1) (some q3) = (0, none) := by rw [wt_bl, hb]
              rw [ew] at s5 ⊢
              obtain ⟨oX, hoXe⟩ : ∃ oX : Option Nat, oX = none := ⟨_, rfl⟩
              have sX : Ro h5 b C vi vc vt vp vk oX := by rw [hoXe]; exact s5
              have hoX : ∀ t, oX = some t -> p3 <= t := fun t e => by rw [hoXe] at e; cases e
              obtain ⟨p5, s5⟩ := s5
              have eqw : way C (x.toNat - (i + 1) == 0) p3 = oX.bind fun t => (nx C t).map fun y => ((0, y.1), y.2) := way_of e3 (by rw [hoXe]; simp [wv, d1, hb])
              have kX := kp4.trans kp5
              simp only [mach, mach2, mstd, ↓reduceIte, Nat.reduceEqDiff, Nat.reduceAdd, Nat.reduceMul, s5.own.cells.ld, mbl, Nat.reduceLeDiff, Nat.reduceLT, Int.reduceEq]
              refine XX_of (rnext_ok sX) (fun res h8 hle8 hn => ?_)
              obtain ⟨kp8, rfl, s8⟩ := hn
              refine .ret ?_
              obtain ⟨wp', wm', h9, h10, a1, a2, m'⟩ := m.next him (by omega) (by omega) (kX.trans kp8) s8 (fun t ht => by
                obtain ⟨t0, e0, e9⟩ : ∃ t0, oX = some t0 /\ t = t0 + 1 := by
                  cases hoX : oX with
                  | none => rw [hoX] at ht; cases ht
                  | some t0 =>
                    rw [hoX] at ht
                    simp only [Chk.nt] at ht
                    cases hnx : nx C t0 with
                    | none => rw [hnx] at ht; cases ht
                    | some y =>
                      rw [hnx] at ht
                      cases ht
                      exact ⟨t0, rfl, (nx_inv hnx).1⟩
                have := hoX t0 e0
                omega) (v := 0) (p := (Chk.nt C oX).1) (by
                  rw [me, Option.bind_some, show x.toNat - i = (x.toNat - (i + 1)) + 1 by omega, wys_step eqw l])
              simp only [mach, mach2, mstd, ↓reduceIte, Nat.reduceEqDiff, Nat.reduceAdd, Nat.reduceMul, mbl, Nat.reduceLeDiff, Nat.reduceLT, Int.reduceEq, a1, a2, hwi]
              exact next (i + 1, _, wp', wm', _) _ _ _ m' ⟨rfl, rfl, rfl, rfl, rfl, rfl, rfl, trivial⟩ (by simp only; omega)
            | some v =>
              obtain ⟨c, r⟩ := v
              have gb := bl_on hb
              have ew : wt C 0 ((C.cons.length : Int) - 1) (some q3) = (c, some r) := by rw [wt_bl, hb]
              rw [ew] at s5 ⊢
              simp only at s5 ⊢
              have s5r : Rf h5 b C vi vc vt vp vk r false := s5
              obtain ⟨_, _, _, c0, c1⟩ := bl_inv hb
              obtain ⟨kb, ko, kc2, ke, kl, kd⟩ := rds_ix s5r.im.rk c0 (cn_at c0 c1)
              have hvk2 := ke.symm.trans hvk
              cases hvk2
              simp only [mach, mach2, mstd, ↓reduceIte, Nat.reduceEqDiff, Nat.reduceAdd, Nat.reduceMul, s5r.own.cells.ld, mbl, Nat.reduceLeDiff, Nat.reduceLT, Int.reduceEq, ke, c0, kl, c1, and_self, Nat.mul_one, kd]
              refine XX_of (want_ok s5 (cn C c) (cn C c) (cn_8 hc c).1) (fun res h6 hle6 hn => ?_)
              obtain ⟨kp6, rfl, s6⟩ := hn
              refine .ret ?_
              rw [wt_exc'] at s6 ⊢
              rw [Option.bind_some] at s6
              simp only at s6 ⊢
              obtain ⟨oX, hoXe⟩ : ∃ oX : Option Nat, oX = exc C (cn C c) r := ⟨_, rfl⟩
              have sX : Ro h6 b C vi vc vt vp vk oX := by rw [hoXe]; exact s6
              have hoX : ∀ t, oX = some t -> p3 <= t := fun t e => by rw [hoXe] at e; have := exc_on e; omega
              have eqw : way C (x.toNat - (i + 1) == 0) p3 = oX.bind fun t => (nx C t).map fun y => ((cn C c, y.1), y.2) := way_of e3 (by rw [hoXe]; simp [wv, d1, hb])
              have kX := (kp4.trans kp5).trans kp6
              simp only [mach, mach2, mstd, ↓reduceIte, Nat.reduceEqDiff, Nat.reduceAdd, Nat.reduceMul, mbl, Nat.reduceLeDiff, Nat.reduceLT, Int.reduceEq]
              refine XX_of (rnext_ok sX) (fun res h8 hle8 hn => ?_)
              obtain ⟨kp8, rfl, s8⟩ := hn
              refine .ret ?_
              obtain ⟨wp', wm', h9, h10, a1, a2, m'⟩ := m.next him (by omega) (by omega) (kX.trans kp8) s8 (fun t ht => by
                obtain ⟨t0, e0, e9⟩ : ∃ t0, oX = some t0 /\ t = t0 + 1 := by
                  cases hoX : oX with
                  | none => rw [hoX] at ht; cases ht
                  | some t0 =>
                    rw [hoX] at ht
                    simp only [Chk.nt] at ht
                    cases hnx : nx C t0 with
                    | none => rw [hnx] at ht; cases ht
                    | some y =>
                      rw [hnx] at ht
                      cases ht
                      exact ⟨t0, rfl, (nx_inv hnx).1⟩
                have := hoX t0 e0
                omega) (v := cn C c) (p := (Chk.nt C oX).1) (by
                  rw [me, Option.bind_some, show x.toNat - i = (x.toNat - (i + 1)) + 1 by omega, wys_step eqw l])
              simp only [mach, mach2, mstd, ↓reduceIte, Nat.reduceEqDiff, Nat.reduceAdd, Nat.reduceMul, mbl, Nat.reduceLeDiff, Nat.reduceLT, Int.reduceEq, a1, a2, hwi]
              exact next (i + 1, _, wp', wm', _) _ _ _ m' ⟨rfl, rfl, rfl, rfl, rfl, rfl, rfl, trivial⟩ (by simp only; omega)
          by_cases d2 : k = 2
          · simp only [mach, mach2, mstd, ↓reduceIte, Nat.reduceEqDiff, Nat.reduceAdd, Nat.reduceMul, mbl, Nat.reduceLeDiff, Nat.reduceLT, Int.reduceEq, d1, eq_true d2]
            refine XX_of (rnext_ok s4') (fun res h5 hle5 hn => ?_)
            obtain ⟨kp5, rfl, s5⟩ := hn
            refine .ret ?_
            simp only [mach, mach2, mstd, ↓reduceIte, Nat.reduceEqDiff, Nat.reduceAdd, Nat.reduceMul, mbl, Nat.reduceLeDiff, Nat.reduceLT, Int.reduceEq]
            refine XX_of (want_ok s5 0 0 (Int.le_refl _)) (fun res h6 hle6 hn => ?_)
            obtain ⟨kp6, rfl, s6⟩ := hn
            refine .ret ?_
            rw [wt_exc', nt_2, Option.bind_some] at s6
            simp only at s6
            obtain ⟨oX, hoXe⟩ : ∃ oX : Option Nat, oX = (sn (nx C q3)).bind (exc C 0) := ⟨_, rfl⟩
            have sX : Ro h6 b C vi vc vt vp vk oX := by rw [hoXe]; exact s6
            have hoX : ∀ t, oX = some t -> p3 <= t := fun t e => by
              rw [hoXe] at e
              obtain ⟨r, e5, e6⟩ := Option.bind_eq_some_iff.1 e
              obtain ⟨n, e5⟩ := sn_inv e5
              have := nx_on e5
              have := exc_on e6
              omega
            have eqw : way C (x.toNat - (i + 1) == 0) p3 = oX.bind fun t => (nx C t).map fun y => ((0, y.1), y.2) := way_of e3 (by
              rw [hoXe]; unfold wv; rw [if_neg d1, if_pos d2]
              cases nx C q3 <;> rfl)
            have kX := (kp4.trans kp5).trans kp6
            simp only [mach, mach2, mstd, ↓reduceIte, Nat.reduceEqDiff, Nat.reduceAdd, Nat.reduceMul, mbl, Nat.reduceLeDiff, Nat.reduceLT, Int.reduceEq]
            refine XX_of (rnext_ok sX) (fun res h8 hle8 hn => ?_)
            obtain ⟨kp8, rfl, s8⟩ := hn
            refine .ret ?_
            obtain ⟨wp', wm', h9, h10, a1, a2, m'⟩ := m.next him (by omega) (by omega) (kX.trans kp8) s8 (fun t ht => by
              obtain ⟨t0, e0, e9⟩ : ∃ t0, oX = some t0 /\ t = t0 + 1 := by
                cases hoX : oX with
                | none => rw [hoX] at ht; cases ht
                | some t0 =>
                  rw [hoX] at ht
                  simp only [Chk.nt] at ht
                  cases hnx : nx C t0 with
                  | none => rw [hnx] at ht; cases ht
                  | some y =>
                    rw [hnx] at ht
                    cases ht
                    exact ⟨t0, rfl, (nx_inv hnx).1⟩
              have := hoX t0 e0
              omega) (v := 0) (p := (Chk.nt C oX).1) (by
                rw [me, Option.bind_some, show x.toNat - i = (x.toNat - (i + 1)) + 1 by omega, wys_step eqw l])
            simp only [mach, mach2, mstd, ↓reduceIte, Nat.reduceEqDiff, Nat.reduceAdd, Nat.reduceMul, mbl, Nat.reduceLeDiff, Nat.reduceLT, Int.reduceEq, a1, a2, hwi]
            exact next (i + 1, _, wp', wm', _) _ _ _ m' ⟨rfl, rfl, rfl, rfl, rfl, rfl, rfl, trivial⟩ (by simp only; omega)
          · have d3 : k = 3 := by omega
            simp only [mach, mach2, mstd, ↓reduceIte, Nat.reduceEqDiff, Nat.reduceAdd, Nat.reduceMul, mbl, Nat.reduceLeDiff, Nat.reduceLT, Int.reduceEq, d1, d2, eq_true d3]
            refine XX_of (want_ok s4' 0 0 (Int.le_refl _)) (fun res h5 hle5 hn => ?_)
            obtain ⟨kp5, rfl, s5⟩ := hn
            refine .ret ?_
            simp only [mach, mach2, mstd, ↓reduceIte, Nat.reduceEqDiff, Nat.reduceAdd, Nat.reduceMul, mbl, Nat.reduceLeDiff, Nat.reduceLT, Int.reduceEq]
            refine XX_of (want_ok s5 0 1 (Int.le_refl _)) (fun res h6 hle6 hn => ?_)
            obtain ⟨kp6, rfl, s6⟩ := hn
            refine .ret ?_
            rw [wt_exc', Option.bind_some] at s6 ⊢
            simp only at s6 ⊢
            have hwx : IntKind.i64.wrap (x - 1) = x - 1 := i64w (by omega) (by omega)
            by_cases dl : (i : Int) < x - 1
            · obtain ⟨p6, bad6, s6r⟩ := s6.any
              simp only [mach, mach2, mstd, ↓reduceIte, Nat.reduceEqDiff, Nat.reduceAdd, Nat.reduceMul, mbl, Nat.reduceLeDiff, Nat.reduceLT, Int.reduceEq, hwx, eq_true dl]
              refine XH_own s6r.own rfl (by simp [Value.cells]) rfl (fun h7 q1 q2 q3' => ?_)
              have o' : Own h7 b 95 [vi, vc, vt, vp, iv C.main, vk, iv p6, .bool true] := by simpa [Value.cells] using q1
              have s7 : Ro h7 b C vi vc vt vp vk none := ⟨p6, o', s6r.im.keep q2 s6r.ne, s6r.ne, s6r.hl, s6r.le⟩
              obtain ⟨oX, hoXe⟩ : ∃ oX : Option Nat, oX = none := ⟨_, rfl⟩
              have sX : Ro h7 b C vi vc vt vp vk oX := by rw [hoXe]; exact s7
              have hoX : ∀ t, oX = some t -> p3 <= t := fun t e => by rw [hoXe] at e; cases e
              have eqw : way C (x.toNat - (i + 1) == 0) p3 = oX.bind fun t => (nx C t).map fun y => (((wt C 0 1 (exc C 0 q3)).1, y.1), y.2) := way_of e3 (by
                rw [hoXe, show (x.toNat - (i + 1) == 0) = false by rw [beq_eq_false_iff_ne]; omega]
                unfold wv; rw [if_neg d1, if_neg d2, if_pos d3]; rfl)
              have kX := ((kp4.trans kp5).trans kp6).trans q2
              simp only [mach, mach2, mstd, ↓reduceIte, Nat.reduceEqDiff, Nat.reduceAdd, Nat.reduceMul, mbl, Nat.reduceLeDiff, Nat.reduceLT, Int.reduceEq]
              refine XX_of (rnext_ok sX) (fun res h8 hle8 hn => ?_)
              obtain ⟨kp8, rfl, s8⟩ := hn
              refine .ret ?_
              obtain ⟨wp', wm', h9, h10, a1, a2, m'⟩ := m.next him (by omega) (by omega) (kX.trans kp8) s8 (fun t ht => by
                obtain ⟨t0, e0, e9⟩ : ∃ t0, oX = some t0 /\ t = t0 + 1 := by
                  cases hoX : oX with
                  | none => rw [hoX] at ht; cases ht
                  | some t0 =>
                    rw [hoX] at ht
                    simp only [Chk.nt] at ht
                    cases hnx : nx C t0 with
                    | none => rw [hnx] at ht; cases ht
                    | some y =>
                      rw [hnx] at ht
                      cases ht
                      exact ⟨t0, rfl, (nx_inv hnx).1⟩
                have := hoX t0 e0
                omega) (v := (wt C 0 1 (exc C 0 q3)).1) (p := (Chk.nt C oX).1) (by
                  rw [me, Option.bind_some, show x.toNat - i = (x.toNat - (i + 1)) + 1 by omega, wys_step eqw l])
              simp only [mach, mach2, mstd, ↓reduceIte, Nat.reduceEqDiff, Nat.reduceAdd, Nat.reduceMul, mbl, Nat.reduceLeDiff, Nat.reduceLT, Int.reduceEq, a1, a2, hwi]
              exact next (i + 1, _, wp', wm', _) _ _ _ m' ⟨rfl, rfl, rfl, rfl, rfl, rfl, rfl, trivial⟩ (by simp only; omega)
            · obtain ⟨oX, hoXe⟩ : ∃ oX : Option Nat, oX = (wt C 0 1 (exc C 0 q3)).2 := ⟨_, rfl⟩
              have sX : Ro h6 b C vi vc vt vp vk oX := by rw [hoXe]; exact s6
              have ewt : ∀ r, wt C 0 1 (some r) = match bl C 2 r with
                | some (y, q) => (y, some q)
                | none => (0, none) := fun r => wt_bl (n := 2)
              have hoX : ∀ t, oX = some t -> p3 <= t := fun t e => by
                rw [hoXe] at e
                cases he : exc C 0 q3 with
                | none => rw [he] at e; cases e
                | some r =>
                  rw [he, ewt] at e
                  have := exc_on he
                  cases hb : bl C 2 r with
                  | none => rw [hb] at e; cases e
                  | some v => rw [hb] at e; cases e; have := bl_on (n := 2) (p := r) (x := v.1) (q := v.2) hb; omega
              have eqw : way C (x.toNat - (i + 1) == 0) p3 = oX.bind fun t => (nx C t).map fun y => (((wt C 0 1 (exc C 0 q3)).1, y.1), y.2) := way_of e3 (by
                rw [hoXe, show (x.toNat - (i + 1) == 0) = true by rw [beq_iff_eq]; omega]
                unfold wv; rw [if_neg d1, if_neg d2, if_pos d3]
                cases he : exc C 0 q3 with
                | none => rfl
                | some r =>
                  rw [ewt]
                  simp only [if_true, Option.bind_some]
                  cases bl C 2 r <;> rfl)
              have kX := (kp4.trans kp5).trans kp6
              simp only [mach, mach2, mstd, ↓reduceIte, Nat.reduceEqDiff, Nat.reduceAdd, Nat.reduceMul, mbl, Nat.reduceLeDiff, Nat.reduceLT, Int.reduceEq, hwx, dl]
              refine XX_of (rnext_ok sX) (fun res h8 hle8 hn => ?_)
              obtain ⟨kp8, rfl, s8⟩ := hn
              refine .ret ?_
              obtain ⟨wp', wm', h9, h10, a1, a2, m'⟩ := m.next him (by omega) (by omega) (kX.trans kp8) s8 (fun t ht => by
                obtain ⟨t0, e0, e9⟩ : ∃ t0, oX = some t0 /\ t = t0 + 1 := by
                  cases hoX : oX with
                  | none => rw [hoX] at ht; cases ht
                  | some t0 =>
                    rw [hoX] at ht
                    simp only [Chk.nt] at ht
                    cases hnx : nx C t0 with
                    | none => rw [hnx] at ht; cases ht
                    | some y =>
                      rw [hnx] at ht
                      cases ht
                      exact ⟨t0, rfl, (nx_inv hnx).1⟩
                have := hoX t0 e0
                omega) (v := (wt C 0 1 (exc C 0 q3)).1) (p := (Chk.nt C oX).1) (by
                  rw [me, Option.bind_some, show x.toNat - i = (x.toNat - (i + 1)) + 1 by omega, wys_step eqw l])
              simp only [mach, mach2, mstd, ↓reduceIte, Nat.reduceEqDiff, Nat.reduceAdd, Nat.reduceMul, mbl, Nat.reduceLeDiff, Nat.reduceLT, Int.reduceEq, a1, a2, hwi]
              exact next (i + 1, _, wp', wm', _) _ _ _ m' ⟨rfl, rfl, rfl, rfl, rfl, rfl, rfl, trivial⟩ (by simp only; omega)
        · rw [e4] at s4 ⊢
          have eqw : way C (x.toNat - (i + 1) == 0) p3 = (none : Option Nat).bind fun t => (nx C t).map fun y => ((0, y.1), y.2) := by
            cases hn3 : nx C p3 with
            | none => unfold way; rw [hn3]; rfl
            | some v =>
              have := hno4 p3 v.1 v.2 rfl hn3
              rw [way_of (o := none) (v := 0) (k := v.1) (q := v.2) hn3 (by unfold wv; rw [if_neg (by omega), if_neg (by omega), if_neg (by omega)]; rfl)]
          obtain ⟨p4, s4r⟩ := s4
          have s4' : Ro h4 b C vi vc vt vp vk none := ⟨p4, s4r⟩
          simp only [mach, mach2, mstd, ↓reduceIte, Nat.reduceEqDiff, Nat.reduceAdd, Nat.reduceMul, mbl, Nat.reduceLeDiff, Nat.reduceLT, Int.reduceEq, s4r.own.cells.ld, hvk, lenw z.cons]
          refine XX_of (want_ok s4' 0 _ (Int.le_refl _)) (fun res h5 hle5 hn => ?_)
          obtain ⟨kp5, rfl, s5⟩ := hn
          refine .ret ?_
          rw [wt_none] at s5 ⊢
          obtain ⟨oX, hoXe⟩ : ∃ oX : Option Nat, oX = none := ⟨_, rfl⟩
          have sX : Ro h5 b C vi vc vt vp vk oX := by rw [hoXe]; exact s5
          have hoX : ∀ t, oX = some t -> p3 <= t := fun t e => by rw [hoXe] at e; cases e
          rw [<- hoXe] at eqw
          obtain ⟨p5, s5⟩ := s5
          have kX := kp4.trans kp5
          simp only [mach, mach2, mstd, ↓reduceIte, Nat.reduceEqDiff, Nat.reduceAdd, Nat.reduceMul, s5.own.cells.ld, mbl, Nat.reduceLeDiff, Nat.reduceLT, Int.reduceEq]
          refine XX_of (rnext_ok sX) (fun res h8 hle8 hn => ?_)
          obtain ⟨kp8, rfl, s8⟩ := hn
          refine .ret ?_
          obtain ⟨wp', wm', h9, h10, a1, a2, m'⟩ := m.next him (by omega) (by omega) (kX.trans kp8) s8 (fun t ht => by
            obtain ⟨t0, e0, e9⟩ : ∃ t0, oX = some t0 /\ t = t0 + 1 := by
              cases hoX : oX with
              | none => rw [hoX] at ht; cases ht
              | some t0 =>
                rw [hoX] at ht
                simp only [Chk.nt] at ht
                cases hnx : nx C t0 with
                | none => rw [hnx] at ht; cases ht
                | some y =>
                  rw [hnx] at ht
                  cases ht
                  exact ⟨t0, rfl, (nx_inv hnx).1⟩
            have := hoX t0 e0
            omega) (v := 0) (p := (Chk.nt C oX).1) (by
              rw [me, Option.bind_some, show x.toNat - i = (x.toNat - (i + 1)) + 1 by omega, wys_step eqw l])
          simp only [mach, mach2, mstd, ↓reduceIte, Nat.reduceEqDiff, Nat.reduceAdd, Nat.reduceMul, mbl, Nat.reduceLeDiff, Nat.reduceLT, Int.reduceEq, a1, a2, hwi]
          exact next (i + 1, _, wp', wm', _) _ _ _ m' ⟨rfl, rfl, rfl, rfl, rfl, rfl, rfl, trivial⟩ (by simp only; omega)
    · have e1' : x.toNat - i = 0 := by omega
      have hxi : i = x.toNat := by omega
      rw [e1'] at me
      simp only [mach, mach2, mstd, ↓reduceIte, Nat.reduceEqDiff, Nat.reduceAdd, Nat.reduceMul, hi]
      refine out (.exit 0) _ _ _ _ (by intro e; cases e) ?_
      simp only [mach, mach2, mstd, ↓reduceIte, Nat.reduceEqDiff, Nat.reduceAdd, Nat.reduceMul, mbl, Nat.reduceLeDiff, Nat.reduceLT, Int.reduceEq]
      cases o1 with
      | none =>
        obtain ⟨p3, s3⟩ := ms
        refine XLo_rule (α := Nat) (fun _ => [(0, .pointer (some ⟨b, 0, none⟩)), (6, iv x), (12, iv 0)])
          (fun _ h' => h' = h3) (fun _ => 0) 0 rfl ⟨rfl, rfl, rfl, trivial⟩ ?_
        rintro _ g1 Ψ3 rfl _ out2
        simp only [mach, mach2, mstd, ↓reduceIte, Nat.reduceEqDiff, Nat.reduceAdd, Nat.reduceMul, x01, s3.own.cells.ld, mbl, Nat.reduceLeDiff, Nat.reduceLT, Int.reduceEq]
        refine out2 (.exit 3) _ _ _ _ (by intro e; cases e) ?_
        simp only [mach, mach2, mstd, ↓reduceIte, Nat.reduceEqDiff, Nat.reduceAdd, Nat.reduceMul, mbl, Nat.reduceLeDiff, Nat.reduceLT, Int.reduceEq]
        refine hΨ _ _ (fin_norm ⟨mk, rfl, ?_⟩)
        rw [show brn C (fun s' p' => expr C f s' w p') d p = none by
          unfold brn; rw [e7]; simp only
          cases hb : bl C 200000 p1 with
          | none => rfl
          | some v =>
            obtain ⟨v1, v2⟩ := v
            obtain ⟨hv2, hcd, _, _, _⟩ := bl_inv hb
            have hnx : nx C p1 = some (v1, p1 + 1) := by unfold nx; rw [hcd]
            rw [e1] at hnx
            simp only [Option.some.injEq, Prod.mk.injEq] at hnx
            obtain ⟨hx1, hq1⟩ := hnx
            rw [hv2, <- hx1, <- hq1]
            simp only
            rw [if_pos (by omega), show wys C x.toNat q = none from me]]
        exact ⟨p3, s3⟩
      | some u =>
        have hwy : wys C x.toNat q = some (l, u) := by rw [me]; simp [wys]
        have hlong := wys_long _ hwy
        have hvv := wys_v hc _ hwy
        have hwon := wys_on _ g1.2 hwy
        have hln : l.length = x.toNat := hwon.2.2
        have hbr : brn C (fun s' p' => expr C f s' w p') d p = runs (fun s' p' => expr C f s' w p') d l u := by
          unfold brn
          rw [e7]
          simp only
          rw [show bl C 200000 p1 = some (x, q) by unfold bl; rw [e1]; simp only; rw [if_pos (by omega)]]
          simp only
          rw [if_pos x01, hwy]
        rw [hbr] at hΨ
        have hb0 := him b (.inl rfl)
        have op0 : Ows h3 3 1 wp i (ns (l.map (·.2))) := m.op
        have om0 : Ows h3 3 1 wm i (ns (l.map (·.1))) := m.om
        have hbp : ∀ y, bk wp y -> ¬ y = b := fun y hy e => by have : h.length <= y := m.fp y hy; omega
        have hbm : ∀ y, bk wm y -> ¬ y = b := fun y hy e => by have : h.length <= y := m.fm y hy; omega
        refine XLo_rule (α := Nat × Option Nat) (fun a => [(0, .pointer (some ⟨b, 0, none⟩)), (1, iv d), (2, iv w), (6, iv x), (7, wp), (8, wm), (12, iv a.1)])
          (fun a h' => a.1 <= x.toNat /\ Keep (· = b) h3 h' /\ Ro h' b C vi vc vt vp vk a.2 /\ (∀ p', a.2 = some p' -> u <= p') /\ runs (fun s' p' => expr C f s' w p') d l u = a.2.bind (runs (fun s' p' => expr C f s' w p') d (l.drop a.1))) (fun a => x.toNat - a.1) (0, some u)
          ⟨Nat.zero_le _, .refl _ _, ms, fun p' e => by cases e; exact Nat.le_refl _, rfl⟩ ⟨rfl, rfl, rfl, rfl, rfl, rfl, rfl, trivial⟩ ?_
        rintro ⟨j, o2⟩ g3 Ψ3 ⟨j1, kj, sj, ju, je⟩ next2 out2
        simp only at j1 sj ju je
        by_cases hj : (j : Int) < x
        · cases o2 with
          | none =>
            obtain ⟨p4, s4⟩ := sj
            simp only [mach, mach2, mstd, ↓reduceIte, Nat.reduceEqDiff, Nat.reduceAdd, Nat.reduceMul, hj, s4.own.cells.ld, mbl, Nat.reduceLeDiff, Nat.reduceLT, Int.reduceEq]
            refine out2 (.exit 3) _ _ _ _ (by intro e; cases e) ?_
            simp only [mach, mach2, mstd, ↓reduceIte, Nat.reduceEqDiff, Nat.reduceAdd, Nat.reduceMul, mbl, Nat.reduceLeDiff, Nat.reduceLT, Int.reduceEq]
            refine hΨ _ _ (fin_norm ⟨mk.trans kj, rfl, ?_⟩)
            rw [je]
            exact ⟨p4, s4⟩
          | some p4 =>
            have s4 : Rf g3 b C vi vc vt vp vk p4 false := sj
            have hu4 := ju p4 rfl
            have hjl : j < l.length := by omega
            have hlj : l[j]? = some l[j] := List.getElem?_eq_getElem hjl
            have hv := hvv l[j] (List.getElem_mem hjl)
            have j0 : (0 : Int) <= (j : Int) := by omega
            obtain ⟨b1, o1', c1, ee1, hl1, ld1⟩ := rds_ix (op0.keep kj hbp).rds j0 (x := l[j].2) (by rw [Int.toNat_natCast, List.getElem?_map, hlj]; rfl)
            obtain ⟨b2, o2', c2, ee2, hl2, ld2⟩ := rds_ix (om0.keep kj hbm).rds j0 (x := l[j].1) (by rw [Int.toNat_natCast, List.getElem?_map, hlj]; rfl)
            rw [Int.toNat_natCast] at ld1 ld2
            rw [Option.bind_some, List.drop_eq_getElem_cons hjl, runs] at je
            by_cases da : l[j].2 = (p4 : Int)
            · have hwd : IntKind.i64.wrap (d + l[j].1) = d + l[j].1 := i64w (by omega) (by omega)
              have hwj : IntKind.i64.wrap ((j : Int) + 1) = ((j + 1 : Nat) : Int) := by rw [i64w (by omega) (by omega)]; omega
              simp only [mach, mach2, mstd, ↓reduceIte, Nat.reduceEqDiff, Nat.reduceAdd, Nat.reduceMul, hj, s4.own.cells.ld, mbl, Nat.reduceLeDiff, Nat.reduceLT, Int.reduceEq, ee1, ee2, j0, hl1, hl2, and_self, Nat.mul_one, Int.toNat_natCast, ld1, ld2, eq_true da, hwd]
              refine XX_of (hE g3 p4 (d + l[j].1) (by omega) (by omega) (by omega) sj) (fun res g4 hle4 hn => ?_)
              obtain ⟨kp4, rfl, s5⟩ := hn
              refine .ret ?_
              simp only [mach, mach2, mstd, ↓reduceIte, Nat.reduceEqDiff, Nat.reduceAdd, Nat.reduceMul, mbl, Nat.reduceLeDiff, Nat.reduceLT, Int.reduceEq, hwj]
              refine next2 (j + 1, expr C f (d + l[j].1) w p4) _ _ _ ⟨by omega, kj.trans kp4, s5, fun p' e => ?_, ?_⟩ ⟨rfl, rfl, rfl, rfl, ?_, ?_, rfl, trivial⟩ (by simp only; omega)
              · have := expr_on _ _ _ p' e
                omega
              · rw [je, if_pos da.symm, hwd]
                cases expr C f (d + l[j].1) w p4 <;> rfl
              · rw [ee1]; rfl
              · rw [ee2]; rfl
            · simp only [mach, mach2, mstd, ↓reduceIte, Nat.reduceEqDiff, Nat.reduceAdd, Nat.reduceMul, hj, s4.own.cells.ld, mbl, Nat.reduceLeDiff, Nat.reduceLT, Int.reduceEq, ee1, ee2, j0, hl1, hl2, and_self, Nat.mul_one, Int.toNat_natCast, ld1, ld2, da]
              refine XH_own s4.own rfl (by simp [Value.cells]) rfl (fun g4 q1 q2 q3 => ?_)
              have o' : Own g4 b 95 [vi, vc, vt, vp, iv C.main, vk, iv p4, .bool true] := by simpa [Value.cells] using q1
              simp only [mach, mach2, mstd, ↓reduceIte, Nat.reduceEqDiff, Nat.reduceAdd, Nat.reduceMul, mbl, Nat.reduceLeDiff, Nat.reduceLT, Int.reduceEq]
              refine out2 .ret _ _ _ _ (by intro e; cases e) ?_
              simp only [mach, mach2, mstd, ↓reduceIte, Nat.reduceEqDiff, Nat.reduceAdd, Nat.reduceMul, mbl, Nat.reduceLeDiff, Nat.reduceLT, Int.reduceEq]
              refine hΨ _ _ (fin_ret (rv0 ⟨(mk.trans kj).trans q2, rfl, ?_⟩))
              rw [je, if_neg (fun e => da e.symm)]
              exact ⟨p4, o', s4.im.keep q2 s4.ne, s4.ne, s4.hl, s4.le⟩
        · simp only [mach, mach2, mstd, ↓reduceIte, Nat.reduceEqDiff, Nat.reduceAdd, Nat.reduceMul, hj]
          refine out2 (.exit 3) _ _ _ _ (by intro e; cases e) ?_
          simp only [mach, mach2, mstd, ↓reduceIte, Nat.reduceEqDiff, Nat.reduceAdd, Nat.reduceMul, mbl, Nat.reduceLeDiff, Nat.reduceLT, Int.reduceEq]
          refine hΨ _ _ (fin_norm ⟨mk.trans kj, rfl, ?_⟩)
          rw [je, List.drop_eq_nil_of_le (by omega)]
          cases o2 <;> exact sj
  · rw [e2] at s2 ⊢
    rw [bind_no (C := C) (fun p hp => ?_)] at hΨ
    rotate_left
    · subst hp
      unfold brn
      cases h7 : exc C 7 p with
      | none => rfl
      | some p1 =>
        simp only
        cases hb : bl C 200000 p1 with
        | none => rfl
        | some v =>
          simp only
          obtain ⟨_, hcd, _, b0, b1⟩ := bl_inv hb
          have hnx : nx C p1 = some (v.1, p1 + 1) := by unfold nx; rw [hcd]
          have := hno p1 v.1 _ h7 hnx
          rw [if_neg (by omega)]
    obtain ⟨p2, s3⟩ := s2
    have x01 : (0 : Int) < 1 := by omega
    simp only [mach, mach2, mstd, ↓reduceIte, Nat.reduceEqDiff, Nat.reduceAdd, Nat.reduceMul, mbl, Nat.reduceLeDiff, Nat.reduceLT, Int.reduceEq]
    refine XLo_rule (α := Nat) (fun _ => [(0, .pointer (some ⟨b, 0, none⟩)), (6, iv 1), (9, iv 0)])
      (fun _ h' => h' = h2) (fun _ => 0) 0 rfl ⟨rfl, rfl, rfl, trivial⟩ ?_
    rintro _ g1 Ψ3 rfl _ out2
    simp only [mach, mach2, mstd, ↓reduceIte, Nat.reduceEqDiff, Nat.reduceAdd, Nat.reduceMul, x01, s3.own.cells.ld, mbl, Nat.reduceLeDiff, Nat.reduceLT, Int.reduceEq]
    refine out2 (.exit 0) _ _ _ _ (by intro e; cases e) ?_
    simp only [mach, mach2, mstd, ↓reduceIte, Nat.reduceEqDiff, Nat.reduceAdd, Nat.reduceMul, mbl, Nat.reduceLeDiff, Nat.reduceLT, Int.reduceEq]
    refine XLo_rule (α := Nat) (fun _ => [(0, .pointer (some ⟨b, 0, none⟩)), (6, iv 1), (12, iv 0)])
      (fun _ h' => h' = g1) (fun _ => 0) 0 rfl ⟨rfl, rfl, rfl, trivial⟩ ?_
    rintro _ g1 Ψ3 rfl _ out2
    simp only [mach, mach2, mstd, ↓reduceIte, Nat.reduceEqDiff, Nat.reduceAdd, Nat.reduceMul, x01, s3.own.cells.ld, mbl, Nat.reduceLeDiff, Nat.reduceLT, Int.reduceEq]
    refine out2 (.exit 3) _ _ _ _ (by intro e; cases e) ?_
    simp only [mach, mach2, mstd, ↓reduceIte, Nat.reduceEqDiff, Nat.reduceAdd, Nat.reduceMul, mbl, Nat.reduceLeDiff, Nat.reduceLT, Int.reduceEq]
    exact hΨ _ _ (fin_norm ⟨k12, rfl, p2, s3⟩)
end
end Go.S17
