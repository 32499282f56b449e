import Derived.Test.YtcnfefidbmaamaaPk19
/- Images: a copy; Cuts, the walk. -/
set_option linter.unusedVariables false
set_option linter.unusedSimpArgs false
namespace Go.S16
open Go Go.Eng Go.Proofs Go.Chk
section
variable {h : AH} {N : Nat} {C : Cx} {texts : List ByteArray} {vi vc vt vp vk : Value}

theorem sts_one (l : List ByteArray) : (sts l).all Value.oneCell' = true := by simp [sts, Value.oneCell']
theorem sts_len (l : List ByteArray) : (sts l).length = l.length := by simp [sts]
theorem rvi {e l : PE} {h : AH} {ds : List Dfr} {x : RX} {b : Nat} {t : TypeId} {a1 a2 a3 a4 a5 a6 : Value} {K : List Value → Prop} (hx : rx e l x = some (.pointer (some ⟨b, 0, none⟩))) (hb : Own h b t [a1, a2, a3, a4, a5, a6]) (hk : K [.agg #[a1, a2, a3, a4, a5, a6]]) :
    rvK Try.prog ⟨e, l, h, ds⟩ [.c x (.ldn 6)] K := by
  have hc : hcell h b = some [a1, a2, a3, a4, a5, a6] := hb.cells
  simp only [rvK, hx, vK, uval, hc, Option.bind_some, rK]
  exact hk
/-- An image of one's own. -/
structure Cpy (h : AH) (C : Cx) (texts : List ByteArray) (wi wc wt wp wk : Value) (h' : AH) : Prop where
  kp : Keep (fun _ => False) h h'
  oi : Ows h' 44 4 wi C.infos.length (rowsOf Inf.cells C.infos)
  oc : Ows h' 3 1 wc C.code.length (ns C.code)
  ot : Ows h' 9 1 wt texts.length (sts texts)
  op : Ows h' 3 1 wp C.tops.length (ns C.tops)
  ok : Ows h' 3 1 wk C.cons.length (ns C.cons)
  fi : ∀ q, bk wi q → h.length ≤ q
  fc : ∀ q, bk wc q → h.length ≤ q
  fp : ∀ q, bk wp q → h.length ≤ q
  fk : ∀ q, bk wk q → h.length ≤ q
  ic : ∀ q, bk wi q → ¬ bk wc q
  ip : ∀ q, bk wi q → ¬ bk wp q
  ik : ∀ q, bk wi q → ¬ bk wk q
  cp : ∀ q, bk wc q → ¬ bk wp q
  ck : ∀ q, bk wc q → ¬ bk wk q
set_option maxHeartbeats 2000000 in
theorem rCopy_ok (im : Img h C vi vc vt vp vk) (rt : Rds h 1 vt texts.length (sts texts)) (li : C.infos.length ≤ 2000000) (lc : C.code.length ≤ 2000000) (lp : C.tops.length ≤ 2000000) (lk : C.cons.length ≤ 2000000) (lt : texts.length ≤ 2000000) :
    Gets Try.prog 12 [.agg #[vi, vc, vt, vp, iv C.main, vk]] h (fun res h' => ∃ wi wc wt wp wk, res = .ret (.agg #[wi, wc, wt, wp, iv C.main, wk]) ∧ Cpy h C texts wi wc wt wp wk h') := by
  refine Gets.of (keep := false) hP (draw_ok hM) k12 (by rfl) (fun Ψ hΨ => ?_)
  have oI := Own.new h 26 h.length [vi, vc, vt, vp, iv C.main, vk]
  have kp1 : Keep (fun _ => False) h (h ++ [row 26 h.length [vi, vc, vt, vp, iv C.main, vk]]) := Keep.push _ _ _
  simp only [mach, mach2, mstd, ↓reduceIte, Nat.reduceEqDiff, Nat.reduceAdd, Nat.reduceMul, r12, mbl, Nat.reduceLeDiff, Nat.reduceLT, Int.reduceEq]
  generalize hh1 : h ++ [row 26 h.length [vi, vc, vt, vp, iv C.main, vk]] = h1 at oI kp1 ⊢
  have hl1 : h1.length = h.length + 1 := by rw [← hh1]; simp
  have oR := Own.new h1 26 h1.length [.slice none 0 0, .slice none 0 0, .slice none 0 0, .slice none 0 0, iv 0, .slice none 0 0]
  have kp2 : Keep (fun _ => False) h1 (h1 ++ [row 26 h1.length [.slice none 0 0, .slice none 0 0, .slice none 0 0, .slice none 0 0, iv 0, .slice none 0 0]]) := Keep.push _ _ _
  generalize hh2 : h1 ++ [row 26 h1.length [.slice none 0 0, .slice none 0 0, .slice none 0 0, .slice none 0 0, iv 0, .slice none 0 0]] = h2 at oR kp2 ⊢
  have hl2 : h2.length = h1.length + 1 := by rw [← hh2]; simp
  have oI2 := oI.keep kp2 (fun e => e)
  have im2 := im.keep (kp1.trans kp2) (fun _ _ e => e)
  have rt2 := (rt.keep kp1 (fun _ _ e => e)).keep kp2 (fun _ _ e => e)
  have g2 : Keep (fun _ => False) h2 h2 := .refl _ _
  have ei : Keep (fun _ => False) h2 (h2 ++ [row 44 h2.length []]) := Keep.push _ _ _
  have oEi := oI2.keep (g2.trans ei) (fun e => e)
  have owi : Ows (h2 ++ [row 44 h2.length []]) 44 4 (.slice (some ⟨h2.length, 0, none⟩) 0 0) 0 [] := .mk (Own.new h2 _ h2.length []) rfl (Nat.le_refl _) rfl
  obtain ⟨_, si, rfl⟩ := (im2.ri.keep (g2.trans ei) (fun _ _ e => e)).src (rowsOf_one _)
  obtain ⟨wi, h3, yi, ri, bbi, fi⟩ := owi.app (bytes := 32) si (rowsOf_len Inf.len _) (rowsOf_one _) (by omega) (by omega)
  rw [Nat.zero_add, List.nil_append] at ri
  have di : Keep (fun _ => False) h2 h3 := ei.trans' bbi (fun q hq e => by have : q = h2.length := e; omega)
  have Fi : ∀ q, bk wi q → h2.length ≤ q := fun q hq => by
    rcases fi q hq with e | e
    · have : q = h2.length := e
      omega
    · simp at e; omega
  have g3 := g2.trans di
  have oI3 := oI2.keep g3 (fun e => e)
  have ec : Keep (fun _ => False) h3 (h3 ++ [row 3 h3.length []]) := Keep.push _ _ _
  have oEc := oI2.keep (g3.trans ec) (fun e => e)
  have owc : Ows (h3 ++ [row 3 h3.length []]) 3 1 (.slice (some ⟨h3.length, 0, none⟩) 0 0) 0 [] := .mk (Own.new h3 _ h3.length []) rfl (Nat.le_refl _) rfl
  obtain ⟨_, sc, rfl⟩ := (im2.rc.keep (g3.trans ec) (fun _ _ e => e)).src (ns_one _)
  obtain ⟨wc, h4, yc, rc, bbc, fc⟩ := owc.app (bytes := 8) sc (by rw [ns_len, Nat.mul_one]) (ns_one _) (by omega) (by omega)
  rw [Nat.zero_add, List.nil_append] at rc
  have dc : Keep (fun _ => False) h3 h4 := ec.trans' bbc (fun q hq e => by have : q = h3.length := e; omega)
  have Fc : ∀ q, bk wc q → h3.length ≤ q := fun q hq => by
    rcases fc q hq with e | e
    · have : q = h3.length := e
      omega
    · simp at e; omega
  have g4 := g3.trans dc
  have oI4 := oI2.keep g4 (fun e => e)
  have et : Keep (fun _ => False) h4 (h4 ++ [row 9 h4.length []]) := Keep.push _ _ _
  have oEt := oI2.keep (g4.trans et) (fun e => e)
  have owt : Ows (h4 ++ [row 9 h4.length []]) 9 1 (.slice (some ⟨h4.length, 0, none⟩) 0 0) 0 [] := .mk (Own.new h4 _ h4.length []) rfl (Nat.le_refl _) rfl
  obtain ⟨_, st, rfl⟩ := (rt2.keep (g4.trans et) (fun _ _ e => e)).src (sts_one _)
  obtain ⟨wt, h5, yt, rt, bbt, ft⟩ := owt.app (bytes := 16) st (by rw [sts_len, Nat.mul_one]) (sts_one _) (by omega) (by omega)
  rw [Nat.zero_add, List.nil_append] at rt
  have dt : Keep (fun _ => False) h4 h5 := et.trans' bbt (fun q hq e => by have : q = h4.length := e; omega)
  have Ft : ∀ q, bk wt q → h4.length ≤ q := fun q hq => by
    rcases ft q hq with e | e
    · have : q = h4.length := e
      omega
    · simp at e; omega
  have g5 := g4.trans dt
  have oI5 := oI2.keep g5 (fun e => e)
  have ep : Keep (fun _ => False) h5 (h5 ++ [row 3 h5.length []]) := Keep.push _ _ _
  have oEp := oI2.keep (g5.trans ep) (fun e => e)
  have owp : Ows (h5 ++ [row 3 h5.length []]) 3 1 (.slice (some ⟨h5.length, 0, none⟩) 0 0) 0 [] := .mk (Own.new h5 _ h5.length []) rfl (Nat.le_refl _) rfl
  obtain ⟨_, sp, rfl⟩ := (im2.rp.keep (g5.trans ep) (fun _ _ e => e)).src (ns_one _)
  obtain ⟨wp, h6, yp, rp, bbp, fp⟩ := owp.app (bytes := 8) sp (by rw [ns_len, Nat.mul_one]) (ns_one _) (by omega) (by omega)
  rw [Nat.zero_add, List.nil_append] at rp
  have dp : Keep (fun _ => False) h5 h6 := ep.trans' bbp (fun q hq e => by have : q = h5.length := e; omega)
  have Fp : ∀ q, bk wp q → h5.length ≤ q := fun q hq => by
    rcases fp q hq with e | e
    · have : q = h5.length := e
      omega
    · simp at e; omega
  have g6 := g5.trans dp
  have oI6 := oI2.keep g6 (fun e => e)
  have ek : Keep (fun _ => False) h6 (h6 ++ [row 3 h6.length []]) := Keep.push _ _ _
  have oEk := oI2.keep (g6.trans ek) (fun e => e)
  have owk : Ows (h6 ++ [row 3 h6.length []]) 3 1 (.slice (some ⟨h6.length, 0, none⟩) 0 0) 0 [] := .mk (Own.new h6 _ h6.length []) rfl (Nat.le_refl _) rfl
  obtain ⟨_, sk, rfl⟩ := (im2.rk.keep (g6.trans ek) (fun _ _ e => e)).src (ns_one _)
  obtain ⟨wk, h7, yk, rk, bbk, fk⟩ := owk.app (bytes := 8) sk (by rw [ns_len, Nat.mul_one]) (ns_one _) (by omega) (by omega)
  rw [Nat.zero_add, List.nil_append] at rk
  have dk : Keep (fun _ => False) h6 h7 := ek.trans' bbk (fun q hq e => by have : q = h6.length := e; omega)
  have Fk : ∀ q, bk wk q → h6.length ≤ q := fun q hq => by
    rcases fk q hq with e | e
    · have : q = h6.length := e
      omega
    · simp at e; omega
  have g7 := g6.trans dk
  have oI7 := oI2.keep g7 (fun e => e)
  obtain ⟨ui, vvi, rfl⟩ := row_shape ri.rds
  obtain ⟨uc, vvc, rfl⟩ := row_shape rc.rds
  obtain ⟨ut, vvt, rfl⟩ := row_shape rt.rds
  obtain ⟨up, vvp, rfl⟩ := row_shape rp.rds
  obtain ⟨uk, vvk, rfl⟩ := row_shape rk.rds
  have oR7 := oR.keep g7 (fun e => e)
  simp only [mach, mach2, mstd, ↓reduceIte, Nat.reduceEqDiff, Nat.reduceAdd, Nat.reduceMul, mbl, Nat.reduceLeDiff, Nat.reduceLT, Int.reduceEq, List.contains_cons, List.contains_nil, Nat.reduceBEq, Bool.or_false, Bool.false_or, Bool.true_or, Bool.or_true, oI2.cells.ld, oEi.cells.ld, oI3.cells.ld, oEc.cells.ld, oI4.cells.ld, oEt.cells.ld, oI5.cells.ld, oEp.cells.ld, oI6.cells.ld, oEk.cells.ld, oI7.cells.ld, yi, yc, yt, yp, yk]
  have lr7 := g7.len
  refine XH_own oR7 rfl (by simp [Value.cells]) rfl (fun h8 q1 q2 q3 => ?_)
  have o8 : Own h8 h1.length 26 [.slice ui C.infos.length vvi, .slice uc C.code.length vvc, .slice ut texts.length vvt, .slice up C.tops.length vvp, iv C.main, .slice uk C.cons.length vvk] := by simpa [Value.cells] using q1
  simp only [mach, mach2, mstd, ↓reduceIte, Nat.reduceEqDiff, Nat.reduceAdd, Nat.reduceMul, mbl, Nat.reduceLeDiff, Nat.reduceLT, Int.reduceEq]
  have k8 : Keep (fun _ => False) h h8 := ((kp1.trans kp2).trans g7).trans' q2 (fun q hq e => by omega)
  have li' := ri.lt
  have lc' := rc.lt
  have lt' := rt.lt
  have lp' := rp.lt
  have n3 := g3.len
  have n4 := g4.len
  have n5 := g5.len
  have n6 := g6.len
  have m4 := dc.len
  have m5 := dt.len
  have m6 := dp.len
  have m7 := dk.len
  refine hΨ _ _ (fin_ret (rvi rfl o8 ⟨_, _, _, _, _, rfl, k8, ?_, ?_, ?_, ?_, ?_, ?_, ?_, ?_, ?_, ?_, ?_, ?_, ?_, ?_⟩))
  · exact ((((ri.keep dc (fun _ _ e => e)).keep dt (fun _ _ e => e)).keep dp (fun _ _ e => e)).keep dk (fun _ _ e => e)).keep q2 (fun q hq e => by have := Fi q hq; omega)
  · exact (((rc.keep dt (fun _ _ e => e)).keep dp (fun _ _ e => e)).keep dk (fun _ _ e => e)).keep q2 (fun q hq e => by have := Fc q hq; omega)
  · exact ((rt.keep dp (fun _ _ e => e)).keep dk (fun _ _ e => e)).keep q2 (fun q hq e => by have := Ft q hq; omega)
  · exact (rp.keep dk (fun _ _ e => e)).keep q2 (fun q hq e => by have := Fp q hq; omega)
  · exact rk.keep q2 (fun q hq e => by have := Fk q hq; omega)
  · intro q hq; have := Fi q hq; omega
  · intro q hq; have := Fc q hq; omega
  · intro q hq; have := Fp q hq; omega
  · intro q hq; have := Fk q hq; omega
  · intro q hq e; have := li' q hq; have := Fc q e; omega
  · intro q hq e; have := li' q hq; have := Fp q e; omega
  · intro q hq e; have := li' q hq; have := Fk q e; omega
  · intro q hq e; have := lc' q hq; have := Fp q e; omega
  · intro q hq e; have := lc' q hq; have := Fk q e; omega
/-- The first part of a row of one's own. -/
theorem ows_pre {h : AH} {e : TypeId} {sz n m c : Nat} {a : Option Addr} {cs xs : List Value} (x : Ows h e sz (.slice a (n + m) c) (n + m) (cs ++ xs)) (hl : cs.length = n * sz) (hm : 0 < m) :
    ∃ b, a = some ⟨b, 0, none⟩ ∧ sllv h e sz (.slice a (n + m) c) none (some (iv n)) = some (.slice (some ⟨b, 0, none⟩) n c, none) ∧ Rds h sz (.slice (some ⟨b, 0, none⟩) n c) n cs := by
  generalize hN : n + m = N at x
  generalize hC : cs ++ xs = C at x
  cases x with
  | nil => omega
  | mk hb h1 h2 h3 =>
    rename_i b all
    refine ⟨b, rfl, ?_, ?_⟩
    · obtain ⟨g, hb⟩ := hb
      have : (n : Int) ≤ (c : Int) := by omega
      simp [sllv, helem, hb, bnd, this]
    · subst hC
      have hall : all.take (n * sz) = cs := by
        have e1 : (all.take (N * sz)).take (n * sz) = all.take (n * sz) := by rw [List.take_take, Nat.min_eq_left (Nat.mul_le_mul_right _ (by omega))]
        rw [← e1, h3, ← hl, List.take_left]
      exact .mk hb.cells (by have := Nat.mul_le_mul_right sz (show n ≤ c by omega); omega) (by rw [List.drop_zero]; exact hall)
/-- One cell of a row of one's own. -/
theorem ows_cell {h : AH} {e : TypeId} {sz n : Nat} {v : Value} {cs : List Value} (ho : Ows h e sz v n cs) {j : Nat} (hj : j < n * sz) {x : Value} (h1 : [x].all Value.oneCell' = true) :
    ∃ b c h', v = .slice (some ⟨b, 0, none⟩) n c ∧ stv h 1 (.pointer (some ⟨b, j, none⟩)) x = some h' ∧ Ows h' e sz v n (cs.set j x) ∧ Keep (bk v) h h' := by
  cases ho with
  | nil => omega
  | mk hb q1 q2 q3 =>
    rename_i b c all
    have hx : x.cells.toList = [x] := by
      cases x <;> first | rfl | (simp [Value.oneCell'] at h1)
    have hm : n * sz ≤ c * sz := Nat.mul_le_mul_right _ q2
    obtain ⟨h', s1, s2, s3, s4⟩ := hb.store (i := j) (vs := [x]) (by simp; omega) h1
    have hs : 1 = x.cells.size := by rw [← Array.length_toList, hx]; rfl
    refine ⟨b, c, h', rfl, by simp only [stv, if_pos hs, hx, s1], .mk s2 (by simp only [List.length_append, List.length_take, List.length_drop, List.length_cons, List.length_nil]; omega) q2 ?_, s3.mono fun _ e => e⟩
    subst q3
    have e1 : all.take j ++ [x] ++ all.drop (j + 1) = all.set j x := by
      rw [List.set_eq_take_append_cons_drop, if_pos (by omega)]; simp
    rw [show ([x] : List Value).length = 1 from rfl, e1, List.take_set]
theorem rows_set {xs : List Inf} {i : Nat} {w : Inf} (h : xs[i]? = some w) (c : Int) : rowsOf Inf.cells (xs.set i { w with c := c }) = (rowsOf Inf.cells xs).set (i * 4 + 3) (iv c) := by
  have hi := (List.getElem?_eq_some_iff.1 h).1
  have e0 : xs = xs.take i ++ w :: xs.drop (i + 1) := by
    conv => lhs; rw [← List.take_append_drop i xs, List.drop_eq_getElem_cons hi]
    rw [List.getElem?_eq_getElem hi] at h
    rw [Option.some.inj h]
  have hl : (xs.take i).length = i := by simp; omega
  have e1 : xs.set i { w with c := c } = xs.take i ++ { w with c := c } :: xs.drop (i + 1) := by
    rw [List.set_eq_take_append_cons_drop, if_pos hi]
  have hr : (rowsOf Inf.cells (xs.take i)).length = i * 4 := by rw [rowsOf_len Inf.len, hl]
  have cons : ∀ (y : Inf) (l : List Inf), rowsOf Inf.cells (y :: l) = ns y.cells ++ rowsOf Inf.cells l := fun y l => rfl
  rw [e1]
  conv => rhs; rw [e0]
  rw [rowsOf_app, rowsOf_app, cons, cons, List.set_append_right _ _ (by omega), hr, show i * 4 + 3 - i * 4 = 3 by omega]
  rfl
end
end Go.S16

/- Images: Cuts, the walk. -/
set_option linter.unusedVariables false
set_option linter.unusedSimpArgs false
namespace Go.S16
open Go Go.Eng Go.Proofs Go.Chk
section
variable {h : AH} {N : Nat} {C : Cx} {texts : List ByteArray} {vi vc vt vp vk : Value}

set_option maxHeartbeats 4000000 in
theorem CodeCuts_ok (g : Given h N C texts vi vc vt vp vk) (hN : N ≤ 1048576) (i : Int) : Gets Try.prog 5 [.agg #[vi, vc, vt, vp, iv C.main, vk], iv i] h (fun res h' => Keep (fun _ => False) h h' ∧ res = .ret (.bool true)) := by
  refine Gets.of (keep := false) hP (draw_ok hM) k5 (by rfl) (fun Ψ hΨ => ?_)
  have oI := Own.new h 26 h.length [vi, vc, vt, vp, iv C.main, vk]
  have kp1 : Keep (fun _ => False) h (h ++ [row 26 h.length [vi, vc, vt, vp, iv C.main, vk]]) := Keep.push _ _ _
  have gi := g.li
  have gc := g.lc
  have gp := g.lp
  have gk := g.lk
  have gt := g.lt
  obtain ⟨ia, ic, hvi⟩ := row_shape g.im.ri
  obtain ⟨ca, cc, hvc⟩ := row_shape g.im.rc
  simp only [mach, mach2, mstd, ↓reduceIte, Nat.reduceEqDiff, Nat.reduceAdd, Nat.reduceMul, r5, mbl, Nat.reduceLeDiff, Nat.reduceLT, Int.reduceEq]
  generalize hh1 : h ++ [row 26 h.length [vi, vc, vt, vp, iv C.main, vk]] = h1 at oI kp1 ⊢
  have im1 := g.im.keep kp1 (fun _ _ e => e)
  have rt1 := g.rt.keep kp1 (fun _ _ e => e)
  refine XX_val (wakes_ok h1) ?_
  simp only [mach, mach2, mstd, ↓reduceIte, Nat.reduceEqDiff, Nat.reduceAdd, Nat.reduceMul, oI.cells.lds 0 6 (by simp), mbl, Nat.reduceLeDiff, Nat.reduceLT, Int.reduceEq]
  refine XX_of (Check_ok im1 g.fits) (fun res h2 hle hn => ?_)
  obtain ⟨k2, rfl⟩ := hn
  refine .ret ?_
  have oI2 := oI.keep k2 (fun e => e)
  have im2 := im1.keep k2 (fun _ _ e => e)
  have rt2 := rt1.keep k2 (fun _ _ e => e)
  have k12 := kp1.trans k2
  cases he : ends C with
  | none =>
    simp only [mach, mach2, mstd, ↓reduceIte, Nat.reduceEqDiff, Nat.reduceAdd, Nat.reduceMul, he, Option.isSome_none, mbl, Nat.reduceLeDiff, Nat.reduceLT, Int.reduceEq]
    exact hΨ _ _ (fin_ret (rv1 rfl ⟨k12, rfl⟩))
  | some l =>
  obtain ⟨s1, s2, s3, s4, s5, s6⟩ := ends_some he
  have c0 : ¬ (C.code.length : Int) = 0 := by omega
  have i0 : ¬ (C.infos.length : Int) = 0 := by omega
  simp only [mach, mach2, mstd, ↓reduceIte, Nat.reduceEqDiff, Nat.reduceAdd, Nat.reduceMul, he, Option.isSome_some, oI2.cells.ld, oI2.cells.lds 0 6 (by simp), mbl, Nat.reduceLeDiff, Nat.reduceLT, Int.reduceEq, hvi, hvc, c0, i0]
  rw [← hvi, ← hvc]
  -- the first copy: without its last number
  refine XX_of (rCopy_ok im2 rt2 (by omega) (by omega) (by omega) (by omega) (by omega)) (fun res hA1 hle hn => ?_)
  obtain ⟨wiA, wcA, wtA, wpA, wkA, rfl, cpA⟩ := hn
  refine .ret ?_
  obtain ⟨aiA, ciA, rfl⟩ := row_shape cpA.oi.rds
  obtain ⟨acA, ccA, rfl⟩ := row_shape cpA.oc.rds
  obtain ⟨atA, ctA, rfl⟩ := row_shape cpA.ot.rds
  obtain ⟨apA, cp2A, rfl⟩ := row_shape cpA.op.rds
  obtain ⟨akA, ckA, rfl⟩ := row_shape cpA.ok.rds
  have onA := Own.new hA1 26 hA1.length [.slice none 0 0, .slice none 0 0, .slice none 0 0, .slice none 0 0, iv 0, .slice none 0 0]
  have knA : Keep (fun _ => False) hA1 (hA1 ++ [row 26 hA1.length [.slice none 0 0, .slice none 0 0, .slice none 0 0, .slice none 0 0, iv 0, .slice none 0 0]]) := Keep.push _ _ _
  simp only [mach, mach2, mstd, ↓reduceIte, Nat.reduceEqDiff, Nat.reduceAdd, Nat.reduceMul, mbl, Nat.reduceLeDiff, Nat.reduceLT, Int.reduceEq]
  refine XH_own onA rfl (by simp [Value.cells]) rfl (fun hA2 q1 q2 q3 => ?_)
  have oA : Own hA2 hA1.length 26 [.slice aiA C.infos.length ciA, .slice acA C.code.length ccA, .slice atA texts.length ctA, .slice apA C.tops.length cp2A, iv C.main, .slice akA C.cons.length ckA] := by simpa [Value.cells] using q1
  have lA1 := cpA.kp.len
  have kA : Keep (· = hA1.length) hA1 hA2 := (knA.mono (fun _ e => e.elim)).trans q2
  have lA2 := kA.len
  have bA : hA1.length < hA2.length := oA.lt
  have KA : Keep (fun _ => False) h2 hA2 := cpA.kp.trans' kA (fun q hq e => by omega)
  have oiA := cpA.oi.keep kA (fun q hq e => by have := cpA.oi.lt q hq; omega)
  have ocA := cpA.oc.keep kA (fun q hq e => by have := cpA.oc.lt q hq; omega)
  have otA := cpA.ot.keep kA (fun q hq e => by have := cpA.ot.lt q hq; omega)
  have opA := cpA.op.keep kA (fun q hq e => by have := cpA.op.lt q hq; omega)
  have okA := cpA.ok.keep kA (fun q hq e => by have := cpA.ok.lt q hq; omega)
  have hn1 : C.code.length = (C.code.length - 1) + 1 := by omega
  have hw1 : IntKind.i64.wrap ((C.code.length : Int) - 1) = ((C.code.length - 1 : Nat) : Int) := by rw [i64w (by omega) (by omega)]; omega
  have hcl : ns C.code = ns (C.code.take (C.code.length - 1)) ++ ns (C.code.drop (C.code.length - 1)) := by rw [← ns_app, List.take_append_drop]
  obtain ⟨bcA, hacA, slA, rcA⟩ : ∃ b, acA = some ⟨b, 0, none⟩ ∧ sllv hA2 3 1 (.slice acA C.code.length ccA) none (some (iv ((C.code.length - 1 : Nat) : Int))) = some (.slice (some ⟨b, 0, none⟩) (C.code.length - 1) ccA, none) ∧ Rds hA2 1 (.slice (some ⟨b, 0, none⟩) (C.code.length - 1) ccA) (C.code.length - 1) (ns (C.code.take (C.code.length - 1))) := by
    have := ows_pre (n := C.code.length - 1) (m := 1) (c := ccA) (a := acA) (sz := 1) (e := 3) (h := hA2) (cs := ns (C.code.take (C.code.length - 1))) (xs := ns (C.code.drop (C.code.length - 1))) (by rw [← hcl, ← hn1]; exact ocA) (by rw [ns_len, List.length_take]; omega) (by omega)
    rw [← hn1] at this
    exact this
  simp only [mach, mach2, mstd, ↓reduceIte, Nat.reduceEqDiff, Nat.reduceAdd, Nat.reduceMul, mbl, Nat.reduceLeDiff, Nat.reduceLT, Int.reduceEq, oA.cells.ld, hw1, slA]
  refine XH_own oA rfl (by simp [Value.cells]) rfl (fun hA3 q1 q2 q3 => ?_)
  have oA3 : Own hA3 hA1.length 26 [.slice aiA C.infos.length ciA, .slice (some ⟨bcA, 0, none⟩) (C.code.length - 1) ccA, .slice atA texts.length ctA, .slice apA C.tops.length cp2A, iv C.main, .slice akA C.cons.length ckA] := by simpa [Value.cells] using q1
  have KA3 : Keep (fun _ => False) h2 hA3 := KA.trans' q2 (fun q hq e => by omega)
  have imA : Img hA3 { C with code := C.code.take (C.code.length - 1) } (.slice aiA C.infos.length ciA) (.slice (some ⟨bcA, 0, none⟩) (C.code.length - 1) ccA) (.slice atA texts.length ctA) (.slice apA C.tops.length cp2A) (.slice akA C.cons.length ckA) := by
    refine ⟨(oiA.keep q2 (fun q hq e => by have := cpA.oi.lt q hq; omega)).rds, ?_, ⟨atA, ctA, by rw [g.nt]⟩, (opA.keep q2 (fun q hq e => by have := cpA.op.lt q hq; omega)).rds, (okA.keep q2 (fun q hq e => by have := cpA.ok.lt q hq; omega)).rds⟩
    show Rds hA3 1 _ (C.code.take (C.code.length - 1)).length (ns (C.code.take (C.code.length - 1)))
    rw [show (C.code.take (C.code.length - 1)).length = C.code.length - 1 by rw [List.length_take]; omega]
    refine rcA.keep q2 (fun q hq e => ?_)
    have := cpA.oc.lt q (by rw [hacA]; exact hq.bk)
    omega
  have oIA := oI2.keep KA3 (fun e => e)
  have imIA := im2.keep KA3 (fun _ _ e => e)
  have rtIA := rt2.keep KA3 (fun _ _ e => e)
  simp only [mach, mach2, mstd, ↓reduceIte, Nat.reduceEqDiff, Nat.reduceAdd, Nat.reduceMul, oIA.cells.lds 0 6 (by simp), mbl, Nat.reduceLeDiff, Nat.reduceLT, Int.reduceEq]
  refine XX_of (rCopy_ok imIA rtIA (by omega) (by omega) (by omega) (by omega) (by omega)) (fun res hB1 hle hn => ?_)
  obtain ⟨wiB, wcB, wtB, wpB, wkB, rfl, cpB⟩ := hn
  refine .ret ?_
  obtain ⟨aiB, ciB, rfl⟩ := row_shape cpB.oi.rds
  obtain ⟨acB, ccB, rfl⟩ := row_shape cpB.oc.rds
  obtain ⟨atB, ctB, rfl⟩ := row_shape cpB.ot.rds
  obtain ⟨apB, cp2B, rfl⟩ := row_shape cpB.op.rds
  obtain ⟨akB, ckB, rfl⟩ := row_shape cpB.ok.rds
  have onB := Own.new hB1 26 hB1.length [.slice none 0 0, .slice none 0 0, .slice none 0 0, .slice none 0 0, iv 0, .slice none 0 0]
  have knB : Keep (fun _ => False) hB1 (hB1 ++ [row 26 hB1.length [.slice none 0 0, .slice none 0 0, .slice none 0 0, .slice none 0 0, iv 0, .slice none 0 0]]) := Keep.push _ _ _
  simp only [mach, mach2, mstd, ↓reduceIte, Nat.reduceEqDiff, Nat.reduceAdd, Nat.reduceMul, mbl, Nat.reduceLeDiff, Nat.reduceLT, Int.reduceEq]
  refine XH_own onB rfl (by simp [Value.cells]) rfl (fun hB2 q1 q2 q3 => ?_)
  have oB : Own hB2 hB1.length 26 [.slice aiB C.infos.length ciB, .slice acB C.code.length ccB, .slice atB texts.length ctB, .slice apB C.tops.length cp2B, iv C.main, .slice akB C.cons.length ckB] := by simpa [Value.cells] using q1
  have lB1 := cpB.kp.len
  have kB : Keep (· = hB1.length) hB1 hB2 := (knB.mono (fun _ e => e.elim)).trans q2
  have lB2 := kB.len
  have bB : hB1.length < hB2.length := oB.lt
  have KB : Keep (fun _ => False) hA3 hB2 := cpB.kp.trans' kB (fun q hq e => by omega)
  have oiB := cpB.oi.keep kB (fun q hq e => by have := cpB.oi.lt q hq; omega)
  have ocB := cpB.oc.keep kB (fun q hq e => by have := cpB.oc.lt q hq; omega)
  have otB := cpB.ot.keep kB (fun q hq e => by have := cpB.ot.lt q hq; omega)
  have opB := cpB.op.keep kB (fun q hq e => by have := cpB.op.lt q hq; omega)
  have okB := cpB.ok.keep kB (fun q hq e => by have := cpB.ok.lt q hq; omega)
  obtain ⟨sB, hB3, y1, y2, y3, y4⟩ := app1 (bytes := 8) (xs := [iv 1]) ocB rfl rfl (by omega) (by omega)
  obtain ⟨asB, csB, rfl⟩ := row_shape y2.rds
  have lB3 := y3.len
  have kBo : ∀ q, bk (.slice acB C.code.length ccB) q → q < hB1.length ∧ hA3.length ≤ q := fun q hq => ⟨cpB.oc.lt q hq, cpB.fc q hq⟩
  have oB2 := oB.keep (Keep.push (fun _ => False) hB2 (row 3 hB2.length [iv 1])) (fun e => e)
  have oB3' := oB.keep y3 (fun e => by have := kBo _ e; omega)
  simp only [mach, mach2, mstd, ↓reduceIte, Nat.reduceEqDiff, Nat.reduceAdd, Nat.reduceMul, mbl, Nat.reduceLeDiff, Nat.reduceLT, Int.reduceEq, oB.cells.ld, oB2.cells.ld, y1]
  refine XH_own oB3' rfl (by simp [Value.cells]) rfl (fun hB4 q1 q2 q3 => ?_)
  have oB4 : Own hB4 hB1.length 26 [.slice aiB C.infos.length ciB, .slice asB (C.code.length + 1) csB, .slice atB texts.length ctB, .slice apB C.tops.length cp2B, iv C.main, .slice akB C.cons.length ckB] := by simpa [Value.cells] using q1
  have KB4 : Keep (fun _ => False) hA3 hB4 := (KB.trans' y3 (fun q hq e => by have := kBo q e; omega)).trans' q2 (fun q hq e => by omega)
  have imB : Img hB4 { C with code := C.code ++ [1] } (.slice aiB C.infos.length ciB) (.slice asB (C.code.length + 1) csB) (.slice atB texts.length ctB) (.slice apB C.tops.length cp2B) (.slice akB C.cons.length ckB) := by
    refine ⟨((oiB.keep y3 (fun q hq e => cpB.ic q hq e)).keep q2 (fun q hq e => by have := cpB.oi.lt q hq; omega)).rds, ?_, ⟨atB, ctB, by rw [g.nt]⟩, ((opB.keep y3 (fun q hq e => cpB.cp q e hq)).keep q2 (fun q hq e => by have := cpB.op.lt q hq; omega)).rds, ((okB.keep y3 (fun q hq e => cpB.ck q e hq)).keep q2 (fun q hq e => by have := cpB.ok.lt q hq; omega)).rds⟩
    have e1 : (C.code ++ [(1 : Int)]).length = C.code.length + 1 := by simp
    show Rds hB4 1 _ (C.code ++ [(1 : Int)]).length (ns (C.code ++ [(1 : Int)]))
    rw [e1, ns_app]
    refine (y2.keep q2 (fun q hq e => ?_)).rds
    rcases y4 q hq with c | c
    · have := kBo q c; omega
    · omega
  have KAB := KA3.trans KB4
  have oIB := oIA.keep KB4 (fun e => e)
  have imIB := imIA.keep KB4 (fun _ _ e => e)
  have rtIB := rtIA.keep KB4 (fun _ _ e => e)
  simp only [mach, mach2, mstd, ↓reduceIte, Nat.reduceEqDiff, Nat.reduceAdd, Nat.reduceMul, oIB.cells.lds 0 6 (by simp), mbl, Nat.reduceLeDiff, Nat.reduceLT, Int.reduceEq]
  refine XX_of (rCopy_ok imIB rtIB (by omega) (by omega) (by omega) (by omega) (by omega)) (fun res hC1 hle hn => ?_)
  obtain ⟨wiC, wcC, wtC, wpC, wkC, rfl, cpC⟩ := hn
  refine .ret ?_
  obtain ⟨aiC, ciC, rfl⟩ := row_shape cpC.oi.rds
  obtain ⟨acC, ccC, rfl⟩ := row_shape cpC.oc.rds
  obtain ⟨atC, ctC, rfl⟩ := row_shape cpC.ot.rds
  obtain ⟨apC, cp2C, rfl⟩ := row_shape cpC.op.rds
  obtain ⟨akC, ckC, rfl⟩ := row_shape cpC.ok.rds
  have onC := Own.new hC1 26 hC1.length [.slice none 0 0, .slice none 0 0, .slice none 0 0, .slice none 0 0, iv 0, .slice none 0 0]
  have knC : Keep (fun _ => False) hC1 (hC1 ++ [row 26 hC1.length [.slice none 0 0, .slice none 0 0, .slice none 0 0, .slice none 0 0, iv 0, .slice none 0 0]]) := Keep.push _ _ _
  simp only [mach, mach2, mstd, ↓reduceIte, Nat.reduceEqDiff, Nat.reduceAdd, Nat.reduceMul, mbl, Nat.reduceLeDiff, Nat.reduceLT, Int.reduceEq]
  refine XH_own onC rfl (by simp [Value.cells]) rfl (fun hC2 q1 q2 q3 => ?_)
  have oC : Own hC2 hC1.length 26 [.slice aiC C.infos.length ciC, .slice acC C.code.length ccC, .slice atC texts.length ctC, .slice apC C.tops.length cp2C, iv C.main, .slice akC C.cons.length ckC] := by simpa [Value.cells] using q1
  have lC1 := cpC.kp.len
  have kC : Keep (· = hC1.length) hC1 hC2 := (knC.mono (fun _ e => e.elim)).trans q2
  have lC2 := kC.len
  have bC : hC1.length < hC2.length := oC.lt
  have KC : Keep (fun _ => False) hB4 hC2 := cpC.kp.trans' kC (fun q hq e => by omega)
  have oiC := cpC.oi.keep kC (fun q hq e => by have := cpC.oi.lt q hq; omega)
  have ocC := cpC.oc.keep kC (fun q hq e => by have := cpC.oc.lt q hq; omega)
  have otC := cpC.ot.keep kC (fun q hq e => by have := cpC.ot.lt q hq; omega)
  have opC := cpC.op.keep kC (fun q hq e => by have := cpC.op.lt q hq; omega)
  have okC := cpC.ok.keep kC (fun q hq e => by have := cpC.ok.lt q hq; omega)
  have hcC : C.infos.length ≤ 9223372036854775807 := g.z.infos
  have i00 : (0 : Int) < (C.infos.length : Int) := by omega
  by_cases c1 : i < 0
  · have hj : 0 < C.infos.length := s1
    simp only [mach, mach2, mstd, ↓reduceIte, Nat.reduceEqDiff, Nat.reduceAdd, Nat.reduceMul, mbl, Nat.reduceLeDiff, Nat.reduceLT, Int.reduceEq, oC.cells.ld, eq_true c1]
    have hjl : 0 < C.infos.length := hj
    obtain ⟨⟨ik, ia2, iff, icc⟩, hxj⟩ : ∃ x, C.infos[0]? = some x := ⟨_, List.getElem?_eq_getElem hjl⟩
    have hcc : 0 ≤ icc ∧ icc ≤ (C.code.length : Int) := s6 _ (List.mem_of_getElem? hxj)
    have hw2 : IntKind.i64.wrap (icc + 1) = icc + 1 := i64w (by omega) (by omega)
    obtain ⟨kb, ko, kc, ke, kl, kd⟩ := rds_fld (by omega) Inf.len oiC.rds hxj
    have kd3 := kd 3 (by omega)
    simp only [Inf.cells, List.getElem?_cons_succ, List.getElem?_cons_zero, Option.map_some] at kd3
    obtain ⟨bC, cC2, hC3, ec, st, owC, kC3⟩ := ows_cell oiC (j := 0 * 4 + 3) (by omega) (x := iv (icc + 1)) rfl
    cases ec
    cases ke
    rw [Nat.zero_add] at kd3
    have j0 : (0 : Int) ≤ ((0 : Nat) : Int) := by omega
    have jl : ((0 : Nat) : Int) < (C.infos.length : Int) := by omega
    simp only [Nat.zero_mul, Nat.zero_add] at kd3 st
    simp only [mach, mach2, mstd, ↓reduceIte, Nat.reduceEqDiff, Nat.reduceAdd, Nat.reduceMul, mbl, Nat.reduceLeDiff, Nat.reduceLT, Int.reduceEq, oC.cells.ld, j0, jl, and_self, Int.toNat_natCast, Nat.zero_add, kd3, hw2, st, Int.toNat_zero, Int.le_refl, i00, Nat.zero_mul]
    have oC3 := oC.keep kC3 (fun e => by have : hC1.length = kb := e; have := cpC.oi.lt kb rfl; omega)
    have fC : ∀ q, bk (.slice (some ⟨kb, 0, none⟩) C.infos.length ciC) q → q < hC1.length ∧ hB4.length ≤ q := fun q hq => ⟨cpC.oi.lt q hq, cpC.fi q hq⟩
    have KC3 : Keep (fun _ => False) hB4 hC3 := KC.trans' kC3 (fun q hq e => by have := fC q e; omega)
    rw [← rows_set hxj] at owC
    have imC : Img hC3 { C with infos := C.infos.set 0 ⟨ik, ia2, iff, icc + 1⟩ } (.slice (some ⟨kb, 0, none⟩) C.infos.length ciC) (.slice acC C.code.length ccC) (.slice atC texts.length ctC) (.slice apC C.tops.length cp2C) (.slice akC C.cons.length ckC) := by
      refine ⟨?_, (ocC.keep kC3 (fun q hq e => cpC.ic q e hq)).rds, ⟨atC, ctC, by rw [g.nt]⟩, (opC.keep kC3 (fun q hq e => cpC.ip q e hq)).rds, (okC.keep kC3 (fun q hq e => cpC.ik q e hq)).rds⟩
      show Rds hC3 4 _ (C.infos.set 0 ⟨ik, ia2, iff, icc + 1⟩).length (rowsOf Inf.cells (C.infos.set 0 ⟨ik, ia2, iff, icc + 1⟩))
      rw [List.length_set]
      exact owC.rds
    have oIC := oIB.keep KC3 (fun e => e)
    have imIC := imIB.keep KC3 (fun _ _ e => e)
    have rtIC := rtIB.keep KC3 (fun _ _ e => e)
    simp only [mach, mach2, mstd, ↓reduceIte, Nat.reduceEqDiff, Nat.reduceAdd, Nat.reduceMul, oIC.cells.lds 0 6 (by simp), mbl, Nat.reduceLeDiff, Nat.reduceLT, Int.reduceEq]
    refine XX_of (rCopy_ok imIC rtIC (by omega) (by omega) (by omega) (by omega) (by omega)) (fun res hD1 hle hn => ?_)
    obtain ⟨wiD, wcD, wtD, wpD, wkD, rfl, cpD⟩ := hn
    refine .ret ?_
    obtain ⟨aiD, ciD, rfl⟩ := row_shape cpD.oi.rds
    obtain ⟨acD, ccD, rfl⟩ := row_shape cpD.oc.rds
    obtain ⟨atD, ctD, rfl⟩ := row_shape cpD.ot.rds
    obtain ⟨apD, cp2D, rfl⟩ := row_shape cpD.op.rds
    obtain ⟨akD, ckD, rfl⟩ := row_shape cpD.ok.rds
    have onD := Own.new hD1 26 hD1.length [.slice none 0 0, .slice none 0 0, .slice none 0 0, .slice none 0 0, iv 0, .slice none 0 0]
    have knD : Keep (fun _ => False) hD1 (hD1 ++ [row 26 hD1.length [.slice none 0 0, .slice none 0 0, .slice none 0 0, .slice none 0 0, iv 0, .slice none 0 0]]) := Keep.push _ _ _
    simp only [mach, mach2, mstd, ↓reduceIte, Nat.reduceEqDiff, Nat.reduceAdd, Nat.reduceMul, mbl, Nat.reduceLeDiff, Nat.reduceLT, Int.reduceEq]
    refine XH_own onD rfl (by simp [Value.cells]) rfl (fun hD2 q1 q2 q3 => ?_)
    have oD : Own hD2 hD1.length 26 [.slice aiD C.infos.length ciD, .slice acD C.code.length ccD, .slice atD texts.length ctD, .slice apD C.tops.length cp2D, iv C.main, .slice akD C.cons.length ckD] := by simpa [Value.cells] using q1
    have lD1 := cpD.kp.len
    have kD : Keep (· = hD1.length) hD1 hD2 := (knD.mono (fun _ e => e.elim)).trans q2
    have lD2 := kD.len
    have bD : hD1.length < hD2.length := oD.lt
    have KD : Keep (fun _ => False) hC3 hD2 := cpD.kp.trans' kD (fun q hq e => by omega)
    have oiD := cpD.oi.keep kD (fun q hq e => by have := cpD.oi.lt q hq; omega)
    have ocD := cpD.oc.keep kD (fun q hq e => by have := cpD.oc.lt q hq; omega)
    have otD := cpD.ot.keep kD (fun q hq e => by have := cpD.ot.lt q hq; omega)
    have opD := cpD.op.keep kD (fun q hq e => by have := cpD.op.lt q hq; omega)
    have okD := cpD.ok.keep kD (fun q hq e => by have := cpD.ok.lt q hq; omega)
    simp only [mach, mach2, mstd, ↓reduceIte, Nat.reduceEqDiff, Nat.reduceAdd, Nat.reduceMul, mbl, Nat.reduceLeDiff, Nat.reduceLT, Int.reduceEq, oD.cells.ld]
    refine XH_own oD rfl (by simp [Value.cells]) rfl (fun hD3 q1 q2 q3 => ?_)
    have oD3 : Own hD3 hD1.length 26 [.slice aiD C.infos.length ciD, .slice acD C.code.length ccD, .slice atD texts.length ctD, .slice apD C.tops.length cp2D, iv C.tops.length, .slice akD C.cons.length ckD] := by simpa [Value.cells] using q1
    have KD3 : Keep (fun _ => False) hC3 hD3 := KD.trans' q2 (fun q hq e => by omega)
    have imD : Img hD3 { C with main := (C.tops.length : Int) } (.slice aiD C.infos.length ciD) (.slice acD C.code.length ccD) (.slice atD texts.length ctD) (.slice apD C.tops.length cp2D) (.slice akD C.cons.length ckD) :=
      ⟨(oiD.keep q2 (fun q hq e => by have := cpD.oi.lt q hq; omega)).rds, (ocD.keep q2 (fun q hq e => by have := cpD.oc.lt q hq; omega)).rds, ⟨atD, ctD, by rw [g.nt]⟩, (opD.keep q2 (fun q hq e => by have := cpD.op.lt q hq; omega)).rds, (okD.keep q2 (fun q hq e => by have := cpD.ok.lt q hq; omega)).rds⟩
    have oA4 := ((oA3.keep KB4 (fun e => e)).keep KC3 (fun e => e)).keep KD3 (fun e => e)
    have imA4 := ((imA.keep KB4 (fun _ _ e => e)).keep KC3 (fun _ _ e => e)).keep KD3 (fun _ _ e => e)
    have oB5 := (oB4.keep KC3 (fun e => e)).keep KD3 (fun e => e)
    have imB5 := (imB.keep KC3 (fun _ _ e => e)).keep KD3 (fun _ _ e => e)
    have oC4 := oC3.keep KD3 (fun e => e)
    have imC4 := imC.keep KD3 (fun _ _ e => e)
    have kAll : Keep (fun _ => False) h hD3 := (((k12.trans KA3).trans KB4).trans KC3).trans KD3
    have eA : ends { C with code := C.code.take (C.code.length - 1) } = none := cut_less he s2
    have eB : ends { C with code := C.code ++ [(1 : Int)] } = none := cut_more he
    have eC : ends { C with infos := C.infos.set 0 ⟨ik, ia2, iff, icc + 1⟩ } = none := cut_else he hxj (by show icc + 1 ≠ icc; omega)
    have eD : ends { C with main := (C.tops.length : Int) } = none := ends_main (Int.le_refl _)
    have z1 := g.z.tops
    have z2 := g.z.cons
    simp only [mach, mach2, mstd, ↓reduceIte, Nat.reduceEqDiff, Nat.reduceAdd, Nat.reduceMul, mbl, Nat.reduceLeDiff, Nat.reduceLT, Int.reduceEq, oA4.cells.lds 0 6 (by simp)]
    refine XX_of (Check_ok (C := { C with code := C.code.take (C.code.length - 1) }) imA4 ⟨g.z.infos, by show (C.code.take (C.code.length - 1)).length ≤ _; rw [List.length_take]; omega, z1, z2⟩) (fun res e1 hle hn => ?_)
    obtain ⟨x1, rfl⟩ := hn
    refine .ret ?_
    have oB6 := oB5.keep x1 (fun e => e)
    have imB6 := imB5.keep x1 (fun _ _ e => e)
    simp only [mach, mach2, mstd, ↓reduceIte, Nat.reduceEqDiff, Nat.reduceAdd, Nat.reduceMul, mbl, Nat.reduceLeDiff, Nat.reduceLT, Int.reduceEq, oB6.cells.lds 0 6 (by simp)]
    refine XX_of (Check_ok (C := { C with code := C.code ++ [(1 : Int)] }) imB6 ⟨g.z.infos, by show (C.code ++ [(1 : Int)]).length ≤ _; simp; omega, z1, z2⟩) (fun res e2 hle hn => ?_)
    obtain ⟨x2, rfl⟩ := hn
    refine .ret ?_
    have oC6 := (oC4.keep x1 (fun e => e)).keep x2 (fun e => e)
    have imC6 := (imC4.keep x1 (fun _ _ e => e)).keep x2 (fun _ _ e => e)
    simp only [mach, mach2, mstd, ↓reduceIte, Nat.reduceEqDiff, Nat.reduceAdd, Nat.reduceMul, mbl, Nat.reduceLeDiff, Nat.reduceLT, Int.reduceEq, oC6.cells.lds 0 6 (by simp)]
    refine XX_of (Check_ok (C := { C with infos := C.infos.set 0 ⟨ik, ia2, iff, icc + 1⟩ }) imC6 ⟨by show (C.infos.set 0 _).length ≤ _; rw [List.length_set]; exact g.z.infos, g.cl, z1, z2⟩) (fun res e3 hle hn => ?_)
    obtain ⟨x3, rfl⟩ := hn
    refine .ret ?_
    have oD6 := ((oD3.keep x1 (fun e => e)).keep x2 (fun e => e)).keep x3 (fun e => e)
    have imD6 := ((imD.keep x1 (fun _ _ e => e)).keep x2 (fun _ _ e => e)).keep x3 (fun _ _ e => e)
    simp only [mach, mach2, mstd, ↓reduceIte, Nat.reduceEqDiff, Nat.reduceAdd, Nat.reduceMul, mbl, Nat.reduceLeDiff, Nat.reduceLT, Int.reduceEq, oD6.cells.lds 0 6 (by simp)]
    refine XX_of (Check_ok (C := { C with main := (C.tops.length : Int) }) imD6 ⟨g.z.infos, g.cl, z1, z2⟩) (fun res e4 hle hn => ?_)
    obtain ⟨x4, rfl⟩ := hn
    refine .ret ?_
    simp only [mach, mach2, mstd, ↓reduceIte, Nat.reduceEqDiff, Nat.reduceAdd, Nat.reduceMul, mbl, Nat.reduceLeDiff, Nat.reduceLT, Int.reduceEq, eA, eB, eC, eD, Option.isSome_none]
    exact hΨ _ _ (fin_ret (rv1 rfl ⟨(((kAll.trans x1).trans x2).trans x3).trans x4, rfl⟩))
  · obtain ⟨j, rfl⟩ := Int.eq_ofNat_of_zero_le (show 0 ≤ i by omega)
    by_cases c2 : (j : Int) ≥ (C.infos.length : Int)
    · have hj : 0 < C.infos.length := s1
      simp only [mach, mach2, mstd, ↓reduceIte, Nat.reduceEqDiff, Nat.reduceAdd, Nat.reduceMul, mbl, Nat.reduceLeDiff, Nat.reduceLT, Int.reduceEq, oC.cells.ld, c1, eq_true c2]
      have hjl : 0 < C.infos.length := hj
      obtain ⟨⟨ik, ia2, iff, icc⟩, hxj⟩ : ∃ x, C.infos[0]? = some x := ⟨_, List.getElem?_eq_getElem hjl⟩
      have hcc : 0 ≤ icc ∧ icc ≤ (C.code.length : Int) := s6 _ (List.mem_of_getElem? hxj)
      have hw2 : IntKind.i64.wrap (icc + 1) = icc + 1 := i64w (by omega) (by omega)
      obtain ⟨kb, ko, kc, ke, kl, kd⟩ := rds_fld (by omega) Inf.len oiC.rds hxj
      have kd3 := kd 3 (by omega)
      simp only [Inf.cells, List.getElem?_cons_succ, List.getElem?_cons_zero, Option.map_some] at kd3
      obtain ⟨bC, cC2, hC3, ec, st, owC, kC3⟩ := ows_cell oiC (j := 0 * 4 + 3) (by omega) (x := iv (icc + 1)) rfl
      cases ec
      cases ke
      rw [Nat.zero_add] at kd3
      have j0 : (0 : Int) ≤ ((0 : Nat) : Int) := by omega
      have jl : ((0 : Nat) : Int) < (C.infos.length : Int) := by omega
      simp only [Nat.zero_mul, Nat.zero_add] at kd3 st
      simp only [mach, mach2, mstd, ↓reduceIte, Nat.reduceEqDiff, Nat.reduceAdd, Nat.reduceMul, mbl, Nat.reduceLeDiff, Nat.reduceLT, Int.reduceEq, oC.cells.ld, j0, jl, and_self, Int.toNat_natCast, Nat.zero_add, kd3, hw2, st, Int.toNat_zero, Int.le_refl, i00, Nat.zero_mul]
      have oC3 := oC.keep kC3 (fun e => by have : hC1.length = kb := e; have := cpC.oi.lt kb rfl; omega)
      have fC : ∀ q, bk (.slice (some ⟨kb, 0, none⟩) C.infos.length ciC) q → q < hC1.length ∧ hB4.length ≤ q := fun q hq => ⟨cpC.oi.lt q hq, cpC.fi q hq⟩
      have KC3 : Keep (fun _ => False) hB4 hC3 := KC.trans' kC3 (fun q hq e => by have := fC q e; omega)
      rw [← rows_set hxj] at owC
      have imC : Img hC3 { C with infos := C.infos.set 0 ⟨ik, ia2, iff, icc + 1⟩ } (.slice (some ⟨kb, 0, none⟩) C.infos.length ciC) (.slice acC C.code.length ccC) (.slice atC texts.length ctC) (.slice apC C.tops.length cp2C) (.slice akC C.cons.length ckC) := by
        refine ⟨?_, (ocC.keep kC3 (fun q hq e => cpC.ic q e hq)).rds, ⟨atC, ctC, by rw [g.nt]⟩, (opC.keep kC3 (fun q hq e => cpC.ip q e hq)).rds, (okC.keep kC3 (fun q hq e => cpC.ik q e hq)).rds⟩
        show Rds hC3 4 _ (C.infos.set 0 ⟨ik, ia2, iff, icc + 1⟩).length (rowsOf Inf.cells (C.infos.set 0 ⟨ik, ia2, iff, icc + 1⟩))
        rw [List.length_set]
        exact owC.rds
      have oIC := oIB.keep KC3 (fun e => e)
      have imIC := imIB.keep KC3 (fun _ _ e => e)
      have rtIC := rtIB.keep KC3 (fun _ _ e => e)
      simp only [mach, mach2, mstd, ↓reduceIte, Nat.reduceEqDiff, Nat.reduceAdd, Nat.reduceMul, oIC.cells.lds 0 6 (by simp), mbl, Nat.reduceLeDiff, Nat.reduceLT, Int.reduceEq]
      refine XX_of (rCopy_ok imIC rtIC (by omega) (by omega) (by omega) (by omega) (by omega)) (fun res hD1 hle hn => ?_)
      obtain ⟨wiD, wcD, wtD, wpD, wkD, rfl, cpD⟩ := hn
      refine .ret ?_
      obtain ⟨aiD, ciD, rfl⟩ := row_shape cpD.oi.rds
      obtain ⟨acD, ccD, rfl⟩ := row_shape cpD.oc.rds
      obtain ⟨atD, ctD, rfl⟩ := row_shape cpD.ot.rds
      obtain ⟨apD, cp2D, rfl⟩ := row_shape cpD.op.rds
      obtain ⟨akD, ckD, rfl⟩ := row_shape cpD.ok.rds
      have onD := Own.new hD1 26 hD1.length [.slice none 0 0, .slice none 0 0, .slice none 0 0, .slice none 0 0, iv 0, .slice none 0 0]
      have knD : Keep (fun _ => False) hD1 (hD1 ++ [row 26 hD1.length [.slice none 0 0, .slice none 0 0, .slice none 0 0, .slice none 0 0, iv 0, .slice none 0 0]]) := Keep.push _ _ _
      simp only [mach, mach2, mstd, ↓reduceIte, Nat.reduceEqDiff, Nat.reduceAdd, Nat.reduceMul, mbl, Nat.reduceLeDiff, Nat.reduceLT, Int.reduceEq]
      refine XH_own onD rfl (by simp [Value.cells]) rfl (fun hD2 q1 q2 q3 => ?_)
      have oD : Own hD2 hD1.length 26 [.slice aiD C.infos.length ciD, .slice acD C.code.length ccD, .slice atD texts.length ctD, .slice apD C.tops.length cp2D, iv C.main, .slice akD C.cons.length ckD] := by simpa [Value.cells] using q1
      have lD1 := cpD.kp.len
      have kD : Keep (· = hD1.length) hD1 hD2 := (knD.mono (fun _ e => e.elim)).trans q2
      have lD2 := kD.len
      have bD : hD1.length < hD2.length := oD.lt
      have KD : Keep (fun _ => False) hC3 hD2 := cpD.kp.trans' kD (fun q hq e => by omega)
      have oiD := cpD.oi.keep kD (fun q hq e => by have := cpD.oi.lt q hq; omega)
      have ocD := cpD.oc.keep kD (fun q hq e => by have := cpD.oc.lt q hq; omega)
      have otD := cpD.ot.keep kD (fun q hq e => by have := cpD.ot.lt q hq; omega)
      have opD := cpD.op.keep kD (fun q hq e => by have := cpD.op.lt q hq; omega)
      have okD := cpD.ok.keep kD (fun q hq e => by have := cpD.ok.lt q hq; omega)
      simp only [mach, mach2, mstd, ↓reduceIte, Nat.reduceEqDiff, Nat.reduceAdd, Nat.reduceMul, mbl, Nat.reduceLeDiff, Nat.reduceLT, Int.reduceEq, oD.cells.ld]
      refine XH_own oD rfl (by simp [Value.cells]) rfl (fun hD3 q1 q2 q3 => ?_)
      have oD3 : Own hD3 hD1.length 26 [.slice aiD C.infos.length ciD, .slice acD C.code.length ccD, .slice atD texts.length ctD, .slice apD C.tops.length cp2D, iv C.tops.length, .slice akD C.cons.length ckD] := by simpa [Value.cells] using q1
      have KD3 : Keep (fun _ => False) hC3 hD3 := KD.trans' q2 (fun q hq e => by omega)
      have imD : Img hD3 { C with main := (C.tops.length : Int) } (.slice aiD C.infos.length ciD) (.slice acD C.code.length ccD) (.slice atD texts.length ctD) (.slice apD C.tops.length cp2D) (.slice akD C.cons.length ckD) :=
        ⟨(oiD.keep q2 (fun q hq e => by have := cpD.oi.lt q hq; omega)).rds, (ocD.keep q2 (fun q hq e => by have := cpD.oc.lt q hq; omega)).rds, ⟨atD, ctD, by rw [g.nt]⟩, (opD.keep q2 (fun q hq e => by have := cpD.op.lt q hq; omega)).rds, (okD.keep q2 (fun q hq e => by have := cpD.ok.lt q hq; omega)).rds⟩
      have oA4 := ((oA3.keep KB4 (fun e => e)).keep KC3 (fun e => e)).keep KD3 (fun e => e)
      have imA4 := ((imA.keep KB4 (fun _ _ e => e)).keep KC3 (fun _ _ e => e)).keep KD3 (fun _ _ e => e)
      have oB5 := (oB4.keep KC3 (fun e => e)).keep KD3 (fun e => e)
      have imB5 := (imB.keep KC3 (fun _ _ e => e)).keep KD3 (fun _ _ e => e)
      have oC4 := oC3.keep KD3 (fun e => e)
      have imC4 := imC.keep KD3 (fun _ _ e => e)
      have kAll : Keep (fun _ => False) h hD3 := (((k12.trans KA3).trans KB4).trans KC3).trans KD3
      have eA : ends { C with code := C.code.take (C.code.length - 1) } = none := cut_less he s2
      have eB : ends { C with code := C.code ++ [(1 : Int)] } = none := cut_more he
      have eC : ends { C with infos := C.infos.set 0 ⟨ik, ia2, iff, icc + 1⟩ } = none := cut_else he hxj (by show icc + 1 ≠ icc; omega)
      have eD : ends { C with main := (C.tops.length : Int) } = none := ends_main (Int.le_refl _)
      have z1 := g.z.tops
      have z2 := g.z.cons
      simp only [mach, mach2, mstd, ↓reduceIte, Nat.reduceEqDiff, Nat.reduceAdd, Nat.reduceMul, mbl, Nat.reduceLeDiff, Nat.reduceLT, Int.reduceEq, oA4.cells.lds 0 6 (by simp)]
      refine XX_of (Check_ok (C := { C with code := C.code.take (C.code.length - 1) }) imA4 ⟨g.z.infos, by show (C.code.take (C.code.length - 1)).length ≤ _; rw [List.length_take]; omega, z1, z2⟩) (fun res e1 hle hn => ?_)
      obtain ⟨x1, rfl⟩ := hn
      refine .ret ?_
      have oB6 := oB5.keep x1 (fun e => e)
      have imB6 := imB5.keep x1 (fun _ _ e => e)
      simp only [mach, mach2, mstd, ↓reduceIte, Nat.reduceEqDiff, Nat.reduceAdd, Nat.reduceMul, mbl, Nat.reduceLeDiff, Nat.reduceLT, Int.reduceEq, oB6.cells.lds 0 6 (by simp)]
      refine XX_of (Check_ok (C := { C with code := C.code ++ [(1 : Int)] }) imB6 ⟨g.z.infos, by show (C.code ++ [(1 : Int)]).length ≤ _; simp; omega, z1, z2⟩) (fun res e2 hle hn => ?_)
      obtain ⟨x2, rfl⟩ := hn
      refine .ret ?_
      have oC6 := (oC4.keep x1 (fun e => e)).keep x2 (fun e => e)
      have imC6 := (imC4.keep x1 (fun _ _ e => e)).keep x2 (fun _ _ e => e)
      simp only [mach, mach2, mstd, ↓reduceIte, Nat.reduceEqDiff, Nat.reduceAdd, Nat.reduceMul, mbl, Nat.reduceLeDiff, Nat.reduceLT, Int.reduceEq, oC6.cells.lds 0 6 (by simp)]
      refine XX_of (Check_ok (C := { C with infos := C.infos.set 0 ⟨ik, ia2, iff, icc + 1⟩ }) imC6 ⟨by show (C.infos.set 0 _).length ≤ _; rw [List.length_set]; exact g.z.infos, g.cl, z1, z2⟩) (fun res e3 hle hn => ?_)
      obtain ⟨x3, rfl⟩ := hn
      refine .ret ?_
      have oD6 := ((oD3.keep x1 (fun e => e)).keep x2 (fun e => e)).keep x3 (fun e => e)
      have imD6 := ((imD.keep x1 (fun _ _ e => e)).keep x2 (fun _ _ e => e)).keep x3 (fun _ _ e => e)
      simp only [mach, mach2, mstd, ↓reduceIte, Nat.reduceEqDiff, Nat.reduceAdd, Nat.reduceMul, mbl, Nat.reduceLeDiff, Nat.reduceLT, Int.reduceEq, oD6.cells.lds 0 6 (by simp)]
      refine XX_of (Check_ok (C := { C with main := (C.tops.length : Int) }) imD6 ⟨g.z.infos, g.cl, z1, z2⟩) (fun res e4 hle hn => ?_)
      obtain ⟨x4, rfl⟩ := hn
      refine .ret ?_
      simp only [mach, mach2, mstd, ↓reduceIte, Nat.reduceEqDiff, Nat.reduceAdd, Nat.reduceMul, mbl, Nat.reduceLeDiff, Nat.reduceLT, Int.reduceEq, eA, eB, eC, eD, Option.isSome_none]
      exact hΨ _ _ (fin_ret (rv1 rfl ⟨(((kAll.trans x1).trans x2).trans x3).trans x4, rfl⟩))
    · have hj : j < C.infos.length := by omega
      simp only [mach, mach2, mstd, ↓reduceIte, Nat.reduceEqDiff, Nat.reduceAdd, Nat.reduceMul, mbl, Nat.reduceLeDiff, Nat.reduceLT, Int.reduceEq, oC.cells.ld, c1, c2]
      have hjl : j < C.infos.length := hj
      obtain ⟨⟨ik, ia2, iff, icc⟩, hxj⟩ : ∃ x, C.infos[j]? = some x := ⟨_, List.getElem?_eq_getElem hjl⟩
      have hcc : 0 ≤ icc ∧ icc ≤ (C.code.length : Int) := s6 _ (List.mem_of_getElem? hxj)
      have hw2 : IntKind.i64.wrap (icc + 1) = icc + 1 := i64w (by omega) (by omega)
      obtain ⟨kb, ko, kc, ke, kl, kd⟩ := rds_fld (by omega) Inf.len oiC.rds hxj
      have kd3 := kd 3 (by omega)
      simp only [Inf.cells, List.getElem?_cons_succ, List.getElem?_cons_zero, Option.map_some] at kd3
      obtain ⟨bC, cC2, hC3, ec, st, owC, kC3⟩ := ows_cell oiC (j := j * 4 + 3) (by omega) (x := iv (icc + 1)) rfl
      cases ec
      cases ke
      rw [Nat.zero_add] at kd3
      have j0 : (0 : Int) ≤ ((j : Nat) : Int) := by omega
      have jl : ((j : Nat) : Int) < (C.infos.length : Int) := by omega
      skip
      simp only [mach, mach2, mstd, ↓reduceIte, Nat.reduceEqDiff, Nat.reduceAdd, Nat.reduceMul, mbl, Nat.reduceLeDiff, Nat.reduceLT, Int.reduceEq, oC.cells.ld, j0, jl, and_self, Int.toNat_natCast, Nat.zero_add, kd3, hw2, st]
      have oC3 := oC.keep kC3 (fun e => by have : hC1.length = kb := e; have := cpC.oi.lt kb rfl; omega)
      have fC : ∀ q, bk (.slice (some ⟨kb, 0, none⟩) C.infos.length ciC) q → q < hC1.length ∧ hB4.length ≤ q := fun q hq => ⟨cpC.oi.lt q hq, cpC.fi q hq⟩
      have KC3 : Keep (fun _ => False) hB4 hC3 := KC.trans' kC3 (fun q hq e => by have := fC q e; omega)
      rw [← rows_set hxj] at owC
      have imC : Img hC3 { C with infos := C.infos.set j ⟨ik, ia2, iff, icc + 1⟩ } (.slice (some ⟨kb, 0, none⟩) C.infos.length ciC) (.slice acC C.code.length ccC) (.slice atC texts.length ctC) (.slice apC C.tops.length cp2C) (.slice akC C.cons.length ckC) := by
        refine ⟨?_, (ocC.keep kC3 (fun q hq e => cpC.ic q e hq)).rds, ⟨atC, ctC, by rw [g.nt]⟩, (opC.keep kC3 (fun q hq e => cpC.ip q e hq)).rds, (okC.keep kC3 (fun q hq e => cpC.ik q e hq)).rds⟩
        show Rds hC3 4 _ (C.infos.set j ⟨ik, ia2, iff, icc + 1⟩).length (rowsOf Inf.cells (C.infos.set j ⟨ik, ia2, iff, icc + 1⟩))
        rw [List.length_set]
        exact owC.rds
      have oIC := oIB.keep KC3 (fun e => e)
      have imIC := imIB.keep KC3 (fun _ _ e => e)
      have rtIC := rtIB.keep KC3 (fun _ _ e => e)
      simp only [mach, mach2, mstd, ↓reduceIte, Nat.reduceEqDiff, Nat.reduceAdd, Nat.reduceMul, oIC.cells.lds 0 6 (by simp), mbl, Nat.reduceLeDiff, Nat.reduceLT, Int.reduceEq]
      refine XX_of (rCopy_ok imIC rtIC (by omega) (by omega) (by omega) (by omega) (by omega)) (fun res hD1 hle hn => ?_)
      obtain ⟨wiD, wcD, wtD, wpD, wkD, rfl, cpD⟩ := hn
      refine .ret ?_
      obtain ⟨aiD, ciD, rfl⟩ := row_shape cpD.oi.rds
      obtain ⟨acD, ccD, rfl⟩ := row_shape cpD.oc.rds
      obtain ⟨atD, ctD, rfl⟩ := row_shape cpD.ot.rds
      obtain ⟨apD, cp2D, rfl⟩ := row_shape cpD.op.rds
      obtain ⟨akD, ckD, rfl⟩ := row_shape cpD.ok.rds
      have onD := Own.new hD1 26 hD1.length [.slice none 0 0, .slice none 0 0, .slice none 0 0, .slice none 0 0, iv 0, .slice none 0 0]
      have knD : Keep (fun _ => False) hD1 (hD1 ++ [row 26 hD1.length [.slice none 0 0, .slice none 0 0, .slice none 0 0, .slice none 0 0, iv 0, .slice none 0 0]]) := Keep.push _ _ _
      simp only [mach, mach2, mstd, ↓reduceIte, Nat.reduceEqDiff, Nat.reduceAdd, Nat.reduceMul, mbl, Nat.reduceLeDiff, Nat.reduceLT, Int.reduceEq]
      refine XH_own onD rfl (by simp [Value.cells]) rfl (fun hD2 q1 q2 q3 => ?_)
      have oD : Own hD2 hD1.length 26 [.slice aiD C.infos.length ciD, .slice acD C.code.length ccD, .slice atD texts.length ctD, .slice apD C.tops.length cp2D, iv C.main, .slice akD C.cons.length ckD] := by simpa [Value.cells] using q1
      have lD1 := cpD.kp.len
      have kD : Keep (· = hD1.length) hD1 hD2 := (knD.mono (fun _ e => e.elim)).trans q2
      have lD2 := kD.len
      have bD : hD1.length < hD2.length := oD.lt
      have KD : Keep (fun _ => False) hC3 hD2 := cpD.kp.trans' kD (fun q hq e => by omega)
      have oiD := cpD.oi.keep kD (fun q hq e => by have := cpD.oi.lt q hq; omega)
      have ocD := cpD.oc.keep kD (fun q hq e => by have := cpD.oc.lt q hq; omega)
      have otD := cpD.ot.keep kD (fun q hq e => by have := cpD.ot.lt q hq; omega)
      have opD := cpD.op.keep kD (fun q hq e => by have := cpD.op.lt q hq; omega)
      have okD := cpD.ok.keep kD (fun q hq e => by have := cpD.ok.lt q hq; omega)
      simp only [mach, mach2, mstd, ↓reduceIte, Nat.reduceEqDiff, Nat.reduceAdd, Nat.reduceMul, mbl, Nat.reduceLeDiff, Nat.reduceLT, Int.reduceEq, oD.cells.ld]
      refine XH_own oD rfl (by simp [Value.cells]) rfl (fun hD3 q1 q2 q3 => ?_)
      have oD3 : Own hD3 hD1.length 26 [.slice aiD C.infos.length ciD, .slice acD C.code.length ccD, .slice atD texts.length ctD, .slice apD C.tops.length cp2D, iv C.tops.length, .slice akD C.cons.length ckD] := by simpa [Value.cells] using q1
      have KD3 : Keep (fun _ => False) hC3 hD3 := KD.trans' q2 (fun q hq e => by omega)
      have imD : Img hD3 { C with main := (C.tops.length : Int) } (.slice aiD C.infos.length ciD) (.slice acD C.code.length ccD) (.slice atD texts.length ctD) (.slice apD C.tops.length cp2D) (.slice akD C.cons.length ckD) :=
        ⟨(oiD.keep q2 (fun q hq e => by have := cpD.oi.lt q hq; omega)).rds, (ocD.keep q2 (fun q hq e => by have := cpD.oc.lt q hq; omega)).rds, ⟨atD, ctD, by rw [g.nt]⟩, (opD.keep q2 (fun q hq e => by have := cpD.op.lt q hq; omega)).rds, (okD.keep q2 (fun q hq e => by have := cpD.ok.lt q hq; omega)).rds⟩
      have oA4 := ((oA3.keep KB4 (fun e => e)).keep KC3 (fun e => e)).keep KD3 (fun e => e)
      have imA4 := ((imA.keep KB4 (fun _ _ e => e)).keep KC3 (fun _ _ e => e)).keep KD3 (fun _ _ e => e)
      have oB5 := (oB4.keep KC3 (fun e => e)).keep KD3 (fun e => e)
      have imB5 := (imB.keep KC3 (fun _ _ e => e)).keep KD3 (fun _ _ e => e)
      have oC4 := oC3.keep KD3 (fun e => e)
      have imC4 := imC.keep KD3 (fun _ _ e => e)
      have kAll : Keep (fun _ => False) h hD3 := (((k12.trans KA3).trans KB4).trans KC3).trans KD3
      have eA : ends { C with code := C.code.take (C.code.length - 1) } = none := cut_less he s2
      have eB : ends { C with code := C.code ++ [(1 : Int)] } = none := cut_more he
      have eC : ends { C with infos := C.infos.set j ⟨ik, ia2, iff, icc + 1⟩ } = none := cut_else he hxj (by show icc + 1 ≠ icc; omega)
      have eD : ends { C with main := (C.tops.length : Int) } = none := ends_main (Int.le_refl _)
      have z1 := g.z.tops
      have z2 := g.z.cons
      simp only [mach, mach2, mstd, ↓reduceIte, Nat.reduceEqDiff, Nat.reduceAdd, Nat.reduceMul, mbl, Nat.reduceLeDiff, Nat.reduceLT, Int.reduceEq, oA4.cells.lds 0 6 (by simp)]
      refine XX_of (Check_ok (C := { C with code := C.code.take (C.code.length - 1) }) imA4 ⟨g.z.infos, by show (C.code.take (C.code.length - 1)).length ≤ _; rw [List.length_take]; omega, z1, z2⟩) (fun res e1 hle hn => ?_)
      obtain ⟨x1, rfl⟩ := hn
      refine .ret ?_
      have oB6 := oB5.keep x1 (fun e => e)
      have imB6 := imB5.keep x1 (fun _ _ e => e)
      simp only [mach, mach2, mstd, ↓reduceIte, Nat.reduceEqDiff, Nat.reduceAdd, Nat.reduceMul, mbl, Nat.reduceLeDiff, Nat.reduceLT, Int.reduceEq, oB6.cells.lds 0 6 (by simp)]
      refine XX_of (Check_ok (C := { C with code := C.code ++ [(1 : Int)] }) imB6 ⟨g.z.infos, by show (C.code ++ [(1 : Int)]).length ≤ _; simp; omega, z1, z2⟩) (fun res e2 hle hn => ?_)
      obtain ⟨x2, rfl⟩ := hn
      refine .ret ?_
      have oC6 := (oC4.keep x1 (fun e => e)).keep x2 (fun e => e)
      have imC6 := (imC4.keep x1 (fun _ _ e => e)).keep x2 (fun _ _ e => e)
      simp only [mach, mach2, mstd, ↓reduceIte, Nat.reduceEqDiff, Nat.reduceAdd, Nat.reduceMul, mbl, Nat.reduceLeDiff, Nat.reduceLT, Int.reduceEq, oC6.cells.lds 0 6 (by simp)]
      refine XX_of (Check_ok (C := { C with infos := C.infos.set j ⟨ik, ia2, iff, icc + 1⟩ }) imC6 ⟨by show (C.infos.set j _).length ≤ _; rw [List.length_set]; exact g.z.infos, g.cl, z1, z2⟩) (fun res e3 hle hn => ?_)
      obtain ⟨x3, rfl⟩ := hn
      refine .ret ?_
      have oD6 := ((oD3.keep x1 (fun e => e)).keep x2 (fun e => e)).keep x3 (fun e => e)
      have imD6 := ((imD.keep x1 (fun _ _ e => e)).keep x2 (fun _ _ e => e)).keep x3 (fun _ _ e => e)
      simp only [mach, mach2, mstd, ↓reduceIte, Nat.reduceEqDiff, Nat.reduceAdd, Nat.reduceMul, mbl, Nat.reduceLeDiff, Nat.reduceLT, Int.reduceEq, oD6.cells.lds 0 6 (by simp)]
      refine XX_of (Check_ok (C := { C with main := (C.tops.length : Int) }) imD6 ⟨g.z.infos, g.cl, z1, z2⟩) (fun res e4 hle hn => ?_)
      obtain ⟨x4, rfl⟩ := hn
      refine .ret ?_
      simp only [mach, mach2, mstd, ↓reduceIte, Nat.reduceEqDiff, Nat.reduceAdd, Nat.reduceMul, mbl, Nat.reduceLeDiff, Nat.reduceLT, Int.reduceEq, eA, eB, eC, eD, Option.isSome_none]
      exact hΨ _ _ (fin_ret (rv1 rfl ⟨(((kAll.trans x1).trans x2).trans x3).trans x4, rfl⟩))
end
end Go.S16
