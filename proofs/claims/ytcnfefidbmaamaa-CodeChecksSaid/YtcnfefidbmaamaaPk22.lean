import Derived.Test.YtcnfefidbmaamaaPk21
import Derived.Test.YtcnfefidbmaamaaPk17
import Derived.Test.YtcnfefidbmaamaaPk14
import Derived.Test.YtcnfefidbmaamaaPk15
/- Images that are given; two rows of numbers held against each other; a fixed call; Checks, the walk. -/
set_option linter.unusedVariables false
set_option linter.unusedSimpArgs false
namespace Go.S16
open Go Go.Eng Go.Proofs Go.Chk

theorem sameI_ok (xs : List Int) (h : AH) (u v : Value) (hu : Rds h 1 u xs.length (ns xs)) (hv : Rds h 1 v xs.length (ns xs)) (hl : xs.length ≤ 9223372036854775807) : Gets Try.prog 10 [u, v] h (fun res h' => h' = h ∧ res = .ret (.bool true)) := by
  refine Gets.of (keep := false) hP (draw_ok hM) k10 (by rfl) (fun Ψ hΨ => ?_)
  obtain ⟨ua, uc, rfl⟩ := row_shape hu
  obtain ⟨va, vc, rfl⟩ := row_shape hv
  simp only [mach, mach2, mstd, ↓reduceIte, Nat.reduceEqDiff, Nat.reduceAdd, Nat.reduceMul, r10]
  refine XLo_rule (α := Nat) (fun i => [(0, .slice ua xs.length uc), (1, .slice va xs.length vc), (5, iv i)]) (fun i h' => h' = h ∧ i ≤ xs.length) (fun i => xs.length - i) 0 ⟨rfl, Nat.zero_le _⟩ ⟨rfl, rfl, rfl, trivial⟩ ?_
  rintro i h1 Ψ2 ⟨rfl, hi⟩ next out
  by_cases hlt : (i : Int) < (xs.length : Int)
  · have hil : i < xs.length := by omega
    have g0 : (0 : Int) ≤ (i : Int) := by omega
    have hx : xs[(i : Int).toNat]? = some xs[i] := by rw [Int.toNat_natCast]; exact List.getElem?_eq_getElem hil
    obtain ⟨b1, o1, c1, e1, _, l1⟩ := rds_ix hu g0 hx
    obtain ⟨b2, o2, c2, e2, _, l2⟩ := rds_ix hv g0 hx
    rw [Int.toNat_natCast] at l1 l2
    cases e1; cases e2
    have hw : IntKind.i64.wrap ((i : Int) + 1) = ((i + 1 : Nat) : Int) := by rw [i64w (by omega) (by omega)]; omega
    simp only [mach, mach2, mstd, ↓reduceIte, Nat.reduceEqDiff, Nat.reduceAdd, Nat.reduceMul, hlt, g0, and_self, Int.toNat_natCast, Nat.mul_one, l1, l2, ct1, hw]
    exact next (i + 1) _ _ _ ⟨rfl, by omega⟩ ⟨rfl, rfl, rfl, trivial⟩ (by omega)
  · simp only [mach, mach2, mstd, ↓reduceIte, Nat.reduceEqDiff, Nat.reduceAdd, Nat.reduceMul, hlt]
    refine out (.exit 0) _ _ _ _ (by intro e; cases e) ?_
    simp only [mach, mach2, mstd, ↓reduceIte, Nat.reduceEqDiff, Nat.reduceAdd, Nat.reduceMul]
    exact hΨ _ _ (fin_ret (rv1 rfl ⟨rfl, rfl⟩))

theorem wakes_ok (h : AH) : Gets Try.prog 6 [] h (fun res h' => h' = h ∧ res = .ret (.bool true)) :=
  closed_getsL (n := 100) (fuel := 1000) (keep := fun _ => false) hP hM (by kernel_rfl) h

/-! ### What is given -/
noncomputable def fsOf (t : TypeId) : Array Field := match Try.prog.underlying t with
  | some (.struct fs) => fs
  | _ => #[]
theorem u_img : Try.prog.underlying 26 = some (.struct (fsOf 26)) := by kernel_rfl
theorem u_inf : Try.prog.underlying 44 = some (.struct (fsOf 44)) := by kernel_rfl
theorem f_img : ((fsOf 26).map fun f => (f.type, f.offset)).toList = [(22, 0), (23, 1), (24, 2), (23, 3), (3, 4), (23, 5)] := by kernel_rfl
theorem f_inf : ((fsOf 44).map fun f => (f.type, f.offset)).toList = [(3, 0), (3, 1), (3, 2), (3, 3)] := by kernel_rfl
theorem u_infs : Try.prog.underlying 22 = some (.slice 44) := by kernel_rfl
theorem u_ints : Try.prog.underlying 23 = some (.slice 3) := by kernel_rfl
theorem u_strs : Try.prog.underlying 24 = some (.slice 9) := by kernel_rfl
theorem u_str : Try.prog.underlying 9 = some .string := by kernel_rfl
theorem u_int : Try.prog.underlying 3 = some (.int .i64) := by kernel_rfl
theorem c_img : Try.prog.cellsOf 26 = 6 := by kernel_rfl
theorem c_inf : Try.prog.cellsOf 44 = 4 := by kernel_rfl
theorem c_int : Try.prog.cellsOf 3 = 1 := by kernel_rfl
theorem c_infs : Try.prog.cellsOf 22 = 1 := by kernel_rfl
theorem c_ints : Try.prog.cellsOf 23 = 1 := by kernel_rfl
theorem c_strs : Try.prog.cellsOf 24 = 1 := by kernel_rfl
theorem len4 {α : Type} {l : List α} (h : l.length = 4) : ∃ a b c e, l = [a, b, c, e] := by
  match l, h with
  | [a, b, c, e], _ => exact ⟨a, b, c, e, rfl⟩
theorem len6 {α : Type} {l : List α} (h : l.length = 6) : ∃ a b c e f g, l = [a, b, c, e, f, g] := by
  match l, h with
  | [a, b, c, e, f, g], _ => exact ⟨a, b, c, e, f, g, rfl⟩
/-- Texts as cells. -/
def sts (l : List ByteArray) : List Value := l.map Value.string

section
variable {H : Type} {h : AH} {N : Nat}
theorem sl_max {t e : TypeId} {v : Value} {d : DataW H} (hu : Try.prog.underlying t = some (.slice e)) (hr : Rd' Try.prog h t [v] d) : ∃ a n c, v = .slice a n c ∧ n ≤ 9223372036854775807 := by
  generalize hc : [v] = cs at hr
  cases hr with
  | bool h' => rw [hu] at h'; cases h'
  | int h' => rw [hu] at h'; cases h'
  | str h' => rw [hu] at h'; cases h'
  | snil h' => cases hc; exact ⟨_, _, _, rfl, by omega⟩
  | sempty h' => cases hc; exact ⟨_, _, _, rfl, by omega⟩
  | slice h' hcell hel hn hd hm hsz each => cases hc; exact ⟨_, _, _, rfl, hm⟩
  | struct h' => rw [hu] at h'; cases h'
  | array h' => rw [hu] at h'; cases h'
theorem rds_max {t e : TypeId} {v : Value} {d : DataW H} {k n : Nat} {cs : List Value} (hu : Try.prog.underlying t = some (.slice e)) (hr : Rd' Try.prog h t [v] d) (hs : Rds h k v n cs) : n ≤ 9223372036854775807 := by
  obtain ⟨a, m, c, e1, h1⟩ := sl_max hu hr
  obtain ⟨a', c', e2⟩ := row_shape hs
  rw [e1] at e2; cases e2; exact h1
theorem ints_of (B : Bulk H) {v : Value} {d : DataW H} (hr : Rd' Try.prog h 23 [v] d) (hB : B.f d ≤ N) : ∃ ys : List Int, Rds h 1 v ys.length (ns ys) ∧ (∀ y ∈ ys, rng y) ∧ ys.length ≤ N := by
  obtain ⟨ys, a, b, c⟩ := rdRow B (f := fun x : Int => [iv x]) (Q := rng) u_ints (fun x => rfl) (fun cs d' r _ => by obtain ⟨w, e, g⟩ := rdI u_int r; exact ⟨w, e, g⟩) hr hB
  refine ⟨ys, ?_, b, c⟩
  have : ns ys = ys.flatMap fun x => [iv x] := by
    clear a b c
    induction ys with
    | nil => rfl
    | cons y ys ih => simp only [ns, List.map_cons, List.flatMap_cons] at ih ⊢; rw [ih]; rfl
  rw [this]; exact a
theorem texts_of (B : Bulk H) {v : Value} {d : DataW H} (hr : Rd' Try.prog h 24 [v] d) (hB : B.f d ≤ N) : ∃ ys : List ByteArray, Rds h 1 v ys.length (sts ys) ∧ (∀ y ∈ ys, y.size ≤ N) ∧ ys.length ≤ N := by
  obtain ⟨ys, a, b, c⟩ := rdRow B (f := fun x : ByteArray => [Value.string x]) (Q := fun y => y.size ≤ N) u_strs (fun x => rfl) (fun cs d' r hb => by obtain ⟨w, e, g⟩ := rdS B u_str r; exact ⟨w, e, Nat.le_trans g hb⟩) hr hB
  refine ⟨ys, ?_, b, c⟩
  have : sts ys = ys.flatMap fun x => [Value.string x] := by
    clear a b c
    induction ys with
    | nil => rfl
    | cons y ys ih => simp only [sts, List.map_cons, List.flatMap_cons] at ih ⊢; rw [ih]; rfl
  rw [this]; exact a
theorem inf_of (B : Bulk H) {cs : List Value} {d : DataW H} (hr : Rd' Try.prog h 44 cs d) : ∃ w : Inf, cs = ns w.cells ∧ rng w.k ∧ rng w.a ∧ rng w.f ∧ rng w.c := by
  obtain ⟨hl, hf⟩ := rdT B u_inf f_inf hr
  rw [c_inf] at hl
  obtain ⟨a, b, c, e, rfl⟩ := len4 hl
  obtain ⟨d0, r0, _⟩ := hf 0 _ _ rfl
  obtain ⟨d1, r1, _⟩ := hf 1 _ _ rfl
  obtain ⟨d2, r2, _⟩ := hf 2 _ _ rfl
  obtain ⟨d3, r3, _⟩ := hf 3 _ _ rfl
  rw [c_int] at r0 r1 r2 r3
  obtain ⟨n0, e0, g0⟩ := rdI u_int r0
  obtain ⟨n1, e1, g1⟩ := rdI u_int r1
  obtain ⟨n2, e2, g2⟩ := rdI u_int r2
  obtain ⟨n3, e3, g3⟩ := rdI u_int r3
  simp at e0 e1 e2 e3
  subst e0; subst e1; subst e2; subst e3
  exact ⟨⟨n0, n1, n2, n3⟩, rfl, g0, g1, g2, g3⟩
theorem infs_of (B : Bulk H) {v : Value} {d : DataW H} (hr : Rd' Try.prog h 22 [v] d) (hB : B.f d ≤ N) : ∃ ys : List Inf, Rds h 4 v ys.length (rowsOf Inf.cells ys) ∧ (∀ w ∈ ys, rng w.k ∧ rng w.a ∧ rng w.f ∧ rng w.c) ∧ ys.length ≤ N :=
  rdRow B (f := fun x : Inf => ns x.cells) (Q := fun w => rng w.k ∧ rng w.a ∧ rng w.f ∧ rng w.c) u_infs (fun x => rfl) (fun cs d' r _ => by obtain ⟨w, e, g⟩ := inf_of B r; exact ⟨w, e, g⟩) hr hB
/-- An image that is given. -/
structure Given (h : AH) (N : Nat) (C : Cx) (texts : List ByteArray) (vi vc vt vp vk : Value) : Prop where
  im : Img h C vi vc vt vp vk
  z : Sz C
  cl : C.code.length ≤ 9223372036854775807
  rt : Rds h 1 vt texts.length (sts texts)
  nt : C.nt = texts.length
  li : C.infos.length ≤ N
  lc : C.code.length ≤ N
  lp : C.tops.length ≤ N
  lk : C.cons.length ≤ N
  lt : texts.length ≤ N
  gi : ∀ w ∈ C.infos, rng w.k ∧ rng w.a ∧ rng w.f ∧ rng w.c
theorem image_of (B : Bulk H) {cs : List Value} {d : DataW H} (hr : Rd' Try.prog h 26 cs d) (hB : B.f d ≤ N) : ∃ C texts vi vc vt vp vk, cs = [vi, vc, vt, vp, iv C.main, vk] ∧ Given h N C texts vi vc vt vp vk := by
  obtain ⟨hl, hf⟩ := rdT B u_img f_img hr
  rw [c_img] at hl
  obtain ⟨a, b, c, e, f, g, rfl⟩ := len6 hl
  obtain ⟨d0, r0, b0⟩ := hf 0 _ _ rfl
  obtain ⟨d1, r1, b1⟩ := hf 1 _ _ rfl
  obtain ⟨d2, r2, b2⟩ := hf 2 _ _ rfl
  obtain ⟨d3, r3, b3⟩ := hf 3 _ _ rfl
  obtain ⟨d4, r4, b4⟩ := hf 4 _ _ rfl
  obtain ⟨d5, r5, b5⟩ := hf 5 _ _ rfl
  rw [c_infs] at r0
  rw [c_ints] at r1 r3 r5
  rw [c_strs] at r2
  rw [c_int] at r4
  have q0 : Rd' Try.prog h 22 [a] d0 := by simpa using r0
  have q1 : Rd' Try.prog h 23 [b] d1 := by simpa using r1
  have q2 : Rd' Try.prog h 24 [c] d2 := by simpa using r2
  have q3 : Rd' Try.prog h 23 [e] d3 := by simpa using r3
  have q5 : Rd' Try.prog h 23 [g] d5 := by simpa using r5
  obtain ⟨is, i1, i2, i3⟩ := infs_of B (v := a) (N := N) q0 (by omega)
  obtain ⟨co, c1, c2, c3⟩ := ints_of B (v := b) (N := N) q1 (by omega)
  obtain ⟨tx, t1, t2, t3⟩ := texts_of B (v := c) (N := N) q2 (by omega)
  obtain ⟨tp, p1, p2, p3⟩ := ints_of B (v := e) (N := N) q3 (by omega)
  obtain ⟨m, e4, _⟩ := rdI u_int r4
  obtain ⟨ks, k1, k2, k3⟩ := ints_of B (v := g) (N := N) q5 (by omega)
  simp at e4
  subst e4
  obtain ⟨ta, tc, ht⟩ := row_shape t1
  exact ⟨⟨is, co, tx.length, tp, m, ks⟩, tx, a, b, c, e, g, rfl, ⟨i1, c1, ⟨ta, tc, ht⟩, p1, k1⟩, ⟨rds_max u_ints q3 p1, rds_max u_ints q5 k1, rds_max u_infs q0 i1, rds_max u_strs q2 t1⟩, rds_max u_ints q1 c1, t1, rfl, i3, c3, p3, k3, t3, i2⟩
end

/-! ### Checks -/
section
variable {h : AH} {N : Nat} {C : Cx} {texts : List ByteArray} {vi vc vt vp vk : Value}
theorem Given.fits (g : Given h N C texts vi vc vt vp vk) : Cx.fits C := ⟨g.z.infos, g.cl, g.z.tops, g.z.cons⟩
theorem Given.fr (g : Given h N C texts vi vc vt vp vk) : ∀ x ∈ C.infos, x.f ≤ 9223372036854775807 := fun x hx => (g.gi x hx).2.2.1.2
theorem CodeChecks_ok (g : Given h N C texts vi vc vt vp vk) : Gets Try.prog 3 [.agg #[vi, vc, vt, vp, iv C.main, vk]] h (fun res h' => Keep (fun _ => False) h h' ∧ res = .ret (.bool true)) := by
  refine Gets.of (keep := false) hP (draw_ok hM) k3 (by rfl) (fun Ψ hΨ => ?_)
  have oI := Own.new h 26 h.length [vi, vc, vt, vp, iv C.main, vk]
  have kp1 : Keep (fun _ => False) h (h ++ [row 26 h.length [vi, vc, vt, vp, iv C.main, vk]]) := Keep.push _ _ _
  simp only [mach, mach2, mstd, ↓reduceIte, Nat.reduceEqDiff, Nat.reduceAdd, Nat.reduceMul, r3, mbl, Nat.reduceLeDiff, Nat.reduceLT, Int.reduceEq]
  generalize hh1 : h ++ [row 26 h.length [vi, vc, vt, vp, iv C.main, vk]] = h1 at oI kp1 ⊢
  have im1 := g.im.keep kp1 (fun _ _ e => e)
  refine XX_val (wakes_ok h1) ?_
  simp only [mach, mach2, mstd, ↓reduceIte, Nat.reduceEqDiff, Nat.reduceAdd, Nat.reduceMul, oI.cells.lds 0 6 (by simp), mbl, Nat.reduceLeDiff, Nat.reduceLT, Int.reduceEq]
  refine XX_of (Check_ok im1 g.fits) (fun res h2 hle hn => ?_)
  obtain ⟨k2, rfl⟩ := hn
  refine .ret ?_
  have oI2 := oI.keep k2 (fun e => e)
  have im2 := im1.keep k2 (fun _ _ e => e)
  simp only [mach, mach2, mstd, ↓reduceIte, Nat.reduceEqDiff, Nat.reduceAdd, Nat.reduceMul, oI2.cells.lds 0 6 (by simp), mbl, Nat.reduceLeDiff, Nat.reduceLT, Int.reduceEq]
  refine XX_of (Ends_ok im2 g.fits) (fun res h3 hle hn => ?_)
  obtain ⟨k3, hn⟩ := hn
  have oI3 := oI2.keep k3 (fun e => e)
  have im3 := im2.keep k3 (fun _ _ e => e)
  have k13 := (kp1.trans k2).trans k3
  cases he : ends C with
  | none =>
    rw [he] at hn
    obtain rfl := hn
    refine .ret ?_
    simp only [mach, mach2, mstd, ↓reduceIte, Nat.reduceEqDiff, Nat.reduceAdd, Nat.reduceMul, oI3.cells.lds 0 6 (by simp), mbl, Nat.reduceLeDiff, Nat.reduceLT, Int.reduceEq]
    refine XX_of (rEnds_ok im3 g.z g.fr g.cl) (fun res h4 hle hn => ?_)
    obtain ⟨k4, hn⟩ := hn
    rw [he] at hn
    obtain rfl := hn
    refine .ret ?_
    simp only [mach, mach2, mstd, ↓reduceIte, Nat.reduceEqDiff, Nat.reduceAdd, Nat.reduceMul, mbl, Nat.reduceLeDiff, Nat.reduceLT, Int.reduceEq, he, Option.isSome_none]
    refine XX_of (sameI_ok [] h4 (.slice none 0 0) (.slice none 0 0) .nil .nil (by simp)) (fun res h5 hle hn => ?_)
    obtain ⟨rfl, rfl⟩ := hn
    refine .ret ?_
    simp only [mach, mach2, mstd, ↓reduceIte, Nat.reduceEqDiff, Nat.reduceAdd, Nat.reduceMul, mbl, Nat.reduceLeDiff, Nat.reduceLT, Int.reduceEq]
    exact hΨ _ _ (fin_ret (rv1 rfl ⟨k13.trans k4, rfl⟩))
  | some l =>
    rw [he] at hn
    obtain ⟨v, rfl, ow, fr⟩ := hn
    refine .ret ?_
    simp only [mach, mach2, mstd, ↓reduceIte, Nat.reduceEqDiff, Nat.reduceAdd, Nat.reduceMul, oI3.cells.lds 0 6 (by simp), mbl, Nat.reduceLeDiff, Nat.reduceLT, Int.reduceEq]
    refine XX_of (rEnds_ok im3 g.z g.fr g.cl) (fun res h4 hle hn => ?_)
    obtain ⟨k4, hn⟩ := hn
    rw [he] at hn
    obtain ⟨v', rfl, ow', fr'⟩ := hn
    refine .ret ?_
    have r1 := (ow.keep k4 (fun _ _ e => e)).rds
    have r2 := ow'.rds
    rw [show l.length = (l.map Int.ofNat).length by simp] at r1 r2
    have hll : (l.map Int.ofNat).length ≤ 9223372036854775807 := by
      have : l.length = C.infos.length := blocks_len _ (ends_blocks he).2
      have := g.z.infos
      simp only [List.length_map]
      omega
    simp only [mach, mach2, mstd, ↓reduceIte, Nat.reduceEqDiff, Nat.reduceAdd, Nat.reduceMul, mbl, Nat.reduceLeDiff, Nat.reduceLT, Int.reduceEq, he, Option.isSome_some]
    refine XX_of (sameI_ok (l.map Int.ofNat) h4 v v' r1 r2 hll) (fun res h5 hle hn => ?_)
    obtain ⟨rfl, rfl⟩ := hn
    refine .ret ?_
    simp only [mach, mach2, mstd, ↓reduceIte, Nat.reduceEqDiff, Nat.reduceAdd, Nat.reduceMul, mbl, Nat.reduceLeDiff, Nat.reduceLT, Int.reduceEq]
    exact hΨ _ _ (fin_ret (rv1 rfl ⟨k13.trans k4, rfl⟩))
end
end Go.S16
