/- Layer 2: the document's space of numbers, its functions. -/
import Derived.Test.YtoojhjhamhkmjaaLW02
set_option linter.unusedVariables false
set_option linter.unusedSimpArgs false
namespace Go.S02
open Go Go.Eng Go.Proofs

/-- The document's space. -/
structure Rsp (h : AH) (b : Nat) (size side : Int) (vn vo : Value) (xn xo : List Int) : Prop where
  own : Own h b 69 [iv size, iv side, vn, vo]
  rn : Ows h 3 1 vn xn.length (ns xn)
  ro : Ows h 3 1 vo xo.length (ns xo)
  d : ∀ q, bk vn q → ¬ bk vo q
  dn : ∀ q, bk vn q → q ≠ b
  do' : ∀ q, bk vo q → q ≠ b
  sd : side = 0 ∨ side = 1
  sz : 0 ≤ size ∧ size ≤ 1048576
  ln : (xn.length : Int) ≤ size
  lo : (xo.length : Int) ≤ size

theorem Rsp.keep {S : Nat → Prop} {h h' : AH} {b : Nat} {size side : Int} {vn vo : Value} {xn xo : List Int} (s : Rsp h b size side vn vo xn xo) (k : Keep S h h') (hs : ∀ q, Owns b vn vo q → ¬ S q) : Rsp h' b size side vn vo xn xo :=
  ⟨s.own.keep k (hs _ (.inl rfl)), s.rn.keep k (fun q hq => hs q (.inr (.inl hq))), s.ro.keep k (fun q hq => hs q (.inr (.inr hq))), s.d, s.dn, s.do', s.sd, s.sz, s.ln, s.lo⟩

theorem rnew_ok (size : Int) (h : AH) : Gets Try.prog 20 [iv size] h (fun res h' => if 0 ≤ size ∧ size ≤ 1048576 then res = .ret (.tuple #[.pointer (some ⟨h.length, 0, none⟩), iv 0]) ∧ h' = h ++ [row 69 h.length [iv size, iv 0, .slice none 0 0, .slice none 0 0]] else res = .ret (.tuple #[.pointer none, iv 1]) ∧ h' = h) := by
  refine Gets.of (keep := false) hP (draw_ok hM) k20 (by rfl) (fun Ψ hΨ => ?_)
  by_cases h0 : size < 0
  · simp only [mach, ↓reduceIte, Nat.reduceEqDiff, Nat.reduceAdd, Nat.reduceMul, Nat.add_zero, Nat.zero_add, decide_true, decide_false, Bool.not_true, Bool.not_false, Bool.false_eq_true, List.nil_append, List.append_nil, List.contains_nil, r20, h0]
    refine hΨ _ _ (fin_ret (rv2 rfl rfl ?_))
    rw [if_neg (by omega)]; exact ⟨rfl, rfl⟩
  · by_cases h1 : (1048576 : Int) < size
    · simp only [mach, ↓reduceIte, Nat.reduceEqDiff, Nat.reduceAdd, Nat.reduceMul, Nat.add_zero, Nat.zero_add, decide_true, decide_false, Bool.not_true, Bool.not_false, Bool.false_eq_true, List.nil_append, List.append_nil, List.contains_nil, r20, h0, h1]
      refine hΨ _ _ (fin_ret (rv2 rfl rfl ?_))
      rw [if_neg (by omega)]; exact ⟨rfl, rfl⟩
    · simp only [mach, ↓reduceIte, Nat.reduceEqDiff, Nat.reduceAdd, Nat.reduceMul, Nat.add_zero, Nat.zero_add, decide_true, decide_false, Bool.not_true, Bool.not_false, Bool.false_eq_true, List.nil_append, List.append_nil, List.contains_nil, r20, h0, h1, vc_int, vc_bool, vc_str, vc_ptr, vc_sl, vc_map, vc_if, vc_ni, vc_nf, vc_fn, vc_agg, vs1, vl1, vsl, vll, bldv_nil, bldv_cons, lt0, lts, ld0, lds, ldn, lac, lln, llc, lg0, lgs, Nat.reduceLeDiff, true_and, and_true, and_self, Nat.reduceLT, Int.reduceEq]
      refine hΨ _ _ (fin_ret (rv2 rfl rfl ?_))
      rw [if_pos (by omega)]; exact ⟨rfl, rfl⟩

theorem rnew_spc (h : AH) (size : Int) (hs : 0 ≤ size ∧ size ≤ 1048576) : Rsp (h ++ [row 69 h.length [iv size, iv 0, .slice none 0 0, .slice none 0 0]]) h.length size 0 (.slice none 0 0) (.slice none 0 0) [] [] :=
  ⟨Own.new h 69 _ _, .nil, .nil, fun q e => e.elim, fun q e => e.elim, fun q e => e.elim, .inl rfl, hs, by simpa using hs.1, by simpa using hs.1⟩

section
variable {h : AH} {b : Nat} {size side : Int} {vn vo : Value} {xn xo : List Int}

theorem rUsed_ok (s : Rsp h b size side vn vo xn xo) : Gets Try.prog 28 [.pointer (some ⟨b, 0, none⟩)] h (fun res h' => h' = h ∧ res = .ret (iv xn.length)) := by
  refine Gets.of (keep := false) hP (draw_ok hM) k28 (by rfl) (fun Ψ hΨ => ?_)
  obtain ⟨a0, c0, hv0⟩ := shape s.rn.rds
  simp only [mach, ↓reduceIte, Nat.reduceEqDiff, Nat.reduceAdd, Nat.reduceMul, Nat.add_zero, Nat.zero_add, decide_true, decide_false, Bool.not_true, Bool.not_false, Bool.false_eq_true, List.nil_append, List.append_nil, List.contains_nil, r28, s.own.cells.ld, vc_int, vc_bool, vc_str, vc_ptr, vc_sl, vc_map, vc_if, vc_ni, vc_nf, vc_fn, vc_agg, vs1, vl1, vsl, vll, bldv_nil, bldv_cons, lt0, lts, ld0, lds, ldn, lac, lln, llc, lg0, lgs, Nat.reduceLeDiff, true_and, and_true, and_self, Nat.reduceLT, Int.reduceEq, a20, a21, z0, z1, w10, w11, hv0]
  exact hΨ _ _ (fin_ret (rv1 rfl ⟨rfl, by simp [tup]⟩))
theorem rSize_ok (s : Rsp h b size side vn vo xn xo) : Gets Try.prog 29 [.pointer (some ⟨b, 0, none⟩)] h (fun res h' => h' = h ∧ res = .ret (iv size)) := by
  refine Gets.of (keep := false) hP (draw_ok hM) k29 (by rfl) (fun Ψ hΨ => ?_)
  simp only [mach, ↓reduceIte, Nat.reduceEqDiff, Nat.reduceAdd, Nat.reduceMul, Nat.add_zero, Nat.zero_add, decide_true, decide_false, Bool.not_true, Bool.not_false, Bool.false_eq_true, List.nil_append, List.append_nil, List.contains_nil, r29, s.own.cells.ld, vc_int, vc_bool, vc_str, vc_ptr, vc_sl, vc_map, vc_if, vc_ni, vc_nf, vc_fn, vc_agg, vs1, vl1, vsl, vll, bldv_nil, bldv_cons, lt0, lts, ld0, lds, ldn, lac, lln, llc, lg0, lgs, Nat.reduceLeDiff, true_and, and_true, and_self, Nat.reduceLT, Int.reduceEq, a20, a21, z0, z1, w10, w11]
  exact hΨ _ _ (fin_ret (rv1 rfl ⟨rfl, rfl⟩))
theorem rSide_ok (s : Rsp h b size side vn vo xn xo) : Gets Try.prog 30 [.pointer (some ⟨b, 0, none⟩)] h (fun res h' => h' = h ∧ res = .ret (iv side)) := by
  refine Gets.of (keep := false) hP (draw_ok hM) k30 (by rfl) (fun Ψ hΨ => ?_)
  simp only [mach, ↓reduceIte, Nat.reduceEqDiff, Nat.reduceAdd, Nat.reduceMul, Nat.add_zero, Nat.zero_add, decide_true, decide_false, Bool.not_true, Bool.not_false, Bool.false_eq_true, List.nil_append, List.append_nil, List.contains_nil, r30, s.own.cells.ld, vc_int, vc_bool, vc_str, vc_ptr, vc_sl, vc_map, vc_if, vc_ni, vc_nf, vc_fn, vc_agg, vs1, vl1, vsl, vll, bldv_nil, bldv_cons, lt0, lts, ld0, lds, ldn, lac, lln, llc, lg0, lgs, Nat.reduceLeDiff, true_and, and_true, and_self, Nat.reduceLT, Int.reduceEq, a20, a21, z0, z1, w10, w11]
  exact hΨ _ _ (fin_ret (rv1 rfl ⟨rfl, rfl⟩))

theorem rGet_ok (s : Rsp h b size side vn vo xn xo) (at' : Int) : Gets Try.prog 22 [.pointer (some ⟨b, 0, none⟩), iv at'] h (fun res h' => h' = h ∧ res = .ret (.tuple (lk xn at'))) := by
  refine Gets.of (keep := false) hP (draw_ok hM) k22 (by rfl) (fun Ψ hΨ => ?_)
  have hr := s.rn.rds
  obtain ⟨a0, c0, hv0⟩ := shape hr
  by_cases h0 : at' < 0
  · simp only [mach, ↓reduceIte, Nat.reduceEqDiff, Nat.reduceAdd, Nat.reduceMul, Nat.add_zero, Nat.zero_add, decide_true, decide_false, Bool.not_true, Bool.not_false, Bool.false_eq_true, List.nil_append, List.append_nil, List.contains_nil, r22, s.own.cells.ld, vc_int, vc_bool, vc_str, vc_ptr, vc_sl, vc_map, vc_if, vc_ni, vc_nf, vc_fn, vc_agg, vs1, vl1, vsl, vll, bldv_nil, bldv_cons, lt0, lts, ld0, lds, ldn, lac, lln, llc, lg0, lgs, Nat.reduceLeDiff, true_and, and_true, and_self, Nat.reduceLT, Int.reduceEq, a20, a21, z0, z1, w10, w11, h0]
    refine hΨ _ _ (fin_ret (rv2 rfl rfl ⟨rfl, ?_⟩))
    unfold lk; rw [if_neg (by omega)]; rfl
  · by_cases h1 : (xn.length : Int) ≤ at'
    · simp only [mach, ↓reduceIte, Nat.reduceEqDiff, Nat.reduceAdd, Nat.reduceMul, Nat.add_zero, Nat.zero_add, decide_true, decide_false, Bool.not_true, Bool.not_false, Bool.false_eq_true, List.nil_append, List.append_nil, List.contains_nil, r22, s.own.cells.ld, vc_int, vc_bool, vc_str, vc_ptr, vc_sl, vc_map, vc_if, vc_ni, vc_nf, vc_fn, vc_agg, vs1, vl1, vsl, vll, bldv_nil, bldv_cons, lt0, lts, ld0, lds, ldn, lac, lln, llc, lg0, lgs, Nat.reduceLeDiff, true_and, and_true, and_self, Nat.reduceLT, Int.reduceEq, a20, a21, z0, z1, w10, w11, h0, hv0, h1]
      refine hΨ _ _ (fin_ret (rv2 rfl rfl ⟨rfl, ?_⟩))
      unfold lk; rw [if_neg (by omega)]; rfl
    · obtain ⟨x, hx⟩ : ∃ x, xn[at'.toNat]? = some x := ⟨_, List.getElem?_eq_getElem (by omega)⟩
      have hin : 0 ≤ at' ∧ at' < xn.length := by omega
      obtain ⟨b1, o1, c1, e1, _, hld1⟩ := rds_ix hr (by omega) hx
      simp only [mach, ↓reduceIte, Nat.reduceEqDiff, Nat.reduceAdd, Nat.reduceMul, Nat.add_zero, Nat.zero_add, decide_true, decide_false, Bool.not_true, Bool.not_false, Bool.false_eq_true, List.nil_append, List.append_nil, List.contains_nil, r22, s.own.cells.ld, vc_int, vc_bool, vc_str, vc_ptr, vc_sl, vc_map, vc_if, vc_ni, vc_nf, vc_fn, vc_agg, vs1, vl1, vsl, vll, bldv_nil, bldv_cons, lt0, lts, ld0, lds, ldn, lac, lln, llc, lg0, lgs, Nat.reduceLeDiff, true_and, and_true, and_self, Nat.reduceLT, Int.reduceEq, a20, a21, z0, z1, w10, w11, h0, e1, h1, hin, and_self, hld1, Nat.mul_one]
      refine hΨ _ _ (fin_ret (rv2 rfl rfl ⟨rfl, ?_⟩))
      unfold lk; rw [if_pos hin, hx]; rfl

theorem rOld_ok (s : Rsp h b size side vn vo xn xo) (at' : Int) : Gets Try.prog 26 [.pointer (some ⟨b, 0, none⟩), iv at'] h (fun res h' => h' = h ∧ res = .ret (.tuple (lk xo at'))) := by
  refine Gets.of (keep := false) hP (draw_ok hM) k26 (by rfl) (fun Ψ hΨ => ?_)
  have hr := s.ro.rds
  obtain ⟨a0, c0, hv0⟩ := shape hr
  by_cases h0 : at' < 0
  · simp only [mach, ↓reduceIte, Nat.reduceEqDiff, Nat.reduceAdd, Nat.reduceMul, Nat.add_zero, Nat.zero_add, decide_true, decide_false, Bool.not_true, Bool.not_false, Bool.false_eq_true, List.nil_append, List.append_nil, List.contains_nil, r26, s.own.cells.ld, vc_int, vc_bool, vc_str, vc_ptr, vc_sl, vc_map, vc_if, vc_ni, vc_nf, vc_fn, vc_agg, vs1, vl1, vsl, vll, bldv_nil, bldv_cons, lt0, lts, ld0, lds, ldn, lac, lln, llc, lg0, lgs, Nat.reduceLeDiff, true_and, and_true, and_self, Nat.reduceLT, Int.reduceEq, a20, a21, z0, z1, w10, w11, h0]
    refine hΨ _ _ (fin_ret (rv2 rfl rfl ⟨rfl, ?_⟩))
    unfold lk; rw [if_neg (by omega)]; rfl
  · by_cases h1 : (xo.length : Int) ≤ at'
    · simp only [mach, ↓reduceIte, Nat.reduceEqDiff, Nat.reduceAdd, Nat.reduceMul, Nat.add_zero, Nat.zero_add, decide_true, decide_false, Bool.not_true, Bool.not_false, Bool.false_eq_true, List.nil_append, List.append_nil, List.contains_nil, r26, s.own.cells.ld, vc_int, vc_bool, vc_str, vc_ptr, vc_sl, vc_map, vc_if, vc_ni, vc_nf, vc_fn, vc_agg, vs1, vl1, vsl, vll, bldv_nil, bldv_cons, lt0, lts, ld0, lds, ldn, lac, lln, llc, lg0, lgs, Nat.reduceLeDiff, true_and, and_true, and_self, Nat.reduceLT, Int.reduceEq, a20, a21, z0, z1, w10, w11, h0, hv0, h1]
      refine hΨ _ _ (fin_ret (rv2 rfl rfl ⟨rfl, ?_⟩))
      unfold lk; rw [if_neg (by omega)]; rfl
    · obtain ⟨x, hx⟩ : ∃ x, xo[at'.toNat]? = some x := ⟨_, List.getElem?_eq_getElem (by omega)⟩
      have hin : 0 ≤ at' ∧ at' < xo.length := by omega
      obtain ⟨b1, o1, c1, e1, _, hld1⟩ := rds_ix hr (by omega) hx
      simp only [mach, ↓reduceIte, Nat.reduceEqDiff, Nat.reduceAdd, Nat.reduceMul, Nat.add_zero, Nat.zero_add, decide_true, decide_false, Bool.not_true, Bool.not_false, Bool.false_eq_true, List.nil_append, List.append_nil, List.contains_nil, r26, s.own.cells.ld, vc_int, vc_bool, vc_str, vc_ptr, vc_sl, vc_map, vc_if, vc_ni, vc_nf, vc_fn, vc_agg, vs1, vl1, vsl, vll, bldv_nil, bldv_cons, lt0, lts, ld0, lds, ldn, lac, lln, llc, lg0, lgs, Nat.reduceLeDiff, true_and, and_true, and_self, Nat.reduceLT, Int.reduceEq, a20, a21, z0, z1, w10, w11, h0, e1, h1, hin, and_self, hld1, Nat.mul_one]
      refine hΨ _ _ (fin_ret (rv2 rfl rfl ⟨rfl, ?_⟩))
      unfold lk; rw [if_pos hin, hx]; rfl

theorem rSet_ok (s : Rsp h b size side vn vo xn xo) (at' x : Int) : Gets Try.prog 23 [.pointer (some ⟨b, 0, none⟩), iv at', iv x] h (fun res h' =>
    if 0 ≤ at' ∧ at' < xn.length then res = .ret (iv 0) ∧ Keep (Owns b vn vo) h h' ∧ Rsp h' b size side vn vo (xn.set at'.toNat x) xo else h' = h ∧ res = .ret (iv 2)) := by
  refine Gets.of (keep := false) hP (draw_ok hM) k23 (by rfl) (fun Ψ hΨ => ?_)
  have hr := s.rn
  obtain ⟨a0, c0, hv0⟩ := shape hr.rds
  by_cases h0 : at' < 0
  · simp only [mach, ↓reduceIte, Nat.reduceEqDiff, Nat.reduceAdd, Nat.reduceMul, Nat.add_zero, Nat.zero_add, decide_true, decide_false, Bool.not_true, Bool.not_false, Bool.false_eq_true, List.nil_append, List.append_nil, List.contains_nil, r23, s.own.cells.ld, vc_int, vc_bool, vc_str, vc_ptr, vc_sl, vc_map, vc_if, vc_ni, vc_nf, vc_fn, vc_agg, vs1, vl1, vsl, vll, bldv_nil, bldv_cons, lt0, lts, ld0, lds, ldn, lac, lln, llc, lg0, lgs, Nat.reduceLeDiff, true_and, and_true, and_self, Nat.reduceLT, Int.reduceEq, a20, a21, z0, z1, w10, w11, h0]
    refine hΨ _ _ (fin_ret (rv1 rfl ?_))
    rw [if_neg (by omega)]; exact ⟨rfl, rfl⟩
  · by_cases h1 : (xn.length : Int) ≤ at'
    · simp only [mach, ↓reduceIte, Nat.reduceEqDiff, Nat.reduceAdd, Nat.reduceMul, Nat.add_zero, Nat.zero_add, decide_true, decide_false, Bool.not_true, Bool.not_false, Bool.false_eq_true, List.nil_append, List.append_nil, List.contains_nil, r23, s.own.cells.ld, vc_int, vc_bool, vc_str, vc_ptr, vc_sl, vc_map, vc_if, vc_ni, vc_nf, vc_fn, vc_agg, vs1, vl1, vsl, vll, bldv_nil, bldv_cons, lt0, lts, ld0, lds, ldn, lac, lln, llc, lg0, lgs, Nat.reduceLeDiff, true_and, and_true, and_self, Nat.reduceLT, Int.reduceEq, a20, a21, z0, z1, w10, w11, h0, hv0, h1]
      refine hΨ _ _ (fin_ret (rv1 rfl ?_))
      rw [if_neg (by omega)]; exact ⟨rfl, rfl⟩
    · have hin : 0 ≤ at' ∧ at' < xn.length := by omega
      obtain ⟨b1, c1, al, e1, o1, o2, o3, o4⟩ := ows_open hr (by omega)
      simp only [mach, ↓reduceIte, Nat.reduceEqDiff, Nat.reduceAdd, Nat.reduceMul, Nat.add_zero, Nat.zero_add, decide_true, decide_false, Bool.not_true, Bool.not_false, Bool.false_eq_true, List.nil_append, List.append_nil, List.contains_nil, r23, s.own.cells.ld, vc_int, vc_bool, vc_str, vc_ptr, vc_sl, vc_map, vc_if, vc_ni, vc_nf, vc_fn, vc_agg, vs1, vl1, vsl, vll, bldv_nil, bldv_cons, lt0, lts, ld0, lds, ldn, lac, lln, llc, lg0, lgs, Nat.reduceLeDiff, true_and, and_true, and_self, Nat.reduceLT, Int.reduceEq, a20, a21, z0, z1, w10, w11, h0, e1, h1, hin, and_self, Nat.mul_one]
      refine XH_own o1 rfl (by simp [Value.cells]; omega) rfl (fun h' q1 q2 q3 => ?_)
      simp only [mach, ↓reduceIte, Nat.reduceEqDiff, Nat.reduceAdd, Nat.reduceMul, Nat.add_zero, Nat.zero_add, decide_true, decide_false, Bool.not_true, Bool.not_false, Bool.false_eq_true, List.nil_append, List.append_nil, List.contains_nil]
      refine hΨ _ _ (fin_ret (rv1 rfl ?_))
      rw [if_pos hin]
      have o5 : Ows h' 3 1 vn xn.length (ns (xn.set at'.toNat x)) := by rw [e1]; exact ows_set (h := h) q1 o2 o3 o4 (by omega)
      have q2' : Keep (bk vn) h h' := by rw [e1]; exact q2
      refine ⟨rfl, q2'.mono (fun q e => .inr (.inl e)), s.own.keep q2' (fun e => s.dn b e rfl), by rw [List.length_set]; exact o5, s.ro.keep q2' (fun q e e' => s.d q e' e), s.d, s.dn, s.do', s.sd, s.sz, by simpa using s.ln, s.lo⟩

theorem rSetOld_ok (s : Rsp h b size side vn vo xn xo) (at' x : Int) : Gets Try.prog 27 [.pointer (some ⟨b, 0, none⟩), iv at', iv x] h (fun res h' =>
    if 0 ≤ at' ∧ at' < xo.length then res = .ret (iv 0) ∧ Keep (Owns b vn vo) h h' ∧ Rsp h' b size side vn vo xn (xo.set at'.toNat x) else h' = h ∧ res = .ret (iv 2)) := by
  refine Gets.of (keep := false) hP (draw_ok hM) k27 (by rfl) (fun Ψ hΨ => ?_)
  have hr := s.ro
  obtain ⟨a0, c0, hv0⟩ := shape hr.rds
  by_cases h0 : at' < 0
  · simp only [mach, ↓reduceIte, Nat.reduceEqDiff, Nat.reduceAdd, Nat.reduceMul, Nat.add_zero, Nat.zero_add, decide_true, decide_false, Bool.not_true, Bool.not_false, Bool.false_eq_true, List.nil_append, List.append_nil, List.contains_nil, r27, s.own.cells.ld, vc_int, vc_bool, vc_str, vc_ptr, vc_sl, vc_map, vc_if, vc_ni, vc_nf, vc_fn, vc_agg, vs1, vl1, vsl, vll, bldv_nil, bldv_cons, lt0, lts, ld0, lds, ldn, lac, lln, llc, lg0, lgs, Nat.reduceLeDiff, true_and, and_true, and_self, Nat.reduceLT, Int.reduceEq, a20, a21, z0, z1, w10, w11, h0]
    refine hΨ _ _ (fin_ret (rv1 rfl ?_))
    rw [if_neg (by omega)]; exact ⟨rfl, rfl⟩
  · by_cases h1 : (xo.length : Int) ≤ at'
    · simp only [mach, ↓reduceIte, Nat.reduceEqDiff, Nat.reduceAdd, Nat.reduceMul, Nat.add_zero, Nat.zero_add, decide_true, decide_false, Bool.not_true, Bool.not_false, Bool.false_eq_true, List.nil_append, List.append_nil, List.contains_nil, r27, s.own.cells.ld, vc_int, vc_bool, vc_str, vc_ptr, vc_sl, vc_map, vc_if, vc_ni, vc_nf, vc_fn, vc_agg, vs1, vl1, vsl, vll, bldv_nil, bldv_cons, lt0, lts, ld0, lds, ldn, lac, lln, llc, lg0, lgs, Nat.reduceLeDiff, true_and, and_true, and_self, Nat.reduceLT, Int.reduceEq, a20, a21, z0, z1, w10, w11, h0, hv0, h1]
      refine hΨ _ _ (fin_ret (rv1 rfl ?_))
      rw [if_neg (by omega)]; exact ⟨rfl, rfl⟩
    · have hin : 0 ≤ at' ∧ at' < xo.length := by omega
      obtain ⟨b1, c1, al, e1, o1, o2, o3, o4⟩ := ows_open hr (by omega)
      simp only [mach, ↓reduceIte, Nat.reduceEqDiff, Nat.reduceAdd, Nat.reduceMul, Nat.add_zero, Nat.zero_add, decide_true, decide_false, Bool.not_true, Bool.not_false, Bool.false_eq_true, List.nil_append, List.append_nil, List.contains_nil, r27, s.own.cells.ld, vc_int, vc_bool, vc_str, vc_ptr, vc_sl, vc_map, vc_if, vc_ni, vc_nf, vc_fn, vc_agg, vs1, vl1, vsl, vll, bldv_nil, bldv_cons, lt0, lts, ld0, lds, ldn, lac, lln, llc, lg0, lgs, Nat.reduceLeDiff, true_and, and_true, and_self, Nat.reduceLT, Int.reduceEq, a20, a21, z0, z1, w10, w11, h0, e1, h1, hin, and_self, Nat.mul_one]
      refine XH_own o1 rfl (by simp [Value.cells]; omega) rfl (fun h' q1 q2 q3 => ?_)
      simp only [mach, ↓reduceIte, Nat.reduceEqDiff, Nat.reduceAdd, Nat.reduceMul, Nat.add_zero, Nat.zero_add, decide_true, decide_false, Bool.not_true, Bool.not_false, Bool.false_eq_true, List.nil_append, List.append_nil, List.contains_nil]
      refine hΨ _ _ (fin_ret (rv1 rfl ?_))
      rw [if_pos hin]
      have o5 : Ows h' 3 1 vo xo.length (ns (xo.set at'.toNat x)) := by rw [e1]; exact ows_set (h := h) q1 o2 o3 o4 (by omega)
      have q2' : Keep (bk vo) h h' := by rw [e1]; exact q2
      refine ⟨rfl, q2'.mono (fun q e => .inr (.inr e)), s.own.keep q2' (fun e => s.do' b e rfl), s.rn.keep q2' (fun q e e' => s.d q e e'), by rw [List.length_set]; exact o5, s.d, s.dn, s.do', s.sd, s.sz, s.ln, by simpa using s.lo⟩

theorem rFlip_ok (s : Rsp h b size side vn vo xn xo) : Gets Try.prog 25 [.pointer (some ⟨b, 0, none⟩)] h (fun res h' => res = .ret (.tuple #[]) ∧ Keep (Owns b vn vo) h h' ∧ Rsp h' b size (1 - side) (.slice none 0 0) vn [] xn) := by
  refine Gets.of (keep := false) hP (draw_ok hM) k25 (by rfl) (fun Ψ hΨ => ?_)
  have hw : IntKind.i64.wrap (1 - side) = 1 - side := by rcases s.sd with rfl | rfl <;> rfl
  obtain ⟨a0, c0, hv0⟩ := shape s.rn.rds
  simp only [mach, ↓reduceIte, Nat.reduceEqDiff, Nat.reduceAdd, Nat.reduceMul, Nat.add_zero, Nat.zero_add, decide_true, decide_false, Bool.not_true, Bool.not_false, Bool.false_eq_true, List.nil_append, List.append_nil, List.contains_nil, r25, s.own.cells.ld, vc_int, vc_bool, vc_str, vc_ptr, vc_sl, vc_map, vc_if, vc_ni, vc_nf, vc_fn, vc_agg, vs1, vl1, vsl, vll, bldv_nil, bldv_cons, lt0, lts, ld0, lds, ldn, lac, lln, llc, lg0, lgs, Nat.reduceLeDiff, true_and, and_true, and_self, Nat.reduceLT, Int.reduceEq, a20, a21, z0, z1, w10, w11]
  refine XH_own s.own (by rw [hv0]; rfl) (by rw [hv0]; simp [Value.cells]) (by rw [hv0]; rfl) (fun h1 q1 q2 q3 => ?_)
  have e1 : vn.cells.toList = [vn] := by rw [hv0]; rfl
  rw [e1] at q1
  simp only [mach, ↓reduceIte, Nat.reduceEqDiff, Nat.reduceAdd, Nat.reduceMul, Nat.add_zero, Nat.zero_add, decide_true, decide_false, Bool.not_true, Bool.not_false, Bool.false_eq_true, List.nil_append, List.append_nil, List.contains_nil, vc_int, vc_bool, vc_str, vc_ptr, vc_sl, vc_map, vc_if, vc_ni, vc_nf, vc_fn, vc_agg, vs1, vl1, vsl, vll, bldv_nil, bldv_cons, lt0, lts, ld0, lds, ldn, lac, lln, llc, lg0, lgs, Nat.reduceLeDiff, true_and, and_true, and_self, Nat.reduceLT, Int.reduceEq]
  refine XH_own q1 rfl (by simp [Value.cells]) rfl (fun h2 p1 p2 p3 => ?_)
  simp only [vc_sl, vl1, lts, lt0, lac, List.nil_append, llc, lln, Nat.reduceAdd, lds, ld0, ldn, List.append_nil] at p1
  simp only [mach, ↓reduceIte, Nat.reduceEqDiff, Nat.reduceAdd, Nat.reduceMul, Nat.add_zero, Nat.zero_add, decide_true, decide_false, Bool.not_true, Bool.not_false, Bool.false_eq_true, List.nil_append, List.append_nil, List.contains_nil, p1.cells.ld, vc_int, vc_bool, vc_str, vc_ptr, vc_sl, vc_map, vc_if, vc_ni, vc_nf, vc_fn, vc_agg, vs1, vl1, vsl, vll, bldv_nil, bldv_cons, lt0, lts, ld0, lds, ldn, lac, lln, llc, lg0, lgs, Nat.reduceLeDiff, true_and, and_true, and_self, Nat.reduceLT, Int.reduceEq, hw]
  refine XH_own p1 rfl (by simp [Value.cells]) rfl (fun h3 t1 t2 t3 => ?_)
  simp only [vc_int, vl1, lts, lt0, lac, List.nil_append, llc, lln, Nat.reduceAdd, lds, ld0, ldn, List.append_nil] at t1
  simp only [mach, ↓reduceIte, Nat.reduceEqDiff, Nat.reduceAdd, Nat.reduceMul, Nat.add_zero, Nat.zero_add, decide_true, decide_false, Bool.not_true, Bool.not_false, Bool.false_eq_true, List.nil_append, List.append_nil, List.contains_nil]
  have kk := (q2.trans p2).trans t2
  refine hΨ _ _ (fin_norm ⟨rfl, kk.mono (fun q e => .inl e), t1, .nil, s.rn.keep kk (fun q e e' => s.dn q e e'), fun q e => e.elim, fun q e => e.elim, s.dn, ?_, s.sz, by simpa using s.sz.1, s.ln⟩)
  rcases s.sd with rfl | rfl
  · exact .inr rfl
  · exact .inl rfl

theorem rAlloc_ok {u : Value} {ys : List Int} {m : Nat} (s : Rsp h b size side vn vo xn xo) (hu : Rds h 1 u m (ns ys)) :
    Gets Try.prog 21 [.pointer (some ⟨b, 0, none⟩), u] h (fun res h' =>
      if size - (xn.length : Int) < ys.length then h' = h ∧ res = .ret (.tuple #[iv 0, iv 3])
      else res = .ret (.tuple #[iv xn.length, iv 0]) ∧ Keep (Owns b vn vo) h h' ∧ ∃ vn', Rsp h' b size side vn' vo (xn ++ ys) xo ∧ ∀ q, Owns b vn' vo q → Owns b vn vo q ∨ h.length ≤ q) := by
  refine Gets.of (keep := false) hP (draw_ok hM) k21 (by rfl) (fun Ψ hΨ => ?_)
  have hm : m = ys.length := by have := hu.len; rw [ns_len, Nat.mul_one] at this; exact this.symm
  obtain ⟨ua, uc, rfl⟩ := shape hu
  obtain ⟨_, hsrc, rfl⟩ := hu.src (ns_one ys)
  obtain ⟨a0, c0, hv0⟩ := shape s.rn.rds
  have hsz := s.sz
  have hl0 := s.ln
  have hw : IntKind.i64.wrap (size - (xn.length : Int)) = size - xn.length := i64w (by omega) (by omega)
  by_cases hf : size - (xn.length : Int) < (m : Int)
  · simp only [mach, ↓reduceIte, Nat.reduceEqDiff, Nat.reduceAdd, Nat.reduceMul, Nat.add_zero, Nat.zero_add, decide_true, decide_false, Bool.not_true, Bool.not_false, Bool.false_eq_true, List.nil_append, List.append_nil, List.contains_nil, r21, s.own.cells.ld, vc_int, vc_bool, vc_str, vc_ptr, vc_sl, vc_map, vc_if, vc_ni, vc_nf, vc_fn, vc_agg, vs1, vl1, vsl, vll, bldv_nil, bldv_cons, lt0, lts, ld0, lds, ldn, lac, lln, llc, lg0, lgs, Nat.reduceLeDiff, true_and, and_true, and_self, Nat.reduceLT, Int.reduceEq, a20, a21, z0, z1, w10, w11, hv0, hw, hf]
    refine hΨ _ _ (fin_ret (rv2 rfl rfl ?_))
    rw [if_pos (by omega)]; exact ⟨rfl, rfl⟩
  · obtain ⟨s', h', k1, k2, k3, k4⟩ := s.rn.app (bytes := 8) hsrc (by rw [ns_len, hm]; omega) (ns_one ys) (by omega) (by omega)
    have hown := s.own.keep k3 (fun q => s.dn b q rfl)
    have hoth := s.ro.keep k3 (fun q hq e => s.d q e hq)
    obtain ⟨a2, c2, hs'⟩ := shape k2.rds
    subst hv0
    simp only [mach, ↓reduceIte, Nat.reduceEqDiff, Nat.reduceAdd, Nat.reduceMul, Nat.add_zero, Nat.zero_add, decide_true, decide_false, Bool.not_true, Bool.not_false, Bool.false_eq_true, List.nil_append, List.append_nil, List.contains_nil, r21, s.own.cells.ld, vc_int, vc_bool, vc_str, vc_ptr, vc_sl, vc_map, vc_if, vc_ni, vc_nf, vc_fn, vc_agg, vs1, vl1, vsl, vll, bldv_nil, bldv_cons, lt0, lts, ld0, lds, ldn, lac, lln, llc, lg0, lgs, Nat.reduceLeDiff, true_and, and_true, and_self, Nat.reduceLT, Int.reduceEq, a20, a21, z0, z1, w10, w11, hw, hf, k1]
    subst hs'
    refine XH_own hown rfl (by simp [Value.cells]) rfl (fun h2 q1 q2 q3 => ?_)
    simp only [mach, ↓reduceIte, Nat.reduceEqDiff, Nat.reduceAdd, Nat.reduceMul, Nat.add_zero, Nat.zero_add, decide_true, decide_false, Bool.not_true, Bool.not_false, Bool.false_eq_true, List.nil_append, List.append_nil, List.contains_nil]
    refine hΨ _ _ (fin_ret (rv2 rfl rfl ?_))
    have hnb : ∀ q, bk (.slice a2 (xn.length + m) c2) q → q ≠ b := by
      intro q hq e
      rcases k4 q hq with k | k
      · exact s.dn q k e
      · have := s.own.lt; omega
    rw [if_neg (by omega)]
    refine ⟨by simp [tup], ⟨by rw [q3]; exact k3.len, fun q hq hs => ?_⟩, _, ⟨q1, ?_, hoth.keep q2 (fun q hq e => s.do' q hq e), ?_, hnb, s.do', s.sd, s.sz, by simp; omega, s.lo⟩, ?_⟩
    · rw [q2.same q (Nat.lt_of_lt_of_le hq k3.len) (fun e => hs (.inl e)), k3.same q hq (fun e => hs (.inr (.inl e)))]
    · simp only [List.length_append]
      rw [show ns (xn ++ ys) = ns xn ++ ns ys by simp [ns], ← hm]
      exact k2.keep q2 (fun q hq e => hnb q hq e)
    · intro q hq e
      rcases k4 q hq with k | k
      · exact s.d q k e
      · have := s.ro.lt q e; omega
    · rintro q (e | e | e)
      · exact .inl (.inl e)
      · exact (k4 q e).elim (fun e => .inl (.inr (.inl e))) .inr
      · exact .inl (.inr (.inr e))
end

theorem Set_ok {h : AH} {b : Nat} {size side : Int} {v0 v1 : Value} {x0 x1 : List Int} (s : Spc h b size side v0 v1 x0 x1) (at' x : Int) :
    Gets Try.prog 24 [.pointer (some ⟨b, 0, none⟩), iv at', iv x] h (fun res h' =>
      if 0 ≤ at' ∧ at' < (if side = 0 then x0 else x1).length then res = .ret (iv 0) ∧ Keep (Owns b v0 v1) h h' ∧ Spc h' b size side v0 v1 (if side = 0 then x0.set at'.toNat x else x0) (if side = 0 then x1 else x1.set at'.toNat x)
      else h' = h ∧ res = .ret (iv 2)) := by
  refine Gets.of (keep := false) hP (draw_ok hM) k24 (by rfl) (fun Ψ hΨ => ?_)
  have hg0 := set_ok s.own.cells (o := 0) rfl s.r0 at' x
  have hg1 := set_ok s.own.cells (o := 1) rfl s.r1 at' x
  rcases s.sd with rfl | rfl
  · simp only [mach, ↓reduceIte, Nat.reduceEqDiff, Nat.reduceAdd, Nat.reduceMul, Nat.add_zero, Nat.zero_add, decide_true, decide_false, Bool.not_true, Bool.not_false, Bool.false_eq_true, List.nil_append, List.append_nil, List.contains_nil, r24, s.own.cells.ld, vc_int, vc_bool, vc_str, vc_ptr, vc_sl, vc_map, vc_if, vc_ni, vc_nf, vc_fn, vc_agg, vs1, vl1, vsl, vll, bldv_nil, bldv_cons, lt0, lts, ld0, lds, ldn, lac, lln, llc, lg0, lgs, Nat.reduceLeDiff, true_and, and_true, and_self, Nat.reduceLT, Int.reduceEq, a20, a21, z0, z1, w10, w11]
    refine XX_of hg0 (fun res h' _ hn => ?_)
    by_cases hin : 0 ≤ at' ∧ at' < x0.length
    · rw [if_pos hin] at hn
      obtain ⟨rfl, o1, kp, l1⟩ := hn
      refine .ret ?_
      simp only [mach, ↓reduceIte, Nat.reduceEqDiff, Nat.reduceAdd, Nat.reduceMul, Nat.add_zero, Nat.zero_add, decide_true, decide_false, Bool.not_true, Bool.not_false, Bool.false_eq_true, List.nil_append, List.append_nil, List.contains_nil]
      refine hΨ _ _ (fin_ret (rv1 rfl ?_))
      simp only [if_true]
      rw [if_pos hin]
      refine ⟨rfl, kp.mono (fun q e => .inr (.inl e)), s.own.keep kp (fun e => s.d0 b e rfl), ?_, s.r1.keep kp (fun q e e' => s.d q e' e), s.d, s.d0, s.d1, s.sd, s.sz, by simpa using s.l0, s.l1⟩
      rw [List.length_set]; exact o1
    · rw [if_neg hin] at hn
      obtain ⟨rfl, rfl⟩ := hn
      refine .ret ?_
      simp only [mach, ↓reduceIte, Nat.reduceEqDiff, Nat.reduceAdd, Nat.reduceMul, Nat.add_zero, Nat.zero_add, decide_true, decide_false, Bool.not_true, Bool.not_false, Bool.false_eq_true, List.nil_append, List.append_nil, List.contains_nil]
      refine hΨ _ _ (fin_ret (rv1 rfl ?_))
      simp [hin, tup]
  · simp only [mach, ↓reduceIte, Nat.reduceEqDiff, Nat.reduceAdd, Nat.reduceMul, Nat.add_zero, Nat.zero_add, decide_true, decide_false, Bool.not_true, Bool.not_false, Bool.false_eq_true, List.nil_append, List.append_nil, List.contains_nil, r24, s.own.cells.ld, vc_int, vc_bool, vc_str, vc_ptr, vc_sl, vc_map, vc_if, vc_ni, vc_nf, vc_fn, vc_agg, vs1, vl1, vsl, vll, bldv_nil, bldv_cons, lt0, lts, ld0, lds, ldn, lac, lln, llc, lg0, lgs, Nat.reduceLeDiff, true_and, and_true, and_self, Nat.reduceLT, Int.reduceEq, a20, a21, z0, z1, w10, w11]
    refine XX_of hg1 (fun res h' _ hn => ?_)
    by_cases hin : 0 ≤ at' ∧ at' < x1.length
    · rw [if_pos hin] at hn
      obtain ⟨rfl, o1, kp, l1⟩ := hn
      refine .ret ?_
      simp only [mach, ↓reduceIte, Nat.reduceEqDiff, Nat.reduceAdd, Nat.reduceMul, Nat.add_zero, Nat.zero_add, decide_true, decide_false, Bool.not_true, Bool.not_false, Bool.false_eq_true, List.nil_append, List.append_nil, List.contains_nil]
      refine hΨ _ _ (fin_ret (rv1 rfl ?_))
      simp only [show ((1 : Int) = 0) = False by simp, if_false]
      rw [if_pos hin]
      refine ⟨rfl, kp.mono (fun q e => .inr (.inr e)), s.own.keep kp (fun e => s.d1 b e rfl), s.r0.keep kp (fun q e e' => s.d q e e'), ?_, s.d, s.d0, s.d1, s.sd, s.sz, s.l0, by simpa using s.l1⟩
      rw [List.length_set]; exact o1
    · rw [if_neg hin] at hn
      obtain ⟨rfl, rfl⟩ := hn
      refine .ret ?_
      simp only [mach, ↓reduceIte, Nat.reduceEqDiff, Nat.reduceAdd, Nat.reduceMul, Nat.add_zero, Nat.zero_add, decide_true, decide_false, Bool.not_true, Bool.not_false, Bool.false_eq_true, List.nil_append, List.append_nil, List.contains_nil]
      refine hΨ _ _ (fin_ret (rv1 rfl ?_))
      simp [hin, tup]

end Go.S02
