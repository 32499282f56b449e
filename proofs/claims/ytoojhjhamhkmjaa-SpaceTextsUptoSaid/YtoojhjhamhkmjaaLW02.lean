/- Layer 2: the other functions of a space of numbers. -/
import Derived.Test.YtoojhjhamhkmjaaLV02
set_option linter.unusedVariables false
set_option linter.unusedSimpArgs false
namespace Go.S02
open Go Go.Eng Go.Proofs

theorem Used_ok {h : AH} {b : Nat} {size side : Int} {v0 v1 : Value} {x0 x1 : List Int} (s : Spc h b size side v0 v1 x0 x1) :
    Gets Try.prog 15 [.pointer (some ⟨b, 0, none⟩)] h (fun res h' => h' = h ∧ res = .ret (iv (if side = 0 then x0 else x1).length)) := by
  refine Gets.of (keep := false) hP (draw_ok hM) k15 (by rfl) (fun Ψ hΨ => ?_)
  obtain ⟨a0, c0, hv0⟩ := shape s.r0.rds
  obtain ⟨a1, c1, hv1⟩ := shape s.r1.rds
  rcases s.sd with rfl | rfl
  · simp only [mach, ↓reduceIte, Nat.reduceEqDiff, Nat.reduceAdd, Nat.reduceMul, Nat.add_zero, Nat.zero_add, decide_true, decide_false, Bool.not_true, Bool.not_false, Bool.false_eq_true, List.nil_append, List.append_nil, List.contains_nil, r15, s.own.cells.ld, vc_int, vc_bool, vc_str, vc_ptr, vc_sl, vc_map, vc_if, vc_ni, vc_nf, vc_fn, vc_agg, vs1, vl1, vsl, vll, bldv_nil, bldv_cons, lt0, lts, ld0, lds, ldn, lac, lln, llc, lg0, lgs, Nat.reduceLeDiff, true_and, and_true, and_self, Nat.reduceLT, Int.reduceEq, a20, a21, z0, z1, w10, w11, hv0]
    exact hΨ _ _ (fin_ret (rv1 rfl ⟨rfl, by simp [tup]⟩))
  · simp only [mach, ↓reduceIte, Nat.reduceEqDiff, Nat.reduceAdd, Nat.reduceMul, Nat.add_zero, Nat.zero_add, decide_true, decide_false, Bool.not_true, Bool.not_false, Bool.false_eq_true, List.nil_append, List.append_nil, List.contains_nil, r15, s.own.cells.ld, vc_int, vc_bool, vc_str, vc_ptr, vc_sl, vc_map, vc_if, vc_ni, vc_nf, vc_fn, vc_agg, vs1, vl1, vsl, vll, bldv_nil, bldv_cons, lt0, lts, ld0, lds, ldn, lac, lln, llc, lg0, lgs, Nat.reduceLeDiff, true_and, and_true, and_self, Nat.reduceLT, Int.reduceEq, a20, a21, z0, z1, w10, w11, hv1]
    exact hΨ _ _ (fin_ret (rv1 rfl ⟨rfl, by simp [tup]⟩))

theorem Side_ok {h : AH} {b : Nat} {size side : Int} {v0 v1 : Value} {x0 x1 : List Int} (s : Spc h b size side v0 v1 x0 x1) :
    Gets Try.prog 16 [.pointer (some ⟨b, 0, none⟩)] h (fun res h' => h' = h ∧ res = .ret (iv side)) := by
  refine Gets.of (keep := false) hP (draw_ok hM) k16 (by rfl) (fun Ψ hΨ => ?_)
  simp only [mach, ↓reduceIte, Nat.reduceEqDiff, Nat.reduceAdd, Nat.reduceMul, Nat.add_zero, Nat.zero_add, decide_true, decide_false, Bool.not_true, Bool.not_false, Bool.false_eq_true, List.nil_append, List.append_nil, List.contains_nil, r16, s.own.cells.ld, vc_int, vc_bool, vc_str, vc_ptr, vc_sl, vc_map, vc_if, vc_ni, vc_nf, vc_fn, vc_agg, vs1, vl1, vsl, vll, bldv_nil, bldv_cons, lt0, lts, ld0, lds, ldn, lac, lln, llc, lg0, lgs, Nat.reduceLeDiff, true_and, and_true, and_self, Nat.reduceLT, Int.reduceEq, a20, a21, z0, z1, w10, w11]
  exact hΨ _ _ (fin_ret (rv1 rfl ⟨rfl, rfl⟩))

theorem Size_ok {h : AH} {b : Nat} {size side : Int} {v0 v1 : Value} {x0 x1 : List Int} (s : Spc h b size side v0 v1 x0 x1) :
    Gets Try.prog 17 [.pointer (some ⟨b, 0, none⟩)] h (fun res h' => h' = h ∧ res = .ret (iv size)) := by
  refine Gets.of (keep := false) hP (draw_ok hM) k17 (by rfl) (fun Ψ hΨ => ?_)
  simp only [mach, ↓reduceIte, Nat.reduceEqDiff, Nat.reduceAdd, Nat.reduceMul, Nat.add_zero, Nat.zero_add, decide_true, decide_false, Bool.not_true, Bool.not_false, Bool.false_eq_true, List.nil_append, List.append_nil, List.contains_nil, r17, s.own.cells.ld, vc_int, vc_bool, vc_str, vc_ptr, vc_sl, vc_map, vc_if, vc_ni, vc_nf, vc_fn, vc_agg, vs1, vl1, vsl, vll, bldv_nil, bldv_cons, lt0, lts, ld0, lds, ldn, lac, lln, llc, lg0, lgs, Nat.reduceLeDiff, true_and, and_true, and_self, Nat.reduceLT, Int.reduceEq, a20, a21, z0, z1, w10, w11]
  exact hΨ _ _ (fin_ret (rv1 rfl ⟨rfl, rfl⟩))

theorem Old_ok {h : AH} {b : Nat} {size side : Int} {v0 v1 : Value} {x0 x1 : List Int} (s : Spc h b size side v0 v1 x0 x1) (at' : Int) :
    Gets Try.prog 18 [.pointer (some ⟨b, 0, none⟩), iv at'] h (fun res h' => h' = h ∧ res = .ret (.tuple (lk (if side = 0 then x1 else x0) at'))) := by
  refine Gets.of (keep := false) hP (draw_ok hM) k18 (by rfl) (fun Ψ hΨ => ?_)
  have hg0 := get_ok s.own.cells (o := 0) rfl s.r0.rds at'
  have hg1 := get_ok s.own.cells (o := 1) rfl s.r1.rds at'
  rcases s.sd with rfl | rfl
  · simp only [mach, ↓reduceIte, Nat.reduceEqDiff, Nat.reduceAdd, Nat.reduceMul, Nat.add_zero, Nat.zero_add, decide_true, decide_false, Bool.not_true, Bool.not_false, Bool.false_eq_true, List.nil_append, List.append_nil, List.contains_nil, r18, s.own.cells.ld, vc_int, vc_bool, vc_str, vc_ptr, vc_sl, vc_map, vc_if, vc_ni, vc_nf, vc_fn, vc_agg, vs1, vl1, vsl, vll, bldv_nil, bldv_cons, lt0, lts, ld0, lds, ldn, lac, lln, llc, lg0, lgs, Nat.reduceLeDiff, true_and, and_true, and_self, Nat.reduceLT, Int.reduceEq, a20, a21, z0, z1, w10, w11]
    refine XX_val hg1 ?_
    by_cases hin : 0 ≤ at' ∧ at' < x1.length
    · simp only [mach, ↓reduceIte, Nat.reduceEqDiff, Nat.reduceAdd, Nat.reduceMul, Nat.add_zero, Nat.zero_add, decide_true, decide_false, Bool.not_true, Bool.not_false, Bool.false_eq_true, List.nil_append, List.append_nil, List.contains_nil, hin, and_self, vc_int, vc_bool, vc_str, vc_ptr, vc_sl, vc_map, vc_if, vc_ni, vc_nf, vc_fn, vc_agg, vs1, vl1, vsl, vll, bldv_nil, bldv_cons, lt0, lts, ld0, lds, ldn, lac, lln, llc, lg0, lgs, Nat.reduceLeDiff, true_and, and_true, and_self, Nat.reduceLT, Int.reduceEq]
      exact hΨ _ _ (fin_ret (rv2 rfl rfl ⟨rfl, by simp [lk, hin, tup]⟩))
    · simp only [mach, ↓reduceIte, Nat.reduceEqDiff, Nat.reduceAdd, Nat.reduceMul, Nat.add_zero, Nat.zero_add, decide_true, decide_false, Bool.not_true, Bool.not_false, Bool.false_eq_true, List.nil_append, List.append_nil, List.contains_nil, hin, vc_int, vc_bool, vc_str, vc_ptr, vc_sl, vc_map, vc_if, vc_ni, vc_nf, vc_fn, vc_agg, vs1, vl1, vsl, vll, bldv_nil, bldv_cons, lt0, lts, ld0, lds, ldn, lac, lln, llc, lg0, lgs, Nat.reduceLeDiff, true_and, and_true, and_self, Nat.reduceLT, Int.reduceEq]
      exact hΨ _ _ (fin_ret (rv2 rfl rfl ⟨rfl, by simp [lk, hin, tup]⟩))
  · simp only [mach, ↓reduceIte, Nat.reduceEqDiff, Nat.reduceAdd, Nat.reduceMul, Nat.add_zero, Nat.zero_add, decide_true, decide_false, Bool.not_true, Bool.not_false, Bool.false_eq_true, List.nil_append, List.append_nil, List.contains_nil, r18, s.own.cells.ld, vc_int, vc_bool, vc_str, vc_ptr, vc_sl, vc_map, vc_if, vc_ni, vc_nf, vc_fn, vc_agg, vs1, vl1, vsl, vll, bldv_nil, bldv_cons, lt0, lts, ld0, lds, ldn, lac, lln, llc, lg0, lgs, Nat.reduceLeDiff, true_and, and_true, and_self, Nat.reduceLT, Int.reduceEq, a20, a21, z0, z1, w10, w11]
    refine XX_val hg0 ?_
    by_cases hin : 0 ≤ at' ∧ at' < x0.length
    · simp only [mach, ↓reduceIte, Nat.reduceEqDiff, Nat.reduceAdd, Nat.reduceMul, Nat.add_zero, Nat.zero_add, decide_true, decide_false, Bool.not_true, Bool.not_false, Bool.false_eq_true, List.nil_append, List.append_nil, List.contains_nil, hin, and_self, vc_int, vc_bool, vc_str, vc_ptr, vc_sl, vc_map, vc_if, vc_ni, vc_nf, vc_fn, vc_agg, vs1, vl1, vsl, vll, bldv_nil, bldv_cons, lt0, lts, ld0, lds, ldn, lac, lln, llc, lg0, lgs, Nat.reduceLeDiff, true_and, and_true, and_self, Nat.reduceLT, Int.reduceEq]
      exact hΨ _ _ (fin_ret (rv2 rfl rfl ⟨rfl, by simp [lk, hin, tup]⟩))
    · simp only [mach, ↓reduceIte, Nat.reduceEqDiff, Nat.reduceAdd, Nat.reduceMul, Nat.add_zero, Nat.zero_add, decide_true, decide_false, Bool.not_true, Bool.not_false, Bool.false_eq_true, List.nil_append, List.append_nil, List.contains_nil, hin, vc_int, vc_bool, vc_str, vc_ptr, vc_sl, vc_map, vc_if, vc_ni, vc_nf, vc_fn, vc_agg, vs1, vl1, vsl, vll, bldv_nil, bldv_cons, lt0, lts, ld0, lds, ldn, lac, lln, llc, lg0, lgs, Nat.reduceLeDiff, true_and, and_true, and_self, Nat.reduceLT, Int.reduceEq]
      exact hΨ _ _ (fin_ret (rv2 rfl rfl ⟨rfl, by simp [lk, hin, tup]⟩))

theorem ows_set {h h' : AH} {b n c i : Nat} {all : List Value} {xs : List Int} {x : Int} (ho : Own h' b 3 (all.take i ++ (iv x).cells.toList ++ all.drop (i + (iv x).cells.toList.length))) (hl : all.length = c) (hn : n ≤ c) (hx : all.take n = ns xs) (hi : i < n) :
    Ows h' 3 1 (.slice (some ⟨b, 0, none⟩) n c) n (ns (xs.set i x)) := by
  simp only [Value.cells] at ho
  have e : all.take i ++ [iv x] ++ all.drop (i + [iv x].length) = all.set i (iv x) := by
    rw [List.set_eq_take_append_cons_drop, if_pos (by omega)]; simp
  have ho' : Own h' b 3 (all.set i (iv x)) := by rw [← e]; exact ho
  refine .mk ho' (by simp; omega) hn ?_
  rw [Nat.mul_one, List.take_set, hx]; simp [ns, List.map_set]

theorem set_ok {h : AH} {b o : Nat} {all : List Value} {v : Value} {n : Nat} {xs : List Int} (hb : Cells h b all) (ho : all[o]? = some v) (hr : Ows h 3 1 v n (ns xs)) (at' x : Int) :
    Gets Try.prog 55 [.pointer (some ⟨b, o, none⟩), iv at', iv x] h (fun res h' => if 0 ≤ at' ∧ at' < n then res = .ret (iv 0) ∧ Ows h' 3 1 v n (ns (xs.set at'.toNat x)) ∧ Keep (bk v) h h' ∧ h'.length = h.length else h' = h ∧ res = .ret (iv 2)) := by
  refine Gets.of (keep := false) hP (draw_ok hM) k55 (by rfl) (fun Ψ hΨ => ?_)
  have hw := within_ok hb ho hr.rds at'
  have hlen := hr.len
  rw [ns_len, Nat.mul_one] at hlen
  by_cases hin : 0 ≤ at' ∧ at' < n
  · rw [show (decide (0 ≤ at') && decide (at' < (n : Int))) = true by simp [hin]] at hw
    simp only [mach, ↓reduceIte, Nat.reduceEqDiff, Nat.reduceAdd, Nat.reduceMul, Nat.add_zero, Nat.zero_add, decide_true, decide_false, Bool.not_true, Bool.not_false, Bool.false_eq_true, List.nil_append, List.append_nil, List.contains_nil, r55]
    refine XX_val hw ?_
    obtain ⟨b1, c1, al, rfl, h1, h2, h3, h4⟩ := ows_open hr (by omega)
    simp only [mach, ↓reduceIte, Nat.reduceEqDiff, Nat.reduceAdd, Nat.reduceMul, Nat.add_zero, Nat.zero_add, decide_true, decide_false, Bool.not_true, Bool.not_false, Bool.false_eq_true, List.nil_append, List.append_nil, List.contains_nil, hb.ld, ho, hin, and_self, Nat.mul_one]
    refine XH_own h1 rfl (by simp [Value.cells]; omega) rfl (fun h' q1 q2 q3 => ?_)
    simp only [mach, ↓reduceIte, Nat.reduceEqDiff, Nat.reduceAdd, Nat.reduceMul, Nat.add_zero, Nat.zero_add, decide_true, decide_false, Bool.not_true, Bool.not_false, Bool.false_eq_true, List.nil_append, List.append_nil, List.contains_nil]
    refine hΨ _ _ (fin_ret (rv1 rfl ?_))
    rw [if_pos hin]
    exact ⟨rfl, ows_set (h := h) q1 h2 h3 h4 (by omega), q2, q3⟩
  · rw [show (decide (0 ≤ at') && decide (at' < (n : Int))) = false by simp; omega] at hw
    simp only [mach, ↓reduceIte, Nat.reduceEqDiff, Nat.reduceAdd, Nat.reduceMul, Nat.add_zero, Nat.zero_add, decide_true, decide_false, Bool.not_true, Bool.not_false, Bool.false_eq_true, List.nil_append, List.append_nil, List.contains_nil, r55]
    refine XX_val hw ?_
    simp only [mach, ↓reduceIte, Nat.reduceEqDiff, Nat.reduceAdd, Nat.reduceMul, Nat.add_zero, Nat.zero_add, decide_true, decide_false, Bool.not_true, Bool.not_false, Bool.false_eq_true, List.nil_append, List.append_nil, List.contains_nil]
    refine hΨ _ _ (fin_ret (rv1 rfl ?_))
    rw [if_neg hin]; exact ⟨rfl, rfl⟩

theorem SetOld_ok {h : AH} {b : Nat} {size side : Int} {v0 v1 : Value} {x0 x1 : List Int} (s : Spc h b size side v0 v1 x0 x1) (at' x : Int) :
    Gets Try.prog 19 [.pointer (some ⟨b, 0, none⟩), iv at', iv x] h (fun res h' =>
      if 0 ≤ at' ∧ at' < (if side = 0 then x1 else x0).length then res = .ret (iv 0) ∧ Keep (Owns b v0 v1) h h' ∧ Spc h' b size side v0 v1 (if side = 0 then x0 else x0.set at'.toNat x) (if side = 0 then x1.set at'.toNat x else x1)
      else h' = h ∧ res = .ret (iv 2)) := by
  refine Gets.of (keep := false) hP (draw_ok hM) k19 (by rfl) (fun Ψ hΨ => ?_)
  have hg0 := set_ok s.own.cells (o := 0) rfl s.r0 at' x
  have hg1 := set_ok s.own.cells (o := 1) rfl s.r1 at' x
  rcases s.sd with rfl | rfl
  · simp only [mach, ↓reduceIte, Nat.reduceEqDiff, Nat.reduceAdd, Nat.reduceMul, Nat.add_zero, Nat.zero_add, decide_true, decide_false, Bool.not_true, Bool.not_false, Bool.false_eq_true, List.nil_append, List.append_nil, List.contains_nil, r19, s.own.cells.ld, vc_int, vc_bool, vc_str, vc_ptr, vc_sl, vc_map, vc_if, vc_ni, vc_nf, vc_fn, vc_agg, vs1, vl1, vsl, vll, bldv_nil, bldv_cons, lt0, lts, ld0, lds, ldn, lac, lln, llc, lg0, lgs, Nat.reduceLeDiff, true_and, and_true, and_self, Nat.reduceLT, Int.reduceEq, a20, a21, z0, z1, w10, w11]
    refine XX_of hg1 (fun res h' _ hn => ?_)
    by_cases hin : 0 ≤ at' ∧ at' < x1.length
    · rw [if_pos hin] at hn
      obtain ⟨rfl, o1, kp, l1⟩ := hn
      refine .ret ?_
      simp only [mach, ↓reduceIte, Nat.reduceEqDiff, Nat.reduceAdd, Nat.reduceMul, Nat.add_zero, Nat.zero_add, decide_true, decide_false, Bool.not_true, Bool.not_false, Bool.false_eq_true, List.nil_append, List.append_nil, List.contains_nil]
      refine hΨ _ _ (fin_ret (rv1 rfl ?_))
      simp only [if_true]
      rw [if_pos hin]
      refine ⟨rfl, kp.mono (fun q e => .inr (.inr e)), s.own.keep kp (fun e => s.d1 b e rfl), s.r0.keep kp (fun q e => s.d q e), ?_, s.d, s.d0, s.d1, s.sd, s.sz, s.l0, by simpa using s.l1⟩
      rw [List.length_set]; exact o1
    · rw [if_neg hin] at hn
      obtain ⟨rfl, rfl⟩ := hn
      refine .ret ?_
      simp only [mach, ↓reduceIte, Nat.reduceEqDiff, Nat.reduceAdd, Nat.reduceMul, Nat.add_zero, Nat.zero_add, decide_true, decide_false, Bool.not_true, Bool.not_false, Bool.false_eq_true, List.nil_append, List.append_nil, List.contains_nil]
      refine hΨ _ _ (fin_ret (rv1 rfl ?_))
      simp [hin, tup]
  · simp only [mach, ↓reduceIte, Nat.reduceEqDiff, Nat.reduceAdd, Nat.reduceMul, Nat.add_zero, Nat.zero_add, decide_true, decide_false, Bool.not_true, Bool.not_false, Bool.false_eq_true, List.nil_append, List.append_nil, List.contains_nil, r19, s.own.cells.ld, vc_int, vc_bool, vc_str, vc_ptr, vc_sl, vc_map, vc_if, vc_ni, vc_nf, vc_fn, vc_agg, vs1, vl1, vsl, vll, bldv_nil, bldv_cons, lt0, lts, ld0, lds, ldn, lac, lln, llc, lg0, lgs, Nat.reduceLeDiff, true_and, and_true, and_self, Nat.reduceLT, Int.reduceEq, a20, a21, z0, z1, w10, w11]
    refine XX_of hg0 (fun res h' _ hn => ?_)
    by_cases hin : 0 ≤ at' ∧ at' < x0.length
    · rw [if_pos hin] at hn
      obtain ⟨rfl, o1, kp, l1⟩ := hn
      refine .ret ?_
      simp only [mach, ↓reduceIte, Nat.reduceEqDiff, Nat.reduceAdd, Nat.reduceMul, Nat.add_zero, Nat.zero_add, decide_true, decide_false, Bool.not_true, Bool.not_false, Bool.false_eq_true, List.nil_append, List.append_nil, List.contains_nil]
      refine hΨ _ _ (fin_ret (rv1 rfl ?_))
      simp only [show ((1 : Int) = 0) = False by simp, if_false]
      rw [if_pos hin]
      refine ⟨rfl, kp.mono (fun q e => .inr (.inl e)), s.own.keep kp (fun e => s.d0 b e rfl), ?_, s.r1.keep kp (fun q e e' => s.d q e' e), s.d, s.d0, s.d1, s.sd, s.sz, by simpa using s.l0, s.l1⟩
      rw [List.length_set]; exact o1
    · rw [if_neg hin] at hn
      obtain ⟨rfl, rfl⟩ := hn
      refine .ret ?_
      simp only [mach, ↓reduceIte, Nat.reduceEqDiff, Nat.reduceAdd, Nat.reduceMul, Nat.add_zero, Nat.zero_add, decide_true, decide_false, Bool.not_true, Bool.not_false, Bool.false_eq_true, List.nil_append, List.append_nil, List.contains_nil]
      refine hΨ _ _ (fin_ret (rv1 rfl ?_))
      simp [hin, tup]

/-- A row is cleared and cut to nothing. -/
theorem ows_clear {h : AH} {v : Value} {n : Nat} {xs : List Int} (ho : Ows h 3 1 v n (ns xs)) :
    ∃ h2 v', clrv h [iv 0] v = some h2 ∧ Keep (bk v) h h2 ∧ h2.length = h.length ∧ sllv h2 3 1 v none (some (iv 0)) = some (v', none) ∧ Ows h2 3 1 v' 0 (ns []) ∧ (∀ q, bk v' q → bk v q) ∧ v'.cells.size = 1 ∧ v'.cells.toList.length = 1 ∧ v'.cells.toList = [v'] ∧ v'.cells.toList.all Value.oneCell' = true := by
  by_cases h0 : n = 0
  · subst h0
    generalize hc : ns xs = cs at ho
    cases ho with
    | nil => exact ⟨h, .slice none 0 0, rfl, .refl _ _, rfl, rfl, .nil, fun q e => e, rfl, rfl, rfl, rfl⟩
    | @mk b n c all cs hb hl hn hx =>
      have hb' := hb
      obtain ⟨g, hg⟩ := hb
      have : helem h b = some 3 := by simp [helem, hg]
      refine ⟨h, .slice (some ⟨b, 0, none⟩) 0 c, by simp [clrv], .refl _ _, rfl, by simp [sllv, this, bnd], .mk hb' hl (by omega) (by simp [ns]), fun q e => e, rfl, rfl, rfl, rfl⟩
  · obtain ⟨b, c, all, rfl, hb, hl, hn, hx⟩ := ows_open ho (by omega)
    have hf : (List.replicate n [iv 0]).flatten = List.replicate n (iv 0) := by
      induction n with
      | zero => rfl
      | succ n _ => simp [List.replicate_succ]
    obtain ⟨h2, k1, k2, k3, k4⟩ := hb.store (i := 0) (vs := List.replicate n (iv 0)) (by simp; omega) (by simp [Value.oneCell'])
    have k2' := k2
    obtain ⟨g, hg⟩ := k2
    have : helem h2 b = some 3 := by simp [helem, hg]
    refine ⟨h2, .slice (some ⟨b, 0, none⟩) 0 c, by simp only [clrv, h0, if_false, hf, k1], k3, k4, by simp [sllv, this, bnd], .mk k2' (by simp; omega) (by omega) (by simp [ns]), fun q e => e, rfl, rfl, rfl, rfl⟩


theorem Flip_ok {h : AH} {b : Nat} {size side : Int} {v0 v1 : Value} {x0 x1 : List Int} (s : Spc h b size side v0 v1 x0 x1) :
    Gets Try.prog 14 [.pointer (some ⟨b, 0, none⟩)] h (fun res h' => res = .ret (.tuple #[]) ∧ Keep (Owns b v0 v1) h h' ∧
      ∃ v0' v1', Spc h' b size (1 - side) v0' v1' (if side = 0 then x0 else []) (if side = 0 then [] else x1) ∧ ∀ q, Owns b v0' v1' q → Owns b v0 v1 q) := by
  refine Gets.of (keep := false) hP (draw_ok hM) k14 (by rfl) (fun Ψ hΨ => ?_)
  have hsz := s.sz
  rcases s.sd with rfl | rfl
  · simp only [mach, ↓reduceIte, Nat.reduceEqDiff, Nat.reduceAdd, Nat.reduceMul, Nat.add_zero, Nat.zero_add, decide_true, decide_false, Bool.not_true, Bool.not_false, Bool.false_eq_true, List.nil_append, List.append_nil, List.contains_nil, r14, s.own.cells.ld, vc_int, vc_bool, vc_str, vc_ptr, vc_sl, vc_map, vc_if, vc_ni, vc_nf, vc_fn, vc_agg, vs1, vl1, vsl, vll, bldv_nil, bldv_cons, lt0, lts, ld0, lds, ldn, lac, lln, llc, lg0, lgs, Nat.reduceLeDiff, true_and, and_true, and_self, Nat.reduceLT, Int.reduceEq, a20, a21, z0, z1, w10, w11]
    refine XH_own s.own rfl (by simp [Value.cells]) rfl (fun h1 q1 q2 q3 => ?_)
    have r1 := s.r1.keep q2 (fun q e e' => s.d1 q e e')
    have r0 := s.r0.keep q2 (fun q e e' => s.d0 q e e')
    simp only [vc_int, vl1, lts, lt0, lac, List.nil_append, llc, lln, Nat.reduceAdd, lds, ld0, ldn, List.append_nil] at q1
    obtain ⟨h2, v', c1, c2, c3, c4, c5, c6, c7, c8, c9, c10⟩ := ows_clear r1
    have own2 := q1.keep c2 (fun e => s.d1 b e rfl)
    simp only [mach, ↓reduceIte, Nat.reduceEqDiff, Nat.reduceAdd, Nat.reduceMul, Nat.add_zero, Nat.zero_add, decide_true, decide_false, Bool.not_true, Bool.not_false, Bool.false_eq_true, List.nil_append, List.append_nil, List.contains_nil, q1.cells.ld, vc_int, vc_bool, vc_str, vc_ptr, vc_sl, vc_map, vc_if, vc_ni, vc_nf, vc_fn, vc_agg, vs1, vl1, vsl, vll, bldv_nil, bldv_cons, lt0, lts, ld0, lds, ldn, lac, lln, llc, lg0, lgs, Nat.reduceLeDiff, true_and, and_true, and_self, Nat.reduceLT, Int.reduceEq, a20, a21, z0, z1, w10, w11, c1]
    simp only [mach, ↓reduceIte, Nat.reduceEqDiff, Nat.reduceAdd, Nat.reduceMul, Nat.add_zero, Nat.zero_add, decide_true, decide_false, Bool.not_true, Bool.not_false, Bool.false_eq_true, List.nil_append, List.append_nil, List.contains_nil, own2.cells.ld, vc_int, vc_bool, vc_str, vc_ptr, vc_sl, vc_map, vc_if, vc_ni, vc_nf, vc_fn, vc_agg, vs1, vl1, vsl, vll, bldv_nil, bldv_cons, lt0, lts, ld0, lds, ldn, lac, lln, llc, lg0, lgs, Nat.reduceLeDiff, true_and, and_true, and_self, Nat.reduceLT, Int.reduceEq, a20, a21, z0, z1, w10, w11, c4]
    refine XH_own own2 c7.symm (by rw [c8]; simp) c10 (fun h3 p1 p2 p3 => ?_)
    rw [c8, c9] at p1
    simp only [mach, ↓reduceIte, Nat.reduceEqDiff, Nat.reduceAdd, Nat.reduceMul, Nat.add_zero, Nat.zero_add, decide_true, decide_false, Bool.not_true, Bool.not_false, Bool.false_eq_true, List.nil_append, List.append_nil, List.contains_nil]
    refine hΨ _ _ (fin_norm ⟨rfl, ?_, v0, v', ⟨p1, (r0.keep c2 (fun q e e' => s.d q e e')).keep p2 (fun q e e' => s.d0 q e e'), c5.keep p2 (fun q e e' => s.d1 q (c6 q e) e'), fun q e e' => s.d q e (c6 q e'), s.d0, fun q e => s.d1 q (c6 q e), .inr rfl, s.sz, s.l0, by simpa using hsz.1⟩, ?_⟩)
    · exact ((q2.mono (T := Owns b v0 v1) fun q e => .inl e).trans (c2.mono fun q e => .inr (.inr e))).trans (p2.mono fun q e => .inl e)
    · rintro q (e | e | e)
      · exact .inl e
      · exact .inr (.inl e)
      · exact .inr (.inr (c6 q e))
  · simp only [mach, ↓reduceIte, Nat.reduceEqDiff, Nat.reduceAdd, Nat.reduceMul, Nat.add_zero, Nat.zero_add, decide_true, decide_false, Bool.not_true, Bool.not_false, Bool.false_eq_true, List.nil_append, List.append_nil, List.contains_nil, r14, s.own.cells.ld, vc_int, vc_bool, vc_str, vc_ptr, vc_sl, vc_map, vc_if, vc_ni, vc_nf, vc_fn, vc_agg, vs1, vl1, vsl, vll, bldv_nil, bldv_cons, lt0, lts, ld0, lds, ldn, lac, lln, llc, lg0, lgs, Nat.reduceLeDiff, true_and, and_true, and_self, Nat.reduceLT, Int.reduceEq, a20, a21, z0, z1, w10, w11]
    refine XH_own s.own rfl (by simp [Value.cells]) rfl (fun h1 q1 q2 q3 => ?_)
    have r1 := s.r1.keep q2 (fun q e e' => s.d1 q e e')
    have r0 := s.r0.keep q2 (fun q e e' => s.d0 q e e')
    simp only [vc_int, vl1, lts, lt0, lac, List.nil_append, llc, lln, Nat.reduceAdd, lds, ld0, ldn, List.append_nil] at q1
    obtain ⟨h2, v', c1, c2, c3, c4, c5, c6, c7, c8, c9, c10⟩ := ows_clear r0
    have own2 := q1.keep c2 (fun e => s.d0 b e rfl)
    simp only [mach, ↓reduceIte, Nat.reduceEqDiff, Nat.reduceAdd, Nat.reduceMul, Nat.add_zero, Nat.zero_add, decide_true, decide_false, Bool.not_true, Bool.not_false, Bool.false_eq_true, List.nil_append, List.append_nil, List.contains_nil, q1.cells.ld, vc_int, vc_bool, vc_str, vc_ptr, vc_sl, vc_map, vc_if, vc_ni, vc_nf, vc_fn, vc_agg, vs1, vl1, vsl, vll, bldv_nil, bldv_cons, lt0, lts, ld0, lds, ldn, lac, lln, llc, lg0, lgs, Nat.reduceLeDiff, true_and, and_true, and_self, Nat.reduceLT, Int.reduceEq, a20, a21, z0, z1, w10, w11, c1]
    simp only [mach, ↓reduceIte, Nat.reduceEqDiff, Nat.reduceAdd, Nat.reduceMul, Nat.add_zero, Nat.zero_add, decide_true, decide_false, Bool.not_true, Bool.not_false, Bool.false_eq_true, List.nil_append, List.append_nil, List.contains_nil, own2.cells.ld, vc_int, vc_bool, vc_str, vc_ptr, vc_sl, vc_map, vc_if, vc_ni, vc_nf, vc_fn, vc_agg, vs1, vl1, vsl, vll, bldv_nil, bldv_cons, lt0, lts, ld0, lds, ldn, lac, lln, llc, lg0, lgs, Nat.reduceLeDiff, true_and, and_true, and_self, Nat.reduceLT, Int.reduceEq, a20, a21, z0, z1, w10, w11, c4]
    refine XH_own own2 c7.symm (by rw [c8]; simp) c10 (fun h3 p1 p2 p3 => ?_)
    rw [c8, c9] at p1
    simp only [mach, ↓reduceIte, Nat.reduceEqDiff, Nat.reduceAdd, Nat.reduceMul, Nat.add_zero, Nat.zero_add, decide_true, decide_false, Bool.not_true, Bool.not_false, Bool.false_eq_true, List.nil_append, List.append_nil, List.contains_nil]
    refine hΨ _ _ (fin_norm ⟨rfl, ?_, v', v1, ⟨p1, c5.keep p2 (fun q e e' => s.d0 q (c6 q e) e'), (r1.keep c2 (fun q e e' => s.d q e' e)).keep p2 (fun q e e' => s.d1 q e e'), fun q e e' => s.d q (c6 q e) e', fun q e => s.d0 q (c6 q e), s.d1, .inl rfl, s.sz, by simpa using hsz.1, s.l1⟩, ?_⟩)
    · exact ((q2.mono (T := Owns b v0 v1) fun q e => .inl e).trans (c2.mono fun q e => .inr (.inl e))).trans (p2.mono fun q e => .inl e)
    · rintro q (e | e | e)
      · exact .inl e
      · exact .inr (.inl (c6 q e))
      · exact .inr (.inr e)

end Go.S02
