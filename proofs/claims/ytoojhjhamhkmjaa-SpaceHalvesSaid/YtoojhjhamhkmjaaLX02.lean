/- Layer 2: SpaceHalves. -/
import Derived.Test.YtoojhjhamhkmjaaLW02
set_option linter.unusedVariables false
set_option linter.unusedSimpArgs false
namespace Go.S02
open Go Go.Eng Go.Proofs

theorem lk_in {xs : List Int} {i : Nat} {x : Int} (hx : xs[i]? = some x) : lk xs (i : Int) = #[iv x, iv 0] := by
  have := (List.getElem?_eq_some_iff.1 hx).1
  unfold lk
  rw [if_pos (by omega), Int.toNat_natCast, hx]; rfl
theorem lk_out {xs : List Int} {i : Nat} (hi : i = xs.length) : lk xs (i : Int) = #[iv 0, iv 2] := by
  unfold lk
  rw [if_neg (by omega)]
theorem f10 : ((1 : Int) = 0) = False := by simp

/-- What is kept beside the blocks that came later. -/
theorem later {h : AH} {b : Nat} {u v0 v1 : Value} (hub : ∀ q, rb u q → q < b) (hw : ∀ q, Owns b v0 v1 q → b ≤ q) : ∀ q, rb u q → ¬ Owns b v0 v1 q := fun q e o => by
  have := hub q e; have := hw q o; omega

set_option maxHeartbeats 1000000 in
theorem Halves_ok {h : AH} {u w : Value} {xs ys : List Int} {m k : Nat} (hu : Rds h 1 u m (ns xs)) (hv : Rds h 1 w k (ns ys)) (hm0 : m ≤ 9223372036854775807) (hk0 : k ≤ 9223372036854775807) : Gets Try.prog 4 [u, w] h (fun res _ => res = .ret (.bool true)) := by
  refine Gets.of (keep := false) hP (draw_ok hM) k4 (by rfl) (fun Ψ hΨ => ?_)
  have hlen : xs.length = m := by have := hu.len; rw [ns_len, Nat.mul_one] at this; exact this
  have hlen2 : ys.length = k := by have := hv.len; rw [ns_len, Nat.mul_one] at this; exact this
  obtain ⟨ua, uc, rfl⟩ := shape hu
  obtain ⟨wa, wc, rfl⟩ := shape hv
  have hub : ∀ q, rb (.slice ua m uc) q → q < h.length := hu.lt
  have hwb : ∀ q, rb (.slice wa k wc) q → q < h.length := hv.lt
  simp only [mach, ↓reduceIte, Nat.reduceEqDiff, Nat.reduceAdd, Nat.reduceMul, Nat.add_zero, Nat.zero_add, decide_true, decide_false, Bool.not_true, Bool.not_false, Bool.false_eq_true, List.nil_append, List.append_nil, List.contains_nil, r4]
  refine XX_val (wakes_ok h) ?_
  by_cases hk : (m : Int) < k
  · by_cases hN : (1048576 : Int) < (k : Int)
    · simp only [mach, ↓reduceIte, Nat.reduceEqDiff, Nat.reduceAdd, Nat.reduceMul, Nat.add_zero, Nat.zero_add, decide_true, decide_false, Bool.not_true, Bool.not_false, Bool.false_eq_true, List.nil_append, List.append_nil, List.contains_nil, hk, hN]
      exact hΨ _ _ (fin_ret (rv1 rfl rfl))
    simp only [mach, ↓reduceIte, Nat.reduceEqDiff, Nat.reduceAdd, Nat.reduceMul, Nat.add_zero, Nat.zero_add, decide_true, decide_false, Bool.not_true, Bool.not_false, Bool.false_eq_true, List.nil_append, List.append_nil, List.contains_nil, hk, hN]
    refine XX_of (new_ok (k : Int) h) (fun res h1 _ hn => ?_)
    rw [if_pos (by omega)] at hn
    obtain ⟨rfl, rfl⟩ := hn
    refine .ret ?_
    have s1 := new_spc h (k : Int) (by omega)
    have u1 := hu.keep (Keep.push (fun _ => False) h (row 66 h.length [.slice none 0 0, .slice none 0 0, iv (k : Int), iv 0])) (fun _ _ e => e)
    have w1 := hv.keep (Keep.push (fun _ => False) h (row 66 h.length [.slice none 0 0, .slice none 0 0, iv (k : Int), iv 0])) (fun _ _ e => e)
    generalize hh1 : h ++ [row 66 h.length [.slice none 0 0, .slice none 0 0, iv (k : Int), iv 0]] = h1 at s1 u1 w1
    have hl1 : h1.length = h.length + 1 := by rw [← hh1]; simp
    simp only [mach, ↓reduceIte, Nat.reduceEqDiff, Nat.reduceAdd, Nat.reduceMul, Nat.add_zero, Nat.zero_add, decide_true, decide_false, Bool.not_true, Bool.not_false, Bool.false_eq_true, List.nil_append, List.append_nil, List.contains_nil, vc_int, vc_bool, vc_str, vc_ptr, vc_sl, vc_map, vc_if, vc_ni, vc_nf, vc_fn, vc_agg, vs1, vl1, vsl, vll, bldv_nil, bldv_cons, lt0, lts, ld0, lds, ldn, lac, lln, llc, lg0, lgs, Nat.reduceLeDiff, true_and, and_true, and_self, Nat.reduceLT, hh1]
    refine XLo_rule (α := Nat) (fun a => [(0, .slice ua m uc), (1, .slice wa k wc), (5, iv (k : Int)), (6, .pointer (some ⟨h.length, 0, none⟩)), (8, iv a)])
      (fun a h' => a ≤ m ∧ h.length ≤ h'.length ∧ Rds h' 1 (.slice ua m uc) m (ns xs) ∧ Rds h' 1 (.slice wa k wc) k (ns ys) ∧ ∃ v0 v1, Spc h' h.length (k : Int) 0 v0 v1 (xs.take a) [] ∧ ∀ q, Owns h.length v0 v1 q → h.length ≤ q) (fun a => m - a) 0
      ⟨by omega, by omega, u1, w1, _, _, s1, by rintro q (e | e | e); omega; exact e.elim; exact e.elim⟩ ⟨rfl, rfl, rfl, rfl, rfl, trivial⟩ ?_
    rintro i h2 Ψ2 ⟨i1, l2, u2, w2, v0, v1, s2, f2⟩ next out
    by_cases hi : (i : Int) < m
    · have h0i : 0 ≤ (i : Int) := by omega
      have hw2 : IntKind.i64.wrap ((i : Int) + 1) = i + 1 := i64w (by omega) (by omega)
      obtain ⟨x, hx⟩ : ∃ x, xs[(i : Int).toNat]? = some x := ⟨_, List.getElem?_eq_getElem (by simp; omega)⟩
      obtain ⟨b1, o1, c1, e1, _, hld1⟩ := rds_ix u2 (by omega) hx
      cases e1
      rw [Int.toNat_natCast] at hx
      have hr : Rds (h2 ++ [row 3 h2.length [iv x]]) 1 (.slice (some ⟨h2.length, 0, none⟩) 1 1) 1 (ns [x]) := .mk (Own.new h2 3 _ _).cells (by simp) rfl
      have s3 := s2.keep (Keep.push (fun _ => False) h2 (row 3 h2.length [iv x])) (fun _ _ e => e)
      have u3 := u2.keep (Keep.push (fun _ => False) h2 (row 3 h2.length [iv x])) (fun _ _ e => e)
      have w3 := w2.keep (Keep.push (fun _ => False) h2 (row 3 h2.length [iv x])) (fun _ _ e => e)
      have htl : ((xs.take i).length : Int) = i := by simp; omega
      simp only [mach, ↓reduceIte, Nat.reduceEqDiff, Nat.reduceAdd, Nat.reduceMul, Nat.add_zero, Nat.zero_add, decide_true, decide_false, Bool.not_true, Bool.not_false, Bool.false_eq_true, List.nil_append, List.append_nil, List.contains_nil, hi, h0i, and_self, hld1, vc_int, vc_bool, vc_str, vc_ptr, vc_sl, vc_map, vc_if, vc_ni, vc_nf, vc_fn, vc_agg, vs1, vl1, vsl, vll, bldv_nil, bldv_cons, lt0, lts, ld0, lds, ldn, lac, lln, llc, lg0, lgs, Nat.reduceLeDiff, true_and, and_true, and_self, Nat.reduceLT, Nat.mul_one]
      refine XX_of (Alloc_ok s3 hr) (fun res h4 hle hn => ?_)
      simp only [if_true, htl] at hn
      rw [if_neg (by simp; omega)] at hn
      obtain ⟨rfl, kp, v0', v1', s4, ow⟩ := hn
      refine .ret ?_
      simp only [mach, ↓reduceIte, Nat.reduceEqDiff, Nat.reduceAdd, Nat.reduceMul, Nat.add_zero, Nat.zero_add, decide_true, decide_false, Bool.not_true, Bool.not_false, Bool.false_eq_true, List.nil_append, List.append_nil, List.contains_nil, vc_int, vc_bool, vc_str, vc_ptr, vc_sl, vc_map, vc_if, vc_ni, vc_nf, vc_fn, vc_agg, vs1, vl1, vsl, vll, bldv_nil, bldv_cons, lt0, lts, ld0, lds, ldn, lac, lln, llc, lg0, lgs, Nat.reduceLeDiff, true_and, and_true, and_self, Nat.reduceLT, hw2]
      simp only [List.length_append, List.length_singleton] at hle
      refine next (i + 1) _ _ _ ⟨by omega, by omega, u3.keep kp (later (h := h2) hub f2), w3.keep kp (later (h := h2) hwb f2), v0', v1', ?_, ?_⟩ ⟨rfl, rfl, rfl, rfl, ?_, trivial⟩ (by omega)
      · rw [List.take_add_one, hx]; exact s4
      · intro q hq
        rcases ow q hq with e | e
        · exact f2 q e
        · simp at e; omega
      · simp only [Int.natCast_add, Int.cast_ofNat_Int]; rfl
    rw [List.take_of_length_le (by omega)] at s2
    simp only [mach, ↓reduceIte, Nat.reduceEqDiff, Nat.reduceAdd, Nat.reduceMul, Nat.add_zero, Nat.zero_add, decide_true, decide_false, Bool.not_true, Bool.not_false, Bool.false_eq_true, List.nil_append, List.append_nil, List.contains_nil, hi]
    refine out (.exit 0) _ _ _ _ (by intro e; cases e) ?_
    simp only [mach, ↓reduceIte, Nat.reduceEqDiff, Nat.reduceAdd, Nat.reduceMul, Nat.add_zero, Nat.zero_add, decide_true, decide_false, Bool.not_true, Bool.not_false, Bool.false_eq_true, List.nil_append, List.append_nil, List.contains_nil]
    refine XX_of (Flip_ok s2) (fun res h3 hle3 hn => ?_)
    obtain ⟨rfl, kp3, v0', v1', s3, ow3⟩ := hn
    refine .ret ?_
    simp only [if_true, Int.sub_zero] at s3
    have u3 := u2.keep kp3 (later (h := h2) hub f2)
    have w3 := w2.keep kp3 (later (h := h2) hwb f2)
    have f3 : ∀ q, Owns h.length v0' v1' q → h.length ≤ q := fun q e => f2 q (ow3 q e)
    simp only [mach, ↓reduceIte, Nat.reduceEqDiff, Nat.reduceAdd, Nat.reduceMul, Nat.add_zero, Nat.zero_add, decide_true, decide_false, Bool.not_true, Bool.not_false, Bool.false_eq_true, List.nil_append, List.append_nil, List.contains_nil]
    refine XX_of (Alloc_ok s3 w3) (fun res h4 hle4 hn => ?_)
    simp only [f10, if_false, List.length_nil, List.nil_append] at hn
    rw [if_neg (by simp; omega)] at hn
    obtain ⟨rfl, kp4, v0, v1, s4, ow4⟩ := hn
    refine .ret ?_
    have u4 := u3.keep kp4 (later (h := h2) hub f3)
    have w4 := w3.keep kp4 (later (h := h2) hwb f3)
    have f4 : ∀ q, Owns h.length v0 v1 q → h.length ≤ q := fun q e => (ow4 q e).elim (f3 q) (fun e => by omega)
    have g1 := Used_ok s4
    simp only [f10, if_false, hlen2] at g1
    simp only [mach, ↓reduceIte, Nat.reduceEqDiff, Nat.reduceAdd, Nat.reduceMul, Nat.add_zero, Nat.zero_add, decide_true, decide_false, Bool.not_true, Bool.not_false, Bool.false_eq_true, List.nil_append, List.append_nil, List.contains_nil, vc_int, vc_bool, vc_str, vc_ptr, vc_sl, vc_map, vc_if, vc_ni, vc_nf, vc_fn, vc_agg, vs1, vl1, vsl, vll, bldv_nil, bldv_cons, lt0, lts, ld0, lds, ldn, lac, lln, llc, lg0, lgs, Nat.reduceLeDiff, true_and, and_true, and_self, Nat.reduceLT, Int.cast_ofNat_Int]
    refine XX_val g1 ?_
    simp only [mach, ↓reduceIte, Nat.reduceEqDiff, Nat.reduceAdd, Nat.reduceMul, Nat.add_zero, Nat.zero_add, decide_true, decide_false, Bool.not_true, Bool.not_false, Bool.false_eq_true, List.nil_append, List.append_nil, List.contains_nil]
    refine XX_val (Side_ok s4) ?_
    simp only [mach, ↓reduceIte, Nat.reduceEqDiff, Nat.reduceAdd, Nat.reduceMul, Nat.add_zero, Nat.zero_add, decide_true, decide_false, Bool.not_true, Bool.not_false, Bool.false_eq_true, List.nil_append, List.append_nil, List.contains_nil]
    refine XX_val (Size_ok s4) ?_
    simp only [mach, ↓reduceIte, Nat.reduceEqDiff, Nat.reduceAdd, Nat.reduceMul, Nat.add_zero, Nat.zero_add, decide_true, decide_false, Bool.not_true, Bool.not_false, Bool.false_eq_true, List.nil_append, List.append_nil, List.contains_nil]
    refine XLo_rule (α := Nat) (fun a => [(0, .slice ua m uc), (1, .slice wa k wc), (5, iv (k : Int)), (6, .pointer (some ⟨h.length, 0, none⟩)), (13, iv a)])
      (fun a h' => a ≤ m ∧ Rds h' 1 (.slice ua m uc) m (ns xs) ∧ Rds h' 1 (.slice wa k wc) k (ns ys) ∧ ∃ x0, Spc h' h.length (k : Int) 1 v0 v1 x0 ys ∧ x0.length = m ∧ ∀ j, a ≤ j → x0[j]? = xs[j]?) (fun a => m - a) 0
      ⟨by omega, u4, w4, xs, s4, hlen, fun j _ => rfl⟩ ⟨rfl, rfl, rfl, rfl, rfl, trivial⟩ ?_
    rintro i h5 Ψ3 ⟨i1, u5, w5, x0, s5, hl5, hx5⟩ next2 out2
    by_cases hi2 : (i : Int) < m
    · have h0i : 0 ≤ (i : Int) := by omega
      have hw2 : IntKind.i64.wrap ((i : Int) + 1) = i + 1 := i64w (by omega) (by omega)
      obtain ⟨x, hx⟩ : ∃ x, xs[(i : Int).toNat]? = some x := ⟨_, List.getElem?_eq_getElem (by simp; omega)⟩
      obtain ⟨b1, o1, c1, e1, _, hld1⟩ := rds_ix u5 (by omega) hx
      cases e1
      rw [Int.toNat_natCast] at hx
      have g := Old_ok s5 (i : Int)
      simp only [f10, if_false] at g
      rw [lk_in (by rw [hx5 i (Nat.le_refl _), hx])] at g
      simp only [mach, ↓reduceIte, Nat.reduceEqDiff, Nat.reduceAdd, Nat.reduceMul, Nat.add_zero, Nat.zero_add, decide_true, decide_false, Bool.not_true, Bool.not_false, Bool.false_eq_true, List.nil_append, List.append_nil, List.contains_nil, hi2]
      refine XX_val g ?_
      simp only [mach, ↓reduceIte, Nat.reduceEqDiff, Nat.reduceAdd, Nat.reduceMul, Nat.add_zero, Nat.zero_add, decide_true, decide_false, Bool.not_true, Bool.not_false, Bool.false_eq_true, List.nil_append, List.append_nil, List.contains_nil, hi2, h0i, and_self, hld1, vc_int, vc_bool, vc_str, vc_ptr, vc_sl, vc_map, vc_if, vc_ni, vc_nf, vc_fn, vc_agg, vs1, vl1, vsl, vll, bldv_nil, bldv_cons, lt0, lts, ld0, lds, ldn, lac, lln, llc, lg0, lgs, Nat.reduceLeDiff, true_and, and_true, and_self, Nat.reduceLT, Nat.mul_one]
      refine XX_of (SetOld_ok s5 (i : Int) 99) (fun res h6 hle6 hn => ?_)
      simp only [f10, if_false, hl5] at hn
      rw [if_pos (by omega)] at hn
      obtain ⟨rfl, kp6, s6⟩ := hn
      refine .ret ?_
      simp only [mach, ↓reduceIte, Nat.reduceEqDiff, Nat.reduceAdd, Nat.reduceMul, Nat.add_zero, Nat.zero_add, decide_true, decide_false, Bool.not_true, Bool.not_false, Bool.false_eq_true, List.nil_append, List.append_nil, List.contains_nil, hw2]
      refine next2 (i + 1) _ _ _ ⟨by omega, u5.keep kp6 (later (h := h2) hub f4), w5.keep kp6 (later (h := h2) hwb f4), _, s6, by simpa using hl5, fun j hj => ?_⟩ ⟨rfl, rfl, rfl, rfl, ?_, trivial⟩ (by omega)
      · rw [Int.toNat_natCast, List.getElem?_set_ne (by omega)]; exact hx5 j (by omega)
      · simp only [Int.natCast_add, Int.cast_ofNat_Int]; rfl
    simp only [mach, ↓reduceIte, Nat.reduceEqDiff, Nat.reduceAdd, Nat.reduceMul, Nat.add_zero, Nat.zero_add, decide_true, decide_false, Bool.not_true, Bool.not_false, Bool.false_eq_true, List.nil_append, List.append_nil, List.contains_nil, hi2]
    refine out2 (.exit 2) _ _ _ _ (by intro e; cases e) ?_
    simp only [mach, ↓reduceIte, Nat.reduceEqDiff, Nat.reduceAdd, Nat.reduceMul, Nat.add_zero, Nat.zero_add, decide_true, decide_false, Bool.not_true, Bool.not_false, Bool.false_eq_true, List.nil_append, List.append_nil, List.contains_nil]
    refine XLo_rule (α := Nat) (fun a => [(0, .slice ua m uc), (1, .slice wa k wc), (5, iv (k : Int)), (6, .pointer (some ⟨h.length, 0, none⟩)), (16, iv a)])
      (fun a h' => a ≤ k ∧ h' = h5) (fun a => k - a) 0
      ⟨by omega, rfl⟩ ⟨rfl, rfl, rfl, rfl, rfl, trivial⟩ ?_
    rintro i2 h6 Ψ4 ⟨i3, rfl⟩ next3 out3
    by_cases hi3 : (i2 : Int) < k
    · have h0i : 0 ≤ (i2 : Int) := by omega
      have hw2 : IntKind.i64.wrap ((i2 : Int) + 1) = i2 + 1 := i64w (by omega) (by omega)
      obtain ⟨x, hx⟩ : ∃ x, ys[(i2 : Int).toNat]? = some x := ⟨_, List.getElem?_eq_getElem (by simp; omega)⟩
      obtain ⟨b1, o1, c1, e1, _, hld1⟩ := rds_ix w5 (by omega) hx
      cases e1
      rw [Int.toNat_natCast] at hx
      have g := Get_ok s5 (i2 : Int)
      simp only [f10, if_false] at g
      rw [lk_in hx] at g
      simp only [mach, ↓reduceIte, Nat.reduceEqDiff, Nat.reduceAdd, Nat.reduceMul, Nat.add_zero, Nat.zero_add, decide_true, decide_false, Bool.not_true, Bool.not_false, Bool.false_eq_true, List.nil_append, List.append_nil, List.contains_nil, hi3]
      refine XX_val g ?_
      simp only [mach, ↓reduceIte, Nat.reduceEqDiff, Nat.reduceAdd, Nat.reduceMul, Nat.add_zero, Nat.zero_add, decide_true, decide_false, Bool.not_true, Bool.not_false, Bool.false_eq_true, List.nil_append, List.append_nil, List.contains_nil, hi3, h0i, and_self, hld1, vc_int, vc_bool, vc_str, vc_ptr, vc_sl, vc_map, vc_if, vc_ni, vc_nf, vc_fn, vc_agg, vs1, vl1, vsl, vll, bldv_nil, bldv_cons, lt0, lts, ld0, lds, ldn, lac, lln, llc, lg0, lgs, Nat.reduceLeDiff, true_and, and_true, and_self, Nat.reduceLT, Nat.mul_one, hw2]
      refine next3 (i2 + 1) _ _ _ ⟨by omega, rfl⟩ ⟨rfl, rfl, rfl, rfl, ?_, trivial⟩ (by omega)
      simp only [Int.natCast_add, Int.cast_ofNat_Int]; rfl
    simp only [mach, ↓reduceIte, Nat.reduceEqDiff, Nat.reduceAdd, Nat.reduceMul, Nat.add_zero, Nat.zero_add, decide_true, decide_false, Bool.not_true, Bool.not_false, Bool.false_eq_true, List.nil_append, List.append_nil, List.contains_nil, hi3]
    refine out3 (.exit 4) _ _ _ _ (by intro e; cases e) ?_
    have g2 := Get_ok s5 (k : Int)
    simp only [f10, if_false] at g2
    rw [lk_out hlen2.symm] at g2
    have g3 := Old_ok s5 (m : Int)
    simp only [f10, if_false] at g3
    rw [lk_out hl5.symm] at g3
    simp only [mach, ↓reduceIte, Nat.reduceEqDiff, Nat.reduceAdd, Nat.reduceMul, Nat.add_zero, Nat.zero_add, decide_true, decide_false, Bool.not_true, Bool.not_false, Bool.false_eq_true, List.nil_append, List.append_nil, List.contains_nil]
    refine XX_val g2 ?_
    simp only [mach, ↓reduceIte, Nat.reduceEqDiff, Nat.reduceAdd, Nat.reduceMul, Nat.add_zero, Nat.zero_add, decide_true, decide_false, Bool.not_true, Bool.not_false, Bool.false_eq_true, List.nil_append, List.append_nil, List.contains_nil, vc_int, vc_bool, vc_str, vc_ptr, vc_sl, vc_map, vc_if, vc_ni, vc_nf, vc_fn, vc_agg, vs1, vl1, vsl, vll, bldv_nil, bldv_cons, lt0, lts, ld0, lds, ldn, lac, lln, llc, lg0, lgs, Nat.reduceLeDiff, true_and, and_true, and_self, Nat.reduceLT]
    refine XX_val g3 ?_
    simp only [mach, ↓reduceIte, Nat.reduceEqDiff, Nat.reduceAdd, Nat.reduceMul, Nat.add_zero, Nat.zero_add, decide_true, decide_false, Bool.not_true, Bool.not_false, Bool.false_eq_true, List.nil_append, List.append_nil, List.contains_nil, vc_int, vc_bool, vc_str, vc_ptr, vc_sl, vc_map, vc_if, vc_ni, vc_nf, vc_fn, vc_agg, vs1, vl1, vsl, vll, bldv_nil, bldv_cons, lt0, lts, ld0, lds, ldn, lac, lln, llc, lg0, lgs, Nat.reduceLeDiff, true_and, and_true, and_self, Nat.reduceLT]
    refine XX_of (Flip_ok s5) (fun res h7 hle7 hn => ?_)
    obtain ⟨rfl, kp7, y0, y1, s7, ow7⟩ := hn
    refine .ret ?_
    simp only [f10, if_false, Int.sub_self] at s7
    have w7 := w5.keep kp7 (later (h := h2) hwb f4)
    simp only [mach, ↓reduceIte, Nat.reduceEqDiff, Nat.reduceAdd, Nat.reduceMul, Nat.add_zero, Nat.zero_add, decide_true, decide_false, Bool.not_true, Bool.not_false, Bool.false_eq_true, List.nil_append, List.append_nil, List.contains_nil]
    refine XLo_rule (α := Nat) (fun a => [(0, .slice ua m uc), (1, .slice wa k wc), (5, iv (k : Int)), (6, .pointer (some ⟨h.length, 0, none⟩)), (23, iv a)])
      (fun a h' => a ≤ k ∧ h' = h7) (fun a => k - a) 0
      ⟨by omega, rfl⟩ ⟨rfl, rfl, rfl, rfl, rfl, trivial⟩ ?_
    rintro i4 h8 Ψ5 ⟨i5, rfl⟩ next4 out4
    by_cases hi4 : (i4 : Int) < k
    · have h0i : 0 ≤ (i4 : Int) := by omega
      have hw2 : IntKind.i64.wrap ((i4 : Int) + 1) = i4 + 1 := i64w (by omega) (by omega)
      obtain ⟨x, hx⟩ : ∃ x, ys[(i4 : Int).toNat]? = some x := ⟨_, List.getElem?_eq_getElem (by simp; omega)⟩
      obtain ⟨b1, o1, c1, e1, _, hld1⟩ := rds_ix w7 (by omega) hx
      cases e1
      rw [Int.toNat_natCast] at hx
      have g := Old_ok s7 (i4 : Int)
      simp only [if_true] at g
      rw [lk_in hx] at g
      simp only [mach, ↓reduceIte, Nat.reduceEqDiff, Nat.reduceAdd, Nat.reduceMul, Nat.add_zero, Nat.zero_add, decide_true, decide_false, Bool.not_true, Bool.not_false, Bool.false_eq_true, List.nil_append, List.append_nil, List.contains_nil, hi4]
      refine XX_val g ?_
      simp only [mach, ↓reduceIte, Nat.reduceEqDiff, Nat.reduceAdd, Nat.reduceMul, Nat.add_zero, Nat.zero_add, decide_true, decide_false, Bool.not_true, Bool.not_false, Bool.false_eq_true, List.nil_append, List.append_nil, List.contains_nil, hi4, h0i, and_self, hld1, vc_int, vc_bool, vc_str, vc_ptr, vc_sl, vc_map, vc_if, vc_ni, vc_nf, vc_fn, vc_agg, vs1, vl1, vsl, vll, bldv_nil, bldv_cons, lt0, lts, ld0, lds, ldn, lac, lln, llc, lg0, lgs, Nat.reduceLeDiff, true_and, and_true, and_self, Nat.reduceLT, Nat.mul_one, hw2]
      refine next4 (i4 + 1) _ _ _ ⟨by omega, rfl⟩ ⟨rfl, rfl, rfl, rfl, ?_, trivial⟩ (by omega)
      simp only [Int.natCast_add, Int.cast_ofNat_Int]; rfl
    simp only [mach, ↓reduceIte, Nat.reduceEqDiff, Nat.reduceAdd, Nat.reduceMul, Nat.add_zero, Nat.zero_add, decide_true, decide_false, Bool.not_true, Bool.not_false, Bool.false_eq_true, List.nil_append, List.append_nil, List.contains_nil, hi4]
    refine out4 (.exit 6) _ _ _ _ (by intro e; cases e) ?_
    have g4 := Old_ok s7 (k : Int)
    simp only [if_true] at g4
    rw [lk_out hlen2.symm] at g4
    have g5 := Used_ok s7
    simp only [if_true, List.length_nil] at g5
    simp only [mach, ↓reduceIte, Nat.reduceEqDiff, Nat.reduceAdd, Nat.reduceMul, Nat.add_zero, Nat.zero_add, decide_true, decide_false, Bool.not_true, Bool.not_false, Bool.false_eq_true, List.nil_append, List.append_nil, List.contains_nil]
    refine XX_val g4 ?_
    simp only [mach, ↓reduceIte, Nat.reduceEqDiff, Nat.reduceAdd, Nat.reduceMul, Nat.add_zero, Nat.zero_add, decide_true, decide_false, Bool.not_true, Bool.not_false, Bool.false_eq_true, List.nil_append, List.append_nil, List.contains_nil, vc_int, vc_bool, vc_str, vc_ptr, vc_sl, vc_map, vc_if, vc_ni, vc_nf, vc_fn, vc_agg, vs1, vl1, vsl, vll, bldv_nil, bldv_cons, lt0, lts, ld0, lds, ldn, lac, lln, llc, lg0, lgs, Nat.reduceLeDiff, true_and, and_true, and_self, Nat.reduceLT]
    refine XX_val g5 ?_
    simp only [mach, ↓reduceIte, Nat.reduceEqDiff, Nat.reduceAdd, Nat.reduceMul, Nat.add_zero, Nat.zero_add, decide_true, decide_false, Bool.not_true, Bool.not_false, Bool.false_eq_true, List.nil_append, List.append_nil, List.contains_nil, Int.cast_ofNat_Int]
    refine XX_val (Side_ok s7) ?_
    simp only [mach, ↓reduceIte, Nat.reduceEqDiff, Nat.reduceAdd, Nat.reduceMul, Nat.add_zero, Nat.zero_add, decide_true, decide_false, Bool.not_true, Bool.not_false, Bool.false_eq_true, List.nil_append, List.append_nil, List.contains_nil]
    exact hΨ _ _ (fin_ret (rv1 rfl rfl))
  · by_cases hN : (1048576 : Int) < (m : Int)
    · simp only [mach, ↓reduceIte, Nat.reduceEqDiff, Nat.reduceAdd, Nat.reduceMul, Nat.add_zero, Nat.zero_add, decide_true, decide_false, Bool.not_true, Bool.not_false, Bool.false_eq_true, List.nil_append, List.append_nil, List.contains_nil, hk, hN]
      exact hΨ _ _ (fin_ret (rv1 rfl rfl))
    simp only [mach, ↓reduceIte, Nat.reduceEqDiff, Nat.reduceAdd, Nat.reduceMul, Nat.add_zero, Nat.zero_add, decide_true, decide_false, Bool.not_true, Bool.not_false, Bool.false_eq_true, List.nil_append, List.append_nil, List.contains_nil, hk, hN]
    refine XX_of (new_ok (m : Int) h) (fun res h1 _ hn => ?_)
    rw [if_pos (by omega)] at hn
    obtain ⟨rfl, rfl⟩ := hn
    refine .ret ?_
    have s1 := new_spc h (m : Int) (by omega)
    have u1 := hu.keep (Keep.push (fun _ => False) h (row 66 h.length [.slice none 0 0, .slice none 0 0, iv (m : Int), iv 0])) (fun _ _ e => e)
    have w1 := hv.keep (Keep.push (fun _ => False) h (row 66 h.length [.slice none 0 0, .slice none 0 0, iv (m : Int), iv 0])) (fun _ _ e => e)
    generalize hh1 : h ++ [row 66 h.length [.slice none 0 0, .slice none 0 0, iv (m : Int), iv 0]] = h1 at s1 u1 w1
    have hl1 : h1.length = h.length + 1 := by rw [← hh1]; simp
    simp only [mach, ↓reduceIte, Nat.reduceEqDiff, Nat.reduceAdd, Nat.reduceMul, Nat.add_zero, Nat.zero_add, decide_true, decide_false, Bool.not_true, Bool.not_false, Bool.false_eq_true, List.nil_append, List.append_nil, List.contains_nil, vc_int, vc_bool, vc_str, vc_ptr, vc_sl, vc_map, vc_if, vc_ni, vc_nf, vc_fn, vc_agg, vs1, vl1, vsl, vll, bldv_nil, bldv_cons, lt0, lts, ld0, lds, ldn, lac, lln, llc, lg0, lgs, Nat.reduceLeDiff, true_and, and_true, and_self, Nat.reduceLT, hh1]
    refine XLo_rule (α := Nat) (fun a => [(0, .slice ua m uc), (1, .slice wa k wc), (5, iv (m : Int)), (6, .pointer (some ⟨h.length, 0, none⟩)), (8, iv a)])
      (fun a h' => a ≤ m ∧ h.length ≤ h'.length ∧ Rds h' 1 (.slice ua m uc) m (ns xs) ∧ Rds h' 1 (.slice wa k wc) k (ns ys) ∧ ∃ v0 v1, Spc h' h.length (m : Int) 0 v0 v1 (xs.take a) [] ∧ ∀ q, Owns h.length v0 v1 q → h.length ≤ q) (fun a => m - a) 0
      ⟨by omega, by omega, u1, w1, _, _, s1, by rintro q (e | e | e); omega; exact e.elim; exact e.elim⟩ ⟨rfl, rfl, rfl, rfl, rfl, trivial⟩ ?_
    rintro i h2 Ψ2 ⟨i1, l2, u2, w2, v0, v1, s2, f2⟩ next out
    by_cases hi : (i : Int) < m
    · have h0i : 0 ≤ (i : Int) := by omega
      have hw2 : IntKind.i64.wrap ((i : Int) + 1) = i + 1 := i64w (by omega) (by omega)
      obtain ⟨x, hx⟩ : ∃ x, xs[(i : Int).toNat]? = some x := ⟨_, List.getElem?_eq_getElem (by simp; omega)⟩
      obtain ⟨b1, o1, c1, e1, _, hld1⟩ := rds_ix u2 (by omega) hx
      cases e1
      rw [Int.toNat_natCast] at hx
      have hr : Rds (h2 ++ [row 3 h2.length [iv x]]) 1 (.slice (some ⟨h2.length, 0, none⟩) 1 1) 1 (ns [x]) := .mk (Own.new h2 3 _ _).cells (by simp) rfl
      have s3 := s2.keep (Keep.push (fun _ => False) h2 (row 3 h2.length [iv x])) (fun _ _ e => e)
      have u3 := u2.keep (Keep.push (fun _ => False) h2 (row 3 h2.length [iv x])) (fun _ _ e => e)
      have w3 := w2.keep (Keep.push (fun _ => False) h2 (row 3 h2.length [iv x])) (fun _ _ e => e)
      have htl : ((xs.take i).length : Int) = i := by simp; omega
      simp only [mach, ↓reduceIte, Nat.reduceEqDiff, Nat.reduceAdd, Nat.reduceMul, Nat.add_zero, Nat.zero_add, decide_true, decide_false, Bool.not_true, Bool.not_false, Bool.false_eq_true, List.nil_append, List.append_nil, List.contains_nil, hi, h0i, and_self, hld1, vc_int, vc_bool, vc_str, vc_ptr, vc_sl, vc_map, vc_if, vc_ni, vc_nf, vc_fn, vc_agg, vs1, vl1, vsl, vll, bldv_nil, bldv_cons, lt0, lts, ld0, lds, ldn, lac, lln, llc, lg0, lgs, Nat.reduceLeDiff, true_and, and_true, and_self, Nat.reduceLT, Nat.mul_one]
      refine XX_of (Alloc_ok s3 hr) (fun res h4 hle hn => ?_)
      simp only [if_true, htl] at hn
      rw [if_neg (by simp; omega)] at hn
      obtain ⟨rfl, kp, v0', v1', s4, ow⟩ := hn
      refine .ret ?_
      simp only [mach, ↓reduceIte, Nat.reduceEqDiff, Nat.reduceAdd, Nat.reduceMul, Nat.add_zero, Nat.zero_add, decide_true, decide_false, Bool.not_true, Bool.not_false, Bool.false_eq_true, List.nil_append, List.append_nil, List.contains_nil, vc_int, vc_bool, vc_str, vc_ptr, vc_sl, vc_map, vc_if, vc_ni, vc_nf, vc_fn, vc_agg, vs1, vl1, vsl, vll, bldv_nil, bldv_cons, lt0, lts, ld0, lds, ldn, lac, lln, llc, lg0, lgs, Nat.reduceLeDiff, true_and, and_true, and_self, Nat.reduceLT, hw2]
      simp only [List.length_append, List.length_singleton] at hle
      refine next (i + 1) _ _ _ ⟨by omega, by omega, u3.keep kp (later (h := h2) hub f2), w3.keep kp (later (h := h2) hwb f2), v0', v1', ?_, ?_⟩ ⟨rfl, rfl, rfl, rfl, ?_, trivial⟩ (by omega)
      · rw [List.take_add_one, hx]; exact s4
      · intro q hq
        rcases ow q hq with e | e
        · exact f2 q e
        · simp at e; omega
      · simp only [Int.natCast_add, Int.cast_ofNat_Int]; rfl
    rw [List.take_of_length_le (by omega)] at s2
    simp only [mach, ↓reduceIte, Nat.reduceEqDiff, Nat.reduceAdd, Nat.reduceMul, Nat.add_zero, Nat.zero_add, decide_true, decide_false, Bool.not_true, Bool.not_false, Bool.false_eq_true, List.nil_append, List.append_nil, List.contains_nil, hi]
    refine out (.exit 0) _ _ _ _ (by intro e; cases e) ?_
    simp only [mach, ↓reduceIte, Nat.reduceEqDiff, Nat.reduceAdd, Nat.reduceMul, Nat.add_zero, Nat.zero_add, decide_true, decide_false, Bool.not_true, Bool.not_false, Bool.false_eq_true, List.nil_append, List.append_nil, List.contains_nil]
    refine XX_of (Flip_ok s2) (fun res h3 hle3 hn => ?_)
    obtain ⟨rfl, kp3, v0', v1', s3, ow3⟩ := hn
    refine .ret ?_
    simp only [if_true, Int.sub_zero] at s3
    have u3 := u2.keep kp3 (later (h := h2) hub f2)
    have w3 := w2.keep kp3 (later (h := h2) hwb f2)
    have f3 : ∀ q, Owns h.length v0' v1' q → h.length ≤ q := fun q e => f2 q (ow3 q e)
    simp only [mach, ↓reduceIte, Nat.reduceEqDiff, Nat.reduceAdd, Nat.reduceMul, Nat.add_zero, Nat.zero_add, decide_true, decide_false, Bool.not_true, Bool.not_false, Bool.false_eq_true, List.nil_append, List.append_nil, List.contains_nil]
    refine XX_of (Alloc_ok s3 w3) (fun res h4 hle4 hn => ?_)
    simp only [f10, if_false, List.length_nil, List.nil_append] at hn
    rw [if_neg (by simp; omega)] at hn
    obtain ⟨rfl, kp4, v0, v1, s4, ow4⟩ := hn
    refine .ret ?_
    have u4 := u3.keep kp4 (later (h := h2) hub f3)
    have w4 := w3.keep kp4 (later (h := h2) hwb f3)
    have f4 : ∀ q, Owns h.length v0 v1 q → h.length ≤ q := fun q e => (ow4 q e).elim (f3 q) (fun e => by omega)
    have g1 := Used_ok s4
    simp only [f10, if_false, hlen2] at g1
    simp only [mach, ↓reduceIte, Nat.reduceEqDiff, Nat.reduceAdd, Nat.reduceMul, Nat.add_zero, Nat.zero_add, decide_true, decide_false, Bool.not_true, Bool.not_false, Bool.false_eq_true, List.nil_append, List.append_nil, List.contains_nil, vc_int, vc_bool, vc_str, vc_ptr, vc_sl, vc_map, vc_if, vc_ni, vc_nf, vc_fn, vc_agg, vs1, vl1, vsl, vll, bldv_nil, bldv_cons, lt0, lts, ld0, lds, ldn, lac, lln, llc, lg0, lgs, Nat.reduceLeDiff, true_and, and_true, and_self, Nat.reduceLT, Int.cast_ofNat_Int]
    refine XX_val g1 ?_
    simp only [mach, ↓reduceIte, Nat.reduceEqDiff, Nat.reduceAdd, Nat.reduceMul, Nat.add_zero, Nat.zero_add, decide_true, decide_false, Bool.not_true, Bool.not_false, Bool.false_eq_true, List.nil_append, List.append_nil, List.contains_nil]
    refine XX_val (Side_ok s4) ?_
    simp only [mach, ↓reduceIte, Nat.reduceEqDiff, Nat.reduceAdd, Nat.reduceMul, Nat.add_zero, Nat.zero_add, decide_true, decide_false, Bool.not_true, Bool.not_false, Bool.false_eq_true, List.nil_append, List.append_nil, List.contains_nil]
    refine XX_val (Size_ok s4) ?_
    simp only [mach, ↓reduceIte, Nat.reduceEqDiff, Nat.reduceAdd, Nat.reduceMul, Nat.add_zero, Nat.zero_add, decide_true, decide_false, Bool.not_true, Bool.not_false, Bool.false_eq_true, List.nil_append, List.append_nil, List.contains_nil]
    refine XLo_rule (α := Nat) (fun a => [(0, .slice ua m uc), (1, .slice wa k wc), (5, iv (m : Int)), (6, .pointer (some ⟨h.length, 0, none⟩)), (13, iv a)])
      (fun a h' => a ≤ m ∧ Rds h' 1 (.slice ua m uc) m (ns xs) ∧ Rds h' 1 (.slice wa k wc) k (ns ys) ∧ ∃ x0, Spc h' h.length (m : Int) 1 v0 v1 x0 ys ∧ x0.length = m ∧ ∀ j, a ≤ j → x0[j]? = xs[j]?) (fun a => m - a) 0
      ⟨by omega, u4, w4, xs, s4, hlen, fun j _ => rfl⟩ ⟨rfl, rfl, rfl, rfl, rfl, trivial⟩ ?_
    rintro i h5 Ψ3 ⟨i1, u5, w5, x0, s5, hl5, hx5⟩ next2 out2
    by_cases hi2 : (i : Int) < m
    · have h0i : 0 ≤ (i : Int) := by omega
      have hw2 : IntKind.i64.wrap ((i : Int) + 1) = i + 1 := i64w (by omega) (by omega)
      obtain ⟨x, hx⟩ : ∃ x, xs[(i : Int).toNat]? = some x := ⟨_, List.getElem?_eq_getElem (by simp; omega)⟩
      obtain ⟨b1, o1, c1, e1, _, hld1⟩ := rds_ix u5 (by omega) hx
      cases e1
      rw [Int.toNat_natCast] at hx
      have g := Old_ok s5 (i : Int)
      simp only [f10, if_false] at g
      rw [lk_in (by rw [hx5 i (Nat.le_refl _), hx])] at g
      simp only [mach, ↓reduceIte, Nat.reduceEqDiff, Nat.reduceAdd, Nat.reduceMul, Nat.add_zero, Nat.zero_add, decide_true, decide_false, Bool.not_true, Bool.not_false, Bool.false_eq_true, List.nil_append, List.append_nil, List.contains_nil, hi2]
      refine XX_val g ?_
      simp only [mach, ↓reduceIte, Nat.reduceEqDiff, Nat.reduceAdd, Nat.reduceMul, Nat.add_zero, Nat.zero_add, decide_true, decide_false, Bool.not_true, Bool.not_false, Bool.false_eq_true, List.nil_append, List.append_nil, List.contains_nil, hi2, h0i, and_self, hld1, vc_int, vc_bool, vc_str, vc_ptr, vc_sl, vc_map, vc_if, vc_ni, vc_nf, vc_fn, vc_agg, vs1, vl1, vsl, vll, bldv_nil, bldv_cons, lt0, lts, ld0, lds, ldn, lac, lln, llc, lg0, lgs, Nat.reduceLeDiff, true_and, and_true, and_self, Nat.reduceLT, Nat.mul_one]
      refine XX_of (SetOld_ok s5 (i : Int) 99) (fun res h6 hle6 hn => ?_)
      simp only [f10, if_false, hl5] at hn
      rw [if_pos (by omega)] at hn
      obtain ⟨rfl, kp6, s6⟩ := hn
      refine .ret ?_
      simp only [mach, ↓reduceIte, Nat.reduceEqDiff, Nat.reduceAdd, Nat.reduceMul, Nat.add_zero, Nat.zero_add, decide_true, decide_false, Bool.not_true, Bool.not_false, Bool.false_eq_true, List.nil_append, List.append_nil, List.contains_nil, hw2]
      refine next2 (i + 1) _ _ _ ⟨by omega, u5.keep kp6 (later (h := h2) hub f4), w5.keep kp6 (later (h := h2) hwb f4), _, s6, by simpa using hl5, fun j hj => ?_⟩ ⟨rfl, rfl, rfl, rfl, ?_, trivial⟩ (by omega)
      · rw [Int.toNat_natCast, List.getElem?_set_ne (by omega)]; exact hx5 j (by omega)
      · simp only [Int.natCast_add, Int.cast_ofNat_Int]; rfl
    simp only [mach, ↓reduceIte, Nat.reduceEqDiff, Nat.reduceAdd, Nat.reduceMul, Nat.add_zero, Nat.zero_add, decide_true, decide_false, Bool.not_true, Bool.not_false, Bool.false_eq_true, List.nil_append, List.append_nil, List.contains_nil, hi2]
    refine out2 (.exit 2) _ _ _ _ (by intro e; cases e) ?_
    simp only [mach, ↓reduceIte, Nat.reduceEqDiff, Nat.reduceAdd, Nat.reduceMul, Nat.add_zero, Nat.zero_add, decide_true, decide_false, Bool.not_true, Bool.not_false, Bool.false_eq_true, List.nil_append, List.append_nil, List.contains_nil]
    refine XLo_rule (α := Nat) (fun a => [(0, .slice ua m uc), (1, .slice wa k wc), (5, iv (m : Int)), (6, .pointer (some ⟨h.length, 0, none⟩)), (16, iv a)])
      (fun a h' => a ≤ k ∧ h' = h5) (fun a => k - a) 0
      ⟨by omega, rfl⟩ ⟨rfl, rfl, rfl, rfl, rfl, trivial⟩ ?_
    rintro i2 h6 Ψ4 ⟨i3, rfl⟩ next3 out3
    by_cases hi3 : (i2 : Int) < k
    · have h0i : 0 ≤ (i2 : Int) := by omega
      have hw2 : IntKind.i64.wrap ((i2 : Int) + 1) = i2 + 1 := i64w (by omega) (by omega)
      obtain ⟨x, hx⟩ : ∃ x, ys[(i2 : Int).toNat]? = some x := ⟨_, List.getElem?_eq_getElem (by simp; omega)⟩
      obtain ⟨b1, o1, c1, e1, _, hld1⟩ := rds_ix w5 (by omega) hx
      cases e1
      rw [Int.toNat_natCast] at hx
      have g := Get_ok s5 (i2 : Int)
      simp only [f10, if_false] at g
      rw [lk_in hx] at g
      simp only [mach, ↓reduceIte, Nat.reduceEqDiff, Nat.reduceAdd, Nat.reduceMul, Nat.add_zero, Nat.zero_add, decide_true, decide_false, Bool.not_true, Bool.not_false, Bool.false_eq_true, List.nil_append, List.append_nil, List.contains_nil, hi3]
      refine XX_val g ?_
      simp only [mach, ↓reduceIte, Nat.reduceEqDiff, Nat.reduceAdd, Nat.reduceMul, Nat.add_zero, Nat.zero_add, decide_true, decide_false, Bool.not_true, Bool.not_false, Bool.false_eq_true, List.nil_append, List.append_nil, List.contains_nil, hi3, h0i, and_self, hld1, vc_int, vc_bool, vc_str, vc_ptr, vc_sl, vc_map, vc_if, vc_ni, vc_nf, vc_fn, vc_agg, vs1, vl1, vsl, vll, bldv_nil, bldv_cons, lt0, lts, ld0, lds, ldn, lac, lln, llc, lg0, lgs, Nat.reduceLeDiff, true_and, and_true, and_self, Nat.reduceLT, Nat.mul_one, hw2]
      refine next3 (i2 + 1) _ _ _ ⟨by omega, rfl⟩ ⟨rfl, rfl, rfl, rfl, ?_, trivial⟩ (by omega)
      simp only [Int.natCast_add, Int.cast_ofNat_Int]; rfl
    simp only [mach, ↓reduceIte, Nat.reduceEqDiff, Nat.reduceAdd, Nat.reduceMul, Nat.add_zero, Nat.zero_add, decide_true, decide_false, Bool.not_true, Bool.not_false, Bool.false_eq_true, List.nil_append, List.append_nil, List.contains_nil, hi3]
    refine out3 (.exit 4) _ _ _ _ (by intro e; cases e) ?_
    have g2 := Get_ok s5 (k : Int)
    simp only [f10, if_false] at g2
    rw [lk_out hlen2.symm] at g2
    have g3 := Old_ok s5 (m : Int)
    simp only [f10, if_false] at g3
    rw [lk_out hl5.symm] at g3
    simp only [mach, ↓reduceIte, Nat.reduceEqDiff, Nat.reduceAdd, Nat.reduceMul, Nat.add_zero, Nat.zero_add, decide_true, decide_false, Bool.not_true, Bool.not_false, Bool.false_eq_true, List.nil_append, List.append_nil, List.contains_nil]
    refine XX_val g2 ?_
    simp only [mach, ↓reduceIte, Nat.reduceEqDiff, Nat.reduceAdd, Nat.reduceMul, Nat.add_zero, Nat.zero_add, decide_true, decide_false, Bool.not_true, Bool.not_false, Bool.false_eq_true, List.nil_append, List.append_nil, List.contains_nil, vc_int, vc_bool, vc_str, vc_ptr, vc_sl, vc_map, vc_if, vc_ni, vc_nf, vc_fn, vc_agg, vs1, vl1, vsl, vll, bldv_nil, bldv_cons, lt0, lts, ld0, lds, ldn, lac, lln, llc, lg0, lgs, Nat.reduceLeDiff, true_and, and_true, and_self, Nat.reduceLT]
    refine XX_val g3 ?_
    simp only [mach, ↓reduceIte, Nat.reduceEqDiff, Nat.reduceAdd, Nat.reduceMul, Nat.add_zero, Nat.zero_add, decide_true, decide_false, Bool.not_true, Bool.not_false, Bool.false_eq_true, List.nil_append, List.append_nil, List.contains_nil, vc_int, vc_bool, vc_str, vc_ptr, vc_sl, vc_map, vc_if, vc_ni, vc_nf, vc_fn, vc_agg, vs1, vl1, vsl, vll, bldv_nil, bldv_cons, lt0, lts, ld0, lds, ldn, lac, lln, llc, lg0, lgs, Nat.reduceLeDiff, true_and, and_true, and_self, Nat.reduceLT]
    refine XX_of (Flip_ok s5) (fun res h7 hle7 hn => ?_)
    obtain ⟨rfl, kp7, y0, y1, s7, ow7⟩ := hn
    refine .ret ?_
    simp only [f10, if_false, Int.sub_self] at s7
    have w7 := w5.keep kp7 (later (h := h2) hwb f4)
    simp only [mach, ↓reduceIte, Nat.reduceEqDiff, Nat.reduceAdd, Nat.reduceMul, Nat.add_zero, Nat.zero_add, decide_true, decide_false, Bool.not_true, Bool.not_false, Bool.false_eq_true, List.nil_append, List.append_nil, List.contains_nil]
    refine XLo_rule (α := Nat) (fun a => [(0, .slice ua m uc), (1, .slice wa k wc), (5, iv (m : Int)), (6, .pointer (some ⟨h.length, 0, none⟩)), (23, iv a)])
      (fun a h' => a ≤ k ∧ h' = h7) (fun a => k - a) 0
      ⟨by omega, rfl⟩ ⟨rfl, rfl, rfl, rfl, rfl, trivial⟩ ?_
    rintro i4 h8 Ψ5 ⟨i5, rfl⟩ next4 out4
    by_cases hi4 : (i4 : Int) < k
    · have h0i : 0 ≤ (i4 : Int) := by omega
      have hw2 : IntKind.i64.wrap ((i4 : Int) + 1) = i4 + 1 := i64w (by omega) (by omega)
      obtain ⟨x, hx⟩ : ∃ x, ys[(i4 : Int).toNat]? = some x := ⟨_, List.getElem?_eq_getElem (by simp; omega)⟩
      obtain ⟨b1, o1, c1, e1, _, hld1⟩ := rds_ix w7 (by omega) hx
      cases e1
      rw [Int.toNat_natCast] at hx
      have g := Old_ok s7 (i4 : Int)
      simp only [if_true] at g
      rw [lk_in hx] at g
      simp only [mach, ↓reduceIte, Nat.reduceEqDiff, Nat.reduceAdd, Nat.reduceMul, Nat.add_zero, Nat.zero_add, decide_true, decide_false, Bool.not_true, Bool.not_false, Bool.false_eq_true, List.nil_append, List.append_nil, List.contains_nil, hi4]
      refine XX_val g ?_
      simp only [mach, ↓reduceIte, Nat.reduceEqDiff, Nat.reduceAdd, Nat.reduceMul, Nat.add_zero, Nat.zero_add, decide_true, decide_false, Bool.not_true, Bool.not_false, Bool.false_eq_true, List.nil_append, List.append_nil, List.contains_nil, hi4, h0i, and_self, hld1, vc_int, vc_bool, vc_str, vc_ptr, vc_sl, vc_map, vc_if, vc_ni, vc_nf, vc_fn, vc_agg, vs1, vl1, vsl, vll, bldv_nil, bldv_cons, lt0, lts, ld0, lds, ldn, lac, lln, llc, lg0, lgs, Nat.reduceLeDiff, true_and, and_true, and_self, Nat.reduceLT, Nat.mul_one, hw2]
      refine next4 (i4 + 1) _ _ _ ⟨by omega, rfl⟩ ⟨rfl, rfl, rfl, rfl, ?_, trivial⟩ (by omega)
      simp only [Int.natCast_add, Int.cast_ofNat_Int]; rfl
    simp only [mach, ↓reduceIte, Nat.reduceEqDiff, Nat.reduceAdd, Nat.reduceMul, Nat.add_zero, Nat.zero_add, decide_true, decide_false, Bool.not_true, Bool.not_false, Bool.false_eq_true, List.nil_append, List.append_nil, List.contains_nil, hi4]
    refine out4 (.exit 6) _ _ _ _ (by intro e; cases e) ?_
    have g4 := Old_ok s7 (k : Int)
    simp only [if_true] at g4
    rw [lk_out hlen2.symm] at g4
    have g5 := Used_ok s7
    simp only [if_true, List.length_nil] at g5
    simp only [mach, ↓reduceIte, Nat.reduceEqDiff, Nat.reduceAdd, Nat.reduceMul, Nat.add_zero, Nat.zero_add, decide_true, decide_false, Bool.not_true, Bool.not_false, Bool.false_eq_true, List.nil_append, List.append_nil, List.contains_nil]
    refine XX_val g4 ?_
    simp only [mach, ↓reduceIte, Nat.reduceEqDiff, Nat.reduceAdd, Nat.reduceMul, Nat.add_zero, Nat.zero_add, decide_true, decide_false, Bool.not_true, Bool.not_false, Bool.false_eq_true, List.nil_append, List.append_nil, List.contains_nil, vc_int, vc_bool, vc_str, vc_ptr, vc_sl, vc_map, vc_if, vc_ni, vc_nf, vc_fn, vc_agg, vs1, vl1, vsl, vll, bldv_nil, bldv_cons, lt0, lts, ld0, lds, ldn, lac, lln, llc, lg0, lgs, Nat.reduceLeDiff, true_and, and_true, and_self, Nat.reduceLT]
    refine XX_val g5 ?_
    simp only [mach, ↓reduceIte, Nat.reduceEqDiff, Nat.reduceAdd, Nat.reduceMul, Nat.add_zero, Nat.zero_add, decide_true, decide_false, Bool.not_true, Bool.not_false, Bool.false_eq_true, List.nil_append, List.append_nil, List.contains_nil, Int.cast_ofNat_Int]
    refine XX_val (Side_ok s7) ?_
    simp only [mach, ↓reduceIte, Nat.reduceEqDiff, Nat.reduceAdd, Nat.reduceMul, Nat.add_zero, Nat.zero_add, decide_true, decide_false, Bool.not_true, Bool.not_false, Bool.false_eq_true, List.nil_append, List.append_nil, List.contains_nil]
    exact hΨ _ _ (fin_ret (rv1 rfl rfl))

end Go.S02
