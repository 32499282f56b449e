/- Layer 2: SpaceKeeps. -/
import Derived.Test.YtoojhjhamhkmjaaLT02
import Derived.Test.YtoojhjhamhkmjaaLE16
set_option linter.unusedVariables false
set_option linter.unusedSimpArgs false
namespace Go.S02
open Go Go.Eng Go.Proofs

theorem wakes_ok (h : AH) : Gets Try.prog 8 [] h (fun res h' => h' = h ∧ res = .ret (.bool true)) := by
  have hr : isTrue (afun Try.prog (adraw Try.prog false) (fun _ => false) 100 100 8 [] []) = true := by kernel_rfl
  obtain ⟨h1, he⟩ := isTrue_inv hr
  exact ⟨_, h, Holds.closed ((afun_ok hP (fun F hF => adraw_ok hM hF) 100).holds he) rfl rfl h, Nat.le_refl _, rfl, rfl⟩

theorem ows_open {h : AH} {e n : Nat} {v : Value} {cs : List Value} (ho : Ows h e 1 v n cs) (hn : 0 < n) : ∃ b c all, v = .slice (some ⟨b, 0, none⟩) n c ∧ Own h b e all ∧ all.length = c ∧ n ≤ c ∧ all.take n = cs := by
  cases ho with
  | nil => omega
  | @mk b n c all cs h1 h2 h3 h4 => exact ⟨b, c, all, rfl, h1, by rw [h2, Nat.mul_one], by omega, by simpa using h4⟩

theorem sl_ok {h : AH} {b n c m : Nat} {all : List Value} (hb : Own h b 3 all) (hm : m ≤ c) : sllv h 3 1 (.slice (some ⟨b, 0, none⟩) n c) none (some (iv m)) = some (.slice (some ⟨b, 0, none⟩) m c, none) := by
  obtain ⟨g, hg⟩ := hb
  have : helem h b = some 3 := by simp [helem, hg]
  simp only [sllv, this, if_true, bnd, Option.bind_some]
  rw [if_pos (by omega)]
  simp

theorem new_spc (h : AH) (size : Int) (hs : 0 ≤ size ∧ size ≤ 1048576) : Spc (h ++ [row 66 h.length [.slice none 0 0, .slice none 0 0, iv size, iv 0]]) h.length size 0 (.slice none 0 0) (.slice none 0 0) [] [] :=
  ⟨Own.new h 66 _ _, .nil, .nil, fun q e => e.elim, fun q e => e.elim, fun q e => e.elim, .inl rfl, hs, by simpa using hs.1, by simpa using hs.1⟩

/-- A row that is filled, as far as it is. -/
def Fill (h : AH) (b c : Nat) (x : Int) (i : Nat) : Prop := ∃ all, Own h b 3 all ∧ all.length = c ∧ ∀ j, j < i → all[j]? = some (iv x)

theorem Fill.rds {h : AH} {b c n m : Nat} {x : Int} (f : Fill h b c x n) (hm : m ≤ n) (hc : m ≤ c) : Rds h 1 (.slice (some ⟨b, 0, none⟩) m c) m (ns (List.replicate m x)) := by
  obtain ⟨all, h1, h2, h3⟩ := f
  refine .mk h1.cells (by omega) ?_
  apply List.ext_getElem?
  intro j
  rw [ns_get, List.drop_zero, Nat.mul_one, List.getElem?_take]
  split
  · rw [h3 j (by omega), List.getElem?_replicate, if_pos (by omega)]; rfl
  · rw [List.getElem?_replicate, if_neg (by omega)]; rfl

theorem fill_step {h : AH} {b c i : Nat} {x : Int} {all : List Value} (ho : Own h b 3 (all.take i ++ (iv x).cells.toList ++ all.drop (i + (iv x).cells.toList.length))) (hl : all.length = c) (hi : i < c) (hx : ∀ j, j < i → all[j]? = some (iv x)) : Fill h b c x (i + 1) := by
  simp only [Value.cells] at ho
  refine ⟨_, ho, by simp; omega, fun j hj => ?_⟩
  by_cases hji : j < i
  · rw [List.append_assoc, List.getElem?_append_left (by simp; omega), List.getElem?_take, if_pos hji]; exact hx j hji
  · have : j = i := by omega
    subst this
    rw [List.append_assoc, List.getElem?_append_right (by simp; omega)]
    simp only [List.length_take, Nat.min_eq_left (Nat.le_of_lt (hl ▸ hi)), Nat.sub_self]; rfl

theorem Keeps_ok {h : AH} {u : Value} {xs : List Int} {m : Nat} (hu : Rds h 1 u m (ns xs)) (hm0 : m ≤ 9223372036854775807) : Gets Try.prog 3 [u] h (fun res _ => res = .ret (.bool true)) := by
  refine Gets.of (keep := false) hP (draw_ok hM) k3 (by rfl) (fun Ψ hΨ => ?_)
  have hlen : xs.length = m := by have := hu.len; rw [ns_len, Nat.mul_one] at this; exact this
  obtain ⟨ua, uc, rfl⟩ := shape hu
  simp only [mach, ↓reduceIte, Nat.reduceEqDiff, Nat.reduceAdd, Nat.reduceMul, Nat.add_zero, Nat.zero_add, decide_true, decide_false, Bool.not_true, Bool.not_false, Bool.false_eq_true, List.nil_append, List.append_nil, List.contains_nil, r3]
  refine XX_val (wakes_ok h) ?_
  by_cases hm : (262144 : Int) < m
  · simp only [mach, ↓reduceIte, Nat.reduceEqDiff, Nat.reduceAdd, Nat.reduceMul, Nat.add_zero, Nat.zero_add, decide_true, decide_false, Bool.not_true, Bool.not_false, Bool.false_eq_true, List.nil_append, List.append_nil, List.contains_nil, hm]
    exact hΨ _ _ (fin_ret (rv1 rfl rfl))
  have hw : IntKind.i64.wrap (2 * (m : Int)) = 2 * m := i64w (by omega) (by omega)
  simp only [mach, ↓reduceIte, Nat.reduceEqDiff, Nat.reduceAdd, Nat.reduceMul, Nat.add_zero, Nat.zero_add, decide_true, decide_false, Bool.not_true, Bool.not_false, Bool.false_eq_true, List.nil_append, List.append_nil, List.contains_nil, hm, hw]
  refine XX_of (new_ok (2 * m) h) (fun res h1 _ hn => ?_)
  rw [if_pos (by omega)] at hn
  obtain ⟨rfl, rfl⟩ := hn
  refine .ret ?_
  have s1 := new_spc h (2 * m) (by omega)
  have u1 := hu.keep (Keep.push (fun _ => False) h (row 66 h.length [.slice none 0 0, .slice none 0 0, iv (2 * m), iv 0])) (fun _ _ e => e)
  have hub : ∀ q, rb (.slice ua m uc) q → q < h.length := hu.lt
  generalize hh1 : h ++ [row 66 h.length [.slice none 0 0, .slice none 0 0, iv (2 * m), iv 0]] = h1 at s1 u1
  have hl1 : h1.length = h.length + 1 := by rw [← hh1]; simp
  simp only [mach, ↓reduceIte, Nat.reduceEqDiff, Nat.reduceAdd, Nat.reduceMul, Nat.add_zero, Nat.zero_add, decide_true, decide_false, Bool.not_true, Bool.not_false, Bool.false_eq_true, List.nil_append, List.append_nil, List.contains_nil, vc_int, vc_bool, vc_str, vc_ptr, vc_sl, vc_map, vc_if, vc_ni, vc_nf, vc_fn, vc_agg, vs1, vl1, vsl, vll, bldv_nil, bldv_cons, lt0, lts, ld0, lds, ldn, lac, lln, llc, lg0, lgs, Nat.reduceLeDiff, true_and, and_true, and_self, Nat.reduceLT, Int.reduceEq, hh1]
  refine XX_of (Roomy_ok u1 (by omega)) (fun res h2 _ hn => ?_)
  obtain ⟨v, rfl, o2, kp2, fr2⟩ := hn
  obtain ⟨b, c, all, rfl, ob, hall, hc, htk⟩ := ows_open o2 (by omega)
  have hbl : h1.length ≤ b := fr2 b rfl
  have hb2 : b < h2.length := ob.lt
  refine .ret ?_
  have s2 := s1.keep kp2 (fun _ _ e => e)
  have u2 := u1.keep kp2 (fun _ _ e => e)
  have p2 : Rds h2 1 (.slice (some ⟨b, 0, none⟩) m c) m (ns xs) := by
    refine .mk ob.cells (by omega) ?_
    have : (all.take (m + 20)).take m = ns xs := by rw [htk, ns_app, List.take_append_of_le_length (by rw [ns_len]; omega), List.take_of_length_le (by rw [ns_len]; omega)]
    rw [List.take_take, Nat.min_eq_left (by omega)] at this
    simpa using this
  simp only [mach, ↓reduceIte, Nat.reduceEqDiff, Nat.reduceAdd, Nat.reduceMul, Nat.add_zero, Nat.zero_add, decide_true, decide_false, Bool.not_true, Bool.not_false, Bool.false_eq_true, List.nil_append, List.append_nil, List.contains_nil, sl_ok ob (show m ≤ c by omega)]
  refine XX_of (Alloc_ok s2 p2) (fun res h3 _ hn => ?_)
  rw [if_neg (by simp; omega)] at hn
  obtain ⟨rfl, kp3, v0, v1, s3, ow3⟩ := hn
  refine .ret ?_
  simp only [if_true, List.nil_append] at s3
  have nb3 : ¬ Owns h.length (.slice none 0 0) (.slice none 0 0) b := by rintro (e | e | e); omega; exact e; exact e
  have o3 := o2.keep kp3 (fun q e => by cases e; exact nb3)
  have u3 := u2.keep kp3 (fun q e o => by have := hub q e; rcases o with o | o | o; omega; exact o; exact o)
  have n3 : ¬ Owns h.length v0 v1 b := fun e => (ow3 b e).elim nb3 (fun e => by omega)
  have nu3 : ∀ q, rb (.slice ua m uc) q → ¬ Owns h.length v0 v1 q := fun q e o => (ow3 q o).elim (fun o => by have := hub q e; rcases o with o | o | o; omega; exact o; exact o) (fun o => by have := hub q e; omega)
  simp only [mach, ↓reduceIte, Nat.reduceEqDiff, Nat.reduceAdd, Nat.reduceMul, Nat.add_zero, Nat.zero_add, decide_true, decide_false, Bool.not_true, Bool.not_false, Bool.false_eq_true, List.nil_append, List.append_nil, List.contains_nil, vc_int, vc_bool, vc_str, vc_ptr, vc_sl, vc_map, vc_if, vc_ni, vc_nf, vc_fn, vc_agg, vs1, vl1, vsl, vll, bldv_nil, bldv_cons, lt0, lts, ld0, lds, ldn, lac, lln, llc, lg0, lgs, Nat.reduceLeDiff, true_and, and_true, and_self, Nat.reduceLT, Int.reduceEq]
  refine XX_val (Kept_ok o3 u3 (by omega)) ?_
  simp only [mach, ↓reduceIte, Nat.reduceEqDiff, Nat.reduceAdd, Nat.reduceMul, Nat.add_zero, Nat.zero_add, decide_true, decide_false, Bool.not_true, Bool.not_false, Bool.false_eq_true, List.nil_append, List.append_nil, List.contains_nil]
  have ob3 : Own h3 b 3 all := ob.keep kp3 nb3
  refine XLo_rule (α := Nat) (fun a => [(0, .slice ua m uc), (3, .pointer (some ⟨h.length, 0, none⟩)), (5, .slice (some ⟨b, 0, none⟩) (m + 20) c), (8, iv a)])
    (fun a h' => a ≤ m + 20 ∧ Spc h' h.length (2 * m) 0 v0 v1 xs [] ∧ Rds h' 1 (.slice ua m uc) m (ns xs) ∧ Fill h' b c (-1) a ∧ h3.length ≤ h'.length) (fun a => m + 20 - a) 0
    ⟨by omega, s3, u3, ⟨all, ob3, hall, fun j hj => by omega⟩, Nat.le_refl _⟩ ⟨rfl, rfl, rfl, rfl, trivial⟩ ?_
  rintro i h4 Ψ2 ⟨i1, s4, u4, ⟨al4, f4, f4l, f4x⟩, le4⟩ next out
  by_cases hi : (i : Int) < m + 20
  · have h0i : 0 ≤ (i : Int) := by omega
    have hw2 : IntKind.i64.wrap ((i : Int) + 1) = i + 1 := i64w (by omega) (by omega)
    simp only [mach, ↓reduceIte, Nat.reduceEqDiff, Nat.reduceAdd, Nat.reduceMul, Nat.add_zero, Nat.zero_add, decide_true, decide_false, Bool.not_true, Bool.not_false, Bool.false_eq_true, List.nil_append, List.append_nil, List.contains_nil, hi, h0i, and_self, hw2, Int.natCast_add, Int.cast_ofNat_Int, Int.toNat_natCast, Nat.mul_one]
    refine XH_own f4 rfl (by simp [Value.cells]; omega) rfl (fun h5 q1 q2 q3 => ?_)
    simp only [mach, ↓reduceIte, Nat.reduceEqDiff, Nat.reduceAdd, Nat.reduceMul, Nat.add_zero, Nat.zero_add, decide_true, decide_false, Bool.not_true, Bool.not_false, Bool.false_eq_true, List.nil_append, List.append_nil, List.contains_nil, hw2]
    refine next (i + 1) _ _ _ ⟨by omega, s4.keep q2 (fun q e o => n3 (o ▸ e)), u4.keep q2 (fun q e o => by have := hub q e; omega), fill_step q1 f4l (by omega) f4x, by omega⟩ ⟨rfl, rfl, rfl, ?_, trivial⟩ (by omega)
    simp only [Int.natCast_add, Int.cast_ofNat_Int]; rfl
  have hi' : i = m + 20 := by omega
  have p4 : Rds h4 1 (.slice (some ⟨b, 0, none⟩) m c) m (ns (List.replicate m (-1))) := Fill.rds ⟨al4, f4, f4l, f4x⟩ (by omega) (by omega)
  simp only [mach, ↓reduceIte, Nat.reduceEqDiff, Nat.reduceAdd, Nat.reduceMul, Nat.add_zero, Nat.zero_add, decide_true, decide_false, Bool.not_true, Bool.not_false, Bool.false_eq_true, List.nil_append, List.append_nil, List.contains_nil, hi, Int.natCast_add, Int.cast_ofNat_Int]
  refine out (.exit 0) _ _ _ _ (by intro e; cases e) ?_
  simp only [mach, ↓reduceIte, Nat.reduceEqDiff, Nat.reduceAdd, Nat.reduceMul, Nat.add_zero, Nat.zero_add, decide_true, decide_false, Bool.not_true, Bool.not_false, Bool.false_eq_true, List.nil_append, List.append_nil, List.contains_nil, sl_ok f4 (show m ≤ c by omega)]
  refine XX_of (Alloc_ok s4 p4) (fun res h5 _ hn => ?_)
  rw [if_neg (by simp; omega)] at hn
  obtain ⟨rfl, kp5, w0, w1, s5, ow5⟩ := hn
  refine .ret ?_
  simp only [if_true] at s5
  have ob5 := f4.keep kp5 n3
  have u5 := u4.keep kp5 nu3
  have n5 : ¬ Owns h.length w0 w1 b := fun e => (ow5 b e).elim n3 (fun e => by have := f4.lt; omega)
  simp only [mach, ↓reduceIte, Nat.reduceEqDiff, Nat.reduceAdd, Nat.reduceMul, Nat.add_zero, Nat.zero_add, decide_true, decide_false, Bool.not_true, Bool.not_false, Bool.false_eq_true, List.nil_append, List.append_nil, List.contains_nil, vc_int, vc_bool, vc_str, vc_ptr, vc_sl, vc_map, vc_if, vc_ni, vc_nf, vc_fn, vc_agg, vs1, vl1, vsl, vll, bldv_nil, bldv_cons, lt0, lts, ld0, lds, ldn, lac, lln, llc, lg0, lgs, Nat.reduceLeDiff, true_and, and_true, and_self, Nat.reduceLT, Int.reduceEq]
  refine XLo_rule (α := Nat) (fun a => [(0, .slice ua m uc), (3, .pointer (some ⟨h.length, 0, none⟩)), (5, .slice (some ⟨b, 0, none⟩) (m + 20) c), (7, iv 0), (9, iv a)])
    (fun a h' => a ≤ m + 20 ∧ Spc h' h.length (2 * m) 0 w0 w1 (xs ++ List.replicate m (-1)) [] ∧ Rds h' 1 (.slice ua m uc) m (ns xs) ∧ Fill h' b c (-2) a ∧ h5.length ≤ h'.length) (fun a => m + 20 - a) 0
    ⟨by omega, s5, u5, ⟨al4, ob5, f4l, fun j hj => by omega⟩, Nat.le_refl _⟩ ⟨rfl, rfl, rfl, rfl, rfl, trivial⟩ ?_
  rintro i2 h6 Ψ3 ⟨i1, s6, u6, ⟨al6, f6, f6l, f6x⟩, le6⟩ next2 out2
  by_cases hi2 : (i2 : Int) < m + 20
  · have h0i : 0 ≤ (i2 : Int) := by omega
    have hw2 : IntKind.i64.wrap ((i2 : Int) + 1) = i2 + 1 := i64w (by omega) (by omega)
    simp only [mach, ↓reduceIte, Nat.reduceEqDiff, Nat.reduceAdd, Nat.reduceMul, Nat.add_zero, Nat.zero_add, decide_true, decide_false, Bool.not_true, Bool.not_false, Bool.false_eq_true, List.nil_append, List.append_nil, List.contains_nil, hi2, h0i, and_self, hw2, Int.natCast_add, Int.cast_ofNat_Int, Int.toNat_natCast, Nat.mul_one]
    refine XH_own f6 rfl (by simp [Value.cells]; omega) rfl (fun h7 q1 q2 q3 => ?_)
    simp only [mach, ↓reduceIte, Nat.reduceEqDiff, Nat.reduceAdd, Nat.reduceMul, Nat.add_zero, Nat.zero_add, decide_true, decide_false, Bool.not_true, Bool.not_false, Bool.false_eq_true, List.nil_append, List.append_nil, List.contains_nil, hw2]
    refine next2 (i2 + 1) _ _ _ ⟨by omega, s6.keep q2 (fun q e o => n5 (o ▸ e)), u6.keep q2 (fun q e o => by have := hub q e; omega), fill_step q1 f6l (by omega) f6x, by omega⟩ ⟨rfl, rfl, rfl, rfl, ?_, trivial⟩ (by omega)
    simp only [Int.natCast_add, Int.cast_ofNat_Int]; rfl
  simp only [mach, ↓reduceIte, Nat.reduceEqDiff, Nat.reduceAdd, Nat.reduceMul, Nat.add_zero, Nat.zero_add, decide_true, decide_false, Bool.not_true, Bool.not_false, Bool.false_eq_true, List.nil_append, List.append_nil, List.contains_nil, hi2, Int.natCast_add, Int.cast_ofNat_Int]
  refine out2 (.exit 2) _ _ _ _ (by intro e; cases e) ?_
  simp only [mach, ↓reduceIte, Nat.reduceEqDiff, Nat.reduceAdd, Nat.reduceMul, Nat.add_zero, Nat.zero_add, decide_true, decide_false, Bool.not_true, Bool.not_false, Bool.false_eq_true, List.nil_append, List.append_nil, List.contains_nil]
  refine XLo_rule (α := Nat) (fun a => [(0, .slice ua m uc), (3, .pointer (some ⟨h.length, 0, none⟩)), (10, iv a)])
    (fun a h' => a ≤ m ∧ Spc h' h.length (2 * m) 0 w0 w1 (xs ++ List.replicate m (-1)) [] ∧ Rds h' 1 (.slice ua m uc) m (ns xs)) (fun a => m - a) 0
    ⟨by omega, s6, u6⟩ ⟨rfl, rfl, rfl, trivial⟩ ?_
  rintro i3 h8 Ψ4 ⟨i1, s8, u8⟩ next3 out3
  by_cases hi3 : (i3 : Int) < m
  · have h0i : 0 ≤ (i3 : Int) := by omega
    have hw2 : IntKind.i64.wrap ((i3 : Int) + 1) = i3 + 1 := i64w (by omega) (by omega)
    have hw3 : IntKind.i64.wrap ((m : Int) + i3) = m + i3 := i64w (by omega) (by omega)
    obtain ⟨x, hx⟩ : ∃ x, xs[(i3 : Int).toNat]? = some x := ⟨_, List.getElem?_eq_getElem (by simp; omega)⟩
    obtain ⟨b1, o1, c1, e1, _, hld1⟩ := rds_ix u8 (by omega) hx
    cases e1
    have g1 := Get_ok s8 (i3 : Int)
    have g2 := Get_ok s8 ((m : Int) + i3)
    rw [show lk (if (0 : Int) = 0 then xs ++ List.replicate m (-1) else []) (i3 : Int) = #[iv x, iv 0] by
      simp only [if_true, lk, List.length_append, List.length_replicate]
      rw [if_pos (by omega), List.getElem?_append_left (by omega), hx]; rfl] at g1
    rw [show lk (if (0 : Int) = 0 then xs ++ List.replicate m (-1) else []) ((m : Int) + i3) = #[iv (-1), iv 0] by
      simp only [if_true, lk, List.length_append, List.length_replicate]
      rw [if_pos (by omega), List.getElem?_append_right (by omega), List.getElem?_replicate, if_pos (by omega)]; rfl] at g2
    simp only [mach, ↓reduceIte, Nat.reduceEqDiff, Nat.reduceAdd, Nat.reduceMul, Nat.add_zero, Nat.zero_add, decide_true, decide_false, Bool.not_true, Bool.not_false, Bool.false_eq_true, List.nil_append, List.append_nil, List.contains_nil, hi3]
    refine XX_val g1 ?_
    simp only [mach, ↓reduceIte, Nat.reduceEqDiff, Nat.reduceAdd, Nat.reduceMul, Nat.add_zero, Nat.zero_add, decide_true, decide_false, Bool.not_true, Bool.not_false, Bool.false_eq_true, List.nil_append, List.append_nil, List.contains_nil, vc_int, vc_bool, vc_str, vc_ptr, vc_sl, vc_map, vc_if, vc_ni, vc_nf, vc_fn, vc_agg, vs1, vl1, vsl, vll, bldv_nil, bldv_cons, lt0, lts, ld0, lds, ldn, lac, lln, llc, lg0, lgs, Nat.reduceLeDiff, true_and, and_true, and_self, Nat.reduceLT, Int.reduceEq, hw3]
    refine XX_val g2 ?_
    simp only [mach, ↓reduceIte, Nat.reduceEqDiff, Nat.reduceAdd, Nat.reduceMul, Nat.add_zero, Nat.zero_add, decide_true, decide_false, Bool.not_true, Bool.not_false, Bool.false_eq_true, List.nil_append, List.append_nil, List.contains_nil, vc_int, vc_bool, vc_str, vc_ptr, vc_sl, vc_map, vc_if, vc_ni, vc_nf, vc_fn, vc_agg, vs1, vl1, vsl, vll, bldv_nil, bldv_cons, lt0, lts, ld0, lds, ldn, lac, lln, llc, lg0, lgs, Nat.reduceLeDiff, true_and, and_true, and_self, Nat.reduceLT, Int.reduceEq, hi3, h0i, and_self, hld1, Nat.mul_one, hw2]
    refine next3 (i3 + 1) _ _ _ ⟨by omega, s8, u8⟩ ⟨rfl, rfl, ?_, trivial⟩ (by omega)
    simp only [Int.natCast_add, Int.cast_ofNat_Int]; rfl
  simp only [mach, ↓reduceIte, Nat.reduceEqDiff, Nat.reduceAdd, Nat.reduceMul, Nat.add_zero, Nat.zero_add, decide_true, decide_false, Bool.not_true, Bool.not_false, Bool.false_eq_true, List.nil_append, List.append_nil, List.contains_nil, hi3]
  refine out3 (.exit 4) _ _ _ _ (by intro e; cases e) ?_
  simp only [mach, ↓reduceIte, Nat.reduceEqDiff, Nat.reduceAdd, Nat.reduceMul, Nat.add_zero, Nat.zero_add, decide_true, decide_false, Bool.not_true, Bool.not_false, Bool.false_eq_true, List.nil_append, List.append_nil, List.contains_nil]
  exact hΨ _ _ (fin_ret (rv1 rfl rfl))

end Go.S02
