/- Layer 2: SpaceInts. -/
import Derived.Test.YtoojhjhamhkmjaaLA02
set_option linter.unusedVariables false
set_option linter.unusedSimpArgs false
namespace Go.S02
open Go Go.Eng Go.Proofs

theorem Spc.lt {h : AH} {b : Nat} {size side : Int} {v0 v1 : Value} {x0 x1 : List Int} (s : Spc h b size side v0 v1 x0 x1) : ∀ q, Owns b v0 v1 q → q < h.length := by
  rintro q (e | e | e)
  · rw [e]; exact s.own.lt
  · exact s.r0.lt q e
  · exact s.r1.lt q e
theorem Rsp.lt {h : AH} {b : Nat} {size side : Int} {v0 v1 : Value} {x0 x1 : List Int} (s : Rsp h b size side v0 v1 x0 x1) : ∀ q, Owns b v0 v1 q → q < h.length := by
  rintro q (e | e | e)
  · rw [e]; exact s.own.lt
  · exact s.rn.lt q e
  · exact s.ro.lt q e
theorem lk_two (xs : List Int) (i : Int) : ∃ a e, lk xs i = #[iv a, iv e] := by
  unfold lk
  split
  · exact ⟨_, _, rfl⟩
  · exact ⟨_, _, rfl⟩

/-- What stands between rounds. -/
def Rnd (H b0 b1 : Nat) (N : Int) (script : Value) (m : Nat) (h : AH) : Prop :=
  H ≤ h.length ∧ Scr H h script m ∧ ∃ side v0 v1 vn vo now old, Sp2 h b0 N side v0 v1 now old ∧ Rsp h b1 N side vn vo now old ∧ (∀ q, Owns b0 v0 v1 q → H ≤ q) ∧ (∀ q, Owns b1 vn vo q → H ≤ q) ∧ (∀ q, Owns b0 v0 v1 q → ¬ Owns b1 vn vo q)

set_option maxHeartbeats 2000000 in
theorem Ints_ok {h : AH} {u : Value} {m : Nat} {N : Int} (hu : Scr h.length h u m) (hm0 : m ≤ 9223372036854775807) : Gets Try.prog 5 [iv N, u] h (fun res _ => res = .ret (.bool true)) := by
  refine Gets.of (keep := false) hP (draw_ok hM) k5 (by rfl) (fun Ψ hΨ => ?_)
  obtain ⟨⟨ua, uc, rfl⟩, _⟩ := id hu
  simp only [mach, ↓reduceIte, Nat.reduceEqDiff, Nat.reduceAdd, Nat.reduceMul, Nat.add_zero, Nat.zero_add, decide_true, decide_false, Bool.not_true, Bool.not_false, Bool.false_eq_true, List.nil_append, List.append_nil, List.contains_nil, r5]
  refine XX_val (wakes_ok h) ?_
  simp only [mach, ↓reduceIte, Nat.reduceEqDiff, Nat.reduceAdd, Nat.reduceMul, Nat.add_zero, Nat.zero_add, decide_true, decide_false, Bool.not_true, Bool.not_false, Bool.false_eq_true, List.nil_append, List.append_nil, List.contains_nil]
  refine XX_of (new_ok N h) (fun res h1 _ hn => ?_)
  by_cases hN : 0 ≤ N ∧ N ≤ 1048576
  · rw [if_pos hN] at hn
    obtain ⟨rfl, rfl⟩ := hn
    refine .ret ?_
    have s1 := new_spc h N hN
    have kp1 : Keep (fun _ => False) h (h ++ [row 66 h.length [.slice none 0 0, .slice none 0 0, iv N, iv 0]]) := Keep.push _ _ _
    generalize hh1 : h ++ [row 66 h.length [.slice none 0 0, .slice none 0 0, iv N, iv 0]] = h1 at s1 kp1
    have hl1 : h1.length = h.length + 1 := by rw [← hh1]; simp
    simp only [mach, ↓reduceIte, Nat.reduceEqDiff, Nat.reduceAdd, Nat.reduceMul, Nat.add_zero, Nat.zero_add, decide_true, decide_false, Bool.not_true, Bool.not_false, Bool.false_eq_true, List.nil_append, List.append_nil, List.contains_nil, vc_int, vc_bool, vc_str, vc_ptr, vc_sl, vc_map, vc_if, vc_ni, vc_nf, vc_fn, vc_agg, vs1, vl1, vsl, vll, bldv_nil, bldv_cons, lt0, lts, ld0, lds, ldn, lac, lln, llc, lg0, lgs, Nat.reduceLeDiff, true_and, and_true, and_self, Nat.reduceLT, Int.reduceEq, hh1]
    refine XX_of (rnew_ok N h1) (fun res h2 _ hn => ?_)
    rw [if_pos hN] at hn
    obtain ⟨rfl, rfl⟩ := hn
    refine .ret ?_
    have t2 := rnew_spc h1 N hN
    have kp2 : Keep (fun _ => False) h1 (h1 ++ [row 69 h1.length [iv N, iv 0, .slice none 0 0, .slice none 0 0]]) := Keep.push _ _ _
    generalize hh2 : h1 ++ [row 69 h1.length [iv N, iv 0, .slice none 0 0, .slice none 0 0]] = h2 at t2 kp2
    have hl2 : h2.length = h1.length + 1 := by rw [← hh2]; simp
    have s2 : Sp2 h2 h.length N 0 (.slice none 0 0) (.slice none 0 0) [] [] := s1.keep kp2 (fun _ _ e => e)
    have c2 := (hu.keep kp1 (fun _ _ e => e)).keep kp2 (fun _ _ e => e)
    simp only [mach, ↓reduceIte, Nat.reduceEqDiff, Nat.reduceAdd, Nat.reduceMul, Nat.add_zero, Nat.zero_add, decide_true, decide_false, Bool.not_true, Bool.not_false, Bool.false_eq_true, List.nil_append, List.append_nil, List.contains_nil, vc_int, vc_bool, vc_str, vc_ptr, vc_sl, vc_map, vc_if, vc_ni, vc_nf, vc_fn, vc_agg, vs1, vl1, vsl, vll, bldv_nil, bldv_cons, lt0, lts, ld0, lds, ldn, lac, lln, llc, lg0, lgs, Nat.reduceLeDiff, true_and, and_true, and_self, Nat.reduceLT, Int.reduceEq, hh2]
    refine XLo_rule (α := Nat × Int) (fun a => [(1, .slice ua m uc), (5, .pointer (some ⟨h.length, 0, none⟩)), (6, iv a.2), (7, .pointer (some ⟨h1.length, 0, none⟩)), (8, iv a.2), (9, iv a.1)])
      (fun a h' => a.1 ≤ m ∧ Rnd h.length h.length h1.length N (.slice ua m uc) m h') (fun a => m - a.1) (0, 0)
      ⟨by omega, by omega, c2, 0, _, _, _, _, _, _, s2, t2, by rintro q (e | e | e); omega; exact e.elim; exact e.elim, by rintro q (e | e | e); omega; exact e.elim; exact e.elim, by rintro q (e | e | e) (e' | e' | e') <;> first | omega | exact e.elim | exact e'.elim⟩ ⟨rfl, rfl, rfl, rfl, rfl, rfl, trivial⟩ ?_
    rintro ⟨i, ev⟩ h3 Ψ2 ⟨i1, l3, c3, side, v0, v1, vn, vo, now, old, s3, t3, fA, fB, fD⟩ next out
    simp only at i1
    by_cases hi : (i : Int) < m
    · have h0i : 0 ≤ (i : Int) := by omega
      have hw2 : IntKind.i64.wrap ((i : Int) + 1) = i + 1 := i64w (by omega) (by omega)
      obtain ⟨b, o, c, cs, kd, at', x, xv, k, xs, e1, g2, g3, g4, g5, g6, g7⟩ := c3.2 i (by omega)
      cases e1
      have hlds : ldcs h3 b (o + i * 4) 4 = some [iv kd, iv at', iv x, xv] := by rw [g3.lds _ _ g4, g5]
      obtain ⟨xa, xc, hxv⟩ := shape g6
      have kp3 : Keep (fun _ => False) h3 (h3 ++ [row 41 h3.length [iv 0, iv 0, iv 0, .slice none 0 0]]) := Keep.push _ _ _
      have on := Own.new h3 41 h3.length [iv 0, iv 0, iv 0, .slice none 0 0]
      simp only [mach, ↓reduceIte, Nat.reduceEqDiff, Nat.reduceAdd, Nat.reduceMul, Nat.add_zero, Nat.zero_add, decide_true, decide_false, Bool.not_true, Bool.not_false, Bool.false_eq_true, List.nil_append, List.append_nil, List.contains_nil, hi, h0i, and_self, hlds, vc_int, vc_bool, vc_str, vc_ptr, vc_sl, vc_map, vc_if, vc_ni, vc_nf, vc_fn, vc_agg, vs1, vl1, vsl, vll, bldv_nil, bldv_cons, lt0, lts, ld0, lds, ldn, lac, lln, llc, lg0, lgs, Nat.reduceLeDiff, true_and, and_true, and_self, Nat.reduceLT, Int.reduceEq, Int.toNat_natCast]
      refine XH_own on rfl (by simp [Value.cells]) (by rw [hxv]; rfl) (fun h4 q1 q2 q3 => ?_)
      have on4 : Own h4 h3.length 41 [iv kd, iv at', iv x, xv] := by simpa [Value.cells] using q1
      have hl4 : h4.length = h3.length + 1 := by rw [q3]; simp
      have kp4 : Keep (fun q => q = h3.length) h3 h4 := (kp3.mono (fun _ e => e.elim)).trans q2
      have nA : ¬ Owns h.length v0 v1 h3.length := fun e => by have := Spc.lt s3 _ e; omega
      have nB : ¬ Owns h1.length vn vo h3.length := fun e => by have := t3.lt _ e; omega
      have s4 := s3.keep kp4 (fun q e e' => nA (e' ▸ e))
      have t4 := t3.keep kp4 (fun q e e' => nB (e' ▸ e))
      have c4 := c3.keep kp4 (fun q e e' => by omega)
      have ox4 := g6.keep kp4 (fun q e e' => by have := g7 q e; omega)
      have nb4 : h.length ≤ h4.length := by omega
      by_cases d1 : kd = 1
      · simp only [mach, ↓reduceIte, Nat.reduceEqDiff, Nat.reduceAdd, Nat.reduceMul, Nat.add_zero, Nat.zero_add, decide_true, decide_false, Bool.not_true, Bool.not_false, Bool.false_eq_true, List.nil_append, List.append_nil, List.contains_nil, on4.cells.ld, vc_int, vc_bool, vc_str, vc_ptr, vc_sl, vc_map, vc_if, vc_ni, vc_nf, vc_fn, vc_agg, vs1, vl1, vsl, vll, bldv_nil, bldv_cons, lt0, lts, ld0, lds, ldn, lac, lln, llc, lg0, lgs, Nat.reduceLeDiff, true_and, and_true, and_self, Nat.reduceLT, Int.reduceEq, d1]
        refine XX_of (rAlloc_ok t4 ox4) (fun res h5 hle5 hn => ?_)
        by_cases hf : N - (now.length : Int) < xs.length
        · rw [if_pos hf] at hn
          obtain ⟨rfl, rfl⟩ := hn
          refine .ret ?_
          simp only [mach, ↓reduceIte, Nat.reduceEqDiff, Nat.reduceAdd, Nat.reduceMul, Nat.add_zero, Nat.zero_add, decide_true, decide_false, Bool.not_true, Bool.not_false, Bool.false_eq_true, List.nil_append, List.append_nil, List.contains_nil, on4.cells.ld, vc_int, vc_bool, vc_str, vc_ptr, vc_sl, vc_map, vc_if, vc_ni, vc_nf, vc_fn, vc_agg, vs1, vl1, vsl, vll, bldv_nil, bldv_cons, lt0, lts, ld0, lds, ldn, lac, lln, llc, lg0, lgs, Nat.reduceLeDiff, true_and, and_true, and_self, Nat.reduceLT, Int.reduceEq]
          refine XX_of (Alloc2 s4 ox4) (fun res h6 hle6 hn => ?_)
          rw [if_pos hf] at hn
          obtain ⟨rfl, rfl⟩ := hn
          refine .ret ?_
          simp only [mach, ↓reduceIte, Nat.reduceEqDiff, Nat.reduceAdd, Nat.reduceMul, Nat.add_zero, Nat.zero_add, decide_true, decide_false, Bool.not_true, Bool.not_false, Bool.false_eq_true, List.nil_append, List.append_nil, List.contains_nil, vc_int, vc_bool, vc_str, vc_ptr, vc_sl, vc_map, vc_if, vc_ni, vc_nf, vc_fn, vc_agg, vs1, vl1, vsl, vll, bldv_nil, bldv_cons, lt0, lts, ld0, lds, ldn, lac, lln, llc, lg0, lgs, Nat.reduceLeDiff, true_and, and_true, and_self, Nat.reduceLT, Int.reduceEq]
          refine XX_val (Used2 s4) ?_
          simp only [mach, ↓reduceIte, Nat.reduceEqDiff, Nat.reduceAdd, Nat.reduceMul, Nat.add_zero, Nat.zero_add, decide_true, decide_false, Bool.not_true, Bool.not_false, Bool.false_eq_true, List.nil_append, List.append_nil, List.contains_nil]
          refine XX_val (rUsed_ok t4) ?_
          simp only [mach, ↓reduceIte, Nat.reduceEqDiff, Nat.reduceAdd, Nat.reduceMul, Nat.add_zero, Nat.zero_add, decide_true, decide_false, Bool.not_true, Bool.not_false, Bool.false_eq_true, List.nil_append, List.append_nil, List.contains_nil]
          refine XX_val (Size_ok s4) ?_
          simp only [mach, ↓reduceIte, Nat.reduceEqDiff, Nat.reduceAdd, Nat.reduceMul, Nat.add_zero, Nat.zero_add, decide_true, decide_false, Bool.not_true, Bool.not_false, Bool.false_eq_true, List.nil_append, List.append_nil, List.contains_nil]
          refine XX_val (rSize_ok t4) ?_
          simp only [mach, ↓reduceIte, Nat.reduceEqDiff, Nat.reduceAdd, Nat.reduceMul, Nat.add_zero, Nat.zero_add, decide_true, decide_false, Bool.not_true, Bool.not_false, Bool.false_eq_true, List.nil_append, List.append_nil, List.contains_nil]
          refine XX_val (Side_ok s4) ?_
          simp only [mach, ↓reduceIte, Nat.reduceEqDiff, Nat.reduceAdd, Nat.reduceMul, Nat.add_zero, Nat.zero_add, decide_true, decide_false, Bool.not_true, Bool.not_false, Bool.false_eq_true, List.nil_append, List.append_nil, List.contains_nil]
          refine XX_val (rSide_ok t4) ?_
          simp only [mach, ↓reduceIte, Nat.reduceEqDiff, Nat.reduceAdd, Nat.reduceMul, Nat.add_zero, Nat.zero_add, decide_true, decide_false, Bool.not_true, Bool.not_false, Bool.false_eq_true, List.nil_append, List.append_nil, List.contains_nil, hw2]
          refine next (i + 1, 3) _ _ _ ⟨by omega, nb4, c4, _, _, _, _, _, _, _, s4, t4, fA, fB, fD⟩ ⟨rfl, rfl, rfl, rfl, rfl, ?_, trivial⟩ (by simp only; omega)
          simp only [Int.natCast_add, Int.cast_ofNat_Int]; rfl
        · rw [if_neg hf] at hn
          obtain ⟨rfl, kp5, vn', t5, ow5⟩ := hn
          refine .ret ?_
          have on5 := on4.keep kp5 nB
          have s5 := s4.keep kp5 fD
          have c5 := c4.keep kp5 (fun q hq e => by have := fB q e; omega)
          have ox5 := ox4.keep kp5 (fun q hq e => by have := fB q e; have := g7 q hq; omega)
          simp only [mach, ↓reduceIte, Nat.reduceEqDiff, Nat.reduceAdd, Nat.reduceMul, Nat.add_zero, Nat.zero_add, decide_true, decide_false, Bool.not_true, Bool.not_false, Bool.false_eq_true, List.nil_append, List.append_nil, List.contains_nil, on5.cells.ld, vc_int, vc_bool, vc_str, vc_ptr, vc_sl, vc_map, vc_if, vc_ni, vc_nf, vc_fn, vc_agg, vs1, vl1, vsl, vll, bldv_nil, bldv_cons, lt0, lts, ld0, lds, ldn, lac, lln, llc, lg0, lgs, Nat.reduceLeDiff, true_and, and_true, and_self, Nat.reduceLT, Int.reduceEq]
          refine XX_of (Alloc2 s5 ox5) (fun res h6 hle6 hn => ?_)
          rw [if_neg hf] at hn
          obtain ⟨rfl, kp6, w0, w1, s6, ow6⟩ := hn
          refine .ret ?_
          have t6 := t5.keep kp6 (fun q e e' => by
            rcases ow5 q e with e2 | e2
            · exact fD q e' e2
            · have := Spc.lt s4 q e'; omega)
          have c6 := c5.keep kp6 (fun q hq e => by have := fA q e; omega)
          simp only [mach, ↓reduceIte, Nat.reduceEqDiff, Nat.reduceAdd, Nat.reduceMul, Nat.add_zero, Nat.zero_add, decide_true, decide_false, Bool.not_true, Bool.not_false, Bool.false_eq_true, List.nil_append, List.append_nil, List.contains_nil, vc_int, vc_bool, vc_str, vc_ptr, vc_sl, vc_map, vc_if, vc_ni, vc_nf, vc_fn, vc_agg, vs1, vl1, vsl, vll, bldv_nil, bldv_cons, lt0, lts, ld0, lds, ldn, lac, lln, llc, lg0, lgs, Nat.reduceLeDiff, true_and, and_true, and_self, Nat.reduceLT, Int.reduceEq]
          refine XX_val (Used2 s6) ?_
          simp only [mach, ↓reduceIte, Nat.reduceEqDiff, Nat.reduceAdd, Nat.reduceMul, Nat.add_zero, Nat.zero_add, decide_true, decide_false, Bool.not_true, Bool.not_false, Bool.false_eq_true, List.nil_append, List.append_nil, List.contains_nil]
          refine XX_val (rUsed_ok t6) ?_
          simp only [mach, ↓reduceIte, Nat.reduceEqDiff, Nat.reduceAdd, Nat.reduceMul, Nat.add_zero, Nat.zero_add, decide_true, decide_false, Bool.not_true, Bool.not_false, Bool.false_eq_true, List.nil_append, List.append_nil, List.contains_nil]
          refine XX_val (Size_ok s6) ?_
          simp only [mach, ↓reduceIte, Nat.reduceEqDiff, Nat.reduceAdd, Nat.reduceMul, Nat.add_zero, Nat.zero_add, decide_true, decide_false, Bool.not_true, Bool.not_false, Bool.false_eq_true, List.nil_append, List.append_nil, List.contains_nil]
          refine XX_val (rSize_ok t6) ?_
          simp only [mach, ↓reduceIte, Nat.reduceEqDiff, Nat.reduceAdd, Nat.reduceMul, Nat.add_zero, Nat.zero_add, decide_true, decide_false, Bool.not_true, Bool.not_false, Bool.false_eq_true, List.nil_append, List.append_nil, List.contains_nil]
          refine XX_val (Side_ok s6) ?_
          simp only [mach, ↓reduceIte, Nat.reduceEqDiff, Nat.reduceAdd, Nat.reduceMul, Nat.add_zero, Nat.zero_add, decide_true, decide_false, Bool.not_true, Bool.not_false, Bool.false_eq_true, List.nil_append, List.append_nil, List.contains_nil]
          refine XX_val (rSide_ok t6) ?_
          simp only [mach, ↓reduceIte, Nat.reduceEqDiff, Nat.reduceAdd, Nat.reduceMul, Nat.add_zero, Nat.zero_add, decide_true, decide_false, Bool.not_true, Bool.not_false, Bool.false_eq_true, List.nil_append, List.append_nil, List.contains_nil, hw2]
          refine next (i + 1, 0) _ _ _ ⟨by omega, by omega, c6, _, _, _, _, _, _, _, s6, t6, (fun q e => (ow6 q e).elim (fA q) (fun e => by omega)), (fun q e => (ow5 q e).elim (fB q) (fun e => by omega)), (fun q e e2 => (ow6 q e).elim (fun e => (ow5 q e2).elim (fD q e) (fun e2 => by have := Spc.lt s4 q e; omega)) (fun e => by have := t5.lt q e2; omega))⟩ ⟨rfl, rfl, rfl, rfl, rfl, ?_, trivial⟩ (by simp only; omega)
          simp only [Int.natCast_add, Int.cast_ofNat_Int]; rfl
      by_cases d2 : kd = 2
      · obtain ⟨a, e, hlk⟩ := lk_two now at'
        have ga := rGet_ok t4 at'
        have gb := Get2 s4 at'
        rw [hlk] at ga gb
        simp only [mach, ↓reduceIte, Nat.reduceEqDiff, Nat.reduceAdd, Nat.reduceMul, Nat.add_zero, Nat.zero_add, decide_true, decide_false, Bool.not_true, Bool.not_false, Bool.false_eq_true, List.nil_append, List.append_nil, List.contains_nil, on4.cells.ld, vc_int, vc_bool, vc_str, vc_ptr, vc_sl, vc_map, vc_if, vc_ni, vc_nf, vc_fn, vc_agg, vs1, vl1, vsl, vll, bldv_nil, bldv_cons, lt0, lts, ld0, lds, ldn, lac, lln, llc, lg0, lgs, Nat.reduceLeDiff, true_and, and_true, and_self, Nat.reduceLT, Int.reduceEq, d1, d2]
        refine XX_val ga ?_
        simp only [mach, ↓reduceIte, Nat.reduceEqDiff, Nat.reduceAdd, Nat.reduceMul, Nat.add_zero, Nat.zero_add, decide_true, decide_false, Bool.not_true, Bool.not_false, Bool.false_eq_true, List.nil_append, List.append_nil, List.contains_nil, on4.cells.ld, vc_int, vc_bool, vc_str, vc_ptr, vc_sl, vc_map, vc_if, vc_ni, vc_nf, vc_fn, vc_agg, vs1, vl1, vsl, vll, bldv_nil, bldv_cons, lt0, lts, ld0, lds, ldn, lac, lln, llc, lg0, lgs, Nat.reduceLeDiff, true_and, and_true, and_self, Nat.reduceLT, Int.reduceEq]
        refine XX_val gb ?_
        simp only [mach, ↓reduceIte, Nat.reduceEqDiff, Nat.reduceAdd, Nat.reduceMul, Nat.add_zero, Nat.zero_add, decide_true, decide_false, Bool.not_true, Bool.not_false, Bool.false_eq_true, List.nil_append, List.append_nil, List.contains_nil, vc_int, vc_bool, vc_str, vc_ptr, vc_sl, vc_map, vc_if, vc_ni, vc_nf, vc_fn, vc_agg, vs1, vl1, vsl, vll, bldv_nil, bldv_cons, lt0, lts, ld0, lds, ldn, lac, lln, llc, lg0, lgs, Nat.reduceLeDiff, true_and, and_true, and_self, Nat.reduceLT, Int.reduceEq]
        refine XX_val (Used2 s4) ?_
        simp only [mach, ↓reduceIte, Nat.reduceEqDiff, Nat.reduceAdd, Nat.reduceMul, Nat.add_zero, Nat.zero_add, decide_true, decide_false, Bool.not_true, Bool.not_false, Bool.false_eq_true, List.nil_append, List.append_nil, List.contains_nil]
        refine XX_val (rUsed_ok t4) ?_
        simp only [mach, ↓reduceIte, Nat.reduceEqDiff, Nat.reduceAdd, Nat.reduceMul, Nat.add_zero, Nat.zero_add, decide_true, decide_false, Bool.not_true, Bool.not_false, Bool.false_eq_true, List.nil_append, List.append_nil, List.contains_nil]
        refine XX_val (Size_ok s4) ?_
        simp only [mach, ↓reduceIte, Nat.reduceEqDiff, Nat.reduceAdd, Nat.reduceMul, Nat.add_zero, Nat.zero_add, decide_true, decide_false, Bool.not_true, Bool.not_false, Bool.false_eq_true, List.nil_append, List.append_nil, List.contains_nil]
        refine XX_val (rSize_ok t4) ?_
        simp only [mach, ↓reduceIte, Nat.reduceEqDiff, Nat.reduceAdd, Nat.reduceMul, Nat.add_zero, Nat.zero_add, decide_true, decide_false, Bool.not_true, Bool.not_false, Bool.false_eq_true, List.nil_append, List.append_nil, List.contains_nil]
        refine XX_val (Side_ok s4) ?_
        simp only [mach, ↓reduceIte, Nat.reduceEqDiff, Nat.reduceAdd, Nat.reduceMul, Nat.add_zero, Nat.zero_add, decide_true, decide_false, Bool.not_true, Bool.not_false, Bool.false_eq_true, List.nil_append, List.append_nil, List.contains_nil]
        refine XX_val (rSide_ok t4) ?_
        simp only [mach, ↓reduceIte, Nat.reduceEqDiff, Nat.reduceAdd, Nat.reduceMul, Nat.add_zero, Nat.zero_add, decide_true, decide_false, Bool.not_true, Bool.not_false, Bool.false_eq_true, List.nil_append, List.append_nil, List.contains_nil, hw2]
        refine next (i + 1, e) _ _ _ ⟨by omega, nb4, c4, _, _, _, _, _, _, _, s4, t4, fA, fB, fD⟩ ⟨rfl, rfl, rfl, rfl, rfl, ?_, trivial⟩ (by simp only; omega)
        simp only [Int.natCast_add, Int.cast_ofNat_Int]; rfl
      by_cases d3 : kd = 3
      · simp only [mach, ↓reduceIte, Nat.reduceEqDiff, Nat.reduceAdd, Nat.reduceMul, Nat.add_zero, Nat.zero_add, decide_true, decide_false, Bool.not_true, Bool.not_false, Bool.false_eq_true, List.nil_append, List.append_nil, List.contains_nil, on4.cells.ld, vc_int, vc_bool, vc_str, vc_ptr, vc_sl, vc_map, vc_if, vc_ni, vc_nf, vc_fn, vc_agg, vs1, vl1, vsl, vll, bldv_nil, bldv_cons, lt0, lts, ld0, lds, ldn, lac, lln, llc, lg0, lgs, Nat.reduceLeDiff, true_and, and_true, and_self, Nat.reduceLT, Int.reduceEq, d1, d2, d3]
        refine XX_of (rSet_ok t4 at' x) (fun res h5 hle5 hn => ?_)
        by_cases hf : 0 ≤ at' ∧ at' < (now.length : Int)
        · rw [if_pos hf] at hn
          obtain ⟨rfl, kp5, t5⟩ := hn
          refine .ret ?_
          have on5 := on4.keep kp5 nB
          have s5 := s4.keep kp5 fD
          have c5 := c4.keep kp5 (fun q hq e => by have := fB q e; omega)
          simp only [mach, ↓reduceIte, Nat.reduceEqDiff, Nat.reduceAdd, Nat.reduceMul, Nat.add_zero, Nat.zero_add, decide_true, decide_false, Bool.not_true, Bool.not_false, Bool.false_eq_true, List.nil_append, List.append_nil, List.contains_nil, on5.cells.ld, vc_int, vc_bool, vc_str, vc_ptr, vc_sl, vc_map, vc_if, vc_ni, vc_nf, vc_fn, vc_agg, vs1, vl1, vsl, vll, bldv_nil, bldv_cons, lt0, lts, ld0, lds, ldn, lac, lln, llc, lg0, lgs, Nat.reduceLeDiff, true_and, and_true, and_self, Nat.reduceLT, Int.reduceEq]
          refine XX_of (Set2 s5 at' x) (fun res h6 hle6 hn => ?_)
          rw [if_pos hf] at hn
          obtain ⟨rfl, kp6, s6⟩ := hn
          refine .ret ?_
          have t6 := t5.keep kp6 (fun q e e' => fD q e' e)
          have c6 := c5.keep kp6 (fun q hq e => by have := fA q e; omega)
          simp only [mach, ↓reduceIte, Nat.reduceEqDiff, Nat.reduceAdd, Nat.reduceMul, Nat.add_zero, Nat.zero_add, decide_true, decide_false, Bool.not_true, Bool.not_false, Bool.false_eq_true, List.nil_append, List.append_nil, List.contains_nil, vc_int, vc_bool, vc_str, vc_ptr, vc_sl, vc_map, vc_if, vc_ni, vc_nf, vc_fn, vc_agg, vs1, vl1, vsl, vll, bldv_nil, bldv_cons, lt0, lts, ld0, lds, ldn, lac, lln, llc, lg0, lgs, Nat.reduceLeDiff, true_and, and_true, and_self, Nat.reduceLT, Int.reduceEq]
          refine XX_val (Used2 s6) ?_
          simp only [mach, ↓reduceIte, Nat.reduceEqDiff, Nat.reduceAdd, Nat.reduceMul, Nat.add_zero, Nat.zero_add, decide_true, decide_false, Bool.not_true, Bool.not_false, Bool.false_eq_true, List.nil_append, List.append_nil, List.contains_nil]
          refine XX_val (rUsed_ok t6) ?_
          simp only [mach, ↓reduceIte, Nat.reduceEqDiff, Nat.reduceAdd, Nat.reduceMul, Nat.add_zero, Nat.zero_add, decide_true, decide_false, Bool.not_true, Bool.not_false, Bool.false_eq_true, List.nil_append, List.append_nil, List.contains_nil]
          refine XX_val (Size_ok s6) ?_
          simp only [mach, ↓reduceIte, Nat.reduceEqDiff, Nat.reduceAdd, Nat.reduceMul, Nat.add_zero, Nat.zero_add, decide_true, decide_false, Bool.not_true, Bool.not_false, Bool.false_eq_true, List.nil_append, List.append_nil, List.contains_nil]
          refine XX_val (rSize_ok t6) ?_
          simp only [mach, ↓reduceIte, Nat.reduceEqDiff, Nat.reduceAdd, Nat.reduceMul, Nat.add_zero, Nat.zero_add, decide_true, decide_false, Bool.not_true, Bool.not_false, Bool.false_eq_true, List.nil_append, List.append_nil, List.contains_nil]
          refine XX_val (Side_ok s6) ?_
          simp only [mach, ↓reduceIte, Nat.reduceEqDiff, Nat.reduceAdd, Nat.reduceMul, Nat.add_zero, Nat.zero_add, decide_true, decide_false, Bool.not_true, Bool.not_false, Bool.false_eq_true, List.nil_append, List.append_nil, List.contains_nil]
          refine XX_val (rSide_ok t6) ?_
          simp only [mach, ↓reduceIte, Nat.reduceEqDiff, Nat.reduceAdd, Nat.reduceMul, Nat.add_zero, Nat.zero_add, decide_true, decide_false, Bool.not_true, Bool.not_false, Bool.false_eq_true, List.nil_append, List.append_nil, List.contains_nil, hw2]
          refine next (i + 1, 0) _ _ _ ⟨by omega, by omega, c6, _, _, _, _, _, _, _, s6, t6, fA, fB, fD⟩ ⟨rfl, rfl, rfl, rfl, rfl, ?_, trivial⟩ (by simp only; omega)
          simp only [Int.natCast_add, Int.cast_ofNat_Int]; rfl
        · rw [if_neg hf] at hn
          obtain ⟨rfl, rfl⟩ := hn
          refine .ret ?_
          simp only [mach, ↓reduceIte, Nat.reduceEqDiff, Nat.reduceAdd, Nat.reduceMul, Nat.add_zero, Nat.zero_add, decide_true, decide_false, Bool.not_true, Bool.not_false, Bool.false_eq_true, List.nil_append, List.append_nil, List.contains_nil, on4.cells.ld, vc_int, vc_bool, vc_str, vc_ptr, vc_sl, vc_map, vc_if, vc_ni, vc_nf, vc_fn, vc_agg, vs1, vl1, vsl, vll, bldv_nil, bldv_cons, lt0, lts, ld0, lds, ldn, lac, lln, llc, lg0, lgs, Nat.reduceLeDiff, true_and, and_true, and_self, Nat.reduceLT, Int.reduceEq]
          refine XX_of (Set2 s4 at' x) (fun res h6 hle6 hn => ?_)
          rw [if_neg hf] at hn
          obtain ⟨rfl, rfl⟩ := hn
          refine .ret ?_
          simp only [mach, ↓reduceIte, Nat.reduceEqDiff, Nat.reduceAdd, Nat.reduceMul, Nat.add_zero, Nat.zero_add, decide_true, decide_false, Bool.not_true, Bool.not_false, Bool.false_eq_true, List.nil_append, List.append_nil, List.contains_nil, vc_int, vc_bool, vc_str, vc_ptr, vc_sl, vc_map, vc_if, vc_ni, vc_nf, vc_fn, vc_agg, vs1, vl1, vsl, vll, bldv_nil, bldv_cons, lt0, lts, ld0, lds, ldn, lac, lln, llc, lg0, lgs, Nat.reduceLeDiff, true_and, and_true, and_self, Nat.reduceLT, Int.reduceEq]
          refine XX_val (Used2 s4) ?_
          simp only [mach, ↓reduceIte, Nat.reduceEqDiff, Nat.reduceAdd, Nat.reduceMul, Nat.add_zero, Nat.zero_add, decide_true, decide_false, Bool.not_true, Bool.not_false, Bool.false_eq_true, List.nil_append, List.append_nil, List.contains_nil]
          refine XX_val (rUsed_ok t4) ?_
          simp only [mach, ↓reduceIte, Nat.reduceEqDiff, Nat.reduceAdd, Nat.reduceMul, Nat.add_zero, Nat.zero_add, decide_true, decide_false, Bool.not_true, Bool.not_false, Bool.false_eq_true, List.nil_append, List.append_nil, List.contains_nil]
          refine XX_val (Size_ok s4) ?_
          simp only [mach, ↓reduceIte, Nat.reduceEqDiff, Nat.reduceAdd, Nat.reduceMul, Nat.add_zero, Nat.zero_add, decide_true, decide_false, Bool.not_true, Bool.not_false, Bool.false_eq_true, List.nil_append, List.append_nil, List.contains_nil]
          refine XX_val (rSize_ok t4) ?_
          simp only [mach, ↓reduceIte, Nat.reduceEqDiff, Nat.reduceAdd, Nat.reduceMul, Nat.add_zero, Nat.zero_add, decide_true, decide_false, Bool.not_true, Bool.not_false, Bool.false_eq_true, List.nil_append, List.append_nil, List.contains_nil]
          refine XX_val (Side_ok s4) ?_
          simp only [mach, ↓reduceIte, Nat.reduceEqDiff, Nat.reduceAdd, Nat.reduceMul, Nat.add_zero, Nat.zero_add, decide_true, decide_false, Bool.not_true, Bool.not_false, Bool.false_eq_true, List.nil_append, List.append_nil, List.contains_nil]
          refine XX_val (rSide_ok t4) ?_
          simp only [mach, ↓reduceIte, Nat.reduceEqDiff, Nat.reduceAdd, Nat.reduceMul, Nat.add_zero, Nat.zero_add, decide_true, decide_false, Bool.not_true, Bool.not_false, Bool.false_eq_true, List.nil_append, List.append_nil, List.contains_nil, hw2]
          refine next (i + 1, 2) _ _ _ ⟨by omega, nb4, c4, _, _, _, _, _, _, _, s4, t4, fA, fB, fD⟩ ⟨rfl, rfl, rfl, rfl, rfl, ?_, trivial⟩ (by simp only; omega)
          simp only [Int.natCast_add, Int.cast_ofNat_Int]; rfl
      by_cases d4 : kd = 4
      · simp only [mach, ↓reduceIte, Nat.reduceEqDiff, Nat.reduceAdd, Nat.reduceMul, Nat.add_zero, Nat.zero_add, decide_true, decide_false, Bool.not_true, Bool.not_false, Bool.false_eq_true, List.nil_append, List.append_nil, List.contains_nil, on4.cells.ld, vc_int, vc_bool, vc_str, vc_ptr, vc_sl, vc_map, vc_if, vc_ni, vc_nf, vc_fn, vc_agg, vs1, vl1, vsl, vll, bldv_nil, bldv_cons, lt0, lts, ld0, lds, ldn, lac, lln, llc, lg0, lgs, Nat.reduceLeDiff, true_and, and_true, and_self, Nat.reduceLT, Int.reduceEq, d1, d2, d3, d4]
        refine XX_of (rFlip_ok t4) (fun res h5 hle5 hn => ?_)
        obtain ⟨rfl, kp5, t5⟩ := hn
        refine .ret ?_
        have s5 := s4.keep kp5 fD
        have c5 := c4.keep kp5 (fun q hq e => by have := fB q e; omega)
        have ow5 : ∀ q, Owns h1.length (.slice none 0 0) vn q → Owns h1.length vn vo q := by
          rintro q (e | e | e)
          · exact .inl e
          · exact e.elim
          · exact .inr (.inl e)
        simp only [mach, ↓reduceIte, Nat.reduceEqDiff, Nat.reduceAdd, Nat.reduceMul, Nat.add_zero, Nat.zero_add, decide_true, decide_false, Bool.not_true, Bool.not_false, Bool.false_eq_true, List.nil_append, List.append_nil, List.contains_nil]
        refine XX_of (Flip2 s5) (fun res h6 hle6 hn => ?_)
        obtain ⟨rfl, kp6, w0, w1, s6, ow6⟩ := hn
        refine .ret ?_
        have t6 := t5.keep kp6 (fun q e e' => fD q e' (ow5 q e))
        have c6 := c5.keep kp6 (fun q hq e => by have := fA q e; omega)
        simp only [mach, ↓reduceIte, Nat.reduceEqDiff, Nat.reduceAdd, Nat.reduceMul, Nat.add_zero, Nat.zero_add, decide_true, decide_false, Bool.not_true, Bool.not_false, Bool.false_eq_true, List.nil_append, List.append_nil, List.contains_nil, vc_int, vc_bool, vc_str, vc_ptr, vc_sl, vc_map, vc_if, vc_ni, vc_nf, vc_fn, vc_agg, vs1, vl1, vsl, vll, bldv_nil, bldv_cons, lt0, lts, ld0, lds, ldn, lac, lln, llc, lg0, lgs, Nat.reduceLeDiff, true_and, and_true, and_self, Nat.reduceLT, Int.reduceEq]
        refine XX_val (Used2 s6) ?_
        simp only [mach, ↓reduceIte, Nat.reduceEqDiff, Nat.reduceAdd, Nat.reduceMul, Nat.add_zero, Nat.zero_add, decide_true, decide_false, Bool.not_true, Bool.not_false, Bool.false_eq_true, List.nil_append, List.append_nil, List.contains_nil]
        refine XX_val (rUsed_ok t6) ?_
        simp only [mach, ↓reduceIte, Nat.reduceEqDiff, Nat.reduceAdd, Nat.reduceMul, Nat.add_zero, Nat.zero_add, decide_true, decide_false, Bool.not_true, Bool.not_false, Bool.false_eq_true, List.nil_append, List.append_nil, List.contains_nil]
        refine XX_val (Size_ok s6) ?_
        simp only [mach, ↓reduceIte, Nat.reduceEqDiff, Nat.reduceAdd, Nat.reduceMul, Nat.add_zero, Nat.zero_add, decide_true, decide_false, Bool.not_true, Bool.not_false, Bool.false_eq_true, List.nil_append, List.append_nil, List.contains_nil]
        refine XX_val (rSize_ok t6) ?_
        simp only [mach, ↓reduceIte, Nat.reduceEqDiff, Nat.reduceAdd, Nat.reduceMul, Nat.add_zero, Nat.zero_add, decide_true, decide_false, Bool.not_true, Bool.not_false, Bool.false_eq_true, List.nil_append, List.append_nil, List.contains_nil]
        refine XX_val (Side_ok s6) ?_
        simp only [mach, ↓reduceIte, Nat.reduceEqDiff, Nat.reduceAdd, Nat.reduceMul, Nat.add_zero, Nat.zero_add, decide_true, decide_false, Bool.not_true, Bool.not_false, Bool.false_eq_true, List.nil_append, List.append_nil, List.contains_nil]
        refine XX_val (rSide_ok t6) ?_
        simp only [mach, ↓reduceIte, Nat.reduceEqDiff, Nat.reduceAdd, Nat.reduceMul, Nat.add_zero, Nat.zero_add, decide_true, decide_false, Bool.not_true, Bool.not_false, Bool.false_eq_true, List.nil_append, List.append_nil, List.contains_nil, hw2]
        refine next (i + 1, ev) _ _ _ ⟨by omega, by omega, c6, _, _, _, _, _, _, _, s6, t6, (fun q e => fA q (ow6 q e)), (fun q e => fB q (ow5 q e)), (fun q e e2 => fD q (ow6 q e) (ow5 q e2))⟩ ⟨rfl, rfl, rfl, rfl, rfl, ?_, trivial⟩ (by simp only; omega)
        simp only [Int.natCast_add, Int.cast_ofNat_Int]; rfl
      by_cases d5 : kd = 5
      · obtain ⟨a, e, hlk⟩ := lk_two old at'
        have ga := rOld_ok t4 at'
        have gb := Old2 s4 at'
        rw [hlk] at ga gb
        simp only [mach, ↓reduceIte, Nat.reduceEqDiff, Nat.reduceAdd, Nat.reduceMul, Nat.add_zero, Nat.zero_add, decide_true, decide_false, Bool.not_true, Bool.not_false, Bool.false_eq_true, List.nil_append, List.append_nil, List.contains_nil, on4.cells.ld, vc_int, vc_bool, vc_str, vc_ptr, vc_sl, vc_map, vc_if, vc_ni, vc_nf, vc_fn, vc_agg, vs1, vl1, vsl, vll, bldv_nil, bldv_cons, lt0, lts, ld0, lds, ldn, lac, lln, llc, lg0, lgs, Nat.reduceLeDiff, true_and, and_true, and_self, Nat.reduceLT, Int.reduceEq, d1, d2, d3, d4, d5]
        refine XX_val ga ?_
        simp only [mach, ↓reduceIte, Nat.reduceEqDiff, Nat.reduceAdd, Nat.reduceMul, Nat.add_zero, Nat.zero_add, decide_true, decide_false, Bool.not_true, Bool.not_false, Bool.false_eq_true, List.nil_append, List.append_nil, List.contains_nil, on4.cells.ld, vc_int, vc_bool, vc_str, vc_ptr, vc_sl, vc_map, vc_if, vc_ni, vc_nf, vc_fn, vc_agg, vs1, vl1, vsl, vll, bldv_nil, bldv_cons, lt0, lts, ld0, lds, ldn, lac, lln, llc, lg0, lgs, Nat.reduceLeDiff, true_and, and_true, and_self, Nat.reduceLT, Int.reduceEq]
        refine XX_val gb ?_
        simp only [mach, ↓reduceIte, Nat.reduceEqDiff, Nat.reduceAdd, Nat.reduceMul, Nat.add_zero, Nat.zero_add, decide_true, decide_false, Bool.not_true, Bool.not_false, Bool.false_eq_true, List.nil_append, List.append_nil, List.contains_nil, vc_int, vc_bool, vc_str, vc_ptr, vc_sl, vc_map, vc_if, vc_ni, vc_nf, vc_fn, vc_agg, vs1, vl1, vsl, vll, bldv_nil, bldv_cons, lt0, lts, ld0, lds, ldn, lac, lln, llc, lg0, lgs, Nat.reduceLeDiff, true_and, and_true, and_self, Nat.reduceLT, Int.reduceEq]
        refine XX_val (Used2 s4) ?_
        simp only [mach, ↓reduceIte, Nat.reduceEqDiff, Nat.reduceAdd, Nat.reduceMul, Nat.add_zero, Nat.zero_add, decide_true, decide_false, Bool.not_true, Bool.not_false, Bool.false_eq_true, List.nil_append, List.append_nil, List.contains_nil]
        refine XX_val (rUsed_ok t4) ?_
        simp only [mach, ↓reduceIte, Nat.reduceEqDiff, Nat.reduceAdd, Nat.reduceMul, Nat.add_zero, Nat.zero_add, decide_true, decide_false, Bool.not_true, Bool.not_false, Bool.false_eq_true, List.nil_append, List.append_nil, List.contains_nil]
        refine XX_val (Size_ok s4) ?_
        simp only [mach, ↓reduceIte, Nat.reduceEqDiff, Nat.reduceAdd, Nat.reduceMul, Nat.add_zero, Nat.zero_add, decide_true, decide_false, Bool.not_true, Bool.not_false, Bool.false_eq_true, List.nil_append, List.append_nil, List.contains_nil]
        refine XX_val (rSize_ok t4) ?_
        simp only [mach, ↓reduceIte, Nat.reduceEqDiff, Nat.reduceAdd, Nat.reduceMul, Nat.add_zero, Nat.zero_add, decide_true, decide_false, Bool.not_true, Bool.not_false, Bool.false_eq_true, List.nil_append, List.append_nil, List.contains_nil]
        refine XX_val (Side_ok s4) ?_
        simp only [mach, ↓reduceIte, Nat.reduceEqDiff, Nat.reduceAdd, Nat.reduceMul, Nat.add_zero, Nat.zero_add, decide_true, decide_false, Bool.not_true, Bool.not_false, Bool.false_eq_true, List.nil_append, List.append_nil, List.contains_nil]
        refine XX_val (rSide_ok t4) ?_
        simp only [mach, ↓reduceIte, Nat.reduceEqDiff, Nat.reduceAdd, Nat.reduceMul, Nat.add_zero, Nat.zero_add, decide_true, decide_false, Bool.not_true, Bool.not_false, Bool.false_eq_true, List.nil_append, List.append_nil, List.contains_nil, hw2]
        refine next (i + 1, e) _ _ _ ⟨by omega, nb4, c4, _, _, _, _, _, _, _, s4, t4, fA, fB, fD⟩ ⟨rfl, rfl, rfl, rfl, rfl, ?_, trivial⟩ (by simp only; omega)
        simp only [Int.natCast_add, Int.cast_ofNat_Int]; rfl
      by_cases d6 : kd = 6
      · simp only [mach, ↓reduceIte, Nat.reduceEqDiff, Nat.reduceAdd, Nat.reduceMul, Nat.add_zero, Nat.zero_add, decide_true, decide_false, Bool.not_true, Bool.not_false, Bool.false_eq_true, List.nil_append, List.append_nil, List.contains_nil, on4.cells.ld, vc_int, vc_bool, vc_str, vc_ptr, vc_sl, vc_map, vc_if, vc_ni, vc_nf, vc_fn, vc_agg, vs1, vl1, vsl, vll, bldv_nil, bldv_cons, lt0, lts, ld0, lds, ldn, lac, lln, llc, lg0, lgs, Nat.reduceLeDiff, true_and, and_true, and_self, Nat.reduceLT, Int.reduceEq, d1, d2, d3, d4, d5, d6]
        refine XX_of (rSetOld_ok t4 at' x) (fun res h5 hle5 hn => ?_)
        by_cases hf : 0 ≤ at' ∧ at' < (old.length : Int)
        · rw [if_pos hf] at hn
          obtain ⟨rfl, kp5, t5⟩ := hn
          refine .ret ?_
          have on5 := on4.keep kp5 nB
          have s5 := s4.keep kp5 fD
          have c5 := c4.keep kp5 (fun q hq e => by have := fB q e; omega)
          simp only [mach, ↓reduceIte, Nat.reduceEqDiff, Nat.reduceAdd, Nat.reduceMul, Nat.add_zero, Nat.zero_add, decide_true, decide_false, Bool.not_true, Bool.not_false, Bool.false_eq_true, List.nil_append, List.append_nil, List.contains_nil, on5.cells.ld, vc_int, vc_bool, vc_str, vc_ptr, vc_sl, vc_map, vc_if, vc_ni, vc_nf, vc_fn, vc_agg, vs1, vl1, vsl, vll, bldv_nil, bldv_cons, lt0, lts, ld0, lds, ldn, lac, lln, llc, lg0, lgs, Nat.reduceLeDiff, true_and, and_true, and_self, Nat.reduceLT, Int.reduceEq]
          refine XX_of (SetOld2 s5 at' x) (fun res h6 hle6 hn => ?_)
          rw [if_pos hf] at hn
          obtain ⟨rfl, kp6, s6⟩ := hn
          refine .ret ?_
          have t6 := t5.keep kp6 (fun q e e' => fD q e' e)
          have c6 := c5.keep kp6 (fun q hq e => by have := fA q e; omega)
          simp only [mach, ↓reduceIte, Nat.reduceEqDiff, Nat.reduceAdd, Nat.reduceMul, Nat.add_zero, Nat.zero_add, decide_true, decide_false, Bool.not_true, Bool.not_false, Bool.false_eq_true, List.nil_append, List.append_nil, List.contains_nil, vc_int, vc_bool, vc_str, vc_ptr, vc_sl, vc_map, vc_if, vc_ni, vc_nf, vc_fn, vc_agg, vs1, vl1, vsl, vll, bldv_nil, bldv_cons, lt0, lts, ld0, lds, ldn, lac, lln, llc, lg0, lgs, Nat.reduceLeDiff, true_and, and_true, and_self, Nat.reduceLT, Int.reduceEq]
          refine XX_val (Used2 s6) ?_
          simp only [mach, ↓reduceIte, Nat.reduceEqDiff, Nat.reduceAdd, Nat.reduceMul, Nat.add_zero, Nat.zero_add, decide_true, decide_false, Bool.not_true, Bool.not_false, Bool.false_eq_true, List.nil_append, List.append_nil, List.contains_nil]
          refine XX_val (rUsed_ok t6) ?_
          simp only [mach, ↓reduceIte, Nat.reduceEqDiff, Nat.reduceAdd, Nat.reduceMul, Nat.add_zero, Nat.zero_add, decide_true, decide_false, Bool.not_true, Bool.not_false, Bool.false_eq_true, List.nil_append, List.append_nil, List.contains_nil]
          refine XX_val (Size_ok s6) ?_
          simp only [mach, ↓reduceIte, Nat.reduceEqDiff, Nat.reduceAdd, Nat.reduceMul, Nat.add_zero, Nat.zero_add, decide_true, decide_false, Bool.not_true, Bool.not_false, Bool.false_eq_true, List.nil_append, List.append_nil, List.contains_nil]
          refine XX_val (rSize_ok t6) ?_
          simp only [mach, ↓reduceIte, Nat.reduceEqDiff, Nat.reduceAdd, Nat.reduceMul, Nat.add_zero, Nat.zero_add, decide_true, decide_false, Bool.not_true, Bool.not_false, Bool.false_eq_true, List.nil_append, List.append_nil, List.contains_nil]
          refine XX_val (Side_ok s6) ?_
          simp only [mach, ↓reduceIte, Nat.reduceEqDiff, Nat.reduceAdd, Nat.reduceMul, Nat.add_zero, Nat.zero_add, decide_true, decide_false, Bool.not_true, Bool.not_false, Bool.false_eq_true, List.nil_append, List.append_nil, List.contains_nil]
          refine XX_val (rSide_ok t6) ?_
          simp only [mach, ↓reduceIte, Nat.reduceEqDiff, Nat.reduceAdd, Nat.reduceMul, Nat.add_zero, Nat.zero_add, decide_true, decide_false, Bool.not_true, Bool.not_false, Bool.false_eq_true, List.nil_append, List.append_nil, List.contains_nil, hw2]
          refine next (i + 1, 0) _ _ _ ⟨by omega, by omega, c6, _, _, _, _, _, _, _, s6, t6, fA, fB, fD⟩ ⟨rfl, rfl, rfl, rfl, rfl, ?_, trivial⟩ (by simp only; omega)
          simp only [Int.natCast_add, Int.cast_ofNat_Int]; rfl
        · rw [if_neg hf] at hn
          obtain ⟨rfl, rfl⟩ := hn
          refine .ret ?_
          simp only [mach, ↓reduceIte, Nat.reduceEqDiff, Nat.reduceAdd, Nat.reduceMul, Nat.add_zero, Nat.zero_add, decide_true, decide_false, Bool.not_true, Bool.not_false, Bool.false_eq_true, List.nil_append, List.append_nil, List.contains_nil, on4.cells.ld, vc_int, vc_bool, vc_str, vc_ptr, vc_sl, vc_map, vc_if, vc_ni, vc_nf, vc_fn, vc_agg, vs1, vl1, vsl, vll, bldv_nil, bldv_cons, lt0, lts, ld0, lds, ldn, lac, lln, llc, lg0, lgs, Nat.reduceLeDiff, true_and, and_true, and_self, Nat.reduceLT, Int.reduceEq]
          refine XX_of (SetOld2 s4 at' x) (fun res h6 hle6 hn => ?_)
          rw [if_neg hf] at hn
          obtain ⟨rfl, rfl⟩ := hn
          refine .ret ?_
          simp only [mach, ↓reduceIte, Nat.reduceEqDiff, Nat.reduceAdd, Nat.reduceMul, Nat.add_zero, Nat.zero_add, decide_true, decide_false, Bool.not_true, Bool.not_false, Bool.false_eq_true, List.nil_append, List.append_nil, List.contains_nil, vc_int, vc_bool, vc_str, vc_ptr, vc_sl, vc_map, vc_if, vc_ni, vc_nf, vc_fn, vc_agg, vs1, vl1, vsl, vll, bldv_nil, bldv_cons, lt0, lts, ld0, lds, ldn, lac, lln, llc, lg0, lgs, Nat.reduceLeDiff, true_and, and_true, and_self, Nat.reduceLT, Int.reduceEq]
          refine XX_val (Used2 s4) ?_
          simp only [mach, ↓reduceIte, Nat.reduceEqDiff, Nat.reduceAdd, Nat.reduceMul, Nat.add_zero, Nat.zero_add, decide_true, decide_false, Bool.not_true, Bool.not_false, Bool.false_eq_true, List.nil_append, List.append_nil, List.contains_nil]
          refine XX_val (rUsed_ok t4) ?_
          simp only [mach, ↓reduceIte, Nat.reduceEqDiff, Nat.reduceAdd, Nat.reduceMul, Nat.add_zero, Nat.zero_add, decide_true, decide_false, Bool.not_true, Bool.not_false, Bool.false_eq_true, List.nil_append, List.append_nil, List.contains_nil]
          refine XX_val (Size_ok s4) ?_
          simp only [mach, ↓reduceIte, Nat.reduceEqDiff, Nat.reduceAdd, Nat.reduceMul, Nat.add_zero, Nat.zero_add, decide_true, decide_false, Bool.not_true, Bool.not_false, Bool.false_eq_true, List.nil_append, List.append_nil, List.contains_nil]
          refine XX_val (rSize_ok t4) ?_
          simp only [mach, ↓reduceIte, Nat.reduceEqDiff, Nat.reduceAdd, Nat.reduceMul, Nat.add_zero, Nat.zero_add, decide_true, decide_false, Bool.not_true, Bool.not_false, Bool.false_eq_true, List.nil_append, List.append_nil, List.contains_nil]
          refine XX_val (Side_ok s4) ?_
          simp only [mach, ↓reduceIte, Nat.reduceEqDiff, Nat.reduceAdd, Nat.reduceMul, Nat.add_zero, Nat.zero_add, decide_true, decide_false, Bool.not_true, Bool.not_false, Bool.false_eq_true, List.nil_append, List.append_nil, List.contains_nil]
          refine XX_val (rSide_ok t4) ?_
          simp only [mach, ↓reduceIte, Nat.reduceEqDiff, Nat.reduceAdd, Nat.reduceMul, Nat.add_zero, Nat.zero_add, decide_true, decide_false, Bool.not_true, Bool.not_false, Bool.false_eq_true, List.nil_append, List.append_nil, List.contains_nil, hw2]
          refine next (i + 1, 2) _ _ _ ⟨by omega, nb4, c4, _, _, _, _, _, _, _, s4, t4, fA, fB, fD⟩ ⟨rfl, rfl, rfl, rfl, rfl, ?_, trivial⟩ (by simp only; omega)
          simp only [Int.natCast_add, Int.cast_ofNat_Int]; rfl
      simp only [mach, ↓reduceIte, Nat.reduceEqDiff, Nat.reduceAdd, Nat.reduceMul, Nat.add_zero, Nat.zero_add, decide_true, decide_false, Bool.not_true, Bool.not_false, Bool.false_eq_true, List.nil_append, List.append_nil, List.contains_nil, on4.cells.ld, vc_int, vc_bool, vc_str, vc_ptr, vc_sl, vc_map, vc_if, vc_ni, vc_nf, vc_fn, vc_agg, vs1, vl1, vsl, vll, bldv_nil, bldv_cons, lt0, lts, ld0, lds, ldn, lac, lln, llc, lg0, lgs, Nat.reduceLeDiff, true_and, and_true, and_self, Nat.reduceLT, Int.reduceEq, d1, d2, d3, d4, d5, d6]
      refine XX_val (Used2 s4) ?_
      simp only [mach, ↓reduceIte, Nat.reduceEqDiff, Nat.reduceAdd, Nat.reduceMul, Nat.add_zero, Nat.zero_add, decide_true, decide_false, Bool.not_true, Bool.not_false, Bool.false_eq_true, List.nil_append, List.append_nil, List.contains_nil]
      refine XX_val (rUsed_ok t4) ?_
      simp only [mach, ↓reduceIte, Nat.reduceEqDiff, Nat.reduceAdd, Nat.reduceMul, Nat.add_zero, Nat.zero_add, decide_true, decide_false, Bool.not_true, Bool.not_false, Bool.false_eq_true, List.nil_append, List.append_nil, List.contains_nil]
      refine XX_val (Size_ok s4) ?_
      simp only [mach, ↓reduceIte, Nat.reduceEqDiff, Nat.reduceAdd, Nat.reduceMul, Nat.add_zero, Nat.zero_add, decide_true, decide_false, Bool.not_true, Bool.not_false, Bool.false_eq_true, List.nil_append, List.append_nil, List.contains_nil]
      refine XX_val (rSize_ok t4) ?_
      simp only [mach, ↓reduceIte, Nat.reduceEqDiff, Nat.reduceAdd, Nat.reduceMul, Nat.add_zero, Nat.zero_add, decide_true, decide_false, Bool.not_true, Bool.not_false, Bool.false_eq_true, List.nil_append, List.append_nil, List.contains_nil]
      refine XX_val (Side_ok s4) ?_
      simp only [mach, ↓reduceIte, Nat.reduceEqDiff, Nat.reduceAdd, Nat.reduceMul, Nat.add_zero, Nat.zero_add, decide_true, decide_false, Bool.not_true, Bool.not_false, Bool.false_eq_true, List.nil_append, List.append_nil, List.contains_nil]
      refine XX_val (rSide_ok t4) ?_
      simp only [mach, ↓reduceIte, Nat.reduceEqDiff, Nat.reduceAdd, Nat.reduceMul, Nat.add_zero, Nat.zero_add, decide_true, decide_false, Bool.not_true, Bool.not_false, Bool.false_eq_true, List.nil_append, List.append_nil, List.contains_nil, hw2]
      refine next (i + 1, ev) _ _ _ ⟨by omega, nb4, c4, _, _, _, _, _, _, _, s4, t4, fA, fB, fD⟩ ⟨rfl, rfl, rfl, rfl, rfl, ?_, trivial⟩ (by simp only; omega)
      simp only [Int.natCast_add, Int.cast_ofNat_Int]; rfl
    simp only [mach, ↓reduceIte, Nat.reduceEqDiff, Nat.reduceAdd, Nat.reduceMul, Nat.add_zero, Nat.zero_add, decide_true, decide_false, Bool.not_true, Bool.not_false, Bool.false_eq_true, List.nil_append, List.append_nil, List.contains_nil, hi]
    refine out (.exit 0) _ _ _ _ (by intro e; cases e) ?_
    simp only [mach, ↓reduceIte, Nat.reduceEqDiff, Nat.reduceAdd, Nat.reduceMul, Nat.add_zero, Nat.zero_add, decide_true, decide_false, Bool.not_true, Bool.not_false, Bool.false_eq_true, List.nil_append, List.append_nil, List.contains_nil]
    exact hΨ _ _ (fin_ret (rv1 rfl rfl))
  · rw [if_neg hN] at hn
    obtain ⟨rfl, rfl⟩ := hn
    refine .ret ?_
    simp only [mach, ↓reduceIte, Nat.reduceEqDiff, Nat.reduceAdd, Nat.reduceMul, Nat.add_zero, Nat.zero_add, decide_true, decide_false, Bool.not_true, Bool.not_false, Bool.false_eq_true, List.nil_append, List.append_nil, List.contains_nil, vc_int, vc_bool, vc_str, vc_ptr, vc_sl, vc_map, vc_if, vc_ni, vc_nf, vc_fn, vc_agg, vs1, vl1, vsl, vll, bldv_nil, bldv_cons, lt0, lts, ld0, lds, ldn, lac, lln, llc, lg0, lgs, Nat.reduceLeDiff, true_and, and_true, and_self, Nat.reduceLT, Int.reduceEq]
    refine XX_of (rnew_ok N h1) (fun res h2 _ hn => ?_)
    rw [if_neg hN] at hn
    obtain ⟨rfl, rfl⟩ := hn
    refine .ret ?_
    simp only [mach, ↓reduceIte, Nat.reduceEqDiff, Nat.reduceAdd, Nat.reduceMul, Nat.add_zero, Nat.zero_add, decide_true, decide_false, Bool.not_true, Bool.not_false, Bool.false_eq_true, List.nil_append, List.append_nil, List.contains_nil, vc_int, vc_bool, vc_str, vc_ptr, vc_sl, vc_map, vc_if, vc_ni, vc_nf, vc_fn, vc_agg, vs1, vl1, vsl, vll, bldv_nil, bldv_cons, lt0, lts, ld0, lds, ldn, lac, lln, llc, lg0, lgs, Nat.reduceLeDiff, true_and, and_true, and_self, Nat.reduceLT, Int.reduceEq]
    refine XLo_rule (α := Unit) (fun a => [(1, .slice ua m uc), (7, .pointer none), (9, iv 0)]) (fun a h' => True) (fun a => 0) () trivial ⟨rfl, rfl, rfl, trivial⟩ ?_
    rintro _ h3 Ψ2 _ next out
    by_cases hi : (0 : Int) < m
    · simp only [mach, ↓reduceIte, Nat.reduceEqDiff, Nat.reduceAdd, Nat.reduceMul, Nat.add_zero, Nat.zero_add, decide_true, decide_false, Bool.not_true, Bool.not_false, Bool.false_eq_true, List.nil_append, List.append_nil, List.contains_nil, hi]
      refine out (.exit 0) _ _ _ _ (by intro e; cases e) ?_
      simp only [mach, ↓reduceIte, Nat.reduceEqDiff, Nat.reduceAdd, Nat.reduceMul, Nat.add_zero, Nat.zero_add, decide_true, decide_false, Bool.not_true, Bool.not_false, Bool.false_eq_true, List.nil_append, List.append_nil, List.contains_nil]
      exact hΨ _ _ (fin_ret (rv1 rfl rfl))
    · simp only [mach, ↓reduceIte, Nat.reduceEqDiff, Nat.reduceAdd, Nat.reduceMul, Nat.add_zero, Nat.zero_add, decide_true, decide_false, Bool.not_true, Bool.not_false, Bool.false_eq_true, List.nil_append, List.append_nil, List.contains_nil, hi]
      refine out (.exit 0) _ _ _ _ (by intro e; cases e) ?_
      simp only [mach, ↓reduceIte, Nat.reduceEqDiff, Nat.reduceAdd, Nat.reduceMul, Nat.add_zero, Nat.zero_add, decide_true, decide_false, Bool.not_true, Bool.not_false, Bool.false_eq_true, List.nil_append, List.append_nil, List.contains_nil]
      exact hΨ _ _ (fin_ret (rv1 rfl rfl))

end Go.S02
