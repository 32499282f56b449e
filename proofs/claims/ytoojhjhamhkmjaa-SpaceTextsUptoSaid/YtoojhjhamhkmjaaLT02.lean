/- Layer 2: rows with room. -/
import Derived.Test.YtoojhjhamhkmjaaLS02
set_option linter.unusedVariables false
set_option linter.unusedSimpArgs false
namespace Go.S02
open Go Go.Eng Go.Proofs

def tl (i : Nat) : List Int := (List.range i).map fun (j : Nat) => -100 - (j : Int)
theorem tl_len (i : Nat) : (tl i).length = i := by simp [tl]
theorem tl_succ (i : Nat) : tl (i + 1) = tl i ++ [-100 - (i : Int)] := by simp [tl, List.range_succ]
theorem ns_app (a b : List Int) : ns (a ++ b) = ns a ++ ns b := by simp [ns]

theorem Roomy_ok {h : AH} {u : Value} {xs : List Int} {m : Nat} (hu : Rds h 1 u m (ns xs)) (hm : m ≤ 262144) :
    Gets Try.prog 10 [u] h (fun res h' => ∃ v, res = .ret v ∧ Ows h' 3 1 v (m + 20) (ns (xs ++ tl 20)) ∧ Keep (fun _ => False) h h' ∧ ∀ q, bk v q → h.length ≤ q) := by
  refine Gets.of (keep := false) hP (draw_ok hM) k10 (by rfl) (fun Ψ hΨ => ?_)
  have hlen : xs.length = m := by have := hu.len; rw [ns_len, Nat.mul_one] at this; exact this
  obtain ⟨ua, uc, rfl⟩ := shape hu
  have hw : IntKind.i64.wrap ((m : Int) + 20) = m + 20 := i64w (by omega) (by omega)
  have hms : mslv h.length 3 [iv 0] 8 (iv 0) (iv (m + 20)) = some (.slice (some ⟨h.length, 0, none⟩) 0 (m + 20), some (row 3 h.length (List.replicate (m + 20) [iv 0]).flatten)) := by
    simp only [mslv]
    rw [if_pos (by refine ⟨by omega, by omega, by omega, ?_⟩; omega)]
    rfl
  have ho : Ows (h ++ [row 3 h.length (List.replicate (m + 20) [iv 0]).flatten]) 3 1 (.slice (some ⟨h.length, 0, none⟩) 0 (m + 20)) 0 [] :=
    .mk (Own.new h 3 _ _) (by simp) (by omega) (by simp)
  have hu' := hu.keep (Keep.push (fun _ => False) h (row 3 h.length (List.replicate (m + 20) [iv 0]).flatten)) (fun _ _ e => e)
  obtain ⟨_, hsrc, rfl⟩ := hu'.src (ns_one xs)
  obtain ⟨s', h1, k1, k2, k3, k4⟩ := ho.app (bytes := 8) hsrc (by rw [ns_len, hlen, Nat.mul_one]) (ns_one xs) (by omega) (by omega)
  simp only [mach, ↓reduceIte, Nat.reduceEqDiff, Nat.reduceAdd, Nat.reduceMul, Nat.add_zero, Nat.zero_add, decide_true, decide_false, Bool.not_true, Bool.not_false, Bool.false_eq_true, List.nil_append, List.append_nil, List.contains_nil, r10, hw, hms, k1]
  refine XLo_rule (α := Nat × Value) (fun a => [(2, .slice none 0 0), (3, a.2), (4, iv a.1)]) (fun a h' => a.1 ≤ 20 ∧ Ows h' 3 1 a.2 (m + a.1) (ns (xs ++ tl a.1)) ∧ Keep (fun _ => False) h h' ∧ ∀ q, bk a.2 q → h.length ≤ q)
    (fun a => 20 - a.1) (0, s') ⟨by omega, ?_, ?_, ?_⟩ ⟨rfl, rfl, rfl, trivial⟩ ?_
  · simp only [tl, List.range_zero, List.map_nil, List.append_nil]; simpa using k2
  · exact (Keep.push (fun _ => False) h _).trans' k3 (fun c hc e => by cases e; omega) |>.mono (fun _ e => e)
  · intro q hq
    rcases k4 q hq with e | e
    · cases e; omega
    · simp at e; omega
  · rintro ⟨i, v⟩ h2 Ψ2 ⟨i1, i2, i3, i4⟩ next out
    simp only at i1 i2 i3 i4
    by_cases hi : (i : Int) < 20
    · have hw1 : IntKind.i64.wrap (-100 - (i : Int)) = -100 - i := i64w (by omega) (by omega)
      have hw2 : IntKind.i64.wrap ((i : Int) + 1) = i + 1 := i64w (by omega) (by omega)
      have j2 := i2.keep (Keep.push (fun _ => False) h2 (row 3 h2.length [iv (-100 - i)])) (fun _ _ e => e)
      have hr : Rds (h2 ++ [row 3 h2.length [iv (-100 - (i : Int))]]) 1 (.slice (some ⟨h2.length, 0, none⟩) 1 1) 1 (ns [-100 - (i : Int)]) := .mk (Own.new h2 3 _ _).cells (by simp) rfl
      obtain ⟨_, hs2, rfl⟩ := hr.src (ns_one _)
      obtain ⟨s2, h3, q1, q2, q3, q4⟩ := j2.app (bytes := 8) hs2 rfl rfl (by omega) (by omega)
      simp only [mach, ↓reduceIte, Nat.reduceEqDiff, Nat.reduceAdd, Nat.reduceMul, Nat.add_zero, Nat.zero_add, decide_true, decide_false, Bool.not_true, Bool.not_false, Bool.false_eq_true, List.nil_append, List.append_nil, List.contains_nil, hi, hw1, hw2, vc_int, vc_bool, vc_str, vc_ptr, vc_sl, vc_map, vc_if, vc_ni, vc_nf, vc_fn, vc_agg, vs1, vl1, vsl, vll, bldv_nil, bldv_cons, lt0, lts, ld0, lds, ldn, lac, lln, llc, lg0, lgs, Nat.reduceLeDiff, true_and, and_true, and_self, Nat.reduceLT, Int.reduceEq, q1]
      refine next (i + 1, s2) _ _ _ ⟨by omega, ?_, ?_, ?_⟩ ⟨rfl, rfl, by simp only [Int.natCast_add, Int.cast_ofNat_Int]; rfl, trivial⟩ (by simp only; omega)
      · rw [tl_succ, ← List.append_assoc, ns_app]; exact q2
      · refine (i3.trans (Keep.push _ h2 _)).trans' q3 (fun c hc e => ?_)
        have := i4 c e; omega
      · intro q hq
        rcases q4 q hq with e | e
        · exact i4 q e
        · have := i3.len; simp at e; omega
    · have : i = 20 := by omega
      subst this
      simp only [mach, ↓reduceIte, Nat.reduceEqDiff, Nat.reduceAdd, Nat.reduceMul, Nat.add_zero, Nat.zero_add, decide_true, decide_false, Bool.not_true, Bool.not_false, Bool.false_eq_true, List.nil_append, List.append_nil, List.contains_nil, hi]
      refine out (.exit 0) _ _ _ _ (by intro e; cases e) ?_
      simp only [mach, ↓reduceIte, Nat.reduceEqDiff, Nat.reduceAdd, Nat.reduceMul, Nat.add_zero, Nat.zero_add, decide_true, decide_false, Bool.not_true, Bool.not_false, Bool.false_eq_true, List.nil_append, List.append_nil, List.contains_nil]
      exact hΨ _ _ (fin_ret (rv1 rfl ⟨v, rfl, i2, i3, i4⟩))


/-- Two rows of the same numbers. -/
theorem Same_ok {h : AH} {u v : Value} {xs : List Int} {m : Nat} (hu : Rds h 1 u m (ns xs)) (hv : Rds h 1 v m (ns xs)) (hm : m ≤ 1000000000) :
    Gets Try.prog 53 [u, v] h (fun res h' => h' = h ∧ res = .ret (.bool true)) := by
  refine Gets.of (keep := false) hP (draw_ok hM) k53 (by rfl) (fun Ψ hΨ => ?_)
  have hlen : xs.length = m := by have := hu.len; rw [ns_len, Nat.mul_one] at this; exact this
  obtain ⟨ua, uc, rfl⟩ := shape hu
  obtain ⟨va, vc, rfl⟩ := shape hv
  simp only [mach, ↓reduceIte, Nat.reduceEqDiff, Nat.reduceAdd, Nat.reduceMul, Nat.add_zero, Nat.zero_add, decide_true, decide_false, Bool.not_true, Bool.not_false, Bool.false_eq_true, List.nil_append, List.append_nil, List.contains_nil, r53]
  refine XLo_rule (α := Nat) (fun a => [(0, .slice ua m uc), (1, .slice va m vc), (4, .bool false), (5, iv a)]) (fun a h' => a ≤ m ∧ h' = h) (fun a => m - a) 0 ⟨by omega, rfl⟩ ⟨rfl, rfl, rfl, rfl, trivial⟩ ?_
  rintro i h2 Ψ2 ⟨i1, rfl⟩ next out
  by_cases hi : (i : Int) < m
  · have hw2 : IntKind.i64.wrap ((i : Int) + 1) = i + 1 := i64w (by omega) (by omega)
    obtain ⟨x, hx⟩ : ∃ x, xs[(i : Int).toNat]? = some x := ⟨_, List.getElem?_eq_getElem (by simp; omega)⟩
    obtain ⟨b1, o1, c1, e1, _, hld1⟩ := rds_ix hu (by omega) hx
    obtain ⟨b2, o2, c2, e2, _, hld2⟩ := rds_ix hv (by omega) hx
    cases e1; cases e2
    have hin : 0 ≤ (i : Int) := by omega
    simp only [mach, ↓reduceIte, Nat.reduceEqDiff, Nat.reduceAdd, Nat.reduceMul, Nat.add_zero, Nat.zero_add, decide_true, decide_false, Bool.not_true, Bool.not_false, Bool.false_eq_true, List.nil_append, List.append_nil, List.contains_nil, hi, hin, and_self, hw2, hld1, hld2, Nat.mul_one]
    refine next (i + 1) _ _ _ ⟨by omega, rfl⟩ ⟨rfl, rfl, rfl, ?_, trivial⟩ (by omega)
    simp only [Int.natCast_add, Int.cast_ofNat_Int]; rfl
  · simp only [mach, ↓reduceIte, Nat.reduceEqDiff, Nat.reduceAdd, Nat.reduceMul, Nat.add_zero, Nat.zero_add, decide_true, decide_false, Bool.not_true, Bool.not_false, Bool.false_eq_true, List.nil_append, List.append_nil, List.contains_nil, hi]
    refine out (.exit 0) _ _ _ _ (by intro e; cases e) ?_
    simp only [mach, ↓reduceIte, Nat.reduceEqDiff, Nat.reduceAdd, Nat.reduceMul, Nat.add_zero, Nat.zero_add, decide_true, decide_false, Bool.not_true, Bool.not_false, Bool.false_eq_true, List.nil_append, List.append_nil, List.contains_nil]
    exact hΨ _ _ (fin_ret (rv1 rfl ⟨rfl, rfl⟩))


theorem tl_get {i : Nat} (hi : i < 20) : (tl 20)[i]? = some (-100 - (i : Int)) := by simp [tl, hi]

theorem Kept_ok {h : AH} {u v : Value} {xs : List Int} {m : Nat} (hu : Ows h 3 1 u (m + 20) (ns (xs ++ tl 20))) (hv : Rds h 1 v m (ns xs)) (hm : m ≤ 262144) :
    Gets Try.prog 12 [u, v] h (fun res h' => h' = h ∧ res = .ret (.bool true)) := by
  refine Gets.of (keep := false) hP (draw_ok hM) k12 (by rfl) (fun Ψ hΨ => ?_)
  have hlen : xs.length = m := by have := hv.len; rw [ns_len, Nat.mul_one] at this; exact this
  obtain ⟨va, vc, rfl⟩ := shape hv
  have hur := hu.rds
  obtain ⟨b, c, all, rfl, hb, hl, hc, hx⟩ : ∃ b c all, u = .slice (some ⟨b, 0, none⟩) (m + 20) c ∧ Own h b 3 all ∧ all.length = c ∧ m + 20 ≤ c ∧ all.take (m + 20) = ns (xs ++ tl 20) := by
    generalize hn : m + 20 = n at hu
    generalize hy : ns (xs ++ tl 20) = y at hu
    cases hu with
    | nil => omega
    | @mk b n c all cs h1 h2 h3 h4 => exact ⟨b, c, all, rfl, h1, by rw [h2, Nat.mul_one], by omega, by simpa using h4⟩
  have hw : IntKind.i64.wrap ((m : Int) + 20) = m + 20 := i64w (by omega) (by omega)
  have hpre : Rds h 1 (.slice (some ⟨b, 0, none⟩) m c) m (ns xs) := by
    refine .mk hb.cells (by omega) ?_
    have : (all.take (m + 20)).take m = ns xs := by rw [hx, ns_app, List.take_append_of_le_length (by rw [ns_len]; omega), List.take_of_length_le (by rw [ns_len]; omega)]
    rw [List.take_take, Nat.min_eq_left (by omega)] at this
    simpa using this
  have hsl : sllv h 3 1 (.slice (some ⟨b, 0, none⟩) (m + 20) c) none (some (iv m)) = some (.slice (some ⟨b, 0, none⟩) m c, none) := by
    obtain ⟨g, hg⟩ := hb
    have : helem h b = some 3 := by simp [helem, hg]
    simp only [sllv, this, if_true, bnd, Option.bind_some]
    rw [if_pos (by omega)]
    simp
  have hsm := Same_ok hpre hv (by omega)
  simp only [mach, ↓reduceIte, Nat.reduceEqDiff, Nat.reduceAdd, Nat.reduceMul, Nat.add_zero, Nat.zero_add, decide_true, decide_false, Bool.not_true, Bool.not_false, Bool.false_eq_true, List.nil_append, List.append_nil, List.contains_nil, r12, Int.natCast_add, Int.cast_ofNat_Int, hw, hsl]
  refine XX_val hsm ?_
  simp only [mach, ↓reduceIte, Nat.reduceEqDiff, Nat.reduceAdd, Nat.reduceMul, Nat.add_zero, Nat.zero_add, decide_true, decide_false, Bool.not_true, Bool.not_false, Bool.false_eq_true, List.nil_append, List.append_nil, List.contains_nil]
  refine XLo_rule (α := Nat) (fun a => [(0, .slice (some ⟨b, 0, none⟩) (m + 20) c), (1, .slice va m vc), (4, .bool false), (5, iv a)]) (fun a h' => a ≤ 20 ∧ h' = h) (fun a => 20 - a) 0 ⟨by omega, rfl⟩ ⟨rfl, rfl, rfl, rfl, trivial⟩ ?_
  rintro i h2 Ψ2 ⟨i1, rfl⟩ next out
  by_cases hi : (i : Int) < 20
  · have hw1 : IntKind.i64.wrap (-100 - (i : Int)) = -100 - i := i64w (by omega) (by omega)
    have hw2 : IntKind.i64.wrap ((i : Int) + 1) = i + 1 := i64w (by omega) (by omega)
    have hw3 : IntKind.i64.wrap ((m : Int) + i) = m + i := i64w (by omega) (by omega)
    obtain ⟨b1, o1, c1, e1, _, hld1⟩ := rds_ix hur (i := (m : Int) + i) (by omega) (x := -100 - (i : Int)) (by
      rw [show ((m : Int) + i).toNat = xs.length + i by omega, List.getElem?_append_right (by omega), Nat.add_sub_cancel_left]; exact tl_get (by omega))
    cases e1; rw [Nat.zero_add] at hld1
    have hin : (0 ≤ (m : Int) + i ∧ (m : Int) + i < m + 20) = True := by simp; omega
    simp only [mach, ↓reduceIte, Nat.reduceEqDiff, Nat.reduceAdd, Nat.reduceMul, Nat.add_zero, Nat.zero_add, decide_true, decide_false, Bool.not_true, Bool.not_false, Bool.false_eq_true, List.nil_append, List.append_nil, List.contains_nil, hi, hw1, hw2, hw3, Int.natCast_add, Int.cast_ofNat_Int, hin, hld1, Nat.mul_one]

    refine next (i + 1) _ _ _ ⟨by omega, rfl⟩ ⟨rfl, rfl, rfl, ?_, trivial⟩ (by omega)
    simp only [Int.natCast_add, Int.cast_ofNat_Int]; rfl
  · simp only [mach, ↓reduceIte, Nat.reduceEqDiff, Nat.reduceAdd, Nat.reduceMul, Nat.add_zero, Nat.zero_add, decide_true, decide_false, Bool.not_true, Bool.not_false, Bool.false_eq_true, List.nil_append, List.append_nil, List.contains_nil, hi]
    refine out (.exit 0) _ _ _ _ (by intro e; cases e) ?_
    simp only [mach, ↓reduceIte, Nat.reduceEqDiff, Nat.reduceAdd, Nat.reduceMul, Nat.add_zero, Nat.zero_add, decide_true, decide_false, Bool.not_true, Bool.not_false, Bool.false_eq_true, List.nil_append, List.append_nil, List.contains_nil]
    exact hΨ _ _ (fin_ret (rv1 rfl ⟨rfl, rfl⟩))

end Go.S02
