/- Layer 2: a space of texts, its functions. -/
import Derived.Test.YtoojhjhamhkmjaaLC02
import Derived.Test.YtoojhjhamhkmjaaLA02
set_option linter.unusedVariables false
set_option linter.unusedSimpArgs false
namespace Go.S02.Tx
open Go Go.Eng Go.Proofs Go.S02

theorem new_ok (size : Int) (h : AH) : Gets Try.prog 31 [iv size] h (fun res h' => if 0 ≤ size ∧ size ≤ 1048576 then res = .ret (.tuple #[.pointer (some ⟨h.length, 0, none⟩), iv 0]) ∧ h' = h ++ [row 74 h.length [.slice none 0 0, .slice none 0 0, iv size, iv 0]] else res = .ret (.tuple #[.pointer none, iv 1]) ∧ h' = h) := by
  refine Gets.of (keep := false) hP (draw_ok hM) k31 (by rfl) (fun Ψ hΨ => ?_)
  by_cases h0 : size < 0
  · simp only [mach, ↓reduceIte, Nat.reduceEqDiff, Nat.reduceAdd, Nat.reduceMul, Nat.add_zero, Nat.zero_add, decide_true, decide_false, Bool.not_true, Bool.not_false, Bool.false_eq_true, List.nil_append, List.append_nil, List.contains_nil, r31, h0]
    refine hΨ _ _ (fin_ret (rv2 rfl rfl ?_))
    rw [if_neg (by omega)]; exact ⟨rfl, rfl⟩
  · by_cases h1 : (1048576 : Int) < size
    · simp only [mach, ↓reduceIte, Nat.reduceEqDiff, Nat.reduceAdd, Nat.reduceMul, Nat.add_zero, Nat.zero_add, decide_true, decide_false, Bool.not_true, Bool.not_false, Bool.false_eq_true, List.nil_append, List.append_nil, List.contains_nil, r31, h0, h1]
      refine hΨ _ _ (fin_ret (rv2 rfl rfl ?_))
      rw [if_neg (by omega)]; exact ⟨rfl, rfl⟩
    · simp only [mach, ↓reduceIte, Nat.reduceEqDiff, Nat.reduceAdd, Nat.reduceMul, Nat.add_zero, Nat.zero_add, decide_true, decide_false, Bool.not_true, Bool.not_false, Bool.false_eq_true, List.nil_append, List.append_nil, List.contains_nil, r31, h0, h1, vc_int, vc_bool, vc_str, vc_ptr, vc_sl, vc_map, vc_if, vc_ni, vc_nf, vc_fn, vc_agg, vs1, vl1, vsl, vll, bldv_nil, bldv_cons, lt0, lts, ld0, lds, ldn, lac, lln, llc, lg0, lgs, Nat.reduceLeDiff, true_and, and_true, and_self, Nat.reduceLT, Int.reduceEq]
      refine hΨ _ _ (fin_ret (rv2 rfl rfl ?_))
      rw [if_pos (by omega)]; exact ⟨rfl, rfl⟩


/-- A half of a space. -/
theorem within_ok {h : AH} {b o : Nat} {all : List Value} {v : Value} {n : Nat} {cs : List Value} (hb : Cells h b all) (ho : all[o]? = some v) (hr : Rds h 1 v n cs) (at' : Int) :
    Gets Try.prog 62 [.pointer (some ⟨b, o, none⟩), iv at'] h (fun res h' => h' = h ∧ res = .ret (.bool (decide (0 ≤ at') && decide (at' < n)))) := by
  refine Gets.of (keep := false) hP (draw_ok hM) k62 (by rfl) (fun Ψ hΨ => ?_)
  have hv : ∃ a c, v = .slice a n c := by cases hr with
    | nil => exact ⟨_, _, rfl⟩
    | emp => exact ⟨_, _, rfl⟩
    | mk => exact ⟨_, _, rfl⟩
  obtain ⟨a, c, rfl⟩ := hv
  by_cases h0 : 0 ≤ at'
  · simp only [mach, ↓reduceIte, Nat.reduceEqDiff, Nat.reduceAdd, Nat.reduceMul, Nat.add_zero, Nat.zero_add, decide_true, decide_false, Bool.not_true, Bool.not_false, Bool.false_eq_true, List.nil_append, List.append_nil, List.contains_nil, r62, h0, hb.ld, ho]
    exact hΨ _ _ (fin_ret (rv1 rfl ⟨rfl, by simp [tup, h0]⟩))
  · simp only [mach, ↓reduceIte, Nat.reduceEqDiff, Nat.reduceAdd, Nat.reduceMul, Nat.add_zero, Nat.zero_add, decide_true, decide_false, Bool.not_true, Bool.not_false, Bool.false_eq_true, List.nil_append, List.append_nil, List.contains_nil, r62, h0]
    exact hΨ _ _ (fin_ret (rv1 rfl ⟨rfl, by simp [tup, h0]⟩))



/-- A row of numbers at a place. -/
theorem rds_ix {h : AH} {v : Value} {n : Nat} {xs : List Int} (hr : Rds h 1 v n (ss xs)) {i : Int} (h0 : 0 ≤ i) {x : Int} (hx : xs[i.toNat]? = some x) :
    ∃ b o c, v = .slice (some ⟨b, o, none⟩) n c ∧ i < n ∧ ldc h b (o + i.toNat) = some (sv x) := by
  have hlen := hr.len
  rw [ss_len, Nat.mul_one] at hlen
  have hl : i.toNat < xs.length := (List.getElem?_eq_some_iff.1 hx).1
  obtain ⟨b, o, c, e, k⟩ := hr.at (i := i.toNat) (by omega)
  refine ⟨b, o, c, e, by omega, ?_⟩
  have := k 0 (by omega)
  rw [Nat.mul_one, Nat.add_zero, Nat.add_zero] at this
  rw [this, ss_get, hx]; rfl

theorem get_ok {h : AH} {b o : Nat} {all : List Value} {v : Value} {n : Nat} {xs : List Int} (hb : Cells h b all) (ho : all[o]? = some v) (hr : Rds h 1 v n (ss xs)) (at' : Int) :
    Gets Try.prog 56 [.pointer (some ⟨b, o, none⟩), iv at'] h (fun res h' => h' = h ∧ res = .ret (.tuple (if 0 ≤ at' ∧ at' < n then #[sv (xs[at'.toNat]?.getD 0), iv 0] else #[.string ⟨#[]⟩, iv 2]))) := by
  refine Gets.of (keep := false) hP (draw_ok hM) k56 (by rfl) (fun Ψ hΨ => ?_)
  have hw := within_ok hb ho hr at'
  have hlen := hr.len
  rw [ss_len, Nat.mul_one] at hlen
  by_cases hin : 0 ≤ at' ∧ at' < n
  · rw [show (decide (0 ≤ at') && decide (at' < (n : Int))) = true by simp [hin]] at hw
    simp only [mach, ↓reduceIte, Nat.reduceEqDiff, Nat.reduceAdd, Nat.reduceMul, Nat.add_zero, Nat.zero_add, decide_true, decide_false, Bool.not_true, Bool.not_false, Bool.false_eq_true, List.nil_append, List.append_nil, List.contains_nil, r56]
    refine XX_val hw ?_
    obtain ⟨x, hx⟩ : ∃ x, xs[at'.toNat]? = some x := ⟨_, List.getElem?_eq_getElem (by omega)⟩
    obtain ⟨b1, o1, c1, rfl, _, hld⟩ := rds_ix hr hin.1 hx
    simp only [mach, ↓reduceIte, Nat.reduceEqDiff, Nat.reduceAdd, Nat.reduceMul, Nat.add_zero, Nat.zero_add, decide_true, decide_false, Bool.not_true, Bool.not_false, Bool.false_eq_true, List.nil_append, List.append_nil, List.contains_nil, hb.ld, ho, hin, and_self, Nat.mul_one, hld]
    refine hΨ _ _ (fin_ret (rv2 rfl rfl ⟨rfl, ?_⟩))
    rw [hx, if_pos hin]; rfl
  · rw [show (decide (0 ≤ at') && decide (at' < (n : Int))) = false by simp; omega] at hw
    simp only [mach, ↓reduceIte, Nat.reduceEqDiff, Nat.reduceAdd, Nat.reduceMul, Nat.add_zero, Nat.zero_add, decide_true, decide_false, Bool.not_true, Bool.not_false, Bool.false_eq_true, List.nil_append, List.append_nil, List.contains_nil, r56]
    refine XX_val hw ?_
    simp only [mach, ↓reduceIte, Nat.reduceEqDiff, Nat.reduceAdd, Nat.reduceMul, Nat.add_zero, Nat.zero_add, decide_true, decide_false, Bool.not_true, Bool.not_false, Bool.false_eq_true, List.nil_append, List.append_nil, List.contains_nil]
    refine hΨ _ _ (fin_ret (rv2 rfl rfl ⟨rfl, ?_⟩))
    rw [if_neg hin]; rfl


/-- A space of numbers. -/
structure Spc (h : AH) (b : Nat) (size side : Int) (v0 v1 : Value) (x0 x1 : List Int) : Prop where
  own : Own h b 74 [v0, v1, iv size, iv side]
  r0 : Ows h 9 1 v0 x0.length (ss x0)
  r1 : Ows h 9 1 v1 x1.length (ss x1)
  d : ∀ q, bk v0 q → ¬ bk v1 q
  d0 : ∀ q, bk v0 q → q ≠ b
  d1 : ∀ q, bk v1 q → q ≠ b
  sd : side = 0 ∨ side = 1
  sz : 0 ≤ size ∧ size ≤ 1048576
  l0 : (x0.length : Int) ≤ size
  l1 : (x1.length : Int) ≤ size


theorem Spc.keep {S : Nat → Prop} {h h' : AH} {b : Nat} {size side : Int} {v0 v1 : Value} {x0 x1 : List Int} (s : Spc h b size side v0 v1 x0 x1) (k : Keep S h h') (hs : ∀ q, Owns b v0 v1 q → ¬ S q) : Spc h' b size side v0 v1 x0 x1 :=
  ⟨s.own.keep k (hs _ (.inl rfl)), s.r0.keep k (fun q hq => hs q (.inr (.inl hq))), s.r1.keep k (fun q hq => hs q (.inr (.inr hq))), s.d, s.d0, s.d1, s.sd, s.sz, s.l0, s.l1⟩

def lk (xs : List Int) (at' : Int) : Array Value := if 0 ≤ at' ∧ at' < xs.length then #[sv (xs[at'.toNat]?.getD 0), iv 0] else #[.string ⟨#[]⟩, iv 2]


theorem Get_ok {h : AH} {b : Nat} {size side : Int} {v0 v1 : Value} {x0 x1 : List Int} (s : Spc h b size side v0 v1 x0 x1) (at' : Int) :
    Gets Try.prog 34 [.pointer (some ⟨b, 0, none⟩), iv at'] h (fun res h' => h' = h ∧ res = .ret (.tuple (lk (if side = 0 then x0 else x1) at'))) := by
  refine Gets.of (keep := false) hP (draw_ok hM) k34 (by rfl) (fun Ψ hΨ => ?_)
  have hg0 := get_ok s.own.cells (o := 0) rfl s.r0.rds at'
  have hg1 := get_ok s.own.cells (o := 1) rfl s.r1.rds at'
  rcases s.sd with rfl | rfl
  · simp only [mach, ↓reduceIte, Nat.reduceEqDiff, Nat.reduceAdd, Nat.reduceMul, Nat.add_zero, Nat.zero_add, decide_true, decide_false, Bool.not_true, Bool.not_false, Bool.false_eq_true, List.nil_append, List.append_nil, List.contains_nil, r34, s.own.cells.ld, vc_int, vc_bool, vc_str, vc_ptr, vc_sl, vc_map, vc_if, vc_ni, vc_nf, vc_fn, vc_agg, vs1, vl1, vsl, vll, bldv_nil, bldv_cons, lt0, lts, ld0, lds, ldn, lac, lln, llc, lg0, lgs, Nat.reduceLeDiff, true_and, and_true, and_self, Nat.reduceLT, Int.reduceEq, a20, a21, z0, z1, w10, w11]
    refine XX_val hg0 ?_
    by_cases hin : 0 ≤ at' ∧ at' < x0.length
    · simp only [mach, ↓reduceIte, Nat.reduceEqDiff, Nat.reduceAdd, Nat.reduceMul, Nat.add_zero, Nat.zero_add, decide_true, decide_false, Bool.not_true, Bool.not_false, Bool.false_eq_true, List.nil_append, List.append_nil, List.contains_nil, hin, and_self, vc_int, vc_bool, vc_str, vc_ptr, vc_sl, vc_map, vc_if, vc_ni, vc_nf, vc_fn, vc_agg, vs1, vl1, vsl, vll, bldv_nil, bldv_cons, lt0, lts, ld0, lds, ldn, lac, lln, llc, lg0, lgs, Nat.reduceLeDiff, true_and, and_true, and_self, Nat.reduceLT, Int.reduceEq]
      exact hΨ _ _ (fin_ret (rv2 rfl rfl ⟨rfl, by simp [lk, hin, tup]⟩))
    · simp only [mach, ↓reduceIte, Nat.reduceEqDiff, Nat.reduceAdd, Nat.reduceMul, Nat.add_zero, Nat.zero_add, decide_true, decide_false, Bool.not_true, Bool.not_false, Bool.false_eq_true, List.nil_append, List.append_nil, List.contains_nil, hin, vc_int, vc_bool, vc_str, vc_ptr, vc_sl, vc_map, vc_if, vc_ni, vc_nf, vc_fn, vc_agg, vs1, vl1, vsl, vll, bldv_nil, bldv_cons, lt0, lts, ld0, lds, ldn, lac, lln, llc, lg0, lgs, Nat.reduceLeDiff, true_and, and_true, and_self, Nat.reduceLT, Int.reduceEq]
      exact hΨ _ _ (fin_ret (rv2 rfl rfl ⟨rfl, by simp [lk, hin, tup]⟩))
  · simp only [mach, ↓reduceIte, Nat.reduceEqDiff, Nat.reduceAdd, Nat.reduceMul, Nat.add_zero, Nat.zero_add, decide_true, decide_false, Bool.not_true, Bool.not_false, Bool.false_eq_true, List.nil_append, List.append_nil, List.contains_nil, r34, s.own.cells.ld, vc_int, vc_bool, vc_str, vc_ptr, vc_sl, vc_map, vc_if, vc_ni, vc_nf, vc_fn, vc_agg, vs1, vl1, vsl, vll, bldv_nil, bldv_cons, lt0, lts, ld0, lds, ldn, lac, lln, llc, lg0, lgs, Nat.reduceLeDiff, true_and, and_true, and_self, Nat.reduceLT, Int.reduceEq, a20, a21, z0, z1, w10, w11]
    refine XX_val hg1 ?_
    by_cases hin : 0 ≤ at' ∧ at' < x1.length
    · simp only [mach, ↓reduceIte, Nat.reduceEqDiff, Nat.reduceAdd, Nat.reduceMul, Nat.add_zero, Nat.zero_add, decide_true, decide_false, Bool.not_true, Bool.not_false, Bool.false_eq_true, List.nil_append, List.append_nil, List.contains_nil, hin, and_self, vc_int, vc_bool, vc_str, vc_ptr, vc_sl, vc_map, vc_if, vc_ni, vc_nf, vc_fn, vc_agg, vs1, vl1, vsl, vll, bldv_nil, bldv_cons, lt0, lts, ld0, lds, ldn, lac, lln, llc, lg0, lgs, Nat.reduceLeDiff, true_and, and_true, and_self, Nat.reduceLT, Int.reduceEq]
      exact hΨ _ _ (fin_ret (rv2 rfl rfl ⟨rfl, by simp [lk, hin, tup]⟩))
    · simp only [mach, ↓reduceIte, Nat.reduceEqDiff, Nat.reduceAdd, Nat.reduceMul, Nat.add_zero, Nat.zero_add, decide_true, decide_false, Bool.not_true, Bool.not_false, Bool.false_eq_true, List.nil_append, List.append_nil, List.contains_nil, hin, vc_int, vc_bool, vc_str, vc_ptr, vc_sl, vc_map, vc_if, vc_ni, vc_nf, vc_fn, vc_agg, vs1, vl1, vsl, vll, bldv_nil, bldv_cons, lt0, lts, ld0, lds, ldn, lac, lln, llc, lg0, lgs, Nat.reduceLeDiff, true_and, and_true, and_self, Nat.reduceLT, Int.reduceEq]
      exact hΨ _ _ (fin_ret (rv2 rfl rfl ⟨rfl, by simp [lk, hin, tup]⟩))

theorem Alloc_ok {h : AH} {b : Nat} {size side : Int} {v0 v1 u : Value} {x0 x1 ys : List Int} {m : Nat} (s : Spc h b size side v0 v1 x0 x1) (hu : Rds h 1 u m (ss ys)) :
    Gets Try.prog 32 [.pointer (some ⟨b, 0, none⟩), u] h (fun res h' =>
      if size - ((if side = 0 then x0 else x1).length : Int) < ys.length then h' = h ∧ res = .ret (.tuple #[iv 0, iv 3])
      else res = .ret (.tuple #[iv (if side = 0 then x0 else x1).length, iv 0]) ∧ Keep (Owns b v0 v1) h h' ∧
        ∃ v0' v1', Spc h' b size side v0' v1' (if side = 0 then x0 ++ ys else x0) (if side = 0 then x1 else x1 ++ ys) ∧ ∀ q, Owns b v0' v1' q → Owns b v0 v1 q ∨ h.length ≤ q) := by
  refine Gets.of (keep := false) hP (draw_ok hM) k32 (by rfl) (fun Ψ hΨ => ?_)
  have hm : m = ys.length := by have := hu.len; rw [ss_len, Nat.mul_one] at this; exact this.symm
  obtain ⟨ua, uc, rfl⟩ := shape hu
  obtain ⟨_, hsrc, rfl⟩ := hu.src (ss_one ys)
  obtain ⟨a0, c0, hv0⟩ := shape s.r0.rds
  obtain ⟨a1, c1, hv1⟩ := shape s.r1.rds
  have hsz := s.sz
  have hl0 := s.l0
  have hl1 := s.l1
  have hq : ∀ q, (∃ xs : List Int, bk v0 q ∨ bk v1 q) → q < h.length := fun q ⟨_, e⟩ => e.elim (s.r0.lt q) (s.r1.lt q)
  rcases s.sd with rfl | rfl
  · have hw : IntKind.i64.wrap (size - (x0.length : Int)) = size - x0.length := i64w (by omega) (by omega)
    by_cases hf : size - (x0.length : Int) < (m : Int)
    · simp only [mach, ↓reduceIte, Nat.reduceEqDiff, Nat.reduceAdd, Nat.reduceMul, Nat.add_zero, Nat.zero_add, decide_true, decide_false, Bool.not_true, Bool.not_false, Bool.false_eq_true, List.nil_append, List.append_nil, List.contains_nil, r32, s.own.cells.ld, vc_int, vc_bool, vc_str, vc_ptr, vc_sl, vc_map, vc_if, vc_ni, vc_nf, vc_fn, vc_agg, vs1, vl1, vsl, vll, bldv_nil, bldv_cons, lt0, lts, ld0, lds, ldn, lac, lln, llc, lg0, lgs, Nat.reduceLeDiff, true_and, and_true, and_self, Nat.reduceLT, Int.reduceEq, a20, a21, z0, z1, w10, w11, hv0, hw, hf]
      refine hΨ _ _ (fin_ret (rv2 rfl rfl ?_))
      rw [if_pos (by simp; omega)]; exact ⟨rfl, rfl⟩
    · obtain ⟨s', h', k1, k2, k3, k4⟩ := s.r0.app (bytes := 16) hsrc (by rw [ss_len, hm]; omega) (ss_one ys) (by omega) (by omega)
      have hown := s.own.keep k3 (fun q => s.d0 b q rfl)
      have hoth := s.r1.keep k3 (fun q hq e => s.d q e hq)
      obtain ⟨a2, c2, hs'⟩ := shape k2.rds
      subst hv0
      simp only [mach, ↓reduceIte, Nat.reduceEqDiff, Nat.reduceAdd, Nat.reduceMul, Nat.add_zero, Nat.zero_add, decide_true, decide_false, Bool.not_true, Bool.not_false, Bool.false_eq_true, List.nil_append, List.append_nil, List.contains_nil, r32, s.own.cells.ld, vc_int, vc_bool, vc_str, vc_ptr, vc_sl, vc_map, vc_if, vc_ni, vc_nf, vc_fn, vc_agg, vs1, vl1, vsl, vll, bldv_nil, bldv_cons, lt0, lts, ld0, lds, ldn, lac, lln, llc, lg0, lgs, Nat.reduceLeDiff, true_and, and_true, and_self, Nat.reduceLT, Int.reduceEq, a20, a21, z0, z1, w10, w11, hw, hf, k1]
      subst hs'
      refine XH_own hown rfl (by simp [Value.cells]) rfl (fun h2 q1 q2 q3 => ?_)
      simp only [mach, ↓reduceIte, Nat.reduceEqDiff, Nat.reduceAdd, Nat.reduceMul, Nat.add_zero, Nat.zero_add, decide_true, decide_false, Bool.not_true, Bool.not_false, Bool.false_eq_true, List.nil_append, List.append_nil, List.contains_nil]
      refine hΨ _ _ (fin_ret (rv2 rfl rfl ?_))
      have hnb : ∀ q, bk (.slice a2 (x0.length + m) c2) q → q ≠ b := by
        intro q hq e
        rcases k4 q hq with k | k
        · exact s.d0 q k e
        · have := s.own.lt; omega
      rw [if_neg (by simp; omega)]
      refine ⟨by simp [tup], ⟨by rw [q3]; exact k3.len, fun q hq hs => ?_⟩, _, v1, ⟨q1, ?_, ?_, ?_, ?_, ?_, s.sd, s.sz, ?_, ?_⟩, ?_⟩
      · rw [q2.same q (Nat.lt_of_lt_of_le hq k3.len) (fun e => hs (.inl e)), k3.same q hq (fun e => hs (.inr (Or.inl e)))]
      · simp only [if_true, List.length_append]
        rw [show ss (x0 ++ ys) = ss x0 ++ ss ys by simp [ss], ← hm]
        exact k2.keep q2 (fun q hq e => hnb q hq e)
      · simp only [if_true]
        exact hoth.keep q2 (fun q hq e => s.d1 q hq e)
      · intro q hq e
        rcases k4 q hq with k | k
        · exact s.d q k e
        · have := s.r1.lt q e; omega
      · exact hnb
      · exact s.d1
      · simp; omega
      · simp; omega
      · rintro q (e | e | e)
        · exact .inl (.inl e)
        · exact (k4 q e).elim (fun e => .inl (.inr (.inl e))) .inr
        · exact .inl (.inr (.inr e))
  · have hw : IntKind.i64.wrap (size - (x1.length : Int)) = size - x1.length := i64w (by omega) (by omega)
    by_cases hf : size - (x1.length : Int) < (m : Int)
    · simp only [mach, ↓reduceIte, Nat.reduceEqDiff, Nat.reduceAdd, Nat.reduceMul, Nat.add_zero, Nat.zero_add, decide_true, decide_false, Bool.not_true, Bool.not_false, Bool.false_eq_true, List.nil_append, List.append_nil, List.contains_nil, r32, s.own.cells.ld, vc_int, vc_bool, vc_str, vc_ptr, vc_sl, vc_map, vc_if, vc_ni, vc_nf, vc_fn, vc_agg, vs1, vl1, vsl, vll, bldv_nil, bldv_cons, lt0, lts, ld0, lds, ldn, lac, lln, llc, lg0, lgs, Nat.reduceLeDiff, true_and, and_true, and_self, Nat.reduceLT, Int.reduceEq, a20, a21, z0, z1, w10, w11, hv1, hw, hf]
      refine hΨ _ _ (fin_ret (rv2 rfl rfl ?_))
      rw [if_pos (by simp; omega)]; exact ⟨rfl, rfl⟩
    · obtain ⟨s', h', k1, k2, k3, k4⟩ := s.r1.app (bytes := 16) hsrc (by rw [ss_len, hm]; omega) (ss_one ys) (by omega) (by omega)
      have hown := s.own.keep k3 (fun q => s.d1 b q rfl)
      have hoth := s.r0.keep k3 (fun q hq e => s.d q hq e)
      obtain ⟨a2, c2, hs'⟩ := shape k2.rds
      subst hv1
      simp only [mach, ↓reduceIte, Nat.reduceEqDiff, Nat.reduceAdd, Nat.reduceMul, Nat.add_zero, Nat.zero_add, decide_true, decide_false, Bool.not_true, Bool.not_false, Bool.false_eq_true, List.nil_append, List.append_nil, List.contains_nil, r32, s.own.cells.ld, vc_int, vc_bool, vc_str, vc_ptr, vc_sl, vc_map, vc_if, vc_ni, vc_nf, vc_fn, vc_agg, vs1, vl1, vsl, vll, bldv_nil, bldv_cons, lt0, lts, ld0, lds, ldn, lac, lln, llc, lg0, lgs, Nat.reduceLeDiff, true_and, and_true, and_self, Nat.reduceLT, Int.reduceEq, a20, a21, z0, z1, w10, w11, hw, hf, k1]
      subst hs'
      refine XH_own hown rfl (by simp [Value.cells]) rfl (fun h2 q1 q2 q3 => ?_)
      simp only [mach, ↓reduceIte, Nat.reduceEqDiff, Nat.reduceAdd, Nat.reduceMul, Nat.add_zero, Nat.zero_add, decide_true, decide_false, Bool.not_true, Bool.not_false, Bool.false_eq_true, List.nil_append, List.append_nil, List.contains_nil]
      refine hΨ _ _ (fin_ret (rv2 rfl rfl ?_))
      have hnb : ∀ q, bk (.slice a2 (x1.length + m) c2) q → q ≠ b := by
        intro q hq e
        rcases k4 q hq with k | k
        · exact s.d1 q k e
        · have := s.own.lt; omega
      rw [if_neg (by simp; omega)]
      refine ⟨by simp [tup], ⟨by rw [q3]; exact k3.len, fun q hq hs => ?_⟩, v0, _, ⟨q1, ?_, ?_, ?_, ?_, ?_, s.sd, s.sz, ?_, ?_⟩, ?_⟩
      · rw [q2.same q (Nat.lt_of_lt_of_le hq k3.len) (fun e => hs (.inl e)), k3.same q hq (fun e => hs (.inr (Or.inr e)))]
      · simp only [show ((1 : Int) = 0) = False by simp, if_false]
        exact hoth.keep q2 (fun q hq e => s.d0 q hq e)
      · simp only [show ((1 : Int) = 0) = False by simp, if_false, List.length_append]
        rw [show ss (x1 ++ ys) = ss x1 ++ ss ys by simp [ss], ← hm]
        exact k2.keep q2 (fun q hq e => hnb q hq e)
      · intro q e hq
        rcases k4 q hq with k | k
        · exact s.d q e k
        · have := s.r0.lt q e; omega
      · exact s.d0
      · exact hnb
      · simp; omega
      · simp; omega
      · rintro q (e | e | e)
        · exact .inl (.inl e)
        · exact .inl (.inr (.inl e))
        · exact (k4 q e).elim (fun e => .inl (.inr (.inr e))) .inr


theorem sl_ok {h : AH} {b n c m : Nat} {all : List Value} (hb : Own h b 9 all) (hm : m ≤ c) : sllv h 9 1 (.slice (some ⟨b, 0, none⟩) n c) none (some (iv m)) = some (.slice (some ⟨b, 0, none⟩) m c, none) := by
  obtain ⟨g, hg⟩ := hb
  have : helem h b = some 9 := by simp [helem, hg]
  simp only [sllv, this, if_true, bnd, Option.bind_some]
  rw [if_pos (by omega)]
  simp


theorem new_spc (h : AH) (size : Int) (hs : 0 ≤ size ∧ size ≤ 1048576) : Spc (h ++ [row 74 h.length [.slice none 0 0, .slice none 0 0, iv size, iv 0]]) h.length size 0 (.slice none 0 0) (.slice none 0 0) [] [] :=
  ⟨Own.new h 74 _ _, .nil, .nil, fun q e => e.elim, fun q e => e.elim, fun q e => e.elim, .inl rfl, hs, by simpa using hs.1, by simpa using hs.1⟩


theorem Used_ok {h : AH} {b : Nat} {size side : Int} {v0 v1 : Value} {x0 x1 : List Int} (s : Spc h b size side v0 v1 x0 x1) :
    Gets Try.prog 41 [.pointer (some ⟨b, 0, none⟩)] h (fun res h' => h' = h ∧ res = .ret (iv (if side = 0 then x0 else x1).length)) := by
  refine Gets.of (keep := false) hP (draw_ok hM) k41 (by rfl) (fun Ψ hΨ => ?_)
  obtain ⟨a0, c0, hv0⟩ := shape s.r0.rds
  obtain ⟨a1, c1, hv1⟩ := shape s.r1.rds
  rcases s.sd with rfl | rfl
  · simp only [mach, ↓reduceIte, Nat.reduceEqDiff, Nat.reduceAdd, Nat.reduceMul, Nat.add_zero, Nat.zero_add, decide_true, decide_false, Bool.not_true, Bool.not_false, Bool.false_eq_true, List.nil_append, List.append_nil, List.contains_nil, r41, s.own.cells.ld, vc_int, vc_bool, vc_str, vc_ptr, vc_sl, vc_map, vc_if, vc_ni, vc_nf, vc_fn, vc_agg, vs1, vl1, vsl, vll, bldv_nil, bldv_cons, lt0, lts, ld0, lds, ldn, lac, lln, llc, lg0, lgs, Nat.reduceLeDiff, true_and, and_true, and_self, Nat.reduceLT, Int.reduceEq, a20, a21, z0, z1, w10, w11, hv0]
    exact hΨ _ _ (fin_ret (rv1 rfl ⟨rfl, by simp [tup]⟩))
  · simp only [mach, ↓reduceIte, Nat.reduceEqDiff, Nat.reduceAdd, Nat.reduceMul, Nat.add_zero, Nat.zero_add, decide_true, decide_false, Bool.not_true, Bool.not_false, Bool.false_eq_true, List.nil_append, List.append_nil, List.contains_nil, r41, s.own.cells.ld, vc_int, vc_bool, vc_str, vc_ptr, vc_sl, vc_map, vc_if, vc_ni, vc_nf, vc_fn, vc_agg, vs1, vl1, vsl, vll, bldv_nil, bldv_cons, lt0, lts, ld0, lds, ldn, lac, lln, llc, lg0, lgs, Nat.reduceLeDiff, true_and, and_true, and_self, Nat.reduceLT, Int.reduceEq, a20, a21, z0, z1, w10, w11, hv1]
    exact hΨ _ _ (fin_ret (rv1 rfl ⟨rfl, by simp [tup]⟩))

theorem Side_ok {h : AH} {b : Nat} {size side : Int} {v0 v1 : Value} {x0 x1 : List Int} (s : Spc h b size side v0 v1 x0 x1) :
    Gets Try.prog 43 [.pointer (some ⟨b, 0, none⟩)] h (fun res h' => h' = h ∧ res = .ret (iv side)) := by
  refine Gets.of (keep := false) hP (draw_ok hM) k43 (by rfl) (fun Ψ hΨ => ?_)
  simp only [mach, ↓reduceIte, Nat.reduceEqDiff, Nat.reduceAdd, Nat.reduceMul, Nat.add_zero, Nat.zero_add, decide_true, decide_false, Bool.not_true, Bool.not_false, Bool.false_eq_true, List.nil_append, List.append_nil, List.contains_nil, r43, s.own.cells.ld, vc_int, vc_bool, vc_str, vc_ptr, vc_sl, vc_map, vc_if, vc_ni, vc_nf, vc_fn, vc_agg, vs1, vl1, vsl, vll, bldv_nil, bldv_cons, lt0, lts, ld0, lds, ldn, lac, lln, llc, lg0, lgs, Nat.reduceLeDiff, true_and, and_true, and_self, Nat.reduceLT, Int.reduceEq, a20, a21, z0, z1, w10, w11]
  exact hΨ _ _ (fin_ret (rv1 rfl ⟨rfl, rfl⟩))

theorem Size_ok {h : AH} {b : Nat} {size side : Int} {v0 v1 : Value} {x0 x1 : List Int} (s : Spc h b size side v0 v1 x0 x1) :
    Gets Try.prog 42 [.pointer (some ⟨b, 0, none⟩)] h (fun res h' => h' = h ∧ res = .ret (iv size)) := by
  refine Gets.of (keep := false) hP (draw_ok hM) k42 (by rfl) (fun Ψ hΨ => ?_)
  simp only [mach, ↓reduceIte, Nat.reduceEqDiff, Nat.reduceAdd, Nat.reduceMul, Nat.add_zero, Nat.zero_add, decide_true, decide_false, Bool.not_true, Bool.not_false, Bool.false_eq_true, List.nil_append, List.append_nil, List.contains_nil, r42, s.own.cells.ld, vc_int, vc_bool, vc_str, vc_ptr, vc_sl, vc_map, vc_if, vc_ni, vc_nf, vc_fn, vc_agg, vs1, vl1, vsl, vll, bldv_nil, bldv_cons, lt0, lts, ld0, lds, ldn, lac, lln, llc, lg0, lgs, Nat.reduceLeDiff, true_and, and_true, and_self, Nat.reduceLT, Int.reduceEq, a20, a21, z0, z1, w10, w11]
  exact hΨ _ _ (fin_ret (rv1 rfl ⟨rfl, rfl⟩))

theorem Old_ok {h : AH} {b : Nat} {size side : Int} {v0 v1 : Value} {x0 x1 : List Int} (s : Spc h b size side v0 v1 x0 x1) (at' : Int) :
    Gets Try.prog 39 [.pointer (some ⟨b, 0, none⟩), iv at'] h (fun res h' => h' = h ∧ res = .ret (.tuple (lk (if side = 0 then x1 else x0) at'))) := by
  refine Gets.of (keep := false) hP (draw_ok hM) k39 (by rfl) (fun Ψ hΨ => ?_)
  have hg0 := get_ok s.own.cells (o := 0) rfl s.r0.rds at'
  have hg1 := get_ok s.own.cells (o := 1) rfl s.r1.rds at'
  rcases s.sd with rfl | rfl
  · simp only [mach, ↓reduceIte, Nat.reduceEqDiff, Nat.reduceAdd, Nat.reduceMul, Nat.add_zero, Nat.zero_add, decide_true, decide_false, Bool.not_true, Bool.not_false, Bool.false_eq_true, List.nil_append, List.append_nil, List.contains_nil, r39, s.own.cells.ld, vc_int, vc_bool, vc_str, vc_ptr, vc_sl, vc_map, vc_if, vc_ni, vc_nf, vc_fn, vc_agg, vs1, vl1, vsl, vll, bldv_nil, bldv_cons, lt0, lts, ld0, lds, ldn, lac, lln, llc, lg0, lgs, Nat.reduceLeDiff, true_and, and_true, and_self, Nat.reduceLT, Int.reduceEq, a20, a21, z0, z1, w10, w11]
    refine XX_val hg1 ?_
    by_cases hin : 0 ≤ at' ∧ at' < x1.length
    · simp only [mach, ↓reduceIte, Nat.reduceEqDiff, Nat.reduceAdd, Nat.reduceMul, Nat.add_zero, Nat.zero_add, decide_true, decide_false, Bool.not_true, Bool.not_false, Bool.false_eq_true, List.nil_append, List.append_nil, List.contains_nil, hin, and_self, vc_int, vc_bool, vc_str, vc_ptr, vc_sl, vc_map, vc_if, vc_ni, vc_nf, vc_fn, vc_agg, vs1, vl1, vsl, vll, bldv_nil, bldv_cons, lt0, lts, ld0, lds, ldn, lac, lln, llc, lg0, lgs, Nat.reduceLeDiff, true_and, and_true, and_self, Nat.reduceLT, Int.reduceEq]
      exact hΨ _ _ (fin_ret (rv2 rfl rfl ⟨rfl, by simp [lk, hin, tup]⟩))
    · simp only [mach, ↓reduceIte, Nat.reduceEqDiff, Nat.reduceAdd, Nat.reduceMul, Nat.add_zero, Nat.zero_add, decide_true, decide_false, Bool.not_true, Bool.not_false, Bool.false_eq_true, List.nil_append, List.append_nil, List.contains_nil, hin, vc_int, vc_bool, vc_str, vc_ptr, vc_sl, vc_map, vc_if, vc_ni, vc_nf, vc_fn, vc_agg, vs1, vl1, vsl, vll, bldv_nil, bldv_cons, lt0, lts, ld0, lds, ldn, lac, lln, llc, lg0, lgs, Nat.reduceLeDiff, true_and, and_true, and_self, Nat.reduceLT, Int.reduceEq]
      exact hΨ _ _ (fin_ret (rv2 rfl rfl ⟨rfl, by simp [lk, hin, tup]⟩))
  · simp only [mach, ↓reduceIte, Nat.reduceEqDiff, Nat.reduceAdd, Nat.reduceMul, Nat.add_zero, Nat.zero_add, decide_true, decide_false, Bool.not_true, Bool.not_false, Bool.false_eq_true, List.nil_append, List.append_nil, List.contains_nil, r39, s.own.cells.ld, vc_int, vc_bool, vc_str, vc_ptr, vc_sl, vc_map, vc_if, vc_ni, vc_nf, vc_fn, vc_agg, vs1, vl1, vsl, vll, bldv_nil, bldv_cons, lt0, lts, ld0, lds, ldn, lac, lln, llc, lg0, lgs, Nat.reduceLeDiff, true_and, and_true, and_self, Nat.reduceLT, Int.reduceEq, a20, a21, z0, z1, w10, w11]
    refine XX_val hg0 ?_
    by_cases hin : 0 ≤ at' ∧ at' < x0.length
    · simp only [mach, ↓reduceIte, Nat.reduceEqDiff, Nat.reduceAdd, Nat.reduceMul, Nat.add_zero, Nat.zero_add, decide_true, decide_false, Bool.not_true, Bool.not_false, Bool.false_eq_true, List.nil_append, List.append_nil, List.contains_nil, hin, and_self, vc_int, vc_bool, vc_str, vc_ptr, vc_sl, vc_map, vc_if, vc_ni, vc_nf, vc_fn, vc_agg, vs1, vl1, vsl, vll, bldv_nil, bldv_cons, lt0, lts, ld0, lds, ldn, lac, lln, llc, lg0, lgs, Nat.reduceLeDiff, true_and, and_true, and_self, Nat.reduceLT, Int.reduceEq]
      exact hΨ _ _ (fin_ret (rv2 rfl rfl ⟨rfl, by simp [lk, hin, tup]⟩))
    · simp only [mach, ↓reduceIte, Nat.reduceEqDiff, Nat.reduceAdd, Nat.reduceMul, Nat.add_zero, Nat.zero_add, decide_true, decide_false, Bool.not_true, Bool.not_false, Bool.false_eq_true, List.nil_append, List.append_nil, List.contains_nil, hin, vc_int, vc_bool, vc_str, vc_ptr, vc_sl, vc_map, vc_if, vc_ni, vc_nf, vc_fn, vc_agg, vs1, vl1, vsl, vll, bldv_nil, bldv_cons, lt0, lts, ld0, lds, ldn, lac, lln, llc, lg0, lgs, Nat.reduceLeDiff, true_and, and_true, and_self, Nat.reduceLT, Int.reduceEq]
      exact hΨ _ _ (fin_ret (rv2 rfl rfl ⟨rfl, by simp [lk, hin, tup]⟩))

theorem ows_set {h h' : AH} {b n c i : Nat} {all : List Value} {xs : List Int} {x : Int} (ho : Own h' b 9 (all.take i ++ (sv x).cells.toList ++ all.drop (i + (sv x).cells.toList.length))) (hl : all.length = c) (hn : n ≤ c) (hx : all.take n = ss xs) (hi : i < n) :
    Ows h' 9 1 (.slice (some ⟨b, 0, none⟩) n c) n (ss (xs.set i x)) := by
  simp only [Value.cells] at ho
  have e : all.take i ++ [sv x] ++ all.drop (i + [sv x].length) = all.set i (sv x) := by
    rw [List.set_eq_take_append_cons_drop, if_pos (by omega)]; simp
  have ho' : Own h' b 9 (all.set i (sv x)) := by rw [← e]; exact ho
  refine .mk ho' (by simp; omega) hn ?_
  rw [Nat.mul_one, List.take_set, hx]; simp [ss, List.map_set]

theorem set_ok {h : AH} {b o : Nat} {all : List Value} {v : Value} {n : Nat} {xs : List Int} (hb : Cells h b all) (ho : all[o]? = some v) (hr : Ows h 9 1 v n (ss xs)) (at' x : Int) :
    Gets Try.prog 57 [.pointer (some ⟨b, o, none⟩), iv at', sv x] h (fun res h' => if 0 ≤ at' ∧ at' < n then res = .ret (iv 0) ∧ Ows h' 9 1 v n (ss (xs.set at'.toNat x)) ∧ Keep (bk v) h h' ∧ h'.length = h.length else h' = h ∧ res = .ret (iv 2)) := by
  refine Gets.of (keep := false) hP (draw_ok hM) k57 (by rfl) (fun Ψ hΨ => ?_)
  have hw := within_ok hb ho hr.rds at'
  have hlen := hr.len
  rw [ss_len, Nat.mul_one] at hlen
  by_cases hin : 0 ≤ at' ∧ at' < n
  · rw [show (decide (0 ≤ at') && decide (at' < (n : Int))) = true by simp [hin]] at hw
    simp only [mach, ↓reduceIte, Nat.reduceEqDiff, Nat.reduceAdd, Nat.reduceMul, Nat.add_zero, Nat.zero_add, decide_true, decide_false, Bool.not_true, Bool.not_false, Bool.false_eq_true, List.nil_append, List.append_nil, List.contains_nil, r57]
    refine XX_val hw ?_
    obtain ⟨b1, c1, al, rfl, h1, h2, h3, h4⟩ := ows_open hr (by omega)
    simp only [mach, ↓reduceIte, Nat.reduceEqDiff, Nat.reduceAdd, Nat.reduceMul, Nat.add_zero, Nat.zero_add, decide_true, decide_false, Bool.not_true, Bool.not_false, Bool.false_eq_true, List.nil_append, List.append_nil, List.contains_nil, hb.ld, ho, hin, and_self, Nat.mul_one]
    refine XH_own h1 rfl (by simp [Value.cells]; omega) rfl (fun h' q1 q2 q3 => ?_)
    simp only [mach, ↓reduceIte, Nat.reduceEqDiff, Nat.reduceAdd, Nat.reduceMul, Nat.add_zero, Nat.zero_add, decide_true, decide_false, Bool.not_true, Bool.not_false, Bool.false_eq_true, List.nil_append, List.append_nil, List.contains_nil]
    refine hΨ _ _ (fin_ret (rv1 rfl ?_))
    rw [if_pos hin]
    exact ⟨rfl, ows_set (h := h) q1 h2 h3 h4 (by omega), q2, q3⟩
  · rw [show (decide (0 ≤ at') && decide (at' < (n : Int))) = false by simp; omega] at hw
    simp only [mach, ↓reduceIte, Nat.reduceEqDiff, Nat.reduceAdd, Nat.reduceMul, Nat.add_zero, Nat.zero_add, decide_true, decide_false, Bool.not_true, Bool.not_false, Bool.false_eq_true, List.nil_append, List.append_nil, List.contains_nil, r57]
    refine XX_val hw ?_
    simp only [mach, ↓reduceIte, Nat.reduceEqDiff, Nat.reduceAdd, Nat.reduceMul, Nat.add_zero, Nat.zero_add, decide_true, decide_false, Bool.not_true, Bool.not_false, Bool.false_eq_true, List.nil_append, List.append_nil, List.contains_nil]
    refine hΨ _ _ (fin_ret (rv1 rfl ?_))
    rw [if_neg hin]; exact ⟨rfl, rfl⟩

theorem SetOld_ok {h : AH} {b : Nat} {size side : Int} {v0 v1 : Value} {x0 x1 : List Int} (s : Spc h b size side v0 v1 x0 x1) (at' x : Int) :
    Gets Try.prog 40 [.pointer (some ⟨b, 0, none⟩), iv at', sv x] h (fun res h' =>
      if 0 ≤ at' ∧ at' < (if side = 0 then x1 else x0).length then res = .ret (iv 0) ∧ Keep (Owns b v0 v1) h h' ∧ Spc h' b size side v0 v1 (if side = 0 then x0 else x0.set at'.toNat x) (if side = 0 then x1.set at'.toNat x else x1)
      else h' = h ∧ res = .ret (iv 2)) := by
  refine Gets.of (keep := false) hP (draw_ok hM) k40 (by rfl) (fun Ψ hΨ => ?_)
  have hg0 := set_ok s.own.cells (o := 0) rfl s.r0 at' x
  have hg1 := set_ok s.own.cells (o := 1) rfl s.r1 at' x
  rcases s.sd with rfl | rfl
  · simp only [mach, ↓reduceIte, Nat.reduceEqDiff, Nat.reduceAdd, Nat.reduceMul, Nat.add_zero, Nat.zero_add, decide_true, decide_false, Bool.not_true, Bool.not_false, Bool.false_eq_true, List.nil_append, List.append_nil, List.contains_nil, r40, s.own.cells.ld, vc_int, vc_bool, vc_str, vc_ptr, vc_sl, vc_map, vc_if, vc_ni, vc_nf, vc_fn, vc_agg, vs1, vl1, vsl, vll, bldv_nil, bldv_cons, lt0, lts, ld0, lds, ldn, lac, lln, llc, lg0, lgs, Nat.reduceLeDiff, true_and, and_true, and_self, Nat.reduceLT, Int.reduceEq, a20, a21, z0, z1, w10, w11]
    refine XX_of hg1 (fun res h' _ hn => ?_)
    by_cases hin : 0 ≤ at' ∧ at' < x1.length
    · rw [if_pos hin] at hn
      obtain ⟨rfl, o1, kp, l1⟩ := hn
      refine .ret ?_
      simp only [mach, ↓reduceIte, Nat.reduceEqDiff, Nat.reduceAdd, Nat.reduceMul, Nat.add_zero, Nat.zero_add, decide_true, decide_false, Bool.not_true, Bool.not_false, Bool.false_eq_true, List.nil_append, List.append_nil, List.contains_nil]
      refine hΨ _ _ (fin_ret (rv1 rfl ?_))
      simp only [if_true]
      rw [if_pos hin]
      refine ⟨rfl, kp.mono (fun q e => .inr (.inr e)), s.own.keep kp (fun e => s.d1 b e rfl), s.r0.keep kp (fun q e => s.d q e), ?_, s.d, s.d0, s.d1, s.sd, s.sz, s.l0, by simpa using s.l1⟩
      rw [List.length_set]; exact o1
    · rw [if_neg hin] at hn
      obtain ⟨rfl, rfl⟩ := hn
      refine .ret ?_
      simp only [mach, ↓reduceIte, Nat.reduceEqDiff, Nat.reduceAdd, Nat.reduceMul, Nat.add_zero, Nat.zero_add, decide_true, decide_false, Bool.not_true, Bool.not_false, Bool.false_eq_true, List.nil_append, List.append_nil, List.contains_nil]
      refine hΨ _ _ (fin_ret (rv1 rfl ?_))
      simp [hin, tup]
  · simp only [mach, ↓reduceIte, Nat.reduceEqDiff, Nat.reduceAdd, Nat.reduceMul, Nat.add_zero, Nat.zero_add, decide_true, decide_false, Bool.not_true, Bool.not_false, Bool.false_eq_true, List.nil_append, List.append_nil, List.contains_nil, r40, s.own.cells.ld, vc_int, vc_bool, vc_str, vc_ptr, vc_sl, vc_map, vc_if, vc_ni, vc_nf, vc_fn, vc_agg, vs1, vl1, vsl, vll, bldv_nil, bldv_cons, lt0, lts, ld0, lds, ldn, lac, lln, llc, lg0, lgs, Nat.reduceLeDiff, true_and, and_true, and_self, Nat.reduceLT, Int.reduceEq, a20, a21, z0, z1, w10, w11]
    refine XX_of hg0 (fun res h' _ hn => ?_)
    by_cases hin : 0 ≤ at' ∧ at' < x0.length
    · rw [if_pos hin] at hn
      obtain ⟨rfl, o1, kp, l1⟩ := hn
      refine .ret ?_
      simp only [mach, ↓reduceIte, Nat.reduceEqDiff, Nat.reduceAdd, Nat.reduceMul, Nat.add_zero, Nat.zero_add, decide_true, decide_false, Bool.not_true, Bool.not_false, Bool.false_eq_true, List.nil_append, List.append_nil, List.contains_nil]
      refine hΨ _ _ (fin_ret (rv1 rfl ?_))
      simp only [show ((1 : Int) = 0) = False by simp, if_false]
      rw [if_pos hin]
      refine ⟨rfl, kp.mono (fun q e => .inr (.inl e)), s.own.keep kp (fun e => s.d0 b e rfl), ?_, s.r1.keep kp (fun q e e' => s.d q e' e), s.d, s.d0, s.d1, s.sd, s.sz, by simpa using s.l0, s.l1⟩
      rw [List.length_set]; exact o1
    · rw [if_neg hin] at hn
      obtain ⟨rfl, rfl⟩ := hn
      refine .ret ?_
      simp only [mach, ↓reduceIte, Nat.reduceEqDiff, Nat.reduceAdd, Nat.reduceMul, Nat.add_zero, Nat.zero_add, decide_true, decide_false, Bool.not_true, Bool.not_false, Bool.false_eq_true, List.nil_append, List.append_nil, List.contains_nil]
      refine hΨ _ _ (fin_ret (rv1 rfl ?_))
      simp [hin, tup]

/-- A row is cleared and cut to nothing. -/
theorem ows_clear {h : AH} {v : Value} {n : Nat} {xs : List Int} (ho : Ows h 9 1 v n (ss xs)) :
    ∃ h2 v', clrv h [Value.string ⟨#[]⟩] v = some h2 ∧ Keep (bk v) h h2 ∧ h2.length = h.length ∧ sllv h2 9 1 v none (some (iv 0)) = some (v', none) ∧ Ows h2 9 1 v' 0 (ss []) ∧ (∀ q, bk v' q → bk v q) ∧ v'.cells.size = 1 ∧ v'.cells.toList.length = 1 ∧ v'.cells.toList = [v'] ∧ v'.cells.toList.all Value.oneCell' = true := by
  by_cases h0 : n = 0
  · subst h0
    generalize hc : ss xs = cs at ho
    cases ho with
    | nil => exact ⟨h, .slice none 0 0, rfl, .refl _ _, rfl, rfl, .nil, fun q e => e, rfl, rfl, rfl, rfl⟩
    | @mk b n c all cs hb hl hn hx =>
      have hb' := hb
      obtain ⟨g, hg⟩ := hb
      have : helem h b = some 9 := by simp [helem, hg]
      refine ⟨h, .slice (some ⟨b, 0, none⟩) 0 c, by simp [clrv], .refl _ _, rfl, by simp [sllv, this, bnd], .mk hb' hl (by omega) (by simp [ss]), fun q e => e, rfl, rfl, rfl, rfl⟩
  · obtain ⟨b, c, all, rfl, hb, hl, hn, hx⟩ := ows_open ho (by omega)
    have hf : (List.replicate n [Value.string ⟨#[]⟩]).flatten = List.replicate n (Value.string ⟨#[]⟩) := by
      induction n with
      | zero => rfl
      | succ n _ => simp [List.replicate_succ]
    obtain ⟨h2, k1, k2, k3, k4⟩ := hb.store (i := 0) (vs := List.replicate n (Value.string ⟨#[]⟩)) (by simp; omega) (by simp [Value.oneCell'])
    have k2' := k2
    obtain ⟨g, hg⟩ := k2
    have : helem h2 b = some 9 := by simp [helem, hg]
    refine ⟨h2, .slice (some ⟨b, 0, none⟩) 0 c, by simp only [clrv, h0, if_false, hf, k1], k3, k4, by simp [sllv, this, bnd], .mk k2' (by simp; omega) (by omega) (by simp [ss]), fun q e => e, rfl, rfl, rfl, rfl⟩


theorem Flip_ok {h : AH} {b : Nat} {size side : Int} {v0 v1 : Value} {x0 x1 : List Int} (s : Spc h b size side v0 v1 x0 x1) :
    Gets Try.prog 38 [.pointer (some ⟨b, 0, none⟩)] h (fun res h' => res = .ret (.tuple #[]) ∧ Keep (Owns b v0 v1) h h' ∧
      ∃ v0' v1', Spc h' b size (1 - side) v0' v1' (if side = 0 then x0 else []) (if side = 0 then [] else x1) ∧ ∀ q, Owns b v0' v1' q → Owns b v0 v1 q) := by
  refine Gets.of (keep := false) hP (draw_ok hM) k38 (by rfl) (fun Ψ hΨ => ?_)
  have hsz := s.sz
  rcases s.sd with rfl | rfl
  · simp only [mach, ↓reduceIte, Nat.reduceEqDiff, Nat.reduceAdd, Nat.reduceMul, Nat.add_zero, Nat.zero_add, decide_true, decide_false, Bool.not_true, Bool.not_false, Bool.false_eq_true, List.nil_append, List.append_nil, List.contains_nil, r38, s.own.cells.ld, vc_int, vc_bool, vc_str, vc_ptr, vc_sl, vc_map, vc_if, vc_ni, vc_nf, vc_fn, vc_agg, vs1, vl1, vsl, vll, bldv_nil, bldv_cons, lt0, lts, ld0, lds, ldn, lac, lln, llc, lg0, lgs, Nat.reduceLeDiff, true_and, and_true, and_self, Nat.reduceLT, Int.reduceEq, a20, a21, z0, z1, w10, w11]
    refine XH_own s.own rfl (by simp [Value.cells]) rfl (fun h1 q1 q2 q3 => ?_)
    have r1 := s.r1.keep q2 (fun q e e' => s.d1 q e e')
    have r0 := s.r0.keep q2 (fun q e e' => s.d0 q e e')
    simp only [vc_int, vl1, lts, lt0, lac, List.nil_append, llc, lln, Nat.reduceAdd, lds, ld0, ldn, List.append_nil] at q1
    obtain ⟨h2, v', c1, c2, c3, c4, c5, c6, c7, c8, c9, c10⟩ := ows_clear r1
    have own2 := q1.keep c2 (fun e => s.d1 b e rfl)
    simp only [mach, ↓reduceIte, Nat.reduceEqDiff, Nat.reduceAdd, Nat.reduceMul, Nat.add_zero, Nat.zero_add, decide_true, decide_false, Bool.not_true, Bool.not_false, Bool.false_eq_true, List.nil_append, List.append_nil, List.contains_nil, q1.cells.ld, vc_int, vc_bool, vc_str, vc_ptr, vc_sl, vc_map, vc_if, vc_ni, vc_nf, vc_fn, vc_agg, vs1, vl1, vsl, vll, bldv_nil, bldv_cons, lt0, lts, ld0, lds, ldn, lac, lln, llc, lg0, lgs, Nat.reduceLeDiff, true_and, and_true, and_self, Nat.reduceLT, Int.reduceEq, a20, a21, z0, z1, w10, w11, c1]
    simp only [mach, ↓reduceIte, Nat.reduceEqDiff, Nat.reduceAdd, Nat.reduceMul, Nat.add_zero, Nat.zero_add, decide_true, decide_false, Bool.not_true, Bool.not_false, Bool.false_eq_true, List.nil_append, List.append_nil, List.contains_nil, own2.cells.ld, vc_int, vc_bool, vc_str, vc_ptr, vc_sl, vc_map, vc_if, vc_ni, vc_nf, vc_fn, vc_agg, vs1, vl1, vsl, vll, bldv_nil, bldv_cons, lt0, lts, ld0, lds, ldn, lac, lln, llc, lg0, lgs, Nat.reduceLeDiff, true_and, and_true, and_self, Nat.reduceLT, Int.reduceEq, a20, a21, z0, z1, w10, w11, c4]
    refine XH_own own2 c7.symm (by rw [c8]; simp) c10 (fun h3 p1 p2 p3 => ?_)
    rw [c8, c9] at p1
    simp only [mach, ↓reduceIte, Nat.reduceEqDiff, Nat.reduceAdd, Nat.reduceMul, Nat.add_zero, Nat.zero_add, decide_true, decide_false, Bool.not_true, Bool.not_false, Bool.false_eq_true, List.nil_append, List.append_nil, List.contains_nil]
    refine hΨ _ _ (fin_norm ⟨rfl, ?_, v0, v', ⟨p1, (r0.keep c2 (fun q e e' => s.d q e e')).keep p2 (fun q e e' => s.d0 q e e'), c5.keep p2 (fun q e e' => s.d1 q (c6 q e) e'), fun q e e' => s.d q e (c6 q e'), s.d0, fun q e => s.d1 q (c6 q e), .inr rfl, s.sz, s.l0, by simpa using hsz.1⟩, ?_⟩)
    · exact ((q2.mono (T := Owns b v0 v1) fun q e => .inl e).trans (c2.mono fun q e => .inr (.inr e))).trans (p2.mono fun q e => .inl e)
    · rintro q (e | e | e)
      · exact .inl e
      · exact .inr (.inl e)
      · exact .inr (.inr (c6 q e))
  · simp only [mach, ↓reduceIte, Nat.reduceEqDiff, Nat.reduceAdd, Nat.reduceMul, Nat.add_zero, Nat.zero_add, decide_true, decide_false, Bool.not_true, Bool.not_false, Bool.false_eq_true, List.nil_append, List.append_nil, List.contains_nil, r38, s.own.cells.ld, vc_int, vc_bool, vc_str, vc_ptr, vc_sl, vc_map, vc_if, vc_ni, vc_nf, vc_fn, vc_agg, vs1, vl1, vsl, vll, bldv_nil, bldv_cons, lt0, lts, ld0, lds, ldn, lac, lln, llc, lg0, lgs, Nat.reduceLeDiff, true_and, and_true, and_self, Nat.reduceLT, Int.reduceEq, a20, a21, z0, z1, w10, w11]
    refine XH_own s.own rfl (by simp [Value.cells]) rfl (fun h1 q1 q2 q3 => ?_)
    have r1 := s.r1.keep q2 (fun q e e' => s.d1 q e e')
    have r0 := s.r0.keep q2 (fun q e e' => s.d0 q e e')
    simp only [vc_int, vl1, lts, lt0, lac, List.nil_append, llc, lln, Nat.reduceAdd, lds, ld0, ldn, List.append_nil] at q1
    obtain ⟨h2, v', c1, c2, c3, c4, c5, c6, c7, c8, c9, c10⟩ := ows_clear r0
    have own2 := q1.keep c2 (fun e => s.d0 b e rfl)
    simp only [mach, ↓reduceIte, Nat.reduceEqDiff, Nat.reduceAdd, Nat.reduceMul, Nat.add_zero, Nat.zero_add, decide_true, decide_false, Bool.not_true, Bool.not_false, Bool.false_eq_true, List.nil_append, List.append_nil, List.contains_nil, q1.cells.ld, vc_int, vc_bool, vc_str, vc_ptr, vc_sl, vc_map, vc_if, vc_ni, vc_nf, vc_fn, vc_agg, vs1, vl1, vsl, vll, bldv_nil, bldv_cons, lt0, lts, ld0, lds, ldn, lac, lln, llc, lg0, lgs, Nat.reduceLeDiff, true_and, and_true, and_self, Nat.reduceLT, Int.reduceEq, a20, a21, z0, z1, w10, w11, c1]
    simp only [mach, ↓reduceIte, Nat.reduceEqDiff, Nat.reduceAdd, Nat.reduceMul, Nat.add_zero, Nat.zero_add, decide_true, decide_false, Bool.not_true, Bool.not_false, Bool.false_eq_true, List.nil_append, List.append_nil, List.contains_nil, own2.cells.ld, vc_int, vc_bool, vc_str, vc_ptr, vc_sl, vc_map, vc_if, vc_ni, vc_nf, vc_fn, vc_agg, vs1, vl1, vsl, vll, bldv_nil, bldv_cons, lt0, lts, ld0, lds, ldn, lac, lln, llc, lg0, lgs, Nat.reduceLeDiff, true_and, and_true, and_self, Nat.reduceLT, Int.reduceEq, a20, a21, z0, z1, w10, w11, c4]
    refine XH_own own2 c7.symm (by rw [c8]; simp) c10 (fun h3 p1 p2 p3 => ?_)
    rw [c8, c9] at p1
    simp only [mach, ↓reduceIte, Nat.reduceEqDiff, Nat.reduceAdd, Nat.reduceMul, Nat.add_zero, Nat.zero_add, decide_true, decide_false, Bool.not_true, Bool.not_false, Bool.false_eq_true, List.nil_append, List.append_nil, List.contains_nil]
    refine hΨ _ _ (fin_norm ⟨rfl, ?_, v', v1, ⟨p1, c5.keep p2 (fun q e e' => s.d0 q (c6 q e) e'), (r1.keep c2 (fun q e e' => s.d q e' e)).keep p2 (fun q e e' => s.d1 q e e'), fun q e e' => s.d q (c6 q e) e', fun q e => s.d0 q (c6 q e), s.d1, .inl rfl, s.sz, by simpa using hsz.1, s.l1⟩, ?_⟩)
    · exact ((q2.mono (T := Owns b v0 v1) fun q e => .inl e).trans (c2.mono fun q e => .inr (.inl e))).trans (p2.mono fun q e => .inl e)
    · rintro q (e | e | e)
      · exact .inl e
      · exact .inr (.inl (c6 q e))
      · exact .inr (.inr e)


theorem Set_ok {h : AH} {b : Nat} {size side : Int} {v0 v1 : Value} {x0 x1 : List Int} (s : Spc h b size side v0 v1 x0 x1) (at' x : Int) :
    Gets Try.prog 36 [.pointer (some ⟨b, 0, none⟩), iv at', sv x] h (fun res h' =>
      if 0 ≤ at' ∧ at' < (if side = 0 then x0 else x1).length then res = .ret (iv 0) ∧ Keep (Owns b v0 v1) h h' ∧ Spc h' b size side v0 v1 (if side = 0 then x0.set at'.toNat x else x0) (if side = 0 then x1 else x1.set at'.toNat x)
      else h' = h ∧ res = .ret (iv 2)) := by
  refine Gets.of (keep := false) hP (draw_ok hM) k36 (by rfl) (fun Ψ hΨ => ?_)
  have hg0 := set_ok s.own.cells (o := 0) rfl s.r0 at' x
  have hg1 := set_ok s.own.cells (o := 1) rfl s.r1 at' x
  rcases s.sd with rfl | rfl
  · simp only [mach, ↓reduceIte, Nat.reduceEqDiff, Nat.reduceAdd, Nat.reduceMul, Nat.add_zero, Nat.zero_add, decide_true, decide_false, Bool.not_true, Bool.not_false, Bool.false_eq_true, List.nil_append, List.append_nil, List.contains_nil, r36, s.own.cells.ld, vc_int, vc_bool, vc_str, vc_ptr, vc_sl, vc_map, vc_if, vc_ni, vc_nf, vc_fn, vc_agg, vs1, vl1, vsl, vll, bldv_nil, bldv_cons, lt0, lts, ld0, lds, ldn, lac, lln, llc, lg0, lgs, Nat.reduceLeDiff, true_and, and_true, and_self, Nat.reduceLT, Int.reduceEq, a20, a21, z0, z1, w10, w11]
    refine XX_of hg0 (fun res h' _ hn => ?_)
    by_cases hin : 0 ≤ at' ∧ at' < x0.length
    · rw [if_pos hin] at hn
      obtain ⟨rfl, o1, kp, l1⟩ := hn
      refine .ret ?_
      simp only [mach, ↓reduceIte, Nat.reduceEqDiff, Nat.reduceAdd, Nat.reduceMul, Nat.add_zero, Nat.zero_add, decide_true, decide_false, Bool.not_true, Bool.not_false, Bool.false_eq_true, List.nil_append, List.append_nil, List.contains_nil]
      refine hΨ _ _ (fin_ret (rv1 rfl ?_))
      simp only [if_true]
      rw [if_pos hin]
      refine ⟨rfl, kp.mono (fun q e => .inr (.inl e)), s.own.keep kp (fun e => s.d0 b e rfl), ?_, s.r1.keep kp (fun q e e' => s.d q e' e), s.d, s.d0, s.d1, s.sd, s.sz, by simpa using s.l0, s.l1⟩
      rw [List.length_set]; exact o1
    · rw [if_neg hin] at hn
      obtain ⟨rfl, rfl⟩ := hn
      refine .ret ?_
      simp only [mach, ↓reduceIte, Nat.reduceEqDiff, Nat.reduceAdd, Nat.reduceMul, Nat.add_zero, Nat.zero_add, decide_true, decide_false, Bool.not_true, Bool.not_false, Bool.false_eq_true, List.nil_append, List.append_nil, List.contains_nil]
      refine hΨ _ _ (fin_ret (rv1 rfl ?_))
      simp [hin, tup]
  · simp only [mach, ↓reduceIte, Nat.reduceEqDiff, Nat.reduceAdd, Nat.reduceMul, Nat.add_zero, Nat.zero_add, decide_true, decide_false, Bool.not_true, Bool.not_false, Bool.false_eq_true, List.nil_append, List.append_nil, List.contains_nil, r36, s.own.cells.ld, vc_int, vc_bool, vc_str, vc_ptr, vc_sl, vc_map, vc_if, vc_ni, vc_nf, vc_fn, vc_agg, vs1, vl1, vsl, vll, bldv_nil, bldv_cons, lt0, lts, ld0, lds, ldn, lac, lln, llc, lg0, lgs, Nat.reduceLeDiff, true_and, and_true, and_self, Nat.reduceLT, Int.reduceEq, a20, a21, z0, z1, w10, w11]
    refine XX_of hg1 (fun res h' _ hn => ?_)
    by_cases hin : 0 ≤ at' ∧ at' < x1.length
    · rw [if_pos hin] at hn
      obtain ⟨rfl, o1, kp, l1⟩ := hn
      refine .ret ?_
      simp only [mach, ↓reduceIte, Nat.reduceEqDiff, Nat.reduceAdd, Nat.reduceMul, Nat.add_zero, Nat.zero_add, decide_true, decide_false, Bool.not_true, Bool.not_false, Bool.false_eq_true, List.nil_append, List.append_nil, List.contains_nil]
      refine hΨ _ _ (fin_ret (rv1 rfl ?_))
      simp only [show ((1 : Int) = 0) = False by simp, if_false]
      rw [if_pos hin]
      refine ⟨rfl, kp.mono (fun q e => .inr (.inr e)), s.own.keep kp (fun e => s.d1 b e rfl), s.r0.keep kp (fun q e e' => s.d q e e'), ?_, s.d, s.d0, s.d1, s.sd, s.sz, s.l0, by simpa using s.l1⟩
      rw [List.length_set]; exact o1
    · rw [if_neg hin] at hn
      obtain ⟨rfl, rfl⟩ := hn
      refine .ret ?_
      simp only [mach, ↓reduceIte, Nat.reduceEqDiff, Nat.reduceAdd, Nat.reduceMul, Nat.add_zero, Nat.zero_add, decide_true, decide_false, Bool.not_true, Bool.not_false, Bool.false_eq_true, List.nil_append, List.append_nil, List.contains_nil]
      refine hΨ _ _ (fin_ret (rv1 rfl ?_))
      simp [hin, tup]


/-- A space: the words in use, the old words. -/
def Sp2 (h : AH) (b : Nat) (size side : Int) (v0 v1 : Value) (now old : List Int) : Prop := Spc h b size side v0 v1 (if side = 0 then now else old) (if side = 0 then old else now)

section
variable {h : AH} {b : Nat} {size side : Int} {v0 v1 : Value} {now old : List Int}

theorem Sp2.keep {S : Nat → Prop} {h' : AH} (s : Sp2 h b size side v0 v1 now old) (k : Keep S h h') (hs : ∀ q, Owns b v0 v1 q → ¬ S q) : Sp2 h' b size side v0 v1 now old := Spc.keep s k hs

theorem Used2 (s : Sp2 h b size side v0 v1 now old) : Gets Try.prog 41 [.pointer (some ⟨b, 0, none⟩)] h (fun res h' => h' = h ∧ res = .ret (iv now.length)) := by
  have := Used_ok s
  rcases Spc.sd s with rfl | rfl
  · simpa only [if_true] using this
  · simpa only [f10', if_false] using this
theorem Get2 (s : Sp2 h b size side v0 v1 now old) (at' : Int) : Gets Try.prog 34 [.pointer (some ⟨b, 0, none⟩), iv at'] h (fun res h' => h' = h ∧ res = .ret (.tuple (lk now at'))) := by
  have := Get_ok s at'
  rcases Spc.sd s with rfl | rfl
  · simpa only [if_true] using this
  · simpa only [f10', if_false] using this
theorem Old2 (s : Sp2 h b size side v0 v1 now old) (at' : Int) : Gets Try.prog 39 [.pointer (some ⟨b, 0, none⟩), iv at'] h (fun res h' => h' = h ∧ res = .ret (.tuple (lk old at'))) := by
  have := Old_ok s at'
  rcases Spc.sd s with rfl | rfl
  · simpa only [if_true] using this
  · simpa only [f10', if_false] using this
theorem Set2 (s : Sp2 h b size side v0 v1 now old) (at' x : Int) : Gets Try.prog 36 [.pointer (some ⟨b, 0, none⟩), iv at', sv x] h (fun res h' =>
    if 0 ≤ at' ∧ at' < now.length then res = .ret (iv 0) ∧ Keep (Owns b v0 v1) h h' ∧ Sp2 h' b size side v0 v1 (now.set at'.toNat x) old else h' = h ∧ res = .ret (iv 2)) := by
  have := Set_ok s at' x
  unfold Sp2
  rcases Spc.sd s with rfl | rfl
  · simpa only [if_true] using this
  · simpa only [f10', if_false] using this
theorem SetOld2 (s : Sp2 h b size side v0 v1 now old) (at' x : Int) : Gets Try.prog 40 [.pointer (some ⟨b, 0, none⟩), iv at', sv x] h (fun res h' =>
    if 0 ≤ at' ∧ at' < old.length then res = .ret (iv 0) ∧ Keep (Owns b v0 v1) h h' ∧ Sp2 h' b size side v0 v1 now (old.set at'.toNat x) else h' = h ∧ res = .ret (iv 2)) := by
  have := SetOld_ok s at' x
  unfold Sp2
  rcases Spc.sd s with rfl | rfl
  · simpa only [if_true] using this
  · simpa only [f10', if_false] using this
theorem Alloc2 {u : Value} {ys : List Int} {m : Nat} (s : Sp2 h b size side v0 v1 now old) (hu : Rds h 1 u m (ss ys)) : Gets Try.prog 32 [.pointer (some ⟨b, 0, none⟩), u] h (fun res h' =>
      if size - (now.length : Int) < ys.length then h' = h ∧ res = .ret (.tuple #[iv 0, iv 3])
      else res = .ret (.tuple #[iv now.length, iv 0]) ∧ Keep (Owns b v0 v1) h h' ∧ ∃ v0' v1', Sp2 h' b size side v0' v1' (now ++ ys) old ∧ ∀ q, Owns b v0' v1' q → Owns b v0 v1 q ∨ h.length ≤ q) := by
  have := Alloc_ok s hu
  unfold Sp2
  rcases Spc.sd s with rfl | rfl
  · simpa only [if_true] using this
  · simpa only [f10', if_false] using this
theorem Flip2 (s : Sp2 h b size side v0 v1 now old) : Gets Try.prog 38 [.pointer (some ⟨b, 0, none⟩)] h (fun res h' => res = .ret (.tuple #[]) ∧ Keep (Owns b v0 v1) h h' ∧ ∃ v0' v1', Sp2 h' b size (1 - side) v0' v1' [] now ∧ ∀ q, Owns b v0' v1' q → Owns b v0 v1 q) := by
  have := Flip_ok s
  unfold Sp2
  rcases Spc.sd s with rfl | rfl
  · simpa only [if_true, Int.sub_zero, f10', if_false] using this
  · simpa only [f10', if_false, Int.sub_self, if_true] using this
end


end Go.S02.Tx
