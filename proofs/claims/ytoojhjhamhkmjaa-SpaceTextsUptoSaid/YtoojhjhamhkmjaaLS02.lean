/- Layer 2: a space of numbers, its functions. -/
import Derived.Test.YtoojhjhamhkmjaaLR02
import Derived.Test.YtoojhjhamhkmjaaLE35
set_option linter.unusedVariables false
set_option linter.unusedSimpArgs false
namespace Go.S02
open Go Go.Eng Go.Proofs
theorem hP : noGoroutines Try.prog = true := by kernel_rfl
theorem hM : Try.prog.follows .mixedOrders = true := by kernel_rfl

abbrev iv (n : Int) : Value := .int .i64 n

theorem i64w {x : Int} (h0 : -9223372036854775808 ≤ x) (h1 : x ≤ 9223372036854775807) : IntKind.i64.wrap x = x := by
  show (if (true && decide (x % (18446744073709551616 : Int) ≥ (9223372036854775808 : Int))) = true then x % (18446744073709551616 : Int) - (18446744073709551616 : Int) else x % (18446744073709551616 : Int)) = x
  by_cases h : 0 ≤ x
  · have : x % (18446744073709551616 : Int) = x := Int.emod_eq_of_lt h (by omega)
    rw [this, if_neg (by simp; omega)]
  · have : x % (18446744073709551616 : Int) = x + 18446744073709551616 := by omega
    rw [this, if_pos (by simp; omega)]; omega

theorem new_ok (size : Int) (h : AH) : Gets Try.prog 9 [iv size] h (fun res h' => if 0 ≤ size ∧ size ≤ 1048576 then res = .ret (.tuple #[.pointer (some ⟨h.length, 0, none⟩), iv 0]) ∧ h' = h ++ [row 66 h.length [.slice none 0 0, .slice none 0 0, iv size, iv 0]] else res = .ret (.tuple #[.pointer none, iv 1]) ∧ h' = h) := by
  refine Gets.of (keep := false) hP (draw_ok hM) k9 (by rfl) (fun Ψ hΨ => ?_)
  by_cases h0 : size < 0
  · simp only [mach, ↓reduceIte, Nat.reduceEqDiff, Nat.reduceAdd, Nat.reduceMul, Nat.add_zero, Nat.zero_add, decide_true, decide_false, Bool.not_true, Bool.not_false, Bool.false_eq_true, List.nil_append, List.append_nil, List.contains_nil, r9, h0]
    refine hΨ _ _ (fin_ret (rv2 rfl rfl ?_))
    rw [if_neg (by omega)]; exact ⟨rfl, rfl⟩
  · by_cases h1 : (1048576 : Int) < size
    · simp only [mach, ↓reduceIte, Nat.reduceEqDiff, Nat.reduceAdd, Nat.reduceMul, Nat.add_zero, Nat.zero_add, decide_true, decide_false, Bool.not_true, Bool.not_false, Bool.false_eq_true, List.nil_append, List.append_nil, List.contains_nil, r9, h0, h1]
      refine hΨ _ _ (fin_ret (rv2 rfl rfl ?_))
      rw [if_neg (by omega)]; exact ⟨rfl, rfl⟩
    · simp only [mach, ↓reduceIte, Nat.reduceEqDiff, Nat.reduceAdd, Nat.reduceMul, Nat.add_zero, Nat.zero_add, decide_true, decide_false, Bool.not_true, Bool.not_false, Bool.false_eq_true, List.nil_append, List.append_nil, List.contains_nil, r9, h0, h1, vc_int, vc_bool, vc_str, vc_ptr, vc_sl, vc_map, vc_if, vc_ni, vc_nf, vc_fn, vc_agg, vs1, vl1, vsl, vll, bldv_nil, bldv_cons, lt0, lts, ld0, lds, ldn, lac, lln, llc, lg0, lgs, Nat.reduceLeDiff, true_and, and_true, and_self, Nat.reduceLT, Int.reduceEq]
      refine hΨ _ _ (fin_ret (rv2 rfl rfl ?_))
      rw [if_pos (by omega)]; exact ⟨rfl, rfl⟩


/-- A half of a space. -/
theorem within_ok {h : AH} {b o : Nat} {all : List Value} {v : Value} {n : Nat} {cs : List Value} (hb : Cells h b all) (ho : all[o]? = some v) (hr : Rds h 1 v n cs) (at' : Int) :
    Gets Try.prog 61 [.pointer (some ⟨b, o, none⟩), iv at'] h (fun res h' => h' = h ∧ res = .ret (.bool (decide (0 ≤ at') && decide (at' < n)))) := by
  refine Gets.of (keep := false) hP (draw_ok hM) k61 (by rfl) (fun Ψ hΨ => ?_)
  have hv : ∃ a c, v = .slice a n c := by cases hr with
    | nil => exact ⟨_, _, rfl⟩
    | emp => exact ⟨_, _, rfl⟩
    | mk => exact ⟨_, _, rfl⟩
  obtain ⟨a, c, rfl⟩ := hv
  by_cases h0 : 0 ≤ at'
  · simp only [mach, ↓reduceIte, Nat.reduceEqDiff, Nat.reduceAdd, Nat.reduceMul, Nat.add_zero, Nat.zero_add, decide_true, decide_false, Bool.not_true, Bool.not_false, Bool.false_eq_true, List.nil_append, List.append_nil, List.contains_nil, r61, h0, hb.ld, ho]
    exact hΨ _ _ (fin_ret (rv1 rfl ⟨rfl, by simp [tup, h0]⟩))
  · simp only [mach, ↓reduceIte, Nat.reduceEqDiff, Nat.reduceAdd, Nat.reduceMul, Nat.add_zero, Nat.zero_add, decide_true, decide_false, Bool.not_true, Bool.not_false, Bool.false_eq_true, List.nil_append, List.append_nil, List.contains_nil, r61, h0]
    exact hΨ _ _ (fin_ret (rv1 rfl ⟨rfl, by simp [tup, h0]⟩))


/-- Numbers as cells. -/
def ns (xs : List Int) : List Value := xs.map iv
theorem ns_len (xs : List Int) : (ns xs).length = xs.length := by simp [ns]
theorem ns_get (xs : List Int) (i : Nat) : (ns xs)[i]? = (xs[i]?).map iv := by simp [ns]
theorem ns_one (xs : List Int) : (ns xs).all Value.oneCell' = true := by simp [ns, Value.oneCell']

/-- A row of numbers at a place. -/
theorem rds_ix {h : AH} {v : Value} {n : Nat} {xs : List Int} (hr : Rds h 1 v n (ns xs)) {i : Int} (h0 : 0 ≤ i) {x : Int} (hx : xs[i.toNat]? = some x) :
    ∃ b o c, v = .slice (some ⟨b, o, none⟩) n c ∧ i < n ∧ ldc h b (o + i.toNat) = some (iv x) := by
  have hlen := hr.len
  rw [ns_len, Nat.mul_one] at hlen
  have hl : i.toNat < xs.length := (List.getElem?_eq_some_iff.1 hx).1
  obtain ⟨b, o, c, e, k⟩ := hr.at (i := i.toNat) (by omega)
  refine ⟨b, o, c, e, by omega, ?_⟩
  have := k 0 (by omega)
  rw [Nat.mul_one, Nat.add_zero, Nat.add_zero] at this
  rw [this, ns_get, hx]; rfl

theorem get_ok {h : AH} {b o : Nat} {all : List Value} {v : Value} {n : Nat} {xs : List Int} (hb : Cells h b all) (ho : all[o]? = some v) (hr : Rds h 1 v n (ns xs)) (at' : Int) :
    Gets Try.prog 54 [.pointer (some ⟨b, o, none⟩), iv at'] h (fun res h' => h' = h ∧ res = .ret (.tuple (if 0 ≤ at' ∧ at' < n then #[iv (xs[at'.toNat]?.getD 0), iv 0] else #[iv 0, iv 2]))) := by
  refine Gets.of (keep := false) hP (draw_ok hM) k54 (by rfl) (fun Ψ hΨ => ?_)
  have hw := within_ok hb ho hr at'
  have hlen := hr.len
  rw [ns_len, Nat.mul_one] at hlen
  by_cases hin : 0 ≤ at' ∧ at' < n
  · rw [show (decide (0 ≤ at') && decide (at' < (n : Int))) = true by simp [hin]] at hw
    simp only [mach, ↓reduceIte, Nat.reduceEqDiff, Nat.reduceAdd, Nat.reduceMul, Nat.add_zero, Nat.zero_add, decide_true, decide_false, Bool.not_true, Bool.not_false, Bool.false_eq_true, List.nil_append, List.append_nil, List.contains_nil, r54]
    refine XX_val hw ?_
    obtain ⟨x, hx⟩ : ∃ x, xs[at'.toNat]? = some x := ⟨_, List.getElem?_eq_getElem (by omega)⟩
    obtain ⟨b1, o1, c1, rfl, _, hld⟩ := rds_ix hr hin.1 hx
    simp only [mach, ↓reduceIte, Nat.reduceEqDiff, Nat.reduceAdd, Nat.reduceMul, Nat.add_zero, Nat.zero_add, decide_true, decide_false, Bool.not_true, Bool.not_false, Bool.false_eq_true, List.nil_append, List.append_nil, List.contains_nil, hb.ld, ho, hin, and_self, Nat.mul_one, hld]
    refine hΨ _ _ (fin_ret (rv2 rfl rfl ⟨rfl, ?_⟩))
    rw [hx, if_pos hin]; rfl
  · rw [show (decide (0 ≤ at') && decide (at' < (n : Int))) = false by simp; omega] at hw
    simp only [mach, ↓reduceIte, Nat.reduceEqDiff, Nat.reduceAdd, Nat.reduceMul, Nat.add_zero, Nat.zero_add, decide_true, decide_false, Bool.not_true, Bool.not_false, Bool.false_eq_true, List.nil_append, List.append_nil, List.contains_nil, r54]
    refine XX_val hw ?_
    simp only [mach, ↓reduceIte, Nat.reduceEqDiff, Nat.reduceAdd, Nat.reduceMul, Nat.add_zero, Nat.zero_add, decide_true, decide_false, Bool.not_true, Bool.not_false, Bool.false_eq_true, List.nil_append, List.append_nil, List.contains_nil]
    refine hΨ _ _ (fin_ret (rv2 rfl rfl ⟨rfl, ?_⟩))
    rw [if_neg hin]; rfl

theorem shape {h : AH} {sz n : Nat} {v : Value} {cs : List Value} (hr : Rds h sz v n cs) : ∃ a c, v = .slice a n c := by
  cases hr with
  | nil => exact ⟨_, _, rfl⟩
  | emp => exact ⟨_, _, rfl⟩
  | mk => exact ⟨_, _, rfl⟩

/-- A space of numbers. -/
structure Spc (h : AH) (b : Nat) (size side : Int) (v0 v1 : Value) (x0 x1 : List Int) : Prop where
  own : Own h b 66 [v0, v1, iv size, iv side]
  r0 : Ows h 3 1 v0 x0.length (ns x0)
  r1 : Ows h 3 1 v1 x1.length (ns x1)
  d : ∀ q, bk v0 q → ¬ bk v1 q
  d0 : ∀ q, bk v0 q → q ≠ b
  d1 : ∀ q, bk v1 q → q ≠ b
  sd : side = 0 ∨ side = 1
  sz : 0 ≤ size ∧ size ≤ 1048576
  l0 : (x0.length : Int) ≤ size
  l1 : (x1.length : Int) ≤ size

/-- What a space owns. -/
def Owns (b : Nat) (v0 v1 : Value) (q : Nat) : Prop := q = b ∨ bk v0 q ∨ bk v1 q

theorem Spc.keep {S : Nat → Prop} {h h' : AH} {b : Nat} {size side : Int} {v0 v1 : Value} {x0 x1 : List Int} (s : Spc h b size side v0 v1 x0 x1) (k : Keep S h h') (hs : ∀ q, Owns b v0 v1 q → ¬ S q) : Spc h' b size side v0 v1 x0 x1 :=
  ⟨s.own.keep k (hs _ (.inl rfl)), s.r0.keep k (fun q hq => hs q (.inr (.inl hq))), s.r1.keep k (fun q hq => hs q (.inr (.inr hq))), s.d, s.d0, s.d1, s.sd, s.sz, s.l0, s.l1⟩

def lk (xs : List Int) (at' : Int) : Array Value := if 0 ≤ at' ∧ at' < xs.length then #[iv (xs[at'.toNat]?.getD 0), iv 0] else #[iv 0, iv 2]

theorem a20 : (0 ≤ (0 : Int) ∧ (0 : Int) < ((2 : Nat) : Int)) = True := by simp
theorem a21 : (0 ≤ (1 : Int) ∧ (1 : Int) < ((2 : Nat) : Int)) = True := by simp
theorem z0 : Int.toNat 0 * 1 = 0 := rr rfl
theorem z1 : Int.toNat 1 * 1 = 1 := rr rfl
theorem w10 : IntKind.i64.wrap (1 - 0) = 1 := rr rfl
theorem w11 : IntKind.i64.wrap (1 - 1) = 0 := rr rfl

theorem Get_ok {h : AH} {b : Nat} {size side : Int} {v0 v1 : Value} {x0 x1 : List Int} (s : Spc h b size side v0 v1 x0 x1) (at' : Int) :
    Gets Try.prog 13 [.pointer (some ⟨b, 0, none⟩), iv at'] h (fun res h' => h' = h ∧ res = .ret (.tuple (lk (if side = 0 then x0 else x1) at'))) := by
  refine Gets.of (keep := false) hP (draw_ok hM) k13 (by rfl) (fun Ψ hΨ => ?_)
  have hg0 := get_ok s.own.cells (o := 0) rfl s.r0.rds at'
  have hg1 := get_ok s.own.cells (o := 1) rfl s.r1.rds at'
  rcases s.sd with rfl | rfl
  · simp only [mach, ↓reduceIte, Nat.reduceEqDiff, Nat.reduceAdd, Nat.reduceMul, Nat.add_zero, Nat.zero_add, decide_true, decide_false, Bool.not_true, Bool.not_false, Bool.false_eq_true, List.nil_append, List.append_nil, List.contains_nil, r13, s.own.cells.ld, vc_int, vc_bool, vc_str, vc_ptr, vc_sl, vc_map, vc_if, vc_ni, vc_nf, vc_fn, vc_agg, vs1, vl1, vsl, vll, bldv_nil, bldv_cons, lt0, lts, ld0, lds, ldn, lac, lln, llc, lg0, lgs, Nat.reduceLeDiff, true_and, and_true, and_self, Nat.reduceLT, Int.reduceEq, a20, a21, z0, z1, w10, w11]
    refine XX_val hg0 ?_
    by_cases hin : 0 ≤ at' ∧ at' < x0.length
    · simp only [mach, ↓reduceIte, Nat.reduceEqDiff, Nat.reduceAdd, Nat.reduceMul, Nat.add_zero, Nat.zero_add, decide_true, decide_false, Bool.not_true, Bool.not_false, Bool.false_eq_true, List.nil_append, List.append_nil, List.contains_nil, hin, and_self, vc_int, vc_bool, vc_str, vc_ptr, vc_sl, vc_map, vc_if, vc_ni, vc_nf, vc_fn, vc_agg, vs1, vl1, vsl, vll, bldv_nil, bldv_cons, lt0, lts, ld0, lds, ldn, lac, lln, llc, lg0, lgs, Nat.reduceLeDiff, true_and, and_true, and_self, Nat.reduceLT, Int.reduceEq]
      exact hΨ _ _ (fin_ret (rv2 rfl rfl ⟨rfl, by simp [lk, hin, tup]⟩))
    · simp only [mach, ↓reduceIte, Nat.reduceEqDiff, Nat.reduceAdd, Nat.reduceMul, Nat.add_zero, Nat.zero_add, decide_true, decide_false, Bool.not_true, Bool.not_false, Bool.false_eq_true, List.nil_append, List.append_nil, List.contains_nil, hin, vc_int, vc_bool, vc_str, vc_ptr, vc_sl, vc_map, vc_if, vc_ni, vc_nf, vc_fn, vc_agg, vs1, vl1, vsl, vll, bldv_nil, bldv_cons, lt0, lts, ld0, lds, ldn, lac, lln, llc, lg0, lgs, Nat.reduceLeDiff, true_and, and_true, and_self, Nat.reduceLT, Int.reduceEq]
      exact hΨ _ _ (fin_ret (rv2 rfl rfl ⟨rfl, by simp [lk, hin, tup]⟩))
  · simp only [mach, ↓reduceIte, Nat.reduceEqDiff, Nat.reduceAdd, Nat.reduceMul, Nat.add_zero, Nat.zero_add, decide_true, decide_false, Bool.not_true, Bool.not_false, Bool.false_eq_true, List.nil_append, List.append_nil, List.contains_nil, r13, s.own.cells.ld, vc_int, vc_bool, vc_str, vc_ptr, vc_sl, vc_map, vc_if, vc_ni, vc_nf, vc_fn, vc_agg, vs1, vl1, vsl, vll, bldv_nil, bldv_cons, lt0, lts, ld0, lds, ldn, lac, lln, llc, lg0, lgs, Nat.reduceLeDiff, true_and, and_true, and_self, Nat.reduceLT, Int.reduceEq, a20, a21, z0, z1, w10, w11]
    refine XX_val hg1 ?_
    by_cases hin : 0 ≤ at' ∧ at' < x1.length
    · simp only [mach, ↓reduceIte, Nat.reduceEqDiff, Nat.reduceAdd, Nat.reduceMul, Nat.add_zero, Nat.zero_add, decide_true, decide_false, Bool.not_true, Bool.not_false, Bool.false_eq_true, List.nil_append, List.append_nil, List.contains_nil, hin, and_self, vc_int, vc_bool, vc_str, vc_ptr, vc_sl, vc_map, vc_if, vc_ni, vc_nf, vc_fn, vc_agg, vs1, vl1, vsl, vll, bldv_nil, bldv_cons, lt0, lts, ld0, lds, ldn, lac, lln, llc, lg0, lgs, Nat.reduceLeDiff, true_and, and_true, and_self, Nat.reduceLT, Int.reduceEq]
      exact hΨ _ _ (fin_ret (rv2 rfl rfl ⟨rfl, by simp [lk, hin, tup]⟩))
    · simp only [mach, ↓reduceIte, Nat.reduceEqDiff, Nat.reduceAdd, Nat.reduceMul, Nat.add_zero, Nat.zero_add, decide_true, decide_false, Bool.not_true, Bool.not_false, Bool.false_eq_true, List.nil_append, List.append_nil, List.contains_nil, hin, vc_int, vc_bool, vc_str, vc_ptr, vc_sl, vc_map, vc_if, vc_ni, vc_nf, vc_fn, vc_agg, vs1, vl1, vsl, vll, bldv_nil, bldv_cons, lt0, lts, ld0, lds, ldn, lac, lln, llc, lg0, lgs, Nat.reduceLeDiff, true_and, and_true, and_self, Nat.reduceLT, Int.reduceEq]
      exact hΨ _ _ (fin_ret (rv2 rfl rfl ⟨rfl, by simp [lk, hin, tup]⟩))

theorem Alloc_ok {h : AH} {b : Nat} {size side : Int} {v0 v1 u : Value} {x0 x1 ys : List Int} {m : Nat} (s : Spc h b size side v0 v1 x0 x1) (hu : Rds h 1 u m (ns ys)) :
    Gets Try.prog 11 [.pointer (some ⟨b, 0, none⟩), u] h (fun res h' =>
      if size - ((if side = 0 then x0 else x1).length : Int) < ys.length then h' = h ∧ res = .ret (.tuple #[iv 0, iv 3])
      else res = .ret (.tuple #[iv (if side = 0 then x0 else x1).length, iv 0]) ∧ Keep (Owns b v0 v1) h h' ∧
        ∃ v0' v1', Spc h' b size side v0' v1' (if side = 0 then x0 ++ ys else x0) (if side = 0 then x1 else x1 ++ ys) ∧ ∀ q, Owns b v0' v1' q → Owns b v0 v1 q ∨ h.length ≤ q) := by
  refine Gets.of (keep := false) hP (draw_ok hM) k11 (by rfl) (fun Ψ hΨ => ?_)
  have hm : m = ys.length := by have := hu.len; rw [ns_len, Nat.mul_one] at this; exact this.symm
  obtain ⟨ua, uc, rfl⟩ := shape hu
  obtain ⟨_, hsrc, rfl⟩ := hu.src (ns_one ys)
  obtain ⟨a0, c0, hv0⟩ := shape s.r0.rds
  obtain ⟨a1, c1, hv1⟩ := shape s.r1.rds
  have hsz := s.sz
  have hl0 := s.l0
  have hl1 := s.l1
  have hq : ∀ q, (∃ xs : List Int, bk v0 q ∨ bk v1 q) → q < h.length := fun q ⟨_, e⟩ => e.elim (s.r0.lt q) (s.r1.lt q)
  rcases s.sd with rfl | rfl
  · have hw : IntKind.i64.wrap (size - (x0.length : Int)) = size - x0.length := i64w (by omega) (by omega)
    by_cases hf : size - (x0.length : Int) < (m : Int)
    · simp only [mach, ↓reduceIte, Nat.reduceEqDiff, Nat.reduceAdd, Nat.reduceMul, Nat.add_zero, Nat.zero_add, decide_true, decide_false, Bool.not_true, Bool.not_false, Bool.false_eq_true, List.nil_append, List.append_nil, List.contains_nil, r11, s.own.cells.ld, vc_int, vc_bool, vc_str, vc_ptr, vc_sl, vc_map, vc_if, vc_ni, vc_nf, vc_fn, vc_agg, vs1, vl1, vsl, vll, bldv_nil, bldv_cons, lt0, lts, ld0, lds, ldn, lac, lln, llc, lg0, lgs, Nat.reduceLeDiff, true_and, and_true, and_self, Nat.reduceLT, Int.reduceEq, a20, a21, z0, z1, w10, w11, hv0, hw, hf]
      refine hΨ _ _ (fin_ret (rv2 rfl rfl ?_))
      rw [if_pos (by simp; omega)]; exact ⟨rfl, rfl⟩
    · obtain ⟨s', h', k1, k2, k3, k4⟩ := s.r0.app (bytes := 8) hsrc (by rw [ns_len, hm]; omega) (ns_one ys) (by omega) (by omega)
      have hown := s.own.keep k3 (fun q => s.d0 b q rfl)
      have hoth := s.r1.keep k3 (fun q hq e => s.d q e hq)
      obtain ⟨a2, c2, hs'⟩ := shape k2.rds
      subst hv0
      simp only [mach, ↓reduceIte, Nat.reduceEqDiff, Nat.reduceAdd, Nat.reduceMul, Nat.add_zero, Nat.zero_add, decide_true, decide_false, Bool.not_true, Bool.not_false, Bool.false_eq_true, List.nil_append, List.append_nil, List.contains_nil, r11, s.own.cells.ld, vc_int, vc_bool, vc_str, vc_ptr, vc_sl, vc_map, vc_if, vc_ni, vc_nf, vc_fn, vc_agg, vs1, vl1, vsl, vll, bldv_nil, bldv_cons, lt0, lts, ld0, lds, ldn, lac, lln, llc, lg0, lgs, Nat.reduceLeDiff, true_and, and_true, and_self, Nat.reduceLT, Int.reduceEq, a20, a21, z0, z1, w10, w11, hw, hf, k1]
      subst hs'
      refine XH_own hown rfl (by simp [Value.cells]) rfl (fun h2 q1 q2 q3 => ?_)
      simp only [mach, ↓reduceIte, Nat.reduceEqDiff, Nat.reduceAdd, Nat.reduceMul, Nat.add_zero, Nat.zero_add, decide_true, decide_false, Bool.not_true, Bool.not_false, Bool.false_eq_true, List.nil_append, List.append_nil, List.contains_nil]
      refine hΨ _ _ (fin_ret (rv2 rfl rfl ?_))
      have hnb : ∀ q, bk (.slice a2 (x0.length + m) c2) q → q ≠ b := by
        intro q hq e
        rcases k4 q hq with k | k
        · exact s.d0 q k e
        · have := s.own.lt; omega
      rw [if_neg (by simp; omega)]
      refine ⟨by simp [tup], ⟨by rw [q3]; exact k3.len, fun q hq hs => ?_⟩, _, v1, ⟨q1, ?_, ?_, ?_, ?_, ?_, s.sd, s.sz, ?_, ?_⟩, ?_⟩
      · rw [q2.same q (Nat.lt_of_lt_of_le hq k3.len) (fun e => hs (.inl e)), k3.same q hq (fun e => hs (.inr (Or.inl e)))]
      · simp only [if_true, List.length_append]
        rw [show ns (x0 ++ ys) = ns x0 ++ ns ys by simp [ns], ← hm]
        exact k2.keep q2 (fun q hq e => hnb q hq e)
      · simp only [if_true]
        exact hoth.keep q2 (fun q hq e => s.d1 q hq e)
      · intro q hq e
        rcases k4 q hq with k | k
        · exact s.d q k e
        · have := s.r1.lt q e; omega
      · exact hnb
      · exact s.d1
      · simp; omega
      · simp; omega
      · rintro q (e | e | e)
        · exact .inl (.inl e)
        · exact (k4 q e).elim (fun e => .inl (.inr (.inl e))) .inr
        · exact .inl (.inr (.inr e))
  · have hw : IntKind.i64.wrap (size - (x1.length : Int)) = size - x1.length := i64w (by omega) (by omega)
    by_cases hf : size - (x1.length : Int) < (m : Int)
    · simp only [mach, ↓reduceIte, Nat.reduceEqDiff, Nat.reduceAdd, Nat.reduceMul, Nat.add_zero, Nat.zero_add, decide_true, decide_false, Bool.not_true, Bool.not_false, Bool.false_eq_true, List.nil_append, List.append_nil, List.contains_nil, r11, s.own.cells.ld, vc_int, vc_bool, vc_str, vc_ptr, vc_sl, vc_map, vc_if, vc_ni, vc_nf, vc_fn, vc_agg, vs1, vl1, vsl, vll, bldv_nil, bldv_cons, lt0, lts, ld0, lds, ldn, lac, lln, llc, lg0, lgs, Nat.reduceLeDiff, true_and, and_true, and_self, Nat.reduceLT, Int.reduceEq, a20, a21, z0, z1, w10, w11, hv1, hw, hf]
      refine hΨ _ _ (fin_ret (rv2 rfl rfl ?_))
      rw [if_pos (by simp; omega)]; exact ⟨rfl, rfl⟩
    · obtain ⟨s', h', k1, k2, k3, k4⟩ := s.r1.app (bytes := 8) hsrc (by rw [ns_len, hm]; omega) (ns_one ys) (by omega) (by omega)
      have hown := s.own.keep k3 (fun q => s.d1 b q rfl)
      have hoth := s.r0.keep k3 (fun q hq e => s.d q hq e)
      obtain ⟨a2, c2, hs'⟩ := shape k2.rds
      subst hv1
      simp only [mach, ↓reduceIte, Nat.reduceEqDiff, Nat.reduceAdd, Nat.reduceMul, Nat.add_zero, Nat.zero_add, decide_true, decide_false, Bool.not_true, Bool.not_false, Bool.false_eq_true, List.nil_append, List.append_nil, List.contains_nil, r11, s.own.cells.ld, vc_int, vc_bool, vc_str, vc_ptr, vc_sl, vc_map, vc_if, vc_ni, vc_nf, vc_fn, vc_agg, vs1, vl1, vsl, vll, bldv_nil, bldv_cons, lt0, lts, ld0, lds, ldn, lac, lln, llc, lg0, lgs, Nat.reduceLeDiff, true_and, and_true, and_self, Nat.reduceLT, Int.reduceEq, a20, a21, z0, z1, w10, w11, hw, hf, k1]
      subst hs'
      refine XH_own hown rfl (by simp [Value.cells]) rfl (fun h2 q1 q2 q3 => ?_)
      simp only [mach, ↓reduceIte, Nat.reduceEqDiff, Nat.reduceAdd, Nat.reduceMul, Nat.add_zero, Nat.zero_add, decide_true, decide_false, Bool.not_true, Bool.not_false, Bool.false_eq_true, List.nil_append, List.append_nil, List.contains_nil]
      refine hΨ _ _ (fin_ret (rv2 rfl rfl ?_))
      have hnb : ∀ q, bk (.slice a2 (x1.length + m) c2) q → q ≠ b := by
        intro q hq e
        rcases k4 q hq with k | k
        · exact s.d1 q k e
        · have := s.own.lt; omega
      rw [if_neg (by simp; omega)]
      refine ⟨by simp [tup], ⟨by rw [q3]; exact k3.len, fun q hq hs => ?_⟩, v0, _, ⟨q1, ?_, ?_, ?_, ?_, ?_, s.sd, s.sz, ?_, ?_⟩, ?_⟩
      · rw [q2.same q (Nat.lt_of_lt_of_le hq k3.len) (fun e => hs (.inl e)), k3.same q hq (fun e => hs (.inr (Or.inr e)))]
      · simp only [show ((1 : Int) = 0) = False by simp, if_false]
        exact hoth.keep q2 (fun q hq e => s.d0 q hq e)
      · simp only [show ((1 : Int) = 0) = False by simp, if_false, List.length_append]
        rw [show ns (x1 ++ ys) = ns x1 ++ ns ys by simp [ns], ← hm]
        exact k2.keep q2 (fun q hq e => hnb q hq e)
      · intro q e hq
        rcases k4 q hq with k | k
        · exact s.d q e k
        · have := s.r0.lt q e; omega
      · exact s.d0
      · exact hnb
      · simp; omega
      · simp; omega
      · rintro q (e | e | e)
        · exact .inl (.inl e)
        · exact .inl (.inr (.inl e))
        · exact (k4 q e).elim (fun e => .inl (.inr (.inr e))) .inr

end Go.S02
