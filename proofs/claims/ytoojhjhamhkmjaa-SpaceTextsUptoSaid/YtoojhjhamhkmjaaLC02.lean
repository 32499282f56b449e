/- Layer 2: a number's text. -/
import Derived.Test.YtoojhjhamhkmjaaLB02
import Derived.Test.YtoojhjhamhkmjaaLU02
set_option linter.unusedVariables false
set_option linter.unusedSimpArgs false
namespace Go.S02
open Go Go.Eng Go.Proofs

/-- Bytes as cells. -/
def by8 (l : List Int) : List Value := l.map (Value.int .u8)
theorem by8_len (l : List Int) : (by8 l).length = l.length := by simp [by8]
theorem by8_one (l : List Int) : (by8 l).all Value.oneCell' = true := by simp [by8, Value.oneCell']
theorem by8_app (a b : List Int) : by8 (a ++ b) = by8 a ++ by8 b := by simp [by8]
theorem by8_get (l : List Int) (i : Nat) : (by8 l)[i]? = (l[i]?).map (Value.int .u8) := by simp [by8]
theorem asBytes_by8 : ∀ l : List Int, asBytes (by8 l) = some l := by
  intro l
  induction l with
  | nil => rfl
  | cons a l ih => show (asBytes (by8 l)).map (a :: ·) = _; rw [ih]; rfl

theorem b2s_rds {P : Program} {h : AH} {m n : Nat} {v : Value} {l : List Int} (hr : Rds h 1 v n (by8 l)) : uval P h m .b2s v = some (.string (pushAll l), none) := by
  generalize hc : by8 l = cs at hr
  cases hr with
  | nil =>
    cases l with
    | nil => rfl
    | cons => simp [by8] at hc
  | emp =>
    cases l with
    | nil => rfl
    | cons => simp [by8] at hc
  | mk hb hl hx =>
    by_cases h0 : n = 0
    · subst h0
      simp at hx
      subst hx
      cases l with
      | nil => rfl
      | cons => simp [by8] at hc
    · unfold Cells at hb
      rw [Nat.mul_one] at hx hl
      simp only [uval, h0, if_false, hb, Option.bind_some, hl, if_true, hx, ← hc, asBytes_by8, Option.map_some]

theorem pushAll_size (l : List Int) : (pushAll l).size = l.length := by
  have : ∀ (l : List Int) (b : ByteArray), (l.foldl (fun r n => r.push (UInt8.ofNat n.toNat)) b).size = b.size + l.length := by
    intro l
    induction l with
    | nil => intro b; rfl
    | cons a l ih => intro b; rw [List.foldl_cons, ih]; simp [ByteArray.size_push]; omega
  rw [pushAll, this]; simp

/-- The digits of a number, the last one first. -/
def dgs (n : Nat) : List Int := if 9 < n then (48 + n % 10 : Nat) :: dgs (n / 10) else [((48 + n : Nat) : Int)]
termination_by n
decreasing_by omega
theorem dgs_step {n : Nat} (h : 9 < n) : dgs n = ((48 + n % 10 : Nat) : Int) :: dgs (n / 10) := by rw [dgs, if_pos h]
theorem dgs_last {n : Nat} (h : ¬ 9 < n) : dgs n = [((48 + n : Nat) : Int)] := by rw [dgs, if_neg h]

def sw (l : List Int) (i : Nat) : List Int := (l.set i (l.getD (l.length - 1 - i) 0)).set (l.length - 1 - i) (l.getD i 0)
theorem sw_len (l : List Int) (i : Nat) : (sw l i).length = l.length := by simp [sw]
def rvk (l : List Int) : Nat → List Int
  | 0 => l
  | i + 1 => sw (rvk l i) i
theorem rvk_len (l : List Int) : ∀ i, (rvk l i).length = l.length := by
  intro i
  induction i with
  | zero => rfl
  | succ i ih => rw [rvk, sw_len, ih]

def dtx (n : Nat) : ByteArray := pushAll (rvk (dgs n) ((dgs n).length / 2))

theorem u8w {x : Int} (h0 : 0 ≤ x) (h1 : x ≤ 255) : IntKind.u8.wrap x = x := by
  show (if (false && decide (x % (256 : Int) ≥ (128 : Int))) = true then x % (256 : Int) - (256 : Int) else x % (256 : Int)) = x
  rw [if_neg (by simp)]; omega

theorem by_set {h' : AH} {b n c i : Nat} {all : List Value} {l : List Int} {x : Int} (ho : Own h' b 5 (all.take i ++ (Value.int .u8 x).cells.toList ++ all.drop (i + (Value.int .u8 x).cells.toList.length))) (hl : all.length = c) (hn : n ≤ c) (hx : all.take n = by8 l) (hi : i < n) :
    Own h' b 5 (all.set i (Value.int .u8 x)) ∧ (all.set i (Value.int .u8 x)).length = c ∧ (all.set i (Value.int .u8 x)).take n = by8 (l.set i x) := by
  simp only [Value.cells] at ho
  have e : all.take i ++ [Value.int .u8 x] ++ all.drop (i + [Value.int .u8 x].length) = all.set i (Value.int .u8 x) := by
    rw [List.set_eq_take_append_cons_drop, if_pos (by omega)]; simp
  refine ⟨by rw [← e]; exact ho, by simp; omega, ?_⟩
  rw [List.take_set, hx]; simp [by8, List.map_set]

theorem pow_lt18 {m k n0 : Nat} (h : m * 10 ^ k ≤ n0) (h9 : 9 < m) (hn : n0 ≤ 9223372036854775807) : k < 18 := by
  have h1 : 10 * 10 ^ k ≤ n0 := Nat.le_trans (Nat.mul_le_mul_right _ (by omega)) h
  have h2 : 10 ^ (k + 1) < 10 ^ 19 := by rw [Nat.pow_succ]; have : (10 : Nat) ^ 19 = 10000000000000000000 := by decide
                                         omega
  have := (Nat.pow_lt_pow_iff_right (show 1 < 10 by omega)).1 h2
  omega

/-- One more laid behind a row of one's own. -/
theorem app1 {h : AH} {e n bytes : Nat} {v x : Value} {cs : List Value} (ho : Ows h e 1 v n cs) (hx : x.oneCell' = true) (hb : (n + 1) * bytes ≤ 140737488355328) (hb2 : n + 1 ≤ 9223372036854775807) :
    ∃ s' h', appv false (h ++ [row e h.length [x]]) false e 1 bytes v (.slice (some ⟨h.length, 0, none⟩) 1 1) = some (s', h') ∧ Ows h' e 1 s' (n + 1) (cs ++ [x]) ∧ Keep (bk v) h h' ∧ (∀ q, bk s' q → bk v q ∨ h.length ≤ q) := by
  have k0 : Keep (fun _ => False) h (h ++ [row e h.length [x]]) := Keep.push _ _ _
  have hr : Rds (h ++ [row e h.length [x]]) 1 (.slice (some ⟨h.length, 0, none⟩) 1 1) 1 [x] := .mk (Own.new h e _ [x]).cells (by simp) (by simp)
  obtain ⟨_, hsrc, rfl⟩ := hr.src (by simp [hx])
  obtain ⟨s', h', k1, k2, k3, k4⟩ := (ho.keep k0 (fun _ _ e => e)).app (bytes := bytes) hsrc (by simp) (by simp [hx]) hb hb2
  exact ⟨s', h', k1, k2, (k0.mono (fun _ e => e.elim)).trans k3, fun q hq => (k4 q hq).imp id (fun e => by simp at e; omega)⟩

/-- What the first loop of digits keeps. -/
def DgI (h : AH) (n0 : Nat) (a : Nat × Value × Nat) (h' : AH) : Prop :=
  ∃ acc : List Int, acc.length = a.2.2 ∧ acc ++ dgs a.1 = dgs n0 ∧ a.1 * 10 ^ acc.length ≤ n0 ∧ acc.length ≤ 18 ∧ Ows h' 5 1 a.2.1 a.2.2 (by8 acc) ∧ Keep (fun _ => False) h h' ∧ (∀ q, bk a.2.1 q → h.length ≤ q) ∧ ∀ x ∈ acc, 0 ≤ x ∧ x ≤ 255

set_option maxHeartbeats 1000000 in
theorem digits_ok (h : AH) (n : Nat) (hn : n ≤ 9223372036854775807) : Gets Try.prog 58 [iv n] h (fun res h' => res = .ret (.string (dtx n)) ∧ Keep (fun _ => False) h h') := by
  refine Gets.of (keep := false) hP (draw_ok hM) k58 (by rfl) (fun Ψ hΨ => ?_)
  simp only [mach, ↓reduceIte, Nat.reduceEqDiff, Nat.reduceAdd, Nat.reduceMul, Nat.add_zero, Nat.zero_add, decide_true, decide_false, Bool.not_true, Bool.not_false, Bool.false_eq_true, List.nil_append, List.append_nil, List.contains_nil, r58]
  refine XLo_rule (α := Nat × Value × Nat) (fun a => [(0, iv a.1), (2, .string ⟨#[]⟩), (3, a.2.1)])
    (DgI h n) (fun a => a.1) (n, .slice none 0 0, 0) ⟨[], rfl, rfl, by simp, by simp, .nil, .refl _ _, fun q e => e.elim, by simp⟩ ⟨rfl, rfl, rfl, trivial⟩ ?_
  rintro ⟨m, v, k⟩ h1 Ψ2 ⟨acc, rfl, e1, e2, e3, o1, kp, fr, rng⟩ next out
  simp only at e1 e2 o1 fr
  have hm0 : m ≤ 9223372036854775807 := Nat.le_trans (Nat.le_trans (Nat.le_mul_of_pos_right _ (Nat.pos_of_ne_zero (by simp))) e2) hn
  by_cases h9 : 9 < m
  · have h9' : (9 : Int) < m := by omega
    have hlt := pow_lt18 e2 h9 hn
    have ht : Int.tmod (m : Int) 10 = ((m % 10 : Nat) : Int) := by rw [Int.tmod_eq_emod_of_nonneg (by omega)]; omega
    have hq : Int.tdiv (m : Int) 10 = ((m / 10 : Nat) : Int) := by rw [Int.tdiv_eq_ediv_of_nonneg (by omega)]; omega
    have hw : IntKind.i64.wrap (48 + ((m % 10 : Nat) : Int)) = ((48 + m % 10 : Nat) : Int) := by rw [i64w (by omega) (by omega)]; omega
    have hw8 : IntKind.u8.wrap ((48 + m % 10 : Nat) : Int) = ((48 + m % 10 : Nat) : Int) := u8w (by omega) (by omega)
    have hwq : IntKind.i64.wrap ((m / 10 : Nat) : Int) = ((m / 10 : Nat) : Int) := i64w (by omega) (by omega)
    simp only [mach, ↓reduceIte, Nat.reduceEqDiff, Nat.reduceAdd, Nat.reduceMul, Nat.add_zero, Nat.zero_add, decide_true, decide_false, Bool.not_true, Bool.not_false, Bool.false_eq_true, List.nil_append, List.append_nil, List.contains_nil, h9', ht, hw, hw8, vc_int, vc_bool, vc_str, vc_ptr, vc_sl, vc_map, vc_if, vc_ni, vc_nf, vc_fn, vc_agg, vs1, vl1, vsl, vll, bldv_nil, bldv_cons, lt0, lts, ld0, lds, ldn, lac, lln, llc, lg0, lgs, Nat.reduceLeDiff, true_and, and_true, and_self, Nat.reduceLT, Int.reduceEq]
    obtain ⟨s', h', k1, k2, k3, k4⟩ := app1 (bytes := 1) o1 (x := .int .u8 ((48 + m % 10 : Nat) : Int)) rfl (by omega) (by omega)
    simp only [mach, ↓reduceIte, Nat.reduceEqDiff, Nat.reduceAdd, Nat.reduceMul, Nat.add_zero, Nat.zero_add, decide_true, decide_false, Bool.not_true, Bool.not_false, Bool.false_eq_true, List.nil_append, List.append_nil, List.contains_nil, k1, hq, hwq, show ((10 : Int) = 0) = False by simp]
    refine next (m / 10, s', acc.length + 1) _ _ _ ⟨acc ++ [((48 + m % 10 : Nat) : Int)], by simp, ?_, ?_, by simp; omega, ?_, ?_, ?_, ?_⟩ ⟨rfl, rfl, rfl, trivial⟩ (by simp only; omega)
    · rw [← e1, dgs_step h9]; simp
    · simp only [List.length_append, List.length_singleton, Nat.pow_succ]
      refine Nat.le_trans ?_ e2
      rw [Nat.mul_comm (10 ^ acc.length), ← Nat.mul_assoc]
      exact Nat.mul_le_mul_right _ (by omega)
    · simpa [by8] using k2
    · exact kp.trans' k3 (fun c hc e => by have := fr c e; omega)
    · intro q hq
      rcases k4 q hq with e | e
      · exact fr q e
      · exact Nat.le_trans kp.len e
    · intro x hx
      rcases List.mem_append.1 hx with e | e
      · exact rng x e
      · simp at e; subst e; omega
  · have h9' : ¬ (9 : Int) < m := by omega
    simp only [mach, ↓reduceIte, Nat.reduceEqDiff, Nat.reduceAdd, Nat.reduceMul, Nat.add_zero, Nat.zero_add, decide_true, decide_false, Bool.not_true, Bool.not_false, Bool.false_eq_true, List.nil_append, List.append_nil, List.contains_nil, h9']
    refine out (.exit 0) _ _ _ _ (by intro e; cases e) ?_
    have hw : IntKind.i64.wrap (48 + (m : Int)) = ((48 + m : Nat) : Int) := by rw [i64w (by omega) (by omega)]; omega
    have hw8 : IntKind.u8.wrap ((48 + m : Nat) : Int) = ((48 + m : Nat) : Int) := u8w (by omega) (by omega)
    obtain ⟨s', h', k1, k2, k3, k4⟩ := app1 (bytes := 1) o1 (x := .int .u8 ((48 + m : Nat) : Int)) rfl (by omega) (by omega)
    rw [dgs_last (by omega)] at e1
    have kp2 : Keep (fun _ => False) h h' := kp.trans' k3 (fun c hc e => by have := fr c e; omega)
    have fr2 : ∀ q, bk s' q → h.length ≤ q := fun q hq => (k4 q hq).elim (fr q) (fun e => Nat.le_trans kp.len e)
    have k2' : Ows h' 5 1 s' (dgs n).length (by8 (dgs n)) := by rw [← e1]; simpa [by8] using k2
    have hL : (dgs n).length ≤ 19 := by rw [← e1]; simp; omega
    obtain ⟨b, c, all, rfl, ob, hall, hc, htk⟩ := ows_open k2' (by rw [dgs]; split <;> simp)
    have hbl : h.length ≤ b := fr2 b rfl
    simp only [mach, ↓reduceIte, Nat.reduceEqDiff, Nat.reduceAdd, Nat.reduceMul, Nat.add_zero, Nat.zero_add, decide_true, decide_false, Bool.not_true, Bool.not_false, Bool.false_eq_true, List.nil_append, List.append_nil, List.contains_nil, hw, hw8, vc_int, vc_bool, vc_str, vc_ptr, vc_sl, vc_map, vc_if, vc_ni, vc_nf, vc_fn, vc_agg, vs1, vl1, vsl, vll, bldv_nil, bldv_cons, lt0, lts, ld0, lds, ldn, lac, lln, llc, lg0, lgs, Nat.reduceLeDiff, true_and, and_true, and_self, Nat.reduceLT, Int.reduceEq, k1]
    refine XLo_rule (α := Nat) (fun i => [(3, .slice (some ⟨b, 0, none⟩) (dgs n).length c), (4, iv i)])
      (fun i h' => i ≤ (dgs n).length / 2 ∧ Keep (fun _ => False) h h' ∧ ∃ all, Own h' b 5 all ∧ all.length = c ∧ all.take (dgs n).length = by8 (rvk (dgs n) i)) (fun i => (dgs n).length - i) 0
      ⟨by omega, kp2, all, ob, hall, htk⟩ ⟨rfl, rfl, trivial⟩ ?_
    rintro i h2 Ψ3 ⟨i1, kp3, al, o2, l2, t2⟩ next2 out2
    have hdv : Int.tdiv ((dgs n).length : Int) 2 = (((dgs n).length / 2 : Nat) : Int) := by rw [Int.tdiv_eq_ediv_of_nonneg (by omega)]; omega
    have hwd : IntKind.i64.wrap (((dgs n).length / 2 : Nat) : Int) = (((dgs n).length / 2 : Nat) : Int) := i64w (by omega) (by omega)
    by_cases hi : (i : Int) < (((dgs n).length / 2 : Nat) : Int)
    · have hil : i < (dgs n).length := by omega
      have hj : (dgs n).length - 1 - i < (dgs n).length := by omega
      have hgi : al[i]? = some (.int .u8 ((rvk (dgs n) i).getD i 0)) := by
        have := congrArg (fun l => l[i]?) t2
        simp only [List.getElem?_take, hil, if_true, by8_get] at this
        rw [this, List.getD_eq_getElem?_getD, List.getElem?_eq_getElem (by rw [rvk_len]; omega)]; rfl
      have hgj : al[(dgs n).length - 1 - i]? = some (.int .u8 ((rvk (dgs n) i).getD ((dgs n).length - 1 - i) 0)) := by
        have := congrArg (fun l => l[(dgs n).length - 1 - i]?) t2
        simp only [List.getElem?_take, hj, if_true, by8_get] at this
        rw [this, List.getD_eq_getElem?_getD, List.getElem?_eq_getElem (by rw [rvk_len]; omega)]; rfl
      have hw1 : IntKind.i64.wrap (((dgs n).length : Int) - 1) = (((dgs n).length - 1 : Nat) : Int) := by rw [i64w (by omega) (by omega)]; omega
      have hw2 : IntKind.i64.wrap ((((dgs n).length - 1 : Nat) : Int) - (i : Int)) = (((dgs n).length - 1 - i : Nat) : Int) := by rw [i64w (by omega) (by omega)]; omega
      have hw3 : IntKind.i64.wrap ((i : Int) + 1) = i + 1 := i64w (by omega) (by omega)
      have c1 : (0 ≤ (i : Int) ∧ (i : Int) < ((dgs n).length : Int)) = True := by simp; omega
      have c2 : (0 ≤ (((dgs n).length - 1 - i : Nat) : Int) ∧ (((dgs n).length - 1 - i : Nat) : Int) < ((dgs n).length : Int)) = True := by simp; omega
      simp only [mach, ↓reduceIte, Nat.reduceEqDiff, Nat.reduceAdd, Nat.reduceMul, Nat.add_zero, Nat.zero_add, decide_true, decide_false, Bool.not_true, Bool.not_false, Bool.false_eq_true, List.nil_append, List.append_nil, List.contains_nil, hdv, hwd, hi, c1, c2, hw1, hw2, Int.toNat_natCast, Nat.mul_one, o2.cells.ld, hgi, hgj, show ((2 : Int) = 0) = False by simp]
      refine XH_own o2 rfl (by simp [Value.cells]; omega) rfl (fun h3 q1 q2 q3 => ?_)
      obtain ⟨o3, l3, t3⟩ := by_set q1 l2 hc t2 hil
      simp only [mach, ↓reduceIte, Nat.reduceEqDiff, Nat.reduceAdd, Nat.reduceMul, Nat.add_zero, Nat.zero_add, decide_true, decide_false, Bool.not_true, Bool.not_false, Bool.false_eq_true, List.nil_append, List.append_nil, List.contains_nil, hdv, hwd, hi, c1, c2, hw1, hw2, Int.toNat_natCast, Nat.mul_one]
      refine XH_own o3 rfl (by simp [Value.cells]; omega) rfl (fun h4 p1 p2 p3 => ?_)
      obtain ⟨o4, l4, t4⟩ := by_set p1 l3 hc t3 hj
      simp only [mach, ↓reduceIte, Nat.reduceEqDiff, Nat.reduceAdd, Nat.reduceMul, Nat.add_zero, Nat.zero_add, decide_true, decide_false, Bool.not_true, Bool.not_false, Bool.false_eq_true, List.nil_append, List.append_nil, List.contains_nil, hw3]
      refine next2 (i + 1) _ _ _ ⟨by omega, (kp3.trans' q2 (fun c hc e => by omega)).trans' p2 (fun c hc e => by omega), _, o4, l4, ?_⟩ ⟨rfl, ?_, trivial⟩ (by omega)
      · rw [t4, rvk, sw, rvk_len]
      · simp only [Int.natCast_add, Int.cast_ofNat_Int]; rfl
    · have hie : i = (dgs n).length / 2 := by omega
      simp only [mach, ↓reduceIte, Nat.reduceEqDiff, Nat.reduceAdd, Nat.reduceMul, Nat.add_zero, Nat.zero_add, decide_true, decide_false, Bool.not_true, Bool.not_false, Bool.false_eq_true, List.nil_append, List.append_nil, List.contains_nil, hdv, hwd, hi, show ((2 : Int) = 0) = False by simp]
      refine out2 (.exit 2) _ _ _ _ (by intro e; cases e) ?_
      have hr : Rds h2 1 (.slice (some ⟨b, 0, none⟩) (dgs n).length c) (dgs n).length (by8 (rvk (dgs n) i)) := .mk o2.cells (by omega) (by simpa using t2)
      simp only [mach, ↓reduceIte, Nat.reduceEqDiff, Nat.reduceAdd, Nat.reduceMul, Nat.add_zero, Nat.zero_add, decide_true, decide_false, Bool.not_true, Bool.not_false, Bool.false_eq_true, List.nil_append, List.append_nil, List.contains_nil, b2s_rds hr]
      exact hΨ _ _ (fin_ret (rv1 rfl ⟨by rw [hie]; rfl, kp3⟩))

theorem dgs_len : ∀ (k n : Nat), 1 ≤ k → n < 10 ^ k → (dgs n).length ≤ k := by
  intro k
  induction k with
  | zero => intro n h; omega
  | succ k ih =>
    intro n _ hn
    by_cases h9 : 9 < n
    · rw [dgs_step h9, List.length_cons]
      have hk : 1 ≤ k := by
        rcases Nat.eq_zero_or_pos k with e | e
        · subst e; simp at hn; omega
        · exact e
      have := ih (n / 10) hk (by rw [Nat.pow_succ] at hn; omega)
      omega
    · rw [dgs_last h9]; simp

/-- Numbers of the machine. -/
def rg (n : Int) : Prop := -9223372036854775808 ≤ n ∧ n ≤ 9223372036854775807

theorem dtx_size {n : Nat} (hn : n ≤ 9223372036854775807) : (dtx n).size ≤ 19 := by
  rw [dtx, pushAll_size, rvk_len]
  exact dgs_len 19 n (by omega) (by have : (10 : Nat) ^ 19 = 10000000000000000000 := by decide
                                    omega)

/-- A number's text. -/
def T (n : Int) : ByteArray := if n < 0 then (⟨#[45]⟩ ++ dtx (-(n + 1)).toNat) ++ ⟨#[39]⟩ else dtx n.toNat
abbrev sv (n : Int) : Value := .string (T n)

theorem s_add {x y : ByteArray} (h : x.size + y.size ≤ 9223372036854775807) : sbin .add x y = some (.string (x ++ y)) := by
  simp only [sbin]
  rw [if_neg]
  show ¬ ((x.size + y.size : Nat) : Int) > (9223372036854775807 : Int)
  omega

theorem Text_ok (h : AH) (n : Int) (hn : rg n) : Gets Try.prog 37 [iv n] h (fun res h' => res = .ret (sv n) ∧ Keep (fun _ => False) h h') := by
  refine Gets.of (keep := false) hP (draw_ok hM) k37 (by rfl) (fun Ψ hΨ => ?_)
  obtain ⟨hn1, hn2⟩ := hn
  by_cases h0 : n < 0
  · have hw1 : IntKind.i64.wrap (n + 1) = n + 1 := i64w (by omega) (by omega)
    have hw2 : IntKind.i64.wrap (0 - (n + 1)) = (((-(n + 1)).toNat : Nat) : Int) := by rw [i64w (by omega) (by omega)]; omega
    simp only [mach, ↓reduceIte, Nat.reduceEqDiff, Nat.reduceAdd, Nat.reduceMul, Nat.add_zero, Nat.zero_add, decide_true, decide_false, Bool.not_true, Bool.not_false, Bool.false_eq_true, List.nil_append, List.append_nil, List.contains_nil, r37, h0, hw1, hw2]
    refine XX_of (digits_ok h _ (by omega)) (fun res h' hle hn => ?_)
    obtain ⟨rfl, kp⟩ := hn
    refine .ret ?_
    have hs := dtx_size (n := (-(n + 1)).toNat) (by omega)
    have e1 : (ByteArray.mk #[45]).size = 1 := rfl
    have e2 : (ByteArray.mk #[39]).size = 1 := rfl
    simp only [mach, ↓reduceIte, Nat.reduceEqDiff, Nat.reduceAdd, Nat.reduceMul, Nat.add_zero, Nat.zero_add, decide_true, decide_false, Bool.not_true, Bool.not_false, Bool.false_eq_true, List.nil_append, List.append_nil, List.contains_nil, s_add (x := ⟨#[45]⟩) (y := dtx (-(n + 1)).toNat) (by omega), s_add (x := ⟨#[45]⟩ ++ dtx (-(n + 1)).toNat) (y := ⟨#[39]⟩) (by rw [ByteArray.size_append]; omega)]
    exact hΨ _ _ (fin_ret (rv1 rfl ⟨by unfold sv T; rw [if_pos h0]; rfl, kp⟩))
  · have e : n = ((n.toNat : Nat) : Int) := by omega
    have hd := digits_ok h n.toNat (by omega)
    rw [← e] at hd
    simp only [mach, ↓reduceIte, Nat.reduceEqDiff, Nat.reduceAdd, Nat.reduceMul, Nat.add_zero, Nat.zero_add, decide_true, decide_false, Bool.not_true, Bool.not_false, Bool.false_eq_true, List.nil_append, List.append_nil, List.contains_nil, r37, h0]
    refine XX_of hd (fun res h' hle hn => ?_)
    obtain ⟨rfl, kp⟩ := hn
    refine .ret ?_
    simp only [mach, ↓reduceIte, Nat.reduceEqDiff, Nat.reduceAdd, Nat.reduceMul, Nat.add_zero, Nat.zero_add, decide_true, decide_false, Bool.not_true, Bool.not_false, Bool.false_eq_true, List.nil_append, List.append_nil, List.contains_nil]
    exact hΨ _ _ (fin_ret (rv1 rfl ⟨by unfold sv T; rw [if_neg h0]; rfl, kp⟩))

/-- Texts as cells. -/
def ss (xs : List Int) : List Value := xs.map sv
theorem ss_len (xs : List Int) : (ss xs).length = xs.length := by simp [ss]
theorem ss_get (xs : List Int) (i : Nat) : (ss xs)[i]? = (xs[i]?).map sv := by simp [ss]
theorem ss_one (xs : List Int) : (ss xs).all Value.oneCell' = true := by simp [ss, Value.oneCell']

theorem back_ok (h : AH) {t : ByteArray} {n e : Int} (hh : if e = 0 then t = T n ∧ rg n else t = ⟨#[]⟩) : Gets Try.prog 35 [.string t, iv n, iv e] h (fun res h' => res = .ret (.bool true) ∧ Keep (fun _ => False) h h') := by
  refine Gets.of (keep := false) hP (draw_ok hM) k35 (by rfl) (fun Ψ hΨ => ?_)
  by_cases h0 : e = 0
  · rw [if_pos h0] at hh
    obtain ⟨rfl, hn⟩ := hh
    subst h0
    simp only [mach, ↓reduceIte, Nat.reduceEqDiff, Nat.reduceAdd, Nat.reduceMul, Nat.add_zero, Nat.zero_add, decide_true, decide_false, Bool.not_true, Bool.not_false, Bool.false_eq_true, List.nil_append, List.append_nil, List.contains_nil, r35]
    refine XX_of (Text_ok h n hn) (fun res h' hle hn => ?_)
    obtain ⟨rfl, kp⟩ := hn
    refine .ret ?_
    simp only [mach, ↓reduceIte, Nat.reduceEqDiff, Nat.reduceAdd, Nat.reduceMul, Nat.add_zero, Nat.zero_add, decide_true, decide_false, Bool.not_true, Bool.not_false, Bool.false_eq_true, List.nil_append, List.append_nil, List.contains_nil]
    exact hΨ _ _ (fin_ret (rv1 rfl ⟨by simp [tup], kp⟩))
  · rw [if_neg h0] at hh
    subst hh
    have hne : (e != 0) = true := by simp [h0]
    simp only [mach, ↓reduceIte, Nat.reduceEqDiff, Nat.reduceAdd, Nat.reduceMul, Nat.add_zero, Nat.zero_add, decide_true, decide_false, Bool.not_true, Bool.not_false, Bool.false_eq_true, List.nil_append, List.append_nil, List.contains_nil, r35, h0]
    exact hΨ _ _ (fin_ret (rv1 rfl ⟨by simp [tup], .refl _ _⟩))

theorem Texts_ok {h : AH} {u : Value} {xs : List Int} {m : Nat} (hu : Rds h 1 u m (ns xs)) (hr : ∀ x ∈ xs, rg x) (hm : m ≤ 1048576) :
    Gets Try.prog 33 [u] h (fun res h' => ∃ v, res = .ret v ∧ Rds h' 1 v m (ss xs) ∧ Keep (fun _ => False) h h' ∧ ∀ q, rb v q → h.length ≤ q) := by
  refine Gets.of (keep := false) hP (draw_ok hM) k33 (by rfl) (fun Ψ hΨ => ?_)
  have hlen : xs.length = m := by have := hu.len; rw [ns_len, Nat.mul_one] at this; exact this
  obtain ⟨ua, uc, rfl⟩ := shape hu
  simp only [mach, ↓reduceIte, Nat.reduceEqDiff, Nat.reduceAdd, Nat.reduceMul, Nat.add_zero, Nat.zero_add, decide_true, decide_false, Bool.not_true, Bool.not_false, Bool.false_eq_true, List.nil_append, List.append_nil, List.contains_nil, r33]
  refine XLo_rule (α := Nat × Value) (fun a => [(0, .slice ua m uc), (3, a.2), (4, iv a.1)])
    (fun a h' => a.1 ≤ m ∧ Keep (fun _ => False) h h' ∧ Ows h' 9 1 a.2 a.1 (ss (xs.take a.1)) ∧ ∀ q, bk a.2 q → h.length ≤ q) (fun a => m - a.1) (0, .slice none 0 0)
    ⟨by omega, .refl _ _, .nil, fun q e => e.elim⟩ ⟨rfl, rfl, rfl, trivial⟩ ?_
  rintro ⟨i, v⟩ h1 Ψ2 ⟨i1, kp, o1, fr⟩ next out
  simp only at i1 o1 fr
  by_cases hi : (i : Int) < m
  · have hil : i < xs.length := by omega
    have h0i : 0 ≤ (i : Int) := by omega
    have hw : IntKind.i64.wrap ((i : Int) + 1) = i + 1 := i64w (by omega) (by omega)
    have hx : xs[(i : Int).toNat]? = some xs[i] := by rw [Int.toNat_natCast]; exact List.getElem?_eq_getElem hil
    have hu1 := hu.keep kp (fun _ _ e => e)
    obtain ⟨b1, o1', c1, e1, _, hld⟩ := rds_ix hu1 h0i hx
    cases e1
    rw [Int.toNat_natCast] at hld
    simp only [mach, ↓reduceIte, Nat.reduceEqDiff, Nat.reduceAdd, Nat.reduceMul, Nat.add_zero, Nat.zero_add, decide_true, decide_false, Bool.not_true, Bool.not_false, Bool.false_eq_true, List.nil_append, List.append_nil, List.contains_nil, hi, h0i, and_self, Int.toNat_natCast, Nat.mul_one, hld]
    refine XX_of (Text_ok h1 xs[i] (hr _ (List.getElem_mem hil))) (fun res h2 hle hn => ?_)
    obtain ⟨rfl, kp2⟩ := hn
    refine .ret ?_
    have o2 := o1.keep kp2 (fun _ _ e => e)
    obtain ⟨s', h', k1, k2, k3, k4⟩ := app1 (bytes := 16) o2 (x := sv xs[i]) rfl (by omega) (by omega)
    simp only [mach, ↓reduceIte, Nat.reduceEqDiff, Nat.reduceAdd, Nat.reduceMul, Nat.add_zero, Nat.zero_add, decide_true, decide_false, Bool.not_true, Bool.not_false, Bool.false_eq_true, List.nil_append, List.append_nil, List.contains_nil, vc_int, vc_bool, vc_str, vc_ptr, vc_sl, vc_map, vc_if, vc_ni, vc_nf, vc_fn, vc_agg, vs1, vl1, vsl, vll, bldv_nil, bldv_cons, lt0, lts, ld0, lds, ldn, lac, lln, llc, lg0, lgs, Nat.reduceLeDiff, true_and, and_true, and_self, Nat.reduceLT, Int.reduceEq, k1, hw]
    refine next (i + 1, s') _ _ _ ⟨by omega, (kp.trans kp2).trans' k3 (fun c hc e => by have := fr c e; omega), ?_, ?_⟩ ⟨rfl, rfl, ?_, trivial⟩ (by simp only; omega)
    · have e2 : xs.take (i + 1) = xs.take i ++ [xs[i]] := by rw [List.take_succ_eq_append_getElem hil]
      simp only
      rw [e2, show ss (xs.take i ++ [xs[i]]) = ss (xs.take i) ++ [sv xs[i]] by simp only [ss, List.map_append, List.map_cons, List.map_nil]]
      exact k2
    · intro q hq
      rcases k4 q hq with e | e
      · exact fr q e
      · exact Nat.le_trans kp.len (Nat.le_trans kp2.len e)
    · simp only [Int.natCast_add, Int.cast_ofNat_Int]; rfl
  · have hie : i = m := by omega
    subst hie
    simp only [mach, ↓reduceIte, Nat.reduceEqDiff, Nat.reduceAdd, Nat.reduceMul, Nat.add_zero, Nat.zero_add, decide_true, decide_false, Bool.not_true, Bool.not_false, Bool.false_eq_true, List.nil_append, List.append_nil, List.contains_nil, hi]
    refine out (.exit 0) _ _ _ _ (by intro e; cases e) ?_
    simp only [mach, ↓reduceIte, Nat.reduceEqDiff, Nat.reduceAdd, Nat.reduceMul, Nat.add_zero, Nat.zero_add, decide_true, decide_false, Bool.not_true, Bool.not_false, Bool.false_eq_true, List.nil_append, List.append_nil, List.contains_nil]
    refine hΨ _ _ (fin_ret (rv1 rfl ⟨v, rfl, ?_, kp, fun q e => fr q e.bk⟩))
    have := o1.rds
    rwa [List.take_of_length_le (by omega)] at this

end Go.S02
