import Derived.Test.YtobbonpebopafaaDoorPk17
/- Tokens: errors of numbers; bytes as they are written. -/
set_option linter.unusedVariables false
set_option linter.unusedSimpArgs false
namespace Go.S07
open Go Go.Eng Go.Proofs Go.Scn

/-! ### Copies of texts -/

theorem m_msl {m n : Nat} {e : TypeId} {z : Value} (hn : n ≤ 140737488355328) : mslv m e [z] 1 (iv n) (iv n) = some (.slice (some ⟨m, 0, none⟩) n n, some (row e m (List.replicate n z))) := by
  have : (0 : Int) ≤ (n : Int) ∧ (n : Int) ≤ (n : Int) ∧ (n : Int) < 9223372036854775808 ∧ 1 * (n : Int) ≤ 140737488355328 := by omega
  simp only [mslv]
  rw [if_pos (by simpa using this)]
  simp only [Int.toNat_natCast]
  rw [show (List.replicate n [z]).flatten = List.replicate n z by
    induction n with
    | zero => rfl
    | succ n ih => simp [List.replicate_succ]]
theorem cells_tx (l : Bs) : byteCells (tx l) = l.map bv := rfl
theorem cp_tx {h : AH} {b : Nat} {all : List Value} {l : Bs} (ho : Own h b 5 all) (hl : all.length = l.length) (h0 : l ≠ []) :
    ∃ h', cpyv h 1 true (.slice (some ⟨b, 0, none⟩) l.length l.length) (.string (tx l)) = some (iv l.length, h') ∧ Own h' b 5 (l.map bv) ∧ Keep (· = b) h h' := by
  obtain ⟨h', k1, k2, k3, k4⟩ := ho.store (i := 0) (vs := l.map bv) (by simp [hl]) (by simp [Value.oneCell'])
  have hne : ¬ l.length = 0 := by simpa using h0
  refine ⟨h', ?_, ?_, k3⟩
  · simp only [cpyv, srcv, tx_size, cells_tx, beq_self_eq_true, Bool.and_self, if_true, Option.bind_some, Nat.le_refl, hne, if_false, k1, Option.map_some]
  · have e : all.take 0 ++ l.map bv ++ all.drop (0 + (l.map bv).length) = l.map bv := by simp [hl]
    rw [e] at k2; exact k2
theorem asBytes_tx : ∀ (l : Bs), asBytes (l.map bv) = some (l.map fun c => (c.toNat : Int)) := by
  intro l
  induction l with
  | nil => rfl
  | cons c l ih => show (asBytes (l.map bv)).map ((c.toNat : Int) :: ·) = _; rw [ih]; rfl
theorem pushAll_tx (l : Bs) : pushAll (l.map fun c => (c.toNat : Int)) = tx l := by
  have : ∀ (l : Bs) (b : ByteArray), (l.map fun c => (c.toNat : Int)).foldl (fun r n => r.push (UInt8.ofNat n.toNat)) b = ⟨b.data ++ l.toArray⟩ := by
    intro l
    induction l with
    | nil => intro b; simp
    | cons c l ih =>
      intro b
      rw [List.map_cons, List.foldl_cons, ih]
      apply ByteArray.ext
      simp [ByteArray.push]
  rw [pushAll, this]
  apply ByteArray.ext; simp [tx]
theorem us_tx {h : AH} {b : Nat} {l : Bs} (ho : Own h b 5 (l.map bv)) (h0 : l ≠ []) (hl : l.length ≤ 9223372036854775807) :
    ∃ h', ustv h 5 (.pointer (some ⟨b, 0, none⟩)) (iv l.length) = some (.string (tx l), h') ∧ Keep (· = b) h h' := by
  obtain ⟨g, ho⟩ := ho
  have hne : ¬ (l.length : Int) = 0 := by have : ¬ l.length = 0 := by simpa using h0
                                          omega
  refine ⟨h.set b (.cells false true g 0 5 (l.map bv)), ?_, Keep.set h b _⟩
  simp only [ustv, hne, if_false, ho]
  rw [if_pos (by simp; omega)]
  have e : List.take (l.length : Int).toNat (List.drop 0 (l.map bv)) = l.map bv := by rw [List.drop_zero, Int.toNat_natCast, List.take_of_length_le (by simp)]
  rw [e, asBytes_tx, Option.map_some, pushAll_tx]

theorem clone_ok (l : Bs) (hl : l.length ≤ 140737488355328) (h : AH) : Gets Tryd.prog 84 [tv l] h (fun res h' => Keep (fun _ => False) h h' ∧ res = .ret (tv l)) := by
  refine Gets.of (keep := false) hP (draw_ok hM) k84 (by rfl) (fun Ψ hΨ => ?_)
  by_cases h0 : l = []
  · subst h0
    simp only [mach, mach2, mstd, ↓reduceIte, Nat.reduceEqDiff, Nat.reduceAdd, Nat.reduceMul, r84, tx_size, show (([] : Bs).length : Int) = 0 from rfl]
    exact hΨ _ _ (fin_ret (rv1 rfl ⟨.refl _ _, rfl⟩))
  have hne : ¬ (l.length : Int) = 0 := by have : ¬ l.length = 0 := by simpa using h0
                                          omega
  have hpos : (0:Int) < (l.length : Int) := by omega
  have o1 := Own.new h 5 h.length (List.replicate l.length (Value.int .u8 0))
  have k1 : Keep (fun _ => False) h (h ++ [row 5 h.length (List.replicate l.length (Value.int .u8 0))]) := Keep.push _ _ _
  obtain ⟨h2, e2, o2, k2⟩ := cp_tx (l := l) o1 (by simp) h0
  obtain ⟨h3, e3, k3⟩ := us_tx o2 h0 (by omega)
  simp only [mach, mach2, mstd, ↓reduceIte, Nat.reduceEqDiff, Nat.reduceAdd, Nat.reduceMul, r84, tx_size, hne, m_msl hl, e2, hpos, Int.le_refl, and_self, Int.toNat_zero, Nat.zero_mul, e3]
  exact hΨ _ _ (fin_ret (rv1 rfl ⟨(k1.trans' k2 (fun c hc e => by omega)).trans' k3 (fun c hc e => by omega), rfl⟩))

/-! ### Errors -/

theorem vc_cx {k : FloatKind} {a b : Nat} : Value.cells (.complex k a b) = #[.complex k a b] := rr rfl
abbrev nT : TypeId := 83
/-- An error that nobody looks into. -/
def ErrO (h : AH) (res : Res) (h' : AH) : Prop := Keep (fun _ => False) h h' ∧ ∃ b, res = .ret (.pointer (some ⟨b, 0, none⟩))

theorem syntaxError_ok (f l : Bs) (hl : l.length ≤ 140737488355328) (h : AH) : Gets Tryd.prog 74 [tv f, tv l] h (ErrO h) := by
  refine Gets.of (keep := false) hP (draw_ok hM) k74 (by rfl) (fun Ψ hΨ => ?_)
  have hT : Tab Tryd.prog 0 = some [.complex .f64 0 0] := by kernel_rfl
  simp only [mach, mach2, mstd, ↓reduceIte, Nat.reduceEqDiff, Nat.reduceAdd, Nat.reduceMul, r74, hT, op_bind_some, mbl, Nat.reduceLeDiff, Nat.reduceLT, Int.reduceEq]
  refine XX_of (clone_ok l hl h) (fun res h' hle hr => ?_)
  obtain ⟨kp, rfl⟩ := hr
  refine .ret ?_
  simp only [mach, mach2, mstd, ↓reduceIte, Nat.reduceEqDiff, Nat.reduceAdd, Nat.reduceMul, hT, op_bind_some, mbl, Nat.reduceLeDiff, Nat.reduceLT, Int.reduceEq, ct1, vc_cx]
  exact hΨ _ _ (fin_ret (rv1 rfl ⟨kp.trans' (Keep.push _ _ _) (fun c hc e => e), h'.length, rfl⟩))
theorem rangeError_ok (f l : Bs) (hl : l.length ≤ 140737488355328) (h : AH) : Gets Tryd.prog 75 [tv f, tv l] h (ErrO h) := by
  refine Gets.of (keep := false) hP (draw_ok hM) k75 (by rfl) (fun Ψ hΨ => ?_)
  have hT : Tab Tryd.prog 1 = some [.complex .f64 0 0] := by kernel_rfl
  simp only [mach, mach2, mstd, ↓reduceIte, Nat.reduceEqDiff, Nat.reduceAdd, Nat.reduceMul, r75, hT, op_bind_some, mbl, Nat.reduceLeDiff, Nat.reduceLT, Int.reduceEq]
  refine XX_of (clone_ok l hl h) (fun res h' hle hr => ?_)
  obtain ⟨kp, rfl⟩ := hr
  refine .ret ?_
  simp only [mach, mach2, mstd, ↓reduceIte, Nat.reduceEqDiff, Nat.reduceAdd, Nat.reduceMul, hT, op_bind_some, mbl, Nat.reduceLeDiff, Nat.reduceLT, Int.reduceEq, ct1, vc_cx]
  exact hΨ _ _ (fin_ret (rv1 rfl ⟨kp.trans' (Keep.push _ _ _) (fun c hc e => e), h'.length, rfl⟩))

theorem toError_ok (f l : Bs) (hl : l.length ≤ 140737488355328) (x y n : Int) (hn : n = 1 ∨ n = 2) (h : AH) : Gets Tryd.prog 65 [tv f, tv l, iv x, iv y, .iface eT (iv n)] h
    (fun res h' => Keep (fun _ => False) h h' ∧ ∃ b, res = .ret (.iface nT (.pointer (some ⟨b, 0, none⟩)))) := by
  have hi : intOk Tryd.prog eT = true := by kernel_rfl
  rcases hn with rfl | rfl
  · refine Gets.of (keep := false) hP (draw_ok hM) k65 (by rfl) (fun Ψ hΨ => ?_)
    simp only [mach, mach2, mstd, ↓reduceIte, Nat.reduceEqDiff, Nat.reduceAdd, Nat.reduceMul, r65, iiV_eq hi, Int.reduceEq]
    refine XX_of (rangeError_ok f l hl h) (fun res h' hle hr => ?_)
    obtain ⟨kp, b, rfl⟩ := hr
    refine .ret ?_
    simp only [mach, mach2, mstd, ↓reduceIte, Nat.reduceEqDiff, Nat.reduceAdd, Nat.reduceMul]
    exact hΨ _ _ (fin_ret (rv1 rfl ⟨kp, b, rfl⟩))
  · refine Gets.of (keep := false) hP (draw_ok hM) k65 (by rfl) (fun Ψ hΨ => ?_)
    simp only [mach, mach2, mstd, ↓reduceIte, Nat.reduceEqDiff, Nat.reduceAdd, Nat.reduceMul, r65, iiV_eq hi, Int.reduceEq]
    refine XX_of (syntaxError_ok f l hl h) (fun res h' hle hr => ?_)
    obtain ⟨kp, b, rfl⟩ := hr
    refine .ret ?_
    simp only [mach, mach2, mstd, ↓reduceIte, Nat.reduceEqDiff, Nat.reduceAdd, Nat.reduceMul]
    exact hΨ _ _ (fin_ret (rv1 rfl ⟨kp, b, rfl⟩))

/-- strconv.ParseUint of two bytes to base 16. -/
theorem parseUint_ok (l : Bs) (h0 : l ≠ []) (hl : l.length ≤ 140737488355328) (h : AH) : Gets Tryd.prog 78 [tv l, iv 16, iv 8] h
    (fun res h' => Keep (fun _ => False) h h' ∧ match puS 16 255 0 l with
      | .ok n => res = .ret (.tuple #[.int .u64 n, .nilIface])
      | _ => ∃ n b, res = .ret (.tuple #[n, .iface nT (.pointer (some ⟨b, 0, none⟩))])) := by
  refine Gets.of (keep := false) hP (draw_ok hM) k78 (by rfl) (fun Ψ hΨ => ?_)
  simp only [mach, mach2, mstd, ↓reduceIte, Nat.reduceEqDiff, Nat.reduceAdd, Nat.reduceMul, r78]
  refine XX_of (puX_ok l h0 (by omega) h) (fun res h' hle hr => ?_)
  obtain ⟨kp, rfl⟩ := hr
  refine .ret ?_
  cases hp : puS 16 255 0 l with
  | ok n =>
    rw [PuR]
    simp only [mach, mach2, mstd, ↓reduceIte, Nat.reduceEqDiff, Nat.reduceAdd, Nat.reduceMul, mbl, Nat.reduceLeDiff, Nat.reduceLT, Int.reduceEq]
    refine hΨ _ _ (fin_ret (rv2 rfl rfl ⟨kp, ?_⟩))
    rw [hp]; rfl
  | syn =>
    rw [PuR]
    simp only [mach, mach2, mstd, ↓reduceIte, Nat.reduceEqDiff, Nat.reduceAdd, Nat.reduceMul, mbl, Nat.reduceLeDiff, Nat.reduceLT, Int.reduceEq]
    refine XX_of (toError_ok [80, 97, 114, 115, 101, 85, 105, 110, 116] l hl 16 8 2 (.inr rfl) h') (fun res h2 hle hr => ?_)
    obtain ⟨kp2, b, rfl⟩ := hr
    refine .ret ?_
    simp only [mach, mach2, mstd, ↓reduceIte, Nat.reduceEqDiff, Nat.reduceAdd, Nat.reduceMul]
    exact hΨ _ _ (fin_ret (rv2 rfl rfl ⟨kp.trans kp2, by rw [hp]; exact ⟨_, b, rfl⟩⟩))
  | rng =>
    rw [PuR]
    simp only [mach, mach2, mstd, ↓reduceIte, Nat.reduceEqDiff, Nat.reduceAdd, Nat.reduceMul, mbl, Nat.reduceLeDiff, Nat.reduceLT, Int.reduceEq]
    refine XX_of (toError_ok [80, 97, 114, 115, 101, 85, 105, 110, 116] l hl 16 8 1 (.inl rfl) h') (fun res h2 hle hr => ?_)
    obtain ⟨kp2, b, rfl⟩ := hr
    refine .ret ?_
    simp only [mach, mach2, mstd, ↓reduceIte, Nat.reduceEqDiff, Nat.reduceAdd, Nat.reduceMul]
    exact hΨ _ _ (fin_ret (rv2 rfl rfl ⟨kp.trans kp2, by rw [hp]; exact ⟨_, b, rfl⟩⟩))
end Go.S07

/- Tokens: what is written in quotes; the list of tokens. -/
set_option linter.unusedVariables false
set_option linter.unusedSimpArgs false
namespace Go.S07
open Go Go.Eng Go.Proofs Go.Scn

theorem u8nat {n : Nat} (h : n ≤ 255) : (((UInt8.ofNat n).toNat : Nat) : Int) = (n : Int) := by
  show ((n % 256 : Nat) : Int) = (n : Int)
  omega

set_option maxHeartbeats 2000000 in
theorem written_ok (l : Bs) (h0 : l ≠ []) (hl : l.length ≤ 140737488355328) (h : AH) : Gets Tryd.prog 66 [tv l] h (fun res h' => Keep (fun _ => False) h h' ∧ res = .ret (.tuple #[bv (wr l).1, iv (wr l).2])) := by
  refine Gets.of (keep := false) hP (draw_ok hM) k66 (by rfl) (fun Ψ hΨ => ?_)
  cases l with
  | nil => exact absurd rfl h0
  | cons c r =>
  have hc : (c :: r)[0]? = some c := rfl
  have hclt := c.toNat_lt
  by_cases h1 : (c.toNat : Int) < 32
  · simp only [mach, mach2, mstd, ↓reduceIte, Nat.reduceEqDiff, Nat.reduceAdd, Nat.reduceMul, r66, tx_get, hc, Int.toNat_zero, Int.le_refl, h1]
    exact hΨ _ _ (fin_ret (rv2 rfl rfl ⟨.refl _ _, by rw [wr, if_pos (by omega)]; rfl⟩))
  by_cases h2 : (126 : Int) < (c.toNat : Int)
  · simp only [mach, mach2, mstd, ↓reduceIte, Nat.reduceEqDiff, Nat.reduceAdd, Nat.reduceMul, r66, tx_get, hc, Int.toNat_zero, Int.le_refl, h1, h2]
    exact hΨ _ _ (fin_ret (rv2 rfl rfl ⟨.refl _ _, by rw [wr, if_pos (by omega)]; rfl⟩))
  by_cases h3 : (c.toNat : Int) = 92
  case neg =>
    simp only [mach, mach2, mstd, ↓reduceIte, Nat.reduceEqDiff, Nat.reduceAdd, Nat.reduceMul, r66, tx_get, hc, Int.toNat_zero, Int.le_refl, h1, h2, h3]
    exact hΨ _ _ (fin_ret (rv2 rfl rfl ⟨.refl _ _, by rw [wr, if_neg (by omega), if_pos (by omega)]; rfl⟩))
  have w1 : ¬ (c.toNat < 32 ∨ 126 < c.toNat) := by omega
  have w2 : ¬ ¬ c.toNat = 92 := by omega
  cases r with
  | nil =>
    simp only [mach, mach2, mstd, ↓reduceIte, Nat.reduceEqDiff, Nat.reduceAdd, Nat.reduceMul, r66, tx_get, hc, Int.toNat_zero, Int.le_refl, h1, h2, eq_true h3, tx_size, show (([c] : Bs).length : Int) = 1 from rfl, Int.reduceLT]
    exact hΨ _ _ (fin_ret (rv2 rfl rfl ⟨.refl _ _, by rw [wr, if_neg w1, if_neg w2]; rfl⟩))
  | cons d q =>
  have hd : (c :: d :: q)[1]? = some d := rfl
  have hlen : ((c :: d :: q).length : Int) < 2 ↔ False := by simp; omega
  have g1 : (0 : Int) ≤ 1 := by omega
  have t1 : (1 : Int).toNat = 1 := rfl
  by_cases e1 : (d.toNat : Int) = 110
  · simp only [mach, mach2, mstd, ↓reduceIte, Nat.reduceEqDiff, Nat.reduceAdd, Nat.reduceMul, r66, tx_get, hc, hd, Int.toNat_zero, Int.le_refl, h1, h2, eq_true h3, tx_size, hlen, g1, t1, eq_true e1]
    exact hΨ _ _ (fin_ret (rv2 rfl rfl ⟨.refl _ _, by rw [wr, if_neg w1, if_neg w2, wr2]; rw [if_pos (by omega)]; rfl⟩))
  by_cases e2 : (d.toNat : Int) = 116
  · simp only [mach, mach2, mstd, ↓reduceIte, Nat.reduceEqDiff, Nat.reduceAdd, Nat.reduceMul, r66, tx_get, hc, hd, Int.toNat_zero, Int.le_refl, h1, h2, eq_true h3, tx_size, hlen, g1, t1, e1, eq_true e2]
    exact hΨ _ _ (fin_ret (rv2 rfl rfl ⟨.refl _ _, by rw [wr, if_neg w1, if_neg w2, wr2]; rw [if_neg (by omega), if_pos (by omega)]; rfl⟩))
  by_cases e3 : (d.toNat : Int) = 92
  · simp only [mach, mach2, mstd, ↓reduceIte, Nat.reduceEqDiff, Nat.reduceAdd, Nat.reduceMul, r66, tx_get, hc, hd, Int.toNat_zero, Int.le_refl, h1, h2, eq_true h3, tx_size, hlen, g1, t1, e1, e2, eq_true e3]
    exact hΨ _ _ (fin_ret (rv2 rfl rfl ⟨.refl _ _, by rw [wr, if_neg w1, if_neg w2, wr2]; rw [if_neg (by omega), if_neg (by omega), if_pos (by omega)]; rfl⟩))
  by_cases e4 : (d.toNat : Int) = 39
  · simp only [mach, mach2, mstd, ↓reduceIte, Nat.reduceEqDiff, Nat.reduceAdd, Nat.reduceMul, r66, tx_get, hc, hd, Int.toNat_zero, Int.le_refl, h1, h2, eq_true h3, tx_size, hlen, g1, t1, e1, e2, e3, eq_true e4]
    exact hΨ _ _ (fin_ret (rv2 rfl rfl ⟨.refl _ _, by rw [wr, if_neg w1, if_neg w2, wr2]; rw [if_neg (by omega), if_neg (by omega), if_pos (by omega)]; rfl⟩))
  by_cases e5 : (d.toNat : Int) = 34
  · simp only [mach, mach2, mstd, ↓reduceIte, Nat.reduceEqDiff, Nat.reduceAdd, Nat.reduceMul, r66, tx_get, hc, hd, Int.toNat_zero, Int.le_refl, h1, h2, eq_true h3, tx_size, hlen, g1, t1, e1, e2, e3, e4, eq_true e5]
    exact hΨ _ _ (fin_ret (rv2 rfl rfl ⟨.refl _ _, by rw [wr, if_neg w1, if_neg w2, wr2]; rw [if_neg (by omega), if_neg (by omega), if_pos (by omega)]; rfl⟩))
  by_cases e6 : (d.toNat : Int) = 120
  case neg =>
    simp only [mach, mach2, mstd, ↓reduceIte, Nat.reduceEqDiff, Nat.reduceAdd, Nat.reduceMul, r66, tx_get, hc, hd, Int.toNat_zero, Int.le_refl, h1, h2, eq_true h3, tx_size, hlen, g1, t1, e1, e2, e3, e4, e5, e6]
    exact hΨ _ _ (fin_ret (rv2 rfl rfl ⟨.refl _ _, by rw [wr, if_neg w1, if_neg w2, wr2]; rw [if_neg (by omega), if_neg (by omega), if_neg (by omega), if_neg (by omega)]; rfl⟩))
  have hw : wr (c :: d :: q) = wr3 q := by
    rw [wr, if_neg w1, if_neg w2, wr2]; rw [if_neg (by omega), if_neg (by omega), if_neg (by omega), if_pos (by omega)]
  by_cases h4 : (4 : Int) ≤ ((c :: d :: q).length : Int)
  case neg =>
    simp only [mach, mach2, mstd, ↓reduceIte, Nat.reduceEqDiff, Nat.reduceAdd, Nat.reduceMul, r66, tx_get, hc, hd, Int.toNat_zero, Int.le_refl, h1, h2, eq_true h3, tx_size, hlen, g1, t1, e1, e2, e3, e4, e5, eq_true e6, h4]
    refine hΨ _ _ (fin_ret (rv2 rfl rfl ⟨.refl _ _, ?_⟩))
    rw [hw]
    rcases q with _ | ⟨a, _ | ⟨b, q⟩⟩
    · rfl
    · rfl
    · exfalso; simp at h4; omega
  obtain ⟨a, b, q, rfl⟩ : ∃ a b q', q = a :: b :: q' := by
    rcases q with _ | ⟨a, _ | ⟨b, q⟩⟩
    · simp at h4
    · simp at h4
    · exact ⟨_, _, _, rfl⟩
  have hs : slsv (.string (tx (c :: d :: a :: b :: q))) (some (iv 2)) (some (iv 4)) = some (.string (tx [a, b]), none) := sl_ft (l := c :: d :: a :: b :: q) (p := 2) (n := 4) (by omega) (by simp)
  simp only [mach, mach2, mstd, ↓reduceIte, Nat.reduceEqDiff, Nat.reduceAdd, Nat.reduceMul, r66, tx_get, hc, hd, Int.toNat_zero, Int.le_refl, h1, h2, eq_true h3, tx_size, hlen, g1, t1, e1, e2, e3, e4, e5, eq_true e6, h4, hs]
  refine XX_of (parseUint_ok [a, b] (by simp) (by simp) h) (fun res h' hle hr => ?_)
  obtain ⟨kp, hr⟩ := hr
  rw [pu16] at hr
  by_cases hx : dg a < 16 ∧ dg b < 16
  · rw [if_pos hx] at hr
    simp only at hr
    subst hr
    refine .ret ?_
    have hw8 : IntKind.u8.wrap ((16 * dg a + dg b : Nat) : Int) = ((16 * dg a + dg b : Nat) : Int) := u8w (by omega) (by omega)
    simp only [mach, mach2, mstd, ↓reduceIte, Nat.reduceEqDiff, Nat.reduceAdd, Nat.reduceMul, mbl, Nat.reduceLeDiff, Nat.reduceLT, Int.reduceEq, hw8]
    refine hΨ _ _ (fin_ret (rv2 rfl rfl ⟨kp, ?_⟩))
    rw [hw, wr3, if_pos hx]
    simp only [bv]
    rw [u8nat (by omega)]; rfl
  · rw [if_neg hx] at hr
    obtain ⟨n, b2, rfl⟩ := hr
    refine .ret ?_
    simp only [mach, mach2, mstd, ↓reduceIte, Nat.reduceEqDiff, Nat.reduceAdd, Nat.reduceMul, mbl, Nat.reduceLeDiff, Nat.reduceLT, Int.reduceEq]
    refine hΨ _ _ (fin_ret (rv2 rfl rfl ⟨kp, ?_⟩))
    rw [hw, wr3, if_neg hx]; rfl

/-- strconv.ParseInt of digits. -/
theorem parseInt_ok (c : UInt8) (r : Bs) (hc : digit c = true) (hl : (c :: r).length ≤ 140737488355328) (h : AH) : Gets Tryd.prog 46 [tv (c :: r), iv 10, iv 64] h
    (fun res h' => Keep (fun _ => False) h h' ∧ match intV (c :: r) with
      | some n => res = .ret (.tuple #[iv n, .nilIface])
      | none => ∃ n b, res = .ret (.tuple #[n, .iface nT (.pointer (some ⟨b, 0, none⟩))])) := by
  have main : Gets Tryd.prog 64 [tv (c :: r), iv 10, iv 64] h (fun res h' => Keep (fun _ => False) h h' ∧ match intV (c :: r) with
      | some n => res = .ret (.tuple #[iv n, .nilIface])
      | none => ∃ n k, (k = 1 ∨ k = 2) ∧ res = .ret (.tuple #[iv n, .iface eT (iv k)])) := by
    refine Gets.of (keep := false) hP (draw_ok hM) k64 (by rfl) (fun Ψ hΨ => ?_)
    have hne : ((c :: r) == ([] : Bs)) = false := rfl
    have hc0 : (c :: r)[0]? = some c := rfl
    have hi : intOk Tryd.prog eT = true := by kernel_rfl
    have e1 : ibin .shl .u64 1 63 = some (.int .u64 9223372036854775808) := by rfl
    have hd : ¬ (c.toNat : Int) = 43 ∧ ¬ (c.toNat : Int) = 45 := by simp [digit] at hc; omega
    have e2 : IntKind.u64.wrap 63 = 63 := by decide
    have e3 : IntKind.i64.wrap 63 = 63 := by decide
    simp only [mach, mach2, mstd, ↓reduceIte, Nat.reduceEqDiff, Nat.reduceAdd, Nat.reduceMul, r64, tx_toList, mk_toList, hne, tx_get, hc0, Int.toNat_zero, Int.le_refl, hd.1, hd.2]
    refine XX_of (puD_ok (c :: r) (by simp) (by omega) h) (fun res h' hle hr => ?_)
    obtain ⟨kp, rfl⟩ := hr
    refine .ret ?_
    cases hp : puS 10 18446744073709551615 0 (c :: r) with
    | ok n =>
      rw [PuR]
      by_cases hn : (9223372036854775808 : Int) ≤ (n : Int)
      · simp only [mach, mach2, mstd, ↓reduceIte, Nat.reduceEqDiff, Nat.reduceAdd, Nat.reduceMul, mbl, Nat.reduceLeDiff, Nat.reduceLT, Int.reduceEq, Int.reduceEq, Int.reduceSub, e1, e2, e3, hn]
        refine hΨ _ _ (fin_ret (rv2 rfl rfl ⟨kp, ?_⟩))
        have : intV (c :: r) = none := by unfold intV; rw [hp]; simp only; rw [if_neg (by omega)]
        rw [this]
        exact ⟨_, 1, .inl rfl, rfl⟩
      · have hw : IntKind.i64.wrap (n : Int) = (n : Int) := i64w (by omega) (by omega)
        simp only [mach, mach2, mstd, ↓reduceIte, Nat.reduceEqDiff, Nat.reduceAdd, Nat.reduceMul, mbl, Nat.reduceLeDiff, Nat.reduceLT, Int.reduceEq, Int.reduceEq, Int.reduceSub, e1, e2, e3, hn, hw]
        refine hΨ _ _ (fin_ret (rv2 rfl rfl ⟨kp, ?_⟩))
        have : intV (c :: r) = some n := by unfold intV; rw [hp]; simp only; rw [if_pos (by omega)]
        rw [this]; rfl
    | syn =>
      rw [PuR]
      simp only [mach, mach2, mstd, ↓reduceIte, Nat.reduceEqDiff, Nat.reduceAdd, Nat.reduceMul, mbl, Nat.reduceLeDiff, Nat.reduceLT, Int.reduceEq, Int.reduceEq, iiV_eq hi]
      refine hΨ _ _ (fin_ret (rv2 rfl rfl ⟨kp, ?_⟩))
      have : intV (c :: r) = none := by unfold intV; rw [hp]
      rw [this]
      exact ⟨_, 2, .inr rfl, rfl⟩
    | rng =>
      rw [PuR]
      simp only [mach, mach2, mstd, ↓reduceIte, Nat.reduceEqDiff, Nat.reduceAdd, Nat.reduceMul, mbl, Nat.reduceLeDiff, Nat.reduceLT, Int.reduceEq, Int.reduceEq, Int.reduceSub, Int.reduceLE, iiV_eq hi, e1, e2, e3, Int.cast_ofNat_Int]
      refine hΨ _ _ (fin_ret (rv2 rfl rfl ⟨kp, ?_⟩))
      have : intV (c :: r) = none := by unfold intV; rw [hp]
      rw [this]
      exact ⟨_, 1, .inl rfl, rfl⟩
  refine Gets.of (keep := false) hP (draw_ok hM) k46 (by rfl) (fun Ψ hΨ => ?_)
  simp only [mach, mach2, mstd, ↓reduceIte, Nat.reduceEqDiff, Nat.reduceAdd, Nat.reduceMul, r46]
  refine XX_of main (fun res h' hle hr => ?_)
  obtain ⟨kp, hr⟩ := hr
  cases hi : intV (c :: r) with
  | some n =>
    rw [hi] at hr
    simp only at hr
    subst hr
    refine .ret ?_
    simp only [mach, mach2, mstd, ↓reduceIte, Nat.reduceEqDiff, Nat.reduceAdd, Nat.reduceMul, mbl, Nat.reduceLeDiff, Nat.reduceLT, Int.reduceEq]
    refine hΨ _ _ (fin_ret (rv2 rfl rfl ⟨kp, ?_⟩))
    rw [hi]; rfl
  | none =>
    rw [hi] at hr
    obtain ⟨n, k, hk, rfl⟩ := hr
    refine .ret ?_
    simp only [mach, mach2, mstd, ↓reduceIte, Nat.reduceEqDiff, Nat.reduceAdd, Nat.reduceMul, mbl, Nat.reduceLeDiff, Nat.reduceLT, Int.reduceEq]
    refine XX_of (toError_ok [80, 97, 114, 115, 101, 73, 110, 116] (c :: r) hl 10 64 k hk h') (fun res h2 hle hr => ?_)
    obtain ⟨kp2, b, rfl⟩ := hr
    refine .ret ?_
    simp only [mach, mach2, mstd, ↓reduceIte, Nat.reduceEqDiff, Nat.reduceAdd, Nat.reduceMul]
    refine hΨ _ _ (fin_ret (rv2 rfl rfl ⟨kp.trans kp2, ?_⟩))
    rw [hi]; exact ⟨_, b, rfl⟩

/-! ### The list -/

abbrev tkT : TypeId := 30
def tkC (t : Tk) : List Value := [iv t.k, tv t.t, iv t.n, iv t.a]
theorem tkC_len (t : Tk) : (tkC t).length = 4 := rfl
/-- A scanner with its tokens. -/
structure Sc (h : AH) (b : Nat) (s : Bs) (p : Nat) (ts : List Tk) (lv : Value) : Prop where
  sc : Scn h b s p lv
  ow : Ows h tkT 4 lv ts.length (ts.flatMap tkC)
  fr : ∀ q, bk lv q → b < q
  ln : ts.length ≤ p
theorem Sc.keep {S : Nat → Prop} {h h' : AH} {b : Nat} {s : Bs} {p : Nat} {ts : List Tk} {lv : Value} (x : Sc h b s p ts lv) (k : Keep S h h') (hs : ¬ S b) (hs2 : ∀ q, bk lv q → ¬ S q) : Sc h' b s p ts lv :=
  ⟨x.sc.keep k hs, x.ow.keep k hs2, x.fr, x.ln⟩

/-- What a scanner's step comes to: a place and the tokens, or a fault. -/
def ScO (h : AH) (b : Nat) (s : Bs) (x : Except Nat (Nat × List Tk)) (res : Res) (h' : AH) : Prop :=
  Keep (fun c => b ≤ c) h h' ∧ match x with
  | .ok (q, ts) => res = .ret (.tuple #[]) ∧ ∃ lv, Sc h' b s q ts lv
  | .error q => res = .pan (.iface 38 (iv q))

section
variable {h : AH} {b : Nat} {s : Bs} {p : Nat} {ts : List Tk} {lv : Value}

theorem put_ok (x : Sc h b s p ts lv) (k v a : Int) (t : Bs) (n : Nat) (h0 : 0 < n) (hn : p + n ≤ s.length) :
    Gets Tryd.prog 45 [.pointer (some ⟨b, 0, none⟩), .agg #[iv k, tv t, iv v, iv a], iv n] h (ScO h b s (.ok (p + n, ts ++ [⟨k, t, v, p⟩]))) := by
  refine Gets.of (keep := false) hP (draw_ok hM) k45 (by rfl) (fun Ψ hΨ => ?_)
  have hsl := x.sc.sl
  have hb := x.sc.own.lt
  have hlt := x.ow.lt
  have hw : IntKind.i64.wrap ((p : Int) + (n : Int)) = ((p + n : Nat) : Int) := by rw [i64w (by omega) (by omega)]; omega
  have o1 := Own.new h tkT h.length [iv k, tv t, iv v, iv a]
  have k1 : Keep (fun _ => False) h (h ++ [row tkT h.length [iv k, tv t, iv v, iv a]]) := Keep.push _ _ _
  simp only [mach, mach2, mstd, ↓reduceIte, Nat.reduceEqDiff, Nat.reduceAdd, Nat.reduceMul, r45, mbl, Nat.reduceLeDiff, Nat.reduceLT, Int.reduceEq]
  generalize hh1 : h ++ [row tkT h.length [iv k, tv t, iv v, iv a]] = h1 at o1 k1 ⊢
  have hl1 : h1.length = h.length + 1 := by rw [← hh1]; simp
  have x1 := x.keep k1 (fun e => e) (fun _ _ e => e)
  simp only [mach, mach2, mstd, ↓reduceIte, Nat.reduceEqDiff, Nat.reduceAdd, Nat.reduceMul, x1.sc.own.cells.ld, mbl, Nat.reduceLeDiff, Nat.reduceLT, Int.reduceEq]
  refine XH_own o1 rfl (by simp [Value.cells]) rfl (fun h2 q1 q2 q3 => ?_)
  have o2 : Own h2 h.length tkT (tkC ⟨k, t, v, p⟩) := by simpa [Value.cells, tkC] using q1
  have x2 := x1.keep q2 (fun e => by omega) (fun q hq e => by have := hlt q hq; omega)
  have k2 : Keep (fun _ => False) h h2 := k1.trans' q2 (fun c hc e => by omega)
  have hlds := o2.cells.lds 0 4 (by simp [tkC])
  obtain ⟨s', h', a1, a2, a3, a4⟩ := app1 (bytes := 40) x2.ow (xs := tkC ⟨k, t, v, p⟩) rfl rfl (by have := x.ln; omega) (by have := x.ln; omega)
  obtain ⟨sa, sc, rfl⟩ := row_shape a2.rds
  have e4 : List.take 4 (List.drop 0 (tkC ⟨k, t, v, p⟩)) = [iv k, tv t, iv v, iv p] := rfl
  rw [e4] at hlds
  have e5 : tkC ⟨k, t, v, p⟩ = [iv k, tv t, iv v, iv p] := rfl
  rw [e5] at a1
  simp only [mach, mach2, mstd, ↓reduceIte, Nat.reduceEqDiff, Nat.reduceAdd, Nat.reduceMul, x2.sc.own.cells.ld, mbl, Nat.reduceLeDiff, Nat.reduceLT, Int.reduceEq, hlds, ct1, (x2.keep (Keep.push (fun _ => False) _ _) (fun e => e) (fun _ _ e => e)).sc.own.cells.ld, a1]
  have fr' : ∀ q, bk (.slice sa (ts.length + 1) sc) q → b < q := fun q hq => by
    rcases a4 q hq with e | e
    · exact x.fr q e
    · have := k2.len; omega
  have x3 : Own h' b 41 [tv s, iv p, lv] := x2.sc.own.keep a3 (fun e => by have := x.fr b e; omega)
  refine XH_own x3 rfl (by simp [Value.cells]) rfl (fun h4 r1 r2 r3 => ?_)
  have x4 : Own h4 b 41 [tv s, iv p, .slice sa (ts.length + 1) sc] := by simpa [Value.cells] using r1
  simp only [mach, mach2, mstd, ↓reduceIte, Nat.reduceEqDiff, Nat.reduceAdd, Nat.reduceMul, x4.cells.ld, mbl, Nat.reduceLeDiff, Nat.reduceLT, Int.reduceEq, hw]
  refine XH_own x4 rfl (by simp [Value.cells]) rfl (fun h5 u1 u2 u3 => ?_)
  have x5 : Own h5 b 41 [tv s, iv ((p + n : Nat) : Int), .slice sa (ts.length + 1) sc] := by simpa [Value.cells] using u1
  simp only [mach, mach2, mstd, ↓reduceIte, Nat.reduceEqDiff, Nat.reduceAdd, Nat.reduceMul]
  refine hΨ _ _ (fin_norm ⟨?_, rfl, _, ⟨x5, hn, hsl⟩, ?_, fr', ?_⟩)
  · have K1 : Keep (fun c => b ≤ c) h h' := (k2.mono (fun _ e => e.elim)).trans' a3 (fun c hc e => Nat.le_of_lt (x.fr c e))
    exact (K1.trans' r2 (fun c hc e => by omega)).trans' u2 (fun c hc e => by omega)
  · have := (a2.keep r2 (fun q hq e => by have := fr' q hq; omega)).keep u2 (fun q hq e => by have := fr' q hq; omega)
    rw [List.flatMap_append, List.length_append]
    simpa using this
  · have := x.ln
    simp; omega
end
end Go.S07

/- Tokens: what stands in quotes; one token. -/
set_option linter.unusedVariables false
set_option linter.unusedSimpArgs false
namespace Go.S07
open Go Go.Eng Go.Proofs Go.Scn

theorem b2s_tx {h : AH} {m n : Nat} {v : Value} {l : Bs} (hr : Rds h 1 v n (l.map bv)) : uval Tryd.prog h m .b2s v = some (.string (tx l), none) := by
  generalize hc : l.map bv = cs at hr
  cases hr with
  | nil =>
    cases l with
    | nil => rfl
    | cons => simp at hc
  | emp =>
    cases l with
    | nil => rfl
    | cons => simp at hc
  | mk hb hl hx =>
    by_cases h0 : n = 0
    · subst h0
      simp at hx
      subst hx
      cases l with
      | nil => rfl
      | cons => simp at hc
    · unfold Cells at hb
      rw [Nat.mul_one] at hx hl
      simp only [uval, h0, if_false, hb, Option.bind_some, hl, if_true, hx, ← hc, asBytes_tx, Option.map_some, pushAll_tx]
theorem b2s_one {h : AH} {m : Nat} {c : UInt8} : uval Tryd.prog (h ++ [row 5 h.length [bv c]]) m .b2s (.slice (some ⟨h.length, 0, none⟩) 1 1) = some (.string (tx [c]), none) :=
  b2s_tx (l := [c]) (.mk (Own.new h 5 h.length [bv c]).cells (by simp) (by simp))

/-- What quotes come to. -/
def quO (c : UInt8) (s : Bs) (p : Nat) (ts : List Tk) : Except Nat (Nat × List Tk) := match qt c (s.drop (p + 1)) with
  | none => .error p
  | some (bs, n) => if c.toNat = 34 then .ok (p + (n + 2), ts ++ [⟨5, bs, 0, p⟩]) else
    match bs with
    | [x] => .ok (p + (n + 2), ts ++ [⟨4, [], (x.toNat : Int), p⟩])
    | _ => .error p

section
variable {h : AH} {b : Nat} {s : Bs} {p : Nat} {ts : List Tk} {lv : Value}

set_option maxHeartbeats 2000000 in
theorem quoted_ok (x : Sc h b s p ts lv) (c : UInt8) (hps : p < s.length) (hs8 : s.length ≤ 8000) : Gets Tryd.prog 47 [.pointer (some ⟨b, 0, none⟩), bv c] h (ScO h b s (quO c s p ts)) := by
  refine Gets.of (keep := false) hP (draw_ok hM) k47 (by rfl) (fun Ψ hΨ => ?_)
  have hw0 : IntKind.i64.wrap ((p : Int) + 1) = ((p + 1 : Nat) : Int) := by rw [i64w (by omega) (by omega)]; omega
  simp only [mach, mach2, mstd, ↓reduceIte, Nat.reduceEqDiff, Nat.reduceAdd, Nat.reduceMul, r47, x.sc.own.cells.ld, mbl, Nat.reduceLeDiff, Nat.reduceLT, Int.reduceEq, hw0]
  refine XLo_rule (α := Nat × Value × Bs) (fun a => [(0, .pointer (some ⟨b, 0, none⟩)), (1, bv c), (4, a.2.1), (5, iv a.1)])
    (fun a h' => p + 1 ≤ a.1 ∧ a.1 ≤ s.length ∧ Keep (fun _ => False) h h' ∧ Ows h' 5 1 a.2.1 a.2.2.length (a.2.2.map bv) ∧ (∀ q, bk a.2.1 q → h.length ≤ q) ∧ a.2.2.length ≤ a.1 ∧
      qt c (s.drop (p + 1)) = (qt c (s.drop a.1)).map fun y => (a.2.2 ++ y.1, (a.1 - (p + 1)) + y.2)) (fun a => s.length - a.1) (p + 1, .slice none 0 0, [])
    ⟨Nat.le_refl _, by simp only; omega, .refl _ _, .nil, fun q e => e.elim, by simp, by simp⟩ ⟨rfl, rfl, rfl, rfl, trivial⟩ ?_
  rintro ⟨i, vb, acc⟩ h1 Ψ2 ⟨g1, g2, kp, ow, fr, hln, heq⟩ next out
  simp only at g1 g2 ow fr hln heq
  have x1 := x.keep kp (fun e => e) (fun _ _ e => e)
  have hb1 := x1.sc.own.lt
  have hbh := x.sc.own.lt
  obtain ⟨va, vc, rfl⟩ := row_shape ow.rds
  by_cases hi : (i : Int) < (s.length : Int)
  case neg =>
    have hn : quO c s p ts = .error p := by rw [quO, heq, show s.drop i = [] from List.drop_eq_nil_of_le (by omega), qt_nil]; rfl
    simp only [mach, mach2, mstd, ↓reduceIte, Nat.reduceEqDiff, Nat.reduceAdd, Nat.reduceMul, x1.sc.own.cells.ld, mbl, Nat.reduceLeDiff, Nat.reduceLT, Int.reduceEq, tx_size, hi]
    refine out (.exit 0) _ _ _ _ (by intro e; cases e) ?_
    simp only [mach, mach2, mstd, ↓reduceIte, Nat.reduceEqDiff, Nat.reduceAdd, Nat.reduceMul, x1.sc.own.cells.ld, mbl, Nat.reduceLeDiff, Nat.reduceLT, Int.reduceEq]
    exact hΨ _ _ (fin_pan ⟨kp.mono (fun _ e => e.elim), by rw [hn]⟩)
  have hil : i < s.length := by omega
  have g0 : (0 : Int) ≤ (i : Int) := by omega
  have hc : s[i]? = some s[i] := List.getElem?_eq_getElem hil
  have hdr := List.drop_eq_getElem_cons hil
  have hwi : IntKind.i64.wrap ((i : Int) + 1) = ((i + 1 : Nat) : Int) := by rw [i64w (by omega) (by omega)]; omega
  have hwp : IntKind.i64.wrap (((i + 1 : Nat) : Int) - (p : Int)) = ((i + 1 - p : Nat) : Int) := by rw [i64w (by omega) (by omega)]; omega
  by_cases he : (s[i].toNat : Int) = (c.toNat : Int)
  · have hec : s[i] = c := UInt8.toNat_inj.1 (by omega)
    have hq : qt c (s.drop (p + 1)) = some (acc, i - (p + 1)) := by rw [heq, hdr, qt_cons, if_pos hec]; simp
    by_cases h34 : (c.toNat : Int) = 34
    · simp only [mach, mach2, mstd, ↓reduceIte, Nat.reduceEqDiff, Nat.reduceAdd, Nat.reduceMul, x1.sc.own.cells.ld, mbl, Nat.reduceLeDiff, Nat.reduceLT, Int.reduceEq, tx_size, hi, tx_get, hc, g0, Int.toNat_natCast, eq_true he, eq_true h34, b2s_tx ow.rds, hwi, hwp, ct1]
      refine XX_of (put_ok x1 5 0 0 acc (i + 1 - p) (by omega) (by omega)) (fun res h2 hle hr => ?_)
      obtain ⟨k2, rfl, lv2, x2⟩ := hr
      refine .ret ?_
      simp only [mach, mach2, mstd, ↓reduceIte, Nat.reduceEqDiff, Nat.reduceAdd, Nat.reduceMul]
      refine out .ret _ _ _ _ (by intro e; cases e) ?_
      simp only [mach, mach2, mstd, ↓reduceIte, Nat.reduceEqDiff, Nat.reduceAdd, Nat.reduceMul]
      refine hΨ _ _ (fin_ret ⟨(kp.mono (fun _ e => e.elim)).trans k2, ?_⟩)
      rw [quO, hq]
      simp only
      rw [if_pos (by omega), show p + (i - (p + 1) + 2) = p + (i + 1 - p) by omega]
      exact ⟨rfl, lv2, x2⟩
    · by_cases hl1 : (acc.length : Int) = 1
      · obtain ⟨y, rfl⟩ : ∃ y, acc = [y] := List.length_eq_one_iff.1 (by omega)
        obtain ⟨b2, c2, all, e2, ob, hall, hlc, htk⟩ := ows_open ow (by simp)
        cases e2
        have hy : ldc h1 b2 0 = some (bv y) := by
          rw [ob.cells.ld]
          cases all with
          | nil => simp at htk
          | cons a all => simp at htk; rw [htk]; rfl
        have hwy : IntKind.i64.wrap (y.toNat : Int) = (y.toNat : Int) := by have := y.toNat_lt; exact i64w (by omega) (by omega)
        simp only [mach, mach2, mstd, ↓reduceIte, Nat.reduceEqDiff, Nat.reduceAdd, Nat.reduceMul, x1.sc.own.cells.ld, mbl, Nat.reduceLeDiff, Nat.reduceLT, Int.reduceEq, tx_size, hi, tx_get, hc, g0, Int.toNat_natCast, eq_true he, h34, eq_true hl1, Int.le_refl, Int.reduceLT, and_self, show ((0:Int) < (([y] : Bs).length : Int)) = True by simp, Int.toNat_zero, Nat.zero_mul, Nat.zero_add, hy, hwy, hwi, hwp, ct1]
        refine XX_of (put_ok x1 4 (y.toNat : Int) 0 [] (i + 1 - p) (by omega) (by omega)) (fun res h2 hle hr => ?_)
        obtain ⟨k2, rfl, lv2, x2⟩ := hr
        refine .ret ?_
        simp only [mach, mach2, mstd, ↓reduceIte, Nat.reduceEqDiff, Nat.reduceAdd, Nat.reduceMul]
        refine out .ret _ _ _ _ (by intro e; cases e) ?_
        simp only [mach, mach2, mstd, ↓reduceIte, Nat.reduceEqDiff, Nat.reduceAdd, Nat.reduceMul]
        refine hΨ _ _ (fin_ret ⟨(kp.mono (fun _ e => e.elim)).trans k2, ?_⟩)
        rw [quO, hq]
        simp only
        rw [if_neg (by omega), show p + (i - (p + 1) + 2) = p + (i + 1 - p) by omega]
        exact ⟨rfl, lv2, x2⟩
      · simp only [mach, mach2, mstd, ↓reduceIte, Nat.reduceEqDiff, Nat.reduceAdd, Nat.reduceMul, x1.sc.own.cells.ld, mbl, Nat.reduceLeDiff, Nat.reduceLT, Int.reduceEq, tx_size, hi, tx_get, hc, g0, Int.toNat_natCast, eq_true he, h34, hl1]
        refine out (.exit 0) _ _ _ _ (by intro e; cases e) ?_
        simp only [mach, mach2, mstd, ↓reduceIte, Nat.reduceEqDiff, Nat.reduceAdd, Nat.reduceMul, x1.sc.own.cells.ld, mbl, Nat.reduceLeDiff, Nat.reduceLT, Int.reduceEq]
        refine hΨ _ _ (fin_pan ⟨kp.mono (fun _ e => e.elim), ?_⟩)
        have hn : quO c s p ts = .error p := by
          rw [quO, hq]
          simp only
          rw [if_neg (by omega)]
          rcases acc with _ | ⟨y, _ | ⟨z, acc⟩⟩
          · rfl
          · simp at hl1
          · rfl
        rw [hn]
  · have hec : ¬ s[i] = c := fun e => he (by rw [e])
    have hne : s.drop i ≠ [] := by rw [hdr]; exact List.cons_ne_nil _ _
    simp only [mach, mach2, mstd, ↓reduceIte, Nat.reduceEqDiff, Nat.reduceAdd, Nat.reduceMul, x1.sc.own.cells.ld, mbl, Nat.reduceLeDiff, Nat.reduceLT, Int.reduceEq, tx_size, hi, tx_get, hc, g0, Int.toNat_natCast, he, sl_from g2]
    refine XX_of (written_ok (s.drop i) hne (by simp; omega) h1) (fun res h2 hle hr => ?_)
    obtain ⟨k2, rfl⟩ := hr
    refine .ret ?_
    have x2 := x1.keep k2 (fun e => e) (fun _ _ e => e)
    have hwl := wr_le (s.drop i)
    rw [List.length_drop] at hwl
    have hqi : qt c (s.drop i) = if (wr (s.drop i)).2 = 0 then none else (qt c ((s.drop i).drop (wr (s.drop i)).2)).map fun y => ((wr (s.drop i)).1 :: y.1, (wr (s.drop i)).2 + y.2) := by
      conv => lhs; rw [hdr]
      rw [qt_cons, if_neg hec, ← hdr]
    by_cases hn0 : ((wr (s.drop i)).2 : Int) = 0
    · simp only [mach, mach2, mstd, ↓reduceIte, Nat.reduceEqDiff, Nat.reduceAdd, Nat.reduceMul, mbl, Nat.reduceLeDiff, Nat.reduceLT, Int.reduceEq, eq_true hn0]
      refine out (.exit 0) _ _ _ _ (by intro e; cases e) ?_
      simp only [mach, mach2, mstd, ↓reduceIte, Nat.reduceEqDiff, Nat.reduceAdd, Nat.reduceMul, x2.sc.own.cells.ld, mbl, Nat.reduceLeDiff, Nat.reduceLT, Int.reduceEq]
      refine hΨ _ _ (fin_pan ⟨(kp.trans k2).mono (fun _ e => e.elim), ?_⟩)
      have hn : quO c s p ts = .error p := by rw [quO, heq, hqi, if_pos (by omega)]; rfl
      rw [hn]
    · have ow2 := ow.keep k2 (fun _ _ e => e)
      obtain ⟨s', h', a1, a2, a3, a4⟩ := app1 (bytes := 1) ow2 (xs := [bv (wr (s.drop i)).1]) rfl rfl (by omega) (by omega)
      have hwn : IntKind.i64.wrap ((i : Int) + ((wr (s.drop i)).2 : Int)) = ((i + (wr (s.drop i)).2 : Nat) : Int) := by rw [i64w (by omega) (by omega)]; omega
      simp only [mach, mach2, mstd, ↓reduceIte, Nat.reduceEqDiff, Nat.reduceAdd, Nat.reduceMul, mbl, Nat.reduceLeDiff, Nat.reduceLT, Int.reduceEq, hn0, a1, hwn]
      refine next (i + (wr (s.drop i)).2, s', acc ++ [(wr (s.drop i)).1]) _ _ _ ⟨by simp only; omega, by simp only; omega, (kp.trans k2).trans' a3 (fun q hq e => by have := fr q e; omega), ?_, ?_, ?_, ?_⟩ ⟨rfl, rfl, rfl, rfl, trivial⟩ (by simp only; omega)
      · simpa using a2
      · intro q hq
        rcases a4 q hq with e | e
        · exact fr q e
        · have := (kp.trans k2).len; omega
      · simp only [List.length_append, List.length_singleton]; omega
      · rw [heq, hqi, if_neg (by omega), List.drop_drop]
        simp only [Option.map_map]
        congr 1
        funext y
        simp only [Function.comp, List.append_assoc, List.singleton_append, Prod.mk.injEq, true_and]
        omega
end
end Go.S07

/- Tokens: one token. -/
set_option linter.unusedVariables false
set_option linter.unusedSimpArgs false
namespace Go.S07
open Go Go.Eng Go.Proofs Go.Scn

/-- What a token comes to. -/
def toO (s : Bs) (p : Nat) (ts : List Tk) : Except Nat (Nat × List Tk) := match tokS (s.drop p) with
  | none => .error p
  | some (k, t, v, n) => .ok (p + n, ts ++ [⟨k, t, v, p⟩])

section
variable {h : AH} {b : Nat} {s : Bs} {p : Nat} {ts : List Tk} {lv : Value}

theorem ScO.of {x y : Except Nat (Nat × List Tk)} {res : Res} {h1 h2 : AH} (k : Keep (fun _ => False) h h1) (e : y = x) (hr : ScO h1 b s x res h2) : ScO h b s y res h2 := by
  subst e; exact ⟨(k.mono (fun _ e => e.elim)).trans hr.1, hr.2⟩

set_option maxHeartbeats 4000000 in
theorem token_ok (x : Sc h b s p ts lv) (hps : p < s.length) (hs8 : s.length ≤ 8000) : Gets Tryd.prog 22 [.pointer (some ⟨b, 0, none⟩)] h (ScO h b s (toO s p ts)) := by
  refine Gets.of (keep := false) hP (draw_ok hM) k22 (by rfl) (fun Ψ hΨ => ?_)
  have hc : s[p]? = some s[p] := List.getElem?_eq_getElem hps
  have g0 : (0 : Int) ≤ (p : Int) := by omega
  have hdr := List.drop_eq_getElem_cons hps
  have hlen : (s.drop p).length = s.length - p := by simp
  have fault : ∀ {e l : PE}, tokS (s.drop p) = none → Ψ (.pan (.iface 38 (iv p))) ⟨e, l, h, []⟩ := fun e1 =>
    hΨ _ _ (fin_pan ⟨.refl _ _, by rw [toO, e1]⟩)
  generalize hcc : s[p] = c at hc hdr
  have hclt := c.toNat_lt
  simp only [mach, mach2, mstd, ↓reduceIte, Nat.reduceEqDiff, Nat.reduceAdd, Nat.reduceMul, r22, x.sc.own.cells.ld, mbl, Nat.reduceLeDiff, Nat.reduceLT, Int.reduceEq, tx_get, hc, g0, Int.toNat_natCast, ct1]
  refine XX_val (isSmall_ok c h) ?_
  cases h1 : small c with
  | true =>
    simp only [mach, mach2, mstd, ↓reduceIte, Nat.reduceEqDiff, Nat.reduceAdd, Nat.reduceMul]
    refine XX_val (rest_ok x.sc) ?_
    simp only [mach, mach2, mstd, ↓reduceIte, Nat.reduceEqDiff, Nat.reduceAdd, Nat.reduceMul]
    refine XX_val (rest_ok x.sc) ?_
    simp only [mach, mach2, mstd, ↓reduceIte, Nat.reduceEqDiff, Nat.reduceAdd, Nat.reduceMul]
    refine XX_val (span_ok isInner_ok (s.drop p) (by omega) h) ?_
    simp only [mach, mach2, mstd, ↓reduceIte, Nat.reduceEqDiff, Nat.reduceAdd, Nat.reduceMul, sl_to (spn_le inner (s.drop p))]
    refine XX_val (name_ok ((s.drop p).take (spn inner (s.drop p))) (by simp; omega) h) ?_
    by_cases hk : nameK ((s.drop p).take (spn inner (s.drop p))) = 0
    · simp only [mach, mach2, mstd, ↓reduceIte, Nat.reduceEqDiff, Nat.reduceAdd, Nat.reduceMul, eq_true hk, x.sc.own.cells.ld, mbl, Nat.reduceLeDiff, Nat.reduceLT, Int.reduceEq]
      exact fault (by rw [hdr, tokS]; rw [if_pos (by rw [h1]; simp), ← hdr, if_pos hk])
    · have hpos : 0 < spn inner (s.drop p) := by rw [hdr, spn_cons, if_pos (by simp only [inner, h1]; simp)]; omega
      have hll : ((s.drop p).take (spn inner (s.drop p))).length = spn inner (s.drop p) := by have := spn_le inner (s.drop p); simp; omega
      simp only [mach, mach2, mstd, ↓reduceIte, Nat.reduceEqDiff, Nat.reduceAdd, Nat.reduceMul, hk, mbl, Nat.reduceLeDiff, Nat.reduceLT, Int.reduceEq, tx_size, hll]
      refine XX_of (put_ok x (nameK ((s.drop p).take (spn inner (s.drop p)))) 0 0 ((s.drop p).take (spn inner (s.drop p))) (spn inner (s.drop p)) hpos (by have := spn_le inner (s.drop p); omega)) (fun res h2 hle hr => ?_)
      obtain ⟨k2, rfl, hr⟩ := hr
      refine .ret ?_
      simp only [mach, mach2, mstd, ↓reduceIte, Nat.reduceEqDiff, Nat.reduceAdd, Nat.reduceMul]
      refine hΨ _ _ (fin_norm ⟨k2, ?_⟩)
      have ht : tokS (s.drop p) = some (nameK ((s.drop p).take (spn inner (s.drop p))), (s.drop p).take (spn inner (s.drop p)), 0, spn inner (s.drop p)) := by
        conv => lhs; rw [hdr, tokS]
        rw [if_pos (by rw [h1]; simp), ← hdr, if_neg hk]
      rw [toO, ht]
      exact ⟨rfl, hr⟩
  | false =>
  simp only [mach, mach2, mstd, ↓reduceIte, Nat.reduceEqDiff, Nat.reduceAdd, Nat.reduceMul]
  refine XX_val (isLarge_ok c h) ?_
  cases hL : large c with
  | true =>
    simp only [mach, mach2, mstd, ↓reduceIte, Nat.reduceEqDiff, Nat.reduceAdd, Nat.reduceMul]
    refine XX_val (rest_ok x.sc) ?_
    simp only [mach, mach2, mstd, ↓reduceIte, Nat.reduceEqDiff, Nat.reduceAdd, Nat.reduceMul]
    refine XX_val (rest_ok x.sc) ?_
    simp only [mach, mach2, mstd, ↓reduceIte, Nat.reduceEqDiff, Nat.reduceAdd, Nat.reduceMul]
    refine XX_val (span_ok isInner_ok (s.drop p) (by omega) h) ?_
    simp only [mach, mach2, mstd, ↓reduceIte, Nat.reduceEqDiff, Nat.reduceAdd, Nat.reduceMul, sl_to (spn_le inner (s.drop p))]
    refine XX_val (name_ok ((s.drop p).take (spn inner (s.drop p))) (by simp; omega) h) ?_
    by_cases hk : nameK ((s.drop p).take (spn inner (s.drop p))) = 0
    · simp only [mach, mach2, mstd, ↓reduceIte, Nat.reduceEqDiff, Nat.reduceAdd, Nat.reduceMul, eq_true hk, x.sc.own.cells.ld, mbl, Nat.reduceLeDiff, Nat.reduceLT, Int.reduceEq]
      exact fault (by rw [hdr, tokS]; rw [if_pos (by rw [h1, hL]; simp), ← hdr, if_pos hk])
    · have hpos : 0 < spn inner (s.drop p) := by rw [hdr, spn_cons, if_pos (by simp only [inner, h1, hL]; simp)]; omega
      have hll : ((s.drop p).take (spn inner (s.drop p))).length = spn inner (s.drop p) := by have := spn_le inner (s.drop p); simp; omega
      simp only [mach, mach2, mstd, ↓reduceIte, Nat.reduceEqDiff, Nat.reduceAdd, Nat.reduceMul, hk, mbl, Nat.reduceLeDiff, Nat.reduceLT, Int.reduceEq, tx_size, hll]
      refine XX_of (put_ok x (nameK ((s.drop p).take (spn inner (s.drop p)))) 0 0 ((s.drop p).take (spn inner (s.drop p))) (spn inner (s.drop p)) hpos (by have := spn_le inner (s.drop p); omega)) (fun res h2 hle hr => ?_)
      obtain ⟨k2, rfl, hr⟩ := hr
      refine .ret ?_
      simp only [mach, mach2, mstd, ↓reduceIte, Nat.reduceEqDiff, Nat.reduceAdd, Nat.reduceMul]
      refine hΨ _ _ (fin_norm ⟨k2, ?_⟩)
      have ht : tokS (s.drop p) = some (nameK ((s.drop p).take (spn inner (s.drop p))), (s.drop p).take (spn inner (s.drop p)), 0, spn inner (s.drop p)) := by
        conv => lhs; rw [hdr, tokS]
        rw [if_pos (by rw [h1, hL]; simp), ← hdr, if_neg hk]
      rw [toO, ht]
      exact ⟨rfl, hr⟩
  | false =>
  have hw : (small c || large c) = false := by rw [h1, hL]; rfl
  simp only [mach, mach2, mstd, ↓reduceIte, Nat.reduceEqDiff, Nat.reduceAdd, Nat.reduceMul]
  refine XX_val (isDigit_ok c h) ?_
  cases h3 : digit c with
  | true =>
    simp only [mach, mach2, mstd, ↓reduceIte, Nat.reduceEqDiff, Nat.reduceAdd, Nat.reduceMul]
    refine XX_val (rest_ok x.sc) ?_
    simp only [mach, mach2, mstd, ↓reduceIte, Nat.reduceEqDiff, Nat.reduceAdd, Nat.reduceMul]
    refine XX_val (rest_ok x.sc) ?_
    simp only [mach, mach2, mstd, ↓reduceIte, Nat.reduceEqDiff, Nat.reduceAdd, Nat.reduceMul]
    refine XX_val (span_ok isDigit_ok (s.drop p) (by omega) h) ?_
    have hpos : 0 < spn digit (s.drop p) := by rw [hdr, spn_cons, if_pos h3]; omega
    have hll : ((s.drop p).take (spn digit (s.drop p))).length = spn digit (s.drop p) := by have := spn_le digit (s.drop p); simp; omega
    obtain ⟨r, hr⟩ : ∃ r, (s.drop p).take (spn digit (s.drop p)) = c :: r := by
      obtain ⟨m, hm⟩ : ∃ m, spn digit (s.drop p) = m + 1 := ⟨spn digit (s.drop p) - 1, by omega⟩
      exact ⟨_, by rw [hm]; rw [hdr]; rfl⟩
    have ht : tokS (s.drop p) = (intV (c :: r)).map fun v => (3, [], (v : Int), spn digit (s.drop p)) := by
      conv => lhs; rw [hdr, tokS]
      rw [if_neg (by rw [hw]; simp), if_pos h3, ← hdr, hr]
    simp only [mach, mach2, mstd, ↓reduceIte, Nat.reduceEqDiff, Nat.reduceAdd, Nat.reduceMul, sl_to (spn_le digit (s.drop p))]
    rw [hr] at hll ⊢
    refine XX_of (parseInt_ok c r h3 (by have := spn_le digit (s.drop p); rw [hll]; omega) h) (fun res h4 hle hi => ?_)
    obtain ⟨kp, hi⟩ := hi
    have x4 := x.keep kp (fun e => e) (fun _ _ e => e)
    cases hv : intV (c :: r) with
    | some n =>
      rw [hv] at hi
      simp only at hi
      subst hi
      refine .ret ?_
      simp only [mach, mach2, mstd, ↓reduceIte, Nat.reduceEqDiff, Nat.reduceAdd, Nat.reduceMul, mbl, Nat.reduceLeDiff, Nat.reduceLT, Int.reduceEq, tx_size, hll]
      refine XX_of (put_ok x4 3 n 0 [] (spn digit (s.drop p)) hpos (by have := spn_le digit (s.drop p); omega)) (fun res h2 hle hr => ?_)
      obtain ⟨k2, rfl, hr⟩ := hr
      refine .ret ?_
      simp only [mach, mach2, mstd, ↓reduceIte, Nat.reduceEqDiff, Nat.reduceAdd, Nat.reduceMul]
      refine hΨ _ _ (fin_norm ⟨(kp.mono (fun _ e => e.elim)).trans k2, ?_⟩)
      rw [toO, ht, hv]
      exact ⟨rfl, hr⟩
    | none =>
      rw [hv] at hi
      obtain ⟨n, b2, rfl⟩ := hi
      refine .ret ?_
      simp only [mach, mach2, mstd, ↓reduceIte, Nat.reduceEqDiff, Nat.reduceAdd, Nat.reduceMul, mbl, Nat.reduceLeDiff, Nat.reduceLT, Int.reduceEq, x4.sc.own.cells.ld]
      refine hΨ _ _ (fin_pan ⟨kp.mono (fun _ e => e.elim), ?_⟩)
      rw [toO, ht, hv]; rfl
  | false =>
  by_cases h4 : (c.toNat : Int) = 39
  · simp only [mach, mach2, mstd, ↓reduceIte, Nat.reduceEqDiff, Nat.reduceAdd, Nat.reduceMul, eq_true h4]
    have hq : toO s p ts = quO c s p ts := by
      have ht : tokS (s.drop p) = match qt c (s.drop (p + 1)) with
          | none => none
          | some (bs, n) => if c.toNat = 34 then some (5, bs, 0, n + 2) else
            match bs with
            | [x] => some (4, [], (x.toNat : Int), n + 2)
            | _ => none := by
        conv => lhs; rw [hdr, tokS]
        rw [if_neg (by rw [hw]; simp), if_neg (by rw [h3]; simp), if_pos (by omega)]
        rfl
      rw [toO, quO, ht]
      cases qt c (s.drop (p + 1)) with
      | none => rfl
      | some y =>
        obtain ⟨bs, n⟩ := y
        simp only
        by_cases h34 : c.toNat = 34
        · rw [if_pos h34, if_pos h34]
        · rw [if_neg h34, if_neg h34]
          rcases bs with _ | ⟨y, _ | ⟨z, bs⟩⟩ <;> rfl
    refine XX_of (quoted_ok x c hps hs8) (fun res h2 hle hr => ?_)
    obtain ⟨k2, hr⟩ := hr
    rw [← hq] at hr
    cases ho : toO s p ts with
    | ok y =>
      rw [ho] at hr
      obtain ⟨rfl, hr⟩ := hr
      refine .ret ?_
      simp only [mach, mach2, mstd, ↓reduceIte, Nat.reduceEqDiff, Nat.reduceAdd, Nat.reduceMul]
      exact hΨ _ _ (fin_norm ⟨k2, by rw [ho]; exact ⟨rfl, hr⟩⟩)
    | error y =>
      rw [ho] at hr
      simp only at hr
      subst hr
      refine .pan ?_
      simp only [mach, mach2, mstd, ↓reduceIte, Nat.reduceEqDiff, Nat.reduceAdd, Nat.reduceMul]
      exact hΨ _ _ (fin_pan ⟨k2, by rw [ho]⟩)
  by_cases h5 : (c.toNat : Int) = 34
  · simp only [mach, mach2, mstd, ↓reduceIte, Nat.reduceEqDiff, Nat.reduceAdd, Nat.reduceMul, h4, eq_true h5]
    have hq : toO s p ts = quO c s p ts := by
      have ht : tokS (s.drop p) = match qt c (s.drop (p + 1)) with
          | none => none
          | some (bs, n) => if c.toNat = 34 then some (5, bs, 0, n + 2) else
            match bs with
            | [x] => some (4, [], (x.toNat : Int), n + 2)
            | _ => none := by
        conv => lhs; rw [hdr, tokS]
        rw [if_neg (by rw [hw]; simp), if_neg (by rw [h3]; simp), if_pos (by omega)]
        rfl
      rw [toO, quO, ht]
      cases qt c (s.drop (p + 1)) with
      | none => rfl
      | some y =>
        obtain ⟨bs, n⟩ := y
        simp only
        by_cases h34 : c.toNat = 34
        · rw [if_pos h34, if_pos h34]
        · rw [if_neg h34, if_neg h34]
          rcases bs with _ | ⟨y, _ | ⟨z, bs⟩⟩ <;> rfl
    refine XX_of (quoted_ok x c hps hs8) (fun res h2 hle hr => ?_)
    obtain ⟨k2, hr⟩ := hr
    rw [← hq] at hr
    cases ho : toO s p ts with
    | ok y =>
      rw [ho] at hr
      obtain ⟨rfl, hr⟩ := hr
      refine .ret ?_
      simp only [mach, mach2, mstd, ↓reduceIte, Nat.reduceEqDiff, Nat.reduceAdd, Nat.reduceMul]
      exact hΨ _ _ (fin_norm ⟨k2, by rw [ho]; exact ⟨rfl, hr⟩⟩)
    | error y =>
      rw [ho] at hr
      simp only at hr
      subst hr
      refine .pan ?_
      simp only [mach, mach2, mstd, ↓reduceIte, Nat.reduceEqDiff, Nat.reduceAdd, Nat.reduceMul]
      exact hΨ _ _ (fin_pan ⟨k2, by rw [ho]⟩)
  simp only [mach, mach2, mstd, ↓reduceIte, Nat.reduceEqDiff, Nat.reduceAdd, Nat.reduceMul, h4, h5]
  refine XX_val (isSymbol_ok c h) ?_
  have hq : ¬ (c.toNat = 39 ∨ c.toNat = 34) := by omega
  cases h6 : symb c with
  | true =>
    have ht : tokS (s.drop p) = (if markL.contains ((s.drop p).take (spn symb (s.drop p))) then some (7, (s.drop p).take (spn symb (s.drop p)), 0, spn symb (s.drop p))
      else if opL.contains ((s.drop p).take (spn symb (s.drop p))) then some (8, (s.drop p).take (spn symb (s.drop p)), 0, spn symb (s.drop p)) else none) := by
      conv => lhs; rw [hdr, tokS]
      rw [if_neg (by rw [hw]; simp), if_neg (by rw [h3]; simp), if_neg hq, if_pos h6, ← hdr]
    have hpos : 0 < spn symb (s.drop p) := by rw [hdr, spn_cons, if_pos h6]; omega
    have hsl := spn_le symb (s.drop p)
    have hll : ((s.drop p).take (spn symb (s.drop p))).length = spn symb (s.drop p) := by simp; omega
    simp only [mach, mach2, mstd, ↓reduceIte, Nat.reduceEqDiff, Nat.reduceAdd, Nat.reduceMul]
    refine XX_val (rest_ok x.sc) ?_
    simp only [mach, mach2, mstd, ↓reduceIte, Nat.reduceEqDiff, Nat.reduceAdd, Nat.reduceMul]
    refine XX_val (rest_ok x.sc) ?_
    simp only [mach, mach2, mstd, ↓reduceIte, Nat.reduceEqDiff, Nat.reduceAdd, Nat.reduceMul]
    refine XX_val (span_ok isSymbol_ok (s.drop p) (by omega) h) ?_
    simp only [mach, mach2, mstd, ↓reduceIte, Nat.reduceEqDiff, Nat.reduceAdd, Nat.reduceMul, sl_to hsl]
    refine XX_val (isMark_ok _ h) ?_
    cases h7 : markL.contains ((s.drop p).take (spn symb (s.drop p))) with
    | true =>
      simp only [mach, mach2, mstd, ↓reduceIte, Nat.reduceEqDiff, Nat.reduceAdd, Nat.reduceMul, mbl, Nat.reduceLeDiff, Nat.reduceLT, Int.reduceEq, tx_size, hll]
      refine XX_of (put_ok x 7 0 0 ((s.drop p).take (spn symb (s.drop p))) (spn symb (s.drop p)) hpos (by omega)) (fun res h2 hle hr => ?_)
      obtain ⟨k2, rfl, hr⟩ := hr
      refine .ret ?_
      simp only [mach, mach2, mstd, ↓reduceIte, Nat.reduceEqDiff, Nat.reduceAdd, Nat.reduceMul]
      refine hΨ _ _ (fin_norm ⟨k2, ?_⟩)
      rw [toO, ht, h7]
      exact ⟨rfl, hr⟩
    | false =>
    simp only [mach, mach2, mstd, ↓reduceIte, Nat.reduceEqDiff, Nat.reduceAdd, Nat.reduceMul]
    refine XX_val (isOperator_ok _ h) ?_
    cases h8 : opL.contains ((s.drop p).take (spn symb (s.drop p))) with
    | true =>
      simp only [mach, mach2, mstd, ↓reduceIte, Nat.reduceEqDiff, Nat.reduceAdd, Nat.reduceMul, mbl, Nat.reduceLeDiff, Nat.reduceLT, Int.reduceEq, tx_size, hll]
      refine XX_of (put_ok x 8 0 0 ((s.drop p).take (spn symb (s.drop p))) (spn symb (s.drop p)) hpos (by omega)) (fun res h2 hle hr => ?_)
      obtain ⟨k2, rfl, hr⟩ := hr
      refine .ret ?_
      simp only [mach, mach2, mstd, ↓reduceIte, Nat.reduceEqDiff, Nat.reduceAdd, Nat.reduceMul]
      refine hΨ _ _ (fin_norm ⟨k2, ?_⟩)
      rw [toO, ht, h7, h8]
      exact ⟨rfl, hr⟩
    | false =>
      simp only [mach, mach2, mstd, ↓reduceIte, Nat.reduceEqDiff, Nat.reduceAdd, Nat.reduceMul, mbl, Nat.reduceLeDiff, Nat.reduceLT, Int.reduceEq, x.sc.own.cells.ld]
      exact fault (by rw [ht, h7, h8]; rfl)
  | false =>
  have ht : tokS (s.drop p) = if markL.contains [c] then some (7, [c], 0, 1) else none := by
    conv => lhs; rw [hdr, tokS]
    rw [if_neg (by rw [hw]; simp), if_neg (by rw [h3]; simp), if_neg hq, if_neg (by rw [h6]; simp)]
  have k1 : Keep (fun _ => False) h (h ++ [row 5 h.length [bv c]]) := Keep.push _ _ _
  have x1 := x.keep k1 (fun e => e) (fun _ _ e => e)
  simp only [mach, mach2, mstd, ↓reduceIte, Nat.reduceEqDiff, Nat.reduceAdd, Nat.reduceMul, mbl, Nat.reduceLeDiff, Nat.reduceLT, Int.reduceEq, b2s_one]
  refine XX_val (isMark_ok [c] _) ?_
  cases h7 : markL.contains [c] with
  | true =>
    simp only [mach, mach2, mstd, ↓reduceIte, Nat.reduceEqDiff, Nat.reduceAdd, Nat.reduceMul, mbl, Nat.reduceLeDiff, Nat.reduceLT, Int.reduceEq]
    have k2 : Keep (fun _ => False) (h ++ [row 5 h.length [bv c]]) (h ++ [row 5 h.length [bv c]] ++ [row 5 (h ++ [row 5 h.length [bv c]]).length [bv c]]) := Keep.push _ _ _
    generalize hh1 : h ++ [row 5 h.length [bv c]] = h1 at k1 k2 x1 ⊢
    have x2 := x1.keep k2 (fun e => e) (fun _ _ e => e)
    simp only [mach, mach2, mstd, ↓reduceIte, Nat.reduceEqDiff, Nat.reduceAdd, Nat.reduceMul, mbl, Nat.reduceLeDiff, Nat.reduceLT, Int.reduceEq, b2s_one]
    refine XX_of (put_ok x2 7 0 0 [c] 1 (by omega) (by omega)) (fun res h2 hle hr => ?_)
    obtain ⟨k3, rfl, hr⟩ := hr
    refine .ret ?_
    simp only [mach, mach2, mstd, ↓reduceIte, Nat.reduceEqDiff, Nat.reduceAdd, Nat.reduceMul]
    refine hΨ _ _ (fin_norm ⟨((k1.trans k2).mono (fun _ e => e.elim)).trans k3, ?_⟩)
    rw [toO, ht, h7]
    exact ⟨rfl, hr⟩
  | false =>
    simp only [mach, mach2, mstd, ↓reduceIte, Nat.reduceEqDiff, Nat.reduceAdd, Nat.reduceMul, mbl, Nat.reduceLeDiff, Nat.reduceLT, Int.reduceEq, x1.sc.own.cells.ld]
    refine hΨ _ _ (fin_pan ⟨k1.mono (fun _ e => e.elim), ?_⟩)
    rw [toO, ht, h7]; rfl
end
end Go.S07

/- Tokens: a text's tokens, the walk. -/
set_option linter.unusedVariables false
set_option linter.unusedSimpArgs false
namespace Go.S07
open Go Go.Eng Go.Proofs Go.Scn

/-- What Tokens says. -/
def tokF (s : Bs) : List Tk × Int × Int := if 8000 < s.length then ([], 0, 11) else match toks s.length s with
  | .ok ts => (ts, 0, 0)
  | .error e => ([], e, 8)
def TokO (h : AH) (s : Bs) (res : Res) (h' : AH) : Prop := Keep (fun _ => False) h h' ∧ ∃ lv, res = .ret (.tuple #[lv, iv (tokF s).2.1, iv (tokF s).2.2]) ∧ Ows h' tkT 4 lv (tokF s).1.length ((tokF s).1.flatMap tkC) ∧ ∀ q, bk lv q → h.length ≤ q

theorem rvc3 {P : Program} {e l : PE} {h : AH} {ds : List Dfr} {x y z : RX} {f g k : U} {p q r u v w : Value} {K : List Value → Prop} (hx : rx e l x = some p) (hu : uval P h h.length f p = some (u, none)) (hy : rx e l y = some q) (hv : uval P h h.length g q = some (v, none)) (hz : rx e l z = some r) (hw : uval P h h.length k r = some (w, none)) (hk : K [u, v, w]) :
    rvK P ⟨e, l, h, ds⟩ [.c x f, .c y g, .c z k] K := by
  simp only [rvK, hx, vK, hu, rK, hy, hv, hz, hw]; exact hk

abbrev rsT : List RV := [.c (.n 2) .ld, .c (.n 3) .ld, .c (.n 4) .ld]
abbrev tlT : TypeId := 23
abbrev inT : TypeId := 3
abbrev erT : TypeId := 24
abbrev nmT : List Nat := [0, 1, 2, 4, 5, 6, 10, 11]

section
variable {h : AH} {s : Bs}

theorem tok_fail {Ψ : Out → PS → Prop} (hΨ : ∀ o t, finD Tryd.prog false 20 nmT (.n 6) r20 [] rsT (TokO h s) o t → Ψ o t) {e l : PE} {h' : AH} {b2 b3 b4 : Nat} {q : Nat} {x y z : Value}
    (e2 : Eng.look e 2 = some (.pointer (some ⟨b2, 0, none⟩))) (e3 : Eng.look e 3 = some (.pointer (some ⟨b3, 0, none⟩))) (e4 : Eng.look e 4 = some (.pointer (some ⟨b4, 0, none⟩)))
    (o2 : Own h' b2 tlT [x]) (o3 : Own h' b3 inT [y]) (o4 : Own h' b4 erT [z]) (d23 : b2 ≠ b3) (d24 : b2 ≠ b4) (d34 : b3 ≠ b4) (g2 : h.length ≤ b2) (g3 : h.length ≤ b3) (g4 : h.length ≤ b4) (kp : Keep (fun _ => False) h h')
    (h8 : s.length ≤ 8000) (hn : toks s.length s = .error q) :
    Ψ (.pan (.iface 38 (iv q))) ⟨e, l, h', [⟨.func 20, [.pointer (some ⟨b2, 0, none⟩), .pointer (some ⟨b3, 0, none⟩), .pointer (some ⟨b4, 0, none⟩)], []⟩]⟩ := by
  refine hΨ _ _ (dfr_of (by rfl) (fun Ψ2 hΨ2 => ?_))
  simp only [mach, mach2, mstd, ↓reduceIte, Nat.reduceEqDiff, Nat.reduceAdd, Nat.reduceMul, r20, Option.getD_some, mbl, Nat.reduceLeDiff, Nat.reduceLT, Int.reduceEq]
  refine XH_own o2 rfl (by simp [Value.cells]) rfl (fun h5 p1 p2 p3 => ?_)
  have o25 : Own h5 b2 tlT [.slice none 0 0] := by simpa [Value.cells] using p1
  have o35 := o3.keep p2 (fun e => d23 e.symm)
  have o45 := o4.keep p2 (fun e => d24 e.symm)
  simp only [mach, mach2, mstd, ↓reduceIte, Nat.reduceEqDiff, Nat.reduceAdd, Nat.reduceMul]
  refine XH_own o35 rfl (by simp [Value.cells]) rfl (fun h6 t1 t2 t3 => ?_)
  have o36 : Own h6 b3 inT [iv q] := by simpa [Value.cells] using t1
  have o26 := o25.keep t2 (fun e => d23 e)
  have o46 := o45.keep t2 (fun e => d34 e.symm)
  simp only [mach, mach2, mstd, ↓reduceIte, Nat.reduceEqDiff, Nat.reduceAdd, Nat.reduceMul]
  refine XH_own o46 rfl (by simp [Value.cells]) rfl (fun h7 u1 u2 u3 => ?_)
  have o47 : Own h7 b4 erT [iv 8] := by simpa [Value.cells] using u1
  have o27 := o26.keep u2 (fun e => d24 e)
  have o37 := o36.keep u2 (fun e => d34 e)
  simp only [mach, mach2, mstd, ↓reduceIte, Nat.reduceEqDiff, Nat.reduceAdd, Nat.reduceMul]
  have kk : Keep (fun _ => False) h h7 := ((kp.trans' p2 (fun c hc e => by omega)).trans' t2 (fun c hc e => by omega)).trans' u2 (fun c hc e => by omega)
  refine hΨ2 _ _ ⟨.inl rfl, rfl, ?_, ⟨[], rfl⟩, rvc3 (p := .pointer (some ⟨b2, 0, none⟩)) (q := .pointer (some ⟨b3, 0, none⟩)) (r := .pointer (some ⟨b4, 0, none⟩)) (u := .slice none 0 0) (v := iv q) (w := iv 8) e2 ?_ e3 ?_ e4 ?_ ⟨kk, .slice none 0 0, ?_⟩⟩
  · show h'.length ≤ h7.length; omega
  · simp only [uval]; rw [o27.cells.ld]; rfl
  · simp only [uval]; rw [o37.cells.ld]; rfl
  · simp only [uval]; rw [o47.cells.ld]; rfl
  · have hF : tokF s = ([], (q : Int), 8) := by rw [tokF, if_neg (by omega), hn]
    rw [hF]
    exact ⟨rfl, .nil, fun q e => e.elim⟩

theorem tok_done {Ψ : Out → PS → Prop} (hΨ : ∀ o t, finD Tryd.prog false 20 nmT (.n 6) r20 [] rsT (TokO h s) o t → Ψ o t) {e l : PE} {h' : AH} {b2 b3 b4 : Nat} {lv : Value}
    (e2 : Eng.look e 2 = some (.pointer (some ⟨b2, 0, none⟩))) (e3 : Eng.look e 3 = some (.pointer (some ⟨b3, 0, none⟩))) (e4 : Eng.look e 4 = some (.pointer (some ⟨b4, 0, none⟩)))
    (o2 : Own h' b2 tlT [lv]) (o3 : Own h' b3 inT [iv (tokF s).2.1]) (o4 : Own h' b4 erT [iv (tokF s).2.2]) (kp : Keep (fun _ => False) h h')
    (ow : Ows h' tkT 4 lv (tokF s).1.length ((tokF s).1.flatMap tkC)) (fr : ∀ q, bk lv q → h.length ≤ q) :
    Ψ .ret ⟨e, l, h', [⟨.func 20, [.pointer (some ⟨b2, 0, none⟩), .pointer (some ⟨b3, 0, none⟩), .pointer (some ⟨b4, 0, none⟩)], []⟩]⟩ := by
  refine hΨ _ _ (dfr_of (by rfl) (fun Ψ4 hΨ4 => ?_))
  simp only [mach, mach2, mstd, ↓reduceIte, Nat.reduceEqDiff, Nat.reduceAdd, Nat.reduceMul, r20, Option.getD_none, mbl, Nat.reduceLeDiff, Nat.reduceLT, Int.reduceEq]
  refine hΨ4 _ _ ⟨.inl rfl, rfl, Nat.le_refl _, ⟨[], rfl⟩, rvc3 (p := .pointer (some ⟨b2, 0, none⟩)) (q := .pointer (some ⟨b3, 0, none⟩)) (r := .pointer (some ⟨b4, 0, none⟩)) (u := lv) (v := iv (tokF s).2.1) (w := iv (tokF s).2.2) e2 ?_ e3 ?_ e4 ?_ ⟨kp, lv, rfl, ow, fr⟩⟩
  · simp only [uval]; rw [o2.cells.ld]; rfl
  · simp only [uval]; rw [o3.cells.ld]; rfl
  · simp only [uval]; rw [o4.cells.ld]; rfl

end
end Go.S07
