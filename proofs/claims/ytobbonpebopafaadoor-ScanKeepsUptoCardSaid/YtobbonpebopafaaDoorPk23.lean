import Derived.Test.YtobbonpebopafaaDoorPk22
import Derived.Test.YtobbonpebopafaaDoorPk13
import Derived.Test.YtobbonpebopafaaDoorPk14
/- Texts: one token as a text, the walk. -/
set_option linter.unusedVariables false
set_option linter.unusedSimpArgs false
namespace Go.S07
open Go Go.Eng Go.Proofs Go.Scn

def TxO (h : AH) (t : Tk) (res : Res) (h' : AH) : Prop := Keep (fun _ => False) h h' ∧ ∃ s, res = .ret (.tuple #[tv s, .bool (okT t)]) ∧ (okT t = true → s = txT t)
theorem okT_else {t : Tk} (h3 : t.k ≠ 3) (h4 : t.k ≠ 4) : okT t = (decide (t.n = 0) && (if t.k = 7 then markL.contains t.t else if t.k = 8 then opL.contains t.t else if t.k = 5 then true else
    decide (t.k = 1 ∨ t.k = 2 ∨ t.k = 6) && decide (nameK t.t = t.k))) := by unfold okT; rw [if_neg h3, if_neg h4]
theorem txT_else {t : Tk} (h3 : t.k ≠ 3) (h4 : t.k ≠ 4) (h5 : t.k ≠ 5) : txT t = t.t := by unfold txT; rw [if_neg h3, if_neg h4, if_neg h5]

/-- A text in quotes, by a Builder. -/
structure QI (h : AH) (b rb : Nat) (t : Bs) (i : Nat) (v : Value) (h' : AH) : Prop where
  kp : Keep (fun _ => False) h h'
  bd : Bd h' b ([34] ++ quoS (t.take i)) (.pointer (some ⟨b, 0, none⟩)) v
  ro : Rds h' 1 (.slice (some ⟨rb, 0, none⟩) t.length t.length) t.length (t.map bv)
  lt : rb < h'.length
  ne : ∀ q, bk v q → q ≠ rb
  brb : b ≠ rb

set_option maxHeartbeats 4000000 in
theorem text_ok (t : Tk) (at' : Int) (hn0 : -9223372036854775808 ≤ t.n) (hn1 : t.n ≤ 9223372036854775807) (hl : t.t.length ≤ 10000000000000) (h : AH) :
    Gets Tryd.prog 26 [.agg #[iv t.k, tv t.t, iv t.n, iv at']] h (TxO h t) := by
  refine Gets.of (keep := false) hP (draw_ok hM) k26 (by rfl) (fun Ψ hΨ => ?_)
  have o1 := Own.new h tkT h.length [iv t.k, tv t.t, iv t.n, iv at']
  have k1 : Keep (fun _ => False) h (h ++ [row tkT h.length [iv t.k, tv t.t, iv t.n, iv at']]) := Keep.push _ _ _
  by_cases h3 : t.k = 3
  · have hok : okT t = (decide (0 ≤ t.n) && (t.t == [])) := by unfold okT; rw [if_pos h3]
    have htx : txT t = Lib.itoa t.n := by unfold txT; rw [if_pos h3]
    simp only [mach, mach2, mstd, ↓reduceIte, Nat.reduceEqDiff, Nat.reduceAdd, Nat.reduceMul, r26, o1.cells.ld, mbl, Nat.reduceLeDiff, Nat.reduceLT, Int.reduceEq, eq_true h3]
    generalize hh1 : h ++ [row tkT h.length [iv t.k, tv t.t, iv t.n, iv at']] = h1 at o1 k1 ⊢
    refine XX_val (itoa_ok t.n hn0 hn1 h1) ?_
    by_cases hge : 0 ≤ t.n
    · cases hE : (t.t == ([] : Bs)) with
      | true =>
        simp only [mach, mach2, mstd, ↓reduceIte, Nat.reduceEqDiff, Nat.reduceAdd, Nat.reduceMul, o1.cells.ld, mbl, Nat.reduceLeDiff, Nat.reduceLT, Int.reduceEq, ct1, eq_true hge, tx_toList, mk_toList, hE]
        exact hΨ _ _ (fin_ret (rv2 rfl rfl ⟨k1, _, by rw [hok, hE, decide_eq_true hge]; rfl, fun _ => htx.symm⟩))
      | false =>
        simp only [mach, mach2, mstd, ↓reduceIte, Nat.reduceEqDiff, Nat.reduceAdd, Nat.reduceMul, o1.cells.ld, mbl, Nat.reduceLeDiff, Nat.reduceLT, Int.reduceEq, ct1, eq_true hge, tx_toList, mk_toList, hE]
        exact hΨ _ _ (fin_ret (rv2 rfl rfl ⟨k1, _, by rw [hok, hE, decide_eq_true hge]; rfl, fun _ => htx.symm⟩))
    · simp only [mach, mach2, mstd, ↓reduceIte, Nat.reduceEqDiff, Nat.reduceAdd, Nat.reduceMul, o1.cells.ld, mbl, Nat.reduceLeDiff, Nat.reduceLT, Int.reduceEq, ct1, hge]
      exact hΨ _ _ (fin_ret (rv2 rfl rfl ⟨k1, _, by rw [hok, decide_eq_false hge]; rfl, fun _ => htx.symm⟩))
  by_cases h4 : t.k = 4
  · have hok : okT t = ((escS t.n).isSome && (t.t == [])) := by unfold okT; rw [if_neg h3, if_pos h4]
    have htx : txT t = [39] ++ (escS t.n).getD [] ++ [39] := by unfold txT; rw [if_neg h3, if_pos h4]
    simp only [mach, mach2, mstd, ↓reduceIte, Nat.reduceEqDiff, Nat.reduceAdd, Nat.reduceMul, r26, o1.cells.ld, mbl, Nat.reduceLeDiff, Nat.reduceLT, Int.reduceEq, h3, eq_true h4]
    generalize hh1 : h ++ [row tkT h.length [iv t.k, tv t.t, iv t.n, iv at']] = h1 at o1 k1 ⊢
    refine XX_of (Escape_ok t.n h1) (fun res h2 hle hr => ?_)
    obtain ⟨k2, rfl⟩ := hr
    refine .ret ?_
    have o2 := o1.keep k2 (fun e => e)
    cases hes : escS t.n with
    | none =>
      rw [escV]
      have s1 : sbin .add (⟨#[39]⟩ : ByteArray) (⟨#[]⟩ : ByteArray) = some (tv [39]) := s_add (a := [39]) (b := []) (by simp)
      have s2 : sbin .add (tx [39]) (⟨#[39]⟩ : ByteArray) = some (tv [39, 39]) := s_add (a := [39]) (b := [39]) (by simp)
      simp only [mach, mach2, mstd, ↓reduceIte, Nat.reduceEqDiff, Nat.reduceAdd, Nat.reduceMul, o2.cells.ld, mbl, Nat.reduceLeDiff, Nat.reduceLT, Int.reduceEq, ct1, s1, s2, Int.reduceEq]
      exact hΨ _ _ (fin_ret (rv2 rfl rfl ⟨k1.trans k2, _, by rw [hok, hes]; rfl, fun e => by rw [hok, hes] at e; cases e⟩))
    | some l =>
      have hl4 := escS_len hes
      rw [escV]
      have s1 : sbin .add (⟨#[39]⟩ : ByteArray) (tx l) = some (tv ([39] ++ l)) := s_add (a := [39]) (b := l) (by simp; omega)
      have s2 : sbin .add (tx ([39] ++ l)) (⟨#[39]⟩ : ByteArray) = some (tv ([39] ++ l ++ [39])) := s_add (a := [39] ++ l) (b := [39]) (by simp; omega)
      cases hE : (t.t == ([] : Bs)) with
      | true =>
        simp only [mach, mach2, mstd, ↓reduceIte, Nat.reduceEqDiff, Nat.reduceAdd, Nat.reduceMul, o2.cells.ld, mbl, Nat.reduceLeDiff, Nat.reduceLT, Int.reduceEq, ct1, s1, s2, tx_toList, mk_toList, hE]
        exact hΨ _ _ (fin_ret (rv2 rfl rfl ⟨k1.trans k2, _, by rw [hok, hes, hE]; rfl, fun _ => by rw [htx, hes]; rfl⟩))
      | false =>
        simp only [mach, mach2, mstd, ↓reduceIte, Nat.reduceEqDiff, Nat.reduceAdd, Nat.reduceMul, o2.cells.ld, mbl, Nat.reduceLeDiff, Nat.reduceLT, Int.reduceEq, ct1, s1, s2, tx_toList, mk_toList, hE]
        exact hΨ _ _ (fin_ret (rv2 rfl rfl ⟨k1.trans k2, _, by rw [hok, hes, hE]; rfl, fun e => by rw [hok, hes, hE] at e; cases e⟩))
  have hok := okT_else h3 h4
  by_cases hz : t.n = 0
  case neg =>
    simp only [mach, mach2, mstd, ↓reduceIte, Nat.reduceEqDiff, Nat.reduceAdd, Nat.reduceMul, r26, o1.cells.ld, mbl, Nat.reduceLeDiff, Nat.reduceLT, Int.reduceEq, h3, h4, hz]
    exact hΨ _ _ (fin_ret (rv2 rfl rfl ⟨k1, [], by rw [hok, decide_eq_false hz]; rfl, fun e => by rw [hok, decide_eq_false hz] at e; cases e⟩))
  rw [decide_eq_true hz, Bool.true_and] at hok
  by_cases h7 : t.k = 7
  · rw [if_pos h7] at hok
    simp only [mach, mach2, mstd, ↓reduceIte, Nat.reduceEqDiff, Nat.reduceAdd, Nat.reduceMul, r26, o1.cells.ld, mbl, Nat.reduceLeDiff, Nat.reduceLT, Int.reduceEq, h3, h4, eq_true hz, eq_true h7]
    generalize hh1 : h ++ [row tkT h.length [iv t.k, tv t.t, iv t.n, iv at']] = h1 at o1 k1 ⊢
    refine XX_val (isMark_ok t.t h1) ?_
    simp only [mach, mach2, mstd, ↓reduceIte, Nat.reduceEqDiff, Nat.reduceAdd, Nat.reduceMul, o1.cells.ld, mbl, Nat.reduceLeDiff, Nat.reduceLT, Int.reduceEq, ct1]
    exact hΨ _ _ (fin_ret (rv2 rfl rfl ⟨k1, _, by rw [hok]; rfl, fun _ => (txT_else h3 h4 (by omega)).symm⟩))
  rw [if_neg h7] at hok
  by_cases h8 : t.k = 8
  · rw [if_pos h8] at hok
    simp only [mach, mach2, mstd, ↓reduceIte, Nat.reduceEqDiff, Nat.reduceAdd, Nat.reduceMul, r26, o1.cells.ld, mbl, Nat.reduceLeDiff, Nat.reduceLT, Int.reduceEq, h3, h4, eq_true hz, h7, eq_true h8]
    generalize hh1 : h ++ [row tkT h.length [iv t.k, tv t.t, iv t.n, iv at']] = h1 at o1 k1 ⊢
    refine XX_val (isOperator_ok t.t h1) ?_
    simp only [mach, mach2, mstd, ↓reduceIte, Nat.reduceEqDiff, Nat.reduceAdd, Nat.reduceMul, o1.cells.ld, mbl, Nat.reduceLeDiff, Nat.reduceLT, Int.reduceEq, ct1]
    exact hΨ _ _ (fin_ret (rv2 rfl rfl ⟨k1, _, by rw [hok]; rfl, fun _ => (txT_else h3 h4 (by omega)).symm⟩))
  rw [if_neg h8] at hok
  by_cases h5 : t.k = 5
  case neg =>
    rw [if_neg h5] at hok
    have k2 : Keep (fun _ => False) (h ++ [row tkT h.length [iv t.k, tv t.t, iv t.n, iv at']]) ((h ++ [row tkT h.length [iv t.k, tv t.t, iv t.n, iv at']]) ++ [row 3 (h ++ [row tkT h.length [iv t.k, tv t.t, iv t.n, iv at']]).length [iv 1, iv 2, iv 6]]) := Keep.push _ _ _
    have o2 := o1.keep k2 (fun e => e)
    simp only [mach, mach2, mstd, ↓reduceIte, Nat.reduceEqDiff, Nat.reduceAdd, Nat.reduceMul, r26, o1.cells.ld, o2.cells.ld, ct1, mbl, Nat.reduceLeDiff, Nat.reduceLT, Int.reduceEq, h3, h4, eq_true hz, h7, h8, h5]
    generalize hh1 : h ++ [row tkT h.length [iv t.k, tv t.t, iv t.n, iv at']] = h1 at o1 o2 k1 k2 ⊢
    refine XX_val (contains_ok t.k h1) ?_
    by_cases hc : t.k = 1 ∨ t.k = 2 ∨ t.k = 6
    · rw [decide_eq_true hc, Bool.true_and] at hok
      rw [decide_eq_true hc]
      simp only [mach, mach2, mstd, ↓reduceIte, Nat.reduceEqDiff, Nat.reduceAdd, Nat.reduceMul, o1.cells.ld, o2.cells.ld, mbl, Nat.reduceLeDiff, Nat.reduceLT, Int.reduceEq, ct1]
      refine XX_val (name_ok t.t (by omega) _) ?_
      simp only [mach, mach2, mstd, ↓reduceIte, Nat.reduceEqDiff, Nat.reduceAdd, Nat.reduceMul, o1.cells.ld, o2.cells.ld, mbl, Nat.reduceLeDiff, Nat.reduceLT, Int.reduceEq, ct1, show (([1, 10] : List Nat).contains 10) = true from rfl, show (([1, 10] : List Nat).contains 8) = false from rfl, show (([1, 10] : List Nat).contains 4) = false from rfl, show (([1, 10] : List Nat).contains 1) = true from rfl]
      exact hΨ _ _ (fin_ret (rv2 rfl rfl ⟨k1.trans k2, _, by rw [hok]; rfl, fun _ => (txT_else h3 h4 h5).symm⟩))
    · rw [decide_eq_false hc, Bool.false_and] at hok
      rw [decide_eq_false hc]
      simp only [mach, mach2, mstd, ↓reduceIte, Nat.reduceEqDiff, Nat.reduceAdd, Nat.reduceMul, o1.cells.ld, o2.cells.ld, mbl, Nat.reduceLeDiff, Nat.reduceLT, Int.reduceEq, ct1]
      exact hΨ _ _ (fin_ret (rv2 rfl rfl ⟨k1.trans k2, _, by rw [hok]; rfl, fun _ => (txT_else h3 h4 h5).symm⟩))
  rw [if_pos h5] at hok
  have htx : txT t = [34] ++ quoS t.t ++ [34] := by unfold txT; rw [if_neg h3, if_neg h4, if_pos h5]
  simp only [mach, mach2, mstd, ↓reduceIte, Nat.reduceEqDiff, Nat.reduceAdd, Nat.reduceMul, r26, o1.cells.ld, mbl, Nat.reduceLeDiff, Nat.reduceLT, Int.reduceEq, h3, h4, eq_true hz, h7, h8, eq_true h5]
  generalize hh1 : h ++ [row tkT h.length [iv t.k, tv t.t, iv t.n, iv at']] = h1 at o1 k1 ⊢
  have hl1 : h1.length = h.length + 1 := by rw [← hh1]; simp
  have ob := Own.new h1 bdT h1.length [.pointer none, .slice none 0 0]
  have k2 : Keep (fun _ => False) h1 (h1 ++ [row bdT h1.length [.pointer none, .slice none 0 0]]) := Keep.push _ _ _
  generalize hh2 : h1 ++ [row bdT h1.length [.pointer none, .slice none 0 0]] = h2 at ob k2 ⊢
  have hl2 : h2.length = h1.length + 1 := by rw [← hh2]; simp
  have b0 : Bd h2 h1.length [] (.pointer none) (.slice none 0 0) := ⟨ob, .inl rfl, .nil, fun q e => e.elim, fun _ => rfl⟩
  refine XX_of (writeByte_ok b0 34 (by simp)) (fun res h3' hle hr => ?_)
  obtain ⟨rfl, k3, v3, b3, f3⟩ := hr
  refine .ret ?_
  have kp3 : Keep (fun _ => False) h h3' := (k1.trans k2).trans' k3 (fun c hc e => by
    rcases e with e | e
    · omega
    · exact e.elim)
  have o3 : Own h3' h.length tkT [iv t.k, tv t.t, iv t.n, iv at'] := (o1.keep k2 (fun e => e)).keep k3 (fun e => by
    rcases e with e | e
    · omega
    · exact e.elim)
  simp only [mach, mach2, mstd, ↓reduceIte, Nat.reduceEqDiff, Nat.reduceAdd, Nat.reduceMul, o3.cells.ld, mbl, Nat.reduceLeDiff, Nat.reduceLT, Int.reduceEq, u_s2bt]
  generalize hh4 : h3' ++ [.cells false true h3'.length 0 5 (t.t.map bv)] = h4
  have k4 : Keep (fun _ => False) h3' h4 := by rw [← hh4]; exact Keep.push _ _ _
  have hl4 : h4.length = h3'.length + 1 := by rw [← hh4]; simp
  have hro : Rds h4 1 (.slice (some ⟨h3'.length, 0, none⟩) t.t.length t.t.length) t.t.length (t.t.map bv) := by
    rw [← hh4]
    exact .mk (all := t.t.map bv) (by simp [Cells, hcell]) (by simp) (by rw [List.drop_zero, Nat.mul_one]; exact List.take_of_length_le (by simp))
  have hb3 := b3.own.lt
  have b4 : Bd h4 h1.length [34] (.pointer (some ⟨h1.length, 0, none⟩)) v3 := ⟨b3.own.keep k4 (fun e => e), b3.ad, b3.ow.keep k4 (fun _ _ e => e), b3.ne, b3.nl⟩
  have hlt3 := b3.ow.lt
  refine XLo_rule (α := Nat × Value) (fun a => [(6, .pointer (some ⟨h1.length, 0, none⟩)), (68, .slice (some ⟨h3'.length, 0, none⟩) t.t.length t.t.length), (69, iv t.t.length), (70, iv a.1)])
    (fun a h' => a.1 ≤ t.t.length ∧ QI h h1.length h3'.length t.t a.1 a.2 h') (fun a => t.t.length - a.1) (0, v3)
    ⟨Nat.zero_le _, kp3.trans k4, by simpa [quoS] using b4, hro, by omega, fun q hq e => by have := hlt3 q hq; omega, by omega⟩ ⟨rfl, rfl, rfl, rfl, trivial⟩ ?_
  rintro ⟨i, v⟩ g1 Ψ2 ⟨hi, qi⟩ next out
  simp only at hi qi
  have hqb := quoS_len (t.t.take i)
  have htl : (t.t.take i).length ≤ t.t.length := by simp; omega
  by_cases hlt : (i : Int) < (t.t.length : Int)
  · have hil : i < t.t.length := by omega
    have g0 : (0 : Int) ≤ (i : Int) := by omega
    have hcl := t.t[i].toNat_lt
    have he4 := escB_len t.t[i]
    have hld : ldc g1 h3'.length i = some (bv t.t[i]) := by
      obtain ⟨b', o', c', e', kk⟩ := qi.ro.at (i := i) hil
      cases e'
      have := kk 0 (by omega)
      rw [Nat.zero_add, Nat.mul_one, Nat.add_zero] at this
      rw [this, List.getElem?_map, List.getElem?_eq_getElem hil]; rfl
    have hw : IntKind.i64.wrap (t.t[i].toNat : Int) = (t.t[i].toNat : Int) := i64w (by omega) (by omega)
    have hwi : IntKind.i64.wrap ((i : Int) + 1) = ((i + 1 : Nat) : Int) := by rw [i64w (by omega) (by omega)]; omega
    simp only [mach, mach2, mstd, ↓reduceIte, Nat.reduceEqDiff, Nat.reduceAdd, Nat.reduceMul, hlt, g0, and_self, Int.toNat_natCast, Nat.mul_one, Nat.zero_add, hld, hw]
    refine XX_of (Escape_ok _ g1) (fun res g2 hle hr => ?_)
    obtain ⟨m2, rfl⟩ := hr
    refine .ret ?_
    rw [escB_some, escV]
    have bd2 : Bd g2 h1.length ([34] ++ quoS (t.t.take i)) (.pointer (some ⟨h1.length, 0, none⟩)) v := ⟨qi.bd.own.keep m2 (fun e => e), qi.bd.ad, qi.bd.ow.keep m2 (fun _ _ e => e), qi.bd.ne, qi.bd.nl⟩
    simp only [mach, mach2, mstd, ↓reduceIte, Nat.reduceEqDiff, Nat.reduceAdd, Nat.reduceMul, mbl, Nat.reduceLeDiff, Nat.reduceLT, Int.reduceEq]
    refine XX_of (writeString_ok bd2 (escB t.t[i]) (by simp only [List.length_append, List.length_cons, List.length_nil]; omega)) (fun res g3 hle hr => ?_)
    obtain ⟨rfl, m3, v', bd3, f3'⟩ := hr
    refine .ret ?_
    have hst : quoS (t.t.take (i + 1)) = quoS (t.t.take i) ++ escB t.t[i] := by
      unfold quoS
      rw [List.take_succ_eq_append_getElem hil, List.flatMap_append, List.flatMap_cons, List.flatMap_nil, List.append_nil]
    have hlt2 := qi.lt
    have hm2 := m2.len
    simp only [mach, mach2, mstd, ↓reduceIte, Nat.reduceEqDiff, Nat.reduceAdd, Nat.reduceMul, hwi]
    refine next (i + 1, v') _ _ _ ⟨by simp only; omega, (qi.kp.trans m2).trans' m3 (fun c hc e => ?_), by rw [hst, ← List.append_assoc]; exact bd3, (qi.ro.keep m2 (fun _ _ e => e)).keep m3 (fun q hq e => ?_), by have := m3.len; omega, fun q hq e => ?_, qi.brb⟩ ⟨rfl, rfl, rfl, rfl, trivial⟩ (by simp only; omega)
    · rcases e with e | e
      · omega
      · have := qi.bd.ne c e; omega
    · have hq' : q = h3'.length := hq.1
      rcases e with e | e
      · exact qi.brb (e.symm.trans hq')
      · exact qi.ne q e hq'
    · rcases f3' q hq with e2 | e2
      · exact qi.ne q e2 e
      · omega
  · have hie : i = t.t.length := by omega
    simp only [mach, mach2, mstd, ↓reduceIte, Nat.reduceEqDiff, Nat.reduceAdd, Nat.reduceMul, hlt]
    refine out (.exit 2) _ _ _ _ (by intro e; cases e) ?_
    simp only [mach, mach2, mstd, ↓reduceIte, Nat.reduceEqDiff, Nat.reduceAdd, Nat.reduceMul]
    refine XX_of (writeByte_ok qi.bd 34 (by simp only [List.length_append, List.length_cons, List.length_nil]; omega)) (fun res g2 hle hr => ?_)
    obtain ⟨rfl, m2, v', bd2, f2⟩ := hr
    refine .ret ?_
    simp only [mach, mach2, mstd, ↓reduceIte, Nat.reduceEqDiff, Nat.reduceAdd, Nat.reduceMul]
    refine XX_of (string_ok bd2 (by simp only [List.length_append, List.length_cons, List.length_nil]; omega)) (fun res g3 hle hr => ?_)
    obtain ⟨rfl, m3⟩ := hr
    refine .ret ?_
    simp only [mach, mach2, mstd, ↓reduceIte, Nat.reduceEqDiff, Nat.reduceAdd, Nat.reduceMul]
    have hlt2 := qi.lt
    refine hΨ _ _ (fin_ret (rv2 rfl rfl ⟨(qi.kp.trans' m2 (fun c hc e => ?_)).trans' m3 (fun c hc e => ?_), _, by rw [hok]; rfl, fun _ => ?_⟩))
    · rcases e with e | e
      · omega
      · have := qi.bd.ne c e; omega
    · have := bd2.ne c e; omega
    · rw [htx, hie, List.take_length]
end Go.S07

/- Texts: one token as a text, the document's side. -/
set_option linter.unusedVariables false
set_option linter.unusedSimpArgs false
namespace Go.S07
open Go Go.Eng Go.Proofs Go.Scn

set_option maxHeartbeats 4000000 in
theorem one_ok (t : Tk) (at' : Int) (hn0 : -9223372036854775808 ≤ t.n) (hn1 : t.n ≤ 9223372036854775807) (hl : t.t.length ≤ 10000000000000) (h : AH) :
    Gets Tryd.prog 30 [.agg #[iv t.k, tv t.t, iv t.n, iv at']] h (TxO h t) := by
  refine Gets.of (keep := false) hP (draw_ok hM) k30 (by rfl) (fun Ψ hΨ => ?_)
  have o1 := Own.new h tkT h.length [iv t.k, tv t.t, iv t.n, iv at']
  have k1 : Keep (fun _ => False) h (h ++ [row tkT h.length [iv t.k, tv t.t, iv t.n, iv at']]) := Keep.push _ _ _
  have c17 : (([1, 7] : List Nat).contains 1) = true := rfl
  have c77 : (([1, 7] : List Nat).contains 7) = true := rfl
  have c57 : (([1, 7] : List Nat).contains 5) = false := rfl
  by_cases h1 : t.k = 1
  · skip
    have n3 : t.k ≠ 3 := by omega
    have n4 : t.k ≠ 4 := by omega
    have hok := okT_else n3 n4
    rw [if_neg (by omega), if_neg (by omega), if_neg (by omega), decide_eq_true (show t.k = 1 ∨ t.k = 2 ∨ t.k = 6 by omega), Bool.true_and] at hok
    by_cases hz : t.n = 0
    · rw [decide_eq_true hz, Bool.true_and] at hok
      simp only [mach, mach2, mstd, ↓reduceIte, Nat.reduceEqDiff, Nat.reduceAdd, Nat.reduceMul, r30, o1.cells.ld, mbl, Nat.reduceLeDiff, Nat.reduceLT, Int.reduceEq, eq_true h1, eq_true hz, ct1]
      generalize hh1 : h ++ [row tkT h.length [iv t.k, tv t.t, iv t.n, iv at']] = h1 at o1 k1 ⊢
      refine XX_val (rname_ok t.t (by omega) h1) ?_
      simp only [mach, mach2, mstd, ↓reduceIte, Nat.reduceEqDiff, Nat.reduceAdd, Nat.reduceMul, o1.cells.ld, mbl, Nat.reduceLeDiff, Nat.reduceLT, Int.reduceEq, ct1, c17, c77, c57]
      exact hΨ _ _ (fin_ret (rv2 rfl rfl ⟨k1, _, by rw [hok]; rfl, fun _ => (txT_else n3 n4 (by omega)).symm⟩))
    · rw [decide_eq_false hz, Bool.false_and] at hok
      simp only [mach, mach2, mstd, ↓reduceIte, Nat.reduceEqDiff, Nat.reduceAdd, Nat.reduceMul, r30, o1.cells.ld, mbl, Nat.reduceLeDiff, Nat.reduceLT, Int.reduceEq, eq_true h1, hz, ct1]
      exact hΨ _ _ (fin_ret (rv2 rfl rfl ⟨k1, _, by rw [hok]; rfl, fun _ => (txT_else n3 n4 (by omega)).symm⟩))
  by_cases h2 : t.k = 2
  · skip
    have n3 : t.k ≠ 3 := by omega
    have n4 : t.k ≠ 4 := by omega
    have hok := okT_else n3 n4
    rw [if_neg (by omega), if_neg (by omega), if_neg (by omega), decide_eq_true (show t.k = 1 ∨ t.k = 2 ∨ t.k = 6 by omega), Bool.true_and] at hok
    by_cases hz : t.n = 0
    · rw [decide_eq_true hz, Bool.true_and] at hok
      simp only [mach, mach2, mstd, ↓reduceIte, Nat.reduceEqDiff, Nat.reduceAdd, Nat.reduceMul, r30, o1.cells.ld, mbl, Nat.reduceLeDiff, Nat.reduceLT, Int.reduceEq, h1, eq_true h2, eq_true hz, ct1]
      generalize hh1 : h ++ [row tkT h.length [iv t.k, tv t.t, iv t.n, iv at']] = h1 at o1 k1 ⊢
      refine XX_val (rname_ok t.t (by omega) h1) ?_
      simp only [mach, mach2, mstd, ↓reduceIte, Nat.reduceEqDiff, Nat.reduceAdd, Nat.reduceMul, o1.cells.ld, mbl, Nat.reduceLeDiff, Nat.reduceLT, Int.reduceEq, ct1, c17, c77, c57]
      exact hΨ _ _ (fin_ret (rv2 rfl rfl ⟨k1, _, by rw [hok]; rfl, fun _ => (txT_else n3 n4 (by omega)).symm⟩))
    · rw [decide_eq_false hz, Bool.false_and] at hok
      simp only [mach, mach2, mstd, ↓reduceIte, Nat.reduceEqDiff, Nat.reduceAdd, Nat.reduceMul, r30, o1.cells.ld, mbl, Nat.reduceLeDiff, Nat.reduceLT, Int.reduceEq, h1, eq_true h2, hz, ct1]
      exact hΨ _ _ (fin_ret (rv2 rfl rfl ⟨k1, _, by rw [hok]; rfl, fun _ => (txT_else n3 n4 (by omega)).symm⟩))
  by_cases h6 : t.k = 6
  · skip
    have n3 : t.k ≠ 3 := by omega
    have n4 : t.k ≠ 4 := by omega
    have hok := okT_else n3 n4
    rw [if_neg (by omega), if_neg (by omega), if_neg (by omega), decide_eq_true (show t.k = 1 ∨ t.k = 2 ∨ t.k = 6 by omega), Bool.true_and] at hok
    by_cases hz : t.n = 0
    · rw [decide_eq_true hz, Bool.true_and] at hok
      simp only [mach, mach2, mstd, ↓reduceIte, Nat.reduceEqDiff, Nat.reduceAdd, Nat.reduceMul, r30, o1.cells.ld, mbl, Nat.reduceLeDiff, Nat.reduceLT, Int.reduceEq, h1, h2, eq_true h6, eq_true hz, ct1]
      generalize hh1 : h ++ [row tkT h.length [iv t.k, tv t.t, iv t.n, iv at']] = h1 at o1 k1 ⊢
      refine XX_val (rname_ok t.t (by omega) h1) ?_
      simp only [mach, mach2, mstd, ↓reduceIte, Nat.reduceEqDiff, Nat.reduceAdd, Nat.reduceMul, o1.cells.ld, mbl, Nat.reduceLeDiff, Nat.reduceLT, Int.reduceEq, ct1, c17, c77, c57]
      exact hΨ _ _ (fin_ret (rv2 rfl rfl ⟨k1, _, by rw [hok]; rfl, fun _ => (txT_else n3 n4 (by omega)).symm⟩))
    · rw [decide_eq_false hz, Bool.false_and] at hok
      simp only [mach, mach2, mstd, ↓reduceIte, Nat.reduceEqDiff, Nat.reduceAdd, Nat.reduceMul, r30, o1.cells.ld, mbl, Nat.reduceLeDiff, Nat.reduceLT, Int.reduceEq, h1, h2, eq_true h6, hz, ct1]
      exact hΨ _ _ (fin_ret (rv2 rfl rfl ⟨k1, _, by rw [hok]; rfl, fun _ => (txT_else n3 n4 (by omega)).symm⟩))
  by_cases h7 : t.k = 7
  · have n3 : t.k ≠ 3 := by omega
    have n4 : t.k ≠ 4 := by omega
    have hok := okT_else n3 n4
    rw [if_pos h7] at hok
    by_cases hz : t.n = 0
    · rw [decide_eq_true hz, Bool.true_and] at hok
      simp only [mach, mach2, mstd, ↓reduceIte, Nat.reduceEqDiff, Nat.reduceAdd, Nat.reduceMul, r30, o1.cells.ld, mbl, Nat.reduceLeDiff, Nat.reduceLT, Int.reduceEq, h1, h2, h6, eq_true h7, eq_true hz, ct1]
      generalize hh1 : h ++ [row tkT h.length [iv t.k, tv t.t, iv t.n, iv at']] = h1 at o1 k1 ⊢
      refine XX_val (among_ok t.t marksW (by omega) (by decide) h1) ?_
      rw [am_marks]
      simp only [mach, mach2, mstd, ↓reduceIte, Nat.reduceEqDiff, Nat.reduceAdd, Nat.reduceMul, o1.cells.ld, mbl, Nat.reduceLeDiff, Nat.reduceLT, Int.reduceEq, ct1]
      exact hΨ _ _ (fin_ret (rv2 rfl rfl ⟨k1, _, by rw [hok]; rfl, fun _ => (txT_else n3 n4 (by omega)).symm⟩))
    · rw [decide_eq_false hz, Bool.false_and] at hok
      simp only [mach, mach2, mstd, ↓reduceIte, Nat.reduceEqDiff, Nat.reduceAdd, Nat.reduceMul, r30, o1.cells.ld, mbl, Nat.reduceLeDiff, Nat.reduceLT, Int.reduceEq, h1, h2, h6, eq_true h7, hz, ct1]
      exact hΨ _ _ (fin_ret (rv2 rfl rfl ⟨k1, _, by rw [hok]; rfl, fun _ => (txT_else n3 n4 (by omega)).symm⟩))
  by_cases h8 : t.k = 8
  · have n3 : t.k ≠ 3 := by omega
    have n4 : t.k ≠ 4 := by omega
    have hok := okT_else n3 n4
    rw [if_neg h7, if_pos h8] at hok
    by_cases hz : t.n = 0
    · rw [decide_eq_true hz, Bool.true_and] at hok
      simp only [mach, mach2, mstd, ↓reduceIte, Nat.reduceEqDiff, Nat.reduceAdd, Nat.reduceMul, r30, o1.cells.ld, mbl, Nat.reduceLeDiff, Nat.reduceLT, Int.reduceEq, h1, h2, h6, h7, eq_true h8, eq_true hz, ct1]
      generalize hh1 : h ++ [row tkT h.length [iv t.k, tv t.t, iv t.n, iv at']] = h1 at o1 k1 ⊢
      refine XX_val (among_ok t.t opsW (by omega) (by decide) h1) ?_
      rw [am_ops]
      simp only [mach, mach2, mstd, ↓reduceIte, Nat.reduceEqDiff, Nat.reduceAdd, Nat.reduceMul, o1.cells.ld, mbl, Nat.reduceLeDiff, Nat.reduceLT, Int.reduceEq, ct1]
      exact hΨ _ _ (fin_ret (rv2 rfl rfl ⟨k1, _, by rw [hok]; rfl, fun _ => (txT_else n3 n4 (by omega)).symm⟩))
    · rw [decide_eq_false hz, Bool.false_and] at hok
      simp only [mach, mach2, mstd, ↓reduceIte, Nat.reduceEqDiff, Nat.reduceAdd, Nat.reduceMul, r30, o1.cells.ld, mbl, Nat.reduceLeDiff, Nat.reduceLT, Int.reduceEq, h1, h2, h6, h7, eq_true h8, hz, ct1]
      exact hΨ _ _ (fin_ret (rv2 rfl rfl ⟨k1, _, by rw [hok]; rfl, fun _ => (txT_else n3 n4 (by omega)).symm⟩))
  by_cases h3 : t.k = 3
  · have hok : okT t = (decide (0 ≤ t.n) && (t.t == [])) := by unfold okT; rw [if_pos h3]
    have htx : txT t = Lib.itoa t.n := by unfold txT; rw [if_pos h3]
    by_cases hge : t.n < 0
    · simp only [mach, mach2, mstd, ↓reduceIte, Nat.reduceEqDiff, Nat.reduceAdd, Nat.reduceMul, r30, o1.cells.ld, mbl, Nat.reduceLeDiff, Nat.reduceLT, Int.reduceEq, h1, h2, h6, h7, h8, eq_true h3, eq_true hge, ct1]
      have hng : decide (0 ≤ t.n) = false := decide_eq_false (by omega)
      exact hΨ _ _ (fin_ret (rv2 rfl rfl ⟨k1, [], by rw [hok, hng]; rfl, fun e => by rw [hok, hng] at e; cases e⟩))
    · have hng : decide (0 ≤ t.n) = true := decide_eq_true (by omega)
      cases hE : (t.t == ([] : Bs)) with
      | true =>
        simp only [mach, mach2, mstd, ↓reduceIte, Nat.reduceEqDiff, Nat.reduceAdd, Nat.reduceMul, r30, o1.cells.ld, mbl, Nat.reduceLeDiff, Nat.reduceLT, Int.reduceEq, h1, h2, h6, h7, h8, eq_true h3, hge, ct1, tx_toList, mk_toList, hE]
        generalize hh1 : h ++ [row tkT h.length [iv t.k, tv t.t, iv t.n, iv at']] = h1 at o1 k1 ⊢
        obtain ⟨m, hm⟩ : ∃ m : Nat, t.n = m := ⟨t.n.toNat, by omega⟩
        rw [hm] at htx ⊢
        refine XX_val (digits_ok m (by omega) h1) ?_
        simp only [mach, mach2, mstd, ↓reduceIte, Nat.reduceEqDiff, Nat.reduceAdd, Nat.reduceMul, o1.cells.ld, mbl, Nat.reduceLeDiff, Nat.reduceLT, Int.reduceEq, ct1, tx_toList, mk_toList, hE]
        exact hΨ _ _ (fin_ret (rv2 rfl rfl ⟨k1, _, by rw [hok, hE, hng]; rfl, fun _ => htx.symm⟩))
      | false =>
        simp only [mach, mach2, mstd, ↓reduceIte, Nat.reduceEqDiff, Nat.reduceAdd, Nat.reduceMul, r30, o1.cells.ld, mbl, Nat.reduceLeDiff, Nat.reduceLT, Int.reduceEq, h1, h2, h6, h7, h8, eq_true h3, hge, ct1, tx_toList, mk_toList, hE]
        generalize hh1 : h ++ [row tkT h.length [iv t.k, tv t.t, iv t.n, iv at']] = h1 at o1 k1 ⊢
        obtain ⟨m, hm⟩ : ∃ m : Nat, t.n = m := ⟨t.n.toNat, by omega⟩
        rw [hm] at htx ⊢
        refine XX_val (digits_ok m (by omega) h1) ?_
        simp only [mach, mach2, mstd, ↓reduceIte, Nat.reduceEqDiff, Nat.reduceAdd, Nat.reduceMul, o1.cells.ld, mbl, Nat.reduceLeDiff, Nat.reduceLT, Int.reduceEq, ct1, tx_toList, mk_toList, hE]
        exact hΨ _ _ (fin_ret (rv2 rfl rfl ⟨k1, _, by rw [hok, hE, hng]; rfl, fun _ => htx.symm⟩))
  by_cases h4 : t.k = 4
  · have hok : okT t = ((escS t.n).isSome && (t.t == [])) := by unfold okT; rw [if_neg h3, if_pos h4]
    have htx : txT t = [39] ++ (escS t.n).getD [] ++ [39] := by unfold txT; rw [if_neg h3, if_pos h4]
    simp only [mach, mach2, mstd, ↓reduceIte, Nat.reduceEqDiff, Nat.reduceAdd, Nat.reduceMul, r30, o1.cells.ld, mbl, Nat.reduceLeDiff, Nat.reduceLT, Int.reduceEq, h1, h2, h6, h7, h8, h3, eq_true h4]
    generalize hh1 : h ++ [row tkT h.length [iv t.k, tv t.t, iv t.n, iv at']] = h1 at o1 k1 ⊢
    refine XX_of (rEscape_ok t.n h1) (fun res h2 hle hr => ?_)
    obtain ⟨k2, rfl⟩ := hr
    refine .ret ?_
    have o2 := o1.keep k2 (fun e => e)
    cases hes : escS t.n with
    | none =>
      rw [escV]
      have s1 : sbin .add (⟨#[39]⟩ : ByteArray) (⟨#[]⟩ : ByteArray) = some (tv [39]) := s_add (a := [39]) (b := []) (by simp)
      have s2 : sbin .add (tx [39]) (⟨#[39]⟩ : ByteArray) = some (tv [39, 39]) := s_add (a := [39]) (b := [39]) (by simp)
      cases hE : (t.t == ([] : Bs)) with
      | true =>
        simp only [mach, mach2, mstd, ↓reduceIte, Nat.reduceEqDiff, Nat.reduceAdd, Nat.reduceMul, o2.cells.ld, mbl, Nat.reduceLeDiff, Nat.reduceLT, Int.reduceEq, ct1, s1, s2, Int.reduceEq, tx_toList, mk_toList, hE]
        exact hΨ _ _ (fin_ret (rv2 rfl rfl ⟨k1.trans k2, _, by rw [hok, hes]; rfl, fun e => by rw [hok, hes] at e; cases e⟩))
      | false =>
        simp only [mach, mach2, mstd, ↓reduceIte, Nat.reduceEqDiff, Nat.reduceAdd, Nat.reduceMul, o2.cells.ld, mbl, Nat.reduceLeDiff, Nat.reduceLT, Int.reduceEq, ct1, s1, s2, Int.reduceEq, tx_toList, mk_toList, hE]
        exact hΨ _ _ (fin_ret (rv2 rfl rfl ⟨k1.trans k2, _, by rw [hok, hes]; rfl, fun e => by rw [hok, hes] at e; cases e⟩))
    | some l =>
      have hl4 := escS_len hes
      rw [escV]
      have s1 : sbin .add (⟨#[39]⟩ : ByteArray) (tx l) = some (tv ([39] ++ l)) := s_add (a := [39]) (b := l) (by simp; omega)
      have s2 : sbin .add (tx ([39] ++ l)) (⟨#[39]⟩ : ByteArray) = some (tv ([39] ++ l ++ [39])) := s_add (a := [39] ++ l) (b := [39]) (by simp; omega)
      cases hE : (t.t == ([] : Bs)) with
      | true =>
        simp only [mach, mach2, mstd, ↓reduceIte, Nat.reduceEqDiff, Nat.reduceAdd, Nat.reduceMul, o2.cells.ld, mbl, Nat.reduceLeDiff, Nat.reduceLT, Int.reduceEq, ct1, s1, s2, tx_toList, mk_toList, hE]
        exact hΨ _ _ (fin_ret (rv2 rfl rfl ⟨k1.trans k2, _, by rw [hok, hes, hE]; rfl, fun _ => by rw [htx, hes]; rfl⟩))
      | false =>
        simp only [mach, mach2, mstd, ↓reduceIte, Nat.reduceEqDiff, Nat.reduceAdd, Nat.reduceMul, o2.cells.ld, mbl, Nat.reduceLeDiff, Nat.reduceLT, Int.reduceEq, ct1, s1, s2, tx_toList, mk_toList, hE]
        exact hΨ _ _ (fin_ret (rv2 rfl rfl ⟨k1.trans k2, _, by rw [hok, hes, hE]; rfl, fun e => by rw [hok, hes, hE] at e; cases e⟩))
  have hok := okT_else h3 h4
  rw [if_neg h7, if_neg h8] at hok
  by_cases h5 : t.k = 5
  · rw [if_pos h5, Bool.and_true] at hok
    have htx : txT t = [34] ++ quoS t.t ++ [34] := by unfold txT; rw [if_neg h3, if_neg h4, if_pos h5]
    have hq := quoS_len t.t
    have s1 : sbin .add (⟨#[34]⟩ : ByteArray) (tx (quoS t.t)) = some (tv ([34] ++ quoS t.t)) := s_add (a := [34]) (b := quoS t.t) (by simp; omega)
    have s2 : sbin .add (tx ([34] ++ quoS t.t)) (⟨#[34]⟩ : ByteArray) = some (tv ([34] ++ quoS t.t ++ [34])) := s_add (a := [34] ++ quoS t.t) (b := [34]) (by simp; omega)
    simp only [mach, mach2, mstd, ↓reduceIte, Nat.reduceEqDiff, Nat.reduceAdd, Nat.reduceMul, r30, o1.cells.ld, mbl, Nat.reduceLeDiff, Nat.reduceLT, Int.reduceEq, h1, h2, h6, h7, h8, h3, h4, eq_true h5]
    generalize hh1 : h ++ [row tkT h.length [iv t.k, tv t.t, iv t.n, iv at']] = h1 at o1 k1 ⊢
    refine XX_of (rQuote_ok t.t hl h1) (fun res h2 hle hr => ?_)
    obtain ⟨k2, rfl⟩ := hr
    refine .ret ?_
    simp only [mach, mach2, mstd, ↓reduceIte, Nat.reduceEqDiff, Nat.reduceAdd, Nat.reduceMul, mbl, Nat.reduceLeDiff, Nat.reduceLT, Int.reduceEq, s1, s2]
    exact hΨ _ _ (fin_ret (rv2 rfl rfl ⟨k1.trans k2, _, by rw [hok]; rfl, fun _ => htx.symm⟩))
  · rw [if_neg h5, decide_eq_false (show ¬ (t.k = 1 ∨ t.k = 2 ∨ t.k = 6) by omega), Bool.false_and, Bool.and_false] at hok
    simp only [mach, mach2, mstd, ↓reduceIte, Nat.reduceEqDiff, Nat.reduceAdd, Nat.reduceMul, r30, o1.cells.ld, mbl, Nat.reduceLeDiff, Nat.reduceLT, Int.reduceEq, h1, h2, h6, h7, h8, h3, h4, h5]
    exact hΨ _ _ (fin_ret (rv2 rfl rfl ⟨k1, [], by rw [hok]; rfl, fun e => by rw [hok] at e; cases e⟩))
end Go.S07

/- Texts: lists of tokens as texts. -/
set_option linter.unusedVariables false
set_option linter.unusedSimpArgs false
namespace Go.S07
open Go Go.Eng Go.Proofs Go.Scn

/-- A token as it comes in: its place is any number. -/
abbrev Tg := Tk × Int
def tgC (x : Tg) : List Value := [iv x.1.k, tv x.1.t, iv x.1.n, iv x.2]
theorem tgC_len (x : Tg) : (tgC x).length = 4 := rfl
/-- Numbers of the machine, no text is longer than M. -/
def fitT (M : Nat) (t : Tk) : Prop := -9223372036854775808 ≤ t.n ∧ t.n ≤ 9223372036854775807 ∧ t.t.length ≤ M
theorem tg_at {h : AH} {v : Value} {n : Nat} {ts : List Tg} (hr : Rds h 4 v n (ts.flatMap tgC)) {i : Nat} {t : Tg} (hx : ts[i]? = some t) :
    ∃ b o c, v = .slice (some ⟨b, o, none⟩) n c ∧ i < n ∧ ldcs h b (o + i * 4) 4 = some (tgC t) := by
  have hl : i < ts.length := (List.getElem?_eq_some_iff.1 hx).1
  have hlen : (ts.flatMap tgC).length = ts.length * 4 := by
    clear hr hx hl
    induction ts with
    | nil => rfl
    | cons t ts ih => rw [List.flatMap_cons, List.length_append, ih, tgC_len, List.length_cons, Nat.add_mul]; omega
  have hn : i < n := by have := hr.len; rw [hlen] at this; omega
  obtain ⟨b, o, c, e, h1⟩ := rds_sub hr (i := i) (j := 0) (m := 4) hn (by omega)
  have h2 := flat_at (f := tgC) (k := 4) tgC_len hx (j := 0) (m := 4) (by omega)
  refine ⟨b, o, c, e, hn, ?_⟩
  rw [Nat.add_zero] at h1
  rw [h1, h2]; rfl

theorem itoa_len {n : Int} (h0 : -9223372036854775808 ≤ n) (h1 : n ≤ 9223372036854775807) : (Lib.itoa n).length ≤ 21 := by
  have hd : ∀ u : Nat, u < 18446744073709551616 → (Lib.decDigits u).length ≤ 20 := fun u hu => by
    rw [Lib.decDigits_length]
    rcases Nat.eq_zero_or_pos u with e | e
    · subst e; rw [Lib.nDigits_small (by omega)]; omega
    · have := Lib.numDigits_eq u e hu
      split at this <;> omega
  unfold Lib.itoa
  split
  · have := hd n.natAbs (by omega); simp; omega
  · have := hd n.toNat (by omega); omega
theorem txT_len {M : Nat} {t : Tk} (h : fitT M t) : (txT t).length ≤ 4 * M + 30 := by
  obtain ⟨h0, h1, h2⟩ := h
  unfold txT
  split
  · have := itoa_len h0 h1; omega
  · split
    · cases he : escS t.n with
      | none => simp
      | some l => have := escS_len he; simp; omega
    · split
      · have := quoS_len t.t; simp; omega
      · omega
def sepT (i : Nat) : Bs := if 0 < i then [32] else []
/-- Texts with blanks between. -/
def catT : List Tk → Bs
  | [] => []
  | t :: r => txT t ++ r.flatMap fun u => 32 :: txT u
theorem catT_snoc (ts : List Tk) (t : Tk) : catT (ts ++ [t]) = catT ts ++ sepT ts.length ++ txT t := by
  cases ts with
  | nil => simp [catT, sepT]
  | cons a r => simp [catT, sepT]
theorem catT_len {M : Nat} : ∀ (ts : List Tk), (∀ t ∈ ts, fitT M t) → (catT ts).length ≤ ts.length * (4 * M + 31) := by
  have aux : ∀ (r : List Tk), (∀ t ∈ r, fitT M t) → (r.flatMap fun u => 32 :: txT u).length ≤ r.length * (4 * M + 31) := by
    intro r
    induction r with
    | nil => intro _; simp
    | cons a r ih =>
      intro h
      have h1 := txT_len (h a List.mem_cons_self)
      have h2 := ih fun t ht => h t (List.mem_cons_of_mem _ ht)
      rw [List.flatMap_cons, List.length_append, List.length_cons, List.length_cons, Nat.add_mul]; omega
  intro ts h
  cases ts with
  | nil => simp [catT]
  | cons a r =>
    have h1 := txT_len (h a List.mem_cons_self)
    have h2 := aux r fun t ht => h t (List.mem_cons_of_mem _ ht)
    rw [catT, List.length_append, List.length_cons, Nat.add_mul]; omega
/-- What Text says. -/
def texS (ts : List Tk) : Bs × Int := if ts.all okT then (catT ts, 0) else ([], 7)

set_option maxHeartbeats 4000000 in
theorem Text_ok (ts : List Tg) (h : AH) (v : Value) (hr : Rds h 4 v ts.length (ts.flatMap tgC)) {M : Nat} (hM : M ≤ 4000000) (hN : ts.length ≤ 4000000) (hf : ∀ t ∈ ts.map (·.1), fitT M t) :
    Gets Tryd.prog 14 [v] h (fun res h' => Keep (fun _ => False) h h' ∧ res = .ret (.tuple #[tv (texS (ts.map (·.1))).1, iv (texS (ts.map (·.1))).2])) := by
  refine Gets.of (keep := false) hP (draw_ok (Go.S07.hM)) k14 (by rfl) (fun Ψ hΨ => ?_)
  obtain ⟨ua, uc, rfl⟩ := row_shape hr
  have ob := Own.new h bdT h.length [.pointer none, .slice none 0 0]
  have k1 : Keep (fun _ => False) h (h ++ [row bdT h.length [.pointer none, .slice none 0 0]]) := Keep.push _ _ _
  simp only [mach, mach2, mstd, ↓reduceIte, Nat.reduceEqDiff, Nat.reduceAdd, Nat.reduceMul, r14, mbl, Nat.reduceLeDiff, Nat.reduceLT, Int.reduceEq]
  generalize hh1 : h ++ [row bdT h.length [.pointer none, .slice none 0 0]] = h1 at ob k1 ⊢
  have hl1 : h1.length = h.length + 1 := by rw [← hh1]; simp
  refine XLo_rule (α := Nat × Value × Value) (fun a => [(4, .pointer (some ⟨h.length, 0, none⟩)), (9, .slice ua ts.length uc), (10, iv ts.length), (11, iv a.1)])
    (fun a h' => a.1 ≤ ts.length ∧ Keep (fun _ => False) h h' ∧ Bd h' h.length (catT ((ts.map (·.1)).take a.1)) a.2.1 a.2.2 ∧ ((ts.map (·.1)).take a.1).all okT = true) (fun a => ts.length - a.1) (0, .pointer none, .slice none 0 0)
    ⟨Nat.zero_le _, k1, ⟨ob, .inl rfl, .nil, fun q e => e.elim, fun _ => rfl⟩, rfl⟩ ⟨rfl, rfl, rfl, rfl, trivial⟩ ?_
  rintro ⟨i, ad, vb⟩ g1 Ψ2 ⟨hi, kp, bd, hall⟩ next out
  simp only at hi bd hall
  have hcl := catT_len ((ts.map (·.1)).take i) (fun t ht => hf t (List.mem_of_mem_take ht))
  have htl : ((ts.map (·.1)).take i).length = i := by simp; omega
  rw [htl] at hcl
  have hbig : i * (4 * M + 31) ≤ 4000000 * 16000031 := Nat.mul_le_mul (by omega) (by omega)
  have hbl := bd.own.lt
  by_cases hlt : (i : Int) < (ts.length : Int)
  case neg =>
    have hie : i = ts.length := by omega
    have htk : (ts.map (·.1)).take i = ts.map (·.1) := List.take_of_length_le (by simp; omega)
    rw [htk] at bd hall hcl
    simp only [mach, mach2, mstd, ↓reduceIte, Nat.reduceEqDiff, Nat.reduceAdd, Nat.reduceMul, hlt]
    refine out (.exit 0) _ _ _ _ (by intro e; cases e) ?_
    simp only [mach, mach2, mstd, ↓reduceIte, Nat.reduceEqDiff, Nat.reduceAdd, Nat.reduceMul]
    refine XX_of (string_ok bd (by omega)) (fun res g2 hle hrs => ?_)
    obtain ⟨rfl, m2⟩ := hrs
    refine .ret ?_
    simp only [mach, mach2, mstd, ↓reduceIte, Nat.reduceEqDiff, Nat.reduceAdd, Nat.reduceMul]
    refine hΨ _ _ (fin_ret (rv2 rfl rfl ⟨kp.trans' m2 (fun c hc e => by have := bd.ne c e; omega), ?_⟩))
    rw [texS, if_pos hall]; rfl
  have hil : i < ts.length := by omega
  have g0 : (0 : Int) ≤ (i : Int) := by omega
  have hx : ts[i]? = some ts[i] := List.getElem?_eq_getElem hil
  obtain ⟨b1, o1, c1, e1, _, l1⟩ := tg_at (hr.keep kp (fun _ _ e => e)) hx
  cases e1
  have ea : tgC ts[i] = [iv ts[i].1.k, tv ts[i].1.t, iv ts[i].1.n, iv ts[i].2] := rfl
  rw [ea] at l1
  simp only [mach, mach2, mstd, ↓reduceIte, Nat.reduceEqDiff, Nat.reduceAdd, Nat.reduceMul, hlt, g0, true_and, and_self, if_true, Int.toNat_natCast, l1, mbl, Nat.reduceLeDiff, Nat.reduceLT, Int.reduceEq]
  have k2 : Keep (fun _ => False) g1 (g1 ++ [row tkT g1.length [iv 0, tv [], iv 0, iv 0]]) := Keep.push _ _ _
  have l2 : (g1 ++ [row tkT g1.length [iv 0, tv [], iv 0, iv 0]]).length = g1.length + 1 := by simp
  refine XH_own (Own.new g1 tkT g1.length [iv 0, tv [], iv 0, iv 0]) rfl (by simp [Value.cells]) rfl (fun h5 p1 p2 p3 => ?_)
  have o5 : Own h5 g1.length tkT [iv ts[i].1.k, tv ts[i].1.t, iv ts[i].1.n, iv ts[i].2] := by simpa [Value.cells] using p1
  have k5 : Keep (fun _ => False) g1 h5 := k2.trans' p2 (fun c hc e => by omega)
  obtain ⟨hn0, hn1, hlM⟩ := hf ts[i].1 (List.mem_map.2 ⟨ts[i], List.getElem_mem _, rfl⟩)
  have hl5 : ldcs h5 g1.length 0 4 = some [iv ts[i].1.k, tv ts[i].1.t, iv ts[i].1.n, iv ts[i].2] := o5.cells.lds 0 4 (by simp)
  simp only [mach, mach2, mstd, ↓reduceIte, Nat.reduceEqDiff, Nat.reduceAdd, Nat.reduceMul, hl5]
  refine XX_of (text_ok ts[i].1 ts[i].2 hn0 hn1 (by omega) h5) (fun res g2 hle hrs => ?_)
  obtain ⟨m2, s, rfl, hs⟩ := hrs
  refine .ret ?_
  have k6 : Keep (fun _ => False) g1 g2 := k5.trans m2
  have bd2 : Bd g2 h.length (catT ((ts.map (·.1)).take i)) ad vb := ⟨bd.own.keep k6 (fun e => e), bd.ad, bd.ow.keep k6 (fun _ _ e => e), bd.ne, bd.nl⟩
  cases hok : okT ts[i].1 with
  | false =>
    simp only [mach, mach2, mstd, ↓reduceIte, Nat.reduceEqDiff, Nat.reduceAdd, Nat.reduceMul]
    refine out .ret _ _ _ _ (by intro e; cases e) ?_
    simp only [mach, mach2, mstd, ↓reduceIte, Nat.reduceEqDiff, Nat.reduceAdd, Nat.reduceMul]
    refine hΨ _ _ (fin_ret (rv2 rfl rfl ⟨kp.trans k6, ?_⟩))
    have hna : (ts.map (·.1)).all okT = false := by
      rw [List.all_eq_false]
      exact ⟨ts[i].1, List.mem_map.2 ⟨ts[i], List.getElem_mem _, rfl⟩, by rw [hok]; decide⟩
    rw [texS, hna]; rfl
  | true =>
    obtain rfl := hs hok
    have hsn : (ts.map (·.1)).take (i + 1) = (ts.map (·.1)).take i ++ [ts[i].1] := by
      rw [List.take_succ_eq_append_getElem (by simp; omega), List.getElem_map]
    have hcat : catT ((ts.map (·.1)).take (i + 1)) = catT ((ts.map (·.1)).take i) ++ sepT i ++ txT ts[i].1 := by rw [hsn, catT_snoc, htl]
    have hall' : ((ts.map (·.1)).take (i + 1)).all okT = true := by rw [hsn, List.all_append, hall]; simp [hok]
    have hwi : IntKind.i64.wrap ((i : Int) + 1) = ((i + 1 : Nat) : Int) := by rw [i64w (by omega) (by omega)]; omega
    have htxl := txT_len (hf ts[i].1 (List.mem_map.2 ⟨ts[i], List.getElem_mem _, rfl⟩))
    by_cases hi0 : i = 0
    · have hsp : sepT i = [] := by rw [hi0]; rfl
      have hz : ¬ (0 : Int) < (i : Int) := by omega
      simp only [mach, mach2, mstd, ↓reduceIte, Nat.reduceEqDiff, Nat.reduceAdd, Nat.reduceMul, mbl, Nat.reduceLeDiff, Nat.reduceLT, Int.reduceEq, hz]
      refine XX_of (writeString_ok bd2 (txT ts[i].1) (by omega)) (fun res g3 hle hr3 => ?_)
      obtain ⟨rfl, m3, v', bd3, f3⟩ := hr3
      refine .ret ?_
      simp only [mach, mach2, mstd, ↓reduceIte, Nat.reduceEqDiff, Nat.reduceAdd, Nat.reduceMul, hwi]
      refine next (i + 1, _, v') _ _ _ ⟨by simp only; omega, (kp.trans k6).trans' m3 (fun c hc e => ?_), by simp only; rw [hcat, hsp, List.append_nil]; exact bd3, hall'⟩ ⟨rfl, rfl, rfl, rfl, trivial⟩ (by simp only; omega)
      rcases e with e | e
      · omega
      · have := bd.ne c e; omega
    · have hsp : sepT i = [32] := by rw [sepT, if_pos (by omega)]
      have hz : (0 : Int) < (i : Int) := by omega
      simp only [mach, mach2, mstd, ↓reduceIte, Nat.reduceEqDiff, Nat.reduceAdd, Nat.reduceMul, mbl, Nat.reduceLeDiff, Nat.reduceLT, Int.reduceEq, hz]
      refine XX_of (writeByte_ok bd2 32 (by omega)) (fun res g3 hle hr3 => ?_)
      obtain ⟨rfl, m3, v', bd3, f3⟩ := hr3
      refine .ret ?_
      have q3 : Keep (fun _ => False) h g3 := (kp.trans k6).trans' m3 (fun c hc e => by
        rcases e with e | e
        · omega
        · have := bd.ne c e; omega)
      simp only [mach, mach2, mstd, ↓reduceIte, Nat.reduceEqDiff, Nat.reduceAdd, Nat.reduceMul]
      refine XX_of (writeString_ok bd3 (txT ts[i].1) (by simp only [List.length_append, List.length_cons, List.length_nil]; omega)) (fun res g4 hle hr4 => ?_)
      obtain ⟨rfl, m4, v4, bd4, f4⟩ := hr4
      refine .ret ?_
      simp only [mach, mach2, mstd, ↓reduceIte, Nat.reduceEqDiff, Nat.reduceAdd, Nat.reduceMul, hwi]
      refine next (i + 1, _, v4) _ _ _ ⟨by simp only; omega, q3.trans' m4 (fun c hc e => ?_), by simp only; rw [hcat, hsp]; exact bd4, hall'⟩ ⟨rfl, rfl, rfl, rfl, trivial⟩ (by simp only; omega)
      rcases e with e | e
      · omega
      · have := bd3.ne c e; omega
end Go.S07

/- Texts: tokens as a text, the document's side, the walk. -/
set_option linter.unusedVariables false
set_option linter.unusedSimpArgs false
namespace Go.S07
open Go Go.Eng Go.Proofs Go.Scn

set_option maxHeartbeats 4000000 in
theorem rText_ok (ts : List Tg) (h : AH) (v : Value) (hr : Rds h 4 v ts.length (ts.flatMap tgC)) {M : Nat} (hM' : M ≤ 4000000) (hN : ts.length ≤ 4000000) (hf : ∀ t ∈ ts.map (·.1), fitT M t) :
    Gets Tryd.prog 15 [v] h (fun res h' => Keep (fun _ => False) h h' ∧ res = .ret (.tuple #[tv (texS (ts.map (·.1))).1, iv (texS (ts.map (·.1))).2])) := by
  refine Gets.of (keep := false) hP (draw_ok hM) k15 (by rfl) (fun Ψ hΨ => ?_)
  obtain ⟨ua, uc, rfl⟩ := row_shape hr
  simp only [mach, mach2, mstd, ↓reduceIte, Nat.reduceEqDiff, Nat.reduceAdd, Nat.reduceMul, r15]
  refine XLo_rule (α := Nat × Value) (fun a => [(0, .slice ua ts.length uc), (4, a.2), (5, iv a.1)])
    (fun a h' => a.1 ≤ ts.length ∧ Keep (fun _ => False) h h' ∧ Ows h' 5 1 a.2 (catT ((ts.map (·.1)).take a.1)).length ((catT ((ts.map (·.1)).take a.1)).map bv) ∧ (∀ q, bk a.2 q → h.length ≤ q) ∧ ((ts.map (·.1)).take a.1).all okT = true) (fun a => ts.length - a.1) (0, .slice none 0 0)
    ⟨Nat.zero_le _, .refl _ _, .nil, fun q e => e.elim, rfl⟩ ⟨rfl, rfl, rfl, trivial⟩ ?_
  rintro ⟨i, v⟩ g1 Ψ2 ⟨hi, kp, ow, fr, hall⟩ next out
  simp only at hi ow fr hall
  have hcl := catT_len ((ts.map (·.1)).take i) (fun t ht => hf t (List.mem_of_mem_take ht))
  have htl : ((ts.map (·.1)).take i).length = i := by simp; omega
  rw [htl] at hcl
  have hbig : i * (4 * M + 31) ≤ 4000000 * 16000031 := Nat.mul_le_mul (by omega) (by omega)
  obtain ⟨va, vc, rfl⟩ := row_shape ow.rds
  by_cases hlt : (i : Int) < (ts.length : Int)
  case neg =>
    have hie : i = ts.length := by omega
    have htk : (ts.map (·.1)).take i = ts.map (·.1) := List.take_of_length_le (by simp; omega)
    rw [htk] at ow hall
    simp only [mach, mach2, mstd, ↓reduceIte, Nat.reduceEqDiff, Nat.reduceAdd, Nat.reduceMul, hlt]
    refine out (.exit 0) _ _ _ _ (by intro e; cases e) ?_
    rw [htk]
    simp only [mach, mach2, mstd, ↓reduceIte, Nat.reduceEqDiff, Nat.reduceAdd, Nat.reduceMul, b2s_tx ow.rds]
    refine hΨ _ _ (fin_ret (rv2 rfl rfl ⟨kp, ?_⟩))
    rw [texS, if_pos hall]; rfl
  have hil : i < ts.length := by omega
  have g0 : (0 : Int) ≤ (i : Int) := by omega
  have hx : ts[i]? = some ts[i] := List.getElem?_eq_getElem hil
  obtain ⟨b1, o1, c1, e1, _, l1⟩ := tg_at (hr.keep kp (fun _ _ e => e)) hx
  cases e1
  have ea : tgC ts[i] = [iv ts[i].1.k, tv ts[i].1.t, iv ts[i].1.n, iv ts[i].2] := rfl
  rw [ea] at l1
  obtain ⟨hn0, hn1, hlM⟩ := hf ts[i].1 (List.mem_map.2 ⟨ts[i], List.getElem_mem _, rfl⟩)
  simp only [mach, mach2, mstd, ↓reduceIte, Nat.reduceEqDiff, Nat.reduceAdd, Nat.reduceMul, hlt, g0, true_and, and_self, if_true, Int.toNat_natCast, l1, mbl, Nat.reduceLeDiff, Nat.reduceLT, Int.reduceEq]
  refine XX_of (one_ok ts[i].1 ts[i].2 hn0 hn1 (by omega) g1) (fun res g2 hle hrs => ?_)
  obtain ⟨m2, s, rfl, hs⟩ := hrs
  refine .ret ?_
  have ow2 := ow.keep m2 (fun _ _ e => e)
  cases hok : okT ts[i].1 with
  | false =>
    simp only [mach, mach2, mstd, ↓reduceIte, Nat.reduceEqDiff, Nat.reduceAdd, Nat.reduceMul]
    refine out .ret _ _ _ _ (by intro e; cases e) ?_
    simp only [mach, mach2, mstd, ↓reduceIte, Nat.reduceEqDiff, Nat.reduceAdd, Nat.reduceMul]
    refine hΨ _ _ (fin_ret (rv2 rfl rfl ⟨kp.trans m2, ?_⟩))
    have hna : (ts.map (·.1)).all okT = false := by
      rw [List.all_eq_false]
      exact ⟨ts[i].1, List.mem_map.2 ⟨ts[i], List.getElem_mem _, rfl⟩, by rw [hok]; decide⟩
    rw [texS, hna]; rfl
  | true =>
    obtain rfl := hs hok
    have hsn : (ts.map (·.1)).take (i + 1) = (ts.map (·.1)).take i ++ [ts[i].1] := by
      rw [List.take_succ_eq_append_getElem (by simp; omega), List.getElem_map]
    have hcat : catT ((ts.map (·.1)).take (i + 1)) = catT ((ts.map (·.1)).take i) ++ sepT i ++ txT ts[i].1 := by rw [hsn, catT_snoc, htl]
    have hall' : ((ts.map (·.1)).take (i + 1)).all okT = true := by rw [hsn, List.all_append, hall]; simp [hok]
    have hwi : IntKind.i64.wrap ((i : Int) + 1) = ((i + 1 : Nat) : Int) := by rw [i64w (by omega) (by omega)]; omega
    have htxl := txT_len (hf ts[i].1 (List.mem_map.2 ⟨ts[i], List.getElem_mem _, rfl⟩))
    by_cases hi0 : i = 0
    · have hsp : sepT i = [] := by rw [hi0]; rfl
      have hz : ¬ (0 : Int) < (i : Int) := by omega
      obtain ⟨s', h', a1, a2, a3, a4⟩ := ow2.app (bytes := 1) (str := true) (x := tv (txT ts[i].1)) (m := (txT ts[i].1).length) (xs := (txT ts[i].1).map bv) (by simp [srcv, tx_size, cells_tx]) (by simp) (by simp [Value.oneCell']) (by omega) (by omega)
      simp only [mach, mach2, mstd, ↓reduceIte, Nat.reduceEqDiff, Nat.reduceAdd, Nat.reduceMul, mbl, Nat.reduceLeDiff, Nat.reduceLT, Int.reduceEq, hz, a1, hwi]
      refine next (i + 1, s') _ _ _ ⟨by simp only; omega, (kp.trans m2).trans' a3 (fun q hq e => by have := fr q e; omega), ?_, fun q hq => ?_, hall'⟩ ⟨rfl, rfl, rfl, trivial⟩ (by simp only; omega)
      · simp only
        rw [hcat, hsp, List.append_nil, List.length_append, List.map_append]; exact a2
      · rcases a4 q hq with e | e
        · exact fr q e
        · have := (kp.trans m2).len; omega
    · have hsp : sepT i = [32] := by rw [sepT, if_pos (by omega)]
      have hz : (0 : Int) < (i : Int) := by omega
      obtain ⟨s1, h1, a1, a2, a3, a4⟩ := app1 (bytes := 1) ow2 (xs := [bv 32]) rfl rfl (by omega) (by omega)
      have b32 : bv 32 = .int .u8 32 := rfl
      rw [b32] at a1
      obtain ⟨sa, sc, rfl⟩ := row_shape a2.rds
      obtain ⟨s', h', d1, d2, d3, d4⟩ := a2.app (bytes := 1) (str := true) (x := tv (txT ts[i].1)) (m := (txT ts[i].1).length) (xs := (txT ts[i].1).map bv) (by simp [srcv, tx_size, cells_tx]) (by simp) (by simp [Value.oneCell']) (by omega) (by omega)
      have fr1 : ∀ q, bk (.slice sa ((catT ((ts.map (·.1)).take i)).length + 1) sc) q → h.length ≤ q := fun q hq => by
        rcases a4 q hq with e | e
        · exact fr q e
        · have := (kp.trans m2).len; omega
      have k3 : Keep (fun _ => False) h h1 := (kp.trans m2).trans' a3 (fun q hq e => by have := fr q e; omega)
      simp only [mach, mach2, mstd, ↓reduceIte, Nat.reduceEqDiff, Nat.reduceAdd, Nat.reduceMul, mbl, Nat.reduceLeDiff, Nat.reduceLT, Int.reduceEq, hz, a1, d1, hwi]
      refine next (i + 1, s') _ _ _ ⟨by simp only; omega, k3.trans' d3 (fun q hq e => by have := fr1 q e; omega), ?_, fun q hq => ?_, hall'⟩ ⟨rfl, rfl, rfl, trivial⟩ (by simp only; omega)
      · simp only
        rw [hcat, hsp, List.length_append, List.map_append, List.length_append, List.map_append]; exact d2
      · rcases d4 q hq with e | e
        · exact fr1 q e
        · have := k3.len; omega
end Go.S07

/- Texts: the law's walk. -/
set_option linter.unusedVariables false
set_option linter.unusedSimpArgs false
namespace Go.S07
open Go Go.Eng Go.Proofs Go.Scn

end Go.S07

/- Tokens that are given. -/
set_option linter.unusedVariables false
set_option linter.unusedSimpArgs false
namespace Go.S07
open Go Go.Eng Go.Proofs Go.Scn

noncomputable def fsTok : Array Field := match Tryd.prog.underlying 30 with
  | some (.struct fs) => fs
  | _ => #[]
theorem u_tok : Tryd.prog.underlying 30 = some (.struct fsTok) := by kernel_rfl
theorem f_tok : (fsTok.map fun f => (f.type, f.offset)).toList = [(3, 0), (9, 1), (3, 2), (3, 3)] := by kernel_rfl
theorem u_toks : Tryd.prog.underlying 23 = some (.slice 30) := by kernel_rfl
theorem u_strT : Tryd.prog.underlying 9 = some .string := by kernel_rfl
theorem u_intT : Tryd.prog.underlying 3 = some (.int .i64) := by kernel_rfl
theorem c_tok : Tryd.prog.cellsOf 30 = 4 := by kernel_rfl
theorem c_intT : Tryd.prog.cellsOf 3 = 1 := by kernel_rfl
theorem c_strT : Tryd.prog.cellsOf 9 = 1 := by kernel_rfl
theorem len4' {cs : List Value} (h : cs.length = 4) : ∃ a b c e, cs = [a, b, c, e] := by
  obtain ⟨a, r, rfl⟩ := List.exists_cons_of_length_eq_add_one h
  obtain ⟨b, r, rfl⟩ := List.exists_cons_of_length_eq_add_one (Nat.succ.inj h)
  obtain ⟨c, r, rfl⟩ := List.exists_cons_of_length_eq_add_one (Nat.succ.inj (Nat.succ.inj h))
  obtain ⟨e, r, rfl⟩ := List.exists_cons_of_length_eq_add_one (Nat.succ.inj (Nat.succ.inj (Nat.succ.inj h)))
  obtain rfl := List.eq_nil_of_length_eq_zero (Nat.succ.inj (Nat.succ.inj (Nat.succ.inj (Nat.succ.inj h))))
  exact ⟨_, _, _, _, rfl⟩
section
variable {H : Type} {h : AH} {N : Nat}
theorem tok_of (B : Bulk H) {cs : List Value} {d : DataW H} (hr : Rd' Tryd.prog h 30 cs d) (hB : B.f d ≤ N) : ∃ x : Tg, cs = tgC x ∧ fitT N x.1 := by
  obtain ⟨hl, hf⟩ := rdT B u_tok f_tok hr
  rw [c_tok] at hl
  obtain ⟨a, b, c, e, rfl⟩ := len4' hl
  obtain ⟨d0, r0, b0⟩ := hf 0 _ _ rfl
  obtain ⟨d1, r1, b1⟩ := hf 1 _ _ rfl
  obtain ⟨d2, r2, b2⟩ := hf 2 _ _ rfl
  obtain ⟨d3, r3, b3⟩ := hf 3 _ _ rfl
  rw [c_intT] at r0 r2 r3
  rw [c_strT] at r1
  obtain ⟨n0, e0, g0⟩ := rdI u_intT r0
  obtain ⟨s, e1, g1⟩ := rdS B u_strT r1
  obtain ⟨n2, e2, g2⟩ := rdI u_intT r2
  obtain ⟨n3, e3, g3⟩ := rdI u_intT r3
  simp at e0 e1 e2 e3
  subst e0; subst e1; subst e2; subst e3
  have hsz : s.data.toList.length = s.size := Array.length_toList
  have e2 : Value.string s = tv s.data.toList := by rw [tv, ← tx_of]
  exact ⟨(⟨n0, s.data.toList, n2, 0⟩, n3), by rw [e2]; rfl, g2.1, g2.2, by show s.data.toList.length ≤ N; omega⟩
theorem toks_of (B : Bulk H) {v : Value} {d : DataW H} (hr : Rd' Tryd.prog h 23 [v] d) (hB : B.f d ≤ N) : ∃ ts : List Tg, Rds h 4 v ts.length (ts.flatMap tgC) ∧ (∀ t ∈ ts.map (·.1), fitT N t) ∧ ts.length ≤ N := by
  obtain ⟨ts, h1, h2, h3⟩ := rdRow B (f := tgC) (Q := fun x => fitT N x.1) u_toks tgC_len (fun cs d' r hb => tok_of B r hb) hr hB
  refine ⟨ts, h1, fun t ht => ?_, h3⟩
  obtain ⟨x, hx, rfl⟩ := List.mem_map.1 ht
  exact h2 x hx
end
end Go.S07

/- Tokens: what is given stays as it was, the law's walk. -/
set_option linter.unusedVariables false
set_option linter.unusedSimpArgs false
namespace Go.S07
open Go Go.Eng Go.Proofs Go.Scn

theorem ceq_tg (x : Tg) : ceq [0, 2, 0, 0] (tgC x) (tgC x) = some true := by
  have : (tx x.1.t == tx x.1.t) = true := by
    first
      | exact beq_self_eq_true (tx x.1.t)
      | (show ((tx x.1.t).data == (tx x.1.t).data) = true; simp)
  simp [ceq, tgC, this]

theorem sameG_ok (ts : List Tg) (h : AH) (u v : Value) (hu : Rds h 4 u ts.length (ts.flatMap tgC)) (hv : Rds h 4 v ts.length (ts.flatMap tgC)) (hl : ts.length ≤ 9223372036854775800) : Gets Tryd.prog 12 [u, v] h (fun res h' => h' = h ∧ res = .ret (.bool true)) := by
  refine Gets.of (keep := false) hP (draw_ok hM) k12 (by rfl) (fun Ψ hΨ => ?_)
  obtain ⟨ua, uc, rfl⟩ := row_shape hu
  obtain ⟨va, vc, rfl⟩ := row_shape hv
  simp only [mach, mach2, mstd, ↓reduceIte, Nat.reduceEqDiff, Nat.reduceAdd, Nat.reduceMul, r12]
  refine XLo_rule (α := Nat) (fun i => [(0, .slice ua ts.length uc), (1, .slice va ts.length vc), (5, iv i)]) (fun i h' => h' = h ∧ i ≤ ts.length) (fun i => ts.length - i) 0 ⟨rfl, Nat.zero_le _⟩ ⟨rfl, rfl, rfl, trivial⟩ ?_
  rintro i h1 Ψ2 ⟨rfl, hi⟩ next out
  by_cases hlt : (i : Int) < (ts.length : Int)
  · have hil : i < ts.length := by omega
    have g0 : (0 : Int) ≤ (i : Int) := by omega
    have hx : ts[i]? = some ts[i] := List.getElem?_eq_getElem hil
    obtain ⟨b1, o1, c1, e1, _, l1⟩ := tg_at hu hx
    obtain ⟨b2, o2, c2, e2, _, l2⟩ := tg_at hv hx
    cases e1; cases e2
    have hw : IntKind.i64.wrap ((i : Int) + 1) = ((i + 1 : Nat) : Int) := by rw [i64w (by omega) (by omega)]; omega
    simp only [mach, mach2, mstd, ↓reduceIte, Nat.reduceEqDiff, Nat.reduceAdd, Nat.reduceMul, hlt, g0, and_self, Int.toNat_natCast, l1, l2, ceq_tg, ct1, hw]
    exact next (i + 1) _ _ _ ⟨rfl, by omega⟩ ⟨rfl, rfl, rfl, trivial⟩ (by omega)
  · simp only [mach, mach2, mstd, ↓reduceIte, Nat.reduceEqDiff, Nat.reduceAdd, Nat.reduceMul, hlt]
    refine out (.exit 0) _ _ _ _ (by intro e; cases e) ?_
    simp only [mach, mach2, mstd, ↓reduceIte, Nat.reduceEqDiff, Nat.reduceAdd, Nat.reduceMul]
    exact hΨ _ _ (fin_ret (rv1 rfl ⟨rfl, rfl⟩))

/-- The first part of a row of one's own. -/
theorem ows_pre {h : AH} {e : TypeId} {sz n m c : Nat} {a : Option Addr} {cs xs : List Value} (x : Ows h e sz (.slice a (n + m) c) (n + m) (cs ++ xs)) (hl : cs.length = n * sz) (hm : 0 < m) :
    ∃ b, a = some ⟨b, 0, none⟩ ∧ sllv h e sz (.slice a (n + m) c) none (some (iv n)) = some (.slice (some ⟨b, 0, none⟩) n c, none) ∧ Rds h sz (.slice (some ⟨b, 0, none⟩) n c) n cs := by
  generalize hN : n + m = N at x
  generalize hC : cs ++ xs = C at x
  cases x with
  | nil => omega
  | mk hb h1 h2 h3 =>
    rename_i b all
    refine ⟨b, rfl, ?_, ?_⟩
    · obtain ⟨g, hb⟩ := hb
      have : (n : Int) ≤ (c : Int) := by omega
      simp [sllv, helem, hb, bnd, this]
    · subst hC
      have hall : all.take (n * sz) = cs := by
        have e1 : (all.take (N * sz)).take (n * sz) = all.take (n * sz) := by rw [List.take_take, Nat.min_eq_left (Nat.mul_le_mul_right _ (by omega))]
        rw [← e1, h3, ← hl, List.take_left]
      exact .mk hb.cells (by have := Nat.mul_le_mul_right sz (show n ≤ c by omega); omega) (by rw [List.drop_zero]; exact hall)

/-- A store into a row of one's own. -/
theorem ows_st {h : AH} {e : TypeId} {sz n : Nat} {v : Value} {cs : List Value} (ho : Ows h e sz v n cs) {i : Nat} (hi : i < n) {x : Value} (hx : sz = x.cells.size) (h1 : x.cells.toList.all Value.oneCell' = true) :
    ∃ b c h' cs', v = .slice (some ⟨b, 0, none⟩) n c ∧ stv h sz (.pointer (some ⟨b, i * sz, none⟩)) x = some h' ∧ Ows h' e sz v n cs' ∧ Keep (bk v) h h' := by
  cases ho with
  | nil => omega
  | mk hb q1 q2 q3 =>
    rename_i b c all
    have hx' : x.cells.toList.length = sz := by rw [hx]; exact Array.length_toList
    have hm : (i + 1) * sz ≤ c * sz := Nat.mul_le_mul_right _ (by omega)
    rw [Nat.add_mul, Nat.one_mul] at hm
    obtain ⟨h', s1, s2, s3, s4⟩ := hb.store (i := i * sz) (vs := x.cells.toList) (by omega) h1
    refine ⟨b, c, h', _, rfl, ?_, .mk s2 (by simp only [List.length_append, List.length_take, List.length_drop]; omega) q2 rfl, s3.mono fun _ e => e⟩
    simp only [stv, if_pos hx, s1]

set_option maxHeartbeats 4000000 in
theorem ScanKeeps_ok (s : Bs) (ts : List Tg) (h : AH) (v : Value) (hr : Rds h 4 v ts.length (ts.flatMap tgC)) {M : Nat} (hM' : M ≤ 4000000) (hN : ts.length ≤ 4000000) (hf : ∀ t ∈ ts.map (·.1), fitT M t) :
    Gets Tryd.prog 8 [tv s, v] h (fun res h' => Keep (fun _ => False) h h' ∧ res = .ret (.bool true)) := by
  refine Gets.of (keep := false) hP (draw_ok hM) k8 (by rfl) (fun Ψ hΨ => ?_)
  obtain ⟨ua, uc, rfl⟩ := row_shape hr
  simp only [mach, mach2, mstd, ↓reduceIte, Nat.reduceEqDiff, Nat.reduceAdd, Nat.reduceMul, r8]
  refine XX_of (wakes_ok h) (fun res h1 hle hrs => ?_)
  obtain ⟨k1, rfl⟩ := hrs
  refine .ret ?_
  have kE : Keep (fun _ => False) h1 (h1 ++ [row tkT h1.length []]) := Keep.push _ _ _
  have hr1 := (hr.keep k1 (fun _ _ e => e)).keep kE (fun _ _ e => e)
  have owE : Ows (h1 ++ [row tkT h1.length []]) tkT 4 (.slice (some ⟨h1.length, 0, none⟩) 0 0) 0 [] := .mk (Own.new h1 tkT h1.length []) rfl (Nat.le_refl _) rfl
  have hone : (ts.flatMap tgC).all Value.oneCell' = true := by
    rw [List.all_flatMap]
    exact List.all_eq_true.2 fun _ _ => rfl
  have hlen : (ts.flatMap tgC).length = ts.length * 4 := hr.len
  obtain ⟨_, hsrc, rfl⟩ := hr1.src hone
  obtain ⟨c1, h2, a1, a2, a3, a4⟩ := owE.app (bytes := 40) hsrc hlen hone (by omega) (by omega)
  have k2 : Keep (fun _ => False) h h2 := (k1.trans kE).trans' a3 (fun q hq e => by
    have : q = h1.length := e
    have := k1.len; omega)
  rw [Nat.zero_add, List.nil_append] at a2
  obtain ⟨ca, cc, rfl⟩ := row_shape a2.rds
  simp only [mach, mach2, mstd, ↓reduceIte, Nat.reduceEqDiff, Nat.reduceAdd, Nat.reduceMul, mbl, Nat.reduceLeDiff, Nat.reduceLT, Int.reduceEq, a1]
  have kF : Keep (fun _ => False) h2 (h2 ++ [row tkT h2.length [iv 70, .string ⟨#[]⟩, iv 0, iv 0, iv 71, .string ⟨#[]⟩, iv 0, iv 0]]) := Keep.push _ _ _
  have hrF : Rds (h2 ++ [row tkT h2.length [iv 70, .string ⟨#[]⟩, iv 0, iv 0, iv 71, .string ⟨#[]⟩, iv 0, iv 0]]) 4 (.slice (some ⟨h2.length, 0, none⟩) 2 2) 2 [iv 70, .string ⟨#[]⟩, iv 0, iv 0, iv 71, .string ⟨#[]⟩, iv 0, iv 0] := .mk (Own.new h2 tkT _ _).cells (by simp) rfl
  obtain ⟨_, srcF, rfl⟩ := hrF.src rfl
  obtain ⟨d1, h3, b1, b2, b3, b4⟩ := (a2.keep kF (fun _ _ e => e)).app (bytes := 40) srcF rfl rfl (by omega) (by omega)
  obtain ⟨da, dc, rfl⟩ := row_shape b2.rds
  have frc : ∀ q, bk (.slice ca ts.length cc) q → h1.length ≤ q := fun q hq => by
    rcases a4 q hq with e | e
    · have : q = h1.length := e
      omega
    · simp at e; omega
  have hk1 := k1.len
  have k3 : Keep (fun _ => False) h h3 := (k2.trans kF).trans' b3 (fun q hq e => by have := frc q e; omega)
  simp only [mach, mach2, mstd, ↓reduceIte, Nat.reduceEqDiff, Nat.reduceAdd, Nat.reduceMul, mbl, Nat.reduceLeDiff, Nat.reduceLT, Int.reduceEq, b1]
  refine XX_of (rText_ok ts h3 _ (hr.keep k3 (fun _ _ e => e)) hM' hN hf) (fun res h4 hle hrs => ?_)
  obtain ⟨k4, rfl⟩ := hrs
  refine .ret ?_
  have b24 := b2.keep k4 (fun _ _ e => e)
  obtain ⟨bb, rfl, sl4, rp4⟩ := ows_pre b24 hlen (by omega)
  simp only [mach, mach2, mstd, ↓reduceIte, Nat.reduceEqDiff, Nat.reduceAdd, Nat.reduceMul, mbl, Nat.reduceLeDiff, Nat.reduceLT, Int.reduceEq, sl4]
  refine XX_of (Text_ok ts h4 _ rp4 hM' hN hf) (fun res h5 hle hrs => ?_)
  obtain ⟨k5, rfl⟩ := hrs
  refine .ret ?_
  have b25 := b24.keep k5 (fun _ _ e => e)
  obtain ⟨bb', e5, sl5, rp5⟩ := ows_pre b25 hlen (by omega)
  cases e5
  have hr5 := hr.keep ((k3.trans k4).trans k5) (fun _ _ e => e)
  simp only [mach, mach2, mstd, ↓reduceIte, Nat.reduceEqDiff, Nat.reduceAdd, Nat.reduceMul, mbl, Nat.reduceLeDiff, Nat.reduceLT, Int.reduceEq, mk_toList, beq_self_eq_true, sl5]
  have sm := sameG_ok ts h5 _ _ rp5 hr5 (by omega)
  refine XX_of sm (fun res h6 hle hrs => ?_)
  obtain ⟨rfl, rfl⟩ := hrs
  refine .ret ?_
  have hcell : ∀ i, i < 8 → ldc h6 bb (ts.length * 4 + i) = [iv 70, .string ⟨#[]⟩, iv 0, iv 0, iv 71, .string ⟨#[]⟩, iv 0, iv 0][i]? := fun i hi => by
    cases b25 with
    | mk hb q1 q2 q3 =>
      rw [hb.cells.ld]
      have := congrArg (fun l => l[ts.length * 4 + i]?) q3
      simp only [List.getElem?_take] at this
      rw [if_pos (by omega), List.getElem?_append_right (by omega), hlen] at this
      rw [this]; congr 1; omega
  have l70 : ldc h6 bb (ts.length * 4) = some (iv 70) := hcell 0 (by omega)
  have l71 : ldc h6 bb ((ts.length + 1) * 4) = some (iv 71) := by
    have := hcell 4 (by omega)
    rw [show ts.length * 4 + 4 = (ts.length + 1) * 4 by omega] at this
    exact this
  have g0 : (0 : Int) ≤ (ts.length : Int) := by omega
  have g1 : (0 : Int) ≤ ((ts.length + 1 : Nat) : Int) := by omega
  have lt0 : (ts.length : Int) < ((ts.length + 2 : Nat) : Int) := by omega
  have lt1 : ((ts.length + 1 : Nat) : Int) < ((ts.length + 2 : Nat) : Int) := by omega
  have hw : IntKind.i64.wrap ((ts.length : Int) + 1) = ((ts.length + 1 : Nat) : Int) := by rw [i64w (by omega) (by omega)]; omega
  simp only [mach, mach2, mstd, ↓reduceIte, Nat.reduceEqDiff, Nat.reduceAdd, Nat.reduceMul, mbl, Nat.reduceLeDiff, Nat.reduceLT, Int.reduceEq, g0, lt0, g1, lt1, true_and, and_self, if_true, Int.toNat_natCast, Nat.zero_add, l70, l71, hw]
  have kk6 := (k3.trans k4).trans k5
  refine XX_of (Tokens_ok s h6) (fun res h7 hle hrs => ?_)
  obtain ⟨k7, lv, rfl, ow7, fr7⟩ := hrs
  refine .ret ?_
  simp only [mach, mach2, mstd, ↓reduceIte, Nat.reduceEqDiff, Nat.reduceAdd, Nat.reduceMul, mbl, Nat.reduceLeDiff, Nat.reduceLT, Int.reduceEq]
  refine XX_of (Tokens_ok s h7) (fun res h8 hle hrs => ?_)
  obtain ⟨k8, lw, rfl, ow8, fr8⟩ := hrs
  refine .ret ?_
  simp only [mach, mach2, mstd, ↓reduceIte, Nat.reduceEqDiff, Nat.reduceAdd, Nat.reduceMul, mbl, Nat.reduceLeDiff, Nat.reduceLT, Int.reduceEq]
  refine XX_of (rTokens_ok s h8) (fun res h9 hle hrs => ?_)
  obtain ⟨k9, lx, rfl, ow9, fr9⟩ := hrs
  refine .ret ?_
  have kk9 := ((kk6.trans k7).trans k8).trans k9
  have ow79 := (ow7.keep k8 (fun _ _ e => e)).keep k9 (fun _ _ e => e)
  have hlF := tokF_len s
  obtain ⟨la, lc, rfl⟩ := row_shape ow7.rds
  have hk6 := kk6.len
  simp only [mach, mach2, mstd, ↓reduceIte, Nat.reduceEqDiff, Nat.reduceAdd, Nat.reduceMul, mbl, Nat.reduceLeDiff, Nat.reduceLT, Int.reduceEq]
  refine XLo_rule (α := Nat) (fun i => [(0, tv s), (10, .slice la (tokF s).1.length lc), (13, lw), (16, lx), (19, iv i)])
    (fun i h' => i ≤ (tokF s).1.length ∧ Keep (bk (.slice la (tokF s).1.length lc)) h9 h' ∧ ∃ cs, Ows h' tkT 4 (.slice la (tokF s).1.length lc) (tokF s).1.length cs) (fun i => (tokF s).1.length - i) 0
    ⟨Nat.zero_le _, .refl _ _, _, ow79⟩ ⟨rfl, rfl, rfl, rfl, rfl, trivial⟩ ?_
  rintro i g1 Ψ2 ⟨hi, kp, cs, ow⟩ next out
  by_cases hlt : (i : Int) < ((tokF s).1.length : Int)
  · have hil : i < (tokF s).1.length := by omega
    have gi : (0 : Int) ≤ (i : Int) := by omega
    obtain ⟨b, c, h', cs', e, st1, o2, kst⟩ := ows_st ow hil (x := .agg #[iv 80, .string ⟨#[]⟩, iv 0, iv 0]) rfl rfl
    cases e
    have hwi : IntKind.i64.wrap ((i : Int) + 1) = ((i + 1 : Nat) : Int) := by rw [i64w (by omega) (by omega)]; omega
    simp only [mach, mach2, mstd, ↓reduceIte, Nat.reduceEqDiff, Nat.reduceAdd, Nat.reduceMul, mbl, Nat.reduceLeDiff, Nat.reduceLT, Int.reduceEq, hlt, gi, true_and, and_self, if_true, Int.toNat_natCast, st1, hwi]
    exact next (i + 1) _ _ _ ⟨by omega, kp.trans kst, cs', o2⟩ ⟨rfl, rfl, rfl, rfl, rfl, trivial⟩ (by omega)
  · simp only [mach, mach2, mstd, ↓reduceIte, Nat.reduceEqDiff, Nat.reduceAdd, Nat.reduceMul, hlt]
    refine out (.exit 0) _ _ _ _ (by intro e; cases e) ?_
    simp only [mach, mach2, mstd, ↓reduceIte, Nat.reduceEqDiff, Nat.reduceAdd, Nat.reduceMul, mbl, Nat.reduceLeDiff, Nat.reduceLT, Int.reduceEq]
    have kG : Keep (fun _ => False) g1 (g1 ++ [row tkT g1.length [iv 81, .string ⟨#[]⟩, iv 0, iv 0]]) := Keep.push _ _ _
    have hrG : Rds (g1 ++ [row tkT g1.length [iv 81, .string ⟨#[]⟩, iv 0, iv 0]]) 4 (.slice (some ⟨g1.length, 0, none⟩) 1 1) 1 [iv 81, .string ⟨#[]⟩, iv 0, iv 0] := .mk (Own.new g1 tkT _ _).cells (by simp) rfl
    obtain ⟨_, srcG, rfl⟩ := hrG.src rfl
    obtain ⟨e1, g2, w1, w2, w3, w4⟩ := (ow.keep kG (fun _ _ e => e)).app (bytes := 40) srcG rfl rfl (by omega) (by omega)
    obtain ⟨ea, ec, rfl⟩ := row_shape w2.rds
    have lv7 := ow7.lt
    have kk7 := k7.len
    have kW : Keep (bk (.slice la (tokF s).1.length lc)) h9 g2 := (kp.trans (kG.mono (fun _ e => e.elim))).trans w3
    have ow8g := (ow8.keep k9 (fun _ _ e => e)).keep kW (fun q hq e => by
      have := fr8 q hq
      have := lv7 q e
      omega)
    have ow9g := ow9.keep kW (fun q hq e => by
      have := fr9 q hq
      have := lv7 q e
      have := k8.len
      omega)
    have kE9 : Keep (fun _ => False) h g2 := kk9.trans' kW (fun q hq e => by
      have := fr7 q e
      omega)
    simp only [mach, mach2, mstd, ↓reduceIte, Nat.reduceEqDiff, Nat.reduceAdd, Nat.reduceMul, mbl, Nat.reduceLeDiff, Nat.reduceLT, Int.reduceEq, w1]
    refine XX_of (same_ok (tokF s).1 g2 _ _ ow8g.rds ow9g.rds (by omega)) (fun res g3 hle hrs => ?_)
    obtain ⟨rfl, rfl⟩ := hrs
    refine .ret ?_
    simp only [mach, mach2, mstd, ↓reduceIte, Nat.reduceEqDiff, Nat.reduceAdd, Nat.reduceMul, mbl, Nat.reduceLeDiff, Nat.reduceLT, Int.reduceEq]
    refine XX_of (Tokens_ok s g3) (fun res g4 hle hrs => ?_)
    obtain ⟨k10, ly, rfl, ow10, fr10⟩ := hrs
    refine .ret ?_
    simp only [mach, mach2, mstd, ↓reduceIte, Nat.reduceEqDiff, Nat.reduceAdd, Nat.reduceMul, mbl, Nat.reduceLeDiff, Nat.reduceLT, Int.reduceEq]
    have ow9y := ow9g.keep k10 (fun _ _ e => e)
    refine XX_of (same_ok (tokF s).1 g4 _ _ ow10.rds ow9y.rds (by omega)) (fun res g5 hle hrs => ?_)
    obtain ⟨rfl, rfl⟩ := hrs
    refine .ret ?_
    have w25 := w2.keep k10 (fun _ _ e => e)
    have hlc := ow.len
    obtain ⟨bz, rfl, l81⟩ : ∃ bz, ea = some ⟨bz, 0, none⟩ ∧ ldc g5 bz ((tokF s).1.length * 4) = some (iv 81) := by
      cases w25 with
      | mk hb q1 q2 q3 =>
        refine ⟨_, rfl, ?_⟩
        rw [hb.cells.ld]
        have := congrArg (fun l => l[(tokF s).1.length * 4]?) q3
        simp only [List.getElem?_take] at this
        rw [if_pos (by omega), List.getElem?_append_right (by omega), hlc, Nat.sub_self] at this
        exact this
    have hws : IntKind.i64.wrap ((((tokF s).1.length + 1 : Nat) : Int) - 1) = ((tokF s).1.length : Int) := by rw [i64w (by omega) (by omega)]; omega
    have gn : (0 : Int) ≤ ((tokF s).1.length : Int) := by omega
    have ltn : ((tokF s).1.length : Int) < (((tokF s).1.length + 1 : Nat) : Int) := by omega
    simp only [mach, mach2, mstd, ↓reduceIte, Nat.reduceEqDiff, Nat.reduceAdd, Nat.reduceMul, mbl, Nat.reduceLeDiff, Nat.reduceLT, Int.reduceEq, hws, gn, ltn, true_and, and_self, if_true, Int.toNat_natCast, Nat.zero_add, l81]
    exact hΨ _ _ (fin_ret (rv1 rfl ⟨kE9.trans k10, rfl⟩))
end Go.S07
