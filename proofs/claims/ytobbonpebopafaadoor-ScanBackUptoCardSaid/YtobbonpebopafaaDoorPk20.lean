import Derived.Test.YtobbonpebopafaaDoorPk19
import Derived.Test.YtobbonpebopafaaDoorPk13
import Derived.Test.YtobbonpebopafaaDoorPk14
/- Texts: one token as a text, the walk. -/
set_option linter.unusedVariables false
set_option linter.unusedSimpArgs false
namespace Go.S07
open Go Go.Eng Go.Proofs Go.Scn

def TxO (h : AH) (t : Tk) (res : Res) (h' : AH) : Prop := Keep (fun _ => False) h h' ∧ ∃ s, res = .ret (.tuple #[tv s, .bool (okT t)]) ∧ (okT t = true → s = txT t)
theorem okT_else {t : Tk} (h3 : t.k ≠ 3) (h4 : t.k ≠ 4) : okT t = (decide (t.n = 0) && (if t.k = 7 then markL.contains t.t else if t.k = 8 then opL.contains t.t else if t.k = 5 then true else
    decide (t.k = 1 ∨ t.k = 2 ∨ t.k = 6) && decide (nameK t.t = t.k))) := by unfold okT; rw [if_neg h3, if_neg h4]
theorem txT_else {t : Tk} (h3 : t.k ≠ 3) (h4 : t.k ≠ 4) (h5 : t.k ≠ 5) : txT t = t.t := by unfold txT; rw [if_neg h3, if_neg h4, if_neg h5]

/-- A text in quotes, by a Builder. -/
structure QI (h : AH) (b rb : Nat) (t : Bs) (i : Nat) (v : Value) (h' : AH) : Prop where
  kp : Keep (fun _ => False) h h'
  bd : Bd h' b ([34] ++ quoS (t.take i)) (.pointer (some ⟨b, 0, none⟩)) v
  ro : Rds h' 1 (.slice (some ⟨rb, 0, none⟩) t.length t.length) t.length (t.map bv)
  lt : rb < h'.length
  ne : ∀ q, bk v q → q ≠ rb
  brb : b ≠ rb

set_option maxHeartbeats 4000000 in
theorem text_ok (t : Tk) (at' : Int) (hn0 : -9223372036854775808 ≤ t.n) (hn1 : t.n ≤ 9223372036854775807) (hl : t.t.length ≤ 10000000000000) (h : AH) :
    Gets Tryd.prog 26 [.agg #[iv t.k, tv t.t, iv t.n, iv at']] h (TxO h t) := by
  refine Gets.of (keep := false) hP (draw_ok hM) k26 (by rfl) (fun Ψ hΨ => ?_)
  have o1 := Own.new h tkT h.length [iv t.k, tv t.t, iv t.n, iv at']
  have k1 : Keep (fun _ => False) h (h ++ [row tkT h.length [iv t.k, tv t.t, iv t.n, iv at']]) := Keep.push _ _ _
  by_cases h3 : t.k = 3
  · have hok : okT t = (decide (0 ≤ t.n) && (t.t == [])) := by unfold okT; rw [if_pos h3]
    have htx : txT t = Lib.itoa t.n := by unfold txT; rw [if_pos h3]
    simp only [mach, mach2, mstd, ↓reduceIte, Nat.reduceEqDiff, Nat.reduceAdd, Nat.reduceMul, r26, o1.cells.ld, mbl, Nat.reduceLeDiff, Nat.reduceLT, Int.reduceEq, eq_true h3]
    generalize hh1 : h ++ [row tkT h.length [iv t.k, tv t.t, iv t.n, iv at']] = h1 at o1 k1 ⊢
    refine XX_val (itoa_ok t.n hn0 hn1 h1) ?_
    by_cases hge : 0 ≤ t.n
    · cases hE : (t.t == ([] : Bs)) with
      | true =>
        simp only [mach, mach2, mstd, ↓reduceIte, Nat.reduceEqDiff, Nat.reduceAdd, Nat.reduceMul, o1.cells.ld, mbl, Nat.reduceLeDiff, Nat.reduceLT, Int.reduceEq, ct1, eq_true hge, tx_toList, mk_toList, hE]
        exact hΨ _ _ (fin_ret (rv2 rfl rfl ⟨k1, _, by rw [hok, hE, decide_eq_true hge]; rfl, fun _ => htx.symm⟩))
      | false =>
        simp only [mach, mach2, mstd, ↓reduceIte, Nat.reduceEqDiff, Nat.reduceAdd, Nat.reduceMul, o1.cells.ld, mbl, Nat.reduceLeDiff, Nat.reduceLT, Int.reduceEq, ct1, eq_true hge, tx_toList, mk_toList, hE]
        exact hΨ _ _ (fin_ret (rv2 rfl rfl ⟨k1, _, by rw [hok, hE, decide_eq_true hge]; rfl, fun _ => htx.symm⟩))
    · simp only [mach, mach2, mstd, ↓reduceIte, Nat.reduceEqDiff, Nat.reduceAdd, Nat.reduceMul, o1.cells.ld, mbl, Nat.reduceLeDiff, Nat.reduceLT, Int.reduceEq, ct1, hge]
      exact hΨ _ _ (fin_ret (rv2 rfl rfl ⟨k1, _, by rw [hok, decide_eq_false hge]; rfl, fun _ => htx.symm⟩))
  by_cases h4 : t.k = 4
  · have hok : okT t = ((escS t.n).isSome && (t.t == [])) := by unfold okT; rw [if_neg h3, if_pos h4]
    have htx : txT t = [39] ++ (escS t.n).getD [] ++ [39] := by unfold txT; rw [if_neg h3, if_pos h4]
    simp only [mach, mach2, mstd, ↓reduceIte, Nat.reduceEqDiff, Nat.reduceAdd, Nat.reduceMul, r26, o1.cells.ld, mbl, Nat.reduceLeDiff, Nat.reduceLT, Int.reduceEq, h3, eq_true h4]
    generalize hh1 : h ++ [row tkT h.length [iv t.k, tv t.t, iv t.n, iv at']] = h1 at o1 k1 ⊢
    refine XX_of (Escape_ok t.n h1) (fun res h2 hle hr => ?_)
    obtain ⟨k2, rfl⟩ := hr
    refine .ret ?_
    have o2 := o1.keep k2 (fun e => e)
    cases hes : escS t.n with
    | none =>
      rw [escV]
      have s1 : sbin .add (⟨#[39]⟩ : ByteArray) (⟨#[]⟩ : ByteArray) = some (tv [39]) := s_add (a := [39]) (b := []) (by simp)
      have s2 : sbin .add (tx [39]) (⟨#[39]⟩ : ByteArray) = some (tv [39, 39]) := s_add (a := [39]) (b := [39]) (by simp)
      simp only [mach, mach2, mstd, ↓reduceIte, Nat.reduceEqDiff, Nat.reduceAdd, Nat.reduceMul, o2.cells.ld, mbl, Nat.reduceLeDiff, Nat.reduceLT, Int.reduceEq, ct1, s1, s2, Int.reduceEq]
      exact hΨ _ _ (fin_ret (rv2 rfl rfl ⟨k1.trans k2, _, by rw [hok, hes]; rfl, fun e => by rw [hok, hes] at e; cases e⟩))
    | some l =>
      have hl4 := escS_len hes
      rw [escV]
      have s1 : sbin .add (⟨#[39]⟩ : ByteArray) (tx l) = some (tv ([39] ++ l)) := s_add (a := [39]) (b := l) (by simp; omega)
      have s2 : sbin .add (tx ([39] ++ l)) (⟨#[39]⟩ : ByteArray) = some (tv ([39] ++ l ++ [39])) := s_add (a := [39] ++ l) (b := [39]) (by simp; omega)
      cases hE : (t.t == ([] : Bs)) with
      | true =>
        simp only [mach, mach2, mstd, ↓reduceIte, Nat.reduceEqDiff, Nat.reduceAdd, Nat.reduceMul, o2.cells.ld, mbl, Nat.reduceLeDiff, Nat.reduceLT, Int.reduceEq, ct1, s1, s2, tx_toList, mk_toList, hE]
        exact hΨ _ _ (fin_ret (rv2 rfl rfl ⟨k1.trans k2, _, by rw [hok, hes, hE]; rfl, fun _ => by rw [htx, hes]; rfl⟩))
      | false =>
        simp only [mach, mach2, mstd, ↓reduceIte, Nat.reduceEqDiff, Nat.reduceAdd, Nat.reduceMul, o2.cells.ld, mbl, Nat.reduceLeDiff, Nat.reduceLT, Int.reduceEq, ct1, s1, s2, tx_toList, mk_toList, hE]
        exact hΨ _ _ (fin_ret (rv2 rfl rfl ⟨k1.trans k2, _, by rw [hok, hes, hE]; rfl, fun e => by rw [hok, hes, hE] at e; cases e⟩))
  have hok := okT_else h3 h4
  by_cases hz : t.n = 0
  case neg =>
    simp only [mach, mach2, mstd, ↓reduceIte, Nat.reduceEqDiff, Nat.reduceAdd, Nat.reduceMul, r26, o1.cells.ld, mbl, Nat.reduceLeDiff, Nat.reduceLT, Int.reduceEq, h3, h4, hz]
    exact hΨ _ _ (fin_ret (rv2 rfl rfl ⟨k1, [], by rw [hok, decide_eq_false hz]; rfl, fun e => by rw [hok, decide_eq_false hz] at e; cases e⟩))
  rw [decide_eq_true hz, Bool.true_and] at hok
  by_cases h7 : t.k = 7
  · rw [if_pos h7] at hok
    simp only [mach, mach2, mstd, ↓reduceIte, Nat.reduceEqDiff, Nat.reduceAdd, Nat.reduceMul, r26, o1.cells.ld, mbl, Nat.reduceLeDiff, Nat.reduceLT, Int.reduceEq, h3, h4, eq_true hz, eq_true h7]
    generalize hh1 : h ++ [row tkT h.length [iv t.k, tv t.t, iv t.n, iv at']] = h1 at o1 k1 ⊢
    refine XX_val (isMark_ok t.t h1) ?_
    simp only [mach, mach2, mstd, ↓reduceIte, Nat.reduceEqDiff, Nat.reduceAdd, Nat.reduceMul, o1.cells.ld, mbl, Nat.reduceLeDiff, Nat.reduceLT, Int.reduceEq, ct1]
    exact hΨ _ _ (fin_ret (rv2 rfl rfl ⟨k1, _, by rw [hok]; rfl, fun _ => (txT_else h3 h4 (by omega)).symm⟩))
  rw [if_neg h7] at hok
  by_cases h8 : t.k = 8
  · rw [if_pos h8] at hok
    simp only [mach, mach2, mstd, ↓reduceIte, Nat.reduceEqDiff, Nat.reduceAdd, Nat.reduceMul, r26, o1.cells.ld, mbl, Nat.reduceLeDiff, Nat.reduceLT, Int.reduceEq, h3, h4, eq_true hz, h7, eq_true h8]
    generalize hh1 : h ++ [row tkT h.length [iv t.k, tv t.t, iv t.n, iv at']] = h1 at o1 k1 ⊢
    refine XX_val (isOperator_ok t.t h1) ?_
    simp only [mach, mach2, mstd, ↓reduceIte, Nat.reduceEqDiff, Nat.reduceAdd, Nat.reduceMul, o1.cells.ld, mbl, Nat.reduceLeDiff, Nat.reduceLT, Int.reduceEq, ct1]
    exact hΨ _ _ (fin_ret (rv2 rfl rfl ⟨k1, _, by rw [hok]; rfl, fun _ => (txT_else h3 h4 (by omega)).symm⟩))
  rw [if_neg h8] at hok
  by_cases h5 : t.k = 5
  case neg =>
    rw [if_neg h5] at hok
    have k2 : Keep (fun _ => False) (h ++ [row tkT h.length [iv t.k, tv t.t, iv t.n, iv at']]) ((h ++ [row tkT h.length [iv t.k, tv t.t, iv t.n, iv at']]) ++ [row 3 (h ++ [row tkT h.length [iv t.k, tv t.t, iv t.n, iv at']]).length [iv 1, iv 2, iv 6]]) := Keep.push _ _ _
    have o2 := o1.keep k2 (fun e => e)
    simp only [mach, mach2, mstd, ↓reduceIte, Nat.reduceEqDiff, Nat.reduceAdd, Nat.reduceMul, r26, o1.cells.ld, o2.cells.ld, ct1, mbl, Nat.reduceLeDiff, Nat.reduceLT, Int.reduceEq, h3, h4, eq_true hz, h7, h8, h5]
    generalize hh1 : h ++ [row tkT h.length [iv t.k, tv t.t, iv t.n, iv at']] = h1 at o1 o2 k1 k2 ⊢
    refine XX_val (contains_ok t.k h1) ?_
    by_cases hc : t.k = 1 ∨ t.k = 2 ∨ t.k = 6
    · rw [decide_eq_true hc, Bool.true_and] at hok
      rw [decide_eq_true hc]
      simp only [mach, mach2, mstd, ↓reduceIte, Nat.reduceEqDiff, Nat.reduceAdd, Nat.reduceMul, o1.cells.ld, o2.cells.ld, mbl, Nat.reduceLeDiff, Nat.reduceLT, Int.reduceEq, ct1]
      refine XX_val (name_ok t.t (by omega) _) ?_
      simp only [mach, mach2, mstd, ↓reduceIte, Nat.reduceEqDiff, Nat.reduceAdd, Nat.reduceMul, o1.cells.ld, o2.cells.ld, mbl, Nat.reduceLeDiff, Nat.reduceLT, Int.reduceEq, ct1, show (([1, 10] : List Nat).contains 10) = true from rfl, show (([1, 10] : List Nat).contains 8) = false from rfl, show (([1, 10] : List Nat).contains 4) = false from rfl, show (([1, 10] : List Nat).contains 1) = true from rfl]
      exact hΨ _ _ (fin_ret (rv2 rfl rfl ⟨k1.trans k2, _, by rw [hok]; rfl, fun _ => (txT_else h3 h4 h5).symm⟩))
    · rw [decide_eq_false hc, Bool.false_and] at hok
      rw [decide_eq_false hc]
      simp only [mach, mach2, mstd, ↓reduceIte, Nat.reduceEqDiff, Nat.reduceAdd, Nat.reduceMul, o1.cells.ld, o2.cells.ld, mbl, Nat.reduceLeDiff, Nat.reduceLT, Int.reduceEq, ct1]
      exact hΨ _ _ (fin_ret (rv2 rfl rfl ⟨k1.trans k2, _, by rw [hok]; rfl, fun _ => (txT_else h3 h4 h5).symm⟩))
  rw [if_pos h5] at hok
  have htx : txT t = [34] ++ quoS t.t ++ [34] := by unfold txT; rw [if_neg h3, if_neg h4, if_pos h5]
  simp only [mach, mach2, mstd, ↓reduceIte, Nat.reduceEqDiff, Nat.reduceAdd, Nat.reduceMul, r26, o1.cells.ld, mbl, Nat.reduceLeDiff, Nat.reduceLT, Int.reduceEq, h3, h4, eq_true hz, h7, h8, eq_true h5]
  generalize hh1 : h ++ [row tkT h.length [iv t.k, tv t.t, iv t.n, iv at']] = h1 at o1 k1 ⊢
  have hl1 : h1.length = h.length + 1 := by rw [← hh1]; simp
  have ob := Own.new h1 bdT h1.length [.pointer none, .slice none 0 0]
  have k2 : Keep (fun _ => False) h1 (h1 ++ [row bdT h1.length [.pointer none, .slice none 0 0]]) := Keep.push _ _ _
  generalize hh2 : h1 ++ [row bdT h1.length [.pointer none, .slice none 0 0]] = h2 at ob k2 ⊢
  have hl2 : h2.length = h1.length + 1 := by rw [← hh2]; simp
  have b0 : Bd h2 h1.length [] (.pointer none) (.slice none 0 0) := ⟨ob, .inl rfl, .nil, fun q e => e.elim, fun _ => rfl⟩
  refine XX_of (writeByte_ok b0 34 (by simp)) (fun res h3' hle hr => ?_)
  obtain ⟨rfl, k3, v3, b3, f3⟩ := hr
  refine .ret ?_
  have kp3 : Keep (fun _ => False) h h3' := (k1.trans k2).trans' k3 (fun c hc e => by
    rcases e with e | e
    · omega
    · exact e.elim)
  have o3 : Own h3' h.length tkT [iv t.k, tv t.t, iv t.n, iv at'] := (o1.keep k2 (fun e => e)).keep k3 (fun e => by
    rcases e with e | e
    · omega
    · exact e.elim)
  simp only [mach, mach2, mstd, ↓reduceIte, Nat.reduceEqDiff, Nat.reduceAdd, Nat.reduceMul, o3.cells.ld, mbl, Nat.reduceLeDiff, Nat.reduceLT, Int.reduceEq, u_s2bt]
  generalize hh4 : h3' ++ [.cells false true h3'.length 0 5 (t.t.map bv)] = h4
  have k4 : Keep (fun _ => False) h3' h4 := by rw [← hh4]; exact Keep.push _ _ _
  have hl4 : h4.length = h3'.length + 1 := by rw [← hh4]; simp
  have hro : Rds h4 1 (.slice (some ⟨h3'.length, 0, none⟩) t.t.length t.t.length) t.t.length (t.t.map bv) := by
    rw [← hh4]
    exact .mk (all := t.t.map bv) (by simp [Cells, hcell]) (by simp) (by rw [List.drop_zero, Nat.mul_one]; exact List.take_of_length_le (by simp))
  have hb3 := b3.own.lt
  have b4 : Bd h4 h1.length [34] (.pointer (some ⟨h1.length, 0, none⟩)) v3 := ⟨b3.own.keep k4 (fun e => e), b3.ad, b3.ow.keep k4 (fun _ _ e => e), b3.ne, b3.nl⟩
  have hlt3 := b3.ow.lt
  refine XLo_rule (α := Nat × Value) (fun a => [(6, .pointer (some ⟨h1.length, 0, none⟩)), (68, .slice (some ⟨h3'.length, 0, none⟩) t.t.length t.t.length), (69, iv t.t.length), (70, iv a.1)])
    (fun a h' => a.1 ≤ t.t.length ∧ QI h h1.length h3'.length t.t a.1 a.2 h') (fun a => t.t.length - a.1) (0, v3)
    ⟨Nat.zero_le _, kp3.trans k4, by simpa [quoS] using b4, hro, by omega, fun q hq e => by have := hlt3 q hq; omega, by omega⟩ ⟨rfl, rfl, rfl, rfl, trivial⟩ ?_
  rintro ⟨i, v⟩ g1 Ψ2 ⟨hi, qi⟩ next out
  simp only at hi qi
  have hqb := quoS_len (t.t.take i)
  have htl : (t.t.take i).length ≤ t.t.length := by simp; omega
  by_cases hlt : (i : Int) < (t.t.length : Int)
  · have hil : i < t.t.length := by omega
    have g0 : (0 : Int) ≤ (i : Int) := by omega
    have hcl := t.t[i].toNat_lt
    have he4 := escB_len t.t[i]
    have hld : ldc g1 h3'.length i = some (bv t.t[i]) := by
      obtain ⟨b', o', c', e', kk⟩ := qi.ro.at (i := i) hil
      cases e'
      have := kk 0 (by omega)
      rw [Nat.zero_add, Nat.mul_one, Nat.add_zero] at this
      rw [this, List.getElem?_map, List.getElem?_eq_getElem hil]; rfl
    have hw : IntKind.i64.wrap (t.t[i].toNat : Int) = (t.t[i].toNat : Int) := i64w (by omega) (by omega)
    have hwi : IntKind.i64.wrap ((i : Int) + 1) = ((i + 1 : Nat) : Int) := by rw [i64w (by omega) (by omega)]; omega
    simp only [mach, mach2, mstd, ↓reduceIte, Nat.reduceEqDiff, Nat.reduceAdd, Nat.reduceMul, hlt, g0, and_self, Int.toNat_natCast, Nat.mul_one, Nat.zero_add, hld, hw]
    refine XX_of (Escape_ok _ g1) (fun res g2 hle hr => ?_)
    obtain ⟨m2, rfl⟩ := hr
    refine .ret ?_
    rw [escB_some, escV]
    have bd2 : Bd g2 h1.length ([34] ++ quoS (t.t.take i)) (.pointer (some ⟨h1.length, 0, none⟩)) v := ⟨qi.bd.own.keep m2 (fun e => e), qi.bd.ad, qi.bd.ow.keep m2 (fun _ _ e => e), qi.bd.ne, qi.bd.nl⟩
    simp only [mach, mach2, mstd, ↓reduceIte, Nat.reduceEqDiff, Nat.reduceAdd, Nat.reduceMul, mbl, Nat.reduceLeDiff, Nat.reduceLT, Int.reduceEq]
    refine XX_of (writeString_ok bd2 (escB t.t[i]) (by simp only [List.length_append, List.length_cons, List.length_nil]; omega)) (fun res g3 hle hr => ?_)
    obtain ⟨rfl, m3, v', bd3, f3'⟩ := hr
    refine .ret ?_
    have hst : quoS (t.t.take (i + 1)) = quoS (t.t.take i) ++ escB t.t[i] := by
      unfold quoS
      rw [List.take_succ_eq_append_getElem hil, List.flatMap_append, List.flatMap_cons, List.flatMap_nil, List.append_nil]
    have hlt2 := qi.lt
    have hm2 := m2.len
    simp only [mach, mach2, mstd, ↓reduceIte, Nat.reduceEqDiff, Nat.reduceAdd, Nat.reduceMul, hwi]
    refine next (i + 1, v') _ _ _ ⟨by simp only; omega, (qi.kp.trans m2).trans' m3 (fun c hc e => ?_), by rw [hst, ← List.append_assoc]; exact bd3, (qi.ro.keep m2 (fun _ _ e => e)).keep m3 (fun q hq e => ?_), by have := m3.len; omega, fun q hq e => ?_, qi.brb⟩ ⟨rfl, rfl, rfl, rfl, trivial⟩ (by simp only; omega)
    · rcases e with e | e
      · omega
      · have := qi.bd.ne c e; omega
    · have hq' : q = h3'.length := hq.1
      rcases e with e | e
      · exact qi.brb (e.symm.trans hq')
      · exact qi.ne q e hq'
    · rcases f3' q hq with e2 | e2
      · exact qi.ne q e2 e
      · omega
  · have hie : i = t.t.length := by omega
    simp only [mach, mach2, mstd, ↓reduceIte, Nat.reduceEqDiff, Nat.reduceAdd, Nat.reduceMul, hlt]
    refine out (.exit 2) _ _ _ _ (by intro e; cases e) ?_
    simp only [mach, mach2, mstd, ↓reduceIte, Nat.reduceEqDiff, Nat.reduceAdd, Nat.reduceMul]
    refine XX_of (writeByte_ok qi.bd 34 (by simp only [List.length_append, List.length_cons, List.length_nil]; omega)) (fun res g2 hle hr => ?_)
    obtain ⟨rfl, m2, v', bd2, f2⟩ := hr
    refine .ret ?_
    simp only [mach, mach2, mstd, ↓reduceIte, Nat.reduceEqDiff, Nat.reduceAdd, Nat.reduceMul]
    refine XX_of (string_ok bd2 (by simp only [List.length_append, List.length_cons, List.length_nil]; omega)) (fun res g3 hle hr => ?_)
    obtain ⟨rfl, m3⟩ := hr
    refine .ret ?_
    simp only [mach, mach2, mstd, ↓reduceIte, Nat.reduceEqDiff, Nat.reduceAdd, Nat.reduceMul]
    have hlt2 := qi.lt
    refine hΨ _ _ (fin_ret (rv2 rfl rfl ⟨(qi.kp.trans' m2 (fun c hc e => ?_)).trans' m3 (fun c hc e => ?_), _, by rw [hok]; rfl, fun _ => ?_⟩))
    · rcases e with e | e
      · omega
      · have := qi.bd.ne c e; omega
    · have := bd2.ne c e; omega
    · rw [htx, hie, List.take_length]
end Go.S07

/- Texts: one token as a text, the document's side. -/
set_option linter.unusedVariables false
set_option linter.unusedSimpArgs false
namespace Go.S07
open Go Go.Eng Go.Proofs Go.Scn

end Go.S07

/- Texts: lists of tokens as texts. -/
set_option linter.unusedVariables false
set_option linter.unusedSimpArgs false
namespace Go.S07
open Go Go.Eng Go.Proofs Go.Scn

/-- A token as it comes in: its place is any number. -/
abbrev Tg := Tk × Int
def tgC (x : Tg) : List Value := [iv x.1.k, tv x.1.t, iv x.1.n, iv x.2]
theorem tgC_len (x : Tg) : (tgC x).length = 4 := rfl
/-- Numbers of the machine, no text is longer than M. -/
def fitT (M : Nat) (t : Tk) : Prop := -9223372036854775808 ≤ t.n ∧ t.n ≤ 9223372036854775807 ∧ t.t.length ≤ M
theorem tg_at {h : AH} {v : Value} {n : Nat} {ts : List Tg} (hr : Rds h 4 v n (ts.flatMap tgC)) {i : Nat} {t : Tg} (hx : ts[i]? = some t) :
    ∃ b o c, v = .slice (some ⟨b, o, none⟩) n c ∧ i < n ∧ ldcs h b (o + i * 4) 4 = some (tgC t) := by
  have hl : i < ts.length := (List.getElem?_eq_some_iff.1 hx).1
  have hlen : (ts.flatMap tgC).length = ts.length * 4 := by
    clear hr hx hl
    induction ts with
    | nil => rfl
    | cons t ts ih => rw [List.flatMap_cons, List.length_append, ih, tgC_len, List.length_cons, Nat.add_mul]; omega
  have hn : i < n := by have := hr.len; rw [hlen] at this; omega
  obtain ⟨b, o, c, e, h1⟩ := rds_sub hr (i := i) (j := 0) (m := 4) hn (by omega)
  have h2 := flat_at (f := tgC) (k := 4) tgC_len hx (j := 0) (m := 4) (by omega)
  refine ⟨b, o, c, e, hn, ?_⟩
  rw [Nat.add_zero] at h1
  rw [h1, h2]; rfl

theorem itoa_len {n : Int} (h0 : -9223372036854775808 ≤ n) (h1 : n ≤ 9223372036854775807) : (Lib.itoa n).length ≤ 21 := by
  have hd : ∀ u : Nat, u < 18446744073709551616 → (Lib.decDigits u).length ≤ 20 := fun u hu => by
    rw [Lib.decDigits_length]
    rcases Nat.eq_zero_or_pos u with e | e
    · subst e; rw [Lib.nDigits_small (by omega)]; omega
    · have := Lib.numDigits_eq u e hu
      split at this <;> omega
  unfold Lib.itoa
  split
  · have := hd n.natAbs (by omega); simp; omega
  · have := hd n.toNat (by omega); omega
theorem txT_len {M : Nat} {t : Tk} (h : fitT M t) : (txT t).length ≤ 4 * M + 30 := by
  obtain ⟨h0, h1, h2⟩ := h
  unfold txT
  split
  · have := itoa_len h0 h1; omega
  · split
    · cases he : escS t.n with
      | none => simp
      | some l => have := escS_len he; simp; omega
    · split
      · have := quoS_len t.t; simp; omega
      · omega
def sepT (i : Nat) : Bs := if 0 < i then [32] else []
/-- Texts with blanks between. -/
def catT : List Tk → Bs
  | [] => []
  | t :: r => txT t ++ r.flatMap fun u => 32 :: txT u
theorem catT_snoc (ts : List Tk) (t : Tk) : catT (ts ++ [t]) = catT ts ++ sepT ts.length ++ txT t := by
  cases ts with
  | nil => simp [catT, sepT]
  | cons a r => simp [catT, sepT]
theorem catT_len {M : Nat} : ∀ (ts : List Tk), (∀ t ∈ ts, fitT M t) → (catT ts).length ≤ ts.length * (4 * M + 31) := by
  have aux : ∀ (r : List Tk), (∀ t ∈ r, fitT M t) → (r.flatMap fun u => 32 :: txT u).length ≤ r.length * (4 * M + 31) := by
    intro r
    induction r with
    | nil => intro _; simp
    | cons a r ih =>
      intro h
      have h1 := txT_len (h a List.mem_cons_self)
      have h2 := ih fun t ht => h t (List.mem_cons_of_mem _ ht)
      rw [List.flatMap_cons, List.length_append, List.length_cons, List.length_cons, Nat.add_mul]; omega
  intro ts h
  cases ts with
  | nil => simp [catT]
  | cons a r =>
    have h1 := txT_len (h a List.mem_cons_self)
    have h2 := aux r fun t ht => h t (List.mem_cons_of_mem _ ht)
    rw [catT, List.length_append, List.length_cons, Nat.add_mul]; omega
/-- What Text says. -/
def texS (ts : List Tk) : Bs × Int := if ts.all okT then (catT ts, 0) else ([], 7)

set_option maxHeartbeats 4000000 in
theorem Text_ok (ts : List Tg) (h : AH) (v : Value) (hr : Rds h 4 v ts.length (ts.flatMap tgC)) {M : Nat} (hM : M ≤ 4000000) (hN : ts.length ≤ 4000000) (hf : ∀ t ∈ ts.map (·.1), fitT M t) :
    Gets Tryd.prog 14 [v] h (fun res h' => Keep (fun _ => False) h h' ∧ res = .ret (.tuple #[tv (texS (ts.map (·.1))).1, iv (texS (ts.map (·.1))).2])) := by
  refine Gets.of (keep := false) hP (draw_ok (Go.S07.hM)) k14 (by rfl) (fun Ψ hΨ => ?_)
  obtain ⟨ua, uc, rfl⟩ := row_shape hr
  have ob := Own.new h bdT h.length [.pointer none, .slice none 0 0]
  have k1 : Keep (fun _ => False) h (h ++ [row bdT h.length [.pointer none, .slice none 0 0]]) := Keep.push _ _ _
  simp only [mach, mach2, mstd, ↓reduceIte, Nat.reduceEqDiff, Nat.reduceAdd, Nat.reduceMul, r14, mbl, Nat.reduceLeDiff, Nat.reduceLT, Int.reduceEq]
  generalize hh1 : h ++ [row bdT h.length [.pointer none, .slice none 0 0]] = h1 at ob k1 ⊢
  have hl1 : h1.length = h.length + 1 := by rw [← hh1]; simp
  refine XLo_rule (α := Nat × Value × Value) (fun a => [(4, .pointer (some ⟨h.length, 0, none⟩)), (9, .slice ua ts.length uc), (10, iv ts.length), (11, iv a.1)])
    (fun a h' => a.1 ≤ ts.length ∧ Keep (fun _ => False) h h' ∧ Bd h' h.length (catT ((ts.map (·.1)).take a.1)) a.2.1 a.2.2 ∧ ((ts.map (·.1)).take a.1).all okT = true) (fun a => ts.length - a.1) (0, .pointer none, .slice none 0 0)
    ⟨Nat.zero_le _, k1, ⟨ob, .inl rfl, .nil, fun q e => e.elim, fun _ => rfl⟩, rfl⟩ ⟨rfl, rfl, rfl, rfl, trivial⟩ ?_
  rintro ⟨i, ad, vb⟩ g1 Ψ2 ⟨hi, kp, bd, hall⟩ next out
  simp only at hi bd hall
  have hcl := catT_len ((ts.map (·.1)).take i) (fun t ht => hf t (List.mem_of_mem_take ht))
  have htl : ((ts.map (·.1)).take i).length = i := by simp; omega
  rw [htl] at hcl
  have hbig : i * (4 * M + 31) ≤ 4000000 * 16000031 := Nat.mul_le_mul (by omega) (by omega)
  have hbl := bd.own.lt
  by_cases hlt : (i : Int) < (ts.length : Int)
  case neg =>
    have hie : i = ts.length := by omega
    have htk : (ts.map (·.1)).take i = ts.map (·.1) := List.take_of_length_le (by simp; omega)
    rw [htk] at bd hall hcl
    simp only [mach, mach2, mstd, ↓reduceIte, Nat.reduceEqDiff, Nat.reduceAdd, Nat.reduceMul, hlt]
    refine out (.exit 0) _ _ _ _ (by intro e; cases e) ?_
    simp only [mach, mach2, mstd, ↓reduceIte, Nat.reduceEqDiff, Nat.reduceAdd, Nat.reduceMul]
    refine XX_of (string_ok bd (by omega)) (fun res g2 hle hrs => ?_)
    obtain ⟨rfl, m2⟩ := hrs
    refine .ret ?_
    simp only [mach, mach2, mstd, ↓reduceIte, Nat.reduceEqDiff, Nat.reduceAdd, Nat.reduceMul]
    refine hΨ _ _ (fin_ret (rv2 rfl rfl ⟨kp.trans' m2 (fun c hc e => by have := bd.ne c e; omega), ?_⟩))
    rw [texS, if_pos hall]; rfl
  have hil : i < ts.length := by omega
  have g0 : (0 : Int) ≤ (i : Int) := by omega
  have hx : ts[i]? = some ts[i] := List.getElem?_eq_getElem hil
  obtain ⟨b1, o1, c1, e1, _, l1⟩ := tg_at (hr.keep kp (fun _ _ e => e)) hx
  cases e1
  have ea : tgC ts[i] = [iv ts[i].1.k, tv ts[i].1.t, iv ts[i].1.n, iv ts[i].2] := rfl
  rw [ea] at l1
  simp only [mach, mach2, mstd, ↓reduceIte, Nat.reduceEqDiff, Nat.reduceAdd, Nat.reduceMul, hlt, g0, true_and, and_self, if_true, Int.toNat_natCast, l1, mbl, Nat.reduceLeDiff, Nat.reduceLT, Int.reduceEq]
  have k2 : Keep (fun _ => False) g1 (g1 ++ [row tkT g1.length [iv 0, tv [], iv 0, iv 0]]) := Keep.push _ _ _
  have l2 : (g1 ++ [row tkT g1.length [iv 0, tv [], iv 0, iv 0]]).length = g1.length + 1 := by simp
  refine XH_own (Own.new g1 tkT g1.length [iv 0, tv [], iv 0, iv 0]) rfl (by simp [Value.cells]) rfl (fun h5 p1 p2 p3 => ?_)
  have o5 : Own h5 g1.length tkT [iv ts[i].1.k, tv ts[i].1.t, iv ts[i].1.n, iv ts[i].2] := by simpa [Value.cells] using p1
  have k5 : Keep (fun _ => False) g1 h5 := k2.trans' p2 (fun c hc e => by omega)
  obtain ⟨hn0, hn1, hlM⟩ := hf ts[i].1 (List.mem_map.2 ⟨ts[i], List.getElem_mem _, rfl⟩)
  have hl5 : ldcs h5 g1.length 0 4 = some [iv ts[i].1.k, tv ts[i].1.t, iv ts[i].1.n, iv ts[i].2] := o5.cells.lds 0 4 (by simp)
  simp only [mach, mach2, mstd, ↓reduceIte, Nat.reduceEqDiff, Nat.reduceAdd, Nat.reduceMul, hl5]
  refine XX_of (text_ok ts[i].1 ts[i].2 hn0 hn1 (by omega) h5) (fun res g2 hle hrs => ?_)
  obtain ⟨m2, s, rfl, hs⟩ := hrs
  refine .ret ?_
  have k6 : Keep (fun _ => False) g1 g2 := k5.trans m2
  have bd2 : Bd g2 h.length (catT ((ts.map (·.1)).take i)) ad vb := ⟨bd.own.keep k6 (fun e => e), bd.ad, bd.ow.keep k6 (fun _ _ e => e), bd.ne, bd.nl⟩
  cases hok : okT ts[i].1 with
  | false =>
    simp only [mach, mach2, mstd, ↓reduceIte, Nat.reduceEqDiff, Nat.reduceAdd, Nat.reduceMul]
    refine out .ret _ _ _ _ (by intro e; cases e) ?_
    simp only [mach, mach2, mstd, ↓reduceIte, Nat.reduceEqDiff, Nat.reduceAdd, Nat.reduceMul]
    refine hΨ _ _ (fin_ret (rv2 rfl rfl ⟨kp.trans k6, ?_⟩))
    have hna : (ts.map (·.1)).all okT = false := by
      rw [List.all_eq_false]
      exact ⟨ts[i].1, List.mem_map.2 ⟨ts[i], List.getElem_mem _, rfl⟩, by rw [hok]; decide⟩
    rw [texS, hna]; rfl
  | true =>
    obtain rfl := hs hok
    have hsn : (ts.map (·.1)).take (i + 1) = (ts.map (·.1)).take i ++ [ts[i].1] := by
      rw [List.take_succ_eq_append_getElem (by simp; omega), List.getElem_map]
    have hcat : catT ((ts.map (·.1)).take (i + 1)) = catT ((ts.map (·.1)).take i) ++ sepT i ++ txT ts[i].1 := by rw [hsn, catT_snoc, htl]
    have hall' : ((ts.map (·.1)).take (i + 1)).all okT = true := by rw [hsn, List.all_append, hall]; simp [hok]
    have hwi : IntKind.i64.wrap ((i : Int) + 1) = ((i + 1 : Nat) : Int) := by rw [i64w (by omega) (by omega)]; omega
    have htxl := txT_len (hf ts[i].1 (List.mem_map.2 ⟨ts[i], List.getElem_mem _, rfl⟩))
    by_cases hi0 : i = 0
    · have hsp : sepT i = [] := by rw [hi0]; rfl
      have hz : ¬ (0 : Int) < (i : Int) := by omega
      simp only [mach, mach2, mstd, ↓reduceIte, Nat.reduceEqDiff, Nat.reduceAdd, Nat.reduceMul, mbl, Nat.reduceLeDiff, Nat.reduceLT, Int.reduceEq, hz]
      refine XX_of (writeString_ok bd2 (txT ts[i].1) (by omega)) (fun res g3 hle hr3 => ?_)
      obtain ⟨rfl, m3, v', bd3, f3⟩ := hr3
      refine .ret ?_
      simp only [mach, mach2, mstd, ↓reduceIte, Nat.reduceEqDiff, Nat.reduceAdd, Nat.reduceMul, hwi]
      refine next (i + 1, _, v') _ _ _ ⟨by simp only; omega, (kp.trans k6).trans' m3 (fun c hc e => ?_), by simp only; rw [hcat, hsp, List.append_nil]; exact bd3, hall'⟩ ⟨rfl, rfl, rfl, rfl, trivial⟩ (by simp only; omega)
      rcases e with e | e
      · omega
      · have := bd.ne c e; omega
    · have hsp : sepT i = [32] := by rw [sepT, if_pos (by omega)]
      have hz : (0 : Int) < (i : Int) := by omega
      simp only [mach, mach2, mstd, ↓reduceIte, Nat.reduceEqDiff, Nat.reduceAdd, Nat.reduceMul, mbl, Nat.reduceLeDiff, Nat.reduceLT, Int.reduceEq, hz]
      refine XX_of (writeByte_ok bd2 32 (by omega)) (fun res g3 hle hr3 => ?_)
      obtain ⟨rfl, m3, v', bd3, f3⟩ := hr3
      refine .ret ?_
      have q3 : Keep (fun _ => False) h g3 := (kp.trans k6).trans' m3 (fun c hc e => by
        rcases e with e | e
        · omega
        · have := bd.ne c e; omega)
      simp only [mach, mach2, mstd, ↓reduceIte, Nat.reduceEqDiff, Nat.reduceAdd, Nat.reduceMul]
      refine XX_of (writeString_ok bd3 (txT ts[i].1) (by simp only [List.length_append, List.length_cons, List.length_nil]; omega)) (fun res g4 hle hr4 => ?_)
      obtain ⟨rfl, m4, v4, bd4, f4⟩ := hr4
      refine .ret ?_
      simp only [mach, mach2, mstd, ↓reduceIte, Nat.reduceEqDiff, Nat.reduceAdd, Nat.reduceMul, hwi]
      refine next (i + 1, _, v4) _ _ _ ⟨by simp only; omega, q3.trans' m4 (fun c hc e => ?_), by simp only; rw [hcat, hsp]; exact bd4, hall'⟩ ⟨rfl, rfl, rfl, rfl, trivial⟩ (by simp only; omega)
      rcases e with e | e
      · omega
      · have := bd3.ne c e; omega
end Go.S07

/- Texts: tokens as a text, the document's side, the walk. -/
set_option linter.unusedVariables false
set_option linter.unusedSimpArgs false
namespace Go.S07
open Go Go.Eng Go.Proofs Go.Scn

end Go.S07

/- Texts: the law's walk. -/
set_option linter.unusedVariables false
set_option linter.unusedSimpArgs false
namespace Go.S07
open Go Go.Eng Go.Proofs Go.Scn

end Go.S07

/- Tokens that are given. -/
set_option linter.unusedVariables false
set_option linter.unusedSimpArgs false
namespace Go.S07
open Go Go.Eng Go.Proofs Go.Scn

noncomputable def fsTok : Array Field := match Tryd.prog.underlying 30 with
  | some (.struct fs) => fs
  | _ => #[]
theorem u_tok : Tryd.prog.underlying 30 = some (.struct fsTok) := by kernel_rfl
theorem f_tok : (fsTok.map fun f => (f.type, f.offset)).toList = [(3, 0), (9, 1), (3, 2), (3, 3)] := by kernel_rfl
theorem u_toks : Tryd.prog.underlying 23 = some (.slice 30) := by kernel_rfl
theorem u_strT : Tryd.prog.underlying 9 = some .string := by kernel_rfl
theorem u_intT : Tryd.prog.underlying 3 = some (.int .i64) := by kernel_rfl
theorem c_tok : Tryd.prog.cellsOf 30 = 4 := by kernel_rfl
theorem c_intT : Tryd.prog.cellsOf 3 = 1 := by kernel_rfl
theorem c_strT : Tryd.prog.cellsOf 9 = 1 := by kernel_rfl
theorem len4' {cs : List Value} (h : cs.length = 4) : ∃ a b c e, cs = [a, b, c, e] := by
  obtain ⟨a, r, rfl⟩ := List.exists_cons_of_length_eq_add_one h
  obtain ⟨b, r, rfl⟩ := List.exists_cons_of_length_eq_add_one (Nat.succ.inj h)
  obtain ⟨c, r, rfl⟩ := List.exists_cons_of_length_eq_add_one (Nat.succ.inj (Nat.succ.inj h))
  obtain ⟨e, r, rfl⟩ := List.exists_cons_of_length_eq_add_one (Nat.succ.inj (Nat.succ.inj (Nat.succ.inj h)))
  obtain rfl := List.eq_nil_of_length_eq_zero (Nat.succ.inj (Nat.succ.inj (Nat.succ.inj (Nat.succ.inj h))))
  exact ⟨_, _, _, _, rfl⟩
section
variable {H : Type} {h : AH} {N : Nat}
theorem tok_of (B : Bulk H) {cs : List Value} {d : DataW H} (hr : Rd' Tryd.prog h 30 cs d) (hB : B.f d ≤ N) : ∃ x : Tg, cs = tgC x ∧ fitT N x.1 := by
  obtain ⟨hl, hf⟩ := rdT B u_tok f_tok hr
  rw [c_tok] at hl
  obtain ⟨a, b, c, e, rfl⟩ := len4' hl
  obtain ⟨d0, r0, b0⟩ := hf 0 _ _ rfl
  obtain ⟨d1, r1, b1⟩ := hf 1 _ _ rfl
  obtain ⟨d2, r2, b2⟩ := hf 2 _ _ rfl
  obtain ⟨d3, r3, b3⟩ := hf 3 _ _ rfl
  rw [c_intT] at r0 r2 r3
  rw [c_strT] at r1
  obtain ⟨n0, e0, g0⟩ := rdI u_intT r0
  obtain ⟨s, e1, g1⟩ := rdS B u_strT r1
  obtain ⟨n2, e2, g2⟩ := rdI u_intT r2
  obtain ⟨n3, e3, g3⟩ := rdI u_intT r3
  simp at e0 e1 e2 e3
  subst e0; subst e1; subst e2; subst e3
  have hsz : s.data.toList.length = s.size := Array.length_toList
  have e2 : Value.string s = tv s.data.toList := by rw [tv, ← tx_of]
  exact ⟨(⟨n0, s.data.toList, n2, 0⟩, n3), by rw [e2]; rfl, g2.1, g2.2, by show s.data.toList.length ≤ N; omega⟩
theorem toks_of (B : Bulk H) {v : Value} {d : DataW H} (hr : Rd' Tryd.prog h 23 [v] d) (hB : B.f d ≤ N) : ∃ ts : List Tg, Rds h 4 v ts.length (ts.flatMap tgC) ∧ (∀ t ∈ ts.map (·.1), fitT N t) ∧ ts.length ≤ N := by
  obtain ⟨ts, h1, h2, h3⟩ := rdRow B (f := tgC) (Q := fun x => fitT N x.1) u_toks tgC_len (fun cs d' r hb => tok_of B r hb) hr hB
  refine ⟨ts, h1, fun t ht => ?_, h3⟩
  obtain ⟨x, hx, rfl⟩ := List.mem_map.1 ht
  exact h2 x hx
end
end Go.S07

/- Texts: what is written is read again; what is read can be written. -/
set_option linter.unusedVariables false
set_option linter.unusedSimpArgs false
namespace Go.S07
open Go Go.Eng Go.Proofs Go.Scn

theorem spn_app {p : UInt8 → Bool} {l r : Bs} (h : ∀ c ∈ l, p c = true) (hr : ∀ c, r[0]? = some c → p c = false) : spn p (l ++ r) = l.length :=
  spn_eq (by simp) (fun i c hi hc => h c (by rw [List.getElem?_append_left hi] at hc; exact List.mem_of_getElem? hc)) (fun c hc => by
    rw [List.getElem?_append_right (Nat.le_refl _), Nat.sub_self] at hc; exact hr c hc)
theorem skp_head {c : UInt8} {r : Bs} (h1 : wsp c = false) (h2 : dash c = false) (h3 : c ≠ 123) : skp (c :: r) = .ok (c :: r) := by
  refine skp_rest (by rw [spn_cons, h1]; rfl) ?_ ?_
  · unfold lineN
    rw [if_neg]
    rintro ⟨h, _⟩
    rw [spn_cons, h2] at h
    simp at h
  · refine nestN_no fun e => ?_
    cases r with
    | nil => simp at e
    | cons a r => simp at e; exact h3 e.1

/-! ### Numbers -/
theorem u8d {x : Nat} (h : x < 10) : digit (UInt8.ofNat (48 + x)) = true ∧ dg (UInt8.ofNat (48 + x)) = x := by
  have e : (UInt8.ofNat (48 + x)).toNat = 48 + x := by rw [UInt8.toNat_ofNat']; omega
  have hd : digit (UInt8.ofNat (48 + x)) = true := by simp only [digit, e]; exact decide_eq_true (by omega)
  exact ⟨hd, by unfold dg; rw [if_pos hd, e]; omega⟩
theorem puS_app (B mx : Nat) : ∀ (l m : Bs) (a n : Nat), puS B mx a l = .ok n → puS B mx a (l ++ m) = puS B mx n m := by
  intro l
  induction l with
  | nil => intro m a n h; simp only [puS] at h; cases h; rfl
  | cons c l ih =>
    intro m a n h
    rw [List.cons_append]
    simp only [puS] at h ⊢
    split at h
    · cases h
    · rename_i h1
      split at h
      · cases h
      · rename_i h2
        rw [if_neg h1, if_neg h2]
        exact ih m _ n h
theorem dec_ok : ∀ (n u : Nat), u ≤ n → u ≤ 18446744073709551615 → (∀ c ∈ Lib.decDigits u, digit c = true) ∧ puS 10 18446744073709551615 0 (Lib.decDigits u) = .ok u ∧ Lib.decDigits u ≠ [] := by
  intro n
  induction n with
  | zero =>
    intro u hu _
    obtain rfl : u = 0 := by omega
    rw [Lib.decDigits, dif_pos (by omega)]
    obtain ⟨h1, h2⟩ := u8d (x := 0) (by omega)
    exact ⟨by simpa using h1, by simp only [puS]; rw [if_neg (by omega), if_neg (by omega), h2], by simp⟩
  | succ n ih =>
    intro u hu hm
    rw [Lib.decDigits]
    split
    · rename_i hlt
      obtain ⟨h1, h2⟩ := u8d (x := u) hlt
      exact ⟨by simpa using h1, by simp only [puS]; rw [if_neg (by omega), if_neg (by omega), h2, Nat.zero_mul, Nat.zero_add], by simp⟩
    · obtain ⟨i1, i2, i3⟩ := ih (u / 10) (by omega) (by omega)
      obtain ⟨h1, h2⟩ := u8d (x := u % 10) (by omega)
      refine ⟨fun c hc => ?_, ?_, by simp⟩
      · rcases List.mem_append.1 hc with h | h
        · exact i1 c h
        · obtain rfl : c = UInt8.ofNat (48 + u % 10) := by simpa using h
          exact h1
      · rw [puS_app 10 _ _ _ _ _ i2]
        simp only [puS, h2]
        rw [if_neg (by omega), if_neg (by omega)]
        congr 1; omega
theorem intV_dec (u : Nat) (h : u < 9223372036854775808) : intV (Lib.decDigits u) = some u := by
  unfold intV
  rw [(dec_ok u u (Nat.le_refl _) (by omega)).2.1]
  simp only [h, if_true]

/-! ### Quotes -/
theorem hx_dg : ∀ i : Nat, i < 16 → dg (hxd.getD i 0) = i := by decide
theorem wr_esc (c : UInt8) (x : Bs) : wr (escB c ++ x) = (c, (escB c).length) ∧ ∃ d q, escB c = d :: q ∧ d ≠ 39 ∧ d ≠ 34 := by
  have hlt := c.toNat_lt
  have hof : UInt8.ofNat ((c.toNat : Int)).toNat = c := by simp
  have inj : ∀ n : Nat, n < 256 → (c.toNat : Int) = n → c = UInt8.ofNat n := fun n hn e => by
    rw [← show c.toNat = n by omega]; simp
  unfold escB escS
  rw [if_neg (by omega)]
  by_cases h2 : (c.toNat : Int) = 10
  · rw [if_pos h2, inj 10 (by omega) h2]
    exact ⟨rfl, _, _, rfl, by decide, by decide⟩
  rw [if_neg h2]
  by_cases h3 : (c.toNat : Int) = 9
  · rw [if_pos h3, inj 9 (by omega) h3]
    exact ⟨rfl, _, _, rfl, by decide, by decide⟩
  rw [if_neg h3]
  by_cases h4 : (c.toNat : Int) = 92 ∨ (c.toNat : Int) = 39 ∨ (c.toNat : Int) = 34
  · rw [if_pos h4, hof]
    refine ⟨?_, _, _, rfl, by decide, by decide⟩
    have e : wr ([92, c] ++ x) = wr2 (c :: x) := rfl
    rw [Option.getD_some, e, wr2, if_neg (by omega), if_neg (by omega), if_pos (by omega)]
    rfl
  rw [if_neg h4]
  by_cases h5 : (32 : Int) ≤ (c.toNat : Int) ∧ (c.toNat : Int) ≤ 126
  · rw [if_pos h5, hof, Option.getD_some]
    refine ⟨?_, _, _, rfl, ?_, ?_⟩
    · show wr (c :: x) = _
      rw [wr, if_neg (by omega), if_pos (by omega)]
      rfl
    · rintro rfl; exact h4 (.inr (.inl rfl))
    · rintro rfl; exact h4 (.inr (.inr rfl))
  rw [if_neg h5, Option.getD_some]
  refine ⟨?_, _, _, rfl, by decide, by decide⟩
  have d1 := hx_dg (c.toNat / 16) (by omega)
  have d2 := hx_dg (c.toNat % 16) (by omega)
  have e : wr ([92, 120, hxd.getD ((c.toNat : Int).toNat / 16) 0, hxd.getD ((c.toNat : Int).toNat % 16) 0] ++ x) = wr3 (hxd.getD (c.toNat / 16) 0 :: hxd.getD (c.toNat % 16) 0 :: x) := rfl
  rw [e, wr3, if_pos (by rw [d1, d2]; omega), d1, d2, show 16 * (c.toNat / 16) + c.toNat % 16 = c.toNat by omega]
  simp
theorem qt_esc (q c : UInt8) (hq : q = 39 ∨ q = 34) (r : Bs) {bs : Bs} {n : Nat} (h : qt q r = some (bs, n)) : qt q (escB c ++ r) = some (c :: bs, (escB c).length + n) := by
  obtain ⟨h1, d, y, h2, h3, h4⟩ := wr_esc c r
  rw [h2, List.cons_append] at h1 ⊢
  have hd : ¬ d = q := by rcases hq with rfl | rfl <;> assumption
  rw [qt_cons, if_neg hd, h1, if_neg (by simp)]
  simp only
  rw [← List.cons_append, List.drop_left, h]
  rfl
theorem qt_quo : ∀ (t r : Bs), qt 34 (quoS t ++ 34 :: r) = some (t, (quoS t).length) := by
  intro t
  induction t with
  | nil => intro r; rw [show quoS [] ++ 34 :: r = 34 :: r from rfl, qt_cons, if_pos rfl]; rfl
  | cons c t ih =>
    intro r
    rw [show quoS (c :: t) = escB c ++ quoS t by simp [quoS], List.append_assoc, qt_esc 34 c (.inr rfl) _ (ih r), List.length_append]

/-! ### A token -/
/-- The texts l ahead of a blank is the token t. -/
def ReadT (k : Int) (t : Bs) (n : Int) (l : Bs) : Prop := tokS (l ++ [32]) = some (k, t, n, l.length) ∧ skp (l ++ [32]) = .ok (l ++ [32]) ∧ l ≠ []
theorem mark_rd : ∀ l ∈ markL, ReadT 7 l 0 l := by
  intro l hl
  simp only [markL, List.mem_cons, List.not_mem_nil, or_false] at hl
  rcases hl with rfl | rfl | rfl | rfl | rfl | rfl | rfl | rfl | rfl | rfl | rfl | rfl | rfl <;>
    exact ⟨by rfl, skp_rest (by decide) (by decide) rfl, by decide⟩
theorem op_rd : ∀ l ∈ opL, ReadT 8 l 0 l := by
  intro l hl
  simp only [opL, List.mem_cons, List.not_mem_nil, or_false] at hl
  rcases hl with rfl | rfl | rfl | rfl | rfl | rfl | rfl | rfl | rfl | rfl | rfl | rfl | rfl | rfl <;>
    exact ⟨by rfl, skp_rest (by decide) (by decide) rfl, by decide⟩
theorem blank32 {p : UInt8 → Bool} (h : p 32 = false) : ∀ c, ([32] : Bs)[0]? = some c → p c = false := by
  intro c hc
  obtain rfl : 32 = c := by simpa using hc
  exact h
theorem read_tx (t : Tk) (h : okT t = true) (h1 : t.n ≤ 9223372036854775807) : ReadT t.k t.t t.n (txT t) := by
  obtain ⟨k, s, n, a⟩ := t
  unfold okT at h
  unfold txT
  simp only at h h1 ⊢
  by_cases c3 : k = 3
  · rw [if_pos c3] at h ⊢
    simp only [Bool.and_eq_true, decide_eq_true_eq, beq_iff_eq] at h
    obtain ⟨h0, rfl⟩ := h
    obtain ⟨u, rfl⟩ := Int.eq_ofNat_of_zero_le h0
    rw [Lib.itoa_nonneg]
    obtain ⟨d1, d2, d3⟩ := dec_ok u u (Nat.le_refl _) (by omega)
    obtain ⟨c, r, e⟩ := List.exists_cons_of_ne_nil d3
    have hc : digit c = true := d1 c (by rw [e]; exact List.mem_cons_self)
    have hc' : 48 ≤ c.toNat ∧ c.toNat ≤ 57 := by simpa [digit] using hc
    have n1 : (small c || large c) = false := by simp [small, large]; omega
    refine ⟨?_, ?_, d3⟩
    · have hs : spn digit (Lib.decDigits u ++ [32]) = (Lib.decDigits u).length := spn_app d1 (blank32 (by decide))
      have hi := intV_dec u (by omega)
      rw [e] at hs hi ⊢
      rw [List.cons_append] at hs ⊢
      rw [tokS, n1, if_neg (by simp), if_pos hc, hs, ← List.cons_append, List.take_left, hi, c3]
      rfl
    · rw [e]
      exact skp_head (by simp [wsp]; omega) (by simp [dash]; omega) (by rintro rfl; simp at hc')
  rw [if_neg c3] at h ⊢
  by_cases c4 : k = 4
  · rw [if_pos c4] at h ⊢
    simp only [Bool.and_eq_true, beq_iff_eq] at h
    obtain ⟨h0, rfl⟩ := h
    have hr : 0 ≤ n ∧ n ≤ 255 := by
      unfold escS at h0
      split at h0
      · cases h0
      · omega
    obtain ⟨c, rfl⟩ : ∃ c : UInt8, n = c.toNat := ⟨UInt8.ofNat n.toNat, by rw [u8nat (by omega)]; omega⟩
    rw [escB_some, Option.getD_some]
    have hq : qt 39 (escB c ++ 39 :: [32]) = some ([c], (escB c).length + 0) := qt_esc 39 c (.inl rfl) _ (by rw [qt_cons, if_pos rfl])
    refine ⟨?_, ?_, by simp⟩
    · rw [show ([39] ++ escB c ++ [39] ++ [32] : Bs) = 39 :: (escB c ++ 39 :: [32]) by simp, tokS, if_neg (by decide), if_neg (by decide), if_pos (by decide), hq]
      simp [c4]
    · exact skp_head (by decide) (by decide) (by decide)
  rw [if_neg c4] at h ⊢
  simp only [Bool.and_eq_true, decide_eq_true_eq] at h
  obtain ⟨rfl, h⟩ := h
  by_cases c5 : k = 5
  · rw [if_pos c5]
    have hq := qt_quo s [32]
    refine ⟨?_, ?_, by simp⟩
    · rw [show ([34] ++ quoS s ++ [34] ++ [32] : Bs) = 34 :: (quoS s ++ 34 :: [32]) by simp, tokS, if_neg (by decide), if_neg (by decide), if_pos (by decide), hq]
      simp [c5]
    · exact skp_head (by decide) (by decide) (by decide)
  rw [if_neg c5]
  by_cases c7 : k = 7
  · rw [if_pos c7] at h
    subst c7
    exact mark_rd s (by simpa using h)
  rw [if_neg c7] at h
  by_cases c8 : k = 8
  · rw [if_pos c8] at h
    subst c8
    exact op_rd s (by simpa using h)
  rw [if_neg c8, if_neg c5] at h
  simp only [Bool.and_eq_true, decide_eq_true_eq] at h
  obtain ⟨hk, hn⟩ := h
  cases s with
  | nil => rw [nameK] at hn; omega
  | cons c r =>
    by_cases hb : 32 < (c :: r).length ∨ digit c = true ∨ c.toNat = 39 ∨ spn inner (c :: r) < (c :: r).length
    · rw [nameK_zero hb] at hn; omega
    have hi : ∀ d ∈ c :: r, inner d = true := by
      intro d hd
      have hle := spn_le inner (c :: r)
      obtain ⟨i, hi, he⟩ := List.getElem_of_mem hd
      obtain ⟨d', e1, e2⟩ := spn_at (p := inner) (l := c :: r) (i := i) (by omega)
      rw [List.getElem?_eq_getElem hi, he] at e1
      cases e1; exact e2
    have hc := hi c List.mem_cons_self
    have hsl : (small c || large c) = true := by
      simp only [inner, Bool.or_eq_true, decide_eq_true_eq] at hc
      rw [Bool.or_eq_true]
      rcases hc with (h | h) | h
      · exact h
      · exact absurd (.inr (.inl h)) hb
      · exact absurd (.inr (.inr (.inl h))) hb
    have hsl' : (97 ≤ c.toNat ∧ c.toNat ≤ 122 ∨ c.toNat = 95) ∨ 65 ≤ c.toNat ∧ c.toNat ≤ 90 := by simpa [small, large] using hsl
    refine ⟨?_, ?_, by simp⟩
    · have hs : spn inner (c :: r ++ [32]) = (c :: r).length := spn_app hi (blank32 (by decide))
      rw [List.cons_append] at hs ⊢
      rw [tokS, if_pos hsl, hs, ← List.cons_append, List.take_left, hn, if_neg (by omega)]
    · exact skp_head (by simp [wsp]; omega) (by simp [dash]; omega) (by rintro rfl; simp at hsl')

/-! ### Texts -/
/-- The same tokens, up to places. -/
inductive Alk : List Tk → List Tk → Prop where
  | nil : Alk [] []
  | cons {a b : Tk} {xs ys : List Tk} (h1 : a.k = b.k) (h2 : a.t = b.t) (h3 : a.n = b.n) (h : Alk xs ys) : Alk (a :: xs) (b :: ys)
theorem Alk.len {xs ys : List Tk} (h : Alk xs ys) : xs.length = ys.length := by
  induction h with
  | nil => rfl
  | cons _ _ _ _ ih => simp [ih]
theorem Alk.at {xs ys : List Tk} (h : Alk xs ys) : ∀ (i : Nat) (a b : Tk), xs[i]? = some a → ys[i]? = some b → a.k = b.k ∧ a.t = b.t ∧ a.n = b.n := by
  induction h with
  | nil => intro i a b h; simp at h
  | cons h1 h2 h3 _ ih =>
    intro i a b ha hb
    cases i with
    | zero => simp at ha hb; subst ha; subst hb; exact ⟨h1, h2, h3⟩
    | succ i => exact ih i a b (by simpa using ha) (by simpa using hb)

theorem toks_one {N : Nat} {k n : Int} {t l r : Bs} (h : ReadT k t n l) (hr : ∀ c, r[0]? = some c → c = 32) {us : List Tk} (hu : toks N r = .ok us) : toks N (l ++ r) = .ok (⟨k, t, n, N - (l ++ r).length⟩ :: us) := by
  obtain ⟨h1, h2, h3⟩ := h
  have ha : Ag l.length (l ++ [32]) (l ++ r) := ⟨fun i hi => by rw [List.getElem?_append_left hi, List.getElem?_append_left hi], by simp, fun c hc => by
    rw [List.getElem?_append_right (Nat.le_refl _), Nat.sub_self] at hc
    obtain rfl := hr c hc
    rw [List.getElem?_append_right (Nat.le_refl _), Nat.sub_self]; exact .inl rfl⟩
  have t1 := tok_ag h1 ha
  have t2 := skp_here h2 h1 ha
  rw [toks_step t2 (by simp [h3]) t1, List.drop_left, hu]
  rfl
theorem toks_rest (N : Nat) : ∀ (ts : List Tk), ts.all okT = true → (∀ t ∈ ts, t.n ≤ 9223372036854775807) → ∃ us, toks N (ts.flatMap fun u => 32 :: txT u) = .ok us ∧ Alk us ts := by
  intro ts
  induction ts with
  | nil => intro _ _; exact ⟨[], toks_end N, .nil⟩
  | cons t ts ih =>
    intro ho hn
    rw [List.all_cons, Bool.and_eq_true] at ho
    obtain ⟨us, h1, h2⟩ := ih ho.2 fun t ht => hn t (List.mem_cons_of_mem _ ht)
    have hr := read_tx t ho.1 (hn t List.mem_cons_self)
    have h0 : ∀ c, (ts.flatMap fun u => 32 :: txT u)[0]? = some c → c = 32 := by
      intro c hc
      cases ts with
      | nil => simp at hc
      | cons a r => simpa using hc.symm
    have e1 := toks_one hr h0 h1
    have e2 : toks N ((t :: ts).flatMap fun u => 32 :: txT u) = toks N (txT t ++ ts.flatMap fun u => 32 :: txT u) := by
      rw [List.flatMap_cons, List.cons_append, toks_same (r := txT t ++ ts.flatMap fun u => 32 :: txT u) (by rw [skp_cons, if_pos (by decide)])]
    exact ⟨_, e2.trans e1, .cons rfl rfl rfl h2⟩
theorem toks_cat (N : Nat) (ts : List Tk) (ho : ts.all okT = true) (hn : ∀ t ∈ ts, t.n ≤ 9223372036854775807) : ∃ us, toks N (catT ts) = .ok us ∧ Alk us ts := by
  cases ts with
  | nil => exact ⟨[], toks_end N, .nil⟩
  | cons t ts =>
    obtain ⟨us, h1, h2⟩ := toks_rest N (t :: ts) ho hn
    refine ⟨us, ?_, h2⟩
    rw [List.flatMap_cons, List.cons_append, toks_same (r := catT (t :: ts)) (by rw [skp_cons, if_pos (by decide)]; rfl)] at h1
    exact h1

/-! ### What is read can be written -/
theorem intV_lt {l : Bs} {v : Nat} (h : intV l = some v) : v < 9223372036854775808 := by
  unfold intV at h
  split at h
  · split at h
    · cases h; assumption
    · cases h
  · cases h
theorem nameK_is (s : Bs) : nameK s = 0 ∨ nameK s = 1 ∨ nameK s = 2 ∨ nameK s = 6 ∨ nameK s = 7 ∧ s = [95] := by
  cases s with
  | nil => exact .inl rfl
  | cons c r =>
    by_cases hb : 32 < (c :: r).length ∨ digit c = true ∨ c.toNat = 39 ∨ spn inner (c :: r) < (c :: r).length
    · exact .inl (nameK_zero hb)
    rw [nameK_else hb]
    by_cases h1 : large c = true
    · rw [if_pos h1]; exact .inr (.inr (.inl rfl))
    rw [if_neg h1]
    by_cases h2 : keyL.contains (c :: r) = true
    · rw [if_pos h2]; exact .inr (.inr (.inr (.inl rfl)))
    rw [if_neg h2]
    by_cases h3 : ((c :: r) == [95]) = true
    · rw [if_pos h3]; exact .inr (.inr (.inr (.inr ⟨rfl, by simpa using h3⟩)))
    · rw [if_neg h3]; exact .inr (.inl rfl)
theorem tokS_ok {l t : Bs} {k v : Int} {n : Nat} (h : tokS l = some (k, t, v, n)) (a : Nat) : okT ⟨k, t, v, a⟩ = true ∧ 0 ≤ v ∧ v ≤ 9223372036854775807 := by
  cases l with
  | nil => simp [tokS] at h
  | cons c r =>
    simp only [tokS] at h
    split at h
    · split at h
      · cases h
      · rename_i hk
        simp only [Option.some.injEq, Prod.mk.injEq] at h
        obtain ⟨rfl, rfl, rfl, _⟩ := h
        refine ⟨?_, by omega, by omega⟩
        rcases nameK_is ((c :: r).take (spn inner (c :: r))) with e | e | e | e | ⟨e, e2⟩
        · exact absurd e hk
        · simp [okT, e]
        · simp [okT, e]
        · simp [okT, e]
        · rw [e, e2]; rfl
    · split at h
      · obtain ⟨v', hv, h2⟩ := Option.map_eq_some_iff.1 h
        simp only [Prod.mk.injEq] at h2
        obtain ⟨rfl, rfl, rfl, _⟩ := h2
        obtain ⟨w, hw, hv'⟩ : ∃ w : Nat, intV ((c :: r).take (spn digit (c :: r))) = some w ∧ (w : Int) = v' := by
          cases hi : intV ((c :: r).take (spn digit (c :: r))) with
          | none => rw [hi] at hv; cases hv
          | some w => rw [hi] at hv; exact ⟨w, rfl, by simpa using hv⟩
        have := intV_lt hw
        exact ⟨by simp [okT]; omega, by omega, by omega⟩
      · split at h
        · split at h
          · cases h
          · rename_i bs m hq
            split at h
            · cases h; exact ⟨by simp [okT], by omega, by omega⟩
            · split at h
              · rename_i x
                cases h
                have := x.toNat_lt
                exact ⟨by simp [okT, escB_some], by omega, by omega⟩
              · cases h
        · split at h
          · split at h
            · rename_i hm
              simp only [Option.some.injEq, Prod.mk.injEq] at h
              obtain ⟨rfl, rfl, rfl, _⟩ := h
              exact ⟨by simp only [okT]; simpa using hm, by omega, by omega⟩
            · split at h
              · rename_i hm
                simp only [Option.some.injEq, Prod.mk.injEq] at h
                obtain ⟨rfl, rfl, rfl, _⟩ := h
                exact ⟨by simp only [okT]; simpa using hm, by omega, by omega⟩
              · cases h
          · split at h
            · rename_i hm
              cases h
              exact ⟨by simp only [okT]; simpa using hm, by omega, by omega⟩
            · cases h
theorem tokS_txt {l t : Bs} {k v : Int} {n : Nat} (h : tokS l = some (k, t, v, n)) : t.length ≤ l.length := by
  cases l with
  | nil => simp [tokS] at h
  | cons c r =>
    have hq : ∀ {q : UInt8} {l bs : Bs} {n : Nat}, qt q l = some (bs, n) → bs.length ≤ l.length := by
      intro q l
      induction l using (qt.induct q) with
      | case1 => intro bs n h; rw [qt_nil] at h; cases h
      | case2 r => intro bs n h; rw [qt_cons, if_pos rfl] at h; cases h; simp
      | case3 c r hc hw => intro bs n h; rw [qt_cons, if_neg hc, if_pos hw] at h; cases h
      | case4 c r hc hw ih =>
        intro bs n h
        rw [qt_cons, if_neg hc, if_neg hw] at h
        obtain ⟨⟨b2, m⟩, h1, h2⟩ := Option.map_eq_some_iff.1 h
        simp only [Prod.mk.injEq] at h2
        obtain ⟨rfl, _⟩ := h2
        have := ih h1
        rw [List.length_drop] at this
        have := wr_le (c :: r)
        simp only [List.length_cons] at *
        omega
    simp only [tokS] at h
    split at h
    · split at h
      · cases h
      · simp only [Option.some.injEq, Prod.mk.injEq] at h
        obtain ⟨_, rfl, _, _⟩ := h
        rw [List.length_take]; exact Nat.min_le_right _ _
    · split at h
      · obtain ⟨v', hv, h2⟩ := Option.map_eq_some_iff.1 h
        simp only [Prod.mk.injEq] at h2
        obtain ⟨_, rfl, _, _⟩ := h2
        simp
      · split at h
        · split at h
          · cases h
          · rename_i bs m hqq
            have := hq hqq
            split at h
            · cases h; simp; omega
            · split at h
              · cases h; simp
              · cases h
        · split at h
          · split at h
            · simp only [Option.some.injEq, Prod.mk.injEq] at h
              obtain ⟨_, rfl, _, _⟩ := h
              rw [List.length_take]; exact Nat.min_le_right _ _
            · split at h
              · simp only [Option.some.injEq, Prod.mk.injEq] at h
                obtain ⟨_, rfl, _, _⟩ := h
                rw [List.length_take]; exact Nat.min_le_right _ _
              · cases h
          · split at h
            · cases h; simp
            · cases h
theorem toks_okT {N : Nat} : ∀ (n : Nat) (l : Bs) (ts : List Tk), l.length ≤ n → toks N l = .ok ts → ts.all okT = true ∧ ∀ t ∈ ts, fitT n t := by
  intro n
  induction n with
  | zero =>
    intro l ts hn h
    have : l = [] := List.eq_nil_of_length_eq_zero (by omega)
    subst this
    rw [toks_end] at h; cases h; exact ⟨rfl, fun t ht => by cases ht⟩
  | succ n ih =>
    intro l ts hn h
    rw [toks_eq] at h
    split at h
    · cases h
    · rename_i r hr
      have hrl := skp_len hr
      split at h
      · cases h; exact ⟨rfl, fun t ht => by cases ht⟩
      · split at h
        · cases h
        · rename_i k t v m htk
          obtain ⟨m1, m2⟩ := tokS_pos htk
          split at h
          · cases h
          · rename_i us hu
            cases h
            obtain ⟨i1, i2⟩ := ih (r.drop m) us (by simp; omega) hu
            obtain ⟨o1, o2, o3⟩ := tokS_ok htk (N - r.length)
            have o4 := tokS_txt htk
            refine ⟨by rw [List.all_cons, o1, i1]; rfl, fun t ht => ?_⟩
            rcases List.mem_cons.1 ht with e | e
            · subst e; exact ⟨by show (-9223372036854775808 : Int) ≤ v; omega, o3, by show t.length ≤ _; omega⟩
            · obtain ⟨a1, a2, a3⟩ := i2 t e
              exact ⟨a1, a2, by omega⟩
end Go.S07

/- Texts: what is written is read again: the law's walk. -/
set_option linter.unusedVariables false
set_option linter.unusedSimpArgs false
namespace Go.S07
open Go Go.Eng Go.Proofs Go.Scn

theorem ldcs_at {h : AH} {b o n j : Nat} {cs : List Value} (e : ldcs h b o n = some cs) (hj : j < n) : ldc h b (o + j) = cs[j]? := by
  unfold ldcs at e
  unfold ldc
  cases hc : hcell h b with
  | none => rw [hc] at e; cases e
  | some l =>
    rw [hc, Option.bind_some] at e
    split at e
    · cases e
      rw [Option.bind_some, List.getElem?_take, if_pos hj, List.getElem?_drop]
    · cases e
theorem alikeG_ok (xs ys : List Tg) (h : AH) (u v : Value) (hu : Rds h 4 u xs.length (xs.flatMap tgC)) (hv : Rds h 4 v ys.length (ys.flatMap tgC)) (hl : xs.length ≤ 9223372036854775800) (hab : xs.length = ys.length)
    (he : ∀ (i : Nat) (a b : Tg), xs[i]? = some a → ys[i]? = some b → a.1.k = b.1.k ∧ a.1.t = b.1.t ∧ a.1.n = b.1.n) : Gets Tryd.prog 13 [u, v] h (fun res h' => h' = h ∧ res = .ret (.bool true)) := by
  refine Gets.of (keep := false) hP (draw_ok hM) k13 (by rfl) (fun Ψ hΨ => ?_)
  obtain ⟨ua, uc, rfl⟩ := row_shape hu
  obtain ⟨va, vc, rfl⟩ := row_shape hv
  have hab' : (xs.length : Int) = (ys.length : Int) := by omega
  simp only [mach, mach2, mstd, ↓reduceIte, Nat.reduceEqDiff, Nat.reduceAdd, Nat.reduceMul, r13, eq_true hab']
  refine XLo_rule (α := Nat) (fun i => [(0, .slice ua xs.length uc), (1, .slice va ys.length vc), (5, iv i)]) (fun i h' => h' = h ∧ i ≤ xs.length) (fun i => xs.length - i) 0 ⟨rfl, Nat.zero_le _⟩ ⟨rfl, rfl, rfl, trivial⟩ ?_
  rintro i h1 Ψ2 ⟨rfl, hi⟩ next out
  by_cases hlt : (i : Int) < (xs.length : Int)
  · have hil : i < xs.length := by omega
    have g0 : (0 : Int) ≤ (i : Int) := by omega
    have hx : xs[i]? = some xs[i] := List.getElem?_eq_getElem hil
    have hy : ys[i]? = some ys[i] := List.getElem?_eq_getElem (by omega)
    have hlt2 : (i : Int) < (ys.length : Int) := by omega
    obtain ⟨e1, e2, e3⟩ := he i _ _ hx hy
    obtain ⟨b1, o1, c1, q1, _, f1'⟩ := tg_at hu hx
    obtain ⟨b2, o2, c2, q2, _, f2'⟩ := tg_at hv hy
    cases q1; cases q2
    have f1 := fun j hj => ldcs_at f1' (j := j) hj
    have f2 := fun j hj => ldcs_at f2' (j := j) hj
    have a0 : ldc h1 b1 (o1 + i * 4) = some (iv xs[i].1.k) := f1 0 (by omega)
    have a1 : ldc h1 b1 (o1 + i * 4 + 1) = some (tv xs[i].1.t) := f1 1 (by omega)
    have a2 : ldc h1 b1 (o1 + i * 4 + 2) = some (iv xs[i].1.n) := f1 2 (by omega)
    have d0 : ldc h1 b2 (o2 + i * 4) = some (iv xs[i].1.k) := by rw [e1]; exact f2 0 (by omega)
    have d1 : ldc h1 b2 (o2 + i * 4 + 1) = some (tv xs[i].1.t) := by rw [e2]; exact f2 1 (by omega)
    have d2 : ldc h1 b2 (o2 + i * 4 + 2) = some (iv xs[i].1.n) := by rw [e3]; exact f2 2 (by omega)
    have hw : IntKind.i64.wrap ((i : Int) + 1) = ((i + 1 : Nat) : Int) := by rw [i64w (by omega) (by omega)]; omega
    simp only [mach, mach2, mstd, ↓reduceIte, Nat.reduceEqDiff, Nat.reduceAdd, Nat.reduceMul, hlt, hlt2, g0, and_self, Int.toNat_natCast, Nat.add_zero, a0, a1, a2, d0, d1, d2, tx_toList, beq_self_eq_true, ct1, hw]
    exact next (i + 1) _ _ _ ⟨rfl, by omega⟩ ⟨rfl, rfl, rfl, trivial⟩ (by omega)
  · simp only [mach, mach2, mstd, ↓reduceIte, Nat.reduceEqDiff, Nat.reduceAdd, Nat.reduceMul, hlt]
    refine out (.exit 0) _ _ _ _ (by intro e; cases e) ?_
    simp only [mach, mach2, mstd, ↓reduceIte, Nat.reduceEqDiff, Nat.reduceAdd, Nat.reduceMul]
    exact hΨ _ _ (fin_ret (rv1 rfl ⟨rfl, rfl⟩))

def gOf (t : Tk) : Tg := (t, t.a)
theorem gOf_fm (ts : List Tk) : (ts.map gOf).flatMap tgC = ts.flatMap tkC := by
  rw [List.flatMap_map]; rfl
theorem gOf_fst (ts : List Tk) : (ts.map gOf).map (·.1) = ts := by
  rw [List.map_map]; simp [Function.comp_def, gOf]

/-- The tokens of a text that is written: they are what was written. -/
theorem tokF_cat (ts : List Tk) (ho : ts.all okT = true) (hn : ∀ t ∈ ts, t.n ≤ 9223372036854775807) (hl : (catT ts).length ≤ 8000) : ∃ us, tokF (catT ts) = (us, 0, 0) ∧ Alk us ts := by
  obtain ⟨us, h1, h2⟩ := toks_cat (catT ts).length ts ho hn
  exact ⟨us, by rw [tokF, if_neg (by omega), h1], h2⟩

theorem nil_eq : ((tx []).toList == (⟨#[]⟩ : ByteArray).toList) = true := by
  show ((tx []).toList == (tx []).toList) = true
  rw [tx_toList]; rfl
theorem tokF_cases (s : Bs) : (∃ us, tokF s = (us, 0, 0) ∧ toks s.length s = .ok us) ∨ ∃ (p : Int) (c : Int), tokF s = ([], p, c) ∧ ¬ c = 0 := by
  unfold tokF
  split
  · exact .inr ⟨0, 11, rfl, by omega⟩
  · cases h : toks s.length s with
    | ok ts => exact .inl ⟨ts, rfl, rfl⟩
    | error e => exact .inr ⟨e, 8, rfl, by omega⟩
theorem tokF_s8 {s : Bs} {us : List Tk} (e : tokF s = (us, 0, 0)) : s.length ≤ 8000 := by
  unfold tokF at e
  split at e
  · cases e
  · omega

set_option maxHeartbeats 4000000 in
theorem ScanBack_ok (s : Bs) (ts : List Tg) (h : AH) (v : Value) (hr : Rds h 4 v ts.length (ts.flatMap tgC)) {M : Nat} (hM' : M ≤ 4000000) (hN : ts.length ≤ 4000000) (hf : ∀ t ∈ ts.map (·.1), fitT M t) :
    Gets Tryd.prog 7 [tv s, v] h (fun res h' => Keep (fun _ => False) h h' ∧ res = .ret (.bool true)) := by
  refine Gets.of (keep := false) hP (draw_ok hM) k7 (by rfl) (fun Ψ hΨ => ?_)
  obtain ⟨ua, uc, rfl⟩ := row_shape hr
  simp only [mach, mach2, mstd, ↓reduceIte, Nat.reduceEqDiff, Nat.reduceAdd, Nat.reduceMul, r7]
  refine XX_of (wakes_ok h) (fun res h1 hle hrs => ?_)
  obtain ⟨k1, rfl⟩ := hrs
  refine .ret ?_
  simp only [mach, mach2, mstd, ↓reduceIte, Nat.reduceEqDiff, Nat.reduceAdd, Nat.reduceMul, mbl, Nat.reduceLeDiff, Nat.reduceLT, Int.reduceEq]
  refine XX_of (Text_ok ts h1 _ (hr.keep k1 (fun _ _ e => e)) hM' hN hf) (fun res h2 hle hrs => ?_)
  obtain ⟨k2, rfl⟩ := hrs
  refine .ret ?_
  have k12 := k1.trans k2
  by_cases hok : (ts.map (·.1)).all okT = true
  · rw [texS, if_pos hok]
    by_cases h8 : ((catT (ts.map (·.1))).length : Int) ≤ 8000
    · simp only [mach, mach2, mstd, ↓reduceIte, Nat.reduceEqDiff, Nat.reduceAdd, Nat.reduceMul, mbl, Nat.reduceLeDiff, Nat.reduceLT, Int.reduceEq, tx_size, eq_true h8]
      refine XX_of (Tokens_ok (catT (ts.map (·.1))) h2) (fun res h2b hle hrs => ?_)
      obtain ⟨k2b, lz, rfl, ow2, fr2⟩ := hrs
      refine .ret ?_
      obtain ⟨ws, e2, hA⟩ := tokF_cat (ts.map (·.1)) hok (fun t ht => (hf t ht).2.1) (by omega)
      rw [e2] at ow2 ⊢
      obtain ⟨lb, ld, rfl⟩ := row_shape ow2.rds
      have hlw := hA.len
      rw [List.length_map] at hlw
      have rdW : Rds h2b 4 (.slice lb ws.length ld) (ws.map gOf).length ((ws.map gOf).flatMap tgC) := by rw [gOf_fm, List.length_map]; exact ow2.rds
      have rdT := (hr.keep k12 (fun _ _ e => e)).keep k2b (fun _ _ e => e)
      simp only [mach, mach2, mstd, ↓reduceIte, Nat.reduceEqDiff, Nat.reduceAdd, Nat.reduceMul, mbl, Nat.reduceLeDiff, Nat.reduceLT, Int.reduceEq]
      refine XX_of (alikeG_ok (ws.map gOf) ts h2b _ _ rdW rdT (by rw [List.length_map]; omega) (by rw [List.length_map]; exact hlw) (fun i a b ha hb => by
        rw [List.getElem?_map] at ha
        obtain ⟨w, hw, rfl⟩ := Option.map_eq_some_iff.1 ha
        exact hA.at i w b.1 hw (by rw [List.getElem?_map, hb]; rfl))) (fun res h6 hle hrs => ?_)
      obtain ⟨rfl, rfl⟩ := hrs
      refine .ret ?_
      simp only [mach, mach2, mstd, ↓reduceIte, Nat.reduceEqDiff, Nat.reduceAdd, Nat.reduceMul, mbl, Nat.reduceLeDiff, Nat.reduceLT, Int.reduceEq]
      have kC := k12.trans k2b
      refine XX_of (Tokens_ok s _) (fun res h3 hle hrs => ?_)
      obtain ⟨k3, lv, rfl, ow3, fr3⟩ := hrs
      refine .ret ?_
      rcases tokF_cases s with ⟨us, e, ht⟩ | ⟨p, c, e, hc⟩
      · rw [e] at ow3 ⊢
        obtain ⟨la, lc, rfl⟩ := row_shape ow3.rds
        obtain ⟨o1, o2⟩ := toks_okT s.length s us (Nat.le_refl _) ht
        have hul : us.length ≤ 8000 := by
          have := tokF_len s
          rw [e] at this; exact this
        have hs8 := tokF_s8 e
        have rd3 : Rds h3 4 (.slice la us.length lc) (us.map gOf).length ((us.map gOf).flatMap tgC) := by rw [gOf_fm, List.length_map]; exact ow3.rds
        simp only [mach, mach2, mstd, ↓reduceIte, Nat.reduceEqDiff, Nat.reduceAdd, Nat.reduceMul, mbl, Nat.reduceLeDiff, Nat.reduceLT, Int.reduceEq]
        refine XX_of (Text_ok (us.map gOf) h3 _ rd3 (M := 8000) (by omega) (by rw [List.length_map]; omega) (by
          rw [gOf_fst]; intro t ht
          obtain ⟨a1, a2, a3⟩ := o2 t ht
          exact ⟨a1, a2, by omega⟩)) (fun res h4 hle hrs => ?_)
        obtain ⟨k4, rfl⟩ := hrs
        refine .ret ?_
        rw [gOf_fst, texS, if_pos o1]
        simp only [mach, mach2, mstd, ↓reduceIte, Nat.reduceEqDiff, Nat.reduceAdd, Nat.reduceMul, mbl, Nat.reduceLeDiff, Nat.reduceLT, Int.reduceEq]
        refine XX_of (Tokens_ok (catT us) h4) (fun res h5 hle hrs => ?_)
        obtain ⟨k5, lw, rfl, ow5, fr5⟩ := hrs
        refine .ret ?_
        by_cases h8 : (8000 : Int) < ((catT us).length : Int)
        · simp only [mach, mach2, mstd, ↓reduceIte, Nat.reduceEqDiff, Nat.reduceAdd, Nat.reduceMul, mbl, Nat.reduceLeDiff, Nat.reduceLT, Int.reduceEq, tx_size, eq_true h8]
          exact hΨ _ _ (fin_ret (rv1 rfl ⟨((kC.trans k3).trans k4).trans k5, rfl⟩))
        · obtain ⟨ws, e2, hA⟩ := tokF_cat us o1 (fun t ht => (o2 t ht).2.1) (by omega)
          rw [e2] at ow5 ⊢
          obtain ⟨lb, ld, rfl⟩ := row_shape ow5.rds
          have hlw := hA.len
          have rd3' := (ow3.keep k4 (fun _ _ e => e)).keep k5 (fun _ _ e => e)
          simp only [mach, mach2, mstd, ↓reduceIte, Nat.reduceEqDiff, Nat.reduceAdd, Nat.reduceMul, mbl, Nat.reduceLeDiff, Nat.reduceLT, Int.reduceEq, tx_size, h8]
          refine XX_of (alike_ok ws us h5 _ _ ow5.rds rd3'.rds (by omega) hlw hA.at) (fun res h6 hle hrs => ?_)
          obtain ⟨rfl, rfl⟩ := hrs
          refine .ret ?_
          simp only [mach, mach2, mstd, ↓reduceIte, Nat.reduceEqDiff, Nat.reduceAdd, Nat.reduceMul, mbl, Nat.reduceLeDiff, Nat.reduceLT, Int.reduceEq]
          exact hΨ _ _ (fin_ret (rv1 rfl ⟨((kC.trans k3).trans k4).trans k5, rfl⟩))
      · rw [e] at ow3 ⊢
        obtain ⟨la, lc, rfl⟩ := row_shape ow3.rds
        simp only [mach, mach2, mstd, ↓reduceIte, Nat.reduceEqDiff, Nat.reduceAdd, Nat.reduceMul, mbl, Nat.reduceLeDiff, Nat.reduceLT, Int.reduceEq, hc, show ((([] : List Tk).length : Nat) : Int) = 0 from rfl]
        exact hΨ _ _ (fin_ret (rv1 rfl ⟨kC.trans k3, rfl⟩))
    · simp only [mach, mach2, mstd, ↓reduceIte, Nat.reduceEqDiff, Nat.reduceAdd, Nat.reduceMul, mbl, Nat.reduceLeDiff, Nat.reduceLT, Int.reduceEq, tx_size, h8]
      have kC := k12
      refine XX_of (Tokens_ok s _) (fun res h3 hle hrs => ?_)
      obtain ⟨k3, lv, rfl, ow3, fr3⟩ := hrs
      refine .ret ?_
      rcases tokF_cases s with ⟨us, e, ht⟩ | ⟨p, c, e, hc⟩
      · rw [e] at ow3 ⊢
        obtain ⟨la, lc, rfl⟩ := row_shape ow3.rds
        obtain ⟨o1, o2⟩ := toks_okT s.length s us (Nat.le_refl _) ht
        have hul : us.length ≤ 8000 := by
          have := tokF_len s
          rw [e] at this; exact this
        have hs8 := tokF_s8 e
        have rd3 : Rds h3 4 (.slice la us.length lc) (us.map gOf).length ((us.map gOf).flatMap tgC) := by rw [gOf_fm, List.length_map]; exact ow3.rds
        simp only [mach, mach2, mstd, ↓reduceIte, Nat.reduceEqDiff, Nat.reduceAdd, Nat.reduceMul, mbl, Nat.reduceLeDiff, Nat.reduceLT, Int.reduceEq]
        refine XX_of (Text_ok (us.map gOf) h3 _ rd3 (M := 8000) (by omega) (by rw [List.length_map]; omega) (by
          rw [gOf_fst]; intro t ht
          obtain ⟨a1, a2, a3⟩ := o2 t ht
          exact ⟨a1, a2, by omega⟩)) (fun res h4 hle hrs => ?_)
        obtain ⟨k4, rfl⟩ := hrs
        refine .ret ?_
        rw [gOf_fst, texS, if_pos o1]
        simp only [mach, mach2, mstd, ↓reduceIte, Nat.reduceEqDiff, Nat.reduceAdd, Nat.reduceMul, mbl, Nat.reduceLeDiff, Nat.reduceLT, Int.reduceEq]
        refine XX_of (Tokens_ok (catT us) h4) (fun res h5 hle hrs => ?_)
        obtain ⟨k5, lw, rfl, ow5, fr5⟩ := hrs
        refine .ret ?_
        by_cases h8 : (8000 : Int) < ((catT us).length : Int)
        · simp only [mach, mach2, mstd, ↓reduceIte, Nat.reduceEqDiff, Nat.reduceAdd, Nat.reduceMul, mbl, Nat.reduceLeDiff, Nat.reduceLT, Int.reduceEq, tx_size, eq_true h8]
          exact hΨ _ _ (fin_ret (rv1 rfl ⟨((kC.trans k3).trans k4).trans k5, rfl⟩))
        · obtain ⟨ws, e2, hA⟩ := tokF_cat us o1 (fun t ht => (o2 t ht).2.1) (by omega)
          rw [e2] at ow5 ⊢
          obtain ⟨lb, ld, rfl⟩ := row_shape ow5.rds
          have hlw := hA.len
          have rd3' := (ow3.keep k4 (fun _ _ e => e)).keep k5 (fun _ _ e => e)
          simp only [mach, mach2, mstd, ↓reduceIte, Nat.reduceEqDiff, Nat.reduceAdd, Nat.reduceMul, mbl, Nat.reduceLeDiff, Nat.reduceLT, Int.reduceEq, tx_size, h8]
          refine XX_of (alike_ok ws us h5 _ _ ow5.rds rd3'.rds (by omega) hlw hA.at) (fun res h6 hle hrs => ?_)
          obtain ⟨rfl, rfl⟩ := hrs
          refine .ret ?_
          simp only [mach, mach2, mstd, ↓reduceIte, Nat.reduceEqDiff, Nat.reduceAdd, Nat.reduceMul, mbl, Nat.reduceLeDiff, Nat.reduceLT, Int.reduceEq]
          exact hΨ _ _ (fin_ret (rv1 rfl ⟨((kC.trans k3).trans k4).trans k5, rfl⟩))
      · rw [e] at ow3 ⊢
        obtain ⟨la, lc, rfl⟩ := row_shape ow3.rds
        simp only [mach, mach2, mstd, ↓reduceIte, Nat.reduceEqDiff, Nat.reduceAdd, Nat.reduceMul, mbl, Nat.reduceLeDiff, Nat.reduceLT, Int.reduceEq, hc, show ((([] : List Tk).length : Nat) : Int) = 0 from rfl]
        exact hΨ _ _ (fin_ret (rv1 rfl ⟨kC.trans k3, rfl⟩))
  · rw [texS, if_neg hok]
    simp only [mach, mach2, mstd, ↓reduceIte, Nat.reduceEqDiff, Nat.reduceAdd, Nat.reduceMul, mbl, Nat.reduceLeDiff, Nat.reduceLT, Int.reduceEq, nil_eq]
    have kC := k12
    refine XX_of (Tokens_ok s _) (fun res h3 hle hrs => ?_)
    obtain ⟨k3, lv, rfl, ow3, fr3⟩ := hrs
    refine .ret ?_
    rcases tokF_cases s with ⟨us, e, ht⟩ | ⟨p, c, e, hc⟩
    · rw [e] at ow3 ⊢
      obtain ⟨la, lc, rfl⟩ := row_shape ow3.rds
      obtain ⟨o1, o2⟩ := toks_okT s.length s us (Nat.le_refl _) ht
      have hul : us.length ≤ 8000 := by
        have := tokF_len s
        rw [e] at this; exact this
      have hs8 := tokF_s8 e
      have rd3 : Rds h3 4 (.slice la us.length lc) (us.map gOf).length ((us.map gOf).flatMap tgC) := by rw [gOf_fm, List.length_map]; exact ow3.rds
      simp only [mach, mach2, mstd, ↓reduceIte, Nat.reduceEqDiff, Nat.reduceAdd, Nat.reduceMul, mbl, Nat.reduceLeDiff, Nat.reduceLT, Int.reduceEq]
      refine XX_of (Text_ok (us.map gOf) h3 _ rd3 (M := 8000) (by omega) (by rw [List.length_map]; omega) (by
        rw [gOf_fst]; intro t ht
        obtain ⟨a1, a2, a3⟩ := o2 t ht
        exact ⟨a1, a2, by omega⟩)) (fun res h4 hle hrs => ?_)
      obtain ⟨k4, rfl⟩ := hrs
      refine .ret ?_
      rw [gOf_fst, texS, if_pos o1]
      simp only [mach, mach2, mstd, ↓reduceIte, Nat.reduceEqDiff, Nat.reduceAdd, Nat.reduceMul, mbl, Nat.reduceLeDiff, Nat.reduceLT, Int.reduceEq]
      refine XX_of (Tokens_ok (catT us) h4) (fun res h5 hle hrs => ?_)
      obtain ⟨k5, lw, rfl, ow5, fr5⟩ := hrs
      refine .ret ?_
      by_cases h8 : (8000 : Int) < ((catT us).length : Int)
      · simp only [mach, mach2, mstd, ↓reduceIte, Nat.reduceEqDiff, Nat.reduceAdd, Nat.reduceMul, mbl, Nat.reduceLeDiff, Nat.reduceLT, Int.reduceEq, tx_size, eq_true h8]
        exact hΨ _ _ (fin_ret (rv1 rfl ⟨((kC.trans k3).trans k4).trans k5, rfl⟩))
      · obtain ⟨ws, e2, hA⟩ := tokF_cat us o1 (fun t ht => (o2 t ht).2.1) (by omega)
        rw [e2] at ow5 ⊢
        obtain ⟨lb, ld, rfl⟩ := row_shape ow5.rds
        have hlw := hA.len
        have rd3' := (ow3.keep k4 (fun _ _ e => e)).keep k5 (fun _ _ e => e)
        simp only [mach, mach2, mstd, ↓reduceIte, Nat.reduceEqDiff, Nat.reduceAdd, Nat.reduceMul, mbl, Nat.reduceLeDiff, Nat.reduceLT, Int.reduceEq, tx_size, h8]
        refine XX_of (alike_ok ws us h5 _ _ ow5.rds rd3'.rds (by omega) hlw hA.at) (fun res h6 hle hrs => ?_)
        obtain ⟨rfl, rfl⟩ := hrs
        refine .ret ?_
        simp only [mach, mach2, mstd, ↓reduceIte, Nat.reduceEqDiff, Nat.reduceAdd, Nat.reduceMul, mbl, Nat.reduceLeDiff, Nat.reduceLT, Int.reduceEq]
        exact hΨ _ _ (fin_ret (rv1 rfl ⟨((kC.trans k3).trans k4).trans k5, rfl⟩))
    · rw [e] at ow3 ⊢
      obtain ⟨la, lc, rfl⟩ := row_shape ow3.rds
      simp only [mach, mach2, mstd, ↓reduceIte, Nat.reduceEqDiff, Nat.reduceAdd, Nat.reduceMul, mbl, Nat.reduceLeDiff, Nat.reduceLT, Int.reduceEq, hc, show ((([] : List Tk).length : Nat) : Int) = 0 from rfl]
      exact hΨ _ _ (fin_ret (rv1 rfl ⟨kC.trans k3, rfl⟩))
end Go.S07
