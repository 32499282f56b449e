import Derived.Test.YtobbonpebopafaaDoorPk20
import Derived.Test.YtobbonpebopafaaDoorPk16
/- Tokens: the document's side: quotes, numbers. -/
set_option linter.unusedVariables false
set_option linter.unusedSimpArgs false
namespace Go.S07
open Go Go.Eng Go.Proofs Go.Scn

/-- A token that a function of the document answers, and how many bytes it has. -/
def tokV (p : Nat) : Option (Int × Bs × Int × Nat) → Value
  | none => .tuple #[.agg #[iv 0, .string ⟨#[]⟩, iv 0, iv 0], iv 0]
  | some (k, t, v, n) => .tuple #[.agg #[iv k, tv t, iv v, iv p], iv n]
abbrev zT : List Value := [iv 0, .string ⟨#[]⟩, iv 0, iv 0]
def RTok (h : AH) (p : Nat) (x : Option (Int × Bs × Int × Nat)) (res : Res) (h' : AH) : Prop := Keep (fun _ => False) h h' ∧ res = .ret (tokV p x)

theorem rvcv {P : Program} {e l : PE} {h : AH} {ds : List Dfr} {x y : RX} {f : U} {p u v : Value} {K : List Value → Prop} (hx : rx e l x = some p) (hu : uval P h h.length f p = some (u, none)) (hy : rx e l y = some v) (hk : K [u, v]) :
    rvK P ⟨e, l, h, ds⟩ [.c x f, .v y] K := by
  simp only [rvK, hx, vK, hu, rK, hy]; exact hk
theorem ldn4 {h : AH} {m b : Nat} {k t v a : Value} (o : Own h b tkT [k, t, v, a]) : uval Tryd.prog h m (.ldn 4) (.pointer (some ⟨b, 0, none⟩)) = some (.agg #[k, t, v, a], none) := by
  have := o.cells
  unfold Cells at this
  simp only [uval]; rw [this]; rfl

/-- What quotes are. -/
def quX (c : UInt8) (l : Bs) : Option (Int × Bs × Int × Nat) := match qt c l with
  | none => none
  | some (bs, n) => if c.toNat = 34 then some (5, bs, 0, n + 2) else
    match bs with
    | [x] => some (4, [], (x.toNat : Int), n + 2)
    | _ => none

set_option maxHeartbeats 4000000 in
theorem rquoted_ok (s : Bs) (p : Nat) (c : UInt8) (hs : s.length ≤ 8000) (hp : p < s.length) (hc : s[p]? = some c) (hq : c.toNat = 39 ∨ c.toNat = 34) (h : AH) : Gets Tryd.prog 55 [tv s, iv p] h (RTok h p (quX c (s.drop (p + 1)))) := by
  refine Gets.of (keep := false) hP (draw_ok hM) k55 (by rfl) (fun Ψ hΨ => ?_)
  have g0 : (0 : Int) ≤ (p : Int) := by omega
  have hw0 : IntKind.i64.wrap ((p : Int) + 1) = ((p + 1 : Nat) : Int) := by rw [i64w (by omega) (by omega)]; omega
  have o1 := Own.new h tkT h.length zT
  have k1 : Keep (fun _ => False) h (h ++ [row tkT h.length zT]) := Keep.push _ _ _
  simp only [mach, mach2, mstd, ↓reduceIte, Nat.reduceEqDiff, Nat.reduceAdd, Nat.reduceMul, r55, mbl, Nat.reduceLeDiff, Nat.reduceLT, Int.reduceEq, tx_get, hc, g0, Int.toNat_natCast, hw0]
  generalize hh1 : h ++ [row tkT h.length zT] = h1 at o1 k1 ⊢
  have hl1 : h1.length = h.length + 1 := by rw [← hh1]; simp
  refine XLo_rule (α := Nat × Value × Bs) (fun a => [(0, tv s), (1, iv p), (4, .pointer (some ⟨h.length, 0, none⟩)), (6, bv c), (7, a.2.1), (8, iv a.1)])
    (fun a h' => p + 1 ≤ a.1 ∧ a.1 ≤ s.length ∧ Keep (fun _ => False) h h' ∧ Own h' h.length tkT zT ∧ Ows h' 5 1 a.2.1 a.2.2.length (a.2.2.map bv) ∧ (∀ q, bk a.2.1 q → h.length < q) ∧ a.2.2.length ≤ a.1 ∧
      qt c (s.drop (p + 1)) = (qt c (s.drop a.1)).map fun y => (a.2.2 ++ y.1, (a.1 - (p + 1)) + y.2)) (fun a => s.length - a.1) (p + 1, .slice none 0 0, [])
    ⟨Nat.le_refl _, by simp only; omega, k1, o1, .nil, fun q e => e.elim, by simp, by simp⟩ ⟨rfl, rfl, rfl, rfl, rfl, rfl, trivial⟩ ?_
  rintro ⟨i, vb, acc⟩ h2 Ψ2 ⟨g1, g2, kp, o2, ow, fr, hln, heq⟩ next out
  simp only at g1 g2 ow fr hln heq
  obtain ⟨va, vc, rfl⟩ := row_shape ow.rds
  by_cases hi : (i : Int) < (s.length : Int)
  case neg =>
    have hn : quX c (s.drop (p + 1)) = none := by rw [quX, heq, show s.drop i = [] from List.drop_eq_nil_of_le (by omega), qt_nil]; rfl
    have hge : (s.length : Int) ≤ (i : Int) := by omega
    simp only [mach, mach2, mstd, ↓reduceIte, Nat.reduceEqDiff, Nat.reduceAdd, Nat.reduceMul, tx_size, hi]
    refine out (.exit 0) _ _ _ _ (by intro e; cases e) ?_
    simp only [mach, mach2, mstd, ↓reduceIte, Nat.reduceEqDiff, Nat.reduceAdd, Nat.reduceMul, tx_size, eq_true hge, mbl, Nat.reduceLeDiff, Nat.reduceLT, Int.reduceEq]
    refine XH_own o2 rfl (by simp [Value.cells]) rfl (fun h3 q1 q2 q3 => ?_)
    have o3 : Own h3 h.length tkT zT := by simpa [Value.cells] using q1
    simp only [mach, mach2, mstd, ↓reduceIte, Nat.reduceEqDiff, Nat.reduceAdd, Nat.reduceMul]
    exact hΨ _ _ (fin_ret (rvcv rfl (ldn4 o3) rfl ⟨kp.trans' q2 (fun c hc e => by omega), by rw [hn]; rfl⟩))
  have hil : i < s.length := by omega
  have gi : (0 : Int) ≤ (i : Int) := by omega
  have hci : s[i]? = some s[i] := List.getElem?_eq_getElem hil
  have hdr := List.drop_eq_getElem_cons hil
  have hwi : IntKind.i64.wrap ((i : Int) + 1) = ((i + 1 : Nat) : Int) := by rw [i64w (by omega) (by omega)]; omega
  have hwp : IntKind.i64.wrap (((i + 1 : Nat) : Int) - (p : Int)) = ((i + 1 - p : Nat) : Int) := by rw [i64w (by omega) (by omega)]; omega
  have hlt : ¬ (s.length : Int) ≤ (i : Int) := by omega
  by_cases he : (s[i].toNat : Int) = (c.toNat : Int)
  · have hec : s[i] = c := UInt8.toNat_inj.1 (by omega)
    have hqt : qt c (s.drop (p + 1)) = some (acc, i - (p + 1)) := by rw [heq, hdr, qt_cons, if_pos hec]; simp
    simp only [mach, mach2, mstd, ↓reduceIte, Nat.reduceEqDiff, Nat.reduceAdd, Nat.reduceMul, tx_size, hi, tx_get, hci, gi, Int.toNat_natCast, eq_true he]
    refine out (.exit 0) _ _ _ _ (by intro e; cases e) ?_
    by_cases h39 : (c.toNat : Int) = 39
    · have n34 : ¬ c.toNat = 34 := by omega
      by_cases hl1' : (acc.length : Int) = 1
      · obtain ⟨y, rfl⟩ : ∃ y, acc = [y] := List.length_eq_one_iff.1 (by omega)
        obtain ⟨b2, c2, all, e2, ob, hall, hlc, htk⟩ := ows_open ow (by simp)
        cases e2
        have hy : ldc h2 b2 0 = some (bv y) := by
          rw [ob.cells.ld]
          cases all with
          | nil => simp at htk
          | cons a all => simp at htk; rw [htk]; rfl
        have hwy : IntKind.i64.wrap (y.toNat : Int) = (y.toNat : Int) := by have := y.toNat_lt; exact i64w (by omega) (by omega)
        simp only [mach, mach2, mstd, ↓reduceIte, Nat.reduceEqDiff, Nat.reduceAdd, Nat.reduceMul, tx_size, hlt, eq_true h39, eq_true hl1', show ((0:Int) < (([y] : Bs).length : Int)) = True by simp, Int.le_refl, Int.toNat_zero, Nat.zero_mul, Nat.zero_add, hy, hwy, hwi, hwp, mbl, Nat.reduceLeDiff, Nat.reduceLT, Int.reduceEq]
        refine XH_own o2 rfl (by simp [Value.cells]) rfl (fun h3 q1 q2 q3 => ?_)
        have o3 : Own h3 h.length tkT [iv 4, .string ⟨#[]⟩, iv (y.toNat : Int), iv p] := by simpa [Value.cells] using q1
        simp only [mach, mach2, mstd, ↓reduceIte, Nat.reduceEqDiff, Nat.reduceAdd, Nat.reduceMul]
        refine hΨ _ _ (fin_ret (rvcv rfl (ldn4 o3) rfl ⟨kp.trans' q2 (fun c hc e => by omega), ?_⟩))
        rw [quX, hqt]
        simp only
        rw [if_neg n34, show i - (p + 1) + 2 = i + 1 - p by omega]
        rfl
      · have hn : quX c (s.drop (p + 1)) = none := by
          rw [quX, hqt]
          simp only
          rw [if_neg n34]
          rcases acc with _ | ⟨y, _ | ⟨z, acc⟩⟩
          · rfl
          · simp at hl1'
          · rfl
        simp only [mach, mach2, mstd, ↓reduceIte, Nat.reduceEqDiff, Nat.reduceAdd, Nat.reduceMul, tx_size, hlt, eq_true h39, hl1', mbl, Nat.reduceLeDiff, Nat.reduceLT, Int.reduceEq]
        refine XH_own o2 rfl (by simp [Value.cells]) rfl (fun h3 q1 q2 q3 => ?_)
        have o3 : Own h3 h.length tkT zT := by simpa [Value.cells] using q1
        simp only [mach, mach2, mstd, ↓reduceIte, Nat.reduceEqDiff, Nat.reduceAdd, Nat.reduceMul]
        exact hΨ _ _ (fin_ret (rvcv rfl (ldn4 o3) rfl ⟨kp.trans' q2 (fun c hc e => by omega), by rw [hn]; rfl⟩))
    · simp only [mach, mach2, mstd, ↓reduceIte, Nat.reduceEqDiff, Nat.reduceAdd, Nat.reduceMul, tx_size, hlt, h39, b2s_tx ow.rds, hwi, hwp, mbl, Nat.reduceLeDiff, Nat.reduceLT, Int.reduceEq]
      refine XH_own o2 rfl (by simp [Value.cells]) rfl (fun h3 q1 q2 q3 => ?_)
      have o3 : Own h3 h.length tkT [iv 5, tv acc, iv 0, iv p] := by simpa [Value.cells] using q1
      simp only [mach, mach2, mstd, ↓reduceIte, Nat.reduceEqDiff, Nat.reduceAdd, Nat.reduceMul]
      refine hΨ _ _ (fin_ret (rvcv rfl (ldn4 o3) rfl ⟨kp.trans' q2 (fun c hc e => by omega), ?_⟩))
      rw [quX, hqt]
      simp only
      rw [if_pos (by omega), show i - (p + 1) + 2 = i + 1 - p by omega]
      rfl
  · have hec : ¬ s[i] = c := fun e => he (by rw [e])
    simp only [mach, mach2, mstd, ↓reduceIte, Nat.reduceEqDiff, Nat.reduceAdd, Nat.reduceMul, tx_size, hi, tx_get, hci, gi, Int.toNat_natCast, he]
    refine XX_val (rwritten_ok s i hs (by omega) h2) ?_
    have hwl := wr_le (s.drop i)
    rw [List.length_drop] at hwl
    have hqi : qt c (s.drop i) = if (wr (s.drop i)).2 = 0 then none else (qt c ((s.drop i).drop (wr (s.drop i)).2)).map fun y => ((wr (s.drop i)).1 :: y.1, (wr (s.drop i)).2 + y.2) := by
      conv => lhs; rw [hdr]
      rw [qt_cons, if_neg hec, ← hdr]
    have hwb := (wr (s.drop i)).1.toNat_lt
    by_cases hn0 : ((wr (s.drop i)).2 : Int) = 0
    · have hn : quX c (s.drop (p + 1)) = none := by rw [quX, heq, hqi, if_pos (by omega)]; rfl
      simp only [mach, mach2, mstd, ↓reduceIte, Nat.reduceEqDiff, Nat.reduceAdd, Nat.reduceMul, mbl, Nat.reduceLeDiff, Nat.reduceLT, Int.reduceEq, eq_true hn0]
      refine XH_own o2 rfl (by simp [Value.cells]) rfl (fun h3 q1 q2 q3 => ?_)
      have o3 : Own h3 h.length tkT zT := by simpa [Value.cells] using q1
      simp only [mach, mach2, mstd, ↓reduceIte, Nat.reduceEqDiff, Nat.reduceAdd, Nat.reduceMul]
      refine out .ret _ _ _ _ (by intro e; cases e) ?_
      simp only [mach, mach2, mstd, ↓reduceIte, Nat.reduceEqDiff, Nat.reduceAdd, Nat.reduceMul]
      exact hΨ _ _ (fin_ret (rvcv rfl (ldn4 o3) rfl ⟨kp.trans' q2 (fun c hc e => by omega), by rw [hn]; rfl⟩))
    · obtain ⟨s', h', a1, a2, a3, a4⟩ := app1 (bytes := 1) ow (xs := [bv (wr (s.drop i)).1]) rfl rfl (by omega) (by omega)
      have hwn : IntKind.i64.wrap ((i : Int) + ((wr (s.drop i)).2 : Int)) = ((i + (wr (s.drop i)).2 : Nat) : Int) := by rw [i64w (by omega) (by omega)]; omega
      have hw8 : IntKind.u8.wrap ((wr (s.drop i)).1.toNat : Int) = ((wr (s.drop i)).1.toNat : Int) := u8w (by omega) (by omega)
      simp only [mach, mach2, mstd, ↓reduceIte, Nat.reduceEqDiff, Nat.reduceAdd, Nat.reduceMul, mbl, Nat.reduceLeDiff, Nat.reduceLT, Int.reduceEq, hn0, hw8, a1, hwn]
      refine next (i + (wr (s.drop i)).2, s', acc ++ [(wr (s.drop i)).1]) _ _ _ ⟨by simp only; omega, by simp only; omega, kp.trans' a3 (fun q hq e => by have := fr q e; omega), o2.keep a3 (fun e => by have := fr _ e; omega), ?_, ?_, ?_, ?_⟩ ⟨rfl, rfl, rfl, rfl, rfl, rfl, trivial⟩ (by simp only; omega)
      · simpa using a2
      · intro q hq
        rcases a4 q hq with e | e
        · exact fr q e
        · have := o2.lt; show h.length < q; omega
      · simp only [List.length_append, List.length_singleton]; omega
      · rw [heq, hqi, if_neg (by omega), List.drop_drop]
        simp only [Option.map_map]
        congr 1
        funext y
        simp only [Function.comp, List.append_assoc, List.singleton_append, Prod.mk.injEq, true_and]
        omega

/-! ### Numbers -/

def nmL : Nat → Bs → Option Nat
  | v, [] => some v
  | v, c :: r => if digit c then (if 9223372036854775807 < 10 * v + (c.toNat - 48) then none else nmL (10 * v + (c.toNat - 48)) r) else some v
theorem puS_ge {mx : Nat} : ∀ (l : Bs) (n k : Nat), puS 10 mx n l = .ok k → n ≤ k := by
  intro l
  induction l with
  | nil => intro n k h; simp only [puS] at h; cases h; exact Nat.le_refl _
  | cons c l ih =>
    intro n k h
    simp only [puS] at h
    split at h
    · cases h
    · split at h
      · cases h
      · have := ih _ _ h; omega
theorem nmL_eq : ∀ (l : Bs) (v : Nat), v ≤ 9223372036854775807 → nmL v l = match puS 10 18446744073709551615 v (l.take (spn digit l)) with
    | .ok n => if n < 9223372036854775808 then some n else none
    | _ => none := by
  intro l
  induction l with
  | nil => intro v hv; simp only [nmL, List.take_nil, puS]; rw [if_pos (by omega)]
  | cons c l ih =>
    intro v hv
    rw [spn_cons, nmL]
    cases hd : digit c with
    | false => simp only [Bool.false_eq_true, if_false, List.take_zero, puS]; rw [if_pos (by omega)]
    | true =>
      have hd' : 48 ≤ c.toNat ∧ c.toNat ≤ 57 := by simpa [digit] using hd
      have hdg : dg c = c.toNat - 48 := by unfold dg; rw [if_pos hd]
      simp only [if_true, List.take_succ_cons, puS, hdg]
      rw [if_neg (show ¬ 10 ≤ c.toNat - 48 by omega)]
      by_cases h1 : 9223372036854775807 < 10 * v + (c.toNat - 48)
      · rw [if_pos h1]
        split
        · rename_i n hp
          split at hp
          · cases hp
          · have := puS_ge _ _ _ hp
            rw [if_neg (by omega)]
        · rfl
      · rw [if_neg h1, ih _ (by omega), if_neg (by omega), show v * 10 + (c.toNat - 48) = 10 * v + (c.toNat - 48) by omega]
theorem nmL_int (l : Bs) : nmL 0 l = intV (l.take (spn digit l)) := by rw [nmL_eq _ _ (by omega)]; rfl

set_option maxHeartbeats 2000000 in
theorem number_ok (s : Bs) (p : Nat) (hs : s.length ≤ 8000) (hp : p < s.length) (h : AH) : Gets Tryd.prog 54 [tv s, iv p] h (RTok h p ((intV ((s.drop p).take (spn digit (s.drop p)))).map fun v => (3, [], (v : Int), spn digit (s.drop p)))) := by
  refine Gets.of (keep := false) hP (draw_ok hM) k54 (by rfl) (fun Ψ hΨ => ?_)
  rw [← nmL_int] at hΨ
  have o1 := Own.new h tkT h.length zT
  have k1 : Keep (fun _ => False) h (h ++ [row tkT h.length zT]) := Keep.push _ _ _
  simp only [mach, mach2, mstd, ↓reduceIte, Nat.reduceEqDiff, Nat.reduceAdd, Nat.reduceMul, r54, mbl, Nat.reduceLeDiff, Nat.reduceLT, Int.reduceEq]
  generalize hh1 : h ++ [row tkT h.length zT] = h1 at o1 k1 ⊢
  have hl1 : h1.length = h.length + 1 := by rw [← hh1]; simp
  refine XLo_rule (α := Nat × Nat) (fun a => [(0, tv s), (1, iv p), (4, .pointer (some ⟨h.length, 0, none⟩)), (6, iv a.1), (7, iv a.2)])
    (fun a h' => h' = h1 ∧ p ≤ a.1 ∧ a.1 ≤ s.length ∧ a.2 ≤ 9223372036854775807 ∧ nmL 0 (s.drop p) = nmL a.2 (s.drop a.1) ∧ spn digit (s.drop p) = (a.1 - p) + spn digit (s.drop a.1)) (fun a => s.length - a.1) (p, 0)
    ⟨rfl, Nat.le_refl _, by simp only; omega, by simp, rfl, by simp⟩ ⟨rfl, rfl, rfl, rfl, rfl, trivial⟩ ?_
  rintro ⟨i, v⟩ h2 Ψ2 ⟨rfl, g1, g2, g3, heq, hsp⟩ next out
  simp only at g1 g2 g3 heq hsp
  have hwp : IntKind.i64.wrap ((i : Int) - (p : Int)) = ((i - p : Nat) : Int) := by rw [i64w (by omega) (by omega)]; omega
  have stop : nmL v (s.drop i) = some v → spn digit (s.drop i) = 0 → ∀ {h3 : AH}, Keep (fun c => c = h.length) h2 h3 → (nmL 0 (s.drop p)).map (fun v => ((3 : Int), ([] : Bs), (v : Int), spn digit (s.drop p))) = some (3, [], (v : Int), i - p) := fun e1 e2 h3 _ => by
    rw [heq, e1, hsp, e2]; rfl
  by_cases hi : (i : Int) < (s.length : Int)
  case neg =>
    have e0 : s.drop i = [] := List.drop_eq_nil_of_le (by omega)
    simp only [mach, mach2, mstd, ↓reduceIte, Nat.reduceEqDiff, Nat.reduceAdd, Nat.reduceMul, tx_size, hi]
    refine out (.exit 0) _ _ _ _ (by intro e; cases e) ?_
    simp only [mach, mach2, mstd, ↓reduceIte, Nat.reduceEqDiff, Nat.reduceAdd, Nat.reduceMul, hwp, mbl, Nat.reduceLeDiff, Nat.reduceLT, Int.reduceEq]
    refine XH_own o1 rfl (by simp [Value.cells]) rfl (fun h3 q1 q2 q3 => ?_)
    have o3 : Own h3 h.length tkT [iv 3, .string ⟨#[]⟩, iv v, iv p] := by simpa [Value.cells] using q1
    simp only [mach, mach2, mstd, ↓reduceIte, Nat.reduceEqDiff, Nat.reduceAdd, Nat.reduceMul]
    refine hΨ _ _ (fin_ret (rvcv rfl (ldn4 o3) rfl ⟨k1.trans' q2 (fun c hc e => by omega), ?_⟩))
    rw [stop (by rw [e0]; rfl) (by rw [e0]; rfl) q2]; rfl
  have hil : i < s.length := by omega
  have gi : (0 : Int) ≤ (i : Int) := by omega
  have hci : s[i]? = some s[i] := List.getElem?_eq_getElem hil
  have hdr := List.drop_eq_getElem_cons hil
  simp only [mach, mach2, mstd, ↓reduceIte, Nat.reduceEqDiff, Nat.reduceAdd, Nat.reduceMul, tx_size, hi, tx_get, hci, gi, Int.toNat_natCast]
  refine XX_val (rdigit_ok _ _) ?_
  cases hd : digit s[i] with
  | false =>
    simp only [mach, mach2, mstd, ↓reduceIte, Nat.reduceEqDiff, Nat.reduceAdd, Nat.reduceMul]
    refine out (.exit 0) _ _ _ _ (by intro e; cases e) ?_
    simp only [mach, mach2, mstd, ↓reduceIte, Nat.reduceEqDiff, Nat.reduceAdd, Nat.reduceMul, hwp, mbl, Nat.reduceLeDiff, Nat.reduceLT, Int.reduceEq]
    refine XH_own o1 rfl (by simp [Value.cells]) rfl (fun h3 q1 q2 q3 => ?_)
    have o3 : Own h3 h.length tkT [iv 3, .string ⟨#[]⟩, iv v, iv p] := by simpa [Value.cells] using q1
    simp only [mach, mach2, mstd, ↓reduceIte, Nat.reduceEqDiff, Nat.reduceAdd, Nat.reduceMul]
    refine hΨ _ _ (fin_ret (rvcv rfl (ldn4 o3) rfl ⟨k1.trans' q2 (fun c hc e => by omega), ?_⟩))
    rw [stop (by rw [hdr, nmL, hd]; rfl) (by rw [hdr, spn_cons, hd]; rfl) q2]; rfl
  | true =>
    have hd' : 48 ≤ s[i].toNat ∧ s[i].toNat ≤ 57 := by simpa [digit] using hd
    have w1 : IntKind.u8.wrap ((s[i].toNat : Int) - 48) = ((s[i].toNat - 48 : Nat) : Int) := by rw [u8w (by omega) (by omega)]; omega
    have w2 : IntKind.i64.wrap ((s[i].toNat - 48 : Nat) : Int) = ((s[i].toNat - 48 : Nat) : Int) := i64w (by omega) (by omega)
    have w3 : IntKind.i64.wrap (9223372036854775807 - ((s[i].toNat - 48 : Nat) : Int)) = ((9223372036854775807 - (s[i].toNat - 48) : Nat) : Int) := by rw [i64w (by omega) (by omega)]; omega
    have w4 : Int.tdiv ((9223372036854775807 - (s[i].toNat - 48) : Nat) : Int) 10 = (((9223372036854775807 - (s[i].toNat - 48)) / 10 : Nat) : Int) := by rw [Int.tdiv_eq_ediv_of_nonneg (by omega)]; omega
    have w5 : IntKind.i64.wrap (((9223372036854775807 - (s[i].toNat - 48)) / 10 : Nat) : Int) = (((9223372036854775807 - (s[i].toNat - 48)) / 10 : Nat) : Int) := i64w (by omega) (by omega)
    have hwi : IntKind.i64.wrap ((i : Int) + 1) = ((i + 1 : Nat) : Int) := by rw [i64w (by omega) (by omega)]; omega
    by_cases hov : (((9223372036854775807 - (s[i].toNat - 48)) / 10 : Nat) : Int) < (v : Int)
    · simp only [mach, mach2, mstd, ↓reduceIte, Nat.reduceEqDiff, Nat.reduceAdd, Nat.reduceMul, tx_get, hci, gi, Int.toNat_natCast, w1, w2, w3, w4, w5, show ((10 : Int) = 0) = False by simp, eq_true hov, mbl, Nat.reduceLeDiff, Nat.reduceLT, Int.reduceEq]
      refine XH_own o1 rfl (by simp [Value.cells]) rfl (fun h3 q1 q2 q3 => ?_)
      have o3 : Own h3 h.length tkT zT := by simpa [Value.cells] using q1
      simp only [mach, mach2, mstd, ↓reduceIte, Nat.reduceEqDiff, Nat.reduceAdd, Nat.reduceMul]
      refine out .ret _ _ _ _ (by intro e; cases e) ?_
      simp only [mach, mach2, mstd, ↓reduceIte, Nat.reduceEqDiff, Nat.reduceAdd, Nat.reduceMul]
      refine hΨ _ _ (fin_ret (rvcv rfl (ldn4 o3) rfl ⟨k1.trans' q2 (fun c hc e => by omega), ?_⟩))
      rw [heq, hdr, nmL, hd]
      simp only [if_true]
      rw [if_pos (by omega)]; rfl
    · have w6 : IntKind.i64.wrap (10 * (v : Int)) = ((10 * v : Nat) : Int) := by rw [i64w (by omega) (by omega)]; omega
      have w7 : IntKind.i64.wrap (((10 * v : Nat) : Int) + ((s[i].toNat - 48 : Nat) : Int)) = ((10 * v + (s[i].toNat - 48) : Nat) : Int) := by rw [i64w (by omega) (by omega)]; omega
      simp only [mach, mach2, mstd, ↓reduceIte, Nat.reduceEqDiff, Nat.reduceAdd, Nat.reduceMul, tx_get, hci, gi, Int.toNat_natCast, w1, w2, w3, w4, w5, show ((10 : Int) = 0) = False by simp, hov, w6, w7, hwi]
      refine next (i + 1, 10 * v + (s[i].toNat - 48)) _ _ _ ⟨rfl, by simp only; omega, by simp only; omega, by simp only; omega, ?_, ?_⟩ ⟨rfl, rfl, rfl, rfl, rfl, trivial⟩ (by simp only; omega)
      · rw [heq, hdr, nmL, hd]
        simp only [if_true]
        rw [if_neg (by omega)]
      · rw [hsp, hdr, spn_cons, if_pos hd]; simp only; omega
end Go.S07

/- Tokens: the document's side: one token, all tokens. -/
set_option linter.unusedVariables false
set_option linter.unusedSimpArgs false
namespace Go.S07
open Go Go.Eng Go.Proofs Go.Scn

def in8 : Bs := [40, 41, 91, 93, 123, 125, 44, 59]
theorem mk_all : ((List.range 256).all fun n => (!in8.contains (UInt8.ofNat n) || (!symb (UInt8.ofNat n) && markL.contains [UInt8.ofNat n])) && (in8.contains (UInt8.ofNat n) || symb (UInt8.ofNat n) || small (UInt8.ofNat n) || !markL.contains [UInt8.ofNat n])) = true := by decide +kernel
theorem mk8 {c : UInt8} (h : in8.contains c = true) : symb c = false ∧ markL.contains [c] = true := by
  have := List.all_eq_true.1 mk_all c.toNat (List.mem_range.2 c.toNat_lt)
  rw [UInt8.ofNat_toNat, h] at this
  simp only [Bool.not_true, Bool.false_or, Bool.and_eq_true, Bool.not_eq_true'] at this
  exact this.1
theorem mk8n {c : UInt8} (h : in8.contains c = false) (h2 : symb c = false) (h3 : small c = false) : markL.contains [c] = false := by
  have := List.all_eq_true.1 mk_all c.toNat (List.mem_range.2 c.toNat_lt)
  rw [UInt8.ofNat_toNat, h, h2, h3] at this
  simpa using this

set_option maxHeartbeats 4000000 in
theorem rtoken_ok (s : Bs) (p : Nat) (hs : s.length ≤ 8000) (hp : p < s.length) (h : AH) : Gets Tryd.prog 25 [tv s, iv p] h (RTok h p (tokS (s.drop p))) := by
  refine Gets.of (keep := false) hP (draw_ok hM) k25 (by rfl) (fun Ψ hΨ => ?_)
  have g0 : (0 : Int) ≤ (p : Int) := by omega
  have hw0 : IntKind.i64.wrap ((p : Int) + 1) = ((p + 1 : Nat) : Int) := by rw [i64w (by omega) (by omega)]; omega
  have hc : s[p]? = some s[p] := List.getElem?_eq_getElem hp
  have hdr := List.drop_eq_getElem_cons hp
  have hlen : (s.drop p).length = s.length - p := by simp
  generalize hcc : s[p] = c at hc hdr
  have o1 := Own.new h tkT h.length zT
  have k1 : Keep (fun _ => False) h (h ++ [row tkT h.length zT]) := Keep.push _ _ _
  simp only [mach, mach2, mstd, ↓reduceIte, Nat.reduceEqDiff, Nat.reduceAdd, Nat.reduceMul, r25, mbl, Nat.reduceLeDiff, Nat.reduceLT, Int.reduceEq, tx_get, hc, g0, Int.toNat_natCast, hw0]
  generalize hh1 : h ++ [row tkT h.length zT] = h1 at o1 k1 ⊢
  have hl1 : h1.length = h.length + 1 := by rw [← hh1]; simp
  refine XX_val (rsmall_ok c h1) ?_
  cases hsm : small c with
  | true =>
    have hsml : (small c || large c) = true := by rw [hsm]; rfl
    have hin0 : inner c = true := by simp [inner, hsm]
    simp only [mach, mach2, mstd, ↓reduceIte, Nat.reduceEqDiff, Nat.reduceAdd, Nat.reduceMul]
    refine XLo_rule (α := Nat) (fun i => [(0, tv s), (1, iv p), (4, .pointer (some ⟨h.length, 0, none⟩)), (7, iv i)])
      (fun i h' => h' = h1 ∧ p ≤ i ∧ i ≤ s.length ∧ spn inner (s.drop p) = (i - p) + spn inner (s.drop i)) (fun i => s.length - i) (p + 1)
      ⟨rfl, by omega, by omega, by rw [hdr, spn_cons, if_pos hin0]; omega⟩ ⟨rfl, rfl, rfl, rfl, trivial⟩ ?_
    rintro i h2 Ψ2 ⟨rfl, g1, g2, hsp⟩ next out
    by_cases hi : (i : Int) < (s.length : Int)
    case neg =>
      have hz : spn inner (s.drop i) = 0 := by rw [List.drop_eq_nil_of_le (by omega)]; rfl
      simp only [mach, mach2, mstd, ↓reduceIte, Nat.reduceEqDiff, Nat.reduceAdd, Nat.reduceMul, tx_size, hi]
      refine out (.exit 1) _ _ _ _ (by intro e; cases e) ?_
      have hk : spn inner (s.drop p) = i - p := by omega
      have htk : (s.drop p).take (spn inner (s.drop p)) = (s.drop p).take (i - p) := by rw [hk]
      have hsl : slsv (.string (tx s)) (some (iv p)) (some (iv i)) = some (.string (tx ((s.drop p).take (i - p))), none) := by rw [sl_ft (by omega) (by omega), List.drop_take]
      have hwp : IntKind.i64.wrap ((i : Int) - (p : Int)) = ((i - p : Nat) : Int) := by rw [i64w (by omega) (by omega)]; omega
      have ht : tokS (s.drop p) = if nameK ((s.drop p).take (i - p)) = 0 then none else some (nameK ((s.drop p).take (i - p)), (s.drop p).take (i - p), 0, i - p) := by
        conv => lhs; rw [hdr, tokS]
        rw [if_pos hsml, ← hdr, hk]
      simp only [mach, mach2, mstd, ↓reduceIte, Nat.reduceEqDiff, Nat.reduceAdd, Nat.reduceMul, hsl]
      refine XX_val (rname_ok _ (by simp; omega) _) ?_
      by_cases hz0 : nameK ((s.drop p).take (i - p)) = 0
      · simp only [mach, mach2, mstd, ↓reduceIte, Nat.reduceEqDiff, Nat.reduceAdd, Nat.reduceMul, eq_true hz0, mbl, Nat.reduceLeDiff, Nat.reduceLT, Int.reduceEq]
        refine XH_own o1 rfl (by simp [Value.cells]) rfl (fun h3 q1 q2 q3 => ?_)
        have o3 : Own h3 h.length tkT zT := by simpa [Value.cells] using q1
        simp only [mach, mach2, mstd, ↓reduceIte, Nat.reduceEqDiff, Nat.reduceAdd, Nat.reduceMul]
        refine hΨ _ _ (fin_ret (rvcv rfl (ldn4 o3) rfl ⟨k1.trans' q2 (fun c hc e => by omega), ?_⟩))
        rw [ht, if_pos hz0]; rfl
      · simp only [mach, mach2, mstd, ↓reduceIte, Nat.reduceEqDiff, Nat.reduceAdd, Nat.reduceMul, hz0, hsl, hwp, mbl, Nat.reduceLeDiff, Nat.reduceLT, Int.reduceEq]
        refine XH_own o1 rfl (by simp [Value.cells]) rfl (fun h3 q1 q2 q3 => ?_)
        have o3 : Own h3 h.length tkT [iv (nameK ((s.drop p).take (i - p))), tv ((s.drop p).take (i - p)), iv 0, iv p] := by simpa [Value.cells] using q1
        simp only [mach, mach2, mstd, ↓reduceIte, Nat.reduceEqDiff, Nat.reduceAdd, Nat.reduceMul]
        refine hΨ _ _ (fin_ret (rvcv rfl (ldn4 o3) rfl ⟨k1.trans' q2 (fun c hc e => by omega), ?_⟩))
        rw [ht, if_neg hz0]; rfl
    have hil : i < s.length := by omega
    have gi : (0 : Int) ≤ (i : Int) := by omega
    have hci : s[i]? = some s[i] := List.getElem?_eq_getElem hil
    have hdi := List.drop_eq_getElem_cons hil
    simp only [mach, mach2, mstd, ↓reduceIte, Nat.reduceEqDiff, Nat.reduceAdd, Nat.reduceMul, tx_size, hi, tx_get, hci, gi, Int.toNat_natCast]
    refine XX_val (rinner_ok _ _) ?_
    cases hin : inner s[i] with
    | true =>
      have hwi : IntKind.i64.wrap ((i : Int) + 1) = ((i + 1 : Nat) : Int) := by rw [i64w (by omega) (by omega)]; omega
      simp only [mach, mach2, mstd, ↓reduceIte, Nat.reduceEqDiff, Nat.reduceAdd, Nat.reduceMul, hwi]
      refine next (i + 1) _ _ _ ⟨rfl, by omega, by omega, ?_⟩ ⟨rfl, rfl, rfl, rfl, trivial⟩ (by omega)
      rw [hsp, hdi, spn_cons, if_pos hin]; omega
    | false =>
      have hz : spn inner (s.drop i) = 0 := by rw [hdi, spn_cons, hin]; rfl
      simp only [mach, mach2, mstd, ↓reduceIte, Nat.reduceEqDiff, Nat.reduceAdd, Nat.reduceMul]
      refine out (.exit 1) _ _ _ _ (by intro e; cases e) ?_
      clear hil gi hci hdi hin
      have hk : spn inner (s.drop p) = i - p := by omega
      have htk : (s.drop p).take (spn inner (s.drop p)) = (s.drop p).take (i - p) := by rw [hk]
      have hsl : slsv (.string (tx s)) (some (iv p)) (some (iv i)) = some (.string (tx ((s.drop p).take (i - p))), none) := by rw [sl_ft (by omega) (by omega), List.drop_take]
      have hwp : IntKind.i64.wrap ((i : Int) - (p : Int)) = ((i - p : Nat) : Int) := by rw [i64w (by omega) (by omega)]; omega
      have ht : tokS (s.drop p) = if nameK ((s.drop p).take (i - p)) = 0 then none else some (nameK ((s.drop p).take (i - p)), (s.drop p).take (i - p), 0, i - p) := by
        conv => lhs; rw [hdr, tokS]
        rw [if_pos hsml, ← hdr, hk]
      simp only [mach, mach2, mstd, ↓reduceIte, Nat.reduceEqDiff, Nat.reduceAdd, Nat.reduceMul, hsl]
      refine XX_val (rname_ok _ (by simp; omega) _) ?_
      by_cases hz0 : nameK ((s.drop p).take (i - p)) = 0
      · simp only [mach, mach2, mstd, ↓reduceIte, Nat.reduceEqDiff, Nat.reduceAdd, Nat.reduceMul, eq_true hz0, mbl, Nat.reduceLeDiff, Nat.reduceLT, Int.reduceEq]
        refine XH_own o1 rfl (by simp [Value.cells]) rfl (fun h3 q1 q2 q3 => ?_)
        have o3 : Own h3 h.length tkT zT := by simpa [Value.cells] using q1
        simp only [mach, mach2, mstd, ↓reduceIte, Nat.reduceEqDiff, Nat.reduceAdd, Nat.reduceMul]
        refine hΨ _ _ (fin_ret (rvcv rfl (ldn4 o3) rfl ⟨k1.trans' q2 (fun c hc e => by omega), ?_⟩))
        rw [ht, if_pos hz0]; rfl
      · simp only [mach, mach2, mstd, ↓reduceIte, Nat.reduceEqDiff, Nat.reduceAdd, Nat.reduceMul, hz0, hsl, hwp, mbl, Nat.reduceLeDiff, Nat.reduceLT, Int.reduceEq]
        refine XH_own o1 rfl (by simp [Value.cells]) rfl (fun h3 q1 q2 q3 => ?_)
        have o3 : Own h3 h.length tkT [iv (nameK ((s.drop p).take (i - p))), tv ((s.drop p).take (i - p)), iv 0, iv p] := by simpa [Value.cells] using q1
        simp only [mach, mach2, mstd, ↓reduceIte, Nat.reduceEqDiff, Nat.reduceAdd, Nat.reduceMul]
        refine hΨ _ _ (fin_ret (rvcv rfl (ldn4 o3) rfl ⟨k1.trans' q2 (fun c hc e => by omega), ?_⟩))
        rw [ht, if_neg hz0]; rfl
  | false =>
  simp only [mach, mach2, mstd, ↓reduceIte, Nat.reduceEqDiff, Nat.reduceAdd, Nat.reduceMul]
  refine XX_val (rlarge_ok c h1) ?_
  cases hL : large c with
  | true =>
    have hsml : (small c || large c) = true := by rw [hsm, hL]; rfl
    have hin0 : inner c = true := by simp [inner, hL]
    simp only [mach, mach2, mstd, ↓reduceIte, Nat.reduceEqDiff, Nat.reduceAdd, Nat.reduceMul]
    refine XLo_rule (α := Nat) (fun i => [(0, tv s), (1, iv p), (4, .pointer (some ⟨h.length, 0, none⟩)), (7, iv i)])
      (fun i h' => h' = h1 ∧ p ≤ i ∧ i ≤ s.length ∧ spn inner (s.drop p) = (i - p) + spn inner (s.drop i)) (fun i => s.length - i) (p + 1)
      ⟨rfl, by omega, by omega, by rw [hdr, spn_cons, if_pos hin0]; omega⟩ ⟨rfl, rfl, rfl, rfl, trivial⟩ ?_
    rintro i h2 Ψ2 ⟨rfl, g1, g2, hsp⟩ next out
    by_cases hi : (i : Int) < (s.length : Int)
    case neg =>
      have hz : spn inner (s.drop i) = 0 := by rw [List.drop_eq_nil_of_le (by omega)]; rfl
      simp only [mach, mach2, mstd, ↓reduceIte, Nat.reduceEqDiff, Nat.reduceAdd, Nat.reduceMul, tx_size, hi]
      refine out (.exit 1) _ _ _ _ (by intro e; cases e) ?_
      have hk : spn inner (s.drop p) = i - p := by omega
      have htk : (s.drop p).take (spn inner (s.drop p)) = (s.drop p).take (i - p) := by rw [hk]
      have hsl : slsv (.string (tx s)) (some (iv p)) (some (iv i)) = some (.string (tx ((s.drop p).take (i - p))), none) := by rw [sl_ft (by omega) (by omega), List.drop_take]
      have hwp : IntKind.i64.wrap ((i : Int) - (p : Int)) = ((i - p : Nat) : Int) := by rw [i64w (by omega) (by omega)]; omega
      have ht : tokS (s.drop p) = if nameK ((s.drop p).take (i - p)) = 0 then none else some (nameK ((s.drop p).take (i - p)), (s.drop p).take (i - p), 0, i - p) := by
        conv => lhs; rw [hdr, tokS]
        rw [if_pos hsml, ← hdr, hk]
      simp only [mach, mach2, mstd, ↓reduceIte, Nat.reduceEqDiff, Nat.reduceAdd, Nat.reduceMul, hsl]
      refine XX_val (rname_ok _ (by simp; omega) _) ?_
      by_cases hz0 : nameK ((s.drop p).take (i - p)) = 0
      · simp only [mach, mach2, mstd, ↓reduceIte, Nat.reduceEqDiff, Nat.reduceAdd, Nat.reduceMul, eq_true hz0, mbl, Nat.reduceLeDiff, Nat.reduceLT, Int.reduceEq]
        refine XH_own o1 rfl (by simp [Value.cells]) rfl (fun h3 q1 q2 q3 => ?_)
        have o3 : Own h3 h.length tkT zT := by simpa [Value.cells] using q1
        simp only [mach, mach2, mstd, ↓reduceIte, Nat.reduceEqDiff, Nat.reduceAdd, Nat.reduceMul]
        refine hΨ _ _ (fin_ret (rvcv rfl (ldn4 o3) rfl ⟨k1.trans' q2 (fun c hc e => by omega), ?_⟩))
        rw [ht, if_pos hz0]; rfl
      · simp only [mach, mach2, mstd, ↓reduceIte, Nat.reduceEqDiff, Nat.reduceAdd, Nat.reduceMul, hz0, hsl, hwp, mbl, Nat.reduceLeDiff, Nat.reduceLT, Int.reduceEq]
        refine XH_own o1 rfl (by simp [Value.cells]) rfl (fun h3 q1 q2 q3 => ?_)
        have o3 : Own h3 h.length tkT [iv (nameK ((s.drop p).take (i - p))), tv ((s.drop p).take (i - p)), iv 0, iv p] := by simpa [Value.cells] using q1
        simp only [mach, mach2, mstd, ↓reduceIte, Nat.reduceEqDiff, Nat.reduceAdd, Nat.reduceMul]
        refine hΨ _ _ (fin_ret (rvcv rfl (ldn4 o3) rfl ⟨k1.trans' q2 (fun c hc e => by omega), ?_⟩))
        rw [ht, if_neg hz0]; rfl
    have hil : i < s.length := by omega
    have gi : (0 : Int) ≤ (i : Int) := by omega
    have hci : s[i]? = some s[i] := List.getElem?_eq_getElem hil
    have hdi := List.drop_eq_getElem_cons hil
    simp only [mach, mach2, mstd, ↓reduceIte, Nat.reduceEqDiff, Nat.reduceAdd, Nat.reduceMul, tx_size, hi, tx_get, hci, gi, Int.toNat_natCast]
    refine XX_val (rinner_ok _ _) ?_
    cases hin : inner s[i] with
    | true =>
      have hwi : IntKind.i64.wrap ((i : Int) + 1) = ((i + 1 : Nat) : Int) := by rw [i64w (by omega) (by omega)]; omega
      simp only [mach, mach2, mstd, ↓reduceIte, Nat.reduceEqDiff, Nat.reduceAdd, Nat.reduceMul, hwi]
      refine next (i + 1) _ _ _ ⟨rfl, by omega, by omega, ?_⟩ ⟨rfl, rfl, rfl, rfl, trivial⟩ (by omega)
      rw [hsp, hdi, spn_cons, if_pos hin]; omega
    | false =>
      have hz : spn inner (s.drop i) = 0 := by rw [hdi, spn_cons, hin]; rfl
      simp only [mach, mach2, mstd, ↓reduceIte, Nat.reduceEqDiff, Nat.reduceAdd, Nat.reduceMul]
      refine out (.exit 1) _ _ _ _ (by intro e; cases e) ?_
      clear hil gi hci hdi hin
      have hk : spn inner (s.drop p) = i - p := by omega
      have htk : (s.drop p).take (spn inner (s.drop p)) = (s.drop p).take (i - p) := by rw [hk]
      have hsl : slsv (.string (tx s)) (some (iv p)) (some (iv i)) = some (.string (tx ((s.drop p).take (i - p))), none) := by rw [sl_ft (by omega) (by omega), List.drop_take]
      have hwp : IntKind.i64.wrap ((i : Int) - (p : Int)) = ((i - p : Nat) : Int) := by rw [i64w (by omega) (by omega)]; omega
      have ht : tokS (s.drop p) = if nameK ((s.drop p).take (i - p)) = 0 then none else some (nameK ((s.drop p).take (i - p)), (s.drop p).take (i - p), 0, i - p) := by
        conv => lhs; rw [hdr, tokS]
        rw [if_pos hsml, ← hdr, hk]
      simp only [mach, mach2, mstd, ↓reduceIte, Nat.reduceEqDiff, Nat.reduceAdd, Nat.reduceMul, hsl]
      refine XX_val (rname_ok _ (by simp; omega) _) ?_
      by_cases hz0 : nameK ((s.drop p).take (i - p)) = 0
      · simp only [mach, mach2, mstd, ↓reduceIte, Nat.reduceEqDiff, Nat.reduceAdd, Nat.reduceMul, eq_true hz0, mbl, Nat.reduceLeDiff, Nat.reduceLT, Int.reduceEq]
        refine XH_own o1 rfl (by simp [Value.cells]) rfl (fun h3 q1 q2 q3 => ?_)
        have o3 : Own h3 h.length tkT zT := by simpa [Value.cells] using q1
        simp only [mach, mach2, mstd, ↓reduceIte, Nat.reduceEqDiff, Nat.reduceAdd, Nat.reduceMul]
        refine hΨ _ _ (fin_ret (rvcv rfl (ldn4 o3) rfl ⟨k1.trans' q2 (fun c hc e => by omega), ?_⟩))
        rw [ht, if_pos hz0]; rfl
      · simp only [mach, mach2, mstd, ↓reduceIte, Nat.reduceEqDiff, Nat.reduceAdd, Nat.reduceMul, hz0, hsl, hwp, mbl, Nat.reduceLeDiff, Nat.reduceLT, Int.reduceEq]
        refine XH_own o1 rfl (by simp [Value.cells]) rfl (fun h3 q1 q2 q3 => ?_)
        have o3 : Own h3 h.length tkT [iv (nameK ((s.drop p).take (i - p))), tv ((s.drop p).take (i - p)), iv 0, iv p] := by simpa [Value.cells] using q1
        simp only [mach, mach2, mstd, ↓reduceIte, Nat.reduceEqDiff, Nat.reduceAdd, Nat.reduceMul]
        refine hΨ _ _ (fin_ret (rvcv rfl (ldn4 o3) rfl ⟨k1.trans' q2 (fun c hc e => by omega), ?_⟩))
        rw [ht, if_neg hz0]; rfl
  | false =>
  have hw : (small c || large c) = false := by rw [hsm, hL]; rfl
  simp only [mach, mach2, mstd, ↓reduceIte, Nat.reduceEqDiff, Nat.reduceAdd, Nat.reduceMul]
  refine XX_val (rdigit_ok c h1) ?_
  cases h3 : digit c with
  | true =>
    have ht : tokS (s.drop p) = (intV ((s.drop p).take (spn digit (s.drop p)))).map fun v => (3, [], (v : Int), spn digit (s.drop p)) := by
      conv => lhs; rw [hdr, tokS]
      rw [if_neg (by rw [hw]; simp), if_pos h3, ← hdr]
    simp only [mach, mach2, mstd, ↓reduceIte, Nat.reduceEqDiff, Nat.reduceAdd, Nat.reduceMul]
    refine XX_of (number_ok s p hs hp h1) (fun res h2 hle hr => ?_)
    obtain ⟨k2, rfl⟩ := hr
    refine .ret ?_
    have o2 := o1.keep k2 (fun e => e)
    rw [← ht]
    cases hx : tokS (s.drop p) with
    | none =>
      rw [tokV]
      simp only [mach, mach2, mstd, ↓reduceIte, Nat.reduceEqDiff, Nat.reduceAdd, Nat.reduceMul, mbl, Nat.reduceLeDiff, Nat.reduceLT, Int.reduceEq]
      refine XH_own o2 rfl (by simp [Value.cells]) rfl (fun h3 q1 q2 q3 => ?_)
      have o3 : Own h3 h.length tkT zT := by simpa [Value.cells] using q1
      simp only [mach, mach2, mstd, ↓reduceIte, Nat.reduceEqDiff, Nat.reduceAdd, Nat.reduceMul]
      refine hΨ _ _ (fin_ret (rvcv rfl (ldn4 o3) rfl ⟨(k1.trans k2).trans' q2 (fun c hc e => by omega), ?_⟩))
      rw [hx]; rfl
    | some y =>
      obtain ⟨k, t, v, n⟩ := y
      rw [tokV]
      simp only [mach, mach2, mstd, ↓reduceIte, Nat.reduceEqDiff, Nat.reduceAdd, Nat.reduceMul, mbl, Nat.reduceLeDiff, Nat.reduceLT, Int.reduceEq]
      refine XH_own o2 rfl (by simp [Value.cells]) rfl (fun h3 q1 q2 q3 => ?_)
      have o3 : Own h3 h.length tkT [iv k, tv t, iv v, iv p] := by simpa [Value.cells] using q1
      simp only [mach, mach2, mstd, ↓reduceIte, Nat.reduceEqDiff, Nat.reduceAdd, Nat.reduceMul]
      refine hΨ _ _ (fin_ret (rvcv rfl (ldn4 o3) rfl ⟨(k1.trans k2).trans' q2 (fun c hc e => by omega), ?_⟩))
      rw [hx]; rfl
  | false =>
  by_cases h4 : (c.toNat : Int) = 39
  · simp only [mach, mach2, mstd, ↓reduceIte, Nat.reduceEqDiff, Nat.reduceAdd, Nat.reduceMul, eq_true h4]
    have ht : tokS (s.drop p) = quX c (s.drop (p + 1)) := by
      conv => lhs; rw [hdr, tokS]
      rw [if_neg (by rw [hw]; simp), if_neg (by rw [h3]; simp), if_pos (by omega)]
      rfl
    refine XX_of (rquoted_ok s p c hs hp hc (by omega) h1) (fun res h2 hle hr => ?_)
    obtain ⟨k2, rfl⟩ := hr
    refine .ret ?_
    have o2 := o1.keep k2 (fun e => e)
    rw [← ht]
    cases hx : tokS (s.drop p) with
    | none =>
      rw [tokV]
      simp only [mach, mach2, mstd, ↓reduceIte, Nat.reduceEqDiff, Nat.reduceAdd, Nat.reduceMul, mbl, Nat.reduceLeDiff, Nat.reduceLT, Int.reduceEq]
      refine XH_own o2 rfl (by simp [Value.cells]) rfl (fun h3 q1 q2 q3 => ?_)
      have o3 : Own h3 h.length tkT zT := by simpa [Value.cells] using q1
      simp only [mach, mach2, mstd, ↓reduceIte, Nat.reduceEqDiff, Nat.reduceAdd, Nat.reduceMul]
      refine hΨ _ _ (fin_ret (rvcv rfl (ldn4 o3) rfl ⟨(k1.trans k2).trans' q2 (fun c hc e => by omega), ?_⟩))
      rw [hx]; rfl
    | some y =>
      obtain ⟨k, t, v, n⟩ := y
      rw [tokV]
      simp only [mach, mach2, mstd, ↓reduceIte, Nat.reduceEqDiff, Nat.reduceAdd, Nat.reduceMul, mbl, Nat.reduceLeDiff, Nat.reduceLT, Int.reduceEq]
      refine XH_own o2 rfl (by simp [Value.cells]) rfl (fun h3 q1 q2 q3 => ?_)
      have o3 : Own h3 h.length tkT [iv k, tv t, iv v, iv p] := by simpa [Value.cells] using q1
      simp only [mach, mach2, mstd, ↓reduceIte, Nat.reduceEqDiff, Nat.reduceAdd, Nat.reduceMul]
      refine hΨ _ _ (fin_ret (rvcv rfl (ldn4 o3) rfl ⟨(k1.trans k2).trans' q2 (fun c hc e => by omega), ?_⟩))
      rw [hx]; rfl
  by_cases h5 : (c.toNat : Int) = 34
  · simp only [mach, mach2, mstd, ↓reduceIte, Nat.reduceEqDiff, Nat.reduceAdd, Nat.reduceMul, h4, eq_true h5]
    have ht : tokS (s.drop p) = quX c (s.drop (p + 1)) := by
      conv => lhs; rw [hdr, tokS]
      rw [if_neg (by rw [hw]; simp), if_neg (by rw [h3]; simp), if_pos (by omega)]
      rfl
    refine XX_of (rquoted_ok s p c hs hp hc (by omega) h1) (fun res h2 hle hr => ?_)
    obtain ⟨k2, rfl⟩ := hr
    refine .ret ?_
    have o2 := o1.keep k2 (fun e => e)
    rw [← ht]
    cases hx : tokS (s.drop p) with
    | none =>
      rw [tokV]
      simp only [mach, mach2, mstd, ↓reduceIte, Nat.reduceEqDiff, Nat.reduceAdd, Nat.reduceMul, mbl, Nat.reduceLeDiff, Nat.reduceLT, Int.reduceEq]
      refine XH_own o2 rfl (by simp [Value.cells]) rfl (fun h3 q1 q2 q3 => ?_)
      have o3 : Own h3 h.length tkT zT := by simpa [Value.cells] using q1
      simp only [mach, mach2, mstd, ↓reduceIte, Nat.reduceEqDiff, Nat.reduceAdd, Nat.reduceMul]
      refine hΨ _ _ (fin_ret (rvcv rfl (ldn4 o3) rfl ⟨(k1.trans k2).trans' q2 (fun c hc e => by omega), ?_⟩))
      rw [hx]; rfl
    | some y =>
      obtain ⟨k, t, v, n⟩ := y
      rw [tokV]
      simp only [mach, mach2, mstd, ↓reduceIte, Nat.reduceEqDiff, Nat.reduceAdd, Nat.reduceMul, mbl, Nat.reduceLeDiff, Nat.reduceLT, Int.reduceEq]
      refine XH_own o2 rfl (by simp [Value.cells]) rfl (fun h3 q1 q2 q3 => ?_)
      have o3 : Own h3 h.length tkT [iv k, tv t, iv v, iv p] := by simpa [Value.cells] using q1
      simp only [mach, mach2, mstd, ↓reduceIte, Nat.reduceEqDiff, Nat.reduceAdd, Nat.reduceMul]
      refine hΨ _ _ (fin_ret (rvcv rfl (ldn4 o3) rfl ⟨(k1.trans k2).trans' q2 (fun c hc e => by omega), ?_⟩))
      rw [hx]; rfl
  have hq : ¬ (c.toNat = 39 ∨ c.toNat = 34) := by omega
  simp only [mach, mach2, mstd, ↓reduceIte, Nat.reduceEqDiff, Nat.reduceAdd, Nat.reduceMul, h4, h5]
  refine XX_val (in_ok c in8 (by decide) h1) ?_
  cases h6 : in8.contains c with
  | true =>
    obtain ⟨m1, m2⟩ := mk8 h6
    have ht : tokS (s.drop p) = some (7, [c], 0, 1) := by
      conv => lhs; rw [hdr, tokS]
      rw [if_neg (by rw [hw]; simp), if_neg (by rw [h3]; simp), if_neg hq, if_neg (by rw [m1]; simp), if_pos m2]
    have hsl : slsv (.string (tx s)) (some (iv p)) (some (iv ((p + 1 : Nat) : Int))) = some (.string (tx [c]), none) := by
      rw [sl_ft (by omega) (by omega), List.drop_take, hdr, show p + 1 - p = 1 by omega]; rfl
    simp only [mach, mach2, mstd, ↓reduceIte, Nat.reduceEqDiff, Nat.reduceAdd, Nat.reduceMul, hsl, mbl, Nat.reduceLeDiff, Nat.reduceLT, Int.reduceEq]
    refine XH_own o1 rfl (by simp [Value.cells]) rfl (fun h3 q1 q2 q3 => ?_)
    have o3 : Own h3 h.length tkT [iv 7, tv [c], iv 0, iv p] := by simpa [Value.cells] using q1
    simp only [mach, mach2, mstd, ↓reduceIte, Nat.reduceEqDiff, Nat.reduceAdd, Nat.reduceMul]
    refine hΨ _ _ (fin_ret (rvcv rfl (ldn4 o3) rfl ⟨k1.trans' q2 (fun c hc e => by omega), ?_⟩))
    rw [ht]; rfl
  | false =>
  simp only [mach, mach2, mstd, ↓reduceIte, Nat.reduceEqDiff, Nat.reduceAdd, Nat.reduceMul]
  refine XX_val (rsymbol_ok c h1) ?_
  cases h7 : symb c with
  | true =>
    simp only [mach, mach2, mstd, ↓reduceIte, Nat.reduceEqDiff, Nat.reduceAdd, Nat.reduceMul]
    refine XLo_rule (α := Nat) (fun i => [(0, tv s), (1, iv p), (4, .pointer (some ⟨h.length, 0, none⟩)), (7, iv i)])
      (fun i h' => h' = h1 ∧ p ≤ i ∧ i ≤ s.length ∧ spn symb (s.drop p) = (i - p) + spn symb (s.drop i)) (fun i => s.length - i) (p + 1)
      ⟨rfl, by omega, by omega, by rw [hdr, spn_cons, if_pos h7]; omega⟩ ⟨rfl, rfl, rfl, rfl, trivial⟩ ?_
    rintro i h2 Ψ2 ⟨rfl, g1, g2, hsp⟩ next out
    by_cases hi : (i : Int) < (s.length : Int)
    case neg =>
      have hz : spn symb (s.drop i) = 0 := by rw [List.drop_eq_nil_of_le (by omega)]; rfl
      simp only [mach, mach2, mstd, ↓reduceIte, Nat.reduceEqDiff, Nat.reduceAdd, Nat.reduceMul, tx_size, hi]
      refine out (.exit 3) _ _ _ _ (by intro e; cases e) ?_
      have hk : spn symb (s.drop p) = i - p := by omega
      have hsl : slsv (.string (tx s)) (some (iv p)) (some (iv i)) = some (.string (tx ((s.drop p).take (i - p))), none) := by rw [sl_ft (by omega) (by omega), List.drop_take]
      have hwp : IntKind.i64.wrap ((i : Int) - (p : Int)) = ((i - p : Nat) : Int) := by rw [i64w (by omega) (by omega)]; omega
      have ht : tokS (s.drop p) = (if markL.contains ((s.drop p).take (i - p)) then some (7, (s.drop p).take (i - p), 0, i - p)
          else if opL.contains ((s.drop p).take (i - p)) then some (8, (s.drop p).take (i - p), 0, i - p) else none) := by
        conv => lhs; rw [hdr, tokS]
        rw [if_neg (by rw [hw]; simp), if_neg (by rw [h3]; simp), if_neg hq, if_pos h7, ← hdr, hk]
      simp only [mach, mach2, mstd, ↓reduceIte, Nat.reduceEqDiff, Nat.reduceAdd, Nat.reduceMul, hsl]
      refine XX_val (among_ok _ marksW (by simp; omega) (by decide) _) ?_
      rw [am_marks]
      cases h8 : markL.contains ((s.drop p).take (i - p)) with
      | true =>
        simp only [mach, mach2, mstd, ↓reduceIte, Nat.reduceEqDiff, Nat.reduceAdd, Nat.reduceMul, hsl, hwp, mbl, Nat.reduceLeDiff, Nat.reduceLT, Int.reduceEq]
        refine XH_own o1 rfl (by simp [Value.cells]) rfl (fun h3 q1 q2 q3 => ?_)
        have o3 : Own h3 h.length tkT [iv 7, tv ((s.drop p).take (i - p)), iv 0, iv p] := by simpa [Value.cells] using q1
        simp only [mach, mach2, mstd, ↓reduceIte, Nat.reduceEqDiff, Nat.reduceAdd, Nat.reduceMul]
        refine hΨ _ _ (fin_ret (rvcv rfl (ldn4 o3) rfl ⟨k1.trans' q2 (fun c hc e => by omega), ?_⟩))
        rw [ht, h8]; rfl
      | false =>
      simp only [mach, mach2, mstd, ↓reduceIte, Nat.reduceEqDiff, Nat.reduceAdd, Nat.reduceMul, hsl]
      refine XX_val (among_ok _ opsW (by simp; omega) (by decide) _) ?_
      rw [am_ops]
      cases h9 : opL.contains ((s.drop p).take (i - p)) with
      | true =>
        simp only [mach, mach2, mstd, ↓reduceIte, Nat.reduceEqDiff, Nat.reduceAdd, Nat.reduceMul, hsl, hwp, mbl, Nat.reduceLeDiff, Nat.reduceLT, Int.reduceEq]
        refine XH_own o1 rfl (by simp [Value.cells]) rfl (fun h3 q1 q2 q3 => ?_)
        have o3 : Own h3 h.length tkT [iv 8, tv ((s.drop p).take (i - p)), iv 0, iv p] := by simpa [Value.cells] using q1
        simp only [mach, mach2, mstd, ↓reduceIte, Nat.reduceEqDiff, Nat.reduceAdd, Nat.reduceMul]
        refine hΨ _ _ (fin_ret (rvcv rfl (ldn4 o3) rfl ⟨k1.trans' q2 (fun c hc e => by omega), ?_⟩))
        rw [ht, h8, h9]; rfl
      | false =>
        simp only [mach, mach2, mstd, ↓reduceIte, Nat.reduceEqDiff, Nat.reduceAdd, Nat.reduceMul, mbl, Nat.reduceLeDiff, Nat.reduceLT, Int.reduceEq]
        refine XH_own o1 rfl (by simp [Value.cells]) rfl (fun h3 q1 q2 q3 => ?_)
        have o3 : Own h3 h.length tkT zT := by simpa [Value.cells] using q1
        simp only [mach, mach2, mstd, ↓reduceIte, Nat.reduceEqDiff, Nat.reduceAdd, Nat.reduceMul]
        refine hΨ _ _ (fin_ret (rvcv rfl (ldn4 o3) rfl ⟨k1.trans' q2 (fun c hc e => by omega), ?_⟩))
        rw [ht, h8, h9]; rfl
    have hil : i < s.length := by omega
    have gi : (0 : Int) ≤ (i : Int) := by omega
    have hci : s[i]? = some s[i] := List.getElem?_eq_getElem hil
    have hdi := List.drop_eq_getElem_cons hil
    simp only [mach, mach2, mstd, ↓reduceIte, Nat.reduceEqDiff, Nat.reduceAdd, Nat.reduceMul, tx_size, hi, tx_get, hci, gi, Int.toNat_natCast]
    refine XX_val (rsymbol_ok _ _) ?_
    cases hin : symb s[i] with
    | true =>
      have hwi : IntKind.i64.wrap ((i : Int) + 1) = ((i + 1 : Nat) : Int) := by rw [i64w (by omega) (by omega)]; omega
      simp only [mach, mach2, mstd, ↓reduceIte, Nat.reduceEqDiff, Nat.reduceAdd, Nat.reduceMul, hwi]
      refine next (i + 1) _ _ _ ⟨rfl, by omega, by omega, ?_⟩ ⟨rfl, rfl, rfl, rfl, trivial⟩ (by omega)
      rw [hsp, hdi, spn_cons, if_pos hin]; omega
    | false =>
      have hz : spn symb (s.drop i) = 0 := by rw [hdi, spn_cons, hin]; rfl
      simp only [mach, mach2, mstd, ↓reduceIte, Nat.reduceEqDiff, Nat.reduceAdd, Nat.reduceMul]
      refine out (.exit 3) _ _ _ _ (by intro e; cases e) ?_
      clear hil gi hci hdi hin
      have hk : spn symb (s.drop p) = i - p := by omega
      have hsl : slsv (.string (tx s)) (some (iv p)) (some (iv i)) = some (.string (tx ((s.drop p).take (i - p))), none) := by rw [sl_ft (by omega) (by omega), List.drop_take]
      have hwp : IntKind.i64.wrap ((i : Int) - (p : Int)) = ((i - p : Nat) : Int) := by rw [i64w (by omega) (by omega)]; omega
      have ht : tokS (s.drop p) = (if markL.contains ((s.drop p).take (i - p)) then some (7, (s.drop p).take (i - p), 0, i - p)
          else if opL.contains ((s.drop p).take (i - p)) then some (8, (s.drop p).take (i - p), 0, i - p) else none) := by
        conv => lhs; rw [hdr, tokS]
        rw [if_neg (by rw [hw]; simp), if_neg (by rw [h3]; simp), if_neg hq, if_pos h7, ← hdr, hk]
      simp only [mach, mach2, mstd, ↓reduceIte, Nat.reduceEqDiff, Nat.reduceAdd, Nat.reduceMul, hsl]
      refine XX_val (among_ok _ marksW (by simp; omega) (by decide) _) ?_
      rw [am_marks]
      cases h8 : markL.contains ((s.drop p).take (i - p)) with
      | true =>
        simp only [mach, mach2, mstd, ↓reduceIte, Nat.reduceEqDiff, Nat.reduceAdd, Nat.reduceMul, hsl, hwp, mbl, Nat.reduceLeDiff, Nat.reduceLT, Int.reduceEq]
        refine XH_own o1 rfl (by simp [Value.cells]) rfl (fun h3 q1 q2 q3 => ?_)
        have o3 : Own h3 h.length tkT [iv 7, tv ((s.drop p).take (i - p)), iv 0, iv p] := by simpa [Value.cells] using q1
        simp only [mach, mach2, mstd, ↓reduceIte, Nat.reduceEqDiff, Nat.reduceAdd, Nat.reduceMul]
        refine hΨ _ _ (fin_ret (rvcv rfl (ldn4 o3) rfl ⟨k1.trans' q2 (fun c hc e => by omega), ?_⟩))
        rw [ht, h8]; rfl
      | false =>
      simp only [mach, mach2, mstd, ↓reduceIte, Nat.reduceEqDiff, Nat.reduceAdd, Nat.reduceMul, hsl]
      refine XX_val (among_ok _ opsW (by simp; omega) (by decide) _) ?_
      rw [am_ops]
      cases h9 : opL.contains ((s.drop p).take (i - p)) with
      | true =>
        simp only [mach, mach2, mstd, ↓reduceIte, Nat.reduceEqDiff, Nat.reduceAdd, Nat.reduceMul, hsl, hwp, mbl, Nat.reduceLeDiff, Nat.reduceLT, Int.reduceEq]
        refine XH_own o1 rfl (by simp [Value.cells]) rfl (fun h3 q1 q2 q3 => ?_)
        have o3 : Own h3 h.length tkT [iv 8, tv ((s.drop p).take (i - p)), iv 0, iv p] := by simpa [Value.cells] using q1
        simp only [mach, mach2, mstd, ↓reduceIte, Nat.reduceEqDiff, Nat.reduceAdd, Nat.reduceMul]
        refine hΨ _ _ (fin_ret (rvcv rfl (ldn4 o3) rfl ⟨k1.trans' q2 (fun c hc e => by omega), ?_⟩))
        rw [ht, h8, h9]; rfl
      | false =>
        simp only [mach, mach2, mstd, ↓reduceIte, Nat.reduceEqDiff, Nat.reduceAdd, Nat.reduceMul, mbl, Nat.reduceLeDiff, Nat.reduceLT, Int.reduceEq]
        refine XH_own o1 rfl (by simp [Value.cells]) rfl (fun h3 q1 q2 q3 => ?_)
        have o3 : Own h3 h.length tkT zT := by simpa [Value.cells] using q1
        simp only [mach, mach2, mstd, ↓reduceIte, Nat.reduceEqDiff, Nat.reduceAdd, Nat.reduceMul]
        refine hΨ _ _ (fin_ret (rvcv rfl (ldn4 o3) rfl ⟨k1.trans' q2 (fun c hc e => by omega), ?_⟩))
        rw [ht, h8, h9]; rfl
  | false =>
    have ht : tokS (s.drop p) = none := by
      conv => lhs; rw [hdr, tokS]
      rw [if_neg (by rw [hw]; simp), if_neg (by rw [h3]; simp), if_neg hq, if_neg (by rw [h7]; simp), if_neg (by rw [mk8n h6 h7 hsm]; simp)]
    simp only [mach, mach2, mstd, ↓reduceIte, Nat.reduceEqDiff, Nat.reduceAdd, Nat.reduceMul, mbl, Nat.reduceLeDiff, Nat.reduceLT, Int.reduceEq]
    refine XH_own o1 rfl (by simp [Value.cells]) rfl (fun h3 q1 q2 q3 => ?_)
    have o3 : Own h3 h.length tkT zT := by simpa [Value.cells] using q1
    simp only [mach, mach2, mstd, ↓reduceIte, Nat.reduceEqDiff, Nat.reduceAdd, Nat.reduceMul]
    refine hΨ _ _ (fin_ret (rvcv rfl (ldn4 o3) rfl ⟨k1.trans' q2 (fun c hc e => by omega), ?_⟩))
    rw [ht]; rfl
end Go.S07

/- Tokens: the document's tokens; ScanTokens. -/
set_option linter.unusedVariables false
set_option linter.unusedSimpArgs false
namespace Go.S07
open Go Go.Eng Go.Proofs Go.Scn

theorem toks_same {N : Nat} {l r : Bs} (h : skp l = skp r) : toks N l = toks N r := by rw [toks_eq N l, toks_eq N r, h]

theorem tk_at {h : AH} {v : Value} {n : Nat} {ts : List Tk} (hr : Rds h 4 v n (ts.flatMap tkC)) {i : Nat} {t : Tk} (hx : ts[i]? = some t) :
    ∃ b o c, v = .slice (some ⟨b, o, none⟩) n c ∧ i < n ∧ ldcs h b (o + i * 4) 4 = some (tkC t) ∧ ∀ j, j < 4 → ldc h b (o + i * 4 + j) = (tkC t)[j]? := by
  have hl : i < ts.length := (List.getElem?_eq_some_iff.1 hx).1
  have hlen : (ts.flatMap tkC).length = ts.length * 4 := by
    clear hr hx hl
    induction ts with
    | nil => rfl
    | cons t ts ih => rw [List.flatMap_cons, List.length_append, ih, tkC_len, List.length_cons, Nat.add_mul]; omega
  have hn : i < n := by have := hr.len; rw [hlen] at this; omega
  obtain ⟨b, o, c, e, h1⟩ := rds_sub hr (i := i) (j := 0) (m := 4) hn (by omega)
  obtain ⟨b', o', c', e', kk⟩ := hr.at (i := i) hn
  rw [e] at e'; cases e'
  have h2 := flat_at (f := tkC) (k := 4) tkC_len hx (j := 0) (m := 4) (by omega)
  refine ⟨b, o, c, e, hn, ?_, fun j hj => ?_⟩
  · rw [Nat.add_zero] at h1
    rw [h1, h2]; rfl
  · rw [kk j hj]
    have h3 := congrArg (fun l => l[j]?) h2
    simp only [List.getElem?_take, hj, if_true, List.getElem?_drop, List.drop_zero, Nat.add_zero] at h3
    exact h3

theorem ceq_tk (t : Tk) : ceq [0, 2, 0, 0] (tkC t) (tkC t) = some true := by
  have : (tx t.t == tx t.t) = true := by
    first
      | exact beq_self_eq_true (tx t.t)
      | (show ((tx t.t).data == (tx t.t).data) = true; simp)
  simp [ceq, tkC, this]

theorem same_ok (ts : List Tk) (h : AH) (u v : Value) (hu : Rds h 4 u ts.length (ts.flatMap tkC)) (hv : Rds h 4 v ts.length (ts.flatMap tkC)) (hl : ts.length ≤ 9223372036854775800) : Gets Tryd.prog 12 [u, v] h (fun res h' => h' = h ∧ res = .ret (.bool true)) := by
  refine Gets.of (keep := false) hP (draw_ok hM) k12 (by rfl) (fun Ψ hΨ => ?_)
  obtain ⟨ua, uc, rfl⟩ := row_shape hu
  obtain ⟨va, vc, rfl⟩ := row_shape hv
  simp only [mach, mach2, mstd, ↓reduceIte, Nat.reduceEqDiff, Nat.reduceAdd, Nat.reduceMul, r12]
  refine XLo_rule (α := Nat) (fun i => [(0, .slice ua ts.length uc), (1, .slice va ts.length vc), (5, iv i)]) (fun i h' => h' = h ∧ i ≤ ts.length) (fun i => ts.length - i) 0 ⟨rfl, Nat.zero_le _⟩ ⟨rfl, rfl, rfl, trivial⟩ ?_
  rintro i h1 Ψ2 ⟨rfl, hi⟩ next out
  by_cases hlt : (i : Int) < (ts.length : Int)
  · have hil : i < ts.length := by omega
    have g0 : (0 : Int) ≤ (i : Int) := by omega
    have hx : ts[i]? = some ts[i] := List.getElem?_eq_getElem hil
    obtain ⟨b1, o1, c1, e1, _, l1, _⟩ := tk_at hu hx
    obtain ⟨b2, o2, c2, e2, _, l2, _⟩ := tk_at hv hx
    cases e1; cases e2
    have hw : IntKind.i64.wrap ((i : Int) + 1) = ((i + 1 : Nat) : Int) := by rw [i64w (by omega) (by omega)]; omega
    simp only [mach, mach2, mstd, ↓reduceIte, Nat.reduceEqDiff, Nat.reduceAdd, Nat.reduceMul, hlt, g0, and_self, Int.toNat_natCast, l1, l2, ceq_tk, ct1, hw]
    exact next (i + 1) _ _ _ ⟨rfl, by omega⟩ ⟨rfl, rfl, rfl, trivial⟩ (by omega)
  · simp only [mach, mach2, mstd, ↓reduceIte, Nat.reduceEqDiff, Nat.reduceAdd, Nat.reduceMul, hlt]
    refine out (.exit 0) _ _ _ _ (by intro e; cases e) ?_
    simp only [mach, mach2, mstd, ↓reduceIte, Nat.reduceEqDiff, Nat.reduceAdd, Nat.reduceMul]
    exact hΨ _ _ (fin_ret (rv1 rfl ⟨rfl, rfl⟩))

set_option maxHeartbeats 4000000 in
theorem rTokens_ok (s : Bs) (h : AH) : Gets Tryd.prog 11 [tv s] h (TokO h s) := by
  refine Gets.of (keep := false) hP (draw_ok hM) k11 (by rfl) (fun Ψ hΨ => ?_)
  by_cases h8 : (8000 : Int) < (s.length : Int)
  · have hF : tokF s = ([], 0, 11) := by rw [tokF, if_pos (by omega)]
    simp only [mach, mach2, mstd, ↓reduceIte, Nat.reduceEqDiff, Nat.reduceAdd, Nat.reduceMul, r11, tx_size, eq_true h8]
    exact hΨ _ _ (fin_ret (rv3 rfl rfl rfl ⟨.refl _ _, .slice none 0 0, by rw [hF]; rfl, by rw [hF]; exact .nil, fun q e => e.elim⟩))
  have h8' : s.length ≤ 8000 := by omega
  simp only [mach, mach2, mstd, ↓reduceIte, Nat.reduceEqDiff, Nat.reduceAdd, Nat.reduceMul, r11, tx_size, h8]
  refine XLo_rule (α := Nat × List Tk × Value) (fun a => [(0, tv s), (5, a.2.2), (6, iv a.1)])
    (fun a h' => Keep (fun _ => False) h h' ∧ a.1 ≤ s.length ∧ Ows h' tkT 4 a.2.2 a.2.1.length (a.2.1.flatMap tkC) ∧ (∀ q, bk a.2.2 q → h.length ≤ q) ∧ a.2.1.length ≤ a.1 ∧ pre a.2.1 (toks s.length (s.drop a.1)) = toks s.length s) (fun a => s.length - a.1) (0, [], .slice none 0 0)
    ⟨.refl _ _, Nat.zero_le _, .nil, fun q e => e.elim, Nat.zero_le _, by rw [pre_nil]; rfl⟩ ⟨rfl, rfl, rfl, trivial⟩ ?_
  rintro ⟨p, ts, lv⟩ h1 Ψ2 ⟨kp, hple, ow, fr, hln, heq⟩ next out
  simp only at hple ow fr hln heq
  obtain ⟨va, vc, rfl⟩ := row_shape ow.rds
  by_cases hp : (p : Int) < (s.length : Int)
  case neg =>
    have hF : tokF s = (ts, 0, 0) := by
      rw [tokF, if_neg (by omega), ← heq, show s.drop p = [] from List.drop_eq_nil_of_le (by omega), toks_end]
      simp [pre]
    simp only [mach, mach2, mstd, ↓reduceIte, Nat.reduceEqDiff, Nat.reduceAdd, Nat.reduceMul, tx_size, hp]
    refine out (.exit 0) _ _ _ _ (by intro e; cases e) ?_
    simp only [mach, mach2, mstd, ↓reduceIte, Nat.reduceEqDiff, Nat.reduceAdd, Nat.reduceMul]
    exact hΨ _ _ (fin_ret (rv3 rfl rfl rfl ⟨kp, .slice va ts.length vc, by rw [hF]; rfl, by rw [hF]; exact ow, fr⟩))
  have hpl : p < s.length := by omega
  have g0 : (0 : Int) ≤ (p : Int) := by omega
  have hc : s[p]? = some s[p] := List.getElem?_eq_getElem hpl
  have hdr := List.drop_eq_getElem_cons hpl
  have hNp : s.length - (s.drop p).length = p := by rw [List.length_drop]; omega
  have hne : s.drop p ≠ [] := by rw [hdr]; exact List.cons_ne_nil _ _
  generalize hcc : s[p] = c at hc hdr
  have bad : toks s.length (s.drop p) = .error p → tokF s = ([], (p : Int), 8) := fun e => by
    rw [tokF, if_neg (by omega), ← heq, e]; rfl
  have hw : IntKind.i64.wrap ((p : Int) + 1) = ((p + 1 : Nat) : Int) := by rw [i64w (by omega) (by omega)]; omega
  simp only [mach, mach2, mstd, ↓reduceIte, Nat.reduceEqDiff, Nat.reduceAdd, Nat.reduceMul, tx_size, hp, tx_get, hc, g0, Int.toNat_natCast]
  refine XX_val (rblank_ok c h1) ?_
  cases hb : wsp c with
  | true =>
    simp only [mach, mach2, mstd, ↓reduceIte, Nat.reduceEqDiff, Nat.reduceAdd, Nat.reduceMul, hw]
    refine next (p + 1, ts, .slice va ts.length vc) _ _ _ ⟨kp, by simp only; omega, ow, fr, by simp only; omega, ?_⟩ ⟨rfl, rfl, rfl, trivial⟩ (by simp only; omega)
    rw [← heq]
    simp only
    congr 1
    exact toks_same (by conv => rhs; rw [hdr, skp_cons, if_pos hb])
  | false =>
  have hnb : ¬ wsp c = true := by rw [hb]; simp
  simp only [mach, mach2, mstd, ↓reduceIte, Nat.reduceEqDiff, Nat.reduceAdd, Nat.reduceMul]
  refine XX_val (comment_ok s p h8' hpl h1) ?_
  have hsk : skp (s.drop p) = match cmN (s.drop p) with
      | none => .error (s.drop p)
      | some n => if 0 < n then skp ((s.drop p).drop n) else .ok (s.drop p) := by
    conv => lhs; rw [hdr, skp_cons, if_neg hnb]
    rw [← hdr, cmN]
    by_cases hl : 0 < lineN (s.drop p)
    · rw [if_pos hl, if_pos hl]; simp only [hl, if_true]
    · rw [if_neg hl, if_neg hl]; rfl
  have hcl : ∀ n, cmN (s.drop p) = some n → p + n ≤ s.length := fun n e => by
    have hd : (s.drop p).length = s.length - p := by simp
    unfold cmN at e
    split at e
    · cases e; have := lineN_le (s.drop p); omega
    · have := nestN_le e; omega
  cases hcm : cmN (s.drop p) with
  | none =>
    rw [hcm] at hsk
    have hF := bad (by rw [toks_fault hsk, hNp])
    rw [cmV]
    simp only [mach, mach2, mstd, ↓reduceIte, Nat.reduceEqDiff, Nat.reduceAdd, Nat.reduceMul, show ((-1 : Int) < 0) = True by simp]
    refine out .ret _ _ _ _ (by intro e; cases e) ?_
    simp only [mach, mach2, mstd, ↓reduceIte, Nat.reduceEqDiff, Nat.reduceAdd, Nat.reduceMul]
    exact hΨ _ _ (fin_ret (rv3 rfl rfl rfl ⟨kp, .slice none 0 0, by rw [hF]; rfl, by rw [hF]; exact .nil, fun q e => e.elim⟩))
  | some n =>
  rw [hcm] at hsk
  have hpn := hcl n hcm
  have hneg : ¬ ((p + n : Nat) : Int) < 0 := by omega
  rw [cmV]
  by_cases hn0 : (p : Int) < ((p + n : Nat) : Int)
  · have hn : 0 < n := by omega
    simp only [hn, if_true] at hsk
    simp only [mach, mach2, mstd, ↓reduceIte, Nat.reduceEqDiff, Nat.reduceAdd, Nat.reduceMul, hneg, eq_true hn0]
    refine next (p + n, ts, .slice va ts.length vc) _ _ _ ⟨kp, by simp only; omega, ow, fr, by simp only; omega, ?_⟩ ⟨rfl, rfl, rfl, trivial⟩ (by simp only; omega)
    rw [← heq]
    simp only
    congr 1
    exact toks_same (by rw [hsk, List.drop_drop])
  have hn : ¬ 0 < n := by omega
  simp only [hn, if_false] at hsk
  simp only [mach, mach2, mstd, ↓reduceIte, Nat.reduceEqDiff, Nat.reduceAdd, Nat.reduceMul, hneg, hn0]
  refine XX_of (rtoken_ok s p h8' hpl h1) (fun res h2 hle hr => ?_)
  obtain ⟨k2, rfl⟩ := hr
  refine .ret ?_
  cases htk : tokS (s.drop p) with
  | none =>
    have hF := bad (by rw [toks_none hsk hne htk, hNp])
    rw [tokV]
    have o3 := Own.new h2 tkT h2.length zT
    have k3 : Keep (fun _ => False) h2 (h2 ++ [row tkT h2.length zT]) := Keep.push _ _ _
    simp only [mach, mach2, mstd, ↓reduceIte, Nat.reduceEqDiff, Nat.reduceAdd, Nat.reduceMul, mbl, Nat.reduceLeDiff, Nat.reduceLT, Int.reduceEq]
    generalize hh3 : h2 ++ [row tkT h2.length zT] = h3 at o3 k3 ⊢
    refine XH_own o3 rfl (by simp [Value.cells]) rfl (fun h4 q1 q2 q3 => ?_)
    simp only [mach, mach2, mstd, ↓reduceIte, Nat.reduceEqDiff, Nat.reduceAdd, Nat.reduceMul]
    refine out .ret _ _ _ _ (by intro e; cases e) ?_
    simp only [mach, mach2, mstd, ↓reduceIte, Nat.reduceEqDiff, Nat.reduceAdd, Nat.reduceMul]
    refine hΨ _ _ (fin_ret (rv3 rfl rfl rfl ⟨((kp.trans k2).trans k3).trans' q2 (fun c hc e => ?_), .slice none 0 0, by rw [hF]; rfl, by rw [hF]; exact .nil, fun q e => e.elim⟩))
    have := (kp.trans k2).len; omega
  | some y =>
    obtain ⟨k, t, v, n⟩ := y
    obtain ⟨hn1, hn2⟩ := tokS_pos htk
    rw [List.length_drop] at hn2
    have hst : pre (ts ++ [⟨k, t, v, p⟩]) (toks s.length (s.drop (p + n))) = toks s.length s := by
      rw [← heq, toks_step hsk hne htk, pre_pre, hNp, List.drop_drop]
    have hnz : ¬ (n : Int) = 0 := by omega
    have hwn : IntKind.i64.wrap ((p : Int) + (n : Int)) = ((p + n : Nat) : Int) := by rw [i64w (by omega) (by omega)]; omega
    rw [tokV]
    have o3 := Own.new h2 tkT h2.length zT
    have k3 : Keep (fun _ => False) h2 (h2 ++ [row tkT h2.length zT]) := Keep.push _ _ _
    simp only [mach, mach2, mstd, ↓reduceIte, Nat.reduceEqDiff, Nat.reduceAdd, Nat.reduceMul, mbl, Nat.reduceLeDiff, Nat.reduceLT, Int.reduceEq]
    generalize hh3 : h2 ++ [row tkT h2.length zT] = h3 at o3 k3 ⊢
    have hl3 : h3.length = h2.length + 1 := by rw [← hh3]; simp
    refine XH_own o3 rfl (by simp [Value.cells]) rfl (fun h4 q1 q2 q3 => ?_)
    have o4 : Own h4 h2.length tkT (tkC ⟨k, t, v, p⟩) := by simpa [Value.cells, tkC] using q1
    have hh2 := (kp.trans k2).len
    have kp4 : Keep (fun _ => False) h h4 := ((kp.trans k2).trans k3).trans' q2 (fun c hc e => by omega)
    have hlt := (ow.keep k2 (fun _ _ e => e)).lt
    have ow4 : Ows h4 tkT 4 (.slice va ts.length vc) ts.length (ts.flatMap tkC) := ((ow.keep k2 (fun _ _ e => e)).keep k3 (fun _ _ e => e)).keep q2 (fun q hq e => by have := hlt q hq; omega)
    have hlds := o4.cells.lds 0 4 (by simp [tkC])
    obtain ⟨s', h', a1, a2, a3, a4⟩ := app1 (bytes := 40) ow4 (xs := tkC ⟨k, t, v, p⟩) rfl rfl (by omega) (by omega)
    obtain ⟨sa, sc, rfl⟩ := row_shape a2.rds
    have e4 : List.take 4 (List.drop 0 (tkC ⟨k, t, v, p⟩)) = [iv k, tv t, iv v, iv p] := rfl
    rw [e4] at hlds
    have e5 : tkC ⟨k, t, v, p⟩ = [iv k, tv t, iv v, iv p] := rfl
    rw [e5] at a1
    simp only [mach, mach2, mstd, ↓reduceIte, Nat.reduceEqDiff, Nat.reduceAdd, Nat.reduceMul, hnz, mbl, Nat.reduceLeDiff, Nat.reduceLT, Int.reduceEq, hlds, a1, hwn]
    refine next (p + n, ts ++ [⟨k, t, v, p⟩], .slice sa (ts.length + 1) sc) _ _ _ ⟨kp4.trans' a3 (fun q hq e => by have := fr q e; omega), by simp only; omega, ?_, ?_, ?_, ?_⟩ ⟨rfl, rfl, rfl, trivial⟩ (by simp only; omega)
    · simp only
      rw [List.flatMap_append, List.length_append]
      simpa using a2
    · intro q hq
      rcases a4 q hq with e | e
      · exact fr q e
      · have := kp4.len; omega
    · simp only [List.length_append, List.length_singleton]; omega
    · exact hst
end Go.S07

/- Tokens: a fixed call; ScanTokens, the walk. -/
set_option linter.unusedVariables false
set_option linter.unusedSimpArgs false
namespace Go.S07
open Go Go.Eng Go.Proofs Go.Scn

theorem toks_wake : toks 4 [102, 32, 49, 50] = .ok [⟨1, [102], 0, 0⟩, ⟨3, [], 12, 2⟩] := by
  have s1 : skp [102, 32, 49, 50] = .ok [102, 32, 49, 50] := skp_rest (by decide) (by decide) rfl
  have s2 : skp [49, 50] = .ok [49, 50] := skp_rest (by decide) (by decide) rfl
  have s3 : skp [32, 49, 50] = .ok [49, 50] := by rw [skp_cons, if_pos (by decide), s2]
  rw [toks_step (k := 1) (v := 0) (t := [102]) (n := 1) s1 (by simp) (by rfl), show ([102, 32, 49, 50] : Bs).drop 1 = [32, 49, 50] from rfl, toks_skip s3,
    toks_step (k := 3) (v := 12) (t := []) (n := 2) s2 (by simp) (by rfl), show ([49, 50] : Bs).drop 2 = [] from rfl, toks_end]
  rfl
theorem tokF_wake : tokF [102, 32, 49, 50] = ([⟨1, [102], 0, 0⟩, ⟨3, [], 12, 2⟩], 0, 0) := by
  rw [tokF, if_neg (by decide)]
  show (match toks 4 [102, 32, 49, 50] with
    | .ok ts => (ts, (0 : Int), (0 : Int))
    | .error e => ([], (e : Int), 8)) = _
  rw [toks_wake]

theorem wakes_ok (h : AH) : Gets Tryd.prog 9 [] h (fun res h' => Keep (fun _ => False) h h' ∧ res = .ret (.bool true)) := by
  refine Gets.of (keep := false) hP (draw_ok hM) k9 (by rfl) (fun Ψ hΨ => ?_)
  simp only [mach, mach2, mstd, ↓reduceIte, Nat.reduceEqDiff, Nat.reduceAdd, Nat.reduceMul, r9]
  refine XX_of (Tokens_ok [102, 32, 49, 50] h) (fun res h1 hle hr => ?_)
  obtain ⟨kp, lv, rfl, ow, fr⟩ := hr
  rw [tokF_wake] at ow
  rw [tokF_wake]
  refine .ret ?_
  obtain ⟨b, o, c, e1, _, _, f0⟩ := tk_at ow.rds (i := 0) (t := ⟨1, [102], 0, 0⟩) rfl
  obtain ⟨b', o', c', e2, _, _, f1⟩ := tk_at ow.rds (i := 1) (t := ⟨3, [], 12, 2⟩) rfl
  subst e1
  cases e2
  have l00 : ldc h1 b (o + 0 + 0) = some (iv 1) := by have := f0 0 (by omega); simpa [tkC] using this
  have l00' : ldc h1 b o = some (iv 1) := l00
  have l01 : ldc h1 b (o + 1) = some (.string ⟨#[102]⟩) := by
    have := f0 1 (by omega)
    have e : ldc h1 b (o + 1) = some (tv [102]) := by simpa [tkC] using this
    exact e
  have l12 : ldc h1 b (o + 4 + 2) = some (iv 12) := by have := f1 2 (by omega); simpa [tkC] using this
  have l13 : ldc h1 b (o + 4 + 3) = some (iv 2) := by have := f1 3 (by omega); simpa [tkC] using this
  simp only [mach, mach2, mstd, ↓reduceIte, Nat.reduceEqDiff, Nat.reduceAdd, Nat.reduceMul, mbl, Nat.reduceLeDiff, Nat.reduceLT, Int.reduceEq, show ((([⟨1, [102], 0, 0⟩, ⟨3, [], 12, 2⟩] : List Tk).length : Nat) : Int) = 2 from rfl, Int.reduceLT, Int.reduceLE, Int.reduceEq, and_self, Int.toNat_zero, Nat.zero_mul, Nat.add_zero, l00', l01, show (1 : Int).toNat = 1 from rfl, Nat.one_mul, l12, l13, mk_toList, beq_self_eq_true]
  exact hΨ _ _ (fin_ret (rv1 rfl ⟨kp, rfl⟩))

theorem toks_len {N : Nat} : ∀ (n : Nat) (l : Bs) (ts : List Tk), l.length ≤ n → toks N l = .ok ts → ts.length ≤ l.length := by
  intro n
  induction n with
  | zero =>
    intro l ts hn h
    have : l = [] := List.eq_nil_of_length_eq_zero (by omega)
    subst this
    rw [toks_end] at h; cases h; exact Nat.le_refl _
  | succ n ih =>
    intro l ts hn h
    rw [toks_eq] at h
    split at h
    · cases h
    · rename_i r hr
      have hrl := skp_len hr
      split at h
      · cases h; exact Nat.zero_le _
      · split at h
        · cases h
        · rename_i k t v m htk
          obtain ⟨m1, m2⟩ := tokS_pos htk
          split at h
          · cases h
          · rename_i us hu
            cases h
            have := ih (r.drop m) us (by simp; omega) hu
            simp only [List.length_cons, List.length_drop] at *
            omega
theorem tokF_len (s : Bs) : (tokF s).1.length ≤ 8000 := by
  unfold tokF
  split
  · exact Nat.zero_le _
  · split
    · rename_i ts h
      have := toks_len _ _ _ (Nat.le_refl _) h
      simp only; omega
    · exact Nat.zero_le _

end Go.S07

/- Tokens: plain laws: beginnings of texts, texts one behind the other, places. -/
set_option linter.unusedVariables false
set_option linter.unusedSimpArgs false
namespace Go.Scn
open Go

/-- The first n bytes are the same; behind them stands what stood there, or a line's end, or nothing. -/
structure Ag (n : Nat) (l l' : Bs) : Prop where
  same : ∀ i, i < n → l'[i]? = l[i]?
  full : n ≤ l'.length
  next : ∀ c, l'[n]? = some c → l[n]? = some c ∨ c = 10
theorem Ag.le {m n : Nat} {l l' : Bs} (h : Ag n l l') (hm : m ≤ n) : Ag m l l' :=
  ⟨fun i hi => h.same i (by omega), by have := h.full; omega, fun c hc => by
    rcases Nat.lt_or_ge m n with e | e
    · exact .inl (by rw [← h.same m e]; exact hc)
    · have : m = n := by omega
      subst this; exact h.next c hc⟩
theorem Ag.app {n : Nat} {l r' : Bs} (hn : n ≤ l.length) (h : ∀ c, r'[0]? = some c → l[n]? = some c ∨ c = 10) : Ag n l (l.take n ++ r') := by
  have hl : (l.take n).length = n := by simp; omega
  refine ⟨fun i hi => ?_, by simp; omega, fun c hc => ?_⟩
  · rw [List.getElem?_append_left (by omega), List.getElem?_take, if_pos hi]
  · rw [List.getElem?_append_right (by omega), hl, Nat.sub_self] at hc
    exact h c hc
theorem Ag.drop {m n : Nat} {l l' : Bs} (h : Ag n l l') (hm : m ≤ n) : Ag (n - m) (l.drop m) (l'.drop m) :=
  ⟨fun i hi => by rw [List.getElem?_drop, List.getElem?_drop]; exact h.same _ (by omega), by have := h.full; simp; omega, fun c hc => by
    rw [List.getElem?_drop] at hc ⊢
    rw [show m + (n - m) = n by omega] at hc ⊢
    exact h.next c hc⟩
/-! ### Tokens of texts -/

/-- Places further on. -/
def Tk.at (d : Nat) (t : Tk) : Tk := { t with a := t.a + d }
end Go.Scn

/- Tokens: ScanFault, the walk. -/
set_option linter.unusedVariables false
set_option linter.unusedSimpArgs false
namespace Go.S07
open Go Go.Eng Go.Proofs Go.Scn

end Go.S07

/- Tokens: ScanPlaces, the walk. -/
set_option linter.unusedVariables false
set_option linter.unusedSimpArgs false
namespace Go.S07
open Go Go.Eng Go.Proofs Go.Scn

end Go.S07

/- Tokens: ScanPlaces, the walk. -/
set_option linter.unusedVariables false
set_option linter.unusedSimpArgs false
namespace Go.S07
open Go Go.Eng Go.Proofs Go.Scn

theorem s_add {a b : Bs} (h : a.length + b.length ≤ 9223372036854775807) : sbin .add (tx a) (tx b) = some (.string (tx (a ++ b))) := by
  have : ¬ (((tx a).size + (tx b).size : Nat) : Int) > IntKind.i64.max := by
    rw [tx_size, tx_size]
    have : IntKind.i64.max = 9223372036854775807 := by decide
    omega
  simp only [sbin, if_neg this, tx_app]
end Go.S07
