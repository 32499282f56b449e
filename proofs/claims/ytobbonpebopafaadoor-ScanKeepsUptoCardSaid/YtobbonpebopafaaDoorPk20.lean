import Derived.Test.YtobbonpebopafaaDoorPk19
/- Tokens: the document's side: comments, quotes, numbers. -/
set_option linter.unusedVariables false
set_option linter.unusedSimpArgs false
namespace Go.S07
open Go Go.Eng Go.Proofs Go.Scn

/-! ### Comments -/

theorem take2 {a b x y : UInt8} {q l : Bs} (h : l = x :: y :: q) (e : l.take 2 = [a, b]) : x = a ∧ y = b := by subst h; simpa using e


def nw (d : Nat) (l : Bs) : Option Nat := if d = 0 then some 0 else nst d l
def cmN (l : Bs) : Option Nat := if 0 < lineN l then some (lineN l) else nestN l
def cmV (p : Nat) : Option Nat → Int
  | none => -1
  | some n => ((p + n : Nat) : Int)

set_option maxHeartbeats 4000000 in
theorem comment_ok (s : Bs) (p : Nat) (hs : s.length ≤ 8000) (hp : p < s.length) (h : AH) : Gets Tryd.prog 24 [tv s, iv p] h (fun res h' => h' = h ∧ res = .ret (iv (cmV p (cmN (s.drop p))))) := by
  refine Gets.of (keep := false) hP (draw_ok hM) k24 (by rfl) (fun Ψ hΨ => ?_)
  have hle := spn_le dash (s.drop p)
  have hdl : (s.drop p).length = s.length - p := by simp
  have hw2 : IntKind.i64.wrap ((p : Int) + 2) = ((p + 2 : Nat) : Int) := by rw [i64w (by omega) (by omega)]; omega
  simp only [mach, mach2, mstd, ↓reduceIte, Nat.reduceEqDiff, Nat.reduceAdd, Nat.reduceMul, r24]
  refine XLo_rule (α := Nat) (fun i => [(0, tv s), (1, iv p), (5, iv i)]) (fun i h' => h' = h ∧ p ≤ i ∧ i ≤ s.length ∧ spn dash (s.drop p) = (i - p) + spn dash (s.drop i)) (fun i => s.length - i) p
    ⟨rfl, Nat.le_refl _, by omega, by simp⟩ ⟨rfl, rfl, rfl, trivial⟩ ?_
  rintro i h1 Ψ2 ⟨rfl, hpi, hi, hsp⟩ next out
  by_cases hlt : (i : Int) < (s.length : Int)
  · have hil : i < s.length := by omega
    have hc : s[i]? = some s[i] := List.getElem?_eq_getElem hil
    have g0 : (0 : Int) ≤ (i : Int) := by omega
    have hdi := List.drop_eq_getElem_cons hil
    by_cases h45 : (s[i].toNat : Int) = 45
    · have hwi : IntKind.i64.wrap ((i : Int) + 1) = ((i + 1 : Nat) : Int) := by rw [i64w (by omega) (by omega)]; omega
      simp only [mach, mach2, mstd, ↓reduceIte, Nat.reduceEqDiff, Nat.reduceAdd, Nat.reduceMul, tx_size, hlt, tx_get, hc, g0, Int.toNat_natCast, eq_true h45, hwi]
      refine next (i + 1) _ _ _ ⟨rfl, by omega, by omega, ?_⟩ ⟨rfl, rfl, rfl, trivial⟩ (by omega)
      rw [hsp, hdi, spn_cons, if_pos (by simp [dash]; omega)]; omega
    · simp only [mach, mach2, mstd, ↓reduceIte, Nat.reduceEqDiff, Nat.reduceAdd, Nat.reduceMul, tx_size, hlt, tx_get, hc, g0, Int.toNat_natCast, h45]
      refine out (.exit 0) _ _ _ _ (by intro e; cases e) ?_
      have hz : spn dash (s.drop i) = 0 := by rw [hdi, spn_cons, if_neg (by simp [dash]; omega)]
      clear hlt hil hc g0 hdi h45
      have hk : spn dash (s.drop p) = i - p := by omega
      have hw1 : IntKind.i64.wrap ((p : Int) + 1) = ((p + 1 : Nat) : Int) := by rw [i64w (by omega) (by omega)]; omega
      have gk : (s.drop p)[i - p]? = s[i]? := by rw [List.getElem?_drop]; congr 1; omega
      have lin : 2 ≤ i - p → (∀ c, s[i]? = some c → symb c = false) → lineN (s.drop p) = spn noEnd (s.drop p) := fun e1 e2 => by
        unfold lineN; rw [hk, gk, if_pos ⟨e1, e2⟩]
      have nolin : (¬ (2 ≤ i - p ∧ ∀ c, s[i]? = some c → symb c = false)) → lineN (s.drop p) = 0 := fun e => by
        unfold lineN; rw [hk, gk, if_neg e]
      by_cases c1 : ((p + 2 : Nat) : Int) ≤ (i : Int)
      · by_cases c2 : (i : Int) = (s.length : Int)
        · simp only [mach, mach2, mstd, ↓reduceIte, Nat.reduceEqDiff, Nat.reduceAdd, Nat.reduceMul, hw2, eq_true c1, eq_true c2, tx_size]
          refine XLo_rule (α := Nat) (fun j => [(0, tv s), (1, iv p), (5, iv j)]) (fun j h' => h' = h1 ∧ p ≤ j ∧ j ≤ s.length ∧ spn noEnd (s.drop p) = (j - p) + spn noEnd (s.drop j)) (fun j => s.length - j) i
            ⟨rfl, hpi, hi, by
              have := spn_add (f := noEnd) (i - p) (s.drop p) (fun j d hj hjd => by
                obtain ⟨d', e1, e2⟩ := spn_at (p := dash) (l := s.drop p) (i := j) (by omega)
                rw [e1] at hjd; cases hjd
                simp [dash] at e2; simp [noEnd]; omega) (by omega)
              rw [this, List.drop_drop, show p + (i - p) = i by omega]⟩ ⟨rfl, rfl, rfl, trivial⟩ ?_
          rintro j h2 Ψ3 ⟨rfl, hpj, hj, hsn⟩ next2 out2
          have hlN : lineN (s.drop p) = spn noEnd (s.drop p) := lin (by omega) (fun c e => by
            first
              | (rw [hc] at e; cases e; exact hsy)
              | (rw [List.getElem?_eq_none (by omega)] at e; cases e))
          have hge : i - p ≤ spn noEnd (s.drop p) := by
            have := spn_add (f := noEnd) (i - p) (s.drop p) (fun j d hj hjd => by
                obtain ⟨d', e1, e2⟩ := spn_at (p := dash) (l := s.drop p) (i := j) (by omega)
                rw [e1] at hjd; cases hjd
                simp [dash] at e2; simp [noEnd]; omega) (by omega)
            omega
          have done : spn noEnd (s.drop j) = 0 → cmV p (cmN (s.drop p)) = (j : Int) := fun e => by
            rw [cmN, if_pos (by omega), hlN, cmV]; omega
          by_cases d1 : (j : Int) < (s.length : Int)
          · have hjl : j < s.length := by omega
            have hcj : s[j]? = some s[j] := List.getElem?_eq_getElem hjl
            have gj : (0 : Int) ≤ (j : Int) := by omega
            have hdj := List.drop_eq_getElem_cons hjl
            by_cases d2 : (s[j].toNat : Int) = 10
            · simp only [mach, mach2, mstd, ↓reduceIte, Nat.reduceEqDiff, Nat.reduceAdd, Nat.reduceMul, eq_true d1, tx_size, tx_get, hcj, gj, Int.toNat_natCast, eq_true d2]
              refine out2 (.exit 2) _ _ _ _ (by intro e; cases e) ?_
              simp only [mach, mach2, mstd, ↓reduceIte, Nat.reduceEqDiff, Nat.reduceAdd, Nat.reduceMul]
              refine hΨ _ _ (fin_ret (rv1 rfl ⟨rfl, ?_⟩))
              rw [done (by rw [hdj, spn_cons, if_neg (by simp [noEnd]; omega)])]; rfl
            · have hwj : IntKind.i64.wrap ((j : Int) + 1) = ((j + 1 : Nat) : Int) := by rw [i64w (by omega) (by omega)]; omega
              simp only [mach, mach2, mstd, ↓reduceIte, Nat.reduceEqDiff, Nat.reduceAdd, Nat.reduceMul, eq_true d1, tx_size, tx_get, hcj, gj, Int.toNat_natCast, d2, hwj]
              refine next2 (j + 1) _ _ _ ⟨rfl, by omega, by omega, ?_⟩ ⟨rfl, rfl, rfl, trivial⟩ (by omega)
              rw [hsn, hdj, spn_cons, if_pos (by simp [noEnd]; omega)]; omega
          · simp only [mach, mach2, mstd, ↓reduceIte, Nat.reduceEqDiff, Nat.reduceAdd, Nat.reduceMul, d1, tx_size]
            refine out2 (.exit 2) _ _ _ _ (by intro e; cases e) ?_
            simp only [mach, mach2, mstd, ↓reduceIte, Nat.reduceEqDiff, Nat.reduceAdd, Nat.reduceMul]
            refine hΨ _ _ (fin_ret (rv1 rfl ⟨rfl, ?_⟩))
            rw [done (by rw [List.drop_eq_nil_of_le (by omega)]; rfl)]; rfl
        · have hil : i < s.length := by omega
          have hc : s[i]? = some s[i] := List.getElem?_eq_getElem hil
          have g0 : (0 : Int) ≤ (i : Int) := by omega
          simp only [mach, mach2, mstd, ↓reduceIte, Nat.reduceEqDiff, Nat.reduceAdd, Nat.reduceMul, hw2, eq_true c1, c2, tx_size, tx_get, hc, g0, Int.toNat_natCast]
          refine XX_val (rsymbol_ok _ _) ?_
          cases hsy : symb s[i] with
          | true =>
            have hl0 := nolin (by rintro ⟨_, e⟩; have := e _ hc; rw [hsy] at this; cases this)
            simp only [mach, mach2, mstd, ↓reduceIte, Nat.reduceEqDiff, Nat.reduceAdd, Nat.reduceMul]
            have hcm : cmN (s.drop p) = nestN (s.drop p) := by rw [cmN, if_neg (by omega)]
            have hcp : s[p]? = some s[p] := List.getElem?_eq_getElem hp
            have gp : (0 : Int) ≤ (p : Int) := by omega
            have none : (s.drop p).take 2 ≠ [123, 45] → cmV p (cmN (s.drop p)) = (p : Int) := fun e => by rw [hcm, nestN_no e]; simp [cmV]
            by_cases n1 : (s.length : Int) ≤ ((p + 1 : Nat) : Int)
            · simp only [mach, mach2, mstd, ↓reduceIte, Nat.reduceEqDiff, Nat.reduceAdd, Nat.reduceMul, hw1, tx_size, eq_true n1]
              refine hΨ _ _ (fin_ret (rv1 rfl ⟨rfl, ?_⟩))
              rw [none (fun e => by have := congrArg List.length e; simp at this; omega)]; rfl
            have hp1 : p + 1 < s.length := by omega
            have hcp1 : s[p + 1]? = some s[p + 1] := List.getElem?_eq_getElem hp1
            have gp1 : (0 : Int) ≤ ((p + 1 : Nat) : Int) := by omega
            have hd0 : s.drop p = s[p] :: s[p + 1] :: s.drop (p + 2) := by rw [List.drop_eq_getElem_cons hp, List.drop_eq_getElem_cons hp1]
            by_cases n2 : (s[p].toNat : Int) = 123
            case neg =>
              simp only [mach, mach2, mstd, ↓reduceIte, Nat.reduceEqDiff, Nat.reduceAdd, Nat.reduceMul, hw1, tx_size, n1, tx_get, hcp, gp, Int.toNat_natCast, n2]
              refine hΨ _ _ (fin_ret (rv1 rfl ⟨rfl, ?_⟩))
              rw [none (fun e => n2 (by rw [(take2 hd0 e).1]; rfl))]; rfl
            by_cases n3 : (s[p + 1].toNat : Int) = 45
            case neg =>
              simp only [mach, mach2, mstd, ↓reduceIte, Nat.reduceEqDiff, Nat.reduceAdd, Nat.reduceMul, hw1, tx_size, n1, tx_get, hcp, hcp1, gp, gp1, Int.toNat_natCast, eq_true n2, n3]
              refine hΨ _ _ (fin_ret (rv1 rfl ⟨rfl, ?_⟩))
              rw [none (fun e => n3 (by rw [(take2 hd0 e).2]; rfl))]; rfl
            have e123 : s[p] = 123 := UInt8.toNat_inj.1 (by show s[p].toNat = 123; omega)
            have e45 : s[p + 1] = 45 := UInt8.toNat_inj.1 (by show s[p + 1].toNat = 45; omega)
            simp only [mach, mach2, mstd, ↓reduceIte, Nat.reduceEqDiff, Nat.reduceAdd, Nat.reduceMul, hw1, hw2, tx_size, n1, tx_get, hcp, hcp1, gp, gp1, Int.toNat_natCast, eq_true n2, eq_true n3]
            refine XLo_rule (α := Nat × Nat) (fun a => [(0, tv s), (1, iv p), (5, iv a.1), (6, iv a.2)]) (fun a h' => h' = h1 ∧ p + 2 ≤ a.1 ∧ a.1 ≤ s.length ∧ a.2 ≤ a.1 ∧ nestN (s.drop p) = (nw a.2 (s.drop a.1)).map (· + (a.1 - p))) (fun a => s.length - a.1) (p + 2, 1)
              ⟨rfl, Nat.le_refl _, by simp only; omega, by simp only; omega, by
                rw [hd0, e123, e45]
                simp only [nestN, nw, Nat.one_ne_zero, if_false]
                congr 1; funext m; omega⟩ ⟨rfl, rfl, rfl, rfl, trivial⟩ ?_
            rintro ⟨j, d⟩ h2 Ψ3 ⟨rfl, hpj, hj, hdj, hn⟩ next2 out2
            simp only at hpj hj hdj hn
            by_cases f1 : (0 : Int) < (d : Int)
            case neg =>
              have hd0' : d = 0 := by omega
              subst hd0'
              simp only [mach, mach2, mstd, ↓reduceIte, Nat.reduceEqDiff, Nat.reduceAdd, Nat.reduceMul, f1]
              refine out2 (.exit 4) _ _ _ _ (by intro e; cases e) ?_
              simp only [mach, mach2, mstd, ↓reduceIte, Nat.reduceEqDiff, Nat.reduceAdd, Nat.reduceMul]
              refine hΨ _ _ (fin_ret (rv1 rfl ⟨rfl, ?_⟩))
              rw [hcm, hn]
              have : cmV p ((nw 0 (s.drop j)).map (· + (j - p))) = (j : Int) := by simp only [nw, if_true, Option.map_some, cmV]; omega
              rw [this]; rfl
            have hnw : nw d (s.drop j) = nst d (s.drop j) := by rw [nw, if_neg (by omega)]
            rw [hnw] at hn
            have hwj : IntKind.i64.wrap ((j : Int) + 1) = ((j + 1 : Nat) : Int) := by rw [i64w (by omega) (by omega)]; omega
            by_cases f2 : (s.length : Int) ≤ ((j + 1 : Nat) : Int)
            · simp only [mach, mach2, mstd, ↓reduceIte, Nat.reduceEqDiff, Nat.reduceAdd, Nat.reduceMul, f1, hwj, tx_size, eq_true f2]
              refine out2 .ret _ _ _ _ (by intro e; cases e) ?_
              simp only [mach, mach2, mstd, ↓reduceIte, Nat.reduceEqDiff, Nat.reduceAdd, Nat.reduceMul]
              refine hΨ _ _ (fin_ret (rv1 rfl ⟨rfl, ?_⟩))
              have hz : nst d (s.drop j) = Option.none := by
                have hq : (s.drop j).length ≤ 1 := by simp; omega
                cases hqq : s.drop j with
                | nil => rw [nst]
                | cons a q =>
                  cases q with
                  | nil => rw [nst_step (by simp) (by simp), nst]; rfl
                  | cons b q => rw [hqq] at hq; simp at hq
              rw [hcm, hn, hz]; rfl
            have hj0 : j < s.length := by omega
            have hj1 : j + 1 < s.length := by omega
            have hcj : s[j]? = some s[j] := List.getElem?_eq_getElem hj0
            have hcj1 : s[j + 1]? = some s[j + 1] := List.getElem?_eq_getElem hj1
            have gj : (0 : Int) ≤ (j : Int) := by omega
            have gj1 : (0 : Int) ≤ ((j + 1 : Nat) : Int) := by omega
            have hdj2 : s.drop j = s[j] :: s[j + 1] :: s.drop (j + 2) := by rw [List.drop_eq_getElem_cons hj0, List.drop_eq_getElem_cons hj1]
            have hwj2 : IntKind.i64.wrap ((j : Int) + 2) = ((j + 2 : Nat) : Int) := by rw [i64w (by omega) (by omega)]; omega
            have hwd : IntKind.i64.wrap ((d : Int) + 1) = ((d + 1 : Nat) : Int) := by rw [i64w (by omega) (by omega)]; omega
            have hwd2 : IntKind.i64.wrap ((d : Int) - 1) = ((d - 1 : Nat) : Int) := by rw [i64w (by omega) (by omega)]; omega
            have step : (s.drop j).take 2 ≠ [123, 45] → (s.drop j).take 2 ≠ [45, 125] → nestN (s.drop p) = (nw d (s.drop (j + 1))).map (· + (j + 1 - p)) := fun e1 e2 => by
              have e3 : s.drop (j + 1) = s[j + 1] :: s.drop (j + 2) := List.drop_eq_getElem_cons hj1
              rw [hn, hdj2, nst_step (by rw [← hdj2]; exact e1) (by rw [← hdj2]; exact e2), nw, if_neg (by omega), e3]
              simp only [Option.map_map]
              congr 1; funext m; simp only [Function.comp]; omega
            by_cases f3 : (s[j].toNat : Int) = 123
            · by_cases f4 : (s[j + 1].toNat : Int) = 45
              · have q1 : s[j] = 123 := UInt8.toNat_inj.1 (by show s[j].toNat = 123; omega)
                have q2 : s[j + 1] = 45 := UInt8.toNat_inj.1 (by show s[j + 1].toNat = 45; omega)
                simp only [mach, mach2, mstd, ↓reduceIte, Nat.reduceEqDiff, Nat.reduceAdd, Nat.reduceMul, f1, hwj, tx_size, f2, tx_get, hcj, hcj1, gj, gj1, Int.toNat_natCast, eq_true f3, eq_true f4, hwd, hwj2]
                refine next2 (j + 2, d + 1) _ _ _ ⟨rfl, by simp only; omega, by simp only; omega, by simp only; omega, ?_⟩ ⟨rfl, rfl, rfl, rfl, trivial⟩ (by simp only; omega)
                rw [hn, hdj2, q1, q2]
                simp only [nst, nw, Nat.add_eq_zero_iff, Nat.one_ne_zero, and_false, if_false, Option.map_map]
                congr 1; funext m; simp only [Function.comp]; omega
              · have q3 : ¬ (s[j].toNat : Int) = 45 := by omega
                simp only [mach, mach2, mstd, ↓reduceIte, Nat.reduceEqDiff, Nat.reduceAdd, Nat.reduceMul, f1, hwj, tx_size, f2, tx_get, hcj, hcj1, gj, gj1, Int.toNat_natCast, eq_true f3, f4, q3]
                refine next2 (j + 1, d) _ _ _ ⟨rfl, by simp only; omega, by simp only; omega, by simp only; omega, step (fun e => f4 (by rw [(take2 hdj2 e).2]; rfl)) (fun e => q3 (by rw [(take2 hdj2 e).1]; rfl))⟩ ⟨rfl, rfl, rfl, rfl, trivial⟩ (by simp only; omega)
            · by_cases f5 : (s[j].toNat : Int) = 45
              · by_cases f6 : (s[j + 1].toNat : Int) = 125
                · have q1 : s[j] = 45 := UInt8.toNat_inj.1 (by show s[j].toNat = 45; omega)
                  have q2 : s[j + 1] = 125 := UInt8.toNat_inj.1 (by show s[j + 1].toNat = 125; omega)
                  simp only [mach, mach2, mstd, ↓reduceIte, Nat.reduceEqDiff, Nat.reduceAdd, Nat.reduceMul, f1, hwj, tx_size, f2, tx_get, hcj, hcj1, gj, gj1, Int.toNat_natCast, f3, eq_true f5, eq_true f6, hwd2, hwj2]
                  refine next2 (j + 2, d - 1) _ _ _ ⟨rfl, by simp only; omega, by simp only; omega, by simp only; omega, ?_⟩ ⟨rfl, rfl, rfl, rfl, trivial⟩ (by simp only; omega)
                  rw [hn, hdj2, q1, q2]
                  simp only [nst, nw]
                  by_cases hd1 : d ≤ 1
                  · rw [if_pos hd1, if_pos (by omega)]; simp only [Option.map_some]; congr 1; omega
                  · rw [if_neg hd1, if_neg (by omega)]
                    simp only [Option.map_map]
                    congr 1; funext m; simp only [Function.comp]; omega
                · simp only [mach, mach2, mstd, ↓reduceIte, Nat.reduceEqDiff, Nat.reduceAdd, Nat.reduceMul, f1, hwj, tx_size, f2, tx_get, hcj, hcj1, gj, gj1, Int.toNat_natCast, f3, eq_true f5, f6]
                  refine next2 (j + 1, d) _ _ _ ⟨rfl, by simp only; omega, by simp only; omega, by simp only; omega, step (fun e => f3 (by rw [(take2 hdj2 e).1]; rfl)) (fun e => f6 (by rw [(take2 hdj2 e).2]; rfl))⟩ ⟨rfl, rfl, rfl, rfl, trivial⟩ (by simp only; omega)
              · simp only [mach, mach2, mstd, ↓reduceIte, Nat.reduceEqDiff, Nat.reduceAdd, Nat.reduceMul, f1, hwj, tx_size, f2, tx_get, hcj, hcj1, gj, gj1, Int.toNat_natCast, f3, f5]
                refine next2 (j + 1, d) _ _ _ ⟨rfl, by simp only; omega, by simp only; omega, by simp only; omega, step (fun e => f3 (by rw [(take2 hdj2 e).1]; rfl)) (fun e => f5 (by rw [(take2 hdj2 e).1]; rfl))⟩ ⟨rfl, rfl, rfl, rfl, trivial⟩ (by simp only; omega)
          | false =>
            simp only [mach, mach2, mstd, ↓reduceIte, Nat.reduceEqDiff, Nat.reduceAdd, Nat.reduceMul]
            refine XLo_rule (α := Nat) (fun j => [(0, tv s), (1, iv p), (5, iv j)]) (fun j h' => h' = h1 ∧ p ≤ j ∧ j ≤ s.length ∧ spn noEnd (s.drop p) = (j - p) + spn noEnd (s.drop j)) (fun j => s.length - j) i
              ⟨rfl, hpi, hi, by
                have := spn_add (f := noEnd) (i - p) (s.drop p) (fun j d hj hjd => by
                  obtain ⟨d', e1, e2⟩ := spn_at (p := dash) (l := s.drop p) (i := j) (by omega)
                  rw [e1] at hjd; cases hjd
                  simp [dash] at e2; simp [noEnd]; omega) (by omega)
                rw [this, List.drop_drop, show p + (i - p) = i by omega]⟩ ⟨rfl, rfl, rfl, trivial⟩ ?_
            rintro j h2 Ψ3 ⟨rfl, hpj, hj, hsn⟩ next2 out2
            have hlN : lineN (s.drop p) = spn noEnd (s.drop p) := lin (by omega) (fun c e => by
              first
                | (rw [hc] at e; cases e; exact hsy)
                | (rw [List.getElem?_eq_none (by omega)] at e; cases e))
            have hge : i - p ≤ spn noEnd (s.drop p) := by
              have := spn_add (f := noEnd) (i - p) (s.drop p) (fun j d hj hjd => by
                  obtain ⟨d', e1, e2⟩ := spn_at (p := dash) (l := s.drop p) (i := j) (by omega)
                  rw [e1] at hjd; cases hjd
                  simp [dash] at e2; simp [noEnd]; omega) (by omega)
              omega
            have done : spn noEnd (s.drop j) = 0 → cmV p (cmN (s.drop p)) = (j : Int) := fun e => by
              rw [cmN, if_pos (by omega), hlN, cmV]; omega
            by_cases d1 : (j : Int) < (s.length : Int)
            · have hjl : j < s.length := by omega
              have hcj : s[j]? = some s[j] := List.getElem?_eq_getElem hjl
              have gj : (0 : Int) ≤ (j : Int) := by omega
              have hdj := List.drop_eq_getElem_cons hjl
              by_cases d2 : (s[j].toNat : Int) = 10
              · simp only [mach, mach2, mstd, ↓reduceIte, Nat.reduceEqDiff, Nat.reduceAdd, Nat.reduceMul, eq_true d1, tx_size, tx_get, hcj, gj, Int.toNat_natCast, eq_true d2]
                refine out2 (.exit 2) _ _ _ _ (by intro e; cases e) ?_
                simp only [mach, mach2, mstd, ↓reduceIte, Nat.reduceEqDiff, Nat.reduceAdd, Nat.reduceMul]
                refine hΨ _ _ (fin_ret (rv1 rfl ⟨rfl, ?_⟩))
                rw [done (by rw [hdj, spn_cons, if_neg (by simp [noEnd]; omega)])]; rfl
              · have hwj : IntKind.i64.wrap ((j : Int) + 1) = ((j + 1 : Nat) : Int) := by rw [i64w (by omega) (by omega)]; omega
                simp only [mach, mach2, mstd, ↓reduceIte, Nat.reduceEqDiff, Nat.reduceAdd, Nat.reduceMul, eq_true d1, tx_size, tx_get, hcj, gj, Int.toNat_natCast, d2, hwj]
                refine next2 (j + 1) _ _ _ ⟨rfl, by omega, by omega, ?_⟩ ⟨rfl, rfl, rfl, trivial⟩ (by omega)
                rw [hsn, hdj, spn_cons, if_pos (by simp [noEnd]; omega)]; omega
            · simp only [mach, mach2, mstd, ↓reduceIte, Nat.reduceEqDiff, Nat.reduceAdd, Nat.reduceMul, d1, tx_size]
              refine out2 (.exit 2) _ _ _ _ (by intro e; cases e) ?_
              simp only [mach, mach2, mstd, ↓reduceIte, Nat.reduceEqDiff, Nat.reduceAdd, Nat.reduceMul]
              refine hΨ _ _ (fin_ret (rv1 rfl ⟨rfl, ?_⟩))
              rw [done (by rw [List.drop_eq_nil_of_le (by omega)]; rfl)]; rfl
      · have hl0 := nolin (by rintro ⟨e, _⟩; omega)
        simp only [mach, mach2, mstd, ↓reduceIte, Nat.reduceEqDiff, Nat.reduceAdd, Nat.reduceMul, hw2, c1]
        have hcm : cmN (s.drop p) = nestN (s.drop p) := by rw [cmN, if_neg (by omega)]
        have hcp : s[p]? = some s[p] := List.getElem?_eq_getElem hp
        have gp : (0 : Int) ≤ (p : Int) := by omega
        have none : (s.drop p).take 2 ≠ [123, 45] → cmV p (cmN (s.drop p)) = (p : Int) := fun e => by rw [hcm, nestN_no e]; simp [cmV]
        by_cases n1 : (s.length : Int) ≤ ((p + 1 : Nat) : Int)
        · simp only [mach, mach2, mstd, ↓reduceIte, Nat.reduceEqDiff, Nat.reduceAdd, Nat.reduceMul, hw1, tx_size, eq_true n1]
          refine hΨ _ _ (fin_ret (rv1 rfl ⟨rfl, ?_⟩))
          rw [none (fun e => by have := congrArg List.length e; simp at this; omega)]; rfl
        have hp1 : p + 1 < s.length := by omega
        have hcp1 : s[p + 1]? = some s[p + 1] := List.getElem?_eq_getElem hp1
        have gp1 : (0 : Int) ≤ ((p + 1 : Nat) : Int) := by omega
        have hd0 : s.drop p = s[p] :: s[p + 1] :: s.drop (p + 2) := by rw [List.drop_eq_getElem_cons hp, List.drop_eq_getElem_cons hp1]
        by_cases n2 : (s[p].toNat : Int) = 123
        case neg =>
          simp only [mach, mach2, mstd, ↓reduceIte, Nat.reduceEqDiff, Nat.reduceAdd, Nat.reduceMul, hw1, tx_size, n1, tx_get, hcp, gp, Int.toNat_natCast, n2]
          refine hΨ _ _ (fin_ret (rv1 rfl ⟨rfl, ?_⟩))
          rw [none (fun e => n2 (by rw [(take2 hd0 e).1]; rfl))]; rfl
        by_cases n3 : (s[p + 1].toNat : Int) = 45
        case neg =>
          simp only [mach, mach2, mstd, ↓reduceIte, Nat.reduceEqDiff, Nat.reduceAdd, Nat.reduceMul, hw1, tx_size, n1, tx_get, hcp, hcp1, gp, gp1, Int.toNat_natCast, eq_true n2, n3]
          refine hΨ _ _ (fin_ret (rv1 rfl ⟨rfl, ?_⟩))
          rw [none (fun e => n3 (by rw [(take2 hd0 e).2]; rfl))]; rfl
        have e123 : s[p] = 123 := UInt8.toNat_inj.1 (by show s[p].toNat = 123; omega)
        have e45 : s[p + 1] = 45 := UInt8.toNat_inj.1 (by show s[p + 1].toNat = 45; omega)
        simp only [mach, mach2, mstd, ↓reduceIte, Nat.reduceEqDiff, Nat.reduceAdd, Nat.reduceMul, hw1, hw2, tx_size, n1, tx_get, hcp, hcp1, gp, gp1, Int.toNat_natCast, eq_true n2, eq_true n3]
        refine XLo_rule (α := Nat × Nat) (fun a => [(0, tv s), (1, iv p), (5, iv a.1), (6, iv a.2)]) (fun a h' => h' = h1 ∧ p + 2 ≤ a.1 ∧ a.1 ≤ s.length ∧ a.2 ≤ a.1 ∧ nestN (s.drop p) = (nw a.2 (s.drop a.1)).map (· + (a.1 - p))) (fun a => s.length - a.1) (p + 2, 1)
          ⟨rfl, Nat.le_refl _, by simp only; omega, by simp only; omega, by
            rw [hd0, e123, e45]
            simp only [nestN, nw, Nat.one_ne_zero, if_false]
            congr 1; funext m; omega⟩ ⟨rfl, rfl, rfl, rfl, trivial⟩ ?_
        rintro ⟨j, d⟩ h2 Ψ3 ⟨rfl, hpj, hj, hdj, hn⟩ next2 out2
        simp only at hpj hj hdj hn
        by_cases f1 : (0 : Int) < (d : Int)
        case neg =>
          have hd0' : d = 0 := by omega
          subst hd0'
          simp only [mach, mach2, mstd, ↓reduceIte, Nat.reduceEqDiff, Nat.reduceAdd, Nat.reduceMul, f1]
          refine out2 (.exit 4) _ _ _ _ (by intro e; cases e) ?_
          simp only [mach, mach2, mstd, ↓reduceIte, Nat.reduceEqDiff, Nat.reduceAdd, Nat.reduceMul]
          refine hΨ _ _ (fin_ret (rv1 rfl ⟨rfl, ?_⟩))
          rw [hcm, hn]
          have : cmV p ((nw 0 (s.drop j)).map (· + (j - p))) = (j : Int) := by simp only [nw, if_true, Option.map_some, cmV]; omega
          rw [this]; rfl
        have hnw : nw d (s.drop j) = nst d (s.drop j) := by rw [nw, if_neg (by omega)]
        rw [hnw] at hn
        have hwj : IntKind.i64.wrap ((j : Int) + 1) = ((j + 1 : Nat) : Int) := by rw [i64w (by omega) (by omega)]; omega
        by_cases f2 : (s.length : Int) ≤ ((j + 1 : Nat) : Int)
        · simp only [mach, mach2, mstd, ↓reduceIte, Nat.reduceEqDiff, Nat.reduceAdd, Nat.reduceMul, f1, hwj, tx_size, eq_true f2]
          refine out2 .ret _ _ _ _ (by intro e; cases e) ?_
          simp only [mach, mach2, mstd, ↓reduceIte, Nat.reduceEqDiff, Nat.reduceAdd, Nat.reduceMul]
          refine hΨ _ _ (fin_ret (rv1 rfl ⟨rfl, ?_⟩))
          have hz : nst d (s.drop j) = Option.none := by
            have hq : (s.drop j).length ≤ 1 := by simp; omega
            cases hqq : s.drop j with
            | nil => rw [nst]
            | cons a q =>
              cases q with
              | nil => rw [nst_step (by simp) (by simp), nst]; rfl
              | cons b q => rw [hqq] at hq; simp at hq
          rw [hcm, hn, hz]; rfl
        have hj0 : j < s.length := by omega
        have hj1 : j + 1 < s.length := by omega
        have hcj : s[j]? = some s[j] := List.getElem?_eq_getElem hj0
        have hcj1 : s[j + 1]? = some s[j + 1] := List.getElem?_eq_getElem hj1
        have gj : (0 : Int) ≤ (j : Int) := by omega
        have gj1 : (0 : Int) ≤ ((j + 1 : Nat) : Int) := by omega
        have hdj2 : s.drop j = s[j] :: s[j + 1] :: s.drop (j + 2) := by rw [List.drop_eq_getElem_cons hj0, List.drop_eq_getElem_cons hj1]
        have hwj2 : IntKind.i64.wrap ((j : Int) + 2) = ((j + 2 : Nat) : Int) := by rw [i64w (by omega) (by omega)]; omega
        have hwd : IntKind.i64.wrap ((d : Int) + 1) = ((d + 1 : Nat) : Int) := by rw [i64w (by omega) (by omega)]; omega
        have hwd2 : IntKind.i64.wrap ((d : Int) - 1) = ((d - 1 : Nat) : Int) := by rw [i64w (by omega) (by omega)]; omega
        have step : (s.drop j).take 2 ≠ [123, 45] → (s.drop j).take 2 ≠ [45, 125] → nestN (s.drop p) = (nw d (s.drop (j + 1))).map (· + (j + 1 - p)) := fun e1 e2 => by
          have e3 : s.drop (j + 1) = s[j + 1] :: s.drop (j + 2) := List.drop_eq_getElem_cons hj1
          rw [hn, hdj2, nst_step (by rw [← hdj2]; exact e1) (by rw [← hdj2]; exact e2), nw, if_neg (by omega), e3]
          simp only [Option.map_map]
          congr 1; funext m; simp only [Function.comp]; omega
        by_cases f3 : (s[j].toNat : Int) = 123
        · by_cases f4 : (s[j + 1].toNat : Int) = 45
          · have q1 : s[j] = 123 := UInt8.toNat_inj.1 (by show s[j].toNat = 123; omega)
            have q2 : s[j + 1] = 45 := UInt8.toNat_inj.1 (by show s[j + 1].toNat = 45; omega)
            simp only [mach, mach2, mstd, ↓reduceIte, Nat.reduceEqDiff, Nat.reduceAdd, Nat.reduceMul, f1, hwj, tx_size, f2, tx_get, hcj, hcj1, gj, gj1, Int.toNat_natCast, eq_true f3, eq_true f4, hwd, hwj2]
            refine next2 (j + 2, d + 1) _ _ _ ⟨rfl, by simp only; omega, by simp only; omega, by simp only; omega, ?_⟩ ⟨rfl, rfl, rfl, rfl, trivial⟩ (by simp only; omega)
            rw [hn, hdj2, q1, q2]
            simp only [nst, nw, Nat.add_eq_zero_iff, Nat.one_ne_zero, and_false, if_false, Option.map_map]
            congr 1; funext m; simp only [Function.comp]; omega
          · have q3 : ¬ (s[j].toNat : Int) = 45 := by omega
            simp only [mach, mach2, mstd, ↓reduceIte, Nat.reduceEqDiff, Nat.reduceAdd, Nat.reduceMul, f1, hwj, tx_size, f2, tx_get, hcj, hcj1, gj, gj1, Int.toNat_natCast, eq_true f3, f4, q3]
            refine next2 (j + 1, d) _ _ _ ⟨rfl, by simp only; omega, by simp only; omega, by simp only; omega, step (fun e => f4 (by rw [(take2 hdj2 e).2]; rfl)) (fun e => q3 (by rw [(take2 hdj2 e).1]; rfl))⟩ ⟨rfl, rfl, rfl, rfl, trivial⟩ (by simp only; omega)
        · by_cases f5 : (s[j].toNat : Int) = 45
          · by_cases f6 : (s[j + 1].toNat : Int) = 125
            · have q1 : s[j] = 45 := UInt8.toNat_inj.1 (by show s[j].toNat = 45; omega)
              have q2 : s[j + 1] = 125 := UInt8.toNat_inj.1 (by show s[j + 1].toNat = 125; omega)
              simp only [mach, mach2, mstd, ↓reduceIte, Nat.reduceEqDiff, Nat.reduceAdd, Nat.reduceMul, f1, hwj, tx_size, f2, tx_get, hcj, hcj1, gj, gj1, Int.toNat_natCast, f3, eq_true f5, eq_true f6, hwd2, hwj2]
              refine next2 (j + 2, d - 1) _ _ _ ⟨rfl, by simp only; omega, by simp only; omega, by simp only; omega, ?_⟩ ⟨rfl, rfl, rfl, rfl, trivial⟩ (by simp only; omega)
              rw [hn, hdj2, q1, q2]
              simp only [nst, nw]
              by_cases hd1 : d ≤ 1
              · rw [if_pos hd1, if_pos (by omega)]; simp only [Option.map_some]; congr 1; omega
              · rw [if_neg hd1, if_neg (by omega)]
                simp only [Option.map_map]
                congr 1; funext m; simp only [Function.comp]; omega
            · simp only [mach, mach2, mstd, ↓reduceIte, Nat.reduceEqDiff, Nat.reduceAdd, Nat.reduceMul, f1, hwj, tx_size, f2, tx_get, hcj, hcj1, gj, gj1, Int.toNat_natCast, f3, eq_true f5, f6]
              refine next2 (j + 1, d) _ _ _ ⟨rfl, by simp only; omega, by simp only; omega, by simp only; omega, step (fun e => f3 (by rw [(take2 hdj2 e).1]; rfl)) (fun e => f6 (by rw [(take2 hdj2 e).2]; rfl))⟩ ⟨rfl, rfl, rfl, rfl, trivial⟩ (by simp only; omega)
          · simp only [mach, mach2, mstd, ↓reduceIte, Nat.reduceEqDiff, Nat.reduceAdd, Nat.reduceMul, f1, hwj, tx_size, f2, tx_get, hcj, hcj1, gj, gj1, Int.toNat_natCast, f3, f5]
            refine next2 (j + 1, d) _ _ _ ⟨rfl, by simp only; omega, by simp only; omega, by simp only; omega, step (fun e => f3 (by rw [(take2 hdj2 e).1]; rfl)) (fun e => f5 (by rw [(take2 hdj2 e).1]; rfl))⟩ ⟨rfl, rfl, rfl, rfl, trivial⟩ (by simp only; omega)
  · simp only [mach, mach2, mstd, ↓reduceIte, Nat.reduceEqDiff, Nat.reduceAdd, Nat.reduceMul, tx_size, hlt]
    refine out (.exit 0) _ _ _ _ (by intro e; cases e) ?_
    have hz : spn dash (s.drop i) = 0 := by rw [List.drop_eq_nil_of_le (by omega)]; rfl
    clear hlt
    have hk : spn dash (s.drop p) = i - p := by omega
    have hw1 : IntKind.i64.wrap ((p : Int) + 1) = ((p + 1 : Nat) : Int) := by rw [i64w (by omega) (by omega)]; omega
    have gk : (s.drop p)[i - p]? = s[i]? := by rw [List.getElem?_drop]; congr 1; omega
    have lin : 2 ≤ i - p → (∀ c, s[i]? = some c → symb c = false) → lineN (s.drop p) = spn noEnd (s.drop p) := fun e1 e2 => by
      unfold lineN; rw [hk, gk, if_pos ⟨e1, e2⟩]
    have nolin : (¬ (2 ≤ i - p ∧ ∀ c, s[i]? = some c → symb c = false)) → lineN (s.drop p) = 0 := fun e => by
      unfold lineN; rw [hk, gk, if_neg e]
    by_cases c1 : ((p + 2 : Nat) : Int) ≤ (i : Int)
    · by_cases c2 : (i : Int) = (s.length : Int)
      · simp only [mach, mach2, mstd, ↓reduceIte, Nat.reduceEqDiff, Nat.reduceAdd, Nat.reduceMul, hw2, eq_true c1, eq_true c2, tx_size]
        refine XLo_rule (α := Nat) (fun j => [(0, tv s), (1, iv p), (5, iv j)]) (fun j h' => h' = h1 ∧ p ≤ j ∧ j ≤ s.length ∧ spn noEnd (s.drop p) = (j - p) + spn noEnd (s.drop j)) (fun j => s.length - j) i
          ⟨rfl, hpi, hi, by
            have := spn_add (f := noEnd) (i - p) (s.drop p) (fun j d hj hjd => by
              obtain ⟨d', e1, e2⟩ := spn_at (p := dash) (l := s.drop p) (i := j) (by omega)
              rw [e1] at hjd; cases hjd
              simp [dash] at e2; simp [noEnd]; omega) (by omega)
            rw [this, List.drop_drop, show p + (i - p) = i by omega]⟩ ⟨rfl, rfl, rfl, trivial⟩ ?_
        rintro j h2 Ψ3 ⟨rfl, hpj, hj, hsn⟩ next2 out2
        have hlN : lineN (s.drop p) = spn noEnd (s.drop p) := lin (by omega) (fun c e => by
          first
            | (rw [hc] at e; cases e; exact hsy)
            | (rw [List.getElem?_eq_none (by omega)] at e; cases e))
        have hge : i - p ≤ spn noEnd (s.drop p) := by
          have := spn_add (f := noEnd) (i - p) (s.drop p) (fun j d hj hjd => by
              obtain ⟨d', e1, e2⟩ := spn_at (p := dash) (l := s.drop p) (i := j) (by omega)
              rw [e1] at hjd; cases hjd
              simp [dash] at e2; simp [noEnd]; omega) (by omega)
          omega
        have done : spn noEnd (s.drop j) = 0 → cmV p (cmN (s.drop p)) = (j : Int) := fun e => by
          rw [cmN, if_pos (by omega), hlN, cmV]; omega
        by_cases d1 : (j : Int) < (s.length : Int)
        · have hjl : j < s.length := by omega
          have hcj : s[j]? = some s[j] := List.getElem?_eq_getElem hjl
          have gj : (0 : Int) ≤ (j : Int) := by omega
          have hdj := List.drop_eq_getElem_cons hjl
          by_cases d2 : (s[j].toNat : Int) = 10
          · simp only [mach, mach2, mstd, ↓reduceIte, Nat.reduceEqDiff, Nat.reduceAdd, Nat.reduceMul, eq_true d1, tx_size, tx_get, hcj, gj, Int.toNat_natCast, eq_true d2]
            refine out2 (.exit 2) _ _ _ _ (by intro e; cases e) ?_
            simp only [mach, mach2, mstd, ↓reduceIte, Nat.reduceEqDiff, Nat.reduceAdd, Nat.reduceMul]
            refine hΨ _ _ (fin_ret (rv1 rfl ⟨rfl, ?_⟩))
            rw [done (by rw [hdj, spn_cons, if_neg (by simp [noEnd]; omega)])]; rfl
          · have hwj : IntKind.i64.wrap ((j : Int) + 1) = ((j + 1 : Nat) : Int) := by rw [i64w (by omega) (by omega)]; omega
            simp only [mach, mach2, mstd, ↓reduceIte, Nat.reduceEqDiff, Nat.reduceAdd, Nat.reduceMul, eq_true d1, tx_size, tx_get, hcj, gj, Int.toNat_natCast, d2, hwj]
            refine next2 (j + 1) _ _ _ ⟨rfl, by omega, by omega, ?_⟩ ⟨rfl, rfl, rfl, trivial⟩ (by omega)
            rw [hsn, hdj, spn_cons, if_pos (by simp [noEnd]; omega)]; omega
        · simp only [mach, mach2, mstd, ↓reduceIte, Nat.reduceEqDiff, Nat.reduceAdd, Nat.reduceMul, d1, tx_size]
          refine out2 (.exit 2) _ _ _ _ (by intro e; cases e) ?_
          simp only [mach, mach2, mstd, ↓reduceIte, Nat.reduceEqDiff, Nat.reduceAdd, Nat.reduceMul]
          refine hΨ _ _ (fin_ret (rv1 rfl ⟨rfl, ?_⟩))
          rw [done (by rw [List.drop_eq_nil_of_le (by omega)]; rfl)]; rfl
      · have hil : i < s.length := by omega
        have hc : s[i]? = some s[i] := List.getElem?_eq_getElem hil
        have g0 : (0 : Int) ≤ (i : Int) := by omega
        simp only [mach, mach2, mstd, ↓reduceIte, Nat.reduceEqDiff, Nat.reduceAdd, Nat.reduceMul, hw2, eq_true c1, c2, tx_size, tx_get, hc, g0, Int.toNat_natCast]
        refine XX_val (rsymbol_ok _ _) ?_
        cases hsy : symb s[i] with
        | true =>
          have hl0 := nolin (by rintro ⟨_, e⟩; have := e _ hc; rw [hsy] at this; cases this)
          simp only [mach, mach2, mstd, ↓reduceIte, Nat.reduceEqDiff, Nat.reduceAdd, Nat.reduceMul]
          have hcm : cmN (s.drop p) = nestN (s.drop p) := by rw [cmN, if_neg (by omega)]
          have hcp : s[p]? = some s[p] := List.getElem?_eq_getElem hp
          have gp : (0 : Int) ≤ (p : Int) := by omega
          have none : (s.drop p).take 2 ≠ [123, 45] → cmV p (cmN (s.drop p)) = (p : Int) := fun e => by rw [hcm, nestN_no e]; simp [cmV]
          by_cases n1 : (s.length : Int) ≤ ((p + 1 : Nat) : Int)
          · simp only [mach, mach2, mstd, ↓reduceIte, Nat.reduceEqDiff, Nat.reduceAdd, Nat.reduceMul, hw1, tx_size, eq_true n1]
            refine hΨ _ _ (fin_ret (rv1 rfl ⟨rfl, ?_⟩))
            rw [none (fun e => by have := congrArg List.length e; simp at this; omega)]; rfl
          have hp1 : p + 1 < s.length := by omega
          have hcp1 : s[p + 1]? = some s[p + 1] := List.getElem?_eq_getElem hp1
          have gp1 : (0 : Int) ≤ ((p + 1 : Nat) : Int) := by omega
          have hd0 : s.drop p = s[p] :: s[p + 1] :: s.drop (p + 2) := by rw [List.drop_eq_getElem_cons hp, List.drop_eq_getElem_cons hp1]
          by_cases n2 : (s[p].toNat : Int) = 123
          case neg =>
            simp only [mach, mach2, mstd, ↓reduceIte, Nat.reduceEqDiff, Nat.reduceAdd, Nat.reduceMul, hw1, tx_size, n1, tx_get, hcp, gp, Int.toNat_natCast, n2]
            refine hΨ _ _ (fin_ret (rv1 rfl ⟨rfl, ?_⟩))
            rw [none (fun e => n2 (by rw [(take2 hd0 e).1]; rfl))]; rfl
          by_cases n3 : (s[p + 1].toNat : Int) = 45
          case neg =>
            simp only [mach, mach2, mstd, ↓reduceIte, Nat.reduceEqDiff, Nat.reduceAdd, Nat.reduceMul, hw1, tx_size, n1, tx_get, hcp, hcp1, gp, gp1, Int.toNat_natCast, eq_true n2, n3]
            refine hΨ _ _ (fin_ret (rv1 rfl ⟨rfl, ?_⟩))
            rw [none (fun e => n3 (by rw [(take2 hd0 e).2]; rfl))]; rfl
          have e123 : s[p] = 123 := UInt8.toNat_inj.1 (by show s[p].toNat = 123; omega)
          have e45 : s[p + 1] = 45 := UInt8.toNat_inj.1 (by show s[p + 1].toNat = 45; omega)
          simp only [mach, mach2, mstd, ↓reduceIte, Nat.reduceEqDiff, Nat.reduceAdd, Nat.reduceMul, hw1, hw2, tx_size, n1, tx_get, hcp, hcp1, gp, gp1, Int.toNat_natCast, eq_true n2, eq_true n3]
          refine XLo_rule (α := Nat × Nat) (fun a => [(0, tv s), (1, iv p), (5, iv a.1), (6, iv a.2)]) (fun a h' => h' = h1 ∧ p + 2 ≤ a.1 ∧ a.1 ≤ s.length ∧ a.2 ≤ a.1 ∧ nestN (s.drop p) = (nw a.2 (s.drop a.1)).map (· + (a.1 - p))) (fun a => s.length - a.1) (p + 2, 1)
            ⟨rfl, Nat.le_refl _, by simp only; omega, by simp only; omega, by
              rw [hd0, e123, e45]
              simp only [nestN, nw, Nat.one_ne_zero, if_false]
              congr 1; funext m; omega⟩ ⟨rfl, rfl, rfl, rfl, trivial⟩ ?_
          rintro ⟨j, d⟩ h2 Ψ3 ⟨rfl, hpj, hj, hdj, hn⟩ next2 out2
          simp only at hpj hj hdj hn
          by_cases f1 : (0 : Int) < (d : Int)
          case neg =>
            have hd0' : d = 0 := by omega
            subst hd0'
            simp only [mach, mach2, mstd, ↓reduceIte, Nat.reduceEqDiff, Nat.reduceAdd, Nat.reduceMul, f1]
            refine out2 (.exit 4) _ _ _ _ (by intro e; cases e) ?_
            simp only [mach, mach2, mstd, ↓reduceIte, Nat.reduceEqDiff, Nat.reduceAdd, Nat.reduceMul]
            refine hΨ _ _ (fin_ret (rv1 rfl ⟨rfl, ?_⟩))
            rw [hcm, hn]
            have : cmV p ((nw 0 (s.drop j)).map (· + (j - p))) = (j : Int) := by simp only [nw, if_true, Option.map_some, cmV]; omega
            rw [this]; rfl
          have hnw : nw d (s.drop j) = nst d (s.drop j) := by rw [nw, if_neg (by omega)]
          rw [hnw] at hn
          have hwj : IntKind.i64.wrap ((j : Int) + 1) = ((j + 1 : Nat) : Int) := by rw [i64w (by omega) (by omega)]; omega
          by_cases f2 : (s.length : Int) ≤ ((j + 1 : Nat) : Int)
          · simp only [mach, mach2, mstd, ↓reduceIte, Nat.reduceEqDiff, Nat.reduceAdd, Nat.reduceMul, f1, hwj, tx_size, eq_true f2]
            refine out2 .ret _ _ _ _ (by intro e; cases e) ?_
            simp only [mach, mach2, mstd, ↓reduceIte, Nat.reduceEqDiff, Nat.reduceAdd, Nat.reduceMul]
            refine hΨ _ _ (fin_ret (rv1 rfl ⟨rfl, ?_⟩))
            have hz : nst d (s.drop j) = Option.none := by
              have hq : (s.drop j).length ≤ 1 := by simp; omega
              cases hqq : s.drop j with
              | nil => rw [nst]
              | cons a q =>
                cases q with
                | nil => rw [nst_step (by simp) (by simp), nst]; rfl
                | cons b q => rw [hqq] at hq; simp at hq
            rw [hcm, hn, hz]; rfl
          have hj0 : j < s.length := by omega
          have hj1 : j + 1 < s.length := by omega
          have hcj : s[j]? = some s[j] := List.getElem?_eq_getElem hj0
          have hcj1 : s[j + 1]? = some s[j + 1] := List.getElem?_eq_getElem hj1
          have gj : (0 : Int) ≤ (j : Int) := by omega
          have gj1 : (0 : Int) ≤ ((j + 1 : Nat) : Int) := by omega
          have hdj2 : s.drop j = s[j] :: s[j + 1] :: s.drop (j + 2) := by rw [List.drop_eq_getElem_cons hj0, List.drop_eq_getElem_cons hj1]
          have hwj2 : IntKind.i64.wrap ((j : Int) + 2) = ((j + 2 : Nat) : Int) := by rw [i64w (by omega) (by omega)]; omega
          have hwd : IntKind.i64.wrap ((d : Int) + 1) = ((d + 1 : Nat) : Int) := by rw [i64w (by omega) (by omega)]; omega
          have hwd2 : IntKind.i64.wrap ((d : Int) - 1) = ((d - 1 : Nat) : Int) := by rw [i64w (by omega) (by omega)]; omega
          have step : (s.drop j).take 2 ≠ [123, 45] → (s.drop j).take 2 ≠ [45, 125] → nestN (s.drop p) = (nw d (s.drop (j + 1))).map (· + (j + 1 - p)) := fun e1 e2 => by
            have e3 : s.drop (j + 1) = s[j + 1] :: s.drop (j + 2) := List.drop_eq_getElem_cons hj1
            rw [hn, hdj2, nst_step (by rw [← hdj2]; exact e1) (by rw [← hdj2]; exact e2), nw, if_neg (by omega), e3]
            simp only [Option.map_map]
            congr 1; funext m; simp only [Function.comp]; omega
          by_cases f3 : (s[j].toNat : Int) = 123
          · by_cases f4 : (s[j + 1].toNat : Int) = 45
            · have q1 : s[j] = 123 := UInt8.toNat_inj.1 (by show s[j].toNat = 123; omega)
              have q2 : s[j + 1] = 45 := UInt8.toNat_inj.1 (by show s[j + 1].toNat = 45; omega)
              simp only [mach, mach2, mstd, ↓reduceIte, Nat.reduceEqDiff, Nat.reduceAdd, Nat.reduceMul, f1, hwj, tx_size, f2, tx_get, hcj, hcj1, gj, gj1, Int.toNat_natCast, eq_true f3, eq_true f4, hwd, hwj2]
              refine next2 (j + 2, d + 1) _ _ _ ⟨rfl, by simp only; omega, by simp only; omega, by simp only; omega, ?_⟩ ⟨rfl, rfl, rfl, rfl, trivial⟩ (by simp only; omega)
              rw [hn, hdj2, q1, q2]
              simp only [nst, nw, Nat.add_eq_zero_iff, Nat.one_ne_zero, and_false, if_false, Option.map_map]
              congr 1; funext m; simp only [Function.comp]; omega
            · have q3 : ¬ (s[j].toNat : Int) = 45 := by omega
              simp only [mach, mach2, mstd, ↓reduceIte, Nat.reduceEqDiff, Nat.reduceAdd, Nat.reduceMul, f1, hwj, tx_size, f2, tx_get, hcj, hcj1, gj, gj1, Int.toNat_natCast, eq_true f3, f4, q3]
              refine next2 (j + 1, d) _ _ _ ⟨rfl, by simp only; omega, by simp only; omega, by simp only; omega, step (fun e => f4 (by rw [(take2 hdj2 e).2]; rfl)) (fun e => q3 (by rw [(take2 hdj2 e).1]; rfl))⟩ ⟨rfl, rfl, rfl, rfl, trivial⟩ (by simp only; omega)
          · by_cases f5 : (s[j].toNat : Int) = 45
            · by_cases f6 : (s[j + 1].toNat : Int) = 125
              · have q1 : s[j] = 45 := UInt8.toNat_inj.1 (by show s[j].toNat = 45; omega)
                have q2 : s[j + 1] = 125 := UInt8.toNat_inj.1 (by show s[j + 1].toNat = 125; omega)
                simp only [mach, mach2, mstd, ↓reduceIte, Nat.reduceEqDiff, Nat.reduceAdd, Nat.reduceMul, f1, hwj, tx_size, f2, tx_get, hcj, hcj1, gj, gj1, Int.toNat_natCast, f3, eq_true f5, eq_true f6, hwd2, hwj2]
                refine next2 (j + 2, d - 1) _ _ _ ⟨rfl, by simp only; omega, by simp only; omega, by simp only; omega, ?_⟩ ⟨rfl, rfl, rfl, rfl, trivial⟩ (by simp only; omega)
                rw [hn, hdj2, q1, q2]
                simp only [nst, nw]
                by_cases hd1 : d ≤ 1
                · rw [if_pos hd1, if_pos (by omega)]; simp only [Option.map_some]; congr 1; omega
                · rw [if_neg hd1, if_neg (by omega)]
                  simp only [Option.map_map]
                  congr 1; funext m; simp only [Function.comp]; omega
              · simp only [mach, mach2, mstd, ↓reduceIte, Nat.reduceEqDiff, Nat.reduceAdd, Nat.reduceMul, f1, hwj, tx_size, f2, tx_get, hcj, hcj1, gj, gj1, Int.toNat_natCast, f3, eq_true f5, f6]
                refine next2 (j + 1, d) _ _ _ ⟨rfl, by simp only; omega, by simp only; omega, by simp only; omega, step (fun e => f3 (by rw [(take2 hdj2 e).1]; rfl)) (fun e => f6 (by rw [(take2 hdj2 e).2]; rfl))⟩ ⟨rfl, rfl, rfl, rfl, trivial⟩ (by simp only; omega)
            · simp only [mach, mach2, mstd, ↓reduceIte, Nat.reduceEqDiff, Nat.reduceAdd, Nat.reduceMul, f1, hwj, tx_size, f2, tx_get, hcj, hcj1, gj, gj1, Int.toNat_natCast, f3, f5]
              refine next2 (j + 1, d) _ _ _ ⟨rfl, by simp only; omega, by simp only; omega, by simp only; omega, step (fun e => f3 (by rw [(take2 hdj2 e).1]; rfl)) (fun e => f5 (by rw [(take2 hdj2 e).1]; rfl))⟩ ⟨rfl, rfl, rfl, rfl, trivial⟩ (by simp only; omega)
        | false =>
          simp only [mach, mach2, mstd, ↓reduceIte, Nat.reduceEqDiff, Nat.reduceAdd, Nat.reduceMul]
          refine XLo_rule (α := Nat) (fun j => [(0, tv s), (1, iv p), (5, iv j)]) (fun j h' => h' = h1 ∧ p ≤ j ∧ j ≤ s.length ∧ spn noEnd (s.drop p) = (j - p) + spn noEnd (s.drop j)) (fun j => s.length - j) i
            ⟨rfl, hpi, hi, by
              have := spn_add (f := noEnd) (i - p) (s.drop p) (fun j d hj hjd => by
                obtain ⟨d', e1, e2⟩ := spn_at (p := dash) (l := s.drop p) (i := j) (by omega)
                rw [e1] at hjd; cases hjd
                simp [dash] at e2; simp [noEnd]; omega) (by omega)
              rw [this, List.drop_drop, show p + (i - p) = i by omega]⟩ ⟨rfl, rfl, rfl, trivial⟩ ?_
          rintro j h2 Ψ3 ⟨rfl, hpj, hj, hsn⟩ next2 out2
          have hlN : lineN (s.drop p) = spn noEnd (s.drop p) := lin (by omega) (fun c e => by
            first
              | (rw [hc] at e; cases e; exact hsy)
              | (rw [List.getElem?_eq_none (by omega)] at e; cases e))
          have hge : i - p ≤ spn noEnd (s.drop p) := by
            have := spn_add (f := noEnd) (i - p) (s.drop p) (fun j d hj hjd => by
                obtain ⟨d', e1, e2⟩ := spn_at (p := dash) (l := s.drop p) (i := j) (by omega)
                rw [e1] at hjd; cases hjd
                simp [dash] at e2; simp [noEnd]; omega) (by omega)
            omega
          have done : spn noEnd (s.drop j) = 0 → cmV p (cmN (s.drop p)) = (j : Int) := fun e => by
            rw [cmN, if_pos (by omega), hlN, cmV]; omega
          by_cases d1 : (j : Int) < (s.length : Int)
          · have hjl : j < s.length := by omega
            have hcj : s[j]? = some s[j] := List.getElem?_eq_getElem hjl
            have gj : (0 : Int) ≤ (j : Int) := by omega
            have hdj := List.drop_eq_getElem_cons hjl
            by_cases d2 : (s[j].toNat : Int) = 10
            · simp only [mach, mach2, mstd, ↓reduceIte, Nat.reduceEqDiff, Nat.reduceAdd, Nat.reduceMul, eq_true d1, tx_size, tx_get, hcj, gj, Int.toNat_natCast, eq_true d2]
              refine out2 (.exit 2) _ _ _ _ (by intro e; cases e) ?_
              simp only [mach, mach2, mstd, ↓reduceIte, Nat.reduceEqDiff, Nat.reduceAdd, Nat.reduceMul]
              refine hΨ _ _ (fin_ret (rv1 rfl ⟨rfl, ?_⟩))
              rw [done (by rw [hdj, spn_cons, if_neg (by simp [noEnd]; omega)])]; rfl
            · have hwj : IntKind.i64.wrap ((j : Int) + 1) = ((j + 1 : Nat) : Int) := by rw [i64w (by omega) (by omega)]; omega
              simp only [mach, mach2, mstd, ↓reduceIte, Nat.reduceEqDiff, Nat.reduceAdd, Nat.reduceMul, eq_true d1, tx_size, tx_get, hcj, gj, Int.toNat_natCast, d2, hwj]
              refine next2 (j + 1) _ _ _ ⟨rfl, by omega, by omega, ?_⟩ ⟨rfl, rfl, rfl, trivial⟩ (by omega)
              rw [hsn, hdj, spn_cons, if_pos (by simp [noEnd]; omega)]; omega
          · simp only [mach, mach2, mstd, ↓reduceIte, Nat.reduceEqDiff, Nat.reduceAdd, Nat.reduceMul, d1, tx_size]
            refine out2 (.exit 2) _ _ _ _ (by intro e; cases e) ?_
            simp only [mach, mach2, mstd, ↓reduceIte, Nat.reduceEqDiff, Nat.reduceAdd, Nat.reduceMul]
            refine hΨ _ _ (fin_ret (rv1 rfl ⟨rfl, ?_⟩))
            rw [done (by rw [List.drop_eq_nil_of_le (by omega)]; rfl)]; rfl
    · have hl0 := nolin (by rintro ⟨e, _⟩; omega)
      simp only [mach, mach2, mstd, ↓reduceIte, Nat.reduceEqDiff, Nat.reduceAdd, Nat.reduceMul, hw2, c1]
      have hcm : cmN (s.drop p) = nestN (s.drop p) := by rw [cmN, if_neg (by omega)]
      have hcp : s[p]? = some s[p] := List.getElem?_eq_getElem hp
      have gp : (0 : Int) ≤ (p : Int) := by omega
      have none : (s.drop p).take 2 ≠ [123, 45] → cmV p (cmN (s.drop p)) = (p : Int) := fun e => by rw [hcm, nestN_no e]; simp [cmV]
      by_cases n1 : (s.length : Int) ≤ ((p + 1 : Nat) : Int)
      · simp only [mach, mach2, mstd, ↓reduceIte, Nat.reduceEqDiff, Nat.reduceAdd, Nat.reduceMul, hw1, tx_size, eq_true n1]
        refine hΨ _ _ (fin_ret (rv1 rfl ⟨rfl, ?_⟩))
        rw [none (fun e => by have := congrArg List.length e; simp at this; omega)]; rfl
      have hp1 : p + 1 < s.length := by omega
      have hcp1 : s[p + 1]? = some s[p + 1] := List.getElem?_eq_getElem hp1
      have gp1 : (0 : Int) ≤ ((p + 1 : Nat) : Int) := by omega
      have hd0 : s.drop p = s[p] :: s[p + 1] :: s.drop (p + 2) := by rw [List.drop_eq_getElem_cons hp, List.drop_eq_getElem_cons hp1]
      by_cases n2 : (s[p].toNat : Int) = 123
      case neg =>
        simp only [mach, mach2, mstd, ↓reduceIte, Nat.reduceEqDiff, Nat.reduceAdd, Nat.reduceMul, hw1, tx_size, n1, tx_get, hcp, gp, Int.toNat_natCast, n2]
        refine hΨ _ _ (fin_ret (rv1 rfl ⟨rfl, ?_⟩))
        rw [none (fun e => n2 (by rw [(take2 hd0 e).1]; rfl))]; rfl
      by_cases n3 : (s[p + 1].toNat : Int) = 45
      case neg =>
        simp only [mach, mach2, mstd, ↓reduceIte, Nat.reduceEqDiff, Nat.reduceAdd, Nat.reduceMul, hw1, tx_size, n1, tx_get, hcp, hcp1, gp, gp1, Int.toNat_natCast, eq_true n2, n3]
        refine hΨ _ _ (fin_ret (rv1 rfl ⟨rfl, ?_⟩))
        rw [none (fun e => n3 (by rw [(take2 hd0 e).2]; rfl))]; rfl
      have e123 : s[p] = 123 := UInt8.toNat_inj.1 (by show s[p].toNat = 123; omega)
      have e45 : s[p + 1] = 45 := UInt8.toNat_inj.1 (by show s[p + 1].toNat = 45; omega)
      simp only [mach, mach2, mstd, ↓reduceIte, Nat.reduceEqDiff, Nat.reduceAdd, Nat.reduceMul, hw1, hw2, tx_size, n1, tx_get, hcp, hcp1, gp, gp1, Int.toNat_natCast, eq_true n2, eq_true n3]
      refine XLo_rule (α := Nat × Nat) (fun a => [(0, tv s), (1, iv p), (5, iv a.1), (6, iv a.2)]) (fun a h' => h' = h1 ∧ p + 2 ≤ a.1 ∧ a.1 ≤ s.length ∧ a.2 ≤ a.1 ∧ nestN (s.drop p) = (nw a.2 (s.drop a.1)).map (· + (a.1 - p))) (fun a => s.length - a.1) (p + 2, 1)
        ⟨rfl, Nat.le_refl _, by simp only; omega, by simp only; omega, by
          rw [hd0, e123, e45]
          simp only [nestN, nw, Nat.one_ne_zero, if_false]
          congr 1; funext m; omega⟩ ⟨rfl, rfl, rfl, rfl, trivial⟩ ?_
      rintro ⟨j, d⟩ h2 Ψ3 ⟨rfl, hpj, hj, hdj, hn⟩ next2 out2
      simp only at hpj hj hdj hn
      by_cases f1 : (0 : Int) < (d : Int)
      case neg =>
        have hd0' : d = 0 := by omega
        subst hd0'
        simp only [mach, mach2, mstd, ↓reduceIte, Nat.reduceEqDiff, Nat.reduceAdd, Nat.reduceMul, f1]
        refine out2 (.exit 4) _ _ _ _ (by intro e; cases e) ?_
        simp only [mach, mach2, mstd, ↓reduceIte, Nat.reduceEqDiff, Nat.reduceAdd, Nat.reduceMul]
        refine hΨ _ _ (fin_ret (rv1 rfl ⟨rfl, ?_⟩))
        rw [hcm, hn]
        have : cmV p ((nw 0 (s.drop j)).map (· + (j - p))) = (j : Int) := by simp only [nw, if_true, Option.map_some, cmV]; omega
        rw [this]; rfl
      have hnw : nw d (s.drop j) = nst d (s.drop j) := by rw [nw, if_neg (by omega)]
      rw [hnw] at hn
      have hwj : IntKind.i64.wrap ((j : Int) + 1) = ((j + 1 : Nat) : Int) := by rw [i64w (by omega) (by omega)]; omega
      by_cases f2 : (s.length : Int) ≤ ((j + 1 : Nat) : Int)
      · simp only [mach, mach2, mstd, ↓reduceIte, Nat.reduceEqDiff, Nat.reduceAdd, Nat.reduceMul, f1, hwj, tx_size, eq_true f2]
        refine out2 .ret _ _ _ _ (by intro e; cases e) ?_
        simp only [mach, mach2, mstd, ↓reduceIte, Nat.reduceEqDiff, Nat.reduceAdd, Nat.reduceMul]
        refine hΨ _ _ (fin_ret (rv1 rfl ⟨rfl, ?_⟩))
        have hz : nst d (s.drop j) = Option.none := by
          have hq : (s.drop j).length ≤ 1 := by simp; omega
          cases hqq : s.drop j with
          | nil => rw [nst]
          | cons a q =>
            cases q with
            | nil => rw [nst_step (by simp) (by simp), nst]; rfl
            | cons b q => rw [hqq] at hq; simp at hq
        rw [hcm, hn, hz]; rfl
      have hj0 : j < s.length := by omega
      have hj1 : j + 1 < s.length := by omega
      have hcj : s[j]? = some s[j] := List.getElem?_eq_getElem hj0
      have hcj1 : s[j + 1]? = some s[j + 1] := List.getElem?_eq_getElem hj1
      have gj : (0 : Int) ≤ (j : Int) := by omega
      have gj1 : (0 : Int) ≤ ((j + 1 : Nat) : Int) := by omega
      have hdj2 : s.drop j = s[j] :: s[j + 1] :: s.drop (j + 2) := by rw [List.drop_eq_getElem_cons hj0, List.drop_eq_getElem_cons hj1]
      have hwj2 : IntKind.i64.wrap ((j : Int) + 2) = ((j + 2 : Nat) : Int) := by rw [i64w (by omega) (by omega)]; omega
      have hwd : IntKind.i64.wrap ((d : Int) + 1) = ((d + 1 : Nat) : Int) := by rw [i64w (by omega) (by omega)]; omega
      have hwd2 : IntKind.i64.wrap ((d : Int) - 1) = ((d - 1 : Nat) : Int) := by rw [i64w (by omega) (by omega)]; omega
      have step : (s.drop j).take 2 ≠ [123, 45] → (s.drop j).take 2 ≠ [45, 125] → nestN (s.drop p) = (nw d (s.drop (j + 1))).map (· + (j + 1 - p)) := fun e1 e2 => by
        have e3 : s.drop (j + 1) = s[j + 1] :: s.drop (j + 2) := List.drop_eq_getElem_cons hj1
        rw [hn, hdj2, nst_step (by rw [← hdj2]; exact e1) (by rw [← hdj2]; exact e2), nw, if_neg (by omega), e3]
        simp only [Option.map_map]
        congr 1; funext m; simp only [Function.comp]; omega
      by_cases f3 : (s[j].toNat : Int) = 123
      · by_cases f4 : (s[j + 1].toNat : Int) = 45
        · have q1 : s[j] = 123 := UInt8.toNat_inj.1 (by show s[j].toNat = 123; omega)
          have q2 : s[j + 1] = 45 := UInt8.toNat_inj.1 (by show s[j + 1].toNat = 45; omega)
          simp only [mach, mach2, mstd, ↓reduceIte, Nat.reduceEqDiff, Nat.reduceAdd, Nat.reduceMul, f1, hwj, tx_size, f2, tx_get, hcj, hcj1, gj, gj1, Int.toNat_natCast, eq_true f3, eq_true f4, hwd, hwj2]
          refine next2 (j + 2, d + 1) _ _ _ ⟨rfl, by simp only; omega, by simp only; omega, by simp only; omega, ?_⟩ ⟨rfl, rfl, rfl, rfl, trivial⟩ (by simp only; omega)
          rw [hn, hdj2, q1, q2]
          simp only [nst, nw, Nat.add_eq_zero_iff, Nat.one_ne_zero, and_false, if_false, Option.map_map]
          congr 1; funext m; simp only [Function.comp]; omega
        · have q3 : ¬ (s[j].toNat : Int) = 45 := by omega
          simp only [mach, mach2, mstd, ↓reduceIte, Nat.reduceEqDiff, Nat.reduceAdd, Nat.reduceMul, f1, hwj, tx_size, f2, tx_get, hcj, hcj1, gj, gj1, Int.toNat_natCast, eq_true f3, f4, q3]
          refine next2 (j + 1, d) _ _ _ ⟨rfl, by simp only; omega, by simp only; omega, by simp only; omega, step (fun e => f4 (by rw [(take2 hdj2 e).2]; rfl)) (fun e => q3 (by rw [(take2 hdj2 e).1]; rfl))⟩ ⟨rfl, rfl, rfl, rfl, trivial⟩ (by simp only; omega)
      · by_cases f5 : (s[j].toNat : Int) = 45
        · by_cases f6 : (s[j + 1].toNat : Int) = 125
          · have q1 : s[j] = 45 := UInt8.toNat_inj.1 (by show s[j].toNat = 45; omega)
            have q2 : s[j + 1] = 125 := UInt8.toNat_inj.1 (by show s[j + 1].toNat = 125; omega)
            simp only [mach, mach2, mstd, ↓reduceIte, Nat.reduceEqDiff, Nat.reduceAdd, Nat.reduceMul, f1, hwj, tx_size, f2, tx_get, hcj, hcj1, gj, gj1, Int.toNat_natCast, f3, eq_true f5, eq_true f6, hwd2, hwj2]
            refine next2 (j + 2, d - 1) _ _ _ ⟨rfl, by simp only; omega, by simp only; omega, by simp only; omega, ?_⟩ ⟨rfl, rfl, rfl, rfl, trivial⟩ (by simp only; omega)
            rw [hn, hdj2, q1, q2]
            simp only [nst, nw]
            by_cases hd1 : d ≤ 1
            · rw [if_pos hd1, if_pos (by omega)]; simp only [Option.map_some]; congr 1; omega
            · rw [if_neg hd1, if_neg (by omega)]
              simp only [Option.map_map]
              congr 1; funext m; simp only [Function.comp]; omega
          · simp only [mach, mach2, mstd, ↓reduceIte, Nat.reduceEqDiff, Nat.reduceAdd, Nat.reduceMul, f1, hwj, tx_size, f2, tx_get, hcj, hcj1, gj, gj1, Int.toNat_natCast, f3, eq_true f5, f6]
            refine next2 (j + 1, d) _ _ _ ⟨rfl, by simp only; omega, by simp only; omega, by simp only; omega, step (fun e => f3 (by rw [(take2 hdj2 e).1]; rfl)) (fun e => f6 (by rw [(take2 hdj2 e).2]; rfl))⟩ ⟨rfl, rfl, rfl, rfl, trivial⟩ (by simp only; omega)
        · simp only [mach, mach2, mstd, ↓reduceIte, Nat.reduceEqDiff, Nat.reduceAdd, Nat.reduceMul, f1, hwj, tx_size, f2, tx_get, hcj, hcj1, gj, gj1, Int.toNat_natCast, f3, f5]
          refine next2 (j + 1, d) _ _ _ ⟨rfl, by simp only; omega, by simp only; omega, by simp only; omega, step (fun e => f3 (by rw [(take2 hdj2 e).1]; rfl)) (fun e => f5 (by rw [(take2 hdj2 e).1]; rfl))⟩ ⟨rfl, rfl, rfl, rfl, trivial⟩ (by simp only; omega)
end Go.S07
