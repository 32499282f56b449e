import Derived.Test.YtjacebjfidhcoaaPk21
import Derived.Test.YtjacebjfidhcoaaPk13
/- Heap: WordsApart. -/
set_option linter.unusedVariables false
set_option linter.unusedSimpArgs false
namespace Go.S18
open Go Go.Eng Go.Proofs Go.Chk

/-- A list that is given: its block, its group, how many words. -/
structure Fl where
  b : Nat
  g : Nat
  n : Nat
def Fl.v (f : Fl) : Value := .slice (some ⟨f.b, 0, none⟩) f.n f.n
def offs (fs : List Fl) (t : Nat) : Nat := ((fs.take t).map Fl.n).sum
theorem offs_succ {fs : List Fl} {t : Nat} {f : Fl} (h : fs[t]? = some f) : offs fs (t + 1) = offs fs t + f.n := by
  unfold offs; rw [List.take_add_one, h]; simp
/-- What is written over a list; what it grows by. -/
def og (fs : List Fl) (t n : Nat) : List (Int × Int) := (List.range n).map fun j => (99, ((offs fs t + j : Nat) : Int))
def nw (fs : List Fl) (t m : Nat) : List (Int × Int) := (List.range m).map fun s => (98, ((offs fs fs.length + 12 * t + s : Nat) : Int))
theorem og_len (fs : List Fl) (t n : Nat) : (og fs t n).length = n := by simp [og]
theorem nw_len (fs : List Fl) (t n : Nat) : (nw fs t n).length = n := by simp [nw]
theorem og_succ (fs : List Fl) (t n : Nat) : og fs t (n + 1) = og fs t n ++ [(99, ((offs fs t + n : Nat) : Int))] := by simp [og, List.range_succ]
theorem nw_succ (fs : List Fl) (t n : Nat) : nw fs t (n + 1) = nw fs t n ++ [(98, ((offs fs fs.length + 12 * t + n : Nat) : Int))] := by simp [nw, List.range_succ]

def sb (g : Nat) (cs : List Value) : Blk := .cells true true g 0 36 cs
def nb (g : Nat) (cs : List Value) : Blk := .cells true false g 0 36 cs

theorem cells_of {h : AH} {b : Nat} {s : Bool} {g : Nat} {cs : List Value} (hb : h[b]? = some (.cells true s g 0 36 cs)) : Cells h b cs := by simp [Cells, hcell, hb]

section
variable {P : Program} {keep : Bool} {nm : List Nat} {Φ : Out → PS → Prop} {c : Cn} {k : List Fm} {e l : PE} {h : AH} {ds : List Dfr} {d : D}
/-- A store into a block that is known. -/
theorem XH_at {b o g : Nat} {cs : List Value} {x y : Int} (hb : h[b]? = some (sb g cs)) (hl : o + 2 ≤ cs.length) (hk : XV P keep nm Φ undef d c k e l (h.set b (sb g (cs.take o ++ [iv x, iv y] ++ cs.drop (o + 2)))) ds) :
    XH P keep nm Φ (stv h 2 (.pointer (some ⟨b, o, none⟩)) (.agg #[iv x, iv y])) d c k e l ds := by
  have hs : stv h 2 (.pointer (some ⟨b, o, none⟩)) (.agg #[iv x, iv y]) = some (h.set b (sb g (cs.take o ++ [iv x, iv y] ++ cs.drop (o + 2)))) := by
    have e1 : (Value.agg #[iv x, iv y]).cells.toList = [iv x, iv y] := rfl
    have e2 : (Value.agg #[iv x, iv y]).cells.size = 2 := rfl
    simp only [stv, e1, e2, if_true, hstore, hb, sb]
    rw [if_pos (by simp [Value.oneCell']; omega)]
    rfl
  rw [hs]
  exact hk
end

/-- One more element behind a row; the row itself stands. -/
theorem grow {h : AH} {c g n e sz bytes : Nat} {s : Bool} {cs xs : List Value} (hc : h[c]? = some (.cells true s g 0 e cs)) (hl : cs.length = n * sz) (hx : xs.length = sz) (h1 : xs.all Value.oneCell' = true) (hb : n ≤ 100000) (hby : bytes ≤ 1000) :
    ∃ hR, appv true (h ++ [row e h.length xs]) false e sz bytes (.slice (some ⟨c, 0, none⟩) n n) (.slice (some ⟨h.length, 0, none⟩) 1 1) = some (.slice (some ⟨h.length + 1, 0, none⟩) (n + 1) (n + 1), hR) ∧
      hR.length = h.length + 2 ∧ hR[h.length + 1]? = some (.cells true false g 0 e (cs ++ xs)) ∧ hR[c]? = some (.cells true false g 0 e cs) ∧ ∀ q B, q ≠ c → h[q]? = some B → hcut g (n * sz) B = B → hR[q]? = some B := by
  have hlt : c < h.length := (List.getElem?_eq_some_iff.1 hc).1
  have hcell1 : hcell (h ++ [row e h.length xs]) h.length = some xs := by simp [hcell, row]
  have hsrc : srcv (h ++ [row e h.length xs]) sz false (.slice (some ⟨h.length, 0, none⟩) 1 1) = some (1, xs) := by
    simp only [srcv, Bool.false_eq_true, if_false, hcell1, Option.bind_some]
    rw [if_neg (by omega), if_pos (by rw [List.drop_zero, List.take_of_length_le (by omega), h1]; simp; omega), List.drop_zero, List.take_of_length_le (by omega)]
  have hc1 : (h ++ [row e h.length xs])[c]? = some (.cells true s g 0 e cs) := by rw [List.getElem?_append_left hlt]; exact hc
  have htake : cs.take (n * sz) = cs := List.take_of_length_le (by omega)
  have hbb : (n + 1) * bytes ≤ 140737488355328 := by
    have : (n + 1) * bytes ≤ 100001 * 1000 := Nat.mul_le_mul (by omega) hby
    omega
  refine ⟨hprep true (h ++ [row e h.length xs]) c s g 0 e cs (n * sz) ++ [.cells true false g 0 e (cs ++ xs)], ?_, ?_, ?_, ?_, ?_⟩
  · simp only [appv, hsrc, Option.bind_some, hc1]
    rw [if_neg (by omega), if_pos (by simp [hl]), if_neg (by omega), if_pos (by simp; omega)]
    cases s <;> simp [htake, hprep_len]
  · simp [hprep_len]
  · rw [List.getElem?_append_right (by simp [hprep_len])]
    simp [hprep_len]
  · rw [List.getElem?_append_left (by simp [hprep_len]; omega)]
    simp only [hprep, if_true, htake]
    rw [List.getElem?_set_self (by cases s <;> simp <;> omega)]
  · intro q B hq hB hcutB
    have hql : q < h.length := (List.getElem?_eq_some_iff.1 hB).1
    rw [List.getElem?_append_left (by simp [hprep_len]; omega)]
    simp only [hprep, if_true, htake]
    rw [List.getElem?_set_ne (fun e => hq e.symm)]
    cases s with
    | true => simp only [if_true]; rw [List.getElem?_append_left hql]; exact hB
    | false =>
      simp only [Bool.false_eq_true, if_false]
      rw [List.getElem?_map, List.getElem?_append_left hql, hB, Option.map_some, Nat.zero_add, hcutB]
theorem grow0 {h : AH} {e sz bytes : Nat} {xs : List Value} (hx : xs.length = sz) (h1 : xs.all Value.oneCell' = true) (hby : bytes ≤ 1000) :
    appv true (h ++ [row e h.length xs]) false e sz bytes (.slice none 0 0) (.slice (some ⟨h.length, 0, none⟩) 1 1) = some (.slice (some ⟨h.length + 1, 0, none⟩) 1 1, h ++ [row e h.length xs] ++ [row e (h.length + 1) xs]) := by
  have hcell1 : hcell (h ++ [row e h.length xs]) h.length = some xs := by simp [hcell, row]
  have hsrc : srcv (h ++ [row e h.length xs]) sz false (.slice (some ⟨h.length, 0, none⟩) 1 1) = some (1, xs) := by
    simp only [srcv, Bool.false_eq_true, if_false, hcell1, Option.bind_some]
    rw [if_neg (by omega), if_pos (by rw [List.drop_zero, List.take_of_length_le (by omega), h1]; simp; omega), List.drop_zero, List.take_of_length_le (by omega)]
  simp only [appv, hsrc, Option.bind_some]
  rw [if_neg (by omega), if_pos (by simp; omega)]
  simp

theorem cut_s {g k g' e : Nat} {cs : List Value} : hcut g k (.cells true true g' 0 e cs) = .cells true true g' 0 e cs := rfl
theorem cut_n {g k g' e : Nat} {s : Bool} {cs : List Value} (h : g' ≠ g ∨ cs.length ≤ k) : hcut g k (.cells true s g' 0 e cs) = .cells true s g' 0 e cs := by
  cases s with
  | true => rfl
  | false =>
    unfold hcut
    simp only
    split
    · rename_i e
      rcases h with h | h
      · exact absurd e h
      · rw [Nat.sub_zero, List.take_of_length_le h]
    · rfl

/-- What WordsApart is asked of. -/
structure Apt (h : AH) (bu : Nat) (fs : List Fl) : Prop where
  hk : fs.length ≤ 100
  hn : ∀ (t : Nat) (f : Fl), fs[t]? = some f → 1 ≤ f.n ∧ f.n ≤ 100
  hb : ∀ (t : Nat) (f : Fl), fs[t]? = some f → ∃ cs, h[f.b]? = some (sb f.g cs) ∧ cs.length = f.n * 2
  hu : Cells h bu (fs.map Fl.v)
  hub : ∀ (t : Nat) (f : Fl), fs[t]? = some f → f.b ≠ bu
  db : ∀ (s t : Nat) (f f' : Fl), fs[s]? = some f → fs[t]? = some f' → s ≠ t → f.b ≠ f'.b ∧ f.g ≠ f'.g
  hg : ∀ (t : Nat) (f : Fl), fs[t]? = some f → f.g < h.length ∧ f.b < h.length
  ng : ∀ q B, (∀ (t : Nat) (f : Fl), fs[t]? = some f → q ≠ f.b) → h[q]? = some B → ∀ g k, hcut g k B = B

theorem offs_le {fs : List Fl} (hn : ∀ (t : Nat) (f : Fl), fs[t]? = some f → 1 ≤ f.n ∧ f.n ≤ 100) : ∀ (t : Nat), t ≤ fs.length → offs fs t ≤ 100 * t := by
  intro t
  induction t with
  | zero => intro _; simp [offs]
  | succ t ih =>
    intro ht
    have h1 : fs[t]? = some fs[t] := List.getElem?_eq_getElem (by omega)
    rw [offs_succ h1]
    have := (hn t _ h1).2
    have := ih (by omega)
    omega

/-- Lists that are written over, as far as they are. -/
structure PA (h h' : AH) (fs : List Fl) (i j : Nat) : Prop where
  len : h'.length = h.length
  row : ∀ (t : Nat) (f : Fl), fs[t]? = some f → ∃ cs, h'[f.b]? = some (sb f.g cs) ∧ cs.length = f.n * 2 ∧ (t < i → cs = ww (og fs t f.n)) ∧ (t = i → cs.take (j * 2) = ww (og fs t j))
  fr : ∀ q, (∀ (t : Nat) (f : Fl), fs[t]? = some f → q ≠ f.b) → h'[q]? = h[q]?
theorem og_zero (fs : List Fl) (t : Nat) : og fs t 0 = [] := rfl

/-- The row of the grown lists. -/
def V6 (h h' : AH) (v6 : Value) (gs : List Value) : Prop :=
  (gs = [] ∧ v6 = .slice none 0 0) ∨ (∃ c s g6, v6 = .slice (some ⟨c, 0, none⟩) gs.length gs.length ∧ h'[c]? = some (.cells true s g6 0 37 gs) ∧ h.length ≤ g6 ∧ h.length ≤ c)
/-- Lists that have grown, as far as they have: of the i-th the value x, by m words. -/
structure PB (h h' : AH) (fs : List Fl) (i m : Nat) (x : Value) (gs : List Value) (v6 : Value) : Prop where
  len : h'.length = h.length + 26 * i + 2 * m
  gl : gs.length = i
  don : ∀ (t : Nat) (f : Fl), fs[t]? = some f → t < i → h'[f.b]? = some (nb f.g (ww (og fs t f.n))) ∧ ∃ c, h.length ≤ c ∧ gs[t]? = some (.slice (some ⟨c, 0, none⟩) (f.n + 12) (f.n + 12)) ∧ h'[c]? = some (nb f.g (ww (og fs t f.n ++ nw fs t 12)))
  cur : ∀ (t : Nat) (f : Fl), fs[t]? = some f → t = i → ∃ c s, x = .slice (some ⟨c, 0, none⟩) (f.n + m) (f.n + m) ∧ h'[c]? = some (.cells true s f.g 0 36 (ww (og fs t f.n ++ nw fs t m))) ∧ (m = 0 → c = f.b ∧ s = true) ∧ (0 < m → s = false ∧ h.length ≤ c ∧ h'[f.b]? = some (nb f.g (ww (og fs t f.n))))
  yet : ∀ (t : Nat) (f : Fl), fs[t]? = some f → i < t → h'[f.b]? = some (sb f.g (ww (og fs t f.n)))
  r6 : V6 h h' v6 gs
  fr : ∀ q B, (∀ (t : Nat) (f : Fl), fs[t]? = some f → q ≠ f.b) → h[q]? = some B → h'[q]? = some B

/-- What one more word of a list leaves as it was. -/
theorem PB.step {h h' hR : AH} {bu : Nat} {fs : List Fl} {i m : Nat} {x : Value} {gs : List Value} {v6 : Value} (ap : Apt h bu fs) (p : PB h h' fs i m x gs v6) {f : Fl} (hf : fs[i]? = some f) (x1 : Int × Int) (hx1 : x1 = (98, ((offs fs fs.length + 12 * i + m : Nat) : Int))) {c : Nat} {s : Bool}
    (e : x = .slice (some ⟨c, 0, none⟩) (f.n + m) (f.n + m)) (hc : h'[c]? = some (.cells true s f.g 0 36 (ww (og fs i f.n ++ nw fs i m)))) (m0 : m = 0 → c = f.b ∧ s = true) (m1 : 0 < m → s = false ∧ h.length ≤ c ∧ h'[f.b]? = some (nb f.g (ww (og fs i f.n))))
    (lR : hR.length = h'.length + 2) (nR : hR[h'.length + 1]? = some (.cells true false f.g 0 36 (ww (og fs i f.n ++ nw fs i m) ++ [iv x1.1, iv x1.2]))) (cR : hR[c]? = some (.cells true false f.g 0 36 (ww (og fs i f.n ++ nw fs i m))))
    (oR : ∀ q B, q ≠ c → h'[q]? = some B → hcut f.g ((f.n + m) * 2) B = B → hR[q]? = some B) : PB h hR fs i (m + 1) (.slice (some ⟨h'.length + 1, 0, none⟩) (f.n + m + 1) (f.n + m + 1)) gs v6 := by
  have hlen := p.len
  have cne : ∀ (t : Nat) (f' : Fl), fs[t]? = some f' → t ≠ i → f'.b ≠ c := by
    intro t f' ht hti e2
    by_cases hm : m = 0
    · rw [(m0 hm).1] at e2; exact (ap.db t i f' f ht hf hti).1 e2
    · have := (m1 (by omega)).2.1
      have := (ap.hg t f' ht).2
      omega
  have gne : ∀ (t : Nat) (f' : Fl), fs[t]? = some f' → t ≠ i → f'.g ≠ f.g := fun t f' ht hti => (ap.db t i f' f ht hf hti).2
  refine ⟨by omega, p.gl, fun t f' ht hti => ?_, fun t f' ht hti => ?_, fun t f' ht hti => ?_, ?_, fun q B hq hB => ?_⟩
  · obtain ⟨d1, c', d2, d3, d4⟩ := p.don t f' ht hti
    refine ⟨oR _ _ (cne t f' ht (by omega)) d1 (cut_n (.inl (gne t f' ht (by omega)))), c', d2, d3, oR _ _ (fun e2 => ?_) d4 (cut_n (.inl (gne t f' ht (by omega))))⟩
    rw [e2, hc] at d4
    simp only [nb, Option.some.injEq, Blk.cells.injEq] at d4
    exact gne t f' ht (by omega) d4.2.2.1.symm
  · subst hti
    rw [hf] at ht; cases ht
    refine ⟨_, _, by rw [Nat.add_assoc], ?_, fun e => by omega, fun _ => ⟨rfl, by omega, ?_⟩⟩
    · rw [nR, nw_succ, ← List.append_assoc, ww_app _ [_], hx1]; rfl
    · by_cases hm : m = 0
      · have := (m0 hm).1
        subst hm
        rw [← this, cR]
        simp [nb, nw]
      · obtain ⟨a1, a2, a3⟩ := m1 (by omega)
        refine oR _ _ (fun e2 => by have := (ap.hg t f hf).2; omega) a3 (cut_n (.inr ?_))
        rw [ww_len, og_len]
        exact Nat.mul_le_mul_right 2 (by omega)
  · exact oR _ _ (cne t f' ht (by omega)) (p.yet t f' ht hti) rfl
  · rcases p.r6 with r | ⟨c6, s6, g6, r1, r2, r3, r4⟩
    · exact .inl r
    · refine .inr ⟨c6, s6, g6, r1, oR _ _ (fun e2 => ?_) r2 (cut_n (.inl (by have := (ap.hg i f hf).1; omega))), r3, r4⟩
      rw [e2, hc] at r2
      simp only [Option.some.injEq, Blk.cells.injEq] at r2
      exact absurd r2.2.2.2.2.1 (by decide)
  · have hcq : q ≠ c := by
      intro e2
      by_cases hm : m = 0
      · rw [(m0 hm).1] at e2; exact hq i f hf e2
      · have := (m1 (by omega)).2.1
        have := (List.getElem?_eq_some_iff.1 hB).1
        omega
    exact oR _ _ hcq (p.fr q B hq hB) (ap.ng q B hq hB _ _)

theorem cell2 {h : AH} {b : Nat} {A : List (Int × Int)} (hb : Cells h b (ww A)) {j : Nat} {x : Int × Int} (hx : A[j]? = some x) : ldcs h b (j * 2) 2 = some [iv x.1, iv x.2] := by
  have hj := (List.getElem?_eq_some_iff.1 hx).1
  have r : Rds h 2 (.slice (some ⟨b, 0, none⟩) A.length A.length) A.length (ww A) := .mk hb (by rw [ww_len]; omega) (by rw [List.drop_zero, List.take_of_length_le (by rw [ww_len]; omega)])
  obtain ⟨b', o, c, e, _, hl⟩ := rds_w r (i := (j : Int)) (by omega) (by omega)
  cases e
  rw [Int.toNat_natCast, Nat.zero_add] at hl
  rw [hl]
  have : wat A (j : Int) = x := by rw [wat, Int.toNat_natCast, hx]; rfl
  rw [this]
def xv (fs : List Fl) (i : Nat) : Value := ((fs[i]?).map Fl.v).getD (.slice none 0 0)
/-- What the row of the grown lists' growing leaves as it was. -/
theorem PB.next {h h' hR : AH} {bu : Nat} {fs : List Fl} {i : Nat} {x : Value} {gs : List Value} {v6 v6' : Value} (ap : Apt h bu fs) (p : PB h h' fs i 12 x gs v6) {f : Fl} (hf : fs[i]? = some f) (lR : hR.length = h'.length + 2) {c6 : Option Nat} (h6 : ∀ c, c6 = some c → ∃ s g cs, h'[c]? = some (.cells true s g 0 37 cs) ∧ h.length ≤ c) {g6 k : Nat} (hg6 : h.length ≤ g6)
    (oR : ∀ q B, c6 ≠ some q → h'[q]? = some B → hcut g6 k B = B → hR[q]? = some B) (r6 : V6 h hR v6' (gs ++ [x])) : PB h hR fs (i + 1) 0 (xv fs (i + 1)) (gs ++ [x]) v6' := by
  have ne6 : ∀ (q : Nat) (s : Bool) (g : Nat) (cs : List Value), h'[q]? = some (.cells true s g 0 36 cs) → c6 ≠ some q := by
    intro q s g cs hq e
    obtain ⟨s', g', cs', a, _⟩ := h6 q e
    rw [hq] at a
    simp only [Option.some.injEq, Blk.cells.injEq] at a
    exact absurd a.2.2.2.2.1 (by decide)
  have tr : ∀ (q : Nat) (s : Bool) (t : Nat) (f' : Fl) (cs : List Value), fs[t]? = some f' → h'[q]? = some (.cells true s f'.g 0 36 cs) → hR[q]? = some (.cells true s f'.g 0 36 cs) := by
    intro q s t f' cs ht hq
    exact oR _ _ (ne6 q s _ cs hq) hq (cut_n (.inl (by have := (ap.hg t f' ht).1; omega)))
  refine ⟨by have := p.len; omega, by simp [p.gl], fun t f' ht hti => ?_, fun t f' ht hti => ?_, fun t f' ht hti => ?_, r6, fun q B hq hB => ?_⟩
  · by_cases h2 : t < i
    · obtain ⟨d1, c', d2, d3, d4⟩ := p.don t f' ht h2
      refine ⟨tr _ _ t f' _ ht d1, c', d2, ?_, tr _ _ t f' _ ht d4⟩
      rw [List.getElem?_append_left (by rw [p.gl]; omega)]; exact d3
    · have : t = i := by omega
      subst this
      obtain ⟨c', s, d1, d2, d3, d4⟩ := p.cur t f' ht rfl
      obtain ⟨d5, d6, d7⟩ := d4 (by omega)
      subst d5
      refine ⟨tr _ _ t f' _ ht d7, c', d6, ?_, tr _ _ t f' _ ht d2⟩
      rw [List.getElem?_append_right (by rw [p.gl]; omega), p.gl, Nat.sub_self]
      simp [d1]
  · subst hti
    refine ⟨f'.b, true, ?_, tr _ _ _ f' _ ht ?_, fun _ => ⟨rfl, rfl⟩, fun e => by omega⟩
    · simp [xv, ht, Fl.v]
    · have := p.yet _ f' ht (by omega)
      simpa [nw, sb] using this
  · exact tr _ _ t f' _ ht (p.yet t f' ht (by omega))
  · refine oR q B (fun e => ?_) (p.fr q B hq hB) (ap.ng q B hq hB _ _)
    obtain ⟨_, _, _, _, a⟩ := h6 q e
    have := (List.getElem?_eq_some_iff.1 hB).1
    omega
theorem PB.push {h h' : AH} {bu : Nat} {fs : List Fl} {i : Nat} {x : Value} {gs : List Value} {v6 : Value} (ap : Apt h bu fs) (p : PB h h' fs i 12 x gs v6) {f : Fl} (hf : fs[i]? = some f) (hx : x.oneCell' = true) (hi : i ≤ 100) :
    ∃ v6' hR, appv true (h' ++ [row 37 h'.length [x]]) false 37 1 24 v6 (.slice (some ⟨h'.length, 0, none⟩) 1 1) = some (v6', hR) ∧ PB h hR fs (i + 1) 0 (xv fs (i + 1)) (gs ++ [x]) v6' := by
  have hlen := p.len
  rcases p.r6 with ⟨r1, r2⟩ | ⟨c6, s6, g6, r1, r2, r3, r4⟩
  · subst r1; subst r2
    refine ⟨_, _, grow0 rfl (by simp [hx]) (by omega), p.next ap hf (by simp) (c6 := none) (fun c e => by cases e) (g6 := h'.length) (k := 0) (by omega) (fun q B _ hB _ => ?_) (.inr ⟨h'.length + 1, true, h'.length + 1, rfl, ?_, by omega, by omega⟩)⟩
    · have := (List.getElem?_eq_some_iff.1 hB).1
      rw [List.append_assoc, List.getElem?_append_left this]; exact hB
    · rw [List.getElem?_append_right (by simp)]; simp [row]
  · subst r1
    obtain ⟨hR, e1, e2, e3, e4, e5⟩ := grow (n := gs.length) (bytes := 24) (sz := 1) (xs := [x]) r2 (by simp) rfl (by simp [hx]) (by rw [p.gl]; omega) (by omega)
    refine ⟨_, _, e1, p.next ap hf (by omega) (c6 := some c6) (fun c e => by cases e; exact ⟨_, _, _, r2, r4⟩) r3 (fun q B hq hB hcut => e5 q B (fun e => hq (by rw [e])) hB hcut) (.inr ⟨h'.length + 1, false, g6, by simp, e3, r3, by omega⟩)⟩

set_option maxHeartbeats 4000000 in
theorem Apart_ok {h : AH} {bu : Nat} {fs : List Fl} (ap : Apt h bu fs) : Gets Try.prog 17 [.slice (some ⟨bu, 0, none⟩) fs.length fs.length] h (fun res h' => res = .ret (.bool true) ∧ h'.length = h.length + 26 * fs.length ∧ ∀ q B, (∀ (t : Nat) (f : Fl), fs[t]? = some f → q ≠ f.b) → h[q]? = some B → h'[q]? = some B) := by
  refine Gets.of (keep := true) hP (draw_ok hM) k17 (by rfl) (fun Ψ hΨ => ?_)
  have hk := ap.hk
  have hT := offs_le ap.hn fs.length (Nat.le_refl _)
  simp only [mach, mstd, ↓reduceIte, Nat.reduceEqDiff, Nat.reduceAdd, Nat.reduceMul, r17]
  have cu : ∀ {h' : AH}, (∀ q, (∀ (t : Nat) (f : Fl), fs[t]? = some f → q ≠ f.b) → h'[q]? = h[q]?) → ∀ (i : Nat) (f : Fl), fs[i]? = some f → ldc h' bu i = some (.slice (some ⟨f.b, 0, none⟩) f.n f.n) := by
    intro h' hf i f hi
    have hc : Cells h' bu (fs.map Fl.v) := by
      have := ap.hu
      unfold Cells hcell at this ⊢
      rw [hf bu (fun t f ht e => ap.hub t f ht e.symm)]; exact this
    rw [hc.ld, List.getElem?_map, hi]; rfl
  refine XLo_rule (α := Nat) (fun i => [(0, .slice (some ⟨bu, 0, none⟩) fs.length fs.length), (2, .bool false), (3, iv (offs fs i : Nat)), (4, iv i)]) (fun i h' => i ≤ fs.length ∧ PA h h' fs i 0) (fun i => fs.length - i) 0
    ⟨Nat.zero_le _, rfl, fun t f ht => by obtain ⟨cs, a, b⟩ := ap.hb t f ht; exact ⟨cs, a, b, fun e => by omega, fun e => by simp [og, ww, rowsOf]⟩, fun q _ => rfl⟩ ⟨rfl, rfl, rfl, rfl, trivial⟩ ?_
  rintro i h1 Ψ1 ⟨i1, pa⟩ next1 out1
  have hwi : IntKind.i64.wrap ((i : Int) + 1) = i + 1 := i64w (by omega) (by omega)
  by_cases hi : (i : Int) < (fs.length : Int)
  · have h0 : 0 ≤ (i : Int) := by omega
    obtain ⟨f, hf⟩ : ∃ f, fs[i]? = some f := ⟨_, List.getElem?_eq_getElem (show i < fs.length by omega)⟩
    obtain ⟨hn1, hn2⟩ := ap.hn i f hf
    have hoi := offs_le ap.hn i i1
    simp only [mach, mstd, ↓reduceIte, Nat.reduceEqDiff, Nat.reduceAdd, Nat.reduceMul, hi]
    refine XLo_rule (α := Nat) (fun j => [(0, .slice (some ⟨bu, 0, none⟩) fs.length fs.length), (2, .bool false), (3, iv ((offs fs i + j : Nat) : Int)), (4, iv i), (5, iv j)]) (fun j h' => j ≤ f.n ∧ PA h h' fs i j) (fun j => f.n - j) 0 ⟨Nat.zero_le _, pa⟩ ⟨rfl, rfl, rfl, rfl, rfl, trivial⟩ ?_
    rintro j h2 Ψ2 ⟨j1, pj⟩ next2 out2
    have hu2 := cu pj.fr i f hf
    by_cases hj : (j : Int) < (f.n : Int)
    · have g0 : 0 ≤ (j : Int) := by omega
      have hwj : IntKind.i64.wrap ((j : Int) + 1) = j + 1 := i64w (by omega) (by omega)
      have hwn : IntKind.i64.wrap (((offs fs i + j : Nat) : Int) + 1) = ((offs fs i + (j + 1) : Nat) : Int) := by rw [i64w (by omega) (by omega)]; omega
      obtain ⟨cs, r1, r2, r3, r4⟩ := pj.row i f hf
      simp only [mach, mstd, ↓reduceIte, Nat.reduceEqDiff, Nat.reduceAdd, Nat.reduceMul, hi, h0, and_self, Int.toNat_natCast, Nat.mul_one, hu2, hj, g0, mbl, Nat.reduceLeDiff, Nat.reduceLT, Int.reduceEq]
      refine XH_at r1 (by omega) ?_
      simp only [mach, mstd, ↓reduceIte, Nat.reduceEqDiff, Nat.reduceAdd, Nat.reduceMul, hwj, hwn]
      refine next2 (j + 1) _ _ _ ⟨by omega, ?_⟩ ⟨rfl, rfl, rfl, rfl, by simp only [Int.natCast_add, Int.cast_ofNat_Int]; rfl, trivial⟩ (by omega)
      have hlt : f.b < h2.length := (List.getElem?_eq_some_iff.1 r1).1
      refine ⟨by rw [List.length_set]; exact pj.len, fun t f' ht => ?_, fun q hq => by rw [List.getElem?_set_ne (fun e => hq i f hf e.symm)]; exact pj.fr q hq⟩
      by_cases hti : t = i
      · subst hti
        rw [hf] at ht; cases ht
        refine ⟨_, List.getElem?_set_self hlt, by simp; omega, fun e => by omega, fun _ => ?_⟩
        have hA : (cs.take (j * 2) ++ [iv 99, iv ((offs fs t + j : Nat) : Int)]).length = (j + 1) * 2 := by simp; omega
        rw [← hA, List.take_left, og_succ, ww_app, ← r4 rfl]; rfl
      · obtain ⟨cs', s1, s2, s3, s4⟩ := pj.row t f' ht
        exact ⟨cs', by rw [List.getElem?_set_ne (fun e => (ap.db i t f f' hf ht (fun e => hti e.symm)).1 e)]; exact s1, s2, s3, fun e => absurd e hti⟩
    · have hje : j = f.n := by omega
      simp only [mach, mstd, ↓reduceIte, Nat.reduceEqDiff, Nat.reduceAdd, Nat.reduceMul, hi, h0, and_self, Int.toNat_natCast, Nat.mul_one, hu2, hj]
      refine out2 (.exit 2) _ _ _ _ (by intro e; cases e) ?_
      simp only [mach, mstd, ↓reduceIte, Nat.reduceEqDiff, Nat.reduceAdd, Nat.reduceMul, hwi]
      refine next1 (i + 1) _ _ _ ⟨by omega, pj.len, fun t f' ht => ?_, pj.fr⟩ ⟨rfl, rfl, by rw [offs_succ hf, hje]; rfl, by simp only [Int.natCast_add, Int.cast_ofNat_Int]; rfl, trivial⟩ (by omega)
      obtain ⟨cs', s1, s2, s3, s4⟩ := pj.row t f' ht
      refine ⟨cs', s1, s2, fun e => ?_, fun e => by simp [og, ww, rowsOf]⟩
      by_cases hti : t = i
      · subst hti
        rw [hf] at ht; cases ht
        rw [← hje, ← s4 rfl, List.take_of_length_le (by omega)]
      · exact s3 (by omega)
  · have hie : i = fs.length := by omega
    subst hie
    simp only [mach, mstd, ↓reduceIte, Nat.reduceEqDiff, Nat.reduceAdd, Nat.reduceMul, hi]
    refine out1 (.exit 0) _ _ _ _ (by intro e; cases e) ?_
    simp only [mach, mstd, ↓reduceIte, Nat.reduceEqDiff, Nat.reduceAdd, Nat.reduceMul]
    have pb0 : PB h h1 fs 0 0 (xv fs 0) [] (.slice none 0 0) := by
      refine ⟨by rw [pa.len]; omega, rfl, fun t f ht e => by omega, fun t f ht e => ?_, fun t f ht e => ?_, .inl ⟨rfl, rfl⟩, fun q B hq hB => by rw [pa.fr q hq]; exact hB⟩
      · subst e
        obtain ⟨cs, s1, s2, s3, s4⟩ := pa.row 0 f ht
        refine ⟨f.b, true, by simp [xv, ht, Fl.v], ?_, fun _ => ⟨rfl, rfl⟩, fun e => by omega⟩
        rw [s1, s3 (by have := (List.getElem?_eq_some_iff.1 ht).1; omega)]
        simp [nw, sb]
      · obtain ⟨cs, s1, s2, s3, s4⟩ := pa.row t f ht
        rw [s1, s3 (by have := (List.getElem?_eq_some_iff.1 ht).1; omega)]
    refine XLo_rule (α := Nat × List Value × Value) (fun a => [(0, .slice (some ⟨bu, 0, none⟩) fs.length fs.length), (2, .bool false), (3, iv ((offs fs fs.length + 12 * a.1 : Nat) : Int)), (6, a.2.2), (7, iv a.1)]) (fun a h' => a.1 ≤ fs.length ∧ PB h h' fs a.1 0 (xv fs a.1) a.2.1 a.2.2) (fun a => fs.length - a.1) (0, [], .slice none 0 0) ⟨Nat.zero_le _, pb0⟩ ⟨rfl, rfl, rfl, rfl, rfl, trivial⟩ ?_
    rintro ⟨i, gs, v6⟩ h2 Ψ2 ⟨j1, pb⟩ next2 out2
    simp only at j1 pb
    have cuB : ∀ {h' : AH}, (∀ q B, (∀ (t : Nat) (f : Fl), fs[t]? = some f → q ≠ f.b) → h[q]? = some B → h'[q]? = some B) → ∀ (i : Nat) (f : Fl), fs[i]? = some f → ldc h' bu i = some (.slice (some ⟨f.b, 0, none⟩) f.n f.n) := by
      intro h' hfr i f hi
      have hc : Cells h' bu (fs.map Fl.v) := by
        have h1 := ap.hu
        have hl := h1.lt
        unfold Cells hcell at h1 ⊢
        rw [hfr bu h[bu] (fun t f ht e => ap.hub t f ht e.symm) (List.getElem?_eq_getElem hl)]
        rw [List.getElem?_eq_getElem hl] at h1; exact h1
      rw [hc.ld, List.getElem?_map, hi]; rfl
    have hwi : IntKind.i64.wrap ((i : Int) + 1) = i + 1 := i64w (by omega) (by omega)
    by_cases hi : (i : Int) < (fs.length : Int)
    · have h0 : 0 ≤ (i : Int) := by omega
      obtain ⟨f, hf⟩ : ∃ f, fs[i]? = some f := ⟨_, List.getElem?_eq_getElem (show i < fs.length by omega)⟩
      obtain ⟨hn1, hn2⟩ := ap.hn i f hf
      have hxv : xv fs i = .slice (some ⟨f.b, 0, none⟩) f.n f.n := by rw [xv, hf]; rfl
      simp only [mach, mstd, ↓reduceIte, Nat.reduceEqDiff, Nat.reduceAdd, Nat.reduceMul, hi, h0, and_self, Int.toNat_natCast, Nat.mul_one, Nat.zero_add, cuB pb.fr i f hf]
      rw [hxv] at pb
      refine XLo_rule (α := Nat × Value) (fun a => [(0, .slice (some ⟨bu, 0, none⟩) fs.length fs.length), (2, .bool false), (3, iv ((offs fs fs.length + 12 * i + a.1 : Nat) : Int)), (6, v6), (7, iv i), (8, a.2), (9, iv a.1)]) (fun a h' => a.1 ≤ 12 ∧ PB h h' fs i a.1 a.2 gs v6) (fun a => 12 - a.1) (0, .slice (some ⟨f.b, 0, none⟩) f.n f.n) ⟨Nat.zero_le _, pb⟩ ⟨rfl, rfl, rfl, rfl, rfl, rfl, rfl, trivial⟩ ?_
      rintro ⟨m, x⟩ h3 Ψ3 ⟨k1, pm⟩ next3 out3
      simp only at k1 pm
      have hwm : IntKind.i64.wrap ((m : Int) + 1) = m + 1 := i64w (by omega) (by omega)
      have hwn : IntKind.i64.wrap (((offs fs fs.length + 12 * i + m : Nat) : Int) + 1) = ((offs fs fs.length + 12 * i + (m + 1) : Nat) : Int) := by rw [i64w (by omega) (by omega)]; omega
      by_cases hm : (m : Int) < 12
      · obtain ⟨c, s, e1, e2, e3, e4⟩ := pm.cur i f hf rfl
        obtain ⟨hR, g1, g2, g3, g4, g5⟩ := grow (n := f.n + m) (bytes := 16) (sz := 2) (xs := [iv 98, iv ((offs fs fs.length + 12 * i + m : Nat) : Int)]) e2 (by rw [ww_len, List.length_append, og_len, nw_len]) rfl rfl (by omega) (by omega)
        subst e1
        simp only [mach, mstd, ↓reduceIte, Nat.reduceEqDiff, Nat.reduceAdd, Nat.reduceMul, hm, mbl, Nat.reduceLeDiff, Nat.reduceLT, Int.reduceEq, g1, hwm, hwn]
        exact next3 (m + 1, _) _ _ _ ⟨by simp only; omega, pm.step ap hf (98, ((offs fs fs.length + 12 * i + m : Nat) : Int)) rfl rfl e2 e3 e4 g2 g3 g4 g5⟩ ⟨rfl, rfl, rfl, rfl, rfl, rfl, by simp only [Int.natCast_add, Int.cast_ofNat_Int]; rfl, trivial⟩ (by simp only; omega)
      · have hm12 : m = 12 := by omega
        subst hm12
        obtain ⟨c, s, e1, e2, e3, e4⟩ := pm.cur i f hf rfl
        obtain ⟨v6', hR, g1, g2⟩ := pm.push ap hf (by rw [e1]; rfl) (by omega)
        have hcs : x.cells.size = 1 := by rw [e1]; rfl
        have hct : x.cells.toList = [x] := by rw [e1]; rfl
        simp only [mach, mstd, ↓reduceIte, Nat.reduceEqDiff, Nat.reduceAdd, Nat.reduceMul, hm]
        refine out3 (.exit 6) _ _ _ _ (by intro e; cases e) ?_
        simp only [mach, mstd, ↓reduceIte, Nat.reduceEqDiff, Nat.reduceAdd, Nat.reduceMul, mbl, Nat.reduceLeDiff, Nat.reduceLT, Int.reduceEq, hcs, hct, g1, hwi]
        exact next2 (i + 1, gs ++ [x], v6') _ _ _ ⟨by simp only; omega, g2⟩ ⟨rfl, rfl, by simp only; congr 2, rfl, by simp only [Int.natCast_add, Int.cast_ofNat_Int]; rfl, trivial⟩ (by simp only; omega)
    · have hie : i = fs.length := by omega
      simp only [mach, mstd, ↓reduceIte, Nat.reduceEqDiff, Nat.reduceAdd, Nat.reduceMul, hi]
      refine out2 (.exit 4) _ _ _ _ (by intro e; cases e) ?_
      simp only [mach, mstd, ↓reduceIte, Nat.reduceEqDiff, Nat.reduceAdd, Nat.reduceMul]
      have hN : offs fs fs.length ≤ 100 * fs.length := hT
      rw [hie] at pb
      have don := fun t f (ht : fs[t]? = some f) => pb.don t f ht ((List.getElem?_eq_some_iff.1 ht).1)
      refine XLo_rule (α := Nat) (fun i => [(0, .slice (some ⟨bu, 0, none⟩) fs.length fs.length), (2, .bool false), (3, iv (offs fs i : Nat)), (6, v6), (10, iv i)]) (fun i h' => i ≤ fs.length ∧ h' = h2) (fun i => fs.length - i) 0 ⟨Nat.zero_le _, rfl⟩ ⟨rfl, rfl, rfl, rfl, rfl, trivial⟩ ?_
      rintro p h3 Ψ3 ⟨p1, rfl⟩ next3 out3
      have hwp : IntKind.i64.wrap ((p : Int) + 1) = p + 1 := i64w (by omega) (by omega)
      by_cases hp : (p : Int) < (fs.length : Int)
      · have h0 : 0 ≤ (p : Int) := by omega
        obtain ⟨f, hf⟩ : ∃ f, fs[p]? = some f := ⟨_, List.getElem?_eq_getElem (show p < fs.length by omega)⟩
        obtain ⟨hn1, hn2⟩ := ap.hn p f hf
        have hop := offs_le ap.hn p p1
        simp only [mach, mstd, ↓reduceIte, Nat.reduceEqDiff, Nat.reduceAdd, Nat.reduceMul, hp]
        refine XLo_rule (α := Nat) (fun j => [(0, .slice (some ⟨bu, 0, none⟩) fs.length fs.length), (2, .bool false), (3, iv ((offs fs p + j : Nat) : Int)), (6, v6), (10, iv p), (11, iv j)]) (fun j h' => j ≤ f.n ∧ h' = h3) (fun j => f.n - j) 0 ⟨Nat.zero_le _, rfl⟩ ⟨rfl, rfl, rfl, rfl, rfl, rfl, trivial⟩ ?_
        rintro j h4 Ψ4 ⟨q1, rfl⟩ next4 out4
        have hu2 := cuB pb.fr p f hf
        by_cases hj : (j : Int) < (f.n : Int)
        · have g0 : 0 ≤ (j : Int) := by omega
          have hwj : IntKind.i64.wrap ((j : Int) + 1) = j + 1 := i64w (by omega) (by omega)
          have hwn : IntKind.i64.wrap (((offs fs p + j : Nat) : Int) + 1) = ((offs fs p + (j + 1) : Nat) : Int) := by rw [i64w (by omega) (by omega)]; omega
          have hcl := cell2 (cells_of (s := false) (don p f hf).1) (j := j) (x := (99, ((offs fs p + j : Nat) : Int))) (by rw [og, List.getElem?_map, List.getElem?_range (by omega)]; rfl)
          simp only [mach, mstd, ↓reduceIte, Nat.reduceEqDiff, Nat.reduceAdd, Nat.reduceMul, hp, h0, and_self, Int.toNat_natCast, Nat.mul_one, Nat.zero_add, hu2, hj, g0, mbl, Nat.reduceLeDiff, Nat.reduceLT, Int.reduceEq, hcl, ceq_w, hwj, hwn]
          exact next4 (j + 1) _ _ _ ⟨by omega, rfl⟩ ⟨rfl, rfl, rfl, rfl, rfl, by simp only [Int.natCast_add, Int.cast_ofNat_Int]; rfl, trivial⟩ (by omega)
        · have hje : j = f.n := by omega
          simp only [mach, mstd, ↓reduceIte, Nat.reduceEqDiff, Nat.reduceAdd, Nat.reduceMul, hp, h0, and_self, Int.toNat_natCast, Nat.mul_one, Nat.zero_add, hu2, hj]
          refine out4 (.exit 10) _ _ _ _ (by intro e; cases e) ?_
          simp only [mach, mstd, ↓reduceIte, Nat.reduceEqDiff, Nat.reduceAdd, Nat.reduceMul, hwp]
          exact next3 (p + 1) _ _ _ ⟨by omega, rfl⟩ ⟨rfl, rfl, by rw [offs_succ hf, hje]; rfl, rfl, by simp only [Int.natCast_add, Int.cast_ofNat_Int]; rfl, trivial⟩ (by omega)
      · have hpe : p = fs.length := by omega
        subst hpe
        simp only [mach, mstd, ↓reduceIte, Nat.reduceEqDiff, Nat.reduceAdd, Nat.reduceMul, hp]
        refine out3 (.exit 8) _ _ _ _ (by intro e; cases e) ?_
        simp only [mach, mstd, ↓reduceIte, Nat.reduceEqDiff, Nat.reduceAdd, Nat.reduceMul]
        have hgl := pb.gl
        have hv6 : ∃ a c, v6 = .slice a gs.length c := by
          rcases pb.r6 with ⟨r1, r2⟩ | ⟨c6, s6, g6, r1, r2, r3, r4⟩
          · rw [r1]; exact ⟨none, 0, r2⟩
          · exact ⟨_, _, r1⟩
        have hv6at : ∀ (t : Nat) (f : Fl), fs[t]? = some f → ∃ b6 c, v6 = .slice (some ⟨b6, 0, none⟩) gs.length gs.length ∧ ldc h3 b6 t = some (.slice (some ⟨c, 0, none⟩) (f.n + 12) (f.n + 12)) ∧ h3[c]? = some (nb f.g (ww (og fs t f.n ++ nw fs t 12))) := by
          intro t f ht
          obtain ⟨_, c, _, d3, d4⟩ := don t f ht
          rcases pb.r6 with ⟨r1, r2⟩ | ⟨c6, s6, g6, r1, r2, r3, r4⟩
          · rw [r1] at d3; cases d3
          · have hc6 : Cells h3 c6 gs := by simp [Cells, hcell, r2]
            exact ⟨c6, c, r1, by rw [hc6.ld]; exact d3, d4⟩
        have hglI : ((gs.length : Nat) : Int) = (fs.length : Int) := by rw [hgl]
        refine XLo_rule (α := Nat) (fun i => [(0, .slice (some ⟨bu, 0, none⟩) fs.length fs.length), (2, .bool false), (3, iv ((offs fs fs.length + 12 * i : Nat) : Int)), (6, v6), (12, iv i)]) (fun i h' => i ≤ fs.length ∧ h' = h3) (fun i => fs.length - i) 0 ⟨Nat.zero_le _, rfl⟩ ⟨rfl, rfl, rfl, rfl, rfl, trivial⟩ ?_
        rintro p h4 Ψ4 ⟨p1, rfl⟩ next4 out4
        have hwp : IntKind.i64.wrap ((p : Int) + 1) = p + 1 := i64w (by omega) (by omega)
        obtain ⟨a6, c6, e6⟩ := hv6
        by_cases hp : (p : Int) < (fs.length : Int)
        · have h0 : 0 ≤ (p : Int) := by omega
          obtain ⟨f, hf⟩ : ∃ f, fs[p]? = some f := ⟨_, List.getElem?_eq_getElem (show p < fs.length by omega)⟩
          obtain ⟨hn1, hn2⟩ := ap.hn p f hf
          obtain ⟨b6, c, k6, l6, m6⟩ := hv6at p f hf
          have hu2 := cuB pb.fr p f hf
          rw [k6] at e6
          cases e6
          rw [k6]
          simp only [mach, mstd, ↓reduceIte, Nat.reduceEqDiff, Nat.reduceAdd, Nat.reduceMul, hglI, hp, h0, and_self, Int.toNat_natCast, Nat.mul_one, Nat.zero_add, hu2]
          refine XLo_rule (α := Nat) (fun s => [(0, .slice (some ⟨bu, 0, none⟩) fs.length fs.length), (2, .bool false), (3, iv ((offs fs fs.length + 12 * p + s : Nat) : Int)), (6, .slice (some ⟨b6, 0, none⟩) gs.length gs.length), (12, iv p), (13, iv ((f.n + s : Nat) : Int))]) (fun s h' => s ≤ 12 ∧ h' = h4) (fun s => 12 - s) 0 ⟨Nat.zero_le _, rfl⟩ ⟨rfl, rfl, rfl, rfl, rfl, rfl, trivial⟩ ?_
          rintro s h5 Ψ5 ⟨q1, rfl⟩ next5 out5
          by_cases hs : ((f.n + s : Nat) : Int) < ((f.n + 12 : Nat) : Int)
          · have g0 : 0 ≤ ((f.n + s : Nat) : Int) := by omega
            have hwj : IntKind.i64.wrap (((f.n + s : Nat) : Int) + 1) = ((f.n + (s + 1) : Nat) : Int) := by rw [i64w (by omega) (by omega)]; omega
            have hwn : IntKind.i64.wrap (((offs fs fs.length + 12 * p + s : Nat) : Int) + 1) = ((offs fs fs.length + 12 * p + (s + 1) : Nat) : Int) := by rw [i64w (by omega) (by omega)]; omega
            have hcl := cell2 (cells_of (s := false) m6) (j := f.n + s) (x := (98, ((offs fs fs.length + 12 * p + s : Nat) : Int))) (by
              rw [List.getElem?_append_right (by rw [og_len]; omega), og_len, nw, List.getElem?_map, List.getElem?_range (by omega)]
              simp)
            simp only [mach, mstd, ↓reduceIte, Nat.reduceEqDiff, Nat.reduceAdd, Nat.reduceMul, hglI, hp, h0, and_self, Int.toNat_natCast, Nat.mul_one, Nat.zero_add, l6, hs, g0, mbl, Nat.reduceLeDiff, Nat.reduceLT, Int.reduceEq, hcl, ceq_w, hwj, hwn]
            exact next5 (s + 1) _ _ _ ⟨by omega, rfl⟩ ⟨rfl, rfl, rfl, rfl, rfl, rfl, trivial⟩ (by omega)
          · have hse : s = 12 := by omega
            subst hse
            simp only [mach, mstd, ↓reduceIte, Nat.reduceEqDiff, Nat.reduceAdd, Nat.reduceMul, hglI, hp, h0, and_self, Int.toNat_natCast, Nat.mul_one, Nat.zero_add, l6, hs]
            refine out5 (.exit 14) _ _ _ _ (by intro e; cases e) ?_
            simp only [mach, mstd, ↓reduceIte, Nat.reduceEqDiff, Nat.reduceAdd, Nat.reduceMul, hwp]
            exact next4 (p + 1) _ _ _ ⟨by omega, rfl⟩ ⟨rfl, rfl, by rw [show offs fs fs.length + 12 * (p + 1) = offs fs fs.length + 12 * p + 12 by omega]; rfl, by rw [k6]; rfl, by simp only [Int.natCast_add, Int.cast_ofNat_Int]; rfl, trivial⟩ (by omega)
        · rw [e6]
          simp only [mach, mstd, ↓reduceIte, Nat.reduceEqDiff, Nat.reduceAdd, Nat.reduceMul, hglI, hp]
          refine out4 (.exit 12) _ _ _ _ (by intro e; cases e) ?_
          simp only [mach, mstd, ↓reduceIte, Nat.reduceEqDiff, Nat.reduceAdd, Nat.reduceMul]
          exact hΨ _ _ (fin_ret (rv1 rfl ⟨rfl, by have := pb.len; omega, pb.fr⟩))
end Go.S18

/- Heap: HeapKeeps: the run, its three tests on the number that is given said ahead; WordsApart by its contract. -/
set_option linter.unusedVariables false
set_option linter.unusedSimpArgs false
set_option maxRecDepth 100000
namespace Go.S18
open Go Go.Eng Go.Proofs Go.Chk Go.RowKit

/-- A block that no other one can be cut with. -/
def whole : Blk → Bool
  | .cells true false _ _ _ _ => false
  | _ => true
theorem whole_cut {B : Blk} (h : whole B = true) (g k : Nat) : hcut g k B = B := by
  unfold hcut; split
  · cases h
  · rfl
/-- A list, as it lies. -/
def flOf (h : AH) : Value → Option Fl
  | .slice (some ⟨b, 0, none⟩) n c => match h[b]? with
    | some (.cells true true g 0 e cs) => if n = c ∧ e = 36 ∧ cs.length = n * 2 ∧ 1 ≤ n ∧ n ≤ 100 ∧ g < h.length then some ⟨b, g, n⟩ else none
    | _ => none
  | _ => none
theorem flOf_inv {h : AH} {v : Value} {f : Fl} (e : flOf h v = some f) : v = f.v ∧ (∃ cs, h[f.b]? = some (sb f.g cs) ∧ cs.length = f.n * 2) ∧ 1 ≤ f.n ∧ f.n ≤ 100 ∧ f.g < h.length := by
  unfold flOf at e
  split at e
  · split at e
    · rename_i b n c g ty cs hb
      split at e
      · rename_i hc
        obtain ⟨rfl, rfl, h3, h4, h5, h6⟩ := hc
        cases e
        exact ⟨rfl, ⟨_, hb, h3⟩, h4, h5, h6⟩
      · cases e
    · cases e
  · cases e
def flsOf (h : AH) : List Value → Option (List Fl)
  | [] => some []
  | v :: l => match flOf h v, flsOf h l with
    | some f, some fs => some (f :: fs)
    | _, _ => none
theorem flsOf_inv {h : AH} : ∀ {l : List Value} {fs : List Fl}, flsOf h l = some fs → l = fs.map Fl.v ∧ ∀ f ∈ fs, (∃ cs, h[f.b]? = some (sb f.g cs) ∧ cs.length = f.n * 2) ∧ 1 ≤ f.n ∧ f.n ≤ 100 ∧ f.g < h.length := by
  intro l
  induction l with
  | nil => intro fs e; cases e; exact ⟨rfl, fun f hf => by cases hf⟩
  | cons v l ih =>
    intro fs e
    simp only [flsOf] at e
    split at e
    · rename_i f fs' h1 h2
      cases e
      obtain ⟨a, b⟩ := flOf_inv h1
      obtain ⟨c, d⟩ := ih h2
      exact ⟨by rw [a, c]; rfl, fun g hg => (List.mem_cons.1 hg).elim (fun e => e ▸ b) (d g)⟩
    · cases e
/-- The blocks of lists are forgotten. -/
def drop (fs : List Fl) (h : AH) : AH := (fs.foldl (fun h f => h.set f.b .gone) h) ++ List.replicate (26 * fs.length) .gone
theorem fold_len (fs : List Fl) : ∀ h : AH, (fs.foldl (fun h f => h.set f.b Blk.gone) h).length = h.length := by
  induction fs with
  | nil => intro h; rfl
  | cons f fs ih => intro h; rw [List.foldl_cons, ih, List.length_set]
theorem fold_at (fs : List Fl) : ∀ (h : AH) (q : Nat) (B : Blk), (fs.foldl (fun h f => h.set f.b Blk.gone) h)[q]? = some B → B.live = true → h[q]? = some B ∧ ∀ f ∈ fs, q ≠ f.b := by
  induction fs with
  | nil => intro h q B e _; exact ⟨e, fun f hf => by cases hf⟩
  | cons f fs ih =>
    intro h q B e hl
    rw [List.foldl_cons] at e
    obtain ⟨a, b⟩ := ih _ q B e hl
    by_cases hq : q = f.b
    · subst hq
      have hlt : f.b < h.length := by
        have := (List.getElem?_eq_some_iff.1 a).1
        rwa [List.length_set] at this
      rw [List.getElem?_set_self hlt] at a
      cases a; cases hl
    · rw [List.getElem?_set_ne (fun e => hq e.symm)] at a
      exact ⟨a, fun g hg => (List.mem_cons.1 hg).elim (fun e => e ▸ hq) (b g)⟩
theorem fold_gone (fs : List Fl) : ∀ (h : AH) (q : Nat), h[q]? = some .gone → (fs.foldl (fun h f => h.set f.b Blk.gone) h)[q]? = some .gone := by
  induction fs with
  | nil => intro h q e; exact e
  | cons f fs ih =>
    intro h q e
    rw [List.foldl_cons]
    refine ih _ q ?_
    by_cases hq : q = f.b
    · subst hq
      rw [List.getElem?_set_self (List.getElem?_eq_some_iff.1 e).1]
    · rw [List.getElem?_set_ne (fun e => hq e.symm)]; exact e

def apartB : List Fl → Bool
  | [] => true
  | f :: fs => fs.all (fun g => f.b != g.b && f.g != g.g) && apartB fs
theorem apartB_inv : ∀ {fs : List Fl}, apartB fs = true → fs.Pairwise fun f g => f.b ≠ g.b ∧ f.g ≠ g.g := by
  intro fs
  induction fs with
  | nil => intro _; exact .nil
  | cons f fs ih =>
    intro h
    simp only [apartB, Bool.and_eq_true, List.all_eq_true, bne_iff_ne, ne_eq] at h
    exact .cons (fun g hg => h.1 g hg) (ih h.2)

/-- WordsApart, by its contract. -/
def apF (args : List Value) (h : AH) : Option (Res × AH) :=
  match args with
  | [.slice (some ⟨bu, 0, none⟩) n c] => match hcell h bu with
    | some cs => match flsOf h cs with
      | some fs => if n = fs.length ∧ c = fs.length ∧ fs.length ≤ 100 ∧ apartB fs = true ∧ fs.all (fun f => f.b != bu) = true ∧ h.all whole = true then some (.ret (.bool true), drop fs h) else none
      | none => none
    | none => none
  | _ => none
theorem apF_ok {args : List Value} {h h' : AH} {res : Res} (e : apF args h = some (res, h')) : Go.Eng.Holds Try.prog 17 args h res h' := by
  unfold apF at e
  split at e
  case h_2 => cases e
  rename_i bu n c
  split at e
  case h_2 => cases e
  rename_i cs hcs
  split at e
  case h_2 => cases e
  rename_i fs hfs
  split at e
  case isFalse => cases e
  rename_i hc
  obtain ⟨rfl, rfl, h3, h4, h5, h6⟩ := hc
  cases e
  obtain ⟨rfl, hfl⟩ := flsOf_inv hfs
  have mem : ∀ {t : Nat} {f : Fl}, fs[t]? = some f → f ∈ fs := fun ht => List.mem_of_getElem? ht
  have pw := apartB_inv h4
  have ap : Apt h bu fs := by
    refine ⟨h3, fun t f ht => ⟨(hfl f (mem ht)).2.1, (hfl f (mem ht)).2.2.1⟩, fun t f ht => (hfl f (mem ht)).1, hcs, fun t f ht => ?_, fun s t f f' hs ht hne => ?_, fun t f ht => ?_, fun q B _ hB g k => whole_cut (List.all_eq_true.1 h6 B (List.mem_of_getElem? hB)) g k⟩
    · have := List.all_eq_true.1 h5 f (mem ht)
      simpa using this
    · obtain ⟨hs1, hs2⟩ := List.getElem?_eq_some_iff.1 hs
      obtain ⟨ht1, ht2⟩ := List.getElem?_eq_some_iff.1 ht
      rcases Nat.lt_or_gt_of_ne hne with hlt | hlt
      · have := List.pairwise_iff_getElem.1 pw s t hs1 ht1 hlt
        rw [hs2, ht2] at this; exact this
      · have := List.pairwise_iff_getElem.1 pw t s ht1 hs1 hlt
        rw [hs2, ht2] at this; exact ⟨this.1.symm, this.2.symm⟩
    · obtain ⟨cs', a, _⟩ := (hfl f (mem ht)).1
      exact ⟨(hfl f (mem ht)).2.2.2, (List.getElem?_eq_some_iff.1 a).1⟩
  obtain ⟨res, h', hh, hle, rfl, hlen, hfr⟩ := Apart_ok ap
  refine hh.forget (by simp only [drop, List.length_append, List.length_replicate, fold_len]; omega) (fun b B hb hl => ?_) (fun b hb => ?_)
  · unfold drop at hb
    by_cases hlt : b < h.length
    · rw [List.getElem?_append_left (by rw [fold_len]; exact hlt)] at hb
      obtain ⟨a, a2⟩ := fold_at fs h b B hb hl
      exact hfr b B (fun t f ht => a2 f (mem ht)) a
    · rw [List.getElem?_append_right (by rw [fold_len]; omega)] at hb
      have := List.mem_of_getElem? hb
      rw [List.eq_of_mem_replicate this] at hl
      cases hl
  · unfold drop
    have := (List.getElem?_eq_some_iff.1 hb).1
    rw [List.getElem?_append_left (by rw [fold_len]; exact this)]
    exact fold_gone fs h b hb
/-- wakes, by its run. -/
def wkF (args : List Value) (h : AH) : Option (Res × AH) := match args with
  | [] => some (.ret (.bool true), h)
  | _ => none
theorem wkF_ok {args : List Value} {h h' : AH} {res : Res} (e : wkF args h = some (res, h')) : Go.Eng.Holds Try.prog 9 args h res h' := by
  unfold wkF at e
  split at e
  · cases e
    obtain ⟨res, h', hh, _, rfl, rfl⟩ := wakes_ok h
    exact hh
  · cases e
def say3 : Says := fun t => if t = 78 then some false else if t = 116 then some false else if t = 170 then some true else none
noncomputable def fn3 : Func := (Try.prog.funcs[3]?).getD default
noncomputable def body3 : Code := fn3.body.getD .skip
theorem hf3 : Try.prog.funcs[3]? = some fn3 := by kernel_rfl
theorem hb3 : fn3.body = some body3 := by kernel_rfl
theorem Keeps_run (n : Int) (w : World) : Calls Try.prog 3 #[.int .i64 n] w fun e w' => e = .returned (.bool true) ∧ Below w.heap.size w w' := by
  refine calls_said2 (n := 100) (m := 1000) (fuel := 1000) (say := say3) (args := [.int .i64 n]) (q := [(.bool (n != n), false), (.bool (n != n), false), (.bool (n == n), true)]) (g1 := 17) (g2 := 9) (u1 := apF) (u2 := wkF)
    hP hM hf3 hb3 (fun _ _ _ _ e => apF_ok e) (fun _ _ _ _ e => wkF_ok e) (by kernel_rfl) ?_ (VL.cons (.int _ _) (VL.nil _)) w
  intro p hp
  simp only [List.mem_cons, List.not_mem_nil, or_false] at hp
  rcases hp with rfl | rfl | rfl <;> simp
end Go.S18
