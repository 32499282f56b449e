import Derived.Test.YtobbonpebopafaaDoorPk14
import Derived.Test.YtobbonpebopafaaDoorPk15
/- Tokens: the plain law: what a text's tokens are. -/
set_option linter.unusedVariables false
set_option linter.unusedSimpArgs false
namespace Go.Scn
open Go

abbrev Bs := List UInt8

/-- A text of bytes. -/
def tx (l : Bs) : ByteArray := ⟨l.toArray⟩
theorem tx_size (l : Bs) : (tx l).size = l.length := by simp [tx, ByteArray.size]
theorem tx_get (l : Bs) (i : Nat) : (tx l)[i]? = l[i]? := by
  by_cases h : i < l.length
  · rw [getElem?_pos (tx l) i (by rw [tx_size]; exact h), List.getElem?_eq_getElem h]; rfl
  · rw [getElem?_neg (tx l) i (by rw [tx_size]; exact h), List.getElem?_eq_none (by omega)]
theorem tx_of (s : ByteArray) : s = tx s.data.toList := by simp [tx]
theorem tx_ext (l : Bs) (a b : Nat) : (tx l).extract a b = tx ((l.take b).drop a) := by
  apply ByteArray.ext
  rw [ByteArray.data_extract]
  simp [tx, List.extract_toArray]
  rw [List.drop_take]
theorem tx_app (a b : Bs) : tx a ++ tx b = tx (a ++ b) := by
  apply ByteArray.ext; simp [tx]

/-! ### Bytes -/

def small (c : UInt8) : Bool := decide (97 ≤ c.toNat ∧ c.toNat ≤ 122 ∨ c.toNat = 95)
def large (c : UInt8) : Bool := decide (65 ≤ c.toNat ∧ c.toNat ≤ 90)
def digit (c : UInt8) : Bool := decide (48 ≤ c.toNat ∧ c.toNat ≤ 57)
def inner (c : UInt8) : Bool := small c || large c || digit c || decide (c.toNat = 39)
def symL : Bs := [33, 35, 36, 37, 38, 42, 43, 46, 47, 60, 61, 62, 63, 64, 92, 94, 124, 45, 126, 58]
def symb (c : UInt8) : Bool := symL.contains c
def wsp (c : UInt8) : Bool := decide (c.toNat = 32 ∨ c.toNat = 9 ∨ c.toNat = 10 ∨ c.toNat = 13)
def dash (c : UInt8) : Bool := decide (c.toNat = 45)
def noEnd (c : UInt8) : Bool := decide (¬ c.toNat = 10)

/-- How many bytes of a kind come first. -/
def spn (p : UInt8 → Bool) (l : Bs) : Nat := (l.takeWhile p).length
theorem spn_le (p : UInt8 → Bool) (l : Bs) : spn p l ≤ l.length := (List.takeWhile_sublist p).length_le
theorem spn_cons (p : UInt8 → Bool) (c : UInt8) (l : Bs) : spn p (c :: l) = if p c then spn p l + 1 else 0 := by
  unfold spn; rw [List.takeWhile_cons]; split <;> simp_all
theorem spn_at {p : UInt8 → Bool} : ∀ {l : Bs} {i : Nat}, i < spn p l → ∃ c, l[i]? = some c ∧ p c = true := by
  intro l
  induction l with
  | nil => intro i h; simp [spn] at h
  | cons c l ih =>
    intro i h
    rw [spn_cons] at h
    split at h
    · rename_i hc
      cases i with
      | zero => exact ⟨c, rfl, hc⟩
      | succ i => obtain ⟨d, h1, h2⟩ := ih (i := i) (by omega); exact ⟨d, by simpa using h1, h2⟩
    · omega
theorem spn_end {p : UInt8 → Bool} : ∀ {l : Bs} {c : UInt8}, l[spn p l]? = some c → p c = false := by
  intro l
  induction l with
  | nil => intro c h; simp at h
  | cons d l ih =>
    intro c h
    rw [spn_cons] at h
    split at h
    · exact ih (by simpa using h)
    · rename_i hd; simp at h; subst h; simpa using hd
theorem spn_eq {p : UInt8 → Bool} {l : Bs} {n : Nat} (hn : n ≤ l.length) (h1 : ∀ i c, i < n → l[i]? = some c → p c = true) (h2 : ∀ c, l[n]? = some c → p c = false) : spn p l = n := by
  rcases Nat.lt_trichotomy (spn p l) n with h | h | h
  · obtain ⟨c, hc⟩ : ∃ c, l[spn p l]? = some c := ⟨_, List.getElem?_eq_getElem (by omega)⟩
    have := h1 _ c h hc
    rw [spn_end hc] at this; cases this
  · exact h
  · obtain ⟨c, hc, hp⟩ := spn_at h
    rw [h2 c hc] at hp; cases hp

/-! ### Blanks and comments -/

/-- A comment up to the end of a line. -/
def lineN (l : Bs) : Nat := if 2 ≤ spn dash l ∧ (∀ c, l[spn dash l]? = some c → symb c = false) then spn noEnd l else 0
instance (l : Bs) : Decidable (∀ c, l[spn dash l]? = some c → symb c = false) :=
  match h : l[spn dash l]? with
  | none => .isTrue (fun c e => by cases e)
  | some c => if hc : symb c = false then .isTrue (fun d e => by cases e; exact hc) else .isFalse (fun k => hc (k c rfl))

/-- A comment in braces, behind its beginning: how many bytes it has yet. -/
def nst : Nat → Bs → Option Nat
  | d, 123 :: 45 :: l => (nst (d + 1) l).map (· + 2)
  | d, 45 :: 125 :: l => if d ≤ 1 then some 2 else (nst (d - 1) l).map (· + 2)
  | _, [] => none
  | d, _ :: l => (nst d l).map (· + 1)
/-- A comment in braces: 0: none begins; none: it has no end. -/
def nestN : Bs → Option Nat
  | 123 :: 45 :: l => (nst 1 l).map (· + 2)
  | _ => some 0

theorem nst_le : ∀ (d : Nat) (l : Bs) (n : Nat), nst d l = some n → n ≤ l.length := by
  intro d l
  induction d, l using nst.induct with
  | case1 d l ih => intro n h; simp only [nst] at h; obtain ⟨m, h1, rfl⟩ := Option.map_eq_some_iff.1 h; have := ih m h1; simp; omega
  | case2 d l hd => intro n h; simp only [nst, hd, if_true] at h; cases h; simp
  | case3 d l hd ih => intro n h; simp only [nst, hd, if_false] at h; obtain ⟨m, h1, rfl⟩ := Option.map_eq_some_iff.1 h; have := ih m h1; simp; omega
  | case4 d => intro n h; simp [nst] at h
  | case5 d c l h1 h2 ih => intro n h; rw [nst] at h; obtain ⟨m, h3, rfl⟩ := Option.map_eq_some_iff.1 h; have := ih m h3; simp; omega; all_goals assumption
theorem nestN_le {l : Bs} {n : Nat} (h : nestN l = some n) : n ≤ l.length := by
  unfold nestN at h
  split at h
  · obtain ⟨m, h1, rfl⟩ := Option.map_eq_some_iff.1 h; have := nst_le _ _ _ h1; simp; omega
  · cases h; omega
theorem lineN_le (l : Bs) : lineN l ≤ l.length := by unfold lineN; split; exact spn_le _ _; omega

/-- What stands behind blanks and comments; or where a comment begins that has no end. -/
def skp (l : Bs) : Except Bs Bs :=
  match l with
  | [] => .ok []
  | c :: r =>
    if wsp c then skp r else
    if h : 0 < lineN (c :: r) then skp ((c :: r).drop (lineN (c :: r))) else
    match nestN (c :: r) with
    | none => .error (c :: r)
    | some n => if h : 0 < n then skp ((c :: r).drop n) else .ok (c :: r)
termination_by l.length
decreasing_by all_goals simp; try omega

theorem skp_nil : skp [] = .ok [] := by rw [skp]
theorem skp_cons (c : UInt8) (r : Bs) : skp (c :: r) = if wsp c then skp r else if 0 < lineN (c :: r) then skp ((c :: r).drop (lineN (c :: r))) else
    match nestN (c :: r) with
    | none => .error (c :: r)
    | some n => if 0 < n then skp ((c :: r).drop n) else .ok (c :: r) := by
  rw [skp]; rfl

theorem dash_blank {c : UInt8} (h : dash c = true) : wsp c = false := by simp [dash, wsp] at *; omega
theorem skp_blank : ∀ (l : Bs), skp (l.drop (spn wsp l)) = skp l := by
  intro l
  induction l with
  | nil => rfl
  | cons c l ih =>
    rw [spn_cons]
    split
    · rename_i hc; rw [skp_cons, if_pos hc]; simpa using ih
    · rfl
theorem lineN_head {l : Bs} (h : 0 < lineN l) : ∃ c r, l = c :: r ∧ dash c = true := by
  unfold lineN at h
  split at h
  · rename_i hc
    cases l with
    | nil => simp [spn] at hc
    | cons c r =>
      refine ⟨c, r, rfl, ?_⟩
      have := hc.1
      rw [spn_cons] at this
      split at this
      · assumption
      · omega
  · omega
theorem skp_line (l : Bs) : skp (l.drop (lineN l)) = skp l := by
  by_cases h : 0 < lineN l
  · obtain ⟨c, r, rfl, hc⟩ := lineN_head h
    rw [skp_cons c r, if_neg (by rw [dash_blank hc]; simp), if_pos h]
  · rw [show lineN l = 0 by omega]; rfl
theorem nest_head {l : Bs} (h : nestN l ≠ some 0) : ∃ r, l = 123 :: 45 :: r := by
  unfold nestN at h
  split at h
  · exact ⟨_, rfl⟩
  · exact absurd rfl h
theorem brace_line (r : Bs) : lineN (123 :: r) = 0 := by
  unfold lineN
  rw [if_neg]
  rintro ⟨h, _⟩
  rw [spn_cons] at h
  simp [dash] at h
theorem skp_nest {l : Bs} {n : Nat} (h : nestN l = some n) : skp (l.drop n) = skp l := by
  by_cases h0 : n = 0
  · subst h0; rfl
  · obtain ⟨r, rfl⟩ := nest_head (l := l) (by rw [h]; simpa using h0)
    rw [skp_cons 123, if_neg (by simp [wsp]), if_neg (by rw [brace_line]; omega), h]
    simp only [Nat.pos_of_ne_zero h0, if_true]
theorem skp_fault {l : Bs} (h : nestN l = none) : skp l = .error l := by
  obtain ⟨r, rfl⟩ := nest_head (l := l) (by rw [h]; simp)
  rw [skp_cons 123, if_neg (by simp [wsp]), if_neg (by rw [brace_line]; omega), h]
theorem skp_rest {l : Bs} (h1 : spn wsp l = 0) (h2 : lineN l = 0) (h3 : nestN l = some 0) : skp l = .ok l := by
  cases l with
  | nil => exact skp_nil
  | cons c r =>
    rw [spn_cons] at h1
    rw [skp_cons, if_neg (by intro hc; rw [if_pos hc] at h1; omega), if_neg (by omega), h3]
    simp
theorem skp_fix : ∀ {l r : Bs}, skp l = .ok r → skp r = .ok r ∧ ∃ n, r = l.drop n := by
  intro l
  induction l using skp.induct with
  | case1 => intro r h; rw [skp_nil] at h; cases h; exact ⟨skp_nil, 0, rfl⟩
  | case2 c r hb ih =>
    intro q h
    rw [skp_cons, if_pos hb] at h
    obtain ⟨h1, n, h2⟩ := ih h
    exact ⟨h1, n + 1, by simpa using h2⟩
  | case3 c r hb hl ih =>
    intro q h
    rw [skp_cons, if_neg hb, if_pos hl] at h
    obtain ⟨h1, n, h2⟩ := ih h
    exact ⟨h1, lineN (c :: r) + n, by rw [h2, List.drop_drop]⟩
  | case4 c r hb hl hn => intro q h; rw [skp_cons, if_neg hb, if_neg hl, hn] at h; cases h
  | case5 c r hb hl n hn h0 ih =>
    intro q h
    rw [skp_cons, if_neg hb, if_neg hl, hn] at h
    simp only [h0, if_true] at h
    obtain ⟨h1, m, h2⟩ := ih h
    exact ⟨h1, n + m, by rw [h2, List.drop_drop]⟩
  | case6 c r hb hl n hn h0 =>
    intro q h
    have h' := h
    rw [skp_cons, if_neg hb, if_neg hl, hn] at h
    simp only [h0, if_false] at h
    cases h; exact ⟨h', 0, rfl⟩
/-! ### Texts -/

theorem byteLoop (bs : ByteArray) : ∀ (n i : Nat) (r : List UInt8), bs.size - i = n → ByteArray.toList.loop bs i r = r.reverse ++ bs.data.toList.drop i := by
  intro n
  induction n with
  | zero =>
    intro i r h
    rw [ByteArray.toList.loop.eq_def, if_neg (by omega), List.drop_eq_nil_of_le (by show bs.size ≤ i; omega)]; simp
  | succ n ih =>
    intro i r h
    have hi : i < bs.data.toList.length := by show i < bs.size; omega
    rw [ByteArray.toList.loop.eq_def, if_pos (by omega), ih (i + 1) _ (by omega), List.drop_eq_getElem_cons hi]
    simp [ByteArray.get!, hi]
    rw [getElem!_pos bs.data i (by simpa using hi)]
theorem ba_toList (b : ByteArray) : b.toList = b.data.toList := by
  rw [ByteArray.toList, byteLoop b b.size 0 [] (by omega)]; simp
theorem tx_toList (l : Bs) : (tx l).toList = l := by rw [ba_toList]; rfl
theorem mk_toList (l : Bs) : (ByteArray.mk l.toArray).toList = l := tx_toList l

theorem tx_bang (l : Bs) {i : Nat} (h : i < l.length) : (tx l)[i]! = l[i] := by
  rw [getElem!_pos (tx l) i (by rw [tx_size]; exact h)]; rfl
theorem firstIdx_tx (l : Bs) (c : UInt8) : firstIdx (tx l) c = if spn (fun d => d != c) l < l.length then (spn (fun d => d != c) l : Int) else -1 := by
  unfold firstIdx
  rw [tx_size]
  cases hf : (List.range l.length).find? (fun i => (tx l)[i]! == c) with
  | none =>
    rw [if_neg]
    intro h
    obtain ⟨d, hd⟩ : ∃ d, l[spn (fun d => d != c) l]? = some d := ⟨_, List.getElem?_eq_getElem h⟩
    have h1 := spn_end hd
    have h2 := List.find?_eq_none.1 hf _ (List.mem_range.2 h)
    rw [tx_bang l h] at h2
    obtain ⟨hh, he⟩ := List.getElem?_eq_some_iff.1 hd
    rw [he] at h2
    simp at h1 h2
    exact h2 h1
  | some i =>
    have h0 := List.find?_some hf
    have hi : i < l.length := by have := List.mem_of_find?_eq_some hf; simpa using this
    rw [tx_bang l hi] at h0
    have h1 : spn (fun d => d != c) l = i := by
      refine spn_eq (by omega) (fun j d hj hd => ?_) (fun d hd => ?_)
      · rcases List.find?_range_eq_some.1 hf with ⟨_, _, h2⟩
        have := h2 j hj
        rw [tx_bang l (by omega)] at this
        obtain ⟨hh, he⟩ := List.getElem?_eq_some_iff.1 hd
        rw [he] at this
        simpa using this
      · obtain ⟨hh, he⟩ := List.getElem?_eq_some_iff.1 hd
        rw [he] at h0; simpa using h0
    rw [if_pos (by omega), h1]

/-! ### Names, marks, operators -/

def keyL : List Bs := [[100, 97, 116, 97], [108, 101, 116], [105, 110], [119, 104, 101, 114, 101], [99, 97, 115, 101], [111, 102], [105, 102], [116, 104, 101, 110], [101, 108, 115, 101]]
def markL : List Bs := [[40], [41], [91], [93], [123], [125], [44], [59], [95], [61], [124], [45, 62], [92]]
def opL : List Bs := [[36], [124, 124], [38, 38], [61, 61], [47, 61], [60], [60, 61], [62], [62, 61], [58], [43], [45], [42], [46]]

/-- The kind that a name is. -/
def nameK : Bs → Int
  | [] => 0
  | c :: r => if 32 < (c :: r).length ∨ digit c = true ∨ c.toNat = 39 ∨ spn inner (c :: r) < (c :: r).length then 0 else
    if large c then 2 else if keyL.contains (c :: r) then 6 else if (c :: r) == [95] then 7 else 1
theorem nameK_zero {c : UInt8} {r : Bs} (h : 32 < (c :: r).length ∨ digit c = true ∨ c.toNat = 39 ∨ spn inner (c :: r) < (c :: r).length) : nameK (c :: r) = 0 := by rw [nameK, if_pos h]
theorem nameK_else {c : UInt8} {r : Bs} (h : ¬ (32 < (c :: r).length ∨ digit c = true ∨ c.toNat = 39 ∨ spn inner (c :: r) < (c :: r).length)) :
    nameK (c :: r) = if large c then 2 else if keyL.contains (c :: r) then 6 else if (c :: r) == [95] then 7 else 1 := by rw [nameK, if_neg h]

theorem tk2 {l : Bs} {a b : UInt8} (h : l.take 2 = [a, b]) : l = a :: b :: l.drop 2 := by
  conv => lhs; rw [← List.take_append_drop 2 l, h]
  rfl
theorem nestN_no {l : Bs} (h : l.take 2 ≠ [123, 45]) : nestN l = some 0 := by
  unfold nestN
  split
  · exact absurd rfl h
  · rfl
/-- A comment at a depth; at depth 0: at its beginning. -/
def nz (d : Nat) (l : Bs) : Option Nat := if d = 0 then nestN l else nst d l
theorem nz_open (d : Nat) (l : Bs) : nz d (123 :: 45 :: l) = (nst (d + 1) l).map (· + 2) := by
  unfold nz
  split
  · rename_i h; subst h; rfl
  · rw [nst]
theorem nst_step {d : Nat} {c : UInt8} {l : Bs} (h1 : (c :: l).take 2 ≠ [123, 45]) (h2 : (c :: l).take 2 ≠ [45, 125]) : nst d (c :: l) = (nst d l).map (· + 1) := by
  rw [nst]
  · rintro l' rfl rfl; exact h1 rfl
  · rintro l' rfl rfl; exact h2 rfl

/-! ### Numbers -/

/-- A digit's number, in whatever base; 99: it is none. -/
def dg (c : UInt8) : Nat := if digit c then c.toNat - 48 else if 97 ≤ (c ||| 32).toNat ∧ (c ||| 32).toNat ≤ 122 then (c ||| 32).toNat - 87 else 99
inductive PU where
  | ok (n : Nat)
  | syn
  | rng
/-- A number that is read: B: the base; mx: the greatest one. -/
def puS (B mx : Nat) : Nat → Bs → PU
  | n, [] => .ok n
  | n, c :: l => if B ≤ dg c then .syn else if mx < n * B + dg c then .rng else puS B mx (n * B + dg c) l

def wr3 : Bs → UInt8 × Nat
  | a :: b :: _ => if dg a < 16 ∧ dg b < 16 then (UInt8.ofNat (16 * dg a + dg b), 4) else (0, 0)
  | _ => (0, 0)
def wr2 : Bs → UInt8 × Nat
  | [] => (0, 0)
  | d :: q => if d.toNat = 110 then (10, 2) else if d.toNat = 116 then (9, 2) else if d.toNat = 92 ∨ d.toNat = 39 ∨ d.toNat = 34 then (d, 2) else
      if d.toNat = 120 then wr3 q else (0, 0)
/-- The byte that is written first, and how many bytes write it; 0: none is. -/
def wr : Bs → UInt8 × Nat
  | [] => (0, 0)
  | c :: r => if c.toNat < 32 ∨ 126 < c.toNat then (0, 0) else if ¬ c.toNat = 92 then (c, 1) else wr2 r
theorem pu16 (a b : UInt8) : puS 16 255 0 [a, b] = if dg a < 16 ∧ dg b < 16 then .ok (16 * dg a + dg b) else .syn := by
  simp only [puS]
  by_cases h1 : 16 ≤ dg a
  · rw [if_pos h1, if_neg (by omega)]
  · rw [if_neg h1, if_neg (by omega)]
    by_cases h2 : 16 ≤ dg b
    · rw [if_pos h2, if_neg (by omega)]
    · rw [if_neg h2, if_neg (by omega), if_pos (by omega)]; congr 1; omega

theorem wr3_le (q : Bs) : (wr3 q).2 = 0 ∨ (wr3 q).2 = 4 ∧ 2 ≤ q.length := by
  rcases q with _ | ⟨a, _ | ⟨b, q⟩⟩
  · exact .inl rfl
  · exact .inl rfl
  · simp only [wr3]; split
    · exact .inr ⟨rfl, by simp⟩
    · exact .inl rfl
theorem wr_le : ∀ l : Bs, (wr l).2 ≤ l.length := by
  intro l
  cases l with
  | nil => simp [wr]
  | cons c r =>
    simp only [wr]
    split
    · simp
    · split
      · simp
      · cases r with
        | nil => simp [wr2]
        | cons d q =>
          simp only [wr2]
          split
          · simp
          · split
            · simp
            · split
              · simp
              · split
                · rcases wr3_le q with e | ⟨e, e2⟩ <;> simp [e]; omega
                · simp

/-! ### Tokens -/

/-- A token: its kind, text, number, place. -/
structure Tk where
  k : Int
  t : Bs
  n : Int
  a : Nat

/-- The number that digits are. -/
def intV (l : Bs) : Option Nat := match puS 10 18446744073709551615 0 l with
  | .ok n => if n < 9223372036854775808 then some n else none
  | _ => none

/-- What stands in quotes, and how many bytes up to the end. -/
def qt (q : UInt8) (l : Bs) : Option (Bs × Nat) :=
  match l with
  | [] => none
  | c :: r => if c = q then some ([], 0) else if h : (wr (c :: r)).2 = 0 then none else
    (qt q ((c :: r).drop (wr (c :: r)).2)).map fun x => ((wr (c :: r)).1 :: x.1, (wr (c :: r)).2 + x.2)
termination_by l.length
decreasing_by simp; omega
theorem qt_nil (q : UInt8) : qt q [] = none := by rw [qt]
theorem qt_cons (q c : UInt8) (r : Bs) : qt q (c :: r) = if c = q then some ([], 0) else if (wr (c :: r)).2 = 0 then none else
    (qt q ((c :: r).drop (wr (c :: r)).2)).map fun x => ((wr (c :: r)).1 :: x.1, (wr (c :: r)).2 + x.2) := by
  rw [qt]; rfl

/-- The token that comes: its kind, text, number, and how many bytes it has. -/
def tokS : Bs → Option (Int × Bs × Int × Nat)
  | [] => none
  | c :: r =>
    if small c || large c then
      (if nameK ((c :: r).take (spn inner (c :: r))) = 0 then none else some (nameK ((c :: r).take (spn inner (c :: r))), (c :: r).take (spn inner (c :: r)), 0, spn inner (c :: r)))
    else if digit c then (intV ((c :: r).take (spn digit (c :: r)))).map fun v => (3, [], (v : Int), spn digit (c :: r))
    else if c.toNat = 39 ∨ c.toNat = 34 then
      match qt c r with
      | none => none
      | some (bs, n) => if c.toNat = 34 then some (5, bs, 0, n + 2) else
        match bs with
        | [x] => some (4, [], (x.toNat : Int), n + 2)
        | _ => none
    else if symb c then
      (if markL.contains ((c :: r).take (spn symb (c :: r))) then some (7, (c :: r).take (spn symb (c :: r)), 0, spn symb (c :: r))
      else if opL.contains ((c :: r).take (spn symb (c :: r))) then some (8, (c :: r).take (spn symb (c :: r)), 0, spn symb (c :: r)) else none)
    else if markL.contains [c] then some (7, [c], 0, 1) else none

theorem qt_le {q : UInt8} : ∀ {l : Bs} {bs : Bs} {n : Nat}, qt q l = some (bs, n) → n < l.length ∧ l[n]? = some q := by
  intro l
  induction l using (qt.induct q) with
  | case1 => intro bs n h; rw [qt_nil] at h; cases h
  | case2 r => intro bs n h; rw [qt_cons, if_pos rfl] at h; cases h; simp
  | case3 c r hc hw => intro bs n h; rw [qt_cons, if_neg hc, if_pos hw] at h; cases h
  | case4 c r hc hw ih =>
    intro bs n h
    rw [qt_cons, if_neg hc, if_neg hw] at h
    obtain ⟨⟨b2, m⟩, h1, h2⟩ := Option.map_eq_some_iff.1 h
    simp only [Prod.mk.injEq] at h2
    obtain ⟨_, rfl⟩ := h2
    obtain ⟨h3, h4⟩ := ih h1
    rw [List.length_drop] at h3
    rw [List.getElem?_drop] at h4
    exact ⟨by omega, h4⟩
theorem tokS_pos {l : Bs} {k v : Int} {t : Bs} {n : Nat} (h : tokS l = some (k, t, v, n)) : 0 < n ∧ n ≤ l.length := by
  cases l with
  | nil => simp [tokS] at h
  | cons c r =>
    simp only [tokS] at h
    split at h
    · rename_i hc
      split at h
      · cases h
      · simp only [Option.some.injEq, Prod.mk.injEq] at h
        obtain ⟨_, _, _, rfl⟩ := h
        refine ⟨?_, spn_le _ _⟩
        rw [spn_cons, if_pos (by simp only [Bool.or_eq_true] at hc; simp only [inner, Bool.or_eq_true]; exact .inl (.inl hc))]; omega
    · split at h
      · rename_i hc
        obtain ⟨v', _, h2⟩ := Option.map_eq_some_iff.1 h
        simp only [Prod.mk.injEq] at h2
        obtain ⟨_, _, _, rfl⟩ := h2
        refine ⟨?_, spn_le _ _⟩
        rw [spn_cons, if_pos hc]; omega
      · split at h
        · split at h
          · cases h
          · rename_i bs m hq
            have := (qt_le hq).1
            split at h
            · cases h; simp; omega
            · split at h
              · cases h; simp; omega
              · cases h
        · split at h
          · rename_i hc
            split at h
            · simp only [Option.some.injEq, Prod.mk.injEq] at h
              obtain ⟨_, _, _, rfl⟩ := h
              exact ⟨by rw [spn_cons, if_pos hc]; omega, spn_le _ _⟩
            · split at h
              · simp only [Option.some.injEq, Prod.mk.injEq] at h
                obtain ⟨_, _, _, rfl⟩ := h
                exact ⟨by rw [spn_cons, if_pos hc]; omega, spn_le _ _⟩
              · cases h
          · split at h
            · cases h; simp
            · cases h

theorem skp_len {l r : Bs} (h : skp l = .ok r) : r.length ≤ l.length := by
  obtain ⟨_, n, rfl⟩ := skp_fix h; simp

/-- The tokens of what is left of a text of N bytes; or where the fault is. -/
def toks (N : Nat) (l : Bs) : Except Nat (List Tk) :=
  match h : skp l with
  | .error r => .error (N - r.length)
  | .ok r =>
    if r = [] then .ok [] else
    match ht : tokS r with
    | none => .error (N - r.length)
    | some (k, t, v, n) => match toks N (r.drop n) with
      | .error e => .error e
      | .ok ts => .ok (⟨k, t, v, N - r.length⟩ :: ts)
termination_by l.length
decreasing_by
  have h1 := skp_len h
  have h2 := tokS_pos ht
  simp; omega
theorem toks_eq (N : Nat) (l : Bs) : toks N l = match skp l with
  | .error r => .error (N - r.length)
  | .ok r =>
    if r = [] then .ok [] else
    match tokS r with
    | none => .error (N - r.length)
    | some (k, t, v, n) => match toks N (r.drop n) with
      | .error e => .error e
      | .ok ts => .ok (⟨k, t, v, N - r.length⟩ :: ts) := by
  rw [toks]
  split
  · rename_i r h; rw [h]
  · rename_i r h
    rw [h]
    dsimp only
    split
    · rfl
    · split
      · rename_i ht; rw [ht]
      · rename_i k t v n ht; rw [ht]
/-- Tokens ahead of others. -/
def pre (ts : List Tk) : Except Nat (List Tk) → Except Nat (List Tk)
  | .error e => .error e
  | .ok us => .ok (ts ++ us)
theorem pre_nil (x : Except Nat (List Tk)) : pre [] x = x := by cases x <;> rfl
theorem pre_pre (a b : List Tk) (x : Except Nat (List Tk)) : pre a (pre b x) = pre (a ++ b) x := by cases x <;> simp [pre]
theorem toks_skip {N : Nat} {l r : Bs} (h : skp l = .ok r) : toks N l = toks N r := by
  rw [toks_eq N l, toks_eq N r, h, (skp_fix h).1]
theorem toks_step {N : Nat} {r : Bs} (h : skp r = .ok r) (h0 : r ≠ []) {k v : Int} {t : Bs} {n : Nat} (ht : tokS r = some (k, t, v, n)) : toks N r = pre [⟨k, t, v, N - r.length⟩] (toks N (r.drop n)) := by
  rw [toks_eq N r, h]
  simp only [h0, if_false, ht]
  cases toks N (r.drop n) <;> rfl
theorem toks_none {N : Nat} {r : Bs} (h : skp r = .ok r) (h0 : r ≠ []) (ht : tokS r = none) : toks N r = .error (N - r.length) := by
  rw [toks_eq N r, h]
  simp only [h0, if_false, ht]
theorem toks_end (N : Nat) : toks N [] = .ok [] := by rw [toks_eq, skp_nil]; rfl
theorem toks_fault {N : Nat} {l r : Bs} (h : skp l = .error r) : toks N l = .error (N - r.length) := by rw [toks_eq, h]

end Go.Scn

/- Tokens: bytes and names. -/
set_option linter.unusedVariables false
set_option linter.unusedSimpArgs false
namespace Go.S07
open Go Go.Eng Go.Proofs Go.Scn
theorem hP : noGoroutines Tryd.prog = true := by kernel_rfl
theorem hM : Tryd.prog.follows .mixedOrders = true := by kernel_rfl

abbrev bv (c : UInt8) : Value := .int .u8 (c.toNat : Int)
abbrev tv (l : Bs) : Value := .string (tx l)
/-- A byte's kind, as a function says. -/
def Says (f : FuncId) (p : UInt8 → Bool) : Prop := ∀ (c : UInt8) (h : AH), Gets Tryd.prog f [bv c] h (fun res h' => h' = h ∧ res = .ret (.bool (p c)))

theorem isSmall_ok : Says 44 small := by
  intro c h
  refine Gets.of (keep := false) hP (draw_ok hM) k44 (by rfl) (fun Ψ hΨ => ?_)
  by_cases h1 : (97:Int) ≤ c.toNat <;> by_cases h2 : (c.toNat : Int) ≤ 122 <;>
    (simp only [mach, mach2, mstd, ↓reduceIte, Nat.reduceEqDiff, Nat.reduceAdd, Nat.reduceMul, r44, h1, h2]; exact hΨ _ _ (fin_ret (rv1 rfl ⟨rfl, by
      first
        | exact congrArg (fun b => Res.ret (.bool b)) (decide_eq_true (by omega)).symm
        | exact congrArg (fun b => Res.ret (.bool b)) (by unfold small; rw [decide_eq_decide]; omega)⟩)))
theorem isLarge_ok : Says 34 large := by
  intro c h
  refine Gets.of (keep := false) hP (draw_ok hM) k34 (by rfl) (fun Ψ hΨ => ?_)
  by_cases h1 : (65:Int) ≤ c.toNat <;> by_cases h2 : (c.toNat : Int) ≤ 90 <;>
    (simp only [mach, mach2, mstd, ↓reduceIte, Nat.reduceEqDiff, Nat.reduceAdd, Nat.reduceMul, r34, h1, h2]; exact hΨ _ _ (fin_ret (rv1 rfl ⟨rfl, (by first | exact congrArg (fun b => Res.ret (.bool b)) (decide_eq_true (by omega)).symm | exact congrArg (fun b => Res.ret (.bool b)) (decide_eq_false (by omega)).symm)⟩)))
theorem isDigit_ok : Says 31 digit := by
  intro c h
  refine Gets.of (keep := false) hP (draw_ok hM) k31 (by rfl) (fun Ψ hΨ => ?_)
  by_cases h1 : (48:Int) ≤ c.toNat <;> by_cases h2 : (c.toNat : Int) ≤ 57 <;>
    (simp only [mach, mach2, mstd, ↓reduceIte, Nat.reduceEqDiff, Nat.reduceAdd, Nat.reduceMul, r31, h1, h2]; exact hΨ _ _ (fin_ret (rv1 rfl ⟨rfl, (by first | exact congrArg (fun b => Res.ret (.bool b)) (decide_eq_true (by omega)).symm | exact congrArg (fun b => Res.ret (.bool b)) (decide_eq_false (by omega)).symm)⟩)))
theorem isInner_ok : Says 33 inner := by
  intro c h
  refine Gets.of (keep := false) hP (draw_ok hM) k33 (by rfl) (fun Ψ hΨ => ?_)
  simp only [mach, mach2, mstd, ↓reduceIte, Nat.reduceEqDiff, Nat.reduceAdd, Nat.reduceMul, r33]
  refine XX_val (isSmall_ok c h) ?_
  cases h1 : small c with
  | true => simp only [mach, mach2, mstd, ↓reduceIte, Nat.reduceEqDiff, Nat.reduceAdd, Nat.reduceMul]; exact hΨ _ _ (fin_ret (rv1 rfl ⟨rfl, by simp [tup, inner, h1]⟩))
  | false =>
  simp only [mach, mach2, mstd, ↓reduceIte, Nat.reduceEqDiff, Nat.reduceAdd, Nat.reduceMul]
  refine XX_val (isLarge_ok c h) ?_
  cases h2 : large c with
  | true => simp only [mach, mach2, mstd, ↓reduceIte, Nat.reduceEqDiff, Nat.reduceAdd, Nat.reduceMul]; exact hΨ _ _ (fin_ret (rv1 rfl ⟨rfl, by simp [tup, inner, h2]⟩))
  | false =>
  simp only [mach, mach2, mstd, ↓reduceIte, Nat.reduceEqDiff, Nat.reduceAdd, Nat.reduceMul]
  refine XX_val (isDigit_ok c h) ?_
  cases h3 : digit c with
  | true => simp only [mach, mach2, mstd, ↓reduceIte, Nat.reduceEqDiff, Nat.reduceAdd, Nat.reduceMul]; exact hΨ _ _ (fin_ret (rv1 rfl ⟨rfl, by simp [tup, inner, h3]⟩))
  | false =>
  simp only [mach, mach2, mstd, ↓reduceIte, Nat.reduceEqDiff, Nat.reduceAdd, Nat.reduceMul]
  exact hΨ _ _ (fin_ret (rv1 rfl ⟨rfl, by
    have : (c.toNat == 39) = decide (c.toNat = 39) := rfl
    simp only [tup, inner, h1, h2, h3, Bool.false_or]
    exact congrArg (fun b => Res.ret (.bool b)) (by rw [decide_eq_decide]; omega)⟩))

theorem indexBS_ok (l : Bs) (c : UInt8) (h : AH) : Gets Tryd.prog 81 [tv l, bv c] h (fun res h' => h' = h ∧ res = .ret (iv (if spn (fun d => d != c) l < l.length then (spn (fun d => d != c) l : Int) else -1))) := by
  refine Gets.extRun (e := Extern.BytealgIndexByte.indexByte) (fn := Tryd.prog.funcs[81]!) (by kernel_rfl) (by kernel_rfl) (by kernel_rfl) (by kernel_rfl) (by kernel_rfl) rfl rfl (fun w => ?_) h ⟨rfl, rfl⟩
  rw [run_indexByte_string, firstIdx_tx]
  simp
theorem indexByte1_ok (l : Bs) (c : UInt8) (h : AH) : Gets Tryd.prog 71 [tv l, bv c] h (fun res h' => h' = h ∧ res = .ret (iv (if spn (fun d => d != c) l < l.length then (spn (fun d => d != c) l : Int) else -1))) := by
  refine Gets.of (keep := false) hP (draw_ok hM) k71 (by rfl) (fun Ψ hΨ => ?_)
  simp only [mach, mach2, mstd, ↓reduceIte, Nat.reduceEqDiff, Nat.reduceAdd, Nat.reduceMul, r71]
  refine XX_val (indexBS_ok l c h) ?_
  simp only [mach, mach2, mstd, ↓reduceIte, Nat.reduceEqDiff, Nat.reduceAdd, Nat.reduceMul]
  exact hΨ _ _ (fin_ret (rv1 rfl ⟨rfl, rfl⟩))
theorem indexByte_ok (l : Bs) (c : UInt8) (h : AH) : Gets Tryd.prog 62 [tv l, bv c] h (fun res h' => h' = h ∧ res = .ret (iv (if spn (fun d => d != c) l < l.length then (spn (fun d => d != c) l : Int) else -1))) := by
  refine Gets.of (keep := false) hP (draw_ok hM) k62 (by rfl) (fun Ψ hΨ => ?_)
  simp only [mach, mach2, mstd, ↓reduceIte, Nat.reduceEqDiff, Nat.reduceAdd, Nat.reduceMul, r62]
  refine XX_val (indexByte1_ok l c h) ?_
  simp only [mach, mach2, mstd, ↓reduceIte, Nat.reduceEqDiff, Nat.reduceAdd, Nat.reduceMul]
  exact hΨ _ _ (fin_ret (rv1 rfl ⟨rfl, rfl⟩))

theorem isSymbol_ok : Says 48 symb := by
  intro c h
  refine Gets.of (keep := false) hP (draw_ok hM) k48 (by rfl) (fun Ψ hΨ => ?_)
  simp only [mach, mach2, mstd, ↓reduceIte, Nat.reduceEqDiff, Nat.reduceAdd, Nat.reduceMul, r48]
  refine XX_val (indexByte_ok symL c h) ?_
  have key : symb c = decide (spn (fun d => d != c) symL < symL.length) := by
    rw [Bool.eq_iff_iff]
    simp only [symb, List.contains_iff_mem, decide_eq_true_eq]
    constructor
    · intro hm
      rcases Nat.lt_or_ge (spn (fun d => d != c) symL) symL.length with h1 | h1
      · exact h1
      · exfalso
        obtain ⟨i, hi, hc⟩ := List.getElem_of_mem hm
        obtain ⟨d, h2, h3⟩ := spn_at (p := fun d => d != c) (l := symL) (i := i) (by omega)
        rw [List.getElem?_eq_getElem hi, hc] at h2
        cases h2; simp at h3
    · intro h1
      have h2 := spn_end (p := fun d => d != c) (l := symL) (c := symL[spn (fun d => d != c) symL]) (List.getElem?_eq_getElem h1)
      have : symL[spn (fun d => d != c) symL] = c := by simpa using h2
      rw [← this]; exact List.getElem_mem h1
  by_cases h1 : spn (fun d => d != c) symL < symL.length
  · have h2 : (0:Int) ≤ (spn (fun d => d != c) symL : Int) := by omega
    simp only [mach, mach2, mstd, ↓reduceIte, Nat.reduceEqDiff, Nat.reduceAdd, Nat.reduceMul, h1, h2]
    exact hΨ _ _ (fin_ret (rv1 rfl ⟨rfl, by simp [tup, key, h1]⟩))
  · simp only [mach, mach2, mstd, ↓reduceIte, Nat.reduceEqDiff, Nat.reduceAdd, Nat.reduceMul, h1, show ((0:Int) ≤ -1) = False by simp]
    exact hΨ _ _ (fin_ret (rv1 rfl ⟨rfl, by simp [tup, key, h1]⟩))


theorem isKey_ok (l : Bs) (h : AH) : Gets Tryd.prog 35 [tv l] h (fun res h' => h' = h ∧ res = .ret (.bool (keyL.contains l))) := by
  refine Gets.of (keep := false) hP (draw_ok hM) k35 (by rfl) (fun Ψ hΨ => ?_)
  cases a0 : (l == [100, 97, 116, 97]) with
  | true =>
    simp only [mach, mach2, mstd, ↓reduceIte, Nat.reduceEqDiff, Nat.reduceAdd, Nat.reduceMul, r35, tx_toList, mk_toList, a0]
    exact hΨ _ _ (fin_ret (rv1 rfl ⟨rfl, by rw [eq_of_beq a0]; rfl⟩))
  | false =>
  cases a1 : (l == [108, 101, 116]) with
  | true =>
    simp only [mach, mach2, mstd, ↓reduceIte, Nat.reduceEqDiff, Nat.reduceAdd, Nat.reduceMul, r35, tx_toList, mk_toList, a0, a1]
    exact hΨ _ _ (fin_ret (rv1 rfl ⟨rfl, by rw [eq_of_beq a1]; rfl⟩))
  | false =>
  cases a2 : (l == [105, 110]) with
  | true =>
    simp only [mach, mach2, mstd, ↓reduceIte, Nat.reduceEqDiff, Nat.reduceAdd, Nat.reduceMul, r35, tx_toList, mk_toList, a0, a1, a2]
    exact hΨ _ _ (fin_ret (rv1 rfl ⟨rfl, by rw [eq_of_beq a2]; rfl⟩))
  | false =>
  cases a3 : (l == [119, 104, 101, 114, 101]) with
  | true =>
    simp only [mach, mach2, mstd, ↓reduceIte, Nat.reduceEqDiff, Nat.reduceAdd, Nat.reduceMul, r35, tx_toList, mk_toList, a0, a1, a2, a3]
    exact hΨ _ _ (fin_ret (rv1 rfl ⟨rfl, by rw [eq_of_beq a3]; rfl⟩))
  | false =>
  cases a4 : (l == [99, 97, 115, 101]) with
  | true =>
    simp only [mach, mach2, mstd, ↓reduceIte, Nat.reduceEqDiff, Nat.reduceAdd, Nat.reduceMul, r35, tx_toList, mk_toList, a0, a1, a2, a3, a4]
    exact hΨ _ _ (fin_ret (rv1 rfl ⟨rfl, by rw [eq_of_beq a4]; rfl⟩))
  | false =>
  cases a5 : (l == [111, 102]) with
  | true =>
    simp only [mach, mach2, mstd, ↓reduceIte, Nat.reduceEqDiff, Nat.reduceAdd, Nat.reduceMul, r35, tx_toList, mk_toList, a0, a1, a2, a3, a4, a5]
    exact hΨ _ _ (fin_ret (rv1 rfl ⟨rfl, by rw [eq_of_beq a5]; rfl⟩))
  | false =>
  cases a6 : (l == [105, 102]) with
  | true =>
    simp only [mach, mach2, mstd, ↓reduceIte, Nat.reduceEqDiff, Nat.reduceAdd, Nat.reduceMul, r35, tx_toList, mk_toList, a0, a1, a2, a3, a4, a5, a6]
    exact hΨ _ _ (fin_ret (rv1 rfl ⟨rfl, by rw [eq_of_beq a6]; rfl⟩))
  | false =>
  cases a7 : (l == [116, 104, 101, 110]) with
  | true =>
    simp only [mach, mach2, mstd, ↓reduceIte, Nat.reduceEqDiff, Nat.reduceAdd, Nat.reduceMul, r35, tx_toList, mk_toList, a0, a1, a2, a3, a4, a5, a6, a7]
    exact hΨ _ _ (fin_ret (rv1 rfl ⟨rfl, by rw [eq_of_beq a7]; rfl⟩))
  | false =>
  cases a8 : (l == [101, 108, 115, 101]) with
  | true =>
    simp only [mach, mach2, mstd, ↓reduceIte, Nat.reduceEqDiff, Nat.reduceAdd, Nat.reduceMul, r35, tx_toList, mk_toList, a0, a1, a2, a3, a4, a5, a6, a7, a8]
    exact hΨ _ _ (fin_ret (rv1 rfl ⟨rfl, by rw [eq_of_beq a8]; rfl⟩))
  | false =>
  simp only [mach, mach2, mstd, ↓reduceIte, Nat.reduceEqDiff, Nat.reduceAdd, Nat.reduceMul, r35, tx_toList, mk_toList, a0, a1, a2, a3, a4, a5, a6, a7, a8]
  exact hΨ _ _ (fin_ret (rv1 rfl ⟨rfl, by simp only [keyL, List.contains_cons, a0, a1, a2, a3, a4, a5, a6, a7, a8]; rfl⟩))
theorem isMark_ok (l : Bs) (h : AH) : Gets Tryd.prog 49 [tv l] h (fun res h' => h' = h ∧ res = .ret (.bool (markL.contains l))) := by
  refine Gets.of (keep := false) hP (draw_ok hM) k49 (by rfl) (fun Ψ hΨ => ?_)
  cases a0 : (l == [40]) with
  | true =>
    simp only [mach, mach2, mstd, ↓reduceIte, Nat.reduceEqDiff, Nat.reduceAdd, Nat.reduceMul, r49, tx_toList, mk_toList, a0]
    exact hΨ _ _ (fin_ret (rv1 rfl ⟨rfl, by rw [eq_of_beq a0]; rfl⟩))
  | false =>
  cases a1 : (l == [41]) with
  | true =>
    simp only [mach, mach2, mstd, ↓reduceIte, Nat.reduceEqDiff, Nat.reduceAdd, Nat.reduceMul, r49, tx_toList, mk_toList, a0, a1]
    exact hΨ _ _ (fin_ret (rv1 rfl ⟨rfl, by rw [eq_of_beq a1]; rfl⟩))
  | false =>
  cases a2 : (l == [91]) with
  | true =>
    simp only [mach, mach2, mstd, ↓reduceIte, Nat.reduceEqDiff, Nat.reduceAdd, Nat.reduceMul, r49, tx_toList, mk_toList, a0, a1, a2]
    exact hΨ _ _ (fin_ret (rv1 rfl ⟨rfl, by rw [eq_of_beq a2]; rfl⟩))
  | false =>
  cases a3 : (l == [93]) with
  | true =>
    simp only [mach, mach2, mstd, ↓reduceIte, Nat.reduceEqDiff, Nat.reduceAdd, Nat.reduceMul, r49, tx_toList, mk_toList, a0, a1, a2, a3]
    exact hΨ _ _ (fin_ret (rv1 rfl ⟨rfl, by rw [eq_of_beq a3]; rfl⟩))
  | false =>
  cases a4 : (l == [123]) with
  | true =>
    simp only [mach, mach2, mstd, ↓reduceIte, Nat.reduceEqDiff, Nat.reduceAdd, Nat.reduceMul, r49, tx_toList, mk_toList, a0, a1, a2, a3, a4]
    exact hΨ _ _ (fin_ret (rv1 rfl ⟨rfl, by rw [eq_of_beq a4]; rfl⟩))
  | false =>
  cases a5 : (l == [125]) with
  | true =>
    simp only [mach, mach2, mstd, ↓reduceIte, Nat.reduceEqDiff, Nat.reduceAdd, Nat.reduceMul, r49, tx_toList, mk_toList, a0, a1, a2, a3, a4, a5]
    exact hΨ _ _ (fin_ret (rv1 rfl ⟨rfl, by rw [eq_of_beq a5]; rfl⟩))
  | false =>
  cases a6 : (l == [44]) with
  | true =>
    simp only [mach, mach2, mstd, ↓reduceIte, Nat.reduceEqDiff, Nat.reduceAdd, Nat.reduceMul, r49, tx_toList, mk_toList, a0, a1, a2, a3, a4, a5, a6]
    exact hΨ _ _ (fin_ret (rv1 rfl ⟨rfl, by rw [eq_of_beq a6]; rfl⟩))
  | false =>
  cases a7 : (l == [59]) with
  | true =>
    simp only [mach, mach2, mstd, ↓reduceIte, Nat.reduceEqDiff, Nat.reduceAdd, Nat.reduceMul, r49, tx_toList, mk_toList, a0, a1, a2, a3, a4, a5, a6, a7]
    exact hΨ _ _ (fin_ret (rv1 rfl ⟨rfl, by rw [eq_of_beq a7]; rfl⟩))
  | false =>
  cases a8 : (l == [95]) with
  | true =>
    simp only [mach, mach2, mstd, ↓reduceIte, Nat.reduceEqDiff, Nat.reduceAdd, Nat.reduceMul, r49, tx_toList, mk_toList, a0, a1, a2, a3, a4, a5, a6, a7, a8]
    exact hΨ _ _ (fin_ret (rv1 rfl ⟨rfl, by rw [eq_of_beq a8]; rfl⟩))
  | false =>
  cases a9 : (l == [61]) with
  | true =>
    simp only [mach, mach2, mstd, ↓reduceIte, Nat.reduceEqDiff, Nat.reduceAdd, Nat.reduceMul, r49, tx_toList, mk_toList, a0, a1, a2, a3, a4, a5, a6, a7, a8, a9]
    exact hΨ _ _ (fin_ret (rv1 rfl ⟨rfl, by rw [eq_of_beq a9]; rfl⟩))
  | false =>
  cases a10 : (l == [124]) with
  | true =>
    simp only [mach, mach2, mstd, ↓reduceIte, Nat.reduceEqDiff, Nat.reduceAdd, Nat.reduceMul, r49, tx_toList, mk_toList, a0, a1, a2, a3, a4, a5, a6, a7, a8, a9, a10]
    exact hΨ _ _ (fin_ret (rv1 rfl ⟨rfl, by rw [eq_of_beq a10]; rfl⟩))
  | false =>
  cases a11 : (l == [45, 62]) with
  | true =>
    simp only [mach, mach2, mstd, ↓reduceIte, Nat.reduceEqDiff, Nat.reduceAdd, Nat.reduceMul, r49, tx_toList, mk_toList, a0, a1, a2, a3, a4, a5, a6, a7, a8, a9, a10, a11]
    exact hΨ _ _ (fin_ret (rv1 rfl ⟨rfl, by rw [eq_of_beq a11]; rfl⟩))
  | false =>
  cases a12 : (l == [92]) with
  | true =>
    simp only [mach, mach2, mstd, ↓reduceIte, Nat.reduceEqDiff, Nat.reduceAdd, Nat.reduceMul, r49, tx_toList, mk_toList, a0, a1, a2, a3, a4, a5, a6, a7, a8, a9, a10, a11, a12]
    exact hΨ _ _ (fin_ret (rv1 rfl ⟨rfl, by rw [eq_of_beq a12]; rfl⟩))
  | false =>
  simp only [mach, mach2, mstd, ↓reduceIte, Nat.reduceEqDiff, Nat.reduceAdd, Nat.reduceMul, r49, tx_toList, mk_toList, a0, a1, a2, a3, a4, a5, a6, a7, a8, a9, a10, a11, a12]
  exact hΨ _ _ (fin_ret (rv1 rfl ⟨rfl, by simp only [markL, List.contains_cons, a0, a1, a2, a3, a4, a5, a6, a7, a8, a9, a10, a11, a12]; rfl⟩))
theorem isOperator_ok (l : Bs) (h : AH) : Gets Tryd.prog 50 [tv l] h (fun res h' => h' = h ∧ res = .ret (.bool (opL.contains l))) := by
  refine Gets.of (keep := false) hP (draw_ok hM) k50 (by rfl) (fun Ψ hΨ => ?_)
  cases a0 : (l == [36]) with
  | true =>
    simp only [mach, mach2, mstd, ↓reduceIte, Nat.reduceEqDiff, Nat.reduceAdd, Nat.reduceMul, r50, tx_toList, mk_toList, a0]
    exact hΨ _ _ (fin_ret (rv1 rfl ⟨rfl, by rw [eq_of_beq a0]; rfl⟩))
  | false =>
  cases a1 : (l == [124, 124]) with
  | true =>
    simp only [mach, mach2, mstd, ↓reduceIte, Nat.reduceEqDiff, Nat.reduceAdd, Nat.reduceMul, r50, tx_toList, mk_toList, a0, a1]
    exact hΨ _ _ (fin_ret (rv1 rfl ⟨rfl, by rw [eq_of_beq a1]; rfl⟩))
  | false =>
  cases a2 : (l == [38, 38]) with
  | true =>
    simp only [mach, mach2, mstd, ↓reduceIte, Nat.reduceEqDiff, Nat.reduceAdd, Nat.reduceMul, r50, tx_toList, mk_toList, a0, a1, a2]
    exact hΨ _ _ (fin_ret (rv1 rfl ⟨rfl, by rw [eq_of_beq a2]; rfl⟩))
  | false =>
  cases a3 : (l == [61, 61]) with
  | true =>
    simp only [mach, mach2, mstd, ↓reduceIte, Nat.reduceEqDiff, Nat.reduceAdd, Nat.reduceMul, r50, tx_toList, mk_toList, a0, a1, a2, a3]
    exact hΨ _ _ (fin_ret (rv1 rfl ⟨rfl, by rw [eq_of_beq a3]; rfl⟩))
  | false =>
  cases a4 : (l == [47, 61]) with
  | true =>
    simp only [mach, mach2, mstd, ↓reduceIte, Nat.reduceEqDiff, Nat.reduceAdd, Nat.reduceMul, r50, tx_toList, mk_toList, a0, a1, a2, a3, a4]
    exact hΨ _ _ (fin_ret (rv1 rfl ⟨rfl, by rw [eq_of_beq a4]; rfl⟩))
  | false =>
  cases a5 : (l == [60]) with
  | true =>
    simp only [mach, mach2, mstd, ↓reduceIte, Nat.reduceEqDiff, Nat.reduceAdd, Nat.reduceMul, r50, tx_toList, mk_toList, a0, a1, a2, a3, a4, a5]
    exact hΨ _ _ (fin_ret (rv1 rfl ⟨rfl, by rw [eq_of_beq a5]; rfl⟩))
  | false =>
  cases a6 : (l == [60, 61]) with
  | true =>
    simp only [mach, mach2, mstd, ↓reduceIte, Nat.reduceEqDiff, Nat.reduceAdd, Nat.reduceMul, r50, tx_toList, mk_toList, a0, a1, a2, a3, a4, a5, a6]
    exact hΨ _ _ (fin_ret (rv1 rfl ⟨rfl, by rw [eq_of_beq a6]; rfl⟩))
  | false =>
  cases a7 : (l == [62]) with
  | true =>
    simp only [mach, mach2, mstd, ↓reduceIte, Nat.reduceEqDiff, Nat.reduceAdd, Nat.reduceMul, r50, tx_toList, mk_toList, a0, a1, a2, a3, a4, a5, a6, a7]
    exact hΨ _ _ (fin_ret (rv1 rfl ⟨rfl, by rw [eq_of_beq a7]; rfl⟩))
  | false =>
  cases a8 : (l == [62, 61]) with
  | true =>
    simp only [mach, mach2, mstd, ↓reduceIte, Nat.reduceEqDiff, Nat.reduceAdd, Nat.reduceMul, r50, tx_toList, mk_toList, a0, a1, a2, a3, a4, a5, a6, a7, a8]
    exact hΨ _ _ (fin_ret (rv1 rfl ⟨rfl, by rw [eq_of_beq a8]; rfl⟩))
  | false =>
  cases a9 : (l == [58]) with
  | true =>
    simp only [mach, mach2, mstd, ↓reduceIte, Nat.reduceEqDiff, Nat.reduceAdd, Nat.reduceMul, r50, tx_toList, mk_toList, a0, a1, a2, a3, a4, a5, a6, a7, a8, a9]
    exact hΨ _ _ (fin_ret (rv1 rfl ⟨rfl, by rw [eq_of_beq a9]; rfl⟩))
  | false =>
  cases a10 : (l == [43]) with
  | true =>
    simp only [mach, mach2, mstd, ↓reduceIte, Nat.reduceEqDiff, Nat.reduceAdd, Nat.reduceMul, r50, tx_toList, mk_toList, a0, a1, a2, a3, a4, a5, a6, a7, a8, a9, a10]
    exact hΨ _ _ (fin_ret (rv1 rfl ⟨rfl, by rw [eq_of_beq a10]; rfl⟩))
  | false =>
  cases a11 : (l == [45]) with
  | true =>
    simp only [mach, mach2, mstd, ↓reduceIte, Nat.reduceEqDiff, Nat.reduceAdd, Nat.reduceMul, r50, tx_toList, mk_toList, a0, a1, a2, a3, a4, a5, a6, a7, a8, a9, a10, a11]
    exact hΨ _ _ (fin_ret (rv1 rfl ⟨rfl, by rw [eq_of_beq a11]; rfl⟩))
  | false =>
  cases a12 : (l == [42]) with
  | true =>
    simp only [mach, mach2, mstd, ↓reduceIte, Nat.reduceEqDiff, Nat.reduceAdd, Nat.reduceMul, r50, tx_toList, mk_toList, a0, a1, a2, a3, a4, a5, a6, a7, a8, a9, a10, a11, a12]
    exact hΨ _ _ (fin_ret (rv1 rfl ⟨rfl, by rw [eq_of_beq a12]; rfl⟩))
  | false =>
  cases a13 : (l == [46]) with
  | true =>
    simp only [mach, mach2, mstd, ↓reduceIte, Nat.reduceEqDiff, Nat.reduceAdd, Nat.reduceMul, r50, tx_toList, mk_toList, a0, a1, a2, a3, a4, a5, a6, a7, a8, a9, a10, a11, a12, a13]
    exact hΨ _ _ (fin_ret (rv1 rfl ⟨rfl, by rw [eq_of_beq a13]; rfl⟩))
  | false =>
  simp only [mach, mach2, mstd, ↓reduceIte, Nat.reduceEqDiff, Nat.reduceAdd, Nat.reduceMul, r50, tx_toList, mk_toList, a0, a1, a2, a3, a4, a5, a6, a7, a8, a9, a10, a11, a12, a13]
  exact hΨ _ _ (fin_ret (rv1 rfl ⟨rfl, by simp only [opL, List.contains_cons, a0, a1, a2, a3, a4, a5, a6, a7, a8, a9, a10, a11, a12, a13]; rfl⟩))
end Go.S07

/- Tokens: blanks and comments. -/
set_option linter.unusedVariables false
set_option linter.unusedSimpArgs false
namespace Go.S07
open Go Go.Eng Go.Proofs Go.Scn

theorem sl_from {l : Bs} {p : Nat} (hp : p ≤ l.length) : slsv (.string (tx l)) (some (iv p)) none = some (.string (tx (l.drop p)), none) := by
  have h1 : (0 : Int) ≤ (p : Int) ∧ (p : Int) ≤ (l.length : Int) := by omega
  simp only [slsv, bnd, tx_size, Option.bind_some, if_pos h1, Option.map_some, Int.toNat_natCast, tx_ext, List.take_length]
theorem sl_to {l : Bs} {n : Nat} (hn : n ≤ l.length) : slsv (.string (tx l)) none (some (iv n)) = some (.string (tx (l.take n)), none) := by
  have h1 : (0 : Int) ≤ (n : Int) ∧ (n : Int) ≤ (l.length : Int) := by omega
  simp only [slsv, bnd, tx_size, Option.bind_some, if_pos h1, Option.map_some, Int.toNat_natCast, tx_ext, List.drop_zero]
theorem sl_ft {l : Bs} {p n : Nat} (hp : p ≤ n) (hn : n ≤ l.length) : slsv (.string (tx l)) (some (iv p)) (some (iv n)) = some (.string (tx ((l.take n).drop p)), none) := by
  have h1 : (0 : Int) ≤ (n : Int) ∧ (n : Int) ≤ (l.length : Int) := by omega
  have h2 : (0 : Int) ≤ (p : Int) ∧ (p : Int) ≤ (n : Int) := by omega
  simp only [slsv, bnd, tx_size, if_pos h1, Option.bind_some, Int.toNat_natCast, if_pos h2, Option.map_some, tx_ext]

abbrev fv (f : FuncId) : Value := .func (.func f) #[] #[]

theorem span_ok {f : FuncId} {p : UInt8 → Bool} (hf : Says f p) (l : Bs) (hl : l.length ≤ 9223372036854775807) (h : AH) : Gets Tryd.prog 32 [tv l, fv f] h (fun res h' => h' = h ∧ res = .ret (iv (spn p l))) := by
  refine Gets.of (keep := false) hP (draw_ok hM) k32 (by rfl) (fun Ψ hΨ => ?_)
  simp only [mach, mach2, mstd, ↓reduceIte, Nat.reduceEqDiff, Nat.reduceAdd, Nat.reduceMul, r32, tx_size]
  refine XLo_rule (α := Nat) (fun i => [(0, tv l), (1, fv f), (7, iv l.length), (8, iv i)]) (fun i h' => i ≤ l.length ∧ h' = h ∧ ∀ j c, j < i → l[j]? = some c → p c = true) (fun i => l.length - i) 0 ⟨Nat.zero_le _, rfl, fun j c hj => by omega⟩ ⟨rfl, rfl, rfl, rfl, trivial⟩ ?_
  rintro i h1 Ψ2 ⟨i1, rfl, hall⟩ next out
  by_cases hi : (i : Int) < (l.length : Int)
  · have h0 : 0 ≤ (i : Int) := by omega
    have hw : IntKind.i64.wrap ((i : Int) + 1) = ((i + 1 : Nat) : Int) := by rw [i64w (by omega) (by omega)]; omega
    have hc : l[i]? = some l[i] := List.getElem?_eq_getElem (by omega)
    simp only [mach, mach2, mstd, ↓reduceIte, Nat.reduceEqDiff, Nat.reduceAdd, Nat.reduceMul, hi, h0, Int.toNat_natCast, tx_get, hc]
    refine XX_val (hf _ _) ?_
    cases hp : p l[i] with
    | true =>
      simp only [mach, mach2, mstd, ↓reduceIte, Nat.reduceEqDiff, Nat.reduceAdd, Nat.reduceMul, hw]
      refine next (i + 1) _ _ _ ⟨by omega, rfl, fun j c hj hjc => ?_⟩ ⟨rfl, rfl, rfl, rfl, trivial⟩ (by omega)
      by_cases hji : j < i
      · exact hall j c hji hjc
      · have : j = i := by omega
        subst this; rw [hc] at hjc; cases hjc; exact hp
    | false =>
      simp only [mach, mach2, mstd, ↓reduceIte, Nat.reduceEqDiff, Nat.reduceAdd, Nat.reduceMul]
      refine out .ret _ _ _ _ (by intro e; cases e) ?_
      simp only [mach, mach2, mstd, ↓reduceIte, Nat.reduceEqDiff, Nat.reduceAdd, Nat.reduceMul]
      exact hΨ _ _ (fin_ret (rv1 rfl ⟨rfl, by rw [spn_eq (n := i) (by omega) hall (fun c hcc => by rw [hc] at hcc; cases hcc; exact hp)]; rfl⟩))
  · have hie : i = l.length := by omega
    simp only [mach, mach2, mstd, ↓reduceIte, Nat.reduceEqDiff, Nat.reduceAdd, Nat.reduceMul, hi]
    refine out (.exit 0) _ _ _ _ (by intro e; cases e) ?_
    simp only [mach, mach2, mstd, ↓reduceIte, Nat.reduceEqDiff, Nat.reduceAdd, Nat.reduceMul, tx_size]
    exact hΨ _ _ (fin_ret (rv1 rfl ⟨rfl, by rw [spn_eq (n := l.length) (by omega) (fun j c hj hc => hall j c (by omega) hc) (fun c hc => by simp at hc)]; rfl⟩))

theorem hasPrefix1_ok (l p : Bs) (h : AH) : Gets Tryd.prog 72 [tv l, tv p] h (fun res h' => h' = h ∧ res = .ret (.bool (l.take p.length == p))) := by
  refine Gets.of (keep := false) hP (draw_ok hM) k72 (by rfl) (fun Ψ hΨ => ?_)
  by_cases hl : (p.length : Int) ≤ (l.length : Int)
  · simp only [mach, mach2, mstd, ↓reduceIte, Nat.reduceEqDiff, Nat.reduceAdd, Nat.reduceMul, r72, tx_size, hl, sl_to (show p.length ≤ l.length by omega), tx_toList]
    exact hΨ _ _ (fin_ret (rv1 rfl ⟨rfl, rfl⟩))
  · simp only [mach, mach2, mstd, ↓reduceIte, Nat.reduceEqDiff, Nat.reduceAdd, Nat.reduceMul, r72, tx_size, hl]
    refine hΨ _ _ (fin_ret (rv1 rfl ⟨rfl, ?_⟩))
    have : (l.take p.length == p) = false := by
      rw [beq_eq_false_iff_ne]; intro e
      have := congrArg List.length e
      simp at this; omega
    rw [this]; rfl
theorem hasPrefix_ok (l p : Bs) (h : AH) : Gets Tryd.prog 63 [tv l, tv p] h (fun res h' => h' = h ∧ res = .ret (.bool (l.take p.length == p))) := by
  refine Gets.of (keep := false) hP (draw_ok hM) k63 (by rfl) (fun Ψ hΨ => ?_)
  simp only [mach, mach2, mstd, ↓reduceIte, Nat.reduceEqDiff, Nat.reduceAdd, Nat.reduceMul, r63]
  refine XX_val (hasPrefix1_ok l p h) ?_
  simp only [mach, mach2, mstd, ↓reduceIte, Nat.reduceEqDiff, Nat.reduceAdd, Nat.reduceMul]
  exact hΨ _ _ (fin_ret (rv1 rfl ⟨rfl, rfl⟩))

theorem isBlank_ok : Says 41 wsp := by
  intro c h
  refine Gets.of (keep := false) hP (draw_ok hM) k41 (by rfl) (fun Ψ hΨ => ?_)
  by_cases h1 : (c.toNat : Int) = 32
  · simp only [mach, mach2, mstd, ↓reduceIte, Nat.reduceEqDiff, Nat.reduceAdd, Nat.reduceMul, r41, eq_true h1]
    exact hΨ _ _ (fin_ret (rv1 rfl ⟨rfl, congrArg (fun b => Res.ret (.bool b)) (decide_eq_true (by omega)).symm⟩))
  by_cases h2 : (c.toNat : Int) = 9
  · simp only [mach, mach2, mstd, ↓reduceIte, Nat.reduceEqDiff, Nat.reduceAdd, Nat.reduceMul, r41, h1, eq_true h2]
    exact hΨ _ _ (fin_ret (rv1 rfl ⟨rfl, congrArg (fun b => Res.ret (.bool b)) (decide_eq_true (by omega)).symm⟩))
  by_cases h3 : (c.toNat : Int) = 10
  · simp only [mach, mach2, mstd, ↓reduceIte, Nat.reduceEqDiff, Nat.reduceAdd, Nat.reduceMul, r41, h1, h2, eq_true h3]
    exact hΨ _ _ (fin_ret (rv1 rfl ⟨rfl, congrArg (fun b => Res.ret (.bool b)) (decide_eq_true (by omega)).symm⟩))
  simp only [mach, mach2, mstd, ↓reduceIte, Nat.reduceEqDiff, Nat.reduceAdd, Nat.reduceMul, r41, h1, h2, h3]
  exact hΨ _ _ (fin_ret (rv1 rfl ⟨rfl, congrArg (fun b => Res.ret (.bool b)) (by unfold wsp; rw [decide_eq_decide]; omega)⟩))
theorem isDash_ok : Says 61 dash := by
  intro c h
  refine Gets.of (keep := false) hP (draw_ok hM) k61 (by rfl) (fun Ψ hΨ => ?_)
  simp only [mach, mach2, mstd, ↓reduceIte, Nat.reduceEqDiff, Nat.reduceAdd, Nat.reduceMul, r61]
  exact hΨ _ _ (fin_ret (rv1 rfl ⟨rfl, congrArg (fun b => Res.ret (.bool b)) (by unfold dash; rw [decide_eq_decide]; omega)⟩))

/-- A scanner at a place. -/
structure Scn (h : AH) (b : Nat) (s : Bs) (p : Nat) (lv : Value) : Prop where
  own : Own h b 41 [tv s, iv p, lv]
  le : p ≤ s.length
  sl : s.length ≤ 8000
theorem Scn.keep {S : Nat → Prop} {h h' : AH} {b : Nat} {s : Bs} {p : Nat} {lv : Value} (x : Scn h b s p lv) (k : Keep S h h') (hs : ¬ S b) : Scn h' b s p lv := ⟨x.own.keep k hs, x.le, x.sl⟩

/-- It goes on to a place, or gives up. -/
def ScnO (h : AH) (b : Nat) (s : Bs) (lv : Value) (x : Except Nat Nat) (res : Res) (h' : AH) : Prop :=
  Keep (· = b) h h' ∧ match x with
  | .ok q => res = .ret (.tuple #[]) ∧ Scn h' b s q lv
  | .error q => res = .pan (.iface 38 (iv q))

section
variable {h : AH} {b : Nat} {s : Bs} {p : Nat} {lv : Value}

theorem rest_ok (x : Scn h b s p lv) : Gets Tryd.prog 40 [.pointer (some ⟨b, 0, none⟩)] h (fun res h' => h' = h ∧ res = .ret (tv (s.drop p))) := by
  refine Gets.of (keep := false) hP (draw_ok hM) k40 (by rfl) (fun Ψ hΨ => ?_)
  simp only [mach, mach2, mstd, ↓reduceIte, Nat.reduceEqDiff, Nat.reduceAdd, Nat.reduceMul, r40, x.own.cells.ld, mbl, Nat.reduceLeDiff, Nat.reduceLT, Int.reduceEq, sl_from x.le]
  exact hΨ _ _ (fin_ret (rv1 rfl ⟨rfl, rfl⟩))

theorem line_ok (x : Scn h b s p lv) : Gets Tryd.prog 42 [.pointer (some ⟨b, 0, none⟩)] h (ScnO h b s lv (.ok (p + lineN (s.drop p)))) := by
  refine Gets.of (keep := false) hP (draw_ok hM) k42 (by rfl) (fun Ψ hΨ => ?_)
  have hle := x.le
  have hsl := x.sl
  have hdl : (s.drop p).length = s.length - p := by simp
  have hn := spn_le dash (s.drop p)
  simp only [mach, mach2, mstd, ↓reduceIte, Nat.reduceEqDiff, Nat.reduceAdd, Nat.reduceMul, r42]
  refine XX_val (rest_ok x) ?_
  simp only [mach, mach2, mstd, ↓reduceIte, Nat.reduceEqDiff, Nat.reduceAdd, Nat.reduceMul]
  refine XX_val (span_ok isDash_ok (s.drop p) (by omega) h) ?_
  have no : ∀ {hc : ¬ (2 ≤ spn dash (s.drop p) ∧ (∀ c, (s.drop p)[spn dash (s.drop p)]? = some c → symb c = false))}, ScnO h b s lv (.ok (p + lineN (s.drop p))) (.ret (.tuple #[])) h := by
    intro hc
    refine ⟨.refl _ _, ?_⟩
    unfold lineN
    rw [if_neg hc]
    exact ⟨rfl, x⟩
  by_cases h2 : (spn dash (s.drop p) : Int) < 2
  · simp only [mach, mach2, mstd, ↓reduceIte, Nat.reduceEqDiff, Nat.reduceAdd, Nat.reduceMul, h2]
    exact hΨ _ _ (fin_ret (no (hc := by rintro ⟨e, _⟩; omega)))
  have hw : IntKind.i64.wrap ((p : Int) + (spn dash (s.drop p) : Int)) = ((p + spn dash (s.drop p) : Nat) : Int) := by rw [i64w (by omega) (by omega)]; omega
  have hne : (fun d : UInt8 => d != 10) = noEnd := by
    funext d
    simp only [noEnd]
    rw [Bool.eq_iff_iff]
    simp only [bne_iff_ne, ne_eq, decide_eq_true_eq]
    constructor
    · intro h1 h2; exact h1 (UInt8.toNat_inj.1 h2)
    · intro h1 h2; subst h2; exact h1 rfl
  have hm := spn_le noEnd (s.drop p)
  have yes : ∀ (hc : ∀ c, (s.drop p)[spn dash (s.drop p)]? = some c → symb c = false), lineN (s.drop p) = spn noEnd (s.drop p) := fun hc => by
    unfold lineN; rw [if_pos ⟨by omega, hc⟩]
  by_cases h3 : ((p + spn dash (s.drop p) : Nat) : Int) < (s.length : Int)
  · have h0 : (0:Int) ≤ ((p + spn dash (s.drop p) : Nat) : Int) := by omega
    have hc : s[p + spn dash (s.drop p)]? = some s[p + spn dash (s.drop p)] := List.getElem?_eq_getElem (by omega)
    have hc' : (s.drop p)[spn dash (s.drop p)]? = some s[p + spn dash (s.drop p)] := by rw [List.getElem?_drop]; exact hc
    simp only [mach, mach2, mstd, ↓reduceIte, Nat.reduceEqDiff, Nat.reduceAdd, Nat.reduceMul, h2, x.own.cells.ld, mbl, Nat.reduceLeDiff, Nat.reduceLT, Int.reduceEq, hw, h3, tx_size, h0, Int.toNat_natCast, tx_get, hc]
    refine XX_val (isSymbol_ok _ h) ?_
    cases hs : symb s[p + spn dash (s.drop p)] with
    | true =>
      simp only [mach, mach2, mstd, ↓reduceIte, Nat.reduceEqDiff, Nat.reduceAdd, Nat.reduceMul]
      exact hΨ _ _ (fin_ret (no (hc := by rintro ⟨_, e⟩; have := e _ hc'; rw [hs] at this; cases this)))
    | false =>
      have hy := yes (fun c hcc => by rw [hc'] at hcc; cases hcc; exact hs)
      simp only [mach, mach2, mstd, ↓reduceIte, Nat.reduceEqDiff, Nat.reduceAdd, Nat.reduceMul]
      refine XX_val (rest_ok x) ?_
      simp only [mach, mach2, mstd, ↓reduceIte, Nat.reduceEqDiff, Nat.reduceAdd, Nat.reduceMul]
      refine XX_val (indexByte_ok (s.drop p) 10 h) ?_
      rw [hne]
      by_cases h4 : spn noEnd (s.drop p) < (s.drop p).length
      · have h5 : (0:Int) ≤ (spn noEnd (s.drop p) : Int) := by omega
        have hw2 : IntKind.i64.wrap ((p : Int) + (spn noEnd (s.drop p) : Int)) = ((p + spn noEnd (s.drop p) : Nat) : Int) := by rw [i64w (by omega) (by omega)]; omega
        simp only [mach, mach2, mstd, ↓reduceIte, Nat.reduceEqDiff, Nat.reduceAdd, Nat.reduceMul, h4, h5, x.own.cells.ld, mbl, Nat.reduceLeDiff, Nat.reduceLT, Int.reduceEq, hw2]
        refine XH_own x.own rfl (by simp [Value.cells]) rfl (fun h' q1 q2 q3 => ?_)
        have o' : Own h' b 41 [tv s, iv ((p + spn noEnd (s.drop p) : Nat) : Int), lv] := by simpa [Value.cells] using q1
        simp only [mach, mach2, mstd, ↓reduceIte, Nat.reduceEqDiff, Nat.reduceAdd, Nat.reduceMul]
        exact hΨ _ _ (fin_ret ⟨q2, by rw [hy]; exact ⟨rfl, o', by omega, hsl⟩⟩)
      · simp only [mach, mach2, mstd, ↓reduceIte, Nat.reduceEqDiff, Nat.reduceAdd, Nat.reduceMul, h4, x.own.cells.ld, mbl, Nat.reduceLeDiff, Nat.reduceLT, Int.reduceEq, tx_size, show ((0:Int) ≤ -1) = False by simp]
        refine XH_own x.own rfl (by simp [Value.cells]) rfl (fun h' q1 q2 q3 => ?_)
        have o' : Own h' b 41 [tv s, iv (s.length : Int), lv] := by simpa [Value.cells] using q1
        simp only [mach, mach2, mstd, ↓reduceIte, Nat.reduceEqDiff, Nat.reduceAdd, Nat.reduceMul]
        exact hΨ _ _ (fin_norm ⟨q2, by rw [hy, show p + spn noEnd (s.drop p) = s.length by omega]; exact ⟨rfl, o', by omega, hsl⟩⟩)
  · simp only [mach, mach2, mstd, ↓reduceIte, Nat.reduceEqDiff, Nat.reduceAdd, Nat.reduceMul, h2, x.own.cells.ld, mbl, Nat.reduceLeDiff, Nat.reduceLT, Int.reduceEq, hw, h3, tx_size]
    have hy := yes (fun c hcc => by rw [List.getElem?_eq_none (by omega)] at hcc; cases hcc)
    refine XX_val (rest_ok x) ?_
    simp only [mach, mach2, mstd, ↓reduceIte, Nat.reduceEqDiff, Nat.reduceAdd, Nat.reduceMul]
    refine XX_val (indexByte_ok (s.drop p) 10 h) ?_
    rw [hne]
    by_cases h4 : spn noEnd (s.drop p) < (s.drop p).length
    · have h5 : (0:Int) ≤ (spn noEnd (s.drop p) : Int) := by omega
      have hw2 : IntKind.i64.wrap ((p : Int) + (spn noEnd (s.drop p) : Int)) = ((p + spn noEnd (s.drop p) : Nat) : Int) := by rw [i64w (by omega) (by omega)]; omega
      simp only [mach, mach2, mstd, ↓reduceIte, Nat.reduceEqDiff, Nat.reduceAdd, Nat.reduceMul, h4, h5, x.own.cells.ld, mbl, Nat.reduceLeDiff, Nat.reduceLT, Int.reduceEq, hw2]
      refine XH_own x.own rfl (by simp [Value.cells]) rfl (fun h' q1 q2 q3 => ?_)
      have o' : Own h' b 41 [tv s, iv ((p + spn noEnd (s.drop p) : Nat) : Int), lv] := by simpa [Value.cells] using q1
      simp only [mach, mach2, mstd, ↓reduceIte, Nat.reduceEqDiff, Nat.reduceAdd, Nat.reduceMul]
      exact hΨ _ _ (fin_ret ⟨q2, by rw [hy]; exact ⟨rfl, o', by omega, hsl⟩⟩)
    · simp only [mach, mach2, mstd, ↓reduceIte, Nat.reduceEqDiff, Nat.reduceAdd, Nat.reduceMul, h4, x.own.cells.ld, mbl, Nat.reduceLeDiff, Nat.reduceLT, Int.reduceEq, tx_size, show ((0:Int) ≤ -1) = False by simp]
      refine XH_own x.own rfl (by simp [Value.cells]) rfl (fun h' q1 q2 q3 => ?_)
      have o' : Own h' b 41 [tv s, iv (s.length : Int), lv] := by simpa [Value.cells] using q1
      simp only [mach, mach2, mstd, ↓reduceIte, Nat.reduceEqDiff, Nat.reduceAdd, Nat.reduceMul]
      exact hΨ _ _ (fin_norm ⟨q2, by rw [hy, show p + spn noEnd (s.drop p) = s.length by omega]; exact ⟨rfl, o', by omega, hsl⟩⟩)
end
end Go.S07
