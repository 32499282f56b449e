/- The engine, part 32: heaps as they are spoken of in contracts. -/
import Derived.Test.YtoojhjhamhkmjaaLE31
set_option linter.unusedVariables false
set_option linter.unusedSimpArgs false
namespace Go.Eng

/-- Blocks outside S are as they were. -/
structure Keep (S : Nat → Prop) (h h' : AH) : Prop where
  len : h.length ≤ h'.length
  same : ∀ b, b < h.length → ¬ S b → h'[b]? = h[b]?

theorem Keep.refl (S : Nat → Prop) (h : AH) : Keep S h h := ⟨Nat.le_refl _, fun _ _ _ => rfl⟩
theorem Keep.trans {S : Nat → Prop} {h h1 h2 : AH} (a : Keep S h h1) (b : Keep S h1 h2) : Keep S h h2 :=
  ⟨Nat.le_trans a.len b.len, fun c hc hs => by rw [b.same c (Nat.lt_of_lt_of_le hc a.len) hs, a.same c hc hs]⟩
theorem Keep.trans' {S T : Nat → Prop} {h h1 h2 : AH} (a : Keep S h h1) (b : Keep T h1 h2) (hT : ∀ c, c < h.length → T c → S c) : Keep S h h2 :=
  ⟨Nat.le_trans a.len b.len, fun c hc hs => by rw [b.same c (Nat.lt_of_lt_of_le hc a.len) (fun t => hs (hT c hc t)), a.same c hc hs]⟩
theorem Keep.mono {S T : Nat → Prop} {h h' : AH} (a : Keep S h h') (hST : ∀ b, S b → T b) : Keep T h h' := ⟨a.len, fun b hb hs => a.same b hb fun s => hs (hST b s)⟩
theorem Keep.push (S : Nat → Prop) (h : AH) (B : Blk) : Keep S h (h ++ [B]) := ⟨by simp, fun b hb _ => List.getElem?_append_left hb⟩
theorem Keep.get {S : Nat → Prop} {h h' : AH} (a : Keep S h h') {b : Nat} {B : Blk} (hb : h[b]? = some B) (hs : ¬ S b) : h'[b]? = some B := by
  rw [a.same b (List.getElem?_eq_some_iff.1 hb).1 hs, hb]
theorem Keep.set (h : AH) (b : Nat) (B : Blk) : Keep (· = b) h (h.set b B) := ⟨by simp, fun c hc hs => by rw [List.getElem?_set_ne (Ne.symm hs)]⟩

/-- A block that is known. -/
def Cells (h : AH) (b : Nat) (cs : List Value) : Prop := hcell h b = some cs
/-- A block of one's own. -/
def Own (h : AH) (b : Nat) (e : TypeId) (cs : List Value) : Prop := ∃ g, h[b]? = some (.cells true true g 0 e cs)

theorem Own.cells {h : AH} {b : Nat} {e : TypeId} {cs : List Value} (hb : Own h b e cs) : Cells h b cs := by obtain ⟨g, hb⟩ := hb; simp [Cells, hcell, hb]
theorem Own.lt {h : AH} {b : Nat} {e : TypeId} {cs : List Value} (hb : Own h b e cs) : b < h.length := by obtain ⟨g, hb⟩ := hb; exact (List.getElem?_eq_some_iff.1 hb).1
theorem Cells.lt {h : AH} {b : Nat} {cs : List Value} (hb : Cells h b cs) : b < h.length := by
  unfold Cells hcell at hb
  split at hb
  · rename_i h1; exact (List.getElem?_eq_some_iff.1 h1).1
  · cases hb
theorem Own.keep {S : Nat → Prop} {h h' : AH} {b : Nat} {e : TypeId} {cs : List Value} (hb : Own h b e cs) (k : Keep S h h') (hs : ¬ S b) : Own h' b e cs := by obtain ⟨g, hb⟩ := hb; exact ⟨g, k.get hb hs⟩
theorem Cells.keep {S : Nat → Prop} {h h' : AH} {b : Nat} {cs : List Value} (hb : Cells h b cs) (k : Keep S h h') (hs : ¬ S b) : Cells h' b cs := by
  have hl := hb.lt
  unfold Cells hcell at hb ⊢
  rw [k.same b hl hs]; exact hb
theorem Own.new (h : AH) (e : TypeId) (m : Nat) (cs : List Value) : Own (h ++ [row e m cs]) h.length e cs := ⟨m, by simp [row]⟩

theorem Cells.ld {h : AH} {b : Nat} {cs : List Value} (hb : Cells h b cs) (o : Nat) : ldc h b o = cs[o]? := by unfold Cells at hb; simp [ldc, hb]
theorem Cells.lds {h : AH} {b : Nat} {cs : List Value} (hb : Cells h b cs) (o n : Nat) (hl : o + n ≤ cs.length) : ldcs h b o n = some ((cs.drop o).take n) := by unfold Cells at hb; simp [ldcs, hb, hl]

theorem Own.store {h : AH} {b : Nat} {e : TypeId} {cs : List Value} (hb : Own h b e cs) {i : Nat} {vs : List Value} (hl : i + vs.length ≤ cs.length) (ho : vs.all Value.oneCell' = true) :
    ∃ h', hstore h b i vs = some h' ∧ Own h' b e (cs.take i ++ vs ++ cs.drop (i + vs.length)) ∧ Keep (· = b) h h' ∧ h'.length = h.length := by
  have hlt := hb.lt
  obtain ⟨g, hb⟩ := hb
  refine ⟨h.set b (.cells true true g 0 e (cs.take i ++ vs ++ cs.drop (i + vs.length))), ?_, ⟨g, by simp [hlt]⟩, .set h b _, by simp⟩
  simp [hstore, hb, hl, ho]

/-! ### Rows -/

def bk : Value → Nat → Prop
  | .slice (some ⟨b, _, _⟩) _ _, c => c = b
  | _, _ => False

/-- The block that a row is read from, if anything is. -/
def rb : Value → Nat → Prop
  | .slice (some ⟨b, _, _⟩) n _, c => c = b ∧ 0 < n
  | _, _ => False
theorem rb.bk {v : Value} {q : Nat} (h : rb v q) : bk v q := by
  unfold rb at h
  split at h
  · exact h.1
  · exact h.elim

/-- A row that can be read: how many elements, the cells. -/
inductive Rds (h : AH) (sz : Nat) : Value → Nat → List Value → Prop where
  | nil : Rds h sz (.slice none 0 0) 0 []
  | emp {b o c : Nat} : Rds h sz (.slice (some ⟨b, o, none⟩) 0 c) 0 []
  | mk {b o n c : Nat} {all cs : List Value} (hb : Cells h b all) (hl : o + n * sz ≤ all.length) (hx : (all.drop o).take (n * sz) = cs) : Rds h sz (.slice (some ⟨b, o, none⟩) n c) n cs

/-- A row of one's own: it may be written and grow. -/
inductive Ows (h : AH) (e : TypeId) (sz : Nat) : Value → Nat → List Value → Prop where
  | nil : Ows h e sz (.slice none 0 0) 0 []
  | mk {b n c : Nat} {all cs : List Value} (hb : Own h b e all) (hl : all.length = c * sz) (hn : n ≤ c) (hx : all.take (n * sz) = cs) : Ows h e sz (.slice (some ⟨b, 0, none⟩) n c) n cs

theorem Rds.len {h : AH} {sz n : Nat} {v : Value} {cs : List Value} (hr : Rds h sz v n cs) : cs.length = n * sz := by
  cases hr with
  | nil => simp
  | emp => simp
  | mk hb hl hx => rw [← hx]; simp; omega
theorem Ows.rds {h : AH} {e : TypeId} {sz n : Nat} {v : Value} {cs : List Value} (ho : Ows h e sz v n cs) : Rds h sz v n cs := by
  cases ho with
  | nil => exact .nil
  | mk hb hl hn hx => exact .mk hb.cells (by rw [hl, Nat.zero_add]; exact Nat.mul_le_mul_right _ hn) (by simpa using hx)
theorem Ows.len {h : AH} {e : TypeId} {sz n : Nat} {v : Value} {cs : List Value} (ho : Ows h e sz v n cs) : cs.length = n * sz := ho.rds.len
theorem Rds.keep {S : Nat → Prop} {h h' : AH} {sz n : Nat} {v : Value} {cs : List Value} (hr : Rds h sz v n cs) (k : Keep S h h') (hs : ∀ b, rb v b → ¬ S b) : Rds h' sz v n cs := by
  cases hr with
  | nil => exact .nil
  | emp => exact .emp
  | mk hb hl hx =>
    rcases Nat.eq_zero_or_pos n with h0 | h0
    · subst h0
      simp only [Nat.zero_mul, List.take_zero] at hx
      subst hx
      exact .emp
    · exact .mk (hb.keep k (hs _ ⟨rfl, h0⟩)) hl hx
theorem Ows.keep {S : Nat → Prop} {h h' : AH} {e : TypeId} {sz n : Nat} {v : Value} {cs : List Value} (hr : Ows h e sz v n cs) (k : Keep S h h') (hs : ∀ b, bk v b → ¬ S b) : Ows h' e sz v n cs := by
  cases hr with
  | nil => exact .nil
  | mk hb hl hn hx => exact .mk (hb.keep k (hs _ rfl)) hl hn hx
theorem Rds.lt {h : AH} {sz n : Nat} {v : Value} {cs : List Value} (hr : Rds h sz v n cs) : ∀ b, rb v b → b < h.length := by
  cases hr with
  | nil => intro b hb; exact hb.elim
  | emp => intro b hb; exact absurd hb.2 (by omega)
  | mk hb hl hx => intro b e; obtain ⟨rfl, _⟩ := e; exact hb.lt
theorem Ows.lt {h : AH} {e : TypeId} {sz n : Nat} {v : Value} {cs : List Value} (hr : Ows h e sz v n cs) : ∀ b, bk v b → b < h.length := by
  cases hr with
  | nil => intro b hb; exact hb.elim
  | mk hb hl hn hx => intro b e; cases e; exact hb.lt

/-- An element of a row that can be read. -/
theorem Rds.at {h : AH} {sz n : Nat} {v : Value} {cs : List Value} (hr : Rds h sz v n cs) {i : Nat} (hi : i < n) : ∃ b o c, v = .slice (some ⟨b, o, none⟩) n c ∧ ∀ j, j < sz → ldc h b (o + i * sz + j) = cs[i * sz + j]? := by
  cases hr with
  | nil => omega
  | emp => omega
  | @mk b o n c all cs hb hl hx =>
    refine ⟨b, o, c, rfl, fun j hj => ?_⟩
    rw [hb.ld, ← hx, List.getElem?_take, if_pos, List.getElem?_drop, Nat.add_assoc]
    have : i * sz + sz ≤ n * sz := by
      have := Nat.mul_le_mul_right sz (show i + 1 ≤ n by omega)
      rw [Nat.add_mul, Nat.one_mul] at this; exact this
    omega

theorem Rds.src {h : AH} {sz n : Nat} {v : Value} {cs : List Value} (hr : Rds h sz v n cs) (ho : cs.all Value.oneCell' = true) : ∃ cs', srcv h sz false v = some (n, cs') ∧ cs' = cs := by
  cases hr with
  | nil => exact ⟨[], rfl, rfl⟩
  | emp => exact ⟨[], rfl, rfl⟩
  | @mk b o n c all cs hb hl hx =>
    by_cases h0 : n = 0
    · subst h0
      refine ⟨[], by simp [srcv], ?_⟩
      rw [← hx]; simp
    · have hb' : hcell h b = some all := hb
      refine ⟨cs, ?_, rfl⟩
      subst hx
      simp only [srcv, Bool.false_eq_true, if_false, h0, hb', Option.bind_some]
      simp only [hl, decide_true, Bool.true_and, ho, if_true]

/-- What is laid behind a row of one's own. -/
theorem Ows.app {h : AH} {e : TypeId} {sz n m bytes : Nat} {s x : Value} {cs xs : List Value} (ho : Ows h e sz s n cs) (hx : srcv h sz false x = some (m, xs)) (hl : xs.length = m * sz) (h1 : xs.all Value.oneCell' = true)
    (hb : (n + m) * bytes ≤ 140737488355328) (hb2 : n + m ≤ 9223372036854775807) :
    ∃ s' h', appv false h false e sz bytes s x = some (s', h') ∧ Ows h' e sz s' (n + m) (cs ++ xs) ∧ Keep (bk s) h h' ∧ (∀ b, bk s' b → bk s b ∨ h.length ≤ b) := by
  by_cases h0 : m = 0
  · subst h0
    have : xs = [] := List.length_eq_zero_iff.1 (by simpa using hl)
    subst this
    refine ⟨s, h, ?_, by simpa using ho, .refl _ _, fun b hb => .inl hb⟩
    cases ho with
    | nil => simp [appv, hx]
    | mk hb => simp [appv, hx]
  cases ho with
  | nil =>
    refine ⟨.slice (some ⟨h.length, 0, none⟩) m m, h ++ [row e h.length xs], ?_, ?_, .push _ h _, fun b hb => by cases hb; exact .inr (Nat.le_refl _)⟩
    · simp only [Nat.zero_add] at hb hb2
      simp [appv, hx, h0, hb, hb2]
    · rw [Nat.zero_add, List.nil_append]
      exact .mk (Own.new h e _ xs) hl (Nat.le_refl _) (by rw [← hl]; simp)
  | @mk b n c all cs hbl hlen hn hcs =>
    have hlt := hbl.lt
    by_cases hroom : n + m ≤ c
    · have hle : n * sz + xs.length ≤ all.length := by
        rw [hl, hlen, ← Nat.add_mul]; exact Nat.mul_le_mul_right _ hroom
      obtain ⟨h', k1, k2, k3, k4⟩ := hbl.store hle h1
      obtain ⟨g, hbg⟩ := hbl
      refine ⟨.slice (some ⟨b, 0, none⟩) (n + m) c, h', ?_, ?_, k3.mono fun q hq => hq, fun q hq => .inl hq⟩
      · simp only [appv, hx, Option.bind_some, h0, if_false, hbg, hroom, if_true, Nat.zero_add, k1, Option.map_some]
        rw [if_pos (by simp; rw [hlen]; exact Nat.mul_le_mul_right _ hn)]
      · refine .mk k2 ?_ hroom ?_
        · simp only [List.length_append, List.length_take, List.length_drop]
          omega
        · have e1 : (all.take (n * sz)).length = n * sz := by simp; omega
          rw [Nat.add_mul, List.take_append_of_le_length (by simp; omega), ← hl]
          rw [List.take_of_length_le (by simp; omega)]
          rw [hcs]
    · obtain ⟨g, hbg⟩ := hbl
      have hle : n * sz ≤ all.length := by rw [hlen]; exact Nat.mul_le_mul_right _ hn
      refine ⟨.slice (some ⟨h.length, 0, none⟩) (n + m) (n + m), hprep false h b true g 0 e all (n * sz) ++ [.cells true true h.length 0 e (cs ++ xs)], ?_, ?_, ?_, fun q hq => by cases hq; exact .inr (Nat.le_refl _)⟩
      · simp only [appv, hx, Option.bind_some, h0, if_false, hbg, hroom, Nat.zero_add]
        rw [if_pos (by simp; exact hle)]
        simp [hb, hb2, hcs]
      · refine .mk (all := cs ++ xs) ⟨h.length, ?_⟩ ?_ (Nat.le_refl _) ?_
        · rw [List.getElem?_append_right (by simp [hprep_len])]
          simp [hprep_len]
        · have : cs.length = n * sz := by rw [← hcs]; simp; omega
          simp [this, hl, Nat.add_mul]
        · have : cs.length = n * sz := by rw [← hcs]; simp; omega
          rw [List.take_of_length_le (by simp [this, hl, Nat.add_mul])]
      · refine ⟨by simp [hprep_len], fun q hq hs => ?_⟩
        rw [List.getElem?_append_left (by rw [hprep_len]; exact hq)]
        simp only [hprep, if_true, Bool.false_eq_true, if_false]
        rw [List.getElem?_set_ne (fun h => hs h.symm)]

end Go.Eng
