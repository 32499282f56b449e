/- The engine, part 2: heaps. -/
import Derived.Test.YtoojhjhamhkmjaaLE1
set_option linter.unusedVariables false
set_option linter.unusedSimpArgs false
namespace Go.Eng

/-- A block of an abstract heap: nothing; a row (ours to write?; alone in its block of the model?; whose kin; how far moved against its kin; the element type; what is known of it); a map. -/
inductive Blk where
  | gone
  | cells (own solo : Bool) (grp del : Nat) (e : TypeId) (cs : List Value)
  | map (es : List (Value × Value))

abbrev AH := List Blk

def Blk.wr : Blk → Bool
  | .gone => false
  | .cells own .. => own
  | .map _ => true
def Blk.live : Blk → Bool
  | .gone => false
  | _ => true
/-- Alone in its block. -/
def Blk.alone : Blk → Bool
  | .cells _ solo .. => solo
  | _ => true

/-- What an object of the model holds for a block. -/
def BO (P : Program) (r : Rho) (x : Loc) : Blk → Option Obj → Prop
  | .gone, _ => True
  | .cells own _ _ _ e cs, o => ∃ cur e' fr, o = some (.cells cur e' fr) ∧ (own = true → e' = e ∧ fr = (0, 0) ∧ cur.size = x.lim) ∧ sizeT P e = some x.sz ∧ x.off + cs.length ≤ cur.size ∧
      ∀ (i : Nat) (v v' : Value), cs[i]? = some v → cur[x.off + i]? = some v' → VR r v v'
  | .map es, o => ∃ ces clock, o = some (.map ces clock) ∧ x.off = 0 ∧ es.length = ces.size ∧ ∀ (i : Nat) (kv : Value × Value) (m : MapEntry), es[i]? = some kv → ces[i]? = some m → VR r kv.1 m.key ∧ VR r kv.2 m.val

theorem BO.mono {P : Program} {r r' : Rho} (hr : r.le r') {x : Loc} {B : Blk} {o : Option Obj} (h : BO P r x B o) : BO P r' x B o := by
  cases B with
  | gone => trivial
  | cells =>
    obtain ⟨cur, e', fr, h1, h2, hs, h3, h4⟩ := h
    exact ⟨cur, e', fr, h1, h2, hs, h3, fun i v v' a b => (h4 i v v' a b).mono hr⟩
  | map =>
    obtain ⟨ces, clock, h1, h2, h3, h4⟩ := h
    exact ⟨ces, clock, h1, h2, h3, fun i kv m a b => ⟨(h4 i kv m a b).1.mono hr, (h4 i kv m a b).2.mono hr⟩⟩

/-- Two blocks that may lie in one. -/
def Ali (B : Blk) (d : Nat) (B' : Blk) (d' : Nat) : Prop :=
  ∃ grp del e cs del' e' cs', B = .cells true false grp del e cs ∧ B' = .cells true false grp del' e' cs' ∧ d + del' = d' + del

structure HR (P : Program) (r : Rho) (h : AH) (W : Array Obj) : Prop where
  dom : ∀ b x, r b = some x → b < h.length ∧ x.blk < W.size
  blk : ∀ b B, h[b]? = some B → B.live = true → ∃ x, r b = some x ∧ BO P r x B W[x.blk]?
  sep : ∀ b b' B B' x x', h[b]? = some B → h[b']? = some B' → b ≠ b' → B.wr = true → B'.live = true → r b = some x → r b' = some x' → x.blk = x'.blk → Ali B x.off B' x'.off

theorem Blk.live_of_wr {B : Blk} (h : B.wr = true) : B.live = true := by cases B <;> simp_all [Blk.wr, Blk.live]

/-- Only the blocks of K may have turned. -/
structure Fr (K : Nat → Prop) (w w' : World) : Prop where
  os : w'.os = w.os
  tape : w'.tape = w.tape
  output : w'.output = w.output
  size : w.heap.size ≤ w'.heap.size
  block : ∀ k, k < w.heap.size → ¬ K k → w'.heap[k]? = w.heap[k]?

theorem Fr.refl (K : Nat → Prop) (w : World) : Fr K w w := ⟨rfl, rfl, rfl, Nat.le_refl _, fun _ _ _ => rfl⟩
theorem Fr.same {K : Nat → Prop} {w w' : World} (h1 : w'.os = w.os) (h2 : w'.tape = w.tape) (h3 : w'.output = w.output) (h4 : w'.heap = w.heap) : Fr K w w' :=
  ⟨h1, h2, h3, by rw [h4]; exact Nat.le_refl _, fun k _ _ => by rw [h4]⟩
theorem Fr.trans {K K' : Nat → Prop} {w w1 w2 : World} (h : Fr K w w1) (k : Fr K' w1 w2) (hk : ∀ b, b < w.heap.size → K' b → K b) : Fr K w w2 :=
  ⟨k.os.trans h.os, k.tape.trans h.tape, k.output.trans h.output, Nat.le_trans h.size k.size, fun b hb hn =>
    (k.block b (Nat.lt_of_lt_of_le hb h.size) fun h' => hn (hk b hb h')).trans (h.block b hb hn)⟩

/-- The blocks of the model that a heap may write. -/
def Wr (r : Rho) (h : AH) (k : Nat) : Prop := ∃ b B x, h[b]? = some B ∧ B.wr = true ∧ r b = some x ∧ x.blk = k

/-- A step of the run: from a heap and a world to others. -/
structure Stp (P : Program) (r : Rho) (h : AH) (w : World) (r' : Rho) (h' : AH) (w' : World) : Prop where
  le : r.le r'
  hr : HR P r' h' w'.heap
  fr : Fr (Wr r h) w w'
  own : ∀ b' B' x, h'[b']? = some B' → B'.live = true → r' b' = some x → x.blk < w.heap.size → ∃ b B y, h[b]? = some B ∧ B.live = true ∧ r b = some y ∧ y.blk = x.blk ∧ (B'.wr = true → B.wr = true)
  len : h.length ≤ h'.length
  gone : ∀ b : Nat, h[b]? = some .gone → h'[b]? = some .gone

theorem Stp.trans {P : Program} {r r1 r2 : Rho} {h h1 h2 : AH} {w w1 w2 : World} (a : Stp P r h w r1 h1 w1) (b : Stp P r1 h1 w1 r2 h2 w2) : Stp P r h w r2 h2 w2 := by
  refine ⟨a.le.trans b.le, b.hr, a.fr.trans b.fr ?_, ?_, Nat.le_trans a.len b.len, fun k hk => b.gone k (a.gone k hk)⟩
  · rintro k hk ⟨c, C, x, h1, h2, h3, rfl⟩
    obtain ⟨c', C', y, e1, e2, e3, e4, e5⟩ := a.own c C x h1 (Blk.live_of_wr h2) h3 hk
    exact ⟨c', C', y, e1, e5 h2, e3, e4⟩
  · intro c C x h1 h2 h3 h4
    obtain ⟨c', C', y, e1, e2, e3, e4, e5⟩ := b.own c C x h1 h2 h3 (Nat.lt_of_lt_of_le h4 a.fr.size)
    obtain ⟨c'', C'', z, f1, f2, f3, f4, f5⟩ := a.own c' C' y e1 e2 e3 (by rw [e4]; exact h4)
    exact ⟨c'', C'', z, f1, f2, f3, f4.trans e4, fun hh => f5 (e5 hh)⟩

/-- A world that differs in what it has drawn alone. -/
structure Same (w w' : World) : Prop where
  os : w'.os = w.os
  tape : w'.tape = w.tape
  output : w'.output = w.output
  heap : w'.heap = w.heap
theorem Same.refl (w : World) : Same w w := ⟨rfl, rfl, rfl, rfl⟩
theorem Same.trans {a b c : World} (h : Same a b) (k : Same b c) : Same a c := ⟨k.os.trans h.os, k.tape.trans h.tape, k.output.trans h.output, k.heap.trans h.heap⟩
theorem Same.drew (w : World) : Same w w.drew := ⟨rfl, rfl, rfl, rfl⟩

theorem Stp.same {P : Program} {r : Rho} {h : AH} {w w' : World} (hr : HR P r h w.heap) (s : Same w w') : Stp P r h w r h w' :=
  ⟨.refl r, by rw [s.heap]; exact hr, .same s.os s.tape s.output s.heap, fun b B x h1 h2 h3 _ => ⟨b, B, x, h1, h2, h3, rfl, id⟩, Nat.le_refl _, fun _ h => h⟩
theorem Stp.refl {P : Program} {r : Rho} {h : AH} {w : World} (hr : HR P r h w.heap) : Stp P r h w r h w := .same hr (.refl w)

/-! ### A new block -/

/-- A fresh block in an empty place (or behind the last). -/
def hput (h : AH) (m : Nat) (B : Blk) : AH := if m < h.length then h.set m B else h ++ [B]

theorem hput_get {h : AH} {m : Nat} (hm : m ≤ h.length) (B : Blk) (b : Nat) : (hput h m B)[b]? = if b = m then some B else h[b]? := by
  unfold hput
  split
  · rename_i hlt
    rw [List.getElem?_set]
    by_cases e : m = b
    · subst e; simp [hlt]
    · simp [e, Ne.symm e]
  · have : m = h.length := by omega
    subst this
    by_cases e : b = h.length
    · subst e; simp
    · simp only [e, if_false]
      by_cases hb : b < h.length
      · rw [List.getElem?_append_left hb]
      · rw [List.getElem?_append_right (by omega), List.getElem?_eq_none (by simp; omega), List.getElem?_eq_none (by omega)]
theorem hput_length {h : AH} {m : Nat} (hm : m ≤ h.length) (B : Blk) : h.length ≤ (hput h m B).length ∧ m < (hput h m B).length := by
  unfold hput; split <;> simp <;> omega

/-- Is the place m free? -/
def Free (r : Rho) (h : AH) (m : Nat) : Prop := m ≤ h.length ∧ r m = none ∧ (m < h.length → h[m]? = some .gone)

theorem HR.free_end {P : Program} {r : Rho} {h : AH} {W : Array Obj} (hr : HR P r h W) : Free r h h.length :=
  ⟨Nat.le_refl _, by
    cases e : r h.length with
    | none => rfl
    | some x => exact absurd (hr.dom _ _ e).1 (Nat.lt_irrefl _), fun h => absurd h (Nat.lt_irrefl _)⟩

theorem Stp.new {P : Program} {r : Rho} {h : AH} {w w' : World} (hr : HR P r h w.heap) {m : Nat} (hm : Free r h m) {B : Blk} {o : Obj} {x0 : Loc} (hx0 : x0.blk = w.heap.size)
    (hB : BO P (r.upd m x0) x0 B (some o)) (h1 : w'.os = w.os) (h2 : w'.tape = w.tape) (h3 : w'.output = w.output) (h4 : w'.heap = w.heap.push o) :
    HR P (r.upd m x0) (hput h m B) w'.heap ∧ Fr (Wr r h) w w' ∧ r.le (r.upd m x0) := by
  have hle := Rho.le_upd hm.2.1 x0
  have hpush : ∀ k, k < w.heap.size → w'.heap[k]? = w.heap[k]? := fun k hk => by rw [h4, Array.getElem?_push, if_neg (by omega)]
  have hnew : w'.heap[x0.blk]? = some o := by rw [h4, hx0]; simp
  have hlt : ∀ b x, r b = some x → x.blk < w.heap.size := fun b x e => (hr.dom b x e).2
  refine ⟨⟨?_, ?_, ?_⟩, ⟨h1, h2, h3, by rw [h4]; simp, fun k hk _ => hpush k hk⟩, hle⟩
  · intro b x e
    have hl := hput_length hm.1 B
    by_cases hb : b = m
    · subst hb; rw [Rho.upd_same] at e; cases e
      exact ⟨hl.2, by rw [h4, hx0]; simp⟩
    · rw [Rho.upd_ne _ _ hb] at e
      have := hr.dom b x e
      exact ⟨by omega, by rw [h4]; simp; omega⟩
  · intro b C e hl
    rw [hput_get hm.1] at e
    by_cases hb : b = m
    · subst hb; simp at e; subst e
      exact ⟨_, Rho.upd_same _ _ _, by rw [hnew]; exact hB⟩
    · simp [hb] at e
      obtain ⟨x, e1, e2⟩ := hr.blk b C e hl
      exact ⟨x, by rw [Rho.upd_ne _ _ hb]; exact e1, by rw [hpush _ (hlt _ _ e1)]; exact e2.mono hle⟩
  · intro b b' C C' x x' e e' hne hw hl hx hx' heq
    rw [hput_get hm.1] at e e'
    by_cases hb : b = m
    · subst hb
      have hb' : b' ≠ b := fun k => hne k.symm
      rw [Rho.upd_same] at hx; cases hx
      rw [Rho.upd_ne _ _ hb'] at hx'
      have := hlt _ _ hx'
      omega
    · by_cases hb' : b' = m
      · subst hb'
        rw [Rho.upd_same] at hx'; cases hx'
        rw [Rho.upd_ne _ _ hb] at hx
        have := hlt _ _ hx
        omega
      · simp only [hb, hb', if_false] at e e'
        rw [Rho.upd_ne _ _ hb] at hx
        rw [Rho.upd_ne _ _ hb'] at hx'
        exact hr.sep b b' C C' x x' e e' hne hw hl hx hx' heq

/-- At the end of the heap. -/
theorem Stp.push {P : Program} {r : Rho} {h : AH} {w w' : World} (hr : HR P r h w.heap) {B : Blk} {o : Obj} {x0 : Loc} (hx0 : x0.blk = w.heap.size)
    (hB : BO P (r.upd h.length x0) x0 B (some o)) (h1 : w'.os = w.os) (h2 : w'.tape = w.tape) (h3 : w'.output = w.output) (h4 : w'.heap = w.heap.push o) :
    Stp P r h w (r.upd h.length x0) (h ++ [B]) w' := by
  obtain ⟨a, b, c⟩ := Stp.new (B := B) hr hr.free_end hx0 hB h1 h2 h3 h4
  have e : hput h h.length B = h ++ [B] := by simp [hput]
  rw [e] at a
  refine ⟨c, a, b, ?_, by simp, fun k hk => ?_⟩
  · intro b' B' x h5 h6 h7 h8
    by_cases hb : b' = h.length
    · subst hb; rw [Rho.upd_same] at h7; cases h7; omega
    · rw [Rho.upd_ne _ _ hb] at h7
      have hlt := (hr.dom _ _ h7).1
      rw [List.getElem?_append_left hlt] at h5
      exact ⟨b', B', x, h5, h6, h7, rfl, id⟩
  · have := (List.getElem?_eq_some_iff.1 hk).1
    rw [List.getElem?_append_left this]; exact hk

/-! ### A store into a row -/

/-- What may have been written over, of the kin, is no longer known. -/
def hcut (grp k : Nat) : Blk → Blk
  | .cells true false g d e cs => if g = grp then .cells true false g d e (cs.take (k - d)) else .cells true false g d e cs
  | B => B

def Value.one (v : Value) : Bool := v.oneCell'

def hstore (h : AH) (b i : Nat) (vs : List Value) : Option AH :=
  match h[b]? with
  | some (.cells true solo grp del e cs) =>
    if i + vs.length ≤ cs.length && vs.all Value.oneCell' then
      some ((if solo then h else h.map (hcut grp (del + i))).set b (.cells true solo grp del e (cs.take i ++ vs ++ cs.drop (i + vs.length))))
    else none
  | _ => none

theorem hcut_wr (grp k : Nat) (B : Blk) : (hcut grp k B).wr = B.wr := by
  unfold hcut; split <;> try rfl
  split <;> rfl
theorem hcut_live (grp k : Nat) (B : Blk) : (hcut grp k B).live = B.live := by
  unfold hcut; split <;> try rfl
  split <;> rfl
theorem hcut_gone {grp k : Nat} {B : Blk} (h : hcut grp k B = .gone) : B = .gone := by
  unfold hcut at h
  split at h
  · split at h <;> cases h
  · exact h

/-- A block that keeps its kind, kin and place, and of which no more is known. -/
def Less : Blk → Blk → Prop
  | .cells own solo grp del e cs, B => ∃ n, B = .cells own solo grp del e (cs.take n)
  | A, B => A = B

theorem hcut_less (grp k : Nat) (B : Blk) : Less B (hcut grp k B) := by
  cases B with
  | cells own solo g d e cs =>
    unfold hcut
    split
    · rename_i g' d' e' cs' heq
      cases heq
      split
      · exact ⟨_, rfl⟩
      · exact ⟨cs.length, by simp⟩
    · exact ⟨cs.length, by simp⟩
  | _ => rfl
theorem Less.refl (B : Blk) : Less B B := by
  cases B with
  | cells own solo g d e cs => exact ⟨cs.length, by simp⟩
  | _ => rfl
theorem Less.wr {A B : Blk} (h : Less A B) : B.wr = A.wr := by
  cases A with
  | cells => obtain ⟨n, rfl⟩ := h; rfl
  | _ => cases h; rfl
theorem Less.live {A B : Blk} (h : Less A B) : B.live = A.live := by
  cases A with
  | cells => obtain ⟨n, rfl⟩ := h; rfl
  | _ => cases h; rfl
theorem Less.ali {A B A' B' : Blk} {d d' : Nat} (h : Less A B) (h' : Less A' B') (k : Ali A d A' d') : Ali B d B' d' := by
  obtain ⟨grp, del, e, cs, del', e', cs', rfl, rfl, hd⟩ := k
  obtain ⟨n, rfl⟩ := h
  obtain ⟨n', rfl⟩ := h'
  exact ⟨grp, del, e, _, del', e', _, rfl, rfl, hd⟩
theorem Less.bo {P : Program} {r : Rho} {x : Loc} {A B : Blk} {o : Option Obj} (h : Less A B) (k : BO P r x A o) : BO P r x B o := by
  cases A with
  | cells own solo grp del e cs =>
    obtain ⟨n, rfl⟩ := h
    obtain ⟨cur, e', fr, h1, h2, hs, h3, h4⟩ := k
    refine ⟨cur, e', fr, h1, h2, hs, by simp; omega, fun i v v' a b => ?_⟩
    rw [List.getElem?_take] at a
    split at a
    · exact h4 i v v' a b
    · cases a
  | gone => cases h; trivial
  | map => cases h; exact k

theorem VR.one {r : Rho} {v v' : Value} (h : VR r v v') : v'.oneCell' = v.oneCell' := by cases h <;> rfl
theorem VL.one {r : Rho} {l l' : List Value} (h : VL r l l') (k : l.all Value.oneCell' = true) : ∀ v ∈ l', v.oneCell' = true := by
  intro v' hv
  obtain ⟨i, hi⟩ := List.mem_iff_getElem?.1 hv
  have hl : i < l.length := by rw [h.1]; exact (List.getElem?_eq_some_iff.1 hi).1
  rw [(h.2 i l[i] v' (by simp [hl]) hi).one]
  exact List.all_eq_true.1 k _ (List.getElem_mem hl)

theorem hstore_ok {P : Program} {r : Rho} {h h' : AH} {w : World} (hr : HR P r h w.heap) {b i : Nat} {vs vs' : List Value} (hs : hstore h b i vs = some h') (hv : VL r vs vs')
    {x : Loc} (hb : r b = some x) : ∃ w', (storeCells ⟨x.blk, i + x.off, none⟩ vs').run P w = .ok () w' ∧ Stp P r h w r h' w' := by
  obtain ⟨g, d, N, S⟩ := x
  unfold hstore at hs
  split at hs
  case h_2 => cases hs
  case h_1 solo grp del e cs hB =>
    split at hs
    case isFalse => cases hs
    case isTrue hc =>
      simp only [Bool.and_eq_true, decide_eq_true_eq] at hc
      obtain ⟨hlen, hone⟩ := hc
      obtain ⟨x, hx, cur, e', fr, ho, he, hS, hsz, hcell⟩ := hr.blk b _ hB rfl
      rw [hb] at hx; cases hx
      obtain ⟨rfl, rfl, hN⟩ := he rfl
      simp only at ho hsz hcell hN hS ⊢
      have hl' := hv.1
      refine ⟨_, run_storeCells_at P g (i + d) e' vs' 0 cur w ho (by omega) (hv.one hone), ?_⟩
      generalize hcur' : (cur.toList.take (i + d + 0) ++ vs' ++ cur.toList.drop (i + d + 0 + vs'.length)).toArray = cur'
      have hcurlen : cur.toList.length = cur.size := by simp
      have hsz' : cur'.size = cur.size := by
        subst hcur'
        simp only [Nat.add_zero, List.size_toArray, List.length_append, List.length_take, List.length_drop, hcurlen]
        omega
      have hget : ∀ j, cur'[j]? = if j < i + d then cur[j]? else if j < i + d + vs'.length then vs'[j - (i + d)]? else cur[j]? := by
        intro j
        subst hcur'
        simp only [Nat.add_zero, List.getElem?_toArray]
        by_cases h1 : j < i + d
        · rw [if_pos h1, List.append_assoc, List.getElem?_append_left (by simp; omega), List.getElem?_take, if_pos h1]; simp
        · rw [if_neg h1, List.append_assoc, List.getElem?_append_right (by simp; omega)]
          have hm : min (i + d) cur.toList.length = i + d := by omega
          rw [List.length_take, hm]
          by_cases h2 : j < i + d + vs'.length
          · rw [if_pos h2, List.getElem?_append_left (by omega)]
          · rw [if_neg h2, List.getElem?_append_right (by omega), List.getElem?_drop]
            simp only [Array.getElem?_toList]
            congr 1; omega
      have hW : (w.setRow g cur').heap[g]? = some (.cells cur' e' (0, 0)) := setRow_heap w g cur cur' e' (0, 0) ho
      have hWo : ∀ k, k ≠ g → (w.setRow g cur').heap[k]? = w.heap[k]? := fun k hk => setRow_other w g k cur' hk
      -- the entries behind the store
      have hent : ∀ (c : Nat) (C : Blk), h'[c]? = some C → ∃ C0, h[c]? = some C0 ∧ (c ≠ b → Less C0 C ∧ (solo = false → C = hcut grp (del + i) C0)) ∧
          (c = b → C0 = .cells true solo grp del e' cs ∧ C = .cells true solo grp del e' (cs.take i ++ vs ++ cs.drop (i + vs.length))) := by
        intro c C hC
        cases hs
        by_cases hcb : b = c
        · subst hcb
          have hbl : b < h.length := (List.getElem?_eq_some_iff.1 hB).1
          rw [List.getElem?_set_self (by cases solo <;> simpa using hbl)] at hC
          cases hC; exact ⟨_, hB, fun k => absurd rfl k, fun _ => ⟨rfl, rfl⟩⟩
        · rw [List.getElem?_set_ne hcb] at hC
          cases solo with
          | true => exact ⟨C, by simpa using hC, fun _ => ⟨.refl C, fun k => (by cases k)⟩, fun k => absurd k.symm hcb⟩
          | false =>
            simp only [Bool.false_eq_true, if_false, List.getElem?_map, Option.map_eq_some_iff] at hC
            obtain ⟨C0, h1, rfl⟩ := hC
            exact ⟨C0, h1, fun _ => ⟨hcut_less _ _ _, fun _ => rfl⟩, fun k => absurd k.symm hcb⟩
      have hlen' : h'.length = h.length := by cases hs; cases solo <;> simp
      have hwr : ∀ (c : Nat) (C C0 : Blk), h[c]? = some C0 → h'[c]? = some C → C.wr = C0.wr ∧ C.live = C0.live := by
        intro c C C0 h0 h1
        obtain ⟨C1, e1, e2, e3⟩ := hent c C h1
        rw [h0] at e1; cases e1
        by_cases hcb : c = b
        · obtain ⟨rfl, rfl⟩ := e3 hcb; exact ⟨rfl, rfl⟩
        · exact ⟨(e2 hcb).1.wr, (e2 hcb).1.live⟩
      have hHR : HR P r h' (w.setRow g cur').heap := by
        refine ⟨fun c x hcx => ?_, ?_, ?_⟩
        · have := hr.dom c x hcx
          exact ⟨by rw [hlen']; exact this.1, by rw [setRow_size]; exact this.2⟩
        · intro c C hC hl
          obtain ⟨C0, h0, e2, e3⟩ := hent c C hC
          have hl0 : C0.live = true := by rw [← (hwr c C C0 h0 hC).2]; exact hl
          obtain ⟨x, hx, hbo⟩ := hr.blk c C0 h0 hl0
          refine ⟨x, hx, ?_⟩
          by_cases hcb : c = b
          · obtain ⟨rfl, rfl⟩ := e3 hcb
            subst hcb
            rw [hb] at hx; cases hx
            refine ⟨cur', e', (0, 0), hW, fun _ => ⟨rfl, rfl, by rw [hsz']; exact hN⟩, hS, by simp only [List.length_append, List.length_take, List.length_drop]; omega, fun j v v' a b' => ?_⟩
            have hcslen : min i cs.length = i := by omega
            dsimp only at b'
            rw [hget] at b'
            by_cases h1 : j < i
            · rw [List.append_assoc, List.getElem?_append_left (by simp; omega), List.getElem?_take, if_pos h1] at a
              rw [if_pos (by omega)] at b'
              exact hcell j v v' a b'
            · rw [if_neg (by omega)] at b'
              rw [List.append_assoc, List.getElem?_append_right (by simp; omega), List.length_take, hcslen] at a
              by_cases h2 : j < i + vs.length
              · rw [List.getElem?_append_left (by omega)] at a
                rw [if_pos (by omega)] at b'
                have : d + j - (i + d) = j - i := by omega
                rw [this] at b'
                exact hv.2 _ v v' a b'
              · rw [List.getElem?_append_right (by omega), List.getElem?_drop] at a
                rw [if_neg (by omega)] at b'
                have : i + vs.length + (j - i - vs.length) = j := by omega
                rw [this] at a
                exact hcell j v v' a b'
          · obtain ⟨hless, hcut'⟩ := e2 hcb
            by_cases hg : x.blk = g
            · have hAli := hr.sep b c _ C0 ⟨g, d, N, S⟩ x hB h0 (fun k => hcb k.symm) rfl hl0 hb hx hg.symm
              obtain ⟨grp', dl, e1, cs1, dl', e1', cs1', q1, q2, q3⟩ := hAli
              cases q1
              obtain ⟨curx, ex, frx, hox, hex, hSx, hszx, hcx⟩ := (q2 ▸ hbo : BO P r x (.cells true false grp dl' e1' cs1') _)
              rw [hg, ho] at hox; cases hox
              rw [hcut' rfl, q2]
              simp only [hcut, if_true]
              rw [hg, hW]
              refine ⟨cur', e', (0, 0), rfl, fun hh => ⟨(hex hh).1, (hex hh).2.1, by rw [hsz']; exact (hex hh).2.2⟩, hSx, by simp only [List.length_take]; omega, fun j v v' a b' => ?_⟩
              rw [List.getElem?_take] at a
              split at a
              · rename_i hj
                rw [hget, if_pos (by simp only at q3; omega)] at b'
                exact hcx j v v' a b'
              · cases a
            · rw [hWo _ hg]; exact hless.bo hbo
        · intro c c' C C' x x' hC hC' hne hw hl hx hx' heq
          obtain ⟨C0, h0, e2, e3⟩ := hent c C hC
          obtain ⟨C0', h0', e2', e3'⟩ := hent c' C' hC'
          have := hr.sep c c' C0 C0' x x' h0 h0' hne (by rw [← (hwr c C C0 h0 hC).1]; exact hw) (by rw [← (hwr c' C' C0' h0' hC').2]; exact hl) hx hx' heq
          by_cases hcb : c = b
          · obtain ⟨rfl, rfl⟩ := e3 hcb
            have hcb' : c' ≠ b := fun k => hne (hcb.trans k.symm)
            obtain ⟨grp', dl, e1, cs1, dl', e1', cs1', q1, q2, q3⟩ := this
            cases q1
            obtain ⟨hless, _⟩ := e2' hcb'
            subst q2
            obtain ⟨n, rfl⟩ := hless
            exact ⟨_, _, _, _, _, _, _, rfl, rfl, q3⟩
          · by_cases hcb' : c' = b
            · obtain ⟨rfl, rfl⟩ := e3' hcb'
              obtain ⟨grp', dl, e1, cs1, dl', e1', cs1', q1, q2, q3⟩ := this
              cases q2
              obtain ⟨hless, _⟩ := e2 hcb
              subst q1
              obtain ⟨n, rfl⟩ := hless
              exact ⟨_, _, _, _, _, _, _, rfl, rfl, q3⟩
            · exact (e2 hcb).1.ali (e2' hcb').1 this
      refine ⟨.refl r, hHR, ⟨rfl, rfl, rfl, by simp, fun k hk hn => hWo k fun e => hn ⟨b, _, _, hB, rfl, hb, e.symm⟩⟩, ?_, by omega, ?_⟩
      · intro c C x hC hl hx _
        obtain ⟨C0, h0, _, _⟩ := hent c C hC
        exact ⟨c, C0, x, h0, by rw [← (hwr c C C0 h0 hC).2]; exact hl, hx, rfl, fun hh => by rw [← (hwr c C C0 h0 hC).1]; exact hh⟩
      · intro c hc
        have hlt : c < h'.length := by rw [hlen']; exact (List.getElem?_eq_some_iff.1 hc).1
        have : (h'[c]'hlt).live = Blk.gone.live := (hwr c _ _ hc (by simp [hlt])).2
        have : h'[c]'hlt = .gone := by cases hh : h'[c]'hlt <;> simp_all [Blk.live]
        rw [List.getElem?_eq_getElem hlt, this]

end Go.Eng
