/- The engine, part 33: arguments that are read: what they hold, in an abstract heap. -/
import Derived.Test.YtoojhjhamhkmjaaLE32
import GoSem.ClaimChange
set_option linter.unusedVariables false
set_option linter.unusedSimpArgs false
namespace Go.Eng

/-- Fields stand one behind the other. -/
def tiles (P : Program) : List Field → Nat → Nat → Bool
  | [], k, n => k == n
  | f :: fs, k, n => f.offset == k && tiles P fs (k + P.cellsOf f.type) n

/-- Numbers, truths, texts, and rows, structs and arrays of such. -/
def plainT (P : Program) : Nat → TypeId → Bool
  | 0, _ => false
  | n + 1, t => match P.underlying t with
    | some .bool => true
    | some (.int _) => true
    | some .string => true
    | some (.slice e) => plainT P n e && decide (0 < P.cellsOf e) && (sizeT P e == some (P.cellsOf e))
    | some (.struct fs) => tiles P fs.toList 0 (P.cellsOf t) && fs.toList.all fun f => plainT P n f.type
    | some (.array m e) => plainT P n e && (P.cellsOf t == m * P.cellsOf e)
    | _ => false

/-- What cells hold. -/
inductive Rd' {H : Type} (P : Program) (h : AH) : TypeId → List Value → DataW H → Prop where
  | bool {t : TypeId} (hu : P.underlying t = some .bool) (b : Bool) : Rd' P h t [.bool b] (.lit (.bool b))
  | int {t : TypeId} {k : IntKind} (hu : P.underlying t = some (.int k)) (n : Int) (hw : (Lit.int k n).wf = true) : Rd' P h t [.int k n] (.lit (.int k n))
  | str {t : TypeId} (hu : P.underlying t = some .string) (s : ByteArray) (hs : s.size ≤ maxLen) : Rd' P h t [.string s] (.lit (.string s.data.toList))
  | snil {t e : TypeId} (hu : P.underlying t = some (.slice e)) : Rd' P h t [.slice none 0 0] .nil
  | sempty {t e : TypeId} (hu : P.underlying t = some (.slice e)) {b : Nat} : Rd' P h t [.slice (some ⟨b, 0, none⟩) 0 0] (.slice [] [])
  | slice {t e : TypeId} (hu : P.underlying t = some (.slice e)) {b n : Nat} {css : List (List Value)} {ds rest : List (DataW H)} (hc : hcell h b = some css.flatten) (he : helem h b = some e) (hn : css.length = n) (hd : ds.length = n) (hm : n ≤ maxLen)
      (hsz : ∀ cs ∈ css, cs.length = P.cellsOf e) (each : ∀ (i : Nat) (cs : List Value) (d : DataW H), css[i]? = some cs → ds[i]? = some d → Rd' P h e cs d) : Rd' P h t [.slice (some ⟨b, 0, none⟩) n n] (.slice ds rest)
  | struct {t : TypeId} {fs : Array Field} (hu : P.underlying t = some (.struct fs)) {cs : List Value} (hl : cs.length = P.cellsOf t) {ds : List (DataW H)} (hd : ds.length = fs.size)
      (each : ∀ (i : Nat) (f : Field) (d : DataW H), fs[i]? = some f → ds[i]? = some d → Rd' P h f.type ((cs.drop f.offset).take (P.cellsOf f.type)) d) : Rd' P h t cs (.agg ds)
  | array {t e : TypeId} {n : Nat} (hu : P.underlying t = some (.array n e)) {cs : List Value} (hl : cs.length = P.cellsOf t) {ds : List (DataW H)} (hd : ds.length = n)
      (each : ∀ (i : Nat) (d : DataW H), ds[i]? = some d → Rd' P h e ((cs.drop (i * P.cellsOf e)).take (P.cellsOf e)) d) : Rd' P h t cs (.agg ds)

theorem hcell_ext {h ext : AH} {b : Nat} {cs : List Value} (hc : hcell h b = some cs) : hcell (h ++ ext) b = some cs := by
  have hl : b < h.length := Cells.lt hc
  unfold hcell at hc ⊢
  rw [List.getElem?_append_left hl]; exact hc
theorem helem_ext {h ext : AH} {b : Nat} {e : TypeId} (hc : helem h b = some e) : helem (h ++ ext) b = some e := by
  have hl : b < h.length := by
    unfold helem at hc
    split at hc
    · rename_i h1; exact (List.getElem?_eq_some_iff.1 h1).1
    · cases hc
  unfold helem at hc ⊢
  rw [List.getElem?_append_left hl]; exact hc

theorem Rd'.ext {H : Type} {P : Program} {h : AH} {t : TypeId} {cs : List Value} {d : DataW H} (hr : Rd' P h t cs d) (x : AH) : Rd' P (h ++ x) t cs d := by
  induction hr with
  | bool hu b => exact .bool hu b
  | int hu n hw => exact .int hu n hw
  | str hu s hs => exact .str hu s hs
  | snil hu => exact .snil hu
  | sempty hu => exact .sempty hu
  | slice hu hc he hn hd hm hsz each ih => exact .slice hu (hcell_ext hc) (helem_ext he) hn hd hm hsz ih
  | struct hu hl hd each ih => exact .struct hu hl hd ih
  | array hu hl hd each ih => exact .array hu hl hd ih

theorem mapM_inv {α β : Type} {f : α → Option β} : ∀ (l : List α) (xs : List β), l.mapM f = some xs → xs.length = l.length ∧ ∀ (i : Nat) (x : α), l[i]? = some x → ∃ y, f x = some y ∧ xs[i]? = some y := by
  intro l
  induction l with
  | nil => intro xs h; simp at h; subst h; exact ⟨rfl, fun i x hx => by simp at hx⟩
  | cons a l ih =>
    intro xs h
    simp only [List.mapM_cons, Option.bind_eq_bind, Option.pure_def] at h
    obtain ⟨y, h1, h⟩ := Option.bind_eq_some_iff.1 h
    obtain ⟨ys, h2, h3⟩ := Option.bind_eq_some_iff.1 h
    cases h3
    obtain ⟨k1, k2⟩ := ih ys h2
    refine ⟨by simp [k1], fun i x hx => ?_⟩
    cases i with
    | zero => simp at hx; subst hx; exact ⟨y, h1, rfl⟩
    | succ i => obtain ⟨z, z1, z2⟩ := k2 i x (by simpa using hx); exact ⟨z, z1, by simpa using z2⟩

section
variable {H : Type} {enc : TypeId × Value → H} {P : Program} {W : World}

/-- An abstract heap of blocks that are only read. -/
structure Dr (P : Program) (W : World) (h : AH) (r : Rho) : Prop where
  hr : HR P r h W.heap
  ro : ∀ (b : Nat) (B : Blk), h[b]? = some B → B.wr = false
def Ex (P : Program) (W : World) (h : AH) (r : Rho) (h' : AH) (r' : Rho) : Prop := Dr P W h' r' ∧ r.le r' ∧ ∃ x, h' = h ++ x
theorem Ex.refl {h : AH} {r : Rho} (d : Dr P W h r) : Ex P W h r h r := ⟨d, .refl r, [], by simp⟩
theorem Ex.trans {h h1 h2 : AH} {r r1 r2 : Rho} (a : Ex P W h r h1 r1) (b : Ex P W h1 r1 h2 r2) : Ex P W h r h2 r2 := by
  obtain ⟨_, a2, x, rfl⟩ := a
  obtain ⟨b1, b2, y, rfl⟩ := b
  exact ⟨b1, a2.trans b2, x ++ y, by simp⟩

theorem Dr.push {h : AH} {r : Rho} (d : Dr P W h r) {x : Loc} {solo : Bool} {e : TypeId} {cs : List Value} (hx : x.blk < W.heap.size) (hb : BO P (r.upd h.length x) x (.cells false solo h.length 0 e cs) W.heap[x.blk]?) :
    Ex P W h r (h ++ [.cells false solo h.length 0 e cs]) (r.upd h.length x) ∧ (r.upd h.length x) h.length = some x := by
  have hf : r h.length = none := by
    cases hr : r h.length with
    | none => rfl
    | some y => have := (d.hr.dom _ _ hr).1; omega
  have hle := Rho.le_upd hf x
  refine ⟨⟨⟨⟨fun b y hy => ?_, fun b B hB hl => ?_, fun b b' B B' y y' h1 h2 hne hw => ?_⟩, fun b B hB => ?_⟩, hle, _, rfl⟩, Rho.upd_same _ _ _⟩
  · unfold Rho.upd at hy
    split at hy
    · rename_i e; cases hy; subst e; exact ⟨by simp, hx⟩
    · have := d.hr.dom b y hy; exact ⟨by simp; omega, this.2⟩
  · rw [List.getElem?_append] at hB
    split at hB
    · obtain ⟨y, h1, h2⟩ := d.hr.blk b B hB hl
      exact ⟨y, hle _ _ h1, h2.mono hle⟩
    · rename_i hge
      by_cases e : b = h.length
      · subst e; simp at hB; subst hB; exact ⟨x, Rho.upd_same _ _ _, hb⟩
      · rw [List.getElem?_eq_none (by simp; omega)] at hB; cases hB
  · exfalso
    rw [List.getElem?_append] at h1
    split at h1
    · rw [d.ro b B h1] at hw; cases hw
    · rename_i hge
      by_cases e : b = h.length
      · subst e; simp at h1; subst h1; cases hw
      · rw [List.getElem?_eq_none (by simp; omega)] at h1; cases h1
  · rw [List.getElem?_append] at hB
    split at hB
    · exact d.ro b B hB
    · rename_i hge
      by_cases e : b = h.length
      · subst e; simp at hB; subst hB; rfl
      · rw [List.getElem?_eq_none (by simp; omega)] at hB; cases hB

/-- The cells of one reading. -/
def Opens (P : Program) (W : World) (t : TypeId) (cs : List Value) (d : DataW H) : Prop := ∀ (h : AH) (r : Rho), Dr P W h r → ∃ (h' : AH) (r' : Rho) (avs : List Value), Ex P W h r h' r' ∧ VL r' avs cs ∧ Rd' P h' t avs d

theorem opens_many {e : TypeId} : ∀ (l : List (List Value × DataW H)), (∀ x ∈ l, Opens P W e x.1 x.2) → ∀ (h : AH) (r : Rho), Dr P W h r →
    ∃ (h' : AH) (r' : Rho) (avss : List (List Value)), Ex P W h r h' r' ∧ avss.length = l.length ∧ ∀ (i : Nat) (x : List Value × DataW H) (avs : List Value), l[i]? = some x → avss[i]? = some avs → VL r' avs x.1 ∧ Rd' P h' e avs x.2 := by
  intro l
  induction l with
  | nil => intro _ h r d; exact ⟨h, r, [], .refl d, rfl, fun i x avs hx => by simp at hx⟩
  | cons x l ih =>
    intro hl h r d
    obtain ⟨h1, r1, avs, e1, e2, e3⟩ := hl x List.mem_cons_self h r d
    obtain ⟨h2, r2, avss, k1, k2, k3⟩ := ih (fun y hy => hl y (List.mem_cons_of_mem _ hy)) h1 r1 e1.1
    refine ⟨h2, r2, avs :: avss, e1.trans k1, by simp [k2], fun i y a hy ha => ?_⟩
    cases i with
    | zero =>
      simp at hy ha; subst hy; subst ha
      obtain ⟨_, q2, z, rfl⟩ := k1
      exact ⟨e2.mono q2, e3.ext z⟩
    | succ i => exact k3 i y a (by simpa using hy) (by simpa using ha)

theorem opens_fields : ∀ (fs : List Field) (k n : Nat) (cs : List Value) (ds : List (DataW H)), tiles P fs k n = true → cs.length = n → ds.length = fs.length →
    (∀ (i : Nat) (f : Field) (d : DataW H), fs[i]? = some f → ds[i]? = some d → Opens P W f.type ((cs.drop f.offset).take (P.cellsOf f.type)) d) → k ≤ n → ∀ (h : AH) (r : Rho), Dr P W h r →
    ∃ (h' : AH) (r' : Rho) (avs : List Value), Ex P W h r h' r' ∧ VL r' avs (cs.drop k) ∧ ∀ (i : Nat) (f : Field) (d : DataW H), fs[i]? = some f → ds[i]? = some d → k ≤ f.offset ∧ Rd' P h' f.type ((avs.drop (f.offset - k)).take (P.cellsOf f.type)) d := by
  intro fs
  induction fs with
  | nil =>
    intro k n cs ds ht hl hd _ hk h r dr
    simp only [tiles, beq_iff_eq] at ht
    refine ⟨h, r, [], .refl dr, ?_, fun i f d hf => by simp at hf⟩
    rw [List.drop_of_length_le (by omega)]; exact .nil r
  | cons f fs ih =>
    intro k n cs ds ht hl hd hop hk h r dr
    cases ds with
    | nil => simp at hd
    | cons d ds =>
      simp only [tiles, Bool.and_eq_true, beq_iff_eq] at ht
      obtain ⟨ho, ht⟩ := ht
      have hkn : k + P.cellsOf f.type ≤ n := by
        have : ∀ (fs : List Field) (k n : Nat), tiles P fs k n = true → k ≤ n := by
          intro fs
          induction fs with
          | nil => intro k n h; simp only [tiles, beq_iff_eq] at h; omega
          | cons f fs ih => intro k n h; simp only [tiles, Bool.and_eq_true] at h; have := ih _ _ h.2; omega
        exact this _ _ _ ht
      obtain ⟨h1, r1, avs, e1, e2, e3⟩ := hop 0 f d rfl rfl h r dr
      rw [ho] at e2
      obtain ⟨h2, r2, avs2, k1, k2, k3⟩ := ih (k + P.cellsOf f.type) n cs ds ht hl (by simpa using hd) (fun i f' d' a b => hop (i + 1) f' d' (by simpa using a) (by simpa using b)) hkn h1 r1 e1.1
      have hlen : avs.length = P.cellsOf f.type := by rw [e2.1]; simp; omega
      refine ⟨h2, r2, avs ++ avs2, e1.trans k1, ?_, fun i f' d' a b => ?_⟩
      · have := (e2.mono k1.2.1).append k2
        rw [← List.drop_drop, List.take_append_drop] at this
        exact this
      · cases i with
        | zero =>
          simp at a b; subst a; subst b
          refine ⟨by omega, ?_⟩
          rw [ho, Nat.sub_self, List.drop_zero, List.take_append_of_le_length (by omega), List.take_of_length_le (by omega)]
          obtain ⟨_, _, z, rfl⟩ := k1
          exact e3.ext z
        | succ i =>
          obtain ⟨q1, q2⟩ := k3 i f' d' (by simpa using a) (by simpa using b)
          refine ⟨by omega, ?_⟩
          rw [List.drop_append, List.drop_of_length_le (by omega), List.nil_append, hlen]
          rw [show f'.offset - k - P.cellsOf f.type = f'.offset - (k + P.cellsOf f.type) by omega]
          exact q2


theorem cell_inv {a : Addr} {v : Value} (h : W.cell? a = some v) : a.spot = none ∧ a.block < W.heap.size ∧ ∃ cur e fr, W.heap[a.block]? = some (.cells cur e fr) ∧ cur[a.off]? = some v := by
  unfold World.cell? at h
  split at h
  · rename_i cur e fr hb
    split at h
    · cases h
    · rename_i hs
      exact ⟨by simpa using hs, (Array.getElem?_eq_some_iff.1 hb).1, cur, e, fr, hb, h⟩
  · cases h

theorem cells_inv {a : Addr} {n : Nat} {cs : List Value} (h : W.cells? 0 a n = some cs) : cs.length = n ∧ ∀ j, j < n → ∃ v, W.cell? (a.add j) = some v ∧ cs[j]? = some v := by
  unfold World.cells? at h
  rw [if_pos (Nat.zero_le _)] at h
  obtain ⟨h1, h2⟩ := mapM_inv _ _ h
  exact ⟨by simpa using h1, fun j hj => h2 j j (List.getElem?_range hj)⟩

theorem opens_slice {t e : TypeId} (hu : P.underlying t = some (.slice e)) (hpos : 0 < P.cellsOf e) (hsz : sizeT P e = some (P.cellsOf e)) {a : Addr} {len cap : Nat} {elems : List (DataW H × List MemPlace)} {rest : List (DataW H × List MemPlace)}
    (hlc : len ≤ cap) (hcm : cap ≤ maxLen) {fuel : Nat}
    (h1 : (List.range len).mapM (fun i => (W.cells? 0 (a.add (i * P.cellsOf e)) (P.cellsOf e)).bind (DataW.trod enc P W 0 (fun _ => true) true fuel e)) = some elems)
    (h2 : (List.range (cap - len)).mapM (fun j => (W.cells? 0 (a.add ((len + j) * P.cellsOf e)) (P.cellsOf e)).bind (DataW.trod enc P W 0 (fun _ => true) true fuel e)) = some rest)
    (ih : ∀ cs d ps, DataW.trod enc P W 0 (fun _ => true) true fuel e cs = some (d, ps) → Opens P W e cs d) : Opens P W t [.slice (some a) len cap] (.slice (elems.map (·.1)) (rest.map (·.1))) := by
  intro h r dr
  obtain ⟨e1, e2⟩ := mapM_inv _ _ h1
  obtain ⟨f1, f2⟩ := mapM_inv _ _ h2
  simp only [List.length_range] at e1 f1
  by_cases hc0 : cap = 0
  · subst hc0
    have hl0 : len = 0 := by omega
    subst hl0
    have : elems = [] := List.length_eq_zero_iff.1 e1
    have : rest = [] := List.length_eq_zero_iff.1 f1
    subst elems; subst rest
    exact ⟨h, r, [.slice (some ⟨0, 0, none⟩) 0 0], .refl dr, .cons (.sempty rfl rfl) (.nil r), .sempty hu⟩
  · -- all elements that are there
    have all : ∀ i, i < cap → ∃ cs d ps, W.cells? 0 (a.add (i * P.cellsOf e)) (P.cellsOf e) = some cs ∧ DataW.trod enc P W 0 (fun _ => true) true fuel e cs = some (d, ps) ∧ (i < len → elems[i]? = some (d, ps)) := by
      intro i hi
      by_cases hil : i < len
      · obtain ⟨y, y1, y2⟩ := e2 i i (List.getElem?_range hil)
        obtain ⟨cs, c1, c2⟩ := Option.bind_eq_some_iff.1 y1
        exact ⟨cs, y.1, y.2, c1, c2, fun _ => y2⟩
      · obtain ⟨y, y1, y2⟩ := f2 (i - len) (i - len) (List.getElem?_range (by omega))
        rw [show len + (i - len) = i by omega] at y1
        obtain ⟨cs, c1, c2⟩ := Option.bind_eq_some_iff.1 y1
        exact ⟨cs, y.1, y.2, c1, c2, fun h => absurd h hil⟩
    obtain ⟨cs0, d0, ps0, c0, _, _⟩ := all 0 (by omega)
    obtain ⟨_, c0'⟩ := cells_inv c0
    obtain ⟨v0, v1, v2⟩ := c0' 0 hpos
    have ha0 : (a.add (0 * P.cellsOf e)).add 0 = a := by simp [Addr.add]
    rw [ha0] at v1
    obtain ⟨hspot, hblk, cur, te, fr, hcur, _⟩ := cell_inv v1
    obtain ⟨blk, off, spot⟩ := a
    simp only at hspot hblk hcur
    subst hspot
    -- the list of readings
    let l : List (List Value × DataW H) := (List.range len).map fun i => match W.cells? 0 (Addr.add ⟨blk, off, none⟩ (i * P.cellsOf e)) (P.cellsOf e), elems[i]? with
      | some cs, some x => (cs, x.1)
      | _, _ => ([], .nil)
    have lget : ∀ (i : Nat), i < len → ∃ (cs : List Value) (d : DataW H) (ps : List MemPlace), W.cells? 0 (Addr.add ⟨blk, off, none⟩ (i * P.cellsOf e)) (P.cellsOf e) = some cs ∧ DataW.trod enc P W 0 (fun _ => true) true fuel e cs = some (d, ps) ∧ elems[i]? = some (d, ps) ∧ l[i]? = some (cs, d) := by
      intro i hi
      obtain ⟨cs, d, ps, c1, c2, c3⟩ := all i (by omega)
      refine ⟨cs, d, ps, c1, c2, c3 hi, ?_⟩
      simp only [l, List.getElem?_map, List.getElem?_range hi, Option.map_some, c1, c3 hi]
    have llen : l.length = len := by simp [l]
    have hop : ∀ x ∈ l, Opens P W e x.1 x.2 := by
      intro x hx
      obtain ⟨i, hi⟩ := List.mem_iff_getElem?.1 hx
      have hil : i < len := by have := (List.getElem?_eq_some_iff.1 hi).1; omega
      obtain ⟨cs, d, ps, c1, c2, c3, c4⟩ := lget i hil
      rw [hi] at c4; cases c4
      exact ih cs d ps c2
    obtain ⟨h', r', avss, k1, k2, k3⟩ := opens_many l hop h r dr
    have kget : ∀ (i : Nat) (avs : List Value), avss[i]? = some avs → ∃ (cs : List Value) (d : DataW H), l[i]? = some (cs, d) ∧ VL r' avs cs ∧ Rd' P h' e avs d ∧ cs.length = P.cellsOf e := by
      intro i avs hi
      have hil : i < len := by have := (List.getElem?_eq_some_iff.1 hi).1; omega
      obtain ⟨cs, d, ps, c1, c2, c3, c4⟩ := lget i hil
      obtain ⟨q1, q2⟩ := k3 i _ avs c4 hi
      exact ⟨cs, d, c4, q1, q2, (cells_inv c1).1⟩
    have havl : ∀ avs ∈ avss, avs.length = P.cellsOf e := by
      intro avs hx
      obtain ⟨i, hi⟩ := List.mem_iff_getElem?.1 hx
      obtain ⟨cs, d, _, q1, _, q3⟩ := kget i avs hi
      rw [q1.1, q3]
    have hflen : avss.flatten.length = len * P.cellsOf e := by
      have : ∀ (L : List (List Value)), (∀ x ∈ L, x.length = P.cellsOf e) → L.flatten.length = L.length * P.cellsOf e := by
        intro L
        induction L with
        | nil => intro _; simp
        | cons x L ih => intro hL; simp only [List.flatten_cons, List.length_append, List.length_cons, ih (fun y hy => hL y (List.mem_cons_of_mem _ hy)), hL x List.mem_cons_self, Nat.add_mul, Nat.one_mul]; omega
      rw [this avss havl, k2, llen]
    have hfget : ∀ (i j : Nat), i < len → j < P.cellsOf e → avss.flatten[i * P.cellsOf e + j]? = (avss[i]?).bind (·[j]?) := by
      have : ∀ (L : List (List Value)), (∀ x ∈ L, x.length = P.cellsOf e) → ∀ (i j : Nat), j < P.cellsOf e → L.flatten[i * P.cellsOf e + j]? = (L[i]?).bind (·[j]?) := by
        intro L
        induction L with
        | nil => intro _ i j _; simp
        | cons x L ih =>
          intro hL i j hj
          have hx := hL x List.mem_cons_self
          cases i with
          | zero => simp only [List.flatten_cons, Nat.zero_mul, Nat.zero_add]; rw [List.getElem?_append_left (by omega)]; simp
          | succ i =>
            simp only [List.flatten_cons]
            rw [List.getElem?_append_right (by rw [hx, Nat.add_mul]; omega)]
            have := ih (fun y hy => hL y (List.mem_cons_of_mem _ hy)) i j hj
            rw [show (i + 1) * P.cellsOf e + j - x.length = i * P.cellsOf e + j by rw [hx, Nat.add_mul]; omega]
            simpa using this
      intro i j _ hj
      exact this avss havl i j hj
    have cellat : ∀ q, q < len * P.cellsOf e → ∃ v v', avss.flatten[q]? = some v ∧ cur[off + q]? = some v' ∧ VR r' v v' := by
      intro q hq
      have hi : q / P.cellsOf e < len := Nat.div_lt_of_lt_mul (by rw [Nat.mul_comm]; exact hq)
      have hj : q % P.cellsOf e < P.cellsOf e := Nat.mod_lt _ hpos
      have hqe : q / P.cellsOf e * P.cellsOf e + q % P.cellsOf e = q := by rw [Nat.mul_comm]; exact Nat.div_add_mod _ _
      obtain ⟨cs, d, ps, c1, c2, c3, c4⟩ := lget (q / P.cellsOf e) hi
      obtain ⟨avs, hav⟩ : ∃ avs, avss[q / P.cellsOf e]? = some avs := ⟨avss[q / P.cellsOf e]'(by omega), by simp⟩
      obtain ⟨q1, q2⟩ := k3 _ _ avs c4 hav
      obtain ⟨_, cc⟩ := cells_inv c1
      obtain ⟨v', w1, w2⟩ := cc _ hj
      obtain ⟨_, _, cur2, te2, fr2, w3, w4⟩ := cell_inv w1
      have hadd : (Addr.add (Addr.add ⟨blk, off, none⟩ (q / P.cellsOf e * P.cellsOf e)) (q % P.cellsOf e)) = ⟨blk, off + q, none⟩ := by
        simp only [Addr.add_lit]
        rw [show off + q / P.cellsOf e * P.cellsOf e + q % P.cellsOf e = off + q by omega]
      rw [hadd] at w3 w4
      simp only at w3 w4
      rw [hcur] at w3; cases w3
      have hlt : q % P.cellsOf e < avs.length := by rw [havl avs (List.mem_of_getElem? hav)]; exact hj
      refine ⟨avs[q % P.cellsOf e], v', ?_, w4, q1.2 _ _ _ (by simp [hlt]) w2⟩
      have := hfget _ _ hi hj
      rw [hqe, hav] at this
      rw [this]; simp [hlt]
    have hoff : off < cur.size := by
      obtain ⟨_, _, cur2, _, _, w3, w4⟩ := cell_inv v1
      simp only at w3 w4
      rw [hcur] at w3; cases w3
      exact (Array.getElem?_eq_some_iff.1 w4).1
    let x : Loc := ⟨blk, off, off + cap * P.cellsOf e, P.cellsOf e⟩
    have hBO : BO P (r'.upd h'.length x) x (.cells false true h'.length 0 e avss.flatten) W.heap[x.blk]? := by
      have hf : r' h'.length = none := by
        cases hr : r' h'.length with
        | none => rfl
        | some y => have := (k1.1.hr.dom _ _ hr).1; omega
      refine ⟨cur, te, fr, hcur, (fun hh => by cases hh), hsz, ?_, fun i v v' hv hv' => ?_⟩
      · show off + avss.flatten.length ≤ cur.size
        rw [hflen]
        by_cases hz : len * P.cellsOf e = 0
        · omega
        · obtain ⟨_, v', _, q2, _⟩ := cellat (len * P.cellsOf e - 1) (by omega)
          have := (Array.getElem?_eq_some_iff.1 q2).1
          omega
      · have hq : i < len * P.cellsOf e := by have := (List.getElem?_eq_some_iff.1 hv).1; omega
        obtain ⟨u, u', q1, q2, q3⟩ := cellat i hq
        rw [hv] at q1; cases q1
        have hv'' : cur[off + i]? = some v' := hv'
        rw [q2] at hv''; cases hv''
        exact q3.mono (Rho.le_upd hf x)
    obtain ⟨m1, m2⟩ := k1.1.push (solo := true) (e := e) (cs := avss.flatten) (x := x) hblk hBO
    refine ⟨_, _, [.slice (some ⟨h'.length, 0, none⟩) len len], k1.trans m1, .cons ?_ (.nil _), ?_⟩
    · have := VR.slice (r := r'.upd h'.length x) (b := h'.length) (o := 0) (n := len) (c := len) (c' := cap) m2 hlc (Nat.le_refl _) (by show 0 + off + cap * P.cellsOf e ≤ off + cap * P.cellsOf e; omega)
      simpa [x] using this
    · refine .slice hu (css := avss) ?_ ?_ (by rw [k2, llen]) (by simp [e1]) (by omega) havl (fun i cs d hi hd => ?_)
      · simp [hcell]
      · simp [helem]
      · obtain ⟨cs', d', q1, q2, q3, q4⟩ := kget i cs hi
        have hil : i < len := by have := (List.getElem?_eq_some_iff.1 hi).1; omega
        obtain ⟨cs2, d2, ps2, c1, c2, c3, c4⟩ := lget i hil
        rw [q1] at c4; cases c4
        rw [List.getElem?_map, c3] at hd
        simp at hd; subst hd
        exact q3.ext _


theorem opens : ∀ (fuel n : Nat) (t : TypeId) (cs : List Value) (d : DataW H) (ps : List MemPlace), plainT P n t = true → DataW.trod enc P W 0 (fun _ => true) true fuel t cs = some (d, ps) → Opens P W t cs d := by
  intro fuel
  induction fuel with
  | zero => intro n t cs d ps _ h; simp [DataW.trod] at h
  | succ fuel ih =>
    intro n t cs d ps hp h
    cases n with
    | zero => simp [plainT] at hp
    | succ n =>
      cases hu : P.underlying t with
      | none => simp [plainT, hu] at hp
      | some u =>
        simp only [plainT, hu] at hp
        cases u <;> simp only at hp <;> try (cases hp; done)
        case bool =>
          rcases cs with _ | ⟨v, _ | ⟨v2, cs⟩⟩ <;> first | (simp [DataW.trod, hu] at h; done) | skip
          cases v <;> first | (simp [DataW.trod, hu] at h; done) | skip
          rename_i b
          simp [DataW.trod, hu] at h
          obtain ⟨rfl, rfl⟩ := h
          exact fun h r dr => ⟨h, r, [.bool b], .refl dr, .cons (.bool b) (.nil r), .bool hu b⟩
        case int k =>
          rcases cs with _ | ⟨v, _ | ⟨v2, cs⟩⟩ <;> first | (simp [DataW.trod, hu] at h; done) | skip
          cases v <;> first | (simp [DataW.trod, hu] at h; done) | skip
          rename_i k' m
          simp only [DataW.trod, hu] at h
          split at h
          · rename_i hc
            obtain ⟨rfl, hw⟩ := hc
            cases h
            exact fun h r dr => ⟨h, r, [.int _ m], .refl dr, .cons (.int _ m) (.nil r), .int hu m hw⟩
          · cases h
        case string =>
          rcases cs with _ | ⟨v, _ | ⟨v2, cs⟩⟩ <;> first | (simp [DataW.trod, hu] at h; done) | skip
          cases v <;> first | (simp [DataW.trod, hu] at h; done) | skip
          rename_i s
          simp only [DataW.trod, hu] at h
          split at h
          · rename_i hc
            cases h
            exact fun h r dr => ⟨h, r, [.string s], .refl dr, .cons (.string s) (.nil r), .str hu s hc⟩
          · cases h
        case slice e =>
          simp only [Bool.and_eq_true, decide_eq_true_eq, beq_iff_eq] at hp
          rcases cs with _ | ⟨v, _ | ⟨v2, cs⟩⟩ <;> first | (simp [DataW.trod, hu] at h; done) | skip
          cases v <;> first | (simp [DataW.trod, hu] at h; done) | skip
          rename_i a len cap
          cases a with
          | none =>
            cases len <;> cases cap <;> first | (simp [DataW.trod, hu] at h; done) | skip
            simp [DataW.trod, hu] at h
            obtain ⟨rfl, rfl⟩ := h
            exact fun h r dr => ⟨h, r, [.slice none 0 0], .refl dr, .cons .snil (.nil r), .snil hu⟩
          | some a =>
            simp only [DataW.trod, hu, if_true] at h
            split at h
            · rename_i hc
              obtain ⟨elems, h1, h⟩ := Option.bind_eq_some_iff.1 h
              obtain ⟨rest, h2, h3⟩ := Option.map_eq_some_iff.1 h
              cases h3
              exact opens_slice hu hp.1.2 hp.2 hc.2.1 hc.2.2 h1 h2 (fun cs d ps => ih n e cs d ps hp.1.1)
            · cases h
        case struct fs =>
          simp only [Bool.and_eq_true] at hp
          simp only [DataW.trod, hu] at h
          split at h
          · rename_i hl
            obtain ⟨xs, h1, h2⟩ := Option.map_eq_some_iff.1 h
            cases h2
            obtain ⟨e1, e2⟩ := mapM_inv _ _ h1
            intro h r dr
            obtain ⟨h', r', avs, k1, k2, k3⟩ := opens_fields (P := P) (W := W) fs.toList 0 (P.cellsOf t) cs (xs.map (·.1)) hp.1 hl (by simp [e1]) (fun i f d hf hd => by
              obtain ⟨y, y1, y2⟩ := e2 i f hf
              rw [List.getElem?_map, y2] at hd
              simp at hd; subst hd
              exact ih n f.type _ _ _ (List.all_eq_true.1 hp.2 f (List.mem_of_getElem? hf)) y1) (Nat.zero_le _) h r dr
            refine ⟨h', r', avs, k1, by simpa using k2, .struct hu (by have := k2.1; simp at this; omega) (by simp [e1]) (fun i f d hf hd => ?_)⟩
            obtain ⟨_, q2⟩ := k3 i f d (by simpa using hf) hd
            simpa using q2
          · cases h
        case array m e =>
          simp only [DataW.trod, hu] at h
          split at h
          · rename_i hl
            obtain ⟨xs, h1, h2⟩ := Option.map_eq_some_iff.1 h
            cases h2
            simp only [Bool.and_eq_true, beq_iff_eq] at hp
            obtain ⟨e1, e2⟩ := mapM_inv _ _ h1
            let fa : Nat → Field := fun i => { (default : Field) with type := e, offset := i * P.cellsOf e }
            have ht : ∀ (j k : Nat), k + j = m → tiles P ((List.range' k j).map fa) (k * P.cellsOf e) (P.cellsOf t) = true := by
              intro j
              induction j with
              | zero => intro k hk; simp only [List.range'_zero, List.map_nil, tiles, beq_iff_eq]; rw [hp.2]; congr 1
              | succ j ihj =>
                intro k hk
                simp only [List.range'_succ, List.map_cons, tiles, fa, Bool.and_eq_true, beq_self_eq_true, true_and]
                have := ihj (k + 1) (by omega)
                rw [Nat.add_mul, Nat.one_mul] at this
                exact this
            have h0 : tiles P ((List.range m).map fa) 0 (P.cellsOf t) = true := by
              have := ht m 0 (by omega)
              rw [← List.range_eq_range', Nat.zero_mul] at this; exact this
            have fget : ∀ (i : Nat) (f : Field), ((List.range m).map fa)[i]? = some f → i < m ∧ f = fa i := by
              intro i f hf
              rw [List.getElem?_map] at hf
              by_cases hi : i < m
              · rw [List.getElem?_range hi] at hf; simp at hf; exact ⟨hi, hf.symm⟩
              · rw [List.getElem?_eq_none (by simp; omega)] at hf; cases hf
            intro h r dr
            obtain ⟨h', r', avs, k1, k2, k3⟩ := opens_fields (P := P) (W := W) ((List.range m).map fa) 0 (P.cellsOf t) cs (xs.map (·.1)) h0 hl (by simpa using e1) (fun i f d hf hd => by
              obtain ⟨hi, rfl⟩ := fget i f hf
              obtain ⟨y, y1, y2⟩ := e2 i i (List.getElem?_range hi)
              rw [List.getElem?_map, y2] at hd
              simp at hd; subst hd
              exact ih n e _ _ _ hp.1 y1) (Nat.zero_le _) h r dr
            refine ⟨h', r', avs, k1, by simpa using k2, .array hu (by have := k2.1; simp at this; omega) (by simpa using e1) (fun i d hd => ?_)⟩
            have hi : i < m := by
              have := (List.getElem?_eq_some_iff.1 hd).1
              simp at this e1; omega
            obtain ⟨_, q2⟩ := k3 i (fa i) d (by rw [List.getElem?_map, List.getElem?_range hi]; rfl) hd
            simpa [fa] using q2
          · cases h

end
end Go.Eng
