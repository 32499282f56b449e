import Derived.Test.YtjacebjfidhcoaaPk21
import Derived.Test.YtjacebjfidhcoaaPk13
/- Heap: objects that stand (plain Lean). -/
set_option linter.unusedVariables false
set_option linter.unusedSimpArgs false
namespace Go.S18
open Go Go.Eng Go.Proofs Go.Chk

/-- An object stands at a place. -/
structure Obj (S : HS) (k : Int) (w : Int × Int) (ys : List (Int × Int)) : Prop where
  beg : mget k S.begins = some ((S.all w ys).length : Int)
  wds : ∀ j : Nat, j < (S.all w ys).length → gx S.now (k + j) = wat (S.all w ys) j
  fit : S.fits w ys
  k0 : 0 ≤ k

theorem gx_app {a c : List (Int × Int)} {i : Int} (h0 : 0 ≤ i) (h : i < a.length) : gx (a ++ c) i = gx a i := by
  unfold gx
  rw [if_pos ⟨h0, by simp; omega⟩, if_pos ⟨h0, h⟩]
  exact wat_app (by omega)
theorem gx_app2 {a c : List (Int × Int)} {j : Nat} (h : j < c.length) : gx (a ++ c) ((a.length : Int) + j) = wat c j := by
  unfold gx
  rw [if_pos ⟨by omega, by simp; omega⟩]
  unfold wat
  rw [show ((a.length : Int) + j).toNat = a.length + j by omega, List.getElem?_append_right (by omega), Int.toNat_natCast]
  congr 2
  omega
theorem all_len (S : HS) (w : Int × Int) (ys : List (Int × Int)) : ys.length + 1 ≤ (S.all w ys).length := by unfold HS.all; split <;> simp
theorem all_laid (S : HS) (zs : List (Int × Int)) (w : Int × Int) (ys : List (Int × Int)) : (S.laid zs).all w ys = S.all w ys := rfl
theorem fits_laid (S : HS) (zs : List (Int × Int)) (w : Int × Int) (ys : List (Int × Int)) : (S.laid zs).fits w ys ↔ S.fits w ys := Iff.rfl
theorem all_at (S : HS) (w : Int × Int) {ys : List (Int × Int)} {j : Nat} (h : j < ys.length) : wat (S.all w ys) ((j + 1 : Nat) : Int) = ys[j] := by
  unfold HS.all wat
  rw [Int.toNat_natCast]
  split
  · rw [List.getElem?_append_left (by simp; omega), List.getElem?_cons_succ, List.getElem?_eq_getElem h]; rfl
  · rw [List.getElem?_cons_succ, List.getElem?_eq_getElem h]; rfl
theorem all_zero (S : HS) (w : Int × Int) (ys : List (Int × Int)) : wat (S.all w ys) 0 = w := by unfold HS.all wat; split <;> rfl

theorem Obj.laid {S : HS} {k : Int} {w : Int × Int} {ys zs : List (Int × Int)} (o : Obj S k w ys) (ok : S.Ok) : Obj (S.laid zs) k w ys := by
  obtain ⟨b1, b2, b3⟩ := ok.bw _ _ o.beg
  refine ⟨?_, fun j hj => ?_, o.fit, o.k0⟩
  · rw [mget_laid, o.beg]; rfl
  · have hj' : j < (S.all w ys).length := hj
    have := o.wds j hj'
    show gx (S.now ++ zs) (k + j) = wat (S.all w ys) j
    rw [gx_app (by omega) (by omega)]; exact this
theorem Obj.new {S : HS} (ok : S.Ok) {w : Int × Int} {ys : List (Int × Int)} (f : S.fits w ys) : Obj (S.laid (S.all w ys)) S.now.length w ys := by
  refine ⟨?_, fun j hj => ?_, f, by omega⟩
  · rw [mget_laid, ok.fresh]; simp [all_laid]
  · exact gx_app2 hj
theorem Obj.lies {S : HS} {k : Int} {w : Int × Int} {ys : List (Int × Int)} (o : Obj S k w ys) : S.lies (4, k) := ⟨rfl, by show (mget k S.begins).isSome = true; rw [o.beg]; rfl⟩
theorem Obj.hd {S : HS} {k : Int} {w : Int × Int} {ys : List (Int × Int)} (o : Obj S k w ys) : gx S.now k = w := by
  have := o.wds 0 (by have := all_len S w ys; omega)
  rw [show k + ((0 : Nat) : Int) = k by omega] at this
  rw [this]; exact all_zero S w ys
theorem fits_kind {S : HS} {w : Int × Int} {ys : List (Int × Int)} (f : S.fits w ys) : 6 ≤ w.1 ∧ w.1 ≤ 10 := by
  rcases f with f | f | f | f | f <;> omega
theorem fits_len {S : HS} {w : Int × Int} {ys : List (Int × Int)} (f : S.fits w ys) : (w.1 = 6 → (ys.length : Int) = S.fr w.2) ∧ (w.1 = 10 → (ys.length : Int) = 0) := by
  rcases f with f | f | f | f | f <;> refine ⟨fun e => ?_, fun e => ?_⟩ <;> omega
theorem all_len' {S : HS} {w : Int × Int} {ys : List (Int × Int)} (h6 : w.1 ≠ 6) (h10 : w.1 ≠ 10) : (S.all w ys).length = ys.length + 1 := by
  unfold HS.all
  rw [if_neg (by unfold HS.pad; omega)]; simp
theorem Obj.count {S : HS} {k : Int} {w : Int × Int} {ys : List (Int × Int)} (o : Obj S k w ys) : S.count (4, k) w = ys.length := by
  obtain ⟨f1, f2⟩ := fits_len o.fit
  unfold HS.count
  split
  · rename_i e; exact (f1 e).symm
  split
  · rename_i e; exact (f2 e).symm
  · rename_i e1 e2
    rw [o.beg, all_len' e1 e2]; simp
theorem Obj.flds {S : HS} {k : Int} {w : Int × Int} {ys : List (Int × Int)} (o : Obj S k w ys) : S.flds (4, k) = ys := by
  have hk := fits_kind o.fit
  have hc : S.fcount (4, k) = ys.length := by
    unfold HS.fcount
    rw [show gx S.now ((4 : Int), k).2 = w from o.hd, if_neg (by omega)]; exact o.count
  refine List.ext_getElem (by rw [HS.flds, hc]; simp) (fun j h1 h2 => ?_)
  simp only [HS.flds, List.getElem_map, List.getElem_range]
  have := o.wds (j + 1) (by have := all_len S w ys; omega)
  rw [all_at S w h2] at this
  rw [← this]; congr 1; omega
theorem Obj.fol {S : HS} {k : Int} {w : Int × Int} {ys : List (Int × Int)} (o : Obj S k w ys) : S.fol 1 (4, k) = some (4, k) := by
  have hk := fits_kind o.fit
  simp only [HS.fol, if_true]
  rw [o.hd, if_neg (by omega)]

/-! ### Objects stand one behind the other -/
def tiles : Int → List (Int × Int) → Int → Prop
  | a, [], e => a = e
  | a, p :: l, e => p.1 = a ∧ 1 ≤ p.2 ∧ tiles (a + p.2) l e
theorem tiles_app : ∀ {l : List (Int × Int)} {a e n : Int}, tiles a l e → 1 ≤ n → tiles a (l ++ [(e, n)]) (e + n) := by
  intro l
  induction l with
  | nil => intro a e n h hn; cases h; exact ⟨rfl, hn, rfl⟩
  | cons p l ih => intro a e n h hn; exact ⟨h.1, h.2.1, ih h.2.2 hn⟩
theorem tiles_le : ∀ {l : List (Int × Int)} {a e : Int}, tiles a l e → a ≤ e := by
  intro l
  induction l with
  | nil => intro a e h; cases h; omega
  | cons p l ih => intro a e h; have := ih h.2.2; have := h.2.1; omega
/-- The entry that comes next is the one of its place. -/
theorem tiles_get : ∀ {l1 : List (Int × Int)} {a e : Int} {p : Int × Int} {l2 : List (Int × Int)}, tiles a (l1 ++ p :: l2) e → a ≤ p.1 ∧ mget p.1 (l1 ++ p :: l2) = some p.2 := by
  intro l1
  induction l1 with
  | nil => intro a e p l2 h; exact ⟨by rw [h.1]; omega, by simp [mget]⟩
  | cons q l1 ih =>
    intro a e p l2 h
    obtain ⟨h1, h2, h3⟩ := h
    obtain ⟨i1, i2⟩ := ih h3
    refine ⟨by omega, ?_⟩
    show (if q.1 = p.1 then some q.2 else mget p.1 (l1 ++ p :: l2)) = _
    rw [if_neg (by omega)]; exact i2
theorem tiles_laid {S : HS} {ys : List (Int × Int)} (t : tiles 0 S.begins S.now.length) (h : 1 ≤ ys.length) : tiles 0 (S.laid ys).begins (S.laid ys).now.length := by
  have := tiles_app t (n := (ys.length : Int)) (by omega)
  show tiles 0 (S.begins ++ [((S.now.length : Int), (ys.length : Int))]) ((S.now ++ ys).length : Int)
  rw [List.length_append]; simpa using this
theorem tiles_put {S : HS} (t : tiles 0 S.begins S.now.length) (w : Int × Int) (ys : List (Int × Int)) : tiles 0 (S.put w ys).2.2.begins (S.put w ys).2.2.now.length := by
  unfold HS.put
  split
  · split
    · exact t
    · exact tiles_laid t (by have := all_len S w ys; omega)
  · exact t
theorem tiles_gl {S S' : HS} {k : Nat} (t : tiles 0 S.begins S.now.length) (h : S.gl k = some S') : tiles 0 S'.begins S'.now.length := by
  unfold HS.gl at h
  split at h
  · split at h
    · cases h; exact tiles_put t _ _
    · cases h
  · cases h; exact t
theorem tiles_gls {S : HS} (t : tiles 0 S.begins S.now.length) : ∀ {n : Nat} {S' : HS}, S.gls n = some S' → tiles 0 S'.begins S'.now.length := by
  intro n
  induction n with
  | zero => intro S' h; cases h; exact t
  | succ n ih =>
    intro S' h
    rw [HS.gls] at h
    obtain ⟨T, h1, h2⟩ := Option.bind_eq_some_iff.1 h
    exact tiles_gl (ih h1) h2

/-! ### What a Put comes to -/
theorem put_cases (S : HS) (w : Int × Int) (ys : List (Int × Int)) :
    (∃ e, (S.put w ys) = ((0, 0), e, S) ∧ e ≠ 0) ∨ (S.fits w ys ∧ S.put w ys = ((4, (S.now.length : Int)), 0, S.laid (S.all w ys))) := by
  unfold HS.put
  split
  · rename_i c
    split
    · exact .inl ⟨12, rfl, by omega⟩
    · exact .inr ⟨c.1, rfl⟩
  · exact .inl ⟨1, rfl, by omega⟩
end Go.S18

/- Heap: images and objects that are given. -/
set_option linter.unusedVariables false
set_option linter.unusedSimpArgs false
namespace Go.S18
open Go Go.Eng Go.Proofs Go.Chk

noncomputable def fsOf (t : TypeId) : Array Field := match Try.prog.underlying t with
  | some (.struct fs) => fs
  | _ => #[]
theorem u_img : Try.prog.underlying 27 = some (.struct (fsOf 27)) := by kernel_rfl
theorem u_inf : Try.prog.underlying 34 = some (.struct (fsOf 34)) := by kernel_rfl
theorem u_wrd : Try.prog.underlying 36 = some (.struct (fsOf 36)) := by kernel_rfl
theorem u_op : Try.prog.underlying 51 = some (.struct (fsOf 51)) := by kernel_rfl
theorem f_img : ((fsOf 27).map fun f => (f.type, f.offset)).toList = [(23, 0), (24, 1), (25, 2), (24, 3), (3, 4), (24, 5)] := by kernel_rfl
theorem f_inf : ((fsOf 34).map fun f => (f.type, f.offset)).toList = [(3, 0), (3, 1), (3, 2), (3, 3)] := by kernel_rfl
theorem f_wrd : ((fsOf 36).map fun f => (f.type, f.offset)).toList = [(3, 0), (3, 1)] := by kernel_rfl
theorem f_op : ((fsOf 51).map fun f => (f.type, f.offset)).toList = [(3, 0), (36, 1), (36, 3), (3, 5), (37, 6)] := by kernel_rfl
theorem u_infs : Try.prog.underlying 23 = some (.slice 34) := by kernel_rfl
theorem u_ints : Try.prog.underlying 24 = some (.slice 3) := by kernel_rfl
theorem u_strs : Try.prog.underlying 25 = some (.slice 9) := by kernel_rfl
theorem u_wrds : Try.prog.underlying 37 = some (.slice 36) := by kernel_rfl
theorem u_ops : Try.prog.underlying 48 = some (.slice 51) := by kernel_rfl
theorem u_str : Try.prog.underlying 9 = some .string := by kernel_rfl
theorem c_img : Try.prog.cellsOf 27 = 6 := by kernel_rfl
theorem c_inf : Try.prog.cellsOf 34 = 4 := by kernel_rfl
theorem c_wrd : Try.prog.cellsOf 36 = 2 := by kernel_rfl
theorem c_op : Try.prog.cellsOf 51 = 7 := by kernel_rfl
theorem c_int : Try.prog.cellsOf 3 = 1 := by kernel_rfl
theorem c_infs : Try.prog.cellsOf 23 = 1 := by kernel_rfl
theorem c_ints : Try.prog.cellsOf 24 = 1 := by kernel_rfl
theorem c_strs : Try.prog.cellsOf 25 = 1 := by kernel_rfl
theorem c_wrds : Try.prog.cellsOf 37 = 1 := by kernel_rfl

theorem len2 {α : Type} {l : List α} (h : l.length = 2) : ∃ a b, l = [a, b] := by
  match l, h with
  | [a, b], _ => exact ⟨a, b, rfl⟩
theorem len4 {α : Type} {l : List α} (h : l.length = 4) : ∃ a b c e, l = [a, b, c, e] := by
  match l, h with
  | [a, b, c, e], _ => exact ⟨a, b, c, e, rfl⟩
theorem len6 {α : Type} {l : List α} (h : l.length = 6) : ∃ a b c e f g, l = [a, b, c, e, f, g] := by
  match l, h with
  | [a, b, c, e, f, g], _ => exact ⟨a, b, c, e, f, g, rfl⟩
theorem len7 {α : Type} {l : List α} (h : l.length = 7) : ∃ a b c e f g i, l = [a, b, c, e, f, g, i] := by
  match l, h with
  | [a, b, c, e, f, g, i], _ => exact ⟨a, b, c, e, f, g, i, rfl⟩
/-- A call that is given. -/
structure Op where
  k : Int
  w : Int × Int
  x : Int × Int
  n : Int
  lv : Value
  ys : List (Int × Int)
def Op.cells (o : Op) : List Value := [iv o.k, iv o.w.1, iv o.w.2, iv o.x.1, iv o.x.2, iv o.n, o.lv]
theorem Op.len (o : Op) : o.cells.length = 7 := rfl
/-- What is known of it. -/
def Op.Q (h : AH) (N : Nat) (o : Op) : Prop := Rds h 2 o.lv o.ys.length (ww o.ys) ∧ o.ys.length ≤ N ∧ rng o.w.1 ∧ rng o.w.2 ∧ rng o.n ∧ rng o.x.1 ∧ rng o.x.2 ∧ ∀ y ∈ o.ys, rng y.1 ∧ rng y.2
def Op.zero : Op := ⟨0, (0, 0), (0, 0), 0, .slice none 0 0, []⟩

section
variable {H : Type} {h : AH} {N : Nat}

theorem word_of (B : Bulk H) {cs : List Value} {d : DataW H} (hr : Rd' Try.prog h 36 cs d) : ∃ w : Int × Int, cs = ns (wc w) ∧ rng w.1 ∧ rng w.2 := by
  obtain ⟨hl, hf⟩ := rdT B u_wrd f_wrd hr
  rw [c_wrd] at hl
  obtain ⟨a, b, rfl⟩ := len2 hl
  obtain ⟨d0, r0, _⟩ := hf 0 _ _ rfl
  obtain ⟨d1, r1, _⟩ := hf 1 _ _ rfl
  rw [c_int] at r0 r1
  obtain ⟨n0, e0, g0⟩ := rdI kt3 r0
  obtain ⟨n1, e1, g1⟩ := rdI kt3 r1
  simp at e0 e1
  subst e0; subst e1
  exact ⟨(n0, n1), rfl, g0, g1⟩
theorem words_of (B : Bulk H) {v : Value} {d : DataW H} (hr : Rd' Try.prog h 37 [v] d) (hB : B.f d ≤ N) : ∃ ys : List (Int × Int), Rds h 2 v ys.length (ww ys) ∧ (∀ y ∈ ys, rng y.1 ∧ rng y.2) ∧ ys.length ≤ N :=
  rdRow B (f := fun x : Int × Int => ns (wc x)) (Q := fun y => rng y.1 ∧ rng y.2) u_wrds (fun x => rfl) (fun cs d' r _ => by obtain ⟨w, e, g⟩ := word_of B r; exact ⟨w, e, g⟩) hr hB
theorem ints_of (B : Bulk H) {v : Value} {d : DataW H} (hr : Rd' Try.prog h 24 [v] d) (hB : B.f d ≤ N) : ∃ ys : List Int, Rds h 1 v ys.length (ns ys) ∧ (∀ y ∈ ys, rng y) ∧ ys.length ≤ N := by
  obtain ⟨ys, a, b, c⟩ := rdRow B (f := fun x : Int => [iv x]) (Q := rng) u_ints (fun x => rfl) (fun cs d' r _ => by obtain ⟨w, e, g⟩ := rdI kt3 r; exact ⟨w, e, g⟩) hr hB
  refine ⟨ys, ?_, b, c⟩
  have : ns ys = ys.flatMap fun x => [iv x] := by
    clear a b c
    induction ys with
    | nil => rfl
    | cons y ys ih => simp only [ns, List.map_cons, List.flatMap_cons] at ih ⊢; rw [ih]; rfl
  rw [this]; exact a
theorem texts_of (B : Bulk H) {v : Value} {d : DataW H} (hr : Rd' Try.prog h 25 [v] d) (hB : B.f d ≤ N) : ∃ ys : List ByteArray, Rds h 1 v ys.length (sts ys) ∧ (∀ y ∈ ys, y.size ≤ N) ∧ ys.length ≤ N := by
  obtain ⟨ys, a, b, c⟩ := rdRow B (f := fun x : ByteArray => [Value.string x]) (Q := fun y => y.size ≤ N) u_strs (fun x => rfl) (fun cs d' r hb => by obtain ⟨w, e, g⟩ := rdS B u_str r; exact ⟨w, e, Nat.le_trans g hb⟩) hr hB
  refine ⟨ys, ?_, b, c⟩
  have : sts ys = ys.flatMap fun x => [Value.string x] := by
    clear a b c
    induction ys with
    | nil => rfl
    | cons y ys ih => simp only [sts, List.map_cons, List.flatMap_cons] at ih ⊢; rw [ih]; rfl
  rw [this]; exact a
theorem inf_of (B : Bulk H) {cs : List Value} {d : DataW H} (hr : Rd' Try.prog h 34 cs d) : ∃ w : Inf, cs = ns w.cells ∧ rng w.k ∧ rng w.a ∧ rng w.f ∧ rng w.c := by
  obtain ⟨hl, hf⟩ := rdT B u_inf f_inf hr
  rw [c_inf] at hl
  obtain ⟨a, b, c, e, rfl⟩ := len4 hl
  obtain ⟨d0, r0, _⟩ := hf 0 _ _ rfl
  obtain ⟨d1, r1, _⟩ := hf 1 _ _ rfl
  obtain ⟨d2, r2, _⟩ := hf 2 _ _ rfl
  obtain ⟨d3, r3, _⟩ := hf 3 _ _ rfl
  rw [c_int] at r0 r1 r2 r3
  obtain ⟨n0, e0, g0⟩ := rdI kt3 r0
  obtain ⟨n1, e1, g1⟩ := rdI kt3 r1
  obtain ⟨n2, e2, g2⟩ := rdI kt3 r2
  obtain ⟨n3, e3, g3⟩ := rdI kt3 r3
  simp at e0 e1 e2 e3
  subst e0; subst e1; subst e2; subst e3
  exact ⟨⟨n0, n1, n2, n3⟩, rfl, g0, g1, g2, g3⟩
theorem infs_of (B : Bulk H) {v : Value} {d : DataW H} (hr : Rd' Try.prog h 23 [v] d) (hB : B.f d ≤ N) : ∃ ys : List Inf, Rds h 4 v ys.length (rowsOf Inf.cells ys) ∧ (∀ w ∈ ys, rng w.k ∧ rng w.a ∧ rng w.f ∧ rng w.c) ∧ ys.length ≤ N :=
  rdRow B (f := fun x : Inf => ns x.cells) (Q := fun w => rng w.k ∧ rng w.a ∧ rng w.f ∧ rng w.c) u_infs (fun x => rfl) (fun cs d' r _ => by obtain ⟨w, e, g⟩ := inf_of B r; exact ⟨w, e, g⟩) hr hB

/-- An image that is given. -/
structure Given (h : AH) (N : Nat) (C : Cx) (texts : List ByteArray) (vi vc vt vp vk : Value) : Prop where
  im : Img h C vi vc vt vp vk
  rt : Rds h 1 vt texts.length (sts texts)
  nt : C.nt = texts.length
  li : C.infos.length ≤ N
  lc : C.code.length ≤ N
  lp : C.tops.length ≤ N
  lk : C.cons.length ≤ N
  lt : texts.length ≤ N
  gi : ∀ w ∈ C.infos, rng w.k ∧ rng w.a ∧ rng w.f ∧ rng w.c
  gt : ∀ y ∈ texts, y.size ≤ N

theorem image_of (B : Bulk H) {cs : List Value} {d : DataW H} (hr : Rd' Try.prog h 27 cs d) (hB : B.f d ≤ N) : ∃ C texts vi vc vt vp vk, cs = [vi, vc, vt, vp, iv C.main, vk] ∧ Given h N C texts vi vc vt vp vk := by
  obtain ⟨hl, hf⟩ := rdT B u_img f_img hr
  rw [c_img] at hl
  obtain ⟨a, b, c, e, f, g, rfl⟩ := len6 hl
  obtain ⟨d0, r0, b0⟩ := hf 0 _ _ rfl
  obtain ⟨d1, r1, b1⟩ := hf 1 _ _ rfl
  obtain ⟨d2, r2, b2⟩ := hf 2 _ _ rfl
  obtain ⟨d3, r3, b3⟩ := hf 3 _ _ rfl
  obtain ⟨d4, r4, b4⟩ := hf 4 _ _ rfl
  obtain ⟨d5, r5, b5⟩ := hf 5 _ _ rfl
  rw [c_infs] at r0
  rw [c_ints] at r1 r3 r5
  rw [c_strs] at r2
  rw [c_int] at r4
  obtain ⟨is, i1, i2, i3⟩ := infs_of B (v := a) (N := N) (by simpa using r0) (by omega)
  obtain ⟨co, c1, c2, c3⟩ := ints_of B (v := b) (N := N) (by simpa using r1) (by omega)
  obtain ⟨tx, t1, t2, t3⟩ := texts_of B (v := c) (N := N) (by simpa using r2) (by omega)
  obtain ⟨tp, p1, p2, p3⟩ := ints_of B (v := e) (N := N) (by simpa using r3) (by omega)
  obtain ⟨m, e4, _⟩ := rdI kt3 r4
  obtain ⟨ks, k1, k2, k3⟩ := ints_of B (v := g) (N := N) (by simpa using r5) (by omega)
  simp at e4
  subst e4
  obtain ⟨ta, tc, ht⟩ := row_shape t1
  exact ⟨⟨is, co, tx.length, tp, m, ks⟩, tx, a, b, c, e, g, rfl, ⟨i1, c1, ⟨ta, tc, ht⟩, p1, k1⟩, t1, rfl, i3, c3, p3, k3, t3, i2, t2⟩

theorem op_of (B : Bulk H) {cs : List Value} {d : DataW H} (hr : Rd' Try.prog h 51 cs d) (hB : B.f d ≤ N) : ∃ o : Op, cs = o.cells ∧ o.Q h N := by
  obtain ⟨hl, hf⟩ := rdT B u_op f_op hr
  rw [c_op] at hl
  obtain ⟨a, b, c, e, f, g, i, rfl⟩ := len7 hl
  obtain ⟨d0, r0, b0⟩ := hf 0 _ _ rfl
  obtain ⟨d1, r1, b1⟩ := hf 1 _ _ rfl
  obtain ⟨d2, r2, b2⟩ := hf 2 _ _ rfl
  obtain ⟨d3, r3, b3⟩ := hf 3 _ _ rfl
  obtain ⟨d4, r4, b4⟩ := hf 4 _ _ rfl
  rw [c_int] at r0 r3
  rw [c_wrd] at r1 r2
  rw [c_wrds] at r4
  obtain ⟨n0, e0, g0⟩ := rdI kt3 r0
  obtain ⟨w, e1, g1⟩ := word_of B r1
  obtain ⟨x, e2, g2⟩ := word_of B r2
  obtain ⟨n3, e3, g3⟩ := rdI kt3 r3
  obtain ⟨ys, l1, l2, l3⟩ := words_of B (v := i) (N := N) (by simpa using r4) (by omega)
  simp [ns, wc] at e0 e1 e2 e3
  obtain ⟨rfl, rfl⟩ := e1
  obtain ⟨rfl, rfl⟩ := e2
  subst e0; subst e3
  exact ⟨⟨n0, w, x, n3, i, ys⟩, rfl, l1, l3, g1.1, g1.2, g3, g2.1, g2.2, l2⟩
theorem ops_of (B : Bulk H) {v : Value} {d : DataW H} (hr : Rd' Try.prog h 48 [v] d) (hB : B.f d ≤ N) : ∃ os : List Op, Rds h 7 v os.length (os.flatMap Op.cells) ∧ (∀ o ∈ os, o.Q h N) ∧ os.length ≤ N :=
  rdRow B (f := Op.cells) (Q := fun o => o.Q h N) u_ops Op.len (fun cs d' r hb => op_of B r hb) hr hB
end
end Go.S18

/- Heap: a caller's three rows. -/
set_option linter.unusedVariables false
set_option linter.unusedSimpArgs false
namespace Go.S18
open Go Go.Eng Go.Proofs Go.Chk

/-- Rows of places, headers, fields; of a caller's own. -/
structure Rw3 (n : Nat) (h : AH) (L : Lay) (v7 v8 v9 : Value) (A7 A8 : List (Int × Int)) (A9 : List Value) : Prop where
  r7 : Ows h 36 2 v7 A7.length (ww A7)
  r8 : Ows h 36 2 v8 A8.length (ww A8)
  r9 : Ows h 37 1 v9 A9.length A9
  z7 : ∀ q, bk v7 q → n ≤ q ∧ L.cls q = 0
  z8 : ∀ q, bk v8 q → n ≤ q ∧ L.cls q = 0
  z9 : ∀ q, bk v9 q → n ≤ q ∧ L.cls q = 0
  d78 : ∀ q, bk v7 q → ¬ bk v8 q
  d79 : ∀ q, bk v7 q → ¬ bk v9 q
  d89 : ∀ q, bk v8 q → ¬ bk v9 q

section
variable {n : Nat} {h h' : AH} {b : Nat} {L L' : Lay} {S S' : HS} {v7 v8 v9 : Value} {A7 A8 : List (Int × Int)} {A9 : List Value}
theorem Rw3.nil (n : Nat) (h : AH) (L : Lay) : Rw3 n h L (.slice none 0 0) (.slice none 0 0) (.slice none 0 0) [] [] [] :=
  ⟨.nil, .nil, .nil, fun q e => e.elim, fun q e => e.elim, fun q e => e.elim, fun q e => e.elim, fun q e => e.elim, fun q e => e.elim⟩
theorem Rw3.keep (r : Rw3 n h L v7 v8 v9 A7 A8 A9) (k : Keep (Mine L) h h') (sm : Same h.length L L') : Rw3 n h' L' v7 v8 v9 A7 A8 A9 := by
  refine ⟨r.r7.keep k (fun q e c => c (r.z7 q e).2), r.r8.keep k (fun q e c => c (r.z8 q e).2), r.r9.keep k (fun q e c => c (r.z9 q e).2), fun q e => ⟨(r.z7 q e).1, (sm q (r.r7.lt q e)).2 (r.z7 q e).2⟩, fun q e => ⟨(r.z8 q e).1, (sm q (r.r8.lt q e)).2 (r.z8 q e).2⟩, fun q e => ⟨(r.z9 q e).1, (sm q (r.r9.lt q e)).2 (r.z9 q e).2⟩, r.d78, r.d79, r.d89⟩
theorem Rw3.keepF (r : Rw3 n h L v7 v8 v9 A7 A8 A9) (k : Keep (fun _ => False) h h') : Rw3 n h' L v7 v8 v9 A7 A8 A9 :=
  r.keep (k.mono fun _ e => e.elim) (Same.refl _ _)

theorem Rw3.app7 (r : Rw3 n h L v7 v8 v9 A7 A8 A9) (c0 : ∀ q, h.length ≤ q → L.cls q = 0) (hn : n ≤ h.length) (hl : A7.length ≤ 1000) (x : Int × Int) :
    ∃ v' h', appv false (h ++ [row 36 h.length [iv x.1, iv x.2]]) false 36 2 16 v7 (.slice (some ⟨h.length, 0, none⟩) 1 1) = some (v', h') ∧ Rw3 n h' L v' v8 v9 (A7 ++ [x]) A8 A9 ∧ Keep (fun q => n ≤ q ∧ L.cls q = 0) h h' := by
  obtain ⟨v', h', p1, p2, p3, p4⟩ := app1 (bytes := 16) (xs := [iv x.1, iv x.2]) r.r7 rfl rfl (by omega) (by omega)
  have hv : ∀ q, bk v' q → bk v7 q ∨ h.length ≤ q := p4
  refine ⟨v', h', p1, ⟨?_, r.r8.keep p3 (fun q e c => r.d78 q c e), r.r9.keep p3 (fun q e c => r.d79 q c e), fun q e => (hv q e).elim (r.z7 q) (fun a => ⟨by omega, c0 q a⟩), r.z8, r.z9, fun q e c => (hv q e).elim (fun a => r.d78 q a c) (fun a => by have := r.r8.lt q c; omega), fun q e c => (hv q e).elim (fun a => r.d79 q a c) (fun a => by have := r.r9.lt q c; omega), r.d89⟩, p3.mono (fun q e => r.z7 q e)⟩
  rw [ww_app, List.length_append]; exact p2
theorem Rw3.app8 (r : Rw3 n h L v7 v8 v9 A7 A8 A9) (c0 : ∀ q, h.length ≤ q → L.cls q = 0) (hn : n ≤ h.length) (hl : A8.length ≤ 1000) (x : Int × Int) :
    ∃ v' h', appv false (h ++ [row 36 h.length [iv x.1, iv x.2]]) false 36 2 16 v8 (.slice (some ⟨h.length, 0, none⟩) 1 1) = some (v', h') ∧ Rw3 n h' L v7 v' v9 A7 (A8 ++ [x]) A9 ∧ Keep (fun q => n ≤ q ∧ L.cls q = 0) h h' := by
  obtain ⟨v', h', p1, p2, p3, p4⟩ := app1 (bytes := 16) (xs := [iv x.1, iv x.2]) r.r8 rfl rfl (by omega) (by omega)
  have hv : ∀ q, bk v' q → bk v8 q ∨ h.length ≤ q := p4
  refine ⟨v', h', p1, ⟨r.r7.keep p3 (fun q e c => r.d78 q e c), ?_, r.r9.keep p3 (fun q e c => r.d89 q c e), r.z7, fun q e => (hv q e).elim (r.z8 q) (fun a => ⟨by omega, c0 q a⟩), r.z9, fun q e c => (hv q c).elim (fun a => r.d78 q e a) (fun a => by have := r.r7.lt q e; omega), r.d79, fun q e c => (hv q e).elim (fun a => r.d89 q a c) (fun a => by have := r.r9.lt q c; omega)⟩, p3.mono (fun q e => r.z8 q e)⟩
  rw [ww_app, List.length_append]; exact p2
theorem Rw3.app9 (r : Rw3 n h L v7 v8 v9 A7 A8 A9) (c0 : ∀ q, h.length ≤ q → L.cls q = 0) (hn : n ≤ h.length) (hl : A9.length ≤ 1000) (x : Value) (hx : x.oneCell' = true) :
    ∃ v' h', appv false (h ++ [row 37 h.length [x]]) false 37 1 24 v9 (.slice (some ⟨h.length, 0, none⟩) 1 1) = some (v', h') ∧ Rw3 n h' L v7 v8 v' A7 A8 (A9 ++ [x]) ∧ Keep (fun q => n ≤ q ∧ L.cls q = 0) h h' := by
  obtain ⟨v', h', p1, p2, p3, p4⟩ := app1 (bytes := 24) (xs := [x]) r.r9 rfl (by simp [hx]) (by omega) (by omega)
  have hv : ∀ q, bk v' q → bk v9 q ∨ h.length ≤ q := p4
  refine ⟨v', h', p1, ⟨r.r7.keep p3 (fun q e c => r.d79 q e c), r.r8.keep p3 (fun q e c => r.d89 q e c), ?_, r.z7, r.z8, fun q e => (hv q e).elim (r.z9 q) (fun a => ⟨by omega, c0 q a⟩), r.d78, fun q e c => (hv q c).elim (fun a => r.d79 q e a) (fun a => by have := r.r7.lt q e; omega), fun q e c => (hv q c).elim (fun a => r.d89 q e a) (fun a => by have := r.r8.lt q e; omega)⟩, p3.mono (fun q e => r.z9 q e)⟩
  rw [List.length_append]; exact p2
end

/-- An element of a row of words. -/
theorem rw_at {h : AH} {v : Value} {A : List (Int × Int)} (r : Rds h 2 v A.length (ww A)) {i : Nat} {x : Int × Int} (hx : A[i]? = some x) : ∃ b o c, v = .slice (some ⟨b, o, none⟩) A.length c ∧ ldcs h b (o + i * 2) 2 = some [iv x.1, iv x.2] := by
  have hi := (List.getElem?_eq_some_iff.1 hx).1
  obtain ⟨b, o, c, e, _, hl⟩ := rds_w r (i := (i : Int)) (by omega) (by omega)
  refine ⟨b, o, c, e, ?_⟩
  rw [Int.toNat_natCast] at hl
  rw [hl]
  have : wat A (i : Int) = x := by rw [wat, Int.toNat_natCast, hx]; rfl
  rw [this]
/-- An element of the objects that are given. -/
theorem op_at {h : AH} {v : Value} {os : List Op} (r : Rds h 7 v os.length (os.flatMap Op.cells)) {i : Nat} {o : Op} (ho : os[i]? = some o) :
    ∃ b f c, v = .slice (some ⟨b, f, none⟩) os.length c ∧ ldcs h b (f + i * 7 + 1) 2 = some [iv o.w.1, iv o.w.2] ∧ ldc h b (f + i * 7 + 6) = some o.lv ∧ ldc h b (f + i * 7) = some (iv o.k) ∧ ldcs h b (f + i * 7 + 3) 2 = some [iv o.x.1, iv o.x.2] ∧ ldc h b (f + i * 7 + 5) = some (iv o.n) ∧ ldcs h b (f + i * 7) 7 = some o.cells := by
  have hi := (List.getElem?_eq_some_iff.1 ho).1
  obtain ⟨b, f, c, e, hat⟩ := r.at hi
  have fa := fun (j m : Nat) (hj : j + m ≤ 7) => flat_at Op.len ho hj
  obtain ⟨b1, f1, c1, e1, l1⟩ := rds_sub r (i := i) (j := 1) (m := 2) hi (by omega)
  obtain ⟨b2, f2, c2, e2, l2⟩ := rds_sub r (i := i) (j := 3) (m := 2) hi (by omega)
  obtain ⟨b3, f3, c3, e3, l3⟩ := rds_sub r (i := i) (j := 0) (m := 7) hi (by omega)
  rw [e] at e1 e2 e3
  cases e1; cases e2; cases e3
  rw [fa 1 2 (by omega)] at l1
  rw [fa 3 2 (by omega)] at l2
  rw [fa 0 7 (by omega)] at l3
  have g : ∀ j, j < 7 → (os.flatMap Op.cells)[i * 7 + j]? = o.cells[j]? := by
    intro j hj
    have := fa j 1 (by omega)
    have h2 := congrArg (fun l => l[0]?) this
    simpa [List.getElem?_take, List.getElem?_drop] using h2
  have a6 := hat 6 (by omega)
  have a0 := hat 0 (by omega)
  have a5 := hat 5 (by omega)
  rw [g 6 (by omega)] at a6
  rw [g 0 (by omega)] at a0
  rw [g 5 (by omega)] at a5
  exact ⟨b, f, c, e, l1, a6, a0, l2, a5, by simpa [Op.cells] using l3⟩
end Go.S18

/- Heap: HeapLies. -/
set_option linter.unusedVariables false
set_option linter.unusedSimpArgs false
namespace Go.S18
open Go Go.Eng Go.Proofs Go.Chk

/-- Behind so many Puts. -/
structure Ls (h0 h : AH) (b : Nat) (L : Lay) (S : HS) (P : List (Int × Op)) (v7 v8 v9 : Value) (N : Nat) : Prop where
  hp : Hp h b L S
  ok : S.Ok
  inf : ∀ i ∈ S.infos, 0 ≤ i.f
  til : tiles 0 S.begins S.now.length
  kp : Keep (fun _ => False) h0 h
  rw3 : Rw3 h0.length h L v7 v8 v9 (P.map fun p => (4, p.1)) (P.map fun p => p.2.w) (P.map fun p => p.2.lv)
  ob : ∀ p ∈ P, Obj S p.1 p.2.w p.2.ys
  iq : ∀ p ∈ P, p.2.Q h0 N
  zi : ∀ q, q < h0.length → L.cls q = 0

section
variable {h0 h h' : AH} {b : Nat} {L L' : Lay} {S S' : HS} {P : List (Int × Op)} {v7 v8 v9 : Value} {N : Nat}
theorem Ls.keepF (s : Ls h0 h b L S P v7 v8 v9 N) (k : Keep (fun _ => False) h h') : Ls h0 h' b L S P v7 v8 v9 N :=
  ⟨s.hp.keepF k, s.ok, s.inf, s.til, s.kp.trans k, s.rw3.keepF k, s.ob, s.iq, s.zi⟩
theorem Ls.put (s : Ls h0 h b L S P v7 v8 v9 N) (k : Keep (Mine L) h h') (w : Int × Int) (ys : List (Int × Int)) (hp' : Hp h' b L' (S.put w ys).2.2) (sm : Same h.length L L') : Ls h0 h' b L' (S.put w ys).2.2 P v7 v8 v9 N := by
  have hk := s.kp.len
  refine ⟨hp', s.ok.put w ys s.inf, by rw [(put_img S w ys).1]; exact s.inf, tiles_put s.til w ys, s.kp.trans' k (fun c hc e => e (s.zi c hc)), s.rw3.keep k sm, fun p hp => ?_, s.iq, fun q hq => (sm q (by omega)).2 (s.zi q hq)⟩
  rcases put_cases S w ys with ⟨e, h1, h2⟩ | ⟨h1, h2⟩
  · rw [h1]; exact s.ob p hp
  · rw [h2]; exact (s.ob p hp).laid s.ok
theorem Ls.c0 (s : Ls h0 h b L S P v7 v8 v9 N) : ∀ q, h.length ≤ q → L.cls q = 0 := s.hp.c0
end

set_option maxHeartbeats 8000000 in
theorem Lies_ok {h : AH} {C : Cx} {texts : List ByteArray} {vi vc vt vp vk : Value} {N : Nat} (g : Given h N C texts vi vc vt vp vk) {u : Value} {os : List Op} (ru : Rds h 7 u os.length (os.flatMap Op.cells)) (qs : ∀ o ∈ os, o.Q h N) (hN : N ≤ 1048576) (hos : os.length ≤ N) :
    Gets Try.prog 4 [.agg #[vi, vc, vt, vp, iv C.main, vk], u] h (fun res h' => res = .ret (.bool true)) := by
  refine Gets.of (keep := false) hP (draw_ok hM) k4 (by rfl) (fun Ψ hΨ => ?_)
  obtain ⟨ua, uc, rfl⟩ := row_shape ru
  have oI := Own.new h 27 h.length [vi, vc, vt, vp, iv C.main, vk]
  have k1 : Keep (fun _ => False) h (h ++ [row 27 h.length [vi, vc, vt, vp, iv C.main, vk]]) := Keep.push _ _ _
  have hsh : ∀ x ∈ [vi, vc, vt, vp, vk], ∃ a n c, x = .slice a n c := by
    obtain ⟨a1, c1, e1⟩ := row_shape g.im.ri
    obtain ⟨a2, c2, e2⟩ := row_shape g.im.rc
    obtain ⟨a3, c3, e3⟩ := row_shape g.rt
    obtain ⟨a4, c4, e4⟩ := row_shape g.im.rp
    obtain ⟨a5, c5, e5⟩ := row_shape g.im.rk
    intro x hx
    simp only [List.mem_cons, List.not_mem_nil, or_false] at hx
    rcases hx with rfl | rfl | rfl | rfl | rfl
    · exact ⟨_, _, _, e1⟩
    · exact ⟨_, _, _, e2⟩
    · exact ⟨_, _, _, e3⟩
    · exact ⟨_, _, _, e4⟩
    · exact ⟨_, _, _, e5⟩
  simp only [mach, mstd, ↓reduceIte, Nat.reduceEqDiff, Nat.reduceAdd, Nat.reduceMul, r4, mbl, Nat.reduceLeDiff, Nat.reduceLT, Int.reduceEq]
  generalize h ++ [row 27 h.length [vi, vc, vt, vp, iv C.main, vk]] = h1 at oI k1 ⊢
  refine XX_val (wakes_ok h1) ?_
  simp only [mach, mstd, ↓reduceIte, Nat.reduceEqDiff, Nat.reduceAdd, Nat.reduceMul, mbl, Nat.reduceLeDiff, Nat.reduceLT, Int.reduceEq, oI.cells.lds 0 6 (by simp)]
  have li := g.li
  have lc := g.lc
  have lp := g.lp
  have lk := g.lk
  have lt := g.lt
  refine XX_of (New_ok (C := C) (texts := texts) (g.im.keep k1 (fun _ _ e => e)) ⟨by omega, by omega, by omega, by omega⟩ (g.rt.keep k1 (fun _ _ e => e)) (by omega) (by omega) 2000) (fun res h2 hle2 hn => ?_)
  obtain ⟨k2, hn⟩ := hn
  unfold NewO at hn
  by_cases hends : (ends C).isSome = true
  case neg =>
    rw [if_neg (fun e => hends e.1), if_neg hends] at hn
    subst hn
    refine .ret ?_
    simp only [mach, mstd, ↓reduceIte, Nat.reduceEqDiff, Nat.reduceAdd, Nat.reduceMul, mbl, Nat.reduceLeDiff, Nat.reduceLT, Int.reduceEq]
    exact hΨ _ _ (fin_ret (rv1 rfl rfl))
  rw [if_pos ⟨hends, by omega, by omega⟩] at hn
  split at hn
  case h_2 =>
    subst hn
    refine .ret ?_
    simp only [mach, mstd, ↓reduceIte, Nat.reduceEqDiff, Nat.reduceAdd, Nat.reduceMul, mbl, Nat.reduceLeDiff, Nat.reduceLT, Int.reduceEq]
    exact hΨ _ _ (fin_ret (rv1 rfl rfl))
  rename_i S0 hS0
  obtain ⟨b, L0, rfl, hp0, z0⟩ := hn
  obtain ⟨hH, hC, hT, hI, hF⟩ := ends_some hends
  have k02 := k1.trans k2
  have hk1 := k1.len
  have s0 : Ls h h2 b L0 S0 [] (.slice none 0 0) (.slice none 0 0) (.slice none 0 0) N := by
    refine ⟨hp0, (HS.Ok.start C texts 2000).gls hF hS0, by rw [(gls_img hS0).1]; exact hF, tiles_gls (S := HS.start C texts 2000) (rfl : (0 : Int) = 0) hS0, k02, .nil _ _ _, (fun p hp => nomatch hp), (fun p hp => nomatch hp), fun q hq => z0 q (by omega)⟩
  clear hp0 z0 oI
  refine .ret ?_
  simp only [mach, mstd, ↓reduceIte, Nat.reduceEqDiff, Nat.reduceAdd, Nat.reduceMul, mbl, Nat.reduceLeDiff, Nat.reduceLT, Int.reduceEq]
  refine XLo_rule (α := Nat × HS × Lay × List (Int × Op) × Value × Value × Value) (fun a => [(1, .slice ua os.length uc), (4, .bool false), (5, .pointer (some ⟨b, 0, none⟩)), (7, a.2.2.2.2.1), (8, a.2.2.2.2.2.1), (9, a.2.2.2.2.2.2), (10, iv a.1)])
    (fun a h' => a.1 ≤ os.length ∧ a.1 ≤ 200 ∧ a.2.2.2.1.length ≤ a.1 ∧ Ls h h' b a.2.2.1 a.2.1 a.2.2.2.1 a.2.2.2.2.1 a.2.2.2.2.2.1 a.2.2.2.2.2.2 N) (fun a => os.length - a.1) (0, S0, L0, [], .slice none 0 0, .slice none 0 0, .slice none 0 0) ⟨Nat.zero_le _, by simp, by simp, s0⟩ ⟨rfl, rfl, rfl, rfl, rfl, rfl, rfl, trivial⟩ ?_
  rintro ⟨i, S, L, P, v7, v8, v9⟩ ha Ψ2 ⟨i1, i2, i3, s⟩ next out
  simp only at i1 i2 i3 s
  have hw1 : IntKind.i64.wrap ((i : Int) + 1) = i + 1 := i64w (by omega) (by omega)
  by_cases hi : (i : Int) < (os.length : Int) ∧ (i : Int) < 200
  · obtain ⟨hi1, hi2⟩ := hi
    have h0 : 0 ≤ (i : Int) := by omega
    have hil : i < os.length := by omega
    have ho : os[i]? = some os[i] := List.getElem?_eq_getElem hil
    have hq := qs os[i] (List.getElem_mem _)
    generalize os[i] = o at ho hq
    simp only [mach, mstd, ↓reduceIte, Nat.reduceEqDiff, Nat.reduceAdd, Nat.reduceMul, hi1, hi2]
    refine XX_val (Used_ok s.hp) ?_
    obtain ⟨b1, f1, c1, e1, l1, l2, _⟩ := op_at (ru.keep s.kp (fun _ _ e => e)) ho
    cases e1
    obtain ⟨hy1, hy2, hy3⟩ := hq
    simp only [mach, mstd, ↓reduceIte, Nat.reduceEqDiff, Nat.reduceAdd, Nat.reduceMul, mbl, Nat.reduceLeDiff, Nat.reduceLT, Int.reduceEq, h0, hi1, and_self, Int.toNat_natCast, l1, l2]
    refine XX_of (Put_ok s.hp s.ok.fresh o.w (hy1.keep s.kp (fun _ _ e => e)) (by omega) (fun _ => by omega)) (fun res hb hleb hn => ?_)
    obtain ⟨kb, rfl, L', s', sm⟩ := hn
    refine .ret ?_
    have sb := s.put kb o.w o.ys s' sm
    have e18 : ∀ (c : Int × Int), (c.1 = c.1 ∧ c.2 = c.2) := fun c => ⟨rfl, rfl⟩
    rcases put_cases S o.w o.ys with ⟨e, hp, hne⟩ | ⟨hfit, hp⟩
    · rw [hp] at sb ⊢
      simp only at sb
      have oT := Own.new hb 36 hb.length [iv 0, iv 0]
      have kT : Keep (fun _ => False) hb (hb ++ [row 36 hb.length [iv 0, iv 0]]) := Keep.push _ _ _
      simp only [mach, mstd, ↓reduceIte, Nat.reduceEqDiff, Nat.reduceAdd, Nat.reduceMul, wv, mbl, Nat.reduceLeDiff, Nat.reduceLT, Int.reduceEq]
      refine XH_own oT rfl (by simp [Value.cells]) rfl (fun hc q1 q2 q3 => ?_)
      have oTc : Own hc hb.length 36 [iv 0, iv 0] := by simpa [Value.cells] using q1
      have sc := sb.keepF (kT.trans' q2 (fun c hc e => by omega))
      simp only [mach, mstd, ↓reduceIte, Nat.reduceEqDiff, Nat.reduceAdd, Nat.reduceMul, hne, oTc.cells.lds 0 2 (by simp), mbl, Nat.reduceLeDiff, Nat.reduceLT, Int.reduceEq, ceq_w, and_self]
      refine XX_val (Used_ok sc.hp) ?_
      simp only [mach, mstd, ↓reduceIte, Nat.reduceEqDiff, Nat.reduceAdd, Nat.reduceMul, mbl, Nat.reduceLeDiff, Nat.reduceLT, Int.reduceEq, hw1]
      exact next (i + 1, S, L', P, v7, v8, v9) _ _ _ ⟨by omega, by omega, by simp only; omega, sc⟩ ⟨rfl, rfl, rfl, rfl, rfl, rfl, by simp only [Int.natCast_add, Int.cast_ofNat_Int]; rfl, trivial⟩ (by simp only; omega)
    · rw [hp] at sb ⊢
      simp only at sb
      have oT := Own.new hb 36 hb.length [iv 0, iv 0]
      have kT : Keep (fun _ => False) hb (hb ++ [row 36 hb.length [iv 0, iv 0]]) := Keep.push _ _ _
      simp only [mach, mstd, ↓reduceIte, Nat.reduceEqDiff, Nat.reduceAdd, Nat.reduceMul, wv, mbl, Nat.reduceLeDiff, Nat.reduceLT, Int.reduceEq]
      refine XH_own oT rfl (by simp [Value.cells]) rfl (fun hc q1 q2 q3 => ?_)
      have oTc : Own hc hb.length 36 [iv 4, iv S.now.length] := by simpa [Value.cells] using q1
      have sc := sb.keepF (kT.trans' q2 (fun c hc e => by omega))
      have hlen : ¬ ((((S.laid (S.all o.w o.ys)).now.length : Nat) : Int) ≤ (S.now.length : Int)) := by
        have := all_len S o.w o.ys
        show ¬ (((S.now ++ S.all o.w o.ys).length : Int) ≤ _)
        rw [List.length_append]; omega
      simp only [mach, mstd, ↓reduceIte, Nat.reduceEqDiff, Nat.reduceAdd, Nat.reduceMul, oTc.cells.lds 0 2 (by simp), mbl, Nat.reduceLeDiff, Nat.reduceLT, Int.reduceEq, ceq_w, and_self]
      refine XX_val (Used_ok sc.hp) ?_
      obtain ⟨v7', hd, p1, r7, k7⟩ := sc.rw3.app7 sc.c0 sc.kp.len (by simp; omega) (4, (S.now.length : Int))
      obtain ⟨a7, c7, hv7⟩ := row_shape r7.r7.rds
      have kd0 : Keep (fun _ => False) h hd := sc.kp.trans' k7 (fun c hc e => by omega)
      obtain ⟨b2, f2, c2, e2, m1, m2, _⟩ := op_at (ru.keep kd0 (fun _ _ e => e)) ho
      cases e2
      have hpd := sc.hp.keep k7 (fun q hq e => hq e.2)
      obtain ⟨v8', he, p2, r8, k8⟩ := r7.app8 hpd.c0 kd0.len (by simp; omega) o.w
      have ke0 : Keep (fun _ => False) h he := kd0.trans' k8 (fun c hc e => by omega)
      obtain ⟨b3, f3, c3, e3, n1, n2, _⟩ := op_at (ru.keep ke0 (fun _ _ e => e)) ho
      cases e3
      have hpe := hpd.keep k8 (fun q hq e => hq e.2)
      obtain ⟨la, lc', hlv⟩ := row_shape hy1
      obtain ⟨v9', hf, p3, r9, k9⟩ := r8.app9 hpe.c0 ke0.len (by simp; omega) o.lv (by rw [hlv]; rfl)
      have kf0 : Keep (fun _ => False) h hf := ke0.trans' k9 (fun c hc e => by omega)
      have hpf := hpe.keep k9 (fun q hq e => hq e.2)
      have hcs : o.lv.cells.size = 1 := by rw [hlv]; rfl
      have hct : o.lv.cells.toList = [o.lv] := by rw [hlv]; rfl
      simp only [mach, mstd, ↓reduceIte, Nat.reduceEqDiff, Nat.reduceAdd, Nat.reduceMul, hlen, mbl, Nat.reduceLeDiff, Nat.reduceLT, Int.reduceEq, oTc.cells.lds 0 2 (by simp), p1, m1, m2, p2, n1, n2, h0, hi1, and_self, Int.toNat_natCast, hcs, hct, p3, hw1]
      have sf : Ls h hf b L' (S.laid (S.all o.w o.ys)) (P ++ [((S.now.length : Int), o)]) v7' v8' v9' N := by
        refine ⟨hpf, sc.ok, sc.inf, sc.til, kf0, ?_, fun p hp => ?_, fun p hp => ?_, sc.zi⟩
        · simp only [List.map_append, List.map_cons, List.map_nil]; exact r9
        · rcases List.mem_append.1 hp with e | e
          · exact sc.ob p e
          · rw [List.mem_singleton.1 e]; exact Obj.new s.ok hfit
        · rcases List.mem_append.1 hp with e | e
          · exact sc.iq p e
          · rw [List.mem_singleton.1 e]; exact qs o (List.mem_of_getElem? ho)
      exact next (i + 1, S.laid (S.all o.w o.ys), L', P ++ [((S.now.length : Int), o)], v7', v8', v9') _ _ _ ⟨by omega, by omega, by simp only [List.length_append, List.length_cons, List.length_nil]; omega, sf⟩ ⟨rfl, rfl, rfl, rfl, rfl, rfl, by simp only [Int.natCast_add, Int.cast_ofNat_Int]; rfl, trivial⟩ (by simp only; omega)
  · have key : ∀ (l' : PE), Ψ2 (.exit 0) ⟨[(1, .slice ua os.length uc), (4, .bool false), (5, .pointer (some ⟨b, 0, none⟩)), (7, v7), (8, v8), (9, v9), (10, iv i)], l', ha, []⟩ := by
      intro l'
      refine out (.exit 0) _ _ _ _ (by intro e; cases e) ?_
      obtain ⟨a7, c7, hv7⟩ := row_shape s.rw3.r7.rds
      simp only [mach, mstd, ↓reduceIte, Nat.reduceEqDiff, Nat.reduceAdd, Nat.reduceMul]
      refine XLo_rule (α := Nat) (fun j => [(4, .bool false), (5, .pointer (some ⟨b, 0, none⟩)), (7, v7), (8, v8), (9, v9), (14, iv j)]) (fun j h' => j ≤ P.length ∧ Keep (fun _ => False) ha h') (fun j => P.length - j) 0 ⟨Nat.zero_le _, .refl _ _⟩ ⟨rfl, rfl, rfl, rfl, rfl, rfl, trivial⟩ ?_
      rintro j hb Ψ3 ⟨j1, kb⟩ next3 out3
      have hw2 : IntKind.i64.wrap ((j : Int) + 1) = j + 1 := i64w (by omega) (by omega)
      by_cases hj : (j : Int) < (P.length : Int)
      · have h0 : 0 ≤ (j : Int) := by omega
        have hjl : j < P.length := by omega
        have hp : P[j]? = some P[j] := List.getElem?_eq_getElem hjl
        have ho := s.ob P[j] (List.getElem_mem _)
        have hq := s.iq P[j] (List.getElem_mem _)
        generalize P[j] = p at hp ho hq
        have g7 : (P.map fun p => ((4 : Int), p.1))[j]? = some (4, p.1) := by rw [List.getElem?_map, hp]; rfl
        have g8 : (P.map fun p => p.2.w)[j]? = some p.2.w := by rw [List.getElem?_map, hp]; rfl
        have g9 : (P.map fun p => p.2.lv)[j]? = some p.2.lv := by rw [List.getElem?_map, hp]; rfl
        obtain ⟨b7, o7, d7, e7, _⟩ := rw_at s.rw3.r7.rds g7
        obtain ⟨b8, o8, d8, e8, _⟩ := rw_at s.rw3.r8.rds g8
        obtain ⟨b9, o9, d9, e9, _⟩ := s.rw3.r9.rds.at (i := j) (by rw [List.length_map]; exact hjl)
        have at7 : ∀ h', Keep (fun _ => False) ha h' → ldcs h' b7 (o7 + j * 2) 2 = some [iv 4, iv p.1] := fun h' k => by
          obtain ⟨b', o', c', e', l'⟩ := rw_at (s.rw3.keepF k).r7.rds g7
          rw [e7] at e'; cases e'; exact l'
        have at8 : ∀ h', Keep (fun _ => False) ha h' → ldcs h' b8 (o8 + j * 2) 2 = some [iv p.2.w.1, iv p.2.w.2] := fun h' k => by
          obtain ⟨b', o', c', e', l'⟩ := rw_at (s.rw3.keepF k).r8.rds g8
          rw [e8] at e'; cases e'; exact l'
        have at9 : ∀ h', Keep (fun _ => False) ha h' → ldc h' b9 (o9 + j * 1) = some p.2.lv := fun h' k => by
          obtain ⟨b', o', c', e', l'⟩ := (s.rw3.keepF k).r9.rds.at (i := j) (by rw [List.length_map]; exact hjl)
          rw [e9] at e'; cases e'
          have := l' 0 (by omega)
          rw [Nat.add_zero, Nat.mul_one] at this
          rw [Nat.mul_one, this]; exact g9
        have eh : S.head (4, p.1) = (p.2.w, 0) := by
          rw [HS.head, if_pos ho.lies]
          show (gx S.now p.1, (0 : Int)) = _
          rw [ho.hd]
        have sb := s.keepF kb
        have hlm : ∀ (f : Int × Op → Int × Int), (P.map f).length = P.length := fun f => List.length_map _
        have hlm9 : ∀ (f : Int × Op → Value), (P.map f).length = P.length := fun f => List.length_map _
        subst e7; subst e8; subst e9
        simp only [mach, mstd, ↓reduceIte, Nat.reduceEqDiff, Nat.reduceAdd, Nat.reduceMul, hlm, hj, h0, and_self, Int.toNat_natCast, at7 hb kb]
        refine XX_of (Head_ok sb.hp (4, p.1)) (fun res hc hlec hn => ?_)
        rw [eh] at hn
        obtain ⟨kc, rfl⟩ := hn
        refine .ret ?_
        have oA := Own.new hc 36 hc.length [iv 0, iv 0]
        have kA : Keep (fun _ => False) hc (hc ++ [row 36 hc.length [iv 0, iv 0]]) := Keep.push _ _ _
        simp only [mach, mstd, ↓reduceIte, Nat.reduceEqDiff, Nat.reduceAdd, Nat.reduceMul, wv, mbl, Nat.reduceLeDiff, Nat.reduceLT, Int.reduceEq]
        refine XH_own oA rfl (by simp [Value.cells]) rfl (fun hd q1 q2 q3 => ?_)
        have oAd : Own hd hc.length 36 [iv p.2.w.1, iv p.2.w.2] := by simpa [Value.cells] using q1
        have kd := (kb.trans kc).trans (kA.trans' q2 (fun c hc e => by omega))
        have sd := s.keepF kd
        simp only [mach, mstd, ↓reduceIte, Nat.reduceEqDiff, Nat.reduceAdd, Nat.reduceMul, hlm, hj, h0, and_self, Int.toNat_natCast, at7 hd kd]
        refine XX_of (Fields_ok sd.hp s.ok (4, p.1)) (fun res he hlee hn => ?_)
        obtain ⟨ke0, hn⟩ := hn
        rw [if_pos ho.lies, ho.flds] at hn
        obtain ⟨fv, rfl, fo, _⟩ := hn
        refine .ret ?_
        have ke := kd.trans ke0
        have se := s.keepF ke
        have oAe := oAd.keep ke0 (fun e => e)
        simp only [mach, mstd, ↓reduceIte, Nat.reduceEqDiff, Nat.reduceAdd, Nat.reduceMul, hlm, hj, h0, and_self, Int.toNat_natCast, at7 he ke, mbl, Nat.reduceLeDiff, Nat.reduceLT, Int.reduceEq]
        refine XX_of (Follow_ok se.hp (4, p.1) (fun _ => ⟨1, _, ho.fol⟩)) (fun res hf hlef hn => ?_)
        obtain ⟨kf0, hn⟩ := hn
        rw [if_pos (.inr ho.lies)] at hn
        obtain ⟨m, y, hy, rfl⟩ := hn
        obtain rfl := fol_one hy ho.fol
        refine .ret ?_
        have oB := Own.new hf 36 hf.length [iv 0, iv 0]
        have kB : Keep (fun _ => False) hf (hf ++ [row 36 hf.length [iv 0, iv 0]]) := Keep.push _ _ _
        simp only [mach, mstd, ↓reduceIte, Nat.reduceEqDiff, Nat.reduceAdd, Nat.reduceMul, wv, mbl, Nat.reduceLeDiff, Nat.reduceLT, Int.reduceEq]
        refine XH_own oB rfl (by simp [Value.cells]) rfl (fun hg q1 q2 q3 => ?_)
        have oBg : Own hg hf.length 36 [iv 4, iv p.1] := by simpa [Value.cells] using q1
        have kfg : Keep (fun _ => False) hf hg := kB.trans' q2 (fun c hc e => by omega)
        have kg := (ke.trans kf0).trans kfg
        have oAg := (oAe.keep kf0 (fun e => e)).keep kfg (fun e => e)
        have fog := (fo.keep kf0 (fun _ _ e => e)).keep kfg (fun _ _ e => e)
        simp only [mach, mstd, ↓reduceIte, Nat.reduceEqDiff, Nat.reduceAdd, Nat.reduceMul, hlm, hlm9, hj, h0, and_self, Int.toNat_natCast, at7 hg kg, at8 hg kg, at9 hg kg, oAg.cells.lds 0 2 (by simp), oBg.cells.lds 0 2 (by simp), mbl, Nat.reduceLeDiff, Nat.reduceLT, Int.reduceEq, ceq_w]
        have lvg := (hq.1.keep s.kp (fun _ _ e => e)).keep kg (fun _ _ e => e)
        refine XX_val (SameWords_ok fog.rds lvg (by have := hq.2.1; omega)) ?_
        simp only [mach, mstd, ↓reduceIte, Nat.reduceEqDiff, Nat.reduceAdd, Nat.reduceMul, mbl, Nat.reduceLeDiff, Nat.reduceLT, Int.reduceEq, hw2, eq_self]
        exact next3 (j + 1) _ _ _ ⟨by omega, kg⟩ ⟨rfl, rfl, by simp only [hlm]; rfl, by simp only [hlm]; rfl, by simp only [hlm9]; rfl, by simp only [Int.natCast_add, Int.cast_ofNat_Int]; rfl, trivial⟩ (by omega)
      · have hlm : ∀ (f : Int × Op → Int × Int), (P.map f).length = P.length := fun f => List.length_map _
        rw [hv7]
        simp only [mach, mstd, ↓reduceIte, Nat.reduceEqDiff, Nat.reduceAdd, Nat.reduceMul, hlm, hj]
        refine out3 (.exit 2) _ _ _ _ (by intro e; cases e) ?_
        simp only [mach, mstd, ↓reduceIte, Nat.reduceEqDiff, Nat.reduceAdd, Nat.reduceMul]
        refine XLo_rule (α := List (Int × Int) × Int) (fun a => [(4, .bool false), (5, .pointer (some ⟨b, 0, none⟩)), (21, iv a.2)]) (fun a h' => Keep (fun _ => False) ha h' ∧ (∃ l1, S.begins = l1 ++ a.1) ∧ tiles a.2 a.1 S.now.length) (fun a => a.1.length) (S.begins, 0) ⟨kb, ⟨[], rfl⟩, s.til⟩ ⟨rfl, rfl, rfl, trivial⟩ ?_
        rintro ⟨l2, n⟩ hc Ψ4 ⟨kc, ⟨l1, hl1⟩, ht⟩ next4 out4
        have sc := s.keepF kc
        simp only [mach, mstd, ↓reduceIte, Nat.reduceEqDiff, Nat.reduceAdd, Nat.reduceMul]
        refine XX_val (Used_ok sc.hp) ?_
        cases l2 with
        | nil =>
          have hn : n = (S.now.length : Int) := ht
          subst hn
          simp only [mach, mstd, ↓reduceIte, Nat.reduceEqDiff, Nat.reduceAdd, Nat.reduceMul, Int.lt_irrefl]
          refine out4 (.exit 4) _ _ _ _ (by intro e; cases e) ?_
          simp only [mach, mstd, ↓reduceIte, Nat.reduceEqDiff, Nat.reduceAdd, Nat.reduceMul]
          refine XX_val (Used_ok sc.hp) ?_
          simp only [mach, mstd, ↓reduceIte, Nat.reduceEqDiff, Nat.reduceAdd, Nat.reduceMul]
          exact hΨ _ _ (fin_ret (rv1 rfl rfl))
        | cons p l2 =>
          obtain ⟨t1, t2, t3⟩ := ht
          have hle := tiles_le t3
          have htil := s.til
          rw [hl1] at htil
          obtain ⟨p0, pg⟩ := tiles_get htil
          rw [t1, ← hl1] at pg
          have hb1 := s.hp.ws.ln
          have hb2 := s.hp.ws.sz
          have hlt : n < (S.now.length : Int) := by omega
          have hnx : S.next n = (n + p.2, 0) := by rw [HS.next, pg]
          have hle2 : ¬ (n + p.2 ≤ n) := by omega
          simp only [mach, mstd, ↓reduceIte, Nat.reduceEqDiff, Nat.reduceAdd, Nat.reduceMul, hlt]
          refine XX_val (Next_ok sc.hp n (fun m hm => by rw [pg] at hm; cases hm; omega)) ?_
          rw [hnx]
          simp only [mach, mstd, ↓reduceIte, Nat.reduceEqDiff, Nat.reduceAdd, Nat.reduceMul, mbl, Nat.reduceLeDiff, Nat.reduceLT, Int.reduceEq, hle2]
          exact next4 (l2, n + p.2) _ _ _ ⟨kc, ⟨l1 ++ [p], by rw [hl1, List.append_assoc]; rfl⟩, t3⟩ ⟨rfl, rfl, rfl, trivial⟩ (by simp)
    by_cases hi1 : (i : Int) < (os.length : Int)
    · have hi2 : ¬ (i : Int) < 200 := fun e => hi ⟨hi1, e⟩
      simp only [mach, mstd, ↓reduceIte, Nat.reduceEqDiff, Nat.reduceAdd, Nat.reduceMul, hi1, hi2]
      exact key _
    · simp only [mach, mstd, ↓reduceIte, Nat.reduceEqDiff, Nat.reduceAdd, Nat.reduceMul, hi1]
      exact key _
end Go.S18

/- Heap: a caller's boxes; HeapBecomes. -/
set_option linter.unusedVariables false
set_option linter.unusedSimpArgs false
namespace Go.S18
open Go Go.Eng Go.Proofs Go.Chk

/-- A heap and a caller's boxes (words). -/
structure Wk (h : AH) (b : Nat) (L : Lay) (S : HS) (l : List (Nat × (Int × Int))) : Prop where
  hp : Hp h b L S
  bx : ∀ p, p ∈ l → Own h p.1 36 [iv p.2.1, iv p.2.2] ∧ L.cls p.1 = 0
section
variable {h h' : AH} {b : Nat} {L L' : Lay} {S S' : HS} {l : List (Nat × (Int × Int))}
theorem Wk.step (w : Wk h b L S l) (k : Keep (Mine L) h h') (hp' : Hp h' b L' S') (sm : Same h.length L L') : Wk h' b L' S' l :=
  ⟨hp', fun p hp => ⟨(w.bx p hp).1.keep k (by simp [Mine, (w.bx p hp).2]), (sm _ (w.bx p hp).1.lt).2 (w.bx p hp).2⟩⟩
theorem Wk.keepF (w : Wk h b L S l) (k : Keep (fun _ => False) h h') : Wk h' b L S l :=
  w.step (k.mono fun _ e => e.elim) (w.hp.keepF k) (Same.refl _ _)
theorem Wk.ld2 (w : Wk h b L S l) {i : Nat} {p : Nat × (Int × Int)} (hp : l[i]? = some p) : ldcs h p.1 0 2 = some [iv p.2.1, iv p.2.2] := by
  have := (w.bx p (List.mem_of_getElem? hp)).1.cells.lds 0 2 (by simp)
  simpa using this
theorem XH_box {keep : Bool} {nm : List Nat} {Φ : Out → PS → Prop} {cn : Cn} {k : List Fm} {e ll : PE} {ds : List Dfr} {d : D} (w : Wk h b L S l) {a c : Int}
    (hk : ∀ h', h.length < h'.length → Wk h' b L S ((h.length, (a, c)) :: l) → Keep (fun _ => False) h h' → XV Try.prog keep nm Φ undef d cn k e ll h' ds) : XH Try.prog keep nm Φ (stv (h ++ [row 36 h.length [.int .i64 0, .int .i64 0]]) 2 (.pointer (some ⟨h.length, 0, none⟩)) (.agg #[iv a, iv c])) d cn k e ll ds := by
  have on := Own.new h 36 h.length [iv 0, iv 0]
  have kp : Keep (fun _ => False) h (h ++ [row 36 h.length [iv 0, iv 0]]) := Keep.push _ _ _
  refine XH_own on rfl (by simp [Value.cells]) rfl (fun h2 q1 q2 q3 => ?_)
  have on2 : Own h2 h.length 36 [iv a, iv c] := by simpa [Value.cells] using q1
  have k2 : Keep (fun _ => False) h h2 := kp.trans' q2 (fun c hc e => by omega)
  refine hk h2 (by rw [q3]; simp) ⟨w.hp.keepF k2, fun p hp => ?_⟩ k2
  rcases List.mem_cons.1 hp with rfl | hp
  · exact ⟨on2, w.hp.c0 _ (Nat.le_refl _)⟩
  · exact (w.keepF k2).bx p hp
end

theorem mget_mem {k n : Int} : ∀ {l : List (Int × Int)}, mget k l = some n → (k, n) ∈ l := by
  intro l
  induction l with
  | nil => intro h; cases h
  | cons p l ih =>
    intro h
    simp only [mget] at h
    split at h
    · rename_i e; cases h; obtain ⟨a, c⟩ := p; simp at e; subst e; exact List.mem_cons_self ..
    · exact List.mem_cons_of_mem _ (ih h)
theorem HS.Ok.of {S : HS} (h : ∀ p ∈ S.begins, 0 ≤ p.1 ∧ 1 ≤ p.2 ∧ p.1 + p.2 ≤ S.now.length ∧ ((wat S.now p.1).1 = 6 → 0 ≤ (wat S.now p.1).2 ∧ (wat S.now p.1).2 < S.infos.length ∧ 0 ≤ S.fr (wat S.now p.1).2 ∧ S.fr (wat S.now p.1).2 < p.2)) : S.Ok :=
  ⟨fun k n e => ⟨(h _ (mget_mem e)).1, (h _ (mget_mem e)).2.1, (h _ (mget_mem e)).2.2.1⟩, fun k n e => (h _ (mget_mem e)).2.2.2⟩

/-- The heap of the tiny image. -/
def tinyS (now begins : List (Int × Int)) : HS := { infos := tinyC.infos, texts := [], cons := tinyC.cons, now := now, old := [], begins := begins, oldm := [], globals := [(3, 0), (4, 0)], size := 100, side := 0 }
theorem tiny_new : (HS.start tinyC [] 100).gls tinyC.tops.length = some (tinyS [(6, 1), (1, 0)] [(0, 2)]) := by rfl
theorem tiny_ends : (ends tinyC).isSome = true := by rfl
abbrev B2 : List (Int × Int) := [(0, 2), (2, 2), (4, 2)]
abbrev N2 : List (Int × Int) := [(6, 1), (1, 0), (10, 3), (1, 0), (10, 4), (1, 0)]
abbrev N3 : List (Int × Int) := [(6, 1), (1, 0), (11, 2), (1, 0), (10, 4), (1, 0)]
abbrev N4 : List (Int × Int) := [(6, 1), (1, 0), (11, 2), (1, 0), (11, 2), (1, 0)]
abbrev N5 : List (Int × Int) := [(6, 1), (1, 0), (12, 0), (4, 4), (11, 2), (1, 0)]
abbrev N6 (n : Int) : List (Int × Int) := [(6, 1), (1, 0), (12, 0), (4, 4), (12, 0), (1, n)]
theorem e_put1 : (tinyS [(6, 1), (1, 0)] [(0, 2)]).put (10, 3) [] = ((4, 2), 0, tinyS [(6, 1), (1, 0), (10, 3), (1, 0)] [(0, 2), (2, 2)]) := by rfl
theorem e_put2 : (tinyS [(6, 1), (1, 0), (10, 3), (1, 0)] [(0, 2), (2, 2)]).put (10, 4) [] = ((4, 4), 0, tinyS N2 B2) := by rfl
theorem e_early (y : Int × Int) : (tinyS N2 B2).become (4, 2) (4, 4) y = (1, tinyS N2 B2) := by rfl
theorem e_one : (tinyS N2 B2).hole (4, 2) = (0, tinyS N3 B2) := by rfl
theorem e_two : (tinyS N3 B2).hole (4, 2) = (1, tinyS N3 B2) := by rfl
theorem e_three : (tinyS N3 B2).hole (4, 4) = (0, tinyS N4 B2) := by rfl
theorem e_head : (tinyS N4 B2).head (4, 2) = ((11, 2), 0) := by rfl
theorem e_self : (tinyS N4 B2).become (4, 2) (4, 2) (4, 2) = (1, tinyS N4 B2) := by rfl
theorem e_f1 : (tinyS N4 B2).fol 2 (4, 2) = some (4, 2) := by rfl
theorem e_f2 : (tinyS N4 B2).fol 2 (4, 4) = some (4, 4) := by rfl
theorem e_e : (tinyS N4 B2).become (4, 2) (4, 4) (4, 4) = (0, tinyS N5 B2) := by rfl
theorem e_f3 : (tinyS N5 B2).fol 3 (4, 2) = some (4, 4) := by rfl
theorem e_circle : (tinyS N5 B2).become (4, 4) (4, 2) (4, 4) = (1, tinyS N5 B2) := by rfl
theorem e_f4 (n : Int) : (tinyS N5 B2).fol 3 (1, n) = some (1, n) := by rfl
theorem e_f (n : Int) : (tinyS N5 B2).become (4, 4) (1, n) (1, n) = (0, tinyS (N6 n) B2) := by rfl
theorem e_again (n : Int) (y : Int × Int) : (tinyS (N6 n) B2).become (4, 2) (4, 4) y = (1, tinyS (N6 n) B2) := by rfl
theorem e_x (n : Int) : (tinyS (N6 n) B2).fol 4 (4, 2) = some (1, n) := by rfl
theorem e_y (n : Int) : (tinyS (N6 n) B2).fol 4 (4, 4) = some (1, n) := by rfl
theorem e_odd (n : Int) : ¬ (tinyS (N6 n) B2).sound (4, 1) := of_decide_eq_false rfl
theorem e_s2 (n : Int) : (tinyS (N6 n) B2).sound (4, 2) := of_decide_eq_true rfl
theorem e_s4 (n : Int) : (tinyS (N6 n) B2).sound (4, 4) := of_decide_eq_true rfl
theorem e_set (n k : Int) : (tinyS (N6 n) B2).sete (4, 2) k (1, n) = (2, tinyS (N6 n) B2) := by
  rw [HS.sete, if_pos ⟨of_decide_eq_true rfl, of_decide_eq_true rfl⟩, if_pos (.inr (.inr (.inl rfl)))]
theorem e_ok (now : List (Int × Int)) (hl : now.length = 6) (h0 : wat now 0 = (6, 1)) (h2 : (wat now 2).1 ≠ 6) (h4 : (wat now 4).1 ≠ 6) : (tinyS now B2).Ok := by
  refine .of (fun p hp => ?_)
  simp only [tinyS, List.mem_cons, List.not_mem_nil, or_false] at hp
  rcases hp with rfl | rfl | rfl
  · refine ⟨by omega, by omega, by simp [tinyS, hl], fun _ => ?_⟩
    simp only [tinyS, h0]
    exact ⟨by decide, by decide, by show (0 : Int) ≤ 0; omega, by show (0 : Int) < 2; omega⟩
  · exact ⟨by omega, by omega, by simp [tinyS, hl], fun e => absurd e h2⟩
  · exact ⟨by omega, by omega, by simp [tinyS, hl], fun e => absurd e h4⟩

set_option maxHeartbeats 4000000 in
theorem Becomes_ok {h : AH} (n k : Int) : Gets Try.prog 5 [iv n, iv k] h (fun res h' => res = .ret (.bool true)) := by
  refine Gets.of (keep := false) hP (draw_ok hM) k5 (by rfl) (fun Ψ hΨ => ?_)
  simp only [mach, mstd, ↓reduceIte, Nat.reduceEqDiff, Nat.reduceAdd, Nat.reduceMul, r5]
  refine XX_val (wakes_ok h) ?_
  simp only [mach, mstd, ↓reduceIte, Nat.reduceEqDiff, Nat.reduceAdd, Nat.reduceMul, mbl, Nat.reduceLeDiff, Nat.reduceLT, Int.reduceEq]
  refine XX_of (tiny_ok h) (fun res h1 hle1 hn => ?_)
  obtain ⟨k1, vi, vc, vp, vk, rfl, im, _, _, _⟩ := hn
  refine .ret ?_
  simp only [mach, mstd, ↓reduceIte, Nat.reduceEqDiff, Nat.reduceAdd, Nat.reduceMul, mbl, Nat.reduceLeDiff, Nat.reduceLT, Int.reduceEq]
  refine XX_of (New_ok (C := tinyC) (texts := []) im (by refine ⟨?_, ?_, ?_, ?_⟩ <;> decide) .nil (by decide) (by decide) 100) (fun res h2 hle2 hn => ?_)
  obtain ⟨k2, hn⟩ := hn
  unfold NewO at hn
  rw [if_pos ⟨tiny_ends, by omega, by omega⟩, tiny_new] at hn
  obtain ⟨b, L0, rfl, hp0, z0⟩ := hn
  refine .ret ?_
  have w : Wk h2 b L0 (tinyS [(6, 1), (1, 0)] [(0, 2)]) [] := ⟨hp0, fun p hp => by cases hp⟩
  clear hp0 z0 im
  simp only [mach, mstd, ↓reduceIte, Nat.reduceEqDiff, Nat.reduceAdd, Nat.reduceMul, mbl, Nat.reduceLeDiff, Nat.reduceLT, Int.reduceEq]
  refine XX_of (Put_ok w.hp (by rfl) (10, 3) (ys := []) (u := .slice none 0 0) .nil (by decide) (fun _ => by decide)) (fun res h3 hle hn => ?_)
  rw [e_put1] at hn
  obtain ⟨kc, rfl, L1, s1, sm⟩ := hn
  refine .ret ?_
  replace w := w.step kc s1 sm
  clear kc s1 sm
  simp only [mach, mstd, ↓reduceIte, Nat.reduceEqDiff, Nat.reduceAdd, Nat.reduceMul, wv, mbl, Nat.reduceLeDiff, Nat.reduceLT, Int.reduceEq]
  refine XH_box w (fun h3' hlt w' kb => ?_)
  replace w := w'
  clear w' kb hlt
  simp only [mach, mstd, ↓reduceIte, Nat.reduceEqDiff, Nat.reduceAdd, Nat.reduceMul, mbl, Nat.reduceLeDiff, Nat.reduceLT, Int.reduceEq]
  refine XX_of (Put_ok w.hp (by rfl) (10, 4) (ys := []) (u := .slice none 0 0) .nil (by decide) (fun _ => by decide)) (fun res h4 hle hn => ?_)
  rw [e_put2] at hn
  obtain ⟨kc, rfl, L1, s1, sm⟩ := hn
  refine .ret ?_
  replace w := w.step kc s1 sm
  clear kc s1 sm
  simp only [mach, mstd, ↓reduceIte, Nat.reduceEqDiff, Nat.reduceAdd, Nat.reduceMul, wv, mbl, Nat.reduceLeDiff, Nat.reduceLT, Int.reduceEq]
  refine XH_box w (fun h4' hlt w' kb => ?_)
  replace w := w'
  clear w' kb hlt
  simp only [mach, mstd, ↓reduceIte, Nat.reduceEqDiff, Nat.reduceAdd, Nat.reduceMul, mbl, Nat.reduceLeDiff, Nat.reduceLT, Int.reduceEq, w.ld2 (i := 0) rfl, w.ld2 (i := 1) rfl]
  refine XX_of (Become_ok w.hp (4, 2) (4, 4) (fun _ _ _ => ⟨1, _, rfl⟩)) (fun res h5 hle hn => ?_)
  obtain ⟨kc, y, hy, rfl, s1⟩ := hn
  rw [e_early] at s1
  rw [e_early]
  refine .ret ?_
  replace w := w.step kc s1 (Same.refl _ _)
  clear kc s1 hy
  simp only [mach, mstd, ↓reduceIte, Nat.reduceEqDiff, Nat.reduceAdd, Nat.reduceMul, mbl, Nat.reduceLeDiff, Nat.reduceLT, Int.reduceEq, w.ld2 (i := 1) rfl]
  refine XX_of (Hole_ok w.hp (e_ok N2 rfl rfl (by decide) (by decide)) (4, 2)) (fun res h6 hle hn => ?_)
  rw [e_one] at hn
  obtain ⟨kc, rfl, s1⟩ := hn
  refine .ret ?_
  replace w := w.step kc s1 (Same.refl _ _)
  clear kc s1
  simp only [mach, mstd, ↓reduceIte, Nat.reduceEqDiff, Nat.reduceAdd, Nat.reduceMul, mbl, Nat.reduceLeDiff, Nat.reduceLT, Int.reduceEq, w.ld2 (i := 1) rfl]
  refine XX_of (Hole_ok w.hp (e_ok N3 rfl rfl (by decide) (by decide)) (4, 2)) (fun res h7 hle hn => ?_)
  rw [e_two] at hn
  obtain ⟨kc, rfl, s1⟩ := hn
  refine .ret ?_
  replace w := w.step kc s1 (Same.refl _ _)
  clear kc s1
  simp only [mach, mstd, ↓reduceIte, Nat.reduceEqDiff, Nat.reduceAdd, Nat.reduceMul, mbl, Nat.reduceLeDiff, Nat.reduceLT, Int.reduceEq, w.ld2 (i := 0) rfl]
  refine XX_of (Hole_ok w.hp (e_ok N3 rfl rfl (by decide) (by decide)) (4, 4)) (fun res h8 hle hn => ?_)
  rw [e_three] at hn
  obtain ⟨kc, rfl, s1⟩ := hn
  refine .ret ?_
  replace w := w.step kc s1 (Same.refl _ _)
  clear kc s1
  simp only [mach, mstd, ↓reduceIte, Nat.reduceEqDiff, Nat.reduceAdd, Nat.reduceMul, mbl, Nat.reduceLeDiff, Nat.reduceLT, Int.reduceEq, w.ld2 (i := 1) rfl]
  refine XX_of (Head_ok w.hp (4, 2)) (fun res h9 hle hn => ?_)
  rw [e_head] at hn
  obtain ⟨kc, rfl⟩ := hn
  refine .ret ?_
  replace w := w.keepF kc
  clear kc
  simp only [mach, mstd, ↓reduceIte, Nat.reduceEqDiff, Nat.reduceAdd, Nat.reduceMul, wv, mbl, Nat.reduceLeDiff, Nat.reduceLT, Int.reduceEq]
  refine XH_box w (fun h9' hlt w' kb => ?_)
  replace w := w'
  clear w' kb hlt
  simp only [mach, mstd, ↓reduceIte, Nat.reduceEqDiff, Nat.reduceAdd, Nat.reduceMul, mbl, Nat.reduceLeDiff, Nat.reduceLT, Int.reduceEq, w.ld2 (i := 0) rfl, ceq_w, and_self]
  simp only [mach, mstd, ↓reduceIte, Nat.reduceEqDiff, Nat.reduceAdd, Nat.reduceMul, mbl, Nat.reduceLeDiff, Nat.reduceLT, Int.reduceEq, w.ld2 (i := 2) rfl]
  refine XX_of (Become_ok w.hp (4, 2) (4, 2) (fun _ _ _ => ⟨_, _, e_f1⟩)) (fun res h10 hle hn => ?_)
  obtain ⟨kc, y, hy, rfl, s1⟩ := hn
  obtain ⟨m, hy⟩ := hy ⟨of_decide_eq_true rfl, rfl, of_decide_eq_true rfl⟩
  obtain rfl := fol_one hy e_f1
  rw [e_self] at s1
  rw [e_self]
  refine .ret ?_
  replace w := w.step kc s1 (Same.refl _ _)
  clear kc s1 hy
  simp only [mach, mstd, ↓reduceIte, Nat.reduceEqDiff, Nat.reduceAdd, Nat.reduceMul, mbl, Nat.reduceLeDiff, Nat.reduceLT, Int.reduceEq, w.ld2 (i := 1) rfl, w.ld2 (i := 2) rfl]
  refine XX_of (Become_ok w.hp (4, 2) (4, 4) (fun _ _ _ => ⟨_, _, e_f2⟩)) (fun res h11 hle hn => ?_)
  obtain ⟨kc, y, hy, rfl, s1⟩ := hn
  obtain ⟨m, hy⟩ := hy ⟨of_decide_eq_true rfl, rfl, of_decide_eq_true rfl⟩
  obtain rfl := fol_one hy e_f2
  rw [e_e] at s1
  rw [e_e]
  refine .ret ?_
  replace w := w.step kc s1 (Same.refl _ _)
  clear kc s1 hy
  simp only [mach, mstd, ↓reduceIte, Nat.reduceEqDiff, Nat.reduceAdd, Nat.reduceMul, mbl, Nat.reduceLeDiff, Nat.reduceLT, Int.reduceEq, w.ld2 (i := 1) rfl, w.ld2 (i := 2) rfl]
  refine XX_of (Become_ok w.hp (4, 4) (4, 2) (fun _ _ _ => ⟨_, _, e_f3⟩)) (fun res h12 hle hn => ?_)
  obtain ⟨kc, y, hy, rfl, s1⟩ := hn
  obtain ⟨m, hy⟩ := hy ⟨of_decide_eq_true rfl, rfl, of_decide_eq_true rfl⟩
  obtain rfl := fol_one hy e_f3
  rw [e_circle] at s1
  rw [e_circle]
  refine .ret ?_
  replace w := w.step kc s1 (Same.refl _ _)
  clear kc s1 hy
  simp only [mach, mstd, ↓reduceIte, Nat.reduceEqDiff, Nat.reduceAdd, Nat.reduceMul, mbl, Nat.reduceLeDiff, Nat.reduceLT, Int.reduceEq, w.ld2 (i := 1) rfl, w.ld2 (i := 2) rfl]
  refine XX_of (Become_ok w.hp (4, 4) (1, n) (fun _ _ _ => ⟨_, _, e_f4 n⟩)) (fun res h13 hle hn => ?_)
  obtain ⟨kc, y, hy, rfl, s1⟩ := hn
  obtain ⟨m, hy⟩ := hy ⟨of_decide_eq_true rfl, rfl, of_decide_eq_true rfl⟩
  obtain rfl := fol_one hy (e_f4 n)
  rw [e_f] at s1
  rw [e_f]
  refine .ret ?_
  replace w := w.step kc s1 (Same.refl _ _)
  clear kc s1 hy
  simp only [mach, mstd, ↓reduceIte, Nat.reduceEqDiff, Nat.reduceAdd, Nat.reduceMul, mbl, Nat.reduceLeDiff, Nat.reduceLT, Int.reduceEq, w.ld2 (i := 1) rfl, w.ld2 (i := 2) rfl]
  refine XX_of (Become_ok w.hp (4, 2) (4, 4) (fun _ _ _ => ⟨_, _, e_y n⟩)) (fun res h14 hle hn => ?_)
  obtain ⟨kc, y, hy, rfl, s1⟩ := hn
  rw [e_again] at s1
  rw [e_again]
  refine .ret ?_
  replace w := w.step kc s1 (Same.refl _ _)
  clear kc s1 hy
  simp only [mach, mstd, ↓reduceIte, Nat.reduceEqDiff, Nat.reduceAdd, Nat.reduceMul, mbl, Nat.reduceLeDiff, Nat.reduceLT, Int.reduceEq, w.ld2 (i := 2) rfl]
  refine XX_of (Follow_ok w.hp (4, 2) (fun _ => ⟨_, _, (e_x n)⟩)) (fun res h15 hle hn => ?_)
  rw [if_pos (e_s2 n)] at hn
  obtain ⟨kc, m, y, hy, rfl⟩ := hn
  obtain rfl := fol_one hy (e_x n)
  refine .ret ?_
  replace w := w.keepF kc
  clear kc
  simp only [mach, mstd, ↓reduceIte, Nat.reduceEqDiff, Nat.reduceAdd, Nat.reduceMul, wv, mbl, Nat.reduceLeDiff, Nat.reduceLT, Int.reduceEq]
  refine XH_box w (fun h15' hlt w' kb => ?_)
  replace w := w'
  clear w' kb hlt
  simp only [mach, mstd, ↓reduceIte, Nat.reduceEqDiff, Nat.reduceAdd, Nat.reduceMul, mbl, Nat.reduceLeDiff, Nat.reduceLT, Int.reduceEq, w.ld2 (i := 2) rfl]
  refine XX_of (Follow_ok w.hp (4, 4) (fun _ => ⟨_, _, (e_y n)⟩)) (fun res h16 hle hn => ?_)
  rw [if_pos (e_s4 n)] at hn
  obtain ⟨kc, m, y, hy, rfl⟩ := hn
  obtain rfl := fol_one hy (e_y n)
  refine .ret ?_
  replace w := w.keepF kc
  clear kc
  simp only [mach, mstd, ↓reduceIte, Nat.reduceEqDiff, Nat.reduceAdd, Nat.reduceMul, wv, mbl, Nat.reduceLeDiff, Nat.reduceLT, Int.reduceEq]
  refine XH_box w (fun h16' hlt w' kb => ?_)
  replace w := w'
  clear w' kb hlt
  simp only [mach, mstd, ↓reduceIte, Nat.reduceEqDiff, Nat.reduceAdd, Nat.reduceMul, mbl, Nat.reduceLeDiff, Nat.reduceLT, Int.reduceEq]
  refine XX_of (Follow_ok w.hp (4, 1) (fun e => absurd e (e_odd n))) (fun res h17 hle hn => ?_)
  rw [if_neg (e_odd n)] at hn
  obtain ⟨kc, rfl⟩ := hn
  refine .ret ?_
  replace w := w.keepF kc
  clear kc
  simp only [mach, mstd, ↓reduceIte, Nat.reduceEqDiff, Nat.reduceAdd, Nat.reduceMul, wv, mbl, Nat.reduceLeDiff, Nat.reduceLT, Int.reduceEq]
  refine XH_box w (fun h17' hlt w' kb => ?_)
  replace w := w'
  clear w' kb hlt
  simp only [mach, mstd, ↓reduceIte, Nat.reduceEqDiff, Nat.reduceAdd, Nat.reduceMul, mbl, Nat.reduceLeDiff, Nat.reduceLT, Int.reduceEq]
  refine XH_box w (fun h90 hlt w' kb => ?_)
  replace w := w'
  clear w' kb hlt
  simp only [mach, mstd, ↓reduceIte, Nat.reduceEqDiff, Nat.reduceAdd, Nat.reduceMul, mbl, Nat.reduceLeDiff, Nat.reduceLT, Int.reduceEq, w.ld2 (i := 6) rfl, w.ld2 (i := 0) rfl]
  refine XX_of (Set_ok w.hp (e_ok (N6 n) rfl rfl (by show (12 : Int) ≠ 6; omega) (by show (12 : Int) ≠ 6; omega)) (4, 2) k (1, n)) (fun res h18 hle hn => ?_)
  rw [e_set] at hn
  obtain ⟨kc, rfl, s1⟩ := hn
  refine .ret ?_
  replace w := w.step kc s1 (Same.refl _ _)
  simp only [mach, mstd, ↓reduceIte, Nat.reduceEqDiff, Nat.reduceAdd, Nat.reduceMul, mbl, Nat.reduceLeDiff, Nat.reduceLT, Int.reduceEq, w.ld2 (i := 0) rfl, w.ld2 (i := 1) rfl, w.ld2 (i := 2) rfl, w.ld2 (i := 3) rfl, ceq_w, and_self]
  exact hΨ _ _ (fin_ret (rv1 rfl rfl))
end Go.S18
