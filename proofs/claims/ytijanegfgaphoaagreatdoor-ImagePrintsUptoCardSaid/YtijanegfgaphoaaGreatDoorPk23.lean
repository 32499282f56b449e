import Derived.Test.YtijanegfgaphoaaGreatDoorPk22
/- Images as texts: the program's numbers and quote. -/
set_option linter.unusedVariables false
set_option linter.unusedSimpArgs false
namespace Go.S17
open Go Go.Eng Go.Proofs Go.Scn Go.Chk

/-- A Builder that is written to. -/
def WO (h : AH) (b : Nat) (v : Value) (acc' : Bs) (h' : AH) (v' : Value) : Prop :=
  Keep (fun q => q = b ∨ bk v q) h h' ∧ Bd h' b acc' (.pointer (some ⟨b, 0, none⟩)) v' ∧ ∀ q, bk v' q → bk v q ∨ h.length ≤ q
theorem WO.trans {h h1 h2 : AH} {b : Nat} {v v1 v2 : Value} {a1 a2 : Bs} (x : WO h b v a1 h1 v1) (y : WO h1 b v1 a2 h2 v2) : WO h b v a2 h2 v2 := by
  obtain ⟨k1, b1, f1⟩ := x
  obtain ⟨k2, b2, f2⟩ := y
  refine ⟨k1.trans' k2 (fun c hc e => ?_), b2, fun q hq => ?_⟩
  · rcases e with e | e
    · exact .inl e
    · rcases f1 c e with e2 | e2
      · exact .inr e2
      · omega
  · rcases f2 q hq with e | e
    · exact f1 q e
    · have := k1.len; exact .inr (by omega)
theorem Bd.keep {S : Nat → Prop} {h h' : AH} {b : Nat} {acc : Bs} {a v : Value} (x : Bd h b acc a v) (k : Keep S h h') (hb : ¬ S b) (hv : ∀ q, bk v q → ¬ S q) : Bd h' b acc a v :=
  ⟨x.own.keep k hb, x.ad, x.ow.keep k hv, x.ne, x.nl⟩

theorem numbers_ok {h : AH} {b : Nat} {acc : Bs} {v lv : Value} {l : List Int} (x : Bd h b acc (.pointer (some ⟨b, 0, none⟩)) v) (rl : Rds h 1 lv l.length (ns l)) (hne : ∀ q, rb lv q → q ≠ b ∧ ¬ bk v q) (hr : ∀ n ∈ l, rgI n) (hs : acc.length + 22 * l.length + 1 ≤ 140000000000000) :
    Gets Tryz.prog 20 [.pointer (some ⟨b, 0, none⟩), lv] h (fun res h' => res = .ret (.tuple #[]) ∧ ∃ v', WO h b v (acc ++ numsT l) h' v') := by
  refine Gets.of (keep := false) hP (draw_ok hM) k20 (by rfl) (fun Ψ hΨ => ?_)
  obtain ⟨la, lc, rfl⟩ := row_shape rl
  simp only [mach, mach2, mstd, ↓reduceIte, Nat.reduceEqDiff, Nat.reduceAdd, Nat.reduceMul, r20]
  refine XLo_rule (α := Nat × Value) (fun a => [(0, .pointer (some ⟨b, 0, none⟩)), (6, .slice la l.length lc), (7, iv l.length), (8, iv a.1)])
    (fun a h' => a.1 ≤ l.length ∧ WO h b v (acc ++ (l.take a.1).flatMap num1) h' a.2) (fun a => l.length - a.1) (0, v)
    ⟨Nat.zero_le _, .refl _ _, by simpa using x, fun q e => .inl e⟩ ⟨rfl, rfl, rfl, rfl, trivial⟩ ?_
  rintro ⟨i, w⟩ h1 Ψ2 ⟨hi, wo⟩ next out
  simp only at hi wo
  have hnl := nums_len (l := l.take i) (fun n hn => hr n (List.mem_of_mem_take hn))
  have htl : (l.take i).length = i := by simp; omega
  rw [htl] at hnl
  by_cases hlt : (i : Int) < (l.length : Int)
  · have hil : i < l.length := by omega
    have g0 : (0 : Int) ≤ (i : Int) := by omega
    have hx : l[(i : Int).toNat]? = some l[i] := by rw [Int.toNat_natCast]; exact List.getElem?_eq_getElem hil
    have ro := rl.keep wo.1 (fun q hq e => by
      rcases e with e | e
      · exact (hne q hq).1 e
      · exact (hne q hq).2 e)
    obtain ⟨b1, o1, c1, e1, _, l1⟩ := rds_ix ro g0 hx
    rw [Int.toNat_natCast] at l1
    cases e1
    have hrg := hr l[i] (List.getElem_mem _)
    have hil21 := itoa_len hrg
    have hw : IntKind.i64.wrap ((i : Int) + 1) = ((i + 1 : Nat) : Int) := by rw [i64w (by omega) (by omega)]; omega
    simp only [mach, mach2, mstd, ↓reduceIte, Nat.reduceEqDiff, Nat.reduceAdd, Nat.reduceMul, hlt, g0, and_self, Int.toNat_natCast, Nat.mul_one, l1]
    refine XX_of (writeByte_ok wo.2.1 32 (by simp only [List.length_append]; omega)) (fun res h2 hle hr2 => ?_)
    obtain ⟨rfl, k2, v2, b2, f2⟩ := hr2
    refine .ret ?_
    simp only [mach, mach2, mstd, ↓reduceIte, Nat.reduceEqDiff, Nat.reduceAdd, Nat.reduceMul]
    refine XX_val (itoa_ok l[i] hrg.1 hrg.2 h2) ?_
    simp only [mach, mach2, mstd, ↓reduceIte, Nat.reduceEqDiff, Nat.reduceAdd, Nat.reduceMul]
    refine XX_of (writeString_ok b2 (Lib.itoa l[i]) (by simp only [List.length_append, List.length_cons, List.length_nil]; omega)) (fun res h3 hle hr3 => ?_)
    obtain ⟨rfl, k3, v3, b3, f3⟩ := hr3
    refine .ret ?_
    simp only [mach, mach2, mstd, ↓reduceIte, Nat.reduceEqDiff, Nat.reduceAdd, Nat.reduceMul, hw]
    have hst : acc ++ (l.take i).flatMap num1 ++ [32] ++ Lib.itoa l[i] = acc ++ (l.take (i + 1)).flatMap num1 := by
      rw [flat_take hil]; simp [num1]
    rw [hst] at b3
    exact next (i + 1, v3) _ _ _ ⟨by simp only; omega, wo.trans (WO.trans (a1 := acc ++ (l.take i).flatMap num1 ++ [32]) ⟨k2, b2, f2⟩ ⟨k3, b3, f3⟩)⟩ ⟨rfl, rfl, rfl, rfl, trivial⟩ (by simp only; omega)
  · have hie : i = l.length := by omega
    simp only [mach, mach2, mstd, ↓reduceIte, Nat.reduceEqDiff, Nat.reduceAdd, Nat.reduceMul, hlt]
    refine out (.exit 0) _ _ _ _ (by intro e; cases e) ?_
    simp only [mach, mach2, mstd, ↓reduceIte, Nat.reduceEqDiff, Nat.reduceAdd, Nat.reduceMul]
    refine XX_of (writeByte_ok wo.2.1 10 (by simp only [List.length_append]; omega)) (fun res h2 hle hr2 => ?_)
    obtain ⟨rfl, k2, v2, b2, f2⟩ := hr2
    refine .ret ?_
    simp only [mach, mach2, mstd, ↓reduceIte, Nat.reduceEqDiff, Nat.reduceAdd, Nat.reduceMul]
    have hst : acc ++ (l.take i).flatMap num1 ++ [10] = acc ++ numsT l := by
      rw [hie, List.take_length]; simp [numsT]
    rw [hst] at b2
    exact hΨ _ _ (fin_norm ⟨rfl, v2, wo.trans ⟨k2, b2, f2⟩⟩)

/-- A text in quotes, by a Builder. -/
structure QI (h : AH) (b rb : Nat) (t : Bs) (i : Nat) (v : Value) (h' : AH) : Prop where
  kp : Keep (fun _ => False) h h'
  bd : Bd h' b ([34] ++ quoS (t.take i)) (.pointer (some ⟨b, 0, none⟩)) v
  ro : Rds h' 1 (.slice (some ⟨rb, 0, none⟩) t.length t.length) t.length (t.map bv)
  lt : rb < h'.length
  ne : ∀ q, bk v q → q ≠ rb
  brb : b ≠ rb
  hb : h.length ≤ b

theorem quote_ok (t : Bs) (hl : t.length ≤ 10000000000000) (h : AH) :
    Gets Tryz.prog 21 [tv t] h (fun res h' => Keep (fun _ => False) h h' ∧ res = .ret (tv ([34] ++ quoS t ++ [34]))) := by
  refine Gets.of (keep := false) hP (draw_ok hM) k21 (by rfl) (fun Ψ hΨ => ?_)
  simp only [mach, mach2, mstd, ↓reduceIte, Nat.reduceEqDiff, Nat.reduceAdd, Nat.reduceMul, r21]
  have ob := Own.new h bdT h.length [.pointer none, .slice none 0 0]
  have k2 : Keep (fun _ => False) h (h ++ [row bdT h.length [.pointer none, .slice none 0 0]]) := Keep.push _ _ _
  generalize hh2 : h ++ [row bdT h.length [.pointer none, .slice none 0 0]] = h2 at ob k2 ⊢
  have hl2 : h2.length = h.length + 1 := by rw [← hh2]; simp
  have b0 : Bd h2 h.length [] (.pointer none) (.slice none 0 0) := ⟨ob, .inl rfl, .nil, fun q e => e.elim, fun _ => rfl⟩
  refine XX_of (writeByte_ok b0 34 (by simp)) (fun res h3' hle hr => ?_)
  obtain ⟨rfl, k3, v3, b3, f3⟩ := hr
  refine .ret ?_
  have kp3 : Keep (fun _ => False) h h3' := k2.trans' k3 (fun c hc e => by
    rcases e with e | e
    · omega
    · exact e.elim)
  simp only [mach, mach2, mstd, ↓reduceIte, Nat.reduceEqDiff, Nat.reduceAdd, Nat.reduceMul, u_s2bt]
  generalize hh4 : h3' ++ [.cells false true h3'.length 0 5 (t.map bv)] = h4
  have k4 : Keep (fun _ => False) h3' h4 := by rw [← hh4]; exact Keep.push _ _ _
  have hl4 : h4.length = h3'.length + 1 := by rw [← hh4]; simp
  have hro : Rds h4 1 (.slice (some ⟨h3'.length, 0, none⟩) t.length t.length) t.length (t.map bv) := by
    rw [← hh4]
    exact .mk (all := t.map bv) (by simp [Cells, hcell]) (by simp) (by rw [List.drop_zero, Nat.mul_one]; exact List.take_of_length_le (by simp))
  have hb3 := b3.own.lt
  have b4 : Bd h4 h.length [34] (.pointer (some ⟨h.length, 0, none⟩)) v3 := b3.keep k4 (fun e => e) (fun _ _ e => e)
  have hlt3 := b3.ow.lt
  refine XLo_rule (α := Nat × Value) (fun a => [(3, .pointer (some ⟨h.length, 0, none⟩)), (10, .slice (some ⟨h3'.length, 0, none⟩) t.length t.length), (11, iv t.length), (12, iv a.1)])
    (fun a h' => a.1 ≤ t.length ∧ QI h h.length h3'.length t a.1 a.2 h') (fun a => t.length - a.1) (0, v3)
    ⟨Nat.zero_le _, kp3.trans k4, by simpa [quoS] using b4, hro, by omega, fun q hq e => by have := hlt3 q hq; omega, by omega, Nat.le_refl _⟩ ⟨rfl, rfl, rfl, rfl, trivial⟩ ?_
  rintro ⟨i, v⟩ g1 Ψ2 ⟨hi, qi⟩ next out
  simp only at hi qi
  have hqb := quoS_len (t.take i)
  have htl : (t.take i).length ≤ t.length := by simp; omega
  by_cases hlt : (i : Int) < (t.length : Int)
  · have hil : i < t.length := by omega
    have g0 : (0 : Int) ≤ (i : Int) := by omega
    have hcl := t[i].toNat_lt
    have he4 := escB_len t[i]
    have hld : ldc g1 h3'.length i = some (bv t[i]) := by
      obtain ⟨b', o', c', e', kk⟩ := qi.ro.at (i := i) hil
      cases e'
      have := kk 0 (by omega)
      rw [Nat.zero_add, Nat.mul_one, Nat.add_zero] at this
      rw [this, List.getElem?_map, List.getElem?_eq_getElem hil]; rfl
    have hw : IntKind.i64.wrap (t[i].toNat : Int) = (t[i].toNat : Int) := i64w (by omega) (by omega)
    have hwi : IntKind.i64.wrap ((i : Int) + 1) = ((i + 1 : Nat) : Int) := by rw [i64w (by omega) (by omega)]; omega
    simp only [mach, mach2, mstd, ↓reduceIte, Nat.reduceEqDiff, Nat.reduceAdd, Nat.reduceMul, hlt, g0, and_self, Int.toNat_natCast, Nat.mul_one, Nat.zero_add, hld, hw]
    refine XX_of (Escape_ok _ g1) (fun res g2 hle hr => ?_)
    obtain ⟨m2, rfl⟩ := hr
    refine .ret ?_
    rw [escB_some, escV]
    have bd2 : Bd g2 h.length ([34] ++ quoS (t.take i)) (.pointer (some ⟨h.length, 0, none⟩)) v := qi.bd.keep m2 (fun e => e) (fun _ _ e => e)
    simp only [mach, mach2, mstd, ↓reduceIte, Nat.reduceEqDiff, Nat.reduceAdd, Nat.reduceMul, mbl, Nat.reduceLeDiff, Nat.reduceLT, Int.reduceEq]
    refine XX_of (writeString_ok bd2 (escB t[i]) (by simp only [List.length_append, List.length_cons, List.length_nil]; omega)) (fun res g3 hle hr => ?_)
    obtain ⟨rfl, m3, v', bd3, f3'⟩ := hr
    refine .ret ?_
    have hst : quoS (t.take (i + 1)) = quoS (t.take i) ++ escB t[i] := flat_take hil
    have hlt2 := qi.lt
    have hm2 := m2.len
    simp only [mach, mach2, mstd, ↓reduceIte, Nat.reduceEqDiff, Nat.reduceAdd, Nat.reduceMul, hwi]
    refine next (i + 1, v') _ _ _ ⟨by simp only; omega, (qi.kp.trans m2).trans' m3 (fun c hc e => ?_), by rw [hst, ← List.append_assoc]; exact bd3, (qi.ro.keep m2 (fun _ _ e => e)).keep m3 (fun q hq e => ?_), by have := m3.len; omega, fun q hq e => ?_, qi.brb, qi.hb⟩ ⟨rfl, rfl, rfl, rfl, trivial⟩ (by simp only; omega)
    · rcases e with e | e
      · omega
      · have := qi.bd.ne c e; omega
    · have hq' : q = h3'.length := hq.1
      rcases e with e | e
      · exact qi.brb (e.symm.trans hq')
      · exact qi.ne q e hq'
    · rcases f3' q hq with e2 | e2
      · exact qi.ne q e2 e
      · omega
  · have hie : i = t.length := by omega
    simp only [mach, mach2, mstd, ↓reduceIte, Nat.reduceEqDiff, Nat.reduceAdd, Nat.reduceMul, hlt]
    refine out (.exit 0) _ _ _ _ (by intro e; cases e) ?_
    simp only [mach, mach2, mstd, ↓reduceIte, Nat.reduceEqDiff, Nat.reduceAdd, Nat.reduceMul]
    refine XX_of (writeByte_ok qi.bd 34 (by simp only [List.length_append, List.length_cons, List.length_nil]; omega)) (fun res g2 hle hr => ?_)
    obtain ⟨rfl, m2, v', bd2, f2⟩ := hr
    refine .ret ?_
    simp only [mach, mach2, mstd, ↓reduceIte, Nat.reduceEqDiff, Nat.reduceAdd, Nat.reduceMul]
    refine XX_of (string_ok bd2 (by simp only [List.length_append, List.length_cons, List.length_nil]; omega)) (fun res g3 hle hr => ?_)
    obtain ⟨rfl, m3⟩ := hr
    refine .ret ?_
    simp only [mach, mach2, mstd, ↓reduceIte, Nat.reduceEqDiff, Nat.reduceAdd, Nat.reduceMul]
    have hlt2 := qi.lt
    refine hΨ _ _ (fin_ret (rv1 rfl ⟨(qi.kp.trans' m2 (fun c hc e => ?_)).trans' m3 (fun c hc e => ?_), ?_⟩))
    · rcases e with e | e
      · omega
      · have := qi.bd.ne c e; omega
    · have := bd2.ne c e; omega
    · rw [hie, List.take_length]; rfl
end Go.S17

/- Images as texts: what is known of an image; the program's Print. -/
set_option linter.unusedVariables false
set_option linter.unusedSimpArgs false
namespace Go.S17
open Go Go.Eng Go.Proofs Go.Scn Go.Chk

/-- The sizes. -/
structure Fit (C : Cx) (ts : List Bs) : Prop where
  li : C.infos.length ≤ 1048576
  lc : C.code.length ≤ 1048576
  lp : C.tops.length ≤ 1048576
  lk : C.cons.length ≤ 1048576
  lt : ts.length ≤ 1048576
  l1 : ∀ t ∈ ts, t.length ≤ 1048576
  gm : rgI C.main
  gc : ∀ n ∈ C.code, rgI n
  gk : ∀ n ∈ C.cons, rgI n
  gi : ∀ x ∈ C.infos, rgI x.k ∧ rgI x.a ∧ rgI x.f ∧ rgI x.c
  nt : C.nt = ts.length
theorem Fit.fits {C : Cx} {ts : List Bs} (f : Fit C ts) : Cx.fits C := by
  have := f.li; have := f.lc; have := f.lp; have := f.lk
  exact ⟨by omega, by omega, by omega, by omega⟩
/-- The image as it lies. -/
structure Im (h : AH) (C : Cx) (ts : List Bs) (vi vc vt vp vk : Value) : Prop where
  im : Img h C vi vc vt vp vk
  rt : Rds h 1 vt ts.length (ts.map tv)
def rbs (vi vc vt vp vk : Value) (q : Nat) : Prop := rb vi q ∨ rb vc q ∨ rb vp q ∨ rb vk q ∨ rb vt q
theorem Im.keep {S : Nat → Prop} {h h' : AH} {C : Cx} {ts : List Bs} {vi vc vt vp vk : Value} (x : Im h C ts vi vc vt vp vk) (k : Keep S h h') (hs : ∀ q, rbs vi vc vt vp vk q → ¬ S q) : Im h' C ts vi vc vt vp vk :=
  ⟨x.im.keep k (fun q e => hs q (by unfold rbs; rcases e with e | e | e | e <;> simp [e])), x.rt.keep k (fun q e => hs q (by unfold rbs; simp [e]))⟩
theorem Im.lt {h : AH} {C : Cx} {ts : List Bs} {vi vc vt vp vk : Value} (x : Im h C ts vi vc vt vp vk) : ∀ q, rbs vi vc vt vp vk q → q < h.length := by
  rintro q (e | e | e | e | e)
  · exact x.im.lt q (.inl e)
  · exact x.im.lt q (.inr (.inl e))
  · exact x.im.lt q (.inr (.inr (.inl e)))
  · exact x.im.lt q (.inr (.inr (.inr e)))
  · exact x.rt.lt q e
theorem rds_tx {h : AH} {v : Value} {n : Nat} {xs : List Bs} (hr : Rds h 1 v n (xs.map tv)) {i : Nat} (hi : i < xs.length) :
    ∃ b o c, v = .slice (some ⟨b, o, none⟩) n c ∧ i < n ∧ ldc h b (o + i) = some (tv xs[i]) := by
  have hlen := hr.len
  rw [List.length_map, Nat.mul_one] at hlen
  obtain ⟨b', o', c', e', kk⟩ := hr.at (i := i) (by omega)
  refine ⟨b', o', c', e', by omega, ?_⟩
  have := kk 0 (by omega)
  rw [Nat.mul_one, Nat.add_zero, Nat.add_zero] at this
  rw [this, List.getElem?_map, List.getElem?_eq_getElem hi]; rfl

/-- The program's text while it grows. -/
structure PI (h : AH) (C : Cx) (ts : List Bs) (vi vc vt vp vk : Value) (b : Nat) (acc : Bs) (h' : AH) (v : Value) : Prop where
  kp : Keep (fun _ => False) h h'
  oI : Own h' h.length 26 [vi, vc, vt, vp, iv C.main, vk]
  im : Im h' C ts vi vc vt vp vk
  bd : Bd h' b acc (.pointer (some ⟨b, 0, none⟩)) v
  hb : h.length < b
  rl : ∀ q, rbs vi vc vt vp vk q → q < h.length
section
variable {h h' h2 : AH} {C : Cx} {ts : List Bs} {vi vc vt vp vk : Value} {b : Nat} {acc acc' : Bs} {v v' : Value}
theorem PI.step (p : PI h C ts vi vc vt vp vk b acc h' v) (w : WO h' b v acc' h2 v') : PI h C ts vi vc vt vp vk b acc' h2 v' := by
  obtain ⟨k, bd, f⟩ := w
  have hb := p.hb
  have lo : ∀ q, q < h.length + 1 → ¬ (q = b ∨ bk v q) := fun q hq e => by
    rcases e with e | e
    · omega
    · have := p.bd.ne q e; omega
  exact ⟨p.kp.trans' k (fun c hc e => lo c (by omega) e), p.oI.keep k (lo _ (by omega)), p.im.keep k (fun q e => lo q (by have := p.rl q e; omega)), bd, hb, p.rl⟩
theorem PI.grow (p : PI h C ts vi vc vt vp vk b acc h' v) (k : Keep (fun _ => False) h' h2) : PI h C ts vi vc vt vp vk b acc h2 v :=
  ⟨p.kp.trans k, p.oI.keep k (fun e => e), p.im.keep k (fun _ _ e => e), p.bd.keep k (fun e => e) (fun _ _ e => e), p.hb, p.rl⟩
theorem PI.nums (p : PI h C ts vi vc vt vp vk b acc h' v) {lv : Value} {l : List Int} (rl : Rds h' 1 lv l.length (ns l)) (hne : ∀ q, rb lv q → q ≠ b ∧ ¬ bk v q) (hr : ∀ n ∈ l, rgI n) (hs : acc.length + 22 * l.length + 1 ≤ 140000000000000) :
    Gets Tryz.prog 20 [.pointer (some ⟨b, 0, none⟩), lv] h' (fun res h2 => res = .ret (.tuple #[]) ∧ ∃ v', PI h C ts vi vc vt vp vk b (acc ++ numsT l) h2 v') :=
  (numbers_ok p.bd rl hne hr hs).mono fun res h2 _ ⟨e, v', w⟩ => ⟨e, v', p.step w⟩
theorem PI.lo (p : PI h C ts vi vc vt vp vk b acc h' v) : ∀ q, q < h.length → q ≠ b ∧ ¬ bk v q := fun q hq => by
  have hb := p.hb
  exact ⟨by omega, fun e => by have := p.bd.ne q e; omega⟩
theorem PI.str (p : PI h C ts vi vc vt vp vk b acc h' v) (l : Bs) (hl : acc.length + l.length ≤ 140000000000000) :
    Gets Tryz.prog 19 [.pointer (some ⟨b, 0, none⟩), tv l] h' (fun res h2 => res = .ret (.tuple #[iv l.length, .nilIface]) ∧ ∃ v', PI h C ts vi vc vt vp vk b (acc ++ l) h2 v') :=
  (writeString_ok p.bd l hl).mono fun res h2 _ ⟨e, k, v', w, f⟩ => ⟨e, v', p.step ⟨k, w, f⟩⟩
/-- A row that is new. -/
theorem PI.row (p : PI h C ts vi vc vt vp vk b acc h' v) (l : List Int) : PI h C ts vi vc vt vp vk b acc (h' ++ [row 3 h'.length (ns l)]) v ∧
    Rds (h' ++ [row 3 h'.length (ns l)]) 1 (.slice (some ⟨h'.length, 0, none⟩) l.length l.length) l.length (ns l) ∧ ∀ q, rb (.slice (some ⟨h'.length, 0, none⟩) l.length l.length) q → q ≠ b ∧ ¬ bk v q := by
  refine ⟨p.grow (Keep.push _ _ _), .mk (all := ns l) (Own.new _ _ _ _).cells (by simp [ns]) (by rw [List.drop_zero, Nat.mul_one]; exact List.take_of_length_le (by simp [ns])), fun q hq => ?_⟩
  have e : q = h'.length := hq.1
  have := p.bd.own.lt
  exact ⟨by omega, fun e2 => by have := p.bd.ow.lt q e2; omega⟩
end
end Go.S17

/- Images as texts: the program's Print. -/
set_option linter.unusedVariables false
set_option linter.unusedSimpArgs false
namespace Go.S17
open Go Go.Eng Go.Proofs Go.Scn Go.Chk
section
variable {h h' h2 : AH} {C : Cx} {ts : List Bs} {vi vc vt vp vk : Value} {b : Nat} {acc acc' : Bs} {v v' : Value}
theorem PI.two (p : PI h C ts vi vc vt vp vk b acc h' v) (m n : Int) (hm : rgI m) (hn : rgI n) (hs : acc.length + 45 ≤ 140000000000000) :
    Gets Tryz.prog 20 [.pointer (some ⟨b, 0, none⟩), .slice (some ⟨h'.length, 0, none⟩) 2 2] (h' ++ [Eng.row 3 h'.length [iv m, iv n]]) (fun res h2 => res = .ret (.tuple #[]) ∧ ∃ v', PI h C ts vi vc vt vp vk b (acc ++ numsT [m, n]) h2 v') := by
  have pr := p.row [m, n]
  exact pr.1.nums pr.2.1 pr.2.2 (by simp; exact ⟨hm, hn⟩) (by simp; omega)
theorem PI.three (p : PI h C ts vi vc vt vp vk b acc h' v) (m n o : Int) (hm : rgI m) (hn : rgI n) (ho : rgI o) (hs : acc.length + 67 ≤ 140000000000000) :
    Gets Tryz.prog 20 [.pointer (some ⟨b, 0, none⟩), .slice (some ⟨h'.length, 0, none⟩) 3 3] (h' ++ [Eng.row 3 h'.length [iv m, iv n, iv o]]) (fun res h2 => res = .ret (.tuple #[]) ∧ ∃ v', PI h C ts vi vc vt vp vk b (acc ++ numsT [m, n, o]) h2 v') := by
  have pr := p.row [m, n, o]
  exact pr.1.nums pr.2.1 pr.2.2 (by simp; exact ⟨hm, hn, ho⟩) (by simp; omega)
/-- A text is written; one more block stays as it is. -/
theorem PI.str2 (p : PI h C ts vi vc vt vp vk b acc h' v) {q : Nat} {t : TypeId} {cs : List Value} (o : Own h' q t cs) (hq : ¬ (q = b ∨ bk v q)) (l : Bs) (hl : acc.length + l.length ≤ 140000000000000) :
    Gets Tryz.prog 19 [.pointer (some ⟨b, 0, none⟩), tv l] h' (fun res h2 => res = .ret (.tuple #[iv l.length, .nilIface]) ∧ ∃ v', PI h C ts vi vc vt vp vk b (acc ++ l) h2 v' ∧ Own h2 q t cs) :=
  (writeString_ok p.bd l hl).mono fun res h2 _ ⟨e, k, v', w, f⟩ => ⟨e, v', p.step ⟨k, w, f⟩, o.keep k hq⟩
end
section
variable {h : AH} {C : Cx} {ts : List Bs} {vi vc vt vp vk : Value}
theorem txts_len {C : Cx} {ts : List Bs} (f : Fit C ts) (i : Nat) : ((ts.take i).flatMap txtT).length ≤ 1048576 * 4194312 := by
  have := flat_len (f := txtT) (k := 4194312) (l := ts.take i) (fun x hx => by
    have := txtT_len x; have := f.l1 x (List.mem_of_mem_take hx); omega)
  have h1 := f.lt
  have h2 : (ts.take i).length ≤ 1048576 := by simp; omega
  exact Nat.le_trans this (Nat.mul_le_mul h2 (Nat.le_refl _))
theorem infs_len {C : Cx} {ts : List Bs} (f : Fit C ts) (i : Nat) : ((C.infos.take i).flatMap infT).length ≤ 1048576 * 80 := by
  have := flat_len (f := infT) (k := 80) (l := C.infos.take i) (fun x hx => infT_len (f.gi x (List.mem_of_mem_take hx)).2)
  have h1 := f.li
  have h2 : (C.infos.take i).length ≤ 1048576 := by simp; omega
  exact Nat.le_trans this (Nat.mul_le_mul h2 (Nat.le_refl _))

set_option maxHeartbeats 4000000 in
theorem Print_ok (x : Im h C ts vi vc vt vp vk) (f : Fit C ts) : Gets Tryz.prog 9 [.agg #[vi, vc, vt, vp, iv C.main, vk]] h (fun res h' => Keep (fun _ => False) h h' ∧ res = .ret (.tuple #[tv (if (ends C).isSome then imgT C ts else []), iv (if (ends C).isSome then 0 else 7)])) := by
  refine Gets.of (keep := false) hP (draw_ok hM) k9 (by rfl) (fun Ψ hΨ => ?_)
  have fli := f.li; have flc := f.lc; have flp := f.lp; have flk := f.lk; have flt := f.lt
  have oI := Own.new h 26 h.length [vi, vc, vt, vp, iv C.main, vk]
  have kp1 : Keep (fun _ => False) h (h ++ [row 26 h.length [vi, vc, vt, vp, iv C.main, vk]]) := Keep.push _ _ _
  simp only [mach, mach2, mstd, ↓reduceIte, Nat.reduceEqDiff, Nat.reduceAdd, Nat.reduceMul, r9, mbl, Nat.reduceLeDiff, Nat.reduceLT, Int.reduceEq]
  generalize hh1 : h ++ [row 26 h.length [vi, vc, vt, vp, iv C.main, vk]] = h1 at oI kp1 ⊢
  have hl1 : h1.length = h.length + 1 := by rw [← hh1]; simp
  have im1 := x.keep kp1 (fun _ _ e => e)
  simp only [mach, mach2, mstd, ↓reduceIte, Nat.reduceEqDiff, Nat.reduceAdd, Nat.reduceMul, oI.cells.lds 0 6 (by simp), mbl, Nat.reduceLeDiff, Nat.reduceLT, Int.reduceEq]
  refine XX_of (Check_ok im1.im f.fits) (fun res h2 hle hn => ?_)
  obtain ⟨k2, rfl⟩ := hn
  refine .ret ?_
  have hl2 := k2.len
  cases he : (ends C).isSome with
  | false =>
    simp only [mach, mach2, mstd, ↓reduceIte, Nat.reduceEqDiff, Nat.reduceAdd, Nat.reduceMul, he, mbl, Nat.reduceLeDiff, Nat.reduceLT, Int.reduceEq]
    exact hΨ _ _ (fin_ret (rv2 rfl rfl ⟨kp1.trans k2, by rw [he]; rfl⟩))
  | true =>
    have ob := Own.new h2 bdT h2.length [.pointer none, .slice none 0 0]
    have k3 : Keep (fun _ => False) h2 (h2 ++ [row bdT h2.length [.pointer none, .slice none 0 0]]) := Keep.push _ _ _
    simp only [mach, mach2, mstd, ↓reduceIte, Nat.reduceEqDiff, Nat.reduceAdd, Nat.reduceMul, he, mbl, Nat.reduceLeDiff, Nat.reduceLT, Int.reduceEq]
    generalize hh3 : h2 ++ [row bdT h2.length [.pointer none, .slice none 0 0]] = h3 at ob k3 ⊢
    have hl3 : h3.length = h2.length + 1 := by rw [← hh3]; simp
    have b0 : Bd h3 h2.length [] (.pointer none) (.slice none 0 0) := ⟨ob, .inl rfl, .nil, fun q e => e.elim, fun _ => rfl⟩
    refine XX_of (writeString_ok b0 [105, 109, 97, 103, 101] (by simp)) (fun res h4 hle hr => ?_)
    obtain ⟨rfl, k4, v4, b4, f4⟩ := hr
    refine .ret ?_
    have lo4 : ∀ q, q < h2.length → ¬ (q = h2.length ∨ bk (.slice none 0 0) q) := fun q hq e => by
      rcases e with e | e
      · omega
      · exact e.elim
    have k13 : Keep (fun _ => False) h1 h3 := k2.trans k3
    have p4 : PI h C ts vi vc vt vp vk h2.length [105, 109, 97, 103, 101] h4 v4 :=
      ⟨(kp1.trans k13).trans' k4 (fun c hc e => lo4 c (by omega) e), (oI.keep k13 (fun e => e)).keep k4 (lo4 _ (by omega)), (im1.keep k13 (fun _ _ e => e)).keep k4 (fun q e => lo4 q (by have := x.lt q e; omega)), b4, by omega, x.lt⟩
    obtain ⟨ia, ic, hvi⟩ := row_shape x.im.ri
    obtain ⟨ca, cc, hvc⟩ := row_shape x.im.rc
    obtain ⟨pa, pc, hvp⟩ := row_shape x.im.rp
    obtain ⟨ka, kc, hvk⟩ := row_shape x.im.rk
    obtain ⟨ta, tc, hvt⟩ := row_shape x.rt
    subst hvi hvc hvp hvk hvt
    simp only [mach, mach2, mstd, ↓reduceIte, Nat.reduceEqDiff, Nat.reduceAdd, Nat.reduceMul, p4.oI.cells.ld, mbl, Nat.reduceLeDiff, Nat.reduceLT, Int.reduceEq]
    refine XX_of (p4.two C.main C.tops.length f.gm ⟨by omega, by omega⟩ (by simp)) (fun res h5 hle hr => ?_)
    obtain ⟨rfl, v5, p5⟩ := hr
    refine .ret ?_
    have n2 : (numsT [C.main, (C.tops.length : Int)]).length ≤ 45 := by
      have := numsT_len (l := [C.main, (C.tops.length : Int)]) (by simp; exact ⟨f.gm, ⟨by omega, by omega⟩⟩)
      simp only [List.length_cons, List.length_nil] at this; omega
    simp only [mach, mach2, mstd, ↓reduceIte, Nat.reduceEqDiff, Nat.reduceAdd, Nat.reduceMul]
    refine XX_of (p5.str [99, 111, 110, 115] (by simp only [List.length_append, List.length_cons, List.length_nil]; omega)) (fun res h6 hle hr => ?_)
    obtain ⟨rfl, v6, p6⟩ := hr
    refine .ret ?_
    simp only [mach, mach2, mstd, ↓reduceIte, Nat.reduceEqDiff, Nat.reduceAdd, Nat.reduceMul, p6.oI.cells.ld, mbl, Nat.reduceLeDiff, Nat.reduceLT, Int.reduceEq]
    refine XX_of (p6.nums p6.im.im.rk (fun q hq => p6.lo q (x.lt q (by unfold rbs; simp [hq]))) f.gk (by simp only [List.length_append, List.length_cons, List.length_nil]; omega)) (fun res h7 hle hr => ?_)
    obtain ⟨rfl, v7, p7⟩ := hr
    refine .ret ?_
    have n3 := numsT_len (l := C.cons) f.gk
    generalize hA : ([105, 109, 97, 103, 101] ++ numsT [C.main, (C.tops.length : Int)] ++ [99, 111, 110, 115] ++ numsT C.cons : Bs) = A at p7
    have hAl : A.length ≤ 30000000 := by rw [← hA]; simp only [List.length_append, List.length_cons, List.length_nil]; omega
    simp only [mach, mach2, mstd, ↓reduceIte, Nat.reduceEqDiff, Nat.reduceAdd, Nat.reduceMul, p7.oI.cells.ld, mbl, Nat.reduceLeDiff, Nat.reduceLT, Int.reduceEq]
    refine XLo_rule (α := Nat × Value) (fun a => [(1, .pointer (some ⟨h.length, 0, none⟩)), (5, .pointer (some ⟨h2.length, 0, none⟩)), (28, .slice ta ts.length tc), (29, iv ts.length), (30, iv a.1)])
      (fun a h' => a.1 ≤ ts.length ∧ PI h C ts (.slice ia C.infos.length ic) (.slice ca C.code.length cc) (.slice ta ts.length tc) (.slice pa C.tops.length pc) (.slice ka C.cons.length kc) h2.length (A ++ (ts.take a.1).flatMap txtT) h' a.2) (fun a => ts.length - a.1) (0, v7)
      ⟨Nat.zero_le _, by simpa using p7⟩ ⟨rfl, rfl, rfl, rfl, rfl, trivial⟩ ?_
    rintro ⟨i, v⟩ g1 Ψ2 ⟨hi, p⟩ next out
    simp only at hi p
    have tl := txts_len f i
    by_cases hlt : (i : Int) < (ts.length : Int)
    · have hil : i < ts.length := by omega
      have g0 : (0 : Int) ≤ (i : Int) := by omega
      obtain ⟨b1, o1, c1, e1, _, l1⟩ := rds_tx p.im.rt hil
      cases e1
      have hq := f.l1 ts[i] (List.getElem_mem _)
      have hqb := quoS_len ts[i]
      have hwi : IntKind.i64.wrap ((i : Int) + 1) = ((i + 1 : Nat) : Int) := by rw [i64w (by omega) (by omega)]; omega
      simp only [mach, mach2, mstd, ↓reduceIte, Nat.reduceEqDiff, Nat.reduceAdd, Nat.reduceMul, hlt, g0, and_self, Int.toNat_natCast, Nat.mul_one, l1]
      refine XX_of (quote_ok ts[i] (by omega) g1) (fun res g2 hle hr => ?_)
      obtain ⟨m2, rfl⟩ := hr
      refine .ret ?_
      have p2 := p.grow m2
      have s1 : sbin .add (⟨#[116, 101, 120, 116, 32]⟩ : ByteArray) (tx ([34] ++ quoS ts[i] ++ [34])) = some (tv ([116, 101, 120, 116, 32] ++ ([34] ++ quoS ts[i] ++ [34]))) := s_add (a := [116, 101, 120, 116, 32]) (b := [34] ++ quoS ts[i] ++ [34]) (by simp only [List.length_append, List.length_cons, List.length_nil]; omega)
      have s2 : sbin .add (tx ([116, 101, 120, 116, 32] ++ ([34] ++ quoS ts[i] ++ [34]))) (⟨#[10]⟩ : ByteArray) = some (tv ([116, 101, 120, 116, 32] ++ ([34] ++ quoS ts[i] ++ [34]) ++ [10])) := s_add (a := [116, 101, 120, 116, 32] ++ ([34] ++ quoS ts[i] ++ [34])) (b := [10]) (by simp only [List.length_append, List.length_cons, List.length_nil]; omega)
      simp only [mach, mach2, mstd, ↓reduceIte, Nat.reduceEqDiff, Nat.reduceAdd, Nat.reduceMul, mbl, Nat.reduceLeDiff, Nat.reduceLT, Int.reduceEq, s1, s2]
      refine XX_of (p2.str ([116, 101, 120, 116, 32] ++ ([34] ++ quoS ts[i] ++ [34]) ++ [10]) (by simp only [List.length_append, List.length_cons, List.length_nil]; omega)) (fun res g3 hle hr => ?_)
      obtain ⟨rfl, v3, p3⟩ := hr
      refine .ret ?_
      have hst : A ++ (ts.take i).flatMap txtT ++ ([116, 101, 120, 116, 32] ++ ([34] ++ quoS ts[i] ++ [34]) ++ [10]) = A ++ (ts.take (i + 1)).flatMap txtT := by
        rw [flat_take hil]; simp [txtT]
      rw [hst] at p3
      simp only [mach, mach2, mstd, ↓reduceIte, Nat.reduceEqDiff, Nat.reduceAdd, Nat.reduceMul, hwi]
      exact next (i + 1, v3) _ _ _ ⟨by simp only; omega, p3⟩ ⟨rfl, rfl, rfl, rfl, rfl, trivial⟩ (by simp only; omega)
    have hie : i = ts.length := by omega
    rw [hie, List.take_length] at p tl
    simp only [mach, mach2, mstd, ↓reduceIte, Nat.reduceEqDiff, Nat.reduceAdd, Nat.reduceMul, hlt]
    refine out (.exit 0) _ _ _ _ (by intro e; cases e) ?_
    generalize hB : A ++ ts.flatMap txtT = B at p
    have hBl : B.length ≤ 4399000000000 := by rw [← hB]; simp only [List.length_append]; omega
    simp only [mach, mach2, mstd, ↓reduceIte, Nat.reduceEqDiff, Nat.reduceAdd, Nat.reduceMul, p.oI.cells.ld, mbl, Nat.reduceLeDiff, Nat.reduceLT, Int.reduceEq]
    refine XLo_rule (α := Nat × Value) (fun a => [(1, .pointer (some ⟨h.length, 0, none⟩)), (5, .pointer (some ⟨h2.length, 0, none⟩)), (41, .slice ia C.infos.length ic), (42, iv C.infos.length), (43, iv a.1)])
      (fun a h' => a.1 ≤ C.infos.length ∧ PI h C ts (.slice ia C.infos.length ic) (.slice ca C.code.length cc) (.slice ta ts.length tc) (.slice pa C.tops.length pc) (.slice ka C.cons.length kc) h2.length (B ++ (C.infos.take a.1).flatMap infT) h' a.2) (fun a => C.infos.length - a.1) (0, v)
      ⟨Nat.zero_le _, by simpa using p⟩ ⟨rfl, rfl, rfl, rfl, rfl, trivial⟩ ?_
    rintro ⟨j, w⟩ g4 Ψ3 ⟨hj, q⟩ next3 out3
    simp only at hj q
    have il := infs_len f j
    by_cases hlt2 : (j : Int) < (C.infos.length : Int)
    · have hjl : j < C.infos.length := by omega
      have g0 : (0 : Int) ≤ (j : Int) := by omega
      have hxi : C.infos[j]? = some C.infos[j] := List.getElem?_eq_getElem hjl
      obtain ⟨gk, ga, gf, gc⟩ := f.gi C.infos[j] (List.getElem_mem _)
      have hft : (C.infos.take (j + 1)).flatMap infT = (C.infos.take j).flatMap infT ++ infT C.infos[j] := flat_take hjl
      generalize C.infos[j] = xx at hxi gk ga gf gc hft
      obtain ⟨xk, xa, xf, xc⟩ := xx
      simp only at gk ga gf gc
      obtain ⟨b8, o8, c8, e8, hlt8, hld8⟩ := rds_str (by omega) Inf.len q.im.im.ri hxi
      simp only [Inf.cells, ns, List.map_cons, List.map_nil] at hld8
      cases e8
      have hwj : IntKind.i64.wrap ((j : Int) + 1) = ((j + 1 : Nat) : Int) := by rw [i64w (by omega) (by omega)]; omega
      have on := Own.new g4 40 g4.length [iv 0, iv 0, iv 0, iv 0]
      simp only [mach, mach2, mstd, ↓reduceIte, Nat.reduceEqDiff, Nat.reduceAdd, Nat.reduceMul, hlt2, g0, and_self, hld8, Int.toNat_natCast, mbl, Nat.reduceLeDiff, Nat.reduceLT, Int.reduceEq]
      refine XH_own on rfl (by simp [Value.cells]) rfl (fun g5 q1 q2 q3 => ?_)
      have on5 : Own g5 g4.length 40 [iv xk, iv xa, iv xf, iv xc] := by simpa [Value.cells] using q1
      have kp5 : Keep (fun _ => False) g4 g5 := (Keep.push (fun _ => False) g4 _).trans' q2 (fun c hc e => by omega)
      have p5' := q.grow kp5
      have hbl4 := q.bd.own.lt
      have nb5 : ¬ (g4.length = h2.length ∨ bk w g4.length) := fun e => by
        rcases e with e | e
        · omega
        · have := q.bd.ow.lt _ e; omega
      by_cases h1 : xk = 1
      · have hst : ∀ B0 : Bs, B0 ++ (C.infos.take j).flatMap infT ++ [102, 117, 110] ++ numsT [xa, xf, xc] = B0 ++ (C.infos.take (j + 1)).flatMap infT := fun B0 => by
          rw [hft, infT, if_pos h1]; simp
        simp only [mach, mach2, mstd, ↓reduceIte, Nat.reduceEqDiff, Nat.reduceAdd, Nat.reduceMul, on5.cells.ld, mbl, Nat.reduceLeDiff, Nat.reduceLT, Int.reduceEq, eq_true h1]
        refine XX_of (p5'.str2 on5 nb5 [102, 117, 110] (by simp only [List.length_append, List.length_cons, List.length_nil]; omega)) (fun res g6 hle hr => ?_)
        obtain ⟨rfl, v6', p6', on6⟩ := hr
        refine .ret ?_
        simp only [mach, mach2, mstd, ↓reduceIte, Nat.reduceEqDiff, Nat.reduceAdd, Nat.reduceMul, p6'.oI.cells.ld, on6.cells.ld, mbl, Nat.reduceLeDiff, Nat.reduceLT, Int.reduceEq]
        refine XX_of (p6'.three xa xf xc ga gf gc (by simp only [List.length_append, List.length_cons, List.length_nil]; omega)) (fun res g7 hle hr => ?_)
        obtain ⟨rfl, v7', p7'⟩ := hr
        refine .ret ?_
        rw [hst] at p7'
        simp only [mach, mach2, mstd, ↓reduceIte, Nat.reduceEqDiff, Nat.reduceAdd, Nat.reduceMul, hwj]
        exact next3 (j + 1, v7') _ _ _ ⟨by simp only; omega, p7'⟩ ⟨rfl, rfl, rfl, rfl, rfl, trivial⟩ (by simp only; omega)
      · have hst : ∀ B0 : Bs, B0 ++ (C.infos.take j).flatMap infT ++ [116, 104, 117, 110, 107] ++ numsT [xf, xc] = B0 ++ (C.infos.take (j + 1)).flatMap infT := fun B0 => by
          rw [hft, infT, if_neg h1]; simp
        simp only [mach, mach2, mstd, ↓reduceIte, Nat.reduceEqDiff, Nat.reduceAdd, Nat.reduceMul, on5.cells.ld, mbl, Nat.reduceLeDiff, Nat.reduceLT, Int.reduceEq, h1]
        refine XX_of (p5'.str2 on5 nb5 [116, 104, 117, 110, 107] (by simp only [List.length_append, List.length_cons, List.length_nil]; omega)) (fun res g6 hle hr => ?_)
        obtain ⟨rfl, v6', p6', on6⟩ := hr
        refine .ret ?_
        simp only [mach, mach2, mstd, ↓reduceIte, Nat.reduceEqDiff, Nat.reduceAdd, Nat.reduceMul, p6'.oI.cells.ld, on6.cells.ld, mbl, Nat.reduceLeDiff, Nat.reduceLT, Int.reduceEq]
        refine XX_of (p6'.two xf xc gf gc (by simp only [List.length_append, List.length_cons, List.length_nil]; omega)) (fun res g7 hle hr => ?_)
        obtain ⟨rfl, v7', p7'⟩ := hr
        refine .ret ?_
        rw [hst] at p7'
        simp only [mach, mach2, mstd, ↓reduceIte, Nat.reduceEqDiff, Nat.reduceAdd, Nat.reduceMul, hwj]
        exact next3 (j + 1, v7') _ _ _ ⟨by simp only; omega, p7'⟩ ⟨rfl, rfl, rfl, rfl, rfl, trivial⟩ (by simp only; omega)
    · have hje : j = C.infos.length := by omega
      rw [hje, List.take_length] at q il
      simp only [mach, mach2, mstd, ↓reduceIte, Nat.reduceEqDiff, Nat.reduceAdd, Nat.reduceMul, hlt2]
      refine out3 (.exit 2) _ _ _ _ (by intro e; cases e) ?_
      simp only [mach, mach2, mstd, ↓reduceIte, Nat.reduceEqDiff, Nat.reduceAdd, Nat.reduceMul]
      refine XX_of (q.str [99, 111, 100, 101] (by simp only [List.length_append, List.length_cons, List.length_nil]; omega)) (fun res g5 hle hr => ?_)
      obtain ⟨rfl, v5', p5'⟩ := hr
      refine .ret ?_
      simp only [mach, mach2, mstd, ↓reduceIte, Nat.reduceEqDiff, Nat.reduceAdd, Nat.reduceMul, p5'.oI.cells.ld, mbl, Nat.reduceLeDiff, Nat.reduceLT, Int.reduceEq]
      refine XX_of (p5'.nums p5'.im.im.rc (fun q' hq => p5'.lo q' (x.lt q' (by unfold rbs; simp [hq]))) f.gc (by simp only [List.length_append, List.length_cons, List.length_nil]; omega)) (fun res g6 hle hr => ?_)
      obtain ⟨rfl, v6', p6'⟩ := hr
      refine .ret ?_
      have n4 := numsT_len (l := C.code) f.gc
      simp only [mach, mach2, mstd, ↓reduceIte, Nat.reduceEqDiff, Nat.reduceAdd, Nat.reduceMul]
      refine XX_of (string_ok p6'.bd (by simp only [List.length_append, List.length_cons, List.length_nil]; omega)) (fun res g7 hle hr => ?_)
      obtain ⟨rfl, m7⟩ := hr
      refine .ret ?_
      simp only [mach, mach2, mstd, ↓reduceIte, Nat.reduceEqDiff, Nat.reduceAdd, Nat.reduceMul]
      refine hΨ _ _ (fin_ret (rv2 rfl rfl ⟨p6'.kp.trans' m7 (fun c hc e => ?_), ?_⟩))
      · have := p6'.bd.ne c e; have := p6'.hb; omega
      · rw [he, if_pos rfl, if_pos rfl, imgT, ← hB, ← hA]; rfl
end
end Go.S17

/- Images as texts: the document's Check, Number, line. -/
set_option linter.unusedVariables false
set_option linter.unusedSimpArgs false
namespace Go.S17
open Go Go.Eng Go.Proofs Go.Scn Go.Chk
section
variable {h : AH} {C : Cx} {vi vc vt vp vk : Value}
theorem rCheck_ok (im : Img h C vi vc vt vp vk) (z : Sz C) (hfr : ∀ x ∈ C.infos, x.f ≤ 9223372036854775807) (hcl : C.code.length ≤ 9223372036854775807) : Gets Tryz.prog 16 [.agg #[vi, vc, vt, vp, iv C.main, vk]] h (fun res h' => Keep (fun _ => False) h h' ∧ res = .ret (iv (if (ends C).isSome then 0 else 7))) := by
  refine Gets.of (keep := false) hP (draw_ok hM) k16 (by rfl) (fun Ψ hΨ => ?_)
  have oI0 := Own.new h 26 h.length [vi, vc, vt, vp, iv C.main, vk]
  have kp1 : Keep (fun _ => False) h (h ++ [row 26 h.length [vi, vc, vt, vp, iv C.main, vk]]) := Keep.push _ _ _
  simp only [mach, mach2, mstd, ↓reduceIte, Nat.reduceEqDiff, Nat.reduceAdd, Nat.reduceMul, r16, mbl, Nat.reduceLeDiff, Nat.reduceLT, Int.reduceEq]
  generalize hh1 : h ++ [row 26 h.length [vi, vc, vt, vp, iv C.main, vk]] = h1 at oI0 kp1 ⊢
  have im1 := im.keep kp1 (fun _ _ e => e)
  simp only [mach, mach2, mstd, ↓reduceIte, Nat.reduceEqDiff, Nat.reduceAdd, Nat.reduceMul, oI0.cells.lds 0 6 (by simp), mbl, Nat.reduceLeDiff, Nat.reduceLT, Int.reduceEq]
  refine XX_of (rends_ok im1 z hfr hcl) (fun res h2 hle hn => ?_)
  obtain ⟨k2, v, rfl, hv⟩ := hn
  refine .ret ?_
  have kk := kp1.trans k2
  cases he : (ends C).isSome with
  | false =>
    simp only [mach, mach2, mstd, ↓reduceIte, Nat.reduceEqDiff, Nat.reduceAdd, Nat.reduceMul, he, mbl, Nat.reduceLeDiff, Nat.reduceLT, Int.reduceEq]
    exact hΨ _ _ (fin_ret (rv1 rfl ⟨kk, by rw [he]; rfl⟩))
  | true =>
    simp only [mach, mach2, mstd, ↓reduceIte, Nat.reduceEqDiff, Nat.reduceAdd, Nat.reduceMul, he, mbl, Nat.reduceLeDiff, Nat.reduceLT, Int.reduceEq]
    exact hΨ _ _ (fin_ret (rv1 rfl ⟨kk, by rw [he]; rfl⟩))
end

theorem dec1 {m : Nat} (h : m < 10) : Lib.decDigits m = [UInt8.ofNat (48 + m)] := by rw [Lib.decDigits, dif_pos h]
theorem dec2 {m : Nat} (h : ¬ m < 10) : Lib.decDigits m = Lib.decDigits (m / 10) ++ [UInt8.ofNat (48 + m % 10)] := by rw [Lib.decDigits, dif_neg h]
theorem dec_len {u : Nat} (hu : u < 18446744073709551616) : (Lib.decDigits u).length ≤ 20 := by
  rw [Lib.decDigits_length]
  rcases Nat.eq_zero_or_pos u with e | e
  · subst e; rw [Lib.nDigits_small (by omega)]; omega
  · have := Lib.numDigits_eq u e hu
    split at this <;> omega
theorem Number_ok (n : Int) (hn : rgI n) (h : AH) : Gets Tryz.prog 38 [iv n] h (fun res h' => h' = h ∧ res = .ret (tv (Lib.itoa n))) := by
  refine Gets.of (keep := false) hP (draw_ok hM) k38 (by rfl) (fun Ψ hΨ => ?_)
  obtain ⟨h0, h1⟩ := hn
  by_cases hg : n ≥ 0
  · obtain ⟨u, rfl⟩ := Int.eq_ofNat_of_zero_le hg
    simp only [mach, mach2, mstd, ↓reduceIte, Nat.reduceEqDiff, Nat.reduceAdd, Nat.reduceMul, r38, eq_true hg]
    refine XX_val (digits_ok u (by omega) h) ?_
    simp only [mach, mach2, mstd, ↓reduceIte, Nat.reduceEqDiff, Nat.reduceAdd, Nat.reduceMul, mbl, Nat.reduceLeDiff, Nat.reduceLT, Int.reduceEq]
    exact hΨ _ _ (fin_ret (rv1 rfl ⟨rfl, rfl⟩))
  · obtain ⟨m, hm, rfl⟩ : ∃ m : Nat, 1 ≤ m ∧ n = -(m : Int) := ⟨n.natAbs, by omega, by omega⟩
    have hr : Int.tmod (-(m : Int)) 10 = -((m % 10 : Nat) : Int) := by rw [Int.neg_tmod, Int.tmod_eq_emod_of_nonneg (by omega)]; omega
    have hq : Int.tdiv (-(m : Int)) 10 = -((m / 10 : Nat) : Int) := by rw [Int.neg_tdiv, Int.tdiv_eq_ediv_of_nonneg (by omega)]; omega
    have w1 : IntKind.i64.wrap (-((m % 10 : Nat) : Int)) = -((m % 10 : Nat) : Int) := i64w (by omega) (by omega)
    have w2 : IntKind.i64.wrap (-((m / 10 : Nat) : Int)) = -((m / 10 : Nat) : Int) := i64w (by omega) (by omega)
    have w3 : IntKind.i64.wrap (0 - -((m % 10 : Nat) : Int)) = ((m % 10 : Nat) : Int) := by rw [i64w (by omega) (by omega)]; omega
    have w4 : IntKind.i64.wrap (0 - -((m / 10 : Nat) : Int)) = ((m / 10 : Nat) : Int) := by rw [i64w (by omega) (by omega)]; omega
    have ei : Lib.itoa (-(m : Int)) = 45 :: Lib.decDigits m := by unfold Lib.itoa; rw [if_pos (by omega)]; congr 1; congr 1; omega
    have t10 : ¬ (10 : Int) = 0 := by omega
    have d1 := dec_len (u := m / 10) (by omega)
    have d2 := dec_len (u := m % 10) (by omega)
    have s1 : ∀ u : Nat, u < 9223372036854775808 → sbin .add (⟨#[45]⟩ : ByteArray) (tx (Lib.itoa u)) = some (tv (45 :: Lib.decDigits u)) := fun u hu => by
      rw [Lib.itoa_nonneg]
      have := dec_len (u := u) (by omega)
      exact s_add (a := [45]) (b := Lib.decDigits u) (by simp only [List.length_cons, List.length_nil]; omega)
    have s2 : sbin .add (tx (45 :: Lib.decDigits (m / 10))) (tx (Lib.itoa (m % 10 : Nat))) = some (tv (45 :: Lib.decDigits (m / 10) ++ Lib.decDigits (m % 10))) := by
      rw [Lib.itoa_nonneg]
      exact s_add (a := 45 :: Lib.decDigits (m / 10)) (b := Lib.decDigits (m % 10)) (by simp only [List.length_cons]; omega)
    by_cases hm9 : m < 10
    · have e0 : ((m / 10 : Nat) : Int) = 0 := by omega
      simp only [mach, mach2, mstd, ↓reduceIte, Nat.reduceEqDiff, Nat.reduceAdd, Nat.reduceMul, r38, hg, mbl, Nat.reduceLeDiff, Nat.reduceLT, Int.reduceEq, hr, hq, w1, w2, w3, w4, t10, eq_true e0]
      refine XX_val (digits_ok (m % 10) (by omega) h) ?_
      simp only [mach, mach2, mstd, ↓reduceIte, Nat.reduceEqDiff, Nat.reduceAdd, Nat.reduceMul, mbl, Nat.reduceLeDiff, Nat.reduceLT, Int.reduceEq, s1 (m % 10) (by omega)]
      refine hΨ _ _ (fin_ret (rv1 rfl ⟨rfl, ?_⟩))
      rw [ei, show m % 10 = m by omega]; rfl
    · have e0 : ¬ ((m / 10 : Nat) : Int) = 0 := by omega
      simp only [mach, mach2, mstd, ↓reduceIte, Nat.reduceEqDiff, Nat.reduceAdd, Nat.reduceMul, r38, hg, mbl, Nat.reduceLeDiff, Nat.reduceLT, Int.reduceEq, hr, hq, w1, w2, w3, w4, t10, e0]
      refine XX_val (digits_ok (m / 10) (by omega) h) ?_
      simp only [mach, mach2, mstd, ↓reduceIte, Nat.reduceEqDiff, Nat.reduceAdd, Nat.reduceMul, mbl, Nat.reduceLeDiff, Nat.reduceLT, Int.reduceEq, s1 (m / 10) (by omega)]
      refine XX_val (digits_ok (m % 10) (by omega) h) ?_
      simp only [mach, mach2, mstd, ↓reduceIte, Nat.reduceEqDiff, Nat.reduceAdd, Nat.reduceMul, mbl, Nat.reduceLeDiff, Nat.reduceLT, Int.reduceEq, s2]
      refine hΨ _ _ (fin_ret (rv1 rfl ⟨rfl, ?_⟩))
      rw [ei, dec2 hm9, dec1 (show m % 10 < 10 by omega)]; rfl

/-- Bytes that are added to a row. -/
def LO (h : AH) (v : Value) (acc : Bs) (h' : AH) (s : Value) : Prop := Keep (bk v) h h' ∧ Ows h' 5 1 s acc.length (acc.map bv) ∧ ∀ q, bk s q → bk v q ∨ h.length ≤ q
section
variable {h h1 h2 : AH} {v s s2 : Value} {acc acc2 : Bs}
theorem LO.trans (x : LO h v acc h1 s) (y : LO h1 s acc2 h2 s2) : LO h v acc2 h2 s2 := by
  obtain ⟨k1, o1, f1⟩ := x
  obtain ⟨k2, o2, f2⟩ := y
  refine ⟨k1.trans' k2 (fun c hc e => ?_), o2, fun q hq => ?_⟩
  · rcases f1 c e with e2 | e2
    · exact e2
    · omega
  · rcases f2 q hq with e | e
    · exact f1 q e
    · have := k1.len; exact .inr (by omega)
theorem LO.str (x : LO h v acc h1 s) (w : Bs) (hl : acc.length + w.length ≤ 140000000000000) : ∃ s' h2, appv false h1 true 5 1 1 s (tv w) = some (s', h2) ∧ LO h v (acc ++ w) h2 s' := by
  obtain ⟨s', h', a1, a2, a3, a4⟩ := x.2.1.app (bytes := 1) (str := true) (x := tv w) (m := w.length) (xs := w.map bv) (by simp [srcv, tx_size, cells_tx]) (by simp) (by simp [Value.oneCell']) (by omega) (by omega)
  exact ⟨s', h', a1, x.trans ⟨a3, by simpa using a2, a4⟩⟩
theorem LO.one (x : LO h v acc h1 s) (c : UInt8) (hl : acc.length + 1 ≤ 140000000000000) : ∃ s' h2, appv false (h1 ++ [row 5 h1.length [bv c]]) false 5 1 1 s (.slice (some ⟨h1.length, 0, none⟩) 1 1) = some (s', h2) ∧ LO h v (acc ++ [c]) h2 s' := by
  obtain ⟨s', h', a1, a2, a3, a4⟩ := app1 (bytes := 1) x.2.1 (xs := [bv c]) rfl rfl (by omega) (by omega)
  exact ⟨s', h', a1, x.trans ⟨a3, by simpa using a2, a4⟩⟩
end

theorem line_ok {h : AH} {v lv : Value} {acc : Bs} {l : List Int} (ow : Ows h 5 1 v acc.length (acc.map bv)) (word : Bs) (rl : Rds h 1 lv l.length (ns l)) (hne : ∀ q, rb lv q → ¬ bk v q) (hr : ∀ n ∈ l, rgI n) (hs : acc.length + word.length + 22 * l.length + 1 ≤ 140000000000000) :
    Gets Tryz.prog 23 [v, tv word, lv] h (fun res h' => ∃ s, res = .ret s ∧ LO h v (acc ++ word ++ numsT l) h' s) := by
  refine Gets.of (keep := false) hP (draw_ok hM) k23 (by rfl) (fun Ψ hΨ => ?_)
  obtain ⟨la, lc, rfl⟩ := row_shape rl
  obtain ⟨va, vc, rfl⟩ := row_shape ow.rds
  obtain ⟨s0, h0, a0, lo0⟩ := LO.str (h := h) (v := .slice va acc.length vc) ⟨.refl _ _, ow, fun q e => .inl e⟩ word (by omega)
  simp only [mach, mach2, mstd, ↓reduceIte, Nat.reduceEqDiff, Nat.reduceAdd, Nat.reduceMul, r23, a0]
  refine XLo_rule (α := Nat × Value) (fun a => [(0, a.2), (2, .slice la l.length lc), (7, iv a.1)])
    (fun a h' => a.1 ≤ l.length ∧ LO h (.slice va acc.length vc) (acc ++ word ++ (l.take a.1).flatMap num1) h' a.2) (fun a => l.length - a.1) (0, s0)
    ⟨Nat.zero_le _, by simpa using lo0⟩ ⟨rfl, rfl, rfl, trivial⟩ ?_
  rintro ⟨i, w⟩ h1 Ψ2 ⟨hi, lo⟩ next out
  simp only at hi lo
  have hnl := nums_len (l := l.take i) (fun n hn => hr n (List.mem_of_mem_take hn))
  have htl : (l.take i).length = i := by simp; omega
  rw [htl] at hnl
  by_cases hlt : (i : Int) < (l.length : Int)
  · have hil : i < l.length := by omega
    have g0 : (0 : Int) ≤ (i : Int) := by omega
    have hx : l[(i : Int).toNat]? = some l[i] := by rw [Int.toNat_natCast]; exact List.getElem?_eq_getElem hil
    obtain ⟨s1, h2, a1, lo1⟩ := lo.one 32 (by simp only [List.length_append]; omega)
    have ro := rl.keep lo1.1 (fun q hq e => hne q hq e)
    obtain ⟨b1, o1, c1, e1, _, l1⟩ := rds_ix ro g0 hx
    rw [Int.toNat_natCast] at l1
    cases e1
    have hrg := hr l[i] (List.getElem_mem _)
    have hil21 := itoa_len hrg
    obtain ⟨s2, h3, a2, lo2⟩ := lo1.str (Lib.itoa l[i]) (by simp only [List.length_append, List.length_cons, List.length_nil]; omega)
    have hw : IntKind.i64.wrap ((i : Int) + 1) = ((i + 1 : Nat) : Int) := by rw [i64w (by omega) (by omega)]; omega
    obtain ⟨wa, wc, rfl⟩ := row_shape lo.2.1.rds
    have a1' : appv false (h1 ++ [row 5 h1.length [.int .u8 32]]) false 5 1 1 (.slice wa (acc ++ word ++ (l.take i).flatMap num1).length wc) (.slice (some ⟨h1.length, 0, none⟩) 1 1) = some (s1, h2) := a1
    simp only [mach, mach2, mstd, ↓reduceIte, Nat.reduceEqDiff, Nat.reduceAdd, Nat.reduceMul, hlt, g0, and_self, Int.toNat_natCast, Nat.mul_one, mbl, Nat.reduceLeDiff, Nat.reduceLT, Int.reduceEq, a1', l1]
    refine XX_val (Number_ok l[i] hrg h2) ?_
    simp only [mach, mach2, mstd, ↓reduceIte, Nat.reduceEqDiff, Nat.reduceAdd, Nat.reduceMul, a2, hw]
    have hst : acc ++ word ++ (l.take i).flatMap num1 ++ [32] ++ Lib.itoa l[i] = acc ++ word ++ (l.take (i + 1)).flatMap num1 := by
      rw [flat_take hil]; simp [num1]
    rw [hst] at lo2
    exact next (i + 1, s2) _ _ _ ⟨by simp only; omega, lo2⟩ ⟨rfl, rfl, rfl, trivial⟩ (by simp only; omega)
  · have hie : i = l.length := by omega
    obtain ⟨s1, h2, a1, lo1⟩ := lo.one 10 (by simp only [List.length_append]; omega)
    have a1' : appv false (h1 ++ [row 5 h1.length [.int .u8 10]]) false 5 1 1 w (.slice (some ⟨h1.length, 0, none⟩) 1 1) = some (s1, h2) := a1
    simp only [mach, mach2, mstd, ↓reduceIte, Nat.reduceEqDiff, Nat.reduceAdd, Nat.reduceMul, hlt]
    refine out (.exit 0) _ _ _ _ (by intro e; cases e) ?_
    simp only [mach, mach2, mstd, ↓reduceIte, Nat.reduceEqDiff, Nat.reduceAdd, Nat.reduceMul, mbl, Nat.reduceLeDiff, Nat.reduceLT, Int.reduceEq, a1']
    have hst : acc ++ word ++ (l.take i).flatMap num1 ++ [10] = acc ++ word ++ numsT l := by
      rw [hie, List.take_length]; simp [numsT]
    rw [hst] at lo1
    exact hΨ _ _ (fin_ret (rv1 rfl ⟨s1, rfl, lo1⟩))
end Go.S17

/- Images as texts: the document's Print. -/
set_option linter.unusedVariables false
set_option linter.unusedSimpArgs false
namespace Go.S17
open Go Go.Eng Go.Proofs Go.Scn Go.Chk

/-- The document's text while it grows. -/
structure RI (h : AH) (C : Cx) (ts : List Bs) (vi vc vt vp vk : Value) (acc : Bs) (h' : AH) (v : Value) : Prop where
  kp : Keep (fun _ => False) h h'
  oI : Own h' h.length 26 [vi, vc, vt, vp, iv C.main, vk]
  im : Im h' C ts vi vc vt vp vk
  ow : Ows h' 5 1 v acc.length (acc.map bv)
  fr : ∀ q, bk v q → h.length < q
  rl : ∀ q, rbs vi vc vt vp vk q → q < h.length
section
variable {h h' h2 : AH} {C : Cx} {ts : List Bs} {vi vc vt vp vk : Value} {acc acc' : Bs} {v v' : Value}
theorem RI.lo (p : RI h C ts vi vc vt vp vk acc h' v) : ∀ q, q ≤ h.length → ¬ bk v q := fun q hq e => by have := p.fr q e; omega
theorem RI.step (p : RI h C ts vi vc vt vp vk acc h' v) (w : LO h' v acc' h2 v') : RI h C ts vi vc vt vp vk acc' h2 v' := by
  obtain ⟨k, ow, f⟩ := w
  have hl := p.oI.lt
  refine ⟨p.kp.trans' k (fun c hc e => p.lo c (by omega) e), p.oI.keep k (p.lo _ (Nat.le_refl _)), p.im.keep k (fun q e => p.lo q (by have := p.rl q e; omega)), ow, fun q hq => ?_, p.rl⟩
  rcases f q hq with e | e
  · exact p.fr q e
  · omega
theorem RI.grow (p : RI h C ts vi vc vt vp vk acc h' v) (k : Keep (fun _ => False) h' h2) : RI h C ts vi vc vt vp vk acc h2 v :=
  ⟨p.kp.trans k, p.oI.keep k (fun e => e), p.im.keep k (fun _ _ e => e), p.ow.keep k (fun _ _ e => e), p.fr, p.rl⟩
theorem RI.line (p : RI h C ts vi vc vt vp vk acc h' v) (word : Bs) {lv : Value} {l : List Int} (rl : Rds h' 1 lv l.length (ns l)) (hne : ∀ q, rb lv q → ¬ bk v q) (hr : ∀ n ∈ l, rgI n) (hs : acc.length + word.length + 22 * l.length + 1 ≤ 140000000000000) :
    Gets Tryz.prog 23 [v, tv word, lv] h' (fun res h2 => ∃ s, res = .ret s ∧ RI h C ts vi vc vt vp vk (acc ++ word ++ numsT l) h2 s) :=
  (line_ok p.ow word rl hne hr hs).mono fun res h2 _ ⟨s, e, w⟩ => ⟨s, e, p.step w⟩
theorem RI.str (p : RI h C ts vi vc vt vp vk acc h' v) (w : Bs) (hl : acc.length + w.length ≤ 140000000000000) : ∃ s' h2, appv false h' true 5 1 1 v (tv w) = some (s', h2) ∧ RI h C ts vi vc vt vp vk (acc ++ w) h2 s' := by
  obtain ⟨s', h2, a, lo⟩ := LO.str (h := h') (v := v) ⟨.refl _ _, p.ow, fun q e => .inl e⟩ w hl
  exact ⟨s', h2, a, p.step lo⟩
theorem RI.nrow (p : RI h C ts vi vc vt vp vk acc h' v) (l : List Int) : RI h C ts vi vc vt vp vk acc (h' ++ [Eng.row 3 h'.length (ns l)]) v ∧
    Rds (h' ++ [Eng.row 3 h'.length (ns l)]) 1 (.slice (some ⟨h'.length, 0, none⟩) l.length l.length) l.length (ns l) ∧ ∀ q, rb (.slice (some ⟨h'.length, 0, none⟩) l.length l.length) q → ¬ bk v q := by
  refine ⟨p.grow (Keep.push _ _ _), .mk (all := ns l) (Own.new _ _ _ _).cells (by simp [ns]) (by rw [List.drop_zero, Nat.mul_one]; exact List.take_of_length_le (by simp [ns])), fun q hq => ?_⟩
  have e : q = h'.length := hq.1
  exact fun e2 => by have := p.ow.lt q e2; omega
theorem RI.two (p : RI h C ts vi vc vt vp vk acc h' v) (word : Bs) (m n : Int) (hm : rgI m) (hn : rgI n) (hs : acc.length + word.length + 45 ≤ 140000000000000) :
    Gets Tryz.prog 23 [v, tv word, .slice (some ⟨h'.length, 0, none⟩) 2 2] (h' ++ [Eng.row 3 h'.length [iv m, iv n]]) (fun res h2 => ∃ s, res = .ret s ∧ RI h C ts vi vc vt vp vk (acc ++ word ++ numsT [m, n]) h2 s) := by
  have pr := p.nrow [m, n]
  exact pr.1.line word pr.2.1 pr.2.2 (by simp; exact ⟨hm, hn⟩) (by simp; omega)
theorem RI.three (p : RI h C ts vi vc vt vp vk acc h' v) (word : Bs) (m n o : Int) (hm : rgI m) (hn : rgI n) (ho : rgI o) (hs : acc.length + word.length + 67 ≤ 140000000000000) :
    Gets Tryz.prog 23 [v, tv word, .slice (some ⟨h'.length, 0, none⟩) 3 3] (h' ++ [Eng.row 3 h'.length [iv m, iv n, iv o]]) (fun res h2 => ∃ s, res = .ret s ∧ RI h C ts vi vc vt vp vk (acc ++ word ++ numsT [m, n, o]) h2 s) := by
  have pr := p.nrow [m, n, o]
  exact pr.1.line word pr.2.1 pr.2.2 (by simp; exact ⟨hm, hn, ho⟩) (by simp; omega)
end
section
variable {h : AH} {C : Cx} {ts : List Bs} {vi vc vt vp vk : Value}
set_option maxHeartbeats 4000000 in
theorem rPrint_ok (x : Im h C ts vi vc vt vp vk) (f : Fit C ts) : Gets Tryz.prog 10 [.agg #[vi, vc, vt, vp, iv C.main, vk]] h (fun res h' => Keep (fun _ => False) h h' ∧ res = .ret (.tuple #[tv (if (ends C).isSome then imgT C ts else []), iv (if (ends C).isSome then 0 else 7)])) := by
  refine Gets.of (keep := false) hP (draw_ok hM) k10 (by rfl) (fun Ψ hΨ => ?_)
  have fli := f.li; have flc := f.lc; have flp := f.lp; have flk := f.lk; have flt := f.lt
  have z : Sz C := ⟨by omega, by omega, by omega, by rw [f.nt]; omega⟩
  have oI := Own.new h 26 h.length [vi, vc, vt, vp, iv C.main, vk]
  have kp1 : Keep (fun _ => False) h (h ++ [row 26 h.length [vi, vc, vt, vp, iv C.main, vk]]) := Keep.push _ _ _
  simp only [mach, mach2, mstd, ↓reduceIte, Nat.reduceEqDiff, Nat.reduceAdd, Nat.reduceMul, r10, mbl, Nat.reduceLeDiff, Nat.reduceLT, Int.reduceEq]
  generalize hh1 : h ++ [row 26 h.length [vi, vc, vt, vp, iv C.main, vk]] = h1 at oI kp1 ⊢
  have im1 := x.keep kp1 (fun _ _ e => e)
  simp only [mach, mach2, mstd, ↓reduceIte, Nat.reduceEqDiff, Nat.reduceAdd, Nat.reduceMul, oI.cells.lds 0 6 (by simp), mbl, Nat.reduceLeDiff, Nat.reduceLT, Int.reduceEq]
  refine XX_of (rCheck_ok im1.im z (fun w hw => (f.gi w hw).2.2.1.2) (by omega)) (fun res h2 hle hn => ?_)
  obtain ⟨k2, rfl⟩ := hn
  refine .ret ?_
  cases he : (ends C).isSome with
  | false =>
    simp only [mach, mach2, mstd, ↓reduceIte, Nat.reduceEqDiff, Nat.reduceAdd, Nat.reduceMul, he, mbl, Nat.reduceLeDiff, Nat.reduceLT, Int.reduceEq]
    exact hΨ _ _ (fin_ret (rv2 rfl rfl ⟨kp1.trans k2, by rw [he]; rfl⟩))
  | true =>
    have p2 : RI h C ts vi vc vt vp vk [] h2 (.slice none 0 0) := ⟨kp1.trans k2, oI.keep k2 (fun e => e), im1.keep k2 (fun _ _ e => e), .nil, fun q e => e.elim, x.lt⟩
    obtain ⟨ia, ic, hvi⟩ := row_shape x.im.ri
    obtain ⟨ca, cc, hvc⟩ := row_shape x.im.rc
    obtain ⟨pa, pc, hvp⟩ := row_shape x.im.rp
    obtain ⟨ka, kc, hvk⟩ := row_shape x.im.rk
    obtain ⟨ta, tc, hvt⟩ := row_shape x.rt
    subst hvi hvc hvp hvk hvt
    simp only [mach, mach2, mstd, ↓reduceIte, Nat.reduceEqDiff, Nat.reduceAdd, Nat.reduceMul, he, p2.oI.cells.ld, mbl, Nat.reduceLeDiff, Nat.reduceLT, Int.reduceEq]
    refine XX_of (p2.two [105, 109, 97, 103, 101] C.main C.tops.length f.gm ⟨by omega, by omega⟩ (by simp)) (fun res h5 hle hr => ?_)
    obtain ⟨s5, rfl, p5⟩ := hr
    refine .ret ?_
    have n2 : (numsT [C.main, (C.tops.length : Int)]).length ≤ 45 := by
      have := numsT_len (l := [C.main, (C.tops.length : Int)]) (by simp; exact ⟨f.gm, ⟨by omega, by omega⟩⟩)
      simp only [List.length_cons, List.length_nil] at this; omega
    simp only [mach, mach2, mstd, ↓reduceIte, Nat.reduceEqDiff, Nat.reduceAdd, Nat.reduceMul, p5.oI.cells.ld, mbl, Nat.reduceLeDiff, Nat.reduceLT, Int.reduceEq]
    refine XX_of (p5.line [99, 111, 110, 115] p5.im.im.rk (fun q hq => p5.lo q (Nat.le_of_lt (x.lt q (by unfold rbs; simp [hq])))) f.gk (by simp only [List.length_append, List.length_cons, List.length_nil]; omega)) (fun res h7 hle hr => ?_)
    obtain ⟨s7, rfl, p7⟩ := hr
    refine .ret ?_
    have n3 := numsT_len (l := C.cons) f.gk
    generalize hA : ([] ++ [105, 109, 97, 103, 101] ++ numsT [C.main, (C.tops.length : Int)] ++ [99, 111, 110, 115] ++ numsT C.cons : Bs) = A at p7
    have hAl : A.length ≤ 30000000 := by rw [← hA]; simp only [List.length_append, List.length_cons, List.length_nil]; omega
    simp only [mach, mach2, mstd, ↓reduceIte, Nat.reduceEqDiff, Nat.reduceAdd, Nat.reduceMul, mbl, Nat.reduceLeDiff, Nat.reduceLT, Int.reduceEq]
    refine XLo_rule (α := Nat × Value) (fun a => [(1, .pointer (some ⟨h.length, 0, none⟩)), (4, a.2), (5, iv a.1)])
      (fun a h' => a.1 ≤ ts.length ∧ RI h C ts (.slice ia C.infos.length ic) (.slice ca C.code.length cc) (.slice ta ts.length tc) (.slice pa C.tops.length pc) (.slice ka C.cons.length kc) (A ++ (ts.take a.1).flatMap txtT) h' a.2) (fun a => ts.length - a.1) (0, s7)
      ⟨Nat.zero_le _, by simpa using p7⟩ ⟨rfl, rfl, rfl, trivial⟩ ?_
    rintro ⟨i, v⟩ g1 Ψ2 ⟨hi, p⟩ next out
    simp only at hi p
    have tl := txts_len f i
    by_cases hlt : (i : Int) < (ts.length : Int)
    · have hil : i < ts.length := by omega
      have g0 : (0 : Int) ≤ (i : Int) := by omega
      have hq := f.l1 ts[i] (List.getElem_mem _)
      have hqb := quoS_len ts[i]
      obtain ⟨s1, g2, a1, p1⟩ := p.str [116, 101, 120, 116, 32, 34] (by simp only [List.length_append, List.length_cons, List.length_nil]; omega)
      obtain ⟨b1, o1, c1, e1, _, l1⟩ := rds_tx p1.im.rt hil
      cases e1
      have hwi : IntKind.i64.wrap ((i : Int) + 1) = ((i + 1 : Nat) : Int) := by rw [i64w (by omega) (by omega)]; omega
      have a1' : appv false g1 true 5 1 1 v (.string ⟨#[116, 101, 120, 116, 32, 34]⟩) = some (s1, g2) := a1
      simp only [mach, mach2, mstd, ↓reduceIte, Nat.reduceEqDiff, Nat.reduceAdd, Nat.reduceMul, p.oI.cells.ld, hlt, mbl, Nat.reduceLeDiff, Nat.reduceLT, Int.reduceEq, a1', p1.oI.cells.ld, g0, and_self, Int.toNat_natCast, Nat.mul_one, l1]
      refine XX_of (rQuote_ok ts[i] (by omega) g2) (fun res g3 hle hr => ?_)
      obtain ⟨m3, rfl⟩ := hr
      refine .ret ?_
      obtain ⟨s4, g4, a4, p4⟩ := (p1.grow m3).str (quoS ts[i]) (by simp only [List.length_append, List.length_cons, List.length_nil]; omega)
      obtain ⟨s5, g5, a5, p5'⟩ := p4.str [34, 10] (by simp only [List.length_append, List.length_cons, List.length_nil]; omega)
      have a5' : appv false g4 true 5 1 1 s4 (.string ⟨#[34, 10]⟩) = some (s5, g5) := a5
      have hst : A ++ (ts.take i).flatMap txtT ++ [116, 101, 120, 116, 32, 34] ++ quoS ts[i] ++ [34, 10] = A ++ (ts.take (i + 1)).flatMap txtT := by
        rw [flat_take hil]; simp [txtT]
      rw [hst] at p5'
      simp only [mach, mach2, mstd, ↓reduceIte, Nat.reduceEqDiff, Nat.reduceAdd, Nat.reduceMul, mbl, Nat.reduceLeDiff, Nat.reduceLT, Int.reduceEq, a4, a5', hwi]
      exact next (i + 1, s5) _ _ _ ⟨by simp only; omega, p5'⟩ ⟨rfl, rfl, rfl, trivial⟩ (by simp only; omega)
    have hie : i = ts.length := by omega
    rw [hie, List.take_length] at p tl
    simp only [mach, mach2, mstd, ↓reduceIte, Nat.reduceEqDiff, Nat.reduceAdd, Nat.reduceMul, p.oI.cells.ld, hlt, mbl, Nat.reduceLeDiff, Nat.reduceLT, Int.reduceEq]
    refine out (.exit 0) _ _ _ _ (by intro e; cases e) ?_
    generalize hB : A ++ ts.flatMap txtT = B at p
    have hBl : B.length ≤ 4399000000000 := by rw [← hB]; simp only [List.length_append]; omega
    simp only [mach, mach2, mstd, ↓reduceIte, Nat.reduceEqDiff, Nat.reduceAdd, Nat.reduceMul, mbl, Nat.reduceLeDiff, Nat.reduceLT, Int.reduceEq]
    refine XLo_rule (α := Nat × Value) (fun a => [(1, .pointer (some ⟨h.length, 0, none⟩)), (4, a.2), (6, iv a.1)])
      (fun a h' => a.1 ≤ C.infos.length ∧ RI h C ts (.slice ia C.infos.length ic) (.slice ca C.code.length cc) (.slice ta ts.length tc) (.slice pa C.tops.length pc) (.slice ka C.cons.length kc) (B ++ (C.infos.take a.1).flatMap infT) h' a.2) (fun a => C.infos.length - a.1) (0, v)
      ⟨Nat.zero_le _, by simpa using p⟩ ⟨rfl, rfl, rfl, trivial⟩ ?_
    rintro ⟨j, w⟩ g4 Ψ3 ⟨hj, q⟩ next3 out3
    simp only at hj q
    have il := infs_len f j
    by_cases hlt2 : (j : Int) < (C.infos.length : Int)
    · have hjl : j < C.infos.length := by omega
      have g0 : (0 : Int) ≤ (j : Int) := by omega
      have hxi : C.infos[j]? = some C.infos[j] := List.getElem?_eq_getElem hjl
      obtain ⟨gk, ga, gf, gc⟩ := f.gi C.infos[j] (List.getElem_mem _)
      have hft : (C.infos.take (j + 1)).flatMap infT = (C.infos.take j).flatMap infT ++ infT C.infos[j] := flat_take hjl
      generalize C.infos[j] = xx at hxi gk ga gf gc hft
      obtain ⟨xk, xa, xf, xc⟩ := xx
      simp only at gk ga gf gc
      obtain ⟨b8, o8, c8, e8, hlt8, hld8⟩ := rds_str (by omega) Inf.len q.im.im.ri hxi
      simp only [Inf.cells, ns, List.map_cons, List.map_nil] at hld8
      cases e8
      have hwj : IntKind.i64.wrap ((j : Int) + 1) = ((j + 1 : Nat) : Int) := by rw [i64w (by omega) (by omega)]; omega
      have on := Own.new g4 40 g4.length [iv 0, iv 0, iv 0, iv 0]
      simp only [mach, mach2, mstd, ↓reduceIte, Nat.reduceEqDiff, Nat.reduceAdd, Nat.reduceMul, q.oI.cells.ld, hlt2, g0, and_self, hld8, Int.toNat_natCast, mbl, Nat.reduceLeDiff, Nat.reduceLT, Int.reduceEq]
      refine XH_own on rfl (by simp [Value.cells]) rfl (fun g5 q1 q2 q3 => ?_)
      have on5 : Own g5 g4.length 40 [iv xk, iv xa, iv xf, iv xc] := by simpa [Value.cells] using q1
      have kp5 : Keep (fun _ => False) g4 g5 := (Keep.push (fun _ => False) g4 _).trans' q2 (fun c hc e => by omega)
      have p5' := q.grow kp5
      by_cases h1 : xk = 1
      · have hst : ∀ B0 : Bs, B0 ++ (C.infos.take j).flatMap infT ++ [102, 117, 110] ++ numsT [xa, xf, xc] = B0 ++ (C.infos.take (j + 1)).flatMap infT := fun B0 => by
          rw [hft, infT, if_pos h1]; simp
        simp only [mach, mach2, mstd, ↓reduceIte, Nat.reduceEqDiff, Nat.reduceAdd, Nat.reduceMul, on5.cells.ld, mbl, Nat.reduceLeDiff, Nat.reduceLT, Int.reduceEq, eq_true h1]
        refine XX_of (p5'.three [102, 117, 110] xa xf xc ga gf gc (by simp only [List.length_append, List.length_cons, List.length_nil]; omega)) (fun res g7 hle hr => ?_)
        obtain ⟨v7', rfl, p7'⟩ := hr
        refine .ret ?_
        rw [hst] at p7'
        simp only [mach, mach2, mstd, ↓reduceIte, Nat.reduceEqDiff, Nat.reduceAdd, Nat.reduceMul, mbl, Nat.reduceLeDiff, Nat.reduceLT, Int.reduceEq, hwj]
        exact next3 (j + 1, v7') _ _ _ ⟨by simp only; omega, p7'⟩ ⟨rfl, rfl, rfl, trivial⟩ (by simp only; omega)
      · have hst : ∀ B0 : Bs, B0 ++ (C.infos.take j).flatMap infT ++ [116, 104, 117, 110, 107] ++ numsT [xf, xc] = B0 ++ (C.infos.take (j + 1)).flatMap infT := fun B0 => by
          rw [hft, infT, if_neg h1]; simp
        simp only [mach, mach2, mstd, ↓reduceIte, Nat.reduceEqDiff, Nat.reduceAdd, Nat.reduceMul, on5.cells.ld, mbl, Nat.reduceLeDiff, Nat.reduceLT, Int.reduceEq, h1]
        refine XX_of (p5'.two [116, 104, 117, 110, 107] xf xc gf gc (by simp only [List.length_append, List.length_cons, List.length_nil]; omega)) (fun res g7 hle hr => ?_)
        obtain ⟨v7', rfl, p7'⟩ := hr
        refine .ret ?_
        rw [hst] at p7'
        simp only [mach, mach2, mstd, ↓reduceIte, Nat.reduceEqDiff, Nat.reduceAdd, Nat.reduceMul, mbl, Nat.reduceLeDiff, Nat.reduceLT, Int.reduceEq, hwj]
        exact next3 (j + 1, v7') _ _ _ ⟨by simp only; omega, p7'⟩ ⟨rfl, rfl, rfl, trivial⟩ (by simp only; omega)
    · have hje : j = C.infos.length := by omega
      rw [hje, List.take_length] at q il
      simp only [mach, mach2, mstd, ↓reduceIte, Nat.reduceEqDiff, Nat.reduceAdd, Nat.reduceMul, q.oI.cells.ld, hlt2, mbl, Nat.reduceLeDiff, Nat.reduceLT, Int.reduceEq]
      refine out3 (.exit 2) _ _ _ _ (by intro e; cases e) ?_
      simp only [mach, mach2, mstd, ↓reduceIte, Nat.reduceEqDiff, Nat.reduceAdd, Nat.reduceMul, q.oI.cells.ld, mbl, Nat.reduceLeDiff, Nat.reduceLT, Int.reduceEq]
      refine XX_of (q.line [99, 111, 100, 101] q.im.im.rc (fun q' hq => q.lo q' (Nat.le_of_lt (x.lt q' (by unfold rbs; simp [hq])))) f.gc (by simp only [List.length_append, List.length_cons, List.length_nil]; omega)) (fun res g5 hle hr => ?_)
      obtain ⟨s6, rfl, p6⟩ := hr
      refine .ret ?_
      simp only [mach, mach2, mstd, ↓reduceIte, Nat.reduceEqDiff, Nat.reduceAdd, Nat.reduceMul, mbl, Nat.reduceLeDiff, Nat.reduceLT, Int.reduceEq, b2s_tx p6.ow.rds]
      refine hΨ _ _ (fin_ret (rv2 rfl rfl ⟨p6.kp, ?_⟩))
      rw [he, if_pos rfl, if_pos rfl, imgT, ← hB, ← hA]; rfl
end
end Go.S17
