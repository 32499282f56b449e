import Derived.Test.YtcnfefidbmaamaaPk18
import Derived.Test.YtcnfefidbmaamaaPk17
import Derived.Test.YtcnfefidbmaamaaPk14
import Derived.Test.YtcnfefidbmaamaaPk15
/- Images: code's Ends and Check come to what the plain function says. -/
set_option linter.unusedVariables false
set_option linter.unusedSimpArgs false
namespace Go.S16
open Go Go.Eng Go.Proofs Go.Chk

theorem rvc2 {e l : PE} {h : AH} {ds : List Dfr} {x y : RX} {f g : U} {p q u v : Value} {K : List Value → Prop} (hx : rx e l x = some p) (hu : uval Try.prog h h.length f p = some (u, none)) (hy : rx e l y = some q) (hv : uval Try.prog h h.length g q = some (v, none)) (hk : K [u, v]) :
    rvK Try.prog ⟨e, l, h, ds⟩ [.c x f, .c y g] K := by
  simp only [rvK, hx, vK, hu, rK, hy, hv]; exact hk

theorem small_ok (h : AH) (c : Int) : Gets Try.prog 17 [iv c] h (fun res h' => h' = h ∧ res = .ret (.bool (decide (¬ (0 ≤ c ∧ c ≤ 8))))) := by
  refine Gets.of (keep := false) hP (draw_ok hM) k17 (by rfl) (fun Ψ hΨ => ?_)
  by_cases h0 : c < 0
  · simp only [mach, mach2, mstd, ↓reduceIte, Nat.reduceEqDiff, Nat.reduceAdd, Nat.reduceMul, r17, h0]
    exact hΨ _ _ (fin_ret (rv1 rfl ⟨rfl, by simp [tup]; omega⟩))
  · simp only [mach, mach2, mstd, ↓reduceIte, Nat.reduceEqDiff, Nat.reduceAdd, Nat.reduceMul, r17, h0]
    exact hΨ _ _ (fin_ret (rv1 rfl ⟨rfl, by simp [tup]; omega⟩))

section
variable {h : AH} {b : Nat} {C : Cx} {vi vc vt vp vk : Value} {p : Nat}

theorem index_ok (im : Img h C vi vc vt vp vk) (hm : C.cons.length ≤ 9223372036854775807) : Gets Try.prog 28 [vk, .func (.func 17) #[] #[]] h (fun res h' => h' = h ∧ ∃ i, res = .ret (iv i) ∧ (0 ≤ i ↔ ¬ consOk C)) := by
  refine Gets.of (keep := false) hP (draw_ok hM) k28 (by rfl) (fun Ψ hΨ => ?_)
  obtain ⟨ka, kc, hvk⟩ := row_shape im.rk
  subst hvk
  simp only [mach, mach2, mstd, ↓reduceIte, Nat.reduceEqDiff, Nat.reduceAdd, Nat.reduceMul, r28]
  refine XLo_rule (α := Nat) (fun i => [(0, .slice ka C.cons.length kc), (1, .func (.func 17) #[] #[]), (7, iv C.cons.length), (8, iv i)])
    (fun i h' => i ≤ C.cons.length ∧ h' = h ∧ ∀ j, j < i → ∀ c, C.cons[j]? = some c → 0 ≤ c ∧ c ≤ 8) (fun i => C.cons.length - i) 0 ⟨Nat.zero_le _, rfl, fun j hj => by omega⟩ ⟨rfl, rfl, rfl, rfl, trivial⟩ ?_
  rintro i h1 Ψ2 ⟨i1, rfl, hall⟩ next out
  by_cases hi : (i : Int) < (C.cons.length : Int)
  · have h0 : 0 ≤ (i : Int) := by omega
    have hw : IntKind.i64.wrap ((i : Int) + 1) = i + 1 := i64w (by omega) (by omega)
    have hx : C.cons[(i : Int).toNat]? = some C.cons[i] := by rw [Int.toNat_natCast]; exact List.getElem?_eq_getElem (by omega)
    obtain ⟨b1, o1, c1, e1, _, hld⟩ := rds_ix im.rk h0 hx
    cases e1
    rw [Int.toNat_natCast] at hld
    simp only [mach, mach2, mstd, ↓reduceIte, Nat.reduceEqDiff, Nat.reduceAdd, Nat.reduceMul, hi, h0, and_self, Int.toNat_natCast, Nat.mul_one, hld, List.append_nil, List.nil_append]
    refine XX_val (small_ok h1 _) ?_
    by_cases hc : 0 ≤ C.cons[i] ∧ C.cons[i] ≤ 8
    · simp only [mach, mach2, mstd, ↓reduceIte, Nat.reduceEqDiff, Nat.reduceAdd, Nat.reduceMul, hc, and_self, not_true, hw]
      refine next (i + 1) _ _ _ ⟨by omega, rfl, fun j hj c hcj => ?_⟩ ⟨rfl, rfl, rfl, ?_, trivial⟩ (by omega)
      · by_cases hji : j < i
        · exact hall j hji c hcj
        · have : j = i := by omega
          subst this
          rw [List.getElem?_eq_getElem (by omega)] at hcj
          cases hcj; exact hc
      · simp only [Int.natCast_add, Int.cast_ofNat_Int]; rfl
    · simp only [mach, mach2, mstd, ↓reduceIte, Nat.reduceEqDiff, Nat.reduceAdd, Nat.reduceMul, hc, not_false_eq_true]
      refine out .ret _ _ _ _ (by intro e; cases e) ?_
      simp only [mach, mach2, mstd, ↓reduceIte, Nat.reduceEqDiff, Nat.reduceAdd, Nat.reduceMul]
      refine hΨ _ _ (fin_ret (rv1 rfl ⟨rfl, _, rfl, ?_⟩))
      constructor
      · intro _ hco; exact hc (hco _ (List.getElem_mem _))
      · intro _; omega
  · have hie : i = C.cons.length := by omega
    simp only [mach, mach2, mstd, ↓reduceIte, Nat.reduceEqDiff, Nat.reduceAdd, Nat.reduceMul, hi]
    refine out (.exit 0) _ _ _ _ (by intro e; cases e) ?_
    simp only [mach, mach2, mstd, ↓reduceIte, Nat.reduceEqDiff, Nat.reduceAdd, Nat.reduceMul]
    refine hΨ _ _ (fin_ret (rv1 rfl ⟨rfl, _, rfl, ?_⟩))
    constructor
    · intro e; omega
    · intro e
      exfalso; refine e (fun c hc => ?_)
      obtain ⟨j, hj, rfl⟩ := List.getElem_of_mem hc
      exact hall j (by omega) _ (List.getElem?_eq_getElem hj)

theorem contains_ok (im : Img h C vi vc vt vp vk) (hm : C.cons.length ≤ 9223372036854775807) : Gets Try.prog 16 [vk, .func (.func 17) #[] #[]] h (fun res h' => h' = h ∧ res = .ret (.bool (decide (¬ consOk C)))) := by
  refine Gets.of (keep := false) hP (draw_ok hM) k16 (by rfl) (fun Ψ hΨ => ?_)
  simp only [mach, mach2, mstd, ↓reduceIte, Nat.reduceEqDiff, Nat.reduceAdd, Nat.reduceMul, r16]
  refine XX_of (index_ok im hm) (fun res h' _ hn => ?_)
  obtain ⟨rfl, i, rfl, hi⟩ := hn
  refine .ret ?_
  simp only [mach, mach2, mstd, ↓reduceIte, Nat.reduceEqDiff, Nat.reduceAdd, Nat.reduceMul]
  refine hΨ _ _ (fin_ret (rv1 rfl ⟨rfl, ?_⟩))
  simp only [tup]
  congr 2
  exact decide_eq_decide.2 hi

/-- What Ends comes to. -/
def EndO (h : AH) (C : Cx) (res : Res) (h' : AH) : Prop := Keep (fun _ => False) h h' ∧ match ends C with
  | some l => ∃ v, res = .ret (.tuple #[v, iv 0]) ∧ Ows h' 3 1 v l.length (ns (l.map Int.ofNat)) ∧ ∀ q, bk v q → h.length ≤ q
  | none => res = .ret (.tuple #[.slice none 0 0, iv 7])

/-- Rows are no longer than they may be. -/
def Cx.fits (C : Cx) : Prop := C.infos.length ≤ 9223372036854775807 ∧ C.code.length ≤ 9223372036854775807 ∧ C.tops.length ≤ 9223372036854775807 ∧ C.cons.length ≤ 9223372036854775807

abbrev rsE : List RV := [.c (.n 2) .ld, .c (.n 3) .ld]

theorem ends_fail {Ψ : Out → PS → Prop} (hΨ : ∀ o s, finD Try.prog false 14 [0, 1, 4, 5, 9, 10] (.n 5) r14 [] rsE (EndO h C) o s → Ψ o s) {e l : PE} {h' : AH} {bL bE : Nat} {x y : Value} (v : {v : Value // v = .agg #[]})
    (h2 : Eng.look e 2 = some (.pointer (some ⟨bL, 0, none⟩))) (h3 : Eng.look e 3 = some (.pointer (some ⟨bE, 0, none⟩))) (o2 : Own h' bL 23 [x]) (o3 : Own h' bE 28 [y]) (hLE : bL ≠ bE) (g2 : h.length ≤ bL) (g3 : h.length ≤ bE) (kp : Keep (fun _ => False) h h') (hn : ends C = none) :
    Ψ (.pan (.iface 50 v.1)) ⟨e, l, h', [⟨.func 14, [.pointer (some ⟨bL, 0, none⟩), .pointer (some ⟨bE, 0, none⟩)], []⟩]⟩ := by
  obtain ⟨v, rfl⟩ := v
  refine hΨ _ _ (dfr_of (by rfl) (fun Ψ2 hΨ2 => ?_))
  simp only [mach, mach2, mstd, ↓reduceIte, Nat.reduceEqDiff, Nat.reduceAdd, Nat.reduceMul, r14, Option.getD_some, mbl, Nat.reduceLeDiff, Nat.reduceLT, Int.reduceEq]
  have on := Own.new h' 50 h'.length []
  have k0 : Keep (fun _ => False) h' (h' ++ [row 50 h'.length []]) := Keep.push _ _ _
  have o2' := o2.keep k0 (fun e => e)
  have o3' := o3.keep k0 (fun e => e)
  refine XH_own on rfl (by simp [Value.cells]) rfl (fun h4 q1 q2 q3 => ?_)
  have lb2 := o2.lt
  have lb3 := o3.lt
  have o24 := o2'.keep q2 (fun e => by omega)
  have o34 := o3'.keep q2 (fun e => by omega)
  simp only [mach, mach2, mstd, ↓reduceIte, Nat.reduceEqDiff, Nat.reduceAdd, Nat.reduceMul]
  refine XH_own o24 rfl (by simp [Value.cells]) rfl (fun h5 p1 p2 p3 => ?_)
  have o25 : Own h5 bL 23 [.slice none 0 0] := by simpa [Value.cells] using p1
  have o35 := o34.keep p2 (fun e => hLE e.symm)
  simp only [mach, mach2, mstd, ↓reduceIte, Nat.reduceEqDiff, Nat.reduceAdd, Nat.reduceMul]
  refine XH_own o35 rfl (by simp [Value.cells]) rfl (fun h6 t1 t2 t3 => ?_)
  have o36 : Own h6 bE 28 [iv 7] := by simpa [Value.cells] using t1
  have o26 := o25.keep t2 (fun e => hLE e)
  simp only [mach, mach2, mstd, ↓reduceIte, Nat.reduceEqDiff, Nat.reduceAdd, Nat.reduceMul]
  have l4 : h'.length ≤ h4.length := by rw [q3]; simp
  have kk : Keep (fun _ => False) h h6 := (((kp.trans k0).trans' q2 (fun c hc e => by have := kp.len; omega)).trans' p2 (fun c hc e => by omega)).trans' t2 (fun c hc e => by omega)
  refine hΨ2 _ _ ⟨.inl rfl, rfl, ?_, ⟨[], rfl⟩, rvc2 (p := .pointer (some ⟨bL, 0, none⟩)) (q := .pointer (some ⟨bE, 0, none⟩)) (u := .slice none 0 0) (v := iv 7) h2 ?_ h3 ?_ ⟨kk, ?_⟩⟩
  · show h'.length ≤ h6.length; rw [t3, p3]; exact l4
  · simp only [uval]; rw [o26.cells.ld]; rfl
  · simp only [uval]; rw [o36.cells.ld]; rfl
  · rw [hn]; rfl

end
end Go.S16

/- Images: code's Ends and Check, the walk. -/
set_option linter.unusedVariables false
set_option linter.unusedSimpArgs false
namespace Go.S16
open Go Go.Eng Go.Proofs Go.Chk

section
variable {h : AH} {b : Nat} {C : Cx} {vi vc vt vp vk : Value} {p : Nat}

/-- What stands between the infos' rounds. -/
structure Mid (h : AH) (C : Cx) (vi vc vt vp vk : Value) (bI bL bE bR : Nat) (a : Nat × Nat × Value × List Nat) (h' : AH) : Prop where
  i1 : a.1 ≤ C.infos.length
  s : Rdr h' bR C vi vc vt vp vk a.2.1
  oI : Own h' bI 26 [vi, vc, vt, vp, iv C.main, vk]
  oL : Own h' bL 23 [a.2.2.1]
  oE : Own h' bE 28 [iv 0]
  ow : Ows h' 3 1 a.2.2.1 a.1 (ns (a.2.2.2.map Int.ofNat))
  fr : ∀ q, bk a.2.2.1 q → bR < q
  ln : a.2.2.2.length = a.1
  kp : Keep (fun _ => False) h h'
  pl : a.2.1 ≤ C.code.length
  bl : a.1 ≤ a.2.1
  eq : ∀ x, blocks C (C.code.length + 1) (C.infos.drop a.1) a.2.1 = x → blocks C (C.code.length + 1) C.infos 0 = (match x with
    | some (e, r) => some (a.2.2.2 ++ e, r)
    | none => none)

set_option maxHeartbeats 2000000 in
theorem Ends_ok (im : Img h C vi vc vt vp vk) (fit : Cx.fits C) : Gets Try.prog 8 [.agg #[vi, vc, vt, vp, iv C.main, vk]] h (EndO h C) := by
  refine Gets.ofd (keep := false) (keepg := false) hP (draw_ok hM) (draw_ok hM) k8 k14 (by rfl) (fun Ψ hΨ => ?_)
  obtain ⟨fi, fc, fp, fk⟩ := fit
  obtain ⟨ia, ic, hvi⟩ := row_shape im.ri
  obtain ⟨ca, cc, hvc⟩ := row_shape im.rc
  obtain ⟨pa, pc, hvp⟩ := row_shape im.rp
  have oI0 := Own.new h 26 h.length [vi, vc, vt, vp, iv C.main, vk]
  have kp1 : Keep (fun _ => False) h (h ++ [row 26 h.length [vi, vc, vt, vp, iv C.main, vk]]) := Keep.push _ _ _
  simp only [mach, mach2, mstd, ↓reduceIte, Nat.reduceEqDiff, Nat.reduceAdd, Nat.reduceMul, r8, mbl, Nat.reduceLeDiff, Nat.reduceLT, Int.reduceEq]
  generalize hh1 : h ++ [row 26 h.length [vi, vc, vt, vp, iv C.main, vk]] = h1 at oI0 kp1 ⊢
  have hl1 : h1.length = h.length + 1 := by rw [← hh1]; simp
  have oL0 := Own.new h1 23 h1.length [.slice none 0 0]
  have kp2 : Keep (fun _ => False) h1 (h1 ++ [row 23 h1.length [.slice none 0 0]]) := Keep.push _ _ _
  generalize hh2 : h1 ++ [row 23 h1.length [.slice none 0 0]] = h2 at oL0 kp2 ⊢
  have hl2 : h2.length = h1.length + 1 := by rw [← hh2]; simp
  have oE := Own.new h2 28 h2.length [iv 0]
  have kp3 : Keep (fun _ => False) h2 (h2 ++ [row 28 h2.length [iv 0]]) := Keep.push _ _ _
  generalize hh3 : h2 ++ [row 28 h2.length [iv 0]] = h3 at oE kp3 ⊢
  have hl3 : h3.length = h2.length + 1 := by rw [← hh3]; simp
  have oI := (oI0.keep kp2 (fun e => e)).keep kp3 (fun e => e)
  have oL := oL0.keep kp3 (fun e => e)
  have kp : Keep (fun _ => False) h h3 := (kp1.trans kp2).trans kp3
  have im3 := im.keep kp (fun _ _ e => e)
  have hLE : h1.length ≠ h2.length := by omega
  have fail0 := fun e l v e2 e3 hn => ends_fail hΨ (e := e) (l := l) v e2 e3 oL oE hLE (by omega) (by omega) kp hn
  by_cases c1 : 0 ≤ C.main
  case neg =>
    simp only [mach, mach2, mstd, ↓reduceIte, Nat.reduceEqDiff, Nat.reduceAdd, Nat.reduceMul, oI.cells.ld, mbl, Nat.reduceLeDiff, Nat.reduceLT, Int.reduceEq, hvp, hvi, hvc, c1]
    refine XX_of (must_false h3) (fun res hm hle hn => ?_)
    obtain ⟨rfl, v, rfl⟩ := hn
    refine .pan ?_
    simp only [mach, mach2, mstd, ↓reduceIte, Nat.reduceEqDiff, Nat.reduceAdd, Nat.reduceMul]
    exact fail0 _ _ v rfl rfl (by unfold ends; rw [if_neg]; rintro ⟨⟨e, _⟩, _⟩; exact c1 e)
  by_cases c2 : C.main < (C.tops.length : Int)
  case neg =>
    simp only [mach, mach2, mstd, ↓reduceIte, Nat.reduceEqDiff, Nat.reduceAdd, Nat.reduceMul, oI.cells.ld, mbl, Nat.reduceLeDiff, Nat.reduceLT, Int.reduceEq, hvp, hvi, hvc, c1, c2]
    refine XX_of (must_false h3) (fun res hm hle hn => ?_)
    obtain ⟨rfl, v, rfl⟩ := hn
    refine .pan ?_
    simp only [mach, mach2, mstd, ↓reduceIte, Nat.reduceEqDiff, Nat.reduceAdd, Nat.reduceMul]
    exact fail0 _ _ v rfl rfl (by unfold ends; rw [if_neg]; rintro ⟨⟨_, e, _⟩, _⟩; exact c2 e)
  by_cases c3 : (C.tops.length : Int) ≤ (C.infos.length : Int)
  case neg =>
    simp only [mach, mach2, mstd, ↓reduceIte, Nat.reduceEqDiff, Nat.reduceAdd, Nat.reduceMul, oI.cells.ld, mbl, Nat.reduceLeDiff, Nat.reduceLT, Int.reduceEq, hvp, hvi, hvc, c1, c2, c3]
    refine XX_of (must_false h3) (fun res hm hle hn => ?_)
    obtain ⟨rfl, v, rfl⟩ := hn
    refine .pan ?_
    simp only [mach, mach2, mstd, ↓reduceIte, Nat.reduceEqDiff, Nat.reduceAdd, Nat.reduceMul]
    exact fail0 _ _ v rfl rfl (by unfold ends; rw [if_neg]; rintro ⟨⟨_, _, e, _⟩, _⟩; exact c3 (by omega))
  by_cases c4 : (C.code.length : Int) ≤ 200000
  case neg =>
    simp only [mach, mach2, mstd, ↓reduceIte, Nat.reduceEqDiff, Nat.reduceAdd, Nat.reduceMul, oI.cells.ld, mbl, Nat.reduceLeDiff, Nat.reduceLT, Int.reduceEq, hvp, hvi, hvc, c1, c2, c3, c4]
    refine XX_of (must_false h3) (fun res hm hle hn => ?_)
    obtain ⟨rfl, v, rfl⟩ := hn
    refine .pan ?_
    simp only [mach, mach2, mstd, ↓reduceIte, Nat.reduceEqDiff, Nat.reduceAdd, Nat.reduceMul]
    exact fail0 _ _ v rfl rfl (by unfold ends; rw [if_neg]; rintro ⟨⟨_, _, _, e⟩, _⟩; exact c4 (by omega))
  have hd : headOk C := ⟨c1, c2, by omega, by omega⟩
  simp only [mach, mach2, mstd, ↓reduceIte, Nat.reduceEqDiff, Nat.reduceAdd, Nat.reduceMul, oI.cells.ld, mbl, Nat.reduceLeDiff, Nat.reduceLT, Int.reduceEq, hvp, hvi, hvc, c1, c2, c3, c4]
  refine XX_val (must_true h3) ?_
  simp only [mach, mach2, mstd, ↓reduceIte, Nat.reduceEqDiff, Nat.reduceAdd, Nat.reduceMul, oI.cells.ld, mbl, Nat.reduceLeDiff, Nat.reduceLT, Int.reduceEq]
  refine XX_val (contains_ok im3 fk) ?_
  by_cases hc : consOk C
  case neg =>
    simp only [mach, mach2, mstd, ↓reduceIte, Nat.reduceEqDiff, Nat.reduceAdd, Nat.reduceMul, hc, not_false_eq_true]
    refine XX_of (must_false h3) (fun res hm hle hn => ?_)
    obtain ⟨rfl, v, rfl⟩ := hn
    refine .pan ?_
    simp only [mach, mach2, mstd, ↓reduceIte, Nat.reduceEqDiff, Nat.reduceAdd, Nat.reduceMul]
    exact fail0 _ _ v rfl rfl (by unfold ends; rw [if_neg]; rintro ⟨_, e, _⟩; exact hc e)
  simp only [mach, mach2, mstd, ↓reduceIte, Nat.reduceEqDiff, Nat.reduceAdd, Nat.reduceMul, hc, not_true]
  refine XX_val (must_true h3) ?_
  simp only [mach, mach2, mstd, ↓reduceIte, Nat.reduceEqDiff, Nat.reduceAdd, Nat.reduceMul, oI.cells.ld, mbl, Nat.reduceLeDiff, Nat.reduceLT, Int.reduceEq, hvp]
  refine XLo_rule (α := Nat) (fun i => [(1, .pointer (some ⟨h.length, 0, none⟩)), (2, .pointer (some ⟨h1.length, 0, none⟩)), (3, .pointer (some ⟨h2.length, 0, none⟩)), (43, .slice pa C.tops.length pc), (44, iv C.tops.length), (45, iv i)])
    (fun i h' => i ≤ C.tops.length ∧ h' = h3 ∧ ∀ j, j < i → topOk C j) (fun i => C.tops.length - i) 0 ⟨Nat.zero_le _, rfl, fun j hj => by omega⟩ ⟨rfl, rfl, rfl, rfl, rfl, rfl, trivial⟩ ?_
  rintro i h' Ψ2 ⟨i1, rfl, hall⟩ next out
  by_cases hi : (i : Int) < (C.tops.length : Int)
  · have h0 : 0 ≤ (i : Int) := by omega
    have hw : IntKind.i64.wrap ((i : Int) + 1) = i + 1 := i64w (by omega) (by omega)
    have hx : C.tops[(i : Int).toNat]? = some C.tops[i] := by rw [Int.toNat_natCast]; exact List.getElem?_eq_getElem (by omega)
    obtain ⟨b1, o1, cc1, e1, _, hld⟩ := rds_ix im3.rp h0 hx
    rw [Int.toNat_natCast] at hld
    have e1' := hvp.symm.trans e1
    simp only [Value.slice.injEq] at e1'
    obtain ⟨rfl, _, rfl⟩ := e1'
    have hxi : C.infos[i]? = some C.infos[i] := List.getElem?_eq_getElem (by omega)
    obtain ⟨b2, o2, cc2, e2, hlt2, hf⟩ := rds_fld (by omega) Inf.len im3.ri hxi
    have hf2 := hf 2 (by omega)
    simp only [Inf.cells, List.getElem?_cons_succ, List.getElem?_cons_zero, Option.map_some] at hf2
    have hii : (i : Int) < (C.infos.length : Int) := by omega
    by_cases x1 : C.tops[i] = (i : Int)
    case neg =>
      simp only [mach, mach2, mstd, ↓reduceIte, Nat.reduceEqDiff, Nat.reduceAdd, Nat.reduceMul, hi, h0, and_self, Int.toNat_natCast, Nat.mul_one, hld, x1]
      refine XX_of (must_false h') (fun res hm hle hn => ?_)
      obtain ⟨rfl, v, rfl⟩ := hn
      refine .pan ?_
      simp only [mach, mach2, mstd, ↓reduceIte, Nat.reduceEqDiff, Nat.reduceAdd, Nat.reduceMul]
      refine out (.pan _) _ _ _ _ (by intro e; cases e) ?_
      simp only [mach, mach2, mstd, ↓reduceIte, Nat.reduceEqDiff, Nat.reduceAdd, Nat.reduceMul]
      exact fail0 _ _ v rfl rfl (by unfold ends; rw [if_neg]; rintro ⟨_, _, e⟩; have := (e i (by omega)).1; rw [List.getElem?_eq_getElem (by omega)] at this; exact x1 (Option.some.inj this))
    rw [x1] at hld
    by_cases x2 : C.infos[i].f = 0
    case neg =>
      simp only [mach, mach2, mstd, ↓reduceIte, Nat.reduceEqDiff, Nat.reduceAdd, Nat.reduceMul, hi, h0, and_self, Int.toNat_natCast, Nat.mul_one, hld, oI.cells.ld, mbl, Nat.reduceLeDiff, Nat.reduceLT, Int.reduceEq, e2, hii, hf2, x2]
      refine XX_of (must_false h') (fun res hm hle hn => ?_)
      obtain ⟨rfl, v, rfl⟩ := hn
      refine .pan ?_
      simp only [mach, mach2, mstd, ↓reduceIte, Nat.reduceEqDiff, Nat.reduceAdd, Nat.reduceMul]
      refine out (.pan _) _ _ _ _ (by intro e; cases e) ?_
      simp only [mach, mach2, mstd, ↓reduceIte, Nat.reduceEqDiff, Nat.reduceAdd, Nat.reduceMul]
      exact fail0 _ _ v rfl rfl (by unfold ends; rw [if_neg]; rintro ⟨_, _, e⟩; have := (e i (by omega)).2; rw [hxi] at this; exact x2 (by simpa using this))
    simp only [mach, mach2, mstd, ↓reduceIte, Nat.reduceEqDiff, Nat.reduceAdd, Nat.reduceMul, hi, h0, and_self, Int.toNat_natCast, Nat.mul_one, hld, oI.cells.ld, mbl, Nat.reduceLeDiff, Nat.reduceLT, Int.reduceEq, e2, hii, hf2, x2]
    refine XX_val (must_true h') ?_
    simp only [mach, mach2, mstd, ↓reduceIte, Nat.reduceEqDiff, Nat.reduceAdd, Nat.reduceMul, hw]
    refine next (i + 1) _ _ _ ⟨by omega, rfl, fun j hj => ?_⟩ ⟨rfl, rfl, rfl, rfl, rfl, ?_, trivial⟩ (by omega)
    · by_cases hji : j < i
      · exact hall j hji
      · have : j = i := by omega
        subst this
        exact ⟨by rw [List.getElem?_eq_getElem (by omega), x1], by rw [hxi]; simp [x2]⟩
    · simp only [Int.natCast_add, Int.cast_ofNat_Int]; rfl
  simp only [mach, mach2, mstd, ↓reduceIte, Nat.reduceEqDiff, Nat.reduceAdd, Nat.reduceMul, hi]
  refine out (.exit 0) _ _ _ _ (by intro e; cases e) ?_
  have htops : topsOk C := fun j hj => hall j (by omega)
  have hcond : headOk C ∧ consOk C ∧ topsOk C := ⟨hd, hc, htops⟩
  have eqE : ends C = (match blocks C (C.code.length + 1) C.infos 0 with
    | some (e, r) => if r = C.code.length then some e else none
    | none => none) := by unfold ends; rw [if_pos hcond]; rfl
  have s0 := Own.new h' 56 h'.length [vi, vc, vt, vp, iv C.main, vk, iv 0]
  have kp4 : Keep (fun _ => False) h' (h' ++ [row 56 h'.length [vi, vc, vt, vp, iv C.main, vk, iv 0]]) := Keep.push _ _ _
  simp only [mach, mach2, mstd, ↓reduceIte, Nat.reduceEqDiff, Nat.reduceAdd, Nat.reduceMul, oI.cells.lds 0 6 (by simp), mbl, Nat.reduceLeDiff, Nat.reduceLT, Int.reduceEq, hvi]
  rw [← hvi]
  generalize hh4 : h' ++ [row 56 h'.length [vi, vc, vt, vp, iv C.main, vk, iv 0]] = h4 at s0 kp4 ⊢
  have hl4 : h4.length = h'.length + 1 := by rw [← hh4]; simp
  have kp04 := kp.trans kp4
  have r0 : Rdr h4 h'.length C vi vc vt vp vk 0 := ⟨s0, im3.keep kp4 (fun _ _ e => e), fun q e => by have := im3.lt q e; omega, by omega⟩
  simp only [mach, mach2, mstd, ↓reduceIte, Nat.reduceEqDiff, Nat.reduceAdd, Nat.reduceMul, (oI.keep kp4 (fun e => e)).cells.ld, mbl, Nat.reduceLeDiff, Nat.reduceLT, Int.reduceEq, hvi]
  rw [← hvi]
  refine XLo_rule (α := Nat × Nat × Value × List Nat) (fun a => [(1, .pointer (some ⟨h.length, 0, none⟩)), (2, .pointer (some ⟨h1.length, 0, none⟩)), (3, .pointer (some ⟨h2.length, 0, none⟩)), (6, .pointer (some ⟨h'.length, 0, none⟩)), (68, vi), (69, iv C.infos.length), (70, iv a.1)])
    (Mid h C vi vc vt vp vk h.length h1.length h2.length h'.length) (fun a => C.infos.length - a.1) (0, 0, .slice none 0 0, [])
    ⟨Nat.zero_le _, r0, oI.keep kp4 (fun e => e), oL.keep kp4 (fun e => e), oE.keep kp4 (fun e => e), .nil, fun q e => e.elim, rfl, kp04, Nat.zero_le _, Nat.le_refl _, fun x hx => by
      rw [show blocks C (C.code.length + 1) C.infos 0 = x from hx]
      cases x with
      | none => rfl
      | some y => rfl⟩ ⟨rfl, rfl, rfl, rfl, by rw [hvi]; rfl, rfl, rfl, trivial⟩ ?_
  rintro ⟨i, p, lv, l⟩ h5 Ψ3 ⟨j1, s5, oI5, oL5, oE5, ow5, fr5, ln5, kp5, pl5, bl5, eq5⟩ next2 out2
  simp only at j1 s5 oL5 ow5 fr5 ln5 pl5 bl5 eq5
  have lb : h'.length < h5.length := s5.own.lt
  by_cases hi2 : (i : Int) < (C.infos.length : Int)
  · have h0 : 0 ≤ (i : Int) := by omega
    have hw : IntKind.i64.wrap ((i : Int) + 1) = i + 1 := i64w (by omega) (by omega)
    have hil : i < C.infos.length := by omega
    obtain ⟨⟨k, a, f, c⟩, hxi⟩ : ∃ x, C.infos[i]? = some x := ⟨_, List.getElem?_eq_getElem hil⟩
    have hdr : C.infos.drop i = ⟨k, a, f, c⟩ :: C.infos.drop (i + 1) := by
      rw [List.drop_eq_getElem_cons hil]
      have := List.getElem?_eq_getElem hil
      rw [hxi] at this
      rw [← Option.some.inj this]
    obtain ⟨b8, o8, c8, e8, hlt8, hld8⟩ := rds_str (by omega) Inf.len s5.im.ri hxi
    simp only [Inf.cells, ns, List.map_cons, List.map_nil] at hld8
    simp only [mach, mach2, mstd, ↓reduceIte, Nat.reduceEqDiff, Nat.reduceAdd, Nat.reduceMul, hi2, e8, h0, and_self, hld8, Int.toNat_natCast, mbl, Nat.reduceLeDiff, Nat.reduceLT, Int.reduceEq]
    have on := Own.new h5 44 h5.length [iv 0, iv 0, iv 0, iv 0]
    refine XH_own on rfl (by simp [Value.cells]) rfl (fun h8 q1 q2 q3 => ?_)
    have on8 : Own h8 h5.length 44 [iv k, iv a, iv f, iv c] := by simpa [Value.cells] using q1
    have kp8 : Keep (fun q => q = h5.length) h5 h8 := ((Keep.push (fun _ => False) h5 _).mono (fun _ e => e.elim)).trans q2
    have ll8 : h8.length = h5.length + 1 := by rw [q3]; simp
    have s8 := s5.keep kp8 (by rintro q0 (rfl | e) e2; omega; have := s5.im.lt _ e; omega)
    have oI8 := oI5.keep kp8 (fun e => by have := oI5.lt; omega)
    have oL8 := oL5.keep kp8 (fun e => by have := oL5.lt; omega)
    have oE8 := oE5.keep kp8 (fun e => by have := oE5.lt; omega)
    have ow8 := ow5.keep kp8 (fun q0 e e2 => by have := ow5.lt q0 e; omega)
    have kph8 : Keep (fun _ => False) h h8 := kp5.trans' kp8 (fun c hc e => by have := kp5.len; omega)
    have fail8 := fun e l v e2 e3 hn => ends_fail hΨ (e := e) (l := l) v e2 e3 oL8 oE8 hLE (by omega) (by omega) kph8 hn
    have noI : ¬ infoOk ⟨k, a, f, c⟩ p → ends C = none := fun hno => by
      have := eq5 none (by rw [hdr, blocks, if_neg hno])
      rw [eqE, this]
    by_cases k2 : k = 2
    · by_cases a0 : a = 0
      · simp only [mach, mach2, mstd, ↓reduceIte, Nat.reduceEqDiff, Nat.reduceAdd, Nat.reduceMul, on8.cells.ld, mbl, Nat.reduceLeDiff, Nat.reduceLT, Int.reduceEq, k2, a0]
        refine XX_val (must_true h8) ?_
        by_cases f0 : 0 ≤ f
        case neg =>
          simp only [mach, mach2, mstd, ↓reduceIte, Nat.reduceEqDiff, Nat.reduceAdd, Nat.reduceMul, on8.cells.ld, mbl, Nat.reduceLeDiff, Nat.reduceLT, Int.reduceEq, f0]
          refine XX_of (must_false h8) (fun res hm hle hn => ?_)
          obtain ⟨rfl, v, rfl⟩ := hn
          refine .pan ?_
          simp only [mach, mach2, mstd, ↓reduceIte, Nat.reduceEqDiff, Nat.reduceAdd, Nat.reduceMul]
          refine out2 (.pan _) _ _ _ _ (by intro e; cases e) ?_
          simp only [mach, mach2, mstd, ↓reduceIte, Nat.reduceEqDiff, Nat.reduceAdd, Nat.reduceMul]
          exact fail8 _ _ v rfl rfl (noI (by rintro ⟨_, e, _⟩; exact f0 e))
        by_cases cp : c = (p : Int)
        case neg =>
          simp only [mach, mach2, mstd, ↓reduceIte, Nat.reduceEqDiff, Nat.reduceAdd, Nat.reduceMul, on8.cells.ld, s8.own.cells.ld, mbl, Nat.reduceLeDiff, Nat.reduceLT, Int.reduceEq, f0, cp]
          refine XX_of (must_false h8) (fun res hm hle hn => ?_)
          obtain ⟨rfl, v, rfl⟩ := hn
          refine .pan ?_
          simp only [mach, mach2, mstd, ↓reduceIte, Nat.reduceEqDiff, Nat.reduceAdd, Nat.reduceMul]
          refine out2 (.pan _) _ _ _ _ (by intro e; cases e) ?_
          simp only [mach, mach2, mstd, ↓reduceIte, Nat.reduceEqDiff, Nat.reduceAdd, Nat.reduceMul]
          exact fail8 _ _ v rfl rfl (noI (by rintro ⟨_, _, e⟩; exact cp e))
        have hio : infoOk ⟨k, a, f, c⟩ p := ⟨.inl ⟨k2, a0⟩, f0, cp⟩
        simp only [mach, mach2, mstd, ↓reduceIte, Nat.reduceEqDiff, Nat.reduceAdd, Nat.reduceMul, on8.cells.ld, s8.own.cells.ld, mbl, Nat.reduceLeDiff, Nat.reduceLT, Int.reduceEq, f0, cp]
        refine XX_val (must_true h8) ?_
        simp only [mach, mach2, mstd, ↓reduceIte, Nat.reduceEqDiff, Nat.reduceAdd, Nat.reduceMul, on8.cells.ld, mbl, Nat.reduceLeDiff, Nat.reduceLT, Int.reduceEq]
        refine XX_of (expr_ok f (C.code.length + 1) h8 p a (by omega) pl5 s8) (fun res h9 hle9 hn => ?_)
        obtain ⟨kp9, hn⟩ := hn
        have kph9 : Keep (fun _ => False) h h9 := kph8.trans' kp9 (fun c hc e => by omega)
        have oL9 := oL8.keep kp9 (fun e => by omega)
        have oE9 := oE8.keep kp9 (fun e => by omega)
        have oI9 := oI8.keep kp9 (fun e => by omega)
        have ow9 := ow8.keep kp9 (fun q0 e e2 => by have := fr5 q0 e; omega)
        cases hx9 : expr C (C.code.length + 1) a f p with
        | none =>
          rw [hx9] at hn
          obtain ⟨v9, rfl⟩ := hn
          refine .pan ?_
          simp only [mach, mach2, mstd, ↓reduceIte, Nat.reduceEqDiff, Nat.reduceAdd, Nat.reduceMul]
          refine out2 (.pan _) _ _ _ _ (by intro e; cases e) ?_
          simp only [mach, mach2, mstd, ↓reduceIte, Nat.reduceEqDiff, Nat.reduceAdd, Nat.reduceMul]
          refine ends_fail hΨ v9 rfl rfl oL9 oE9 hLE (by omega) (by omega) kph9 ?_
          have := eq5 none (by rw [hdr, blocks, if_pos hio]; simp only [hx9])
          rw [eqE, this]
        | some q9 =>
          rw [hx9] at hn
          obtain ⟨rfl, s9⟩ := hn
          refine .ret ?_
          have hon := expr_on _ _ _ _ hx9
          obtain ⟨v6, h6, k1, k2, k3, k4⟩ := app1 (bytes := 8) ow9 (xs := [iv q9]) rfl rfl (by have := s9.hl; omega) (by omega)
          simp only [mach, mach2, mstd, ↓reduceIte, Nat.reduceEqDiff, Nat.reduceAdd, Nat.reduceMul, oL9.cells.ld, s9.own.cells.ld, mbl, Nat.reduceLeDiff, Nat.reduceLT, Int.reduceEq, ct1, (oL9.keep (Keep.push (fun _ => False) h9 (row 3 h9.length [iv q9])) (fun e => e)).cells.ld, k1]
          obtain ⟨va6, vc6, hv6⟩ := row_shape k2.rds
          have l9 := kp9.len
          have hb9 : ∀ q0, bk lv q0 → h'.length < q0 := fr5
          have oL6 := oL9.keep k3 (fun e => by have := hb9 _ e; have := oL9.lt; omega)
          have kph6 : Keep (fun _ => False) h h6 := kph9.trans' k3 (fun c hc e => by have := hb9 _ e; have := kp5.len; omega)
          refine XH_own oL6 (by rw [hv6]; rfl) (by rw [hv6]; simp [Value.cells]) (by rw [hv6]; rfl) (fun h7 t1 t2 t3 => ?_)
          have oL7 : Own h7 h1.length 23 [v6] := by rw [hv6]; simpa [Value.cells, hv6] using t1
          simp only [mach, mach2, mstd, ↓reduceIte, Nat.reduceEqDiff, Nat.reduceAdd, Nat.reduceMul, hw]
          have fr6 : ∀ q0, bk v6 q0 → h'.length < q0 := fun q0 e => by
            rcases k4 q0 e with e | e
            · exact hb9 q0 e
            · omega
          refine next2 (i + 1, q9, v6, l ++ [q9]) _ _ _ ⟨by simp only; omega, ?_, ?_, oL7, ?_, ?_, fr6, by simp [ln5], kph6.trans' t2 (fun c hc e => by omega), hon.2, by simp only; omega, ?_⟩ ⟨rfl, rfl, rfl, rfl, by rw [e8]; rfl, rfl, ?_, trivial⟩ (by simp only; omega)
          · refine (s9.keep k3 ?_).keep t2 ?_
            · rintro q0 (rfl | e) e2
              · have := hb9 _ e2; omega
              · have := hb9 _ e2; have := im3.lt _ e; omega
            · rintro q0 (rfl | e) e2
              · omega
              · have := im.lt _ e; omega
          · exact (oI9.keep k3 (fun e => by have := hb9 _ e; omega)).keep t2 (fun e => by omega)
          · exact (oE9.keep k3 (fun e => by have := hb9 _ e; omega)).keep t2 (fun e => by omega)
          · have := k2.keep t2 (fun q0 e e2 => by have := fr6 _ e; omega)
            simpa [ns] using this
          · intro x hx
            simp only at hx
            cases x with
            | none =>
              have := eq5 none (by rw [hdr, blocks, if_pos hio]; simp only [hx9, hx])
              rw [this]
            | some y =>
              obtain ⟨ye, yr⟩ := y
              have := eq5 (some (q9 :: ye, yr)) (by rw [hdr, blocks, if_pos hio]; simp only [hx9, hx])
              rw [this]; simp
          · simp only [Int.natCast_add, Int.cast_ofNat_Int]; rfl
      · simp only [mach, mach2, mstd, ↓reduceIte, Nat.reduceEqDiff, Nat.reduceAdd, Nat.reduceMul, on8.cells.ld, mbl, Nat.reduceLeDiff, Nat.reduceLT, Int.reduceEq, k2, a0]
        refine XX_of (must_false h8) (fun res hm hle hn => ?_)
        obtain ⟨rfl, v, rfl⟩ := hn
        refine .pan ?_
        simp only [mach, mach2, mstd, ↓reduceIte, Nat.reduceEqDiff, Nat.reduceAdd, Nat.reduceMul]
        refine out2 (.pan _) _ _ _ _ (by intro e; cases e) ?_
        simp only [mach, mach2, mstd, ↓reduceIte, Nat.reduceEqDiff, Nat.reduceAdd, Nat.reduceMul]
        exact fail8 _ _ v rfl rfl (noI (by rintro ⟨e | e, _⟩ <;> simp only at e <;> omega))
    by_cases k1 : k = 1
    · by_cases a1 : 0 < a
      · by_cases a8 : a ≤ 8
        · simp only [mach, mach2, mstd, ↓reduceIte, Nat.reduceEqDiff, Nat.reduceAdd, Nat.reduceMul, on8.cells.ld, mbl, Nat.reduceLeDiff, Nat.reduceLT, Int.reduceEq, k2, k1, a1, a8]
          refine XX_val (must_true h8) ?_
          by_cases f0 : 0 ≤ f
          case neg =>
            simp only [mach, mach2, mstd, ↓reduceIte, Nat.reduceEqDiff, Nat.reduceAdd, Nat.reduceMul, on8.cells.ld, mbl, Nat.reduceLeDiff, Nat.reduceLT, Int.reduceEq, f0]
            refine XX_of (must_false h8) (fun res hm hle hn => ?_)
            obtain ⟨rfl, v, rfl⟩ := hn
            refine .pan ?_
            simp only [mach, mach2, mstd, ↓reduceIte, Nat.reduceEqDiff, Nat.reduceAdd, Nat.reduceMul]
            refine out2 (.pan _) _ _ _ _ (by intro e; cases e) ?_
            simp only [mach, mach2, mstd, ↓reduceIte, Nat.reduceEqDiff, Nat.reduceAdd, Nat.reduceMul]
            exact fail8 _ _ v rfl rfl (noI (by rintro ⟨_, e, _⟩; exact f0 e))
          by_cases cp : c = (p : Int)
          case neg =>
            simp only [mach, mach2, mstd, ↓reduceIte, Nat.reduceEqDiff, Nat.reduceAdd, Nat.reduceMul, on8.cells.ld, s8.own.cells.ld, mbl, Nat.reduceLeDiff, Nat.reduceLT, Int.reduceEq, f0, cp]
            refine XX_of (must_false h8) (fun res hm hle hn => ?_)
            obtain ⟨rfl, v, rfl⟩ := hn
            refine .pan ?_
            simp only [mach, mach2, mstd, ↓reduceIte, Nat.reduceEqDiff, Nat.reduceAdd, Nat.reduceMul]
            refine out2 (.pan _) _ _ _ _ (by intro e; cases e) ?_
            simp only [mach, mach2, mstd, ↓reduceIte, Nat.reduceEqDiff, Nat.reduceAdd, Nat.reduceMul]
            exact fail8 _ _ v rfl rfl (noI (by rintro ⟨_, _, e⟩; exact cp e))
          have hio : infoOk ⟨k, a, f, c⟩ p := ⟨.inr ⟨k1, a1, a8⟩, f0, cp⟩
          simp only [mach, mach2, mstd, ↓reduceIte, Nat.reduceEqDiff, Nat.reduceAdd, Nat.reduceMul, on8.cells.ld, s8.own.cells.ld, mbl, Nat.reduceLeDiff, Nat.reduceLT, Int.reduceEq, f0, cp]
          refine XX_val (must_true h8) ?_
          simp only [mach, mach2, mstd, ↓reduceIte, Nat.reduceEqDiff, Nat.reduceAdd, Nat.reduceMul, on8.cells.ld, mbl, Nat.reduceLeDiff, Nat.reduceLT, Int.reduceEq]
          refine XX_of (expr_ok f (C.code.length + 1) h8 p a (by omega) pl5 s8) (fun res h9 hle9 hn => ?_)
          obtain ⟨kp9, hn⟩ := hn
          have kph9 : Keep (fun _ => False) h h9 := kph8.trans' kp9 (fun c hc e => by omega)
          have oL9 := oL8.keep kp9 (fun e => by omega)
          have oE9 := oE8.keep kp9 (fun e => by omega)
          have oI9 := oI8.keep kp9 (fun e => by omega)
          have ow9 := ow8.keep kp9 (fun q0 e e2 => by have := fr5 q0 e; omega)
          cases hx9 : expr C (C.code.length + 1) a f p with
          | none =>
            rw [hx9] at hn
            obtain ⟨v9, rfl⟩ := hn
            refine .pan ?_
            simp only [mach, mach2, mstd, ↓reduceIte, Nat.reduceEqDiff, Nat.reduceAdd, Nat.reduceMul]
            refine out2 (.pan _) _ _ _ _ (by intro e; cases e) ?_
            simp only [mach, mach2, mstd, ↓reduceIte, Nat.reduceEqDiff, Nat.reduceAdd, Nat.reduceMul]
            refine ends_fail hΨ v9 rfl rfl oL9 oE9 hLE (by omega) (by omega) kph9 ?_
            have := eq5 none (by rw [hdr, blocks, if_pos hio]; simp only [hx9])
            rw [eqE, this]
          | some q9 =>
            rw [hx9] at hn
            obtain ⟨rfl, s9⟩ := hn
            refine .ret ?_
            have hon := expr_on _ _ _ _ hx9
            obtain ⟨v6, h6, k1, k2, k3, k4⟩ := app1 (bytes := 8) ow9 (xs := [iv q9]) rfl rfl (by have := s9.hl; omega) (by omega)
            simp only [mach, mach2, mstd, ↓reduceIte, Nat.reduceEqDiff, Nat.reduceAdd, Nat.reduceMul, oL9.cells.ld, s9.own.cells.ld, mbl, Nat.reduceLeDiff, Nat.reduceLT, Int.reduceEq, ct1, (oL9.keep (Keep.push (fun _ => False) h9 (row 3 h9.length [iv q9])) (fun e => e)).cells.ld, k1]
            obtain ⟨va6, vc6, hv6⟩ := row_shape k2.rds
            have l9 := kp9.len
            have hb9 : ∀ q0, bk lv q0 → h'.length < q0 := fr5
            have oL6 := oL9.keep k3 (fun e => by have := hb9 _ e; have := oL9.lt; omega)
            have kph6 : Keep (fun _ => False) h h6 := kph9.trans' k3 (fun c hc e => by have := hb9 _ e; have := kp5.len; omega)
            refine XH_own oL6 (by rw [hv6]; rfl) (by rw [hv6]; simp [Value.cells]) (by rw [hv6]; rfl) (fun h7 t1 t2 t3 => ?_)
            have oL7 : Own h7 h1.length 23 [v6] := by rw [hv6]; simpa [Value.cells, hv6] using t1
            simp only [mach, mach2, mstd, ↓reduceIte, Nat.reduceEqDiff, Nat.reduceAdd, Nat.reduceMul, hw]
            have fr6 : ∀ q0, bk v6 q0 → h'.length < q0 := fun q0 e => by
              rcases k4 q0 e with e | e
              · exact hb9 q0 e
              · omega
            refine next2 (i + 1, q9, v6, l ++ [q9]) _ _ _ ⟨by simp only; omega, ?_, ?_, oL7, ?_, ?_, fr6, by simp [ln5], kph6.trans' t2 (fun c hc e => by omega), hon.2, by simp only; omega, ?_⟩ ⟨rfl, rfl, rfl, rfl, by rw [e8]; rfl, rfl, ?_, trivial⟩ (by simp only; omega)
            · refine (s9.keep k3 ?_).keep t2 ?_
              · rintro q0 (rfl | e) e2
                · have := hb9 _ e2; omega
                · have := hb9 _ e2; have := im3.lt _ e; omega
              · rintro q0 (rfl | e) e2
                · omega
                · have := im.lt _ e; omega
            · exact (oI9.keep k3 (fun e => by have := hb9 _ e; omega)).keep t2 (fun e => by omega)
            · exact (oE9.keep k3 (fun e => by have := hb9 _ e; omega)).keep t2 (fun e => by omega)
            · have := k2.keep t2 (fun q0 e e2 => by have := fr6 _ e; omega)
              simpa [ns] using this
            · intro x hx
              simp only at hx
              cases x with
              | none =>
                have := eq5 none (by rw [hdr, blocks, if_pos hio]; simp only [hx9, hx])
                rw [this]
              | some y =>
                obtain ⟨ye, yr⟩ := y
                have := eq5 (some (q9 :: ye, yr)) (by rw [hdr, blocks, if_pos hio]; simp only [hx9, hx])
                rw [this]; simp
            · simp only [Int.natCast_add, Int.cast_ofNat_Int]; rfl
        · simp only [mach, mach2, mstd, ↓reduceIte, Nat.reduceEqDiff, Nat.reduceAdd, Nat.reduceMul, on8.cells.ld, mbl, Nat.reduceLeDiff, Nat.reduceLT, Int.reduceEq, k2, k1, a1, a8]
          refine XX_of (must_false h8) (fun res hm hle hn => ?_)
          obtain ⟨rfl, v, rfl⟩ := hn
          refine .pan ?_
          simp only [mach, mach2, mstd, ↓reduceIte, Nat.reduceEqDiff, Nat.reduceAdd, Nat.reduceMul]
          refine out2 (.pan _) _ _ _ _ (by intro e; cases e) ?_
          simp only [mach, mach2, mstd, ↓reduceIte, Nat.reduceEqDiff, Nat.reduceAdd, Nat.reduceMul]
          exact fail8 _ _ v rfl rfl (noI (by rintro ⟨e | e, _⟩ <;> simp only at e <;> omega))
      · simp only [mach, mach2, mstd, ↓reduceIte, Nat.reduceEqDiff, Nat.reduceAdd, Nat.reduceMul, on8.cells.ld, mbl, Nat.reduceLeDiff, Nat.reduceLT, Int.reduceEq, k2, k1, a1]
        refine XX_of (must_false h8) (fun res hm hle hn => ?_)
        obtain ⟨rfl, v, rfl⟩ := hn
        refine .pan ?_
        simp only [mach, mach2, mstd, ↓reduceIte, Nat.reduceEqDiff, Nat.reduceAdd, Nat.reduceMul]
        refine out2 (.pan _) _ _ _ _ (by intro e; cases e) ?_
        simp only [mach, mach2, mstd, ↓reduceIte, Nat.reduceEqDiff, Nat.reduceAdd, Nat.reduceMul]
        exact fail8 _ _ v rfl rfl (noI (by rintro ⟨e | e, _⟩ <;> simp only at e <;> omega))
    · simp only [mach, mach2, mstd, ↓reduceIte, Nat.reduceEqDiff, Nat.reduceAdd, Nat.reduceMul, on8.cells.ld, mbl, Nat.reduceLeDiff, Nat.reduceLT, Int.reduceEq, k2, k1]
      refine XX_of (must_false h8) (fun res hm hle hn => ?_)
      obtain ⟨rfl, v, rfl⟩ := hn
      refine .pan ?_
      simp only [mach, mach2, mstd, ↓reduceIte, Nat.reduceEqDiff, Nat.reduceAdd, Nat.reduceMul]
      refine out2 (.pan _) _ _ _ _ (by intro e; cases e) ?_
      simp only [mach, mach2, mstd, ↓reduceIte, Nat.reduceEqDiff, Nat.reduceAdd, Nat.reduceMul]
      exact fail8 _ _ v rfl rfl (noI (by rintro ⟨e | e, _⟩ <;> simp only at e <;> omega))
  · have hin : i = C.infos.length := by omega
    subst hin
    have eqB := eq5 (some ([], p)) (by rw [List.drop_length]; rfl)
    simp only [List.append_nil] at eqB
    simp only [mach, mach2, mstd, ↓reduceIte, Nat.reduceEqDiff, Nat.reduceAdd, Nat.reduceMul, hi2]
    refine out2 (.exit 2) _ _ _ _ (by intro e; cases e) ?_
    have fail5 := fun e l v e2 e3 hn => ends_fail hΨ (e := e) (l := l) v e2 e3 oL5 oE5 hLE (by omega) (by omega) kp5 hn
    by_cases hpn : (p : Int) = (C.code.length : Int)
    · simp only [mach, mach2, mstd, ↓reduceIte, Nat.reduceEqDiff, Nat.reduceAdd, Nat.reduceMul, s5.own.cells.ld, oI5.cells.ld, mbl, Nat.reduceLeDiff, Nat.reduceLT, Int.reduceEq, hvc, hpn]
      refine XX_val (must_true h5) ?_
      obtain ⟨va5, vc5, hv5⟩ := row_shape ow5.rds
      simp only [mach, mach2, mstd, ↓reduceIte, Nat.reduceEqDiff, Nat.reduceAdd, Nat.reduceMul, oL5.cells.ld, mbl, Nat.reduceLeDiff, Nat.reduceLT, Int.reduceEq]
      refine XH_own oL5 (by rw [hv5]; rfl) (by rw [hv5]; simp [Value.cells]) (by rw [hv5]; rfl) (fun h6 t1 t2 t3 => ?_)
      have oL6 : Own h6 h1.length 23 [lv] := by rw [hv5]; simpa [Value.cells, hv5] using t1
      have oE6 := oE5.keep t2 (fun e => by omega)
      have ow6 := ow5.keep t2 (fun q0 e e2 => by have := fr5 q0 e; omega)
      simp only [mach, mach2, mstd, ↓reduceIte, Nat.reduceEqDiff, Nat.reduceAdd, Nat.reduceMul]
      refine XH_own oE6 rfl (by simp [Value.cells]) rfl (fun h7 u1 u2 u3 => ?_)
      have oE7 : Own h7 h2.length 28 [iv 0] := by simpa [Value.cells] using u1
      have oL7 := oL6.keep u2 (fun e => by omega)
      have ow7 := ow6.keep u2 (fun q0 e e2 => by have := fr5 q0 e; omega)
      have kph7 : Keep (fun _ => False) h h7 := (kp5.trans' t2 (fun c hc e => by omega)).trans' u2 (fun c hc e => by omega)
      simp only [mach, mach2, mstd, ↓reduceIte, Nat.reduceEqDiff, Nat.reduceAdd, Nat.reduceMul]
      refine hΨ _ _ (dfr_of (by rfl) (fun Ψ4 hΨ4 => ?_))
      simp only [mach, mach2, mstd, ↓reduceIte, Nat.reduceEqDiff, Nat.reduceAdd, Nat.reduceMul, r14, Option.getD_none, mbl, Nat.reduceLeDiff, Nat.reduceLT, Int.reduceEq]
      refine hΨ4 _ _ ⟨.inl rfl, rfl, Nat.le_refl _, ⟨[], rfl⟩, rvc2 (p := .pointer (some ⟨h1.length, 0, none⟩)) (q := .pointer (some ⟨h2.length, 0, none⟩)) (u := lv) (v := iv 0) rfl ?_ rfl ?_ ⟨kph7, ?_⟩⟩
      · simp only [uval]; rw [oL7.cells.ld]; rfl
      · simp only [uval]; rw [oE7.cells.ld]; rfl
      · have : ends C = some l := by rw [eqE, eqB]; simp only; rw [if_pos (by omega)]
        rw [this]
        refine ⟨lv, rfl, by rw [ln5]; exact ow7, fun q0 e => by have := fr5 q0 e; omega⟩
    · simp only [mach, mach2, mstd, ↓reduceIte, Nat.reduceEqDiff, Nat.reduceAdd, Nat.reduceMul, s5.own.cells.ld, oI5.cells.ld, mbl, Nat.reduceLeDiff, Nat.reduceLT, Int.reduceEq, hvc, hpn]
      refine XX_of (must_false h5) (fun res hm hle hn => ?_)
      obtain ⟨rfl, v, rfl⟩ := hn
      refine .pan ?_
      simp only [mach, mach2, mstd, ↓reduceIte, Nat.reduceEqDiff, Nat.reduceAdd, Nat.reduceMul, wrN_t, wrN_n, wrN_z, wrN_nil, keepN_no]
      exact fail5 _ _ v rfl rfl (by rw [eqE, eqB]; simp only; rw [if_neg (by omega)])

theorem Check_ok (im : Img h C vi vc vt vp vk) (fit : Cx.fits C) : Gets Try.prog 7 [.agg #[vi, vc, vt, vp, iv C.main, vk]] h (fun res h' => Keep (fun _ => False) h h' ∧ res = .ret (iv (if (ends C).isSome then 0 else 7))) := by
  refine Gets.of (keep := false) hP (draw_ok hM) k7 (by rfl) (fun Ψ hΨ => ?_)
  obtain ⟨ia, ic, hvi⟩ := row_shape im.ri
  have oI := Own.new h 26 h.length [vi, vc, vt, vp, iv C.main, vk]
  have kp1 : Keep (fun _ => False) h (h ++ [row 26 h.length [vi, vc, vt, vp, iv C.main, vk]]) := Keep.push _ _ _
  simp only [mach, mach2, mstd, ↓reduceIte, Nat.reduceEqDiff, Nat.reduceAdd, Nat.reduceMul, r7, mbl, Nat.reduceLeDiff, Nat.reduceLT, Int.reduceEq]
  generalize hh1 : h ++ [row 26 h.length [vi, vc, vt, vp, iv C.main, vk]] = h1 at oI kp1 ⊢
  simp only [mach, mach2, mstd, ↓reduceIte, Nat.reduceEqDiff, Nat.reduceAdd, Nat.reduceMul, oI.cells.lds 0 6 (by simp), mbl, Nat.reduceLeDiff, Nat.reduceLT, Int.reduceEq]
  refine XX_of (Ends_ok (im.keep kp1 (fun _ _ e => e)) fit) (fun res h2 hle hn => ?_)
  obtain ⟨kp2, hn⟩ := hn
  cases he : ends C with
  | none =>
    rw [he] at hn
    subst hn
    refine .ret ?_
    simp only [mach, mach2, mstd, ↓reduceIte, Nat.reduceEqDiff, Nat.reduceAdd, Nat.reduceMul, mbl, Nat.reduceLeDiff, Nat.reduceLT, Int.reduceEq]
    exact hΨ _ _ (fin_ret (rv1 rfl ⟨kp1.trans kp2, by simp [he, tup]⟩))
  | some l =>
    rw [he] at hn
    obtain ⟨v, rfl, _, _⟩ := hn
    refine .ret ?_
    simp only [mach, mach2, mstd, ↓reduceIte, Nat.reduceEqDiff, Nat.reduceAdd, Nat.reduceMul, mbl, Nat.reduceLeDiff, Nat.reduceLT, Int.reduceEq]
    exact hΨ _ _ (fin_ret (rv1 rfl ⟨kp1.trans kp2, by simp [he, tup]⟩))

end
end Go.S16

/- Images: the document's reader: its functions come to what the plain functions say. -/
set_option linter.unusedVariables false
set_option linter.unusedSimpArgs false
namespace Go.S16
open Go Go.Eng Go.Proofs Go.Chk

/-- The document's reader at a place; bad: it is not sound. -/
structure Rf (h : AH) (b : Nat) (C : Cx) (vi vc vt vp vk : Value) (p : Nat) (bad : Bool) : Prop where
  own : Own h b 87 [vi, vc, vt, vp, iv C.main, vk, iv p, .bool bad]
  im : Img h C vi vc vt vp vk
  ne : ∀ q, (rb vi q ∨ rb vc q ∨ rb vp q ∨ rb vk q) → q ≠ b
  hl : C.code.length ≤ 200000
  le : p ≤ C.code.length
theorem Rf.keep {S : Nat → Prop} {h h' : AH} {b : Nat} {C : Cx} {vi vc vt vp vk : Value} {p : Nat} {bad : Bool} (s : Rf h b C vi vc vt vp vk p bad) (k : Keep S h h') (hs : ∀ q, (q = b ∨ rb vi q ∨ rb vc q ∨ rb vp q ∨ rb vk q) → ¬ S q) : Rf h' b C vi vc vt vp vk p bad :=
  ⟨s.own.keep k (hs _ (.inl rfl)), s.im.keep k (fun q e => hs q (.inr e)), s.ne, s.hl, s.le⟩
def Ro (h : AH) (b : Nat) (C : Cx) (vi vc vt vp vk : Value) : Option Nat → Prop
  | some p => Rf h b C vi vc vt vp vk p false
  | none => ∃ p, Rf h b C vi vc vt vp vk p true
theorem Ro.any {h : AH} {b : Nat} {C : Cx} {vi vc vt vp vk : Value} {o : Option Nat} (s : Ro h b C vi vc vt vp vk o) : ∃ p bad, Rf h b C vi vc vt vp vk p bad := by
  cases o with
  | some p => exact ⟨p, _, s⟩
  | none => obtain ⟨p, s⟩ := s; exact ⟨p, _, s⟩
theorem Ro.keep {S : Nat → Prop} {h h' : AH} {b : Nat} {C : Cx} {vi vc vt vp vk : Value} {o : Option Nat} (s : Ro h b C vi vc vt vp vk o) (k : Keep S h h') (hs : ∀ q, (q = b ∨ rb vi q ∨ rb vc q ∨ rb vp q ∨ rb vk q) → ¬ S q) : Ro h' b C vi vc vt vp vk o := by
  cases o with
  | some p => exact Rf.keep s k hs
  | none => obtain ⟨p, s⟩ := s; exact ⟨p, s.keep k hs⟩
section
variable {h : AH} {b : Nat} {C : Cx} {vi vc vt vp vk : Value}

end
end Go.S16

/- Images: the document's reader: operands, fields, things. -/
set_option linter.unusedVariables false
set_option linter.unusedSimpArgs false
namespace Go.S16
open Go Go.Eng Go.Proofs Go.Chk

/-- What is asked of the sizes. -/
structure Sz (C : Cx) : Prop where
  tops : C.tops.length ≤ 9223372036854775807
  cons : C.cons.length ≤ 9223372036854775807
  infos : C.infos.length ≤ 9223372036854775807
  nt : C.nt ≤ 9223372036854775807
section
variable {h : AH} {b : Nat} {C : Cx} {vi vc vt vp vk : Value}

end
end Go.S16

/- Images: the document's reader: things of a let. -/
set_option linter.unusedVariables false
set_option linter.unusedSimpArgs false
namespace Go.S16
open Go Go.Eng Go.Proofs Go.Chk
section
variable {h : AH} {b : Nat} {C : Cx} {vi vc vt vp vk : Value}

end
end Go.S16

/- Images: the document's reader: alternatives. -/
set_option linter.unusedVariables false
set_option linter.unusedSimpArgs false
namespace Go.S16
open Go Go.Eng Go.Proofs Go.Chk

/-- What stands between the rounds. -/
structure Ml (h : AH) (b : Nat) (C : Cx) (vi vc vt vp vk : Value) (n : Int) (q : Nat) (a : Nat × Option Nat × Value × Value × List (Int × Int)) (h' : AH) : Prop where
  i1 : a.1 ≤ n.toNat
  kp : Keep (· = b) h h'
  s : Ro h' b C vi vc vt vp vk a.2.1
  op : Ows h' 3 1 a.2.2.1 a.1 (ns (a.2.2.2.2.map (·.2)))
  om : Ows h' 3 1 a.2.2.2.1 a.1 (ns (a.2.2.2.2.map (·.1)))
  fp : ∀ x, bk a.2.2.1 x → h.length ≤ x
  fm : ∀ x, bk a.2.2.2.1 x → h.length ≤ x
  ne : ∀ x, bk a.2.2.1 x → ¬ bk a.2.2.2.1 x
  ln : a.2.2.2.2.length = a.1
  pl : ∀ p, a.2.1 = some p → a.1 ≤ p
  eq : wys C n.toNat q = a.2.1.bind fun p => (wys C (n.toNat - a.1) p).map fun y => (a.2.2.2.2 ++ y.1, y.2)
section
variable {h : AH} {b : Nat} {C : Cx} {vi vc vt vp vk : Value}
/-- A place is noted, and how many variables. -/
theorem Ml.next {n : Int} {q i : Nat} {o o2 : Option Nat} {wp wm : Value} {l : List (Int × Int)} {h1 h2 : AH} {p v : Int} (m : Ml h b C vi vc vt vp vk n q (i, o, wp, wm, l) h1) (him : ∀ x, (x = b ∨ rb vi x ∨ rb vc x ∨ rb vp x ∨ rb vk x) → x < h.length) (hi : i ≤ 200000) (hin : i + 1 ≤ n.toNat) (k : Keep (· = b) h1 h2) (s : Ro h2 b C vi vc vt vp vk o2) (hpl : ∀ p, o2 = some p → i + 1 ≤ p)
    (eq : wys C n.toNat q = o2.bind fun u => (wys C (n.toNat - (i + 1)) u).map fun y => ((l ++ [(v, p)]) ++ y.1, y.2)) :
    ∃ wp' wm' h3 h4, appv false (h2 ++ [row 3 h2.length [iv p]]) false 3 1 8 wp (.slice (some ⟨h2.length, 0, none⟩) 1 1) = some (wp', h3) ∧ appv false (h3 ++ [row 3 h3.length [iv v]]) false 3 1 8 wm (.slice (some ⟨h3.length, 0, none⟩) 1 1) = some (wm', h4) ∧
      Ml h b C vi vc vt vp vk n q (i + 1, o2, wp', wm', l ++ [(v, p)]) h4 := by
  obtain ⟨i1, kp, s0, op, om, fp, fm, ne, ln, pl, _⟩ := m
  have hb := him b (.inl rfl)
  simp only at i1 op om fp fm ne ln
  have hbp : ∀ x, bk wp x → ¬ x = b := fun x hx e => by have := fp x hx; omega
  have hbm : ∀ x, bk wm x → ¬ x = b := fun x hx e => by have := fm x hx; omega
  have hlen := kp.len
  have hlen2 := k.len
  obtain ⟨wp', h3, a1, a2, a3, a4⟩ := app1 (bytes := 8) (xs := [iv p]) (op.keep k hbp) rfl rfl (by omega) (by omega)
  have omk := (om.keep k hbm).keep a3 (fun x hx e => ne x e hx)
  have hmlt := om.lt
  have hplt := op.lt
  obtain ⟨wm', h4, b1, b2, b3, b4⟩ := app1 (bytes := 8) (xs := [iv v]) omk rfl rfl (by omega) (by omega)
  have fp' : ∀ x, bk wp' x → h.length ≤ x := fun x hx => by
    rcases a4 x hx with e | e
    · exact fp x e
    · omega
  have hl3 := a3.len
  have fm' : ∀ x, bk wm' x → h.length ≤ x := fun x hx => by
    rcases b4 x hx with e | e
    · exact fm x e
    · omega
  have npm : ∀ x, bk wp' x → ¬ bk wm x := fun x hx e => by
    rcases a4 x hx with c | c
    · exact ne x c e
    · have := hmlt x e
      omega
  have hplt' := a2.lt
  refine ⟨wp', wm', h3, h4, a1, b1, hin, ?_, ?_, ?_, ?_, fp', fm', ?_, by simp [ln], hpl, eq⟩
  · exact ((kp.trans k).trans' a3 (fun x hx e => by have := fp x e; omega)).trans' b3 (fun x hx e => by have := fm x e; omega)
  · exact (s.keep a3 (fun x hx e => by have := fp x e; have := him x hx; omega)).keep b3 (fun x hx e => by have := fm x e; have := him x hx; omega)
  · have := a2.keep b3 npm
    simp only [List.map_append, List.map_cons, List.map_nil, ns_app] at this ⊢
    exact this
  · simp only [List.map_append, List.map_cons, List.map_nil, ns_app] at b2 ⊢
    exact b2
  · intro x hx e
    rcases b4 x e with c | c
    · exact npm x hx c
    · have := hplt' x hx
      omega
theorem Ro.lt {o : Option Nat} (s : Ro h b C vi vc vt vp vk o) : ∀ x, (x = b ∨ rb vi x ∨ rb vc x ∨ rb vp x ∨ rb vk x) → x < h.length := by
  obtain ⟨p, bad, s⟩ := s.any
  rintro x (rfl | e)
  · exact s.own.lt
  · exact s.im.lt x e

end
end Go.S16

/- Images: the document's reader: expressions. -/
set_option linter.unusedVariables false
set_option linter.unusedSimpArgs false
namespace Go.S16
open Go Go.Eng Go.Proofs Go.Chk

section
variable {h : AH} {b : Nat} {C : Cx} {vi vc vt vp vk : Value}

end
end Go.S16

/- Images: the document's Ends. -/
set_option linter.unusedVariables false
set_option linter.unusedSimpArgs false
namespace Go.S16
open Go Go.Eng Go.Proofs Go.Chk

structure Mi (h : AH) (C : Cx) (vi vc vt vp vk : Value) (bI bR : Nat) (a : Nat × Nat × Value × List Nat) (h' : AH) : Prop where
  i1 : a.1 ≤ C.infos.length
  s : Rf h' bR C vi vc vt vp vk a.2.1 false
  oI : Own h' bI 26 [vi, vc, vt, vp, iv C.main, vk]
  ow : Ows h' 3 1 a.2.2.1 a.1 (ns (a.2.2.2.map Int.ofNat))
  fr : ∀ q, bk a.2.2.1 q → bR < q
  ln : a.2.2.2.length = a.1
  kp : Keep (fun _ => False) h h'
  bl : a.1 ≤ a.2.1
  eq : ∀ x, blocks C (C.code.length + 1) (C.infos.drop a.1) a.2.1 = x → blocks C (C.code.length + 1) C.infos 0 = (match x with
    | some (e, r) => some (a.2.2.2 ++ e, r)
    | none => none)

section
variable {h : AH} {C : Cx} {vi vc vt vp vk : Value}

end
end Go.S16

/- Images that are given; two rows of numbers held against each other; a fixed call; Checks, the walk. -/
set_option linter.unusedVariables false
set_option linter.unusedSimpArgs false
namespace Go.S16
open Go Go.Eng Go.Proofs Go.Chk

theorem wakes_ok (h : AH) : Gets Try.prog 6 [] h (fun res h' => h' = h ∧ res = .ret (.bool true)) :=
  closed_getsL (n := 100) (fuel := 1000) (keep := fun _ => false) hP hM (by kernel_rfl) h

/-! ### What is given -/
noncomputable def fsOf (t : TypeId) : Array Field := match Try.prog.underlying t with
  | some (.struct fs) => fs
  | _ => #[]
theorem u_img : Try.prog.underlying 26 = some (.struct (fsOf 26)) := by kernel_rfl
theorem u_inf : Try.prog.underlying 44 = some (.struct (fsOf 44)) := by kernel_rfl
theorem f_img : ((fsOf 26).map fun f => (f.type, f.offset)).toList = [(22, 0), (23, 1), (24, 2), (23, 3), (3, 4), (23, 5)] := by kernel_rfl
theorem f_inf : ((fsOf 44).map fun f => (f.type, f.offset)).toList = [(3, 0), (3, 1), (3, 2), (3, 3)] := by kernel_rfl
theorem u_infs : Try.prog.underlying 22 = some (.slice 44) := by kernel_rfl
theorem u_ints : Try.prog.underlying 23 = some (.slice 3) := by kernel_rfl
theorem u_strs : Try.prog.underlying 24 = some (.slice 9) := by kernel_rfl
theorem u_str : Try.prog.underlying 9 = some .string := by kernel_rfl
theorem u_int : Try.prog.underlying 3 = some (.int .i64) := by kernel_rfl
theorem c_img : Try.prog.cellsOf 26 = 6 := by kernel_rfl
theorem c_inf : Try.prog.cellsOf 44 = 4 := by kernel_rfl
theorem c_int : Try.prog.cellsOf 3 = 1 := by kernel_rfl
theorem c_infs : Try.prog.cellsOf 22 = 1 := by kernel_rfl
theorem c_ints : Try.prog.cellsOf 23 = 1 := by kernel_rfl
theorem c_strs : Try.prog.cellsOf 24 = 1 := by kernel_rfl
theorem len4 {α : Type} {l : List α} (h : l.length = 4) : ∃ a b c e, l = [a, b, c, e] := by
  match l, h with
  | [a, b, c, e], _ => exact ⟨a, b, c, e, rfl⟩
theorem len6 {α : Type} {l : List α} (h : l.length = 6) : ∃ a b c e f g, l = [a, b, c, e, f, g] := by
  match l, h with
  | [a, b, c, e, f, g], _ => exact ⟨a, b, c, e, f, g, rfl⟩
/-- Texts as cells. -/
def sts (l : List ByteArray) : List Value := l.map Value.string

section
variable {H : Type} {h : AH} {N : Nat}
theorem sl_max {t e : TypeId} {v : Value} {d : DataW H} (hu : Try.prog.underlying t = some (.slice e)) (hr : Rd' Try.prog h t [v] d) : ∃ a n c, v = .slice a n c ∧ n ≤ 9223372036854775807 := by
  generalize hc : [v] = cs at hr
  cases hr with
  | bool h' => rw [hu] at h'; cases h'
  | int h' => rw [hu] at h'; cases h'
  | str h' => rw [hu] at h'; cases h'
  | snil h' => cases hc; exact ⟨_, _, _, rfl, by omega⟩
  | sempty h' => cases hc; exact ⟨_, _, _, rfl, by omega⟩
  | slice h' hcell hel hn hd hm hsz each => cases hc; exact ⟨_, _, _, rfl, hm⟩
  | struct h' => rw [hu] at h'; cases h'
  | array h' => rw [hu] at h'; cases h'
theorem rds_max {t e : TypeId} {v : Value} {d : DataW H} {k n : Nat} {cs : List Value} (hu : Try.prog.underlying t = some (.slice e)) (hr : Rd' Try.prog h t [v] d) (hs : Rds h k v n cs) : n ≤ 9223372036854775807 := by
  obtain ⟨a, m, c, e1, h1⟩ := sl_max hu hr
  obtain ⟨a', c', e2⟩ := row_shape hs
  rw [e1] at e2; cases e2; exact h1
theorem ints_of (B : Bulk H) {v : Value} {d : DataW H} (hr : Rd' Try.prog h 23 [v] d) (hB : B.f d ≤ N) : ∃ ys : List Int, Rds h 1 v ys.length (ns ys) ∧ (∀ y ∈ ys, rng y) ∧ ys.length ≤ N := by
  obtain ⟨ys, a, b, c⟩ := rdRow B (f := fun x : Int => [iv x]) (Q := rng) u_ints (fun x => rfl) (fun cs d' r _ => by obtain ⟨w, e, g⟩ := rdI u_int r; exact ⟨w, e, g⟩) hr hB
  refine ⟨ys, ?_, b, c⟩
  have : ns ys = ys.flatMap fun x => [iv x] := by
    clear a b c
    induction ys with
    | nil => rfl
    | cons y ys ih => simp only [ns, List.map_cons, List.flatMap_cons] at ih ⊢; rw [ih]; rfl
  rw [this]; exact a
theorem texts_of (B : Bulk H) {v : Value} {d : DataW H} (hr : Rd' Try.prog h 24 [v] d) (hB : B.f d ≤ N) : ∃ ys : List ByteArray, Rds h 1 v ys.length (sts ys) ∧ (∀ y ∈ ys, y.size ≤ N) ∧ ys.length ≤ N := by
  obtain ⟨ys, a, b, c⟩ := rdRow B (f := fun x : ByteArray => [Value.string x]) (Q := fun y => y.size ≤ N) u_strs (fun x => rfl) (fun cs d' r hb => by obtain ⟨w, e, g⟩ := rdS B u_str r; exact ⟨w, e, Nat.le_trans g hb⟩) hr hB
  refine ⟨ys, ?_, b, c⟩
  have : sts ys = ys.flatMap fun x => [Value.string x] := by
    clear a b c
    induction ys with
    | nil => rfl
    | cons y ys ih => simp only [sts, List.map_cons, List.flatMap_cons] at ih ⊢; rw [ih]; rfl
  rw [this]; exact a
theorem inf_of (B : Bulk H) {cs : List Value} {d : DataW H} (hr : Rd' Try.prog h 44 cs d) : ∃ w : Inf, cs = ns w.cells ∧ rng w.k ∧ rng w.a ∧ rng w.f ∧ rng w.c := by
  obtain ⟨hl, hf⟩ := rdT B u_inf f_inf hr
  rw [c_inf] at hl
  obtain ⟨a, b, c, e, rfl⟩ := len4 hl
  obtain ⟨d0, r0, _⟩ := hf 0 _ _ rfl
  obtain ⟨d1, r1, _⟩ := hf 1 _ _ rfl
  obtain ⟨d2, r2, _⟩ := hf 2 _ _ rfl
  obtain ⟨d3, r3, _⟩ := hf 3 _ _ rfl
  rw [c_int] at r0 r1 r2 r3
  obtain ⟨n0, e0, g0⟩ := rdI u_int r0
  obtain ⟨n1, e1, g1⟩ := rdI u_int r1
  obtain ⟨n2, e2, g2⟩ := rdI u_int r2
  obtain ⟨n3, e3, g3⟩ := rdI u_int r3
  simp at e0 e1 e2 e3
  subst e0; subst e1; subst e2; subst e3
  exact ⟨⟨n0, n1, n2, n3⟩, rfl, g0, g1, g2, g3⟩
theorem infs_of (B : Bulk H) {v : Value} {d : DataW H} (hr : Rd' Try.prog h 22 [v] d) (hB : B.f d ≤ N) : ∃ ys : List Inf, Rds h 4 v ys.length (rowsOf Inf.cells ys) ∧ (∀ w ∈ ys, rng w.k ∧ rng w.a ∧ rng w.f ∧ rng w.c) ∧ ys.length ≤ N :=
  rdRow B (f := fun x : Inf => ns x.cells) (Q := fun w => rng w.k ∧ rng w.a ∧ rng w.f ∧ rng w.c) u_infs (fun x => rfl) (fun cs d' r _ => by obtain ⟨w, e, g⟩ := inf_of B r; exact ⟨w, e, g⟩) hr hB
/-- An image that is given. -/
structure Given (h : AH) (N : Nat) (C : Cx) (texts : List ByteArray) (vi vc vt vp vk : Value) : Prop where
  im : Img h C vi vc vt vp vk
  z : Sz C
  cl : C.code.length ≤ 9223372036854775807
  rt : Rds h 1 vt texts.length (sts texts)
  nt : C.nt = texts.length
  li : C.infos.length ≤ N
  lc : C.code.length ≤ N
  lp : C.tops.length ≤ N
  lk : C.cons.length ≤ N
  lt : texts.length ≤ N
  gi : ∀ w ∈ C.infos, rng w.k ∧ rng w.a ∧ rng w.f ∧ rng w.c
theorem image_of (B : Bulk H) {cs : List Value} {d : DataW H} (hr : Rd' Try.prog h 26 cs d) (hB : B.f d ≤ N) : ∃ C texts vi vc vt vp vk, cs = [vi, vc, vt, vp, iv C.main, vk] ∧ Given h N C texts vi vc vt vp vk := by
  obtain ⟨hl, hf⟩ := rdT B u_img f_img hr
  rw [c_img] at hl
  obtain ⟨a, b, c, e, f, g, rfl⟩ := len6 hl
  obtain ⟨d0, r0, b0⟩ := hf 0 _ _ rfl
  obtain ⟨d1, r1, b1⟩ := hf 1 _ _ rfl
  obtain ⟨d2, r2, b2⟩ := hf 2 _ _ rfl
  obtain ⟨d3, r3, b3⟩ := hf 3 _ _ rfl
  obtain ⟨d4, r4, b4⟩ := hf 4 _ _ rfl
  obtain ⟨d5, r5, b5⟩ := hf 5 _ _ rfl
  rw [c_infs] at r0
  rw [c_ints] at r1 r3 r5
  rw [c_strs] at r2
  rw [c_int] at r4
  have q0 : Rd' Try.prog h 22 [a] d0 := by simpa using r0
  have q1 : Rd' Try.prog h 23 [b] d1 := by simpa using r1
  have q2 : Rd' Try.prog h 24 [c] d2 := by simpa using r2
  have q3 : Rd' Try.prog h 23 [e] d3 := by simpa using r3
  have q5 : Rd' Try.prog h 23 [g] d5 := by simpa using r5
  obtain ⟨is, i1, i2, i3⟩ := infs_of B (v := a) (N := N) q0 (by omega)
  obtain ⟨co, c1, c2, c3⟩ := ints_of B (v := b) (N := N) q1 (by omega)
  obtain ⟨tx, t1, t2, t3⟩ := texts_of B (v := c) (N := N) q2 (by omega)
  obtain ⟨tp, p1, p2, p3⟩ := ints_of B (v := e) (N := N) q3 (by omega)
  obtain ⟨m, e4, _⟩ := rdI u_int r4
  obtain ⟨ks, k1, k2, k3⟩ := ints_of B (v := g) (N := N) q5 (by omega)
  simp at e4
  subst e4
  obtain ⟨ta, tc, ht⟩ := row_shape t1
  exact ⟨⟨is, co, tx.length, tp, m, ks⟩, tx, a, b, c, e, g, rfl, ⟨i1, c1, ⟨ta, tc, ht⟩, p1, k1⟩, ⟨rds_max u_ints q3 p1, rds_max u_ints q5 k1, rds_max u_infs q0 i1, rds_max u_strs q2 t1⟩, rds_max u_ints q1 c1, t1, rfl, i3, c3, p3, k3, t3, i2⟩
end

/-! ### Checks -/
section
variable {h : AH} {N : Nat} {C : Cx} {texts : List ByteArray} {vi vc vt vp vk : Value}
theorem Given.fits (g : Given h N C texts vi vc vt vp vk) : Cx.fits C := ⟨g.z.infos, g.cl, g.z.tops, g.z.cons⟩
theorem Given.fr (g : Given h N C texts vi vc vt vp vk) : ∀ x ∈ C.infos, x.f ≤ 9223372036854775807 := fun x hx => (g.gi x hx).2.2.1.2
end
end Go.S16
