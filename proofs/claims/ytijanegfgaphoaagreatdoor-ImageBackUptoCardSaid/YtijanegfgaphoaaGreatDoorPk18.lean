import Derived.Test.YtijanegfgaphoaaGreatDoorPk17
import Derived.Test.YtijanegfgaphoaaGreatDoorPk16
set_option linter.unusedVariables false
set_option linter.unusedSimpArgs false
namespace Go.S17
open Go Go.Eng Go.Proofs Go.Chk
theorem rvc2 {e l : PE} {h : AH} {ds : List Dfr} {x y : RX} {f g : U} {p q u v : Value} {K : List Value -> Prop} (hx : rx e l x = some p) (hu : uval Tryz.prog h h.length f p = some (u, none)) (hy : rx e l y = some q) (hv : uval Tryz.prog h h.length g q = some (v, none)) (hk : K [u, v]) :
    rvK Tryz.prog ⟨e, l, h, ds⟩ [.c x f, .c y g] K := by
  simp only [rvK, hx, vK, hu, rK, hy, hv]; exact hk
theorem small_ok (h : AH) (c : Int) : Gets Tryz.prog 49 [iv c] h (fun res h' => h' = h /\ res = .ret (.bool (decide (¬ (0 <= c /\ c <= 8))))) := by
  refine Gets.of (keep := false) hP (draw_ok hM) k49 (by rfl) (fun Ψ hΨ => ?_)
  by_cases h0 : c < 0
  · simp only [mach, mach2, mstd, ↓reduceIte, Nat.reduceEqDiff, Nat.reduceAdd, Nat.reduceMul, r49, h0]
    exact hΨ _ _ (fin_ret (rv1 rfl ⟨rfl, by simp [tup]; omega⟩))
  · simp only [mach, mach2, mstd, ↓reduceIte, Nat.reduceEqDiff, Nat.reduceAdd, Nat.reduceMul, r49, h0]
    exact hΨ _ _ (fin_ret (rv1 rfl ⟨rfl, by simp [tup]; omega⟩))
section
variable {h : AH} {b : Nat} {C : Cx} {vi vc vt vp vk : Value} {p : Nat}
theorem index_ok (im : Img h C vi vc vt vp vk) (hm : C.cons.length <= 9223372036854775807) : Gets Tryz.prog 64 [vk, .func (.func 49) #[] #[]] h (fun res h' => h' = h /\ ∃ i, res = .ret (iv i) /\ (0 <= i ↔ ¬ consOk C)) := by
  refine Gets.of (keep := false) hP (draw_ok hM) k64 (by rfl) (fun Ψ hΨ => ?_)
  obtain ⟨ka, kc, hvk⟩ := row_shape im.rk
  subst hvk
  simp only [mach, mach2, mstd, ↓reduceIte, Nat.reduceEqDiff, Nat.reduceAdd, Nat.reduceMul, r64]
  refine XLo_rule (α := Nat) (fun i => [(0, .slice ka C.cons.length kc), (1, .func (.func 49) #[] #[]), (7, iv C.cons.length), (8, iv i)])
    (fun i h' => i <= C.cons.length /\ h' = h /\ ∀ j, j < i -> ∀ c, C.cons[j]? = some c -> 0 <= c /\ c <= 8) (fun i => C.cons.length - i) 0 ⟨Nat.zero_le _, rfl, fun j hj => by omega⟩ ⟨rfl, rfl, rfl, rfl, trivial⟩ ?_
  rintro i h1 Ψ2 ⟨i1, rfl, hall⟩ next out
  by_cases hi : (i : Int) < (C.cons.length : Int)
  · have h0 : 0 <= (i : Int) := by omega
    have hw : IntKind.i64.wrap ((i : Int) + 1) = i + 1 := i64w (by omega) (by omega)
    have hx : C.cons[(i : Int).toNat]? = some C.cons[i] := by rw [Int.toNat_natCast]; exact List.getElem?_eq_getElem (by omega)
    obtain ⟨b1, o1, c1, e1, _, hld⟩ := rds_ix im.rk h0 hx
    cases e1
    rw [Int.toNat_natCast] at hld
    simp only [mach, mach2, mstd, ↓reduceIte, Nat.reduceEqDiff, Nat.reduceAdd, Nat.reduceMul, hi, h0, and_self, Int.toNat_natCast, Nat.mul_one, hld, List.append_nil, List.nil_append]
    refine XX_val (small_ok h1 _) ?_
    by_cases hc : 0 <= C.cons[i] /\ C.cons[i] <= 8
    · simp only [mach, mach2, mstd, ↓reduceIte, Nat.reduceEqDiff, Nat.reduceAdd, Nat.reduceMul, hc, and_self, not_true, hw]
      refine next (i + 1) _ _ _ ⟨by omega, rfl, fun j hj c hcj => ?_⟩ ⟨rfl, rfl, rfl, ?_, trivial⟩ (by omega)
      · by_cases hji : j < i
        · exact hall j hji c hcj
        · have : j = i := by omega
          subst this
          rw [List.getElem?_eq_getElem (by omega)] at hcj
          cases hcj; exact hc
      · simp only [Int.natCast_add, Int.cast_ofNat_Int]; rfl
    · simp only [mach, mach2, mstd, ↓reduceIte, Nat.reduceEqDiff, Nat.reduceAdd, Nat.reduceMul, hc, not_false_eq_true]
      refine out .ret _ _ _ _ (by intro e; cases e) ?_
      simp only [mach, mach2, mstd, ↓reduceIte, Nat.reduceEqDiff, Nat.reduceAdd, Nat.reduceMul]
      refine hΨ _ _ (fin_ret (rv1 rfl ⟨rfl, _, rfl, ?_⟩))
      constructor
      · intro _ hco; exact hc (hco _ (List.getElem_mem _))
      · intro _; omega
  · have hie : i = C.cons.length := by omega
    simp only [mach, mach2, mstd, ↓reduceIte, Nat.reduceEqDiff, Nat.reduceAdd, Nat.reduceMul, hi]
    refine out (.exit 0) _ _ _ _ (by intro e; cases e) ?_
    simp only [mach, mach2, mstd, ↓reduceIte, Nat.reduceEqDiff, Nat.reduceAdd, Nat.reduceMul]
    refine hΨ _ _ (fin_ret (rv1 rfl ⟨rfl, _, rfl, ?_⟩))
    constructor
    · intro e; omega
    · intro e
      exfalso; refine e (fun c hc => ?_)
      obtain ⟨j, hj, rfl⟩ := List.getElem_of_mem hc
      exact hall j (by omega) _ (List.getElem?_eq_getElem hj)
theorem contains_ok (im : Img h C vi vc vt vp vk) (hm : C.cons.length <= 9223372036854775807) : Gets Tryz.prog 48 [vk, .func (.func 49) #[] #[]] h (fun res h' => h' = h /\ res = .ret (.bool (decide (¬ consOk C)))) := by
  refine Gets.of (keep := false) hP (draw_ok hM) k48 (by rfl) (fun Ψ hΨ => ?_)
  simp only [mach, mach2, mstd, ↓reduceIte, Nat.reduceEqDiff, Nat.reduceAdd, Nat.reduceMul, r48]
  refine XX_of (index_ok im hm) (fun res h' _ hn => ?_)
  obtain ⟨rfl, i, rfl, hi⟩ := hn
  refine .ret ?_
  simp only [mach, mach2, mstd, ↓reduceIte, Nat.reduceEqDiff, Nat.reduceAdd, Nat.reduceMul]
  refine hΨ _ _ (fin_ret (rv1 rfl ⟨rfl, ?_⟩))
  simp only [tup]
  congr 2
  exact decide_eq_decide.2 hi
def EndO (h : AH) (C : Cx) (res : Res) (h' : AH) : Prop := Keep (fun _ => False) h h' /\ match ends C with
  | some l => ∃ v, res = .ret (.tuple #[v, iv 0]) /\ Ows h' 3 1 v l.length (ns (l.map Int.ofNat)) /\ ∀ q, bk v q -> h.length <= q
  | none => res = .ret (.tuple #[.slice none 0 0, iv 7])
def Cx.fits (C : Cx) : Prop := C.infos.length <= 9223372036854775807 /\ C.code.length <= 9223372036854775807 /\ C.tops.length <= 9223372036854775807 /\ C.cons.length <= 9223372036854775807
abbrev rsE : List RV := [.c (.n 2) .ld, .c (.n 3) .ld]
theorem ends_fail {Ψ : Out -> PS -> Prop} (hΨ : ∀ o s, finD Tryz.prog false 46 [0, 1, 4, 5, 9, 10] (.n 5) r46 [] rsE (EndO h C) o s -> Ψ o s) {e l : PE} {h' : AH} {bL bE : Nat} {x y : Value} (v : {v : Value // v = .agg #[]})
    (h2 : Eng.look e 2 = some (.pointer (some ⟨bL, 0, none⟩))) (h3 : Eng.look e 3 = some (.pointer (some ⟨bE, 0, none⟩))) (o2 : Own h' bL 23 [x]) (o3 : Own h' bE 29 [y]) (hLE : bL ≠ bE) (g2 : h.length <= bL) (g3 : h.length <= bE) (kp : Keep (fun _ => False) h h') (hn : ends C = none) :
    Ψ (.pan (.iface 97 v.1)) ⟨e, l, h', [⟨.func 46, [.pointer (some ⟨bL, 0, none⟩), .pointer (some ⟨bE, 0, none⟩)], []⟩]⟩ := by
  obtain ⟨v, rfl⟩ := v
  refine hΨ _ _ (dfr_of (by rfl) (fun Ψ2 hΨ2 => ?_))
  simp only [mach, mach2, mstd, ↓reduceIte, Nat.reduceEqDiff, Nat.reduceAdd, Nat.reduceMul, r46, Option.getD_some, mbl, Nat.reduceLeDiff, Nat.reduceLT, Int.reduceEq]
  have on := Own.new h' 97 h'.length []
  have k0 : Keep (fun _ => False) h' (h' ++ [row 97 h'.length []]) := Keep.push _ _ _
  have o2' := o2.keep k0 (fun e => e)
  have o3' := o3.keep k0 (fun e => e)
  refine XH_own on rfl (by simp [Value.cells]) rfl (fun h4 q1 q2 q3 => ?_)
  have lb2 := o2.lt
  have lb3 := o3.lt
  have o24 := o2'.keep q2 (fun e => by omega)
  have o34 := o3'.keep q2 (fun e => by omega)
  simp only [mach, mach2, mstd, ↓reduceIte, Nat.reduceEqDiff, Nat.reduceAdd, Nat.reduceMul]
  refine XH_own o24 rfl (by simp [Value.cells]) rfl (fun h5 p1 p2 p3 => ?_)
  have o25 : Own h5 bL 23 [.slice none 0 0] := by simpa [Value.cells] using p1
  have o35 := o34.keep p2 (fun e => hLE e.symm)
  simp only [mach, mach2, mstd, ↓reduceIte, Nat.reduceEqDiff, Nat.reduceAdd, Nat.reduceMul]
  refine XH_own o35 rfl (by simp [Value.cells]) rfl (fun h6 t1 t2 t3 => ?_)
  have o36 : Own h6 bE 29 [iv 7] := by simpa [Value.cells] using t1
  have o26 := o25.keep t2 (fun e => hLE e)
  simp only [mach, mach2, mstd, ↓reduceIte, Nat.reduceEqDiff, Nat.reduceAdd, Nat.reduceMul]
  have l4 : h'.length <= h4.length := by rw [q3]; simp
  have kk : Keep (fun _ => False) h h6 := (((kp.trans k0).trans' q2 (fun c hc e => by have := kp.len; omega)).trans' p2 (fun c hc e => by omega)).trans' t2 (fun c hc e => by omega)
  refine hΨ2 _ _ ⟨.inl rfl, rfl, ?_, ⟨[], rfl⟩, rvc2 (p := .pointer (some ⟨bL, 0, none⟩)) (q := .pointer (some ⟨bE, 0, none⟩)) (u := .slice none 0 0) (v := iv 7) h2 ?_ h3 ?_ ⟨kk, ?_⟩⟩
  · show h'.length <= h6.length; rw [t3, p3]; exact l4
  · simp only [uval]; rw [o26.cells.ld]; rfl
  · simp only [uval]; rw [o36.cells.ld]; rfl
  · rw [hn]; rfl
end
end Go.S17

namespace Go.S17
open Go Go.Eng Go.Proofs Go.Chk
section
variable {h : AH} {b : Nat} {C : Cx} {vi vc vt vp vk : Value} {p : Nat}
structure Mid (h : AH) (C : Cx) (vi vc vt vp vk : Value) (bI bL bE bR : Nat) (a : Nat × Nat × Value × List Nat) (h' : AH) : Prop where
  i1 : a.1 <= C.infos.length
  s : Rdr h' bR C vi vc vt vp vk a.2.1
  oI : Own h' bI 26 [vi, vc, vt, vp, iv C.main, vk]
  oL : Own h' bL 23 [a.2.2.1]
  oE : Own h' bE 29 [iv 0]
  ow : Ows h' 3 1 a.2.2.1 a.1 (ns (a.2.2.2.map Int.ofNat))
  fr : ∀ q, bk a.2.2.1 q -> bR < q
  ln : a.2.2.2.length = a.1
  kp : Keep (fun _ => False) h h'
  pl : a.2.1 <= C.code.length
  bl : a.1 <= a.2.1
  eq : ∀ x, blocks C (C.code.length + 1) (C.infos.drop a.1) a.2.1 = x -> blocks C (C.code.length + 1) C.infos 0 = (match x with
    | some (e, r) => some (a.2.2.2 ++ e, r)
    | none => none)
set_option maxHeartbeats 2000000 in
theorem Ends_ok (im : Img h C vi vc vt vp vk) (fit : Cx.fits C) : Gets Tryz.prog 33 [.agg #[vi, vc, vt, vp, iv C.main, vk]] h (EndO h C) := by
  refine Gets.ofd (keep := false) (keepg := false) hP (draw_ok hM) (draw_ok hM) k33 k46 (by rfl) (fun Ψ hΨ => ?_)
  obtain ⟨fi, fc, fp, fk⟩ := fit
  obtain ⟨ia, ic, hvi⟩ := row_shape im.ri
  obtain ⟨ca, cc, hvc⟩ := row_shape im.rc
  obtain ⟨pa, pc, hvp⟩ := row_shape im.rp
  have oI0 := Own.new h 26 h.length [vi, vc, vt, vp, iv C.main, vk]
  have kp1 : Keep (fun _ => False) h (h ++ [row 26 h.length [vi, vc, vt, vp, iv C.main, vk]]) := Keep.push _ _ _
  simp only [mach, mach2, mstd, ↓reduceIte, Nat.reduceEqDiff, Nat.reduceAdd, Nat.reduceMul, r33, mbl, Nat.reduceLeDiff, Nat.reduceLT, Int.reduceEq]
  generalize hh1 : h ++ [row 26 h.length [vi, vc, vt, vp, iv C.main, vk]] = h1 at oI0 kp1 ⊢
  have hl1 : h1.length = h.length + 1 := by rw [<- hh1]; simp
  have oL0 := Own.new h1 23 h1.length [.slice none 0 0]
  have kp2 : Keep (fun _ => False) h1 (h1 ++ [row 23 h1.length [.slice none 0 0]]) := Keep.push _ _ _
  generalize hh2 : h1 ++ [row 23 h1.length [.slice none 0 0]] = h2 at oL0 kp2 ⊢
  have hl2 : h2.length = h1.length + 1 := by rw [<- hh2]; simp
  have oE := Own.new h2 29 h2.length [iv 0]
  have kp3 : Keep (fun _ => False) h2 (h2 ++ [row 29 h2.length [iv 0]]) := Keep.push _ _ _
  generalize hh3 : h2 ++ [row 29 h2.length [iv 0]] = h3 at oE kp3 ⊢
  have hl3 : h3.length = h2.length + 1 := by rw [<- hh3]; simp
  have oI := (oI0.keep kp2 (fun e => e)).keep kp3 (fun e => e)
  have oL := oL0.keep kp3 (fun e => e)
  have kp : Keep (fun _ => False) h h3 := (kp1.trans kp2).trans kp3
  have im3 := im.keep kp (fun _ _ e => e)
  have hLE : h1.length ≠ h2.length := by omega
  have fail0 := fun e l v e2 e3 hn => ends_fail hΨ (e := e) (l := l) v e2 e3 oL oE hLE (by omega) (by omega) kp hn
  by_cases c1 : 0 <= C.main
  case neg =>
    simp only [mach, mach2, mstd, ↓reduceIte, Nat.reduceEqDiff, Nat.reduceAdd, Nat.reduceMul, oI.cells.ld, mbl, Nat.reduceLeDiff, Nat.reduceLT, Int.reduceEq, hvp, hvi, hvc, c1]
    refine XX_of (must_false h3) (fun res hm hle hn => ?_)
    obtain ⟨rfl, v, rfl⟩ := hn
    refine .pan ?_
    simp only [mach, mach2, mstd, ↓reduceIte, Nat.reduceEqDiff, Nat.reduceAdd, Nat.reduceMul]
    exact fail0 _ _ v rfl rfl (by unfold ends; rw [if_neg]; rintro ⟨⟨e, _⟩, _⟩; exact c1 e)
  by_cases c2 : C.main < (C.tops.length : Int)
  case neg =>
    simp only [mach, mach2, mstd, ↓reduceIte, Nat.reduceEqDiff, Nat.reduceAdd, Nat.reduceMul, oI.cells.ld, mbl, Nat.reduceLeDiff, Nat.reduceLT, Int.reduceEq, hvp, hvi, hvc, c1, c2]
    refine XX_of (must_false h3) (fun res hm hle hn => ?_)
    obtain ⟨rfl, v, rfl⟩ := hn
    refine .pan ?_
    simp only [mach, mach2, mstd, ↓reduceIte, Nat.reduceEqDiff, Nat.reduceAdd, Nat.reduceMul]
    exact fail0 _ _ v rfl rfl (by unfold ends; rw [if_neg]; rintro ⟨⟨_, e, _⟩, _⟩; exact c2 e)
  by_cases c3 : (C.tops.length : Int) <= (C.infos.length : Int)
  case neg =>
    simp only [mach, mach2, mstd, ↓reduceIte, Nat.reduceEqDiff, Nat.reduceAdd, Nat.reduceMul, oI.cells.ld, mbl, Nat.reduceLeDiff, Nat.reduceLT, Int.reduceEq, hvp, hvi, hvc, c1, c2, c3]
    refine XX_of (must_false h3) (fun res hm hle hn => ?_)
    obtain ⟨rfl, v, rfl⟩ := hn
    refine .pan ?_
    simp only [mach, mach2, mstd, ↓reduceIte, Nat.reduceEqDiff, Nat.reduceAdd, Nat.reduceMul]
    exact fail0 _ _ v rfl rfl (by unfold ends; rw [if_neg]; rintro ⟨⟨_, _, e, _⟩, _⟩; exact c3 (by omega))
  by_cases c4 : (C.code.length : Int) <= 200000
  case neg =>
    simp only [mach, mach2, mstd, ↓reduceIte, Nat.reduceEqDiff, Nat.reduceAdd, Nat.reduceMul, oI.cells.ld, mbl, Nat.reduceLeDiff, Nat.reduceLT, Int.reduceEq, hvp, hvi, hvc, c1, c2, c3, c4]
    refine XX_of (must_false h3) (fun res hm hle hn => ?_)
    obtain ⟨rfl, v, rfl⟩ := hn
    refine .pan ?_
    simp only [mach, mach2, mstd, ↓reduceIte, Nat.reduceEqDiff, Nat.reduceAdd, Nat.reduceMul]
    exact fail0 _ _ v rfl rfl (by unfold ends; rw [if_neg]; rintro ⟨⟨_, _, _, e⟩, _⟩; exact c4 (by omega))
  have hd : headOk C := ⟨c1, c2, by omega, by omega⟩
  simp only [mach, mach2, mstd, ↓reduceIte, Nat.reduceEqDiff, Nat.reduceAdd, Nat.reduceMul, oI.cells.ld, mbl, Nat.reduceLeDiff, Nat.reduceLT, Int.reduceEq, hvp, hvi, hvc, c1, c2, c3, c4]
  refine XX_val (must_true h3) ?_
  simp only [mach, mach2, mstd, ↓reduceIte, Nat.reduceEqDiff, Nat.reduceAdd, Nat.reduceMul, oI.cells.ld, mbl, Nat.reduceLeDiff, Nat.reduceLT, Int.reduceEq]
  refine XX_val (contains_ok im3 fk) ?_
  by_cases hc : consOk C
  case neg =>
    simp only [mach, mach2, mstd, ↓reduceIte, Nat.reduceEqDiff, Nat.reduceAdd, Nat.reduceMul, hc, not_false_eq_true]
    refine XX_of (must_false h3) (fun res hm hle hn => ?_)
    obtain ⟨rfl, v, rfl⟩ := hn
    refine .pan ?_
    simp only [mach, mach2, mstd, ↓reduceIte, Nat.reduceEqDiff, Nat.reduceAdd, Nat.reduceMul]
    exact fail0 _ _ v rfl rfl (by unfold ends; rw [if_neg]; rintro ⟨_, e, _⟩; exact hc e)
  simp only [mach, mach2, mstd, ↓reduceIte, Nat.reduceEqDiff, Nat.reduceAdd, Nat.reduceMul, hc, not_true]
  refine XX_val (must_true h3) ?_
  simp only [mach, mach2, mstd, ↓reduceIte, Nat.reduceEqDiff, Nat.reduceAdd, Nat.reduceMul, oI.cells.ld, mbl, Nat.reduceLeDiff, Nat.reduceLT, Int.reduceEq, hvp]
  refine XLo_rule (α := Nat) (fun i => [(1, .pointer (some ⟨h.length, 0, none⟩)), (2, .pointer (some ⟨h1.length, 0, none⟩)), (3, .pointer (some ⟨h2.length, 0, none⟩)), (43, .slice pa C.tops.length pc), (44, iv C.tops.length), (45, iv i)])
    (fun i h' => i <= C.tops.length /\ h' = h3 /\ ∀ j, j < i -> topOk C j) (fun i => C.tops.length - i) 0 ⟨Nat.zero_le _, rfl, fun j hj => by omega⟩ ⟨rfl, rfl, rfl, rfl, rfl, rfl, trivial⟩ ?_
  rintro i h' Ψ2 ⟨i1, rfl, hall⟩ next out
  by_cases hi : (i : Int) < (C.tops.length : Int)
  · have h0 : 0 <= (i : Int) := by omega
    have hw : IntKind.i64.wrap ((i : Int) + 1) = i + 1 := i64w (by omega) (by omega)
    have hx : C.tops[(i : Int).toNat]? = some C.tops[i] := by rw [Int.toNat_natCast]; exact List.getElem?_eq_getElem (by omega)
    obtain ⟨b1, o1, cc1, e1, _, hld⟩ := rds_ix im3.rp h0 hx
    rw [Int.toNat_natCast] at hld
    have e1' := hvp.symm.trans e1
    simp only [Value.slice.injEq] at e1'
    obtain ⟨rfl, _, rfl⟩ := e1'
    have hxi : C.infos[i]? = some C.infos[i] := List.getElem?_eq_getElem (by omega)
    obtain ⟨b2, o2, cc2, e2, hlt2, hf⟩ := rds_fld (by omega) Inf.len im3.ri hxi
    have hf2 := hf 2 (by omega)
    simp only [Inf.cells, List.getElem?_cons_succ, List.getElem?_cons_zero, Option.map_some] at hf2
    have hii : (i : Int) < (C.infos.length : Int) := by omega
    by_cases x1 : C.tops[i] = (i : Int)
    case neg =>
      simp only [mach, mach2, mstd, ↓reduceIte, Nat.reduceEqDiff, Nat.reduceAdd, Nat.reduceMul, hi, h0, and_self, Int.toNat_natCast, Nat.mul_one, hld, x1]
      refine XX_of (must_false h') (fun res hm hle hn => ?_)
      obtain ⟨rfl, v, rfl⟩ := hn
      refine .pan ?_
      simp only [mach, mach2, mstd, ↓reduceIte, Nat.reduceEqDiff, Nat.reduceAdd, Nat.reduceMul]
      refine out (.pan _) _ _ _ _ (by intro e; cases e) ?_
      simp only [mach, mach2, mstd, ↓reduceIte, Nat.reduceEqDiff, Nat.reduceAdd, Nat.reduceMul]
      exact fail0 _ _ v rfl rfl (by unfold ends; rw [if_neg]; rintro ⟨_, _, e⟩; have := (e i (by omega)).1; rw [List.getElem?_eq_getElem (by omega)] at this; exact x1 (Option.some.inj this))
    rw [x1] at hld
    by_cases x2 : C.infos[i].f = 0
    case neg =>
      simp only [mach, mach2, mstd, ↓reduceIte, Nat.reduceEqDiff, Nat.reduceAdd, Nat.reduceMul, hi, h0, and_self, Int.toNat_natCast, Nat.mul_one, hld, oI.cells.ld, mbl, Nat.reduceLeDiff, Nat.reduceLT, Int.reduceEq, e2, hii, hf2, x2]
      refine XX_of (must_false h') (fun res hm hle hn => ?_)
      obtain ⟨rfl, v, rfl⟩ := hn
      refine .pan ?_
      simp only [mach, mach2, mstd, ↓reduceIte, Nat.reduceEqDiff, Nat.reduceAdd, Nat.reduceMul]
      refine out (.pan _) _ _ _ _ (by intro e; cases e) ?_
      simp only [mach, mach2, mstd, ↓reduceIte, Nat.reduceEqDiff, Nat.reduceAdd, Nat.reduceMul]
      exact fail0 _ _ v rfl rfl (by unfold ends; rw [if_neg]; rintro ⟨_, _, e⟩; have := (e i (by omega)).2; rw [hxi] at this; exact x2 (by simpa using this))
    simp only [mach, mach2, mstd, ↓reduceIte, Nat.reduceEqDiff, Nat.reduceAdd, Nat.reduceMul, hi, h0, and_self, Int.toNat_natCast, Nat.mul_one, hld, oI.cells.ld, mbl, Nat.reduceLeDiff, Nat.reduceLT, Int.reduceEq, e2, hii, hf2, x2]
    refine XX_val (must_true h') ?_
    simp only [mach, mach2, mstd, ↓reduceIte, Nat.reduceEqDiff, Nat.reduceAdd, Nat.reduceMul, hw]
    refine next (i + 1) _ _ _ ⟨by omega, rfl, fun j hj => ?_⟩ ⟨rfl, rfl, rfl, rfl, rfl, ?_, trivial⟩ (by omega)
    · by_cases hji : j < i
      · exact hall j hji
      · have : j = i := by omega
        subst this
        exact ⟨by rw [List.getElem?_eq_getElem (by omega), x1], by rw [hxi]; simp [x2]⟩
    · simp only [Int.natCast_add, Int.cast_ofNat_Int]; rfl
  simp only [mach, mach2, mstd, ↓reduceIte, Nat.reduceEqDiff, Nat.reduceAdd, Nat.reduceMul, hi]
  refine out (.exit 0) _ _ _ _ (by intro e; cases e) ?_
  have htops : topsOk C := fun j hj => hall j (by omega)
  have hcond : headOk C /\ consOk C /\ topsOk C := ⟨hd, hc, htops⟩
  have eqE : ends C = (match blocks C (C.code.length + 1) C.infos 0 with
    | some (e, r) => if r = C.code.length then some e else none
    | none => none) := by unfold ends; rw [if_pos hcond]; rfl
  have s0 := Own.new h' 103 h'.length [vi, vc, vt, vp, iv C.main, vk, iv 0]
  have kp4 : Keep (fun _ => False) h' (h' ++ [row 103 h'.length [vi, vc, vt, vp, iv C.main, vk, iv 0]]) := Keep.push _ _ _
  simp only [mach, mach2, mstd, ↓reduceIte, Nat.reduceEqDiff, Nat.reduceAdd, Nat.reduceMul, oI.cells.lds 0 6 (by simp), mbl, Nat.reduceLeDiff, Nat.reduceLT, Int.reduceEq, hvi]
  rw [<- hvi]
  generalize hh4 : h' ++ [row 103 h'.length [vi, vc, vt, vp, iv C.main, vk, iv 0]] = h4 at s0 kp4 ⊢
  have hl4 : h4.length = h'.length + 1 := by rw [<- hh4]; simp
  have kp04 := kp.trans kp4
  have r0 : Rdr h4 h'.length C vi vc vt vp vk 0 := ⟨s0, im3.keep kp4 (fun _ _ e => e), fun q e => by have := im3.lt q e; omega, by omega⟩
  simp only [mach, mach2, mstd, ↓reduceIte, Nat.reduceEqDiff, Nat.reduceAdd, Nat.reduceMul, (oI.keep kp4 (fun e => e)).cells.ld, mbl, Nat.reduceLeDiff, Nat.reduceLT, Int.reduceEq, hvi]
  rw [<- hvi]
  refine XLo_rule (α := Nat × Nat × Value × List Nat) (fun a => [(1, .pointer (some ⟨h.length, 0, none⟩)), (2, .pointer (some ⟨h1.length, 0, none⟩)), (3, .pointer (some ⟨h2.length, 0, none⟩)), (6, .pointer (some ⟨h'.length, 0, none⟩)), (68, vi), (69, iv C.infos.length), (70, iv a.1)])
    (Mid h C vi vc vt vp vk h.length h1.length h2.length h'.length) (fun a => C.infos.length - a.1) (0, 0, .slice none 0 0, [])
    ⟨Nat.zero_le _, r0, oI.keep kp4 (fun e => e), oL.keep kp4 (fun e => e), oE.keep kp4 (fun e => e), .nil, fun q e => e.elim, rfl, kp04, Nat.zero_le _, Nat.le_refl _, fun x hx => by
      rw [show blocks C (C.code.length + 1) C.infos 0 = x from hx]
      cases x with
      | none => rfl
      | some y => rfl⟩ ⟨rfl, rfl, rfl, rfl, by rw [hvi]; rfl, rfl, rfl, trivial⟩ ?_
  rintro ⟨i, p, lv, l⟩ h5 Ψ3 ⟨j1, s5, oI5, oL5, oE5, ow5, fr5, ln5, kp5, pl5, bl5, eq5⟩ next2 out2
  simp only at j1 s5 oL5 ow5 fr5 ln5 pl5 bl5 eq5
  have lb : h'.length < h5.length := s5.own.lt
  by_cases hi2 : (i : Int) < (C.infos.length : Int)
  · have h0 : 0 <= (i : Int) := by omega
    have hw : IntKind.i64.wrap ((i : Int) + 1) = i + 1 := i64w (by omega) (by omega)
    have hil : i < C.infos.length := by omega
    obtain ⟨⟨k, a, f, c⟩, hxi⟩ : ∃ x, C.infos[i]? = some x := ⟨_, List.getElem?_eq_getElem hil⟩
    have hdr : C.infos.drop i = ⟨k, a, f, c⟩ :: C.infos.drop (i + 1) := by
      rw [List.drop_eq_getElem_cons hil]
      have := List.getElem?_eq_getElem hil
      rw [hxi] at this
      rw [<- Option.some.inj this]
    obtain ⟨b8, o8, c8, e8, hlt8, hld8⟩ := rds_str (by omega) Inf.len s5.im.ri hxi
    simp only [Inf.cells, ns, List.map_cons, List.map_nil] at hld8
    simp only [mach, mach2, mstd, ↓reduceIte, Nat.reduceEqDiff, Nat.reduceAdd, Nat.reduceMul, hi2, e8, h0, and_self, hld8, Int.toNat_natCast, mbl, Nat.reduceLeDiff, Nat.reduceLT, Int.reduceEq]
    have on := Own.new h5 40 h5.length [iv 0, iv 0, iv 0, iv 0]
    refine XH_own on rfl (by simp [Value.cells]) rfl (fun h8 q1 q2 q3 => ?_)
    have on8 : Own h8 h5.length 40 [iv k, iv a, iv f, iv c] := by simpa [Value.cells] using q1
    have kp8 : Keep (fun q => q = h5.length) h5 h8 := ((Keep.push (fun _ => False) h5 _).mono (fun _ e => e.elim)).trans q2
    have ll8 : h8.length = h5.length + 1 := by rw [q3]; simp
    have s8 := s5.keep kp8 (by rintro q0 (rfl | e) e2; omega; have := s5.im.lt _ e; omega)
    have oI8 := oI5.keep kp8 (fun e => by have := oI5.lt; omega)
    have oL8 := oL5.keep kp8 (fun e => by have := oL5.lt; omega)
    have oE8 := oE5.keep kp8 (fun e => by have := oE5.lt; omega)
    have ow8 := ow5.keep kp8 (fun q0 e e2 => by have := ow5.lt q0 e; omega)
    have kph8 : Keep (fun _ => False) h h8 := kp5.trans' kp8 (fun c hc e => by have := kp5.len; omega)
    have fail8 := fun e l v e2 e3 hn => ends_fail hΨ (e := e) (l := l) v e2 e3 oL8 oE8 hLE (by omega) (by omega) kph8 hn
    have noI : ¬ infoOk ⟨k, a, f, c⟩ p -> ends C = none := fun hno => by
      have := eq5 none (by rw [hdr, blocks, if_neg hno])
      rw [eqE, this]
    by_cases k2 : k = 2
    · by_cases a0 : a = 0
      · simp only [mach, mach2, mstd, ↓reduceIte, Nat.reduceEqDiff, Nat.reduceAdd, Nat.reduceMul, on8.cells.ld, mbl, Nat.reduceLeDiff, Nat.reduceLT, Int.reduceEq, k2, a0]
        refine XX_val (must_true h8) ?_
        by_cases f0 : 0 <= f
        case neg =>
          simp only [mach, mach2, mstd, ↓reduceIte, Nat.reduceEqDiff, Nat.reduceAdd, Nat.reduceMul, on8.cells.ld, mbl, Nat.reduceLeDiff, Nat.reduceLT, Int.reduceEq, f0]
          refine XX_of (must_false h8) (fun res hm hle hn => ?_)
          obtain ⟨rfl, v, rfl⟩ := hn
          refine .pan ?_
          simp only [mach, mach2, mstd, ↓reduceIte, Nat.reduceEqDiff, Nat.reduceAdd, Nat.reduceMul]
          refine out2 (.pan _) _ _ _ _ (by intro e; cases e) ?_
          simp only [mach, mach2, mstd, ↓reduceIte, Nat.reduceEqDiff, Nat.reduceAdd, Nat.reduceMul]
          exact fail8 _ _ v rfl rfl (noI (by rintro ⟨_, e, _⟩; exact f0 e))
        by_cases cp : c = (p : Int)
        case neg =>
          simp only [mach, mach2, mstd, ↓reduceIte, Nat.reduceEqDiff, Nat.reduceAdd, Nat.reduceMul, on8.cells.ld, s8.own.cells.ld, mbl, Nat.reduceLeDiff, Nat.reduceLT, Int.reduceEq, f0, cp]
          refine XX_of (must_false h8) (fun res hm hle hn => ?_)
          obtain ⟨rfl, v, rfl⟩ := hn
          refine .pan ?_
          simp only [mach, mach2, mstd, ↓reduceIte, Nat.reduceEqDiff, Nat.reduceAdd, Nat.reduceMul]
          refine out2 (.pan _) _ _ _ _ (by intro e; cases e) ?_
          simp only [mach, mach2, mstd, ↓reduceIte, Nat.reduceEqDiff, Nat.reduceAdd, Nat.reduceMul]
          exact fail8 _ _ v rfl rfl (noI (by rintro ⟨_, _, e⟩; exact cp e))
        have hio : infoOk ⟨k, a, f, c⟩ p := ⟨.inl ⟨k2, a0⟩, f0, cp⟩
        simp only [mach, mach2, mstd, ↓reduceIte, Nat.reduceEqDiff, Nat.reduceAdd, Nat.reduceMul, on8.cells.ld, s8.own.cells.ld, mbl, Nat.reduceLeDiff, Nat.reduceLT, Int.reduceEq, f0, cp]
        refine XX_val (must_true h8) ?_
        simp only [mach, mach2, mstd, ↓reduceIte, Nat.reduceEqDiff, Nat.reduceAdd, Nat.reduceMul, on8.cells.ld, mbl, Nat.reduceLeDiff, Nat.reduceLT, Int.reduceEq]
        refine XX_of (expr_ok f (C.code.length + 1) h8 p a (by omega) pl5 s8) (fun res h9 hle9 hn => ?_)
        obtain ⟨kp9, hn⟩ := hn
        have kph9 : Keep (fun _ => False) h h9 := kph8.trans' kp9 (fun c hc e => by omega)
        have oL9 := oL8.keep kp9 (fun e => by omega)
        have oE9 := oE8.keep kp9 (fun e => by omega)
        have oI9 := oI8.keep kp9 (fun e => by omega)
        have ow9 := ow8.keep kp9 (fun q0 e e2 => by have := fr5 q0 e; omega)
        cases hx9 : expr C (C.code.length + 1) a f p with
        | none =>
          rw [hx9] at hn
          obtain ⟨v9, rfl⟩ := hn
          refine .pan ?_
          simp only [mach, mach2, mstd, ↓reduceIte, Nat.reduceEqDiff, Nat.reduceAdd, Nat.reduceMul]
          refine out2 (.pan _) _ _ _ _ (by intro e; cases e) ?_
          simp only [mach, mach2, mstd, ↓reduceIte, Nat.reduceEqDiff, Nat.reduceAdd, Nat.reduceMul]
          refine ends_fail hΨ v9 rfl rfl oL9 oE9 hLE (by omega) (by omega) kph9 ?_
          have := eq5 none (by rw [hdr, blocks, if_pos hio]; simp only [hx9])
          rw [eqE, this]
        | some q9 =>
          rw [hx9] at hn
          obtain ⟨rfl, s9⟩ := hn
          refine .ret ?_
          have hon := expr_on _ _ _ _ hx9
          obtain ⟨v6, h6, k1, k2, k3, k4⟩ := app1 (bytes := 8) ow9 (xs := [iv q9]) rfl rfl (by have := s9.hl; omega) (by omega)
          simp only [mach, mach2, mstd, ↓reduceIte, Nat.reduceEqDiff, Nat.reduceAdd, Nat.reduceMul, oL9.cells.ld, s9.own.cells.ld, mbl, Nat.reduceLeDiff, Nat.reduceLT, Int.reduceEq, ct1, (oL9.keep (Keep.push (fun _ => False) h9 (row 3 h9.length [iv q9])) (fun e => e)).cells.ld, k1]
          obtain ⟨va6, vc6, hv6⟩ := row_shape k2.rds
          have l9 := kp9.len
          have hb9 : ∀ q0, bk lv q0 -> h'.length < q0 := fr5
          have oL6 := oL9.keep k3 (fun e => by have := hb9 _ e; have := oL9.lt; omega)
          have kph6 : Keep (fun _ => False) h h6 := kph9.trans' k3 (fun c hc e => by have := hb9 _ e; have := kp5.len; omega)
          refine XH_own oL6 (by rw [hv6]; rfl) (by rw [hv6]; simp [Value.cells]) (by rw [hv6]; rfl) (fun h7 t1 t2 t3 => ?_)
          have oL7 : Own h7 h1.length 23 [v6] := by rw [hv6]; simpa [Value.cells, hv6] using t1
          simp only [mach, mach2, mstd, ↓reduceIte, Nat.reduceEqDiff, Nat.reduceAdd, Nat.reduceMul, hw]
          have fr6 : ∀ q0, bk v6 q0 -> h'.length < q0 := fun q0 e => by
            rcases k4 q0 e with e | e
            · exact hb9 q0 e
            · omega
          refine next2 (i + 1, q9, v6, l ++ [q9]) _ _ _ ⟨by simp only; omega, ?_, ?_, oL7, ?_, ?_, fr6, by simp [ln5], kph6.trans' t2 (fun c hc e => by omega), hon.2, by simp only; omega, ?_⟩ ⟨rfl, rfl, rfl, rfl, by rw [e8]; rfl, rfl, ?_, trivial⟩ (by simp only; omega)
          · refine (s9.keep k3 ?_).keep t2 ?_
            · rintro q0 (rfl | e) e2
              · have := hb9 _ e2; omega
              · have := hb9 _ e2; have := im3.lt _ e; omega
            · rintro q0 (rfl | e) e2
              · omega
              · have := im.lt _ e; omega
          · exact (oI9.keep k3 (fun e => by have := hb9 _ e; omega)).keep t2 (fun e => by omega)
          · exact (oE9.keep k3 (fun e => by have := hb9 _ e; omega)).keep t2 (fun e => by omega)
          · have := k2.keep t2 (fun q0 e e2 => by have := fr6 _ e; omega)
            simpa [ns] using this
          · intro x hx
            simp only at hx
            cases x with
            | none =>
              have := eq5 none (by rw [hdr, blocks, if_pos hio]; simp only [hx9, hx])
              rw [this]
            | some y =>
              obtain ⟨ye, yr⟩ := y
              have := eq5 (some (q9 :: ye, yr)) (by rw [hdr, blocks, if_pos hio]; simp only [hx9, hx])
              rw [this]; simp
          · simp only [Int.natCast_add, Int.cast_ofNat_Int]; rfl
      · simp only [mach, mach2, mstd, ↓reduceIte, Nat.reduceEqDiff, Nat.reduceAdd, Nat.reduceMul, on8.cells.ld, mbl, Nat.reduceLeDiff, Nat.reduceLT, Int.reduceEq, k2, a0]
        refine XX_of (must_false h8) (fun res hm hle hn => ?_)
        obtain ⟨rfl, v, rfl⟩ := hn
        refine .pan ?_
        simp only [mach, mach2, mstd, ↓reduceIte, Nat.reduceEqDiff, Nat.reduceAdd, Nat.reduceMul]
        refine out2 (.pan _) _ _ _ _ (by intro e; cases e) ?_
        simp only [mach, mach2, mstd, ↓reduceIte, Nat.reduceEqDiff, Nat.reduceAdd, Nat.reduceMul]
        exact fail8 _ _ v rfl rfl (noI (by rintro ⟨e | e, _⟩ <;> simp only at e <;> omega))
    by_cases k1 : k = 1
    · by_cases a1 : 0 < a
      · by_cases a8 : a <= 8
        · simp only [mach, mach2, mstd, ↓reduceIte, Nat.reduceEqDiff, Nat.reduceAdd, Nat.reduceMul, on8.cells.ld, mbl, Nat.reduceLeDiff, Nat.reduceLT, Int.reduceEq, k2, k1, a1, a8]
          refine XX_val (must_true h8) ?_
          by_cases f0 : 0 <= f
          case neg =>
            simp only [mach, mach2, mstd, ↓reduceIte, Nat.reduceEqDiff, Nat.reduceAdd, Nat.reduceMul, on8.cells.ld, mbl, Nat.reduceLeDiff, Nat.reduceLT, Int.reduceEq, f0]
            refine XX_of (must_false h8) (fun res hm hle hn => ?_)
            obtain ⟨rfl, v, rfl⟩ := hn
            refine .pan ?_
            simp only [mach, mach2, mstd, ↓reduceIte, Nat.reduceEqDiff, Nat.reduceAdd, Nat.reduceMul]
            refine out2 (.pan _) _ _ _ _ (by intro e; cases e) ?_
            simp only [mach, mach2, mstd, ↓reduceIte, Nat.reduceEqDiff, Nat.reduceAdd, Nat.reduceMul]
            exact fail8 _ _ v rfl rfl (noI (by rintro ⟨_, e, _⟩; exact f0 e))
          by_cases cp : c = (p : Int)
          case neg =>
            simp only [mach, mach2, mstd, ↓reduceIte, Nat.reduceEqDiff, Nat.reduceAdd, Nat.reduceMul, on8.cells.ld, s8.own.cells.ld, mbl, Nat.reduceLeDiff, Nat.reduceLT, Int.reduceEq, f0, cp]
            refine XX_of (must_false h8) (fun res hm hle hn => ?_)
            obtain ⟨rfl, v, rfl⟩ := hn
            refine .pan ?_
            simp only [mach, mach2, mstd, ↓reduceIte, Nat.reduceEqDiff, Nat.reduceAdd, Nat.reduceMul]
            refine out2 (.pan _) _ _ _ _ (by intro e; cases e) ?_
            simp only [mach, mach2, mstd, ↓reduceIte, Nat.reduceEqDiff, Nat.reduceAdd, Nat.reduceMul]
            exact fail8 _ _ v rfl rfl (noI (by rintro ⟨_, _, e⟩; exact cp e))
          have hio : infoOk ⟨k, a, f, c⟩ p := ⟨.inr ⟨k1, a1, a8⟩, f0, cp⟩
          simp only [mach, mach2, mstd, ↓reduceIte, Nat.reduceEqDiff, Nat.reduceAdd, Nat.reduceMul, on8.cells.ld, s8.own.cells.ld, mbl, Nat.reduceLeDiff, Nat.reduceLT, Int.reduceEq, f0, cp]
          refine XX_val (must_true h8) ?_
          simp only [mach, mach2, mstd, ↓reduceIte, Nat.reduceEqDiff, Nat.reduceAdd, Nat.reduceMul, on8.cells.ld, mbl, Nat.reduceLeDiff, Nat.reduceLT, Int.reduceEq]
          refine XX_of (expr_ok f (C.code.length + 1) h8 p a (by omega) pl5 s8) (fun res h9 hle9 hn => ?_)
          obtain ⟨kp9, hn⟩ := hn
          have kph9 : Keep (fun _ => False) h h9 := kph8.trans' kp9 (fun c hc e => by omega)
          have oL9 := oL8.keep kp9 (fun e => by omega)
          have oE9 := oE8.keep kp9 (fun e => by omega)
          have oI9 := oI8.keep kp9 (fun e => by omega)
          have ow9 := ow8.keep kp9 (fun q0 e e2 => by have := fr5 q0 e; omega)
          cases hx9 : expr C (C.code.length + 1) a f p with
          | none =>
            rw [hx9] at hn
            obtain ⟨v9, rfl⟩ := hn
            refine .pan ?_
            simp only [mach, mach2, mstd, ↓reduceIte, Nat.reduceEqDiff, Nat.reduceAdd, Nat.reduceMul]
            refine out2 (.pan _) _ _ _ _ (by intro e; cases e) ?_
            simp only [mach, mach2, mstd, ↓reduceIte, Nat.reduceEqDiff, Nat.reduceAdd, Nat.reduceMul]
            refine ends_fail hΨ v9 rfl rfl oL9 oE9 hLE (by omega) (by omega) kph9 ?_
            have := eq5 none (by rw [hdr, blocks, if_pos hio]; simp only [hx9])
            rw [eqE, this]
          | some q9 =>
            rw [hx9] at hn
            obtain ⟨rfl, s9⟩ := hn
            refine .ret ?_
            have hon := expr_on _ _ _ _ hx9
            obtain ⟨v6, h6, k1, k2, k3, k4⟩ := app1 (bytes := 8) ow9 (xs := [iv q9]) rfl rfl (by have := s9.hl; omega) (by omega)
            simp only [mach, mach2, mstd, ↓reduceIte, Nat.reduceEqDiff, Nat.reduceAdd, Nat.reduceMul, oL9.cells.ld, s9.own.cells.ld, mbl, Nat.reduceLeDiff, Nat.reduceLT, Int.reduceEq, ct1, (oL9.keep (Keep.push (fun _ => False) h9 (row 3 h9.length [iv q9])) (fun e => e)).cells.ld, k1]
            obtain ⟨va6, vc6, hv6⟩ := row_shape k2.rds
            have l9 := kp9.len
            have hb9 : ∀ q0, bk lv q0 -> h'.length < q0 := fr5
            have oL6 := oL9.keep k3 (fun e => by have := hb9 _ e; have := oL9.lt; omega)
            have kph6 : Keep (fun _ => False) h h6 := kph9.trans' k3 (fun c hc e => by have := hb9 _ e; have := kp5.len; omega)
            refine XH_own oL6 (by rw [hv6]; rfl) (by rw [hv6]; simp [Value.cells]) (by rw [hv6]; rfl) (fun h7 t1 t2 t3 => ?_)
            have oL7 : Own h7 h1.length 23 [v6] := by rw [hv6]; simpa [Value.cells, hv6] using t1
            simp only [mach, mach2, mstd, ↓reduceIte, Nat.reduceEqDiff, Nat.reduceAdd, Nat.reduceMul, hw]
            have fr6 : ∀ q0, bk v6 q0 -> h'.length < q0 := fun q0 e => by
              rcases k4 q0 e with e | e
              · exact hb9 q0 e
              · omega
            refine next2 (i + 1, q9, v6, l ++ [q9]) _ _ _ ⟨by simp only; omega, ?_, ?_, oL7, ?_, ?_, fr6, by simp [ln5], kph6.trans' t2 (fun c hc e => by omega), hon.2, by simp only; omega, ?_⟩ ⟨rfl, rfl, rfl, rfl, by rw [e8]; rfl, rfl, ?_, trivial⟩ (by simp only; omega)
            · refine (s9.keep k3 ?_).keep t2 ?_
              · rintro q0 (rfl | e) e2
                · have := hb9 _ e2; omega
                · have := hb9 _ e2; have := im3.lt _ e; omega
              · rintro q0 (rfl | e) e2
                · omega
                · have := im.lt _ e; omega
            · exact (oI9.keep k3 (fun e => by have := hb9 _ e; omega)).keep t2 (fun e => by omega)
            · exact (oE9.keep k3 (fun e => by have := hb9 _ e; omega)).keep t2 (fun e => by omega)
            · have := k2.keep t2 (fun q0 e e2 => by have := fr6 _ e; omega)
              simpa [ns] using this
            · intro x hx
              simp only at hx
              cases x with
              | none =>
                have := eq5 none (by rw [hdr, blocks, if_pos hio]; simp only [hx9, hx])
                rw [this]
              | some y =>
                obtain ⟨ye, yr⟩ := y
                have := eq5 (some (q9 :: ye, yr)) (by rw [hdr, blocks, if_pos hio]; simp only [hx9, hx])
                rw [this]; simp
            · simp only [Int.natCast_add, Int.cast_ofNat_Int]; rfl
        · simp only [mach, mach2, mstd, ↓reduceIte, Nat.reduceEqDiff, Nat.reduceAdd, Nat.reduceMul, on8.cells.ld, mbl, Nat.reduceLeDiff, Nat.reduceLT, Int.reduceEq, k2, k1, a1, a8]
          refine XX_of (must_false h8) (fun res hm hle hn => ?_)
          obtain ⟨rfl, v, rfl⟩ := hn
          refine .pan ?_
          simp only [mach, mach2, mstd, ↓reduceIte, Nat.reduceEqDiff, Nat.reduceAdd, Nat.reduceMul]
          refine out2 (.pan _) _ _ _ _ (by intro e; cases e) ?_
          simp only [mach, mach2, mstd, ↓reduceIte, Nat.reduceEqDiff, Nat.reduceAdd, Nat.reduceMul]
          exact fail8 _ _ v rfl rfl (noI (by rintro ⟨e | e, _⟩ <;> simp only at e <;> omega))
      · simp only [mach, mach2, mstd, ↓reduceIte, Nat.reduceEqDiff, Nat.reduceAdd, Nat.reduceMul, on8.cells.ld, mbl, Nat.reduceLeDiff, Nat.reduceLT, Int.reduceEq, k2, k1, a1]
        refine XX_of (must_false h8) (fun res hm hle hn => ?_)
        obtain ⟨rfl, v, rfl⟩ := hn
        refine .pan ?_
        simp only [mach, mach2, mstd, ↓reduceIte, Nat.reduceEqDiff, Nat.reduceAdd, Nat.reduceMul]
        refine out2 (.pan _) _ _ _ _ (by intro e; cases e) ?_
        simp only [mach, mach2, mstd, ↓reduceIte, Nat.reduceEqDiff, Nat.reduceAdd, Nat.reduceMul]
        exact fail8 _ _ v rfl rfl (noI (by rintro ⟨e | e, _⟩ <;> simp only at e <;> omega))
    · simp only [mach, mach2, mstd, ↓reduceIte, Nat.reduceEqDiff, Nat.reduceAdd, Nat.reduceMul, on8.cells.ld, mbl, Nat.reduceLeDiff, Nat.reduceLT, Int.reduceEq, k2, k1]
      refine XX_of (must_false h8) (fun res hm hle hn => ?_)
      obtain ⟨rfl, v, rfl⟩ := hn
      refine .pan ?_
      simp only [mach, mach2, mstd, ↓reduceIte, Nat.reduceEqDiff, Nat.reduceAdd, Nat.reduceMul]
      refine out2 (.pan _) _ _ _ _ (by intro e; cases e) ?_
      simp only [mach, mach2, mstd, ↓reduceIte, Nat.reduceEqDiff, Nat.reduceAdd, Nat.reduceMul]
      exact fail8 _ _ v rfl rfl (noI (by rintro ⟨e | e, _⟩ <;> simp only at e <;> omega))
  · have hin : i = C.infos.length := by omega
    subst hin
    have eqB := eq5 (some ([], p)) (by rw [List.drop_length]; rfl)
    simp only [List.append_nil] at eqB
    simp only [mach, mach2, mstd, ↓reduceIte, Nat.reduceEqDiff, Nat.reduceAdd, Nat.reduceMul, hi2]
    refine out2 (.exit 2) _ _ _ _ (by intro e; cases e) ?_
    have fail5 := fun e l v e2 e3 hn => ends_fail hΨ (e := e) (l := l) v e2 e3 oL5 oE5 hLE (by omega) (by omega) kp5 hn
    by_cases hpn : (p : Int) = (C.code.length : Int)
    · simp only [mach, mach2, mstd, ↓reduceIte, Nat.reduceEqDiff, Nat.reduceAdd, Nat.reduceMul, s5.own.cells.ld, oI5.cells.ld, mbl, Nat.reduceLeDiff, Nat.reduceLT, Int.reduceEq, hvc, hpn]
      refine XX_val (must_true h5) ?_
      obtain ⟨va5, vc5, hv5⟩ := row_shape ow5.rds
      simp only [mach, mach2, mstd, ↓reduceIte, Nat.reduceEqDiff, Nat.reduceAdd, Nat.reduceMul, oL5.cells.ld, mbl, Nat.reduceLeDiff, Nat.reduceLT, Int.reduceEq]
      refine XH_own oL5 (by rw [hv5]; rfl) (by rw [hv5]; simp [Value.cells]) (by rw [hv5]; rfl) (fun h6 t1 t2 t3 => ?_)
      have oL6 : Own h6 h1.length 23 [lv] := by rw [hv5]; simpa [Value.cells, hv5] using t1
      have oE6 := oE5.keep t2 (fun e => by omega)
      have ow6 := ow5.keep t2 (fun q0 e e2 => by have := fr5 q0 e; omega)
      simp only [mach, mach2, mstd, ↓reduceIte, Nat.reduceEqDiff, Nat.reduceAdd, Nat.reduceMul]
      refine XH_own oE6 rfl (by simp [Value.cells]) rfl (fun h7 u1 u2 u3 => ?_)
      have oE7 : Own h7 h2.length 29 [iv 0] := by simpa [Value.cells] using u1
      have oL7 := oL6.keep u2 (fun e => by omega)
      have ow7 := ow6.keep u2 (fun q0 e e2 => by have := fr5 q0 e; omega)
      have kph7 : Keep (fun _ => False) h h7 := (kp5.trans' t2 (fun c hc e => by omega)).trans' u2 (fun c hc e => by omega)
      simp only [mach, mach2, mstd, ↓reduceIte, Nat.reduceEqDiff, Nat.reduceAdd, Nat.reduceMul]
      refine hΨ _ _ (dfr_of (by rfl) (fun Ψ4 hΨ4 => ?_))
      simp only [mach, mach2, mstd, ↓reduceIte, Nat.reduceEqDiff, Nat.reduceAdd, Nat.reduceMul, r46, Option.getD_none, mbl, Nat.reduceLeDiff, Nat.reduceLT, Int.reduceEq]
      refine hΨ4 _ _ ⟨.inl rfl, rfl, Nat.le_refl _, ⟨[], rfl⟩, rvc2 (p := .pointer (some ⟨h1.length, 0, none⟩)) (q := .pointer (some ⟨h2.length, 0, none⟩)) (u := lv) (v := iv 0) rfl ?_ rfl ?_ ⟨kph7, ?_⟩⟩
      · simp only [uval]; rw [oL7.cells.ld]; rfl
      · simp only [uval]; rw [oE7.cells.ld]; rfl
      · have : ends C = some l := by rw [eqE, eqB]; simp only; rw [if_pos (by omega)]
        rw [this]
        refine ⟨lv, rfl, by rw [ln5]; exact ow7, fun q0 e => by have := fr5 q0 e; omega⟩
    · simp only [mach, mach2, mstd, ↓reduceIte, Nat.reduceEqDiff, Nat.reduceAdd, Nat.reduceMul, s5.own.cells.ld, oI5.cells.ld, mbl, Nat.reduceLeDiff, Nat.reduceLT, Int.reduceEq, hvc, hpn]
      refine XX_of (must_false h5) (fun res hm hle hn => ?_)
      obtain ⟨rfl, v, rfl⟩ := hn
      refine .pan ?_
      simp only [mach, mach2, mstd, ↓reduceIte, Nat.reduceEqDiff, Nat.reduceAdd, Nat.reduceMul, wrN_t, wrN_n, wrN_z, wrN_nil, keepN_no]
      exact fail5 _ _ v rfl rfl (by rw [eqE, eqB]; simp only; rw [if_neg (by omega)])
theorem Check_ok (im : Img h C vi vc vt vp vk) (fit : Cx.fits C) : Gets Tryz.prog 18 [.agg #[vi, vc, vt, vp, iv C.main, vk]] h (fun res h' => Keep (fun _ => False) h h' /\ res = .ret (iv (if (ends C).isSome then 0 else 7))) := by
  refine Gets.of (keep := false) hP (draw_ok hM) k18 (by rfl) (fun Ψ hΨ => ?_)
  obtain ⟨ia, ic, hvi⟩ := row_shape im.ri
  have oI := Own.new h 26 h.length [vi, vc, vt, vp, iv C.main, vk]
  have kp1 : Keep (fun _ => False) h (h ++ [row 26 h.length [vi, vc, vt, vp, iv C.main, vk]]) := Keep.push _ _ _
  simp only [mach, mach2, mstd, ↓reduceIte, Nat.reduceEqDiff, Nat.reduceAdd, Nat.reduceMul, r18, mbl, Nat.reduceLeDiff, Nat.reduceLT, Int.reduceEq]
  generalize hh1 : h ++ [row 26 h.length [vi, vc, vt, vp, iv C.main, vk]] = h1 at oI kp1 ⊢
  simp only [mach, mach2, mstd, ↓reduceIte, Nat.reduceEqDiff, Nat.reduceAdd, Nat.reduceMul, oI.cells.lds 0 6 (by simp), mbl, Nat.reduceLeDiff, Nat.reduceLT, Int.reduceEq]
  refine XX_of (Ends_ok (im.keep kp1 (fun _ _ e => e)) fit) (fun res h2 hle hn => ?_)
  obtain ⟨kp2, hn⟩ := hn
  cases he : ends C with
  | none =>
    rw [he] at hn
    subst hn
    refine .ret ?_
    simp only [mach, mach2, mstd, ↓reduceIte, Nat.reduceEqDiff, Nat.reduceAdd, Nat.reduceMul, mbl, Nat.reduceLeDiff, Nat.reduceLT, Int.reduceEq]
    exact hΨ _ _ (fin_ret (rv1 rfl ⟨kp1.trans kp2, by simp [he, tup]⟩))
  | some l =>
    rw [he] at hn
    obtain ⟨v, rfl, _, _⟩ := hn
    refine .ret ?_
    simp only [mach, mach2, mstd, ↓reduceIte, Nat.reduceEqDiff, Nat.reduceAdd, Nat.reduceMul, mbl, Nat.reduceLeDiff, Nat.reduceLT, Int.reduceEq]
    exact hΨ _ _ (fin_ret (rv1 rfl ⟨kp1.trans kp2, by simp [he, tup]⟩))
end
end Go.S17

namespace Go.S17
open Go Go.Eng Go.Proofs Go.Chk
structure Rf (h : AH) (b : Nat) (C : Cx) (vi vc vt vp vk : Value) (p : Nat) (bad : Bool) : Prop where
  own : Own h b 95 [vi, vc, vt, vp, iv C.main, vk, iv p, .bool bad]
  im : Img h C vi vc vt vp vk
  ne : ∀ q, (rb vi q \/ rb vc q \/ rb vp q \/ rb vk q) -> q ≠ b
  hl : C.code.length <= 200000
  le : p <= C.code.length
theorem Rf.keep {S : Nat -> Prop} {h h' : AH} {b : Nat} {C : Cx} {vi vc vt vp vk : Value} {p : Nat} {bad : Bool} (s : Rf h b C vi vc vt vp vk p bad) (k : Keep S h h') (hs : ∀ q, (q = b \/ rb vi q \/ rb vc q \/ rb vp q \/ rb vk q) -> ¬ S q) : Rf h' b C vi vc vt vp vk p bad :=
  ⟨s.own.keep k (hs _ (.inl rfl)), s.im.keep k (fun q e => hs q (.inr e)), s.ne, s.hl, s.le⟩
def Ro (h : AH) (b : Nat) (C : Cx) (vi vc vt vp vk : Value) : Option Nat -> Prop
  | some p => Rf h b C vi vc vt vp vk p false
  | none => ∃ p, Rf h b C vi vc vt vp vk p true
theorem Ro.any {h : AH} {b : Nat} {C : Cx} {vi vc vt vp vk : Value} {o : Option Nat} (s : Ro h b C vi vc vt vp vk o) : ∃ p bad, Rf h b C vi vc vt vp vk p bad := by
  cases o with
  | some p => exact ⟨p, _, s⟩
  | none => obtain ⟨p, s⟩ := s; exact ⟨p, _, s⟩
theorem Ro.keep {S : Nat -> Prop} {h h' : AH} {b : Nat} {C : Cx} {vi vc vt vp vk : Value} {o : Option Nat} (s : Ro h b C vi vc vt vp vk o) (k : Keep S h h') (hs : ∀ q, (q = b \/ rb vi q \/ rb vc q \/ rb vp q \/ rb vk q) -> ¬ S q) : Ro h' b C vi vc vt vp vk o := by
  cases o with
  | some p => exact Rf.keep s k hs
  | none => obtain ⟨p, s⟩ := s; exact ⟨p, s.keep k hs⟩
def RfO (h : AH) (b : Nat) (C : Cx) (vi vc vt vp vk : Value) (o : Option Nat) (res : Res) (h' : AH) : Prop :=
  Keep (· = b) h h' /\ res = .ret (.tuple #[]) /\ Ro h' b C vi vc vt vp vk o
def RfN (h : AH) (b : Nat) (C : Cx) (vi vc vt vp vk : Value) (x : Int × Option Nat) (res : Res) (h' : AH) : Prop :=
  Keep (· = b) h h' /\ res = .ret (iv x.1) /\ Ro h' b C vi vc vt vp vk x.2
section
variable {h : AH} {b : Nat} {C : Cx} {vi vc vt vp vk : Value}
theorem rnext_ok {o : Option Nat} (s : Ro h b C vi vc vt vp vk o) : Gets Tryz.prog 62 [.pointer (some ⟨b, 0, none⟩)] h (RfN h b C vi vc vt vp vk (Chk.nt C o)) := by
  refine Gets.of (keep := false) hP (draw_ok hM) k62 (by rfl) (fun Ψ hΨ => ?_)
  cases o with
  | none =>
    obtain ⟨p, s⟩ := s
    simp only [mach, mach2, mstd, ↓reduceIte, Nat.reduceEqDiff, Nat.reduceAdd, Nat.reduceMul, r62, s.own.cells.ld, mbl, Nat.reduceLeDiff, Nat.reduceLT, Int.reduceEq]
    refine XH_own s.own rfl (by simp [Value.cells]) rfl (fun h' q1 q2 q3 => ?_)
    have o' : Own h' b 95 [vi, vc, vt, vp, iv C.main, vk, iv p, .bool true] := by simpa [Value.cells] using q1
    simp only [mach, mach2, mstd, ↓reduceIte, Nat.reduceEqDiff, Nat.reduceAdd, Nat.reduceMul, o'.cells.ld, mbl, Nat.reduceLeDiff, Nat.reduceLT, Int.reduceEq]
    exact hΨ _ _ (fin_ret (rv1 rfl ⟨q2, rfl, p, o', s.im.keep q2 s.ne, s.ne, s.hl, s.le⟩))
  | some p =>
    have s : Rf h b C vi vc vt vp vk p false := s
    obtain ⟨ca, cc, hvc⟩ := row_shape s.im.rc
    have hl := s.hl
    by_cases hp : p < C.code.length
    · have hp' : ¬ (p : Int) ≥ (C.code.length : Int) := by omega
      have hp3 : (p : Int) < (C.code.length : Int) := by omega
      have hw : IntKind.i64.wrap ((p : Int) + 1) = ((p + 1 : Nat) : Int) := by rw [i64w (by omega) (by omega)]; omega
      have hw2 : IntKind.i64.wrap (((p + 1 : Nat) : Int) - 1) = (p : Int) := by rw [i64w (by omega) (by omega)]; omega
      have hx : C.code[(p : Int).toNat]? = some C.code[p] := by rw [Int.toNat_natCast]; exact List.getElem?_eq_getElem hp
      obtain ⟨b1, o1, c1, e1, hlt, hld⟩ := rds_ix s.im.rc (by omega) hx
      rw [Int.toNat_natCast] at hld
      simp only [mach, mach2, mstd, ↓reduceIte, Nat.reduceEqDiff, Nat.reduceAdd, Nat.reduceMul, r62, s.own.cells.ld, mbl, Nat.reduceLeDiff, Nat.reduceLT, Int.reduceEq, e1, hp', hw]
      refine XH_own s.own rfl (by simp [Value.cells]) rfl (fun h' q1 q2 q3 => ?_)
      have o' : Own h' b 95 [vi, vc, vt, vp, iv C.main, vk, iv ((p + 1 : Nat) : Int), .bool false] := by simpa [Value.cells] using q1
      have h0 : 0 <= (p : Int) := by omega
      have hld' : ldc h' b1 (o1 + p) = some (iv C.code[p]) := by
        obtain ⟨b2, o2, c2, e2, _, hld2⟩ := rds_ix (s.im.rc.keep q2 (fun q e => s.ne q (.inr (.inl e)))) (by omega) hx
        rw [e1] at e2
        cases e2
        rw [Int.toNat_natCast] at hld2; exact hld2
      simp only [mach, mach2, mstd, ↓reduceIte, Nat.reduceEqDiff, Nat.reduceAdd, Nat.reduceMul, o'.cells.ld, mbl, Nat.reduceLeDiff, Nat.reduceLT, Int.reduceEq, hw2, e1, h0, hp3, and_self, Int.toNat_natCast, Nat.mul_one, hld']
      refine hΨ _ _ (fin_ret (rv1 rfl ⟨q2, ?_⟩))
      rw [show Chk.nt C (some p) = (C.code[p], some (p + 1)) by unfold Chk.nt nx; simp only; rw [List.getElem?_eq_getElem hp]]
      exact ⟨rfl, o', s.im.keep q2 s.ne, s.ne, s.hl, by omega⟩
    · have hp' : (p : Int) ≥ (C.code.length : Int) := by omega
      simp only [mach, mach2, mstd, ↓reduceIte, Nat.reduceEqDiff, Nat.reduceAdd, Nat.reduceMul, r62, s.own.cells.ld, mbl, Nat.reduceLeDiff, Nat.reduceLT, Int.reduceEq, hvc, eq_true hp']
      refine XH_own s.own rfl (by simp [Value.cells]) rfl (fun h' q1 q2 q3 => ?_)
      have o' : Own h' b 95 [vi, vc, vt, vp, iv C.main, vk, iv p, .bool true] := by simpa [Value.cells] using q1
      simp only [mach, mach2, mstd, ↓reduceIte, Nat.reduceEqDiff, Nat.reduceAdd, Nat.reduceMul, o'.cells.ld, mbl, Nat.reduceLeDiff, Nat.reduceLT, Int.reduceEq]
      refine hΨ _ _ (fin_ret (rv1 rfl ⟨q2, ?_⟩))
      rw [show Chk.nt C (some p) = (0, none) by unfold Chk.nt nx; simp only; rw [List.getElem?_eq_none (by omega)]]
      exact ⟨rfl, p, o', s.im.keep q2 s.ne, s.ne, s.hl, s.le⟩
theorem want_ok {o : Option Nat} (s : Ro h b C vi vc vt vp vk o) (lo hi : Int) (h0 : 0 <= lo) : Gets Tryz.prog 57 [.pointer (some ⟨b, 0, none⟩), iv lo, iv hi] h (RfN h b C vi vc vt vp vk (Chk.wt C lo hi o)) := by
  refine Gets.of (keep := false) hP (draw_ok hM) k57 (by rfl) (fun Ψ hΨ => ?_)
  simp only [mach, mach2, mstd, ↓reduceIte, Nat.reduceEqDiff, Nat.reduceAdd, Nat.reduceMul, r57]
  refine XX_of (rnext_ok s) (fun res h1 hle hn => ?_)
  obtain ⟨kp, rfl, s1⟩ := hn
  refine .ret ?_
  have hcase : (∃ x q, Chk.nt C o = (x, some q) /\ Chk.wt C lo hi o = if lo <= x /\ x <= hi then (x, some q) else (lo, none)) \/ (Chk.nt C o = (0, none) /\ Chk.wt C lo hi o = (lo, none)) := by
    cases o with
    | none => exact .inr ⟨rfl, rfl⟩
    | some p =>
      unfold Chk.nt Chk.wt
      simp only
      cases nx C p with
      | none => exact .inr ⟨rfl, rfl⟩
      | some v => exact .inl ⟨v.1, v.2, rfl, rfl⟩
  rcases hcase with ⟨x, q, e1, e2⟩ | ⟨e1, e2⟩
  · rw [e1] at s1 ⊢
    rw [e2] at hΨ
    by_cases c1 : x < lo
    · rw [if_neg (by omega)] at hΨ
      simp only [mach, mach2, mstd, ↓reduceIte, Nat.reduceEqDiff, Nat.reduceAdd, Nat.reduceMul, eq_true c1, mbl, Nat.reduceLeDiff, Nat.reduceLT, Int.reduceEq]
      obtain ⟨p, bad, s⟩ := s1.any
      refine XH_own s.own rfl (by simp [Value.cells]) rfl (fun h' q1 q2 q3 => ?_)
      have o' : Own h' b 95 [vi, vc, vt, vp, iv C.main, vk, iv p, .bool true] := by simpa [Value.cells] using q1
      simp only [mach, mach2, mstd, ↓reduceIte, Nat.reduceEqDiff, Nat.reduceAdd, Nat.reduceMul, o'.cells.ld, mbl, Nat.reduceLeDiff, Nat.reduceLT, Int.reduceEq]
      exact hΨ _ _ (fin_ret (rv1 rfl ⟨kp.trans q2, rfl, p, o', s.im.keep q2 s.ne, s.ne, s.hl, s.le⟩))
    · by_cases c2 : x > hi
      · rw [if_neg (by omega)] at hΨ
        simp only [mach, mach2, mstd, ↓reduceIte, Nat.reduceEqDiff, Nat.reduceAdd, Nat.reduceMul, c1, eq_true c2, mbl, Nat.reduceLeDiff, Nat.reduceLT, Int.reduceEq]
        obtain ⟨p, bad, s⟩ := s1.any
        refine XH_own s.own rfl (by simp [Value.cells]) rfl (fun h' q1 q2 q3 => ?_)
        have o' : Own h' b 95 [vi, vc, vt, vp, iv C.main, vk, iv p, .bool true] := by simpa [Value.cells] using q1
        simp only [mach, mach2, mstd, ↓reduceIte, Nat.reduceEqDiff, Nat.reduceAdd, Nat.reduceMul, o'.cells.ld, mbl, Nat.reduceLeDiff, Nat.reduceLT, Int.reduceEq]
        exact hΨ _ _ (fin_ret (rv1 rfl ⟨kp.trans q2, rfl, p, o', s.im.keep q2 s.ne, s.ne, s.hl, s.le⟩))
      · rw [if_pos (by omega)] at hΨ
        simp only [mach, mach2, mstd, ↓reduceIte, Nat.reduceEqDiff, Nat.reduceAdd, Nat.reduceMul, c1, c2, mbl, Nat.reduceLeDiff, Nat.reduceLT, Int.reduceEq]
        exact hΨ _ _ (fin_ret (rv1 rfl ⟨kp, rfl, s1⟩))
  · rw [e1] at s1 ⊢
    rw [e2] at hΨ
    by_cases c1 : (0 : Int) < lo
    · simp only [mach, mach2, mstd, ↓reduceIte, Nat.reduceEqDiff, Nat.reduceAdd, Nat.reduceMul, eq_true c1, mbl, Nat.reduceLeDiff, Nat.reduceLT, Int.reduceEq]
      obtain ⟨p, bad, s⟩ := s1.any
      refine XH_own s.own rfl (by simp [Value.cells]) rfl (fun h' q1 q2 q3 => ?_)
      have o' : Own h' b 95 [vi, vc, vt, vp, iv C.main, vk, iv p, .bool true] := by simpa [Value.cells] using q1
      simp only [mach, mach2, mstd, ↓reduceIte, Nat.reduceEqDiff, Nat.reduceAdd, Nat.reduceMul, o'.cells.ld, mbl, Nat.reduceLeDiff, Nat.reduceLT, Int.reduceEq]
      exact hΨ _ _ (fin_ret (rv1 rfl ⟨kp.trans q2, rfl, p, o', s.im.keep q2 s.ne, s.ne, s.hl, s.le⟩))
    · obtain rfl : lo = 0 := by omega
      by_cases c2 : (0 : Int) > hi
      · simp only [mach, mach2, mstd, ↓reduceIte, Nat.reduceEqDiff, Nat.reduceAdd, Nat.reduceMul, c1, eq_true c2, mbl, Nat.reduceLeDiff, Nat.reduceLT, Int.reduceEq]
        obtain ⟨p, bad, s⟩ := s1.any
        refine XH_own s.own rfl (by simp [Value.cells]) rfl (fun h' q1 q2 q3 => ?_)
        have o' : Own h' b 95 [vi, vc, vt, vp, iv C.main, vk, iv p, .bool true] := by simpa [Value.cells] using q1
        simp only [mach, mach2, mstd, ↓reduceIte, Nat.reduceEqDiff, Nat.reduceAdd, Nat.reduceMul, o'.cells.ld, mbl, Nat.reduceLeDiff, Nat.reduceLT, Int.reduceEq]
        exact hΨ _ _ (fin_ret (rv1 rfl ⟨kp.trans q2, rfl, p, o', s.im.keep q2 s.ne, s.ne, s.hl, s.le⟩))
      · simp only [mach, mach2, mstd, ↓reduceIte, Nat.reduceEqDiff, Nat.reduceAdd, Nat.reduceMul, c1, c2, mbl, Nat.reduceLeDiff, Nat.reduceLT, Int.reduceEq]
        exact hΨ _ _ (fin_ret (rv1 rfl ⟨kp, rfl, s1⟩))
theorem rcon_ok {o : Option Nat} (s : Ro h b C vi vc vt vp vk o) (hk : C.cons.length <= 9223372036854775807) : Gets Tryz.prog 79 [.pointer (some ⟨b, 0, none⟩), iv 0] h (RfO h b C vi vc vt vp vk (o.bind (con0 C))) := by
  refine Gets.of (keep := false) hP (draw_ok hM) k79 (by rfl) (fun Ψ hΨ => ?_)
  obtain ⟨p0, bad0, s0⟩ := s.any
  obtain ⟨ka, kc, hvk⟩ := row_shape s0.im.rk
  have hw : IntKind.i64.wrap ((C.cons.length : Int) - 1) = (C.cons.length : Int) - 1 := i64w (by omega) (by omega)
  simp only [mach, mach2, mstd, ↓reduceIte, Nat.reduceEqDiff, Nat.reduceAdd, Nat.reduceMul, r79, s0.own.cells.ld, mbl, Nat.reduceLeDiff, Nat.reduceLT, Int.reduceEq, hvk, hw]
  refine XX_of (want_ok s 0 _ (Int.le_refl _)) (fun res h1 hle hn => ?_)
  obtain ⟨kp, rfl, s1⟩ := hn
  refine .ret ?_
  cases hx : o.bind (fun p => bl C C.cons.length p) with
  | none =>
    have e : Chk.wt C 0 ((C.cons.length : Int) - 1) o = (0, none) := by
      cases o with
      | none => rfl
      | some p => rw [wt_bl]; rw [Option.bind_some] at hx; rw [hx]
    have e2 : o.bind (con0 C) = none := by
      cases o with
      | none => rfl
      | some p => rw [Option.bind_some] at hx ⊢; rw [con0, hx]
    rw [e] at s1 ⊢
    rw [e2] at hΨ
    obtain ⟨p, s1⟩ := s1
    simp only [mach, mach2, mstd, ↓reduceIte, Nat.reduceEqDiff, Nat.reduceAdd, Nat.reduceMul, s1.own.cells.ld, mbl, Nat.reduceLeDiff, Nat.reduceLT, Int.reduceEq]
    exact hΨ _ _ (fin_norm ⟨kp, rfl, p, s1⟩)
  | some v =>
    obtain ⟨c, q⟩ := v
    obtain ⟨p, rfl, hx2⟩ := Option.bind_eq_some_iff.1 hx
    have e : Chk.wt C 0 ((C.cons.length : Int) - 1) (some p) = (c, some q) := by rw [wt_bl, hx2]
    rw [e] at s1 ⊢
    have s1 : Rf h1 b C vi vc vt vp vk q false := s1
    obtain ⟨_, _, _, c0, c1⟩ := bl_inv hx2
    obtain ⟨kb, ko, kc2, ke, kl, kd⟩ := rds_ix s1.im.rk c0 (cn_at c0 c1)
    have hvk2 := ke.symm.trans hvk
    cases hvk2
    by_cases z : cn C c = 0
    · have e2 : (some p).bind (con0 C) = some q := by rw [Option.bind_some, con0, hx2]; simp only [z, if_true]
      rw [e2] at hΨ
      simp only [mach, mach2, mstd, ↓reduceIte, Nat.reduceEqDiff, Nat.reduceAdd, Nat.reduceMul, s1.own.cells.ld, mbl, Nat.reduceLeDiff, Nat.reduceLT, Int.reduceEq, ke, c0, kl, c1, and_self, Nat.mul_one, kd, z]
      exact hΨ _ _ (fin_norm ⟨kp, rfl, s1⟩)
    · have e2 : (some p).bind (con0 C) = none := by rw [Option.bind_some, con0, hx2]; simp only [z, if_false]
      rw [e2] at hΨ
      have s := s1
      simp only [mach, mach2, mstd, ↓reduceIte, Nat.reduceEqDiff, Nat.reduceAdd, Nat.reduceMul, s1.own.cells.ld, mbl, Nat.reduceLeDiff, Nat.reduceLT, Int.reduceEq, ke, c0, kl, c1, and_self, Nat.mul_one, kd, z]
      refine XH_own s.own rfl (by simp [Value.cells]) rfl (fun h' q1 q2 q3 => ?_)
      have o' : Own h' b 95 [vi, vc, vt, vp, iv C.main, vk, iv q, .bool true] := by simpa [Value.cells] using q1
      simp only [mach, mach2, mstd, ↓reduceIte, Nat.reduceEqDiff, Nat.reduceAdd, Nat.reduceMul, o'.cells.ld, mbl, Nat.reduceLeDiff, Nat.reduceLT, Int.reduceEq]
      exact hΨ _ _ (fin_norm ⟨kp.trans q2, rfl, q, o', s.im.keep q2 s.ne, s.ne, s.hl, s.le⟩)
end
end Go.S17
