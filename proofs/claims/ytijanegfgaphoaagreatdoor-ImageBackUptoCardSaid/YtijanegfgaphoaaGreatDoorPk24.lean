import Derived.Test.YtijanegfgaphoaaGreatDoorPk23
import Derived.Test.YtijanegfgaphoaaGreatDoorPk14
import Derived.Test.YtijanegfgaphoaaGreatDoorRows
import Derived.Test.YtijanegfgaphoaaGreatDoorPk21
import Derived.LaidMore
import Derived.OpenShut
import Derived.MakeChecks
set_option linter.unusedVariables false
set_option linter.unusedSimpArgs false
namespace Go.S17
open Go Go.Eng Go.Proofs Go.Scn Go.Chk Go.Img
def sumT (ts : List Bs) : Nat := (ts.map fun t => t.length + 1).sum
theorem txts_sum : ∀ ts : List Bs, (ts.flatMap txtT).length <= 8 * sumT ts := by
  intro ts
  induction ts with
  | nil => simp [sumT]
  | cons t ts ih =>
    have := txtT_len t
    simp only [sumT, List.map_cons, List.sum_cons, List.flatMap_cons, List.length_append] at ih ⊢
    omega
theorem infs_ge : ∀ l : List Inf, l.length <= (l.flatMap infT).length := by
  intro l
  induction l with
  | nil => simp
  | cons x l ih =>
    have : 1 <= (infT x).length := by unfold infT; split <;> simp <;> omega
    simp only [List.flatMap_cons, List.length_append, List.length_cons]
    omega
section
variable {C : Cx} {ts : List Bs}
theorem imgT_len (f : Fit C ts) (hs : sumT ts <= 1048576) : (imgT C ts).length <= 160000000 := by
  have h1 := f.li; have h2 := f.lc; have h3 := f.lp; have h4 := f.lk
  have a1 := numsT_len (l := [C.main, (C.tops.length : Int)]) (by simp only [List.mem_cons, List.not_mem_nil, or_false]; rintro n (rfl | rfl); exact f.gm; exact ⟨by omega, by omega⟩)
  have a2 := numsT_len f.gk
  have a3 := numsT_len f.gc
  have a4 := txts_sum ts
  have a5 := infs_len f C.infos.length
  rw [List.take_length] at a5
  simp only [imgT, List.length_append, List.length_cons, List.length_nil] at a1 a2 a3 a4 a5 ⊢
  omega
theorem imgT_infos : C.infos.length <= (imgT C ts).length := by
  have := infs_ge C.infos
  simp only [imgT, List.length_append]
  omega
theorem ok_lines (f : Fit C ts) (ht : C.tops.length <= C.infos.length) : ∀ l ∈ linesOf C ts, l.Ok (imgT C ts).length := by
  have hi := imgT_infos (C := C) (ts := ts)
  have h1 := f.lc; have h2 := f.lk
  intro l hl
  unfold linesOf at hl
  simp only [List.mem_append, List.mem_cons, List.not_mem_nil, or_false, List.mem_map] at hl
  rcases hl with (((rfl | rfl) | ⟨t, h, rfl⟩) | ⟨x, h, rfl⟩) | rfl
  · exact ⟨f.gm, by omega⟩
  · exact ⟨f.gk, by omega⟩
  · exact f.l1 t h
  · have g := f.gi x h
    unfold lnInf
    split
    · exact ⟨g.2.1, g.2.2.1, g.2.2.2⟩
    · exact ⟨g.2.2.1, g.2.2.2⟩
  · exact ⟨f.gc, by omega⟩
theorem imgN_app : ∀ a b : List Ln, imgN (a ++ b) = imgN a + imgN b := by
  intro a
  induction a with
  | nil => intro b; simp [imgN]
  | cons x a ih => intro b; cases x <;> simp only [List.cons_append, imgN, ih] <;> omega
theorem imgN_text : ∀ ts : List Bs, imgN (ts.map Ln.text) = 0 := by
  intro ts
  induction ts with
  | nil => rfl
  | cons t ts ih => exact ih
theorem imgN_inf : ∀ l : List Inf, imgN (l.map lnInf) = 0 := by
  intro l
  induction l with
  | nil => rfl
  | cons x l ih => rw [List.map_cons]; unfold lnInf; split <;> exact ih
theorem imgN_lines : imgN (linesOf C ts) = 1 := by
  unfold linesOf
  rw [imgN_app, imgN_app, imgN_app, imgN_text, imgN_inf]
  rfl
theorem imgN_take (l : List Ln) (i : Nat) : imgN (l.take i) <= imgN l := by
  have := imgN_app (l.take i) (l.drop i)
  rw [List.take_append_drop] at this; omega
theorem lines_len : (linesOf C ts).length = ts.length + C.infos.length + 3 := by
  unfold linesOf; simp; omega
theorem size_lines (f : Fit C ts) (i : Nat) (hi : i <= (linesOf C ts).length) : (accL (linesOf C ts) i).infos.length <= 10000000 /\ (accL (linesOf C ts) i).ts.length <= 10000000 /\ (accL (linesOf C ts) i).tops.length <= 1000000000 := by
  have h1 := f.li; have h2 := f.lt; have h3 := f.lp
  have hl := lines_len (C := C) (ts := ts)
  obtain ⟨a, b, c⟩ := acc_le C.tops.length ((linesOf C ts).take i) (fun l hl m k e => by
    subst e
    have := List.mem_of_mem_take hl
    unfold linesOf at this
    simp only [List.mem_append, List.mem_cons, List.not_mem_nil, or_false, List.mem_map] at this
    rcases this with (((e | e) | ⟨t, _, e⟩) | ⟨x, _, e⟩) | e
    · injection e with _ e2; omega
    · cases e
    · cases e
    · unfold lnInf at e; split at e <;> cases e
    · cases e) D0
  have hk : ((linesOf C ts).take i).length <= ts.length + C.infos.length + 3 := by rw [List.length_take, hl]; omega
  have hn := imgN_take (linesOf C ts) i
  rw [imgN_lines] at hn
  have hm := Nat.mul_le_mul_right C.tops.length hn
  unfold accL
  simp only [D0, List.length_nil] at a b c ⊢
  exact ⟨by omega, by omega, by omega⟩
theorem cx_lines (f : Fit C ts) (hs : (ends C).isSome = true) : accL (linesOf C ts) (linesOf C ts).length = ⟨C.infos, C.code, ts, C.tops, C.main, C.cons⟩ /\ cxOf (accL (linesOf C ts) (linesOf C ts).length) = C := by
  obtain ⟨_, h2, h3, _⟩ := sound_facts hs
  have e := acc_lines C ts h2 h3
  refine ⟨e, ?_⟩
  rw [e]
  obtain ⟨a, b, c, d, e, g⟩ := C
  have := f.nt
  simp only at this
  subst this
  rfl
end
section
variable {h : AH} {C : Cx} {ts : List Bs} {vi vc vt vp vk : Value}
theorem Load_back (f : Fit C ts) (hS : sumT ts <= 1048576) (hs : (ends C).isSome = true) (h0 : AH) :
    Gets Tryz.prog 12 [tv (imgT C ts)] h0 (fun res h' => Keep (fun _ => False) h0 h' /\ ∃ vi vc vt vp vk, Im h' C ts vi vc vt vp vk /\ res = .ret (.tuple #[.agg #[vi, vc, vt, vp, iv C.main, vk], iv 0, iv 0])) := by
  obtain ⟨s1, s2, s3, s4⟩ := sound_facts hs
  obtain ⟨c1, c2⟩ := cx_lines f hs
  have hl := imgT_len f hS
  have ht := lines_txt C ts
  have := f.li; have := f.lt
  have key := Load_loop (fun hc h => hex_ok hc h) (linesOf C ts) (by rw [ht]; omega) (by rw [ht]; exact ok_lines f s4) (fits_lines C ts s1) (last_lines C ts) (size_lines f) (by rw [lines_len]; omega) (by rw [c2]; exact hs) (by rw [c2]; exact f.fits) h0
  rw [ht] at key
  refine key.mono fun res h' _ ⟨k, vi, vc, vt, vp, vk, x, e⟩ => ⟨k, vi, vc, vt, vp, vk, ?_, ?_⟩
  · rw [c2, c1] at x; exact x
  · rw [c1] at e; exact e
theorem ImageBack_ok (x : Im h C ts vi vc vt vp vk) (f : Fit C ts) (hS : sumT ts <= 1048576) : Gets Tryz.prog 6 [.agg #[vi, vc, vt, vp, iv C.main, vk]] h (fun res h' => Keep (fun _ => False) h h' /\ res = .ret (.bool true)) := by
  refine Gets.of (keep := false) hP (draw_ok hM) k6 (by rfl) (fun Ψ hΨ => ?_)
  have fli := f.li; have flc := f.lc; have flp := f.lp; have flk := f.lk; have flt := f.lt
  have z : Sz C := ⟨by omega, by omega, by omega, by rw [f.nt]; omega⟩
  have oI := Own.new h 26 h.length [vi, vc, vt, vp, iv C.main, vk]
  have kp1 : Keep (fun _ => False) h (h ++ [row 26 h.length [vi, vc, vt, vp, iv C.main, vk]]) := Keep.push _ _ _
  simp only [mach, mach2, mstd, ↓reduceIte, Nat.reduceEqDiff, Nat.reduceAdd, Nat.reduceMul, r6, mbl, Nat.reduceLeDiff, Nat.reduceLT, Int.reduceEq]
  generalize hh1 : h ++ [row 26 h.length [vi, vc, vt, vp, iv C.main, vk]] = h1 at oI kp1 ⊢
  have im1 := x.keep kp1 (fun _ _ e => e)
  refine XX_val (wakes_ok h1) ?_
  simp only [mach, mach2, mstd, ↓reduceIte, Nat.reduceEqDiff, Nat.reduceAdd, Nat.reduceMul, oI.cells.lds 0 6 (by simp), mbl, Nat.reduceLeDiff, Nat.reduceLT, Int.reduceEq]
  refine XX_of (Print_ok im1 f) (fun res h2 hle hn => ?_)
  obtain ⟨k2, rfl⟩ := hn
  refine .ret ?_
  have oI2 := oI.keep k2 (fun e => e)
  have im2 := im1.keep k2 (fun _ _ e => e)
  simp only [mach, mach2, mstd, ↓reduceIte, Nat.reduceEqDiff, Nat.reduceAdd, Nat.reduceMul, oI2.cells.lds 0 6 (by simp), mbl, Nat.reduceLeDiff, Nat.reduceLT, Int.reduceEq]
  refine XX_of (rCheck_ok im2.im z (fun w hw => (f.gi w hw).2.2.1.2) (by omega)) (fun res h3 hle hn => ?_)
  obtain ⟨k3, rfl⟩ := hn
  refine .ret ?_
  cases hs : (ends C).isSome with
  | false =>
    simp only [mach, mach2, mstd, ↓reduceIte, Nat.reduceEqDiff, Nat.reduceAdd, Nat.reduceMul, hs, mbl, Nat.reduceLeDiff, Nat.reduceLT, Int.reduceEq, tx_toList, mk_toList, show (([] : Bs) == []) = true from rfl, Bool.not_true]
    exact hΨ _ _ (fin_ret (rv1 rfl ⟨(kp1.trans k2).trans k3, rfl⟩))
  | true =>
    simp only [mach, mach2, mstd, ↓reduceIte, Nat.reduceEqDiff, Nat.reduceAdd, Nat.reduceMul, hs, mbl, Nat.reduceLeDiff, Nat.reduceLT, Int.reduceEq]
    have oI3 := oI2.keep k3 (fun e => e)
    have im3 := im2.keep k3 (fun _ _ e => e)
    refine XX_of (Load_back f hS hs h3) (fun res h4 hle hn => ?_)
    obtain ⟨k4, wi, wc, wt, wp, wk, y, rfl⟩ := hn
    refine .ret ?_
    have oI4 := oI3.keep k4 (fun e => e)
    have im4 := im3.keep k4 (fun _ _ e => e)
    obtain ⟨ia, ic, rfl⟩ := row_shape y.im.ri
    obtain ⟨ca, cc, rfl⟩ := row_shape y.im.rc
    obtain ⟨ta, tc, rfl⟩ := row_shape y.rt
    obtain ⟨pa, pc, rfl⟩ := row_shape y.im.rp
    obtain ⟨ka, kc, rfl⟩ := row_shape y.im.rk
    have oW := Own.new h4 26 h4.length [.slice none 0 0, .slice none 0 0, .slice none 0 0, .slice none 0 0, iv 0, .slice none 0 0]
    have kW : Keep (fun _ => False) h4 (h4 ++ [row 26 h4.length [.slice none 0 0, .slice none 0 0, .slice none 0 0, .slice none 0 0, iv 0, .slice none 0 0]]) := Keep.push _ _ _
    simp only [mach, mach2, mstd, ↓reduceIte, Nat.reduceEqDiff, Nat.reduceAdd, Nat.reduceMul, mbl, Nat.reduceLeDiff, Nat.reduceLT, Int.reduceEq]
    refine XH_own oW rfl (by simp [Value.cells]) rfl (fun h5 q1 q2 q3 => ?_)
    simp only [List.take_zero, List.nil_append, Value.cells, List.drop] at q1
    have kk : Keep (fun _ => False) h4 h5 := kW.trans' q2 (fun c hc e => by omega)
    have oI5 := oI4.keep kk (fun e => e)
    have im5 := im4.keep kk (fun _ _ e => e)
    have y5 := y.keep kk (fun _ _ e => e)
    simp only [mach, mach2, mstd, ↓reduceIte, Nat.reduceEqDiff, Nat.reduceAdd, Nat.reduceMul, oI5.cells.lds 0 6 (by simp), q1.cells.lds 0 6 (by simp), mbl, Nat.reduceLeDiff, Nat.reduceLT, Int.reduceEq]
    refine XX_of (Same_ok y5 im5 f) (fun res h6 hle hn => ?_)
    obtain ⟨k5, rfl⟩ := hn
    refine .ret ?_
    simp only [mach, mach2, mstd, ↓reduceIte, Nat.reduceEqDiff, Nat.reduceAdd, Nat.reduceMul, mbl, Nat.reduceLeDiff, Nat.reduceLT, Int.reduceEq]
    exact hΨ _ _ (fin_ret (rv1 rfl ⟨((((kp1.trans k2).trans k3).trans k4).trans kk).trans k5, rfl⟩))
theorem image_of2 {H : Type} (B : Bulk H) {cs : List Value} {d : DataW H} (hr : Rd' Tryz.prog h 26 cs d) (hB : B.f d <= 1048576) : ∃ C ts vi vc vt vp vk, cs = [vi, vc, vt, vp, iv C.main, vk] /\ Im h C ts vi vc vt vp vk /\ Fit C ts /\ sumT ts <= 1048576 := by
  obtain ⟨hl, hf⟩ := rdT B u_img f_img hr
  rw [c_img] at hl
  obtain ⟨a, b, c, e, f, g, rfl⟩ := len6 hl
  obtain ⟨d0, r0, b0⟩ := hf 0 _ _ rfl
  obtain ⟨d1, r1, b1⟩ := hf 1 _ _ rfl
  obtain ⟨d2, r2, b2⟩ := hf 2 _ _ rfl
  obtain ⟨d3, r3, b3⟩ := hf 3 _ _ rfl
  obtain ⟨d4, r4, b4⟩ := hf 4 _ _ rfl
  obtain ⟨d5, r5, b5⟩ := hf 5 _ _ rfl
  rw [c_infs] at r0
  rw [c_ints] at r1 r3 r5
  rw [c_strs] at r2
  rw [c_int] at r4
  have q0 : Rd' Tryz.prog h 22 [a] d0 := by simpa using r0
  have q1 : Rd' Tryz.prog h 23 [b] d1 := by simpa using r1
  have q2 : Rd' Tryz.prog h 24 [c] d2 := by simpa using r2
  have q3 : Rd' Tryz.prog h 23 [e] d3 := by simpa using r3
  have q5 : Rd' Tryz.prog h 23 [g] d5 := by simpa using r5
  obtain ⟨is, i1, i2, i3⟩ := infs_of B (v := a) (N := 1048576) q0 (by omega)
  obtain ⟨co, c1, c2, c3⟩ := ints_of B (v := b) (N := 1048576) q1 (by omega)
  obtain ⟨tx', t1, t2⟩ := rdTexts B (v := c) u_strs u_str q2
  obtain ⟨tp, p1, p2, p3⟩ := ints_of B (v := e) (N := 1048576) q3 (by omega)
  obtain ⟨m, e4, gm⟩ := rdI u_int r4
  obtain ⟨ks, k1, k2, k3⟩ := ints_of B (v := g) (N := 1048576) q5 (by omega)
  simp at e4
  subst e4
  obtain ⟨ta, tc, ht⟩ := row_shape t1
  have et : (tx'.map fun x => x.data.toList).map tv = tx'.map Value.string := by
    rw [List.map_map]
    exact List.map_congr_left fun x _ => rfl
  have es : sumT (tx'.map fun x => x.data.toList) = (tx'.map fun y => y.size + 1).sum := by
    unfold sumT
    rw [List.map_map]
    rfl
  have t3 : tx'.length <= (tx'.map fun y => y.size + 1).sum /\ ∀ x ∈ tx', x.size <= (tx'.map fun y => y.size + 1).sum := by
    clear t1 et es t2 ht
    induction tx' with
    | nil => exact ⟨Nat.le_refl _, fun x hx => nomatch hx⟩
    | cons y l ih =>
      simp only [List.map_cons, List.sum_cons, List.length_cons]
      refine ⟨by omega, fun x hx => ?_⟩
      rcases List.mem_cons.1 hx with rfl | hx
      · omega
      · have := ih.2 x hx; omega
  refine ⟨⟨is, co, tx'.length, tp, m, ks⟩, tx'.map fun x => x.data.toList, a, b, c, e, g, rfl, ⟨⟨i1, c1, ⟨ta, tc, ht⟩, p1, k1⟩, by rw [et, List.length_map]; exact t1⟩, ⟨i3, c3, p3, k3, by rw [List.length_map]; omega, fun t ht' => ?_, gm, c2, k2, i2, by rw [List.length_map]⟩, by rw [es]; omega⟩
  obtain ⟨x, hx, rfl⟩ := List.mem_map.1 ht'
  have := t3.2 x hx
  rw [Array.length_toList]; show x.size <= _; omega
end
end Go.S17

namespace Go.S17
open Go Go.Eng Go.Proofs Go.Proofs.YtijanegfgaphoaaGreatDoor
theorem var_heap {P : Program} {W : World} {n : String} {g : Nat} {cs : Array Value} (hg : P.globalNamed n = some g) (h : W.var? P n = some cs) : ∃ e fr, W.heap[g]? = some (.cells cs e fr) := by
  simp only [World.var?, hg, Option.bind_some] at h
  split at h
  · cases h; exact ⟨_, _, by assumption⟩
  · cases h
def laidL : List (String × DataW Unit) := [("math/bits.deBruijn32tab", Rows.laid_math_bits_deBruijn32tab), ("math/bits.deBruijn64tab", Rows.laid_math_bits_deBruijn64tab), ("internal/strconv.uint64pow10", Rows.laid_internal_strconv_uint64pow10)]
theorem gPow : Tryz.prog.globalNamed "internal/strconv.uint64pow10" = some 1 := by kernel_rfl
theorem tPow : (Tryz.prog.globals[1]?).map (·.type) = some 136 := by kernel_rfl
theorem uPow : Tryz.prog.underlying 136 = some (.array 20 126) := by kernel_rfl
theorem uU64 : Tryz.prog.underlying 126 = some (.int .u64) := by kernel_rfl
theorem cPow : Tryz.prog.cellsOf 136 = 20 := by kernel_rfl
theorem cU64 : Tryz.prog.cellsOf 126 = 1 := by kernel_rfl
theorem gsz : Tryz.prog.globals.size = 6 := by kernel_rfl
theorem tabM : Tab Tryz.prog 0 = some [.complex .f32 0 0] := by kernel_rfl
theorem tabP : Tab Tryz.prog 1 = some ((List.range 20).map fun i => Value.int .u64 (10 ^ i)) := by kernel_rfl
theorem tabO : ∀ g, g < 6 -> g ≠ 0 -> g ≠ 1 -> Tab Tryz.prog g = none := by
  intro g h1 h2 h3
  have h : ((List.range 6).all fun g => g == 0 || g == 1 || (Tab Tryz.prog g).isNone) = true := by kernel_rfl
  have := List.all_eq_true.1 h g (List.mem_range.2 h1)
  simp only [Bool.or_eq_true, beq_iff_eq, Option.isNone_iff_eq_none] at this
  rcases this with (e | e) | e
  · exact absurd e h2
  · exact absurd e h3
  · exact e
theorem powD : (Rows.laid_internal_strconv_uint64pow10 : DataW Unit) = .agg ((List.range 20).map fun i => .lit (.int .u64 (10 ^ i))) := by rfl
theorem zMax : (((begin Tryz.prog (fun _ _ => 0) default).world.heap[(0 : Nat)]?).bind Obj.row?) = some (#[.int .i64 0], 3) := by kernel_rfl
set_option maxRecDepth 100000 in
theorem tab_of_laid {W : World} (h : laidMetH Tryz.prog laidL W) (hS : W.ShapedOpen Tryz.prog) : TabOk Tryz.prog W.heap := by
  rw [MakeChecks.laidMetH_plain _ _ _ (by kernel_rfl)] at h
  obtain ⟨ps, ⟨_, _, _, _, _, _, _, _, _, _, ⟨_, _, _, _, _, _, _, _, _, _, ⟨g3, t3, cs3, f3, p3, q3, hg3, ht3, hv3, hd3, _, _⟩, _⟩, _⟩, _, _⟩ := h
  obtain rfl := Option.some.inj (gPow.symm.trans hg3)
  obtain rfl := Option.some.inj (tPow.symm.trans ht3)
  obtain ⟨e3, fr3, hh3⟩ := var_heap hg3 hv3
  intro g cs hg
  by_cases hgM : g = 0
  · subst hgM
    rw [tabM] at hg; cases hg
    obtain ⟨m, hm⟩ := Tryz.laysContains.s1_3 W hS
    obtain ⟨cur, hh, hsz, _⟩ := hS.1 0 _ _ (by rw [gsz]; omega) zMax
    refine ⟨cur, _, _, hh, ?_⟩
    have hc : cur[0]? = some (.int .i64 m) := by
      have hm' : W.cell? ⟨(0 : Nat), 0, none⟩ = some (.int .i64 m) := hm
      simpa [World.cell?, hh] using hm'
    have h1 : cur.size = 1 := hsz
    refine ⟨by simp [h1], fun i u v hu hv => ?_⟩
    have hi : i = 0 := by have := (List.getElem?_eq_some_iff.1 hu).1; simp at this; omega
    subst hi
    rw [Array.getElem?_toList, hc] at hv
    cases hv
    cases hu
    exact .unk _ _ _ rfl (fun _ => ⟨m, rfl⟩)
  by_cases hgP : g = 1
  · subst hgP
    rw [tabP] at hg; cases hg
    refine ⟨cs3, e3, fr3, hh3, ?_⟩
    obtain ⟨xs, m, rfl, hx, hlen, hn, hel⟩ := DataW.trod_array uPow hd3
    rw [cPow] at hlen
    rw [powD] at hx
    simp only [Prod.mk.injEq, DataW.agg.injEq] at hx
    have hkey : ∀ i, i < 20 -> cs3.toList[i]? = some (.int .u64 (10 ^ i)) := by
      intro i hi
      have h1 := hel i hi
      rw [cU64, Nat.mul_one, List.getElem?_eq_getElem (by omega)] at h1
      obtain ⟨n, k1, k2, _⟩ := DataW.trod_int uU64 h1
      have h2 := congrArg (fun l => l[i]?) hx.1
      simp only [List.getElem?_map] at h2
      rw [List.getElem?_range hi, List.getElem?_eq_getElem (by omega), Option.map_some, Option.map_some, k2] at h2
      have h3 : n = 10 ^ i := by
        have := Option.some.inj h2
        simp only [DataW.lit.injEq, Lit.int.injEq, true_and] at this
        exact this.symm
      have h4 := congrArg (fun l => l[0]?) k1
      simp only [List.getElem?_take, Nat.zero_lt_one, if_true, List.getElem?_drop, Nat.add_zero] at h4
      rw [h4, h3]; rfl
    refine ⟨by simp [hlen], fun i u v hu hv => ?_⟩
    have hi : i < 20 := by have := (List.getElem?_eq_some_iff.1 hu).1; simpa using this
    rw [hkey i hi] at hv
    cases hv
    rw [List.getElem?_map, List.getElem?_range hi] at hu
    cases hu
    exact .int _ _
  by_cases hlt : g < 6
  · rw [tabO g hlt hgM hgP] at hg; cases hg
  · unfold Tab at hg
    rw [Array.getElem?_eq_none (by rw [gsz]; omega)] at hg
    cases hg
theorem door_met (os : Os) (args : Array Value) : laidMetH Tryz.prog laidL ((World.doorLaid Tryz.prog 400 os).forCall (fun _ _ => 0) ⟨#[], args, []⟩).memory :=
  laidMetH_of_parts3 (fuel := 8) (laidMet_of_run' 8 (by kernel_rfl) (by kernel_rfl)) (by kernel_rfl) (by kernel_rfl)
end Go.S17
