import Derived.Test.YtjacebjfidhcoaaPk22
/- Heap: HeapMoves. -/
set_option linter.unusedVariables false
set_option linter.unusedSimpArgs false
namespace Go.S18
open Go Go.Eng Go.Proofs Go.Chk

theorem pad_cong {S S' : HS} (h : S.infos = S'.infos) (w : Int × Int) (n : Nat) : S.pad w n ↔ S'.pad w n := by
  unfold HS.pad HS.ik; rw [h]
theorem all_cong {S S' : HS} (h : S.infos = S'.infos) (w : Int × Int) (ys : List (Int × Int)) : S.all w ys = S'.all w ys := by
  unfold HS.all
  by_cases c : S.pad w ys.length
  · rw [if_pos c, if_pos ((pad_cong h w _).1 c)]
  · rw [if_neg c, if_neg (fun e => c ((pad_cong h w _).2 e))]
def psum (S : HS) (P : List (Int × Op)) : Nat := (P.map fun p => (S.all p.2.w p.2.ys).length).sum
theorem psum_cong {S S' : HS} (h : S.infos = S'.infos) (P : List (Int × Op)) : psum S P = psum S' P := by
  unfold psum; congr 1; exact List.map_congr_left fun p _ => by rw [all_cong h]
theorem psum_app (S : HS) (P : List (Int × Op)) (p : Int × Op) : psum S (P ++ [p]) = psum S P + (S.all p.2.w p.2.ys).length := by simp [psum]

/-- An object stands in the old half. -/
structure OObj (S : HS) (k : Int) (w : Int × Int) (ys : List (Int × Int)) : Prop where
  beg : mget k S.oldm = some ((S.all w ys).length : Int)
  wds : ∀ j : Nat, j < (S.all w ys).length → gx S.old (k + j) = wat (S.all w ys) j
  fit : S.fits w ys
  k0 : 0 ≤ k
theorem Obj.flip {S : HS} {k : Int} {w : Int × Int} {ys : List (Int × Int)} (o : Obj S k w ys) : OObj S.flip k w ys := ⟨o.beg, o.wds, o.fit, o.k0⟩
theorem OObj.laid {S : HS} {k : Int} {w : Int × Int} {ys : List (Int × Int)} (o : OObj S k w ys) (zs : List (Int × Int)) : OObj (S.laid zs) k w ys := ⟨o.beg, o.wds, o.fit, o.k0⟩
theorem gx_set {xs : List (Int × Int)} {i : Int} {x : Int × Int} {j : Int} (h0 : 0 ≤ i) (h : j ≠ i) : gx (xs.set i.toNat x) j = gx xs j := by
  unfold gx wat
  rw [List.length_set]
  split
  · rename_i c
    rw [List.getElem?_set_ne (by omega)]
  · rfl
theorem gx_set_eq {xs : List (Int × Int)} {i : Int} {x : Int × Int} (h0 : 0 ≤ i) (h : i < xs.length) : gx (xs.set i.toNat x) i = x := by
  unfold gx wat
  rw [List.length_set, if_pos ⟨h0, h⟩, List.getElem?_set_self (by omega)]; rfl
theorem OObj.setold {S : HS} {k : Int} {w : Int × Int} {ys : List (Int × Int)} (o : OObj S k w ys) {i : Int} (x : Int × Int) (h0 : 0 ≤ i) (hi : k + ((S.all w ys).length : Int) ≤ i) : OObj (S.setold i x) k w ys := by
  refine ⟨o.beg, fun j hj => ?_, o.fit, o.k0⟩
  have hj' : j < (S.all w ys).length := hj
  show gx (S.old.set i.toNat x) (k + j) = _
  rw [gx_set h0 (by omega)]; exact o.wds j hj'
theorem Obj.setold {S : HS} {k : Int} {w : Int × Int} {ys : List (Int × Int)} (o : Obj S k w ys) (i : Int) (x : Int × Int) : Obj (S.setold i x) k w ys := ⟨o.beg, o.wds, o.fit, o.k0⟩
theorem plain4 (S : HS) (k : Int) : ¬ S.plain (4, k) := by
  rintro (e | e | e)
  · exact absurd (show (4 : Int) = 1 from e) (by decide)
  · exact absurd (show (4 : Int) = 2 from e.1) (by decide)
  · exact absurd (show (4 : Int) = 3 from e.1) (by decide)
theorem OObj.hd {S : HS} {k : Int} {w : Int × Int} {ys : List (Int × Int)} (o : OObj S k w ys) : gx S.old k = w := by
  have := o.wds 0 (by have := all_len S w ys; omega)
  rw [show k + ((0 : Nat) : Int) = k by omega] at this
  rw [this]; exact all_zero S w ys
theorem OObj.words {S : HS} {k : Int} {w : Int × Int} {ys : List (Int × Int)} (o : OObj S k w ys) : S.owords (4, k) = S.all w ys := by
  unfold HS.owords
  rw [show mget ((4 : Int), k).2 S.oldm = some ((S.all w ys).length : Int) from o.beg]
  refine List.ext_getElem (by simp) (fun j h1 h2 => ?_)
  simp only [List.getElem_map, List.getElem_range]
  rw [o.wds j h2, wat, Int.toNat_natCast, List.getElem?_eq_getElem h2]; rfl
/-- An object that was not moved. -/
theorem OObj.mov1 {S : HS} {k : Int} {w : Int × Int} {ys : List (Int × Int)} (o : OObj S k w ys) (room : (S.now.length : Int) + (S.all w ys).length ≤ S.size) :
    S.mov 1 (4, k) = some ((4, (S.now.length : Int)), 0, (S.laid (S.all w ys)).setold k (13, (S.now.length : Int))) := by
  have hk := fits_kind o.fit
  rw [HS.mov, if_neg (plain4 S k), if_pos ⟨rfl, by show (mget k S.oldm).isSome = true; rw [o.beg]; rfl⟩]
  rw [show gx S.old ((4 : Int), k).2 = w from o.hd, if_neg (by omega), if_neg (by omega), o.words, if_neg (by omega)]
/-- One that was. -/
theorem mov2 {S : HS} {k t : Int} {n : Int} (hb : mget k S.oldm = some n) (hh : gx S.old k = (13, t)) : S.mov 1 (4, k) = some ((4, t), 0, S) := by
  rw [HS.mov, if_neg (plain4 S k), if_pos ⟨rfl, by show (mget k S.oldm).isSome = true; rw [hb]; rfl⟩]
  rw [show gx S.old ((4 : Int), k).2 = (13, t) from hh, if_pos rfl]
theorem mov_int (S : HS) : S.mov 1 (1, 5) = some ((1, 5), 0, S) := by rw [HS.mov, if_pos (.inl rfl)]
theorem mov_bad (S : HS) : S.mov 1 (77, 0) = some ((0, 0), 1, S) := by
  rw [HS.mov, if_neg, if_neg]
  · exact fun e => absurd e.1 (by decide)
  · rintro (e | e | e)
    · exact absurd e (by decide)
    · exact absurd e.1 (by decide)
    · exact absurd e.1 (by decide)

theorem HS.Ok.all {S : HS} (o : S.Ok) {w : Int × Int} {ys : List (Int × Int)} (f : S.fits w ys) (hf : ∀ i ∈ S.infos, 0 ≤ i.f) : (S.laid (S.all w ys)).Ok := by
  have hl := all_len S w ys
  refine o.laid (by omega) ?_
  rw [all_zero]
  intro h6
  rcases f with c1 | c1 | c1 | c1 | c1
  · refine ⟨by omega, by omega, by omega, by omega⟩
  all_goals omega
theorem HS.Ok.setold {S : HS} (o : S.Ok) (i : Int) (x : Int × Int) : (S.setold i x).Ok := ⟨o.bw, o.hi⟩
theorem HS.OkOld.of {S : HS} (o : S.Ok) : S.flip.OkOld := o.bw
theorem HS.OkOld.laid {S : HS} (o : S.OkOld) (ys : List (Int × Int)) : (S.laid ys).OkOld := o
theorem HS.OkOld.setold {S : HS} (o : S.OkOld) (i : Int) (x : Int × Int) : (S.setold i x).OkOld := by
  intro k n h
  have := o k n h
  show 0 ≤ k ∧ 1 ≤ n ∧ k + n ≤ ((S.old.set i.toNat x).length : Int)
  rw [List.length_set]; exact this
theorem HS.Ok.flip (S : HS) : S.flip.Ok := by
  refine ⟨?_, ?_⟩
  · intro k n h; cases h
  · intro k n h; cases h

/-- Behind so many moves: what is still to be moved. -/
structure Ms (h0 h : AH) (b : Nat) (L : Lay) (S : HS) (P : List (Int × Op)) (m : Nat) (v7 v8 v9 : Value) (N : Nat) : Prop where
  hp : Hp h b L S
  ok : S.Ok
  oo : S.OkOld
  inf : ∀ i ∈ S.infos, 0 ≤ i.f
  kp : Keep (fun _ => False) h0 h
  rw3 : Rw3 h0.length h L v7 v8 v9 (P.map fun p => (4, p.1)) (P.map fun p => p.2.w) (P.map fun p => p.2.lv)
  ob : ∀ p ∈ P.take m, OObj S p.1 p.2.w p.2.ys
  iq : ∀ p ∈ P, p.2.Q h0 N
  spc : P.Pairwise fun a c => a.1 + ((S.all a.2.w a.2.ys).length : Int) ≤ c.1
  sum : S.now.length + psum S (P.take m) ≤ S.size
  zi : ∀ q, q < h0.length → L.cls q = 0
section
variable {h0 h h' : AH} {b : Nat} {L L' : Lay} {S S' : HS} {P : List (Int × Op)} {m : Nat} {v7 v8 v9 : Value} {N : Nat}
theorem Ms.keepF (s : Ms h0 h b L S P m v7 v8 v9 N) (k : Keep (fun _ => False) h h') : Ms h0 h' b L S P m v7 v8 v9 N :=
  ⟨s.hp.keepF k, s.ok, s.oo, s.inf, s.kp.trans k, s.rw3.keepF k, s.ob, s.iq, s.spc, s.sum, s.zi⟩
theorem Ms.same (s : Ms h0 h b L S P m v7 v8 v9 N) (k : Keep (Mine L) h h') (hp' : Hp h' b L' S) (sm : Same h.length L L') : Ms h0 h' b L' S P m v7 v8 v9 N := by
  have hk := s.kp.len
  exact ⟨hp', s.ok, s.oo, s.inf, s.kp.trans' k (fun c hc e => e (s.zi c hc)), s.rw3.keep k sm, s.ob, s.iq, s.spc, s.sum, fun q hq => (sm q (by omega)).2 (s.zi q hq)⟩
/-- One more object is moved. -/
theorem Ms.mov (s : Ms h0 h b L S P (m + 1) v7 v8 v9 N) (k : Keep (Mine L) h h') {p : Int × Op} (hm : P[m]? = some p) (hp' : Hp h' b L' ((S.laid (S.all p.2.w p.2.ys)).setold p.1 (13, (S.now.length : Int)))) (sm : Same h.length L L') :
    Ms h0 h' b L' ((S.laid (S.all p.2.w p.2.ys)).setold p.1 (13, (S.now.length : Int))) P m v7 v8 v9 N := by
  have hk := s.kp.len
  have hml : m < P.length := (List.getElem?_eq_some_iff.1 hm).1
  have htake : P.take (m + 1) = P.take m ++ [p] := by
    rw [List.take_add_one, hm]; rfl
  have hpm : p ∈ P.take (m + 1) := by rw [htake]; simp
  have op := s.ob p hpm
  refine ⟨hp', (s.ok.all op.fit s.inf).setold _ _, (s.oo.laid _).setold _ _, s.inf, s.kp.trans' k (fun c hc e => e (s.zi c hc)), s.rw3.keep k sm, fun q hq => ?_, s.iq, s.spc, ?_, fun q hq => (sm q (by omega)).2 (s.zi q hq)⟩
  · refine ((s.ob q (by rw [htake]; exact List.mem_append_left _ hq)).laid _).setold _ op.k0 ?_
    obtain ⟨i, hi, rfl⟩ := List.getElem_of_mem hq
    rw [List.length_take] at hi
    rw [List.getElem_take]
    have := List.pairwise_iff_getElem.1 s.spc i m (by omega) hml (by omega)
    rw [show P[m] = p by rw [List.getElem?_eq_getElem hml] at hm; exact Option.some.inj hm] at this
    exact this
  · have := s.sum
    rw [htake, psum_app] at this
    show ((((S.now ++ S.all p.2.w p.2.ys).length : Nat) : Int)) + psum S (P.take m) ≤ S.size
    rw [List.length_append]; push_cast; omega
end

set_option maxHeartbeats 8000000 in
theorem Moves_ok {h : AH} {C : Cx} {texts : List ByteArray} {vi vc vt vp vk : Value} {N : Nat} (g : Given h N C texts vi vc vt vp vk) {u : Value} {os : List Op} (ru : Rds h 7 u os.length (os.flatMap Op.cells)) (qs : ∀ o ∈ os, o.Q h N) (hN : N ≤ 1048576) (hos : os.length ≤ N) :
    Gets Try.prog 6 [.agg #[vi, vc, vt, vp, iv C.main, vk], u] h (fun res h' => res = .ret (.bool true)) := by
  refine Gets.of (keep := false) hP (draw_ok hM) k6 (by rfl) (fun Ψ hΨ => ?_)
  obtain ⟨ua, uc, rfl⟩ := row_shape ru
  have oI := Own.new h 27 h.length [vi, vc, vt, vp, iv C.main, vk]
  have k1 : Keep (fun _ => False) h (h ++ [row 27 h.length [vi, vc, vt, vp, iv C.main, vk]]) := Keep.push _ _ _
  simp only [mach, mstd, ↓reduceIte, Nat.reduceEqDiff, Nat.reduceAdd, Nat.reduceMul, r6, mbl, Nat.reduceLeDiff, Nat.reduceLT, Int.reduceEq]
  generalize h ++ [row 27 h.length [vi, vc, vt, vp, iv C.main, vk]] = h1 at oI k1 ⊢
  refine XX_val (wakes_ok h1) ?_
  simp only [mach, mstd, ↓reduceIte, Nat.reduceEqDiff, Nat.reduceAdd, Nat.reduceMul, mbl, Nat.reduceLeDiff, Nat.reduceLT, Int.reduceEq, oI.cells.lds 0 6 (by simp)]
  have li := g.li
  have lc := g.lc
  have lp := g.lp
  have lk := g.lk
  have lt := g.lt
  refine XX_of (New_ok (C := C) (texts := texts) (g.im.keep k1 (fun _ _ e => e)) ⟨by omega, by omega, by omega, by omega⟩ (g.rt.keep k1 (fun _ _ e => e)) (by omega) (by omega) 2000) (fun res h2 hle2 hn => ?_)
  obtain ⟨k2, hn⟩ := hn
  unfold NewO at hn
  by_cases hends : (ends C).isSome = true
  case neg =>
    rw [if_neg (fun e => hends e.1), if_neg hends] at hn
    subst hn
    refine .ret ?_
    simp only [mach, mstd, ↓reduceIte, Nat.reduceEqDiff, Nat.reduceAdd, Nat.reduceMul, mbl, Nat.reduceLeDiff, Nat.reduceLT, Int.reduceEq]
    exact hΨ _ _ (fin_ret (rv1 rfl rfl))
  rw [if_pos ⟨hends, by omega, by omega⟩] at hn
  split at hn
  case h_2 =>
    subst hn
    refine .ret ?_
    simp only [mach, mstd, ↓reduceIte, Nat.reduceEqDiff, Nat.reduceAdd, Nat.reduceMul, mbl, Nat.reduceLeDiff, Nat.reduceLT, Int.reduceEq]
    exact hΨ _ _ (fin_ret (rv1 rfl rfl))
  rename_i S0 hS0
  obtain ⟨b, L0, rfl, hp0, z0⟩ := hn
  obtain ⟨hH, hC, hT, hI, hF⟩ := ends_some hends
  obtain ⟨gi, gt, gc, gs, gg, go, gold⟩ := gls_img hS0
  have hgl : S0.globals.length ≤ 200000 := by rw [gg]; have := hH.2.2.1; show 0 + C.tops.length ≤ 200000; omega
  have k02 := k1.trans k2
  have hk1 := k1.len
  have s0 : Ls h h2 b L0 S0 [] (.slice none 0 0) (.slice none 0 0) (.slice none 0 0) N := by
    refine ⟨hp0, (HS.Ok.start C texts 2000).gls hF hS0, by rw [gi]; exact hF, tiles_gls (S := HS.start C texts 2000) (rfl : (0 : Int) = 0) hS0, k02, .nil _ _ _, (fun p hp => nomatch hp), (fun p hp => nomatch hp), fun q hq => z0 q (by omega)⟩
  clear hp0 z0 oI
  refine .ret ?_
  simp only [mach, mstd, ↓reduceIte, Nat.reduceEqDiff, Nat.reduceAdd, Nat.reduceMul, mbl, Nat.reduceLeDiff, Nat.reduceLT, Int.reduceEq]
  refine XLo_rule (α := Nat × HS × Lay × List (Int × Op) × Value × Value × Value) (fun a => [(1, .slice ua os.length uc), (4, .bool false), (5, .pointer (some ⟨b, 0, none⟩)), (7, a.2.2.2.2.1), (8, a.2.2.2.2.2.1), (9, a.2.2.2.2.2.2), (10, iv a.1)])
    (fun a h' => a.1 ≤ os.length ∧ a.1 ≤ 100 ∧ a.2.2.2.1.length ≤ a.1 ∧ Ls h h' b a.2.2.1 a.2.1 a.2.2.2.1 a.2.2.2.2.1 a.2.2.2.2.2.1 a.2.2.2.2.2.2 N ∧ a.2.1.globals.length ≤ 200000 ∧ (a.2.2.2.1.Pairwise fun x c => x.1 + ((a.2.1.all x.2.w x.2.ys).length : Int) ≤ c.1) ∧ psum a.2.1 a.2.2.2.1 ≤ a.2.1.now.length) (fun a => os.length - a.1) (0, S0, L0, [], .slice none 0 0, .slice none 0 0, .slice none 0 0)
    ⟨Nat.zero_le _, by simp, by simp, s0, hgl, .nil, by simp [psum]⟩ ⟨rfl, rfl, rfl, rfl, rfl, rfl, rfl, trivial⟩ ?_
  rintro ⟨i, S, L, P, v7, v8, v9⟩ ha Ψ2 ⟨i1, i2, i3, s, i4, i5, i6⟩ next out
  simp only at i1 i2 i3 s i4 i5 i6
  have hw1 : IntKind.i64.wrap ((i : Int) + 1) = i + 1 := i64w (by omega) (by omega)
  by_cases hi : (i : Int) < (os.length : Int) ∧ (i : Int) < 100
  · obtain ⟨hi1, hi2⟩ := hi
    have h0 : 0 ≤ (i : Int) := by omega
    have hil : i < os.length := by omega
    have ho : os[i]? = some os[i] := List.getElem?_eq_getElem hil
    have hq := qs os[i] (List.getElem_mem _)
    generalize os[i] = o at ho hq
    obtain ⟨b1, f1, c1, e1, l1, l2, _⟩ := op_at (ru.keep s.kp (fun _ _ e => e)) ho
    cases e1
    obtain ⟨hy1, hy2, hy3⟩ := hq
    simp only [mach, mstd, ↓reduceIte, Nat.reduceEqDiff, Nat.reduceAdd, Nat.reduceMul, hi1, hi2, mbl, Nat.reduceLeDiff, Nat.reduceLT, Int.reduceEq, h0, and_self, Int.toNat_natCast, l1, l2]
    refine XX_of (Put_ok s.hp s.ok.fresh o.w (hy1.keep s.kp (fun _ _ e => e)) (by omega) (fun _ => by omega)) (fun res hb hleb hn => ?_)
    obtain ⟨kb, rfl, L', s', sm⟩ := hn
    refine .ret ?_
    have sb := s.put kb o.w o.ys s' sm
    rcases put_cases S o.w o.ys with ⟨e, hp, hne⟩ | ⟨hfit, hp⟩
    · rw [hp] at sb ⊢
      simp only at sb
      have oT := Own.new hb 36 hb.length [iv 0, iv 0]
      have kT : Keep (fun _ => False) hb (hb ++ [row 36 hb.length [iv 0, iv 0]]) := Keep.push _ _ _
      simp only [mach, mstd, ↓reduceIte, Nat.reduceEqDiff, Nat.reduceAdd, Nat.reduceMul, wv, mbl, Nat.reduceLeDiff, Nat.reduceLT, Int.reduceEq]
      refine XH_own oT rfl (by simp [Value.cells]) rfl (fun hc q1 q2 q3 => ?_)
      have sc := sb.keepF (kT.trans' q2 (fun c hc e => by omega))
      simp only [mach, mstd, ↓reduceIte, Nat.reduceEqDiff, Nat.reduceAdd, Nat.reduceMul, hne, mbl, Nat.reduceLeDiff, Nat.reduceLT, Int.reduceEq, hw1]
      exact next (i + 1, S, L', P, v7, v8, v9) _ _ _ ⟨by omega, by omega, by simp only; omega, sc, i4, i5, i6⟩ ⟨rfl, rfl, rfl, rfl, rfl, rfl, by simp only [Int.natCast_add, Int.cast_ofNat_Int]; rfl, trivial⟩ (by simp only; omega)
    · rw [hp] at sb ⊢
      simp only at sb
      have oT := Own.new hb 36 hb.length [iv 0, iv 0]
      have kT : Keep (fun _ => False) hb (hb ++ [row 36 hb.length [iv 0, iv 0]]) := Keep.push _ _ _
      simp only [mach, mstd, ↓reduceIte, Nat.reduceEqDiff, Nat.reduceAdd, Nat.reduceMul, wv, mbl, Nat.reduceLeDiff, Nat.reduceLT, Int.reduceEq]
      refine XH_own oT rfl (by simp [Value.cells]) rfl (fun hc q1 q2 q3 => ?_)
      have oTc : Own hc hb.length 36 [iv 4, iv S.now.length] := by simpa [Value.cells] using q1
      have sc := sb.keepF (kT.trans' q2 (fun c hc e => by omega))
      obtain ⟨v7', hd, p1, r7, k7⟩ := sc.rw3.app7 sc.c0 sc.kp.len (by simp; omega) (4, (S.now.length : Int))
      have kd0 : Keep (fun _ => False) h hd := sc.kp.trans' k7 (fun c hc e => by omega)
      obtain ⟨b2, f2, c2, e2, m1, m2, _⟩ := op_at (ru.keep kd0 (fun _ _ e => e)) ho
      cases e2
      have hpd := sc.hp.keep k7 (fun q hq e => hq e.2)
      obtain ⟨v8', he, p2, r8, k8⟩ := r7.app8 hpd.c0 kd0.len (by simp; omega) o.w
      have ke0 : Keep (fun _ => False) h he := kd0.trans' k8 (fun c hc e => by omega)
      obtain ⟨b3, f3, c3, e3, n1, n2, _⟩ := op_at (ru.keep ke0 (fun _ _ e => e)) ho
      cases e3
      have hpe := hpd.keep k8 (fun q hq e => hq e.2)
      obtain ⟨la, lc', hlv⟩ := row_shape hy1
      obtain ⟨v9', hf, p3, r9, k9⟩ := r8.app9 hpe.c0 ke0.len (by simp; omega) o.lv (by rw [hlv]; rfl)
      have kf0 : Keep (fun _ => False) h hf := ke0.trans' k9 (fun c hc e => by omega)
      have hpf := hpe.keep k9 (fun q hq e => hq e.2)
      have hcs : o.lv.cells.size = 1 := by rw [hlv]; rfl
      have hct : o.lv.cells.toList = [o.lv] := by rw [hlv]; rfl
      simp only [mach, mstd, ↓reduceIte, Nat.reduceEqDiff, Nat.reduceAdd, Nat.reduceMul, mbl, Nat.reduceLeDiff, Nat.reduceLT, Int.reduceEq, oTc.cells.lds 0 2 (by simp), p1, m1, m2, p2, n1, n2, h0, hi1, and_self, Int.toNat_natCast, hcs, hct, p3, hw1]
      have sf : Ls h hf b L' (S.laid (S.all o.w o.ys)) (P ++ [((S.now.length : Int), o)]) v7' v8' v9' N := by
        refine ⟨hpf, sc.ok, sc.inf, sc.til, kf0, ?_, fun p hp => ?_, fun p hp => ?_, sc.zi⟩
        · simp only [List.map_append, List.map_cons, List.map_nil]; exact r9
        · rcases List.mem_append.1 hp with e | e
          · exact sc.ob p e
          · rw [List.mem_singleton.1 e]; exact Obj.new s.ok hfit
        · rcases List.mem_append.1 hp with e | e
          · exact sc.iq p e
          · rw [List.mem_singleton.1 e]; exact qs o (List.mem_of_getElem? ho)
      have i5' : ((P ++ [((S.now.length : Int), o)]).Pairwise fun x c => x.1 + (((S.laid (S.all o.w o.ys)).all x.2.w x.2.ys).length : Int) ≤ c.1) := by
        rw [List.pairwise_append]
        refine ⟨i5, by simp, fun x hx c hc => ?_⟩
        rw [List.mem_singleton.1 hc]
        have := s.ok.bw _ _ (s.ob x hx).beg
        show x.1 + ((S.all x.2.w x.2.ys).length : Int) ≤ (S.now.length : Int)
        omega
      have i6' : psum (S.laid (S.all o.w o.ys)) (P ++ [((S.now.length : Int), o)]) ≤ (S.laid (S.all o.w o.ys)).now.length := by
        rw [psum_app]
        show psum S P + (S.all o.w o.ys).length ≤ (S.now ++ S.all o.w o.ys).length
        rw [List.length_append]; omega
      exact next (i + 1, S.laid (S.all o.w o.ys), L', P ++ [((S.now.length : Int), o)], v7', v8', v9') _ _ _ ⟨by omega, by omega, by simp only [List.length_append, List.length_cons, List.length_nil]; omega, sf, i4, i5', i6'⟩ ⟨rfl, rfl, rfl, rfl, rfl, rfl, by simp only [Int.natCast_add, Int.cast_ofNat_Int]; rfl, trivial⟩ (by simp only; omega)
  · have key : ∀ (l' : PE), Ψ2 (.exit 0) ⟨[(1, .slice ua os.length uc), (4, .bool false), (5, .pointer (some ⟨b, 0, none⟩)), (7, v7), (8, v8), (9, v9), (10, iv i)], l', ha, []⟩ := by
      intro l'
      refine out (.exit 0) _ _ _ _ (by intro e; cases e) ?_
      obtain ⟨a7, c7, hv7⟩ := row_shape s.rw3.r7.rds
      simp only [mach, mstd, ↓reduceIte, Nat.reduceEqDiff, Nat.reduceAdd, Nat.reduceMul]
      refine XX_of (Globals_ok s.hp (by omega)) (fun res hb hleb hn => ?_)
      obtain ⟨kb, gv, rfl, og, hgq⟩ := hn
      refine .ret ?_
      have sb := s.keepF kb
      simp only [mach, mstd, ↓reduceIte, Nat.reduceEqDiff, Nat.reduceAdd, Nat.reduceMul]
      refine XX_of (Flip_ok sb.hp) (fun res hc hlec hn => ?_)
      obtain ⟨rfl, kc, L1, hp1, sm1⟩ := hn
      refine .ret ?_
      have hlb := sb.kp.len
      have zg : ∀ q, bk gv q → L.cls q = 0 := fun q e => s.hp.c0 q (hgq q e).1
      have ogc := og.keep kc (fun q e c => c (zg q e))
      have m1 : Ms h hc b L1 S.flip P P.length v7 v8 v9 N := by
        refine ⟨hp1, .flip S, .of s.ok, s.inf, sb.kp.trans' kc (fun c hc e => e (s.zi c hc)), sb.rw3.keep kc sm1, fun p hp => ?_, s.iq, i5, ?_, fun q hq => (sm1 q (by omega)).2 (s.zi q hq)⟩
        · rw [List.take_length] at hp; exact (s.ob p hp).flip
        · rw [List.take_length]
          show ((0 : Nat) : Int) + psum S.flip P ≤ S.size
          have e : psum S.flip P = psum S P := psum_cong rfl P
          have := s.hp.ws.ln
          rw [e]; omega
      simp only [mach, mstd, ↓reduceIte, Nat.reduceEqDiff, Nat.reduceAdd, Nat.reduceMul, mbl, Nat.reduceLeDiff, Nat.reduceLT, Int.reduceEq]
      refine XX_val (Used_ok hp1) ?_
      have hz : ((S.flip.now.length : Nat) : Int) = 0 := rfl
      simp only [mach, mstd, ↓reduceIte, Nat.reduceEqDiff, Nat.reduceAdd, Nat.reduceMul, mbl, Nat.reduceLeDiff, Nat.reduceLT, Int.reduceEq, hz]
      refine XX_of (Globals_ok hp1 (by show S.globals.length * 16 ≤ _; omega)) (fun res hd hled hn => ?_)
      obtain ⟨kd, gv2, rfl, og2, hgq2⟩ := hn
      refine .ret ?_
      have md := m1.keepF kd
      simp only [mach, mstd, ↓reduceIte, Nat.reduceEqDiff, Nat.reduceAdd, Nat.reduceMul, mbl, Nat.reduceLeDiff, Nat.reduceLT, Int.reduceEq]
      refine XX_val (SameWords_ok og2.rds (ogc.keep kd (fun _ _ e => e)).rds (by show S.globals.length ≤ _; omega)) ?_
      have hgg : decide (S.flip.globals = S.globals) = true := by simp [HS.flip]
      have hlm : ∀ (f : Int × Op → Int × Int), (P.map f).length = P.length := fun f => List.length_map _
      have hlm9 : ∀ (f : Int × Op → Value), (P.map f).length = P.length := fun f => List.length_map _
      have hwP : IntKind.i64.wrap ((P.length : Int) - 1) = P.length - 1 := i64w (by omega) (by omega)
      rw [hv7]
      simp only [mach, mstd, ↓reduceIte, Nat.reduceEqDiff, Nat.reduceAdd, Nat.reduceMul, mbl, Nat.reduceLeDiff, Nat.reduceLT, Int.reduceEq, hgg, hlm, hwP]
      refine XLo_rule (α := Nat × HS × Lay) (fun a => [(4, .bool false), (5, .pointer (some ⟨b, 0, none⟩)), (7, v7), (8, v8), (9, v9), (14, iv ((a.1 : Int) - 1))]) (fun a h' => a.1 ≤ P.length ∧ Ms h h' b a.2.2 a.2.1 P a.1 v7 v8 v9 N) (fun a => a.1) (P.length, S.flip, L1) ⟨Nat.le_refl _, md⟩ ⟨rfl, rfl, by simp only [hv7, hlm]; rfl, rfl, rfl, rfl, trivial⟩ ?_
      rintro ⟨m, T, L2⟩ he Ψ3 ⟨j1, sm⟩ next3 out3
      simp only at j1 sm
      cases m with
      | zero =>
        have hneg : ¬ (0 ≤ (((0 : Nat) : Int)) - 1) := by omega
        simp only [mach, mstd, ↓reduceIte, Nat.reduceEqDiff, Nat.reduceAdd, Nat.reduceMul, hneg, mbl, Nat.reduceLeDiff, Nat.reduceLT, Int.reduceEq]
        refine out3 (.exit 2) _ _ _ _ (by intro e; cases e) ?_
        simp only [mach, mstd, ↓reduceIte, Nat.reduceEqDiff, Nat.reduceAdd, Nat.reduceMul, mbl, Nat.reduceLeDiff, Nat.reduceLT, Int.reduceEq]
        refine XX_of (Move_ok sm.hp sm.ok.fresh sm.oo (1, 5) (mov_int T)) (fun res hf hlef hn => ?_)
        obtain ⟨kf, rfl, L3, hp3, sm3⟩ := hn
        refine .ret ?_
        have oA := Own.new hf 36 hf.length [iv 0, iv 0]
        have kA : Keep (fun _ => False) hf (hf ++ [row 36 hf.length [iv 0, iv 0]]) := Keep.push _ _ _
        simp only [mach, mstd, ↓reduceIte, Nat.reduceEqDiff, Nat.reduceAdd, Nat.reduceMul, wv, mbl, Nat.reduceLeDiff, Nat.reduceLT, Int.reduceEq]
        refine XH_own oA rfl (by simp [Value.cells]) rfl (fun hg q1 q2 q3 => ?_)
        have oAg : Own hg hf.length 36 [iv 1, iv 5] := by simpa [Value.cells] using q1
        have hp4 := hp3.keepF (kA.trans' q2 (fun c hc e => by omega))
        have zA : L3.cls hf.length = 0 := hp3.c0 _ (Nat.le_refl _)
        have sm' : HS.Ok T := sm.ok
        simp only [mach, mstd, ↓reduceIte, Nat.reduceEqDiff, Nat.reduceAdd, Nat.reduceMul, mbl, Nat.reduceLeDiff, Nat.reduceLT, Int.reduceEq]
        refine XX_of (Move_ok hp4 sm.ok.fresh sm.oo (77, 0) (mov_bad T)) (fun res hi hlei hn => ?_)
        obtain ⟨ki, rfl, L4, hp5, sm5⟩ := hn
        refine .ret ?_
        have oAi := oAg.keep ki (by simp [Mine, zA])
        have oB := Own.new hi 36 hi.length [iv 0, iv 0]
        have kB : Keep (fun _ => False) hi (hi ++ [row 36 hi.length [iv 0, iv 0]]) := Keep.push _ _ _
        simp only [mach, mstd, ↓reduceIte, Nat.reduceEqDiff, Nat.reduceAdd, Nat.reduceMul, wv, mbl, Nat.reduceLeDiff, Nat.reduceLT, Int.reduceEq]
        refine XH_own oB rfl (by simp [Value.cells]) rfl (fun hj q1 q2 q3 => ?_)
        have oBj : Own hj hi.length 36 [iv 0, iv 0] := by simpa [Value.cells] using q1
        have oAj := oAi.keep (kB.trans' q2 (fun c hc e => by omega)) (fun e => e)
        simp only [mach, mstd, ↓reduceIte, Nat.reduceEqDiff, Nat.reduceAdd, Nat.reduceMul, oAj.cells.lds 0 2 (by simp), oBj.cells.lds 0 2 (by simp), mbl, Nat.reduceLeDiff, Nat.reduceLT, Int.reduceEq, ceq_w, and_self]
        exact hΨ _ _ (fin_ret (rv1 rfl rfl))
      | succ m =>
        have e14 : (((m + 1 : Nat) : Int)) - 1 = (m : Int) := by omega
        have h0 : 0 ≤ (m : Int) := by omega
        have hjl : m < P.length := by omega
        have hj : (m : Int) < (P.length : Int) := by omega
        have hw2 : IntKind.i64.wrap ((m : Int) - 1) = (m : Int) - 1 := i64w (by omega) (by omega)
        have hp : P[m]? = some P[m] := List.getElem?_eq_getElem hjl
        have htake : P.take (m + 1) = P.take m ++ [P[m]] := by rw [List.take_add_one, hp]; rfl
        have ho := sm.ob P[m] (by rw [htake]; exact List.mem_append_right _ (List.mem_singleton.2 rfl))
        have hq := sm.iq P[m] (List.getElem_mem _)
        have hsum := sm.sum
        rw [htake, psum_app] at hsum
        generalize P[m] = p at hp ho hq hsum
        have g7 : (P.map fun p => ((4 : Int), p.1))[m]? = some (4, p.1) := by rw [List.getElem?_map, hp]; rfl
        have g8 : (P.map fun p => p.2.w)[m]? = some p.2.w := by rw [List.getElem?_map, hp]; rfl
        have g9 : (P.map fun p => p.2.lv)[m]? = some p.2.lv := by rw [List.getElem?_map, hp]; rfl
        obtain ⟨b7, o7, d7, e7, _⟩ := rw_at sm.rw3.r7.rds g7
        obtain ⟨b8, o8, d8, e8, _⟩ := rw_at sm.rw3.r8.rds g8
        obtain ⟨b9, o9, d9, e9, _⟩ := sm.rw3.r9.rds.at (i := m) (by rw [List.length_map]; exact hjl)
        have at7 : ∀ {h' : AH} {L' : Lay}, Rw3 h.length h' L' v7 v8 v9 (P.map fun p => (4, p.1)) (P.map fun p => p.2.w) (P.map fun p => p.2.lv) → ldcs h' b7 (o7 + m * 2) 2 = some [iv 4, iv p.1] := fun r => by
          obtain ⟨b', o', c', e', l'⟩ := rw_at r.r7.rds g7
          rw [e7] at e'; cases e'; exact l'
        have at8 : ∀ {h' : AH} {L' : Lay}, Rw3 h.length h' L' v7 v8 v9 (P.map fun p => (4, p.1)) (P.map fun p => p.2.w) (P.map fun p => p.2.lv) → ldcs h' b8 (o8 + m * 2) 2 = some [iv p.2.w.1, iv p.2.w.2] := fun r => by
          obtain ⟨b', o', c', e', l'⟩ := rw_at r.r8.rds g8
          rw [e8] at e'; cases e'; exact l'
        have at9 : ∀ {h' : AH} {L' : Lay}, Rw3 h.length h' L' v7 v8 v9 (P.map fun p => (4, p.1)) (P.map fun p => p.2.w) (P.map fun p => p.2.lv) → ldc h' b9 (o9 + m * 1) = some p.2.lv := fun r => by
          obtain ⟨b', o', c', e', l'⟩ := r.r9.rds.at (i := m) (by rw [List.length_map]; exact hjl)
          rw [e9] at e'; cases e'
          have := l' 0 (by omega)
          rw [Nat.add_zero, Nat.mul_one] at this
          rw [Nat.mul_one, this]; exact g9
        clear hv7
        subst e7; subst e8; subst e9
        simp only [mach, mstd, ↓reduceIte, Nat.reduceEqDiff, Nat.reduceAdd, Nat.reduceMul, e14, hlm, hj, h0, and_self, Int.toNat_natCast, at7 sm.rw3]
        refine XX_of (Fields_ok sm.hp sm.ok (4, p.1)) (fun res hf hlef hn => ?_)
        obtain ⟨kf, hn⟩ := hn
        have hfe : ∃ x e, res = .ret (.tuple #[x, iv e]) ∧ (e = 1 ∨ (e = 0 ∧ ¬ ((T.now.length : Int)) = 0)) := by
          by_cases hl : T.lies (4, p.1)
          · rw [if_pos hl] at hn
            obtain ⟨v, hr, _⟩ := hn
            obtain ⟨n', hn'⟩ := Option.isSome_iff_exists.1 hl.2
            have := sm.ok.bw _ _ hn'
            exact ⟨v, 0, hr, .inr ⟨rfl, by omega⟩⟩
          · rw [if_neg hl] at hn
            exact ⟨_, 1, hn, .inl rfl⟩
        obtain ⟨x16, e16, rfl, h16⟩ := hfe
        refine .ret ?_
        have sf := sm.keepF kf
        simp only [mach, mstd, ↓reduceIte, Nat.reduceEqDiff, Nat.reduceAdd, Nat.reduceMul, mbl, Nat.reduceLeDiff, Nat.reduceLT, Int.reduceEq]
        refine XX_val (Used_ok sf.hp) ?_
        simp only [mach, mstd, ↓reduceIte, Nat.reduceEqDiff, Nat.reduceAdd, Nat.reduceMul, e14, hlm, hj, h0, and_self, Int.toNat_natCast, at7 sf.rw3, mbl, Nat.reduceLeDiff, Nat.reduceLT, Int.reduceEq]
        refine XX_of (Move_ok sf.hp sf.ok.fresh sf.oo (4, p.1) (ho.mov1 (by omega))) (fun res hg hleg hn => ?_)
        obtain ⟨kg, rfl, L3, hp3, sm3⟩ := hn
        refine .ret ?_
        have sg := sf.mov kg hp hp3 sm3
        have oA := Own.new hg 36 hg.length [iv 0, iv 0]
        have kA : Keep (fun _ => False) hg (hg ++ [row 36 hg.length [iv 0, iv 0]]) := Keep.push _ _ _
        simp only [mach, mstd, ↓reduceIte, Nat.reduceEqDiff, Nat.reduceAdd, Nat.reduceMul, wv, mbl, Nat.reduceLeDiff, Nat.reduceLT, Int.reduceEq]
        refine XH_own oA rfl (by simp [Value.cells]) rfl (fun hi2 q1 q2 q3 => ?_)
        have oA1 : Own hi2 hg.length 36 [iv 4, iv T.now.length] := by simpa [Value.cells] using q1
        have zA : L3.cls hg.length = 0 := sg.hp.c0 _ (Nat.le_refl _)
        have sh := sg.keepF (kA.trans' q2 (fun c hc e => by omega))
        have hTo := sm.oo _ _ ho.beg
        have hm2 := mov2 (S := (T.laid (T.all p.2.w p.2.ys)).setold p.1 (13, (T.now.length : Int))) (k := p.1) (t := (T.now.length : Int)) (n := ((T.all p.2.w p.2.ys).length : Int)) ho.beg (gx_set_eq ho.k0 (by have := all_len T p.2.w p.2.ys; show p.1 < (T.old.length : Int); omega))
        simp only [mach, mstd, ↓reduceIte, Nat.reduceEqDiff, Nat.reduceAdd, Nat.reduceMul, e14, hlm, hj, h0, and_self, Int.toNat_natCast, at7 sh.rw3, mbl, Nat.reduceLeDiff, Nat.reduceLT, Int.reduceEq]
        refine XX_of (Move_ok sh.hp sh.ok.fresh sh.oo (4, p.1) hm2) (fun res hk hlek hn => ?_)
        obtain ⟨kk, rfl, L4, hp4, sm4⟩ := hn
        refine .ret ?_
        have sk := sh.same kk hp4 sm4
        have oA2 := oA1.keep kk (by simp [Mine, zA])
        have oB := Own.new hk 36 hk.length [iv 0, iv 0]
        have kB : Keep (fun _ => False) hk (hk ++ [row 36 hk.length [iv 0, iv 0]]) := Keep.push _ _ _
        simp only [mach, mstd, ↓reduceIte, Nat.reduceEqDiff, Nat.reduceAdd, Nat.reduceMul, wv, mbl, Nat.reduceLeDiff, Nat.reduceLT, Int.reduceEq]
        refine XH_own oB rfl (by simp [Value.cells]) rfl (fun hl q1 q2 q3 => ?_)
        have oB1 : Own hl hk.length 36 [iv 4, iv T.now.length] := by simpa [Value.cells] using q1
        have kkl := kB.trans' (S := fun _ => False) q2 (fun c hc e => by omega)
        have sl := sk.keepF kkl
        have oA3 := oA2.keep kkl (fun e => e)
        have on : Obj ((T.laid (T.all p.2.w p.2.ys)).setold p.1 (13, (T.now.length : Int))) (T.now.length : Int) p.2.w p.2.ys := (Obj.new sm.ok ho.fit).setold _ _
        have eh : ((T.laid (T.all p.2.w p.2.ys)).setold p.1 (13, (T.now.length : Int))).head (4, (T.now.length : Int)) = (p.2.w, 0) := by
          rw [HS.head, if_pos on.lies]
          show (gx _ (T.now.length : Int), (0 : Int)) = _
          rw [on.hd]
        simp only [mach, mstd, ↓reduceIte, Nat.reduceEqDiff, Nat.reduceAdd, Nat.reduceMul, oA3.cells.lds 0 2 (by simp), mbl, Nat.reduceLeDiff, Nat.reduceLT, Int.reduceEq]
        refine XX_of (Head_ok sl.hp (4, (T.now.length : Int))) (fun res hm hlem hn => ?_)
        rw [eh] at hn
        obtain ⟨km, rfl⟩ := hn
        refine .ret ?_
        have oC := Own.new hm 36 hm.length [iv 0, iv 0]
        have kC : Keep (fun _ => False) hm (hm ++ [row 36 hm.length [iv 0, iv 0]]) := Keep.push _ _ _
        simp only [mach, mstd, ↓reduceIte, Nat.reduceEqDiff, Nat.reduceAdd, Nat.reduceMul, wv, mbl, Nat.reduceLeDiff, Nat.reduceLT, Int.reduceEq]
        refine XH_own oC rfl (by simp [Value.cells]) rfl (fun hn2 q1 q2 q3 => ?_)
        have oC1 : Own hn2 hm.length 36 [iv p.2.w.1, iv p.2.w.2] := by simpa [Value.cells] using q1
        have kln := km.trans (kC.trans' (S := fun _ => False) q2 (fun c hc e => by omega))
        have sn := sl.keepF kln
        have oA4 := oA3.keep kln (fun e => e)
        have oB4 := oB1.keep kln (fun e => e)
        simp only [mach, mstd, ↓reduceIte, Nat.reduceEqDiff, Nat.reduceAdd, Nat.reduceMul, oA4.cells.lds 0 2 (by simp), mbl, Nat.reduceLeDiff, Nat.reduceLT, Int.reduceEq]
        refine XX_of (Fields_ok sn.hp sn.ok (4, (T.now.length : Int))) (fun res ho2 hleo hn => ?_)
        obtain ⟨ko, hn⟩ := hn
        rw [if_pos on.lies, on.flds] at hn
        obtain ⟨fv, rfl, fo, _⟩ := hn
        refine .ret ?_
        have so := sn.keepF ko
        have oA5 := oA4.keep ko (fun e => e)
        have oB5 := oB4.keep ko (fun e => e)
        have oC5 := oC1.keep ko (fun e => e)
        have lvg := hq.1.keep so.kp (fun _ _ e => e)
        have hsw := SameWords_ok fo.rds lvg (by have := hq.2.1; omega)
        have fin : ∀ (l' : PE), True := fun _ => trivial
        rcases h16 with h16 | ⟨h16, hnz⟩
        · subst h16
          simp only [mach, mstd, ↓reduceIte, Nat.reduceEqDiff, Nat.reduceAdd, Nat.reduceMul, e14, hlm, hlm9, hj, h0, and_self, Int.toNat_natCast, at8 so.rw3, at9 so.rw3, oA5.cells.lds 0 2 (by simp), oB5.cells.lds 0 2 (by simp), oC5.cells.lds 0 2 (by simp), mbl, Nat.reduceLeDiff, Nat.reduceLT, Int.reduceEq, ceq_w]
          refine XX_val hsw ?_
          simp only [mach, mstd, ↓reduceIte, Nat.reduceEqDiff, Nat.reduceAdd, Nat.reduceMul, mbl, Nat.reduceLeDiff, Nat.reduceLT, Int.reduceEq, hw2, eq_self]
          exact next3 (m, _, L4) _ _ _ ⟨by simp only; omega, so⟩ ⟨rfl, rfl, by simp only [hlm]; rfl, by simp only [hlm]; rfl, by simp only [hlm9]; rfl, rfl, trivial⟩ (by simp only; omega)
        · subst h16
          simp only [mach, mstd, ↓reduceIte, Nat.reduceEqDiff, Nat.reduceAdd, Nat.reduceMul, e14, hlm, hlm9, hj, h0, and_self, Int.toNat_natCast, at8 so.rw3, at9 so.rw3, oA5.cells.lds 0 2 (by simp), oB5.cells.lds 0 2 (by simp), oC5.cells.lds 0 2 (by simp), mbl, Nat.reduceLeDiff, Nat.reduceLT, Int.reduceEq, ceq_w, hnz]
          refine XX_val hsw ?_
          simp only [mach, mstd, ↓reduceIte, Nat.reduceEqDiff, Nat.reduceAdd, Nat.reduceMul, mbl, Nat.reduceLeDiff, Nat.reduceLT, Int.reduceEq, hw2, eq_self]
          exact next3 (m, _, L4) _ _ _ ⟨by simp only; omega, so⟩ ⟨rfl, rfl, by simp only [hlm]; rfl, by simp only [hlm]; rfl, by simp only [hlm9]; rfl, rfl, trivial⟩ (by simp only; omega)
    by_cases hi1 : (i : Int) < (os.length : Int)
    · have hi2 : ¬ (i : Int) < 100 := fun e => hi ⟨hi1, e⟩
      simp only [mach, mstd, ↓reduceIte, Nat.reduceEqDiff, Nat.reduceAdd, Nat.reduceMul, hi1, hi2]
      exact key _
    · simp only [mach, mstd, ↓reduceIte, Nat.reduceEqDiff, Nat.reduceAdd, Nat.reduceMul, hi1]
      exact key _
end Go.S18
