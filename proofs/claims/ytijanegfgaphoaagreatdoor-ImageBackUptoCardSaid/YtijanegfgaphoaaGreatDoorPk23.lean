import Derived.Test.YtijanegfgaphoaaGreatDoorPk22
import Derived.Test.YtijanegfgaphoaaGreatDoorPk21
import Derived.Test.YtijanegfgaphoaaGreatDoorPk13
import Derived.Test.YtijanegfgaphoaaGreatDoorPk14
import Derived.Shelf.Strings.Search3
set_option linter.unusedVariables false
set_option linter.unusedSimpArgs false
namespace Go.S17
open Go Go.Eng Go.Proofs Go.Scn Go.Chk Go.Img
section
variable {h0 h : AH} {n : Nat} {D : LdD} {vi vc vt vp vk : Value}
set_option maxHeartbeats 1000000 in
theorem fun_read (x : Ld h0 n D vi vc vt vp vk h) (a f c : Int) (ha : rgI a) (hf : rgI f) (hc : rgI c) (hd : D.infos.length <= 10000000) : Gets Tryz.prog 137 [.agg #[iv 1, iv 3], .pointer (some ⟨h0.length + 1, 0, none⟩), tv ([a, f, c].flatMap num1)] h
    (fun res h' => res = .ret (.bool true) /\ ∃ v', Ld h0 n { D with infos := D.infos ++ [⟨1, a, f, c⟩] } v' vc vt vp vk h') := by
  refine Gets.of (keep := false) hP (draw_ok hM) k137 (by rfl) (fun Ψ hΨ => ?_)
  have oL := Own.new h 87 h.length [iv 1, iv 3]
  have k1 : Keep (fun _ => False) h (h ++ [row 87 h.length [iv 1, iv 3]]) := Keep.push _ _ _
  simp only [mach, mach2, mstd, ↓reduceIte, Nat.reduceEqDiff, Nat.reduceAdd, Nat.reduceMul, r137, mbl, Nat.reduceLeDiff, Nat.reduceLT, Int.reduceEq]
  generalize hh1 : h ++ [row 87 h.length [iv 1, iv 3]] = h1 at k1 oL ⊢
  have x1 := x.grow k1
  refine XX_of (parse_ok [a, f, c] (by simp; exact ⟨ha, hf, hc⟩) (by simp) h1) (fun res h2 hle hn => ?_)
  obtain ⟨k2, v, rfl, ow, fr⟩ := hn
  refine .ret ?_
  have x2 := x1.grow k2
  have oL2 := oL.keep k2 (fun e => e)
  obtain ⟨va, vb, rfl⟩ := row_shape ow.rds
  have g0 : (0 : Int) <= 0 := by omega
  have g1 : (0 : Int) <= 1 := by omega
  have g2 : (0 : Int) <= 2 := by omega
  have t0 : ((0 : Int) < 3) = True := eq_true (by omega)
  have t1 : ((1 : Int) < 3) = True := eq_true (by omega)
  have t2 : ((2 : Int) < 3) = True := eq_true (by omega)
  have w1 : IntKind.i64.wrap ((3 : Int) - 2) = 1 := rfl
  have w2 : IntKind.i64.wrap ((3 : Int) - 1) = 2 := rfl
  have l3 : (([a, f, c] : List Int).length : Int) = 3 := rfl
  have ea : ([a, f, c] : List Int)[Int.toNat 0]? = some a := rfl
  have ef : ([a, f, c] : List Int)[Int.toNat 1]? = some f := rfl
  have ec : ([a, f, c] : List Int)[Int.toNat 2]? = some c := rfl
  obtain ⟨b1, o1, c1, e1, _, l1⟩ := rds_ix ow.rds g1 ef
  obtain ⟨b2, o2, c2, e2, _, l2⟩ := rds_ix ow.rds g2 ec
  cases e1; cases e2
  have on := Own.new h2 40 h2.length [iv 0, iv 0, iv 0, iv 0]
  have kq : Keep (fun _ => False) h2 (h2 ++ [row 40 h2.length [iv 0, iv 0, iv 0, iv 0]]) := Keep.push _ _ _
  have oLq := oL2.keep kq (fun e => e)
  have owq := ow.keep kq (fun _ _ e => e)
  obtain ⟨b1, o1, c1, e1, _, l1q⟩ := rds_ix owq.rds g1 ef
  obtain ⟨b2, o2, c2, e2, _, l2q⟩ := rds_ix owq.rds g2 ec
  cases e1; cases e2
  simp only [mach, mach2, mstd, ↓reduceIte, Nat.reduceEqDiff, Nat.reduceAdd, Nat.reduceMul, oLq.cells.ld, l1q, l2q, show ([1, 4, 7, 10, 13] : List Nat).contains 13 = true from rfl, show ([1, 4, 7, 10, 13] : List Nat).contains 10 = true from rfl, show ([1, 4, 7, 10, 13] : List Nat).contains 7 = true from rfl, show ([1, 4, 7, 10, 13] : List Nat).contains 4 = true from rfl, show ([1, 4, 7, 10, 13] : List Nat).contains 1 = true from rfl, mbl, Nat.reduceLeDiff, Nat.reduceLT, Int.reduceEq, l3, oL2.cells.ld, w1, w2, g0, g1, g2, t0, t1, t2, and_self, if_true, l1, l2, Nat.mul_one]
  refine XH_own on rfl (by simp [Value.cells]) rfl (fun h3 q1 q2 q3 => ?_)
  have on3 : Own h3 h2.length 40 [iv 1, iv 0, iv f, iv c] := by simpa [Value.cells] using q1
  have k3 : Keep (fun _ => False) h2 h3 := (Keep.push (fun _ => False) h2 _).trans' q2 (fun q hq e => by omega)
  have oL3 := oL2.keep k3 (fun e => e)
  obtain ⟨b3, o3, c3, e3, _, l0⟩ := rds_ix (ow.keep k3 (fun _ _ e => e)).rds g0 ea
  cases e3
  simp only [mach, mach2, mstd, ↓reduceIte, Nat.reduceEqDiff, Nat.reduceAdd, Nat.reduceMul, mbl, Nat.reduceLeDiff, Nat.reduceLT, Int.reduceEq, l3, oL3.cells.ld, g0, t0, and_self, if_true, l0, Nat.mul_one]
  refine XH_own on3 rfl (by simp [Value.cells]) rfl (fun h4 q4 q5 q6 => ?_)
  have on4 : Own h4 h2.length 40 [iv 1, iv a, iv f, iv c] := by simpa [Value.cells] using q4
  have x4 := x2.grow (k3.trans' q5 (fun q hq e => by omega))
  have hli := x4.li
  obtain ⟨s', h', a1, a2, a3, a4⟩ := app1 (bytes := 32) x4.oi (xs := [iv 1, iv a, iv f, iv c]) rfl rfl (by omega) (by omega)
  obtain ⟨wa, wc, rfl⟩ := row_shape x4.oi.rds
  obtain ⟨sa, sc, rfl⟩ := row_shape a2.rds
  have o4 : Own h' (h0.length + 1) 62 _ := x4.own.keep a3 (fun e => by have := hli _ e; omega)
  have kr : Keep (fun _ => False) h4 (h4 ++ [row 40 h4.length [iv 1, iv a, iv f, iv c]]) := Keep.push _ _ _
  simp only [mach, mach2, mstd, ↓reduceIte, Nat.reduceEqDiff, Nat.reduceAdd, Nat.reduceMul, show ([5] : List Nat).contains 5 = true from rfl, show ([5] : List Nat).contains 6 = false from rfl, (on4.keep kr (fun e => e)).cells.lds 0 4 (by simp), (x4.own.keep kr (fun e => e)).cells.ld, mbl, Nat.reduceLeDiff, Nat.reduceLT, Int.reduceEq, x4.own.cells.ld, on4.cells.lds 0 4 (by simp), a1]
  refine XH_own o4 rfl (by simp [Value.cells]) rfl (fun h6 q7 q8 q9 => ?_)
  have o6 : Own h6 (h0.length + 1) 62 [.slice sa (D.infos.length + 1) sc, vc, vt, vp, iv D.main, vk, iv n] := by simpa [Value.cells] using q7
  simp only [mach, mach2, mstd, ↓reduceIte, Nat.reduceEqDiff, Nat.reduceAdd, Nat.reduceMul]
  have a2' := a2.keep q8 (fun q e2 e3 => by
    rcases a4 q e2 with e4 | e4
    · have := hli q e4; omega
    · have := x4.own.lt; omega)
  refine hΨ _ _ (fin_ret (rv1 rfl ⟨rfl, _, x4.seti (D.infos ++ [⟨1, a, f, c⟩]) ((a3.mono (fun q e => .inr e)).trans' q8 (fun q _ e => .inl e)) o6 ?_ a4⟩))
  rw [List.length_append, rowsOf_app]
  exact a2'
set_option maxHeartbeats 1000000 in
theorem thunk_read (x : Ld h0 n D vi vc vt vp vk h) (f c : Int) (hf : rgI f) (hc : rgI c) (hd : D.infos.length <= 10000000) : Gets Tryz.prog 137 [.agg #[iv 2, iv 2], .pointer (some ⟨h0.length + 1, 0, none⟩), tv ([f, c].flatMap num1)] h
    (fun res h' => res = .ret (.bool true) /\ ∃ v', Ld h0 n { D with infos := D.infos ++ [⟨2, 0, f, c⟩] } v' vc vt vp vk h') := by
  refine Gets.of (keep := false) hP (draw_ok hM) k137 (by rfl) (fun Ψ hΨ => ?_)
  have oL := Own.new h 87 h.length [iv 2, iv 2]
  have k1 : Keep (fun _ => False) h (h ++ [row 87 h.length [iv 2, iv 2]]) := Keep.push _ _ _
  simp only [mach, mach2, mstd, ↓reduceIte, Nat.reduceEqDiff, Nat.reduceAdd, Nat.reduceMul, r137, mbl, Nat.reduceLeDiff, Nat.reduceLT, Int.reduceEq]
  generalize hh1 : h ++ [row 87 h.length [iv 2, iv 2]] = h1 at k1 oL ⊢
  have x1 := x.grow k1
  refine XX_of (parse_ok [f, c] (by simp; exact ⟨hf, hc⟩) (by simp) h1) (fun res h2 hle hn => ?_)
  obtain ⟨k2, v, rfl, ow, fr⟩ := hn
  refine .ret ?_
  have x2 := x1.grow k2
  have oL2 := oL.keep k2 (fun e => e)
  obtain ⟨va, vb, rfl⟩ := row_shape ow.rds
  have g0 : (0 : Int) <= 0 := by omega
  have g1 : (0 : Int) <= 1 := by omega
  have t0 : ((0 : Int) < 2) = True := eq_true (by omega)
  have t1 : ((1 : Int) < 2) = True := eq_true (by omega)
  have w1 : IntKind.i64.wrap ((2 : Int) - 2) = 0 := rfl
  have w2 : IntKind.i64.wrap ((2 : Int) - 1) = 1 := rfl
  have n21 : ¬ ((2 : Int) = 1) := by omega
  have l3 : (([f, c] : List Int).length : Int) = 2 := rfl
  have ef : ([f, c] : List Int)[Int.toNat 0]? = some f := rfl
  have ec : ([f, c] : List Int)[Int.toNat 1]? = some c := rfl
  obtain ⟨b1, o1, c1, e1, _, l1⟩ := rds_ix ow.rds g0 ef
  obtain ⟨b2, o2, c2, e2, _, l2⟩ := rds_ix ow.rds g1 ec
  cases e1; cases e2
  have on := Own.new h2 40 h2.length [iv 0, iv 0, iv 0, iv 0]
  have kq : Keep (fun _ => False) h2 (h2 ++ [row 40 h2.length [iv 0, iv 0, iv 0, iv 0]]) := Keep.push _ _ _
  have oLq := oL2.keep kq (fun e => e)
  have owq := ow.keep kq (fun _ _ e => e)
  obtain ⟨b1, o1, c1, e1, _, l1q⟩ := rds_ix owq.rds g0 ef
  obtain ⟨b2, o2, c2, e2, _, l2q⟩ := rds_ix owq.rds g1 ec
  cases e1; cases e2
  simp only [mach, mach2, mstd, ↓reduceIte, Nat.reduceEqDiff, Nat.reduceAdd, Nat.reduceMul, oLq.cells.ld, l1q, l2q, show ([1, 4, 7, 10, 13] : List Nat).contains 13 = true from rfl, show ([1, 4, 7, 10, 13] : List Nat).contains 10 = true from rfl, show ([1, 4, 7, 10, 13] : List Nat).contains 7 = true from rfl, show ([1, 4, 7, 10, 13] : List Nat).contains 4 = true from rfl, show ([1, 4, 7, 10, 13] : List Nat).contains 1 = true from rfl, mbl, Nat.reduceLeDiff, Nat.reduceLT, Int.reduceEq, l3, oL2.cells.ld, w1, w2, g0, g1, t0, t1, and_self, if_true, l1, l2, Nat.mul_one]
  refine XH_own on rfl (by simp [Value.cells]) rfl (fun h4 q1 q2 q3 => ?_)
  have on4 : Own h4 h2.length 40 [iv 2, iv 0, iv f, iv c] := by simpa [Value.cells] using q1
  have k3 : Keep (fun _ => False) h2 h4 := (Keep.push (fun _ => False) h2 _).trans' q2 (fun q hq e => by omega)
  have oL3 := oL2.keep k3 (fun e => e)
  have x4 := x2.grow k3
  simp only [mach, mach2, mstd, ↓reduceIte, Nat.reduceEqDiff, Nat.reduceAdd, Nat.reduceMul, mbl, Nat.reduceLeDiff, Nat.reduceLT, Int.reduceEq, oL3.cells.ld, n21]
  have hli := x4.li
  obtain ⟨s', h', a1, a2, a3, a4⟩ := app1 (bytes := 32) x4.oi (xs := [iv 2, iv 0, iv f, iv c]) rfl rfl (by omega) (by omega)
  obtain ⟨wa, wc, rfl⟩ := row_shape x4.oi.rds
  obtain ⟨sa, sc, rfl⟩ := row_shape a2.rds
  have o4 : Own h' (h0.length + 1) 62 _ := x4.own.keep a3 (fun e => by have := hli _ e; omega)
  have kr : Keep (fun _ => False) h4 (h4 ++ [row 40 h4.length [iv 2, iv 0, iv f, iv c]]) := Keep.push _ _ _
  simp only [mach, mach2, mstd, ↓reduceIte, Nat.reduceEqDiff, Nat.reduceAdd, Nat.reduceMul, show ([5] : List Nat).contains 5 = true from rfl, show ([5] : List Nat).contains 6 = false from rfl, (on4.keep kr (fun e => e)).cells.lds 0 4 (by simp), (x4.own.keep kr (fun e => e)).cells.ld, mbl, Nat.reduceLeDiff, Nat.reduceLT, Int.reduceEq, x4.own.cells.ld, on4.cells.lds 0 4 (by simp), a1]
  refine XH_own o4 rfl (by simp [Value.cells]) rfl (fun h6 q7 q8 q9 => ?_)
  have o6 : Own h6 (h0.length + 1) 62 [.slice sa (D.infos.length + 1) sc, vc, vt, vp, iv D.main, vk, iv n] := by simpa [Value.cells] using q7
  simp only [mach, mach2, mstd, ↓reduceIte, Nat.reduceEqDiff, Nat.reduceAdd, Nat.reduceMul]
  have a2' := a2.keep q8 (fun q e2 e3 => by
    rcases a4 q e2 with e4 | e4
    · have := hli q e4; omega
    · have := x4.own.lt; omega)
  refine hΨ _ _ (fin_ret (rv1 rfl ⟨rfl, _, x4.seti (D.infos ++ [⟨2, 0, f, c⟩]) ((a3.mono (fun q e => .inr e)).trans' q8 (fun q _ e => .inl e)) o6 ?_ a4⟩))
  rw [List.length_append, rowsOf_app]
  exact a2'
end
end Go.S17

namespace Go.S17
open Go Go.Eng Go.Proofs Go.Scn Go.Chk Go.Img
theorem trim1 (l : Bs) : Lib.trimPrefix (32 :: l) [32] = l := by rfl
theorem has1 (l : Bs) : Lib.hasPrefix (32 :: l) [32] = true := by rfl
theorem escB_pos (c : UInt8) : 0 < (escB c).length := by
  rcases escB_cases c with ⟨e, _⟩ | ⟨x, e, _⟩ | ⟨e, _⟩ <;> rw [e] <;> simp
theorem esc_ne (c : UInt8) (r : Bs) : ((escB c ++ r) == ([] : Bs)) = false := by
  have := escB_pos c
  cases hE : escB c with
  | nil => rw [hE] at this; simp at this
  | cons a l => rfl
section
variable {h0 h : AH} {n : Nat} {D : LdD} {vi vc vt vp vk : Value}
set_option maxHeartbeats 2000000 in
theorem text_read (hex : HexOk) (x : Ld h0 n D vi vc vt vp vk h) (t : Bs) (ht : t.length <= 1048576) (hd : D.ts.length <= 10000000) : Gets Tryz.prog 130 [.agg #[], .pointer (some ⟨h0.length + 1, 0, none⟩), tv (32 :: 34 :: (quoS t ++ [34]))] h
    (fun res h' => res = .ret (.bool true) /\ ∃ v', Ld h0 n { D with ts := D.ts ++ [t] } vi vc v' vp vk h') := by
  refine Gets.of (keep := false) hP (draw_ok hM) k130 (by rfl) (fun Ψ hΨ => ?_)
  have hq := quoS_len t
  have k1 : Keep (fun _ => False) h (h ++ [row 85 h.length []]) := Keep.push _ _ _
  simp only [mach, mach2, mstd, ↓reduceIte, Nat.reduceEqDiff, Nat.reduceAdd, Nat.reduceMul, r130, mbl, Nat.reduceLeDiff, Nat.reduceLT, Int.reduceEq]
  generalize hh1 : h ++ [row 85 h.length []] = h1 at k1 ⊢
  have x1 := x.grow k1
  refine XX_val (cutPrefix_ok (32 :: 34 :: (quoS t ++ [34])) [32] h1) ?_
  rw [trim1, has1]
  have hl : ¬ (((34 :: (quoS t ++ [34])).length : Nat) : Int) < 2 := by simp only [List.length_cons, List.length_append, List.length_nil]; omega
  have g0 : (0 : Int) <= 0 := by omega
  have hx0 : (34 :: (quoS t ++ [34]))[Int.toNat 0]? = some 34 := rfl
  have e34 : decide ((((34 : UInt8).toNat : Nat) : Int) = 34) = true := rfl
  have hw : IntKind.i64.wrap (((34 :: (quoS t ++ [34])).length : Int) - 1) = (((quoS t).length + 1 : Nat) : Int) := by
    simp only [List.length_cons, List.length_append, List.length_nil]
    rw [i64w (by omega) (by omega)]; omega
  have hsl : slsv (.string (tx (34 :: (quoS t ++ [34])))) (some (iv 1)) (some (iv (((quoS t).length + 1 : Nat) : Int))) = some (.string (tx (quoS t)), none) := by
    have := sl_ft (l := 34 :: (quoS t ++ [34])) (p := 1) (n := (quoS t).length + 1) (by omega) (by simp)
    rw [show ((34 :: (quoS t ++ [34])).take ((quoS t).length + 1)).drop 1 = quoS t by simp] at this
    exact this
  simp only [mach, mach2, mstd, ↓reduceIte, Nat.reduceEqDiff, Nat.reduceAdd, Nat.reduceMul, mbl, Nat.reduceLeDiff, Nat.reduceLT, Int.reduceEq, tx_size, hl, tx_get, g0, hx0, e34, Bool.not_true, hw, hsl]
  have hlt1 := x1.own.lt
  refine XLo_rule (α := Nat × Value) (fun a => [(1, .pointer (some ⟨h0.length + 1, 0, none⟩)), (7, tv (34 :: (quoS t ++ [34]))), (9, a.2), (10, tv (quoS (t.drop a.1)))])
    (fun a h' => a.1 <= t.length /\ Keep (fun _ => False) h1 h' /\ Ows h' 5 1 a.2 a.1 ((t.take a.1).map bv) /\ ∀ q, bk a.2 q -> h1.length <= q) (fun a => t.length - a.1) (0, .slice none 0 0)
    ⟨Nat.zero_le _, .refl _ _, .nil, fun q e => e.elim⟩ ⟨rfl, rfl, rfl, rfl, trivial⟩ ?_
  rintro ⟨i, v⟩ g1 Ψ2 ⟨hi, kp, ow, fr⟩ next out
  simp only at hi ow fr
  by_cases hil : i < t.length
  · have hd2 : t.drop i = t[i] :: t.drop (i + 1) := List.drop_eq_getElem_cons hil
    have hqd : quoS (t.drop i) = escB t[i] ++ quoS (t.drop (i + 1)) := by rw [hd2]; unfold quoS; rw [List.flatMap_cons]
    have hql := quoS_len (t.drop (i + 1))
    rw [List.length_drop] at hql
    have hpos := escB_pos t[i]
    have hne0 : ¬ (((escB t[i]).length : Int) = 0) := by omega
    have he4 := escB_len t[i]
    have hsl2 : slsv (.string (tx (escB t[i] ++ quoS (t.drop (i + 1))))) (some (iv (escB t[i]).length)) none = some (.string (tx (quoS (t.drop (i + 1)))), none) := by
      rw [sl_from (by simp), List.drop_left]
    obtain ⟨s', h', a1, a2, a3, a4⟩ := app1 (bytes := 1) ow (xs := [bv t[i]]) rfl rfl (by omega) (by omega)
    obtain ⟨va, vb, rfl⟩ := row_shape ow.rds
    rw [hqd]
    simp only [mach, mach2, mstd, ↓reduceIte, Nat.reduceEqDiff, Nat.reduceAdd, Nat.reduceMul, tx_toList, mk_toList, esc_ne, Bool.not_false]
    refine XX_val (unesc_ok hex t[i] (quoS (t.drop (i + 1))) (by omega) g1) ?_
    simp only [mach, mach2, mstd, ↓reduceIte, Nat.reduceEqDiff, Nat.reduceAdd, Nat.reduceMul, mbl, Nat.reduceLeDiff, Nat.reduceLT, Int.reduceEq, hne0, a1, hsl2]
    refine next (i + 1, s') _ _ _ ⟨by simp only; omega, kp.trans' a3 (fun q hq e => by have := fr q e; omega), ?_, fun q hq2 => ?_⟩ ⟨rfl, rfl, rfl, rfl, trivial⟩ (by simp only; omega)
    · simp only
      rw [List.take_succ_eq_append_getElem hil, List.map_append]; exact a2
    · rcases a4 q hq2 with e | e
      · exact fr q e
      · have := kp.len; omega
  · have hie : i = t.length := by omega
    rw [hie, List.take_length] at ow
    have hqe : quoS (t.drop i) = [] := by rw [hie, List.drop_length]; rfl
    rw [hqe]
    simp only [mach, mach2, mstd, ↓reduceIte, Nat.reduceEqDiff, Nat.reduceAdd, Nat.reduceMul, tx_toList, mk_toList, show (([] : Bs) == []) = true from rfl, Bool.not_true]
    refine out (.exit 0) _ _ _ _ (by intro e; cases e) ?_
    have x4 := x1.grow kp
    have hlt4 := x4.lt
    obtain ⟨s', h', a1, a2, a3, a4⟩ := app1 (bytes := 16) x4.ot (xs := [tv t]) rfl rfl (by omega) (by omega)
    obtain ⟨wa, wc, rfl⟩ := row_shape x4.ot.rds
    obtain ⟨sa, sc, rfl⟩ := row_shape a2.rds
    have hvt := x1.ot.lt
    have o4 : Own h' (h0.length + 1) 62 _ := x4.own.keep a3 (fun e => by have := hlt4 _ e; omega)
    have kr : Keep (fun _ => False) g1 (g1 ++ [row 9 g1.length [tv t]]) := Keep.push _ _ _
    have owr := ow.keep kr (fun _ _ e => e)
    simp only [mach, mach2, mstd, ↓reduceIte, Nat.reduceEqDiff, Nat.reduceAdd, Nat.reduceMul, b2s_tx ow.rds, b2s_tx owr.rds, show ([5] : List Nat).contains 7 = false from rfl, show ([5] : List Nat).contains 5 = true from rfl, (x4.own.keep kr (fun e => e)).cells.ld, mbl, Nat.reduceLeDiff, Nat.reduceLT, Int.reduceEq, x4.own.cells.ld, a1]
    refine XH_own o4 rfl (by simp [Value.cells]) rfl (fun h6 q7 q8 q9 => ?_)
    have o6 : Own h6 (h0.length + 1) 62 [vi, vc, .slice sa (D.ts.length + 1) sc, vp, iv D.main, vk, iv n] := by simpa [Value.cells] using q7
    have ow6 := (ow.keep a3 (fun q e e2 => by have := fr q e; have := hvt _ e2; omega)).keep q8 (fun q e e2 => by have := fr q e; omega)
    simp only [mach, mach2, mstd, ↓reduceIte, Nat.reduceEqDiff, Nat.reduceAdd, Nat.reduceMul, b2s_tx ow6.rds]
    refine XX_of (quote_ok t (by omega) h6) (fun res h7 hle hr => ?_)
    obtain ⟨k7, rfl⟩ := hr
    refine .ret ?_
    rw [show ([34] ++ quoS t ++ [34] : Bs) = 34 :: (quoS t ++ [34]) by simp]
    simp only [mach, mach2, mstd, ↓reduceIte, Nat.reduceEqDiff, Nat.reduceAdd, Nat.reduceMul, mbl, Nat.reduceLeDiff, Nat.reduceLT, Int.reduceEq, beq_self_eq_true]
    have a2' := a2.keep q8 (fun q e2 e3 => by
      rcases a4 q e2 with e4 | e4
      · have := hlt4 q e4; omega
      · have := x4.own.lt; omega)
    refine hΨ _ _ (fin_ret (rv1 rfl ⟨rfl, _, (x4.sett (D.ts ++ [t]) ((a3.mono (fun q e => .inr e)).trans' q8 (fun q _ e => .inl e)) o6 ?_ a4).grow k7⟩))
    rw [List.length_append, List.map_append]
    exact a2'
end
end Go.S17

namespace Go.S17
open Go Go.Eng Go.Proofs Go.Scn Go.Chk Go.Img
theorem sContains_ok (s sub : Bs) (hs : s.length < 4294967281) (h : AH) : Gets Tryz.prog 28 [tv s, tv sub] h (fun res h' => h' = h /\ res = .ret (.bool (hasT s sub))) := by
  refine Gets.ofCalls (args := [tv s, tv sub]) (v := .bool (hasT s sub)) (fn := Tryz.prog.funcs[28]!) hP (by kernel_rfl) (c := (Tryz.prog.funcs[28]!).body.getD .skip) (by kernel_rfl) rfl rfl (fun W hT => ?_) h
  obtain ⟨m, hm⟩ := tab_int hT (g := 0) (by kernel_rfl)
  refine Calls.mono (Any.strings_Contains (P := Tryz.prog) { Tryz.laysContains with } (tx s) (tx sub) m W (by rw [tx_size]; exact hs) hm) fun e w' he => ?_
  obtain ⟨rfl, rfl⟩ := he
  exact ⟨by rw [hasT_eq]; rfl, ⟨rfl, rfl, rfl, Nat.le_refl _, fun i hi => rfl⟩⟩
inductive Ln where
  | image (m : Int) (k : Nat)
  | cons (l : List Int)
  | text (t : Bs)
  | fn (a f c : Int)
  | thunk (f c : Int)
  | code (l : List Int)
def Ln.word : Ln -> Bs
  | .image _ _ => wImage
  | .cons _ => wCons
  | .text _ => wText
  | .fn _ _ _ => wFun
  | .thunk _ _ => wThunk
  | .code _ => wCode
def Ln.tail : Ln -> Bs
  | .image m k => [m, (k : Int)].flatMap num1
  | .cons l => l.flatMap num1
  | .text t => 32 :: 34 :: (quoS t ++ [34])
  | .fn a f c => [a, f, c].flatMap num1
  | .thunk f c => [f, c].flatMap num1
  | .code l => l.flatMap num1
def Ln.next : Ln -> Bs
  | .image _ _ => wCons
  | .cons _ => mText
  | .text _ => mText
  | .fn _ _ _ => mInfo
  | .thunk _ _ => mInfo
  | .code _ => []
def Ln.act (D : LdD) : Ln -> LdD
  | .image m k => { D with main := m, tops := D.tops ++ (List.range k).map Int.ofNat }
  | .cons l => { D with cons := l }
  | .text t => { D with ts := D.ts ++ [t] }
  | .fn a f c => { D with infos := D.infos ++ [⟨1, a, f, c⟩] }
  | .thunk f c => { D with infos := D.infos ++ [⟨2, 0, f, c⟩] }
  | .code l => { D with code := l }
def Ln.Ok (n : Nat) : Ln -> Prop
  | .image m k => rgI m /\ k <= n
  | .cons l => (∀ m ∈ l, rgI m) /\ l.length <= 2097152
  | .text t => t.length <= 1048576
  | .fn a f c => rgI a /\ rgI f /\ rgI c
  | .thunk f c => rgI f /\ rgI c
  | .code l => (∀ m ∈ l, rgI m) /\ l.length <= 2097152
def Ln.txt (l : Ln) : Bs := l.word ++ l.tail ++ [10]
def fitsL : Bs -> List Ln -> Prop
  | _, [] => True
  | may, l :: ls => hasT (32 :: (may ++ [32])) (32 :: (l.word ++ [32])) = true /\ fitsL l.next ls
def lastL : Bs -> List Ln -> Bs
  | may, [] => may
  | _, l :: ls => lastL l.next ls
theorem num_no10 {l : List Int} : (10 : UInt8) ∉ l.flatMap num1 := fun h => by
  obtain ⟨n, _, hn⟩ := List.mem_flatMap.1 h
  rcases List.mem_cons.1 hn with e | e
  · cases e
  · have := itoa_bytes n 10 e
    have e10 : (10 : UInt8).toNat = 10 := rfl
    omega
theorem hxd_no10 (k : Nat) (hk : k < 16) : hxd.getD k 0 ≠ 10 := by
  have : ∀ j < 16, hxd.getD j 0 ≠ 10 := by decide
  exact this k hk
theorem quo_no10 (t : Bs) : (10 : UInt8) ∉ quoS t := fun h => by
  obtain ⟨c, _, hc⟩ := List.mem_flatMap.1 h
  have hlt := c.toNat_lt
  rcases escB_cases c with ⟨e, h1⟩ | ⟨x, e, h1⟩ | ⟨e, h1⟩
  · rw [e, List.mem_singleton] at hc
    subst hc
    have : escB 10 = [92, 110] := by decide
    rw [this] at e; cases e
  · rw [e] at hc
    simp at hc
    subst hc
    rcases h1 with ⟨h1, _⟩ | ⟨h1, _⟩ | ⟨_, _, _, h1⟩
    · cases h1
    · cases h1
    · subst h1
      have : escB 10 = [92, 110] := by decide
      rw [this] at e; cases e
  · rw [e] at hc
    simp only [List.mem_cons, List.not_mem_nil, or_false] at hc
    rcases hc with hc | hc | hc | hc
    · cases hc
    · cases hc
    · exact hxd_no10 _ (by omega) hc.symm
    · exact hxd_no10 _ (by omega) hc.symm
theorem Ln.no10 (l : Ln) : (10 : UInt8) ∉ l.word ++ l.tail := fun h => by
  rcases List.mem_append.1 h with h | h
  · cases l <;> revert h <;> simp [Ln.word, wImage, wCons, wText, wFun, wThunk, wCode]
  · cases l with
    | text t =>
      simp only [Ln.tail, List.mem_cons, List.mem_append, List.not_mem_nil, or_false] at h
      rcases h with h | h | h | h
      · cases h
      · cases h
      · exact quo_no10 t h
      · cases h
    | image m k => exact num_no10 h
    | cons l => exact num_no10 h
    | fn a f c => exact num_no10 h
    | thunk f c => exact num_no10 h
    | code l => exact num_no10 h
theorem num_head (l : List Int) : l.flatMap num1 = [] \/ ∃ r, l.flatMap num1 = 32 :: r := by
  cases l with
  | nil => exact .inl rfl
  | cons m l => exact .inr ⟨_, rfl⟩
theorem Ln.head (l : Ln) : l.tail = [] \/ ∃ r, l.tail = 32 :: r := by
  cases l with
  | text t => exact .inr ⟨_, rfl⟩
  | image m k => exact num_head _
  | cons l => exact num_head _
  | fn a f c => exact num_head _
  | thunk f c => exact num_head _
  | code l => exact num_head _
theorem Ln.word32 (l : Ln) : (32 : UInt8) ∉ l.word := by
  cases l <;> simp [Ln.word, wImage, wCons, wText, wFun, wThunk, wCode]
theorem Ln.cutW (l : Ln) : ∃ a b, Lib.cut (l.word ++ l.tail) [32] = (l.word, a, b) := by
  rcases l.head with e | ⟨r, e⟩
  · rw [e, List.append_nil]; exact ⟨_, _, cut_no l.word32⟩
  · rw [e]; exact ⟨_, _, cut_at r l.word32⟩
end Go.S17

namespace Go.S17
open Go Go.Eng Go.Proofs Go.Scn Go.Chk Go.Img
theorem Ln.ne (l : Ln) (R : Bs) : ((l.word ++ l.tail ++ 10 :: R) == ([] : Bs)) = false := by cases l <;> rfl
theorem Ln.wne (l : Ln) : (l.word == ([] : Bs)) = false := by cases l <;> rfl
theorem lastL_app : ∀ (ls : List Ln) (may : Bs) (l : Ln), lastL may (ls ++ [l]) = l.next := by
  intro ls
  induction ls with
  | nil => intro may l; rfl
  | cons x ls ih => intro may l; exact ih _ _
theorem fits_at : ∀ (ls : List Ln) (may : Bs), fitsL may ls -> ∀ i (hi : i < ls.length), hasT (32 :: (lastL may (ls.take i) ++ [32])) (32 :: (ls[i].word ++ [32])) = true := by
  intro ls
  induction ls with
  | nil => intro may _ i hi; exact absurd hi (by simp)
  | cons x ls ih =>
    intro may hf i hi
    obtain ⟨h1, h2⟩ := hf
    cases i with
    | zero => exact h1
    | succ i => exact ih _ h2 i (by simpa using hi)
theorem lastL_len (ls : List Ln) (may : Bs) (h : may.length <= 100) : (lastL may ls).length <= 100 := by
  induction ls generalizing may with
  | nil => exact h
  | cons l ls ih => exact ih _ (by cases l <;> simp [Ln.next, wCons, mText, mInfo])
theorem Ln.word_len (l : Ln) : l.word.length <= 10 := by cases l <;> simp [Ln.word, wImage, wCons, wText, wFun, wThunk, wCode]
def D0 : LdD := ⟨[], [], [], [], 0, []⟩
def accL (ls : List Ln) (i : Nat) : LdD := (ls.take i).foldl Ln.act D0
theorem accL_succ {ls : List Ln} {i : Nat} (hi : i < ls.length) : accL ls (i + 1) = Ln.act (accL ls i) ls[i] := by
  unfold accL; rw [List.take_succ_eq_append_getElem hi, List.foldl_append]; rfl
def cxOf (D : LdD) : Cx := ⟨D.infos, D.code, D.ts.length, D.tops, D.main, D.cons⟩
theorem rvc3 {e l : PE} {h : AH} {ds : List Dfr} {x y z : RX} {u : U} {p v a b : Value} {K : List Value -> Prop} (hx : rx e l x = some p) (hu : uval Tryz.prog h h.length u p = some (v, none)) (hy : rx e l y = some a) (hz : rx e l z = some b) (hk : K [v, a, b]) :
    rvK Tryz.prog ⟨e, l, h, ds⟩ [.c x u, .v y, .v z] K := by
  simp only [rvK, hx, hu, hy, hz, vK, rK]; exact hk
def LoadO (h0 : AH) (D : LdD) (res : Res) (h' : AH) : Prop := Keep (fun _ => False) h0 h' /\ ∃ vi vc vt vp vk, Im h' (cxOf D) D.ts vi vc vt vp vk /\
  res = .ret (.tuple #[.agg #[vi, vc, vt, vp, iv D.main, vk], iv 0, iv 0])
set_option maxHeartbeats 8000000 in
theorem Load_loop (hex : HexOk) (ls : List Ln) (hn : (ls.flatMap Ln.txt).length < 4294967281) (hok : ∀ l ∈ ls, l.Ok (ls.flatMap Ln.txt).length) (hfit : fitsL wImage ls) (hlast : lastL wImage ls = [])
    (hsz : ∀ i, i <= ls.length -> (accL ls i).infos.length <= 10000000 /\ (accL ls i).ts.length <= 10000000 /\ (accL ls i).tops.length <= 1000000000) (hll : ls.length <= 1000000000)
    (hsound : (ends (cxOf (accL ls ls.length))).isSome = true) (hfits : Cx.fits (cxOf (accL ls ls.length))) (h0 : AH) :
    Gets Tryz.prog 12 [tv (ls.flatMap Ln.txt)] h0 (LoadO h0 (accL ls ls.length)) := by
  refine Gets.of (keep := false) hP (draw_ok hM) k12 (by rfl) (fun Ψ hΨ => ?_)
  generalize hnn : (ls.flatMap Ln.txt).length = n at hn hok
  have ka : Keep (fun _ => False) h0 (h0 ++ [row 26 h0.length [.slice none 0 0, .slice none 0 0, .slice none 0 0, .slice none 0 0, iv 0, .slice none 0 0]]) := Keep.push _ _ _
  have oa := Own.new h0 26 h0.length [.slice none 0 0, .slice none 0 0, .slice none 0 0, .slice none 0 0, iv 0, .slice none 0 0]
  simp only [mach, mach2, mstd, ↓reduceIte, Nat.reduceEqDiff, Nat.reduceAdd, Nat.reduceMul, r12, mbl, Nat.reduceLeDiff, Nat.reduceLT, Int.reduceEq, tx_size, hnn]
  generalize hha : h0 ++ [row 26 h0.length [.slice none 0 0, .slice none 0 0, .slice none 0 0, .slice none 0 0, iv 0, .slice none 0 0]] = ha at ka oa ⊢
  have hla : ha.length = h0.length + 1 := by rw [<- hha]; simp
  have kb : Keep (fun _ => False) ha (ha ++ [row 62 ha.length [.slice none 0 0, .slice none 0 0, .slice none 0 0, .slice none 0 0, iv 0, .slice none 0 0, iv n]]) := Keep.push _ _ _
  have ob := Own.new ha 62 ha.length [.slice none 0 0, .slice none 0 0, .slice none 0 0, .slice none 0 0, iv 0, .slice none 0 0, iv n]
  generalize hhb : ha ++ [row 62 ha.length [.slice none 0 0, .slice none 0 0, .slice none 0 0, .slice none 0 0, iv 0, .slice none 0 0, iv n]] = hb at kb ob ⊢
  rw [hla] at ob
  have y0 : Ld h0 n D0 (.slice none 0 0) (.slice none 0 0) (.slice none 0 0) (.slice none 0 0) (.slice none 0 0) hb :=
    ⟨ka.trans kb, oa.keep kb (fun e => e), ob, .nil, .nil, .nil, .nil, .nil, fun q e => e.elim, fun q e => e.elim, fun q e => e.elim, fun q e => e.elim, fun q e => e.elim,
      fun q e _ => e.elim, fun q e _ => e.elim, fun q e _ => e.elim, fun q e _ => e.elim, fun q e _ => e.elim, fun q e _ => e.elim, fun q e _ => e.elim, fun q e _ => e.elim, fun q e _ => e.elim, fun q e _ => e.elim⟩
  rw [hla]
  refine XLo_rule (α := Nat × Value × Value × Value × Value × Value) (fun a => [(2, .pointer (some ⟨h0.length, 0, none⟩)), (3, iv a.1), (5, .pointer (some ⟨h0.length + 1, 0, none⟩)), (6, tv (lastL wImage (ls.take a.1))), (7, tv ((ls.drop a.1).flatMap Ln.txt))])
    (fun a h' => a.1 <= ls.length /\ Ld h0 n (accL ls a.1) a.2.1 a.2.2.1 a.2.2.2.1 a.2.2.2.2.1 a.2.2.2.2.2 h') (fun a => ls.length - a.1) (0, .slice none 0 0, .slice none 0 0, .slice none 0 0, .slice none 0 0, .slice none 0 0)
    ⟨Nat.zero_le _, y0⟩ ⟨rfl, rfl, rfl, rfl, rfl, trivial⟩ ?_
  rintro ⟨i, vi, vc, vt, vp, vk⟩ g1 Ψ2 ⟨hi, y⟩ next out
  simp only at hi y
  obtain ⟨hz1, hz2, hz3⟩ := hsz i hi
  by_cases hil : i < ls.length
  · have hd : ls.drop i = ls[i] :: ls.drop (i + 1) := List.drop_eq_getElem_cons hil
    have hacc := accL_succ hil
    have hf := fits_at ls wImage hfit i hil
    have hlast2 : lastL wImage (ls.take (i + 1)) = ls[i].next := by rw [List.take_succ_eq_append_getElem hil, lastL_app]
    have hokl := hok ls[i] (List.getElem_mem _)
    have hml := lastL_len (ls.take i) wImage (by decide)
    have hsub : ((ls.drop i).flatMap Ln.txt).length <= n := by
      rw [<- hnn, <- List.take_append_drop i ls, List.flatMap_append, List.length_append]
      simp
    rw [hd, List.flatMap_cons] at hsub
    have hrest : (ls.drop i).flatMap Ln.txt = ls[i].word ++ ls[i].tail ++ 10 :: (ls.drop (i + 1)).flatMap Ln.txt := by
      rw [hd, List.flatMap_cons]; unfold Ln.txt; simp
    generalize ls[i] = l at hacc hf hlast2 hokl hrest hsub
    generalize lastL wImage (ls.take i) = may at hf hml
    generalize hR : (ls.drop (i + 1)).flatMap Ln.txt = R at hrest hsub
    have hwl := l.word_len
    have hsz2 : (l.word ++ l.tail ++ 10 :: R).length <= n := by
      have : (l.word ++ l.tail ++ 10 :: R) = l.txt ++ R := by unfold Ln.txt; simp
      rw [this]; exact hsub
    have hwt : (l.word ++ l.tail).length <= n := by
      rw [List.length_append] at hsz2; omega
    have hwi : IntKind.i64.wrap ((i : Int) + 1) = ((i + 1 : Nat) : Int) := by rw [i64w (by omega) (by omega)]; omega
    have s1 : sbin .add (⟨#[32]⟩ : ByteArray) (tx may) = some (tv ([32] ++ may)) := s_add (a := [32]) (b := may) (by simp only [List.length_cons, List.length_nil]; omega)
    have s2 : sbin .add (tx ([32] ++ may)) (⟨#[32]⟩ : ByteArray) = some (tv (32 :: (may ++ [32]))) := s_add (a := [32] ++ may) (b := [32]) (by simp only [List.length_append, List.length_cons, List.length_nil]; omega)
    have s3 : sbin .add (⟨#[32]⟩ : ByteArray) (tx l.word) = some (tv ([32] ++ l.word)) := s_add (a := [32]) (b := l.word) (by simp only [List.length_cons, List.length_nil]; omega)
    have s4 : sbin .add (tx ([32] ++ l.word)) (⟨#[32]⟩ : ByteArray) = some (tv (32 :: (l.word ++ [32]))) := s_add (a := [32] ++ l.word) (b := [32]) (by simp only [List.length_append, List.length_cons, List.length_nil]; omega)
    have hslw : slsv (.string (tx (l.word ++ l.tail))) (some (iv l.word.length)) none = some (.string (tx l.tail), none) := by
      rw [sl_from (by simp), List.drop_left]
    obtain ⟨ca, cb, hcw⟩ := l.cutW
    rw [hrest]
    simp only [mach, mach2, mstd, ↓reduceIte, Nat.reduceEqDiff, Nat.reduceAdd, Nat.reduceMul, tx_toList, mk_toList, Ln.ne, Bool.not_false]
    refine XX_val (cut_ok (l.word ++ l.tail ++ 10 :: R) [10] (by omega) g1) ?_
    rw [cut_at R l.no10]
    simp only [mach, mach2, mstd, ↓reduceIte, Nat.reduceEqDiff, Nat.reduceAdd, Nat.reduceMul, mbl, Nat.reduceLeDiff, Nat.reduceLT, Int.reduceEq, hwi]
    refine XX_val (cut_ok (l.word ++ l.tail) [32] (by omega) g1) ?_
    rw [hcw]
    simp only [mach, mach2, mstd, ↓reduceIte, Nat.reduceEqDiff, Nat.reduceAdd, Nat.reduceMul, mbl, Nat.reduceLeDiff, Nat.reduceLT, Int.reduceEq, tx_toList, mk_toList, Ln.wne, s1, s2, s3, s4]
    refine XX_val (sContains_ok (32 :: (may ++ [32])) (32 :: (l.word ++ [32])) (by simp only [List.length_append, List.length_cons, List.length_nil]; omega) g1) ?_
    rw [hf]
    simp only [mach, mach2, mstd, ↓reduceIte, Nat.reduceEqDiff, Nat.reduceAdd, Nat.reduceMul, mbl, Nat.reduceLeDiff, Nat.reduceLT, Int.reduceEq]
    cases l with
    | image m k =>
      have m0 := m_read 83 rdImage (.inl ⟨rfl, rfl⟩)
      have hk := hokl
      simp only [Ln.Ok] at hk
      refine XX_val (of_image g1) ?_
      simp only [mach, mach2, mstd, ↓reduceIte, Nat.reduceEqDiff, Nat.reduceAdd, Nat.reduceMul, mbl, Nat.reduceLeDiff, Nat.reduceLT, Int.reduceEq, rdImage, m0, if_true, tx_size, hslw]
      refine XX_of (image_read y m k hk.1 hk.2 (by omega) (by omega)) (fun res g2 hle hr => ?_)
      obtain ⟨rfl, v', y2⟩ := hr
      refine .ret ?_
      simp only [mach, mach2, mstd, ↓reduceIte, Nat.reduceEqDiff, Nat.reduceAdd, Nat.reduceMul, mbl, Nat.reduceLeDiff, Nat.reduceLT, Int.reduceEq, rdImage]
      refine XX_val (beh_image g2) ?_
      simp only [mach, mach2, mstd, ↓reduceIte, Nat.reduceEqDiff, Nat.reduceAdd, Nat.reduceMul, mbl, Nat.reduceLeDiff, Nat.reduceLT, Int.reduceEq]
      refine next (i + 1, vi, vc, vt, v', vk) _ _ _ ⟨by simp only; omega, by simp only; rw [hacc]; exact y2⟩ ⟨rfl, rfl, rfl, by rw [hlast2]; rfl, by show _ = some (tv ((ls.drop (i + 1)).flatMap Ln.txt)); rw [hR]; rfl, trivial⟩ (by simp only; omega)
    | cons l =>
      have m0 := m_read 84 rdCons (.inr (.inl ⟨rfl, rfl⟩))
      have hk := hokl
      simp only [Ln.Ok] at hk
      refine XX_val (of_cons g1) ?_
      simp only [mach, mach2, mstd, ↓reduceIte, Nat.reduceEqDiff, Nat.reduceAdd, Nat.reduceMul, mbl, Nat.reduceLeDiff, Nat.reduceLT, Int.reduceEq, rdCons, m0, if_true, tx_size, hslw]
      refine XX_of (cons_read y l hk.1 hk.2) (fun res g2 hle hr => ?_)
      obtain ⟨rfl, v', y2⟩ := hr
      refine .ret ?_
      simp only [mach, mach2, mstd, ↓reduceIte, Nat.reduceEqDiff, Nat.reduceAdd, Nat.reduceMul, mbl, Nat.reduceLeDiff, Nat.reduceLT, Int.reduceEq, rdCons]
      refine XX_val (beh_cons g2) ?_
      simp only [mach, mach2, mstd, ↓reduceIte, Nat.reduceEqDiff, Nat.reduceAdd, Nat.reduceMul, mbl, Nat.reduceLeDiff, Nat.reduceLT, Int.reduceEq]
      refine next (i + 1, vi, vc, vt, vp, v') _ _ _ ⟨by simp only; omega, by simp only; rw [hacc]; exact y2⟩ ⟨rfl, rfl, rfl, by rw [hlast2]; rfl, by show _ = some (tv ((ls.drop (i + 1)).flatMap Ln.txt)); rw [hR]; rfl, trivial⟩ (by simp only; omega)
    | text t =>
      have m0 := m_read 85 rdText (.inr (.inr (.inl ⟨rfl, rfl⟩)))
      have hk := hokl
      simp only [Ln.Ok] at hk
      refine XX_val (of_text g1) ?_
      simp only [mach, mach2, mstd, ↓reduceIte, Nat.reduceEqDiff, Nat.reduceAdd, Nat.reduceMul, mbl, Nat.reduceLeDiff, Nat.reduceLT, Int.reduceEq, rdText, m0, if_true, tx_size, hslw]
      refine XX_of (text_read hex y t hk hz2) (fun res g2 hle hr => ?_)
      obtain ⟨rfl, v', y2⟩ := hr
      refine .ret ?_
      simp only [mach, mach2, mstd, ↓reduceIte, Nat.reduceEqDiff, Nat.reduceAdd, Nat.reduceMul, mbl, Nat.reduceLeDiff, Nat.reduceLT, Int.reduceEq, rdText]
      refine XX_val (beh_text g2) ?_
      simp only [mach, mach2, mstd, ↓reduceIte, Nat.reduceEqDiff, Nat.reduceAdd, Nat.reduceMul, mbl, Nat.reduceLeDiff, Nat.reduceLT, Int.reduceEq]
      refine next (i + 1, vi, vc, v', vp, vk) _ _ _ ⟨by simp only; omega, by simp only; rw [hacc]; exact y2⟩ ⟨rfl, rfl, rfl, by rw [hlast2]; rfl, by show _ = some (tv ((ls.drop (i + 1)).flatMap Ln.txt)); rw [hR]; rfl, trivial⟩ (by simp only; omega)
    | fn a f c =>
      have m0 := m_read 87 rdFun (.inr (.inr (.inr (.inl ⟨.inl rfl, rfl⟩))))
      have hk := hokl
      simp only [Ln.Ok] at hk
      refine XX_val (of_fun g1) ?_
      simp only [mach, mach2, mstd, ↓reduceIte, Nat.reduceEqDiff, Nat.reduceAdd, Nat.reduceMul, mbl, Nat.reduceLeDiff, Nat.reduceLT, Int.reduceEq, rdFun, m0, if_true, tx_size, hslw]
      refine XX_of (fun_read y a f c hk.1 hk.2.1 hk.2.2 hz1) (fun res g2 hle hr => ?_)
      obtain ⟨rfl, v', y2⟩ := hr
      refine .ret ?_
      simp only [mach, mach2, mstd, ↓reduceIte, Nat.reduceEqDiff, Nat.reduceAdd, Nat.reduceMul, mbl, Nat.reduceLeDiff, Nat.reduceLT, Int.reduceEq, rdFun]
      refine XX_val (beh_fun g2) ?_
      simp only [mach, mach2, mstd, ↓reduceIte, Nat.reduceEqDiff, Nat.reduceAdd, Nat.reduceMul, mbl, Nat.reduceLeDiff, Nat.reduceLT, Int.reduceEq]
      refine next (i + 1, v', vc, vt, vp, vk) _ _ _ ⟨by simp only; omega, by simp only; rw [hacc]; exact y2⟩ ⟨rfl, rfl, rfl, by rw [hlast2]; rfl, by show _ = some (tv ((ls.drop (i + 1)).flatMap Ln.txt)); rw [hR]; rfl, trivial⟩ (by simp only; omega)
    | thunk f c =>
      have m0 := m_read 87 rdThunk (.inr (.inr (.inr (.inl ⟨.inr rfl, rfl⟩))))
      have hk := hokl
      simp only [Ln.Ok] at hk
      refine XX_val (of_thunk g1) ?_
      simp only [mach, mach2, mstd, ↓reduceIte, Nat.reduceEqDiff, Nat.reduceAdd, Nat.reduceMul, mbl, Nat.reduceLeDiff, Nat.reduceLT, Int.reduceEq, rdThunk, m0, if_true, tx_size, hslw]
      refine XX_of (thunk_read y f c hk.1 hk.2 hz1) (fun res g2 hle hr => ?_)
      obtain ⟨rfl, v', y2⟩ := hr
      refine .ret ?_
      simp only [mach, mach2, mstd, ↓reduceIte, Nat.reduceEqDiff, Nat.reduceAdd, Nat.reduceMul, mbl, Nat.reduceLeDiff, Nat.reduceLT, Int.reduceEq, rdThunk]
      refine XX_val (beh_thunk g2) ?_
      simp only [mach, mach2, mstd, ↓reduceIte, Nat.reduceEqDiff, Nat.reduceAdd, Nat.reduceMul, mbl, Nat.reduceLeDiff, Nat.reduceLT, Int.reduceEq]
      refine next (i + 1, v', vc, vt, vp, vk) _ _ _ ⟨by simp only; omega, by simp only; rw [hacc]; exact y2⟩ ⟨rfl, rfl, rfl, by rw [hlast2]; rfl, by show _ = some (tv ((ls.drop (i + 1)).flatMap Ln.txt)); rw [hR]; rfl, trivial⟩ (by simp only; omega)
    | code l =>
      have m0 := m_read 88 rdCode (.inr (.inr (.inr (.inr ⟨rfl, rfl⟩))))
      have hk := hokl
      simp only [Ln.Ok] at hk
      refine XX_val (of_code g1) ?_
      simp only [mach, mach2, mstd, ↓reduceIte, Nat.reduceEqDiff, Nat.reduceAdd, Nat.reduceMul, mbl, Nat.reduceLeDiff, Nat.reduceLT, Int.reduceEq, rdCode, m0, if_true, tx_size, hslw]
      refine XX_of (code_read y l hk.1 hk.2) (fun res g2 hle hr => ?_)
      obtain ⟨rfl, v', y2⟩ := hr
      refine .ret ?_
      simp only [mach, mach2, mstd, ↓reduceIte, Nat.reduceEqDiff, Nat.reduceAdd, Nat.reduceMul, mbl, Nat.reduceLeDiff, Nat.reduceLT, Int.reduceEq, rdCode]
      refine XX_val (beh_code g2) ?_
      simp only [mach, mach2, mstd, ↓reduceIte, Nat.reduceEqDiff, Nat.reduceAdd, Nat.reduceMul, mbl, Nat.reduceLeDiff, Nat.reduceLT, Int.reduceEq]
      refine next (i + 1, vi, v', vt, vp, vk) _ _ _ ⟨by simp only; omega, by simp only; rw [hacc]; exact y2⟩ ⟨rfl, rfl, rfl, by rw [hlast2]; rfl, by show _ = some (tv ((ls.drop (i + 1)).flatMap Ln.txt)); rw [hR]; rfl, trivial⟩ (by simp only; omega)
  · have hie : i = ls.length := by omega
    subst hie
    rw [List.take_length, List.drop_length, List.flatMap_nil, hlast]
    simp only [mach, mach2, mstd, ↓reduceIte, Nat.reduceEqDiff, Nat.reduceAdd, Nat.reduceMul, tx_toList, mk_toList, show (([] : Bs) == []) = true from rfl, Bool.not_true]
    refine out (.exit 0) _ _ _ _ (by intro e; cases e) ?_
    obtain ⟨ia, ic, hvi⟩ := row_shape y.oi.rds
    obtain ⟨ca, cc, hvc⟩ := row_shape y.oc.rds
    obtain ⟨ta, tc, hvt⟩ := row_shape y.ot.rds
    obtain ⟨pa, pc, hvp⟩ := row_shape y.op.rds
    obtain ⟨ka, kc, hvk⟩ := row_shape y.ok.rds
    have im : Img g1 (cxOf (accL ls ls.length)) vi vc vt vp vk := ⟨y.oi.rds, y.oc.rds, ⟨ta, tc, hvt⟩, y.op.rds, y.ok.rds⟩
    simp only [mach, mach2, mstd, ↓reduceIte, Nat.reduceEqDiff, Nat.reduceAdd, Nat.reduceMul, mbl, Nat.reduceLeDiff, Nat.reduceLT, Int.reduceEq, y.own.cells.lds 0 6 (by simp), tx_toList, mk_toList, show (([] : Bs) == []) = true from rfl, Bool.not_true]
    refine XX_of (Check_ok im hfits) (fun res g2 hle hr => ?_)
    obtain ⟨k2, rfl⟩ := hr
    refine .ret ?_
    have y2 := y.grow k2
    rw [hsound]
    simp only [mach, mach2, mstd, ↓reduceIte, Nat.reduceEqDiff, Nat.reduceAdd, Nat.reduceMul, mbl, Nat.reduceLeDiff, Nat.reduceLT, Int.reduceEq, y2.own.cells.lds 0 6 (by simp)]
    refine XH_own y2.o0 rfl (by simp [Value.cells]) (by simp [Value.cells, Value.oneCell', hvi, hvc, hvt, hvp, hvk]) (fun g3 q1 q2 q3 => ?_)
    have o3 : Own g3 h0.length 26 [vi, vc, vt, vp, iv (accL ls ls.length).main, vk] := by simpa [Value.cells] using q1
    simp only [mach, mach2, mstd, ↓reduceIte, Nat.reduceEqDiff, Nat.reduceAdd, Nat.reduceMul]
    have hlo : ∀ v, (∀ q, bk v q -> h0.length + 1 < q) -> ∀ q, rb v q -> ¬ (q = h0.length) := fun v hv q e => by have := hv q e.bk; omega
    refine hΨ _ _ (fin_ret (rvc3 rfl (by rw [u_ldn, o3.cells.lds 0 6 (by simp)]; rfl) rfl rfl ⟨y2.kp.trans' q2 (fun c hc e => by omega), vi, vc, vt, vp, vk, ?_, rfl⟩))
    refine Im.keep ⟨⟨y2.oi.rds, y2.oc.rds, im.rt, y2.op.rds, y2.ok.rds⟩, y2.ot.rds⟩ q2 (fun q e => ?_)
    unfold rbs at e
    rcases e with e | e | e | e | e
    · exact hlo vi y2.li q e
    · exact hlo vc y2.lc q e
    · exact hlo vp y2.lp q e
    · exact hlo vk y2.lk q e
    · exact hlo vt y2.lt q e
end Go.S17

namespace Go.S17
open Go Go.Eng Go.Proofs Go.Scn Go.Chk Go.Img
def lnInf (x : Inf) : Ln := if x.k = 1 then .fn x.a x.f x.c else .thunk x.f x.c
def linesOf (C : Cx) (ts : List Bs) : List Ln := [.image C.main C.tops.length, .cons C.cons] ++ ts.map .text ++ C.infos.map lnInf ++ [.code C.code]
theorem text_txt (t : Bs) : Ln.txt (.text t) = txtT t := by simp [Ln.txt, Ln.word, Ln.tail, txtT, wText]
theorem inf_txt (x : Inf) : Ln.txt (lnInf x) = infT x := by
  unfold lnInf infT
  split <;> simp [Ln.txt, Ln.word, Ln.tail, wFun, wThunk, numsT]
theorem map_flat {α β γ : Type} (f : α -> β) (g : β -> List γ) : ∀ l : List α, (l.map f).flatMap g = l.flatMap fun x => g (f x) := by
  intro l
  induction l with
  | nil => rfl
  | cons x l ih => rw [List.map_cons, List.flatMap_cons, List.flatMap_cons, ih]
theorem lines_txt (C : Cx) (ts : List Bs) : (linesOf C ts).flatMap Ln.txt = imgT C ts := by
  unfold linesOf imgT
  rw [List.flatMap_append, List.flatMap_append, List.flatMap_append, map_flat, map_flat]
  rw [show (fun t => Ln.txt (.text t)) = txtT from funext text_txt, show (fun x => Ln.txt (lnInf x)) = infT from funext inf_txt]
  simp [Ln.txt, Ln.word, Ln.tail, wImage, wCons, wCode, numsT]
theorem fold_text : ∀ (ts : List Bs) (D : LdD), (ts.map Ln.text).foldl Ln.act D = { D with ts := D.ts ++ ts } := by
  intro ts
  induction ts with
  | nil => intro D; simp
  | cons t ts ih => intro D; rw [List.map_cons, List.foldl_cons, ih]; simp [Ln.act]
theorem act_inf (D : LdD) (x : Inf) (h : x.k = 1 \/ x.k = 2 /\ x.a = 0) : Ln.act D (lnInf x) = { D with infos := D.infos ++ [x] } := by
  obtain ⟨k, a, f, c⟩ := x
  simp only at h
  unfold lnInf
  rcases h with rfl | ⟨rfl, rfl⟩
  · rw [if_pos rfl]; rfl
  · rw [if_neg (show ¬ ((2 : Int) = 1) by decide)]; rfl
theorem fold_inf : ∀ (is : List Inf) (D : LdD), (∀ x ∈ is, x.k = 1 \/ x.k = 2 /\ x.a = 0) -> (is.map lnInf).foldl Ln.act D = { D with infos := D.infos ++ is } := by
  intro is
  induction is with
  | nil => intro D _; simp
  | cons x is ih =>
    intro D h
    rw [List.map_cons, List.foldl_cons, act_inf D x (h x List.mem_cons_self), ih _ fun y hy => h y (List.mem_cons_of_mem _ hy)]; simp
theorem acc_lines (C : Cx) (ts : List Bs) (hi : ∀ x ∈ C.infos, x.k = 1 \/ x.k = 2 /\ x.a = 0) (ht : (List.range C.tops.length).map Int.ofNat = C.tops) :
    accL (linesOf C ts) (linesOf C ts).length = ⟨C.infos, C.code, ts, C.tops, C.main, C.cons⟩ := by
  unfold accL
  rw [List.take_length]
  unfold linesOf
  rw [List.foldl_append, List.foldl_append, List.foldl_append, fold_text, fold_inf _ _ hi]
  simp [Ln.act, D0, ht]
theorem last_lines (C : Cx) (ts : List Bs) : lastL wImage (linesOf C ts) = [] := by
  unfold linesOf; rw [lastL_app]; rfl
theorem fits_app : ∀ (l1 l2 : List Ln) (may : Bs), fitsL may l1 -> fitsL (lastL may l1) l2 -> fitsL may (l1 ++ l2) := by
  intro l1
  induction l1 with
  | nil => intro l2 may _ h; exact h
  | cons x l1 ih => intro l2 may h h2; exact ⟨h.1, ih _ _ h.2 h2⟩
theorem c_image : hasT (32 :: (wImage ++ [32])) (32 :: (wImage ++ [32])) = true := by decide
theorem c_cons : hasT (32 :: (wCons ++ [32])) (32 :: (wCons ++ [32])) = true := by decide
theorem c_text : hasT (32 :: (mText ++ [32])) (32 :: (wText ++ [32])) = true := by decide
theorem c_code : hasT (32 :: (mInfo ++ [32])) (32 :: (wCode ++ [32])) = true := by decide
theorem fits_text : ∀ ts : List Bs, fitsL mText (ts.map Ln.text) /\ lastL mText (ts.map Ln.text) = mText := by
  intro ts
  induction ts with
  | nil => exact ⟨trivial, rfl⟩
  | cons t ts ih => exact ⟨⟨c_text, ih.1⟩, ih.2⟩
theorem inf_word (x : Inf) : (lnInf x).word = wFun /\ (lnInf x).next = mInfo \/ (lnInf x).word = wThunk /\ (lnInf x).next = mInfo := by
  unfold lnInf; split
  · exact .inl ⟨rfl, rfl⟩
  · exact .inr ⟨rfl, rfl⟩
theorem fits_inf (may : Bs) (hm : may = mText \/ may = mInfo) : ∀ is : List Inf, fitsL may (is.map lnInf) /\ (is ≠ [] -> lastL may (is.map lnInf) = mInfo) := by
  intro is
  induction is generalizing may with
  | nil => exact ⟨trivial, fun h => absurd rfl h⟩
  | cons x is ih =>
    have hx : hasT (32 :: (may ++ [32])) (32 :: ((lnInf x).word ++ [32])) = true /\ (lnInf x).next = mInfo := by
      rcases hm with rfl | rfl <;> rcases inf_word x with ⟨e, e2⟩ | ⟨e, e2⟩ <;> (rw [e]; exact ⟨by decide, e2⟩)
    obtain ⟨i1, i2⟩ := ih mInfo (.inr rfl)
    refine ⟨⟨hx.1, by rw [hx.2]; exact i1⟩, fun _ => ?_⟩
    show lastL (lnInf x).next (is.map lnInf) = mInfo
    rw [hx.2]
    cases is with
    | nil => rfl
    | cons y is => exact i2 (by simp)
theorem fits_lines (C : Cx) (ts : List Bs) (hi : C.infos ≠ []) : fitsL wImage (linesOf C ts) := by
  unfold linesOf
  have h1 : fitsL wImage [.image C.main C.tops.length, .cons C.cons] := ⟨c_image, c_cons, trivial⟩
  refine fits_app _ _ _ (fits_app _ _ _ (fits_app _ _ _ h1 (fits_text ts).1) ?_) ?_
  · have e : lastL wImage ([.image C.main C.tops.length, .cons C.cons] ++ ts.map Ln.text) = mText := (fits_text ts).2
    rw [e]; exact (fits_inf mText (.inl rfl) C.infos).1
  · have e : lastL wImage ([.image C.main C.tops.length, .cons C.cons] ++ ts.map Ln.text ++ C.infos.map lnInf) = mInfo := by
      have : ∀ (a b : List Ln) (m : Bs), lastL m (a ++ b) = lastL (lastL m a) b := by
        intro a
        induction a with
        | nil => intro b m; rfl
        | cons x a ih => intro b m; exact ih _ _
      rw [this, show lastL wImage ([.image C.main C.tops.length, .cons C.cons] ++ ts.map Ln.text) = mText from (fits_text ts).2]
      exact (fits_inf mText (.inl rfl) C.infos).2 hi
    rw [e]; exact ⟨c_code, trivial⟩
end Go.S17

namespace Go.S17
open Go Go.Eng Go.Proofs Go.Scn Go.Chk Go.Img
theorem sameI_ok (xs : List Int) (h : AH) (u v : Value) (hu : Rds h 1 u xs.length (ns xs)) (hv : Rds h 1 v xs.length (ns xs)) (hl : xs.length <= 9223372036854775807) : Gets Tryz.prog 25 [u, v] h (fun res h' => h' = h /\ res = .ret (.bool true)) := by
  refine Gets.of (keep := false) hP (draw_ok hM) k25 (by rfl) (fun Ψ hΨ => ?_)
  obtain ⟨ua, uc, rfl⟩ := row_shape hu
  obtain ⟨va, vc, rfl⟩ := row_shape hv
  simp only [mach, mach2, mstd, ↓reduceIte, Nat.reduceEqDiff, Nat.reduceAdd, Nat.reduceMul, r25]
  refine XLo_rule (α := Nat) (fun i => [(0, .slice ua xs.length uc), (1, .slice va xs.length vc), (5, iv i)]) (fun i h' => h' = h /\ i <= xs.length) (fun i => xs.length - i) 0 ⟨rfl, Nat.zero_le _⟩ ⟨rfl, rfl, rfl, trivial⟩ ?_
  rintro i h1 Ψ2 ⟨rfl, hi⟩ next out
  by_cases hlt : (i : Int) < (xs.length : Int)
  · have hil : i < xs.length := by omega
    have g0 : (0 : Int) <= (i : Int) := by omega
    have hx : xs[(i : Int).toNat]? = some xs[i] := by rw [Int.toNat_natCast]; exact List.getElem?_eq_getElem hil
    obtain ⟨b1, o1, c1, e1, _, l1⟩ := rds_ix hu g0 hx
    obtain ⟨b2, o2, c2, e2, _, l2⟩ := rds_ix hv g0 hx
    rw [Int.toNat_natCast] at l1 l2
    cases e1; cases e2
    have hw : IntKind.i64.wrap ((i : Int) + 1) = ((i + 1 : Nat) : Int) := by rw [i64w (by omega) (by omega)]; omega
    simp only [mach, mach2, mstd, ↓reduceIte, Nat.reduceEqDiff, Nat.reduceAdd, Nat.reduceMul, hlt, g0, and_self, Int.toNat_natCast, Nat.mul_one, l1, l2, ct1, hw]
    exact next (i + 1) _ _ _ ⟨rfl, by omega⟩ ⟨rfl, rfl, rfl, trivial⟩ (by omega)
  · simp only [mach, mach2, mstd, ↓reduceIte, Nat.reduceEqDiff, Nat.reduceAdd, Nat.reduceMul, hlt]
    refine out (.exit 0) _ _ _ _ (by intro e; cases e) ?_
    simp only [mach, mach2, mstd, ↓reduceIte, Nat.reduceEqDiff, Nat.reduceAdd, Nat.reduceMul]
    exact hΨ _ _ (fin_ret (rv1 rfl ⟨rfl, rfl⟩))
theorem sameT_ok (xs : List Bs) (h : AH) (u v : Value) (hu : Rds h 1 u xs.length (xs.map tv)) (hv : Rds h 1 v xs.length (xs.map tv)) (hl : xs.length <= 9223372036854775807) : Gets Tryz.prog 26 [u, v] h (fun res h' => h' = h /\ res = .ret (.bool true)) := by
  refine Gets.of (keep := false) hP (draw_ok hM) k26 (by rfl) (fun Ψ hΨ => ?_)
  obtain ⟨ua, uc, rfl⟩ := row_shape hu
  obtain ⟨va, vc, rfl⟩ := row_shape hv
  simp only [mach, mach2, mstd, ↓reduceIte, Nat.reduceEqDiff, Nat.reduceAdd, Nat.reduceMul, r26]
  refine XLo_rule (α := Nat) (fun i => [(0, .slice ua xs.length uc), (1, .slice va xs.length vc), (5, iv i)]) (fun i h' => h' = h /\ i <= xs.length) (fun i => xs.length - i) 0 ⟨rfl, Nat.zero_le _⟩ ⟨rfl, rfl, rfl, trivial⟩ ?_
  rintro i h1 Ψ2 ⟨rfl, hi⟩ next out
  by_cases hlt : (i : Int) < (xs.length : Int)
  · have hil : i < xs.length := by omega
    have g0 : (0 : Int) <= (i : Int) := by omega
    obtain ⟨b1, o1, c1, e1, _, l1⟩ := rds_tx hu hil
    obtain ⟨b2, o2, c2, e2, _, l2⟩ := rds_tx hv hil
    cases e1; cases e2
    have hw : IntKind.i64.wrap ((i : Int) + 1) = ((i + 1 : Nat) : Int) := by rw [i64w (by omega) (by omega)]; omega
    simp only [mach, mach2, mstd, ↓reduceIte, Nat.reduceEqDiff, Nat.reduceAdd, Nat.reduceMul, hlt, g0, and_self, Int.toNat_natCast, Nat.mul_one, l1, l2, ct1, hw, beq_self_eq_true, Bool.not_true]
    exact next (i + 1) _ _ _ ⟨rfl, by omega⟩ ⟨rfl, rfl, rfl, trivial⟩ (by omega)
  · simp only [mach, mach2, mstd, ↓reduceIte, Nat.reduceEqDiff, Nat.reduceAdd, Nat.reduceMul, hlt]
    refine out (.exit 0) _ _ _ _ (by intro e; cases e) ?_
    simp only [mach, mach2, mstd, ↓reduceIte, Nat.reduceEqDiff, Nat.reduceAdd, Nat.reduceMul]
    exact hΨ _ _ (fin_ret (rv1 rfl ⟨rfl, rfl⟩))
section
variable {h : AH} {C : Cx} {ts : List Bs} {vi vc vt vp vk wi wc wt wp wk : Value}
set_option maxHeartbeats 2000000 in
theorem Same_ok (x : Im h C ts vi vc vt vp vk) (y : Im h C ts wi wc wt wp wk) (f : Fit C ts) : Gets Tryz.prog 11 [.agg #[vi, vc, vt, vp, iv C.main, vk], .agg #[wi, wc, wt, wp, iv C.main, wk]] h (fun res h' => Keep (fun _ => False) h h' /\ res = .ret (.bool true)) := by
  refine Gets.of (keep := false) hP (draw_ok hM) k11 (by rfl) (fun Ψ hΨ => ?_)
  have fli := f.li; have flc := f.lc; have flp := f.lp; have flk := f.lk; have flt := f.lt
  obtain ⟨ia, ic, rfl⟩ := row_shape x.im.ri
  obtain ⟨ja, jc, rfl⟩ := row_shape y.im.ri
  have o1 := Own.new h 26 h.length [.slice ia C.infos.length ic, vc, vt, vp, iv C.main, vk]
  have k1 : Keep (fun _ => False) h (h ++ [row 26 h.length [.slice ia C.infos.length ic, vc, vt, vp, iv C.main, vk]]) := Keep.push _ _ _
  simp only [mach, mach2, mstd, ↓reduceIte, Nat.reduceEqDiff, Nat.reduceAdd, Nat.reduceMul, r11, mbl, Nat.reduceLeDiff, Nat.reduceLT, Int.reduceEq]
  generalize hh1 : h ++ [row 26 h.length [.slice ia C.infos.length ic, vc, vt, vp, iv C.main, vk]] = h1 at o1 k1 ⊢
  have o2 := Own.new h1 26 h1.length [.slice ja C.infos.length jc, wc, wt, wp, iv C.main, wk]
  have k2 : Keep (fun _ => False) h1 (h1 ++ [row 26 h1.length [.slice ja C.infos.length jc, wc, wt, wp, iv C.main, wk]]) := Keep.push _ _ _
  generalize hh2 : h1 ++ [row 26 h1.length [.slice ja C.infos.length jc, wc, wt, wp, iv C.main, wk]] = h2 at o2 k2 ⊢
  have o1' := o1.keep k2 (fun e => e)
  have kk := k1.trans k2
  have x2 := x.keep kk (fun _ _ e => e)
  have y2 := y.keep kk (fun _ _ e => e)
  simp only [mach, mach2, mstd, ↓reduceIte, Nat.reduceEqDiff, Nat.reduceAdd, Nat.reduceMul, o1'.cells.ld, o2.cells.ld, mbl, Nat.reduceLeDiff, Nat.reduceLT, Int.reduceEq, ct1]
  refine XX_val (sameI_ok C.code h2 vc wc x2.im.rc y2.im.rc (by omega)) ?_
  simp only [mach, mach2, mstd, ↓reduceIte, Nat.reduceEqDiff, Nat.reduceAdd, Nat.reduceMul, o1'.cells.ld, o2.cells.ld, mbl, Nat.reduceLeDiff, Nat.reduceLT, Int.reduceEq, ct1]
  refine XX_val (sameT_ok ts h2 vt wt x2.rt y2.rt (by omega)) ?_
  simp only [mach, mach2, mstd, ↓reduceIte, Nat.reduceEqDiff, Nat.reduceAdd, Nat.reduceMul, o1'.cells.ld, o2.cells.ld, mbl, Nat.reduceLeDiff, Nat.reduceLT, Int.reduceEq, ct1]
  refine XX_val (sameI_ok C.tops h2 vp wp x2.im.rp y2.im.rp (by omega)) ?_
  simp only [mach, mach2, mstd, ↓reduceIte, Nat.reduceEqDiff, Nat.reduceAdd, Nat.reduceMul, o1'.cells.ld, o2.cells.ld, mbl, Nat.reduceLeDiff, Nat.reduceLT, Int.reduceEq, ct1]
  refine XX_val (sameI_ok C.cons h2 vk wk x2.im.rk y2.im.rk (by omega)) ?_
  simp only [mach, mach2, mstd, ↓reduceIte, Nat.reduceEqDiff, Nat.reduceAdd, Nat.reduceMul, mbl, Nat.reduceLeDiff, Nat.reduceLT, Int.reduceEq]
  refine XLo_rule (α := Nat) (fun i => [(2, .pointer (some ⟨h.length, 0, none⟩)), (3, .pointer (some ⟨h1.length, 0, none⟩)), (5, iv i)]) (fun i h' => h' = h2 /\ i <= C.infos.length) (fun i => C.infos.length - i) 0 ⟨rfl, Nat.zero_le _⟩ ⟨rfl, rfl, rfl, trivial⟩ ?_
  rintro i h3 Ψ2 ⟨rfl, hi⟩ next out
  by_cases hlt : (i : Int) < (C.infos.length : Int)
  · have hil : i < C.infos.length := by omega
    have g0 : (0 : Int) <= (i : Int) := by omega
    obtain ⟨⟨k, a, f', c⟩, hxi⟩ : ∃ x, C.infos[i]? = some x := ⟨_, List.getElem?_eq_getElem hil⟩
    obtain ⟨b1, p1, c1, e1, _, l1⟩ := rds_str (by omega) Inf.len x2.im.ri hxi
    obtain ⟨b2, p2, c2, e2, _, l2⟩ := rds_str (by omega) Inf.len y2.im.ri hxi
    simp only [Inf.cells, ns, List.map_cons, List.map_nil] at l1 l2
    cases e1; cases e2
    have hw : IntKind.i64.wrap ((i : Int) + 1) = ((i + 1 : Nat) : Int) := by rw [i64w (by omega) (by omega)]; omega
    have hce : ceq [0, 0, 0, 0] [iv k, iv a, iv f', iv c] [iv k, iv a, iv f', iv c] = some true := by simp [ceq]
    simp only [mach, mach2, mstd, ↓reduceIte, Nat.reduceEqDiff, Nat.reduceAdd, Nat.reduceMul, o1'.cells.ld, o2.cells.ld, mbl, Nat.reduceLeDiff, Nat.reduceLT, Int.reduceEq, hlt, g0, and_self, Int.toNat_natCast, l1, l2, hce, hw]
    exact next (i + 1) _ _ _ ⟨rfl, by omega⟩ ⟨rfl, rfl, rfl, trivial⟩ (by omega)
  · simp only [mach, mach2, mstd, ↓reduceIte, Nat.reduceEqDiff, Nat.reduceAdd, Nat.reduceMul, o1'.cells.ld, mbl, Nat.reduceLeDiff, Nat.reduceLT, Int.reduceEq, hlt]
    refine out (.exit 0) _ _ _ _ (by intro e; cases e) ?_
    simp only [mach, mach2, mstd, ↓reduceIte, Nat.reduceEqDiff, Nat.reduceAdd, Nat.reduceMul]
    exact hΨ _ _ (fin_ret (rv1 rfl ⟨kk, rfl⟩))
end
end Go.S17

namespace Go.S17
open Go Go.Eng Go.Proofs Go.Scn Go.Chk Go.Img
theorem blocks_info {C : Cx} {F : Nat} : ∀ {l : List Inf} {p : Nat} {x : List Nat × Nat}, blocks C F l p = some x -> ∀ i ∈ l, i.k = 1 \/ i.k = 2 /\ i.a = 0 := by
  intro l
  induction l with
  | nil => intro p x _ i hi; exact absurd hi (by simp)
  | cons y l ih =>
    intro p x h i hi
    unfold blocks at h
    split at h
    · rename_i hy
      split at h
      · split at h
        · rename_i e r hb
          rcases List.mem_cons.1 hi with rfl | hi
          · rcases hy.1 with hk | hk
            · exact .inr hk
            · exact .inl hk.1
          · exact ih hb i hi
        · cases h
      · cases h
    · cases h
theorem sound_facts {C : Cx} (h : (ends C).isSome = true) : C.infos ≠ [] /\ (∀ x ∈ C.infos, x.k = 1 \/ x.k = 2 /\ x.a = 0) /\ (List.range C.tops.length).map Int.ofNat = C.tops /\ C.tops.length <= C.infos.length := by
  unfold ends at h
  split at h
  · rename_i hc
    obtain ⟨⟨h1, h2, h3, h4⟩, _, ht⟩ := hc
    split at h
    · rename_i e r hb
      refine ⟨fun e => ?_, blocks_info hb, ?_, h3⟩
      · rw [e, List.length_nil] at h3; omega
      · apply List.ext_getElem?
        intro i
        by_cases hi : i < C.tops.length
        · rw [(ht i hi).1, List.getElem?_map, List.getElem?_range hi]; rfl
        · rw [List.getElem?_eq_none (by simp; omega), List.getElem?_eq_none (by omega)]
    · cases h
  · cases h
end Go.S17

namespace Go.S17
open Go Go.Eng Go.Proofs Go.Scn Go.Chk
def xT : XT := fun f args => if f = 28 then match args with
  | [.string s, .string sub] => if s.size < 4294967281 then some (.bool (hasT s.data.toList sub.data.toList)) else none
  | _ => none else none
set_option maxRecDepth 100000 in
theorem xT_ok : XOk Tryz.prog xT := by
  intro f args v he h
  unfold xT at he
  split at he
  · rename_i hf
    subst hf
    split at he
    · rename_i s sub
      split at he
      · rename_i hs
        cases he
        refine Holds.ofCalls (args := [.string s, .string sub]) (v := .bool (hasT s.data.toList sub.data.toList)) (fn := Tryz.prog.funcs[28]!) hP (by kernel_rfl) (c := (Tryz.prog.funcs[28]!).body.getD .skip) (by kernel_rfl) rfl rfl (fun W hT => ?_) h
        obtain ⟨m, hm⟩ := tab_int hT (g := 0) (by kernel_rfl)
        refine Calls.mono (Any.strings_Contains (P := Tryz.prog) { Tryz.laysContains with } s sub m W hs hm) fun e w' he => ?_
        obtain ⟨rfl, rfl⟩ := he
        rw [hasT_eq]
        exact ⟨rfl, ⟨rfl, rfl, rfl, Nat.le_refl _, fun i hi => rfl⟩⟩
      · cases he
    · cases he
  · cases he
set_option maxRecDepth 100000 in
theorem wakes_ok (h : AH) : Gets Tryz.prog 7 [] h (fun res h' => h' = h /\ res = .ret (.bool true)) :=
  closed_getsX (n := 100) (fuel := 1000) (keep := fun _ => false) xT_ok hP hM (by kernel_rfl) h
noncomputable def fsOf (t : TypeId) : Array Field := match Tryz.prog.underlying t with
  | some (.struct fs) => fs
  | _ => #[]
theorem u_img : Tryz.prog.underlying 26 = some (.struct (fsOf 26)) := by kernel_rfl
theorem u_inf : Tryz.prog.underlying 40 = some (.struct (fsOf 40)) := by kernel_rfl
theorem f_img : ((fsOf 26).map fun f => (f.type, f.offset)).toList = [(22, 0), (23, 1), (24, 2), (23, 3), (3, 4), (23, 5)] := by kernel_rfl
theorem f_inf : ((fsOf 40).map fun f => (f.type, f.offset)).toList = [(3, 0), (3, 1), (3, 2), (3, 3)] := by kernel_rfl
theorem u_infs : Tryz.prog.underlying 22 = some (.slice 40) := by kernel_rfl
theorem u_ints : Tryz.prog.underlying 23 = some (.slice 3) := by kernel_rfl
theorem u_strs : Tryz.prog.underlying 24 = some (.slice 9) := by kernel_rfl
theorem u_str : Tryz.prog.underlying 9 = some .string := by kernel_rfl
theorem u_int : Tryz.prog.underlying 3 = some (.int .i64) := by kernel_rfl
theorem c_img : Tryz.prog.cellsOf 26 = 6 := by kernel_rfl
theorem c_inf : Tryz.prog.cellsOf 40 = 4 := by kernel_rfl
theorem c_int : Tryz.prog.cellsOf 3 = 1 := by kernel_rfl
theorem c_infs : Tryz.prog.cellsOf 22 = 1 := by kernel_rfl
theorem c_ints : Tryz.prog.cellsOf 23 = 1 := by kernel_rfl
theorem c_strs : Tryz.prog.cellsOf 24 = 1 := by kernel_rfl
theorem len4 {α : Type} {l : List α} (h : l.length = 4) : ∃ a b c e, l = [a, b, c, e] := by
  match l, h with
  | [a, b, c, e], _ => exact ⟨a, b, c, e, rfl⟩
theorem len6 {α : Type} {l : List α} (h : l.length = 6) : ∃ a b c e f g, l = [a, b, c, e, f, g] := by
  match l, h with
  | [a, b, c, e, f, g], _ => exact ⟨a, b, c, e, f, g, rfl⟩
section
variable {H : Type} {h : AH} {N : Nat}
theorem ints_of (B : Bulk H) {v : Value} {d : DataW H} (hr : Rd' Tryz.prog h 23 [v] d) (hB : B.f d <= N) : ∃ ys : List Int, Rds h 1 v ys.length (ns ys) /\ (∀ y ∈ ys, rng y) /\ ys.length <= N := by
  obtain ⟨ys, a, b, c⟩ := rdRow B (f := fun x : Int => [iv x]) (Q := rng) u_ints (fun x => rfl) (fun cs d' r _ => by obtain ⟨w, e, g⟩ := rdI u_int r; exact ⟨w, e, g⟩) hr hB
  refine ⟨ys, ?_, b, c⟩
  have : ns ys = ys.flatMap fun x => [iv x] := by
    clear a b c
    induction ys with
    | nil => rfl
    | cons y ys ih => simp only [ns, List.map_cons, List.flatMap_cons] at ih ⊢; rw [ih]; rfl
  rw [this]; exact a
theorem inf_of (B : Bulk H) {cs : List Value} {d : DataW H} (hr : Rd' Tryz.prog h 40 cs d) : ∃ w : Inf, cs = ns w.cells /\ rng w.k /\ rng w.a /\ rng w.f /\ rng w.c := by
  obtain ⟨hl, hf⟩ := rdT B u_inf f_inf hr
  rw [c_inf] at hl
  obtain ⟨a, b, c, e, rfl⟩ := len4 hl
  obtain ⟨d0, r0, _⟩ := hf 0 _ _ rfl
  obtain ⟨d1, r1, _⟩ := hf 1 _ _ rfl
  obtain ⟨d2, r2, _⟩ := hf 2 _ _ rfl
  obtain ⟨d3, r3, _⟩ := hf 3 _ _ rfl
  rw [c_int] at r0 r1 r2 r3
  obtain ⟨n0, e0, g0⟩ := rdI u_int r0
  obtain ⟨n1, e1, g1⟩ := rdI u_int r1
  obtain ⟨n2, e2, g2⟩ := rdI u_int r2
  obtain ⟨n3, e3, g3⟩ := rdI u_int r3
  simp at e0 e1 e2 e3
  subst e0; subst e1; subst e2; subst e3
  exact ⟨⟨n0, n1, n2, n3⟩, rfl, g0, g1, g2, g3⟩
theorem infs_of (B : Bulk H) {v : Value} {d : DataW H} (hr : Rd' Tryz.prog h 22 [v] d) (hB : B.f d <= N) : ∃ ys : List Inf, Rds h 4 v ys.length (rowsOf Inf.cells ys) /\ (∀ w ∈ ys, rng w.k /\ rng w.a /\ rng w.f /\ rng w.c) /\ ys.length <= N :=
  rdRow B (f := fun x : Inf => ns x.cells) (Q := fun w => rng w.k /\ rng w.a /\ rng w.f /\ rng w.c) u_infs (fun x => rfl) (fun cs d' r _ => by obtain ⟨w, e, g⟩ := inf_of B r; exact ⟨w, e, g⟩) hr hB
end
section
variable {h : AH} {C : Cx} {ts : List Bs} {vi vc vt vp vk : Value}
end
end Go.S17

namespace Go.S17
open Go Go.Eng Go.Proofs Go.Scn Go.Chk Go.Img
def imgN : List Ln -> Nat
  | [] => 0
  | .image _ _ :: ls => imgN ls + 1
  | _ :: ls => imgN ls
theorem act_infos (D : LdD) (l : Ln) : (Ln.act D l).infos.length <= D.infos.length + 1 := by cases l <;> simp [Ln.act]
theorem act_ts (D : LdD) (l : Ln) : (Ln.act D l).ts.length <= D.ts.length + 1 := by cases l <;> simp [Ln.act]
theorem acc_le (n : Nat) : ∀ (ls : List Ln), (∀ l ∈ ls, ∀ m k, l = .image m k -> k <= n) -> ∀ D : LdD, (ls.foldl Ln.act D).infos.length <= D.infos.length + ls.length /\ (ls.foldl Ln.act D).ts.length <= D.ts.length + ls.length /\ (ls.foldl Ln.act D).tops.length <= D.tops.length + imgN ls * n := by
  intro ls
  induction ls with
  | nil => intro _ D; simp [imgN]
  | cons l ls ih =>
    intro hk D
    obtain ⟨i1, i2, i3⟩ := ih (fun x hx => hk x (List.mem_cons_of_mem _ hx)) (Ln.act D l)
    have hl := hk l List.mem_cons_self
    have a1 := act_infos D l
    have a2 := act_ts D l
    have a3 : (Ln.act D l).tops.length + imgN ls * n <= D.tops.length + imgN (l :: ls) * n := by
      cases l with
      | image m k => have := hl m k rfl; simp only [Ln.act, imgN, List.length_append, List.length_map, List.length_range, Nat.add_mul]; omega
      | cons l => exact Nat.le_refl _
      | text t => exact Nat.le_refl _
      | fn a f c => exact Nat.le_refl _
      | thunk f c => exact Nat.le_refl _
      | code l => exact Nat.le_refl _
    rw [List.foldl_cons, List.length_cons]
    exact ⟨by omega, by omega, by omega⟩
end Go.S17
