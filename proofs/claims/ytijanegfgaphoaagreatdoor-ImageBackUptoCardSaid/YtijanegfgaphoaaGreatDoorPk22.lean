import Derived.Lib.AtoiAll
import Derived.Lib.ItoaMem
import Derived.Lib.ItoaNum
import Derived.Lib.IndexMore
import Derived.Shelf.Strconv.AtoiAll
import Derived.Shelf.Strings.Shaped
import Derived.Shelf.Strings.Cut
import Derived.Shelf.Small.Wraps
import Derived.Test.YtijanegfgaphoaaGreatDoorProg
import Derived.Test.YtijanegfgaphoaaGreatDoorPk21
import Derived.Test.YtijanegfgaphoaaGreatDoorPk14
import Derived.Lib.SmallJoins
set_option linter.unusedVariables false
set_option linter.unusedSimpArgs false
namespace Go.Img
open Go
theorem pu_app : ∀ (l r : List UInt8) (a : Nat), Lib.parseUint10 a (l ++ r) = match Lib.parseUint10 a l with
    | .ok b => Lib.parseUint10 b r
    | .syntax => .syntax
    | .range => .range := by
  intro l
  induction l with
  | nil => intro r a; simp [Lib.parseUint10]
  | cons c l ih =>
    intro r a
    rw [List.cons_append, Lib.parseUint10, Lib.parseUint10]
    split
    · split
      · rfl
      · split
        · rfl
        · exact ih r _
    · rfl
theorem dg_nat {k : Nat} (h : k < 10) : (UInt8.ofNat (48 + k)).toNat = 48 + k := by
  rw [UInt8.toNat_ofNat']; omega
theorem dec1 {m : Nat} (h : m < 10) : Lib.decDigits m = [UInt8.ofNat (48 + m)] := by rw [Lib.decDigits, dif_pos h]
theorem dec2 {m : Nat} (h : ¬ m < 10) : Lib.decDigits m = Lib.decDigits (m / 10) ++ [UInt8.ofNat (48 + m % 10)] := by rw [Lib.decDigits, dif_neg h]
theorem dec_dig (u : Nat) : ∀ c ∈ Lib.decDigits u, 48 <= c.toNat /\ c.toNat <= 57 := by
  induction u using Nat.strongRecOn with
  | _ u ih =>
    by_cases h : u < 10
    · rw [dec1 h]
      intro c hc
      rw [List.mem_singleton] at hc
      subst hc
      rw [dg_nat h]; omega
    · rw [dec2 h]
      intro c hc
      rcases List.mem_append.1 hc with hc | hc
      · exact ih (u / 10) (by omega) c hc
      · rw [List.mem_singleton] at hc
        subst hc
        rw [dg_nat (by omega)]; omega
theorem dec_ne (u : Nat) : Lib.decDigits u ≠ [] := by
  by_cases h : u < 10
  · rw [dec1 h]; simp
  · rw [dec2 h]; simp
theorem pu_dec (u : Nat) : u < 18446744073709551616 -> Lib.parseUint10 0 (Lib.decDigits u) = .ok u := by
  induction u using Nat.strongRecOn with
  | _ u ih =>
    intro hu
    by_cases h : u < 10
    · rw [dec1 h, Lib.parseUint10, dg_nat h, if_pos (by omega), if_neg (by omega), if_neg (by omega), Lib.parseUint10]
      congr 1; omega
    · rw [dec2 h, pu_app, ih (u / 10) (by omega) (by omega)]
      simp only
      rw [Lib.parseUint10, dg_nat (by omega), if_pos (by omega), if_neg (by omega), if_neg (by omega), Lib.parseUint10]
      congr 1; omega
theorem mag_dec {u : Nat} (h : u < 18446744073709551616) : Lib.parseMag (Lib.decDigits u) = .ok u := by
  rw [Lib.parseMag, if_neg (dec_ne u), pu_dec u h]
theorem atoi_itoa {n : Int} (h0 : -9223372036854775808 <= n) (h1 : n <= 9223372036854775807) : Lib.atoiAll (Lib.itoa n) = .ok n := by
  by_cases h : 0 <= n
  · obtain ⟨u, rfl⟩ := Int.eq_ofNat_of_zero_le h
    rw [Lib.itoa_nonneg]
    have hm := mag_dec (u := u) (by omega)
    have hd := dec_dig u
    cases hl : Lib.decDigits u with
    | nil => exact absurd hl (dec_ne u)
    | cons c r =>
      have hc := hd c (by rw [hl]; exact List.mem_cons_self)
      rw [hl] at hm
      have hc1 : ¬ c.toNat = 45 := by omega
      have hc2 : ¬ (c.toNat = 43 \/ c.toNat = 45) := by omega
      unfold Lib.atoiAll
      simp only [if_neg hc2]
      rw [hm]
      simp only [hc1, not_false_eq_true, true_and, false_and, if_false]
      rw [if_neg (by omega)]
  · obtain ⟨m, hm1, rfl⟩ : ∃ m : Nat, 1 <= m /\ n = -(m : Int) := ⟨n.natAbs, by omega, by omega⟩
    rw [Lib.itoa_neg m hm1]
    have hm := mag_dec (u := m) (by omega)
    have e45 : (45 : UInt8).toNat = 45 := rfl
    unfold Lib.atoiAll
    simp only [e45, or_true, if_true]
    rw [hm]
    simp only [not_true_eq_false, false_and, if_false, true_and, if_true]
    rw [if_neg (by omega)]
theorem itoa_bytes (n : Int) : ∀ c ∈ Lib.itoa n, c.toNat = 45 \/ (48 <= c.toNat /\ c.toNat <= 57) := by
  intro c hc
  unfold Lib.itoa at hc
  split at hc
  · rcases List.mem_cons.1 hc with rfl | hc
    · exact .inl rfl
    · exact .inr (dec_dig _ c hc)
  · exact .inr (dec_dig _ c hc)
theorem index_one {c : UInt8} : ∀ {a : List UInt8} (r : List UInt8), c ∉ a -> Lib.index (a ++ c :: r) [c] = a.length := by
  intro a
  induction a with
  | nil => intro r _; rw [List.nil_append, Lib.index, if_pos (by simp [List.isPrefixOf])]; rfl
  | cons b a ih =>
    intro r h
    have hb : ¬ c = b := fun e => h (by rw [e]; exact List.mem_cons_self)
    have ha : c ∉ a := fun e => h (List.mem_cons_of_mem _ e)
    rw [List.cons_append, Lib.index, if_neg (by simp [List.isPrefixOf, hb]), ih r ha, if_neg (by simp), List.length_cons]
    omega
theorem index_none {c : UInt8} : ∀ {l : List UInt8}, c ∉ l -> Lib.index l [c] = -1 := by
  intro l
  induction l with
  | nil => intro _; rfl
  | cons b l ih =>
    intro h
    have hb : ¬ c = b := fun e => h (by rw [e]; exact List.mem_cons_self)
    rw [Lib.index, if_neg (by simp [List.isPrefixOf, hb]), ih (fun e => h (List.mem_cons_of_mem _ e)), if_pos (by simp)]
theorem cut_at {c : UInt8} {a : List UInt8} (r : List UInt8) (h : c ∉ a) : Lib.cut (a ++ c :: r) [c] = (a, r, true) := by
  unfold Lib.cut
  rw [index_one r h, if_pos (by omega), Int.toNat_natCast, List.take_left, List.length_singleton]
  have : (a ++ c :: r).drop (a.length + 1) = r := by
    rw [show a ++ c :: r = (a ++ [c]) ++ r by simp, show a.length + 1 = (a ++ [c]).length by simp, List.drop_left]
  rw [this]
theorem cut_no {c : UInt8} {l : List UInt8} (h : c ∉ l) : Lib.cut l [c] = (l, [], false) := by
  unfold Lib.cut
  rw [index_none h, if_neg (by omega)]
end Go.Img

namespace Go.Proofs
open Go.Shelf
def Tryz.laysCut_ren : Go.Shelf.Ren := ⟨fun | 145 => 27 | 220 => 40 | 219 => 54 | 217 => 74 | 225 => 75 | 224 => 76 | 267 => 77 | 266 => 84 | 314 => 85 | n => n, fun | 9 => 9 | 4 => 4 | 59 => 63 | 3 => 3 | 5 => 5 | 46 => 121 | 146 => 132 | 51 => 131 | n => n, fun | 1 => 0 | n => n⟩
theorem Tryz.laysCut : Go.Proofs.LaysM.n145 Tryz.prog Tryz.laysCut_ren := {
  mixed := by kernel_rfl
  f145 := Tryz.func27.trans (congrArg some (by kernel_rfl))
  f217 := Tryz.func74.trans (congrArg some (by kernel_rfl))
  f219 := Tryz.func54.trans (congrArg some (by kernel_rfl))
  f220 := Tryz.func40.trans (congrArg some (by kernel_rfl))
  f224 := Tryz.func76.trans (congrArg some (by kernel_rfl))
  f225 := Tryz.func75.trans (congrArg some (by kernel_rfl))
  f266 := Tryz.func84.trans (congrArg some (by kernel_rfl))
  f267 := Tryz.func77.trans (congrArg some (by kernel_rfl))
  f314 := Tryz.func85.trans (congrArg some (by kernel_rfl))
  t3 := Tryz.underlying3
  a3 := Tryz.isAgg3
  z3 := Tryz.sizeOf3
  v3 := Tryz.zeroValue3
  t4 := Tryz.underlying4
  a4 := Tryz.isAgg4
  z4 := Tryz.sizeOf4
  v4 := Tryz.zeroValue4
  t5 := Tryz.underlying5
  a5 := Tryz.isAgg5
  z5 := Tryz.sizeOf5
  v5 := Tryz.zeroValue5
  t9 := Tryz.underlying9
  a9 := Tryz.isAgg9
  z9 := Tryz.sizeOf9
  v9 := Tryz.zeroValue9
  t46 := Tryz.underlying121
  a46 := Tryz.isAgg121
  z46 := Tryz.sizeOf121
  v46 := Tryz.zeroValue121
  t51 := Tryz.underlying131
  a51 := Tryz.isAgg131
  z51 := Tryz.sizeOf131
  v51 := Tryz.zeroValue131
  t59 := Tryz.underlying63
  a59 := Tryz.isAgg63
  z59 := Tryz.sizeOf63
  v59 := Tryz.zeroValue63
  t146 := Tryz.underlying132
  a146 := Tryz.isAgg132
  z146 := Tryz.sizeOf132
  v146 := Tryz.zeroValue132
  g1 := by kernel_rfl
  i3 := by kernel_rfl
  i4 := by kernel_rfl
  i5 := by kernel_rfl
  i9 := by kernel_rfl
  i46 := by kernel_rfl
  i51 := by kernel_rfl
  i59 := by kernel_rfl
  i146 := by kernel_rfl
  m1 := by kernel_rfl
  s1_3 := fun w h => Go.Proofs.cell_of_shapedOpen_int (zero := #[.int .i64 0]) (t := 3) h (of_decide_eq_true (by kernel_rfl)) (by kernel_rfl) rfl (by kernel_rfl) (by kernel_rfl) Tryz.underlying3 }
def Tryz.laysAtoi_ren : Go.Shelf.Ren := ⟨fun | 172 => 114 | 244 => 115 | 245 => 116 | 247 => 117 | 279 => 118 | 280 => 119 | 281 => 120 | 282 => 121 | 287 => 122 | 316 => 123 | 171 => 36 | 205 => 124 | 321 => 125 | 322 => 126 | 243 => 52 | 246 => 73 | 283 => 80 | 284 => 81 | 285 => 82 | 286 => 83 | 129 => 88 | 317 => 87 | 318 => 89 | 319 => 90 | 320 => 91 | 337 => 93 | 338 => 94 | n => n, fun | 9 => 9 | 3 => 3 | 75 => 51 | 76 => 52 | 4 => 4 | 5 => 5 | 167 => 157 | 37 => 47 | 0 => 0 | 85 => 158 | 2 => 2 | 168 => 160 | 53 => 126 | 175 => 163 | 46 => 121 | 210 => 166 | 127 => 80 | 145 => 171 | 143 => 169 | 21 => 21 | 171 => 125 | 173 => 129 | 212 => 136 | 51 => 131 | 20 => 20 | 213 => 137 | 232 => 141 | 233 => 142 | 80 => 56 | n => n, fun | 15 => 4 | 16 => 5 | 17 => 1 | 18 => 2 | 19 => 3 | n => n⟩
theorem Tryz.laysAtoi : Go.Proofs.LaysC.n172 Tryz.prog Tryz.laysAtoi_ren := {
  mixed := by kernel_rfl
  f129 := Tryz.func88.trans (congrArg some (by kernel_rfl))
  f171 := Tryz.func36.trans (congrArg some (by kernel_rfl))
  f172 := Tryz.func114.trans (congrArg some (by kernel_rfl))
  f205 := Tryz.func124.trans (congrArg some (by kernel_rfl))
  f243 := Tryz.func52.trans (congrArg some (by kernel_rfl))
  f244 := Tryz.func115.trans (congrArg some (by kernel_rfl))
  f245 := Tryz.func116.trans (congrArg some (by kernel_rfl))
  f246 := Tryz.func73.trans (congrArg some (by kernel_rfl))
  f247 := Tryz.func117.trans (congrArg some (by kernel_rfl))
  f279 := Tryz.func118.trans (congrArg some (by kernel_rfl))
  f280 := Tryz.func119.trans (congrArg some (by kernel_rfl))
  f281 := Tryz.func120.trans (congrArg some (by kernel_rfl))
  f282 := Tryz.func121.trans (congrArg some (by kernel_rfl))
  f283 := Tryz.func80.trans (congrArg some (by kernel_rfl))
  f284 := Tryz.func81.trans (congrArg some (by kernel_rfl))
  f285 := Tryz.func82.trans (congrArg some (by kernel_rfl))
  f286 := Tryz.func83.trans (congrArg some (by kernel_rfl))
  f287 := Tryz.func122.trans (congrArg some (by kernel_rfl))
  f316 := Tryz.func123.trans (congrArg some (by kernel_rfl))
  f317 := Tryz.func87.trans (congrArg some (by kernel_rfl))
  f318 := Tryz.func89.trans (congrArg some (by kernel_rfl))
  f319 := Tryz.func90.trans (congrArg some (by kernel_rfl))
  f320 := Tryz.func91.trans (congrArg some (by kernel_rfl))
  f321 := Tryz.func125.trans (congrArg some (by kernel_rfl))
  f322 := Tryz.func126.trans (congrArg some (by kernel_rfl))
  f337 := Tryz.func93.trans (congrArg some (by kernel_rfl))
  f338 := Tryz.func94.trans (congrArg some (by kernel_rfl))
  t0 := Tryz.underlying0
  a0 := Tryz.isAgg0
  z0 := Tryz.sizeOf0
  v0 := Tryz.zeroValue0
  t2 := Tryz.underlying2
  a2 := Tryz.isAgg2
  z2 := Tryz.sizeOf2
  v2 := Tryz.zeroValue2
  t3 := Tryz.underlying3
  a3 := Tryz.isAgg3
  z3 := Tryz.sizeOf3
  v3 := Tryz.zeroValue3
  t4 := Tryz.underlying4
  a4 := Tryz.isAgg4
  z4 := Tryz.sizeOf4
  v4 := Tryz.zeroValue4
  t5 := Tryz.underlying5
  a5 := Tryz.isAgg5
  z5 := Tryz.sizeOf5
  v5 := Tryz.zeroValue5
  t9 := Tryz.underlying9
  a9 := Tryz.isAgg9
  z9 := Tryz.sizeOf9
  v9 := Tryz.zeroValue9
  t20 := Tryz.underlying20
  a20 := Tryz.isAgg20
  z20 := Tryz.sizeOf20
  v20 := Tryz.zeroValue20
  t21 := Tryz.underlying21
  a21 := Tryz.isAgg21
  z21 := Tryz.sizeOf21
  v21 := Tryz.zeroValue21
  t37 := Tryz.underlying47
  a37 := Tryz.isAgg47
  z37 := Tryz.sizeOf47
  v37 := Tryz.zeroValue47
  t46 := Tryz.underlying121
  a46 := Tryz.isAgg121
  z46 := Tryz.sizeOf121
  v46 := Tryz.zeroValue121
  t51 := Tryz.underlying131
  a51 := Tryz.isAgg131
  z51 := Tryz.sizeOf131
  v51 := Tryz.zeroValue131
  t53 := Tryz.underlying126
  a53 := Tryz.isAgg126
  z53 := Tryz.sizeOf126
  v53 := Tryz.zeroValue126
  t75 := Tryz.underlying51
  a75 := Tryz.isAgg51
  z75 := Tryz.sizeOf51
  v75 := Tryz.zeroValue51
  t76 := Tryz.underlying52
  a76 := Tryz.isAgg52
  z76 := Tryz.sizeOf52
  v76 := Tryz.zeroValue52
  t85 := Tryz.underlying158
  a85 := Tryz.isAgg158
  z85 := Tryz.sizeOf158
  v85 := Tryz.zeroValue158
  t127 := Tryz.underlying80
  a127 := Tryz.isAgg80
  z127 := Tryz.sizeOf80
  v127 := Tryz.zeroValue80
  t143 := Tryz.underlying169
  a143 := Tryz.isAgg169
  z143 := Tryz.sizeOf169
  v143 := Tryz.zeroValue169
  t145 := Tryz.underlying171
  a145 := Tryz.isAgg171
  z145 := Tryz.sizeOf171
  v145 := Tryz.zeroValue171
  t167 := Tryz.underlying157
  a167 := Tryz.isAgg157
  z167 := Tryz.sizeOf157
  v167 := Tryz.zeroValue157
  t168 := Tryz.underlying160
  a168 := Tryz.isAgg160
  z168 := Tryz.sizeOf160
  v168 := Tryz.zeroValue160
  t171 := Tryz.underlying125
  a171 := Tryz.isAgg125
  z171 := Tryz.sizeOf125
  v171 := Tryz.zeroValue125
  t173 := Tryz.underlying129
  a173 := Tryz.isAgg129
  z173 := Tryz.sizeOf129
  v173 := Tryz.zeroValue129
  t175 := Tryz.underlying163
  a175 := Tryz.isAgg163
  z175 := Tryz.sizeOf163
  v175 := Tryz.zeroValue163
  t210 := Tryz.underlying166
  a210 := Tryz.isAgg166
  z210 := Tryz.sizeOf166
  v210 := Tryz.zeroValue166
  t212 := Tryz.underlying136
  a212 := Tryz.isAgg136
  z212 := Tryz.sizeOf136
  v212 := Tryz.zeroValue136
  t213 := Tryz.underlying137
  a213 := Tryz.isAgg137
  z213 := Tryz.sizeOf137
  t232 := Tryz.underlying141
  a232 := Tryz.isAgg141
  z232 := Tryz.sizeOf141
  v232 := Tryz.zeroValue141
  t233 := Tryz.underlying142
  a233 := Tryz.isAgg142
  z233 := Tryz.sizeOf142
  v233 := Tryz.zeroValue142
  g15 := by kernel_rfl
  g16 := by kernel_rfl
  g17 := by kernel_rfl
  g18 := by kernel_rfl
  g19 := by kernel_rfl
  t80 := Tryz.underlying56
  a80 := Tryz.isAgg56
  z80 := Tryz.sizeOf56
  v80 := Tryz.zeroValue56
  i0 := by kernel_rfl
  i2 := by kernel_rfl
  i3 := by kernel_rfl
  i4 := by kernel_rfl
  i5 := by kernel_rfl
  i9 := by kernel_rfl
  i20 := by kernel_rfl
  i21 := by kernel_rfl
  i37 := by kernel_rfl
  i46 := by kernel_rfl
  i51 := by kernel_rfl
  i53 := by kernel_rfl
  i75 := by kernel_rfl
  i76 := by kernel_rfl
  i80 := by kernel_rfl
  i85 := by kernel_rfl
  i127 := by kernel_rfl
  i143 := by kernel_rfl
  i145 := by kernel_rfl
  i167 := by kernel_rfl
  i168 := by kernel_rfl
  i171 := by kernel_rfl
  i173 := by kernel_rfl
  i175 := by kernel_rfl
  i210 := by kernel_rfl
  i212 := by kernel_rfl
  i232 := by kernel_rfl
  i233 := by kernel_rfl
  m15 := by kernel_rfl
  m16 := by kernel_rfl
  m17 := by kernel_rfl
  m18 := by kernel_rfl
  m19 := by kernel_rfl
  c0 := by kernel_rfl
  c2 := by kernel_rfl
  c3 := by kernel_rfl
  c4 := by kernel_rfl
  c5 := by kernel_rfl
  c9 := by kernel_rfl
  c20 := by kernel_rfl
  c21 := by kernel_rfl
  c37 := by kernel_rfl
  c46 := by kernel_rfl
  c51 := by kernel_rfl
  c53 := by kernel_rfl
  c75 := by kernel_rfl
  c76 := by kernel_rfl
  c80 := by kernel_rfl
  c85 := by kernel_rfl
  c127 := by kernel_rfl
  c143 := by kernel_rfl
  c145 := by kernel_rfl
  c167 := by kernel_rfl
  c168 := by kernel_rfl
  c171 := by kernel_rfl
  c173 := by kernel_rfl
  c175 := by kernel_rfl
  c210 := by kernel_rfl
  c212 := by kernel_rfl
  c213 := by kernel_rfl
  c232 := by kernel_rfl
  c233 := by kernel_rfl }
def Tryz.laysCutPrefix_ren : Go.Shelf.Ren := ⟨fun | 103 => 131 | 210 => 133 | 206 => 135 | n => n, fun | 9 => 9 | 4 => 4 | 24 => 90 | 3 => 3 | n => n, fun | n => n⟩
theorem Tryz.laysCutPrefix : Go.Proofs.Lays.n103 Tryz.prog Tryz.laysCutPrefix_ren := {
  mixed := by kernel_rfl
  f103 := Tryz.func131.trans (congrArg some (by kernel_rfl))
  f206 := Tryz.func135.trans (congrArg some (by kernel_rfl))
  f210 := Tryz.func133.trans (congrArg some (by kernel_rfl))
  t3 := Tryz.underlying3
  a3 := Tryz.isAgg3
  z3 := Tryz.sizeOf3
  v3 := Tryz.zeroValue3
  t4 := Tryz.underlying4
  a4 := Tryz.isAgg4
  z4 := Tryz.sizeOf4
  v4 := Tryz.zeroValue4
  t9 := Tryz.underlying9
  a9 := Tryz.isAgg9
  z9 := Tryz.sizeOf9
  v9 := Tryz.zeroValue9
  t24 := Tryz.underlying90
  a24 := Tryz.isAgg90
  z24 := Tryz.sizeOf90
  v24 := Tryz.zeroValue90 }
end Go.Proofs

namespace Go.S17
open Go Go.Eng Go.Proofs Go.Scn Go.Chk Go.Img
set_option maxRecDepth 100000 in
theorem cut_ok (s sep : Bs) (hs : s.length < 4294967281) (h : AH) : Gets Tryz.prog 27 [tv s, tv sep] h (fun res h' => h' = h /\ res = .ret (.tuple #[tv (Lib.cut s sep).1, tv (Lib.cut s sep).2.1, .bool (Lib.cut s sep).2.2])) := by
  refine Gets.ofCalls (args := [tv s, tv sep]) (v := .tuple #[tv (Lib.cut s sep).1, tv (Lib.cut s sep).2.1, .bool (Lib.cut s sep).2.2]) (fn := Tryz.prog.funcs[27]!) hP (by kernel_rfl) (c := (Tryz.prog.funcs[27]!).body.getD .skip) (by kernel_rfl) rfl rfl (fun W hT => ?_) h
  obtain ⟨m, hm⟩ := tab_int hT (g := 0) (by kernel_rfl)
  refine Calls.mono (Any.strings_Cut (P := Tryz.prog) { Tryz.laysCut with } (tx s) (tx sep) m W (by rw [tx_size]; exact hs) hm) fun e w' he => ?_
  obtain ⟨rfl, n, rfl⟩ := he
  exact ⟨rfl, ⟨rfl, rfl, rfl, Nat.le_refl _, fun i hi => rfl⟩⟩
set_option maxRecDepth 100000 in
theorem atoi_ok (n : Int) (hn : rgI n) (h : AH) : Gets Tryz.prog 114 [tv (Lib.itoa n)] h (fun res h' => h' = h /\ res = .ret (.tuple #[iv n, .nilIface])) := by
  refine Gets.ofCalls (args := [tv (Lib.itoa n)]) (v := .tuple #[iv n, .nilIface]) (fn := Tryz.prog.funcs[114]!) hP (by kernel_rfl) (c := (Tryz.prog.funcs[114]!).body.getD .skip) (by kernel_rfl) rfl rfl (fun W hT => ?_) h
  have hl := itoa_len hn
  refine Calls.mono (Any.strconv_Atoi_ok (P := Tryz.prog) Tryz.laysAtoi (tx (Lib.itoa n)) (by rw [tx_size]; omega) n (atoi_itoa hn.1 hn.2) W) fun e w' he => ?_
  obtain ⟨rfl, hw⟩ := he
  refine ⟨rfl, ?_⟩
  rcases hw with rfl | ⟨t, rfl⟩
  · exact ⟨rfl, rfl, rfl, Nat.le_refl _, fun i hi => rfl⟩
  · exact Go.Joins.below_bytesWorld _ _ _ _ (Nat.le_refl _)
set_option maxRecDepth 100000 in
theorem cutPrefix_ok (s p : Bs) (h : AH) : Gets Tryz.prog 131 [tv s, tv p] h (fun res h' => h' = h /\ res = .ret (.tuple #[tv (Lib.trimPrefix s p), .bool (Lib.hasPrefix s p)])) := by
  refine Gets.ofCalls (args := [tv s, tv p]) (v := .tuple #[tv (Lib.trimPrefix s p), .bool (Lib.hasPrefix s p)]) (fn := Tryz.prog.funcs[131]!) hP (by kernel_rfl) (c := (Tryz.prog.funcs[131]!).body.getD .skip) (by kernel_rfl) rfl rfl (fun W hT => ?_) h
  refine Calls.mono (Any.strings_CutPrefix (P := Tryz.prog) Tryz.laysCutPrefix (tx s) (tx p) W) fun e w' he => ?_
  obtain ⟨rfl, rfl⟩ := he
  exact ⟨rfl, ⟨rfl, rfl, rfl, Nat.le_refl _, fun i hi => rfl⟩⟩
end Go.S17

namespace Go.S17
open Go Go.Eng Go.Proofs Go.Scn Go.Chk Go.Img
theorem sl_from {l : Bs} {p : Nat} (hp : p <= l.length) : slsv (.string (tx l)) (some (iv p)) none = some (.string (tx (l.drop p)), none) := by
  have h2 : (0 : Int) <= (p : Int) /\ (p : Int) <= (l.length : Int) := by omega
  simp only [slsv, bnd, tx_size, Option.bind_some, if_pos h2, Int.toNat_natCast, Option.map_some, tx_ext]
  rw [List.take_of_length_le (by omega)]
theorem no32 (n : Int) : (32 : UInt8) ∉ Lib.itoa n := fun h => by
  have := itoa_bytes n 32 h
  have e : (32 : UInt8).toNat = 32 := rfl
  omega
theorem cut_num (n : Int) (t : List Int) : ∃ more ok, Lib.cut (Lib.itoa n ++ t.flatMap num1) [32] = (Lib.itoa n, more, ok) /\ (ok = true -> t.flatMap num1 = 32 :: more) /\ (ok = false -> t.flatMap num1 = []) := by
  cases t with
  | nil => exact ⟨[], false, by rw [List.flatMap_nil, List.append_nil]; exact cut_no (no32 n), fun e => (by cases e), fun _ => rfl⟩
  | cons m t => exact ⟨Lib.itoa m ++ t.flatMap num1, true, cut_at _ (no32 n), fun _ => rfl, fun e => (by cases e)⟩
set_option maxHeartbeats 1000000 in
theorem parse_ok (l : List Int) (hr : ∀ n ∈ l, rgI n) (hl : l.length <= 2097152) (h : AH) :
    Gets Tryz.prog 113 [tv (l.flatMap num1)] h (fun res h' => Keep (fun _ => False) h h' /\ ∃ v, res = .ret (.tuple #[v, .bool true]) /\ Ows h' 3 1 v l.length (ns l) /\ ∀ q, bk v q -> h.length <= q) := by
  refine Gets.of (keep := false) hP (draw_ok hM) k113 (by rfl) (fun Ψ hΨ => ?_)
  simp only [mach, mach2, mstd, ↓reduceIte, Nat.reduceEqDiff, Nat.reduceAdd, Nat.reduceMul, r113]
  refine XLo_rule (α := Nat × Value) (fun a => [(0, tv ((l.drop a.1).flatMap num1)), (4, a.2)])
    (fun a h' => a.1 <= l.length /\ Keep (fun _ => False) h h' /\ Ows h' 3 1 a.2 a.1 (ns (l.take a.1)) /\ ∀ q, bk a.2 q -> h.length <= q) (fun a => l.length - a.1) (0, .slice none 0 0)
    ⟨Nat.zero_le _, .refl _ _, by simpa [ns] using (Ows.nil : Ows h 3 1 (.slice none 0 0) 0 []), fun q e => e.elim⟩ ⟨rfl, rfl, trivial⟩ ?_
  rintro ⟨i, v⟩ h1 Ψ2 ⟨hi, kp, ow, fr⟩ next out
  simp only at hi ow fr
  by_cases hil : i < l.length
  · have hd : l.drop i = l[i] :: l.drop (i + 1) := List.drop_eq_getElem_cons hil
    have hrest : (l.drop i).flatMap num1 = 32 :: (Lib.itoa l[i] ++ (l.drop (i + 1)).flatMap num1) := by rw [hd, List.flatMap_cons]; rfl
    have hrg := hr l[i] (List.getElem_mem _)
    have hlen := nums_len (l := l.drop (i + 1)) (fun n hn => hr n (List.mem_of_mem_drop hn))
    have hil21 := itoa_len hrg
    rw [List.length_drop] at hlen
    obtain ⟨more, ok, hcut, hok1, hok2⟩ := cut_num l[i] (l.drop (i + 1))
    have hne : ((32 :: (Lib.itoa l[i] ++ (l.drop (i + 1)).flatMap num1)) == ([] : Bs)) = false := rfl
    have hsl : slsv (.string (tx (32 :: (Lib.itoa l[i] ++ (l.drop (i + 1)).flatMap num1)))) (some (iv 1)) none = some (.string (tx (Lib.itoa l[i] ++ (l.drop (i + 1)).flatMap num1)), none) := sl_from (p := 1) (by simp)
    have g00 : (0 : Int) <= 0 := by omega
    have hx0 : (32 :: (Lib.itoa l[i] ++ (l.drop (i + 1)).flatMap num1))[Int.toNat 0]? = some 32 := rfl
    obtain ⟨s', h', a1, a2, a3, a4⟩ := app1 (bytes := 8) ow (xs := [iv l[i]]) rfl rfl (by omega) (by omega)
    obtain ⟨va, vc, rfl⟩ := row_shape ow.rds
    rw [hrest]
    simp only [mach, mach2, mstd, ↓reduceIte, Nat.reduceEqDiff, Nat.reduceAdd, Nat.reduceMul, tx_toList, mk_toList, hne, hsl]
    refine XX_val (cut_ok (Lib.itoa l[i] ++ (l.drop (i + 1)).flatMap num1) [32] (by rw [List.length_append]; omega) h1) ?_
    rw [hcut]
    simp only [mach, mach2, mstd, ↓reduceIte, Nat.reduceEqDiff, Nat.reduceAdd, Nat.reduceMul, mbl, Nat.reduceLeDiff, Nat.reduceLT, Int.reduceEq]
    refine XX_val (atoi_ok l[i] hrg h1) ?_
    simp only [mach, mach2, mstd, ↓reduceIte, Nat.reduceEqDiff, Nat.reduceAdd, Nat.reduceMul, mbl, Nat.reduceLeDiff, Nat.reduceLT, Int.reduceEq, tx_get, g00, hx0, show (32 : UInt8).toNat = 32 from rfl, show decide (((32 : Nat) : Int) = 32) = true from rfl, Bool.not_true, Bool.not_false]
    refine XX_val (itoa_ok l[i] hrg.1 hrg.2 h1) ?_
    simp only [mach, mach2, mstd, ↓reduceIte, Nat.reduceEqDiff, Nat.reduceAdd, Nat.reduceMul, beq_self_eq_true, Bool.not_true, mbl, Nat.reduceLeDiff, Nat.reduceLT, Int.reduceEq, a1]
    have hstep : Ows h' 3 1 s' (i + 1) (ns (l.take (i + 1))) := by
      have e : ns (l.take (i + 1)) = ns (l.take i) ++ [iv l[i]] := by unfold ns; rw [List.take_succ_eq_append_getElem hil, List.map_append]; rfl
      rw [e]; exact a2
    have hk := kp.trans' a3 (fun q hq e => by have := fr q e; omega)
    have hfr : ∀ q, bk s' q -> h.length <= q := fun q hq => by
      rcases a4 q hq with e | e
      · exact fr q e
      · have := kp.len; omega
    cases ok with
    | true =>
      have hs : sbin .add (⟨#[32]⟩ : ByteArray) (tx more) = some (tv ((l.drop (i + 1)).flatMap num1)) := by
        rw [hok1 rfl]
        have hm : (32 :: more).length <= 22 * (l.length - (i + 1)) := by rw [<- hok1 rfl]; exact hlen
        exact s_add (a := [32]) (b := more) (by simp only [List.length_cons, List.length_nil] at hm ⊢; omega)
      simp only [mach, mach2, mstd, ↓reduceIte, Nat.reduceEqDiff, Nat.reduceAdd, Nat.reduceMul, hs]
      exact next (i + 1, s') _ _ _ ⟨by simp only; omega, hk, hstep, hfr⟩ ⟨rfl, rfl, trivial⟩ (by simp only; omega)
    | false =>
      simp only [mach, mach2, mstd, ↓reduceIte, Nat.reduceEqDiff, Nat.reduceAdd, Nat.reduceMul]
      exact next (i + 1, s') _ _ _ ⟨by simp only; omega, hk, hstep, hfr⟩ ⟨by rw [hok2 rfl]; rfl, rfl, trivial⟩ (by simp only; omega)
  · have hie : i = l.length := by omega
    have hrest : (l.drop i).flatMap num1 = [] := by rw [hie, List.drop_length]; rfl
    rw [hrest]
    simp only [mach, mach2, mstd, ↓reduceIte, Nat.reduceEqDiff, Nat.reduceAdd, Nat.reduceMul, tx_toList, mk_toList, show (([] : Bs) == []) = true from rfl]
    refine out (.exit 0) _ _ _ _ (by intro e; cases e) ?_
    simp only [mach, mach2, mstd, ↓reduceIte, Nat.reduceEqDiff, Nat.reduceAdd, Nat.reduceMul]
    rw [hie, List.take_length] at ow
    exact hΨ _ _ (fin_ret (rv2 rfl rfl ⟨kp, v, rfl, ow, fr⟩))
end Go.S17

namespace Go.S17
open Go Go.Eng Go.Proofs Go.Scn Go.Chk Go.Img
theorem closed_run {P : Program} {f : FuncId} {args : List Value} {v : Value} {h1 : AH} {keep : FuncId -> Bool} {n fuel : Nat} {X : XT} (hX : XOk P X) (hP : noGoroutines P = true) (hm : P.follows .mixedOrders = true)
    (he : afunX P (adrawL P false) keep fuel X n f args [] none = some (.ret v, h1)) (ha : args.all (scal 8) = true) (hv : scal 8 v = true) (h : AH) : Gets P f args h (fun res h' => h' = h /\ res = .ret v) :=
  ⟨_, h, Holds.closed ((afunX_ok hP (fun F hF => adrawL_ok hm hF) hX n).holds he) hv ha h, Nat.le_refl _, rfl, rfl⟩
noncomputable def run0 (f : FuncId) (args : List Value) : Option (Res × AH) := afunX Tryz.prog (adrawL Tryz.prog false) (fun _ => false) 1000 (fun _ _ => none) 100 f args [] none
theorem run0_ok {f : FuncId} {args : List Value} {v : Value} {h1 : AH} (he : run0 f args = some (.ret v, h1)) (ha : args.all (scal 8) = true) (hv : scal 8 v = true) (h : AH) : Gets Tryz.prog f args h (fun res h' => h' = h /\ res = .ret v) :=
  closed_run (fun f args v e => by cases e) hP hM he ha hv h
theorem fst_inv {o : Option (Res × AH)} {r : Res} (h : o.map (·.1) = some r) : ∃ h1, o = some (r, h1) := by
  obtain ⟨⟨a, h1⟩, e1, e2⟩ := Option.map_eq_some_iff.1 h
  cases e2; exact ⟨h1, e1⟩
theorem run0_of {f : FuncId} {args : List Value} {v : Value} (he : (run0 f args).map (·.1) = some (.ret v)) (ha : args.all (scal 8) = true) (hv : scal 8 v = true) (h : AH) : Gets Tryz.prog f args h (fun res h' => h' = h /\ res = .ret v) := by
  obtain ⟨h1, e⟩ := fst_inv he
  exact run0_ok e ha hv h
def wImage : Bs := [105, 109, 97, 103, 101]
def wCons : Bs := [99, 111, 110, 115]
def wText : Bs := [116, 101, 120, 116]
def wFun : Bs := [102, 117, 110]
def wThunk : Bs := [116, 104, 117, 110, 107]
def wCode : Bs := [99, 111, 100, 101]
def mText : Bs := [116, 101, 120, 116, 32, 102, 117, 110, 32, 116, 104, 117, 110, 107]
def mInfo : Bs := [102, 117, 110, 32, 116, 104, 117, 110, 107, 32, 99, 111, 100, 101]
def rdImage : Value := .iface 83 (.agg #[])
def rdCons : Value := .iface 84 (.agg #[])
def rdText : Value := .iface 85 (.agg #[])
def rdFun : Value := .iface 87 (.agg #[iv 1, iv 3])
def rdThunk : Value := .iface 87 (.agg #[iv 2, iv 2])
def rdCode : Value := .iface 88 (.agg #[])
section
variable (h : AH)
theorem of_image : Gets Tryz.prog 29 [tv wImage] h (fun res h' => h' = h /\ res = .ret rdImage) := run0_of (by kernel_rfl) rfl rfl h
theorem of_cons : Gets Tryz.prog 29 [tv wCons] h (fun res h' => h' = h /\ res = .ret rdCons) := run0_of (by kernel_rfl) rfl rfl h
theorem of_text : Gets Tryz.prog 29 [tv wText] h (fun res h' => h' = h /\ res = .ret rdText) := run0_of (by kernel_rfl) rfl rfl h
theorem of_fun : Gets Tryz.prog 29 [tv wFun] h (fun res h' => h' = h /\ res = .ret rdFun) := run0_of (by kernel_rfl) rfl rfl h
theorem of_thunk : Gets Tryz.prog 29 [tv wThunk] h (fun res h' => h' = h /\ res = .ret rdThunk) := run0_of (by kernel_rfl) rfl rfl h
theorem of_code : Gets Tryz.prog 29 [tv wCode] h (fun res h' => h' = h /\ res = .ret rdCode) := run0_of (by kernel_rfl) rfl rfl h
theorem beh_image : Gets Tryz.prog 111 [.agg #[]] h (fun res h' => h' = h /\ res = .ret (tv wCons)) := run0_of (by kernel_rfl) rfl rfl h
theorem beh_cons : Gets Tryz.prog 127 [.agg #[]] h (fun res h' => h' = h /\ res = .ret (tv mText)) := run0_of (by kernel_rfl) rfl rfl h
theorem beh_text : Gets Tryz.prog 129 [.agg #[]] h (fun res h' => h' = h /\ res = .ret (tv mText)) := run0_of (by kernel_rfl) rfl rfl h
theorem beh_fun : Gets Tryz.prog 136 [.agg #[iv 1, iv 3]] h (fun res h' => h' = h /\ res = .ret (tv mInfo)) := run0_of (by kernel_rfl) rfl rfl h
theorem beh_thunk : Gets Tryz.prog 136 [.agg #[iv 2, iv 2]] h (fun res h' => h' = h /\ res = .ret (tv mInfo)) := run0_of (by kernel_rfl) rfl rfl h
theorem beh_code : Gets Tryz.prog 138 [.agg #[]] h (fun res h' => h' = h /\ res = .ret (tv [])) := run0_of (by kernel_rfl) rfl rfl h
end
theorem m_read : ∀ t v, v = rdImage /\ t = 83 \/ v = rdCons /\ t = 84 \/ v = rdText /\ t = 85 \/ (v = rdFun \/ v = rdThunk) /\ t = 87 \/ v = rdCode /\ t = 88 -> (methF Tryz.prog t "loiter/image.read").isSome = true := by
  rintro t v (⟨_, rfl⟩ | ⟨_, rfl⟩ | ⟨_, rfl⟩ | ⟨_, rfl⟩ | ⟨_, rfl⟩) <;> kernel_rfl
end Go.S17

namespace Go.S17
open Go Go.Eng Go.Proofs Go.Scn Go.Chk Go.Img
noncomputable def hexRun (c : Nat) : Bool := match run0 134 [tv [hxd.getD (c / 16) 0, hxd.getD (c % 16) 0], iv 16, iv 8] with
  | some (.ret (.tuple vs), _) => match vs.toList with
    | [.int .u64 n, .nilIface] => n == (c : Int)
    | _ => false
  | _ => false
end Go.S17

namespace Go.S17
open Go Go.Eng Go.Proofs Go.Scn Go.Chk Go.Img
theorem hex_0 : ((List.range 16).all fun k => hexRun (0 + k)) = true := by kernel_rfl
theorem hex_1 : ((List.range 16).all fun k => hexRun (16 + k)) = true := by kernel_rfl
theorem hex_7 : ((List.range 16).all fun k => hexRun (112 + k)) = true := by kernel_rfl
end Go.S17

namespace Go.S17
open Go Go.Eng Go.Proofs Go.Scn Go.Chk Go.Img
theorem hex_8 : ((List.range 16).all fun k => hexRun (128 + k)) = true := by kernel_rfl
theorem hex_9 : ((List.range 16).all fun k => hexRun (144 + k)) = true := by kernel_rfl
end Go.S17

namespace Go.S17
open Go Go.Eng Go.Proofs Go.Scn Go.Chk Go.Img
theorem hex_10 : ((List.range 16).all fun k => hexRun (160 + k)) = true := by kernel_rfl
theorem hex_11 : ((List.range 16).all fun k => hexRun (176 + k)) = true := by kernel_rfl
end Go.S17

namespace Go.S17
open Go Go.Eng Go.Proofs Go.Scn Go.Chk Go.Img
theorem hex_12 : ((List.range 16).all fun k => hexRun (192 + k)) = true := by kernel_rfl
theorem hex_13 : ((List.range 16).all fun k => hexRun (208 + k)) = true := by kernel_rfl
end Go.S17

namespace Go.S17
open Go Go.Eng Go.Proofs Go.Scn Go.Chk Go.Img
theorem hex_14 : ((List.range 16).all fun k => hexRun (224 + k)) = true := by kernel_rfl
theorem hex_15 : ((List.range 16).all fun k => hexRun (240 + k)) = true := by kernel_rfl
end Go.S17

namespace Go.S17
open Go Go.Eng Go.Proofs Go.Scn Go.Chk Go.Img
theorem hex_run {c : Nat} (hc : c < 32 \/ (112 <= c /\ c < 256)) : hexRun c = true := by
  have hk : c % 16 ∈ List.range 16 := List.mem_range.2 (by omega)
  have hj : c = 0 + c % 16 \/ c = 16 + c % 16 \/ c = 112 + c % 16 \/ c = 128 + c % 16 \/ c = 144 + c % 16 \/ c = 160 + c % 16 \/ c = 176 + c % 16 \/ c = 192 + c % 16 \/ c = 208 + c % 16 \/ c = 224 + c % 16 \/ c = 240 + c % 16 := by omega
  rcases hj with e | e | e | e | e | e | e | e | e | e | e
  · rw [e]; exact List.all_eq_true.1 hex_0 (c % 16) hk
  · rw [e]; exact List.all_eq_true.1 hex_1 (c % 16) hk
  · rw [e]; exact List.all_eq_true.1 hex_7 (c % 16) hk
  · rw [e]; exact List.all_eq_true.1 hex_8 (c % 16) hk
  · rw [e]; exact List.all_eq_true.1 hex_9 (c % 16) hk
  · rw [e]; exact List.all_eq_true.1 hex_10 (c % 16) hk
  · rw [e]; exact List.all_eq_true.1 hex_11 (c % 16) hk
  · rw [e]; exact List.all_eq_true.1 hex_12 (c % 16) hk
  · rw [e]; exact List.all_eq_true.1 hex_13 (c % 16) hk
  · rw [e]; exact List.all_eq_true.1 hex_14 (c % 16) hk
  · rw [e]; exact List.all_eq_true.1 hex_15 (c % 16) hk
theorem hex_ok {c : Nat} (hc : c < 32 \/ (112 <= c /\ c < 256)) (h : AH) : Gets Tryz.prog 134 [tv [hxd.getD (c / 16) 0, hxd.getD (c % 16) 0], iv 16, iv 8] h (fun res h' => h' = h /\ res = .ret (.tuple #[.int .u64 c, .nilIface])) := by
  have h1 := hex_run hc
  unfold hexRun at h1
  split at h1
  · rename_i vs h2 he
    split at h1
    · rename_i n hv
      have e : n = (c : Int) := by simpa using h1
      subst e
      have hvs : vs = #[.int .u64 c, .nilIface] := by apply Array.toList_inj.1; rw [hv]
      subst hvs
      exact run0_ok he rfl rfl h
    · cases h1
  · cases h1
end Go.S17

namespace Go.S17
open Go Go.Eng Go.Proofs Go.Scn Go.Chk Go.Img
def HexOk : Prop := ∀ {c : Nat}, (c < 32 \/ (112 <= c /\ c < 256)) -> ∀ h : AH, Gets Tryz.prog 134 [tv [hxd.getD (c / 16) 0, hxd.getD (c % 16) 0], iv 16, iv 8] h (fun res h' => h' = h /\ res = .ret (.tuple #[.int .u64 c, .nilIface]))
section
variable (h : AH) (r : Bs)
theorem e92 : ((((92 : UInt8).toNat : Nat) : Int) = 92) = True := eq_true rfl
theorem e120 : ((((120 : UInt8).toNat : Nat) : Int) = 120) = True := eq_true rfl
theorem e120a : ¬ ((((120 : UInt8).toNat : Nat) : Int) = 110) := by decide
theorem e120b : ¬ ((((120 : UInt8).toNat : Nat) : Int) = 116) := by decide
theorem unesc_one (c : UInt8) (hc : c.toNat ≠ 92) : Gets Tryz.prog 132 [tv (c :: r)] h (fun res h' => h' = h /\ res = .ret (.tuple #[bv c, iv 1])) := by
  refine Gets.of (keep := false) hP (draw_ok hM) k132 (by rfl) (fun Ψ hΨ => ?_)
  have g0 : (0 : Int) <= 0 := by omega
  have hx0 : (c :: r)[Int.toNat 0]? = some c := rfl
  have h92 : ¬ ((c.toNat : Int) = 92) := by omega
  simp only [mach, mach2, mstd, ↓reduceIte, Nat.reduceEqDiff, Nat.reduceAdd, Nat.reduceMul, r132, tx_get, g0, hx0, h92]
  exact hΨ _ _ (fin_ret (rv2 rfl rfl ⟨rfl, rfl⟩))
theorem unesc_two (x v : UInt8) (hr : r.length <= 10000000000000) (hx : x.toNat = 110 /\ v = 10 \/ x.toNat = 116 /\ v = 9 \/ x.toNat ≠ 110 /\ x.toNat ≠ 116 /\ x.toNat ≠ 120 /\ v = x) :
    Gets Tryz.prog 132 [tv (92 :: x :: r)] h (fun res h' => h' = h /\ res = .ret (.tuple #[bv v, iv 2])) := by
  refine Gets.of (keep := false) hP (draw_ok hM) k132 (by rfl) (fun Ψ hΨ => ?_)
  have g0 : (0 : Int) <= 0 := by omega
  have g1 : (0 : Int) <= 1 := by omega
  have hx0 : (92 :: x :: r)[Int.toNat 0]? = some 92 := rfl
  have hx1 : (92 :: x :: r)[Int.toNat 1]? = some x := rfl
  have hl : ¬ (((92 :: x :: r).length : Nat) : Int) < 2 := by simp only [List.length_cons]; omega
  rcases hx with ⟨h1, rfl⟩ | ⟨h1, rfl⟩ | ⟨h1, h2, h3, rfl⟩
  · have q1 : ((x.toNat : Int) = 110) = True := eq_true (by omega)
    simp only [mach, mach2, mstd, ↓reduceIte, Nat.reduceEqDiff, Nat.reduceAdd, Nat.reduceMul, r132, tx_get, tx_size, g0, g1, hx0, hx1, e92, hl, q1]
    exact hΨ _ _ (fin_ret (rv2 rfl rfl ⟨rfl, rfl⟩))
  · have q1 : ¬ ((x.toNat : Int) = 110) := by omega
    have q2 : ((x.toNat : Int) = 116) = True := eq_true (by omega)
    simp only [mach, mach2, mstd, ↓reduceIte, Nat.reduceEqDiff, Nat.reduceAdd, Nat.reduceMul, r132, tx_get, tx_size, g0, g1, hx0, hx1, e92, hl, q1, q2]
    exact hΨ _ _ (fin_ret (rv2 rfl rfl ⟨rfl, rfl⟩))
  · have q1 : ¬ ((v.toNat : Int) = 110) := by omega
    have q2 : ¬ ((v.toNat : Int) = 116) := by omega
    have q3 : ¬ ((v.toNat : Int) = 120) := by omega
    simp only [mach, mach2, mstd, ↓reduceIte, Nat.reduceEqDiff, Nat.reduceAdd, Nat.reduceMul, r132, tx_get, tx_size, g0, g1, hx0, hx1, e92, hl, q1, q2, q3]
    exact hΨ _ _ (fin_ret (rv2 rfl rfl ⟨rfl, rfl⟩))
theorem unesc_hex (hex : HexOk) {c : Nat} (hc : c < 32 \/ (112 <= c /\ c < 256)) (hr : r.length <= 10000000000000) :
    Gets Tryz.prog 132 [tv (92 :: 120 :: hxd.getD (c / 16) 0 :: hxd.getD (c % 16) 0 :: r)] h (fun res h' => h' = h /\ res = .ret (.tuple #[.int .u8 c, iv 4])) := by
  refine Gets.of (keep := false) hP (draw_ok hM) k132 (by rfl) (fun Ψ hΨ => ?_)
  have g0 : (0 : Int) <= 0 := by omega
  have g1 : (0 : Int) <= 1 := by omega
  generalize hd1 : hxd.getD (c / 16) 0 = d1
  generalize hd2 : hxd.getD (c % 16) 0 = d2
  have hx0 : (92 :: 120 :: d1 :: d2 :: r)[Int.toNat 0]? = some 92 := rfl
  have hx1 : (92 :: 120 :: d1 :: d2 :: r)[Int.toNat 1]? = some 120 := rfl
  have hl : ¬ (((92 :: 120 :: d1 :: d2 :: r).length : Nat) : Int) < 2 := by simp only [List.length_cons]; omega
  have hl4 : ¬ (((92 :: 120 :: d1 :: d2 :: r).length : Nat) : Int) < 4 := by simp only [List.length_cons]; omega
  have hsl : slsv (.string (tx (92 :: 120 :: d1 :: d2 :: r))) (some (iv 2)) (some (iv 4)) = some (.string (tx [d1, d2]), none) := sl_ft (l := 92 :: 120 :: d1 :: d2 :: r) (p := 2) (n := 4) (by omega) (by simp only [List.length_cons]; omega)
  have hh := hex hc h
  rw [hd1, hd2] at hh
  have hw : IntKind.u8.wrap (c : Int) = (c : Int) := u8w (by omega) (by omega)
  simp only [mach, mach2, mstd, ↓reduceIte, Nat.reduceEqDiff, Nat.reduceAdd, Nat.reduceMul, r132, tx_get, tx_size, g0, g1, hx0, hx1, e92, hl, e120, e120a, e120b, hl4, hsl]
  refine XX_val hh ?_
  simp only [mach, mach2, mstd, ↓reduceIte, Nat.reduceEqDiff, Nat.reduceAdd, Nat.reduceMul, mbl, Nat.reduceLeDiff, Nat.reduceLT, Int.reduceEq, hw]
  exact hΨ _ _ (fin_ret (rv2 rfl rfl ⟨rfl, rfl⟩))
end
theorem escB_cases (c : UInt8) : (escB c = [c] /\ c.toNat ≠ 92) \/ (∃ x, escB c = [92, x] /\ (x.toNat = 110 /\ c = 10 \/ x.toNat = 116 /\ c = 9 \/ x.toNat ≠ 110 /\ x.toNat ≠ 116 /\ x.toNat ≠ 120 /\ c = x)) \/
    (escB c = [92, 120, hxd.getD (c.toNat / 16) 0, hxd.getD (c.toNat % 16) 0] /\ (c.toNat < 32 \/ (112 <= c.toNat /\ c.toNat < 256))) := by
  have hlt : c.toNat < 256 := c.toNat_lt
  have he := escB_some c
  have hof : UInt8.ofNat c.toNat = c := by simp
  unfold escS at he
  rw [if_neg (by omega)] at he
  split at he
  · rename_i h1
    refine .inr (.inl ⟨110, (Option.some.inj he).symm, .inl ⟨rfl, ?_⟩⟩)
    rw [<- hof, show c.toNat = 10 by omega]; rfl
  · split at he
    · rename_i h1 h2
      refine .inr (.inl ⟨116, (Option.some.inj he).symm, .inr (.inl ⟨rfl, ?_⟩)⟩)
      rw [<- hof, show c.toNat = 9 by omega]; rfl
    · split at he
      · rename_i h1 h2 h3
        have e := (Option.some.inj he).symm
        rw [Int.toNat_natCast, hof] at e
        exact .inr (.inl ⟨c, e, .inr (.inr ⟨by omega, by omega, by omega, rfl⟩)⟩)
      · split at he
        · rename_i h1 h2 h3 h4
          have e := (Option.some.inj he).symm
          rw [Int.toNat_natCast, hof] at e
          exact .inl ⟨e, by omega⟩
        · rename_i h1 h2 h3 h4
          have e := (Option.some.inj he).symm
          rw [Int.toNat_natCast] at e
          exact .inr (.inr ⟨e, by omega⟩)
theorem unesc_ok (hex : HexOk) (c : UInt8) (r : Bs) (hr : r.length <= 10000000000000) (h : AH) : Gets Tryz.prog 132 [tv (escB c ++ r)] h (fun res h' => h' = h /\ res = .ret (.tuple #[bv c, iv (escB c).length])) := by
  rcases escB_cases c with ⟨e, h1⟩ | ⟨x, e, hx⟩ | ⟨e, h1⟩
  · rw [e]; exact unesc_one h r c h1
  · rw [e]; exact unesc_two h r x c hr hx
  · rw [e]; exact unesc_hex h r hex h1 hr
end Go.S17

namespace Go.S17
open Go Go.Eng Go.Proofs Go.Scn Go.Chk Go.Img
def Ap (x y : Value) : Prop := ∀ q, bk x q -> bk y q -> False
structure LdD where
  infos : List Inf
  code : List Int
  ts : List Bs
  tops : List Int
  main : Int
  cons : List Int
structure Ld (h0 : AH) (n : Nat) (D : LdD) (vi vc vt vp vk : Value) (h : AH) : Prop where
  kp : Keep (fun _ => False) h0 h
  o0 : Own h h0.length 26 [.slice none 0 0, .slice none 0 0, .slice none 0 0, .slice none 0 0, iv 0, .slice none 0 0]
  own : Own h (h0.length + 1) 62 [vi, vc, vt, vp, iv D.main, vk, iv n]
  oi : Ows h 40 4 vi D.infos.length (rowsOf Inf.cells D.infos)
  oc : Ows h 3 1 vc D.code.length (ns D.code)
  ot : Ows h 9 1 vt D.ts.length (D.ts.map tv)
  op : Ows h 3 1 vp D.tops.length (ns D.tops)
  ok : Ows h 3 1 vk D.cons.length (ns D.cons)
  li : ∀ q, bk vi q -> h0.length + 1 < q
  lc : ∀ q, bk vc q -> h0.length + 1 < q
  lt : ∀ q, bk vt q -> h0.length + 1 < q
  lp : ∀ q, bk vp q -> h0.length + 1 < q
  lk : ∀ q, bk vk q -> h0.length + 1 < q
  aic : Ap vi vc
  ait : Ap vi vt
  aip : Ap vi vp
  aik : Ap vi vk
  act : Ap vc vt
  acp : Ap vc vp
  ack : Ap vc vk
  atp : Ap vt vp
  atk : Ap vt vk
  apk : Ap vp vk
section
variable {h0 h h2 : AH} {n : Nat} {D : LdD} {vi vc vt vp vk s' : Value}
theorem Ld.grow (x : Ld h0 n D vi vc vt vp vk h) (k : Keep (fun _ => False) h h2) : Ld h0 n D vi vc vt vp vk h2 :=
  { x with kp := x.kp.trans k, o0 := x.o0.keep k (fun e => e), own := x.own.keep k (fun e => e), oi := x.oi.keep k (fun _ _ e => e), oc := x.oc.keep k (fun _ _ e => e), ot := x.ot.keep k (fun _ _ e => e), op := x.op.keep k (fun _ _ e => e), ok := x.ok.keep k (fun _ _ e => e) }
theorem Ld.seti (x : Ld h0 n D vi vc vt vp vk h) (l : List Inf) (k : Keep (fun q => q = h0.length + 1 \/ bk vi q) h h2) (own : Own h2 (h0.length + 1) 62 [s', vc, vt, vp, iv D.main, vk, iv n]) (o : Ows h2 40 4 s' l.length (rowsOf Inf.cells l))
    (f : ∀ q, bk s' q -> bk vi q \/ h.length <= q) : Ld h0 n { D with infos := l } s' vc vt vp vk h2 := by
  have hl := x.own.lt
  have li := x.li
  have lc := x.lc
  have lt := x.lt
  have lp := x.lp
  have lk := x.lk
  have nc : ∀ q, bk vc q -> ¬ (q = h0.length + 1 \/ bk vi q) := fun q e1 e => by
    rcases e with e2 | e2
    · have := lc q e1; omega
    · exact x.aic q e2 e1
  have mc : ∀ q, bk vc q -> q < h.length := x.oc.lt
  have nt : ∀ q, bk vt q -> ¬ (q = h0.length + 1 \/ bk vi q) := fun q e1 e => by
    rcases e with e2 | e2
    · have := lt q e1; omega
    · exact x.ait q e2 e1
  have mt : ∀ q, bk vt q -> q < h.length := x.ot.lt
  have np : ∀ q, bk vp q -> ¬ (q = h0.length + 1 \/ bk vi q) := fun q e1 e => by
    rcases e with e2 | e2
    · have := lp q e1; omega
    · exact x.aip q e2 e1
  have mp : ∀ q, bk vp q -> q < h.length := x.op.lt
  have nk : ∀ q, bk vk q -> ¬ (q = h0.length + 1 \/ bk vi q) := fun q e1 e => by
    rcases e with e2 | e2
    · have := lk q e1; omega
    · exact x.aik q e2 e1
  have mk : ∀ q, bk vk q -> q < h.length := x.ok.lt
  exact { kp := x.kp.trans' k (fun c hc e => by rcases e with e | e; omega; have := li c e; omega)
          o0 := x.o0.keep k (fun e => by rcases e with e | e; omega; have := li _ e; omega)
          own := own
          oi := o
          oc := x.oc.keep k nc
          ot := x.ot.keep k nt
          op := x.op.keep k np
          ok := x.ok.keep k nk
          li := fun q e => by rcases f q e with e | e; exact li q e; omega
          lc := lc
          lt := lt
          lp := lp
          lk := lk
          aic := fun q e1 e2 => by rcases f q e1 with e | e; exact x.aic q e e2; have := mc q e2; omega
          ait := fun q e1 e2 => by rcases f q e1 with e | e; exact x.ait q e e2; have := mt q e2; omega
          aip := fun q e1 e2 => by rcases f q e1 with e | e; exact x.aip q e e2; have := mp q e2; omega
          aik := fun q e1 e2 => by rcases f q e1 with e | e; exact x.aik q e e2; have := mk q e2; omega
          act := x.act
          acp := x.acp
          ack := x.ack
          atp := x.atp
          atk := x.atk
          apk := x.apk }
theorem Ld.setc (x : Ld h0 n D vi vc vt vp vk h) (l : List Int) (k : Keep (fun q => q = h0.length + 1 \/ bk vc q) h h2) (own : Own h2 (h0.length + 1) 62 [vi, s', vt, vp, iv D.main, vk, iv n]) (o : Ows h2 3 1 s' l.length (ns l))
    (f : ∀ q, bk s' q -> bk vc q \/ h.length <= q) : Ld h0 n { D with code := l } vi s' vt vp vk h2 := by
  have hl := x.own.lt
  have li := x.li
  have lc := x.lc
  have lt := x.lt
  have lp := x.lp
  have lk := x.lk
  have ni : ∀ q, bk vi q -> ¬ (q = h0.length + 1 \/ bk vc q) := fun q e1 e => by
    rcases e with e2 | e2
    · have := li q e1; omega
    · exact x.aic q e1 e2
  have mi : ∀ q, bk vi q -> q < h.length := x.oi.lt
  have nt : ∀ q, bk vt q -> ¬ (q = h0.length + 1 \/ bk vc q) := fun q e1 e => by
    rcases e with e2 | e2
    · have := lt q e1; omega
    · exact x.act q e2 e1
  have mt : ∀ q, bk vt q -> q < h.length := x.ot.lt
  have np : ∀ q, bk vp q -> ¬ (q = h0.length + 1 \/ bk vc q) := fun q e1 e => by
    rcases e with e2 | e2
    · have := lp q e1; omega
    · exact x.acp q e2 e1
  have mp : ∀ q, bk vp q -> q < h.length := x.op.lt
  have nk : ∀ q, bk vk q -> ¬ (q = h0.length + 1 \/ bk vc q) := fun q e1 e => by
    rcases e with e2 | e2
    · have := lk q e1; omega
    · exact x.ack q e2 e1
  have mk : ∀ q, bk vk q -> q < h.length := x.ok.lt
  exact { kp := x.kp.trans' k (fun c hc e => by rcases e with e | e; omega; have := lc c e; omega)
          o0 := x.o0.keep k (fun e => by rcases e with e | e; omega; have := lc _ e; omega)
          own := own
          oi := x.oi.keep k ni
          oc := o
          ot := x.ot.keep k nt
          op := x.op.keep k np
          ok := x.ok.keep k nk
          li := li
          lc := fun q e => by rcases f q e with e | e; exact lc q e; omega
          lt := lt
          lp := lp
          lk := lk
          aic := fun q e1 e2 => by rcases f q e2 with e | e; exact x.aic q e1 e; have := mi q e1; omega
          ait := x.ait
          aip := x.aip
          aik := x.aik
          act := fun q e1 e2 => by rcases f q e1 with e | e; exact x.act q e e2; have := mt q e2; omega
          acp := fun q e1 e2 => by rcases f q e1 with e | e; exact x.acp q e e2; have := mp q e2; omega
          ack := fun q e1 e2 => by rcases f q e1 with e | e; exact x.ack q e e2; have := mk q e2; omega
          atp := x.atp
          atk := x.atk
          apk := x.apk }
theorem Ld.sett (x : Ld h0 n D vi vc vt vp vk h) (l : List Bs) (k : Keep (fun q => q = h0.length + 1 \/ bk vt q) h h2) (own : Own h2 (h0.length + 1) 62 [vi, vc, s', vp, iv D.main, vk, iv n]) (o : Ows h2 9 1 s' l.length (l.map tv))
    (f : ∀ q, bk s' q -> bk vt q \/ h.length <= q) : Ld h0 n { D with ts := l } vi vc s' vp vk h2 := by
  have hl := x.own.lt
  have li := x.li
  have lc := x.lc
  have lt := x.lt
  have lp := x.lp
  have lk := x.lk
  have ni : ∀ q, bk vi q -> ¬ (q = h0.length + 1 \/ bk vt q) := fun q e1 e => by
    rcases e with e2 | e2
    · have := li q e1; omega
    · exact x.ait q e1 e2
  have mi : ∀ q, bk vi q -> q < h.length := x.oi.lt
  have nc : ∀ q, bk vc q -> ¬ (q = h0.length + 1 \/ bk vt q) := fun q e1 e => by
    rcases e with e2 | e2
    · have := lc q e1; omega
    · exact x.act q e1 e2
  have mc : ∀ q, bk vc q -> q < h.length := x.oc.lt
  have np : ∀ q, bk vp q -> ¬ (q = h0.length + 1 \/ bk vt q) := fun q e1 e => by
    rcases e with e2 | e2
    · have := lp q e1; omega
    · exact x.atp q e2 e1
  have mp : ∀ q, bk vp q -> q < h.length := x.op.lt
  have nk : ∀ q, bk vk q -> ¬ (q = h0.length + 1 \/ bk vt q) := fun q e1 e => by
    rcases e with e2 | e2
    · have := lk q e1; omega
    · exact x.atk q e2 e1
  have mk : ∀ q, bk vk q -> q < h.length := x.ok.lt
  exact { kp := x.kp.trans' k (fun c hc e => by rcases e with e | e; omega; have := lt c e; omega)
          o0 := x.o0.keep k (fun e => by rcases e with e | e; omega; have := lt _ e; omega)
          own := own
          oi := x.oi.keep k ni
          oc := x.oc.keep k nc
          ot := o
          op := x.op.keep k np
          ok := x.ok.keep k nk
          li := li
          lc := lc
          lt := fun q e => by rcases f q e with e | e; exact lt q e; omega
          lp := lp
          lk := lk
          aic := x.aic
          ait := fun q e1 e2 => by rcases f q e2 with e | e; exact x.ait q e1 e; have := mi q e1; omega
          aip := x.aip
          aik := x.aik
          act := fun q e1 e2 => by rcases f q e2 with e | e; exact x.act q e1 e; have := mc q e1; omega
          acp := x.acp
          ack := x.ack
          atp := fun q e1 e2 => by rcases f q e1 with e | e; exact x.atp q e e2; have := mp q e2; omega
          atk := fun q e1 e2 => by rcases f q e1 with e | e; exact x.atk q e e2; have := mk q e2; omega
          apk := x.apk }
theorem Ld.setp (x : Ld h0 n D vi vc vt vp vk h) (l : List Int) (k : Keep (fun q => q = h0.length + 1 \/ bk vp q) h h2) (own : Own h2 (h0.length + 1) 62 [vi, vc, vt, s', iv D.main, vk, iv n]) (o : Ows h2 3 1 s' l.length (ns l))
    (f : ∀ q, bk s' q -> bk vp q \/ h.length <= q) : Ld h0 n { D with tops := l } vi vc vt s' vk h2 := by
  have hl := x.own.lt
  have li := x.li
  have lc := x.lc
  have lt := x.lt
  have lp := x.lp
  have lk := x.lk
  have ni : ∀ q, bk vi q -> ¬ (q = h0.length + 1 \/ bk vp q) := fun q e1 e => by
    rcases e with e2 | e2
    · have := li q e1; omega
    · exact x.aip q e1 e2
  have mi : ∀ q, bk vi q -> q < h.length := x.oi.lt
  have nc : ∀ q, bk vc q -> ¬ (q = h0.length + 1 \/ bk vp q) := fun q e1 e => by
    rcases e with e2 | e2
    · have := lc q e1; omega
    · exact x.acp q e1 e2
  have mc : ∀ q, bk vc q -> q < h.length := x.oc.lt
  have nt : ∀ q, bk vt q -> ¬ (q = h0.length + 1 \/ bk vp q) := fun q e1 e => by
    rcases e with e2 | e2
    · have := lt q e1; omega
    · exact x.atp q e1 e2
  have mt : ∀ q, bk vt q -> q < h.length := x.ot.lt
  have nk : ∀ q, bk vk q -> ¬ (q = h0.length + 1 \/ bk vp q) := fun q e1 e => by
    rcases e with e2 | e2
    · have := lk q e1; omega
    · exact x.apk q e2 e1
  have mk : ∀ q, bk vk q -> q < h.length := x.ok.lt
  exact { kp := x.kp.trans' k (fun c hc e => by rcases e with e | e; omega; have := lp c e; omega)
          o0 := x.o0.keep k (fun e => by rcases e with e | e; omega; have := lp _ e; omega)
          own := own
          oi := x.oi.keep k ni
          oc := x.oc.keep k nc
          ot := x.ot.keep k nt
          op := o
          ok := x.ok.keep k nk
          li := li
          lc := lc
          lt := lt
          lp := fun q e => by rcases f q e with e | e; exact lp q e; omega
          lk := lk
          aic := x.aic
          ait := x.ait
          aip := fun q e1 e2 => by rcases f q e2 with e | e; exact x.aip q e1 e; have := mi q e1; omega
          aik := x.aik
          act := x.act
          acp := fun q e1 e2 => by rcases f q e2 with e | e; exact x.acp q e1 e; have := mc q e1; omega
          ack := x.ack
          atp := fun q e1 e2 => by rcases f q e2 with e | e; exact x.atp q e1 e; have := mt q e1; omega
          atk := x.atk
          apk := fun q e1 e2 => by rcases f q e1 with e | e; exact x.apk q e e2; have := mk q e2; omega }
theorem Ld.setk (x : Ld h0 n D vi vc vt vp vk h) (l : List Int) (k : Keep (fun q => q = h0.length + 1 \/ bk vk q) h h2) (own : Own h2 (h0.length + 1) 62 [vi, vc, vt, vp, iv D.main, s', iv n]) (o : Ows h2 3 1 s' l.length (ns l))
    (f : ∀ q, bk s' q -> bk vk q \/ h.length <= q) : Ld h0 n { D with cons := l } vi vc vt vp s' h2 := by
  have hl := x.own.lt
  have li := x.li
  have lc := x.lc
  have lt := x.lt
  have lp := x.lp
  have lk := x.lk
  have ni : ∀ q, bk vi q -> ¬ (q = h0.length + 1 \/ bk vk q) := fun q e1 e => by
    rcases e with e2 | e2
    · have := li q e1; omega
    · exact x.aik q e1 e2
  have mi : ∀ q, bk vi q -> q < h.length := x.oi.lt
  have nc : ∀ q, bk vc q -> ¬ (q = h0.length + 1 \/ bk vk q) := fun q e1 e => by
    rcases e with e2 | e2
    · have := lc q e1; omega
    · exact x.ack q e1 e2
  have mc : ∀ q, bk vc q -> q < h.length := x.oc.lt
  have nt : ∀ q, bk vt q -> ¬ (q = h0.length + 1 \/ bk vk q) := fun q e1 e => by
    rcases e with e2 | e2
    · have := lt q e1; omega
    · exact x.atk q e1 e2
  have mt : ∀ q, bk vt q -> q < h.length := x.ot.lt
  have np : ∀ q, bk vp q -> ¬ (q = h0.length + 1 \/ bk vk q) := fun q e1 e => by
    rcases e with e2 | e2
    · have := lp q e1; omega
    · exact x.apk q e1 e2
  have mp : ∀ q, bk vp q -> q < h.length := x.op.lt
  exact { kp := x.kp.trans' k (fun c hc e => by rcases e with e | e; omega; have := lk c e; omega)
          o0 := x.o0.keep k (fun e => by rcases e with e | e; omega; have := lk _ e; omega)
          own := own
          oi := x.oi.keep k ni
          oc := x.oc.keep k nc
          ot := x.ot.keep k nt
          op := x.op.keep k np
          ok := o
          li := li
          lc := lc
          lt := lt
          lp := lp
          lk := fun q e => by rcases f q e with e | e; exact lk q e; omega
          aic := x.aic
          ait := x.ait
          aip := x.aip
          aik := fun q e1 e2 => by rcases f q e2 with e | e; exact x.aik q e1 e; have := mi q e1; omega
          act := x.act
          acp := x.acp
          ack := fun q e1 e2 => by rcases f q e2 with e | e; exact x.ack q e1 e; have := mc q e1; omega
          atp := x.atp
          atk := fun q e1 e2 => by rcases f q e2 with e | e; exact x.atk q e1 e; have := mt q e1; omega
          apk := fun q e1 e2 => by rcases f q e2 with e | e; exact x.apk q e1 e; have := mp q e1; omega }
theorem Ld.setMain (x : Ld h0 n D vi vc vt vp vk h) (m : Int) (k : Keep (· = h0.length + 1) h h2) (own : Own h2 (h0.length + 1) 62 [vi, vc, vt, vp, iv m, vk, iv n]) : Ld h0 n { D with main := m } vi vc vt vp vk h2 := by
  have hl := x.own.lt
  have li : ∀ q, bk vi q -> ¬ (q = h0.length + 1) := fun q e => by have := x.li q e; omega
  have lc : ∀ q, bk vc q -> ¬ (q = h0.length + 1) := fun q e => by have := x.lc q e; omega
  have lt : ∀ q, bk vt q -> ¬ (q = h0.length + 1) := fun q e => by have := x.lt q e; omega
  have lp : ∀ q, bk vp q -> ¬ (q = h0.length + 1) := fun q e => by have := x.lp q e; omega
  have lk : ∀ q, bk vk q -> ¬ (q = h0.length + 1) := fun q e => by have := x.lk q e; omega
  exact { x with kp := x.kp.trans' k (fun c hc e => by omega), o0 := x.o0.keep k (by omega), own := own, oi := x.oi.keep k li, oc := x.oc.keep k lc, ot := x.ot.keep k lt, op := x.op.keep k lp, ok := x.ok.keep k lk }
end
end Go.S17

namespace Go.S17
open Go Go.Eng Go.Proofs Go.Scn Go.Chk Go.Img
section
variable {h0 h : AH} {n : Nat} {D : LdD} {vi vc vt vp vk : Value}
theorem cons_read (x : Ld h0 n D vi vc vt vp vk h) (l : List Int) (hr : ∀ m ∈ l, rgI m) (hl : l.length <= 2097152) : Gets Tryz.prog 128 [.agg #[], .pointer (some ⟨h0.length + 1, 0, none⟩), tv (l.flatMap num1)] h
    (fun res h' => res = .ret (.bool true) /\ ∃ v', Ld h0 n { D with cons := l } vi vc vt vp v' h') := by
  refine Gets.of (keep := false) hP (draw_ok hM) k128 (by rfl) (fun Ψ hΨ => ?_)
  have k1 : Keep (fun _ => False) h (h ++ [row 84 h.length []]) := Keep.push _ _ _
  simp only [mach, mach2, mstd, ↓reduceIte, Nat.reduceEqDiff, Nat.reduceAdd, Nat.reduceMul, r128, mbl, Nat.reduceLeDiff, Nat.reduceLT, Int.reduceEq]
  generalize hh1 : h ++ [row 84 h.length []] = h1 at k1 ⊢
  have x1 := x.grow k1
  refine XX_of (parse_ok l hr hl h1) (fun res h2 hle hn => ?_)
  obtain ⟨k2, v, rfl, ow, fr⟩ := hn
  refine .ret ?_
  have x2 := x1.grow k2
  obtain ⟨va, vb, rfl⟩ := row_shape ow.rds
  have hlt := x1.own.lt
  simp only [mach, mach2, mstd, ↓reduceIte, Nat.reduceEqDiff, Nat.reduceAdd, Nat.reduceMul, mbl, Nat.reduceLeDiff, Nat.reduceLT, Int.reduceEq]
  refine XH_own x2.own rfl (by simp [Value.cells]) rfl (fun h3 q1 q2 q3 => ?_)
  have o3 : Own h3 (h0.length + 1) 62 [vi, vc, vt, vp, iv D.main, .slice va l.length vb, iv n] := by simpa [Value.cells] using q1
  simp only [mach, mach2, mstd, ↓reduceIte, Nat.reduceEqDiff, Nat.reduceAdd, Nat.reduceMul]
  exact hΨ _ _ (fin_ret (rv1 rfl ⟨rfl, _, x1.setk l ((k2.mono (fun q e => e.elim)).trans' q2 (fun q _ e => .inl e)) o3 (ow.keep q2 (fun q e e2 => by have := fr q e; omega)) (fun q e => .inr (fr q e))⟩))
theorem code_read (x : Ld h0 n D vi vc vt vp vk h) (l : List Int) (hr : ∀ m ∈ l, rgI m) (hl : l.length <= 2097152) : Gets Tryz.prog 139 [.agg #[], .pointer (some ⟨h0.length + 1, 0, none⟩), tv (l.flatMap num1)] h
    (fun res h' => res = .ret (.bool true) /\ ∃ v', Ld h0 n { D with code := l } vi v' vt vp vk h') := by
  refine Gets.of (keep := false) hP (draw_ok hM) k139 (by rfl) (fun Ψ hΨ => ?_)
  have k1 : Keep (fun _ => False) h (h ++ [row 88 h.length []]) := Keep.push _ _ _
  simp only [mach, mach2, mstd, ↓reduceIte, Nat.reduceEqDiff, Nat.reduceAdd, Nat.reduceMul, r139, mbl, Nat.reduceLeDiff, Nat.reduceLT, Int.reduceEq]
  generalize hh1 : h ++ [row 88 h.length []] = h1 at k1 ⊢
  have x1 := x.grow k1
  refine XX_of (parse_ok l hr hl h1) (fun res h2 hle hn => ?_)
  obtain ⟨k2, v, rfl, ow, fr⟩ := hn
  refine .ret ?_
  have x2 := x1.grow k2
  obtain ⟨va, vb, rfl⟩ := row_shape ow.rds
  have hlt := x1.own.lt
  simp only [mach, mach2, mstd, ↓reduceIte, Nat.reduceEqDiff, Nat.reduceAdd, Nat.reduceMul, mbl, Nat.reduceLeDiff, Nat.reduceLT, Int.reduceEq]
  refine XH_own x2.own rfl (by simp [Value.cells]) rfl (fun h3 q1 q2 q3 => ?_)
  have o3 : Own h3 (h0.length + 1) 62 [vi, .slice va l.length vb, vt, vp, iv D.main, vk, iv n] := by simpa [Value.cells] using q1
  simp only [mach, mach2, mstd, ↓reduceIte, Nat.reduceEqDiff, Nat.reduceAdd, Nat.reduceMul]
  exact hΨ _ _ (fin_ret (rv1 rfl ⟨rfl, _, x1.setc l ((k2.mono (fun q e => e.elim)).trans' q2 (fun q _ e => .inl e)) o3 (ow.keep q2 (fun q e e2 => by have := fr q e; omega)) (fun q e => .inr (fr q e))⟩))
theorem image_read (x : Ld h0 n D vi vc vt vp vk h) (m : Int) (k : Nat) (hm : rgI m) (hk : k <= n) (hn : n <= 10000000000000) (hd : D.tops.length + k <= 10000000000) : Gets Tryz.prog 112 [.agg #[], .pointer (some ⟨h0.length + 1, 0, none⟩), tv ([m, (k : Int)].flatMap num1)] h
    (fun res h' => res = .ret (.bool true) /\ ∃ v', Ld h0 n { D with main := m, tops := D.tops ++ (List.range k).map Int.ofNat } vi vc vt v' vk h') := by
  refine Gets.of (keep := false) hP (draw_ok hM) k112 (by rfl) (fun Ψ hΨ => ?_)
  have k1 : Keep (fun _ => False) h (h ++ [row 83 h.length []]) := Keep.push _ _ _
  simp only [mach, mach2, mstd, ↓reduceIte, Nat.reduceEqDiff, Nat.reduceAdd, Nat.reduceMul, r112, mbl, Nat.reduceLeDiff, Nat.reduceLT, Int.reduceEq]
  generalize hh1 : h ++ [row 83 h.length []] = h1 at k1 ⊢
  have x1 := x.grow k1
  refine XX_of (parse_ok [m, (k : Int)] (by simp; exact ⟨hm, ⟨by omega, by omega⟩⟩) (by simp) h1) (fun res h2 hle hn2 => ?_)
  obtain ⟨k2, v, rfl, ow, fr⟩ := hn2
  refine .ret ?_
  have x2 := x1.grow k2
  obtain ⟨va, vb, rfl⟩ := row_shape ow.rds
  have hlt := x1.own.lt
  have g0 : (0 : Int) <= 0 := by omega
  have g1 : (0 : Int) <= 1 := by omega
  have ha : ([m, (k : Int)] : List Int)[Int.toNat 0]? = some m := rfl
  have hb : ([m, (k : Int)] : List Int)[Int.toNat 1]? = some (k : Int) := rfl
  obtain ⟨b1, o1, c1, e1, _, l1⟩ := rds_ix ow.rds g0 ha
  obtain ⟨b2, o2, c2, e2, _, l2⟩ := rds_ix ow.rds g1 hb
  cases e1; cases e2
  have c0 : ¬ (k : Int) < 0 := by omega
  have c1' : ¬ (k : Int) > (n : Int) := by omega
  have i0 : (0 : Int) < (([m, (k : Int)] : List Int).length : Int) := by simp
  have i1 : (1 : Int) < (([m, (k : Int)] : List Int).length : Int) := by simp
  have l2n : (([m, (k : Int)] : List Int).length : Int) = 2 := rfl
  have lt1 : ((1 : Int) < 2) = True := eq_true (by omega)
  have lt0 : ((0 : Int) < 2) = True := eq_true (by omega)
  simp only [mach, mach2, mstd, ↓reduceIte, Nat.reduceEqDiff, Nat.reduceAdd, Nat.reduceMul, mbl, Nat.reduceLeDiff, Nat.reduceLT, Int.reduceEq, l2n, g0, g1, lt0, lt1, and_self, if_true, l1, l2, x2.own.cells.ld, c0, c1', Nat.mul_one]
  refine XH_own x2.own rfl (by simp [Value.cells]) rfl (fun h3 q1 q2 q3 => ?_)
  have o3 : Own h3 (h0.length + 1) 62 [vi, vc, vt, vp, iv m, vk, iv n] := by simpa [Value.cells] using q1
  have x3 := x2.setMain m q2 o3
  have l2' : ldc h3 b1 (o1 + Int.toNat 1) = some (iv k) := by
    have := (ow.keep q2 (fun q e e2 => by have := fr q e; omega)).rds
    obtain ⟨b3, o4, c4, e4, _, l4⟩ := rds_ix this g1 hb
    cases e4; exact l4
  simp only [mach, mach2, mstd, ↓reduceIte, Nat.reduceEqDiff, Nat.reduceAdd, Nat.reduceMul, mbl, Nat.reduceLeDiff, Nat.reduceLT, Int.reduceEq, l2n, g1, lt1, and_self, if_true, l2', Nat.mul_one]
  refine XLo_rule (α := Nat × Value) (fun a => [(1, .pointer (some ⟨h0.length + 1, 0, none⟩)), (47, iv k), (48, iv a.1)])
    (fun a h' => a.1 <= k /\ Ld h0 n { D with main := m, tops := D.tops ++ (List.range a.1).map Int.ofNat } vi vc vt a.2 vk h') (fun a => k - a.1) (0, vp)
    ⟨Nat.zero_le _, by simpa using x3⟩ ⟨rfl, rfl, rfl, trivial⟩ ?_
  rintro ⟨i, w⟩ g1' Ψ2 ⟨hi, y⟩ next out
  simp only at hi y
  by_cases hlt2 : (i : Int) < (k : Int)
  · have hw : IntKind.i64.wrap ((i : Int) + 1) = ((i + 1 : Nat) : Int) := by rw [i64w (by omega) (by omega)]; omega
    obtain ⟨s', h', a1, a2, a3, a4⟩ := app1 (bytes := 8) y.op (xs := [iv i]) rfl rfl (by simp; omega) (by simp; omega)
    obtain ⟨wa, wc, rfl⟩ := row_shape y.op.rds
    obtain ⟨sa, sc, rfl⟩ := row_shape a2.rds
    have lp := y.lp
    have o4 : Own h' (h0.length + 1) 62 _ := y.own.keep a3 (fun e => by have := lp _ e; omega)
    simp only [mach, mach2, mstd, ↓reduceIte, Nat.reduceEqDiff, Nat.reduceAdd, Nat.reduceMul, hlt2, mbl, Nat.reduceLeDiff, Nat.reduceLT, Int.reduceEq, y.own.cells.ld, a1]
    refine XH_own o4 rfl (by simp [Value.cells]) rfl (fun h5 q4 q5 q6 => ?_)
    have o5 : Own h5 (h0.length + 1) 62 [vi, vc, vt, .slice sa ((D.tops ++ (List.range i).map Int.ofNat).length + 1) sc, iv m, vk, iv n] := by simpa [Value.cells] using q4
    have e : D.tops ++ (List.range (i + 1)).map Int.ofNat = D.tops ++ (List.range i).map Int.ofNat ++ [(i : Int)] := by rw [List.range_succ]; simp
    have e2 : (D.tops ++ (List.range (i + 1)).map Int.ofNat).length = (D.tops ++ (List.range i).map Int.ofNat).length + 1 := by rw [e, List.length_append]; rfl
    have en : ns (D.tops ++ (List.range (i + 1)).map Int.ofNat) = ns (D.tops ++ (List.range i).map Int.ofNat) ++ [iv i] := by rw [e]; unfold ns; rw [List.map_append]; rfl
    simp only [mach, mach2, mstd, ↓reduceIte, Nat.reduceEqDiff, Nat.reduceAdd, Nat.reduceMul, hw]
    refine next (i + 1, .slice sa ((D.tops ++ (List.range i).map Int.ofNat).length + 1) sc) _ _ _ ⟨by simp only; omega, ?_⟩ ⟨rfl, rfl, rfl, trivial⟩ (by simp only; omega)
    have a2' := a2.keep q5 (fun q e2 e3 => by
      rcases a4 q e2 with e4 | e4
      · have := lp q e4; omega
      · have := y.own.lt; omega)
    exact y.setp (D.tops ++ (List.range (i + 1)).map Int.ofNat) ((a3.mono (fun q e => .inr e)).trans' q5 (fun q _ e => .inl e)) o5 (by rw [e2, en]; exact a2') a4
  · have hie : i = k := by omega
    subst hie
    simp only [mach, mach2, mstd, ↓reduceIte, Nat.reduceEqDiff, Nat.reduceAdd, Nat.reduceMul, hlt2]
    refine out (.exit 0) _ _ _ _ (by intro e; cases e) ?_
    simp only [mach, mach2, mstd, ↓reduceIte, Nat.reduceEqDiff, Nat.reduceAdd, Nat.reduceMul]
    exact hΨ _ _ (fin_ret (rv1 rfl ⟨rfl, _, y⟩))
end
end Go.S17
