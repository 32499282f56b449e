/- Layer 2: the space of numbers by its half in use and its old half. -/
import Derived.Test.YtoojhjhamhkmjaaLY02
set_option linter.unusedVariables false
set_option linter.unusedSimpArgs false
namespace Go.S02
open Go Go.Eng Go.Proofs

theorem f10' : ((1 : Int) = 0) = False := by simp

/-- A space: the words in use, the old words. -/
def Sp2 (h : AH) (b : Nat) (size side : Int) (v0 v1 : Value) (now old : List Int) : Prop := Spc h b size side v0 v1 (if side = 0 then now else old) (if side = 0 then old else now)

section
variable {h : AH} {b : Nat} {size side : Int} {v0 v1 : Value} {now old : List Int}

theorem Sp2.keep {S : Nat → Prop} {h' : AH} (s : Sp2 h b size side v0 v1 now old) (k : Keep S h h') (hs : ∀ q, Owns b v0 v1 q → ¬ S q) : Sp2 h' b size side v0 v1 now old := Spc.keep s k hs

theorem Used2 (s : Sp2 h b size side v0 v1 now old) : Gets Try.prog 15 [.pointer (some ⟨b, 0, none⟩)] h (fun res h' => h' = h ∧ res = .ret (iv now.length)) := by
  have := Used_ok s
  rcases Spc.sd s with rfl | rfl
  · simpa only [if_true] using this
  · simpa only [f10', if_false] using this
theorem Get2 (s : Sp2 h b size side v0 v1 now old) (at' : Int) : Gets Try.prog 13 [.pointer (some ⟨b, 0, none⟩), iv at'] h (fun res h' => h' = h ∧ res = .ret (.tuple (lk now at'))) := by
  have := Get_ok s at'
  rcases Spc.sd s with rfl | rfl
  · simpa only [if_true] using this
  · simpa only [f10', if_false] using this
theorem Old2 (s : Sp2 h b size side v0 v1 now old) (at' : Int) : Gets Try.prog 18 [.pointer (some ⟨b, 0, none⟩), iv at'] h (fun res h' => h' = h ∧ res = .ret (.tuple (lk old at'))) := by
  have := Old_ok s at'
  rcases Spc.sd s with rfl | rfl
  · simpa only [if_true] using this
  · simpa only [f10', if_false] using this
theorem Set2 (s : Sp2 h b size side v0 v1 now old) (at' x : Int) : Gets Try.prog 24 [.pointer (some ⟨b, 0, none⟩), iv at', iv x] h (fun res h' =>
    if 0 ≤ at' ∧ at' < now.length then res = .ret (iv 0) ∧ Keep (Owns b v0 v1) h h' ∧ Sp2 h' b size side v0 v1 (now.set at'.toNat x) old else h' = h ∧ res = .ret (iv 2)) := by
  have := Set_ok s at' x
  unfold Sp2
  rcases Spc.sd s with rfl | rfl
  · simpa only [if_true] using this
  · simpa only [f10', if_false] using this
theorem SetOld2 (s : Sp2 h b size side v0 v1 now old) (at' x : Int) : Gets Try.prog 19 [.pointer (some ⟨b, 0, none⟩), iv at', iv x] h (fun res h' =>
    if 0 ≤ at' ∧ at' < old.length then res = .ret (iv 0) ∧ Keep (Owns b v0 v1) h h' ∧ Sp2 h' b size side v0 v1 now (old.set at'.toNat x) else h' = h ∧ res = .ret (iv 2)) := by
  have := SetOld_ok s at' x
  unfold Sp2
  rcases Spc.sd s with rfl | rfl
  · simpa only [if_true] using this
  · simpa only [f10', if_false] using this
theorem Alloc2 {u : Value} {ys : List Int} {m : Nat} (s : Sp2 h b size side v0 v1 now old) (hu : Rds h 1 u m (ns ys)) : Gets Try.prog 11 [.pointer (some ⟨b, 0, none⟩), u] h (fun res h' =>
      if size - (now.length : Int) < ys.length then h' = h ∧ res = .ret (.tuple #[iv 0, iv 3])
      else res = .ret (.tuple #[iv now.length, iv 0]) ∧ Keep (Owns b v0 v1) h h' ∧ ∃ v0' v1', Sp2 h' b size side v0' v1' (now ++ ys) old ∧ ∀ q, Owns b v0' v1' q → Owns b v0 v1 q ∨ h.length ≤ q) := by
  have := Alloc_ok s hu
  unfold Sp2
  rcases Spc.sd s with rfl | rfl
  · simpa only [if_true] using this
  · simpa only [f10', if_false] using this
theorem Flip2 (s : Sp2 h b size side v0 v1 now old) : Gets Try.prog 14 [.pointer (some ⟨b, 0, none⟩)] h (fun res h' => res = .ret (.tuple #[]) ∧ Keep (Owns b v0 v1) h h' ∧ ∃ v0' v1', Sp2 h' b size (1 - side) v0' v1' [] now ∧ ∀ q, Owns b v0' v1' q → Owns b v0 v1 q) := by
  have := Flip_ok s
  unfold Sp2
  rcases Spc.sd s with rfl | rfl
  · simpa only [if_true, Int.sub_zero, f10', if_false] using this
  · simpa only [f10', if_false, Int.sub_self, if_true] using this
end

/-! ### Scripts -/

/-- A script that can be read: of what stands below a bound. -/
def Scr (H : Nat) (h : AH) (v : Value) (m : Nat) : Prop := (∃ a c, v = .slice a m c) ∧ ∀ i, i < m → ∃ (b o c : Nat) (cs : List Value) (kd at' x : Int) (xv : Value) (k : Nat) (xs : List Int), v = .slice (some ⟨b, o, none⟩) m c ∧ b < H ∧ Cells h b cs ∧ o + i * 4 + 4 ≤ cs.length ∧
  (cs.drop (o + i * 4)).take 4 = [iv kd, iv at', iv x, xv] ∧ Rds h 1 xv k (ns xs) ∧ (∀ q, rb xv q → q < H)

theorem Scr.keep {H : Nat} {h h' : AH} {v : Value} {m : Nat} {S : Nat → Prop} (s : Scr H h v m) (k : Keep S h h') (hs : ∀ q, q < H → ¬ S q) : Scr H h' v m := by
  refine ⟨s.1, fun i hi => ?_⟩
  obtain ⟨b, o, c, cs, kd, at', x, xv, kk, xs, h1, h2, h3, h4, h5, h6, h7⟩ := s.2 i hi
  exact ⟨b, o, c, cs, kd, at', x, xv, kk, xs, h1, h2, h3.keep k (hs b h2), h4, h5, h6.keep k (fun q e => hs q (h7 q e)), h7⟩

theorem stv_len {cs : List Value} : (Value.agg cs.toArray).cells.toList = cs := rfl

end Go.S02
