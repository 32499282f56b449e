/- Layer 2: scripts that are given. -/
import Derived.Test.YtoojhjhamhkmjaaLI02
set_option linter.unusedVariables false
set_option linter.unusedSimpArgs false
namespace Go.S02
open Go Go.Eng Go.Proofs

noncomputable def opFields : Array Field := match Try.prog.underlying 41 with
  | some (.struct fs) => fs
  | _ => #[]
theorem u41 : Try.prog.underlying 41 = some (.struct opFields) := by kernel_rfl
theorem of0 : (opFields.map fun f => (f.type, f.offset)) = #[(3, 0), (3, 1), (3, 2), (22, 3)] := by kernel_rfl
theorem c3' : Try.prog.cellsOf 3 = 1 := by kernel_rfl
theorem c22' : Try.prog.cellsOf 22 = 1 := by kernel_rfl
theorem c41' : Try.prog.cellsOf 41 = 4 := by kernel_rfl
theorem un3 : Try.prog.underlying 3 = some (.int .i64) := by kernel_rfl
theorem un22 : Try.prog.underlying 22 = some (.slice 3) := by kernel_rfl
theorem un36 : Try.prog.underlying 36 = some (.slice 41) := by kernel_rfl

theorem fld {i t o : Nat} (h : (#[((3 : Nat), (0 : Nat)), (3, 1), (3, 2), (22, 3)] : Array (Nat × Nat))[i]? = some (t, o)) : ∃ f, opFields[i]? = some f ∧ f.type = t ∧ f.offset = o := by
  rw [← of0, Array.getElem?_map] at h
  obtain ⟨f, h1, h2⟩ := Option.map_eq_some_iff.1 h
  simp only [Prod.mk.injEq] at h2
  exact ⟨f, h1, h2.1, h2.2⟩

theorem int_of {H : Type} {h : AH} {cs : List Value} {d : DataW H} (hr : Rd' Try.prog h 3 cs d) : ∃ n, cs = [iv n] := by
  cases hr with
  | bool h' => rw [un3] at h'; cases h'
  | int h' n => rw [un3] at h'; cases h'; exact ⟨n, rfl⟩
  | str h' => rw [un3] at h'; cases h'
  | snil h' => rw [un3] at h'; cases h'
  | sempty h' => rw [un3] at h'; cases h'
  | slice h' => rw [un3] at h'; cases h'
  | struct h' => rw [un3] at h'; cases h'
  | array h' => rw [un3] at h'; cases h'

theorem op_of {H : Type} {h : AH} {cs : List Value} {d : DataW H} (hr : Rd' Try.prog h 41 cs d) : ∃ kd at' x xv k xs, cs = [iv kd, iv at', iv x, xv] ∧ Rds h 1 xv k (ns xs) := by
  cases hr with
  | bool h' => rw [u41] at h'; cases h'
  | int h' => rw [u41] at h'; cases h'
  | str h' => rw [u41] at h'; cases h'
  | snil h' => rw [u41] at h'; cases h'
  | sempty h' => rw [u41] at h'; cases h'
  | slice h' => rw [u41] at h'; cases h'
  | array h' => rw [u41] at h'; cases h'
  | struct h' hl hd each =>
    rename_i fs ds
    rw [u41] at h'; cases h'
    rw [c41'] at hl
    have hsz : opFields.size = 4 := by
      have := congrArg Array.size of0
      simpa using this
    obtain ⟨a, b, c, e, rfl⟩ : ∃ a b c e, cs = [a, b, c, e] := by
      match cs, hl with
      | [a, b, c, e], _ => exact ⟨a, b, c, e, rfl⟩
    obtain ⟨d0, d1, d2, d3, rfl⟩ : ∃ a b c e, ds = [a, b, c, e] := by
      have : ds.length = 4 := by rw [hd, hsz]
      match ds, this with
      | [a, b, c, e], _ => exact ⟨a, b, c, e, rfl⟩
    obtain ⟨f0, g0, t0, o0⟩ := fld (i := 0) (t := 3) (o := 0) rfl
    obtain ⟨f1, g1, t1, o1⟩ := fld (i := 1) (t := 3) (o := 1) rfl
    obtain ⟨f2, g2, t2, o2⟩ := fld (i := 2) (t := 3) (o := 2) rfl
    obtain ⟨f3, g3, t3, o3⟩ := fld (i := 3) (t := 22) (o := 3) rfl
    have r0 := each 0 f0 d0 g0 rfl
    have r1 := each 1 f1 d1 g1 rfl
    have r2 := each 2 f2 d2 g2 rfl
    have r3 := each 3 f3 d3 g3 rfl
    rw [t0, o0, c3'] at r0
    rw [t1, o1, c3'] at r1
    rw [t2, o2, c3'] at r2
    rw [t3, o3, c22'] at r3
    obtain ⟨n0, e0⟩ := int_of r0
    obtain ⟨n1, e1⟩ := int_of r1
    obtain ⟨n2, e2⟩ := int_of r2
    simp at e0 e1 e2
    subst e0; subst e1; subst e2
    obtain ⟨m, xs, q1, _⟩ := row_of (v := e) un22 un3 (by simpa using r3)
    exact ⟨n0, n1, n2, e, m, xs, rfl, q1⟩

theorem flat4 : ∀ (css : List (List Value)), (∀ cs ∈ css, cs.length = 4) → ∀ (i : Nat) (cs : List Value), css[i]? = some cs → (css.flatten.drop (i * 4)).take 4 = cs ∧ i * 4 + 4 ≤ css.flatten.length := by
  intro css
  induction css with
  | nil => intro _ i cs h; simp at h
  | cons c css ih =>
    intro hl i cs h
    have hc := hl c List.mem_cons_self
    cases i with
    | zero =>
      simp at h; subst h
      exact ⟨by simp [hc], by simp [hc]⟩
    | succ i =>
      obtain ⟨k1, k2⟩ := ih (fun x hx => hl x (List.mem_cons_of_mem _ hx)) i cs (by simpa using h)
      constructor
      · rw [List.flatten_cons, show (i + 1) * 4 = c.length + i * 4 by omega, ← List.drop_drop, List.drop_left]; exact k1
      · simp only [List.flatten_cons, List.length_append]; omega

theorem script_of {H : Type} {h : AH} {v : Value} {d : DataW H} (hr : Rd' Try.prog h 36 [v] d) : ∃ m, Scr h.length h v m ∧ m ≤ 9223372036854775807 := by
  generalize hc : [v] = cs at hr
  cases hr with
  | bool hu' => rw [un36] at hu'; cases hu'
  | int hu' => rw [un36] at hu'; cases hu'
  | str hu' => rw [un36] at hu'; cases hu'
  | snil hu' => cases hc; exact ⟨0, ⟨⟨_, _, rfl⟩, fun i hi => by omega⟩, by omega⟩
  | sempty hu' => cases hc; exact ⟨0, ⟨⟨_, _, rfl⟩, fun i hi => by omega⟩, by omega⟩
  | slice hu' hcell hel hn hd hm hsz each =>
    rename_i e' b n css ds rest
    cases hc
    rw [un36] at hu'; cases hu'
    rw [c41'] at hsz
    refine ⟨n, ⟨⟨_, _, rfl⟩, fun i hi => ?_⟩, by unfold maxLen at hm; omega⟩
    have h1 : css[i]? = some css[i] := List.getElem?_eq_getElem (by omega)
    have h2 : ds[i]? = some ds[i] := List.getElem?_eq_getElem (by omega)
    obtain ⟨kd, at', x, xv, k, xs, e1, e2⟩ := op_of (each i _ _ h1 h2)
    obtain ⟨q1, q2⟩ := flat4 css hsz i _ h1
    have hcl : Cells h b css.flatten := hcell
    exact ⟨b, 0, n, css.flatten, kd, at', x, xv, k, xs, rfl, hcl.lt, hcl, by omega, by rw [Nat.zero_add, q1, e1], e2, e2.lt⟩
  | struct hu' => rw [un36] at hu'; cases hu'
  | array hu' => rw [un36] at hu'; cases hu'

end Go.S02
