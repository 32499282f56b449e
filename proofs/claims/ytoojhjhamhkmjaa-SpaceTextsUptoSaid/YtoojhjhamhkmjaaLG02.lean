/- Layer 2: scripts that are given, with what they hold. -/
import Derived.Test.YtoojhjhamhkmjaaLF02
import Derived.Test.YtoojhjhamhkmjaaLJ02
import Derived.Test.YtoojhjhamhkmjaaLE36
set_option linter.unusedVariables false
set_option linter.unusedSimpArgs false
namespace Go.S02.Tx
open Go Go.Eng Go.Proofs Go.S02

theorem rg_wf {n : Int} (h : (Lit.int .i64 n).wf = true) : rg n := by
  simpa [Lit.wf, IntKind.min, IntKind.max, IntKind.signed, IntKind.bits, rg] using h

theorem int_rg {H : Type} {h : AH} {t : TypeId} {cs : List Value} {d : DataW H} (hu : Try.prog.underlying t = some (.int .i64)) (hr : Rd' Try.prog h t cs d) : ∃ n, cs = [iv n] ∧ rg n := by
  cases hr with
  | bool h' => rw [hu] at h'; cases h'
  | int h' n hw => rw [hu] at h'; cases h'; exact ⟨n, rfl, rg_wf hw⟩
  | str h' => rw [hu] at h'; cases h'
  | snil h' => rw [hu] at h'; cases h'
  | sempty h' => rw [hu] at h'; cases h'
  | slice h' => rw [hu] at h'; cases h'
  | struct h' => rw [hu] at h'; cases h'
  | array h' => rw [hu] at h'; cases h'

theorem flat_rg : ∀ (css : List (List Value)), (∀ cs ∈ css, ∃ n, cs = [iv n] ∧ rg n) → ∃ xs : List Int, css.flatten = ns xs ∧ xs.length = css.length ∧ ∀ x ∈ xs, rg x := by
  intro css
  induction css with
  | nil => intro _; exact ⟨[], rfl, rfl, rg_nil⟩
  | cons cs css ih =>
    intro h
    obtain ⟨n, rfl, hn⟩ := h cs List.mem_cons_self
    obtain ⟨xs, h1, h2, h3⟩ := ih fun c hc => h c (List.mem_cons_of_mem _ hc)
    exact ⟨n :: xs, by simp [h1, ns], by simp [h2], fun x hx => (List.mem_cons.1 hx).elim (fun e => e ▸ hn) (h3 x)⟩

theorem row_rg {H : Type} (B : Bulk H) {h : AH} {t e : TypeId} {v : Value} {d : DataW H} (hu : Try.prog.underlying t = some (.slice e)) (he : Try.prog.underlying e = some (.int .i64)) (hr : Rd' Try.prog h t [v] d) :
    ∃ m xs, Rds h 1 v m (ns xs) ∧ m ≤ B.f d ∧ ∀ x ∈ xs, rg x := by
  generalize hc : [v] = cs at hr
  cases hr with
  | bool hu' => rw [hu] at hu'; cases hu'
  | int hu' => rw [hu] at hu'; cases hu'
  | str hu' => rw [hu] at hu'; cases hu'
  | snil hu' => cases hc; exact ⟨0, [], .nil, by omega, rg_nil⟩
  | sempty hu' => cases hc; exact ⟨0, [], .emp, by omega, rg_nil⟩
  | slice hu' hcell hel hn hd hm hsz each =>
    rename_i e' b n css ds rest
    cases hc
    rw [hu] at hu'; cases hu'
    obtain ⟨xs, h1, h2, h3⟩ := flat_rg css (fun cs hcs => by
      obtain ⟨i, hi, e⟩ := List.getElem_of_mem hcs
      have hid : i < ds.length := by omega
      exact int_rg he (each i cs ds[i] (by rw [List.getElem?_eq_getElem hi, e]) (List.getElem?_eq_getElem hid)))
    refine ⟨n, xs, .mk hcell ?_ ?_, by have := B.slen ds rest; omega, h3⟩
    · rw [h1, ns_len]; omega
    · rw [h1, List.drop_zero, List.take_of_length_le (by rw [ns_len]; omega)]
  | struct hu' => rw [hu] at hu'; cases hu'
  | array hu' => rw [hu] at hu'; cases hu'

theorem op_rg {H : Type} (B : Bulk H) {h : AH} {cs : List Value} {d : DataW H} (hr : Rd' Try.prog h 41 cs d) : ∃ kd at' x xv k xs, cs = [iv kd, iv at', iv x, xv] ∧ Rds h 1 xv k (ns xs) ∧ rg x ∧ (∀ y ∈ xs, rg y) ∧ k ≤ B.f d := by
  cases hr with
  | bool h' => rw [u41] at h'; cases h'
  | int h' => rw [u41] at h'; cases h'
  | str h' => rw [u41] at h'; cases h'
  | snil h' => rw [u41] at h'; cases h'
  | sempty h' => rw [u41] at h'; cases h'
  | slice h' => rw [u41] at h'; cases h'
  | array h' => rw [u41] at h'; cases h'
  | struct h' hl hd each =>
    rename_i fs ds
    rw [u41] at h'; cases h'
    rw [c41'] at hl
    have hsz : opFields.size = 4 := by
      have := congrArg Array.size of0
      simpa using this
    obtain ⟨a, b, c, e, rfl⟩ : ∃ a b c e, cs = [a, b, c, e] := by
      match cs, hl with
      | [a, b, c, e], _ => exact ⟨a, b, c, e, rfl⟩
    obtain ⟨d0, d1, d2, d3, rfl⟩ : ∃ a b c e, ds = [a, b, c, e] := by
      have : ds.length = 4 := by rw [hd, hsz]
      match ds, this with
      | [a, b, c, e], _ => exact ⟨a, b, c, e, rfl⟩
    obtain ⟨f0, g0, t0, o0⟩ := fld (i := 0) (t := 3) (o := 0) rfl
    obtain ⟨f1, g1, t1, o1⟩ := fld (i := 1) (t := 3) (o := 1) rfl
    obtain ⟨f2, g2, t2, o2⟩ := fld (i := 2) (t := 3) (o := 2) rfl
    obtain ⟨f3, g3, t3, o3⟩ := fld (i := 3) (t := 22) (o := 3) rfl
    have r0 := each 0 f0 d0 g0 rfl
    have r1 := each 1 f1 d1 g1 rfl
    have r2 := each 2 f2 d2 g2 rfl
    have r3 := each 3 f3 d3 g3 rfl
    rw [t0, o0, c3'] at r0
    rw [t1, o1, c3'] at r1
    rw [t2, o2, c3'] at r2
    rw [t3, o3, c22'] at r3
    obtain ⟨n0, e0, _⟩ := int_rg un3 r0
    obtain ⟨n1, e1, _⟩ := int_rg un3 r1
    obtain ⟨n2, e2, h2⟩ := int_rg un3 r2
    simp at e0 e1 e2
    subst e0; subst e1; subst e2
    obtain ⟨m, xs, q1, q2, q3⟩ := row_rg B (v := e) un22 un3 (by simpa using r3)
    exact ⟨n0, n1, n2, e, m, xs, rfl, q1, h2, q3, Nat.le_trans q2 (B.field (i := 3) rfl)⟩

theorem script_rg {H : Type} (B : Bulk H) {h : AH} {v : Value} {d : DataW H} (hr : Rd' Try.prog h 36 [v] d) (hB : B.f d ≤ 1048576) : ∃ m, Scr h.length h v m ∧ m ≤ 9223372036854775807 := by
  generalize hc : [v] = cs at hr
  cases hr with
  | bool hu' => rw [un36] at hu'; cases hu'
  | int hu' => rw [un36] at hu'; cases hu'
  | str hu' => rw [un36] at hu'; cases hu'
  | snil hu' => cases hc; exact ⟨0, ⟨⟨_, _, rfl⟩, fun i hi => by omega⟩, by omega⟩
  | sempty hu' => cases hc; exact ⟨0, ⟨⟨_, _, rfl⟩, fun i hi => by omega⟩, by omega⟩
  | slice hu' hcell hel hn hd hm hsz each =>
    rename_i e' b n css ds rest
    cases hc
    rw [un36] at hu'; cases hu'
    rw [c41'] at hsz
    refine ⟨n, ⟨⟨_, _, rfl⟩, fun i hi => ?_⟩, by unfold maxLen at hm; omega⟩
    have h1 : css[i]? = some css[i] := List.getElem?_eq_getElem (by omega)
    have h2 : ds[i]? = some ds[i] := List.getElem?_eq_getElem (by omega)
    obtain ⟨kd, at', x, xv, k, xs, e1, e2, e3, e4, e5⟩ := op_rg B (each i _ _ h1 h2)
    obtain ⟨q1, q2⟩ := flat4 css hsz i _ h1
    have hcl : Cells h b css.flatten := hcell
    exact ⟨b, 0, n, css.flatten, kd, at', x, xv, k, xs, rfl, hcl.lt, hcl, by omega, by rw [Nat.zero_add, q1, e1], e2, e2.lt, e3, e4, Nat.le_trans e5 (Nat.le_trans (B.elem h2) hB)⟩
  | struct hu' => rw [un36] at hu'; cases hu'
  | array hu' => rw [un36] at hu'; cases hu'

end Go.S02.Tx
