/- Layer 2: rows of numbers that are given. -/
import Derived.Test.YtoojhjhamhkmjaaLU02
set_option linter.unusedVariables false
set_option linter.unusedSimpArgs false
namespace Go.S02
open Go Go.Eng Go.Proofs

theorem flat_ints : ∀ (css : List (List Value)), (∀ cs ∈ css, ∃ n, cs = [iv n]) → ∃ xs : List Int, css.flatten = ns xs ∧ xs.length = css.length := by
  intro css
  induction css with
  | nil => intro _; exact ⟨[], rfl, rfl⟩
  | cons cs css ih =>
    intro h
    obtain ⟨n, rfl⟩ := h cs List.mem_cons_self
    obtain ⟨xs, h1, h2⟩ := ih fun c hc => h c (List.mem_cons_of_mem _ hc)
    exact ⟨n :: xs, by simp [h1, ns], by simp [h2]⟩

theorem row_of {H : Type} {h : AH} {t e : TypeId} {v : Value} {d : DataW H} (hu : Try.prog.underlying t = some (.slice e)) (he : Try.prog.underlying e = some (.int .i64)) (hr : Rd' Try.prog h t [v] d) :
    ∃ m xs, Rds h 1 v m (ns xs) ∧ m ≤ 9223372036854775807 := by
  generalize hc : [v] = cs at hr
  cases hr with
  | bool hu' => rw [hu] at hu'; cases hu'
  | int hu' => rw [hu] at hu'; cases hu'
  | str hu' => rw [hu] at hu'; cases hu'
  | snil hu' => cases hc; exact ⟨0, [], .nil, by omega⟩
  | sempty hu' => cases hc; exact ⟨0, [], .emp, by omega⟩
  | slice hu' hcell hel hn hd hm hsz each =>
    rename_i e' b n css ds rest
    cases hc
    rw [hu] at hu'; cases hu'
    obtain ⟨xs, h1, h2⟩ := flat_ints css (fun cs hcs => by
      obtain ⟨i, hi, e⟩ := List.getElem_of_mem hcs
      have hid : i < ds.length := by omega
      have := each i cs ds[i] (by rw [List.getElem?_eq_getElem hi, e]) (List.getElem?_eq_getElem hid)
      generalize ds[i] = d' at this
      cases this with
      | bool h' => rw [he] at h'; cases h'
      | int h' n => rw [he] at h'; cases h'; exact ⟨n, rfl⟩
      | str h' => rw [he] at h'; cases h'
      | snil h' => rw [he] at h'; cases h'
      | sempty h' => rw [he] at h'; cases h'
      | slice h' => rw [he] at h'; cases h'
      | struct h' => rw [he] at h'; cases h'
      | array h' => rw [he] at h'; cases h')
    refine ⟨n, xs, .mk hcell ?_ ?_, by unfold maxLen at hm; omega⟩
    · rw [h1, ns_len]; omega
    · rw [h1, List.drop_zero, List.take_of_length_le (by rw [ns_len]; omega)]
  | struct hu' => rw [hu] at hu'; cases hu'
  | array hu' => rw [hu] at hu'; cases hu'

end Go.S02
