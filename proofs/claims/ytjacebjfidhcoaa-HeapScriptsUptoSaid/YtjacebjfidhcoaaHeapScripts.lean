/-
  'loiter/loiterlaw18.HeapScripts' returns true for every input that holds together at most 1048576 values and letters; the input reads as it did.
  The engine's machine walks the translated functions; the seat's texts hold what each comes to.
-/
import Derived.Test.YtjacebjfidhcoaaRows
import Derived.Test.YtjacebjfidhcoaaPk25
import Derived.WalkKit
import Derived.ProofKit
import Derived.OpenShut
import Derived.JoinedCond
namespace Go.Proofs.Ytjacebjfidhcoaa.heapScripts
open Go.ChangeShapes Go.WideShapes Go.ChangeAt Go.RowKit Go.Eng
set_option linter.unusedVariables false

theorem own : ownKnob Try.prog.godebug = none := by kernel_rfl
theorem laidOut : laidOutB Try.prog = true := by kernel_rfl
theorem plains : ∀ t ∈ [27, 3, 48], plainT Try.prog 20 t = true := by
  intro t ht
  simp only [List.mem_cons, List.not_mem_nil, or_false] at ht
  rcases ht with rfl | rfl | rfl <;> kernel_rfl
theorem agg27 : isAg Try.prog 27 = true := by kernel_rfl
theorem agg48 : isAg Try.prog 48 = false := by kernel_rfl
theorem reads : ∀ t ∈ [27, 3, 48], Try.prog.readableRec t = true ∧ t < Try.prog.types.size := by
  intro t ht
  simp only [List.mem_cons, List.not_mem_nil, or_false] at ht
  rcases ht with rfl | rfl | rfl
  · exact ⟨by kernel_rfl, of_decide_eq_true (by kernel_rfl)⟩
  · exact ⟨by kernel_rfl, of_decide_eq_true (by kernel_rfl)⟩
  · exact ⟨by kernel_rfl, of_decide_eq_true (by kernel_rfl)⟩
theorem agg3 : isAg Try.prog 3 = false := by kernel_rfl
theorem un3 : Try.prog.underlying 3 = some (.int .i64) := by kernel_rfl
theorem int_of {H : Type} {h : AH} {cs : List Value} {d : DataW H} (hr : Rd' Try.prog h 3 cs d) : ∃ n, cs = [iv n] := by
  cases hr with
  | bool h' => rw [un3] at h'; cases h'
  | int h' n => rw [un3] at h'; cases h'; exact ⟨n, rfl⟩
  | str h' => rw [un3] at h'; cases h'
  | snil h' => rw [un3] at h'; cases h'
  | sempty h' => rw [un3] at h'; cases h'
  | slice h' => rw [un3] at h'; cases h'
  | struct h' => rw [un3] at h'; cases h'
  | array h' => rw [un3] at h'; cases h'

/-- What arguments hold together. -/
def bulk (H : Type) : Bulk H where
  f := Rows.uptoBulk
  fa := Rows.uptoBulkAll
  one d := by
    cases d with
    | lit l => cases l <;> simp [Rows.uptoBulk]
    | nil => simp [Rows.uptoBulk]
    | ptr d => simp [Rows.uptoBulk]
    | slice elems spare => simp [Rows.uptoBulk]
    | agg parts => simp [Rows.uptoBulk]
    | iface t d => simp [Rows.uptoBulk]
    | map entries => simp [Rows.uptoBulk]
    | held h => simp [Rows.uptoBulk]
  str l := by simp [Rows.uptoBulk]
  sl a b := by simp [Rows.uptoBulk]
  ag a := by simp [Rows.uptoBulk]
  nil := by simp [Rows.uptoBulkAll]
  cons d r := by simp [Rows.uptoBulkAll]

set_option maxRecDepth 100000 in
theorem walk {H : Type} (enc : TypeId × Value → H) (W : World) (args : Array Value) (ds : List (DataW H)) (ps : List MemPlace) (hA : DataW.TrodAll enc Try.prog W 0 (fun _ => true) true [27, 3, 48] args.toList ds ps)
    (hok : ∀ (j : Nat) (t : TypeId) (v : Value), [27, 3, 48][j]? = some t → args.toList[j]? = some v → ∃ b, Value.okWide Try.prog W .any b t v) (hk : Rows.uptoSmall H ds = true) :
    Calls Try.prog 7 args W fun e W' => e = .returned (.bool true) ∧ Below W.heap.size W W' := by
  obtain ⟨h, r, avs, e1, e2, e3, e4, e5⟩ := opens_args (P := Try.prog) (W := W) [27, 3, 48] args.toList ds ps plains hA hok [] (fun _ => none) (Dr.empty (TabOk.none (by kernel_rfl) _))
  obtain ⟨v, v', v'', rfl⟩ : ∃ v v' v'', avs = [v, v', v''] := by
    match avs, e3 with
    | [v, v', v''], _ => exact ⟨v, v', v'', rfl⟩
  obtain ⟨d, d', d'', rfl⟩ : ∃ d d' d'', ds = [d, d', d''] := by
    match ds, e4 with
    | [d, d', d''], _ => exact ⟨d, d', d'', rfl⟩
  have hr := e5 0 27 v d rfl rfl rfl
  have hr3 := e5 1 3 v' d' rfl rfl rfl
  have hr' := e5 2 48 v'' d'' rfl rfl rfl
  unfold RdA at hr hr3 hr'
  rw [if_pos agg27] at hr
  rw [if_neg (by rw [agg3]; simp)] at hr3
  rw [if_neg (by rw [agg48]; simp)] at hr'
  obtain ⟨n, hn⟩ := int_of hr3
  have hv : v' = .int .i64 n := by simpa using hn
  subst hv
  obtain ⟨cs, rfl, hr⟩ := hr
  have h1 : Rows.uptoBulkAll [d, d', d''] ≤ 1048576 := of_decide_eq_true hk
  have hB : (bulk H).f d ≤ 1048576 := Nat.le_trans ((bulk H).part (d := d) (l := [d, d', d'']) (by simp)) h1
  have hB' : (bulk H).f d'' ≤ 1048576 := Nat.le_trans ((bulk H).part (d := d'') (l := [d, d', d'']) (by simp)) h1
  obtain ⟨C, texts, vi, vc, vt, vp, vk, rfl, g⟩ := Go.S18.image_of (bulk H) hr hB
  obtain ⟨os, o1, o2, o3⟩ := Go.S18.ops_of (bulk H) hr' hB'
  exact Gets.law Go.S18.hP Try.func7 (by kernel_rfl) (Go.S18.Scripts_ok g n o1 o2 (Nat.le_refl _) o3) e1.1 e2

/-! ### THE ROW's STEP -/
set_option maxRecDepth 100000 in
theorem lifted (os : Os) (started : os.Started) (H : Type) (enc : TypeId × Value → H) (F : Stop.Interp) :
    ReturnsInHanded {} Try.checked os 7 .any ((Rows.OpenSpec.upto Rows.heapScriptsSpec).pre6 enc Try.prog Try.f7 Rows.heapScriptsUptoRow.domain false) (((Rows.OpenSpec.upto Rows.heapScriptsSpec).at F).post enc Try.prog Try.f7 false true false false) := by
  refine returnsInHanded_of_cond (C := Try.checked) (s := Rows.OpenSpec.upto Rows.heapScriptsSpec) (k := Rows.uptoSmall) rfl own started (by kernel_rfl) Try.func7
    (OpenSpec.witness (enc := enc) (C := Try.checked) (s := Rows.OpenSpec.upto Rows.heapScriptsSpec) (k := Rows.uptoSmall) rfl false ⟨#[], #[.agg #[.slice none 0 0, .slice none 0 0, .slice none 0 0, .slice none 0 0, .int .i64 0, .slice none 0 0], .int .i64 0, .slice none 0 0], []⟩ 8 (by kernel_rfl) (by kernel_rfl) (by kernel_rfl)
      (x := ([.agg [.nil, .nil, .nil, .nil, .lit (.int .i64 0), .nil], .lit (.int .i64 0), .nil], [], [])) (by kernel_rfl) rfl (by kernel_rfl)) ?_
  intro W base args ds gs before hval0 hW _ hk _
  have hval : ∀ (j : Nat) t v, Try.f7.params[j]? = some t → args[j]? = some v → Value.okWide Try.prog W .any base t v := hval0
  have hW' := hW
  obtain ⟨p, q, hA0, hV, rfl, hfz, hnd⟩ := hW
  have hA : DataW.TrodAll enc Try.prog W 0 (fun _ => true) true Try.f7.params.toList args.toList ds p := hA0
  rw [Try.params7] at hA hval
  have hA1 : DataW.TrodAll enc Try.prog W 0 (fun _ => true) true [27, 3, 48] args.toList ds p := hA
  obtain ⟨rfl, rfl⟩ := trodVars_none hV
  clear hA0 hval0
  simp only [List.append_nil] at hW' hk
  have hlt := hA1.lt
  refine (walk enc W args ds p hA1 (fun j t v a b => ⟨base, hval j t v (by simpa using a) (by simpa using b)⟩) hk).mono fun e W' ⟨he, hg⟩ => ?_
  subst he
  have hA2 := trodAll_below laidOut hg [27, 3, 48] args.toList ds p reads hA1 hlt
  obtain ⟨v0, v1, v2, d0, d1, d2, rfl, rfl⟩ : ∃ v0 v1 v2 d0 d1 d2, args = #[v0, v1, v2] ∧ ds = [d0, d1, d2] := by
    obtain ⟨v0, v1, v2, d0, d1, d2, _, _, _, h1, h2, _⟩ := trodAll_three hA1
    exact ⟨v0, v1, v2, d0, d1, d2, h1, h2⟩
  exact ⟨_, rfl, ⟨_, _, _, [], _, _, hW', trodAll_cons_mk (shut_bool Try.underlying4 _) trodAll_mk0, hA2, rfl, hg.frame _, fun h => by cases h⟩⟩

theorem over : Rows.heapScriptsUptoRow.holds Try.pinned (Rows.OpenSpec.upto Rows.heapScriptsSpec) :=
  OpenClaim.holds_of_cond 7 Try.f7 rfl rfl rfl rfl rfl rfl rfl ⟨rfl, rfl, rfl, rfl, rfl⟩ rfl rfl rfl rfl rfl (by kernel_rfl) Try.func7 (by kernel_rfl)
    (of_decide_eq_true (by kernel_rfl)) (by unfold Func.isWrapper; first | (rw [if_pos (by decide +kernel)]; kernel_rfl) | (rw [if_neg (by decide +kernel)]; exact ⟨rfl, rfl⟩))
    (fun os started H enc _ F => lifted os started H enc F)

/-- ████ THE STATEMENT ████ -/
theorem proved : Rows.HeapScriptsUptoSaid :=
  over
#print axioms proved
end Go.Proofs.Ytjacebjfidhcoaa.heapScripts
