/-
  'loiter/loiterlaw19.CollectKeeps' returns true for every input that holds together at most 1048576 values and letters; the input reads as it did; the listed package variables tied to the program's text.
  The engine's machine walks the translated functions; the texts on collections hold what each comes to.
-/
import Derived.Test.YtdlanbdiphpacaaDoorRows
import Derived.Test.YtdlanbdiphpacaaDoorCards
import Derived.Test.YtdlanbdiphpacaaDoorTie
import Derived.Test.YtdlanbdiphpacaaDoorPk26
import Derived.Test.YtdlanbdiphpacaaDoorPk26
import Derived.WalkKit
import Derived.ProofKit
import Derived.OpenShut
import Derived.LaidMore
import Derived.SevenTiedAt
import Derived.Stop.Joined
import Derived.JoinedCond
import Derived.Deep.DeepHandedRow
import Derived.Deep.DeepWitnessRowRef
namespace Go.Proofs.YtdlanbdiphpacaaDoor.collectKeeps
open Go.ChangeShapes Go.WideShapes Go.ChangeAt Go.RowKit Go.Eng
set_option linter.unusedVariables false

theorem own : ownKnob Tryd.prog.godebug = none := by kernel_rfl
theorem laidOut : laidOutB Tryd.prog = true := by kernel_rfl
theorem plains : ∀ t ∈ [26, 27, 28], plainT Tryd.prog 20 t = true := by
  intro t ht
  simp only [List.mem_cons, List.not_mem_nil, or_false] at ht
  rcases ht with rfl | rfl | rfl <;> kernel_rfl
theorem agg26 : isAg Tryd.prog 26 = true := by kernel_rfl
theorem agg27 : isAg Tryd.prog 27 = false := by kernel_rfl
theorem agg28 : isAg Tryd.prog 28 = false := by kernel_rfl
theorem reads : ∀ t ∈ [26, 27, 28], Tryd.prog.readableRec t = true ∧ t < Tryd.prog.types.size := by
  intro t ht
  simp only [List.mem_cons, List.not_mem_nil, or_false] at ht
  rcases ht with rfl | rfl | rfl
  · exact ⟨by kernel_rfl, of_decide_eq_true (by kernel_rfl)⟩
  · exact ⟨by kernel_rfl, of_decide_eq_true (by kernel_rfl)⟩
  · exact ⟨by kernel_rfl, of_decide_eq_true (by kernel_rfl)⟩

/-- What arguments hold together. -/
def bulk (H : Type) : Bulk H where
  f := Rows.uptoBulk
  fa := Rows.uptoBulkAll
  one d := by
    cases d with
    | lit l => cases l <;> simp [Rows.uptoBulk]
    | nil => simp [Rows.uptoBulk]
    | ptr d => simp [Rows.uptoBulk]
    | slice elems spare => simp [Rows.uptoBulk]
    | agg parts => simp [Rows.uptoBulk]
    | iface t d => simp [Rows.uptoBulk]
    | map entries => simp [Rows.uptoBulk]
    | held h => simp [Rows.uptoBulk]
  str l := by simp [Rows.uptoBulk]
  sl a b := by simp [Rows.uptoBulk]
  ag a := by simp [Rows.uptoBulk]
  nil := by simp [Rows.uptoBulkAll]
  cons d r := by simp [Rows.uptoBulkAll]

set_option maxRecDepth 100000 in
theorem walk {H : Type} (enc : TypeId × Value → H) (W : World) (hT : TabOk Tryd.prog W.heap) (args : Array Value) (ds : List (DataW H)) (ps : List MemPlace) (hA : DataW.TrodAll enc Tryd.prog W 0 (fun _ => true) true [26, 27, 28] args.toList ds ps)
    (hok : ∀ (j : Nat) (t : TypeId) (v : Value), [26, 27, 28][j]? = some t → args.toList[j]? = some v → ∃ b, Value.okWide Tryd.prog W .any b t v) (hk : Rows.uptoSmall H ds = true) :
    Calls Tryd.prog 6 args W fun e W' => e = .returned (.bool true) ∧ Below W.heap.size W W' := by
  obtain ⟨h, r, avs, e1, e2, e3, e4, e5⟩ := opens_args (P := Tryd.prog) (W := W) [26, 27, 28] args.toList ds ps plains hA hok [] (fun _ => none) (Dr.empty hT)
  obtain ⟨v, v', v'', rfl⟩ : ∃ v v' v'', avs = [v, v', v''] := by
    match avs, e3 with
    | [v, v', v''], _ => exact ⟨v, v', v'', rfl⟩
  obtain ⟨d, d', d'', rfl⟩ : ∃ d d' d'', ds = [d, d', d''] := by
    match ds, e4 with
    | [d, d', d''], _ => exact ⟨d, d', d'', rfl⟩
  have hr := e5 0 26 v d rfl rfl rfl
  have hr' := e5 1 27 v' d' rfl rfl rfl
  have hr2 := e5 2 28 v'' d'' rfl rfl rfl
  unfold RdA at hr hr' hr2
  rw [if_pos agg26] at hr
  rw [if_neg (by rw [agg27]; simp)] at hr'
  rw [if_neg (by rw [agg28]; simp)] at hr2
  obtain ⟨cs, rfl, hr⟩ := hr
  have h1 : Rows.uptoBulkAll [d, d', d''] ≤ 1048576 := of_decide_eq_true hk
  have hB : (bulk H).f d ≤ 1048576 := Nat.le_trans ((bulk H).part (d := d) (l := [d, d', d'']) (by simp)) h1
  have hB' : (bulk H).f d' ≤ 1048576 := Nat.le_trans ((bulk H).part (d := d') (l := [d, d', d'']) (by simp)) h1
  have hB2 : (bulk H).f d'' ≤ 1048576 := Nat.le_trans ((bulk H).part (d := d'') (l := [d, d', d'']) (by simp)) h1
  obtain ⟨C, texts, vi, vc, vt, vp, vk, rfl, g⟩ := Go.S19.image_of (bulk H) hr hB
  obtain ⟨os, o1, o2, o3⟩ := Go.S19.ops_of (bulk H) hr' hB'
  obtain ⟨ys, y1, y2, y3⟩ := Go.S19.words_of (bulk H) hr2 hB2
  exact Gets.law Go.S19.hP Tryd.func6 (by kernel_rfl) (Go.S19.CKeeps_ok (Nat.le_refl _) g o1 o3 o2 y1 y3 (fun w hw => (y2 w hw).2)) e1.1 e2

/-! ### THE ROW's STEP -/
theorem read0 (os : Os) {H : Type} (enc : TypeId × Value → H) : ∃ places, DataW.whole enc Tryd.prog (((World.doorLaid Tryd.prog 400 os)).forCall (fun _ _ => 0) ⟨#[], #[.agg #[.slice none 0 0, .slice none 0 0, .slice none 0 0, .slice none 0 0, .int .i64 0, .slice none 0 0], .slice none 0 0, .slice none 0 0], []⟩).memory Tryd.f6.params.toList (Rows.OpenSpec.upto Rows.collectKeepsSpec).vars false (#[.agg #[.slice none 0 0, .slice none 0 0, .slice none 0 0, .slice none 0 0, .int .i64 0, .slice none 0 0], .slice none 0 0, .slice none 0 0] : Array Value).toList 8 = some ([.agg [.nil, .nil, .nil, .nil, .lit (.int .i64 0), .nil], .nil, .nil], [], places) :=
  ⟨[], by kernel_rfl⟩
set_option maxRecDepth 100000 in
theorem lifted (os : Os) (started : os.Started) (H : Type) (enc : TypeId × Value → H) (F : Stop.Interp) :
    ReturnsInHanded {} Tryd.checked os 6 .any ((Rows.OpenSpec.upto Rows.collectKeepsSpec).preRow enc Tryd.prog Tryd.f6 Rows.collectKeepsUptoRow.domain false Rows.collectKeepsUptoRow.laid) (((Rows.OpenSpec.upto Rows.collectKeepsSpec).at F).post enc Tryd.prog Tryd.f6 false true false false) := by
  obtain ⟨places, hx⟩ := read0 os enc
  refine returnsInHanded_of_row (C := Tryd.checked) (s := Rows.OpenSpec.upto Rows.collectKeepsSpec) own started (by kernel_rfl) Tryd.func6
    (witness_row_atRef (enc := enc) (C := Tryd.checked) false (World.doorLaid Tryd.prog 400 os) #[.agg #[.slice none 0 0, .slice none 0 0, .slice none 0 0, .slice none 0 0, .int .i64 0, .slice none 0 0], .slice none 0 0, .slice none 0 0] rfl (by kernel_rfl) (by kernel_rfl) (by kernel_rfl)
      (OpenSpec.preRow_of_cond 8 hx (by kernel_rfl) (fun k hk => by cases hk; kernel_rfl) (by kernel_rfl) (Go.S19.door_met os _))) ?_
  intro W base args ds gs before hval0 hW _ hcond _ hL hS _
  have hk := hcond _ rfl
  have hval : ∀ (j : Nat) t v, Tryd.f6.params[j]? = some t → args[j]? = some v → Value.okWide Tryd.prog W .any base t v := hval0
  have hW' := hW
  obtain ⟨p, q, hA0, hV, rfl, hfz, hnd⟩ := hW
  have hA : DataW.TrodAll enc Tryd.prog W 0 (fun _ => true) true Tryd.f6.params.toList args.toList ds p := hA0
  rw [Tryd.params6] at hA hval
  have hA1 : DataW.TrodAll enc Tryd.prog W 0 (fun _ => true) true [26, 27, 28] args.toList ds p := hA
  obtain ⟨rfl, rfl⟩ := trodVars_none hV
  clear hA0 hval0
  simp only [List.append_nil] at hW' hk
  have hlt := hA1.lt
  refine (walk enc W (Go.S19.tab_of_laid hL) args ds p hA1 (fun j t v a b => ⟨base, hval j t v (by simpa using a) (by simpa using b)⟩) hk).mono fun e W' ⟨he, hg⟩ => ?_
  subst he
  have hA2 := trodAll_below laidOut hg [26, 27, 28] args.toList ds p reads hA1 hlt
  obtain ⟨v0, v1, v2, d0, d1, d2, rfl, rfl⟩ : ∃ v0 v1 v2 d0 d1 d2, args = #[v0, v1, v2] ∧ ds = [d0, d1, d2] := by
    obtain ⟨v0, v1, v2, d0, d1, d2, _, _, _, h1, h2, _⟩ := trodAll_three hA1
    exact ⟨v0, v1, v2, d0, d1, d2, h1, h2⟩
  exact ⟨_, rfl, ⟨_, _, _, [], _, _, hW', trodAll_cons_mk (shut_bool Tryd.underlying4 _) trodAll_mk0, hA2, rfl, hg.frame _, fun h => by cases h⟩⟩

theorem over : Rows.collectKeepsUptoRow.holds Tryd.pinned (Rows.OpenSpec.upto Rows.collectKeepsSpec) :=
  OpenClaim.holds_of_cond 6 Tryd.f6 rfl rfl rfl rfl rfl rfl rfl ⟨rfl, rfl, rfl, rfl, rfl⟩ rfl rfl rfl rfl rfl (by kernel_rfl) Tryd.func6 (by kernel_rfl)
    (of_decide_eq_true (by kernel_rfl)) (by unfold Func.isWrapper; first | (rw [if_pos (by decide +kernel)]; kernel_rfl) | (rw [if_neg (by decide +kernel)]; exact ⟨rfl, rfl⟩))
    (fun os started H enc _ F => by rw [OpenClaim.pre_eq_preRow]; exact lifted os started H enc F)

/-- ████ THE STATEMENT ████ -/
theorem proved : Rows.CollectKeepsUptoCardSaid :=
  Claim7.holds_tied_plain_at .later [] [.data, .data, .data] true (true, "3d1c41847716796221f6aac10a2322eeb56e8bbe2a5d195336c31ba05bdd9344") true
    over (fun _ h => by cases h) (by kernel_rfl) (fun _ h => by cases h) collectKeepsUpto_row_tie rfl ⟨rfl, rfl⟩ (by kernel_rfl) rfl
    (fun f fn hf hfn => by
      obtain rfl : f = 6 := Option.some.inj ((show Tryd.prog.funcNamed "loiter/loiterlaw19.CollectKeeps" = some 6 by kernel_rfl).symm.trans hf) |>.symm
      obtain rfl : fn = Tryd.f6 := (Option.some.inj (Tryd.func6.symm.trans hfn)).symm
      exact ⟨by kernel_rfl, fun j t ht => by
        rw [Tryd.params6] at ht
        have hm : t ∈ [26, 27, 28] := by simpa using Array.mem_of_getElem? ht
        have hall : ([26, 27, 28].all fun u => !Tryd.prog.wantsStandIn u) = true := by kernel_rfl
        exact (show Tryd.prog.wantsStandIn t = false by simpa using List.all_eq_true.1 hall t hm)⟩)
    (by kernel_rfl)
#print axioms proved
end Go.Proofs.YtdlanbdiphpacaaDoor.collectKeeps
