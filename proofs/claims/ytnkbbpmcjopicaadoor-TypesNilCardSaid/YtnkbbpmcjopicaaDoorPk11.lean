import Derived.Test.YtnkbbpmcjopicaaDoorPk10
import GoSem.ClaimChange
import Derived.Carry
import Derived.OpenShut
import Derived.Test.YtnkbbpmcjopicaaDoorPk7
import Derived.Sort.Grow
import Derived.Deep.Draws
import Derived.Lib.LaidTab
import Derived.Lib.ItoaNum
import Derived.Test.YtnkbbpmcjopicaaDoorRows
import Derived.LaidMore
import Derived.MakeChecks
/- The engine, part 29: regions that draw their order, at last. -/
set_option linter.unusedVariables false
set_option linter.unusedSimpArgs false
namespace Go.Eng
section
variable {P : Program} {keep : Bool} {nm : List Nat} {N : Nat}

/-- Known variables, and all of them. -/
structure EM (nm : List Nat) (N : Nat) (e l : PE) (env : List Value) : Prop where
  ee : ∀ t v, look e t = some v → env[t]? = some v
  ll : ∀ t v, look l t = some v → env[t]? = some v
  en : ∀ t v, look e t = some v → nm.contains t = true
  ln : ∀ t v, look l t = some v → nm.contains t = false
  len : N ≤ env.length

theorem putv_get (env : List Value) (d t : Nat) (v : Value) (hd : d < env.length) : (putv env (some d) v)[t]? = if d = t then some v else env[t]? := by
  simp only [putv]
  rw [List.getElem?_set]
  by_cases h : d = t
  · subst h; simp [hd]
  · simp [h]

theorem EM.put {e l : PE} {env : List Value} (hm : EM nm N e l env) {dst : Option Tmp} {d : D} (hd : resDst nm N dst = some d) (v : Value) : EM nm N (pe d e v) (pl d l v) (putv env dst v) := by
  cases dst with
  | none => cases hd; exact hm
  | some i =>
    simp only [resDst] at hd
    split at hd
    case isFalse => cases hd
    case isTrue hi =>
      have hsz : i < env.length := Nat.lt_of_lt_of_le hi hm.len
      have hlen : N ≤ (putv env (some i) v).length := by rw [putv_length]; exact hm.len
      by_cases hn : nm.contains i = true
      · rw [if_pos hn] at hd; cases hd
        refine ⟨fun t u h => ?_, fun t u h => ?_, fun t u h => ?_, hm.ln, hlen⟩
        · simp only [pe, look_upd] at h
          rw [putv_get _ _ _ _ hsz]
          split at h
          · rename_i e; rw [if_pos e]; exact h
          · rename_i e; rw [if_neg e]; exact hm.ee t u h
        · rw [putv_get _ _ _ _ hsz]
          by_cases e : i = t
          · subst e; have := hm.ln i u h; rw [hn] at this; cases this
          · rw [if_neg e]; exact hm.ll t u h
        · simp only [pe, look_upd] at h
          split at h
          · rename_i e; subst e; exact hn
          · exact hm.en t u h
      · rw [if_neg hn] at hd; cases hd
        have hn' : nm.contains i = false := by cases h : nm.contains i <;> simp_all
        refine ⟨fun t u h => ?_, fun t u h => ?_, hm.en, fun t u h => ?_, hlen⟩
        · rw [putv_get _ _ _ _ hsz]
          by_cases e : i = t
          · subst e; have := hm.en i u h; rw [hn'] at this; cases this
          · rw [if_neg e]; exact hm.ee t u h
        · simp only [pl, look] at h
          rw [putv_get _ _ _ _ hsz]
          split at h
          · rename_i e; rw [if_pos e]; exact h
          · rename_i e; rw [if_neg e]; exact hm.ll t u h
        · simp only [pl, look] at h
          split at h
          · rename_i e; subst e; exact hn'
          · exact hm.ln t u h

theorem EM.want {e l : PE} {env : List Value} (hm : EM nm N e l env) {ops : Array Oper} {o : Oper} {g : Option (RX × Bool)} (hg : resG nm ops o.guard = some g) {A B : Prop} (h : gK g e l A B) :
    (wantA ops env o = some true ∧ A) ∨ (wantA ops env o = some false ∧ B) := by
  unfold resG at hg
  unfold wantA
  split at hg
  · rename_i hgd
    cases hg
    rw [hgd]
    exact .inl ⟨rfl, h⟩
  · rename_i j want hgd
    rw [hgd]
    dsimp only
    split at hg
    case h_2 => cases hg
    case h_1 d hd =>
      cases hg
      rw [hd]
      obtain ⟨v, hv, h⟩ := vK_inv h
      rcases gB_inv h with ⟨b, rfl, h⟩ | ⟨⟨c, rfl⟩, h⟩
      case inr =>
        have hval : env[d]? = some (.tuple c) := by
          by_cases hn : nm.contains d = true
          · rw [if_pos hn] at hv; exact hm.ee d _ hv
          · rw [if_neg hn] at hv; exact hm.ll d _ hv
        exact .inr ⟨by simp only [hval], h⟩
      have hval : env[d]? = some (.bool b) := by
        by_cases hn : nm.contains d = true
        · rw [if_pos hn] at hv; exact hm.ee d _ hv
        · rw [if_neg hn] at hv; exact hm.ll d _ hv
      rcases br_inv h with ⟨h1, h2⟩ | ⟨h1, h2⟩
      · exact .inl ⟨by simp only [hval, h1], h2⟩
      · exact .inr ⟨by simp only [hval, h1], h2⟩

/-! ### The calls of a region -/

open Classical in
/-- Where the known variables come from. -/
def KS (e l : PE) (os : List Oper) (e' l' : PE) : Prop := ∀ t v, (look e' t = some v ∨ look l' t = some v) → (∃ u, look e t = some u) ∨ (∃ u, look l t = some u) ∨ ∃ o ∈ os, o.dst = some t

theorem KS.cons {e l : PE} {o : Oper} {os : List Oper} {d : D} (hd : resDst nm N o.dst = some d) {v : Value} {e' l' : PE} (h : KS (pe d e v) (pl d l v) os e' l') : KS e l (o :: os) e' l' := by
  intro t u hu
  have back : ((∃ u, look (pe d e v) t = some u) ∨ ∃ u, look (pl d l v) t = some u) → (∃ u, look e t = some u) ∨ (∃ u, look l t = some u) ∨ o.dst = some t := by
    intro hb
    cases ho : o.dst with
    | none =>
      rw [ho] at hd; cases hd
      rcases hb with hb | hb
      · exact .inl hb
      · exact .inr (.inl hb)
    | some i =>
      rw [ho] at hd
      simp only [resDst] at hd
      split at hd
      · split at hd
        · cases hd
          rcases hb with ⟨u, hb⟩ | hb
          · simp only [pe, look_upd] at hb
            split at hb
            · rename_i e; subst e; exact .inr (.inr rfl)
            · exact .inl ⟨u, hb⟩
          · exact .inr (.inl hb)
        · cases hd
          rcases hb with hb | ⟨u, hb⟩
          · exact .inl hb
          · simp only [pl, look] at hb
            split at hb
            · rename_i e; subst e; exact .inr (.inr rfl)
            · exact .inr (.inl ⟨u, hb⟩)
      · cases hd
  rcases h t u hu with h1 | h1 | ⟨o', h1, h2⟩
  · rcases back (.inl h1) with h | h | h
    · exact .inl h
    · exact .inr (.inl h)
    · exact .inr (.inr ⟨o, List.mem_cons_self, h⟩)
  · rcases back (.inr h1) with h | h | h
    · exact .inl h
    · exact .inr (.inl h)
    · exact .inr (.inr ⟨o, List.mem_cons_self, h⟩)
  · exact .inr (.inr ⟨o', List.mem_cons_of_mem _ h1, h2⟩)

end
end Go.Eng

/- The engine, part 30: regions that draw their order, by their text. -/
set_option linter.unusedVariables false
set_option linter.unusedSimpArgs false
namespace Go.Eng

theorem all_zi {α : Type} {l : List α} {f : α × Nat → Bool} (h : l.zipIdx.all f = true) {i : Nat} {x : α} (hx : l[i]? = some x) : f (x, i) = true := all_zipIdx h hx
theorem all_zi_of {α : Type} {l : List α} {f : α × Nat → Bool} (h : ∀ (i : Nat) (x : α), l[i]? = some x → f (x, i) = true) : l.zipIdx.all f = true := by
  rw [List.all_eq_true]
  intro p hp
  obtain ⟨i, hi⟩ := List.mem_iff_getElem?.1 hp
  rw [List.getElem?_zipIdx] at hi
  obtain ⟨x, hx, rfl⟩ := Option.map_eq_some_iff.1 hi
  simpa using h i x hx

section
variable {P : Program} {keep : Bool} {nm : List Nat} {N : Nat} {ops : Array Oper} {F : FT} {rl : List RO}

theorem annot_get (A : List Nat) (rl : List RO) (q : Nat) : (annot A rl)[q]? = (rl[q]?).map fun o =>
    { o := o, i := q, w := potK o.k
      chk := if potK o.k then (rl.zipIdx.filterMap fun (o', j) => if decide (j < q) && ldK o'.k && !bitA A q j && !sureBet A rl j q (fun p => bitA A p j) then some j else none) else []
      old := if ldK o.k then (rl.zipIdx.filterMap fun (o', j) => if decide (j < q) && potK o'.k && !bitA A q j && !sureBet A rl j q (fun p => bitA A q p) then some j else none) else [] } := by
  unfold annot
  rw [List.getElem?_map, List.getElem?_zipIdx]
  cases rl[q]? <;> simp

theorem mem_fm {l : List RO} {f : RO × Nat → Option Nat} {j : Nat} {o : RO} (ho : l[j]? = some o) (hf : f (o, j) = some j) : (l.zipIdx.filterMap f).contains j = true := by
  rw [List.contains_iff_mem, List.mem_filterMap]
  refine ⟨(o, j), ?_, hf⟩
  rw [List.mem_iff_getElem?]
  exact ⟨j, by rw [List.getElem?_zipIdx, ho]; simp⟩

theorem sureBet_inv {A : List Nat} {lo hi : Nat} {tied : Nat → Bool} (h : sureBet A rl lo hi tied = true) : ∃ j o, rl[j]? = some o ∧ lo < j ∧ j < hi ∧ sureK o = true ∧ tied j = true := by
  unfold sureBet at h
  obtain ⟨j, o, h1, h2⟩ := any_zipIdx h
  simp only [Bool.and_eq_true, decide_eq_true_eq] at h2
  exact ⟨j, o, h1, h2.1.1.1, h2.1.1.2, h2.1.2, h2.2⟩

theorem anc_lt (ht : tempsOk ops ops.toList (ancs ops.toList) = true) : ∀ (i : Nat) (o : Oper), ops.toList[i]? = some o → ∀ j, bit (ancs ops.toList) i j = true → j < i := by
  intro i
  induction i using Nat.strongRecOn with
  | _ i ih =>
    intro o ho j hj
    obtain ⟨e, he, hb, hje⟩ := anc_spec ho hj
    have h1 := (temps_spec ht ho).1 e he hb
    rcases hje with rfl | ⟨_, h2⟩
    · exact h1
    · have hl : e.on < ops.toList.length := by
        have := (List.getElem?_eq_some_iff.1 ho).1; omega
      have := ih e.on h1 ops.toList[e.on] (by simp [hl]) j h2
      omega

set_option maxHeartbeats 1000000 in
/-- What the region's text says of its run. -/
theorem Run.checks {env : List Value} {h : AH} {trs : List TR} {fin : Fin'} (r : Run P keep ops F 0 (annot (ancs ops.toList) rl) ops.toList env h [] [] trs fin) (hres : resOps P nm N ops ops.toList = some rl) (ht : tempsOk ops ops.toList (ancs ops.toList) = true)
    (hs : drawS P ops (ancs ops.toList) rl = true) (hp : ∀ v h', fin = .pan v h' → panS (ancs ops.toList) rl = true) :
    chainOk ops.size (ancs ops.toList) (alOf P trs ops) trs fin = true ∧ flushOk ops.size (ancs ops.toList) (alOf P trs ops) trs = true ∧ ReadsP P ops.toList (ancs ops.toList) trs fin := by
  unfold drawS at hs
  simp only [Bool.and_eq_true] at hs
  obtain ⟨⟨⟨⟨hop, hcalls⟩, hch⟩, hfl⟩, hrd⟩ := hs
  have resget : ∀ (os : List Oper) (xs : List RO), resOps P nm N ops os = some xs → xs.length = os.length ∧ ∀ (q : Nat) (o : Oper) (x : RO), os[q]? = some o → xs[q]? = some x → resOp P nm N ops o = some x := by
    intro os
    induction os with
    | nil => intro xs hx; cases hx; exact ⟨rfl, fun q o x h => by simp at h⟩
    | cons o os ih =>
      intro xs hx
      simp only [resOps] at hx
      split at hx
      case h_2 => cases hx
      case h_1 y ys h1 h2 =>
        cases hx
        obtain ⟨k1, k2⟩ := ih _ h2
        refine ⟨by simp [k1], fun q o' x a b => ?_⟩
        cases q with
        | zero => simp at a b; subst a; subst b; exact h1
        | succ q => exact k2 q o' x (by simpa using a) (by simpa using b)
  obtain ⟨hlen, hresq⟩ := resget _ _ hres
  have hsz : rl.length = ops.size := by simpa using hlen
  have htrl : trs.length ≤ ops.size := by
    rcases trace_len _ _ _ _ _ r.trace with ⟨_, _, _, h1⟩ | ⟨_, _, _, _, h1⟩ <;> (have : ops.toList.length = ops.size := by simp) <;> omega
  have opq : ∀ (q : Nat) (o : Oper) (x : RO), ops.toList[q]? = some o → rl[q]? = some x → opOk P o x.k = true := by
    intro q o x h1 h2
    refine List.all_eq_true.1 hop (o, x) ?_
    rw [List.mem_iff_getElem?]
    exact ⟨q, by rw [List.getElem?_zip_eq_some]; exact ⟨h1, h2⟩⟩
  have fact : ∀ (q : Nat) (t : TR), trs[q]? = some t → ∃ d ro o, (annot (ancs ops.toList) rl)[q]? = some d ∧ d.o = ro ∧ rl[q]? = some ro ∧ ops.toList[q]? = some o ∧
      (t.k = true → t.w = true ∧ potK ro.k = true) ∧ (t.k = true → alK ro.k = true → allocOp o = true ∧ ∃ u B, aread P (ev t.env) t.h t.h.length o = some (u, some B)) ∧
      (t.w = true → t.k = false → freeK ro.k = true → ∀ h2 : AH, aread P (ev t.env) h2 h2.length o = some (t.v, none)) ∧ (t.w = true → t.k = false → ∃ v, aread P (ev t.env) t.h t.h.length o = some (v, none)) ∧
      (t.w = true ∨ wantA ops t.env o = some false) ∧ (t.w = true → t.k = false → potK ro.k = false) := by
    intro q t ht
    obtain ⟨d, o, h1, h2, h3, h4, h5, h6, h7, h8, h9⟩ := r.facts q t ht
    have h1' := h1
    rw [annot_get] at h1'
    obtain ⟨ro, e1, e2⟩ := Option.map_eq_some_iff.1 h1'
    have e3 : d.o = ro := by rw [← e2]
    rw [e3] at h4 h5 h6 h9
    exact ⟨d, ro, o, h1, e3, e1, h2, h4, h5, h6, h7, h8, h9⟩
  have sure : ∀ (q : Nat) (t : TR) (ro : RO), trs[q]? = some t → rl[q]? = some ro → sureK ro = true → t.k = true := by
    intro q t ro ht hro hsu
    obtain ⟨d, ro', o, _, _, e1, e2, e3, e4, e5, e6, e7, e8⟩ := fact q t ht
    rw [hro] at e1; cases e1
    unfold sureK at hsu
    simp only [Bool.and_eq_true, Option.isNone_iff_eq_none] at hsu
    have hg : o.guard = none := by
      have hr := hresq q o ro e2 hro
      unfold resOp at hr
      split at hr
      · rename_i dd g k _ hg _
        cases hr
        have : g = none := hsu.1
        subst this
        unfold resG at hg
        split at hg
        · assumption
        · split at hg <;> cases hg
      · cases hr
    have hw : t.w = true := by
      rcases e7 with h | h
      · exact h
      · unfold wantA at h; rw [hg] at h; cases h
    cases hk : t.k with
    | true => rfl
    | false =>
      exfalso
      have := e8 hw hk
      have h2 := hsu.2
      revert h2 this
      cases ro.k <;> intro a b <;> first | (cases a; done) | (cases b; done)
  have alOk : ∀ (q : Nat) (t : TR) (ro : RO), trs[q]? = some t → rl[q]? = some ro → t.k = true → alK ro.k = true → alOf P trs ops q = true := by
    intro q t ro ht hro hk ha
    obtain ⟨d, ro', o, _, _, e1, e2, e3, e4, _⟩ := fact q t ht
    rw [hro] at e1; cases e1
    obtain ⟨h1, u, B, h2⟩ := e4 hk ha
    have ho : ops[q]? = some o := by simpa using e2
    unfold alOf
    rw [ht, ho]
    simp only [(e3 hk).1, hk, h1, h2, Bool.and_self]
  have alInv : ∀ (q : Nat), alOf P trs ops q = true → ∃ t ro, trs[q]? = some t ∧ rl[q]? = some ro ∧ t.k = true ∧ alK ro.k = true := by
    intro q hq
    unfold alOf at hq
    split at hq
    · rename_i t o ht ho
      simp only [Bool.and_eq_true] at hq
      obtain ⟨d, ro, o', _, _, e1, e2, _⟩ := fact q t ht
      have : o' = o := by have : ops.toList[q]? = some o := by simpa using ho
                          rw [this] at e2; cases e2; rfl
      subst this
      have hoo := opq q o' ro e2 e1
      unfold opOk at hoo
      simp only [Bool.and_eq_true, beq_iff_eq] at hoo
      exact ⟨t, ro, ht, e1, hq.1.1.2, by rw [hoo.1.1.2]; exact hq.1.2⟩
    · cases hq
  refine ⟨?_, ?_, ?_⟩
  · -- the chain
    unfold chainOk
    rw [Bool.and_eq_true]
    refine ⟨all_zi_of fun j t htj => ?_, ?_⟩
    · simp only [Bool.or_eq_true, Bool.not_eq_true']
      by_cases hk : t.k = true
      · obtain ⟨d, ro, o, _, _, e1, e2, e3, _⟩ := fact j t htj
        by_cases ha : alK ro.k = true
        · exact .inl (.inr (alOk j t ro htj e1 hk ha))
        · refine .inr (all_zi_of fun i t' hti => ?_)
          simp only [Bool.or_eq_true, Bool.not_eq_true', decide_eq_false_iff_not]
          by_cases hk' : t'.k = true
          · by_cases hij : i < j
            · obtain ⟨d', ro', o', _, _, e1', _, e3', _⟩ := fact i t' hti
              have h1 := all_zi hch e1
              simp only [Bool.or_eq_true, Bool.not_eq_true', (e3 hk).2] at h1
              rcases h1 with (h1 | h1) | h1
              · cases h1
              · exact absurd h1 ha
              · have h2 := all_zi h1 e1'
                simp only [Bool.or_eq_true, Bool.not_eq_true', decide_eq_false_iff_not, (e3' hk').2] at h2
                rcases h2 with (h2 | h2) | h2
                · exact absurd hij h2
                · cases h2
                · exact .inr h2
            · exact .inl (.inr hij)
          · exact .inl (.inl (by simpa using hk'))
      · exact .inl (.inl (by simpa using hk))
    · cases hfin : fin with
      | norm e2 h2 => rfl
      | pan v h' =>
        have hpan := hp v h' hfin
        obtain ⟨q, d, f, ags, e1, e2, e3⟩ := r.panLast v h' hfin
        simp only
        rw [List.all_eq_true]
        intro j hj
        rw [List.mem_range] at hj
        simp only [Bool.or_eq_true, Bool.not_eq_true', decide_eq_false_iff_not]
        by_cases hlt : trs.length ≤ j
        · right
          unfold panS at hpan
          rw [annot_get] at e2
          obtain ⟨ro, k1, k2⟩ := Option.map_eq_some_iff.1 e2
          have k3 : ro.k = .call f ags := by rw [← e3, ← k2]
          have h1 := all_zi hpan k1
          simp only [k3] at h1
          have h2 := List.all_eq_true.1 h1 j (by rw [List.mem_range, hsz]; exact hj)
          simp only [Bool.or_eq_true, Bool.not_eq_true', decide_eq_false_iff_not] at h2
          rw [e1, Nat.add_sub_cancel]
          rcases h2 with h2 | h2
          · omega
          · exact h2
        · exact .inl hlt
  · -- blocks that are laid early
    unfold flushOk
    refine all_zi_of fun a t hta => ?_
    simp only [Bool.or_eq_true, Bool.not_eq_true', Bool.and_eq_true]
    by_cases ha : alOf P trs ops a = true
    · right
      obtain ⟨t', ro, h1, h2, h3, h4⟩ := alInv a ha
      refine ⟨all_zi_of fun j tj htj => ?_, ?_⟩
      · simp only [Bool.or_eq_true, Bool.not_eq_true', decide_eq_false_iff_not, decide_eq_true_eq]
        by_cases hja : j ≤ a
        · exact .inr (r.mono j a tj t hja htj hta)
        · exact .inl hja
      · rw [List.all_eq_true]
        intro i hi
        rw [List.mem_range] at hi
        simp only [Bool.or_eq_true, Bool.not_eq_true']
        by_cases hb : bit (ancs ops.toList) i a = true
        · right
          refine all_zi_of fun j tj htj => ?_
          simp only [Bool.or_eq_true, Bool.not_eq_true', decide_eq_false_iff_not]
          by_cases hk : tj.k = true
          · by_cases hja : j < a
            · right
              obtain ⟨dj, roj, oj, _, _, k1, _, k3, _⟩ := fact j tj htj
              have q1 := all_zi hfl h2
              simp only [Bool.or_eq_true, Bool.not_eq_true', h4] at q1
              rcases q1 with q1 | q1
              · cases q1
              · have q2 := List.all_eq_true.1 q1 i (by rw [List.mem_range, hsz]; exact hi)
                simp only [Bool.or_eq_true, Bool.not_eq_true'] at q2
                rcases q2 with q2 | q2
                · exact absurd (show bitA (ancs ops.toList) i a = true from hb) (by rw [q2]; simp)
                · have q3 := all_zi q2 k1
                  simp only [Bool.or_eq_true, Bool.not_eq_true', decide_eq_false_iff_not, (k3 hk).2] at q3
                  rcases q3 with (q3 | q3) | q3
                  · exact absurd hja q3
                  · cases q3
                  · exact q3
            · exact .inl (.inr hja)
          · exact .inl (.inl (by simpa using hk))
        · exact .inl (by simpa using hb)
    · exact .inl (by simpa using ha)
  · -- reads
    intro i o t p ho hti hw hk hpp hpo h1 h2
    obtain ⟨d, ro, o', e0, ed, e1, e2, e3, e4, e5, e6, e7, e8⟩ := fact i t hti
    rw [ho] at e2; cases e2
    have hnp := e8 hw hk
    have hil : i < trs.length := (List.getElem?_eq_some_iff.1 hti).1
    have hsp := own_spec trs i (by omega)
    -- a writer behind the load
    have late : own trs i < p → ∃ j0 t0, p = j0 + 1 ∧ i < j0 ∧ trs[j0]? = some t0 ∧ t0.k = true ∧ j0 < many trs fin ∧ bit (ancs ops.toList) j0 i = false := by
      intro hlt
      rcases hpp with h | ⟨j0, t0, h, h3, h4, h5⟩
      · omega
      · refine ⟨j0, t0, h, ?_, h3, h4, h5, h2 j0 t0 h3 h4 (by omega)⟩
        by_cases hji : j0 < i
        · have := hsp.1 j0 t0 h3 h4 hji; omega
        · by_cases hje : j0 = i
          · subst hje; rw [hti] at h3; cases h3; rw [hk] at h4; cases h4
          · omega
    -- a writer ahead of it
    have soon : p < own trs i → ∃ j1 t1, p ≤ j1 ∧ j1 < i ∧ trs[j1]? = some t1 ∧ t1.k = true ∧ (after1 trs fin p).2 = t1.h ∧ bit (ancs ops.toList) i j1 = false := by
      intro hlt
      rcases hsp.2.2 with h | ⟨j, tj, h, h3, h4⟩
      · omega
      · obtain ⟨j1, t1, k1, k2, k3, k4, k5⟩ := first_k trs p j (by omega) ⟨tj, h3, h4⟩
        have hj1 : j1 < trs.length := (List.getElem?_eq_some_iff.1 k3).1
        refine ⟨j1, t1, k1, by have := hsp.2.1; omega, k3, k4, ?_, ?_⟩
        · have := heap_const r.trace (p := p) j1 k1 (by omega) (fun hh => by omega) (fun q tq a b c => k5 q tq a b c)
          rw [← this]; simp [after1, k3]
        · cases hb : bit (ancs ops.toList) i j1 with
          | false => rfl
          | true => have := h1 j1 t1 k3 k4 hb; omega
    have hrdq := all_zi hrd e1
    simp only [Bool.or_eq_true, hnp] at hrdq
    rcases hrdq with ((hh | hf) | hl) | hall
    · cases hh
    · exact e5 hw hk hf _
    · -- a load
      have hdo : d = (annot (ancs ops.toList) rl)[i]?.getD d := by rw [e0]; rfl
      rcases Nat.lt_or_gt_of_ne hpo with hlt | hgt
      · obtain ⟨j1, t1, k1, k2, k3, k4, k5, k6⟩ := soon hlt
        obtain ⟨d1, ro1, o1, _, _, q1, _, q3, _⟩ := fact j1 t1 k3
        have hc : d.old.contains (0 + j1) = true := by
          rw [annot_get, e1] at e0
          simp only [Option.map_some, Option.some.injEq] at e0
          subst e0
          simp only [hl, if_true, Nat.zero_add]
          refine mem_fm q1 ?_
          cases hsb : sureBet (ancs ops.toList) rl j1 i (fun p => bitA (ancs ops.toList) i p) with
          | true =>
            exfalso
            obtain ⟨q, oq, m1, m2, m3, m4, m5⟩ := sureBet_inv hsb
            have hq : q < trs.length := by omega
            have hkq := sure q trs[q] oq (by simp [hq]) m1 m4
            have := h1 q trs[q] (by simp [hq]) hkq m5
            omega
          | false =>
            simp only [k2, decide_true, (q3 k4).2, show bitA (ancs ops.toList) i j1 = false from k6, Bool.not_false, Bool.and_self, if_true]
        have := (r.sooner i t d o hti hw hk e0 ho (by rw [ed]; exact hl)).2 j1 t1 k2 k3 k4 hc
        rw [k5]; exact this
      · obtain ⟨j0, t0, k1, k2, k3, k4, k5, k6⟩ := late hgt
        obtain ⟨d0, ro0, o0, q0, _, q1, _, q3, _⟩ := fact j0 t0 k3
        have hc : d0.chk.contains (0 + i) = true := by
          have q0' := q0
          rw [annot_get, q1] at q0'
          simp only [Option.map_some, Option.some.injEq] at q0'
          subst q0'
          simp only [(q3 k4).2, if_true, Nat.zero_add]
          refine mem_fm e1 ?_
          cases hsb : sureBet (ancs ops.toList) rl i j0 (fun p => bitA (ancs ops.toList) p i) with
          | true =>
            exfalso
            obtain ⟨q, oq, m1, m2, m3, m4, m5⟩ := sureBet_inv hsb
            have hj0 : j0 < trs.length := (List.getElem?_eq_some_iff.1 k3).1
            have hq : q < trs.length := by omega
            have hkq := sure q trs[q] oq (by simp [hq]) m1 m4
            have := h2 q trs[q] (by simp [hq]) hkq (by omega)
            rw [show bit (ancs ops.toList) q i = true from m5] at this; cases this
          | false =>
            simp only [k2, decide_true, hl, show bitA (ancs ops.toList) j0 i = false from k6, Bool.not_false, Bool.and_self, if_true]
        have := (r.later j0 t0 d0 k3 k4 q0 k5).2 i t d o k2 hti e0 ho hw hk (by rw [ed]; exact hl) hc
        rw [k1]; exact this _
    · -- tied to all writers
      exfalso
      rcases Nat.lt_or_gt_of_ne hpo with hlt | hgt
      · obtain ⟨j1, t1, k1, k2, k3, k4, k5, k6⟩ := soon hlt
        obtain ⟨d1, ro1, o1, _, _, q1, q2, q3, _⟩ := fact j1 t1 k3
        have h3 := all_zi hall q1
        simp only [Bool.or_eq_true, Bool.not_eq_true', (q3 k4).2] at h3
        rcases h3 with (h3 | h3) | h3
        · cases h3
        · rw [show bit (ancs ops.toList) i j1 = true from h3] at k6; cases k6
        · have := anc_lt ht j1 o1 q2 i h3; omega
      · obtain ⟨j0, t0, k1, k2, k3, k4, k5, k6⟩ := late hgt
        obtain ⟨d1, ro1, o1, _, _, q1, q2, q3, _⟩ := fact j0 t0 k3
        have h3 := all_zi hall q1
        simp only [Bool.or_eq_true, Bool.not_eq_true', (q3 k4).2] at h3
        rcases h3 with (h3 | h3) | h3
        · cases h3
        · have := anc_lt ht i o ho j0 h3; omega
        · rw [show bit (ancs ops.toList) j0 i = true from h3] at k6; cases k6


end
end Go.Eng

/- The engine, part 31: functions by their numbers; the machine's rules. -/
set_option linter.unusedVariables false
set_option linter.unusedSimpArgs false
namespace Go.Eng

/-- A function looked up ahead. -/
def look1 (P : Program) (f : FuncId) (nm : List Nat) (D : Array Oper → Bool) : Option (RC × List RV) :=
  match P.funcs[f]? with
  | some fn => match fn.body with
    | some c => match resC P nm fn.ntmps D c, resRVs P nm fn.results.toList with
      | some rc, some rvs => some (rc, rvs)
      | _, _ => none
    | none => none
  | none => none

section
variable {P : Program} {keep : Bool} {nm : List Nat}

theorem Gets.go (hP : noGoroutines P = true) {D : Array Oper → Bool} (hD : ∀ N, DrawOk P keep nm N D) {f : FuncId} {rc : RC} {rvs : List RV} (hk : look1 P f nm D = some (rc, rvs)) {args : List Value}
    (hnm : ((List.range args.length).all nm.contains) = true) {h : AH} {Φ : Res → AH → Prop} (hw : wpc P keep nm rc (finK P rvs Φ) ⟨argE 0 args, [], h, []⟩) : Gets P f args h Φ := by
  unfold look1 at hk
  split at hk
  case h_2 => cases hk
  case h_1 fn hf =>
    split at hk
    case h_2 => cases hk
    case h_1 c hb =>
      split at hk
      case h_2 => cases hk
      case h_1 rc' rvs' h1 h2 =>
        cases hk
        exact Gets.fn hP hf hb (hD _) h1 h2 hnm hw

/-- An equation that the simplifier takes as a step, not as a definition. -/
theorem rr {α : Sort _} {a b : α} (h : a = b) : a = b := h

/-! ### The machine: its states are data, so that nothing ahead of the point that is reached is looked into -/

/-- What is to be done behind a piece of code. -/
inductive Fm where
  | sq (c : RC)
  | blk (id : Nat)
  | np
  | ep (e : PE)

def den (P : Program) (keep : Bool) (nm : List Nat) (Φ : Out → PS → Prop) : List Fm → Out → PS → Prop
  | [] => Φ
  | .sq c :: k => seqK (wpc P keep nm c (den P keep nm Φ k)) (den P keep nm Φ k)
  | .blk id :: k => blkK id (den P keep nm Φ k)
  | .np :: k => npK (den P keep nm Φ k)
  | .ep e0 :: k => drK e0 (den P keep nm Φ k)

/-- What is to be done behind an operation. -/
inductive Cn where
  | ro (os : List RO)
  | dr (i : Nat) (w : Bool) (chk old : List Nat) (kk : RK) (h0 : AH) (dl : List DO) (hs : List (Nat × AH)) (rs : List Rd)

variable (P keep nm) (Φ : Out → PS → Prop)

/-- Code. -/
def XC (c : RC) (k : List Fm) (e l : PE) (h : AH) (ds : List Dfr) : Prop := wpc P keep nm c (den P keep nm Φ k) ⟨e, l, h, ds⟩
variable {P keep nm Φ}
variable {os : List RO} {c : Cn} {k : List Fm} {e l : PE} {h : AH} {ds : List Dfr} {d : D}

section
variable {rq r rs : List Rd} {chk old : List Nat} {hh hs : List (Nat × AH)} {dl : List DO}
end
section
variable {v p : Value} {i : Nat} {w : Bool} {chk old : List Nat} {h0 : AH} {dl : List DO} {hs hs' : List (Nat × AH)} {rs : List Rd}
end
end

section
variable {P : Program} {h : AH} {m : Nat}
theorem isNone_some {α : Type} {a : α} : (some a).isNone = false := rr rfl
end

/-! ### Results -/

section
variable {P : Program} {keep : Bool} {nm : List Nat}

/-- What is to be shown at the end of a function. -/
theorem Gets.of (hP : noGoroutines P = true) {D : Array Oper → Bool} (hD : ∀ N, DrawOk P keep nm N D) {f : FuncId} {rc : RC} {rvs : List RV} (hk : look1 P f nm D = some (rc, rvs)) {args : List Value}
    (hnm : ((List.range args.length).all nm.contains) = true) {h : AH} {Φ : Res → AH → Prop} (hw : ∀ Ψ : Out → PS → Prop, (∀ o s, finK P rvs Φ o s → Ψ o s) → XC P keep nm Ψ rc [] (argE 0 args) [] h []) : Gets P f args h Φ :=
  Gets.go hP hD hk hnm (hw _ fun _ _ h => h)

end

/-! ### All steps in one -/

end Go.Eng

/- The engine, part 32: heaps as they are spoken of in contracts. -/
set_option linter.unusedVariables false
set_option linter.unusedSimpArgs false
namespace Go.Eng

/-- Blocks outside S are as they were. -/
structure Keep (S : Nat → Prop) (h h' : AH) : Prop where
  len : h.length ≤ h'.length
  same : ∀ b, b < h.length → ¬ S b → h'[b]? = h[b]?

theorem Keep.refl (S : Nat → Prop) (h : AH) : Keep S h h := ⟨Nat.le_refl _, fun _ _ _ => rfl⟩
theorem Keep.trans {S : Nat → Prop} {h h1 h2 : AH} (a : Keep S h h1) (b : Keep S h1 h2) : Keep S h h2 :=
  ⟨Nat.le_trans a.len b.len, fun c hc hs => by rw [b.same c (Nat.lt_of_lt_of_le hc a.len) hs, a.same c hc hs]⟩
theorem Keep.mono {S T : Nat → Prop} {h h' : AH} (a : Keep S h h') (hST : ∀ b, S b → T b) : Keep T h h' := ⟨a.len, fun b hb hs => a.same b hb fun s => hs (hST b s)⟩
theorem Keep.push (S : Nat → Prop) (h : AH) (B : Blk) : Keep S h (h ++ [B]) := ⟨by simp, fun b hb _ => List.getElem?_append_left hb⟩
theorem Keep.get {S : Nat → Prop} {h h' : AH} (a : Keep S h h') {b : Nat} {B : Blk} (hb : h[b]? = some B) (hs : ¬ S b) : h'[b]? = some B := by
  rw [a.same b (List.getElem?_eq_some_iff.1 hb).1 hs, hb]
theorem Keep.set (h : AH) (b : Nat) (B : Blk) : Keep (· = b) h (h.set b B) := ⟨by simp, fun c hc hs => by rw [List.getElem?_set_ne (Ne.symm hs)]⟩

/-- A block that is known. -/
def Cells (h : AH) (b : Nat) (cs : List Value) : Prop := hcell h b = some cs
/-- A block of one's own. -/
def Own (h : AH) (b : Nat) (e : TypeId) (cs : List Value) : Prop := ∃ g, h[b]? = some (.cells true true g 0 e cs)

theorem Own.cells {h : AH} {b : Nat} {e : TypeId} {cs : List Value} (hb : Own h b e cs) : Cells h b cs := by obtain ⟨g, hb⟩ := hb; simp [Cells, hcell, hb]
theorem Own.lt {h : AH} {b : Nat} {e : TypeId} {cs : List Value} (hb : Own h b e cs) : b < h.length := by obtain ⟨g, hb⟩ := hb; exact (List.getElem?_eq_some_iff.1 hb).1
theorem Cells.lt {h : AH} {b : Nat} {cs : List Value} (hb : Cells h b cs) : b < h.length := by
  unfold Cells hcell at hb
  split at hb
  · rename_i h1; exact (List.getElem?_eq_some_iff.1 h1).1
  · cases hb
theorem Own.keep {S : Nat → Prop} {h h' : AH} {b : Nat} {e : TypeId} {cs : List Value} (hb : Own h b e cs) (k : Keep S h h') (hs : ¬ S b) : Own h' b e cs := by obtain ⟨g, hb⟩ := hb; exact ⟨g, k.get hb hs⟩
theorem Cells.keep {S : Nat → Prop} {h h' : AH} {b : Nat} {cs : List Value} (hb : Cells h b cs) (k : Keep S h h') (hs : ¬ S b) : Cells h' b cs := by
  have hl := hb.lt
  unfold Cells hcell at hb ⊢
  rw [k.same b hl hs]; exact hb
theorem Own.new (h : AH) (e : TypeId) (m : Nat) (cs : List Value) : Own (h ++ [row e m cs]) h.length e cs := ⟨m, by simp [row]⟩

theorem Cells.ld {h : AH} {b : Nat} {cs : List Value} (hb : Cells h b cs) (o : Nat) : ldc h b o = cs[o]? := by unfold Cells at hb; simp [ldc, hb]
theorem Own.store {h : AH} {b : Nat} {e : TypeId} {cs : List Value} (hb : Own h b e cs) {i : Nat} {vs : List Value} (hl : i + vs.length ≤ cs.length) (ho : vs.all Value.oneCell' = true) :
    ∃ h', hstore h b i vs = some h' ∧ Own h' b e (cs.take i ++ vs ++ cs.drop (i + vs.length)) ∧ Keep (· = b) h h' ∧ h'.length = h.length := by
  have hlt := hb.lt
  obtain ⟨g, hb⟩ := hb
  refine ⟨h.set b (.cells true true g 0 e (cs.take i ++ vs ++ cs.drop (i + vs.length))), ?_, ⟨g, by simp [hlt]⟩, .set h b _, by simp⟩
  simp [hstore, hb, hl, ho]

/-! ### Rows -/

def bk : Value → Nat → Prop
  | .slice (some ⟨b, _, _⟩) _ _, c => c = b
  | _, _ => False

/-- The block that a row is read from, if anything is. -/
def rb : Value → Nat → Prop
  | .slice (some ⟨b, _, _⟩) n _, c => c = b ∧ 0 < n
  | _, _ => False
theorem rb.bk {v : Value} {q : Nat} (h : rb v q) : bk v q := by
  unfold rb at h
  split at h
  · exact h.1
  · exact h.elim

/-- A row that can be read: how many elements, the cells. -/
inductive Rds (h : AH) (sz : Nat) : Value → Nat → List Value → Prop where
  | nil : Rds h sz (.slice none 0 0) 0 []
  | emp {b o c : Nat} : Rds h sz (.slice (some ⟨b, o, none⟩) 0 c) 0 []
  | mk {b o n c : Nat} {all cs : List Value} (hb : Cells h b all) (hl : o + n * sz ≤ all.length) (hx : (all.drop o).take (n * sz) = cs) : Rds h sz (.slice (some ⟨b, o, none⟩) n c) n cs

/-- A row of one's own: it may be written and grow. -/
inductive Ows (h : AH) (e : TypeId) (sz : Nat) : Value → Nat → List Value → Prop where
  | nil : Ows h e sz (.slice none 0 0) 0 []
  | mk {b n c : Nat} {all cs : List Value} (hb : Own h b e all) (hl : all.length = c * sz) (hn : n ≤ c) (hx : all.take (n * sz) = cs) : Ows h e sz (.slice (some ⟨b, 0, none⟩) n c) n cs

theorem Rds.len {h : AH} {sz n : Nat} {v : Value} {cs : List Value} (hr : Rds h sz v n cs) : cs.length = n * sz := by
  cases hr with
  | nil => simp
  | emp => simp
  | mk hb hl hx => rw [← hx]; simp; omega
theorem Ows.rds {h : AH} {e : TypeId} {sz n : Nat} {v : Value} {cs : List Value} (ho : Ows h e sz v n cs) : Rds h sz v n cs := by
  cases ho with
  | nil => exact .nil
  | mk hb hl hn hx => exact .mk hb.cells (by rw [hl, Nat.zero_add]; exact Nat.mul_le_mul_right _ hn) (by simpa using hx)
theorem Ows.len {h : AH} {e : TypeId} {sz n : Nat} {v : Value} {cs : List Value} (ho : Ows h e sz v n cs) : cs.length = n * sz := ho.rds.len
theorem Rds.keep {S : Nat → Prop} {h h' : AH} {sz n : Nat} {v : Value} {cs : List Value} (hr : Rds h sz v n cs) (k : Keep S h h') (hs : ∀ b, rb v b → ¬ S b) : Rds h' sz v n cs := by
  cases hr with
  | nil => exact .nil
  | emp => exact .emp
  | mk hb hl hx =>
    rcases Nat.eq_zero_or_pos n with h0 | h0
    · subst h0
      simp only [Nat.zero_mul, List.take_zero] at hx
      subst hx
      exact .emp
    · exact .mk (hb.keep k (hs _ ⟨rfl, h0⟩)) hl hx
theorem Ows.keep {S : Nat → Prop} {h h' : AH} {e : TypeId} {sz n : Nat} {v : Value} {cs : List Value} (hr : Ows h e sz v n cs) (k : Keep S h h') (hs : ∀ b, bk v b → ¬ S b) : Ows h' e sz v n cs := by
  cases hr with
  | nil => exact .nil
  | mk hb hl hn hx => exact .mk (hb.keep k (hs _ rfl)) hl hn hx
theorem Rds.lt {h : AH} {sz n : Nat} {v : Value} {cs : List Value} (hr : Rds h sz v n cs) : ∀ b, rb v b → b < h.length := by
  cases hr with
  | nil => intro b hb; exact hb.elim
  | emp => intro b hb; exact absurd hb.2 (by omega)
  | mk hb hl hx => intro b e; obtain ⟨rfl, _⟩ := e; exact hb.lt
theorem Ows.lt {h : AH} {e : TypeId} {sz n : Nat} {v : Value} {cs : List Value} (hr : Ows h e sz v n cs) : ∀ b, bk v b → b < h.length := by
  cases hr with
  | nil => intro b hb; exact hb.elim
  | mk hb hl hn hx => intro b e; cases e; exact hb.lt

/-- An element of a row that can be read. -/
theorem Rds.at {h : AH} {sz n : Nat} {v : Value} {cs : List Value} (hr : Rds h sz v n cs) {i : Nat} (hi : i < n) : ∃ b o c, v = .slice (some ⟨b, o, none⟩) n c ∧ ∀ j, j < sz → ldc h b (o + i * sz + j) = cs[i * sz + j]? := by
  cases hr with
  | nil => omega
  | emp => omega
  | @mk b o n c all cs hb hl hx =>
    refine ⟨b, o, c, rfl, fun j hj => ?_⟩
    rw [hb.ld, ← hx, List.getElem?_take, if_pos, List.getElem?_drop, Nat.add_assoc]
    have : i * sz + sz ≤ n * sz := by
      have := Nat.mul_le_mul_right sz (show i + 1 ≤ n by omega)
      rw [Nat.add_mul, Nat.one_mul] at this; exact this
    omega

theorem Rds.src {h : AH} {sz n : Nat} {v : Value} {cs : List Value} (hr : Rds h sz v n cs) (ho : cs.all Value.oneCell' = true) : ∃ cs', srcv h sz false v = some (n, cs') ∧ cs' = cs := by
  cases hr with
  | nil => exact ⟨[], rfl, rfl⟩
  | emp => exact ⟨[], rfl, rfl⟩
  | @mk b o n c all cs hb hl hx =>
    by_cases h0 : n = 0
    · subst h0
      refine ⟨[], by simp [srcv], ?_⟩
      rw [← hx]; simp
    · have hb' : hcell h b = some all := hb
      refine ⟨cs, ?_, rfl⟩
      subst hx
      simp only [srcv, Bool.false_eq_true, if_false, h0, hb', Option.bind_some]
      simp only [hl, decide_true, Bool.true_and, ho, if_true]

/-- What is laid behind a row of one's own. -/
theorem Ows.app {h : AH} {e : TypeId} {sz n m bytes : Nat} {str : Bool} {s x : Value} {cs xs : List Value} (ho : Ows h e sz s n cs) (hx : srcv h sz str x = some (m, xs)) (hl : xs.length = m * sz) (h1 : xs.all Value.oneCell' = true)
    (hb : (n + m) * bytes ≤ 140737488355328) (hb2 : n + m ≤ 9223372036854775807) :
    ∃ s' h', appv false h str e sz bytes s x = some (s', h') ∧ Ows h' e sz s' (n + m) (cs ++ xs) ∧ Keep (bk s) h h' ∧ (∀ b, bk s' b → bk s b ∨ h.length ≤ b) := by
  by_cases h0 : m = 0
  · subst h0
    have : xs = [] := List.length_eq_zero_iff.1 (by simpa using hl)
    subst this
    refine ⟨s, h, ?_, by simpa using ho, .refl _ _, fun b hb => .inl hb⟩
    cases ho with
    | nil => simp [appv, hx]
    | mk hb => simp [appv, hx]
  cases ho with
  | nil =>
    refine ⟨.slice (some ⟨h.length, 0, none⟩) m m, h ++ [row e h.length xs], ?_, ?_, .push _ h _, fun b hb => by cases hb; exact .inr (Nat.le_refl _)⟩
    · simp only [Nat.zero_add] at hb hb2
      simp [appv, hx, h0, hb, hb2]
    · rw [Nat.zero_add, List.nil_append]
      exact .mk (Own.new h e _ xs) hl (Nat.le_refl _) (by rw [← hl]; simp)
  | @mk b n c all cs hbl hlen hn hcs =>
    have hlt := hbl.lt
    by_cases hroom : n + m ≤ c
    · have hle : n * sz + xs.length ≤ all.length := by
        rw [hl, hlen, ← Nat.add_mul]; exact Nat.mul_le_mul_right _ hroom
      obtain ⟨h', k1, k2, k3, k4⟩ := hbl.store hle h1
      obtain ⟨g, hbg⟩ := hbl
      refine ⟨.slice (some ⟨b, 0, none⟩) (n + m) c, h', ?_, ?_, k3.mono fun q hq => hq, fun q hq => .inl hq⟩
      · simp only [appv, hx, Option.bind_some, h0, if_false, hbg, hroom, if_true, Nat.zero_add, k1, Option.map_some]
        rw [if_pos (by simp; rw [hlen]; exact Nat.mul_le_mul_right _ hn)]
      · refine .mk k2 ?_ hroom ?_
        · simp only [List.length_append, List.length_take, List.length_drop]
          omega
        · have e1 : (all.take (n * sz)).length = n * sz := by simp; omega
          rw [Nat.add_mul, List.take_append_of_le_length (by simp; omega), ← hl]
          rw [List.take_of_length_le (by simp; omega)]
          rw [hcs]
    · obtain ⟨g, hbg⟩ := hbl
      have hle : n * sz ≤ all.length := by rw [hlen]; exact Nat.mul_le_mul_right _ hn
      refine ⟨.slice (some ⟨h.length, 0, none⟩) (n + m) (n + m), hprep false h b true g 0 e all (n * sz) ++ [.cells true true h.length 0 e (cs ++ xs)], ?_, ?_, ?_, fun q hq => by cases hq; exact .inr (Nat.le_refl _)⟩
      · simp only [appv, hx, Option.bind_some, h0, if_false, hbg, hroom, Nat.zero_add]
        rw [if_pos (by simp; exact hle)]
        simp [hb, hb2, hcs]
      · refine .mk (all := cs ++ xs) ⟨h.length, ?_⟩ ?_ (Nat.le_refl _) ?_
        · rw [List.getElem?_append_right (by simp [hprep_len])]
          simp [hprep_len]
        · have : cs.length = n * sz := by rw [← hcs]; simp; omega
          simp [this, hl, Nat.add_mul]
        · have : cs.length = n * sz := by rw [← hcs]; simp; omega
          rw [List.take_of_length_le (by simp [this, hl, Nat.add_mul])]
      · refine ⟨by simp [hprep_len], fun q hq hs => ?_⟩
        rw [List.getElem?_append_left (by rw [hprep_len]; exact hq)]
        simp only [hprep, if_true, Bool.false_eq_true, if_false]
        rw [List.getElem?_set_ne (fun h => hs h.symm)]

end Go.Eng

/- The engine, part 33: arguments that are read: what they hold, in an abstract heap. -/
set_option linter.unusedVariables false
set_option linter.unusedSimpArgs false
namespace Go.Eng

/-- What cells hold. -/
inductive Rd' {H : Type} (P : Program) (h : AH) : TypeId → List Value → DataW H → Prop where
  | bool {t : TypeId} (hu : P.underlying t = some .bool) (b : Bool) : Rd' P h t [.bool b] (.lit (.bool b))
  | int {t : TypeId} {k : IntKind} (hu : P.underlying t = some (.int k)) (n : Int) (hw : (Lit.int k n).wf = true) : Rd' P h t [.int k n] (.lit (.int k n))
  | str {t : TypeId} (hu : P.underlying t = some .string) (s : ByteArray) (hs : s.size ≤ maxLen) : Rd' P h t [.string s] (.lit (.string s.data.toList))
  | snil {t e : TypeId} (hu : P.underlying t = some (.slice e)) : Rd' P h t [.slice none 0 0] .nil
  | sempty {t e : TypeId} (hu : P.underlying t = some (.slice e)) {b : Nat} : Rd' P h t [.slice (some ⟨b, 0, none⟩) 0 0] (.slice [] [])
  | slice {t e : TypeId} (hu : P.underlying t = some (.slice e)) {b n : Nat} {css : List (List Value)} {ds rest : List (DataW H)} (hc : hcell h b = some css.flatten) (he : helem h b = some e) (hn : css.length = n) (hd : ds.length = n) (hm : n ≤ maxLen)
      (hsz : ∀ cs ∈ css, cs.length = P.cellsOf e) (each : ∀ (i : Nat) (cs : List Value) (d : DataW H), css[i]? = some cs → ds[i]? = some d → Rd' P h e cs d) : Rd' P h t [.slice (some ⟨b, 0, none⟩) n n] (.slice ds rest)
  | struct {t : TypeId} {fs : Array Field} (hu : P.underlying t = some (.struct fs)) {cs : List Value} (hl : cs.length = P.cellsOf t) {ds : List (DataW H)} (hd : ds.length = fs.size)
      (each : ∀ (i : Nat) (f : Field) (d : DataW H), fs[i]? = some f → ds[i]? = some d → Rd' P h f.type ((cs.drop f.offset).take (P.cellsOf f.type)) d) : Rd' P h t cs (.agg ds)
  | array {t e : TypeId} {n : Nat} (hu : P.underlying t = some (.array n e)) {cs : List Value} (hl : cs.length = P.cellsOf t) {ds : List (DataW H)} (hd : ds.length = n)
      (each : ∀ (i : Nat) (d : DataW H), ds[i]? = some d → Rd' P h e ((cs.drop (i * P.cellsOf e)).take (P.cellsOf e)) d) : Rd' P h t cs (.agg ds)

section
variable {H : Type} {enc : TypeId × Value → H} {P : Program} {W : World}

/-- An abstract heap of blocks that are only read. -/
structure Dr (P : Program) (W : World) (h : AH) (r : Rho) : Prop where
  hr : HR P r h W.heap
  ro : ∀ (b : Nat) (B : Blk), h[b]? = some B → B.wr = false
def Ex (P : Program) (W : World) (h : AH) (r : Rho) (h' : AH) (r' : Rho) : Prop := Dr P W h' r' ∧ r.le r' ∧ ∃ x, h' = h ++ x
theorem Ex.refl {h : AH} {r : Rho} (d : Dr P W h r) : Ex P W h r h r := ⟨d, .refl r, [], by simp⟩
theorem Ex.trans {h h1 h2 : AH} {r r1 r2 : Rho} (a : Ex P W h r h1 r1) (b : Ex P W h1 r1 h2 r2) : Ex P W h r h2 r2 := by
  obtain ⟨_, a2, x, rfl⟩ := a
  obtain ⟨b1, b2, y, rfl⟩ := b
  exact ⟨b1, a2.trans b2, x ++ y, by simp⟩

theorem Dr.push {h : AH} {r : Rho} (d : Dr P W h r) {x : Loc} {solo : Bool} {e : TypeId} {cs : List Value} (hx : x.blk < W.heap.size) (hb : BO P (r.upd h.length x) x (.cells false solo h.length 0 e cs) W.heap[x.blk]?) :
    Ex P W h r (h ++ [.cells false solo h.length 0 e cs]) (r.upd h.length x) ∧ (r.upd h.length x) h.length = some x := by
  have hf : r h.length = none := by
    cases hr : r h.length with
    | none => rfl
    | some y => have := (d.hr.dom _ _ hr).1; omega
  have hle := Rho.le_upd hf x
  refine ⟨⟨⟨⟨fun b y hy => ?_, fun b B hB hl => ?_, fun b b' B B' y y' h1 h2 hne hw => ?_, d.hr.lay, fun g b B y _ h1 hw => ?_⟩, fun b B hB => ?_⟩, hle, _, rfl⟩, Rho.upd_same _ _ _⟩
  · unfold Rho.upd at hy
    split at hy
    · rename_i e; cases hy; subst e; exact ⟨by simp, hx⟩
    · have := d.hr.dom b y hy; exact ⟨by simp; omega, this.2⟩
  · rw [List.getElem?_append] at hB
    split at hB
    · obtain ⟨y, h1, h2⟩ := d.hr.blk b B hB hl
      exact ⟨y, hle _ _ h1, h2.mono hle⟩
    · rename_i hge
      by_cases e : b = h.length
      · subst e; simp at hB; subst hB; exact ⟨x, Rho.upd_same _ _ _, hb⟩
      · rw [List.getElem?_eq_none (by simp; omega)] at hB; cases hB
  · exfalso
    rw [List.getElem?_append] at h1
    split at h1
    · rw [d.ro b B h1] at hw; cases hw
    · rename_i hge
      by_cases e : b = h.length
      · subst e; simp at h1; subst h1; cases hw
      · rw [List.getElem?_eq_none (by simp; omega)] at h1; cases h1
  · exfalso
    rw [List.getElem?_append] at h1
    split at h1
    · rw [d.ro b B h1] at hw; cases hw
    · rename_i hge
      by_cases e : b = h.length
      · subst e; simp at h1; subst h1; cases hw
      · rw [List.getElem?_eq_none (by simp; omega)] at h1; cases h1
  · rw [List.getElem?_append] at hB
    split at hB
    · exact d.ro b B hB
    · rename_i hge
      by_cases e : b = h.length
      · subst e; simp at hB; subst hB; rfl
      · rw [List.getElem?_eq_none (by simp; omega)] at hB; cases hB

end
end Go.Eng

/- The engine, part 34: the door: a law of arguments that are read. -/
set_option linter.unusedVariables false
set_option linter.unusedSimpArgs false
namespace Go.Eng
open Go.RowKit Go.ChangeShapes

section
variable {H : Type} {enc : TypeId × Value → H} {P : Program} {W : World}

theorem Dr.empty (hT : TabOk P W.heap) : Dr P W [] (fun _ => none) := ⟨HR.empty P W.heap hT, fun b B h => by simp at h⟩

/-- A law that holds of abstract arguments holds of the model's. -/
theorem Gets.law (hP : noGoroutines P = true) {f : FuncId} {fn : Func} (hf : P.funcs[f]? = some fn) (hb : fn.body.isSome = true) {h : AH} {r : Rho} {avs : List Value} {args : Array Value} (hg : Gets P f avs h fun res _ => res = .ret (.bool true)) (hd : Dr P W h r) (hv : VL r avs args.toList) :
    Calls P f args W fun e W' => e = .returned (.bool true) ∧ Below W.heap.size W W' := by
  obtain ⟨res, h', h1, h2, rfl⟩ := hg
  obtain ⟨c, hc⟩ := Option.isSome_iff_exists.mp hb
  refine Calls.mono (Holds.calls hP hf hc h1 hd.hr hv) fun e w' he => ?_
  obtain ⟨v', r', rfl, st, hvr⟩ := he
  exact ⟨by rw [hvr.bool_inv], st.below' hd.ro⟩

end
end Go.Eng

/- The engine, part 35: the machine, more rules. -/
set_option linter.unusedVariables false
set_option linter.unusedSimpArgs false
namespace Go.Eng

theorem vs1 {v : Value} : (#[v] : Array Value).size = 1 := rr rfl
theorem ldn {n : Nat} : ([] : List Value).drop n = [] := by cases n <;> rfl
section
variable {P : Program} {keep : Bool} {nm : List Nat} {Φ : Out → PS → Prop} {c : Cn} {k : List Fm} {e l : PE} {h : AH} {ds : List Dfr} {d : D}
end

end Go.Eng

/- The engine, part 36: how much arguments hold together. -/
set_option linter.unusedVariables false
set_option linter.unusedSimpArgs false
namespace Go.Eng

/-- A count of values and letters. -/
structure Bulk (H : Type) where
  f : DataW H → Nat
  fa : List (DataW H) → Nat
  one : ∀ d, 1 ≤ f d
  str : ∀ l, f (.lit (.string l)) = l.length + 1
  sl : ∀ a b, f (.slice a b) = fa a + fa b + 1
  ag : ∀ a, f (.agg a) = fa a + 1
  nil : fa [] = 0
  cons : ∀ d r, fa (d :: r) = f d + fa r

theorem Bulk.part {H : Type} (B : Bulk H) {d : DataW H} {l : List (DataW H)} (h : d ∈ l) : B.f d ≤ B.fa l := by
  induction l with
  | nil => cases h
  | cons x r ih =>
    rw [B.cons]
    cases List.mem_cons.1 h with
    | inl e => subst e; omega
    | inr e => have := ih e; omega
theorem Bulk.len {H : Type} (B : Bulk H) (l : List (DataW H)) : l.length ≤ B.fa l := by
  induction l with
  | nil => simp
  | cons x r ih => have := B.one x; rw [B.cons, List.length_cons]; omega
theorem Bulk.elem {H : Type} (B : Bulk H) {a b : List (DataW H)} {i : Nat} {d : DataW H} (h : a[i]? = some d) : B.f d ≤ B.f (.slice a b) := by
  have := B.part (List.mem_of_getElem? h)
  rw [B.sl]; omega
theorem Bulk.field {H : Type} (B : Bulk H) {a : List (DataW H)} {i : Nat} {d : DataW H} (h : a[i]? = some d) : B.f d ≤ B.f (.agg a) := by
  have := B.part (List.mem_of_getElem? h)
  rw [B.ag]; omega
end Go.Eng

/- The engine, part 37: functions with one deferred function that recovers. -/
set_option linter.unusedVariables false
set_option linter.unusedSimpArgs false
namespace Go.Eng

section
variable {P : Program} {keep : Bool} {nm : List Nat} {r r' : Rho} {s : PS} {a : Act} {w w' : World} {N : Nat}

theorem SP.later (hs : SP P nm N r s a w) {h' : AH} (st : Stp P r s.h w r' h' w') : SP P nm N r' ⟨s.e, s.l, h', []⟩ { a with defers := [] } w' :=
  ⟨fun t v h => let ⟨u, h1, h2⟩ := hs.e t v h; ⟨u, h1, h2.mono st.le⟩, fun t v h => let ⟨u, h1, h2⟩ := hs.l t v h; ⟨u, h1, h2.mono st.le⟩, hs.en, hs.ln, hs.sz, st.hr, trivial⟩

end
end Go.Eng

/- The engine, part 38: the machine's form of functions with a deferred function. -/
set_option linter.unusedVariables false
set_option linter.unusedSimpArgs false
namespace Go.Eng
section
variable {P : Program} {keep : Bool} {nm : List Nat}

end
end Go.Eng

/- The engine, part 39: rows of numbers and of structs of numbers; what is said of them in contracts. -/
set_option linter.unusedVariables false
set_option linter.unusedSimpArgs false
namespace Go.Eng

abbrev iv (n : Int) : Value := .int .i64 n

/-- Numbers as cells. -/
def ns (xs : List Int) : List Value := xs.map iv
end Go.Eng

/- The engine, part 40: maps of numbers. -/
set_option linter.unusedVariables false
set_option linter.unusedSimpArgs false
namespace Go.Eng

/-- A map's entries. -/
def mp (l : List (Int × Int)) : List (Value × Value) := l.map fun p => (iv p.1, iv p.2)
section
variable {P : Program} {kt : TypeId}
/-- A map of one's own. -/
def MOwn (h : AH) (b : Nat) (l : List (Int × Int)) : Prop := h[b]? = some (.map (mp l))
theorem MOwn.lt {h : AH} {b : Nat} {l : List (Int × Int)} (m : MOwn h b l) : b < h.length := (List.getElem?_eq_some_iff.1 m).1
theorem MOwn.keep {S : Nat → Prop} {h h' : AH} {b : Nat} {l : List (Int × Int)} (m : MOwn h b l) (k : Keep S h h') (hs : ¬ S b) : MOwn h' b l := k.get m hs
theorem MOwn.new (h : AH) : MOwn (h ++ [.map []]) h.length [] := by simp [MOwn, mp]

end
end Go.Eng

/- The engine, part 41: what arguments hold. -/
set_option linter.unusedVariables false
set_option linter.unusedSimpArgs false
namespace Go.Eng

section
variable {P : Program} {H : Type} {h : AH}

end
end Go.Eng

/- The engine, part 42: a run in which some tests are said ahead: what they come to is shown by hand. -/
set_option linter.unusedVariables false
set_option linter.unusedSimpArgs false
namespace Go.Eng
open Go.RowKit

/-- All tests came to what was said. -/
def Said (q : List (Value × Bool)) : Prop := ∀ p, p ∈ q → p.1 = .bool p.2
theorem Said.l {q q' : List (Value × Bool)} (h : Said (q ++ q')) : Said q := fun p hp => h p (List.mem_append_left _ hp)
theorem Said.r {q q' : List (Value × Bool)} (h : Said (q ++ q')) : Said q' := fun p hp => h p (List.mem_append_right _ hp)

/-- A run that returns true, if its tests came to what was said: the tests. -/
def tests (P : Program) (rs : List ResultVar) : Option (Out × St × List (Value × Bool)) → Option (List (Value × Bool))
  | some (.ret, ⟨env, h, []⟩, q) => match ares P env h rs with
    | some [.bool true] => some q
    | _ => none
  | _ => none
end Go.Eng

/- The engine, part 43: functions without a body. -/
set_option linter.unusedVariables false
set_option linter.unusedSimpArgs false
namespace Go.Eng

end Go.Eng

/- The engine, part 44: contracts that are proved elsewhere. -/
set_option linter.unusedVariables false
set_option linter.unusedSimpArgs false
namespace Go.Eng
open Go.RowKit

end Go.Eng

/- The engine, part 45: a region that draws its order, by what holds between its operations. -/
set_option linter.unusedVariables false
set_option linter.unusedSimpArgs false
namespace Go.Eng

end Go.Eng

/- The engine, part 46: regions that draw their order: the text's order turned, so that blocks are laid as late as may be. -/
set_option linter.unusedVariables false
set_option linter.unusedSimpArgs false
namespace Go.Eng
open Go.RowKit

/-- An operation of a region whose operations stand in another order. -/
def reOp (inv : List Nat) (o : Oper) : Oper := { o with after := o.after.map fun e => { e with on := (inv[e.on]?).getD e.on }, guard := o.guard.map fun p => ((inv[p.1]?).getD p.1, p.2) }
def reOps (sg inv : List Nat) (ops : Array Oper) : Array Oper := (sg.map fun k => reOp inv ((ops[k]?).getD default)).toArray
def permOk (n : Nat) (sg inv : List Nat) : Bool := sg.length == n && inv.length == n && (List.range n).all fun k => ((sg[k]?).bind (inv[·]?)) == some k && ((inv[k]?).bind (sg[·]?)) == some k

structure Perm (n : Nat) (sg inv : List Nat) : Prop where
  ls : sg.length = n
  li : inv.length = n
  si : ∀ (k i : Nat), sg[k]? = some i → inv[i]? = some k
  is : ∀ (i k : Nat), inv[i]? = some k → sg[k]? = some i
theorem permOk_inv {n : Nat} {sg inv : List Nat} (h : permOk n sg inv = true) : Perm n sg inv := by
  simp only [permOk, Bool.and_eq_true, beq_iff_eq, List.all_eq_true, List.mem_range] at h
  obtain ⟨⟨h1, h2⟩, h3⟩ := h
  refine ⟨h1, h2, fun k i hk => ?_, fun i k hi => ?_⟩
  · have hlt := (List.getElem?_eq_some_iff.1 hk).1
    have := (h3 k (by omega)).1
    rw [hk, Option.bind_some] at this
    exact this
  · have hlt := (List.getElem?_eq_some_iff.1 hi).1
    have := (h3 i (by omega)).2
    rw [hi, Option.bind_some] at this
    exact this

section
variable {P : Program} {ops : Array Oper} {Q : Exit → Act → World → Prop} {md : Region.Mode} {sg inv : List Nat}

theorem reOps_size (hp : Perm ops.size sg inv) : (reOps sg inv ops).size = ops.size := by simp [reOps, hp.ls]
theorem reOps_get (hp : Perm ops.size sg inv) {i k : Nat} (h : sg[k]? = some i) : (reOps sg inv ops)[k]? = (ops[i]?).map (reOp inv) := by
  have hi := hp.si k i h
  have hlt : i < ops.size := by have := (List.getElem?_eq_some_iff.1 hi).1; have := hp.li; omega
  simp [reOps, h, Array.getElem?_eq_getElem hlt]
theorem reOps_none (hp : Perm ops.size sg inv) {j : Nat} (h : inv[j]? = none) : (reOps sg inv ops)[j]? = none ∧ ops[j]? = none := by
  have := List.getElem?_eq_none_iff.1 h
  have h2 := reOps_size hp
  have := hp.li
  exact ⟨Array.getElem?_eq_none (by omega), Array.getElem?_eq_none (by omega)⟩
theorem reOps_yield (hp : Perm ops.size sg inv) (t : Array Value) (j : Nat) : yielded (reOps sg inv ops) t ((inv[j]?).getD j) = yielded ops t j := by
  unfold yielded
  cases hj : inv[j]? with
  | none =>
    obtain ⟨e1, e2⟩ := reOps_none hp hj
    rw [Option.getD_none, e1, e2]
  | some k =>
    rw [Option.getD_some, reOps_get hp (hp.is j k hj)]
    cases ops[j]? <;> rfl
theorem reOp_wanted (hp : Perm ops.size sg inv) (t : Array Value) (o : Oper) : Region.wanted (reOp inv o) (yielded (reOps sg inv ops) t) = Region.wanted o (yielded ops t) := by
  unfold Region.wanted
  obtain ⟨dst, op, type, pos, after, guard⟩ := o
  cases guard with
  | none => rfl
  | some p =>
    simp only [reOp, Option.map_some]
    rw [reOps_yield hp]
theorem wpOp_re (hp : Perm ops.size sg inv) {i k : Nat} (h : sg[k]? = some i) {K : Act → World → Prop} {a : Act} {w : World} (hw : wpOp P (reOps sg inv ops) Q k K a w) : wpOp P ops Q i K a w := by
  unfold wpOp at hw ⊢
  rw [reOps_get hp h] at hw
  cases ho : ops[i]? with
  | none => rw [ho] at hw; exact hw
  | some o =>
    rw [ho] at hw
    simp only [Option.map_some] at hw ⊢
    rw [reOp_wanted hp] at hw
    exact hw

/-- What has been done, in both orders. -/
def Same' (sg : List Nat) (L L' : Array Bool) : Prop := ∀ (k i : Nat), sg[k]? = some i → ∀ b, L'.getD k b = L.getD i b
theorem mem_rdy {L : Array Bool} {i : Nat} : i ∈ Region.ready md ops L ↔ i < ops.size ∧ L.getD i true = false ∧ ((ops[i]?).map (·.after.all fun e => !Region.binds md e || L.getD e.on false)).getD false = true := by
  unfold Region.ready
  rw [List.mem_filter, List.mem_range, Bool.and_eq_true, Bool.not_eq_true']
theorem ready_re (hp : Perm ops.size sg inv) {L L' : Array Bool} (hs : L.size = ops.size) (hs' : L'.size = ops.size) (hL : Same' sg L L') {i k : Nat} (h : sg[k]? = some i) : k ∈ Region.ready md (reOps sg inv ops) L' ↔ i ∈ Region.ready md ops L := by
  have hi := hp.si k i h
  have h1 : i < ops.size := by have := (List.getElem?_eq_some_iff.1 hi).1; have := hp.li; omega
  have h2 : k < (reOps sg inv ops).size := by have := (List.getElem?_eq_some_iff.1 h).1; have := hp.ls; rw [reOps_size hp]; omega
  rw [mem_rdy, mem_rdy, hL k i h, reOps_get hp h]
  have e : ((ops[i]?.map (reOp inv)).map (·.after.all fun e => !Region.binds md e || L'.getD e.on false)).getD false = ((ops[i]?).map (·.after.all fun e => !Region.binds md e || L.getD e.on false)).getD false := by
    cases ho : ops[i]? with
    | none => rfl
    | some o =>
      simp only [Option.map_some, Option.getD_some, reOp, Array.all_map]
      congr 1
      funext e
      simp only [Function.comp]
      have hb : Region.binds md { e with on := (inv[e.on]?).getD e.on } = Region.binds md e := rfl
      rw [hb]
      congr 1
      cases hj : inv[e.on]? with
      | none =>
        have := List.getElem?_eq_none_iff.1 hj
        have := hp.li
        rw [Option.getD_none, Array.getD_eq_getD_getElem?, Array.getD_eq_getD_getElem?, Array.getElem?_eq_none (by omega), Array.getElem?_eq_none (by omega)]
      | some j => rw [Option.getD_some]; exact hL j e.on (hp.is _ _ hj) false
  rw [e]
  exact ⟨fun x => ⟨h1, x.2⟩, fun x => ⟨h2, x.2⟩⟩
theorem ready_nil (hp : Perm ops.size sg inv) {L L' : Array Bool} (hs : L.size = ops.size) (hs' : L'.size = ops.size) (hL : Same' sg L L') (h : Region.ready md ops L = []) : Region.ready md (reOps sg inv ops) L' = [] := by
  cases hr : Region.ready md (reOps sg inv ops) L' with
  | nil => rfl
  | cons k r =>
    have hk : k ∈ Region.ready md (reOps sg inv ops) L' := by rw [hr]; exact List.mem_cons_self
    have h2 := (mem_rdy.1 hk).1
    rw [reOps_size hp] at h2
    obtain ⟨i, hi⟩ : ∃ i, sg[k]? = some i := ⟨_, List.getElem?_eq_getElem (by have := hp.ls; omega)⟩
    have := (ready_re hp hs hs' hL hi).1 hk
    rw [h] at this; cases this
theorem wpAny_re (hp : Perm ops.size sg inv) : ∀ (fuel : Nat) (L L' : Array Bool) (a : Act) (w : World), L.size = ops.size → L'.size = ops.size → Same' sg L L' → wpAny P md (reOps sg inv ops) Q fuel L' a w → wpAny P md ops Q fuel L a w := by
  intro fuel
  induction fuel with
  | zero =>
    intro L L' a w hs hs' hL hw
    refine ⟨?_, hw.2⟩
    cases hr : Region.ready md ops L with
    | nil => rfl
    | cons i r =>
      have hi : i ∈ Region.ready md ops L := by rw [hr]; exact List.mem_cons_self
      have h1 := (mem_rdy.1 hi).1
      obtain ⟨k, hk⟩ : ∃ k, inv[i]? = some k := ⟨_, List.getElem?_eq_getElem (by have := hp.li; omega)⟩
      have := (ready_re hp hs hs' hL (hp.is i k hk)).2 hi
      rw [hw.1] at this; cases this
  | succ fuel ih =>
    intro L L' a w hs hs' hL hw
    refine ⟨fun hn => hw.1 (ready_nil hp hs hs' hL hn), fun i hi => ?_⟩
    have h1 := (mem_rdy.1 hi).1
    obtain ⟨k, hk⟩ : ∃ k, inv[i]? = some k := ⟨_, List.getElem?_eq_getElem (by have := hp.li; omega)⟩
    have hsk := hp.is i k hk
    have hwk := hw.2 k ((ready_re hp hs hs' hL hsk).2 hi)
    refine wpOp_re hp hsk (wpOp_mono (fun a w hx => ?_) hwk)
    refine ih _ _ a w (by simpa using hs) (by simpa using hs') (fun k2 i2 h2 b => ?_) hx
    have hk2 := (List.getElem?_eq_some_iff.1 h2).1
    have hi2 := (List.getElem?_eq_some_iff.1 (hp.si _ _ h2)).1
    have hkl := (List.getElem?_eq_some_iff.1 hsk).1
    have := hp.ls
    have := hp.li
    by_cases e : i = i2
    · subst e
      have e2 : k2 = k := by have := hp.si _ _ h2; rw [hk] at this; cases this; rfl
      subst e2
      simp [Array.getD_eq_getD_getElem?, show k2 < L'.size by omega, show i < L.size by omega]
    · have e2 : k ≠ k2 := by rintro rfl; rw [hsk] at h2; cases h2; exact e rfl
      rw [getD_set_ne b e, getD_set_ne b e2]
      exact hL k2 i2 h2 b
end

/-- The order in which blocks are laid as late as may be. -/
def lateGo (al : Nat → Bool) (A : List Nat) : List Nat → List Nat → List Nat → List Nat
  | [], d, acc => acc ++ d
  | i :: l, d, acc => if al i then lateGo al A l (d ++ [i]) acc else lateGo al A l (d.filter fun j => !bit A i j) (acc ++ d.filter (fun j => bit A i j) ++ [i])
def lateSg (ops : Array Oper) : List Nat := lateGo (fun i => ((ops[i]?).map allocOp).getD false) (ancs ops.toList) (List.range ops.size) [] []
def invOf (n : Nat) (sg : List Nat) : List Nat := (List.range n).map fun i => sg.findIdx (· == i)

/-- Regions that draw their order; where the text's order won't do, the other one. -/
def adrawL (P : Program) (keep : Bool) (F : FT) : DT := fun ops s =>
  match adraw P keep F ops s with
  | some x => some x
  | none =>
    let sg := lateSg ops
    let inv := invOf ops.size sg
    if permOk ops.size sg inv then adraw P keep F (reOps sg inv ops) s else none

theorem adrawL_ok {P : Program} (hm : P.follows .mixedOrders = true) {keep : Bool} {F : FT} (hF : FOk P F) : DOk P (adrawL P keep F) := by
  intro ops s s' out he r a w id Q hs hQ
  unfold adrawL at he
  split at he
  · rename_i x hx
    cases he
    exact adraw_ok hm hF ops s s' out hx r a w id Q hs hQ
  · simp only at he
    split at he
    · rename_i hp
      have hp := permOk_inv hp
      unfold adraw at he
      split at he
      case h_2 => cases he
      case h_1 trs fin htr =>
        split at he
        case isFalse => cases he
        case isTrue hc =>
          simp only [Bool.and_eq_true] at hc
          obtain ⟨⟨⟨ht, hc⟩, hfl⟩, hrd⟩ := hc
          refine wp_region_any hm ?_
          have hd := drawP_any hm hF htr ht hc hfl (readsOk_P hrd) (out := out) (s' := s') (by cases fin <;> (cases he; rfl)) r a w Q hs hQ
          rw [reOps_size hp] at hd
          refine wpAny_re hp ops.size _ _ a _ (by simp) (by simp) (fun k i h b => ?_) hd
          have hk := (List.getElem?_eq_some_iff.1 h).1
          have hi := (List.getElem?_eq_some_iff.1 (hp.si _ _ h)).1
          have := hp.ls
          have := hp.li
          simp [Array.getD_eq_getD_getElem?, show k < ops.size by omega, show i < ops.size by omega]
    · cases he

theorem calls_trueL {P : Program} {f : FuncId} {fn : Func} {keep : FuncId → Bool} {n fuel : Nat} (hP : noGoroutines P = true) (hm : P.follows .mixedOrders = true) (hf : P.funcs[f]? = some fn) (hb : fn.body.isSome = true)
    (he : isTrue (afun P (adrawL P false) keep fuel n f [] [] none) = true) (w : World) (hT : TabOk P w.heap) :
    Calls P f #[] w fun e w' => e = .returned (.bool true) ∧ Below w.heap.size w w' := by
  obtain ⟨h', he⟩ := isTrue_inv he
  obtain ⟨c, hc⟩ := Option.isSome_iff_exists.mp hb
  refine Calls.mono ((afun_ok hP (fun F hF => adrawL_ok hm hF) n).calls hP hf hc he (HR.empty P w.heap hT) (VL.nil _)) fun e w' h => ?_
  obtain ⟨v', r', rfl, st, hv⟩ := h
  exact ⟨by rw [hv.bool_inv], st.below⟩
end Go.Eng

/- Tokens: package variables that are laid. -/
set_option linter.unusedVariables false
set_option linter.unusedSimpArgs false
namespace Go.S11
open Go Go.Eng Go.Proofs Go.Proofs.YtnkbbpmcjopicaaDoor

theorem var_heap {P : Program} {W : World} {n : String} {g : Nat} {cs : Array Value} (hg : P.globalNamed n = some g) (h : W.var? P n = some cs) : ∃ e fr, W.heap[g]? = some (.cells cs e fr) := by
  simp only [World.var?, hg, Option.bind_some] at h
  split at h
  · cases h; exact ⟨_, _, by assumption⟩
  · cases h

def laidL : List (String × DataW Unit) := [("math/bits.deBruijn32tab", Rows.laid_math_bits_deBruijn32tab), ("math/bits.deBruijn64tab", Rows.laid_math_bits_deBruijn64tab), ("internal/strconv.uint64pow10", Rows.laid_internal_strconv_uint64pow10)]

theorem gPow : Tryd.prog.globalNamed "internal/strconv.uint64pow10" = some 0 := by kernel_rfl
theorem tPow : (Tryd.prog.globals[0]?).map (·.type) = some 136 := by kernel_rfl
theorem uPow : Tryd.prog.underlying 136 = some (.array 20 125) := by kernel_rfl
theorem uU64 : Tryd.prog.underlying 125 = some (.int .u64) := by kernel_rfl
theorem cPow : Tryd.prog.cellsOf 136 = 20 := by kernel_rfl
theorem cU64 : Tryd.prog.cellsOf 125 = 1 := by kernel_rfl
theorem gsz : Tryd.prog.globals.size = 4 := by kernel_rfl
theorem tab0 : Tab Tryd.prog 0 = some ((List.range 20).map fun i => Value.int .u64 (10 ^ i)) := by kernel_rfl
theorem tab1 : Tab Tryd.prog 1 = none := by kernel_rfl
theorem tab2 : Tab Tryd.prog 2 = none := by kernel_rfl
theorem tab3 : Tab Tryd.prog 3 = none := by kernel_rfl
theorem powD : (Rows.laid_internal_strconv_uint64pow10 : DataW Unit) = .agg ((List.range 20).map fun i => .lit (.int .u64 (10 ^ i))) := by rfl

set_option maxRecDepth 100000 in
theorem tab_of_laid {W : World} (h : laidMetH Tryd.prog laidL W) : TabOk Tryd.prog W.heap := by
  rw [MakeChecks.laidMetH_plain _ _ _ (by kernel_rfl)] at h
  obtain ⟨ps, ⟨_, _, _, _, _, _, _, _, _, _, ⟨_, _, _, _, _, _, _, _, _, _, ⟨g3, t3, cs3, f3, p3, q3, hg3, ht3, hv3, hd3, _, _⟩, _⟩, _⟩, _, _⟩ := h
  obtain rfl := Option.some.inj (gPow.symm.trans hg3)
  obtain rfl := Option.some.inj (tPow.symm.trans ht3)
  obtain ⟨e3, fr3, hh3⟩ := var_heap hg3 hv3
  intro g cs hg
  match g, hg with
  | 0, hg =>
    rw [tab0] at hg; cases hg
    refine ⟨cs3, e3, fr3, hh3, ?_⟩
    obtain ⟨xs, m, rfl, hx, hlen, hn, hel⟩ := DataW.trod_array uPow hd3
    rw [cPow] at hlen
    rw [powD] at hx
    simp only [Prod.mk.injEq, DataW.agg.injEq] at hx
    have hkey : ∀ i, i < 20 → cs3.toList[i]? = some (.int .u64 (10 ^ i)) := by
      intro i hi
      have h1 := hel i hi
      rw [cU64, Nat.mul_one, List.getElem?_eq_getElem (by omega)] at h1
      obtain ⟨n, k1, k2, _⟩ := DataW.trod_int uU64 h1
      have h2 := congrArg (fun l => l[i]?) hx.1
      simp only [List.getElem?_map] at h2
      rw [List.getElem?_range hi, List.getElem?_eq_getElem (by omega), Option.map_some, Option.map_some, k2] at h2
      have h3 : n = 10 ^ i := by
        have := Option.some.inj h2
        simp only [DataW.lit.injEq, Lit.int.injEq, true_and] at this
        exact this.symm
      have h4 := congrArg (fun l => l[0]?) k1
      simp only [List.getElem?_take, Nat.zero_lt_one, if_true, List.getElem?_drop, Nat.add_zero] at h4
      rw [h4, h3]; rfl
    refine ⟨by simp [hlen], fun i u v hu hv => ?_⟩
    have hi : i < 20 := by have := (List.getElem?_eq_some_iff.1 hu).1; simpa using this
    rw [hkey i hi] at hv
    cases hv
    rw [List.getElem?_map, List.getElem?_range hi] at hu
    cases hu
    exact .int _ _
  | 1, hg => rw [tab1] at hg; cases hg
  | 2, hg => rw [tab2] at hg; cases hg
  | 3, hg => rw [tab3] at hg; cases hg
  | g + 4, hg =>
    unfold Tab at hg
    rw [Array.getElem?_eq_none (by rw [gsz]; omega)] at hg
    cases hg

/-- The door's own heap meets the condition. -/
theorem door_met (os : Os) (args : Array Value) : laidMetH Tryd.prog laidL ((World.doorLaid Tryd.prog 400 os).forCall (fun _ _ => 0) ⟨#[], args, []⟩).memory :=
  laidMetH_of_parts3 (fuel := 8) (laidMet_of_run' 8 (by kernel_rfl) (by kernel_rfl)) (by kernel_rfl) (by kernel_rfl)
end Go.S11
