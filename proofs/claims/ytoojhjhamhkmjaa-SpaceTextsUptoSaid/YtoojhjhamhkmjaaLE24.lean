/- The engine, part 24: one way through; functions. -/
import Derived.Test.YtoojhjhamhkmjaaLE23
set_option linter.unusedVariables false
set_option linter.unusedSimpArgs false
namespace Go.Eng

/-! ### Heaps grow -/

theorem hstore_len {h h' : AH} {b i : Nat} {vs : List Value} (he : hstore h b i vs = some h') : h'.length = h.length := by
  unfold hstore at he
  split at he
  · split at he
    · cases he; split <;> simp
    · cases he
  · cases he

theorem hprep_len (keep : Bool) (h : AH) (b : Nat) (solo : Bool) (grp del : Nat) (e : TypeId) (cs : List Value) (k : Nat) : (hprep keep h b solo grp del e cs k).length = h.length := by
  unfold hprep; split <;> simp

theorem appv_len {keep : Bool} {h h' : AH} {str : Bool} {e : TypeId} {sz bytes : Nat} {s x v : Value} (he : appv keep h str e sz bytes s x = some (v, h')) : h.length ≤ h'.length := by
  unfold appv at he
  obtain ⟨⟨n, xs⟩, _, he⟩ := Option.bind_eq_some_iff.1 he
  simp only at he
  split at he
  · split at he
    · cases he; exact Nat.le_refl _
    · split at he
      · cases he; simp
      · cases he
  · split at he
    · cases he; exact Nat.le_refl _
    · split at he
      · split at he
        · split at he
          · obtain ⟨h1, h2, h3⟩ := Option.map_eq_some_iff.1 he
            cases h3; rw [hstore_len h2]; exact Nat.le_refl _
          · split at he
            · cases he; simp [hprep_len]
            · cases he
        · cases he
      · cases he
  · cases he

theorem clrv_len {h h' : AH} {z : List Value} {v : Value} (he : clrv h z v = some h') : h.length ≤ h'.length := by
  unfold clrv at he
  split at he
  · cases he; exact Nat.le_refl _
  · split at he
    · cases he; exact Nat.le_refl _
    · rw [hstore_len he]; exact Nat.le_refl _
  · cases he

theorem cpyv_len {h h' : AH} {sz : Nat} {str : Bool} {d s v : Value} (he : cpyv h sz str d s = some (v, h')) : h.length ≤ h'.length := by
  unfold cpyv at he
  obtain ⟨⟨n, xs⟩, _, he⟩ := Option.bind_eq_some_iff.1 he
  simp only at he
  split at he
  · cases he; exact Nat.le_refl _
  · split at he
    · split at he
      · cases he; exact Nat.le_refl _
      · obtain ⟨h1, h2, h3⟩ := Option.map_eq_some_iff.1 he
        cases h3; rw [hstore_len h2]; exact Nat.le_refl _
    · cases he
  · cases he

theorem stv_len {h h' : AH} {n : Nat} {u v : Value} (he : stv h n u v = some h') : h.length ≤ h'.length := by
  unfold stv at he
  split at he
  · split at he
    · rw [hstore_len he]; exact Nat.le_refl _
    · cases he
  · cases he

theorem mup_len {P : Program} {h h' : AH} {t : TypeId} {u k v : Value} (he : wmapUpdate P h t u k v = some h') : h.length ≤ h'.length := by
  unfold wmapUpdate at he
  repeat' (split at he)
  all_goals first
    | (cases he; done)
    | (simp at he; subst he; simp)
    | (obtain ⟨h1, h2, h3⟩ := Option.map_eq_some_iff.1 he; subst h3; simp)
    | (cases he; simp)

/-! ### One way through -/

section
variable {P : Program} {keep : Bool} {nm : List Nat}

/-- An operation goes one way. -/
theorem wpk_one {e l : PE} {h : AH} {K Kp : Value → AH → Prop} : ∀ (k : RK), wpk P keep nm e l h K Kp k →
    (∃ v h', K v h' ∧ h.length ≤ h'.length ∧ ∀ K' Kp' : Value → AH → Prop, K' v h' → wpk P keep nm e l h K' Kp' k) ∨
    (∃ v h', Kp v h' ∧ h.length ≤ h'.length ∧ ∀ K' Kp' : Value → AH → Prop, Kp' v h' → wpk P keep nm e l h K' Kp' k) := by
  have vk : ∀ {x : Option Value} {v : Value} {K : Value → Prop}, x = some v → K v → vK x K := fun h k => by subst h; exact k
  have vsk : ∀ {x : Option (List Value)} {v : List Value} {K : List Value → Prop}, x = some v → K v → vsK x K := fun h k => by subst h; exact k
  have rk : ∀ {x : Option RRes} {res : RRes} {K : Value → AH → Prop}, x = some res → RR res h K → ∃ v h', K v h' ∧ h.length ≤ h'.length ∧ ∀ K' : Value → AH → Prop, K' v h' → rK x h K' := by
    intro x res K h1 h2
    subst h1
    obtain ⟨v, _ | B⟩ := res
    · exact ⟨v, h, h2, Nat.le_refl _, fun _ k => k⟩
    · exact ⟨v, h ++ [B], h2, by simp, fun _ k => k⟩
  intro k hw
  cases k with
  | u f x =>
    obtain ⟨v, h1, hw⟩ := vK_inv hw
    obtain ⟨res, h2, h3⟩ := rK_inv hw
    obtain ⟨v', h', k1, k2, k3⟩ := rk h2 h3
    exact .inl ⟨v', h', k1, k2, fun K' _ q => vk h1 (k3 K' q)⟩
  | b f x y =>
    obtain ⟨u, h1, hw⟩ := vK_inv hw
    obtain ⟨v, h1', hw⟩ := vK_inv hw
    obtain ⟨res, h2, h3⟩ := rK_inv hw
    obtain ⟨v', h', k1, k2, k3⟩ := rk h2 h3
    exact .inl ⟨v', h', k1, k2, fun K' _ q => vk h1 (vk h1' (k3 K' q))⟩
  | pk c a b =>
    obtain ⟨u, h1, hw⟩ := vK_inv hw
    obtain ⟨t, rfl, hw⟩ := bK_inv hw
    rcases br_inv hw with ⟨rfl, hw⟩ | ⟨rfl, hw⟩
    · obtain ⟨v, h2, hw⟩ := vK_inv hw
      exact .inl ⟨v, h, hw, Nat.le_refl _, fun K' _ q => by simp only [wpk, h1, vK, bK, br, h2]; exact q⟩
    · obtain ⟨v, h2, hw⟩ := vK_inv hw
      exact .inl ⟨v, h, hw, Nat.le_refl _, fun K' _ q => by simp only [wpk, h1, vK, bK, br, h2]; exact q⟩
  | bld z ps =>
    obtain ⟨vs, cs, h1, h2, hw⟩ := pK_inv hw
    exact .inl ⟨_, h, hw, Nat.le_refl _, fun K' _ q => by simp only [wpk, pK, h1, h2]; exact q⟩
  | bsl t n z ps =>
    obtain ⟨vs, cs, h1, h2, hw⟩ := pK_inv hw
    exact .inl ⟨_, _, hw, by simp, fun K' _ q => by simp only [wpk, pK, h1, h2]; exact q⟩
  | mkf fn first cap =>
    obtain ⟨fs, h1, hw⟩ := vsK_inv hw
    obtain ⟨cs, h2, hw⟩ := vsK_inv hw
    exact .inl ⟨_, h, hw, Nat.le_refl _, fun K' _ q => vsk h1 (vsk h2 q)⟩
  | al t z => exact .inl ⟨_, _, hw, by simp, fun K' _ q => q⟩
  | mm => exact .inl ⟨_, _, hw, by simp, fun K' _ q => q⟩
  | msl t z bytes x y =>
    obtain ⟨u, h1, hw⟩ := vK_inv hw
    obtain ⟨v, h1', hw⟩ := vK_inv hw
    obtain ⟨res, h2, h3⟩ := rK_inv hw
    obtain ⟨v', h', k1, k2, k3⟩ := rk h2 h3
    exact .inl ⟨v', h', k1, k2, fun K' _ q => vk h1 (vk h1' (k3 K' q))⟩
  | sls x lo hi =>
    obtain ⟨u, h1, hw⟩ := vK_inv hw
    obtain ⟨res, h2, h3⟩ := rK_inv hw
    obtain ⟨v', h', k1, k2, k3⟩ := rk h2 h3
    exact .inl ⟨v', h', k1, k2, fun K' _ q => vk h1 (k3 K' q)⟩
  | sll t sz x lo hi =>
    obtain ⟨u, h1, hw⟩ := vK_inv hw
    obtain ⟨res, h2, h3⟩ := rK_inv hw
    obtain ⟨v', h', k1, k2, k3⟩ := rk h2 h3
    exact .inl ⟨v', h', k1, k2, fun K' _ q => vk h1 (k3 K' q)⟩
  | st n a x =>
    obtain ⟨u, h1, hw⟩ := vK_inv hw
    obtain ⟨v, h1', hw⟩ := vK_inv hw
    obtain ⟨h', h2, hw⟩ := hK_inv hw
    exact .inl ⟨_, h', hw, stv_len h2, fun K' _ q => vk h1 (vk h1' (by rw [h2]; exact q))⟩
  | app str t sz bytes z s x =>
    obtain ⟨u, h1, hw⟩ := vK_inv hw
    obtain ⟨v, h1', hw⟩ := vK_inv hw
    obtain ⟨v', h', h2, hw⟩ := wK_inv hw
    exact .inl ⟨_, h', hw, appv_len h2, fun K' _ q => vk h1 (vk h1' (by rw [h2]; exact q))⟩
  | clr t z x =>
    obtain ⟨u, h1, hw⟩ := vK_inv hw
    obtain ⟨v', h', h2, hw⟩ := wK_inv hw
    obtain ⟨h1', h3, h4⟩ := Option.map_eq_some_iff.1 h2
    cases h4
    exact .inl ⟨_, _, hw, clrv_len h3, fun K' _ q => vk h1 (by rw [h2]; exact q)⟩
  | cpy sz str d s =>
    obtain ⟨u, h1, hw⟩ := vK_inv hw
    obtain ⟨v, h1', hw⟩ := vK_inv hw
    obtain ⟨v', h', h2, hw⟩ := wK_inv hw
    exact .inl ⟨_, h', hw, cpyv_len h2, fun K' _ q => vk h1 (vk h1' (by rw [h2]; exact q))⟩
  | mup t m k x =>
    obtain ⟨u, h1, hw⟩ := vK_inv hw
    obtain ⟨kv, h1', hw⟩ := vK_inv hw
    obtain ⟨v, h1'', hw⟩ := vK_inv hw
    obtain ⟨h', h2, hw⟩ := hK_inv hw
    exact .inl ⟨_, h', hw, mup_len h2, fun K' _ q => vk h1 (vk h1' (vk h1'' (by rw [h2]; exact q)))⟩
  | call f args =>
    obtain ⟨fv, h1, hw⟩ := vK_inv hw
    obtain ⟨as, h2, hw⟩ := vsK_inv hw
    obtain ⟨g, first, cap, res, h', rfl, k1, k2, k3⟩ := hw
    cases k3 with
    | ret k => exact .inl ⟨_, h', k, k2, fun K' _ q => vk h1 (vsk h2 ⟨g, first, cap, _, h', rfl, k1, k2, .ret q⟩)⟩
    | pan k => exact .inr ⟨_, h', k, k2, fun _ Kp' q => vk h1 (vsk h2 ⟨g, first, cap, _, h', rfl, k1, k2, .pan q⟩)⟩
  | dfr => exact hw.elim
  | pan x =>
    obtain ⟨v, h1, hw⟩ := vK_inv hw
    cases v <;> try exact hw.elim
    exact .inr ⟨_, h, hw, Nat.le_refl _, fun _ Kp' q => vk h1 q⟩
  | raw o =>
    obtain ⟨res, h2, h3⟩ := rK_inv hw
    obtain ⟨v', h', k1, k2, k3⟩ := rk h2 h3
    exact .inl ⟨v', h', k1, k2, fun K' _ q => k3 K' q⟩

/-- Code goes one way. -/
theorem gK_one {g : Option (RX × Bool)} {e l : PE} {A B : Prop} (h : gK g e l A B) : (A ∧ ∀ A' B' : Prop, A' → gK g e l A' B') ∨ (B ∧ ∀ A' B' : Prop, B' → gK g e l A' B') := by
  cases g with
  | none => exact .inl ⟨h, fun _ _ q => q⟩
  | some p =>
    obtain ⟨x, want⟩ := p
    obtain ⟨v, h1, h⟩ := vK_inv h
    obtain ⟨b, rfl, h⟩ := bK_inv h
    rcases br_inv h with ⟨h2, h⟩ | ⟨h2, h⟩
    · exact .inl ⟨h, fun A' B' q => by simp only [gK, vK, h1, bK, br, h2]; exact q⟩
    · exact .inr ⟨h, fun A' B' q => by simp only [gK, vK, h1, bK, br, h2]; exact q⟩

theorem wpr_one {Φ : Out → PS → Prop} : ∀ (rl : List RO) (e l : PE) (h : AH) (ds : List Dfr), wpr P keep nm Φ rl e l h ds →
    ∃ out s', Φ out s' ∧ h.length ≤ s'.h.length ∧ ∀ Φ' : Out → PS → Prop, Φ' out s' → wpr P keep nm Φ' rl e l h ds := by
  intro rl
  induction rl with
  | nil => intro e l h ds hw; exact ⟨_, _, hw, Nat.le_refl _, fun _ q => q⟩
  | cons o os ih =>
    intro e l h ds hw
    rcases gK_one hw with ⟨h1, h2⟩ | ⟨h1, h2⟩
    · by_cases hdf : ∃ f args, o.k = .dfr f args
      · obtain ⟨f, args, hk⟩ := hdf
        rw [hk] at h1
        obtain ⟨fn, first, cap, as, e1, e2, e3⟩ := wpo_dfr h1
        obtain ⟨out, s', k1, k2, k3⟩ := ih _ _ _ _ e3
        refine ⟨out, s', k1, k2, fun Φ' q => h2 _ _ ?_⟩
        rw [hk]
        simp only [wpo, vK, e1, vsK, e2, dK]
        exact k3 Φ' q
      · have hw' : wpk P keep nm e l h (fun v h' => wpr P keep nm Φ os (pe o.d e v) (pl o.d l v) h' ds) (fun v h' => Φ (.pan v) ⟨[], [], h', ds⟩) o.k := by
          revert h1 hdf
          cases o.k <;> intro h1 hdf <;> first | exact h1 | exact absurd ⟨_, _, rfl⟩ hdf
        have back : ∀ {Kd : Dfr → Prop} {K' Kp' : Value → AH → Prop}, wpk P keep nm e l h K' Kp' o.k → wpo P keep nm e l h ds Kd K' Kp' o.k := by
          intro Kd K' Kp'
          revert hdf
          cases o.k <;> intro hdf hh <;> first | exact hh | exact absurd ⟨_, _, rfl⟩ hdf
        rcases wpk_one _ hw' with ⟨v, h', k1, k2, k3⟩ | ⟨v, h', k1, k2, k3⟩
        · obtain ⟨out, s', q1, q2, q3⟩ := ih _ _ _ _ k1
          exact ⟨out, s', q1, Nat.le_trans k2 q2, fun Φ' q => h2 _ _ (back (k3 _ _ (q3 Φ' q)))⟩
        · exact ⟨.pan v, ⟨[], [], h', ds⟩, k1, k2, fun Φ' q => h2 _ _ (back (k3 _ _ q))⟩
    · obtain ⟨out, s', k1, k2, k3⟩ := ih _ _ _ _ h1
      exact ⟨out, s', k1, k2, fun Φ' q => h2 _ _ (k3 Φ' q)⟩

theorem chkK_one {h : AH} {is : List Nat} : ∀ {rs : List Rd} {K : Prop}, chkK P h rs is K → K ∧ ∀ K' : Prop, K' → chkK P h rs is K' := by
  intro rs
  induction rs with
  | nil => intro K hk; exact ⟨hk, fun _ q => q⟩
  | cons r rs ih =>
    intro K hk
    obtain ⟨i, f, p, v⟩ := r
    simp only [chkK] at hk
    by_cases hc : is.contains i = true
    · rw [if_pos hc] at hk
      obtain ⟨k1, k2⟩ := ih hk.2
      exact ⟨k1, fun K' q => by simp only [chkK]; rw [if_pos hc]; exact ⟨hk.1, k2 K' q⟩⟩
    · rw [if_neg hc] at hk
      obtain ⟨k1, k2⟩ := ih hk
      exact ⟨k1, fun K' q => by simp only [chkK]; rw [if_neg hc]; exact k2 K' q⟩

theorem oldK_one {js : List Nat} {r : List Rd} : ∀ {hs : List (Nat × AH)} {K : Prop}, oldK P hs js r K → K ∧ ∀ K' : Prop, K' → oldK P hs js r K' := by
  intro hs
  induction hs with
  | nil => intro K hk; exact ⟨hk, fun _ q => q⟩
  | cons p hs ih =>
    intro K hk
    obtain ⟨j, h⟩ := p
    simp only [oldK] at hk
    by_cases hc : js.contains j = true
    · rw [if_pos hc] at hk
      obtain ⟨k1, k2⟩ := chkK_one hk
      obtain ⟨q1, q2⟩ := ih k1
      exact ⟨q1, fun K' q => by simp only [oldK]; rw [if_pos hc]; exact k2 _ (q2 K' q)⟩
    · rw [if_neg hc] at hk
      obtain ⟨k1, k2⟩ := ih hk
      exact ⟨k1, fun K' q => by simp only [oldK]; rw [if_neg hc]; exact k2 K' q⟩

theorem wpd_one {Φ : Out → PS → Prop} : ∀ (os : List DO) (hs : List (Nat × AH)) (rs : List Rd) (e l : PE) (h : AH) (ds : List Dfr), wpd P keep nm Φ os hs rs e l h ds →
    ∃ out s', Φ out s' ∧ h.length ≤ s'.h.length ∧ ∀ Φ' : Out → PS → Prop, Φ' out s' → wpd P keep nm Φ' os hs rs e l h ds := by
  intro os
  induction os with
  | nil => intro hs rs e l h ds hw; exact ⟨_, _, hw, Nat.le_refl _, fun _ q => q⟩
  | cons o os ih =>
    intro hs rs e l h ds hw
    rcases gK_one hw with ⟨h1, h2⟩ | ⟨h1, h2⟩
    · rcases wpk_one _ h1 with ⟨v, h', k1, k2, k3⟩ | ⟨v, h', k1, k2, k3⟩
      · obtain ⟨c1, c2⟩ := chkK_one k1
        obtain ⟨d1, d2⟩ := oldK_one c1
        obtain ⟨out, s', q1, q2, q3⟩ := ih _ _ _ _ _ _ d1
        exact ⟨out, s', q1, Nat.le_trans k2 q2, fun Φ' q => h2 _ _ (k3 _ _ (c2 _ (d2 _ (q3 Φ' q))))⟩
      · exact ⟨.pan v, ⟨[], [], h', ds⟩, k1, k2, fun Φ' q => h2 _ _ (k3 _ _ q)⟩
    · obtain ⟨out, s', k1, k2, k3⟩ := ih _ _ _ _ _ _ h1
      exact ⟨out, s', k1, k2, fun Φ' q => h2 _ _ (k3 Φ' q)⟩

theorem loopN_one {body : (Out → PS → Prop) → PS → Prop} (hb : ∀ (Φ : Out → PS → Prop) (s : PS), body Φ s → ∃ out s', Φ out s' ∧ s.h.length ≤ s'.h.length ∧ ∀ Φ' : Out → PS → Prop, Φ' out s' → body Φ' s) {Φ : Out → PS → Prop} :
    ∀ (n : Nat) (s : PS), loopN body Φ n s → ∃ out s', Φ out s' ∧ s.h.length ≤ s'.h.length ∧ ∀ Φ' : Out → PS → Prop, Φ' out s' → loopN body Φ' n s := by
  intro n
  induction n with
  | zero => intro s h; exact h.elim
  | succ n ih =>
    intro s h
    obtain ⟨s0, hl, h⟩ := h
    obtain ⟨out, s', k1, k2, k3⟩ := hb _ _ h
    rw [hl.h] at k2
    cases out with
    | norm =>
      obtain ⟨out, s2, q1, q2, q3⟩ := ih s' k1
      exact ⟨out, s2, q1, Nat.le_trans k2 q2, fun Φ' q => ⟨s0, hl, k3 _ (q3 Φ' q)⟩⟩
    | exit id => exact ⟨.exit id, s', k1, k2, fun Φ' q => ⟨s0, hl, k3 _ q⟩⟩
    | ret => exact ⟨.ret, s', k1, k2, fun Φ' q => ⟨s0, hl, k3 _ q⟩⟩
    | pan v => exact ⟨.pan v, s', k1, k2, fun Φ' q => ⟨s0, hl, k3 _ q⟩⟩

theorem wpc_one : ∀ (c : RC) (Φ : Out → PS → Prop) (s : PS), wpc P keep nm c Φ s → ∃ out s', Φ out s' ∧ s.h.length ≤ s'.h.length ∧ ∀ Φ' : Out → PS → Prop, Φ' out s' → wpc P keep nm c Φ' s := by
  intro c
  induction c with
  | skip => intro Φ s hw; exact ⟨_, _, hw, Nat.le_refl _, fun _ q => q⟩
  | ret => intro Φ s hw; exact ⟨_, _, hw, Nat.le_refl _, fun _ q => q⟩
  | exit id => intro Φ s hw; exact ⟨_, _, hw, Nat.le_refl _, fun _ q => q⟩
  | rg l => intro Φ s hw; exact wpr_one l _ _ _ _ hw
  | dr need np l =>
    intro Φ s hw
    obtain ⟨vs, h1, hw⟩ := vsK_inv hw
    obtain ⟨out, s', k1, k2, k3⟩ := wpd_one l _ _ _ _ _ _ hw
    cases np with
    | false => exact ⟨out, s', k1, k2, fun Φ' q => by simp only [wpc, vsK, h1]; exact k3 Φ' q⟩
    | true =>
      cases out with
      | pan v => exact k1.elim
      | norm => exact ⟨.norm, s', k1, k2, fun Φ' q => by simp only [wpc, vsK, h1]; exact k3 (npK Φ') q⟩
      | ret => exact ⟨.ret, s', k1, k2, fun Φ' q => by simp only [wpc, vsK, h1]; exact k3 (npK Φ') q⟩
      | exit id => exact ⟨.exit id, s', k1, k2, fun Φ' q => by simp only [wpc, vsK, h1]; exact k3 (npK Φ') q⟩
  | sq a b iha ihb =>
    intro Φ s hw
    obtain ⟨out, s', k1, k2, k3⟩ := iha _ s hw
    cases out with
    | norm =>
      obtain ⟨out, s2, q1, q2, q3⟩ := ihb _ s' k1
      exact ⟨out, s2, q1, Nat.le_trans k2 q2, fun Φ' q => k3 _ (q3 Φ' q)⟩
    | exit id => exact ⟨.exit id, s', k1, k2, fun Φ' q => k3 _ q⟩
    | ret => exact ⟨.ret, s', k1, k2, fun Φ' q => k3 _ q⟩
    | pan v => exact ⟨.pan v, s', k1, k2, fun Φ' q => k3 _ q⟩
  | ite x a b iha ihb =>
    intro Φ s hw
    obtain ⟨v, h1, hw⟩ := vK_inv hw
    obtain ⟨t, rfl, hw⟩ := bK_inv hw
    rcases br_inv hw with ⟨rfl, hw⟩ | ⟨rfl, hw⟩
    · obtain ⟨out, s', k1, k2, k3⟩ := iha Φ s hw
      exact ⟨out, s', k1, k2, fun Φ' q => by simp only [wpc, vK, h1, bK, br]; exact k3 Φ' q⟩
    · obtain ⟨out, s', k1, k2, k3⟩ := ihb Φ s hw
      exact ⟨out, s', k1, k2, fun Φ' q => by simp only [wpc, vK, h1, bK, br]; exact k3 Φ' q⟩
  | blk id b ih =>
    intro Φ s hw
    obtain ⟨out, s', k1, k2, k3⟩ := ih _ s hw
    cases out with
    | norm => exact ⟨.norm, s', k1, k2, fun Φ' q => k3 _ q⟩
    | exit i =>
      simp only [blkK] at k1
      split at k1
      · rename_i hi; exact ⟨.norm, s', k1, k2, fun Φ' q => k3 _ (by simp only [blkK, if_pos hi]; exact q)⟩
      · rename_i hi; exact ⟨.exit i, s', k1, k2, fun Φ' q => k3 _ (by simp only [blkK, if_neg hi]; exact q)⟩
    | ret => exact ⟨.ret, s', k1, k2, fun Φ' q => k3 _ q⟩
    | pan v => exact ⟨.pan v, s', k1, k2, fun Φ' q => k3 _ q⟩
  | loop b ih =>
    intro Φ s hw
    obtain ⟨n, hw⟩ := hw
    obtain ⟨out, s', k1, k2, k3⟩ := loopN_one ih n s hw
    exact ⟨out, s', k1, k2, fun Φ' q => ⟨n, k3 Φ' q⟩⟩

/-! ### Functions -/

/-- What a result is read from. -/
inductive RV where
  | v (x : RX)
  | c (x : RX) (u : U)

def resRV (P : Program) (nm : List Nat) : ResultVar → Option RV
  | .tmp t => some (.v (if nm.contains t then .n t else .t t))
  | .cell t ty => match isAggT P ty with
    | some true => (sizeT P ty).map fun n => .c (if nm.contains t then .n t else .t t) (.ldn n)
    | some false => some (.c (if nm.contains t then .n t else .t t) .ld)
    | none => none

def resRVs (P : Program) (nm : List Nat) : List ResultVar → Option (List RV)
  | [] => some []
  | x :: xs => match resRV P nm x, resRVs P nm xs with
    | some y, some ys => some (y :: ys)
    | _, _ => none

def rvK (P : Program) (s : PS) : List RV → (List Value → Prop) → Prop
  | [], K => K []
  | .v x :: l, K => vK (rx s.e s.l x) fun v => rvK P s l fun vs => K (v :: vs)
  | .c x u :: l, K => vK (rx s.e s.l x) fun p => rK (uval P s.h s.h.length u p) s.h fun v _ => rvK P s l fun vs => K (v :: vs)

def finK (P : Program) (rvs : List RV) (Φ : Res → AH → Prop) : Out → PS → Prop
  | .norm, s => s.ds = [] ∧ rvK P s rvs fun vs => Φ (.ret (tup vs)) s.h
  | .ret, s => s.ds = [] ∧ rvK P s rvs fun vs => Φ (.ret (tup vs)) s.h
  | .pan v, s => s.ds = [] ∧ Φ (.pan v) s.h
  | .exit _, _ => False

/-- What a function comes to. -/
def Gets (P : Program) (f : FuncId) (args : List Value) (h : AH) (Φ : Res → AH → Prop) : Prop := ∃ res h', Holds P f args h res h' ∧ h.length ≤ h'.length ∧ Φ res h'

theorem Gets.mono {f : FuncId} {args : List Value} {h : AH} {Φ Φ' : Res → AH → Prop} (hg : Gets P f args h Φ) (k : ∀ res h', h.length ≤ h'.length → Φ res h' → Φ' res h') : Gets P f args h Φ' :=
  let ⟨res, h', h1, h2, h3⟩ := hg; ⟨res, h', h1, h2, k res h' h2 h3⟩

theorem cK_gets {f : FuncId} {first cap : Array Value} {args : List Value} {h : AH} {K Kp : Value → AH → Prop} {Φ : Res → AH → Prop} (hg : Gets P f (first.toList ++ args ++ cap.toList) h Φ)
    (k : ∀ res h', h.length ≤ h'.length → Φ res h' → RP K Kp res h') : cK P (.func (.func f) first cap) args h K Kp :=
  let ⟨res, h', h1, h2, h3⟩ := hg; ⟨f, first, cap, res, h', rfl, h1, h2, k res h' h2 h3⟩

end
end Go.Eng
