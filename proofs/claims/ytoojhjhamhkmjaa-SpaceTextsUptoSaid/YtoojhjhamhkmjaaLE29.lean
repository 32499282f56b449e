/- The engine, part 29: regions that draw their order, at last. -/
import Derived.Test.YtoojhjhamhkmjaaLE28
set_option linter.unusedVariables false
set_option linter.unusedSimpArgs false
namespace Go.Eng
section
variable {P : Program} {keep : Bool} {nm : List Nat} {N : Nat}

/-- Known variables, and all of them. -/
structure EM (nm : List Nat) (N : Nat) (e l : PE) (env : List Value) : Prop where
  ee : ∀ t v, look e t = some v → env[t]? = some v
  ll : ∀ t v, look l t = some v → env[t]? = some v
  en : ∀ t v, look e t = some v → nm.contains t = true
  ln : ∀ t v, look l t = some v → nm.contains t = false
  len : N ≤ env.length

theorem EM.gg {e l : PE} {env : List Value} (h : EM nm N e l env) : GG nm e l (ev env) := by
  intro x y v hx hy
  cases x with
  | tmp t =>
    simp only [resX] at hx
    split at hx
    · cases hx; exact h.ee t v hy
    · cases hx; exact h.ll t v hy
  | const u =>
    simp only [resX] at hx
    split at hx
    · rename_i hs; cases hx; cases hy; simp only [ev, hs, if_true]
    · cases hx
  | global g => cases hx
  | func f => cases hx; cases hy; rfl

theorem putv_get (env : List Value) (d t : Nat) (v : Value) (hd : d < env.length) : (putv env (some d) v)[t]? = if d = t then some v else env[t]? := by
  simp only [putv]
  rw [List.getElem?_set]
  by_cases h : d = t
  · subst h; simp [hd]
  · simp [h]

theorem EM.put {e l : PE} {env : List Value} (hm : EM nm N e l env) {dst : Option Tmp} {d : D} (hd : resDst nm N dst = some d) (v : Value) : EM nm N (pe d e v) (pl d l v) (putv env dst v) := by
  cases dst with
  | none => cases hd; exact hm
  | some i =>
    simp only [resDst] at hd
    split at hd
    case isFalse => cases hd
    case isTrue hi =>
      have hsz : i < env.length := Nat.lt_of_lt_of_le hi hm.len
      have hlen : N ≤ (putv env (some i) v).length := by rw [putv_length]; exact hm.len
      by_cases hn : nm.contains i = true
      · rw [if_pos hn] at hd; cases hd
        refine ⟨fun t u h => ?_, fun t u h => ?_, fun t u h => ?_, hm.ln, hlen⟩
        · simp only [pe, look_upd] at h
          rw [putv_get _ _ _ _ hsz]
          split at h
          · rename_i e; rw [if_pos e]; exact h
          · rename_i e; rw [if_neg e]; exact hm.ee t u h
        · rw [putv_get _ _ _ _ hsz]
          by_cases e : i = t
          · subst e; have := hm.ln i u h; rw [hn] at this; cases this
          · rw [if_neg e]; exact hm.ll t u h
        · simp only [pe, look_upd] at h
          split at h
          · rename_i e; subst e; exact hn
          · exact hm.en t u h
      · rw [if_neg hn] at hd; cases hd
        have hn' : nm.contains i = false := by cases h : nm.contains i <;> simp_all
        refine ⟨fun t u h => ?_, fun t u h => ?_, hm.en, fun t u h => ?_, hlen⟩
        · rw [putv_get _ _ _ _ hsz]
          by_cases e : i = t
          · subst e; have := hm.en i u h; rw [hn'] at this; cases this
          · rw [if_neg e]; exact hm.ee t u h
        · simp only [pl, look] at h
          rw [putv_get _ _ _ _ hsz]
          split at h
          · rename_i e; rw [if_pos e]; exact h
          · rename_i e; rw [if_neg e]; exact hm.ll t u h
        · simp only [pl, look] at h
          split at h
          · rename_i e; subst e; exact hn'
          · exact hm.ln t u h

theorem EM.want {e l : PE} {env : List Value} (hm : EM nm N e l env) {ops : Array Oper} {o : Oper} {g : Option (RX × Bool)} (hg : resG nm ops o.guard = some g) {A B : Prop} (h : gK g e l A B) :
    (wantA ops env o = some true ∧ A) ∨ (wantA ops env o = some false ∧ B) := by
  unfold resG at hg
  unfold wantA
  split at hg
  · rename_i hgd
    cases hg
    rw [hgd]
    exact .inl ⟨rfl, h⟩
  · rename_i j want hgd
    rw [hgd]
    dsimp only
    split at hg
    case h_2 => cases hg
    case h_1 d hd =>
      cases hg
      rw [hd]
      obtain ⟨v, hv, h⟩ := vK_inv h
      obtain ⟨b, rfl, h⟩ := bK_inv h
      have hval : env[d]? = some (.bool b) := by
        by_cases hn : nm.contains d = true
        · rw [if_pos hn] at hv; exact hm.ee d _ hv
        · rw [if_neg hn] at hv; exact hm.ll d _ hv
      rcases br_inv h with ⟨h1, h2⟩ | ⟨h1, h2⟩
      · exact .inl ⟨by simp only [hval, h1], h2⟩
      · exact .inr ⟨by simp only [hval, h1], h2⟩

/-! ### The calls of a region -/

abbrev Ent := FuncId → Option (List Value × AH × Res × AH)
def Ent.Ok (P : Program) (G : Ent) : Prop := ∀ f x, G f = some x → Holds P f x.1 x.2.1 x.2.2.1 x.2.2.2
def Ent.Of (G : Ent) (os : List Oper) : Prop := ∀ f x, G f = some x → ∃ o ∈ os, Called o f
def Ext (F : FT) (G : Ent) : Prop := ∀ f x, G f = some x → F f x.1 x.2.1 = some (x.2.2.1, x.2.2.2)
open Classical in
noncomputable def Ent.ft (G : Ent) : FT := fun f args h => match G f with
  | some x => if x.1 = args ∧ x.2.1 = h then some (x.2.2.1, x.2.2.2) else none
  | none => none
theorem Ent.ft_ok {G : Ent} (h : G.Ok P) : FOk P G.ft := by
  intro f args hh res h' he
  unfold Ent.ft at he
  split at he
  · rename_i x hx
    split at he
    · rename_i hc
      cases he
      obtain ⟨rfl, rfl⟩ := hc
      exact h f x hx
    · cases he
  · cases he
theorem Ent.ft_ext (G : Ent) : Ext G.ft G := fun f x hx => by simp [Ent.ft, hx]

theorem called_fresh {o : Oper} {os : List Oper} (hc : callsOk (o :: os) = true) {f : FuncId} (hf : Called o f) : ∀ o' ∈ os, ¬ Called o' f := by
  intro o' ho' hf'
  simp only [callsOk, Bool.and_eq_true] at hc
  have h1 := hc.1
  rcases hf with hf | hf
  · rw [hf] at h1
    have := List.all_eq_true.1 h1 o' ho'
    rcases hf' with h | h <;> rw [h] at this <;> simp at this
  · rw [hf] at h1
    have := List.all_eq_true.1 h1 o' ho'
    rcases hf' with h | h <;> rw [h] at this <;> simp at this

theorem chkK_inv {h : AH} {is : List Nat} : ∀ {rs : List Rd} {K : Prop}, chkK P h rs is K → (∀ x ∈ rs, is.contains x.1 = true → uval P h h.length x.2.1 x.2.2.1 = some (x.2.2.2, none)) ∧ K := by
  intro rs
  induction rs with
  | nil => intro K hk; exact ⟨fun x hx => (by cases hx), hk⟩
  | cons r rs ih =>
    intro K hk
    obtain ⟨i, f, p, v⟩ := r
    simp only [chkK] at hk
    split at hk
    · rename_i hc
      obtain ⟨k1, k2⟩ := ih hk.2
      refine ⟨fun x hx hcx => ?_, k2⟩
      rcases List.mem_cons.1 hx with rfl | hx
      · exact hk.1
      · exact k1 x hx hcx
    · rename_i hc
      obtain ⟨k1, k2⟩ := ih hk
      refine ⟨fun x hx hcx => ?_, k2⟩
      rcases List.mem_cons.1 hx with rfl | hx
      · exact absurd hcx hc
      · exact k1 x hx hcx

theorem oldK_inv {js : List Nat} {r : List Rd} : ∀ {hs : List (Nat × AH)} {K : Prop}, oldK P hs js r K → (∀ x ∈ hs, js.contains x.1 = true → ∀ y ∈ r, uval P x.2 x.2.length y.2.1 y.2.2.1 = some (y.2.2.2, none)) ∧ K := by
  intro hs
  induction hs with
  | nil => intro K hk; exact ⟨fun x hx => (by cases hx), hk⟩
  | cons p hs ih =>
    intro K hk
    obtain ⟨j, h⟩ := p
    simp only [oldK] at hk
    split at hk
    · rename_i hc
      obtain ⟨k1, k2⟩ := chkK_inv hk
      obtain ⟨q1, q2⟩ := ih k2
      refine ⟨fun x hx hcx y hy => ?_, q2⟩
      rcases List.mem_cons.1 hx with rfl | hx
      · exact k1 y hy (by simp only [List.contains_iff_mem]; exact List.mem_map.2 ⟨y, hy, rfl⟩)
      · exact q1 x hx hcx y hy
    · rename_i hc
      obtain ⟨q1, q2⟩ := ih hk
      refine ⟨fun x hx hcx y hy => ?_, q2⟩
      rcases List.mem_cons.1 hx with rfl | hx
      · exact absurd hcx hc
      · exact q1 x hx hcx y hy

/-- Where the known variables come from. -/
def KS (e l : PE) (os : List Oper) (e' l' : PE) : Prop := ∀ t v, (look e' t = some v ∨ look l' t = some v) → (∃ u, look e t = some u) ∨ (∃ u, look l t = some u) ∨ ∃ o ∈ os, o.dst = some t

theorem KS.cons {e l : PE} {o : Oper} {os : List Oper} {d : D} (hd : resDst nm N o.dst = some d) {v : Value} {e' l' : PE} (h : KS (pe d e v) (pl d l v) os e' l') : KS e l (o :: os) e' l' := by
  intro t u hu
  have back : ((∃ u, look (pe d e v) t = some u) ∨ ∃ u, look (pl d l v) t = some u) → (∃ u, look e t = some u) ∨ (∃ u, look l t = some u) ∨ o.dst = some t := by
    intro hb
    cases ho : o.dst with
    | none =>
      rw [ho] at hd; cases hd
      rcases hb with hb | hb
      · exact .inl hb
      · exact .inr (.inl hb)
    | some i =>
      rw [ho] at hd
      simp only [resDst] at hd
      split at hd
      · split at hd
        · cases hd
          rcases hb with ⟨u, hb⟩ | hb
          · simp only [pe, look_upd] at hb
            split at hb
            · rename_i e; subst e; exact .inr (.inr rfl)
            · exact .inl ⟨u, hb⟩
          · exact .inr (.inl hb)
        · cases hd
          rcases hb with hb | ⟨u, hb⟩
          · exact .inl hb
          · simp only [pl, look] at hb
            split at hb
            · rename_i e; subst e; exact .inr (.inr rfl)
            · exact .inr (.inl ⟨u, hb⟩)
      · cases hd
  rcases h t u hu with h1 | h1 | ⟨o', h1, h2⟩
  · rcases back (.inl h1) with h | h | h
    · exact .inl h
    · exact .inr (.inl h)
    · exact .inr (.inr ⟨o, List.mem_cons_self, h⟩)
  · rcases back (.inr h1) with h | h | h
    · exact .inl h
    · exact .inr (.inl h)
    · exact .inr (.inr ⟨o, List.mem_cons_self, h⟩)
  · exact .inr (.inr ⟨o', List.mem_cons_of_mem _ h1, h2⟩)

theorem wpd_run {ops : Array Oper} {Φ : Out → PS → Prop} {ds : List Dfr} : ∀ (os : List Oper) (dl : List DO) (n : Nat), resOps P nm N ops os = some (dl.map (·.o)) → (∀ (q : Nat) (d : DO), dl[q]? = some d → d.i = n + q ∧ d.w = potK d.o.k) →
    (∀ (q : Nat) (d : DO) (o : Oper), dl[q]? = some d → os[q]? = some o → opOk P o d.o.k = true) → callsOk os = true →
    ∀ (env : List Value) (e l : PE) (h : AH) (hs : List (Nat × AH)) (rs : List Rd), EM nm N e l env → wpd P keep nm Φ dl hs rs e l h ds →
    ∃ G : Ent, G.Ok P ∧ G.Of os ∧ ∀ F : FT, Ext F G → ∃ trs fin, Run P keep ops F n dl os env h hs rs trs fin ∧ match fin with
      | .norm env' h' => ∃ e' l', EM nm N e' l' env' ∧ KS e l os e' l' ∧ Φ .norm ⟨e', l'.take 1, h', ds⟩
      | .pan v h' => Φ (.pan v) ⟨[], [], h', ds⟩ := by
  intro os
  induction os with
  | nil =>
    intro dl n hr _ _ _ env e l h hs rs hm hw
    cases dl with
    | cons d dl => cases hr
    | nil => exact ⟨fun _ => none, (fun f x hx => by cases hx), (fun f x hx => by cases hx), fun F _ => ⟨[], .norm env h, .nil n env h hs rs, e, l, hm, (fun t v h => h.elim (fun h => .inl ⟨v, h⟩) (fun h => .inr (.inl ⟨v, h⟩))), hw⟩⟩
  | cons o os ih =>
    intro dl n hr hdl hop hc env e l h hs rs hm hw
    cases dl with
    | nil => simp only [resOps] at hr; split at hr <;> cases hr
    | cons d dl =>
      simp only [resOps, List.map_cons] at hr
      split at hr
      case h_2 => cases hr
      case h_1 x xs hx hxs =>
        have e1 : x = d.o := by have := Option.some.inj hr; exact (List.cons.inj this).1
        have e2 : xs = dl.map (·.o) := by have := Option.some.inj hr; exact (List.cons.inj this).2
        subst e1; subst e2
        have hdl' : ∀ (q : Nat) (d : DO), dl[q]? = some d → d.i = n + 1 + q ∧ d.w = potK d.o.k := fun q d' hq => by
          have := hdl (q + 1) d' (by simpa using hq)
          exact ⟨by rw [this.1]; omega, this.2⟩
        have hop' : ∀ (q : Nat) (d : DO) (o : Oper), dl[q]? = some d → os[q]? = some o → opOk P o d.o.k = true := fun q d' o' h1 h2 => hop (q + 1) d' o' (by simpa using h1) (by simpa using h2)
        have hc' : callsOk os = true := by simp only [callsOk, Bool.and_eq_true] at hc; exact hc.2
        obtain ⟨hi, hwf⟩ := hdl 0 d rfl
        have ho := hop 0 d o rfl rfl
        obtain ⟨⟨dd, gg, k1⟩, di, dw, dchk, dold⟩ := d
        simp only at hi hwf ho hx
        have hi : di = n := by simpa using hi
        subst hi
        unfold resOp at hx
        split at hx
        case h_2 => cases hx
        case h_1 d1 g1 k1' hd hg hk =>
          cases hx
          simp only [wpd] at hw
          have mem' : ∀ {G : Ent}, G.Of os → G.Of (o :: os) := fun hG f x hx => let ⟨o', m1, m2⟩ := hG f x hx; ⟨o', List.mem_cons_of_mem _ m1, m2⟩
          have ksf : ∀ {e1 l1 : PE} {fin : Fin'}, (∀ e' l', KS e1 l1 os e' l' → KS e l (o :: os) e' l') → (match fin with
              | .norm env' h' => ∃ e' l', EM nm N e' l' env' ∧ KS e1 l1 os e' l' ∧ Φ .norm ⟨e', l'.take 1, h', ds⟩
              | .pan v h' => Φ (.pan v) ⟨[], [], h', ds⟩) → (match fin with
              | .norm env' h' => ∃ e' l', EM nm N e' l' env' ∧ KS e l (o :: os) e' l' ∧ Φ .norm ⟨e', l'.take 1, h', ds⟩
              | .pan v h' => Φ (.pan v) ⟨[], [], h', ds⟩) := by
            intro e1 l1 fin hk hf
            cases fin with
            | norm env' h' => obtain ⟨e', l', f1, f2, f3⟩ := hf; exact ⟨e', l', f1, hk _ _ f2, f3⟩
            | pan v h' => exact hf
          rcases hm.want hg hw with ⟨hw1, hw2⟩ | ⟨hw1, hw2⟩
          · cases hp : potK k1 with
            | false =>
              obtain ⟨v, q1, q2, q3⟩ := nonpot_read hm.gg hk ho hp hw2
              obtain ⟨c1, c2⟩ := chkK_inv q1
              obtain ⟨d2, d3⟩ := oldK_inv c2
              obtain ⟨G, g1', g2, g3⟩ := ih dl (di + 1) hxs hdl' hop' hc' _ _ _ _ _ _ (hm.put hd v) d3
              refine ⟨G, g1', mem' g2, fun F hF => ?_⟩
              obtain ⟨trs, fin, r1, r2⟩ := g3 F hF
              have hld : ldK k1 = true → ∃ f y p, k1 = .u f y ∧ isLd f = true ∧ rx e l y = some p ∧ rdOf e l di k1 v rs = (di, f, p, v) :: rs ∧ rdOf e l di k1 v [] = [(di, f, p, v)] := by
                intro hl
                cases k1 <;> try (cases hl; done)
                rename_i f y
                obtain ⟨p, hp2, _⟩ := vK_inv hw2
                refine ⟨f, y, p, rfl, hl, hp2, ?_, ?_⟩
                · simp only [rdOf, show isLd f = true from hl, if_true, hp2]
                · simp only [rdOf, show isLd f = true from hl, if_true, hp2]
              refine ⟨_, fin, .read hw1 q2 (fun x hx => ?_) (fun x hx => ?_) (fun hl => ?_) (fun hl => ?_) hp (fun hf h2 => ?_) r1, ksf (fun _ _ => KS.cons hd) r2⟩
              · split
                · exact List.mem_cons_of_mem _ hx
                · exact hx
              · unfold rdOf
                split
                · split
                  · split
                    · exact List.mem_cons_of_mem _ hx
                    · exact hx
                  · exact hx
                · exact hx
              · obtain ⟨f, y, p, rfl, h3, h4, h5, h6⟩ := hld hl
                exact ⟨f, p, by rw [h5]; exact List.mem_cons_self, ld_same hm.gg hk ho h3 h4⟩
              · obtain ⟨f, y, p, rfl, h3, h4, h5, h6⟩ := hld hl
                intro x hx hcx
                exact ld_same hm.gg hk ho h3 h4 _ _ _ (d2 x hx hcx _ (by rw [h6]; exact List.mem_cons_self))
              · have hw3 := free_any (K2 := fun v1 _ => v1 = v) hf (q3 (fun v1 _ => v1 = v) (fun _ _ => False) rfl) h2 (fun v' hv' => hv')
                obtain ⟨v'', e3, e4, _⟩ := nonpot_read hm.gg hk ho hp hw3
                rw [e4, e3]
            | true =>
              obtain ⟨hnr, hcase⟩ := pot_write hm.gg hk ho hp hw2
              rcases hcase with ⟨v, h', k2, k3, k4, k5⟩ | ⟨v, h', k2, k3, k4, f, args, k5, k6, k7⟩
              · obtain ⟨c1, c2⟩ := chkK_inv k2
                obtain ⟨d2, d3⟩ := oldK_inv c2
                obtain ⟨G, g1', g2, g3⟩ := ih dl (di + 1) hxs hdl' hop' hc' _ _ _ _ _ _ (hm.put hd v) d3
                have fin1 : ∀ F : FT, Ext F G → aopv P F keep env h o = some (.ret v, h') → ∃ trs fin, Run P keep ops F di (⟨⟨dd, gg, k1⟩, di, dw, dchk, dold⟩ :: dl) (o :: os) env h hs rs trs fin ∧ match fin with
                    | .norm env' h' => ∃ e' l', EM nm N e' l' env' ∧ KS e l (o :: os) e' l' ∧ Φ .norm ⟨e', l'.take 1, h', ds⟩
                    | .pan v h' => Φ (.pan v) ⟨[], [], h', ds⟩ := by
                  intro F hF ha
                  obtain ⟨trs, fin, r1, r2⟩ := g3 F hF
                  refine ⟨_, fin, .write hw1 hnr ha hp k4 k3 (fun x hx => ?_) ?_ (fun x hx => ?_) c1 r1, ksf (fun _ _ => KS.cons hd) r2⟩
                  · split
                    · exact List.mem_cons_of_mem _ hx
                    · exact hx
                  · rw [if_pos (by rw [hwf]; exact hp)]; exact List.mem_cons_self
                  · unfold rdOf
                    split
                    · split
                      · split
                        · exact List.mem_cons_of_mem _ hx
                        · exact hx
                      · exact hx
                    · exact hx
                rcases k5 with k5 | ⟨f, args, k5, k6, k7⟩
                · exact ⟨G, g1', mem' g2, fun F hF => fin1 F hF (k5 F)⟩
                · refine ⟨fun f' => if f' = f then some (args, h, .ret v, h') else G f', fun f' x hx => ?_, fun f' x hx => ?_, fun F hF => ?_⟩
                  · dsimp only at hx
                    split at hx
                    · rename_i ef; cases hx; subst ef; exact k6
                    · exact g1' f' x hx
                  · dsimp only at hx
                    split at hx
                    · rename_i ef; subst ef; exact ⟨o, List.mem_cons_self, k5⟩
                    · exact mem' g2 f' x hx
                  · refine fin1 F (fun f' x hx => ?_) (k7 F ?_)
                    · have hne : f' ≠ f := by
                        rintro rfl
                        obtain ⟨o', m1, m2⟩ := g2 f' x hx
                        exact called_fresh hc k5 o' m1 m2
                      exact hF f' x (by simp only; rw [if_neg hne]; exact hx)
                    · exact hF f (args, h, .ret v, h') (by simp)
              · refine ⟨fun f' => if f' = f then some (args, h, .pan v, h') else none, fun f' x hx => ?_, fun f' x hx => ?_, fun F hF => ?_⟩
                · dsimp only at hx
                  split at hx
                  · rename_i ef; cases hx; subst ef; exact k6
                  · cases hx
                · dsimp only at hx
                  split at hx
                  · rename_i ef; subst ef; exact ⟨o, List.mem_cons_self, k5⟩
                  · cases hx
                · exact ⟨_, .pan v h', .pan hw1 hnr (k7 F (hF f (args, h, .pan v, h') (by simp))) k4, k2⟩
          · obtain ⟨G, g1', g2, g3⟩ := ih dl (di + 1) hxs hdl' hop' hc' _ _ _ _ _ _ (hm.put hd undef) hw2
            refine ⟨G, g1', mem' g2, fun F hF => ?_⟩
            obtain ⟨trs, fin, r1, r2⟩ := g3 F hF
            exact ⟨_, fin, .skip hw1 r1, ksf (fun _ _ => KS.cons hd) r2⟩

end
end Go.Eng
