import Derived.Test.YtijanegfgaphoaaGreatDoorPk12
import GoSem.ClaimChange
import Derived.Carry
import Derived.OpenShut
set_option linter.unusedVariables false
set_option linter.unusedSimpArgs false
namespace Go.Eng
structure Keep (S : Nat -> Prop) (h h' : AH) : Prop where
  len : h.length <= h'.length
  same : ∀ b, b < h.length -> ¬ S b -> h'[b]? = h[b]?
theorem Keep.refl (S : Nat -> Prop) (h : AH) : Keep S h h := ⟨Nat.le_refl _, fun _ _ _ => rfl⟩
theorem Keep.trans {S : Nat -> Prop} {h h1 h2 : AH} (a : Keep S h h1) (b : Keep S h1 h2) : Keep S h h2 :=
  ⟨Nat.le_trans a.len b.len, fun c hc hs => by rw [b.same c (Nat.lt_of_lt_of_le hc a.len) hs, a.same c hc hs]⟩
theorem Keep.trans' {S T : Nat -> Prop} {h h1 h2 : AH} (a : Keep S h h1) (b : Keep T h1 h2) (hT : ∀ c, c < h.length -> T c -> S c) : Keep S h h2 :=
  ⟨Nat.le_trans a.len b.len, fun c hc hs => by rw [b.same c (Nat.lt_of_lt_of_le hc a.len) (fun t => hs (hT c hc t)), a.same c hc hs]⟩
theorem Keep.mono {S T : Nat -> Prop} {h h' : AH} (a : Keep S h h') (hST : ∀ b, S b -> T b) : Keep T h h' := ⟨a.len, fun b hb hs => a.same b hb fun s => hs (hST b s)⟩
theorem Keep.push (S : Nat -> Prop) (h : AH) (B : Blk) : Keep S h (h ++ [B]) := ⟨by simp, fun b hb _ => List.getElem?_append_left hb⟩
theorem Keep.get {S : Nat -> Prop} {h h' : AH} (a : Keep S h h') {b : Nat} {B : Blk} (hb : h[b]? = some B) (hs : ¬ S b) : h'[b]? = some B := by
  rw [a.same b (List.getElem?_eq_some_iff.1 hb).1 hs, hb]
theorem Keep.set (h : AH) (b : Nat) (B : Blk) : Keep (· = b) h (h.set b B) := ⟨by simp, fun c hc hs => by rw [List.getElem?_set_ne (Ne.symm hs)]⟩
def Cells (h : AH) (b : Nat) (cs : List Value) : Prop := hcell h b = some cs
def Own (h : AH) (b : Nat) (e : TypeId) (cs : List Value) : Prop := ∃ g, h[b]? = some (.cells true true g 0 e cs)
theorem Own.cells {h : AH} {b : Nat} {e : TypeId} {cs : List Value} (hb : Own h b e cs) : Cells h b cs := by obtain ⟨g, hb⟩ := hb; simp [Cells, hcell, hb]
theorem Own.lt {h : AH} {b : Nat} {e : TypeId} {cs : List Value} (hb : Own h b e cs) : b < h.length := by obtain ⟨g, hb⟩ := hb; exact (List.getElem?_eq_some_iff.1 hb).1
theorem Cells.lt {h : AH} {b : Nat} {cs : List Value} (hb : Cells h b cs) : b < h.length := by
  unfold Cells hcell at hb
  split at hb
  · rename_i h1; exact (List.getElem?_eq_some_iff.1 h1).1
  · cases hb
theorem Own.keep {S : Nat -> Prop} {h h' : AH} {b : Nat} {e : TypeId} {cs : List Value} (hb : Own h b e cs) (k : Keep S h h') (hs : ¬ S b) : Own h' b e cs := by obtain ⟨g, hb⟩ := hb; exact ⟨g, k.get hb hs⟩
theorem Cells.keep {S : Nat -> Prop} {h h' : AH} {b : Nat} {cs : List Value} (hb : Cells h b cs) (k : Keep S h h') (hs : ¬ S b) : Cells h' b cs := by
  have hl := hb.lt
  unfold Cells hcell at hb ⊢
  rw [k.same b hl hs]; exact hb
theorem Own.new (h : AH) (e : TypeId) (m : Nat) (cs : List Value) : Own (h ++ [row e m cs]) h.length e cs := ⟨m, by simp [row]⟩
theorem Cells.ld {h : AH} {b : Nat} {cs : List Value} (hb : Cells h b cs) (o : Nat) : ldc h b o = cs[o]? := by unfold Cells at hb; simp [ldc, hb]
theorem Cells.lds {h : AH} {b : Nat} {cs : List Value} (hb : Cells h b cs) (o n : Nat) (hl : o + n <= cs.length) : ldcs h b o n = some ((cs.drop o).take n) := by unfold Cells at hb; simp [ldcs, hb, hl]
theorem Own.store {h : AH} {b : Nat} {e : TypeId} {cs : List Value} (hb : Own h b e cs) {i : Nat} {vs : List Value} (hl : i + vs.length <= cs.length) (ho : vs.all Value.oneCell' = true) :
    ∃ h', hstore h b i vs = some h' /\ Own h' b e (cs.take i ++ vs ++ cs.drop (i + vs.length)) /\ Keep (· = b) h h' /\ h'.length = h.length := by
  have hlt := hb.lt
  obtain ⟨g, hb⟩ := hb
  refine ⟨h.set b (.cells true true g 0 e (cs.take i ++ vs ++ cs.drop (i + vs.length))), ?_, ⟨g, by simp [hlt]⟩, .set h b _, by simp⟩
  simp [hstore, hb, hl, ho]
def bk : Value -> Nat -> Prop
  | .slice (some ⟨b, _, _⟩) _ _, c => c = b
  | _, _ => False
def rb : Value -> Nat -> Prop
  | .slice (some ⟨b, _, _⟩) n _, c => c = b /\ 0 < n
  | _, _ => False
theorem rb.bk {v : Value} {q : Nat} (h : rb v q) : bk v q := by
  unfold rb at h
  split at h
  · exact h.1
  · exact h.elim
inductive Rds (h : AH) (sz : Nat) : Value -> Nat -> List Value -> Prop where
  | nil : Rds h sz (.slice none 0 0) 0 []
  | emp {b o c : Nat} : Rds h sz (.slice (some ⟨b, o, none⟩) 0 c) 0 []
  | mk {b o n c : Nat} {all cs : List Value} (hb : Cells h b all) (hl : o + n * sz <= all.length) (hx : (all.drop o).take (n * sz) = cs) : Rds h sz (.slice (some ⟨b, o, none⟩) n c) n cs
inductive Ows (h : AH) (e : TypeId) (sz : Nat) : Value -> Nat -> List Value -> Prop where
  | nil : Ows h e sz (.slice none 0 0) 0 []
  | mk {b n c : Nat} {all cs : List Value} (hb : Own h b e all) (hl : all.length = c * sz) (hn : n <= c) (hx : all.take (n * sz) = cs) : Ows h e sz (.slice (some ⟨b, 0, none⟩) n c) n cs
theorem Rds.len {h : AH} {sz n : Nat} {v : Value} {cs : List Value} (hr : Rds h sz v n cs) : cs.length = n * sz := by
  cases hr with
  | nil => simp
  | emp => simp
  | mk hb hl hx => rw [<- hx]; simp; omega
theorem Ows.rds {h : AH} {e : TypeId} {sz n : Nat} {v : Value} {cs : List Value} (ho : Ows h e sz v n cs) : Rds h sz v n cs := by
  cases ho with
  | nil => exact .nil
  | mk hb hl hn hx => exact .mk hb.cells (by rw [hl, Nat.zero_add]; exact Nat.mul_le_mul_right _ hn) (by simpa using hx)
theorem Rds.keep {S : Nat -> Prop} {h h' : AH} {sz n : Nat} {v : Value} {cs : List Value} (hr : Rds h sz v n cs) (k : Keep S h h') (hs : ∀ b, rb v b -> ¬ S b) : Rds h' sz v n cs := by
  cases hr with
  | nil => exact .nil
  | emp => exact .emp
  | mk hb hl hx =>
    rcases Nat.eq_zero_or_pos n with h0 | h0
    · subst h0
      simp only [Nat.zero_mul, List.take_zero] at hx
      subst hx
      exact .emp
    · exact .mk (hb.keep k (hs _ ⟨rfl, h0⟩)) hl hx
theorem Ows.keep {S : Nat -> Prop} {h h' : AH} {e : TypeId} {sz n : Nat} {v : Value} {cs : List Value} (hr : Ows h e sz v n cs) (k : Keep S h h') (hs : ∀ b, bk v b -> ¬ S b) : Ows h' e sz v n cs := by
  cases hr with
  | nil => exact .nil
  | mk hb hl hn hx => exact .mk (hb.keep k (hs _ rfl)) hl hn hx
theorem Rds.lt {h : AH} {sz n : Nat} {v : Value} {cs : List Value} (hr : Rds h sz v n cs) : ∀ b, rb v b -> b < h.length := by
  cases hr with
  | nil => intro b hb; exact hb.elim
  | emp => intro b hb; exact absurd hb.2 (by omega)
  | mk hb hl hx => intro b e; obtain ⟨rfl, _⟩ := e; exact hb.lt
theorem Ows.lt {h : AH} {e : TypeId} {sz n : Nat} {v : Value} {cs : List Value} (hr : Ows h e sz v n cs) : ∀ b, bk v b -> b < h.length := by
  cases hr with
  | nil => intro b hb; exact hb.elim
  | mk hb hl hn hx => intro b e; cases e; exact hb.lt
theorem Rds.at {h : AH} {sz n : Nat} {v : Value} {cs : List Value} (hr : Rds h sz v n cs) {i : Nat} (hi : i < n) : ∃ b o c, v = .slice (some ⟨b, o, none⟩) n c /\ ∀ j, j < sz -> ldc h b (o + i * sz + j) = cs[i * sz + j]? := by
  cases hr with
  | nil => omega
  | emp => omega
  | @mk b o n c all cs hb hl hx =>
    refine ⟨b, o, c, rfl, fun j hj => ?_⟩
    rw [hb.ld, <- hx, List.getElem?_take, if_pos, List.getElem?_drop, Nat.add_assoc]
    have : i * sz + sz <= n * sz := by
      have := Nat.mul_le_mul_right sz (show i + 1 <= n by omega)
      rw [Nat.add_mul, Nat.one_mul] at this; exact this
    omega
theorem Rds.src {h : AH} {sz n : Nat} {v : Value} {cs : List Value} (hr : Rds h sz v n cs) (ho : cs.all Value.oneCell' = true) : ∃ cs', srcv h sz false v = some (n, cs') /\ cs' = cs := by
  cases hr with
  | nil => exact ⟨[], rfl, rfl⟩
  | emp => exact ⟨[], rfl, rfl⟩
  | @mk b o n c all cs hb hl hx =>
    by_cases h0 : n = 0
    · subst h0
      refine ⟨[], by simp [srcv], ?_⟩
      rw [<- hx]; simp
    · have hb' : hcell h b = some all := hb
      refine ⟨cs, ?_, rfl⟩
      subst hx
      simp only [srcv, Bool.false_eq_true, if_false, h0, hb', Option.bind_some]
      simp only [hl, decide_true, Bool.true_and, ho, if_true]
theorem Ows.app {h : AH} {e : TypeId} {sz n m bytes : Nat} {str : Bool} {s x : Value} {cs xs : List Value} (ho : Ows h e sz s n cs) (hx : srcv h sz str x = some (m, xs)) (hl : xs.length = m * sz) (h1 : xs.all Value.oneCell' = true)
    (hb : (n + m) * bytes <= 140737488355328) (hb2 : n + m <= 9223372036854775807) :
    ∃ s' h', appv false h str e sz bytes s x = some (s', h') /\ Ows h' e sz s' (n + m) (cs ++ xs) /\ Keep (bk s) h h' /\ (∀ b, bk s' b -> bk s b \/ h.length <= b) := by
  by_cases h0 : m = 0
  · subst h0
    have : xs = [] := List.length_eq_zero_iff.1 (by simpa using hl)
    subst this
    refine ⟨s, h, ?_, by simpa using ho, .refl _ _, fun b hb => .inl hb⟩
    cases ho with
    | nil => simp [appv, hx]
    | mk hb => simp [appv, hx]
  cases ho with
  | nil =>
    refine ⟨.slice (some ⟨h.length, 0, none⟩) m m, h ++ [row e h.length xs], ?_, ?_, .push _ h _, fun b hb => by cases hb; exact .inr (Nat.le_refl _)⟩
    · simp only [Nat.zero_add] at hb hb2
      simp [appv, hx, h0, hb, hb2]
    · rw [Nat.zero_add, List.nil_append]
      exact .mk (Own.new h e _ xs) hl (Nat.le_refl _) (by rw [<- hl]; simp)
  | @mk b n c all cs hbl hlen hn hcs =>
    have hlt := hbl.lt
    by_cases hroom : n + m <= c
    · have hle : n * sz + xs.length <= all.length := by
        rw [hl, hlen, <- Nat.add_mul]; exact Nat.mul_le_mul_right _ hroom
      obtain ⟨h', k1, k2, k3, k4⟩ := hbl.store hle h1
      obtain ⟨g, hbg⟩ := hbl
      refine ⟨.slice (some ⟨b, 0, none⟩) (n + m) c, h', ?_, ?_, k3.mono fun q hq => hq, fun q hq => .inl hq⟩
      · simp only [appv, hx, Option.bind_some, h0, if_false, hbg, hroom, if_true, Nat.zero_add, k1, Option.map_some]
        rw [if_pos (by simp; rw [hlen]; exact Nat.mul_le_mul_right _ hn)]
      · refine .mk k2 ?_ hroom ?_
        · simp only [List.length_append, List.length_take, List.length_drop]
          omega
        · have e1 : (all.take (n * sz)).length = n * sz := by simp; omega
          rw [Nat.add_mul, List.take_append_of_le_length (by simp; omega), <- hl]
          rw [List.take_of_length_le (by simp; omega)]
          rw [hcs]
    · obtain ⟨g, hbg⟩ := hbl
      have hle : n * sz <= all.length := by rw [hlen]; exact Nat.mul_le_mul_right _ hn
      refine ⟨.slice (some ⟨h.length, 0, none⟩) (n + m) (n + m), hprep false h b true g 0 e all (n * sz) ++ [.cells true true h.length 0 e (cs ++ xs)], ?_, ?_, ?_, fun q hq => by cases hq; exact .inr (Nat.le_refl _)⟩
      · simp only [appv, hx, Option.bind_some, h0, if_false, hbg, hroom, Nat.zero_add]
        rw [if_pos (by simp; exact hle)]
        simp [hb, hb2, hcs]
      · refine .mk (all := cs ++ xs) ⟨h.length, ?_⟩ ?_ (Nat.le_refl _) ?_
        · rw [List.getElem?_append_right (by simp [hprep_len])]
          simp [hprep_len]
        · have : cs.length = n * sz := by rw [<- hcs]; simp; omega
          simp [this, hl, Nat.add_mul]
        · have : cs.length = n * sz := by rw [<- hcs]; simp; omega
          rw [List.take_of_length_le (by simp [this, hl, Nat.add_mul])]
      · refine ⟨by simp [hprep_len], fun q hq hs => ?_⟩
        rw [List.getElem?_append_left (by rw [hprep_len]; exact hq)]
        simp only [hprep, if_true, Bool.false_eq_true, if_false]
        rw [List.getElem?_set_ne (fun h => hs h.symm)]
end Go.Eng

namespace Go.Eng
def tiles (P : Program) : List Field -> Nat -> Nat -> Bool
  | [], k, n => k == n
  | f :: fs, k, n => f.offset == k && tiles P fs (k + P.cellsOf f.type) n
def plainT (P : Program) : Nat -> TypeId -> Bool
  | 0, _ => false
  | n + 1, t => match P.underlying t with
    | some .bool => true
    | some (.int _) => true
    | some .string => true
    | some (.slice e) => plainT P n e && decide (0 < P.cellsOf e) && (sizeT P e == some (P.cellsOf e))
    | some (.struct fs) => tiles P fs.toList 0 (P.cellsOf t) && fs.toList.all fun f => plainT P n f.type
    | some (.array m e) => plainT P n e && (P.cellsOf t == m * P.cellsOf e)
    | _ => false
inductive Rd' {H : Type} (P : Program) (h : AH) : TypeId -> List Value -> DataW H -> Prop where
  | bool {t : TypeId} (hu : P.underlying t = some .bool) (b : Bool) : Rd' P h t [.bool b] (.lit (.bool b))
  | int {t : TypeId} {k : IntKind} (hu : P.underlying t = some (.int k)) (n : Int) (hw : (Lit.int k n).wf = true) : Rd' P h t [.int k n] (.lit (.int k n))
  | str {t : TypeId} (hu : P.underlying t = some .string) (s : ByteArray) (hs : s.size <= maxLen) : Rd' P h t [.string s] (.lit (.string s.data.toList))
  | snil {t e : TypeId} (hu : P.underlying t = some (.slice e)) : Rd' P h t [.slice none 0 0] .nil
  | sempty {t e : TypeId} (hu : P.underlying t = some (.slice e)) {b : Nat} : Rd' P h t [.slice (some ⟨b, 0, none⟩) 0 0] (.slice [] [])
  | slice {t e : TypeId} (hu : P.underlying t = some (.slice e)) {b n : Nat} {css : List (List Value)} {ds rest : List (DataW H)} (hc : hcell h b = some css.flatten) (he : helem h b = some e) (hn : css.length = n) (hd : ds.length = n) (hm : n <= maxLen)
      (hsz : ∀ cs ∈ css, cs.length = P.cellsOf e) (each : ∀ (i : Nat) (cs : List Value) (d : DataW H), css[i]? = some cs -> ds[i]? = some d -> Rd' P h e cs d) : Rd' P h t [.slice (some ⟨b, 0, none⟩) n n] (.slice ds rest)
  | struct {t : TypeId} {fs : Array Field} (hu : P.underlying t = some (.struct fs)) {cs : List Value} (hl : cs.length = P.cellsOf t) {ds : List (DataW H)} (hd : ds.length = fs.size)
      (each : ∀ (i : Nat) (f : Field) (d : DataW H), fs[i]? = some f -> ds[i]? = some d -> Rd' P h f.type ((cs.drop f.offset).take (P.cellsOf f.type)) d) : Rd' P h t cs (.agg ds)
  | array {t e : TypeId} {n : Nat} (hu : P.underlying t = some (.array n e)) {cs : List Value} (hl : cs.length = P.cellsOf t) {ds : List (DataW H)} (hd : ds.length = n)
      (each : ∀ (i : Nat) (d : DataW H), ds[i]? = some d -> Rd' P h e ((cs.drop (i * P.cellsOf e)).take (P.cellsOf e)) d) : Rd' P h t cs (.agg ds)
theorem hcell_ext {h ext : AH} {b : Nat} {cs : List Value} (hc : hcell h b = some cs) : hcell (h ++ ext) b = some cs := by
  have hl : b < h.length := Cells.lt hc
  unfold hcell at hc ⊢
  rw [List.getElem?_append_left hl]; exact hc
theorem helem_ext {h ext : AH} {b : Nat} {e : TypeId} (hc : helem h b = some e) : helem (h ++ ext) b = some e := by
  have hl : b < h.length := by
    unfold helem at hc
    split at hc
    · rename_i h1; exact (List.getElem?_eq_some_iff.1 h1).1
    · cases hc
  unfold helem at hc ⊢
  rw [List.getElem?_append_left hl]; exact hc
theorem Rd'.ext {H : Type} {P : Program} {h : AH} {t : TypeId} {cs : List Value} {d : DataW H} (hr : Rd' P h t cs d) (x : AH) : Rd' P (h ++ x) t cs d := by
  induction hr with
  | bool hu b => exact .bool hu b
  | int hu n hw => exact .int hu n hw
  | str hu s hs => exact .str hu s hs
  | snil hu => exact .snil hu
  | sempty hu => exact .sempty hu
  | slice hu hc he hn hd hm hsz each ih => exact .slice hu (hcell_ext hc) (helem_ext he) hn hd hm hsz ih
  | struct hu hl hd each ih => exact .struct hu hl hd ih
  | array hu hl hd each ih => exact .array hu hl hd ih
theorem mapM_inv {α β : Type} {f : α -> Option β} : ∀ (l : List α) (xs : List β), l.mapM f = some xs -> xs.length = l.length /\ ∀ (i : Nat) (x : α), l[i]? = some x -> ∃ y, f x = some y /\ xs[i]? = some y := by
  intro l
  induction l with
  | nil => intro xs h; simp at h; subst h; exact ⟨rfl, fun i x hx => by simp at hx⟩
  | cons a l ih =>
    intro xs h
    simp only [List.mapM_cons, Option.bind_eq_bind, Option.pure_def] at h
    obtain ⟨y, h1, h⟩ := Option.bind_eq_some_iff.1 h
    obtain ⟨ys, h2, h3⟩ := Option.bind_eq_some_iff.1 h
    cases h3
    obtain ⟨k1, k2⟩ := ih ys h2
    refine ⟨by simp [k1], fun i x hx => ?_⟩
    cases i with
    | zero => simp at hx; subst hx; exact ⟨y, h1, rfl⟩
    | succ i => obtain ⟨z, z1, z2⟩ := k2 i x (by simpa using hx); exact ⟨z, z1, by simpa using z2⟩
section
variable {H : Type} {enc : TypeId × Value -> H} {P : Program} {W : World}
structure Dr (P : Program) (W : World) (h : AH) (r : Rho) : Prop where
  hr : HR P r h W.heap
  ro : ∀ (b : Nat) (B : Blk), h[b]? = some B -> B.wr = false
def Ex (P : Program) (W : World) (h : AH) (r : Rho) (h' : AH) (r' : Rho) : Prop := Dr P W h' r' /\ r.le r' /\ ∃ x, h' = h ++ x
theorem Ex.refl {h : AH} {r : Rho} (d : Dr P W h r) : Ex P W h r h r := ⟨d, .refl r, [], by simp⟩
theorem Ex.trans {h h1 h2 : AH} {r r1 r2 : Rho} (a : Ex P W h r h1 r1) (b : Ex P W h1 r1 h2 r2) : Ex P W h r h2 r2 := by
  obtain ⟨_, a2, x, rfl⟩ := a
  obtain ⟨b1, b2, y, rfl⟩ := b
  exact ⟨b1, a2.trans b2, x ++ y, by simp⟩
theorem Dr.push {h : AH} {r : Rho} (d : Dr P W h r) {x : Loc} {solo : Bool} {e : TypeId} {cs : List Value} (hx : x.blk < W.heap.size) (hb : BO P (r.upd h.length x) x (.cells false solo h.length 0 e cs) W.heap[x.blk]?) :
    Ex P W h r (h ++ [.cells false solo h.length 0 e cs]) (r.upd h.length x) /\ (r.upd h.length x) h.length = some x := by
  have hf : r h.length = none := by
    cases hr : r h.length with
    | none => rfl
    | some y => have := (d.hr.dom _ _ hr).1; omega
  have hle := Rho.le_upd hf x
  refine ⟨⟨⟨⟨fun b y hy => ?_, fun b B hB hl => ?_, fun b b' B B' y y' h1 h2 hne hw => ?_, d.hr.lay, fun g b B y _ h1 hw => ?_⟩, fun b B hB => ?_⟩, hle, _, rfl⟩, Rho.upd_same _ _ _⟩
  · unfold Rho.upd at hy
    split at hy
    · rename_i e; cases hy; subst e; exact ⟨by simp, hx⟩
    · have := d.hr.dom b y hy; exact ⟨by simp; omega, this.2⟩
  · rw [List.getElem?_append] at hB
    split at hB
    · obtain ⟨y, h1, h2⟩ := d.hr.blk b B hB hl
      exact ⟨y, hle _ _ h1, h2.mono hle⟩
    · rename_i hge
      by_cases e : b = h.length
      · subst e; simp at hB; subst hB; exact ⟨x, Rho.upd_same _ _ _, hb⟩
      · rw [List.getElem?_eq_none (by simp; omega)] at hB; cases hB
  · exfalso
    rw [List.getElem?_append] at h1
    split at h1
    · rw [d.ro b B h1] at hw; cases hw
    · rename_i hge
      by_cases e : b = h.length
      · subst e; simp at h1; subst h1; cases hw
      · rw [List.getElem?_eq_none (by simp; omega)] at h1; cases h1
  · exfalso
    rw [List.getElem?_append] at h1
    split at h1
    · rw [d.ro b B h1] at hw; cases hw
    · rename_i hge
      by_cases e : b = h.length
      · subst e; simp at h1; subst h1; cases hw
      · rw [List.getElem?_eq_none (by simp; omega)] at h1; cases h1
  · rw [List.getElem?_append] at hB
    split at hB
    · exact d.ro b B hB
    · rename_i hge
      by_cases e : b = h.length
      · subst e; simp at hB; subst hB; rfl
      · rw [List.getElem?_eq_none (by simp; omega)] at hB; cases hB
def Opens (P : Program) (W : World) (t : TypeId) (cs : List Value) (d : DataW H) : Prop := ∀ (h : AH) (r : Rho), Dr P W h r -> ∃ (h' : AH) (r' : Rho) (avs : List Value), Ex P W h r h' r' /\ VL r' avs cs /\ Rd' P h' t avs d
theorem opens_many {e : TypeId} : ∀ (l : List (List Value × DataW H)), (∀ x ∈ l, Opens P W e x.1 x.2) -> ∀ (h : AH) (r : Rho), Dr P W h r ->
    ∃ (h' : AH) (r' : Rho) (avss : List (List Value)), Ex P W h r h' r' /\ avss.length = l.length /\ ∀ (i : Nat) (x : List Value × DataW H) (avs : List Value), l[i]? = some x -> avss[i]? = some avs -> VL r' avs x.1 /\ Rd' P h' e avs x.2 := by
  intro l
  induction l with
  | nil => intro _ h r d; exact ⟨h, r, [], .refl d, rfl, fun i x avs hx => by simp at hx⟩
  | cons x l ih =>
    intro hl h r d
    obtain ⟨h1, r1, avs, e1, e2, e3⟩ := hl x List.mem_cons_self h r d
    obtain ⟨h2, r2, avss, k1, k2, k3⟩ := ih (fun y hy => hl y (List.mem_cons_of_mem _ hy)) h1 r1 e1.1
    refine ⟨h2, r2, avs :: avss, e1.trans k1, by simp [k2], fun i y a hy ha => ?_⟩
    cases i with
    | zero =>
      simp at hy ha; subst hy; subst ha
      obtain ⟨_, q2, z, rfl⟩ := k1
      exact ⟨e2.mono q2, e3.ext z⟩
    | succ i => exact k3 i y a (by simpa using hy) (by simpa using ha)
theorem opens_fields : ∀ (fs : List Field) (k n : Nat) (cs : List Value) (ds : List (DataW H)), tiles P fs k n = true -> cs.length = n -> ds.length = fs.length ->
    (∀ (i : Nat) (f : Field) (d : DataW H), fs[i]? = some f -> ds[i]? = some d -> Opens P W f.type ((cs.drop f.offset).take (P.cellsOf f.type)) d) -> k <= n -> ∀ (h : AH) (r : Rho), Dr P W h r ->
    ∃ (h' : AH) (r' : Rho) (avs : List Value), Ex P W h r h' r' /\ VL r' avs (cs.drop k) /\ ∀ (i : Nat) (f : Field) (d : DataW H), fs[i]? = some f -> ds[i]? = some d -> k <= f.offset /\ Rd' P h' f.type ((avs.drop (f.offset - k)).take (P.cellsOf f.type)) d := by
  intro fs
  induction fs with
  | nil =>
    intro k n cs ds ht hl hd _ hk h r dr
    simp only [tiles, beq_iff_eq] at ht
    refine ⟨h, r, [], .refl dr, ?_, fun i f d hf => by simp at hf⟩
    rw [List.drop_of_length_le (by omega)]; exact .nil r
  | cons f fs ih =>
    intro k n cs ds ht hl hd hop hk h r dr
    cases ds with
    | nil => simp at hd
    | cons d ds =>
      simp only [tiles, Bool.and_eq_true, beq_iff_eq] at ht
      obtain ⟨ho, ht⟩ := ht
      have hkn : k + P.cellsOf f.type <= n := by
        have : ∀ (fs : List Field) (k n : Nat), tiles P fs k n = true -> k <= n := by
          intro fs
          induction fs with
          | nil => intro k n h; simp only [tiles, beq_iff_eq] at h; omega
          | cons f fs ih => intro k n h; simp only [tiles, Bool.and_eq_true] at h; have := ih _ _ h.2; omega
        exact this _ _ _ ht
      obtain ⟨h1, r1, avs, e1, e2, e3⟩ := hop 0 f d rfl rfl h r dr
      rw [ho] at e2
      obtain ⟨h2, r2, avs2, k1, k2, k3⟩ := ih (k + P.cellsOf f.type) n cs ds ht hl (by simpa using hd) (fun i f' d' a b => hop (i + 1) f' d' (by simpa using a) (by simpa using b)) hkn h1 r1 e1.1
      have hlen : avs.length = P.cellsOf f.type := by rw [e2.1]; simp; omega
      refine ⟨h2, r2, avs ++ avs2, e1.trans k1, ?_, fun i f' d' a b => ?_⟩
      · have := (e2.mono k1.2.1).append k2
        rw [<- List.drop_drop, List.take_append_drop] at this
        exact this
      · cases i with
        | zero =>
          simp at a b; subst a; subst b
          refine ⟨by omega, ?_⟩
          rw [ho, Nat.sub_self, List.drop_zero, List.take_append_of_le_length (by omega), List.take_of_length_le (by omega)]
          obtain ⟨_, _, z, rfl⟩ := k1
          exact e3.ext z
        | succ i =>
          obtain ⟨q1, q2⟩ := k3 i f' d' (by simpa using a) (by simpa using b)
          refine ⟨by omega, ?_⟩
          rw [List.drop_append, List.drop_of_length_le (by omega), List.nil_append, hlen]
          rw [show f'.offset - k - P.cellsOf f.type = f'.offset - (k + P.cellsOf f.type) by omega]
          exact q2
theorem cell_inv {a : Addr} {v : Value} (h : W.cell? a = some v) : a.spot = none /\ a.block < W.heap.size /\ ∃ cur e fr, W.heap[a.block]? = some (.cells cur e fr) /\ cur[a.off]? = some v := by
  unfold World.cell? at h
  split at h
  · rename_i cur e fr hb
    split at h
    · cases h
    · rename_i hs
      exact ⟨by simpa using hs, (Array.getElem?_eq_some_iff.1 hb).1, cur, e, fr, hb, h⟩
  · cases h
theorem cells_inv {a : Addr} {n : Nat} {cs : List Value} (h : W.cells? 0 a n = some cs) : cs.length = n /\ ∀ j, j < n -> ∃ v, W.cell? (a.add j) = some v /\ cs[j]? = some v := by
  unfold World.cells? at h
  rw [if_pos (Nat.zero_le _)] at h
  obtain ⟨h1, h2⟩ := mapM_inv _ _ h
  exact ⟨by simpa using h1, fun j hj => h2 j j (List.getElem?_range hj)⟩
theorem opens_slice {t e : TypeId} (hu : P.underlying t = some (.slice e)) (hpos : 0 < P.cellsOf e) (hsz : sizeT P e = some (P.cellsOf e)) {a : Addr} {len cap : Nat} {elems : List (DataW H × List MemPlace)} {rest : List (DataW H × List MemPlace)}
    (hlc : len <= cap) (hcm : cap <= maxLen) {fuel : Nat}
    (h1 : (List.range len).mapM (fun i => (W.cells? 0 (a.add (i * P.cellsOf e)) (P.cellsOf e)).bind (DataW.trod enc P W 0 (fun _ => true) true fuel e)) = some elems)
    (h2 : (List.range (cap - len)).mapM (fun j => (W.cells? 0 (a.add ((len + j) * P.cellsOf e)) (P.cellsOf e)).bind (DataW.trod enc P W 0 (fun _ => true) true fuel e)) = some rest)
    (ih : ∀ cs d ps, DataW.trod enc P W 0 (fun _ => true) true fuel e cs = some (d, ps) -> Opens P W e cs d) : Opens P W t [.slice (some a) len cap] (.slice (elems.map (·.1)) (rest.map (·.1))) := by
  intro h r dr
  obtain ⟨e1, e2⟩ := mapM_inv _ _ h1
  obtain ⟨f1, f2⟩ := mapM_inv _ _ h2
  simp only [List.length_range] at e1 f1
  by_cases hc0 : cap = 0
  · subst hc0
    have hl0 : len = 0 := by omega
    subst hl0
    have : elems = [] := List.length_eq_zero_iff.1 e1
    have : rest = [] := List.length_eq_zero_iff.1 f1
    subst elems; subst rest
    exact ⟨h, r, [.slice (some ⟨0, 0, none⟩) 0 0], .refl dr, .cons (.sempty rfl rfl) (.nil r), .sempty hu⟩
  ·
    have all : ∀ i, i < cap -> ∃ cs d ps, W.cells? 0 (a.add (i * P.cellsOf e)) (P.cellsOf e) = some cs /\ DataW.trod enc P W 0 (fun _ => true) true fuel e cs = some (d, ps) /\ (i < len -> elems[i]? = some (d, ps)) := by
      intro i hi
      by_cases hil : i < len
      · obtain ⟨y, y1, y2⟩ := e2 i i (List.getElem?_range hil)
        obtain ⟨cs, c1, c2⟩ := Option.bind_eq_some_iff.1 y1
        exact ⟨cs, y.1, y.2, c1, c2, fun _ => y2⟩
      · obtain ⟨y, y1, y2⟩ := f2 (i - len) (i - len) (List.getElem?_range (by omega))
        rw [show len + (i - len) = i by omega] at y1
        obtain ⟨cs, c1, c2⟩ := Option.bind_eq_some_iff.1 y1
        exact ⟨cs, y.1, y.2, c1, c2, fun h => absurd h hil⟩
    obtain ⟨cs0, d0, ps0, c0, _, _⟩ := all 0 (by omega)
    obtain ⟨_, c0'⟩ := cells_inv c0
    obtain ⟨v0, v1, v2⟩ := c0' 0 hpos
    have ha0 : (a.add (0 * P.cellsOf e)).add 0 = a := by simp [Addr.add]
    rw [ha0] at v1
    obtain ⟨hspot, hblk, cur, te, fr, hcur, _⟩ := cell_inv v1
    obtain ⟨blk, off, spot⟩ := a
    simp only at hspot hblk hcur
    subst hspot
    let l : List (List Value × DataW H) := (List.range len).map fun i => match W.cells? 0 (Addr.add ⟨blk, off, none⟩ (i * P.cellsOf e)) (P.cellsOf e), elems[i]? with
      | some cs, some x => (cs, x.1)
      | _, _ => ([], .nil)
    have lget : ∀ (i : Nat), i < len -> ∃ (cs : List Value) (d : DataW H) (ps : List MemPlace), W.cells? 0 (Addr.add ⟨blk, off, none⟩ (i * P.cellsOf e)) (P.cellsOf e) = some cs /\ DataW.trod enc P W 0 (fun _ => true) true fuel e cs = some (d, ps) /\ elems[i]? = some (d, ps) /\ l[i]? = some (cs, d) := by
      intro i hi
      obtain ⟨cs, d, ps, c1, c2, c3⟩ := all i (by omega)
      refine ⟨cs, d, ps, c1, c2, c3 hi, ?_⟩
      simp only [l, List.getElem?_map, List.getElem?_range hi, Option.map_some, c1, c3 hi]
    have llen : l.length = len := by simp [l]
    have hop : ∀ x ∈ l, Opens P W e x.1 x.2 := by
      intro x hx
      obtain ⟨i, hi⟩ := List.mem_iff_getElem?.1 hx
      have hil : i < len := by have := (List.getElem?_eq_some_iff.1 hi).1; omega
      obtain ⟨cs, d, ps, c1, c2, c3, c4⟩ := lget i hil
      rw [hi] at c4; cases c4
      exact ih cs d ps c2
    obtain ⟨h', r', avss, k1, k2, k3⟩ := opens_many l hop h r dr
    have kget : ∀ (i : Nat) (avs : List Value), avss[i]? = some avs -> ∃ (cs : List Value) (d : DataW H), l[i]? = some (cs, d) /\ VL r' avs cs /\ Rd' P h' e avs d /\ cs.length = P.cellsOf e := by
      intro i avs hi
      have hil : i < len := by have := (List.getElem?_eq_some_iff.1 hi).1; omega
      obtain ⟨cs, d, ps, c1, c2, c3, c4⟩ := lget i hil
      obtain ⟨q1, q2⟩ := k3 i _ avs c4 hi
      exact ⟨cs, d, c4, q1, q2, (cells_inv c1).1⟩
    have havl : ∀ avs ∈ avss, avs.length = P.cellsOf e := by
      intro avs hx
      obtain ⟨i, hi⟩ := List.mem_iff_getElem?.1 hx
      obtain ⟨cs, d, _, q1, _, q3⟩ := kget i avs hi
      rw [q1.1, q3]
    have hflen : avss.flatten.length = len * P.cellsOf e := by
      have : ∀ (L : List (List Value)), (∀ x ∈ L, x.length = P.cellsOf e) -> L.flatten.length = L.length * P.cellsOf e := by
        intro L
        induction L with
        | nil => intro _; simp
        | cons x L ih => intro hL; simp only [List.flatten_cons, List.length_append, List.length_cons, ih (fun y hy => hL y (List.mem_cons_of_mem _ hy)), hL x List.mem_cons_self, Nat.add_mul, Nat.one_mul]; omega
      rw [this avss havl, k2, llen]
    have hfget : ∀ (i j : Nat), i < len -> j < P.cellsOf e -> avss.flatten[i * P.cellsOf e + j]? = (avss[i]?).bind (·[j]?) := by
      have : ∀ (L : List (List Value)), (∀ x ∈ L, x.length = P.cellsOf e) -> ∀ (i j : Nat), j < P.cellsOf e -> L.flatten[i * P.cellsOf e + j]? = (L[i]?).bind (·[j]?) := by
        intro L
        induction L with
        | nil => intro _ i j _; simp
        | cons x L ih =>
          intro hL i j hj
          have hx := hL x List.mem_cons_self
          cases i with
          | zero => simp only [List.flatten_cons, Nat.zero_mul, Nat.zero_add]; rw [List.getElem?_append_left (by omega)]; simp
          | succ i =>
            simp only [List.flatten_cons]
            rw [List.getElem?_append_right (by rw [hx, Nat.add_mul]; omega)]
            have := ih (fun y hy => hL y (List.mem_cons_of_mem _ hy)) i j hj
            rw [show (i + 1) * P.cellsOf e + j - x.length = i * P.cellsOf e + j by rw [hx, Nat.add_mul]; omega]
            simpa using this
      intro i j _ hj
      exact this avss havl i j hj
    have cellat : ∀ q, q < len * P.cellsOf e -> ∃ v v', avss.flatten[q]? = some v /\ cur[off + q]? = some v' /\ VR r' v v' := by
      intro q hq
      have hi : q / P.cellsOf e < len := Nat.div_lt_of_lt_mul (by rw [Nat.mul_comm]; exact hq)
      have hj : q % P.cellsOf e < P.cellsOf e := Nat.mod_lt _ hpos
      have hqe : q / P.cellsOf e * P.cellsOf e + q % P.cellsOf e = q := by rw [Nat.mul_comm]; exact Nat.div_add_mod _ _
      obtain ⟨cs, d, ps, c1, c2, c3, c4⟩ := lget (q / P.cellsOf e) hi
      obtain ⟨avs, hav⟩ : ∃ avs, avss[q / P.cellsOf e]? = some avs := ⟨avss[q / P.cellsOf e]'(by omega), by simp⟩
      obtain ⟨q1, q2⟩ := k3 _ _ avs c4 hav
      obtain ⟨_, cc⟩ := cells_inv c1
      obtain ⟨v', w1, w2⟩ := cc _ hj
      obtain ⟨_, _, cur2, te2, fr2, w3, w4⟩ := cell_inv w1
      have hadd : (Addr.add (Addr.add ⟨blk, off, none⟩ (q / P.cellsOf e * P.cellsOf e)) (q % P.cellsOf e)) = ⟨blk, off + q, none⟩ := by
        simp only [Addr.add_lit]
        rw [show off + q / P.cellsOf e * P.cellsOf e + q % P.cellsOf e = off + q by omega]
      rw [hadd] at w3 w4
      simp only at w3 w4
      rw [hcur] at w3; cases w3
      have hlt : q % P.cellsOf e < avs.length := by rw [havl avs (List.mem_of_getElem? hav)]; exact hj
      refine ⟨avs[q % P.cellsOf e], v', ?_, w4, q1.2 _ _ _ (by simp [hlt]) w2⟩
      have := hfget _ _ hi hj
      rw [hqe, hav] at this
      rw [this]; simp [hlt]
    have hoff : off < cur.size := by
      obtain ⟨_, _, cur2, _, _, w3, w4⟩ := cell_inv v1
      simp only at w3 w4
      rw [hcur] at w3; cases w3
      exact (Array.getElem?_eq_some_iff.1 w4).1
    let x : Loc := ⟨blk, off, off + cap * P.cellsOf e, P.cellsOf e⟩
    have hBO : BO P (r'.upd h'.length x) x (.cells false true h'.length 0 e avss.flatten) W.heap[x.blk]? := by
      have hf : r' h'.length = none := by
        cases hr : r' h'.length with
        | none => rfl
        | some y => have := (k1.1.hr.dom _ _ hr).1; omega
      refine ⟨cur, te, fr, hcur, (fun hh => by cases hh), hsz, ?_, fun i v v' hv hv' => ?_⟩
      · show off + avss.flatten.length <= cur.size
        rw [hflen]
        by_cases hz : len * P.cellsOf e = 0
        · omega
        · obtain ⟨_, v', _, q2, _⟩ := cellat (len * P.cellsOf e - 1) (by omega)
          have := (Array.getElem?_eq_some_iff.1 q2).1
          omega
      · have hq : i < len * P.cellsOf e := by have := (List.getElem?_eq_some_iff.1 hv).1; omega
        obtain ⟨u, u', q1, q2, q3⟩ := cellat i hq
        rw [hv] at q1; cases q1
        have hv'' : cur[off + i]? = some v' := hv'
        rw [q2] at hv''; cases hv''
        exact q3.mono (Rho.le_upd hf x)
    obtain ⟨m1, m2⟩ := k1.1.push (solo := true) (e := e) (cs := avss.flatten) (x := x) hblk hBO
    refine ⟨_, _, [.slice (some ⟨h'.length, 0, none⟩) len len], k1.trans m1, .cons ?_ (.nil _), ?_⟩
    · have := VR.slice (r := r'.upd h'.length x) (b := h'.length) (o := 0) (n := len) (c := len) (c' := cap) m2 hlc (Nat.le_refl _) (by show 0 + off + cap * P.cellsOf e <= off + cap * P.cellsOf e; omega)
      simpa [x] using this
    · refine .slice hu (css := avss) ?_ ?_ (by rw [k2, llen]) (by simp [e1]) (by omega) havl (fun i cs d hi hd => ?_)
      · simp [hcell]
      · simp [helem]
      · obtain ⟨cs', d', q1, q2, q3, q4⟩ := kget i cs hi
        have hil : i < len := by have := (List.getElem?_eq_some_iff.1 hi).1; omega
        obtain ⟨cs2, d2, ps2, c1, c2, c3, c4⟩ := lget i hil
        rw [q1] at c4; cases c4
        rw [List.getElem?_map, c3] at hd
        simp at hd; subst hd
        exact q3.ext _
theorem opens : ∀ (fuel n : Nat) (t : TypeId) (cs : List Value) (d : DataW H) (ps : List MemPlace), plainT P n t = true -> DataW.trod enc P W 0 (fun _ => true) true fuel t cs = some (d, ps) -> Opens P W t cs d := by
  intro fuel
  induction fuel with
  | zero => intro n t cs d ps _ h; simp [DataW.trod] at h
  | succ fuel ih =>
    intro n t cs d ps hp h
    cases n with
    | zero => simp [plainT] at hp
    | succ n =>
      cases hu : P.underlying t with
      | none => simp [plainT, hu] at hp
      | some u =>
        simp only [plainT, hu] at hp
        cases u <;> simp only at hp <;> try (cases hp; done)
        case bool =>
          rcases cs with _ | ⟨v, _ | ⟨v2, cs⟩⟩ <;> first | (simp [DataW.trod, hu] at h; done) | skip
          cases v <;> first | (simp [DataW.trod, hu] at h; done) | skip
          rename_i b
          simp [DataW.trod, hu] at h
          obtain ⟨rfl, rfl⟩ := h
          exact fun h r dr => ⟨h, r, [.bool b], .refl dr, .cons (.bool b) (.nil r), .bool hu b⟩
        case int k =>
          rcases cs with _ | ⟨v, _ | ⟨v2, cs⟩⟩ <;> first | (simp [DataW.trod, hu] at h; done) | skip
          cases v <;> first | (simp [DataW.trod, hu] at h; done) | skip
          rename_i k' m
          simp only [DataW.trod, hu] at h
          split at h
          · rename_i hc
            obtain ⟨rfl, hw⟩ := hc
            cases h
            exact fun h r dr => ⟨h, r, [.int _ m], .refl dr, .cons (.int _ m) (.nil r), .int hu m hw⟩
          · cases h
        case string =>
          rcases cs with _ | ⟨v, _ | ⟨v2, cs⟩⟩ <;> first | (simp [DataW.trod, hu] at h; done) | skip
          cases v <;> first | (simp [DataW.trod, hu] at h; done) | skip
          rename_i s
          simp only [DataW.trod, hu] at h
          split at h
          · rename_i hc
            cases h
            exact fun h r dr => ⟨h, r, [.string s], .refl dr, .cons (.string s) (.nil r), .str hu s hc⟩
          · cases h
        case slice e =>
          simp only [Bool.and_eq_true, decide_eq_true_eq, beq_iff_eq] at hp
          rcases cs with _ | ⟨v, _ | ⟨v2, cs⟩⟩ <;> first | (simp [DataW.trod, hu] at h; done) | skip
          cases v <;> first | (simp [DataW.trod, hu] at h; done) | skip
          rename_i a len cap
          cases a with
          | none =>
            cases len <;> cases cap <;> first | (simp [DataW.trod, hu] at h; done) | skip
            simp [DataW.trod, hu] at h
            obtain ⟨rfl, rfl⟩ := h
            exact fun h r dr => ⟨h, r, [.slice none 0 0], .refl dr, .cons .snil (.nil r), .snil hu⟩
          | some a =>
            simp only [DataW.trod, hu, if_true] at h
            split at h
            · rename_i hc
              obtain ⟨elems, h1, h⟩ := Option.bind_eq_some_iff.1 h
              obtain ⟨rest, h2, h3⟩ := Option.map_eq_some_iff.1 h
              cases h3
              exact opens_slice hu hp.1.2 hp.2 hc.2.1 hc.2.2 h1 h2 (fun cs d ps => ih n e cs d ps hp.1.1)
            · cases h
        case struct fs =>
          simp only [Bool.and_eq_true] at hp
          simp only [DataW.trod, hu] at h
          split at h
          · rename_i hl
            obtain ⟨xs, h1, h2⟩ := Option.map_eq_some_iff.1 h
            cases h2
            obtain ⟨e1, e2⟩ := mapM_inv _ _ h1
            intro h r dr
            obtain ⟨h', r', avs, k1, k2, k3⟩ := opens_fields (P := P) (W := W) fs.toList 0 (P.cellsOf t) cs (xs.map (·.1)) hp.1 hl (by simp [e1]) (fun i f d hf hd => by
              obtain ⟨y, y1, y2⟩ := e2 i f hf
              rw [List.getElem?_map, y2] at hd
              simp at hd; subst hd
              exact ih n f.type _ _ _ (List.all_eq_true.1 hp.2 f (List.mem_of_getElem? hf)) y1) (Nat.zero_le _) h r dr
            refine ⟨h', r', avs, k1, by simpa using k2, .struct hu (by have := k2.1; simp at this; omega) (by simp [e1]) (fun i f d hf hd => ?_)⟩
            obtain ⟨_, q2⟩ := k3 i f d (by simpa using hf) hd
            simpa using q2
          · cases h
        case array m e =>
          simp only [DataW.trod, hu] at h
          split at h
          · rename_i hl
            obtain ⟨xs, h1, h2⟩ := Option.map_eq_some_iff.1 h
            cases h2
            simp only [Bool.and_eq_true, beq_iff_eq] at hp
            obtain ⟨e1, e2⟩ := mapM_inv _ _ h1
            let fa : Nat -> Field := fun i => { (default : Field) with type := e, offset := i * P.cellsOf e }
            have ht : ∀ (j k : Nat), k + j = m -> tiles P ((List.range' k j).map fa) (k * P.cellsOf e) (P.cellsOf t) = true := by
              intro j
              induction j with
              | zero => intro k hk; simp only [List.range'_zero, List.map_nil, tiles, beq_iff_eq]; rw [hp.2]; congr 1
              | succ j ihj =>
                intro k hk
                simp only [List.range'_succ, List.map_cons, tiles, fa, Bool.and_eq_true, beq_self_eq_true, true_and]
                have := ihj (k + 1) (by omega)
                rw [Nat.add_mul, Nat.one_mul] at this
                exact this
            have h0 : tiles P ((List.range m).map fa) 0 (P.cellsOf t) = true := by
              have := ht m 0 (by omega)
              rw [<- List.range_eq_range', Nat.zero_mul] at this; exact this
            have fget : ∀ (i : Nat) (f : Field), ((List.range m).map fa)[i]? = some f -> i < m /\ f = fa i := by
              intro i f hf
              rw [List.getElem?_map] at hf
              by_cases hi : i < m
              · rw [List.getElem?_range hi] at hf; simp at hf; exact ⟨hi, hf.symm⟩
              · rw [List.getElem?_eq_none (by simp; omega)] at hf; cases hf
            intro h r dr
            obtain ⟨h', r', avs, k1, k2, k3⟩ := opens_fields (P := P) (W := W) ((List.range m).map fa) 0 (P.cellsOf t) cs (xs.map (·.1)) h0 hl (by simpa using e1) (fun i f d hf hd => by
              obtain ⟨hi, rfl⟩ := fget i f hf
              obtain ⟨y, y1, y2⟩ := e2 i i (List.getElem?_range hi)
              rw [List.getElem?_map, y2] at hd
              simp at hd; subst hd
              exact ih n e _ _ _ hp.1 y1) (Nat.zero_le _) h r dr
            refine ⟨h', r', avs, k1, by simpa using k2, .array hu (by have := k2.1; simp at this; omega) (by simpa using e1) (fun i d hd => ?_)⟩
            have hi : i < m := by
              have := (List.getElem?_eq_some_iff.1 hd).1
              simp at this e1; omega
            obtain ⟨_, q2⟩ := k3 i (fa i) d (by rw [List.getElem?_map, List.getElem?_range hi]; rfl) hd
            simpa [fa] using q2
          · cases h
end
end Go.Eng

namespace Go.Eng
open Go.RowKit Go.ChangeShapes
section
variable {H : Type} {enc : TypeId × Value -> H} {P : Program} {W : World}
def isAg (P : Program) (t : TypeId) : Bool := match P.underlying t with
  | some (.struct _) => true
  | some (.array _ _) => true
  | _ => false
def RdA (P : Program) (h : AH) (t : TypeId) (v : Value) (d : DataW H) : Prop :=
  if isAg P t then ∃ cs, v = .agg cs.toArray /\ Rd' P h t cs d else Rd' P h t [v] d
theorem RdA.ext {h : AH} {t : TypeId} {v : Value} {d : DataW H} (hr : RdA P h t v d) (x : AH) : RdA P (h ++ x) t v d := by
  unfold RdA at hr ⊢
  split
  · rename_i hh; rw [if_pos hh] at hr; obtain ⟨cs, h1, h2⟩ := hr; exact ⟨cs, h1, h2.ext x⟩
  · rename_i hh; rw [if_neg hh] at hr; exact hr.ext x
theorem scalar_cells {t : TypeId} {v : Value} {d : DataW H} {fuel n : Nat} {ps : List MemPlace} (hp : plainT P n t = true) (ha : isAg P t = false) {b : Nat} (hok : Value.okWide P W .any b t v) (h : DataW.trod enc P W 0 (fun _ => true) true fuel t v.cells.toList = some (d, ps)) : v.cells = #[v] := by
  cases v <;> try rfl
  exfalso
  cases n with
  | zero => simp [plainT] at hp
  | succ n =>
    cases hu : P.underlying t with
    | none => simp [plainT, hu] at hp
    | some u =>
      simp only [plainT, hu] at hp
      simp only [isAg, hu] at ha
      simp only [Value.okWide, hu] at hok
      cases u <;> simp only at hp ha hok <;> try (cases hp; done)
      all_goals first
        | (cases ha; done)
        | (simp [Cell.okWide, Cell.ok, hu] at hok; done)
theorem opens_args : ∀ (ts : List TypeId) (vs : List Value) (ds : List (DataW H)) (ps : List MemPlace), (∀ t ∈ ts, plainT P 20 t = true) -> DataW.TrodAll enc P W 0 (fun _ => true) true ts vs ds ps ->
    (∀ (j : Nat) (t : TypeId) (v : Value), ts[j]? = some t -> vs[j]? = some v -> ∃ b, Value.okWide P W .any b t v) -> ∀ h r, Dr P W h r ->
    ∃ (h' : AH) (r' : Rho) (avs : List Value), Ex P W h r h' r' /\ VL r' avs vs /\ avs.length = ts.length /\ ds.length = ts.length /\ ∀ (i : Nat) (t : TypeId) (v : Value) (d : DataW H), ts[i]? = some t -> avs[i]? = some v -> ds[i]? = some d -> RdA P h' t v d := by
  intro ts
  induction ts with
  | nil =>
    intro vs ds ps _ h _ hh r dr
    cases vs <;> cases ds <;> first | (exact h.elim) | skip
    exact ⟨hh, r, [], .refl dr, .nil r, rfl, rfl, fun i t v d ht => by simp at ht⟩
  | cons t ts ih =>
    intro vs ds ps hp h hok hh r dr
    cases vs with
    | nil => exact h.elim
    | cons v vs =>
      cases ds with
      | nil => exact h.elim
      | cons d ds =>
        obtain ⟨p, q, h1, h2, _⟩ := h
        obtain ⟨fuel, h1⟩ := h1
        have hpt := hp t List.mem_cons_self
        obtain ⟨h', r', acs, e1, e2, e3⟩ := opens fuel 20 t v.cells.toList d p hpt h1 hh r dr
        obtain ⟨bb, hokv⟩ := hok 0 t v rfl rfl
        have hone : ∃ av, VR r' av v /\ RdA P h' t av d := by
          cases ha : isAg P t with
          | true =>
            have hv : ∃ cs, v = .agg cs := by
              unfold isAg at ha
              unfold Value.okWide at hokv
              split at ha
              · rename_i hu; rw [hu] at hokv; obtain ⟨cs, h, _⟩ := hokv; exact ⟨cs, h⟩
              · rename_i hu; rw [hu] at hokv; obtain ⟨cs, h, _⟩ := hokv; exact ⟨cs, h⟩
              · cases ha
            obtain ⟨cs, rfl⟩ := hv
            refine ⟨.agg acs.toArray, ?_, by unfold RdA; rw [if_pos ha]; exact ⟨acs, rfl, e3⟩⟩
            exact VR.agg (by have := e2.1; simpa [Value.cells] using this) (fun i a b h1 h2 => e2.2 i a b (by simpa using h1) (by simpa [Value.cells] using h2))
          | false =>
            have hc := scalar_cells (enc := enc) hpt ha hokv h1
            rw [hc] at e2
            have hlen := e2.1
            simp at hlen
            cases acs with
            | nil => simp at hlen
            | cons a acs =>
              have : acs = [] := by simpa using hlen
              subst this
              exact ⟨a, e2.2 0 a v rfl rfl, by unfold RdA; rw [if_neg (by rw [ha]; simp)]; exact e3⟩
        obtain ⟨av, k1, k2⟩ := hone
        obtain ⟨h2', r2, avs, f1, f2, f3, f4, f5⟩ := ih vs ds q (fun t ht => hp t (List.mem_cons_of_mem _ ht)) h2 (fun j t v a b => hok (j + 1) t v (by simpa using a) (by simpa using b)) h' r' e1.1
        refine ⟨h2', r2, av :: avs, e1.trans f1, .cons (k1.mono f1.2.1) f2, by simp [f3], by simp [f4], fun i t' v' d' a b c => ?_⟩
        cases i with
        | zero =>
          simp at a b c; subst a; subst b; subst c
          obtain ⟨_, _, x, rfl⟩ := f1
          exact k2.ext x
        | succ i => exact f5 i t' v' d' (by simpa using a) (by simpa using b) (by simpa using c)
theorem Dr.empty (hT : TabOk P W.heap) : Dr P W [] (fun _ => none) := ⟨HR.empty P W.heap hT, fun b B h => by simp at h⟩
theorem Gets.law (hP : noGoroutines P = true) {f : FuncId} {fn : Func} (hf : P.funcs[f]? = some fn) (hb : fn.body.isSome = true) {h : AH} {r : Rho} {avs : List Value} {args : Array Value} (hg : Gets P f avs h fun res _ => res = .ret (.bool true)) (hd : Dr P W h r) (hv : VL r avs args.toList) :
    Calls P f args W fun e W' => e = .returned (.bool true) /\ Below W.heap.size W W' := by
  obtain ⟨res, h', h1, h2, rfl⟩ := hg
  obtain ⟨c, hc⟩ := Option.isSome_iff_exists.mp hb
  refine Calls.mono (Holds.calls hP hf hc h1 hd.hr hv) fun e w' he => ?_
  obtain ⟨v', r', rfl, st, hvr⟩ := he
  exact ⟨by rw [hvr.bool_inv], st.below' hd.ro⟩
theorem trodAll_below (hl : laidOutB P = true) {W' : World} (hb : Below W.heap.size W W') : ∀ (ts : List TypeId) (vs : List Value) (ds : List (DataW H)) (ps : List MemPlace), (∀ t ∈ ts, P.readableRec t = true /\ t < P.types.size) ->
    DataW.TrodAll enc P W 0 (fun _ => true) true ts vs ds ps -> (∀ x ∈ ps, x.block < W.heap.size) -> DataW.TrodAll enc P W' 0 (fun b => decide (b < W.heap.size)) true ts vs ds ps := by
  intro ts
  induction ts with
  | nil =>
    intro vs ds ps _ h _
    cases vs <;> cases ds <;> first | (exact h.elim) | exact h
  | cons t ts ih =>
    intro vs ds ps hr h hlt
    cases vs with
    | nil => exact h.elim
    | cons v vs =>
      cases ds with
      | nil => exact h.elim
      | cons d ds =>
        obtain ⟨p, q, h1, h2, rfl⟩ := h
        have := hr t List.mem_cons_self
        exact ⟨p, q, Below.trod hl this.1 this.2 h1 hb (fun x hx => hlt x (List.mem_append_left _ hx)), ih vs ds q (fun t ht => hr t (List.mem_cons_of_mem _ ht)) h2 (fun x hx => hlt x (List.mem_append_right _ hx)), rfl⟩
end
end Go.Eng

namespace Go.Eng
theorem vc_int {k : IntKind} {n : Int} : Value.cells (.int k n) = #[.int k n] := rr rfl
theorem vc_bool {b : Bool} : Value.cells (.bool b) = #[.bool b] := rr rfl
theorem vc_str {b : ByteArray} : Value.cells (.string b) = #[.string b] := rr rfl
theorem vc_ptr {a : Option Addr} : Value.cells (.pointer a) = #[.pointer a] := rr rfl
theorem vc_sl {a : Option Addr} {n c : Nat} : Value.cells (.slice a n c) = #[.slice a n c] := rr rfl
theorem vc_map {a : Option Nat} : Value.cells (.map a) = #[.map a] := rr rfl
theorem vc_if {t : Nat} {v : Value} : Value.cells (.iface t v) = #[.iface t v] := rr rfl
theorem vc_ni : Value.cells .nilIface = #[.nilIface] := rr rfl
theorem vc_nf : Value.cells .nilFunc = #[.nilFunc] := rr rfl
theorem vc_fn {f : Fn} {a b : Array Value} : Value.cells (.func f a b) = #[.func f a b] := rr rfl
theorem vc_agg {cs : List Value} : Value.cells (.agg cs.toArray) = cs.toArray := rr rfl
theorem vs1 {v : Value} : (#[v] : Array Value).size = 1 := rr rfl
theorem vl1 {v : Value} : (#[v] : Array Value).toList = [v] := rr rfl
theorem vsl {cs : List Value} : cs.toArray.size = cs.length := rr rfl
theorem vll {cs : List Value} : cs.toArray.toList = cs := rr rfl
theorem bldv_nil {cs : List Value} : bldv cs [] = some cs := rr rfl
theorem bldv_cons {cs : List Value} {off n : Nat} {v : Value} {l : List (Nat × Nat × Value)} : bldv cs ((off, n, v) :: l) = if v.cells.size = n /\ off + n <= cs.length then bldv (cs.take off ++ v.cells.toList ++ cs.drop (off + n)) l else none := rr rfl
theorem lt0 {cs : List Value} : cs.take 0 = [] := rr rfl
theorem lts {v : Value} {cs : List Value} {n : Nat} : (v :: cs).take (n + 1) = v :: cs.take n := rr rfl
theorem ld0 {cs : List Value} : cs.drop 0 = cs := rr rfl
theorem lds {v : Value} {cs : List Value} {n : Nat} : (v :: cs).drop (n + 1) = cs.drop n := rr rfl
theorem ldn {n : Nat} : ([] : List Value).drop n = [] := by cases n <;> rfl
theorem lac {v : Value} {a b : List Value} : (v :: a) ++ b = v :: (a ++ b) := rr rfl
theorem lln : ([] : List Value).length = 0 := rr rfl
theorem llc {v : Value} {a : List Value} : (v :: a).length = a.length + 1 := rr rfl
theorem lg0 {v : Value} {a : List Value} : (v :: a)[0]? = some v := rr rfl
theorem lgs {v : Value} {a : List Value} {n : Nat} : (v :: a)[n + 1]? = a[n]? := rr rfl
section
variable {P : Program} {keep : Bool} {nm : List Nat} {Φ : Out -> PS -> Prop} {c : Cn} {k : List Fm} {e l : PE} {h : AH} {ds : List Dfr} {d : D}
theorem XH_own {b o n : Nat} {t : TypeId} {cs : List Value} {v : Value} (ho : Own h b t cs) (hn : n = v.cells.size) (hl : o + v.cells.toList.length <= cs.length) (h1 : v.cells.toList.all Value.oneCell' = true)
    (hk : ∀ h', Own h' b t (cs.take o ++ v.cells.toList ++ cs.drop (o + v.cells.toList.length)) -> Keep (· = b) h h' -> h'.length = h.length -> XV P keep nm Φ undef d c k e l h' ds) : XH P keep nm Φ (stv h n (.pointer (some ⟨b, o, none⟩)) v) d c k e l ds := by
  obtain ⟨h', k1, k2, k3, k4⟩ := ho.store hl h1
  simp only [stv, if_pos hn, k1]
  exact hk h' k2 k3 k4
end
theorem mbl : type_of% @vc_int /\ type_of% @vc_bool /\ type_of% @vc_str /\ type_of% @vc_ptr /\ type_of% @vc_sl /\ type_of% @vc_map /\ type_of% @vc_if /\ type_of% @vc_ni /\ type_of% @vc_nf /\ type_of% @vc_fn /\ type_of% @vc_agg /\ type_of% @vs1 /\ type_of% @vl1 /\ type_of% @vsl /\ type_of% @vll /\ type_of% @bldv_nil /\ type_of% @bldv_cons /\ type_of% @lt0 /\ type_of% @lts /\ type_of% @ld0 /\ type_of% @lds /\ type_of% @ldn /\ type_of% @lac /\ type_of% @lln /\ type_of% @llc /\ type_of% @lg0 /\ type_of% @lgs /\ type_of% @true_and /\ type_of% @and_true /\ type_of% @and_self := ⟨@vc_int, @vc_bool, @vc_str, @vc_ptr, @vc_sl, @vc_map, @vc_if, @vc_ni, @vc_nf, @vc_fn, @vc_agg, @vs1, @vl1, @vsl, @vll, @bldv_nil, @bldv_cons, @lt0, @lts, @ld0, @lds, @ldn, @lac, @lln, @llc, @lg0, @lgs, @true_and, @and_true, @and_self⟩
theorem mstd : type_of% @Nat.add_zero /\ type_of% @Nat.zero_add /\ type_of% @decide_true /\ type_of% @decide_false /\ type_of% @Bool.not_true /\ type_of% @Bool.not_false /\ type_of% @Bool.false_eq_true /\ (∀ {α : Type} (l : List α), [] ++ l = l) /\ (∀ {α : Type} (l : List α), l ++ [] = l) /\ (∀ {α : Type} {a : α} [BEq α], ([] : List α).contains a = false) := ⟨@Nat.add_zero, @Nat.zero_add, @decide_true, @decide_false, @Bool.not_true, @Bool.not_false, @Bool.false_eq_true, @List.nil_append, @List.append_nil, @List.contains_nil⟩
end Go.Eng

namespace Go.Eng
structure Bulk (H : Type) where
  f : DataW H -> Nat
  fa : List (DataW H) -> Nat
  one : ∀ d, 1 <= f d
  str : ∀ l, f (.lit (.string l)) = l.length + 1
  sl : ∀ a b, f (.slice a b) = fa a + fa b + 1
  ag : ∀ a, f (.agg a) = fa a + 1
  nil : fa [] = 0
  cons : ∀ d r, fa (d :: r) = f d + fa r
theorem Bulk.part {H : Type} (B : Bulk H) {d : DataW H} {l : List (DataW H)} (h : d ∈ l) : B.f d <= B.fa l := by
  induction l with
  | nil => cases h
  | cons x r ih =>
    rw [B.cons]
    cases List.mem_cons.1 h with
    | inl e => subst e; omega
    | inr e => have := ih e; omega
theorem Bulk.len {H : Type} (B : Bulk H) (l : List (DataW H)) : l.length <= B.fa l := by
  induction l with
  | nil => simp
  | cons x r ih => have := B.one x; rw [B.cons, List.length_cons]; omega
theorem Bulk.elem {H : Type} (B : Bulk H) {a b : List (DataW H)} {i : Nat} {d : DataW H} (h : a[i]? = some d) : B.f d <= B.f (.slice a b) := by
  have := B.part (List.mem_of_getElem? h)
  rw [B.sl]; omega
theorem Bulk.field {H : Type} (B : Bulk H) {a : List (DataW H)} {i : Nat} {d : DataW H} (h : a[i]? = some d) : B.f d <= B.f (.agg a) := by
  have := B.part (List.mem_of_getElem? h)
  rw [B.ag]; omega
theorem Bulk.slen {H : Type} (B : Bulk H) (a b : List (DataW H)) : a.length <= B.f (.slice a b) := by
  have := B.len a
  rw [B.sl]; omega
end Go.Eng

namespace Go.Eng
section
variable {P : Program} {keep : Bool} {nm : List Nat} {r r' : Rho} {s : PS} {a : Act} {w w' : World} {N : Nat}
def lookd (P : Program) (g : FuncId) (nm : List Nat) (D : Array Oper -> Bool) : Option (Go.Eng.D × RC × List RV) :=
  match P.funcs[g]? with
  | some fn => match fn.body.bind recHead with
    | some (o, rest) => match resDst nm fn.ntmps o.dst, resC P nm fn.ntmps D rest, resRVs P nm fn.results.toList with
      | some d, some rc, some rvs => some (d, rc, rvs)
      | _, _, _ => none
    | none => none
  | none => none
def dfrK (P : Program) (keep : Bool) (g : FuncId) (nm : List Nat) (d : D) (rc : RC) (rvd rvs : List RV) (Φ : Res -> AH -> Prop) (s : PS) (m : Option Value) : Prop :=
  (∃ cap args, s.ds = [⟨.func g, cap, args⟩] /\ ((List.range (args ++ cap).length).all nm.contains) = true /\
    wpc P keep nm rc (fun out t => (out = .norm \/ out = .ret) /\ t.ds = [] /\ s.h.length <= t.h.length /\ (∃ vs, rvK P t rvd (· = vs)) /\ rvK P ⟨s.e, s.l, t.h, []⟩ rvs fun vs => Φ (.ret (tup vs)) t.h)
      ⟨pe d (argE 0 (args ++ cap)) (m.getD .nilIface), pl d [] (m.getD .nilIface), s.h, []⟩) \/
  (s.ds = [] /\ m = none /\ rvK P s rvs fun vs => Φ (.ret (tup vs)) s.h)
def finD (P : Program) (keep : Bool) (g : FuncId) (nm : List Nat) (d : D) (rc : RC) (rvd rvs : List RV) (Φ : Res -> AH -> Prop) : Out -> PS -> Prop
  | .norm, s => dfrK P keep g nm d rc rvd rvs Φ s none
  | .ret, s => dfrK P keep g nm d rc rvd rvs Φ s none
  | .pan v, s => dfrK P keep g nm d rc rvd rvs Φ s (some v)
  | .exit _, _ => False
theorem dfr_ok (hP : noGoroutines P = true) {g : FuncId} {D : Array Oper -> Bool} (hD : ∀ N, DrawOk P keep nm N D) {d : Go.Eng.D} {rc : RC} {rvd : List RV} (hk : lookd P g nm D = some (d, rc, rvd)) {fn : Func} {tmps : Array Value} {R : Ending -> World -> Prop}
    {h : AH} (hr : HR P r h w.heap) {cap args : List Value} (hnm : ((List.range (args ++ cap).length).all nm.contains) = true) {d' : Deferred} (hd : DR1 r ⟨.func g, cap, args⟩ d') {m : Option Value} {u : FrameMode} (hu : MR r m u)
    {Ψ : Out -> PS -> Prop} (hw : wpc P keep nm rc Ψ ⟨pe d (argE 0 (args ++ cap)) (m.getD .nilIface), pl d [] (m.getD .nilIface), h, []⟩)
    (hΨ : ∀ out t, Ψ out t -> (out = .norm \/ out = .ret) /\ t.ds = [] /\ ∃ vs, rvK P t rvd (· = vs))
    (hQ : ∀ out t r' w', Ψ out t -> Stp P r h w r' t.h w' -> Leaves P fn tmps R [] .returning w') : Leaves P fn tmps R [d'] u w := by
  obtain ⟨cap', args', rfl, hcap, hargs⟩ := hd
  unfold lookd at hk
  split at hk
  case h_2 => cases hk
  case h_1 fn2 hf =>
    split at hk
    case h_2 => cases hk
    case h_1 o rest hrest =>
      split at hk
      case h_2 => cases hk
      case h_1 dd rc' rvs' g1 g2 g3 =>
        cases hk
        obtain ⟨c, hb, hc⟩ := Option.bind_eq_some_iff.1 hrest
        obtain ⟨id, rfl, hrec⟩ := recHead_inv hc
        refine leaves_cons hu.ne_run (f := g) (args := args' ++ cap') (run_callFunc hP hf hb _ w) ?_
        refine callsD_of_wpS hf hb fun c₀ cs hc0 => ?_
        have hall : VL r (args ++ cap) (args' ++ cap').toList := by
          have := hargs.append hcap
          simpa using this
        have sp0 := start_sp (P := P) (nm := nm) (N := fn2.ntmps) hr hall hnm
        refine wpS_seq (wpS_region ?_)
        have hl : List.range (#[o] : Array Oper).size = [0] := rfl
        rw [hl]
        have h0 : (#[o] : Array Oper)[0]? = some o := rfl
        obtain ⟨hgd, hrun⟩ := recOp_run (P := P) hrec { tmps := args' ++ cap' ++ Array.replicate (fn2.ntmps - (args' ++ cap').size) undef, defers := [] } w
        have hwd : Region.wanted o (yielded #[o] (args' ++ cap' ++ Array.replicate (fn2.ntmps - (args' ++ cap').size) undef)) = true := by
          simp [Region.wanted, hgd]
        have key : ∀ (v v' : Value) (u' : FrameMode), m.getD .nilIface = v -> VR r v v' -> settle u' = .returning -> rest.wpS P (bodyPostS P fn2 c₀ cs fun
              | .returned _, u', w' => Leaves P fn tmps R [] (settle u') w'
              | .panicked chain, u', w' => Leaves P fn tmps R [] (raised u' chain) w'
              | .outgrown, _, w' => R .outgrown w')
            (({ tmps := args' ++ cap' ++ Array.replicate (fn2.ntmps - (args' ++ cap').size) undef, defers := [] } : Act).put o.dst v') ({ c₀ with mode := u' } :: cs) w := by
          intro v v' u' hv hvr hset
          refine wpS_of_wp ?_
          rw [hv] at hw
          have start := sp0.put g1 (.refl hr) hvr
          refine wpc_ok (hD _) rest g2 Ψ r _ _ w start hw _ (fun out t hp ex a' w' r' hoe st sr => ?_)
          obtain ⟨ho, hds, vs, hvs⟩ := hΨ _ _ hp
          obtain ⟨v2, e1, e2⟩ := rtup_ok sr g3 hvs
          have hdd := (show DR r' [] a'.defers from hds ▸ sr.ds).nil_inv
          have fin : Leaves P fn tmps R [] (settle u') w' := by rw [hset]; exact hQ _ _ _ _ hp st
          rcases ho with rfl | rfl
          · cases hoe; exact ⟨hdd, u', rfl, v2, e1, fin⟩
          · cases hoe; exact ⟨hdd, u', rfl, v2, e1, fin⟩
        simp only [wpOpsS, h0, hwd, if_true, hrun]
        cases m with
        | none =>
          have hu' : c₀.mode = .returning := hc0.trans hu
          have hn : recoverD (c₀ :: cs) = none := by simp [recoverD, hu']
          rw [hn]
          have := key .nilIface .nilIface .returning rfl .inil rfl
          rw [<- hu'] at this
          exact this
        | some v =>
          obtain ⟨v', hu1, hv⟩ := hu
          have hu' : c₀.mode = .panicking [entry v'] := hc0.trans hu1
          have hn : recoverD (c₀ :: cs) = some (v', { c₀ with mode := .panicking [{ v := v', recovered := true }] } :: cs) := by
            simp [recoverD, hu', entry]
          rw [hn]
          exact key v v' _ rfl hv (by simp [settle])
theorem SP.later (hs : SP P nm N r s a w) {h' : AH} (st : Stp P r s.h w r' h' w') : SP P nm N r' ⟨s.e, s.l, h', []⟩ { a with defers := [] } w' :=
  ⟨fun t v h => let ⟨u, h1, h2⟩ := hs.e t v h; ⟨u, h1, h2.mono st.le⟩, fun t v h => let ⟨u, h1, h2⟩ := hs.l t v h; ⟨u, h1, h2.mono st.le⟩, hs.en, hs.ln, hs.sz, st.hr, trivial⟩
theorem Gets.fnd {keepg : Bool} {nmg : List Nat} (hP : noGoroutines P = true) {D : Array Oper -> Bool} (hD : ∀ N, DrawOk P keep nm N D) (hDg : ∀ N, DrawOk P keepg nmg N D) {f : FuncId} {rc : RC} {rvs : List RV} (hk : look1 P f nm D = some (rc, rvs))
    {g : FuncId} {d : Go.Eng.D} {rcg : RC} {rvd : List RV} (hkg : lookd P g nmg D = some (d, rcg, rvd)) {args : List Value} (hnm : ((List.range args.length).all nm.contains) = true) {h : AH} {Φ : Res -> AH -> Prop}
    (hw : wpc P keep nm rc (finD P keepg g nmg d rcg rvd rvs Φ) ⟨argE 0 args, [], h, []⟩) : Gets P f args h Φ := by
  unfold look1 at hk
  split at hk
  case h_2 => cases hk
  case h_1 fn hf =>
    split at hk
    case h_2 => cases hk
    case h_1 c hb =>
      split at hk
      case h_2 => cases hk
      case h_1 rc' rvs' g1 g2 =>
        cases hk
        obtain ⟨out, s', k1, k2, k3⟩ := wpc_one rc _ _ hw
        have main : ∀ {m : Option Value}, leftBy out = some m -> dfrK P keepg g nmg d rcg rvd rvs Φ s' m -> Gets P f args h Φ := by
          rintro m hm (⟨cap, dargs, hds, hn, hwd⟩ | ⟨hds, rfl, hk2⟩)
          case inr =>
            obtain ⟨vs, p1, p2⟩ := rvK_one _ hk2
            refine ⟨.ret (tup vs), s'.h, ?_, k2, p1⟩
            intro r w args' hr' ha o a K Q hK hQ
            rw [run_callFunc hP hf hb]
            refine calls_of_wp_defers hf hb ?_
            refine wpc_ok (hD _) c g1 (fun o' t => o' = out /\ t = s') r _ _ w (start_sp (N := fn.ntmps) hr' ha hnm) (k3 _ ⟨rfl, rfl⟩) _ (fun o' t' hp ex a' w' r' hoe st sr => ?_)
            obtain ⟨rfl, rfl⟩ := hp
            have hdd := (show DR r' [] a'.defers from hds ▸ sr.ds).nil_inv
            obtain ⟨v', e1, e2⟩ := rtup_ok sr g2 p2
            have behind : Leaves P fn a'.tmps (fun
                | .returned v, w'' => K (a.put o.dst v) w''
                | .panicked chain, w'' => Q (.panic chain) a w''
                | .outgrown, _ => LetsOut Q) a'.defers .returning w' := by
              rw [hdd]
              exact ⟨v', e1, hK _ _ _ _ rfl st e2⟩
            cases o' with
            | norm => cases hoe; exact behind
            | ret => cases hoe; exact behind
            | pan v => cases hm
            | exit id => cases hm
          obtain ⟨out2, t, q1, q2, q3⟩ := wpc_one rcg _ _ hwd
          obtain ⟨o1, o2, o4, ⟨vsd, o3⟩, hk2⟩ := q1
          obtain ⟨vs, p1, p2⟩ := rvK_one _ hk2
          refine ⟨.ret (tup vs), t.h, ?_, Nat.le_trans k2 o4, p1⟩
          intro r w args' hr' ha o a K Q hK hQ
          rw [run_callFunc hP hf hb]
          refine calls_of_wp_defers hf hb ?_
          refine wpc_ok (hD _) c g1 (fun o' t => o' = out /\ t = s') r _ _ w (start_sp (N := fn.ntmps) hr' ha hnm) (k3 _ ⟨rfl, rfl⟩) _ (fun o' t' hp ex a' w' r' hoe st sr => ?_)
          obtain ⟨rfl, rfl⟩ := hp
          have hdr : DR r' [⟨.func g, cap, dargs⟩] a'.defers := hds ▸ sr.ds
          obtain ⟨d', rfl', hd'⟩ : ∃ d', a'.defers = [d'] /\ DR1 r' ⟨.func g, cap, dargs⟩ d' := by
            cases hx : a'.defers with
            | nil => rw [hx] at hdr; exact hdr.elim
            | cons x xs =>
              rw [hx] at hdr
              refine ⟨x, ?_, hdr.1⟩
              rw [DR.nil_inv hdr.2]
          have behind : ∀ {u : FrameMode}, MR r' m u -> Leaves P fn a'.tmps (fun
              | .returned v, w'' => K (a.put o.dst v) w''
              | .panicked chain, w'' => Q (.panic chain) a w''
              | .outgrown, _ => LetsOut Q) a'.defers u w' := by
            intro u hu
            rw [rfl']
            refine dfr_ok hP hDg hkg sr.hr hn hd' hu (q3 (fun o' t' => o' = out2 /\ t' = t) ⟨rfl, rfl⟩) (fun o' t' hp => ?_) (fun o' t' r2 w2 hp st2 => ?_)
            · obtain ⟨rfl, rfl⟩ := hp; exact ⟨o1, o2, vsd, o3⟩
            · obtain ⟨rfl, rfl⟩ := hp
              obtain ⟨v', e1, e2⟩ := rtup_ok (sr.later st2) g2 p2
              exact ⟨v', e1, hK _ _ _ _ rfl (st.trans st2) e2⟩
          cases o' with
          | norm => cases hoe; cases hm; exact behind rfl
          | ret => cases hoe; cases hm; exact behind rfl
          | pan v => obtain ⟨v', rfl, hv⟩ := hoe; cases hm; exact behind ⟨v', rfl, hv⟩
          | exit id => cases hm
        cases out with
        | norm => exact main rfl k1
        | ret => exact main rfl k1
        | exit id => exact k1.elim
        | pan v => exact main rfl k1
end
end Go.Eng

namespace Go.Eng
section
variable {P : Program} {keep : Bool} {nm : List Nat}
theorem Gets.ofd {keepg : Bool} {nmg : List Nat} (hP : noGoroutines P = true) {D : Array Oper -> Bool} (hD : ∀ N, DrawOk P keep nm N D) (hDg : ∀ N, DrawOk P keepg nmg N D) {f : FuncId} {rc : RC} {rvs : List RV} (hk : look1 P f nm D = some (rc, rvs))
    {g : FuncId} {d : Go.Eng.D} {rcg : RC} {rvd : List RV} (hkg : lookd P g nmg D = some (d, rcg, rvd)) {args : List Value} (hnm : ((List.range args.length).all nm.contains) = true) {h : AH} {Φ : Res -> AH -> Prop}
    (hw : ∀ Ψ : Out -> PS -> Prop, (∀ o s, finD P keepg g nmg d rcg rvd rvs Φ o s -> Ψ o s) -> XC P keep nm Ψ rc [] (argE 0 args) [] h []) : Gets P f args h Φ :=
  Gets.fnd hP hD hDg hk hkg hnm (hw _ fun _ _ h => h)
theorem dfr_of {keepg : Bool} {g : FuncId} {nmg : List Nat} {d : D} {rc : RC} {rvd rvs : List RV} {Φ : Res -> AH -> Prop} {e l : PE} {h : AH} {cap args : List Value} {m : Option Value} (hn : ((List.range (args ++ cap).length).all nmg.contains) = true)
    (hw : ∀ Ψ2 : Out -> PS -> Prop, (∀ out t, (out = .norm \/ out = .ret) /\ t.ds = [] /\ h.length <= t.h.length /\ (∃ vs, rvK P t rvd (· = vs)) /\ (rvK P ⟨e, l, t.h, []⟩ rvs fun vs => Φ (.ret (tup vs)) t.h) -> Ψ2 out t) ->
      XC P keepg nmg Ψ2 rc [] (pe d (argE 0 (args ++ cap)) (m.getD .nilIface)) (pl d [] (m.getD .nilIface)) h []) : dfrK P keepg g nmg d rc rvd rvs Φ ⟨e, l, h, [⟨.func g, cap, args⟩]⟩ m :=
  .inl ⟨cap, args, rfl, hn, hw _ fun _ _ h => h⟩
end
end Go.Eng
