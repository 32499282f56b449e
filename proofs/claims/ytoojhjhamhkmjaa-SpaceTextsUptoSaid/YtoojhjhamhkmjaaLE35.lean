/- The engine, part 35: the machine, more rules. -/
import Derived.Test.YtoojhjhamhkmjaaLE34
set_option linter.unusedVariables false
set_option linter.unusedSimpArgs false
namespace Go.Eng

theorem vc_int {k : IntKind} {n : Int} : Value.cells (.int k n) = #[.int k n] := rr rfl
theorem vc_bool {b : Bool} : Value.cells (.bool b) = #[.bool b] := rr rfl
theorem vc_str {b : ByteArray} : Value.cells (.string b) = #[.string b] := rr rfl
theorem vc_ptr {a : Option Addr} : Value.cells (.pointer a) = #[.pointer a] := rr rfl
theorem vc_sl {a : Option Addr} {n c : Nat} : Value.cells (.slice a n c) = #[.slice a n c] := rr rfl
theorem vc_map {a : Option Nat} : Value.cells (.map a) = #[.map a] := rr rfl
theorem vc_if {t : Nat} {v : Value} : Value.cells (.iface t v) = #[.iface t v] := rr rfl
theorem vc_ni : Value.cells .nilIface = #[.nilIface] := rr rfl
theorem vc_nf : Value.cells .nilFunc = #[.nilFunc] := rr rfl
theorem vc_fn {f : Fn} {a b : Array Value} : Value.cells (.func f a b) = #[.func f a b] := rr rfl
theorem vc_agg {cs : List Value} : Value.cells (.agg cs.toArray) = cs.toArray := rr rfl
theorem vs1 {v : Value} : (#[v] : Array Value).size = 1 := rr rfl
theorem vl1 {v : Value} : (#[v] : Array Value).toList = [v] := rr rfl
theorem vsl {cs : List Value} : cs.toArray.size = cs.length := rr rfl
theorem vll {cs : List Value} : cs.toArray.toList = cs := rr rfl
theorem bldv_nil {cs : List Value} : bldv cs [] = some cs := rr rfl
theorem bldv_cons {cs : List Value} {off n : Nat} {v : Value} {l : List (Nat × Nat × Value)} : bldv cs ((off, n, v) :: l) = if v.cells.size = n ∧ off + n ≤ cs.length then bldv (cs.take off ++ v.cells.toList ++ cs.drop (off + n)) l else none := rr rfl
theorem lt0 {cs : List Value} : cs.take 0 = [] := rr rfl
theorem lts {v : Value} {cs : List Value} {n : Nat} : (v :: cs).take (n + 1) = v :: cs.take n := rr rfl
theorem ld0 {cs : List Value} : cs.drop 0 = cs := rr rfl
theorem lds {v : Value} {cs : List Value} {n : Nat} : (v :: cs).drop (n + 1) = cs.drop n := rr rfl
theorem ldn {n : Nat} : ([] : List Value).drop n = [] := by cases n <;> rfl
theorem lac {v : Value} {a b : List Value} : (v :: a) ++ b = v :: (a ++ b) := rr rfl
theorem lln : ([] : List Value).length = 0 := rr rfl
theorem llc {v : Value} {a : List Value} : (v :: a).length = a.length + 1 := rr rfl
theorem lg0 {v : Value} {a : List Value} : (v :: a)[0]? = some v := rr rfl
theorem lgs {v : Value} {a : List Value} {n : Nat} : (v :: a)[n + 1]? = a[n]? := rr rfl

section
variable {P : Program} {keep : Bool} {nm : List Nat} {Φ : Out → PS → Prop} {c : Cn} {k : List Fm} {e l : PE} {h : AH} {ds : List Dfr} {d : D}
/-- A store into a block of one's own. -/
theorem XH_own {b o n : Nat} {t : TypeId} {cs : List Value} {v : Value} (ho : Own h b t cs) (hn : n = v.cells.size) (hl : o + v.cells.toList.length ≤ cs.length) (h1 : v.cells.toList.all Value.oneCell' = true)
    (hk : ∀ h', Own h' b t (cs.take o ++ v.cells.toList ++ cs.drop (o + v.cells.toList.length)) → Keep (· = b) h h' → h'.length = h.length → XV P keep nm Φ undef d c k e l h' ds) : XH P keep nm Φ (stv h n (.pointer (some ⟨b, o, none⟩)) v) d c k e l ds := by
  obtain ⟨h', k1, k2, k3, k4⟩ := ho.store hl h1
  simp only [stv, if_pos hn, k1]
  exact hk h' k2 k3 k4
end

end Go.Eng
