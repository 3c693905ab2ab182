import Derived.Test.YtemjmjacmokidaaDoorD18
import Derived.Test.YtemjmjacmokidaaDoorL0
set_option linter.all false
namespace Go.HL
open Go Go.Proofs
set_option maxRecDepth 10000
theorem sh_int {k : Nat} {t : TypeId} {ki : IntKind} {hs : List HV} (hu : Tryd.prog.underlying t = some (.int ki)) (h : Shape Tryd.prog (k + 1) t hs) : ∃ n, hs = [.int ki n] := by
  unfold Shape at h
  rw [hu] at h
  obtain ⟨n, h, _⟩ := h
  exact ⟨n, h⟩
theorem sh_str {k : Nat} {t : TypeId} {hs : List HV} (hu : Tryd.prog.underlying t = some .string) (h : Shape Tryd.prog (k + 1) t hs) : ∃ l, hs = [.str (B l)] ∧ l.length ≤ maxLen := by
  unfold Shape at h
  rw [hu] at h
  obtain ⟨s, h, h'⟩ := h
  exact ⟨s.data.toList, h, by rw [Array.length_toList]; exact h'⟩
theorem trig_of {a : List HV} (h : Shape Tryd.prog 6 27 a) : ∃ t : Trig, a = t.hv := by
  unfold Shape at h
  rw [Tryd.underlying27] at h
  change ShapeL _ [22, 23, 25] _ at h
  obtain ⟨_, _, rfl, h1, _, _, rfl, h2, _, _, rfl, h3, rfl⟩ := h
  obtain ⟨k, rfl⟩ := sh_int Tryd.underlying22 h1
  obtain ⟨n, rfl, _⟩ := sh_str Tryd.underlying23 h2
  unfold Shape at h3
  rw [Tryd.underlying25] at h3
  change ShapeL _ [9, 3] _ at h3
  obtain ⟨_, _, rfl, h4, _, _, rfl, h5, rfl⟩ := h3
  obtain ⟨d, rfl, _⟩ := sh_str Tryd.underlying9 h4
  obtain ⟨m, rfl⟩ := sh_int Tryd.underlying3 h5
  exact ⟨⟨k, n, d, m⟩, rfl⟩
namespace D
theorem searchLess_om (a b c : List HV) (ha : Shape Tryd.prog 6 27 a) (hb : Shape Tryd.prog 6 27 b) (hc : Shape Tryd.prog 6 27 c) :
    Om Tryd.prog (cfg gl0) (.call 3 [.agg a, .agg b, .agg c] emptyS fun x _ => x = .bool true) := by
  obtain ⟨a, rfl⟩ := trig_of ha
  obtain ⟨b, rfl⟩ := trig_of hb
  obtain ⟨c, rfl⟩ := trig_of hc
  exact searchLess_spec fun _ _ => rfl
end D
end Go.HL
