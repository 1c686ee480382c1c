/- A struct that came in: its parts, one by one; plain theorems, no function of the program in sight. -/
import Derived.Test.YtjklhiifjnmedaaGreatDoorKit
import Derived.ProofKit
import Derived.OpenShut
namespace Go.Proofs.YtjklhiifjnmedaaGreatDoor
open Go.ChangeShapes Go.WideShapes Go.ChangeAt Go.RowKit

section
variable {H : Type} {enc : TypeId × Value → H} {P : Program} {w : World} {base : Nat} {spare : Nat → Bool} {held : Bool} {t : TypeId} {fuel : Nat} {cs : List Value} {x : DataW H × List MemPlace}
/-- The parts of a struct's cells. -/
theorem trod_parts {t : TypeId} {ps : List (TypeId × Nat × Nat)} (ht : P.underlying t = some (.struct (P.fieldsOf t))) (hps : ((P.fieldsOf t).toList.map fun f => (f.type, f.offset, P.cellsOf f.type)) = ps)
    (h : DataW.trod enc P w base spare held fuel t cs = some x) : cs.length = P.cellsOf t ∧ ∀ (j : Nat) (q : TypeId × Nat × Nat), ps[j]? = some q → ∃ n y, DataW.trod enc P w base spare held n q.1 ((cs.drop q.2.1).take q.2.2) = some y := by
  obtain ⟨xs, n, _, _, hl, hlen, hf⟩ := DataW.trod_struct ht h
  refine ⟨hl, fun j q hq => ?_⟩
  subst hps
  rw [List.getElem?_map] at hq
  obtain ⟨f, hf1, rfl⟩ := Option.map_eq_some_iff.1 hq
  rw [Array.getElem?_toList] at hf1
  have hj : j < xs.length := by rw [hlen]; exact (Array.getElem?_eq_some_iff.1 hf1).1
  exact ⟨n, xs[j], by rw [hf j f hf1]; exact List.getElem?_eq_getElem hj⟩
theorem trod_int1 {k : IntKind} {n : Nat} {c : Value} {y : DataW H × List MemPlace} (ht : P.underlying t = some (.int k)) (h : DataW.trod enc P w base spare held n t [c] = some y) : ∃ m, c = .int k m ∧ (Lit.int k m).wf = true := by
  obtain ⟨m, hc, _, hw⟩ := DataW.trod_int ht h
  exact ⟨m, by simpa using hc, hw⟩
theorem trod_bool1 {n : Nat} {c : Value} {y : DataW H × List MemPlace} (ht : P.underlying t = some .bool) (h : DataW.trod enc P w base spare held n t [c] = some y) : ∃ b, c = .bool b := by
  obtain ⟨m, hc, _⟩ := DataW.trod_bool ht h
  exact ⟨m, by simpa using hc⟩
theorem trod_string1 {n : Nat} {c : Value} {y : DataW H × List MemPlace} (ht : P.underlying t = some .string) (h : DataW.trod enc P w base spare held n t [c] = some y) : ∃ l : List UInt8, c = .string ⟨l.toArray⟩ ∧ l.length ≤ maxLen := by
  obtain ⟨s, hc, _, hs⟩ := DataW.trod_string ht h
  exact ⟨s.data.toList, by simpa using hc, by rw [Array.length_toList]; exact hs⟩
theorem wf_i64 {n : Int} (h : (Lit.int .i64 n).wf = true) : -9223372036854775808 ≤ n ∧ n ≤ 9223372036854775807 := by
  simp [Lit.wf] at h
  have e1 : IntKind.i64.min = -9223372036854775808 := by decide
  have e2 : IntKind.i64.max = 9223372036854775807 := by decide
  omega
theorem wf_u8 {n : Int} (h : (Lit.int .u8 n).wf = true) : 0 ≤ n ∧ n < 256 := by
  simp [Lit.wf] at h
  have e1 : IntKind.u8.min = 0 := by decide
  have e2 : IntKind.u8.max = 255 := by decide
  omega
end
end Go.Proofs.YtjklhiifjnmedaaGreatDoor
