/- What the form's own reach says of a slice that came in; plain theorems. -/
import Derived.Deep.Slices
import Derived.SizedLaws
namespace Go.Proofs.YtjklhiifjnmedaaGreat
open Go.Deep
section
variable {H : Type} {enc : TypeId × Value → H} {P : Program} {w : World} {base : Nat} {spare : Nat → Bool} {held : Bool} {t e : TypeId} {A : Option Addr} {n c : Nat} {d : DataW H} {p : List MemPlace}
theorem slice_reach {ts : List TypeId} {ds : List (DataW H)} {j : Nat} (hs : (DataW.weightsEach P ts ds).all (· ≤ reachBytes) = true) (ht : ts[j]? = some t) (hd : ds[j]? = some d) (hu : P.underlying t = some (.slice e))
    (h : DataW.Trod enc P w base spare held t (.slice A n c) d p) : n * P.bytesOf e ≤ 140737488351232 := by
  obtain ⟨fuel, hf⟩ := h
  rcases open_slice hu hf with ⟨hcs, _⟩ | ⟨a, len, cap, m, k, D, Pl, hcs, _, hl, hm, hmm, hx, _⟩
  · simp [Value.cells] at hcs
    rw [hcs.2.1]
    omega
  · simp [Value.cells] at hcs
    obtain ⟨rfl, rfl, rfl⟩ := hcs
    have hx1 := congrArg Prod.fst hx
    simp only at hx1
    rw [hx1] at hd
    have h1 := sized_slice hs ht hd hu
    simp only [List.length_map, List.length_range] at h1
    have h2 : n * P.bytesOf e ≤ (n + (m - n)) * P.bytesOf e := Nat.mul_le_mul_right _ (by omega)
    exact Nat.le_trans h2 (Nat.le_trans h1 (by decide))
theorem slice_nil (hu : P.underlying t = some (.slice e)) (h : DataW.Trod enc P w base spare held t (.slice A n c) d p) : A = none → n = 0 := by
  intro hA
  subst hA
  obtain ⟨fuel, hf⟩ := h
  rcases open_slice hu hf with ⟨hcs, _⟩ | ⟨a, len, cap, m, k, D, Pl, hcs, _⟩
  · simp [Value.cells] at hcs
    exact hcs.1
  · simp [Value.cells] at hcs
end
end Go.Proofs.YtjklhiifjnmedaaGreat
