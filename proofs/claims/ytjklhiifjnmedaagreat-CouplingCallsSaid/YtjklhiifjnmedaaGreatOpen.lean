/- Arguments opened for the walks: a slice of strings that came in reads as a list of byte lists. -/
import Derived.Test.YtjklhiifjnmedaaGreatKit
import Derived.ProofKit
import Derived.SliceStrings
namespace Go.Proofs.YtjklhiifjnmedaaGreat
open Go.ChangeShapes Go.WideShapes Go.ChangeAt Go.RowKit

theorem open_strs_at {H : Type} {enc : TypeId × Value → H} {P : Program} {w : World} {base : Nat} {spare : Nat → Bool} {held : Bool} {t e : TypeId} {A : Option Addr} {n c : Nat} {d : DataW H} {p : List MemPlace}
    (ht : P.underlying t = some (.slice e)) (he : P.underlying e = some .string) (hc : P.cellsOf e = 1) (h : DataW.Trod enc P w base spare held t (.slice A n c) d p) :
    ∃ ss : List (List UInt8), StrsAt w A n ss ∧ n ≤ maxLen := by
  obtain ⟨fuel, hf⟩ := h
  rcases open_strings ht he hc hf with ⟨hcs, _⟩ | ⟨x, l, cap, ss, hcs, _, hl, hm, hz, _, hcell, _⟩
  · simp [Value.cells] at hcs
    obtain ⟨rfl, rfl, rfl⟩ := hcs
    exact ⟨[], StrsAt.nil, Nat.zero_le _⟩
  · simp [Value.cells] at hcs
    obtain ⟨rfl, rfl, rfl⟩ := hcs
    have hlen : n ≤ ss.length := by rw [hz]; split <;> omega
    refine ⟨(ss.take n).map (·.data.toList), ⟨by simp; omega, fun k s hk => ?_⟩, by omega⟩
    rw [List.getElem?_map] at hk
    obtain ⟨s0, hs0, rfl⟩ := Option.map_eq_some_iff.1 hk
    have hkn : k < n := by
      have := (List.getElem?_eq_some_iff.1 hs0).1
      simp at this
      omega
    have hs1 : ss[k]? = some s0 := by rw [← hs0, List.getElem?_take_of_lt hkn]
    have hck := hcell k (by omega)
    rw [List.getD_eq_getElem?_getD, hs1] at hck
    obtain ⟨b, off, spot⟩ := x
    have hspot : spot = none := by
      have h0 := hcell 0 (by omega)
      simpa [Addr.add] using World.cell?_spot h0
    subst hspot
    refine ⟨b, off, rfl, ?_⟩
    rw [Addr.add_lit] at hck
    rw [hck]
    simp
end Go.Proofs.YtjklhiifjnmedaaGreat
