/- An argument opened: a slice of segments. -/
import Derived.Test.YtabpgfcmfflceaaDoorAgg
import Derived.Test.YtabpgfcmfflceaaDoorOpen
import Derived.Test.YtabpgfcmfflceaaDoorLeaf
import Derived.Test.YtabpgfcmfflceaaDoorSegs
import Derived.Deep.Slices
namespace Go.Proofs.YtabpgfcmfflceaaDoor
open Go.ChangeShapes Go.WideShapes Go.ChangeAt Go.RowKit Go.Deep P12

theorem shape43 : ((Tryd.prog.fieldsOf 43).toList.map fun f => (f.type, f.offset, Tryd.prog.cellsOf f.type)) = [(4, 0, 1), (4, 1, 1), (9, 2, 1)] := by kernel_rfl
section
variable {H : Type} {enc : TypeId × Value → H} {w : World} {base : Nat} {spare : Nat → Bool} {held : Bool}
theorem trod_seg {fuel : Nat} {cs : List Value} {x : DataW H × List MemPlace} (h : DataW.trod enc Tryd.prog w base spare held fuel 43 cs = some x) : ∃ l : Seg, cs = sc l := by
  obtain ⟨hl, hf⟩ := trod_parts (by kernel_rfl) shape43 h
  rw [show Tryd.prog.cellsOf 43 = 3 from by kernel_rfl] at hl
  match cs, hl with
  | [c0, c1, c2], _ =>
    obtain ⟨_, _, h0⟩ := hf 0 _ rfl
    obtain ⟨x0, rfl⟩ := trod_bool1 Tryd.underlying4 h0
    obtain ⟨_, _, h1⟩ := hf 1 _ rfl
    obtain ⟨x1, rfl⟩ := trod_bool1 Tryd.underlying4 h1
    obtain ⟨_, _, h2⟩ := hf 2 _ rfl
    obtain ⟨x2, rfl, _⟩ := trod_string1 Tryd.underlying9 h2
    exact ⟨⟨x0, x1, x2⟩, rfl⟩
theorem open_segs_at {t : TypeId} {A : Option Addr} {n c : Nat} {d : DataW H} {p : List MemPlace} (ht : Tryd.prog.underlying t = some (.slice 43)) (h : DataW.Trod enc Tryd.prog w base spare held t (.slice A n c) d p) :
    ∃ ls : List Seg, SegsAt w A n ls ∧ n ≤ maxLen := by
  obtain ⟨fuel, hf⟩ := h
  rcases open_slice ht hf with ⟨hcs, _⟩ | ⟨a, len, cap, m, k, D, Pl, hcs, _, hl, hm, hmm, _, hx⟩
  · simp [Value.cells] at hcs
    obtain ⟨rfl, rfl, rfl⟩ := hcs
    exact ⟨[], SegsAt.nil, Nat.zero_le _⟩
  · simp [Value.cells] at hcs
    obtain ⟨rfl, rfl, rfl⟩ := hcs
    have hnm : n ≤ m := by rw [hmm]; split <;> omega
    rw [show Tryd.prog.cellsOf 43 = 3 from by kernel_rfl] at hx
    have each : ∀ i, i < n → ∃ l : Seg, ∀ j, j < 3 → ∃ u, (sc l)[j]? = some u ∧ w.cell? (a.add (i * 3 + j)) = some u := by
      intro i hi
      obtain ⟨cs', h1, h2⟩ := hx i (by omega)
      obtain ⟨_, hlen, hcell⟩ := World.cells?_some h1
      obtain ⟨l, rfl⟩ := trod_seg h2
      refine ⟨l, fun j hj => ?_⟩
      have := hcell j hj
      rw [add_add] at this
      exact ⟨(sc l)[j]'(by simpa [sc] using hj), List.getElem?_eq_getElem _, by rw [this]; simp [sc, hj]⟩
    haveI : Inhabited Seg := ⟨⟨false, false, []⟩⟩
    obtain ⟨f, hfn⟩ := choose_lt each
    refine ⟨(List.range n).map f, ⟨by rw [scs_length]; simp, fun j u hj => ?_⟩, by omega⟩
    have hjl : j < n * 3 := by
      have := (List.getElem?_eq_some_iff.1 hj).1
      rw [scs_length] at this
      simpa using this
    have hq : j / 3 < n := by omega
    have hg : ((List.range n).map f)[j / 3]? = some (f (j / 3)) := by simp [hq]
    have hs := scs_get hg (j % 3) (by omega)
    rw [show j / 3 * 3 + j % 3 = j by omega, hj] at hs
    obtain ⟨u', hu', hc⟩ := hfn (j / 3) hq (j % 3) (by omega)
    rw [show j / 3 * 3 + j % 3 = j by omega] at hc
    obtain rfl : u = u' := by rw [hu'] at hs; exact Option.some.inj hs
    obtain ⟨b, off, spot⟩ := a
    have hspot : spot = none := by
      obtain ⟨_, _, h0⟩ := hfn 0 (by omega) 0 (by omega)
      simpa [Addr.add] using World.cell?_spot h0
    subst hspot
    refine ⟨b, off, rfl, ?_⟩
    rw [Addr.add_lit] at hc
    exact hc
end
end Go.Proofs.YtabpgfcmfflceaaDoor
