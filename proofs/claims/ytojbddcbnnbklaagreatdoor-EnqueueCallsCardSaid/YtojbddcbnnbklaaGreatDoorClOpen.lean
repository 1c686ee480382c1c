/- Arguments opened: a slice of calls, a call. -/
import Derived.Test.YtojbddcbnnbklaaGreatDoorAgg
import Derived.Test.YtojbddcbnnbklaaGreatDoorOpen
import Derived.Test.YtojbddcbnnbklaaGreatDoorClRun
import Derived.Deep.Slices
namespace Go.Proofs.YtojbddcbnnbklaaGreatDoor
open Go.ChangeShapes Go.WideShapes Go.ChangeAt Go.RowKit Go.Deep P43

theorem shapeN : ((Tryz.prog.fieldsOf tNL).toList.map fun f => (f.type, f.offset, Tryz.prog.cellsOf f.type)) = [(9, 0, 1), (4, 1, 1)] := by kernel_rfl
theorem shapeO : ((Tryz.prog.fieldsOf tO).toList.map fun f => (f.type, f.offset, Tryz.prog.cellsOf f.type)) = [(3, 0, 1), (3, 1, 1), (30, 2, 1), (9, 3, 1)] := by kernel_rfl
section
variable {H : Type} {enc : TypeId × Value → H} {w : World} {base : Nat} {spare : Nat → Bool} {held : Bool}
theorem trod_nl {fuel : Nat} {cs : List Value} {x : DataW H × List MemPlace} (h : DataW.trod enc Tryz.prog w base spare held fuel tNL cs = some x) : ∃ l : P43.Nm × Bool, cs = nc l := by
  obtain ⟨hl, hf⟩ := trod_parts (by kernel_rfl) shapeN h
  rw [show Tryz.prog.cellsOf tNL = 2 from by kernel_rfl] at hl
  match cs, hl with
  | [c0, c1], _ =>
    obtain ⟨_, _, h0⟩ := hf 0 _ rfl
    obtain ⟨x0, rfl, _⟩ := trod_string1 Tryz.underlying9 h0
    obtain ⟨_, _, h1⟩ := hf 1 _ rfl
    obtain ⟨x1, rfl⟩ := trod_bool1 Tryz.underlying4 h1
    exact ⟨(x0, x1), rfl⟩
/-- A slice of name locks. -/
theorem trod_nls {fuel : Nat} {v : Value} {x : DataW H × List MemPlace} (h : DataW.trod enc Tryz.prog w base spare held fuel 30 [v] = some x) : ∃ (A : Option Addr) (n c : Nat) (ls : List (P43.Nm × Bool)), v = .slice A n c ∧ NlsAt w A n ls ∧ n ≤ maxLen := by
  rcases open_slice Tryz.underlying30 h with ⟨hcs, _⟩ | ⟨a, len, cap, m, k, D, Pl, hcs, _, hl, hm, hmm, _, hx⟩
  · simp at hcs
    exact ⟨none, 0, 0, [], hcs, NlsAt.nil, Nat.zero_le _⟩
  · simp at hcs
    subst hcs
    have hnm : len ≤ m := by rw [hmm]; split <;> omega
    rw [show Tryz.prog.cellsOf tNL = 2 from by kernel_rfl] at hx
    have each : ∀ i, i < len → ∃ l : P43.Nm × Bool, ∀ j, j < 2 → ∃ u, (nc l)[j]? = some u ∧ w.cell? (a.add (i * 2 + j)) = some u := by
      intro i hi
      obtain ⟨cs', h1, h2⟩ := hx i (by omega)
      obtain ⟨_, hlen, hcell⟩ := World.cells?_some h1
      obtain ⟨l, rfl⟩ := trod_nl h2
      refine ⟨l, fun j hj => ?_⟩
      have := hcell j hj
      rw [add_add] at this
      exact ⟨(nc l)[j]'(by simpa [nc] using hj), List.getElem?_eq_getElem _, by rw [this]; simp [nc, hj]⟩
    haveI : Inhabited (P43.Nm × Bool) := ⟨([], false)⟩
    obtain ⟨f, hfn⟩ := choose_lt each
    refine ⟨_, _, _, (List.range len).map f, rfl, ⟨by rw [ncs_length]; simp, fun j u hj => ?_⟩, by omega⟩
    have hjl : j < len * 2 := by
      have := (List.getElem?_eq_some_iff.1 hj).1
      rw [ncs_length] at this
      simpa using this
    have hq : j / 2 < len := by omega
    have hg : ((List.range len).map f)[j / 2]? = some (f (j / 2)) := by simp [hq]
    have hs := ncs_get hg (j % 2) (by omega)
    rw [show j / 2 * 2 + j % 2 = j by omega, hj] at hs
    obtain ⟨u', hu', hc⟩ := hfn (j / 2) hq (j % 2) (by omega)
    rw [show j / 2 * 2 + j % 2 = j by omega] at hc
    obtain rfl : u = u' := by rw [hu'] at hs; exact Option.some.inj hs
    obtain ⟨b, off, spot⟩ := a
    have hspot : spot = none := by
      obtain ⟨_, _, h0⟩ := hfn 0 (by omega) 0 (by omega)
      simpa [Addr.add] using World.cell?_spot h0
    subst hspot
    refine ⟨b, off, rfl, ?_⟩
    rw [Addr.add_lit] at hc
    exact hc
theorem trod_op {fuel : Nat} {cs : List Value} {x : DataW H × List MemPlace} (h : DataW.trod enc Tryz.prog w base spare held fuel tO cs = some x) : ∃ a : OpM, cs = oc a ∧ OpIn w a := by
  obtain ⟨hl, hf⟩ := trod_parts (by kernel_rfl) shapeO h
  rw [show Tryz.prog.cellsOf tO = 4 from by kernel_rfl] at hl
  match cs, hl with
  | [c0, c1, c2, c3], _ =>
    obtain ⟨_, _, h0⟩ := hf 0 _ rfl
    obtain ⟨x0, rfl, w0⟩ := trod_int1 Tryz.underlying3 h0
    obtain ⟨_, _, h1⟩ := hf 1 _ rfl
    obtain ⟨x1, rfl, w1⟩ := trod_int1 Tryz.underlying3 h1
    obtain ⟨_, _, h2⟩ := hf 2 _ rfl
    obtain ⟨A, n, c, ls, rfl, hn, hm⟩ := trod_nls h2
    obtain ⟨_, _, h3⟩ := hf 3 _ rfl
    obtain ⟨x3, rfl, _⟩ := trod_string1 Tryz.underlying9 h3
    exact ⟨⟨⟨x0, x1, ls, x3⟩, A, n, c⟩, rfl, ⟨hn, w0, w1, hm⟩⟩
set_option maxRecDepth 100000 in
theorem open_op {r : Reach} {b0 : Nat} {v : Value} {d : DataW H} {p : List MemPlace} (hv : Value.okWide Tryz.prog w r b0 tO v) (h : DataW.Trod enc Tryz.prog w base spare held tO v d p) : ∃ a : OpM, v = .agg (oa a) ∧ OpIn w a := by
  obtain ⟨cs, rfl, _⟩ := okWide_struct (by kernel_rfl : Tryz.prog.underlying tO = some (.struct (Tryz.prog.fieldsOf tO))) hv
  obtain ⟨fuel, hf⟩ := h
  obtain ⟨l, hq, hi⟩ := trod_op hf
  refine ⟨l, ?_, hi⟩
  have : cs.toList = _ := hq
  rw [← Array.toArray_toList (xs := cs), this]
  rfl
theorem open_ops_at {t : TypeId} {A : Option Addr} {n c : Nat} {d : DataW H} {p : List MemPlace} (ht : Tryz.prog.underlying t = some (.slice tO)) (h : DataW.Trod enc Tryz.prog w base spare held t (.slice A n c) d p) :
    ∃ xs : List OpM, OpsAt w A n xs ∧ n ≤ maxLen := by
  obtain ⟨fuel, hf⟩ := h
  rcases open_slice ht hf with ⟨hcs, _⟩ | ⟨a, len, cap, m, k, D, Pl, hcs, _, hl, hm, hmm, _, hx⟩
  · simp [Value.cells] at hcs
    obtain ⟨rfl, rfl, rfl⟩ := hcs
    exact ⟨[], ⟨⟨rfl, fun j u h => by simp [ocs] at h⟩, by simp⟩, Nat.zero_le _⟩
  · simp [Value.cells] at hcs
    obtain ⟨rfl, rfl, rfl⟩ := hcs
    have hnm : n ≤ m := by rw [hmm]; split <;> omega
    rw [show Tryz.prog.cellsOf tO = 4 from by kernel_rfl] at hx
    have each : ∀ i, i < n → ∃ l : OpM, OpIn w l ∧ ∀ j, j < 4 → ∃ u, (oc l)[j]? = some u ∧ w.cell? (a.add (i * 4 + j)) = some u := by
      intro i hi
      obtain ⟨cs', h1, h2⟩ := hx i (by omega)
      obtain ⟨_, hlen, hcell⟩ := World.cells?_some h1
      obtain ⟨l, rfl, hu⟩ := trod_op h2
      refine ⟨l, hu, fun j hj => ?_⟩
      have := hcell j hj
      rw [add_add] at this
      exact ⟨(oc l)[j]'(by simpa [oc] using hj), List.getElem?_eq_getElem _, by rw [this]; simp [oc, hj]⟩
    haveI : Inhabited OpM := ⟨⟨⟨0, 0, [], []⟩, none, 0, 0⟩⟩
    obtain ⟨f, hfn⟩ := choose_lt each
    refine ⟨(List.range n).map f, ⟨⟨by rw [ocs_length]; simp, fun j u hj => ?_⟩, fun l hl => ?_⟩, by omega⟩
    · have hjl : j < n * 4 := by
        have := (List.getElem?_eq_some_iff.1 hj).1
        rw [ocs_length] at this
        simpa using this
      have hq : j / 4 < n := by omega
      have hg : ((List.range n).map f)[j / 4]? = some (f (j / 4)) := by simp [hq]
      have hs := ocs_get hg (j % 4) (by omega)
      rw [show j / 4 * 4 + j % 4 = j by omega, hj] at hs
      obtain ⟨u', hu', hc⟩ := (hfn (j / 4) hq).2 (j % 4) (by omega)
      rw [show j / 4 * 4 + j % 4 = j by omega] at hc
      obtain rfl : u = u' := by rw [hu'] at hs; exact Option.some.inj hs
      obtain ⟨b, off, spot⟩ := a
      have hspot : spot = none := by
        obtain ⟨_, _, h0⟩ := (hfn 0 (by omega)).2 0 (by omega)
        simpa [Addr.add] using World.cell?_spot h0
      subst hspot
      refine ⟨b, off, rfl, ?_⟩
      rw [Addr.add_lit] at hc
      exact hc
    · obtain ⟨i, hi, rfl⟩ := List.mem_map.1 hl
      exact (hfn i (by simpa using hi)).1
end
end Go.Proofs.YtojbddcbnnbklaaGreatDoor
