/- Arguments opened: a lock, a slice of locks, a slice of acts. -/
import Derived.Test.YtkabfjknpjhonaaAgg
import Derived.Test.YtkabfjknpjhonaaOpen
import Derived.Test.YtkabfjknpjhonaaLkActs
import Derived.Test.YtkabfjknpjhonaaLkEq
import Derived.Deep.Slices
namespace Go.Proofs.Ytkabfjknpjhonaa
open Go.ChangeShapes Go.WideShapes Go.ChangeAt Go.RowKit Go.Deep P16 P46

theorem shapeR : ((Try.prog.fieldsOf 30).toList.map fun f => (f.type, f.offset, Try.prog.cellsOf f.type)) = [(9, 0, 1), (9, 1, 1), (4, 2, 1)] := by kernel_rfl
theorem shapeL : ((Try.prog.fieldsOf 32).toList.map fun f => (f.type, f.offset, Try.prog.cellsOf f.type)) = [(3, 0, 1), (3, 1, 1), (30, 2, 3), (4, 5, 1)] := by kernel_rfl
theorem shapeA : ((Try.prog.fieldsOf 34).toList.map fun f => (f.type, f.offset, Try.prog.cellsOf f.type)) = [(3, 0, 1), (32, 1, 6)] := by kernel_rfl
/-- The lock's unit is a number of the kind. -/
def UnitOk (l : Lock) : Prop := (Lit.int .i64 l.unit).wf = true
section
variable {H : Type} {enc : TypeId × Value → H} {w : World} {base : Nat} {spare : Nat → Bool} {held : Bool}
theorem trod_lock {fuel : Nat} {cs : List Value} {x : DataW H × List MemPlace} (h : DataW.trod enc Try.prog w base spare held fuel 32 cs = some x) : ∃ l : Lock, cs = lc l ∧ UnitOk l := by
  obtain ⟨hl, hf⟩ := trod_parts (by kernel_rfl) shapeL h
  rw [show Try.prog.cellsOf 32 = 6 from by kernel_rfl] at hl
  match cs, hl with
  | [c0, c1, c2, c3, c4, c5], _ =>
    obtain ⟨_, _, h0⟩ := hf 0 _ rfl
    obtain ⟨x0, rfl, w0⟩ := trod_int1 Try.underlying3 h0
    obtain ⟨_, _, h1⟩ := hf 1 _ rfl
    obtain ⟨x1, rfl, w1⟩ := trod_int1 Try.underlying3 h1
    obtain ⟨_, _, h2⟩ := hf 2 _ rfl
    obtain ⟨_, hg⟩ := trod_parts (by kernel_rfl) shapeR h2
    obtain ⟨_, _, g0⟩ := hg 0 _ rfl
    obtain ⟨y0, rfl, _⟩ := trod_string1 Try.underlying9 g0
    obtain ⟨_, _, g1⟩ := hg 1 _ rfl
    obtain ⟨y1, rfl, _⟩ := trod_string1 Try.underlying9 g1
    obtain ⟨_, _, g2⟩ := hg 2 _ rfl
    obtain ⟨y2, rfl⟩ := trod_bool1 Try.underlying4 g2
    obtain ⟨_, _, h3⟩ := hf 3 _ rfl
    obtain ⟨x3, rfl⟩ := trod_bool1 Try.underlying4 h3
    exact ⟨⟨x0, x1, ⟨y0, y1, y2⟩, x3⟩, rfl, w0⟩
theorem trod_act {fuel : Nat} {cs : List Value} {x : DataW H × List MemPlace} (h : DataW.trod enc Try.prog w base spare held fuel 34 cs = some x) : ∃ a : ActL, cs = ac a ∧ UnitOk a.l := by
  obtain ⟨hl, hf⟩ := trod_parts (by kernel_rfl) shapeA h
  rw [show Try.prog.cellsOf 34 = 7 from by kernel_rfl] at hl
  match cs, hl with
  | c0 :: c1 :: c2 :: c3 :: c4 :: c5 :: c6 :: [], _ =>
    obtain ⟨_, _, h0⟩ := hf 0 _ rfl
    obtain ⟨x0, rfl, w0⟩ := trod_int1 Try.underlying3 h0
    obtain ⟨_, _, h1⟩ := hf 1 _ rfl
    obtain ⟨l, hl, hu⟩ := trod_lock h1
    exact ⟨⟨x0, l⟩, by show _ = Value.int .i64 x0 :: lc l; rw [← hl]; rfl, hu⟩
set_option maxRecDepth 100000 in
theorem open_lock {r : Reach} {b0 : Nat} {v : Value} {d : DataW H} {p : List MemPlace} (hv : Value.okWide Try.prog w r b0 32 v) (h : DataW.Trod enc Try.prog w base spare held 32 v d p) : ∃ l : Lock, v = lv l := by
  obtain ⟨cs, rfl, _⟩ := okWide_struct underL hv
  obtain ⟨fuel, hf⟩ := h
  obtain ⟨l, hq, _⟩ := trod_lock hf
  refine ⟨l, ?_⟩
  have : cs.toList = _ := hq
  rw [← Array.toArray_toList (xs := cs), this]
  rfl
theorem open_locks_at {t : TypeId} {A : Option Addr} {n c : Nat} {d : DataW H} {p : List MemPlace} (ht : Try.prog.underlying t = some (.slice 32)) (h : DataW.Trod enc Try.prog w base spare held t (.slice A n c) d p) :
    ∃ ls : List Lock, LocksAt w A n ls ∧ n ≤ maxLen ∧ ∀ l ∈ ls, UnitOk l := by
  obtain ⟨fuel, hf⟩ := h
  rcases open_slice ht hf with ⟨hcs, _⟩ | ⟨a, len, cap, m, k, D, Pl, hcs, _, hl, hm, hmm, _, hx⟩
  · simp [Value.cells] at hcs
    obtain ⟨rfl, rfl, rfl⟩ := hcs
    exact ⟨[], LocksAt.nil, Nat.zero_le _, by simp⟩
  · simp [Value.cells] at hcs
    obtain ⟨rfl, rfl, rfl⟩ := hcs
    have hnm : n ≤ m := by rw [hmm]; split <;> omega
    rw [show Try.prog.cellsOf 32 = 6 from by kernel_rfl] at hx
    have each : ∀ i, i < n → ∃ l : Lock, UnitOk l ∧ ∀ j, j < 6 → ∃ u, (lc l)[j]? = some u ∧ w.cell? (a.add (i * 6 + j)) = some u := by
      intro i hi
      obtain ⟨cs', h1, h2⟩ := hx i (by omega)
      obtain ⟨_, hlen, hcell⟩ := World.cells?_some h1
      obtain ⟨l, rfl, hu⟩ := trod_lock h2
      refine ⟨l, hu, fun j hj => ?_⟩
      have := hcell j hj
      rw [add_add] at this
      exact ⟨(lc l)[j]'(by simpa [lc] using hj), List.getElem?_eq_getElem _, by rw [this]; simp [lc, hj]⟩
    haveI : Inhabited Lock := ⟨zeroL⟩
    obtain ⟨f, hfn⟩ := choose_lt each
    refine ⟨(List.range n).map f, ⟨by rw [lcs_length]; simp, fun j u hj => ?_⟩, by omega, fun l hl => ?_⟩
    · have hjl : j < n * 6 := by
        have := (List.getElem?_eq_some_iff.1 hj).1
        rw [lcs_length] at this
        simpa using this
      have hq : j / 6 < n := by omega
      have hg : ((List.range n).map f)[j / 6]? = some (f (j / 6)) := by simp [hq]
      have hs := lcs_get hg (j % 6) (by omega)
      rw [show j / 6 * 6 + j % 6 = j by omega, hj] at hs
      obtain ⟨u', hu', hc⟩ := (hfn (j / 6) hq).2 (j % 6) (by omega)
      rw [show j / 6 * 6 + j % 6 = j by omega] at hc
      obtain rfl : u = u' := by rw [hu'] at hs; exact Option.some.inj hs
      obtain ⟨b, off, spot⟩ := a
      have hspot : spot = none := by
        obtain ⟨_, _, h0⟩ := (hfn 0 (by omega)).2 0 (by omega)
        simpa [Addr.add] using World.cell?_spot h0
      subst hspot
      refine ⟨b, off, rfl, ?_⟩
      rw [Addr.add_lit] at hc
      exact hc
    · obtain ⟨i, hi, rfl⟩ := List.mem_map.1 hl
      exact (hfn i (by simpa using hi)).1
theorem open_acts_at {t : TypeId} {A : Option Addr} {n c : Nat} {d : DataW H} {p : List MemPlace} (ht : Try.prog.underlying t = some (.slice 34)) (h : DataW.Trod enc Try.prog w base spare held t (.slice A n c) d p) :
    ∃ xs : List ActL, ActsAt w A n xs ∧ n ≤ maxLen ∧ ∀ a ∈ xs, UnitOk a.l := by
  obtain ⟨fuel, hf⟩ := h
  rcases open_slice ht hf with ⟨hcs, _⟩ | ⟨a, len, cap, m, k, D, Pl, hcs, _, hl, hm, hmm, _, hx⟩
  · simp [Value.cells] at hcs
    obtain ⟨rfl, rfl, rfl⟩ := hcs
    exact ⟨[], ⟨rfl, fun j u h => by simp [acs] at h⟩, Nat.zero_le _, by simp⟩
  · simp [Value.cells] at hcs
    obtain ⟨rfl, rfl, rfl⟩ := hcs
    have hnm : n ≤ m := by rw [hmm]; split <;> omega
    rw [show Try.prog.cellsOf 34 = 7 from by kernel_rfl] at hx
    have each : ∀ i, i < n → ∃ l : ActL, UnitOk l.l ∧ ∀ j, j < 7 → ∃ u, (ac l)[j]? = some u ∧ w.cell? (a.add (i * 7 + j)) = some u := by
      intro i hi
      obtain ⟨cs', h1, h2⟩ := hx i (by omega)
      obtain ⟨_, hlen, hcell⟩ := World.cells?_some h1
      obtain ⟨l, rfl, hu⟩ := trod_act h2
      refine ⟨l, hu, fun j hj => ?_⟩
      have := hcell j hj
      rw [add_add] at this
      exact ⟨(ac l)[j]'(by simpa [ac, lc] using hj), List.getElem?_eq_getElem _, by rw [this]; simp [ac, lc, hj]⟩
    haveI : Inhabited ActL := ⟨⟨0, zeroL⟩⟩
    obtain ⟨f, hfn⟩ := choose_lt each
    refine ⟨(List.range n).map f, ⟨by rw [acs_length]; simp, fun j u hj => ?_⟩, by omega, fun l hl => ?_⟩
    · have hjl : j < n * 7 := by
        have := (List.getElem?_eq_some_iff.1 hj).1
        rw [acs_length] at this
        simpa using this
      have hq : j / 7 < n := by omega
      have hg : ((List.range n).map f)[j / 7]? = some (f (j / 7)) := by simp [hq]
      have hs := acs_get hg (j % 7) (by omega)
      rw [show j / 7 * 7 + j % 7 = j by omega, hj] at hs
      obtain ⟨u', hu', hc⟩ := (hfn (j / 7) hq).2 (j % 7) (by omega)
      rw [show j / 7 * 7 + j % 7 = j by omega] at hc
      obtain rfl : u = u' := by rw [hu'] at hs; exact Option.some.inj hs
      obtain ⟨b, off, spot⟩ := a
      have hspot : spot = none := by
        obtain ⟨_, _, h0⟩ := (hfn 0 (by omega)).2 0 (by omega)
        simpa [Addr.add] using World.cell?_spot h0
      subst hspot
      refine ⟨b, off, rfl, ?_⟩
      rw [Addr.add_lit] at hc
      exact hc
    · obtain ⟨i, hi, rfl⟩ := List.mem_map.1 hl
      exact (hfn i (by simpa using hi)).1
end
end Go.Proofs.Ytkabfjknpjhonaa
