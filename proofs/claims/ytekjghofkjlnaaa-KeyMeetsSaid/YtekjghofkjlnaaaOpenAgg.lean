/- Arguments opened: a range, a description of a data set. -/
import Derived.Test.YtekjghofkjlnaaaAgg
import Derived.Test.YtekjghofkjlnaaaValid
namespace Go.Proofs.Ytekjghofkjlnaaa
open Go.ChangeShapes Go.WideShapes Go.ChangeAt Go.RowKit P16

theorem shape33 : ((Try.prog.fieldsOf 33).toList.map fun f => (f.type, f.offset, Try.prog.cellsOf f.type)) = [(9, 0, 1), (9, 1, 1), (4, 2, 1)] := by kernel_rfl
theorem shape41 : ((Try.prog.fieldsOf 41).toList.map fun f => (f.type, f.offset, Try.prog.cellsOf f.type)) = [(3, 0, 1), (3, 1, 1), (3, 2, 1), (3, 3, 1), (3, 4, 1), (3, 5, 1), (3, 6, 1), (3, 7, 1), (3, 8, 1), (3, 9, 1), (3, 10, 1), (3, 11, 1), (3, 12, 1), (3, 13, 1), (4, 14, 1), (3, 15, 1), (9, 16, 1), (9, 17, 1), (3, 18, 1), (3, 19, 1), (4, 20, 1)] := by kernel_rfl
section
variable {H : Type} {enc : TypeId × Value → H} {w : World} {base : Nat} {spare : Nat → Bool} {held : Bool}
theorem trod_rng {fuel : Nat} {cs : List Value} {x : DataW H × List MemPlace} (h : DataW.trod enc Try.prog w base spare held fuel 33 cs = some x) : ∃ r : Rng, cs = [.string ⟨r.low.toArray⟩, .string ⟨r.high.toArray⟩, .bool r.e] := by
  obtain ⟨hl, hf⟩ := trod_parts (by kernel_rfl) shape33 h
  rw [show Try.prog.cellsOf 33 = 3 from by kernel_rfl] at hl
  match cs, hl with
  | [c0, c1, c2], _ =>
    obtain ⟨_, _, h0⟩ := hf 0 _ rfl
    obtain ⟨x0, rfl, _⟩ := trod_string1 Try.underlying9 h0
    obtain ⟨_, _, h1⟩ := hf 1 _ rfl
    obtain ⟨x1, rfl, _⟩ := trod_string1 Try.underlying9 h1
    obtain ⟨_, _, h2⟩ := hf 2 _ rfl
    obtain ⟨x2, rfl⟩ := trod_bool1 Try.underlying4 h2
    exact ⟨⟨x0, x1, x2⟩, rfl⟩
theorem open_rng {r : Reach} {b0 : Nat} {v : Value} {d : DataW H} {p : List MemPlace} (hv : Value.okWide Try.prog w r b0 33 v) (h : DataW.Trod enc Try.prog w base spare held 33 v d p) : ∃ q : Rng, v = rv q := by
  obtain ⟨cs, rfl, _⟩ := okWide_struct (by kernel_rfl : Try.prog.underlying 33 = some (.struct (Try.prog.fieldsOf 33))) hv
  obtain ⟨fuel, hf⟩ := h
  obtain ⟨q, hq⟩ := trod_rng hf
  refine ⟨q, ?_⟩
  have : cs.toList = _ := hq
  rw [← Array.toArray_toList (xs := cs), this]
  rfl
theorem trod_ds {fuel : Nat} {cs : List Value} {x : DataW H × List MemPlace} (h : DataW.trod enc Try.prog w base spare held fuel 41 cs = some x) : ∃ d : DS, .agg cs.toArray = dv d := by
  obtain ⟨hl, hf⟩ := trod_parts (by kernel_rfl) shape41 h
  rw [show Try.prog.cellsOf 41 = 21 from by kernel_rfl] at hl
  match cs, hl with
  | [c0, c1, c2, c3, c4, c5, c6, c7, c8, c9, c10, c11, c12, c13, c14, c15, c16, c17, c18, c19, c20], _ =>
    obtain ⟨_, _, h0⟩ := hf 0 _ rfl
    obtain ⟨x0, rfl, _⟩ := trod_int1 Try.underlying3 h0
    obtain ⟨_, _, h1⟩ := hf 1 _ rfl
    obtain ⟨x1, rfl, _⟩ := trod_int1 Try.underlying3 h1
    obtain ⟨_, _, h2⟩ := hf 2 _ rfl
    obtain ⟨x2, rfl, _⟩ := trod_int1 Try.underlying3 h2
    obtain ⟨_, _, h3⟩ := hf 3 _ rfl
    obtain ⟨x3, rfl, _⟩ := trod_int1 Try.underlying3 h3
    obtain ⟨_, _, h4⟩ := hf 4 _ rfl
    obtain ⟨x4, rfl, _⟩ := trod_int1 Try.underlying3 h4
    obtain ⟨_, _, h5⟩ := hf 5 _ rfl
    obtain ⟨x5, rfl, _⟩ := trod_int1 Try.underlying3 h5
    obtain ⟨_, _, h6⟩ := hf 6 _ rfl
    obtain ⟨x6, rfl, _⟩ := trod_int1 Try.underlying3 h6
    obtain ⟨_, _, h7⟩ := hf 7 _ rfl
    obtain ⟨x7, rfl, _⟩ := trod_int1 Try.underlying3 h7
    obtain ⟨_, _, h8⟩ := hf 8 _ rfl
    obtain ⟨x8, rfl, _⟩ := trod_int1 Try.underlying3 h8
    obtain ⟨_, _, h9⟩ := hf 9 _ rfl
    obtain ⟨x9, rfl, _⟩ := trod_int1 Try.underlying3 h9
    obtain ⟨_, _, h10⟩ := hf 10 _ rfl
    obtain ⟨x10, rfl, _⟩ := trod_int1 Try.underlying3 h10
    obtain ⟨_, _, h11⟩ := hf 11 _ rfl
    obtain ⟨x11, rfl, _⟩ := trod_int1 Try.underlying3 h11
    obtain ⟨_, _, h12⟩ := hf 12 _ rfl
    obtain ⟨x12, rfl, _⟩ := trod_int1 Try.underlying3 h12
    obtain ⟨_, _, h13⟩ := hf 13 _ rfl
    obtain ⟨x13, rfl, _⟩ := trod_int1 Try.underlying3 h13
    obtain ⟨_, _, h14⟩ := hf 14 _ rfl
    obtain ⟨x14, rfl⟩ := trod_bool1 Try.underlying4 h14
    obtain ⟨_, _, h15⟩ := hf 15 _ rfl
    obtain ⟨x15, rfl, _⟩ := trod_int1 Try.underlying3 h15
    obtain ⟨_, _, h16⟩ := hf 16 _ rfl
    obtain ⟨x16, rfl, _⟩ := trod_string1 Try.underlying9 h16
    obtain ⟨_, _, h17⟩ := hf 17 _ rfl
    obtain ⟨x17, rfl, _⟩ := trod_string1 Try.underlying9 h17
    obtain ⟨_, _, h18⟩ := hf 18 _ rfl
    obtain ⟨x18, rfl, _⟩ := trod_int1 Try.underlying3 h18
    obtain ⟨_, _, h19⟩ := hf 19 _ rfl
    obtain ⟨x19, rfl, _⟩ := trod_int1 Try.underlying3 h19
    obtain ⟨_, _, h20⟩ := hf 20 _ rfl
    obtain ⟨x20, rfl⟩ := trod_bool1 Try.underlying4 h20
    exact ⟨⟨x0, x1, x2, x3, x4, x5, x6, x7, x8, x9, x10, x11, x12, x13, x14, x15, x16, x17, x18, x19, x20⟩, rfl⟩
theorem open_ds {r : Reach} {b0 : Nat} {v : Value} {d : DataW H} {p : List MemPlace} (hv : Value.okWide Try.prog w r b0 41 v) (h : DataW.Trod enc Try.prog w base spare held 41 v d p) : ∃ q : DS, v = dv q := by
  obtain ⟨cs, rfl, _⟩ := okWide_struct (by kernel_rfl : Try.prog.underlying 41 = some (.struct (Try.prog.fieldsOf 41))) hv
  obtain ⟨fuel, hf⟩ := h
  obtain ⟨q, hq⟩ := trod_ds hf
  refine ⟨q, ?_⟩
  rw [← hq]
  simp [Value.cells]
end
end Go.Proofs.Ytekjghofkjlnaaa
