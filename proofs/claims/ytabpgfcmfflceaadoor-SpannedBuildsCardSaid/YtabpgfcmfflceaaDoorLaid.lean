/- What the listed table's datum says of the world in which a call begins: its eight cells; and the door's own heap meets it. -/
import Derived.Test.YtabpgfcmfflceaaDoorForm
import Derived.ProofKit
import Derived.LaidMore
import Derived.OpenShut
import Derived.Stop.Joined
namespace Go.Proofs.YtabpgfcmfflceaaDoor
open Go.ChangeShapes Go.WideShapes Go.ChangeAt Go.RowKit

def laidL : List (String × DataW Unit) := [("dasd/spanned.codes", Rows.laid_dasd_spanned_codes)]
theorem gCodes : Tryd.prog.globalNamed "dasd/spanned.codes" = some 0 := by kernel_rfl
theorem tCodes : (Tryd.prog.globals[0]?).map (·.type) = some 59 := by kernel_rfl
theorem own : ownKnob Tryd.prog.godebug = none := by kernel_rfl
theorem laidOut : laidOutB Tryd.prog = true := by kernel_rfl

/-- The door's own heap meets the condition. -/
theorem door_met (os : Os) (args : Array Value) : laidMetH Tryd.prog laidL ((World.doorLaid Tryd.prog 400 os).forCall (fun _ _ => 0) ⟨#[], args, []⟩).memory :=
  laidMetH_of_parts3 (fuel := 8) (laidMet_of_run' 8 (by kernel_rfl) (by kernel_rfl)) (by kernel_rfl) (by kernel_rfl)

theorem two_bools {H : Type} {enc : TypeId × Value → H} {W : World} {held : Bool} {fuel : Nat} {spare : Nat → Bool} {cs : List Value} {y : DataW H × List MemPlace} {a b : Bool} (h : DataW.trod enc Tryd.prog W 0 spare held fuel 58 cs = some y) (hy : y.1 = .agg [.lit (.bool a), .lit (.bool b)]) : cs = [.bool a, .bool b] := by
  obtain ⟨xs, m, rfl, rfl, hlen, hn, hel⟩ := DataW.trod_array Tryd.underlying58 h
  have c4 : Tryd.prog.cellsOf 4 = 1 := by kernel_rfl
  have c58 : Tryd.prog.cellsOf 58 = 2 := by kernel_rfl
  rw [c58] at hlen
  have h0 := hel 0 (by decide)
  have h1 := hel 1 (by decide)
  rw [c4] at h0 h1
  simp only [DataW.agg.injEq] at hy
  match xs, hn, hy, h0, h1 with
  | [x0, x1], _, hy, h0, h1 =>
    simp only [List.map_cons, List.map_nil, List.cons.injEq, and_true] at hy
    obtain ⟨k0, e0, f0⟩ := DataW.trod_bool Tryd.underlying4 (show DataW.trod _ Tryd.prog W 0 _ held m 4 _ = some x0 from h0)
    obtain ⟨k1, e1, f1⟩ := DataW.trod_bool Tryd.underlying4 (show DataW.trod _ Tryd.prog W 0 _ held m 4 _ = some x1 from h1)
    rw [f0, f1] at hy
    simp only [DataW.lit.injEq, Lit.bool.injEq] at hy
    match cs, hlen, e0, e1 with
    | [u, v], _, e0, e1 =>
      simp at e0 e1
      rw [e0, e1, hy.1, hy.2]

/-- What the condition gives the walks. -/
theorem of_laid {W : World} (h : laidMetH Tryd.prog laidL W) : Codes W := by
  rw [MakeChecks.laidMetH_plain _ _ _ (by kernel_rfl)] at h
  obtain ⟨ps, ⟨g0, t0, cs0, f0, p0, q0, hg0, ht0, hv0, hd0, _⟩, _, _⟩ := h
  obtain rfl := Option.some.inj (gCodes.symm.trans hg0)
  obtain rfl := Option.some.inj (tCodes.symm.trans ht0)
  obtain ⟨xs, m, rfl, hx, hlen, hn, hel⟩ := DataW.trod_array Tryd.underlying59 hd0
  have c58 : Tryd.prog.cellsOf 58 = 2 := by kernel_rfl
  have c59 : Tryd.prog.cellsOf 59 = 8 := by kernel_rfl
  rw [c59] at hlen
  have h0 := hel 0 (by decide)
  have h1 := hel 1 (by decide)
  have h2 := hel 2 (by decide)
  have h3 := hel 3 (by decide)
  rw [c58] at h0 h1 h2 h3
  simp only [Prod.mk.injEq, Rows.laid_dasd_spanned_codes, DataW.agg.injEq] at hx
  match xs, hn, hx, h0, h1, h2, h3 with
  | [x0, x1, x2, x3], _, hx, h0, h1, h2, h3 =>
    simp only [List.map_cons, List.map_nil, List.cons.injEq, and_true] at hx
    obtain ⟨⟨e0, e1, e2, e3⟩, -⟩ := hx
    have k0 := two_bools (show DataW.trod _ Tryd.prog W 0 _ false m 58 _ = some x0 from h0) e0.symm
    have k1 := two_bools (show DataW.trod _ Tryd.prog W 0 _ false m 58 _ = some x1 from h1) e1.symm
    have k2 := two_bools (show DataW.trod _ Tryd.prog W 0 _ false m 58 _ = some x2 from h2) e2.symm
    have k3 := two_bools (show DataW.trod _ Tryd.prog W 0 _ false m 58 _ = some x3 from h3) e3.symm
    have hl : cs0.toList.length = 8 := by simpa using hlen
    have hcell := fun j => World.var?_cell hg0 hv0 j
    obtain ⟨l⟩ := cs0
    simp only at hl k0 k1 k2 k3
    match l, hl, k0, k1, k2, k3, hcell with
    | [a0, a1, a2, a3, a4, a5, a6, a7], _, k0, k1, k2, k3, hcell =>
      simp at k0 k1 k2 k3
      obtain ⟨rfl, rfl⟩ := k0
      obtain ⟨rfl, rfl⟩ := k1
      obtain ⟨rfl, rfl⟩ := k2
      obtain ⟨rfl, rfl⟩ := k3
      exact ⟨hcell 0, hcell 1, hcell 2, hcell 3, hcell 4, hcell 5, hcell 6, hcell 7⟩
end Go.Proofs.YtabpgfcmfflceaaDoor
