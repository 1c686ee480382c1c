/- The examples of the chapter hold. -/
import Derived.Test.YtekjghofkjlnaaaOf
import Derived.Test.YtekjghofkjlnaaaCovers
namespace Go.Proofs.Ytekjghofkjlnaaa
open Go.RowKit P16
attribute [local go_sem] ByteArray.mk_append_mk ByteArray.extract_mk mk_index leq_bs not_lt_bs

theorem slot258 : slot 258 = [0, 0, 0, 0, 0, 0, 1, 2] := by decide
theorem number258 : number [0, 0, 0, 0, 0, 0, 1, 2] = (258, true) := by decide
theorem sepAbx : sep [97, 98, 99] [97, 98, 120, 49] = [97, 98, 120] := by decide
theorem meetBd : meet ⟨[98], [100], false⟩ ⟨[100], [], true⟩ = ⟨[100], [100], false⟩ := by decide
theorem validEs : validB ⟨0, 1, 0, 20, 0, 0, 0, 128, 0, 0, 0, 0, 0, 0, false, 0, [], [], 0, 0, false⟩ = true := by decide
set_option maxRecDepth 100000 in
set_option maxHeartbeats 1000000 in
theorem awake10 (w : World) : Calls Try.prog 10 #[] w fun e w' => e = .returned (.bool true) ∧ Below w.heap.size w w' := by
  go_enter Try.func10, Try.ntmps10
  go_wp2_with fail
  refine (slot14 258 _).mono ?_
  rintro e w1 ⟨rfl, hb1⟩
  rw [slot258]
  go_wp2_with fail
  refine (number12 _ _).mono ?_
  rintro e w2 ⟨rfl, hb2⟩
  rw [number258]
  go_wp2_with fail
  refine (from37 [100] _).mono ?_
  rintro e w3 ⟨rfl, hb3⟩
  go_wp2_with fail
  refine (meet25 ⟨[98], [100], false⟩ ⟨[100], [], true⟩ _).mono ?_
  rintro e w4 ⟨rfl, hb4⟩
  rw [meetBd]
  unfold rv
  go_wp2_with fail
  refine (sep16 [97, 98, 99] [97, 98, 120, 49] _ (by decide) (by decide)).mono ?_
  rintro e w5 ⟨rfl, hb5⟩
  rw [sepAbx]
  go_wp2_with fail
  refine (slot14 258 _).mono ?_
  rintro e w6 ⟨rfl, hb6⟩
  rw [slot258]
  go_wp2_with fail
  refine (slot14 258 _).mono ?_
  rintro e w7 ⟨rfl, hb7⟩
  rw [slot258]
  have M := Lib.hid ((((Blk.new w4 33 #[.string ⟨#[100]⟩, .string ⟨#[100]⟩, .bool false]).below hb5).below hb6).below hb7)
  have c0 : w7.cell? ⟨w4.heap.size, 0, none⟩ = some (.string ⟨#[100]⟩) := M.out.cell 0
  have c1 : w7.cell? ⟨w4.heap.size, 1, none⟩ = some (.string ⟨#[100]⟩) := M.out.cell 1
  have c2 : w7.cell? ⟨w4.heap.size, 2, none⟩ = some (.bool false) := M.out.cell 2
  go_wp2_with fail
  refine (in23 ⟨[100], [100], false⟩ [100] _).mono ?_
  rintro e w8 ⟨rfl, hb8⟩
  clear c0 c1 c2
  rw [show inR ⟨[100], [100], false⟩ [100] = true from by decide]
  have M2 := Lib.hid (M.out.below hb8)
  have c0 : w8.cell? ⟨w4.heap.size, 0, none⟩ = some (.string ⟨#[100]⟩) := M2.out.cell 0
  have c1 : w8.cell? ⟨w4.heap.size, 1, none⟩ = some (.string ⟨#[100]⟩) := M2.out.cell 1
  have c2 : w8.cell? ⟨w4.heap.size, 2, none⟩ = some (.bool false) := M2.out.cell 2
  go_wp2_with fail
  refine (in23 ⟨[100], [100], false⟩ [101] _).mono ?_
  rintro e w9 ⟨rfl, hb9⟩
  clear c0 c1 c2
  rw [show inR ⟨[100], [100], false⟩ [101] = false from by decide]
  have M3 := Lib.hid (M2.out.below hb9)
  have c0 : w9.cell? ⟨w4.heap.size, 0, none⟩ = some (.string ⟨#[100]⟩) := M3.out.cell 0
  have c1 : w9.cell? ⟨w4.heap.size, 1, none⟩ = some (.string ⟨#[100]⟩) := M3.out.cell 1
  have c2 : w9.cell? ⟨w4.heap.size, 2, none⟩ = some (.bool false) := M3.out.cell 2
  go_wp2_with fail
  refine (in23 ⟨[100], [100], false⟩ [99] _).mono ?_
  rintro e w10 ⟨rfl, hb10⟩
  clear c0 c1 c2
  rw [show inR ⟨[100], [100], false⟩ [99] = false from by decide]
  go_wp2_with fail
  refine (valid28 ⟨0, 1, 0, 20, 0, 0, 0, 128, 0, 0, 0, 0, 0, 0, false, 0, [], [], 0, 0, false⟩ _).mono ?_
  rintro e w11 ⟨rfl, hb11⟩
  rw [validEs]
  go_wp2_with fail
  go_ret
  exact ⟨rfl, by repeat (first | exact Below.refl _ _ | refine below_alloc ?_ _ | refine below_drewN ?_ _ | refine below_then ?_ (by assumption))⟩
end Go.Proofs.Ytekjghofkjlnaaa
