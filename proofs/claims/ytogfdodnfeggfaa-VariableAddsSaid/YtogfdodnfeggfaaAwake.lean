/- The walk of the example of the chapter: it holds. -/
import Derived.Test.YtogfdodnfeggfaaPack
namespace Go.Proofs.Ytogfdodnfeggfaa
open Go.RowKit P11
attribute [local go_sem] ByteArray.mk_append_mk ByteArray.extract_mk mk_index

set_option maxHeartbeats 400000 in
theorem awake10 (w : World) : Calls Try.prog 10 #[] w fun e w' => e = .returned (.bool true) ∧ Below w.heap.size w w' := by
  have HW := Lib.hid (show wordI 300 = [1, 44, 0, 0] from by decide +kernel)
  go_enter Try.func10, Try.ntmps10
  go_wp2_with fail
  refine (pack12_awake _ _ _ (StrsAt.lit2 _ _ _ _)).mono ?_
  rintro e w1 ⟨v, rfl, hown, hb1⟩
  obtain ⟨A1, n1, c1, rfl, hs1, hn1, -⟩ := hown.strs
  clear hown
  have HS := Lib.hid hs1
  have HB := Lib.hid hb1
  clear hs1 hb1
  go_wp2_with fail
  refine (word19 _ _).mono ?_
  rintro e w2 ⟨rfl, hb2⟩
  rw [HW.out]
  have HB2 := Lib.hid hb2
  clear hb2
  go_wp2_with fail
  refine (same16 _ _ _ _ _ _ _ _ _ ((HS.out.below HB2.out).below ((Below.refl _ _).alloc (Nat.le_refl _) _)) (StrsAt.lit1 _ _ _) hn1 (by unfold maxLen; omega)).mono ?_
  rintro e w3 ⟨rfl, hb3⟩
  rw [sameB_refl]
  go_wp2_with fail
  go_ret
  have h1 := below_then (below_then ((Below.refl w.heap.size w).alloc (Nat.le_refl _) _) HB.out) HB2.out
  exact ⟨rfl, below_then (h1.alloc h1.size _) hb3⟩

end Go.Proofs.Ytogfdodnfeggfaa
