/- The walk of VariableUnpacks: it returns true. -/
import Derived.Test.YtogfdodnfeggfaaAwake
import Derived.Test.YtogfdodnfeggfaaRefUnpack
namespace Go.Proofs.Ytogfdodnfeggfaa
open Go.RowKit P11
attribute [local go_sem] ByteArray.mk_append_mk ByteArray.extract_mk mk_index

set_option maxHeartbeats 1000000 in
theorem unpacks5 (L K : Int) (d : Bs) (w : World) :
    Calls Try.prog 5 #[.int .i64 L, .int .i64 K, .string ⟨d.toArray⟩] w fun e w' => e = .returned (.bool true) ∧ Below w.heap.size w w' := by
  by_cases hd : 1100 < d.length
  · go_enter Try.func5, Try.ntmps5
    go_wp2_with (go_at_call 10; refine (awake10 _).mono ?_; rintro e w1 ⟨rfl, hb1⟩)
    go_ret
    exact ⟨rfl, by repeat (first | exact Below.refl _ _ | refine below_alloc ?_ _ | refine below_drewN ?_ _ | refine below_then ?_ (by assumption))⟩
  · have hdl : d.length ≤ 100000 := by omega
    go_enter Try.func5, Try.ntmps5
    go_wp2_with fail
    refine (awake10 _).mono ?_
    rintro e w1 ⟨rfl, hb1⟩
    go_wp2_with fail
    refine (unpack21 _ _ d _ hdl).mono ?_
    rintro e w3 ⟨v3, rfl, hown3, hb3⟩
    have hb03 := below_then hb1 hb3
    obtain ⟨A3, n3, c3, rfl, hs3, hm3, -⟩ := hown3.strs
    have HS3 := Lib.hid hs3
    clear hs3 hown3
    go_wp2_with fail
    refine (unpack22 _ _ d _ hdl).mono ?_
    rintro e w4 ⟨v4, rfl, hown4, hb4⟩
    have hb04 := below_then hb03 hb4
    obtain ⟨A4, n4, c4, rfl, hs4, hm4, -⟩ := hown4.strs
    have HS4 := Lib.hid hs4
    clear hs4 hown4
    go_wp2_with (first | (go_at_call 16; refine (same16 _ _ _ _ _ _ _ _ _ (HS3.out.below hb4) HS4.out hm3 hm4).mono ?_; rintro e w5 ⟨rfl, hb5⟩; rw [sameB_refl]))
    go_ret
    exact ⟨rfl, below_then hb04 hb5⟩
end Go.Proofs.Ytogfdodnfeggfaa
