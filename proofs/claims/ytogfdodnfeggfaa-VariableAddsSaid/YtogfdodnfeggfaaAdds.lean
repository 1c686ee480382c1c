/- The walk of VariableAdds: it returns true. -/
import Derived.Test.YtogfdodnfeggfaaAwake
import Derived.Test.YtogfdodnfeggfaaAdd
namespace Go.Proofs.Ytogfdodnfeggfaa
open Go.RowKit P11
attribute [local go_sem] ByteArray.mk_append_mk ByteArray.extract_mk mk_index

set_option maxHeartbeats 1000000 in
theorem adds8 (L K : Int) (d r : Bs) (w : World) :
    Calls Try.prog 8 #[.int .i64 L, .int .i64 K, .string ⟨d.toArray⟩, .string ⟨r.toArray⟩] w fun e w' => e = .returned (.bool true) ∧ Below w.heap.size w w' := by
  by_cases hd : 1100 < d.length
  · go_enter Try.func8, Try.ntmps8
    go_wp2_with (go_at_call 10; refine (awake10 _).mono ?_; rintro e w1 ⟨rfl, hb1⟩)
    go_ret
    exact ⟨rfl, by repeat (first | exact Below.refl _ _ | refine below_alloc ?_ _ | refine below_drewN ?_ _ | refine below_then ?_ (by assumption))⟩
  by_cases hr : 1100 < r.length
  · go_enter Try.func8, Try.ntmps8
    go_wp2_with (go_at_call 10; refine (awake10 _).mono ?_; rintro e w1 ⟨rfl, hb1⟩)
    go_ret
    exact ⟨rfl, by repeat (first | exact Below.refl _ _ | refine below_alloc ?_ _ | refine below_drewN ?_ _ | refine below_then ?_ (by assumption))⟩
  go_enter Try.func8, Try.ntmps8
  go_wp2_with (first | (go_at_call 10; refine (awake10 _).mono ?_; rintro e w1 ⟨rfl, hb1⟩) | (go_at_call 24; refine (add24 _ _ d r _ (by omega) (by omega)).mono ?_; rintro e w2 ⟨rfl, hb2⟩) | (go_at_call 25; refine (add25 _ _ d r _ (by omega) (by omega)).mono ?_; rintro e w3 ⟨rfl, hb3⟩) | (go_at_call 26; refine (room26 _ _ d _ (by omega)).mono ?_; rintro e w4 ⟨rfl, hb4⟩) | (go_at_call 27; refine (room27 _ _ d _ (by omega)).mono ?_; rintro e w5 ⟨rfl, hb5⟩))
  go_ret
  exact ⟨rfl, by repeat (first | exact Below.refl _ _ | refine below_alloc ?_ _ | refine below_drewN ?_ _ | refine below_then ?_ (by assumption))⟩
end Go.Proofs.Ytogfdodnfeggfaa
