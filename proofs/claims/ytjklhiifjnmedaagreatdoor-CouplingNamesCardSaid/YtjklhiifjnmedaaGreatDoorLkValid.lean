/- The walk of Valid. -/
import Derived.Test.YtjklhiifjnmedaaGreatDoorLkLeaf
namespace Go.Proofs.YtjklhiifjnmedaaGreatDoor
open Go.RowKit P16 P46
attribute [local go_sem] ByteArray.mk_append_mk ByteArray.extract_mk mk_index

set_option maxRecDepth 100000 in
set_option maxHeartbeats 2000000 in
theorem lkValid (l : Lock) (w : World) : Calls Tryz.prog 40 #[lv l] w fun e w' => e = .returned (.bool (validL l)) ∧ Below w.heap.size w w' := by
  have hv : validL l = (numB l.unit && numB l.id && decide (l.r.low.length ≤ 32) && decide (l.r.high.length ≤ 32) && !emp l.r) := rfl
  cases hn1 : numB l.unit <;> cases hn2 : numB l.id <;> by_cases hl1 : (l.r.low.length : Int) ≤ 32 <;> by_cases hl2 : (l.r.high.length : Int) ≤ 32
  all_goals
    have HV := Lib.hid (hv.trans (by rw [hn1, hn2, show decide (l.r.low.length ≤ 32) = decide ((l.r.low.length : Int) ≤ 32) from by rw [Bool.eq_iff_iff]; simp; omega, show decide (l.r.high.length ≤ 32) = decide ((l.r.high.length : Int) ≤ 32) from by rw [Bool.eq_iff_iff]; simp; omega]))
    have H1 := Lib.hid hn1
    have H2 := Lib.hid hn2
    have D1 := Lib.hid hl1
    have D2 := Lib.hid hl2
    clear hv hn1 hn2
    unfold lv
    go_enter Tryz.func40, Tryz.ntmps40
    go_upto_region 1 with (fail)
    obtain ⟨w2, p, e1, e2, hb, h1⟩ := boxes1 w 46 #[.int .i64 l.unit, .int .i64 l.id, .string ⟨l.r.low.toArray⟩, .string ⟨l.r.high.toArray⟩, .bool l.r.e, .bool l.x]
    rw [e1, e2]
    obtain ⟨a0, a1, a2, a3, a4, a5⟩ := lcells h1
    have HB := Lib.hid hb
    clear e1 e2 h1 hb
    go_wp2_with (first | (go_at_call 69; refine (lkNumber _ _).mono ?_; rintro e w' ⟨rfl, rfl⟩; first | rw [H1.out] | rw [H2.out]) | (go_at_call 70; refine (isEmpty24 l.r _).mono ?_; rintro e w' ⟨rfl, hb2⟩))
    go_ret
    exact ⟨retBool (HV.out.trans (by simp [D1.out, D2.out] <;> (intro; omega))).symm, by first | exact below_then HB.out hb2 | exact HB.out⟩
end Go.Proofs.YtjklhiifjnmedaaGreatDoor
