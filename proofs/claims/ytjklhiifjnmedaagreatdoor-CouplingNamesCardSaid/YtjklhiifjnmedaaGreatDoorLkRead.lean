/- The readers of a manager: covered, waiting. -/
import Derived.Test.YtjklhiifjnmedaaGreatDoorLkAsk
import Derived.Test.YtjklhiifjnmedaaGreatDoorMgr
namespace Go.Proofs.YtjklhiifjnmedaaGreatDoor
open Go.RowKit P16 P46
attribute [local go_sem] ByteArray.mk_append_mk ByteArray.extract_mk mk_index

set_option maxRecDepth 100000 in
set_option maxHeartbeats 2000000 in
theorem lkCoveredAsk (b : Nat) (x : Lock) (w : World) (hx : Blk w b 46 (la x)) : Asks 93 b (fun y => decide (y.unit = x.unit) && decide (y.id = x.id) && (y.x || !x.x) && covers y.r x.r) w := by
  refine ⟨fun args W => by kernel_rfl, fun l W hW => ?_⟩
  have HX := Lib.hid (hx.below hW)
  clear hx hW
  have hv : (decide (l.unit = x.unit) && decide (l.id = x.id) && (l.x || !x.x) && covers l.r x.r) = (decide (l.unit = x.unit) && decide (l.id = x.id) && (l.x || !x.x) && covers l.r x.r) := rfl
  cases hu : (l.unit == x.unit) <;> cases hi : (l.id == x.id) <;> cases hx1 : l.x <;> cases hx2 : x.x
  all_goals
    rw [show decide (l.unit = x.unit) = (l.unit == x.unit) from by rw [Bool.eq_iff_iff]; simp, hu, show decide (l.id = x.id) = (l.id == x.id) from by rw [Bool.eq_iff_iff]; simp, hi]
    unfold lv
    go_enter Tryz.func93, Tryz.ntmps93
    go_upto_region 1 with (fail)
    obtain ⟨w2, p, e1, e2, hb, h1⟩ := boxes1 W 46 #[.int .i64 l.unit, .int .i64 l.id, .string ⟨l.r.low.toArray⟩, .string ⟨l.r.high.toArray⟩, .bool l.r.e, .bool l.x]
    rw [hx1] at e1
    rw [e1, e2]
    obtain ⟨a0, a1, a2, a3, a4, a5⟩ := lcells h1
    obtain ⟨b0, b1, b2, b3, b4, b5⟩ := lcells (HX.out.below hb)
    rw [hx1] at a5
    rw [hx2] at b5
    have HB := Lib.hid hb
    clear e1 e2 h1 hb hv hx1 hx2
    go_wp2_with (go_at_call 94; refine (covers34 l.r x.r _).mono ?_; rintro e w' ⟨rfl, hb2⟩)
    go_ret
    exact ⟨retBool (by simp), by first | exact below_then HB.out hb2 | exact HB.out⟩
set_option maxRecDepth 100000 in
set_option maxHeartbeats 1000000 in
theorem lkWaiting (u : Int) (B p : Nat) (h q : List Lock) (vh vq : Value) (w : World) (m : Mgr w B p h q vh vq) (hq : q.length ≤ 1000000) :
    Calls Tryz.prog 76 #[.pointer (some ⟨p, 0, none⟩), .int .i64 u] w fun e w' => e = .returned (.int .i64 (fIdx (fun l => decide (l.unit = u)) q)) ∧ Below w.heap.size w w' := by
  have hmf : ∀ (fn : Fn) (first cap : Array Value) (w : World), (Instr.makeFunc fn first cap).run Tryz.prog w = .ok (.func fn first cap) w := fun _ _ _ _ => rfl
  obtain ⟨A, c, rfl, hs, -⟩ := m.queue.cells
  have HM := Lib.hid m
  have HS := Lib.hid hs
  clear m hs
  go_enter Tryz.func76, Tryz.ntmps76
  go_upto_region 1 with (fail)
  obtain ⟨w2, g, e1, e2, hb, h1⟩ := boxes1 w 3 #[.int .i64 u]
  rw [e1, e2]
  have HA := Lib.hid (lkWaitingAsk g u w2 h1)
  have HB := Lib.hid hb
  have HW := Lib.hid (HS.out.below hb)
  have hc := (HM.out.below hb).box.cell 1
  simp at hc
  clear e1 e2 hb h1
  go_wp2_with (go_at_call 79; refine (lkIndexFunc _ _ _ _ _ _ _ _ HW.out hq HA.out).mono ?_; rintro e w' ⟨rfl, hb2⟩)
  go_ret
  exact ⟨rfl, below_then HB.out hb2⟩
set_option maxRecDepth 100000 in
set_option maxHeartbeats 1000000 in
theorem lkCovered (x : Lock) (B p : Nat) (h q : List Lock) (vh vq : Value) (w : World) (m : Mgr w B p h q vh vq) (hh : h.length ≤ 1000000) :
    Calls Tryz.prog 75 #[.pointer (some ⟨p, 0, none⟩), lv x] w fun e w' => e = .returned (.bool (covered h x)) ∧ Below w.heap.size w w' := by
  have hmf : ∀ (fn : Fn) (first cap : Array Value) (w : World), (Instr.makeFunc fn first cap).run Tryz.prog w = .ok (.func fn first cap) w := fun _ _ _ _ => rfl
  obtain ⟨A, c, rfl, hs, -⟩ := m.held.cells
  have HM := Lib.hid m
  have HS := Lib.hid hs
  clear m hs
  unfold lv
  go_enter Tryz.func75, Tryz.ntmps75
  go_upto_region 1 with (fail)
  obtain ⟨w2, g, e1, e2, hb, h1⟩ := boxes1 w 46 (la x)
  unfold la at e1
  rw [e1, e2]
  have HA := Lib.hid (lkCoveredAsk g x w2 h1)
  have HB := Lib.hid hb
  have HW := Lib.hid (HS.out.below hb)
  have hc := (HM.out.below hb).box.cell 0
  simp at hc
  clear e1 e2 hb h1
  go_wp2_with (go_at_call 80; refine (lkContainsFunc _ _ _ _ _ _ _ _ HW.out hh HA.out).mono ?_; rintro e w' ⟨rfl, hb2⟩)
  go_ret
  exact ⟨rfl, below_then HB.out hb2⟩
end Go.Proofs.YtjklhiifjnmedaaGreatDoor
