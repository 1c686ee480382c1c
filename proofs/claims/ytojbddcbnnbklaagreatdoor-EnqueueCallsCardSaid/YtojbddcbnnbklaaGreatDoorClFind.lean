/- find: where an owner stands in a list; the closures that ask for an owner. -/
import Derived.Test.YtojbddcbnnbklaaGreatDoorClDelG
namespace Go.Proofs.YtojbddcbnnbklaaGreatDoor
open Go.RowKit P43
attribute [local go_sem] ByteArray.mk_append_mk ByteArray.extract_mk mk_index

set_option maxRecDepth 100000 in
set_option maxHeartbeats 1000000 in
theorem clFindAsk (b : Nat) (u : Int) (w : World) (hx : Blk w b 3 #[.int .i64 u]) : Asks 48 b (fun l => decide (l.1.id = u)) w := by
  refine ⟨fun args W => by kernel_rfl, fun l W hW => ?_⟩
  have HX := Lib.hid (hx.below hW)
  clear hx hW
  unfold cv
  go_enter Tryz.func48, Tryz.ntmps48
  go_upto_region 1 with (fail)
  obtain ⟨w2, p, e1, e2, hb, h1⟩ := boxes1 W 76 (ca l)
  unfold ca at e1
  rw [e1, e2]
  have hc := (HX.out.below hb).cell 0
  have hc2 := h1.cell 0
  have HB := Lib.hid hb
  clear e1 e2 hb h1
  simp [ca] at hc hc2
  go_wp2
  go_ret
  exact ⟨retBool (by rw [Bool.eq_iff_iff]; simp), HB.out⟩
set_option maxRecDepth 100000 in
set_option maxHeartbeats 1000000 in
theorem clFind (u : Int) (A : Option Addr) (n c : Nat) (ls : List Cm) (w : World) (h : ClsAt w A n ls) (hn : n ≤ 1000000) :
    Calls Tryz.prog 34 #[.slice A n c, .int .i64 u] w fun e w' => e = .returned (.int .i64 (fIdx (fun l => decide (l.1.id = u)) ls)) ∧ Below w.heap.size w w' := by
  have hmf : ∀ (fn : Fn) (first cap : Array Value) (w : World), (Instr.makeFunc fn first cap).run Tryz.prog w = .ok (.func fn first cap) w := fun _ _ _ _ => rfl
  have HS := Lib.hid h
  clear h
  go_enter Tryz.func34, Tryz.ntmps34
  go_upto_region 1 with (fail)
  obtain ⟨w2, g, e1, e2, hb, h1⟩ := boxes1 w 3 #[.int .i64 u]
  rw [e1, e2]
  have HA := Lib.hid (clFindAsk g u w2 h1)
  have HB := Lib.hid hb
  have HW := Lib.hid (HS.out.below hb)
  clear e1 e2 hb h1
  go_wp2_with (go_at_call 47; refine (clIndexFunc _ _ _ _ _ _ _ _ HW.out hn HA.out).mono ?_; rintro e w' ⟨rfl, hb2⟩)
  go_ret
  exact ⟨rfl, below_then HB.out hb2⟩
end Go.Proofs.YtojbddcbnnbklaaGreatDoor
