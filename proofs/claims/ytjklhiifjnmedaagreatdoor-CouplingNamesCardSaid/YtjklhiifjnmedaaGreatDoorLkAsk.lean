/- conflicts: whether a lock conflicts with one of a list; the closures that ask for a unit. -/
import Derived.Test.YtjklhiifjnmedaaGreatDoorLkLeaf
import Derived.Test.YtjklhiifjnmedaaGreatDoorLkFunc
namespace Go.Proofs.YtjklhiifjnmedaaGreatDoor
open Go.RowKit P16 P46
attribute [local go_sem] ByteArray.mk_append_mk ByteArray.extract_mk mk_index

/-- A lock's cells. -/
def la (l : Lock) : Array Value := #[.int .i64 l.unit, .int .i64 l.id, .string ⟨l.r.low.toArray⟩, .string ⟨l.r.high.toArray⟩, .bool l.r.e, .bool l.x]
theorem Blk.add {w : World} {p : Nat} {t : TypeId} {cs : Array Value} (h : Blk w p t cs) : ∀ j u, cs[j]? = some u → w.cell? ((⟨p, 0, none⟩ : Addr).add j) = some u := by
  intro j u hj
  rw [Addr.add_lit, Nat.zero_add, h.cell]
  exact hj

set_option maxRecDepth 100000 in
set_option maxHeartbeats 1000000 in
theorem lkConflictsAsk (b : Nat) (x : Lock) (w : World) (hx : Blk w b 46 (la x)) : Asks 81 b (fun y => conflict y x) w := by
  refine ⟨fun args W => by kernel_rfl, fun l W hW => ?_⟩
  have hlenL : (Tryz.prog.info? 46).map (·.size) = some 6 := by kernel_rfl
  have HX := Lib.hid (hx.below hW)
  clear hx hW
  unfold lv
  go_enter Tryz.func81, Tryz.ntmps81
  go_upto_region 1 with (fail)
  obtain ⟨w2, p, e1, e2, hb, h1⟩ := boxes1 W 46 (la l)
  unfold la at e1
  rw [e1, e2]
  have HX2 := Lib.hid ((HX.out.below hb).add)
  have HL := Lib.hid h1.add
  have HB := Lib.hid hb
  clear e1 e2 hb h1
  go_wp2_with (first | (refine wpList_load_cells rfl 46 (.tmp 2) rfl ⟨p, 0, none⟩ rfl _ _ HL.out Tryz.underlying46 rfl hlenL ?_) | (refine wpList_load_cells rfl 46 (.tmp 1) rfl ⟨b, 0, none⟩ rfl _ _ HX2.out Tryz.underlying46 rfl hlenL ?_) | (go_at_call 82; refine (lkConflict l x _).mono ?_; rintro e w' ⟨rfl, hb2⟩))
  go_ret
  exact ⟨rfl, below_then HB.out hb2⟩
set_option maxRecDepth 100000 in
set_option maxHeartbeats 1000000 in
theorem lkConflicts (x : Lock) (A : Option Addr) (n c : Nat) (ls : List Lock) (w : World) (h : LocksAt w A n ls) (hn : n ≤ 1000000) :
    Calls Tryz.prog 45 #[.slice A n c, lv x] w fun e w' => e = .returned (.bool (ls.any fun y => conflict y x)) ∧ Below w.heap.size w w' := by
  have H := Lib.hid h
  clear h
  have hmf : ∀ (fn : Fn) (first cap : Array Value) (w : World), (Instr.makeFunc fn first cap).run Tryz.prog w = .ok (.func fn first cap) w := fun _ _ _ _ => rfl
  unfold lv
  go_enter Tryz.func45, Tryz.ntmps45
  go_upto_region 1 with (fail)
  obtain ⟨w2, p, e1, e2, hb, h1⟩ := boxes1 w 46 (la x)
  unfold la at e1
  rw [e1, e2]
  have HA := Lib.hid (lkConflictsAsk p x w2 h1)
  have HB := Lib.hid hb
  have HW := Lib.hid (H.out.below hb)
  clear e1 e2 hb h1
  go_wp2_with (go_at_call 80; refine (lkContainsFunc _ _ _ _ _ _ _ _ HW.out hn HA.out).mono ?_; rintro e w' ⟨rfl, hb2⟩)
  go_ret
  exact ⟨rfl, below_then HB.out hb2⟩
set_option maxRecDepth 100000 in
set_option maxHeartbeats 1000000 in
theorem lkWaitingAsk (b : Nat) (u : Int) (w : World) (hx : Blk w b 3 #[.int .i64 u]) : Asks 95 b (fun l => decide (l.unit = u)) w := by
  refine ⟨fun args W => by kernel_rfl, fun l W hW => ?_⟩
  have HX := Lib.hid (hx.below hW)
  clear hx hW
  unfold lv
  go_enter Tryz.func95, Tryz.ntmps95
  go_upto_region 1 with (fail)
  obtain ⟨w2, p, e1, e2, hb, h1⟩ := boxes1 W 46 (la l)
  unfold la at e1
  rw [e1, e2]
  have hc := (HX.out.below hb).cell 0
  have hc2 := h1.cell 0
  have HB := Lib.hid hb
  clear e1 e2 hb h1
  simp [la] at hc hc2
  go_wp2
  go_ret
  exact ⟨retBool (by rw [Bool.eq_iff_iff]; simp), HB.out⟩
set_option maxRecDepth 100000 in
set_option maxHeartbeats 1000000 in
theorem lkOfAsk (b : Nat) (u : Int) (w : World) (hx : Blk w b 3 #[.int .i64 u]) : Asks 87 b (fun l => decide (l.unit = u)) w := by
  refine ⟨fun args W => by kernel_rfl, fun l W hW => ?_⟩
  have HX := Lib.hid (hx.below hW)
  clear hx hW
  unfold lv
  go_enter Tryz.func87, Tryz.ntmps87
  go_upto_region 1 with (fail)
  obtain ⟨w2, p, e1, e2, hb, h1⟩ := boxes1 W 46 (la l)
  unfold la at e1
  rw [e1, e2]
  have hc := (HX.out.below hb).cell 0
  have hc2 := h1.cell 0
  have HB := Lib.hid hb
  clear e1 e2 hb h1
  simp [la] at hc hc2
  go_wp2
  go_ret
  exact ⟨retBool (by rw [Bool.eq_iff_iff]; simp), HB.out⟩
end Go.Proofs.YtjklhiifjnmedaaGreatDoor
