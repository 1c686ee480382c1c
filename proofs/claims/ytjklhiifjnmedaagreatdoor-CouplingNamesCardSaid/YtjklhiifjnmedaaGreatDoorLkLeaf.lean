/- The walks of the functions on one or two locks: Valid, Conflict, and the reference's. -/
import Derived.Test.YtjklhiifjnmedaaGreatDoorRange
import Derived.Test.YtjklhiifjnmedaaGreatDoorMem
import Derived.Deep.DeepCutAuto
namespace Go.Proofs.YtjklhiifjnmedaaGreatDoor
open Go.RowKit P16 P46
attribute [local go_sem] ByteArray.mk_append_mk ByteArray.extract_mk mk_index

theorem boxes2 (w : World) (t : TypeId) (cs ds : Array Value) : ∃ (w2 : World) (p q : Nat), (w.alloc (.cells cs t)).alloc (.cells ds t) = w2 ∧ w.heap.size = p ∧ w.heap.size + 1 = q ∧ Below w.heap.size w w2 ∧ Blk w2 p t cs ∧ Blk w2 q t ds := by
  refine ⟨_, _, _, rfl, rfl, rfl, below_alloc (below_alloc (Below.refl _ _) _) _, (Blk.new w t cs).alloc _, ?_⟩
  have := Blk.new (w.alloc (.cells cs t)) t ds
  rwa [World.size_alloc] at this
theorem boxes1 (w : World) (t : TypeId) (cs : Array Value) : ∃ (w2 : World) (p : Nat), w.alloc (.cells cs t) = w2 ∧ w.heap.size = p ∧ Below w.heap.size w w2 ∧ Blk w2 p t cs :=
  ⟨_, _, rfl, rfl, below_alloc (Below.refl _ _) _, Blk.new w t cs⟩
theorem lcells {w : World} {p : Nat} {t : TypeId} {l : Lock} (h : Blk w p t #[.int .i64 l.unit, .int .i64 l.id, .string ⟨l.r.low.toArray⟩, .string ⟨l.r.high.toArray⟩, .bool l.r.e, .bool l.x]) :
    w.cell? ⟨p, 0, none⟩ = some (.int .i64 l.unit) ∧ w.cell? ⟨p, 1, none⟩ = some (.int .i64 l.id) ∧ w.cell? ⟨p, 2, none⟩ = some (.string ⟨l.r.low.toArray⟩) ∧ w.cell? ⟨p, 3, none⟩ = some (.string ⟨l.r.high.toArray⟩) ∧ w.cell? ⟨p, 4, none⟩ = some (.bool l.r.e) ∧ w.cell? ⟨p, 5, none⟩ = some (.bool l.x) :=
  ⟨h.cell 0, h.cell 1, h.cell 2, h.cell 3, h.cell 4, h.cell 5⟩
set_option maxRecDepth 100000 in
set_option maxHeartbeats 2000000 in
theorem lkConflict (a b : Lock) (w : World) : Calls Tryz.prog 82 #[lv a, lv b] w fun e w' => e = .returned (.bool (conflict a b)) ∧ Below w.heap.size w w' := by
  have hv : conflict a b = (decide (a.unit ≠ b.unit) && decide (a.id = b.id) && (a.x || b.x) && overlap a.r b.r) := rfl
  cases hu : (a.unit != b.unit) <;> cases hi : (a.id == b.id) <;> cases hx1 : a.x <;> cases hx2 : b.x
  all_goals
    rw [show decide (a.unit ≠ b.unit) = (a.unit != b.unit) from by rw [bne, Bool.eq_iff_iff]; simp, hu, show decide (a.id = b.id) = (a.id == b.id) from by rw [Bool.eq_iff_iff]; simp, hi, hx1, hx2] at hv
    simp only [Bool.and_true, Bool.and_false, Bool.false_and, Bool.true_and, Bool.or_true, Bool.or_false] at hv
    have HV := Lib.hid hv
    have HX := Lib.hid (And.intro hx1 hx2)
    clear hv hx1 hx2
    unfold lv
    go_enter Tryz.func82, Tryz.ntmps82
    go_upto_region 1 with (fail)
    obtain ⟨w2, p, q, e1, e2, e3, hb, h1, h2⟩ := boxes2 w 46 #[.int .i64 a.unit, .int .i64 a.id, .string ⟨a.r.low.toArray⟩, .string ⟨a.r.high.toArray⟩, .bool a.r.e, .bool a.x] #[.int .i64 b.unit, .int .i64 b.id, .string ⟨b.r.low.toArray⟩, .string ⟨b.r.high.toArray⟩, .bool b.r.e, .bool b.x]
    rw [e1, e3, e2]
    obtain ⟨a0, a1, a2, a3, a4, a5⟩ := lcells h1
    obtain ⟨b0, b1, b2, b3, b4, b5⟩ := lcells h2
    rw [HX.out.1] at a5
    rw [HX.out.2] at b5
    have HB := Lib.hid hb
    clear e1 e2 e3 h1 h2 hb
    go_wp2_with (go_at_call 99; refine (overlap22 a.r b.r _).mono ?_; rintro e w' ⟨rfl, hb2⟩)
    go_ret
    rw [HV.out]
    exact ⟨rfl, by first | exact below_then HB.out hb2 | exact HB.out⟩
theorem lkNumber (n : Int) (w : World) : Calls Tryz.prog 69 #[.int .i64 n] w fun e w' => e = .returned (.bool (numB n)) ∧ w' = w := by
  have hv : numB n = (decide (1 ≤ n) && decide (n ≤ 1099511627776)) := rfl
  by_cases h1 : 1 ≤ n <;> by_cases h2 : n ≤ 1099511627776
  all_goals
    have HV := Lib.hid hv
    clear hv
    go_enter Tryz.func69, Tryz.ntmps69
    go_wp2
    go_ret
    exact ⟨retBool (by rw [HV.out]; simp [h1, h2]), rfl⟩
end Go.Proofs.YtjklhiifjnmedaaGreatDoor
