/- Locks are compared. -/
import Derived.Test.YtjklhiifjnmedaaGreatDoorLkLeaf
import Derived.Test.YtjklhiifjnmedaaGreatDoorEq
namespace Go.Proofs.YtjklhiifjnmedaaGreatDoor
open Go.RowKit P16 P46

theorem stoodR : Tryz.prog.stoodInHeld 44 = false := by kernel_rfl
theorem underR : Tryz.prog.underlying 44 = some (.struct (Tryz.prog.fieldsOf 44)) := by kernel_rfl
theorem partsR : ((Tryz.prog.fieldsOf 44).toList.map fun f => (decide (f.name = "_"), f.type, f.offset)) = [(false, 9, 0), (false, 9, 1), (false, 4, 2)] := by kernel_rfl
theorem stoodL : Tryz.prog.stoodInHeld 46 = false := by kernel_rfl
theorem underL : Tryz.prog.underlying 46 = some (.struct (Tryz.prog.fieldsOf 46)) := by kernel_rfl
theorem partsL : ((Tryz.prog.fieldsOf 46).toList.map fun f => (decide (f.name = "_"), f.type, f.offset)) = [(false, 3, 0), (false, 3, 1), (false, 44, 2), (false, 4, 5)] := by kernel_rfl
theorem run_equalIn_rng (d : Nat) (w : World) (r s : Rng) : (Op.equalIn (d + 2) 44 (rv r) (rv s)).run Tryz.prog w = .ok (decide (r = s)) w := by
  obtain ⟨a, b, c⟩ := r
  obtain ⟨a', b', c'⟩ := s
  unfold rv
  rw [run_equalIn_struct w (d + 1) _ _ _ underR stoodR, eqFields_parts, partsR]
  by_cases h1 : a = a' <;> by_cases h2 : b = b' <;> by_cases h3 : c = c' <;> simp [go_sem, eqParts, part, h1, h2, h3]
theorem part_rng (w : World) (l : Lock) : (part 44 #[.int .i64 l.unit, .int .i64 l.id, .string ⟨l.r.low.toArray⟩, .string ⟨l.r.high.toArray⟩, .bool l.r.e, .bool l.x] 2).run Tryz.prog w = .ok (rv l.r) w := by
  kernel_rfl
theorem part_unit (w : World) (l : Lock) : (part 3 #[.int .i64 l.unit, .int .i64 l.id, .string ⟨l.r.low.toArray⟩, .string ⟨l.r.high.toArray⟩, .bool l.r.e, .bool l.x] 0).run Tryz.prog w = .ok (.int .i64 l.unit) w := by kernel_rfl
theorem part_id (w : World) (l : Lock) : (part 3 #[.int .i64 l.unit, .int .i64 l.id, .string ⟨l.r.low.toArray⟩, .string ⟨l.r.high.toArray⟩, .bool l.r.e, .bool l.x] 1).run Tryz.prog w = .ok (.int .i64 l.id) w := by kernel_rfl
theorem part_x (w : World) (l : Lock) : (part 4 #[.int .i64 l.unit, .int .i64 l.id, .string ⟨l.r.low.toArray⟩, .string ⟨l.r.high.toArray⟩, .bool l.r.e, .bool l.x] 5).run Tryz.prog w = .ok (.bool l.x) w := by kernel_rfl
theorem equalIn_int (w : World) (a b : Int) : (Op.equalIn 9999 3 (.int .i64 a) (.int .i64 b)).run Tryz.prog w = .ok (decide (a = b)) w := by
  simp [go_sem]
  rw [Bool.eq_iff_iff]
  simp
theorem equalIn_bool (w : World) (a b : Bool) : (Op.equalIn 9999 4 (.bool a) (.bool b)).run Tryz.prog w = .ok (decide (a = b)) w := by
  cases a <;> cases b <;> simp [go_sem]
theorem equalIn_rng (w : World) (r s : Rng) : (Op.equalIn 9999 44 (rv r) (rv s)).run Tryz.prog w = .ok (decide (r = s)) w := run_equalIn_rng 9997 w r s
theorem lock_ext {a b : Lock} : a = b ↔ a.unit = b.unit ∧ a.id = b.id ∧ a.r = b.r ∧ a.x = b.x := by
  obtain ⟨⟩ := a
  obtain ⟨⟩ := b
  simp
theorem run_eql_lock (w : World) (a b : Lock) : (binOp .eql 46 (lv a) (lv b)).run Tryz.prog w = .ok (.bool (decide (a = b))) w := by
  unfold lv
  refine run_eql_parts w 46 _ _ _ underL stoodL partsL _ ?_
  have hd : decide (a = b) = decide (a.unit = b.unit ∧ a.id = b.id ∧ a.r = b.r ∧ a.x = b.x) := by rw [decide_eq_decide]; exact lock_ext
  rw [hd]
  simp only [eqParts, ↓reduceIte, Sem.run_bind, Sem.run_ite, part_unit, part_id, part_rng, part_x, equalIn_int, equalIn_bool, equalIn_rng, Result.andThen_ok]
  by_cases h1 : a.unit = b.unit <;> by_cases h2 : a.id = b.id <;> by_cases h3 : a.r = b.r <;> by_cases h4 : a.x = b.x <;> simp [h1, h2, h3, h4]
theorem run_neq_lock (w : World) (a b : Lock) : (binOp .neq 46 (lv a) (lv b)).run Tryz.prog w = .ok (.bool (!decide (a = b))) w := by
  unfold lv
  refine run_neq_parts w 46 _ _ _ underL stoodL partsL _ ?_
  have hd : decide (a = b) = decide (a.unit = b.unit ∧ a.id = b.id ∧ a.r = b.r ∧ a.x = b.x) := by rw [decide_eq_decide]; exact lock_ext
  rw [hd]
  simp only [eqParts, ↓reduceIte, Sem.run_bind, Sem.run_ite, part_unit, part_id, part_rng, part_x, equalIn_int, equalIn_bool, equalIn_rng, Result.andThen_ok]
  by_cases h1 : a.unit = b.unit <;> by_cases h2 : a.id = b.id <;> by_cases h3 : a.r = b.r <;> by_cases h4 : a.x = b.x <;> simp [h1, h2, h3, h4]
theorem run_eqGuard_lock (w : World) (op : BinOp) (x y : Operand) (a b : Lock) : (eqGuard op 46 x y (lv a) (lv b)).run Tryz.prog w = .ok () w :=
  run_eqGuard_agg w op 46 x y _ _ (by kernel_rfl)
end Go.Proofs.YtjklhiifjnmedaaGreatDoor
