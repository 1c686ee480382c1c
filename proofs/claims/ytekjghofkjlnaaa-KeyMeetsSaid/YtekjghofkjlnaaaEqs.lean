/- Comparisons of ranges, and literal slices of ranges. -/
import Derived.Test.YtekjghofkjlnaaaAwake
import Derived.Test.YtekjghofkjlnaaaEq
namespace Go.Proofs.Ytekjghofkjlnaaa
open Go.RowKit P16
attribute [local go_sem] ByteArray.mk_append_mk ByteArray.extract_mk mk_index leq_bs not_lt_bs

theorem rv_mk (a b : Bs) (e : Bool) : rv ⟨a, b, e⟩ = .agg #[.string ⟨a.toArray⟩, .string ⟨b.toArray⟩, .bool e] := rfl
theorem stood33 : Try.prog.stoodInHeld 33 = false := by kernel_rfl
theorem under33 : Try.prog.underlying 33 = some (.struct (Try.prog.fieldsOf 33)) := by kernel_rfl
theorem parts33 : ((Try.prog.fieldsOf 33).toList.map fun f => (decide (f.name = "_"), f.type, f.offset)) = [(false, 9, 0), (false, 9, 1), (false, 4, 2)] := by kernel_rfl
theorem run_eql_rng (w : World) (r s : Rng) : (binOp .eql 33 (rv r) (rv s)).run Try.prog w = .ok (.bool (decide (r = s))) w := by
  obtain ⟨a, b, c⟩ := r
  obtain ⟨a', b', c'⟩ := s
  rw [rv_mk, rv_mk]
  refine run_eql_parts w 33 _ _ _ under33 stood33 parts33 _ ?_
  by_cases h1 : a = a' <;> by_cases h2 : b = b' <;> by_cases h3 : c = c' <;> simp [go_sem, eqParts, part, h1, h2, h3]
theorem run_eqGuard_rng (w : World) (op : BinOp) (x y : Operand) (r s : Rng) : (eqGuard op 33 x y (rv r) (rv s)).run Try.prog w = .ok () w :=
  run_eqGuard_agg w op 33 x y _ _ (by kernel_rfl)
def rcells (r : Rng) : List Value := [.string ⟨r.low.toArray⟩, .string ⟨r.high.toArray⟩, .bool r.e]
theorem RngsAt.lit2 (w : World) (e : TypeId) (a b : Rng) : RngsAt (w.alloc (.cells #[.string ⟨a.low.toArray⟩, .string ⟨a.high.toArray⟩, .bool a.e, .string ⟨b.low.toArray⟩, .string ⟨b.high.toArray⟩, .bool b.e] e)) (some ⟨w.heap.size, 0, none⟩) 2 [a, b] := by
  refine ⟨rfl, fun k r hk => ⟨_, _, rfl, ?_⟩⟩
  match k, hk with
  | 0, hk =>
    simp only [List.getElem?_cons_zero, Option.some.injEq] at hk
    subst hk
    exact ⟨World.cell?_alloc_mark w _ e (0, 0) 0, World.cell?_alloc_mark w _ e (0, 0) 1⟩
  | 1, hk =>
    simp only [List.getElem?_cons_succ, List.getElem?_cons_zero, Option.some.injEq] at hk
    subst hk
    exact ⟨World.cell?_alloc_mark w _ e (0, 0) 3, World.cell?_alloc_mark w _ e (0, 0) 4⟩
theorem RngsAt.lit3 (w : World) (e : TypeId) (a b c : Rng) : RngsAt (w.alloc (.cells #[.string ⟨a.low.toArray⟩, .string ⟨a.high.toArray⟩, .bool a.e, .string ⟨b.low.toArray⟩, .string ⟨b.high.toArray⟩, .bool b.e, .string ⟨c.low.toArray⟩, .string ⟨c.high.toArray⟩, .bool c.e] e)) (some ⟨w.heap.size, 0, none⟩) 3 [a, b, c] := by
  refine ⟨rfl, fun k r hk => ⟨_, _, rfl, ?_⟩⟩
  match k, hk with
  | 0, hk =>
    simp only [List.getElem?_cons_zero, Option.some.injEq] at hk
    subst hk
    exact ⟨World.cell?_alloc_mark w _ e (0, 0) 0, World.cell?_alloc_mark w _ e (0, 0) 1⟩
  | 1, hk =>
    simp only [List.getElem?_cons_succ, List.getElem?_cons_zero, Option.some.injEq] at hk
    subst hk
    exact ⟨World.cell?_alloc_mark w _ e (0, 0) 3, World.cell?_alloc_mark w _ e (0, 0) 4⟩
  | 2, hk =>
    simp only [List.getElem?_cons_succ, List.getElem?_cons_zero, Option.some.injEq] at hk
    subst hk
    exact ⟨World.cell?_alloc_mark w _ e (0, 0) 6, World.cell?_alloc_mark w _ e (0, 0) 7⟩
theorem short_one (s : Bs) : shortB [s] 10 100 = decide (s.length ≤ 100) := by
  have e (x : Bs) : decide ((x.length : Int) ≤ 100) = decide (x.length ≤ 100) := by rw [decide_eq_decide]; omega
  simp [shortB, e]
end Go.Proofs.Ytekjghofkjlnaaa
