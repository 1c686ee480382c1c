/- Whole structs loaded out of boxes, also in a region that draws its order; plain theorems, no function of the program in sight. -/
import Derived.Test.YtjklhiifjnmedaaGreatDoorKit
import Derived.Laws.Rows
namespace Go.Proofs.YtjklhiifjnmedaaGreatDoor
open Go.RowKit

theorem wpQuiet_load_row {P : Program} {ops : Array Oper} {C : World → Prop} {Q : Act → Prop} {rest : List Oper} {o : Oper} {a : Act} (hw : Region.wanted o (yielded ops a.tmps) = true) (ty : TypeId) (x : Operand) (ho : o.op = .load ty x)
    (g : Nat) (hx : a.eval x = .pointer (some ⟨g, 0, none⟩)) (t : TypeId) (cs : Array Value) (fr : Nat × Nat) (d : TypeDesc) (hg : ∀ w, C w → w.heap[g]? = some (.cells cs t fr))
    (hu : P.underlying ty = some d) (hd : (match d with | .struct _ | .array _ _ => true | _ => false) = true) (hi : (P.info? ty).map (·.size) = some cs.size)
    (h : wpQuiet P ops C Q rest (a.put o.dst (.agg cs))) : wpQuiet P ops C Q (o :: rest) a := by
  refine wpQuiet_step (fun K hK => ?_)
  rw [if_pos hw]
  refine ⟨.agg cs, fun w hC => ?_, hK _ h⟩
  unfold Oper.quietAt execOp
  simp only [ho, hx, Instr.loadAt, Instr.sureAddr, Sem.run_bind, Sem.run_pure, Result.andThen_ok, run_loadVar_row w g t ty cs fr d (hg w hC) hu hd hi]
  exact ⟨rfl, rfl⟩
end Go.Proofs.YtjklhiifjnmedaaGreatDoor
