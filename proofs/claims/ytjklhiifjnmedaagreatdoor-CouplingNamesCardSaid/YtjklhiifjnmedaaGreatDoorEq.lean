/- Two structs are compared part by part; plain theorems, no function of the program in sight. -/
import Derived.Test.YtjklhiifjnmedaaGreatDoorKit
import Derived.Laws.StructEq
namespace Go.Proofs.YtjklhiifjnmedaaGreatDoor
open Go.RowKit

/-- The comparison by parts (blank?, type, place). -/
def eqParts (d : Nat) (xs ys : Array Value) : List (Bool × TypeId × Nat) → Sem Bool
  | [] => pure true
  | (b, t, o) :: fs =>
    if b = false then do
      let x ← part t xs o
      let y ← part t ys o
      let r ← Op.equalIn d t x y
      if (!r) = true then pure false else eqParts d xs ys fs
    else eqParts d xs ys fs
theorem eqFields_parts (d : Nat) (xs ys : Array Value) : ∀ fs : List Field, Op.eqFields d xs ys fs = eqParts d xs ys (fs.map fun f => (decide (f.name = "_"), f.type, f.offset))
  | [] => rfl
  | f :: fs => by
    rw [List.map_cons, Op.eqFields, eqParts, eqFields_parts d xs ys fs]
    by_cases h : f.name = "_" <;> simp [h]
theorem run_eql_parts {P : Program} (w : World) (t : TypeId) (xs ys : Array Value) (ps : List (Bool × TypeId × Nat)) (ht : P.underlying t = some (.struct (P.fieldsOf t))) (hp : P.stoodInHeld t = false)
    (hf : ((P.fieldsOf t).toList.map fun f => (decide (f.name = "_"), f.type, f.offset)) = ps) (b : Bool) (hb : (eqParts 9999 xs ys ps).run P w = .ok b w) : (binOp .eql t (.agg xs) (.agg ys)).run P w = .ok (.bool b) w := by
  rw [run_eql_struct, run_equalIn_struct w 9999 t _ _ ht hp, eqFields_parts, hf, hb]
  rfl
theorem run_neq_parts {P : Program} (w : World) (t : TypeId) (xs ys : Array Value) (ps : List (Bool × TypeId × Nat)) (ht : P.underlying t = some (.struct (P.fieldsOf t))) (hp : P.stoodInHeld t = false)
    (hf : ((P.fieldsOf t).toList.map fun f => (decide (f.name = "_"), f.type, f.offset)) = ps) (b : Bool) (hb : (eqParts 9999 xs ys ps).run P w = .ok b w) : (binOp .neq t (.agg xs) (.agg ys)).run P w = .ok (.bool (!b)) w := by
  rw [run_neq_struct, run_equalIn_struct w 9999 t _ _ ht hp, eqFields_parts, hf, hb]
  rfl
end Go.Proofs.YtjklhiifjnmedaaGreatDoor
