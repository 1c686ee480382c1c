/- Words for whole locks stored into boxes; plain theorems, no function of the program in sight. -/
import Derived.Test.YtjklhiifjnmedaaGreatDoorLkHeld
import Derived.Laws.CopyOwn
namespace Go.Proofs.YtjklhiifjnmedaaGreatDoor
open Go.RowKit P16 P46
attribute [local go_sem] ByteArray.mk_append_mk ByteArray.extract_mk mk_index

theorem Blk.setRow {w : World} {g : Nat} {t : TypeId} {cs : Array Value} (h : Blk w g t cs) (ds : Array Value) : Blk (w.setRow g ds) g t ds := setRow_heap w g cs ds t _ h
theorem Blk.setRow_far {w : World} {g k : Nat} {t : TypeId} {cs : Array Value} (h : Blk w g t cs) (hk : g ≠ k) (ds : Array Value) : Blk (w.setRow k ds) g t cs := (setRow_other w k g ds hk).trans h
theorem fIdx_idx (q : List Lock) (u : Int) : fIdx (fun l => decide (l.unit = u)) q = match idx q u with | some i => (i : Int) | none => -1 := rfl
theorem la_all (l : Lock) : (la l).all (·.oneCell') = true := by
  rw [Array.all_eq_true_iff_forall_mem]
  intro u hu
  exact lc_one l u (by simpa [la, lc] using hu)
abbrev zeroL : Lock := ⟨0, 0, ⟨[], [], false⟩, false⟩
theorem zeroLC : la zeroL = #[.int .i64 0, .int .i64 0, .string ⟨#[]⟩, .string ⟨#[]⟩, .bool false, .bool false] := rfl
end Go.Proofs.YtjklhiifjnmedaaGreatDoor
