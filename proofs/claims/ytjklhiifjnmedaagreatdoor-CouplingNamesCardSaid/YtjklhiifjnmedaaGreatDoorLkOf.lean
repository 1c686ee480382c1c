/- The reference's Of and without: the locks of a unit in a list; those that are not of it. -/
import Derived.Test.YtjklhiifjnmedaaGreatDoorLkAsk
namespace Go.Proofs.YtjklhiifjnmedaaGreatDoor
open Go.RowKit P16 P46
attribute [local go_sem] ByteArray.mk_append_mk ByteArray.extract_mk mk_index

theorem take_snoc {α : Type} {rs : List α} {k : Nat} {r : α} (h : rs[k]? = some r) : rs.take (k + 1) = rs.take k ++ [r] := by
  rw [List.take_add_one, h]
  rfl
theorem own_take {ls : List Lock} {k : Nat} {l : Lock} {u : Int} (h : ls[k]? = some l) : own (ls.take (k + 1)) u = if l.unit = u then own (ls.take k) u ++ [l] else own (ls.take k) u := by
  unfold own
  rw [take_snoc h, List.filter_append]
  by_cases e : l.unit = u <;> simp [e]
theorem drop_take {ls : List Lock} {k : Nat} {l : Lock} {u : Int} (h : ls[k]? = some l) : drop (ls.take (k + 1)) u = if l.unit = u then drop (ls.take k) u else drop (ls.take k) u ++ [l] := by
  unfold drop
  rw [take_snoc h, List.filter_append]
  by_cases e : l.unit = u <;> simp [e]
theorem OwnL.empty (w : World) (B : Nat) (e : TypeId) (h : B ≤ w.heap.size) : OwnL (w.alloc (.cells #[] e)) B e (.slice (some ⟨w.heap.size, 0, none⟩) 0 0) [] :=
  World.ownsRow_made w #[] 0 h (Nat.zero_le _) rfl
theorem infoL : (Tryz.prog.info? 46).map (fun i => (i.zero, i.size, i.bytes)) = some (some (.agg #[.int .i64 0, .int .i64 0, .string ⟨#[]⟩, .string ⟨#[]⟩, .bool false, .bool false]), 6, 64) := by kernel_rfl
theorem grown_own {w wr w' : World} {e t : TypeId} {v : Value} {ls : List Lock} {cs : Array Value} (h : OwnL wr w.heap.size e v ls) (hb : Below w.heap.size w wr) (hg : (wr.alloc (.cells cs t)).grownBy w' v.ownBlock) : Below w.heap.size w w' := by
  have hz := hb.size
  exact (hb.alloc hz _).grown hg (by rw [World.size_alloc]; omega) (fun k hk => (h.lt k hk).1)
end Go.Proofs.YtjklhiifjnmedaaGreatDoor
