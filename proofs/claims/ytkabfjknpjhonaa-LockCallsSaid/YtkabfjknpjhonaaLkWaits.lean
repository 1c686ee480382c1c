/- Waits: the lock for which a unit waits. -/
import Derived.Test.YtkabfjknpjhonaaLkHeld
import Derived.Laws.CopyOwn
namespace Go.Proofs.Ytkabfjknpjhonaa
open Go.RowKit P16 P46
attribute [local go_sem] ByteArray.mk_append_mk ByteArray.extract_mk mk_index

theorem Blk.setRow {w : World} {g : Nat} {t : TypeId} {cs : Array Value} (h : Blk w g t cs) (ds : Array Value) : Blk (w.setRow g ds) g t ds := setRow_heap w g cs ds t _ h
theorem Blk.setRow_far {w : World} {g k : Nat} {t : TypeId} {cs : Array Value} (h : Blk w g t cs) (hk : g ≠ k) (ds : Array Value) : Blk (w.setRow k ds) g t cs := (setRow_other w k g ds hk).trans h
theorem fIdx_idx (q : List Lock) (u : Int) : fIdx (fun l => decide (l.unit = u)) q = match idx q u with | some i => (i : Int) | none => -1 := rfl
theorem la_all (l : Lock) : (la l).all (·.oneCell') = true := by
  rw [Array.all_eq_true_iff_forall_mem]
  intro u hu
  exact lc_one l u (by simpa [la, lc] using hu)
abbrev zeroL : Lock := ⟨0, 0, ⟨[], [], false⟩, false⟩
theorem zeroLC : la zeroL = #[.int .i64 0, .int .i64 0, .string ⟨#[]⟩, .string ⟨#[]⟩, .bool false, .bool false] := rfl
set_option maxRecDepth 100000 in
set_option maxHeartbeats 1000000 in
theorem lkWaits_none (u : Int) (B p : Nat) (h q : List Lock) (vh vq : Value) (w : World) (m : Mgr w B p h q vh vq) (hq : q.length ≤ 1000000) (hi : idx q u = none) :
    Calls Try.prog 16 #[.pointer (some ⟨p, 0, none⟩), .int .i64 u] w fun e w' => e = .returned (.tuple #[lv zeroL, .bool false]) ∧ Below w.heap.size w w' := by
  have HM := Lib.hid m
  have HI := Lib.hid (show fIdx (fun l => decide (l.unit = u)) q = -1 from by rw [fIdx_idx, hi])
  clear m hi
  go_enter Try.func16, Try.ntmps16
  go_wp2_with fail
  refine (lkWaiting u B p h q vh vq _ (HM.out.below (below_alloc (Below.refl _ _) _)) hq).mono ?_
  rintro e w2 ⟨rfl, hb2⟩
  rw [HI.out]
  have HK := Lib.hid ((Blk.new w 32 #[.int .i64 0, .int .i64 0, .string ⟨#[]⟩, .string ⟨#[]⟩, .bool false, .bool false]).below hb2)
  have HB := Lib.hid (below_then_ (below_alloc (Below.refl _ _) _) hb2)
  clear hb2
  have hlenL : (Try.prog.info? 32).map (·.size) = some 6 := by kernel_rfl
  go_wp2_with (refine wpList_store_row (by rfl) 32 (.tmp 4) (.tmp 12) (by rfl) w.heap.size (la zeroL) (by rfl) (by rfl) 32 _ HK.out hlenL (by rfl) (la_all _) ?_)
  have HL := Lib.hid (HK.out.setRow (la zeroL))
  have HB3 := Lib.hid (below_setRow HB.out (Nat.le_refl _) (la zeroL))
  generalize w2.setRow w.heap.size (la zeroL) = w3 at HL HB3 ⊢
  obtain ⟨a0, a1, a2, a3, a4, a5⟩ := lcells (l := zeroL) HL.out
  exact bodyPost_ret (v := .tuple #[lv zeroL, .bool false]) (by simp [results, Try.results16, go_sem, a0, a1, a2, a3, a4, a5, lv]) rfl ⟨rfl, HB3.out⟩
set_option maxRecDepth 100000 in
set_option maxHeartbeats 1000000 in
theorem lkWaits_some (u : Int) (B p : Nat) (h q : List Lock) (vh vq : Value) (w : World) (m : Mgr w B p h q vh vq) (hq : q.length ≤ 1000000) (i : Nat) (l : Lock) (hi : idx q u = some i) (hl : q[i]? = some l) :
    Calls Try.prog 16 #[.pointer (some ⟨p, 0, none⟩), .int .i64 u] w fun e w' => e = .returned (.tuple #[lv l, .bool true]) ∧ Below w.heap.size w w' := by
  have HM := Lib.hid m
  have HI := Lib.hid (show fIdx (fun l => decide (l.unit = u)) q = i from by rw [fIdx_idx, hi])
  have hlt : i < q.length := (List.getElem?_eq_some_iff.1 hl).1
  have HLL := Lib.hid hl
  clear m hi hl
  go_enter Try.func16, Try.ntmps16
  go_wp2_with fail
  refine (lkWaiting u B p h q vh vq _ (HM.out.below (below_alloc (Below.refl _ _) _)) hq).mono ?_
  rintro e w2 ⟨rfl, hb2⟩
  rw [HI.out]
  have HK := Lib.hid ((Blk.new w 32 #[.int .i64 0, .int .i64 0, .string ⟨#[]⟩, .string ⟨#[]⟩, .bool false, .bool false]).below hb2)
  have HB := Lib.hid (below_then_ (below_alloc (Below.refl _ _) _) hb2)
  clear hb2
  obtain ⟨A, c, rfl, hs, -⟩ := HM.out.queue.cells
  have HM2 := Lib.hid (HM.out.below HB.out)
  have hs2 := hs.below HB.out
  obtain ⟨b, off, l2, rfl, hl2, -⟩ := hs2.at_ hlt
  have hll : l2 = l := by
    have := HLL.out
    rw [hl2] at this
    injection this
  subst hll
  have HR := Lib.hid (hs2.row hl2)
  obtain ⟨n, hn⟩ : ∃ n, q.length = n := ⟨_, rfl⟩
  have hc := HM2.out.box.cell 1
  simp [hn] at hc
  rw [hn] at hlt hq
  clear hs hs2 hl2 hn
  have hlenL : (Try.prog.info? 32).map (·.size) = some 6 := by kernel_rfl
  go_wp2_with (first | (refine wpList_load_cells rfl 32 (.tmp 18) rfl ⟨b, off + i * 6, none⟩ rfl _ _ HR.out Try.underlying32 rfl hlenL ?_) | (refine wpList_store_row (by rfl) 32 (.tmp 4) (.tmp 19) (by rfl) w.heap.size (la l2) (by rfl) (by rfl) 32 _ HK.out hlenL (by rfl) (la_all _) ?_))
  have HL := Lib.hid (HK.out.setRow (la l2))
  have HB3 := Lib.hid (below_setRow HB.out (Nat.le_refl _) (la l2))
  generalize w2.setRow w.heap.size (la l2) = w3 at HL HB3 ⊢
  obtain ⟨a0, a1, a2, a3, a4, a5⟩ := lcells HL.out
  exact bodyPost_ret (v := .tuple #[lv l2, .bool true]) (by simp [results, Try.results16, go_sem, a0, a1, a2, a3, a4, a5, lv]) rfl ⟨rfl, HB3.out⟩
end Go.Proofs.Ytkabfjknpjhonaa
