/- Held: the locks of a unit. -/
import Derived.Test.YtjklhiifjnmedaaGreatDoorLkRead
import Derived.Test.YtjklhiifjnmedaaGreatDoorLkOf
namespace Go.Proofs.YtjklhiifjnmedaaGreatDoor
open Go.RowKit P16 P46
attribute [local go_sem] ByteArray.mk_append_mk ByteArray.extract_mk mk_index

set_option maxRecDepth 100000 in
set_option maxHeartbeats 2000000 in
theorem lkHeld (u : Int) (B p : Nat) (h q : List Lock) (vh vq : Value) (w : World) (m : Mgr w B p h q vh vq) (hh : h.length ≤ 1000000) :
    Calls Tryz.prog 96 #[.pointer (some ⟨p, 0, none⟩), .int .i64 u] w fun e w' => ∃ v, e = .returned v ∧ OwnL w' w.heap.size 46 v (own h u) ∧ Below w.heap.size w w' := by
  obtain ⟨A, c, rfl, hs, -⟩ := m.held.cells
  obtain ⟨n, hn⟩ : ∃ n, h.length = n := ⟨_, rfl⟩
  rw [hn] at hs
  have HN := Lib.hid hn
  have hn' : n ≤ 1000000 := by omega
  have H := Lib.hid hs
  have hc := m.box.cell 0
  simp [hn] at hc
  clear m hs hh hn
  have hlenL : (Tryz.prog.info? 46).map (·.size) = some 6 := by kernel_rfl
  obtain ⟨i0, hi0, hz0, hz1, hz2⟩ := info_parts infoL
  have HI := Lib.hid hi0
  have HZ0 := Lib.hid hz0
  have HZ1 := Lib.hid hz1
  have HZ2 := Lib.hid hz2
  clear hi0 hz0 hz1 hz2
  go_enter Tryz.func96, Tryz.ntmps96
  go_wp2
  go_loopw [5, 13] (fun out i wr => ∃ (k : Nat) (xs : List Lock), k ≤ n ∧ i = .int .i64 k ∧ Hid (xs = own (h.take k) u) ∧ OwnL wr w.heap.size 46 out xs ∧ Below w.heap.size w wr ∧ xs.length ≤ k) (fun _ i _ => n - (intOf i).toNat)
  case atStart => exact ⟨0, [], Nat.zero_le _, rfl, rfl, OwnL.nil _ _ _, Below.refl _ _, by simp⟩
  case round =>
    obtain ⟨k, xs, hk, rfl, hx, hown, hbw, hxl⟩ := hrel
    have hsz := hbw.size
    by_cases hlt : k < n
    · have HW := Lib.hid (H.out.below hbw)
      obtain ⟨b, off, l, rfl, hl, hc0, -⟩ := HW.out.at_ hlt
      have HR := Lib.hid (HW.out.row hl)
      have HF := Lib.hid (own_take (u := u) hl)
      clear hl
      go_upto_region 5 with (refine wpList_load_cells rfl 46 (.tmp 15) rfl ⟨b, off + k * 6, none⟩ rfl _ _ HR.out Tryz.underlying46 rfl hlenL ?_)
      obtain ⟨w2, g, e1, e2, hb, h1⟩ := boxes1 wr 46 #[.int .i64 l.unit, .int .i64 l.id, .string ⟨l.r.low.toArray⟩, .string ⟨l.r.high.toArray⟩, .bool l.r.e, .bool l.x]
      have hown2 := hown.alloc (.cells #[.int .i64 l.unit, .int .i64 l.id, .string ⟨l.r.low.toArray⟩, .string ⟨l.r.high.toArray⟩, .bool l.r.e, .bool l.x] 46)
      rw [e1] at hown2
      rw [e1, e2]
      obtain ⟨a0, a1, a2, a3, a4, a5⟩ := lcells h1
      have HL := Lib.hid h1.add
      have HB2 := Lib.hid (hbw.trans (hb.mono hsz))
      have hsz2 := HB2.out.size
      clear e1 e2 hb h1 hown hbw hc0 a1 a2 a3 a4 a5 hsz
      by_cases hu : l.unit = u
      · have hub2 : (l.unit == u) = true := by simp [hu]
        have HU := Lib.hid hu
        clear hu
        go_wp2_with (first | (refine wpList_load_cells rfl 46 (.tmp 7) rfl ⟨g, 0, none⟩ rfl _ _ HL.out Tryz.underlying46 rfl hlenL ?_) | (at_builtin; refine wpList_append_lock rfl (.tmp 21) (.tmp 23) _ rfl w.heap.size 46 i0 _ 64 Tryz.underlying50 HI.out HZ0.out HZ1.out HZ2.out rfl (by omega) _ xs rfl (hown2.alloc _) l w2.heap.size 0 1 rfl (LocksAt.lit1 _ _ _) (by omega) (by simp; omega) ?_; intro v3 w3 hown3 hb3 _ _))
        go_roundw
        case rel =>
          refine ⟨k + 1, xs ++ [l], by omega, by go_num, ?_, hown3, (Below.refl _ _).trans (grown_own hown2 HB2.out hb3), by simp; omega⟩
          show _ = _
          rw [HF.out, if_pos HU.out, hx.out]
        case measure => simp [intOf]; omega
      · have hub2 : (l.unit == u) = false := by simp [hu]
        have HU := Lib.hid hu
        clear hu
        go_wp2
        go_roundw
        case rel =>
          refine ⟨k + 1, xs, by omega, by go_num, ?_, hown2, HB2.out, by omega⟩
          show _ = _
          rw [HF.out, if_neg HU.out, hx.out]
        case measure => simp [intOf]; omega
    · have hkn : k = n := by omega
      subst hkn
      have hx2 : xs = own h u := by rw [hx.out, List.take_of_length_le (by rw [HN.out]; exact Nat.le_refl _)]
      go_wp2
      go_ret
      exact ⟨_, rfl, by rw [← hx2]; exact hown, hbw⟩
theorem lkOfFn (u : Int) (w : World) : Calls Tryz.prog 58 #[.int .i64 u] w fun e w' => ∃ g, e = .returned (clo 87 g) ∧ Blk w' g 3 #[.int .i64 u] ∧ Below w.heap.size w w' ∧ w.heap.size ≤ g := by
  have hmf : ∀ (fn : Fn) (first cap : Array Value) (w : World), (Instr.makeFunc fn first cap).run Tryz.prog w = .ok (.func fn first cap) w := fun _ _ _ _ => rfl
  go_enter Tryz.func58, Tryz.ntmps58
  go_wp2
  go_ret
  exact ⟨w.heap.size, rfl, Blk.new w _ _, below_alloc (Below.refl _ _) _, Nat.le_refl _⟩
end Go.Proofs.YtjklhiifjnmedaaGreatDoor
