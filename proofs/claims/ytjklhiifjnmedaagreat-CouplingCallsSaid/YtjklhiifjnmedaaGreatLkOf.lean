/- The reference's Of and without: the locks of a unit in a list; those that are not of it. -/
import Derived.Test.YtjklhiifjnmedaaGreatLkAsk
namespace Go.Proofs.YtjklhiifjnmedaaGreat
open Go.RowKit P16 P46
attribute [local go_sem] ByteArray.mk_append_mk ByteArray.extract_mk mk_index

theorem take_snoc {α : Type} {rs : List α} {k : Nat} {r : α} (h : rs[k]? = some r) : rs.take (k + 1) = rs.take k ++ [r] := by
  rw [List.take_add_one, h]
  rfl
theorem own_take {ls : List Lock} {k : Nat} {l : Lock} {u : Int} (h : ls[k]? = some l) : own (ls.take (k + 1)) u = if l.unit = u then own (ls.take k) u ++ [l] else own (ls.take k) u := by
  unfold own
  rw [take_snoc h, List.filter_append]
  by_cases e : l.unit = u <;> simp [e]
theorem drop_take {ls : List Lock} {k : Nat} {l : Lock} {u : Int} (h : ls[k]? = some l) : drop (ls.take (k + 1)) u = if l.unit = u then drop (ls.take k) u else drop (ls.take k) u ++ [l] := by
  unfold drop
  rw [take_snoc h, List.filter_append]
  by_cases e : l.unit = u <;> simp [e]
theorem OwnL.empty (w : World) (B : Nat) (e : TypeId) (h : B ≤ w.heap.size) : OwnL (w.alloc (.cells #[] e)) B e (.slice (some ⟨w.heap.size, 0, none⟩) 0 0) [] :=
  World.ownsRow_made w #[] 0 h (Nat.zero_le _) rfl
theorem infoL : (Tryz.prog.info? 30).map (fun i => (i.zero, i.size, i.bytes)) = some (some (.agg #[.int .i64 0, .int .i64 0, .string ⟨#[]⟩, .string ⟨#[]⟩, .bool false, .bool false]), 6, 64) := by kernel_rfl
theorem grown_own {w wr w' : World} {e t : TypeId} {v : Value} {ls : List Lock} {cs : Array Value} (h : OwnL wr w.heap.size e v ls) (hb : Below w.heap.size w wr) (hg : (wr.alloc (.cells cs t)).grownBy w' v.ownBlock) : Below w.heap.size w w' := by
  have hz := hb.size
  exact (hb.alloc hz _).grown hg (by rw [World.size_alloc]; omega) (fun k hk => (h.lt k hk).1)
set_option maxRecDepth 100000 in
set_option maxHeartbeats 1000000 in
theorem refOf (u : Int) (A : Option Addr) (n c : Nat) (ls : List Lock) (w : World) (h : LocksAt w A n ls) (hn : n ≤ 1000000) :
    Calls Tryz.prog 100 #[.slice A n c, .int .i64 u] w fun e w' => ∃ v, e = .returned v ∧ OwnL w' w.heap.size 30 v (own ls u) ∧ Below w.heap.size w w' := by
  have H := Lib.hid h
  clear h
  have hlenL : (Tryz.prog.info? 30).map (·.size) = some 6 := by kernel_rfl
  obtain ⟨i0, hi0, hz0, hz1, hz2⟩ := info_parts infoL
  have HI := Lib.hid hi0
  have HZ0 := Lib.hid hz0
  have HZ1 := Lib.hid hz1
  have HZ2 := Lib.hid hz2
  clear hi0 hz0 hz1 hz2
  go_enter Tryz.func100, Tryz.ntmps100
  go_wp2
  go_loopw [5, 6] (fun out i wr => ∃ (k : Nat) (xs : List Lock), k ≤ n ∧ i = .int .i64 k ∧ Hid (xs = own (ls.take k) u) ∧ OwnL wr w.heap.size 30 out xs ∧ Below w.heap.size w wr ∧ xs.length ≤ k) (fun _ i _ => n - (intOf i).toNat)
  case atStart => exact ⟨0, [], Nat.zero_le _, rfl, rfl, OwnL.empty _ _ _ (Nat.le_refl _), below_alloc (Below.refl _ _) _, by simp⟩
  case round =>
    obtain ⟨k, xs, hk, rfl, hx, hown, hbw, hxl⟩ := hrel
    have hsz := hbw.size
    by_cases hlt : k < n
    · have HW := Lib.hid (H.out.below hbw)
      obtain ⟨b, off, l, rfl, hl, hc0, -⟩ := HW.out.at_ hlt
      have HR := Lib.hid (HW.out.row hl)
      have HF := Lib.hid (own_take (u := u) hl)
      clear hl
      by_cases hu : l.unit = u
      · have hub : (l.unit != u) = false := by simp [hu]
        have hub2 : (l.unit == u) = true := by simp [hu]
        have HU := Lib.hid hu
        clear hu
        go_wp2_with (first | (refine wpList_load_cells rfl 30 (.tmp 24) rfl ⟨b, off + k * 6, none⟩ rfl _ _ HR.out Tryz.underlying30 rfl hlenL ?_) | (at_builtin; refine wpList_append_lock rfl (.tmp 21) (.tmp 26) _ rfl w.heap.size 30 i0 _ 64 Tryz.underlying41 HI.out HZ0.out HZ1.out HZ2.out rfl (by omega) _ xs rfl (hown.alloc _) l wr.heap.size 0 1 rfl (LocksAt.lit1 _ _ _) (by omega) (by simp; omega) ?_; intro v3 w3 hown3 hb3 _ _))
        go_roundw
        case rel =>
          refine ⟨k + 1, xs ++ [l], by omega, by go_num, ?_, hown3, (Below.refl _ _).trans (grown_own hown hbw hb3), by simp; omega⟩
          show _ = _
          rw [HF.out, if_pos HU.out, hx.out]
        case measure => simp [intOf]; omega
      · have hub : (l.unit != u) = true := by simp [hu]
        have hub2 : (l.unit == u) = false := by simp [hu]
        have HU := Lib.hid hu
        clear hu
        go_wp2
        go_roundw
        case rel =>
          refine ⟨k + 1, xs, by omega, by go_num, ?_, hown, hbw, by omega⟩
          show _ = _
          rw [HF.out, if_neg HU.out, hx.out]
        case measure => simp [intOf]; omega
    · have hkn : k = n := by omega
      subst hkn
      have hx2 : xs = own ls u := by rw [hx.out, List.take_of_length_le (by have := H.out.len; omega)]
      go_wp2
      go_ret
      exact ⟨_, rfl, by rw [← hx2]; exact hown, hbw⟩
set_option maxRecDepth 100000 in
set_option maxHeartbeats 1000000 in
theorem refWithout (u : Int) (A : Option Addr) (n c : Nat) (ls : List Lock) (w : World) (h : LocksAt w A n ls) (hn : n ≤ 1000000) :
    Calls Tryz.prog 58 #[.slice A n c, .int .i64 u] w fun e w' => ∃ v, e = .returned v ∧ OwnL w' w.heap.size 30 v (drop ls u) ∧ Below w.heap.size w w' := by
  have H := Lib.hid h
  clear h
  have hlenL : (Tryz.prog.info? 30).map (·.size) = some 6 := by kernel_rfl
  obtain ⟨i0, hi0, hz0, hz1, hz2⟩ := info_parts infoL
  have HI := Lib.hid hi0
  have HZ0 := Lib.hid hz0
  have HZ1 := Lib.hid hz1
  have HZ2 := Lib.hid hz2
  clear hi0 hz0 hz1 hz2
  go_enter Tryz.func58, Tryz.ntmps58
  go_wp2
  go_loopw [5, 6] (fun out i wr => ∃ (k : Nat) (xs : List Lock), k ≤ n ∧ i = .int .i64 k ∧ Hid (xs = drop (ls.take k) u) ∧ OwnL wr w.heap.size 30 out xs ∧ Below w.heap.size w wr ∧ xs.length ≤ k) (fun _ i _ => n - (intOf i).toNat)
  case atStart => exact ⟨0, [], Nat.zero_le _, rfl, rfl, OwnL.empty _ _ _ (Nat.le_refl _), below_alloc (Below.refl _ _) _, by simp⟩
  case round =>
    obtain ⟨k, xs, hk, rfl, hx, hown, hbw, hxl⟩ := hrel
    have hsz := hbw.size
    by_cases hlt : k < n
    · have HW := Lib.hid (H.out.below hbw)
      obtain ⟨b, off, l, rfl, hl, hc0, -⟩ := HW.out.at_ hlt
      have HR := Lib.hid (HW.out.row hl)
      have HF := Lib.hid (drop_take (u := u) hl)
      clear hl
      by_cases hu : l.unit = u
      · have hub : (l.unit != u) = false := by simp [hu]
        have hub2 : (l.unit == u) = true := by simp [hu]
        have HU := Lib.hid hu
        clear hu
        go_wp2
        go_roundw
        case rel =>
          refine ⟨k + 1, xs, by omega, by go_num, ?_, hown, hbw, by omega⟩
          show _ = _
          rw [HF.out, if_pos HU.out, hx.out]
        case measure => simp [intOf]; omega
      · have hub : (l.unit != u) = true := by simp [hu]
        have hub2 : (l.unit == u) = false := by simp [hu]
        have HU := Lib.hid hu
        clear hu
        go_wp2_with (first | (refine wpList_load_cells rfl 30 (.tmp 24) rfl ⟨b, off + k * 6, none⟩ rfl _ _ HR.out Tryz.underlying30 rfl hlenL ?_) | (at_builtin; refine wpList_append_lock rfl (.tmp 21) (.tmp 26) _ rfl w.heap.size 30 i0 _ 64 Tryz.underlying41 HI.out HZ0.out HZ1.out HZ2.out rfl (by omega) _ xs rfl (hown.alloc _) l wr.heap.size 0 1 rfl (LocksAt.lit1 _ _ _) (by omega) (by simp; omega) ?_; intro v3 w3 hown3 hb3 _ _))
        go_roundw
        case rel =>
          refine ⟨k + 1, xs ++ [l], by omega, by go_num, ?_, hown3, (Below.refl _ _).trans (grown_own hown hbw hb3), by simp; omega⟩
          show _ = _
          rw [HF.out, if_neg HU.out, hx.out]
        case measure => simp [intOf]; omega
    · have hkn : k = n := by omega
      subst hkn
      have hx2 : xs = drop ls u := by rw [hx.out, List.take_of_length_le (by have := H.out.len; omega)]
      go_wp2
      go_ret
      exact ⟨_, rfl, by rw [← hx2]; exact hown, hbw⟩
end Go.Proofs.YtjklhiifjnmedaaGreat
