/- The walk of KeyRanges: it returns true. -/
import Derived.Test.YtekjghofkjlnaaaEqs
namespace Go.Proofs.Ytekjghofkjlnaaa
open Go.RowKit P16 Go.Sort
attribute [local go_sem] ByteArray.mk_append_mk ByteArray.extract_mk mk_index leq_bs not_lt_bs

set_option maxRecDepth 100000 in
set_option maxHeartbeats 1000000 in
theorem ranges8 (a b : Rng) (k : Bs) (w : World) : Calls Try.prog 8 #[rv a, rv b, .string ⟨k.toArray⟩] w fun e w' => e = .returned (.bool true) ∧ Below w.heap.size w w' := by
  obtain ⟨al, ah, ae⟩ := a
  obtain ⟨bl, bh, be⟩ := b
  cases hf : [(⟨al, ah, ae⟩ : Rng), ⟨bl, bh, be⟩].all rngShort
  · have HF := Lib.hid hf
    clear hf
    rw [rv_mk, rv_mk]
    go_enter Try.func8, Try.ntmps8
    go_wp2_with fail
    refine (awake10 _).mono ?_
    rintro e w1 ⟨rfl, hb1⟩
    have MA := Lib.hid (((Blk.new w 33 #[.string ⟨al.toArray⟩, .string ⟨ah.toArray⟩, .bool ae]).alloc (.cells #[.string ⟨bl.toArray⟩, .string ⟨bh.toArray⟩, .bool be] 33)).below hb1)
    have MB := Lib.hid ((Blk.new (w.alloc (.cells #[.string ⟨al.toArray⟩, .string ⟨ah.toArray⟩, .bool ae] 33)) 33 #[.string ⟨bl.toArray⟩, .string ⟨bh.toArray⟩, .bool be]).below hb1)
    rw [World.size_alloc] at MB
    go_wp2_with (first | (refine wpList_load_row rfl 33 (.tmp 3) rfl w.heap.size rfl 33 _ (0, 0) _ MA.out under33 rfl (by kernel_rfl) ?_) | (refine wpList_load_row rfl 33 (.tmp 4) rfl (w.heap.size + 1) rfl 33 _ (0, 0) _ MB.out under33 rfl (by kernel_rfl) ?_) | (go_at_call 21; refine (few21 _ _ _ _ _ (RngsAt.lit2 _ _ ⟨al, ah, ae⟩ ⟨bl, bh, be⟩) (by decide)).mono ?_; rintro e w2 ⟨rfl, hb2⟩; rw [HF.out]) | (go_at_call 11; refine (short11 _ _ _ _ _ (StrsAt.lit1 _ _ _) (by decide)).mono ?_; rintro e w3 ⟨rfl, hb3⟩; skip))
    go_ret
    exact ⟨rfl, by repeat (first | exact Below.refl _ _ | refine below_alloc ?_ _ | refine below_drewN ?_ _ | refine below_then ?_ (by assumption))⟩
  cases hk : decide (k.length ≤ 100)
  · have HF := Lib.hid hf
    have HK := Lib.hid hk
    clear hf hk
    rw [rv_mk, rv_mk]
    go_enter Try.func8, Try.ntmps8
    go_wp2_with fail
    refine (awake10 _).mono ?_
    rintro e w1 ⟨rfl, hb1⟩
    have MA := Lib.hid (((Blk.new w 33 #[.string ⟨al.toArray⟩, .string ⟨ah.toArray⟩, .bool ae]).alloc (.cells #[.string ⟨bl.toArray⟩, .string ⟨bh.toArray⟩, .bool be] 33)).below hb1)
    have MB := Lib.hid ((Blk.new (w.alloc (.cells #[.string ⟨al.toArray⟩, .string ⟨ah.toArray⟩, .bool ae] 33)) 33 #[.string ⟨bl.toArray⟩, .string ⟨bh.toArray⟩, .bool be]).below hb1)
    rw [World.size_alloc] at MB
    go_wp2_with (first | (refine wpList_load_row rfl 33 (.tmp 3) rfl w.heap.size rfl 33 _ (0, 0) _ MA.out under33 rfl (by kernel_rfl) ?_) | (refine wpList_load_row rfl 33 (.tmp 4) rfl (w.heap.size + 1) rfl 33 _ (0, 0) _ MB.out under33 rfl (by kernel_rfl) ?_) | (go_at_call 21; refine (few21 _ _ _ _ _ (RngsAt.lit2 _ _ ⟨al, ah, ae⟩ ⟨bl, bh, be⟩) (by decide)).mono ?_; rintro e w2 ⟨rfl, hb2⟩; rw [HF.out]) | (go_at_call 11; refine (short11 _ _ _ _ _ (StrsAt.lit1 _ _ _) (by decide)).mono ?_; rintro e w3 ⟨rfl, hb3⟩; rw [short_one, HK.out]))
    go_ret
    exact ⟨rfl, by repeat (first | exact Below.refl _ _ | refine below_alloc ?_ _ | refine below_drewN ?_ _ | refine below_then ?_ (by assumption))⟩
  have HF := Lib.hid hf
  have HK := Lib.hid hk
  clear hf hk
  rw [rv_mk, rv_mk]
  go_enter Try.func8, Try.ntmps8
  go_wp2_with fail
  refine (awake10 _).mono ?_
  rintro e w1 ⟨rfl, hb1⟩
  have MA := Lib.hid (((Blk.new w 33 #[.string ⟨al.toArray⟩, .string ⟨ah.toArray⟩, .bool ae]).alloc (.cells #[.string ⟨bl.toArray⟩, .string ⟨bh.toArray⟩, .bool be] 33)).below hb1)
  have MB := Lib.hid ((Blk.new (w.alloc (.cells #[.string ⟨al.toArray⟩, .string ⟨ah.toArray⟩, .bool ae] 33)) 33 #[.string ⟨bl.toArray⟩, .string ⟨bh.toArray⟩, .bool be]).below hb1)
  rw [World.size_alloc] at MB
  go_wp2_with (first | (refine wpList_load_row rfl 33 (.tmp 3) rfl w.heap.size rfl 33 _ (0, 0) _ MA.out under33 rfl (by kernel_rfl) ?_) | (refine wpList_load_row rfl 33 (.tmp 4) rfl (w.heap.size + 1) rfl 33 _ (0, 0) _ MB.out under33 rfl (by kernel_rfl) ?_) | (go_at_call 21; refine (few21 _ _ _ _ _ (RngsAt.lit2 _ _ ⟨al, ah, ae⟩ ⟨bl, bh, be⟩) (by decide)).mono ?_; rintro e w2 ⟨rfl, hb2⟩; rw [HF.out]) | (go_at_call 11; refine (short11 _ _ _ _ _ (StrsAt.lit1 _ _ _) (by decide)).mono ?_; rintro e w3 ⟨rfl, hb3⟩; rw [short_one, HK.out]))
  have NA := (((MA.out.alloc _).below hb2).alloc _).below hb3
  have NB := (((MB.out.alloc _).below hb2).alloc _).below hb3
  have a0 : ∀ d os, (grow (redrawn w3 d) os).cell? ⟨w.heap.size, 0, none⟩ = some (.string ⟨al.toArray⟩) := fun d os => cell_regrown (NA.cell 0) d os
  have a1 : ∀ d os, (grow (redrawn w3 d) os).cell? ⟨w.heap.size, 1, none⟩ = some (.string ⟨ah.toArray⟩) := fun d os => cell_regrown (NA.cell 1) d os
  have a2 : ∀ d os, (grow (redrawn w3 d) os).cell? ⟨w.heap.size, 2, none⟩ = some (.bool ae) := fun d os => cell_regrown (NA.cell 2) d os
  have b0 : ∀ d os, (grow (redrawn w3 d) os).cell? ⟨w.heap.size + 1, 0, none⟩ = some (.string ⟨bl.toArray⟩) := fun d os => cell_regrown (NB.cell 0) d os
  have b1 : ∀ d os, (grow (redrawn w3 d) os).cell? ⟨w.heap.size + 1, 1, none⟩ = some (.string ⟨bh.toArray⟩) := fun d os => cell_regrown (NB.cell 1) d os
  have b2 : ∀ d os, (grow (redrawn w3 d) os).cell? ⟨w.heap.size + 1, 2, none⟩ = some (.bool be) := fun d os => cell_regrown (NB.cell 2) d os
  clear NA NB MA MB HF HK
  have eM : ∀ w r, (binOp .eql 33 (rv r) (rv r)).run Try.prog w = .ok (.bool true) w := fun w r => by rw [run_eql_rng]; simp
  have gM := run_eqGuard_rng
  have eP : ∀ w, (binOp .eql 33 (rv ⟨k, k, false⟩) (.agg #[.string ⟨k.toArray⟩, .string ⟨k.toArray⟩, .bool false])).run Try.prog w = .ok (.bool true) w := fun w => eM w _
  have eF : ∀ w, (binOp .eql 33 (rv ⟨k, [], true⟩) (.agg #[.string ⟨k.toArray⟩, .string ⟨#[]⟩, .bool true])).run Try.prog w = .ok (.bool true) w := fun w => eM w _
  have gP : ∀ w x y, (eqGuard .eql 33 x y (rv ⟨k, k, false⟩) (.agg #[.string ⟨k.toArray⟩, .string ⟨k.toArray⟩, .bool false])).run Try.prog w = .ok () w := fun w x y => run_eqGuard_rng w .eql x y ⟨k, k, false⟩ ⟨k, k, false⟩
  have gF : ∀ w x y, (eqGuard .eql 33 x y (rv ⟨k, [], true⟩) (.agg #[.string ⟨k.toArray⟩, .string ⟨#[]⟩, .bool true])).run Try.prog w = .ok () w := fun w x y => run_eqGuard_rng w .eql x y ⟨k, [], true⟩ ⟨k, [], true⟩
  refine wp_region_quiet_below (by kernel_rfl) (by kernel_rfl) ?_
  repeat (quiet_step ((first | (go_at_call 23; refine Calls.regrown_of (in23 ⟨al, ah, ae⟩ k _)) | (go_at_call 30; refine Calls.regrown_of (refIn30 ⟨al, ah, ae⟩ k _)) | (go_at_call 24; refine Calls.regrown_of (isEmpty24 ⟨al, ah, ae⟩ _)) | (go_at_call 31; refine Calls.regrown_of (refEmpty31 ⟨al, ah, ae⟩ _)) | (go_at_call 25; refine Calls.regrown_of (meet25 ⟨al, ah, ae⟩ ⟨bl, bh, be⟩ _)) | (go_at_call 32; refine Calls.regrown_of (refMeet32 ⟨al, ah, ae⟩ ⟨bl, bh, be⟩ _)) | (go_at_call 22; refine Calls.regrown_of (overlap22 ⟨al, ah, ae⟩ ⟨bl, bh, be⟩ _)) | (go_at_call 33; refine Calls.regrown_of (refOverlap33 ⟨al, ah, ae⟩ ⟨bl, bh, be⟩ _)) | (go_at_call 34; refine Calls.regrown_of (covers34 ⟨al, ah, ae⟩ ⟨bl, bh, be⟩ _)) | (go_at_call 35; refine Calls.regrown_of (refCovers35 ⟨al, ah, ae⟩ ⟨bl, bh, be⟩ _)) | (go_at_call 36; refine Calls.regrown_of (point36 k _)) | (go_at_call 37; refine Calls.regrown_of (from37 k _)))))
  refine wpQuiet_nil ?_
  intro w4 hw4
  obtain ⟨p, rfl⟩ := hw4
  have hb4 := below_regrown w3 p.d p.os
  clear a0 a1 a2 b0 b1 b2 eM gM eP eF gP gF
  generalize grow (redrawn w3 p.d) p.os = w4 at *
  go_wp2
  go_ret
  exact ⟨rfl, by repeat (first | exact Below.refl _ _ | refine below_alloc ?_ _ | refine below_drewN ?_ _ | refine below_then ?_ (by assumption))⟩
end Go.Proofs.Ytekjghofkjlnaaa
