/- The walk of KeyMeets where the key is not in the first range: it returns true. -/
import Derived.Test.YtekjghofkjlnaaaOpened
namespace Go.Proofs.Ytekjghofkjlnaaa
open Go.RowKit P16 Go.Sort
attribute [local go_sem] ByteArray.mk_append_mk ByteArray.extract_mk mk_index leq_bs not_lt_bs

set_option maxRecDepth 100000 in
set_option maxHeartbeats 8000000 in
theorem meets9_F (al ah : Bs) (ae : Bool) (bl bh : Bs) (be : Bool) (ml mh : Bs) (me : Bool) (k : Bs) (w : World) (hf : [(⟨al, ah, ae⟩ : Rng), ⟨bl, bh, be⟩].all rngShort = true) (hk : decide (k.length ≤ 100) = true)
    (hm : meet ⟨al, ah, ae⟩ ⟨bl, bh, be⟩ = ⟨ml, mh, me⟩) (ib em cab : Bool) (h1 : inR ⟨al, ah, ae⟩ k = false) (h2 : inR ⟨bl, bh, be⟩ k = ib) (h3 : emp ⟨ml, mh, me⟩ = em) (h4 : covers ⟨al, ah, ae⟩ ⟨bl, bh, be⟩ = cab)
    (c1 : (em && (false && ib)) = false) (c2 : (cab && ib && !false) = false) :
    Calls Try.prog 9 #[rg al ah ae, rg bl bh be, .string ⟨k.toArray⟩] w fun e w' => e = .returned (.bool true) ∧ Below w.heap.size w w' := by
  have f1 : inR ⟨ml, mh, me⟩ k = (false && ib) := by rw [← hm, inR_meet, h1, h2]
  have f2 : overlap ⟨al, ah, ae⟩ ⟨bl, bh, be⟩ = !em := by unfold overlap; rw [hm, h3]
  have f3 : overlap ⟨bl, bh, be⟩ ⟨al, ah, ae⟩ = !em := by rw [overlap_comm, f2]
  have f4 := point_in k
  have f5 := point_out k
  have f6 : inR ⟨al, ah, ae⟩ k = true → covers ⟨al, ah, ae⟩ ⟨k, k, false⟩ = true := fun h => covers_point h
  have hq : ¬ 9223372036854775807 < k.length + 1 := by have : k.length ≤ 100 := by simpa using hk
                                                       omega
  have HF := Lib.hid hf
  have HK := Lib.hid hk
  have HM := Lib.hid hm
  clear hf hk hm
  cases ib <;> cases em <;> cases cab
  all_goals first | (exfalso; revert c1; decide) | (exfalso; revert c2; decide) | skip
  all_goals
    clear c1 c2
    simp only [Bool.and_true, Bool.and_false, Bool.not_true, Bool.not_false] at f1 f2 f3
  all_goals
    clear f6
    go_enter Try.func9, Try.ntmps9
    go_wp2_with fail
    refine (awake10 _).mono ?_
    rintro e w1 ⟨rfl, hb1⟩
    have MA := Lib.hid (((Blk.new w 33 #[.string ⟨al.toArray⟩, .string ⟨ah.toArray⟩, .bool ae]).alloc (.cells #[.string ⟨bl.toArray⟩, .string ⟨bh.toArray⟩, .bool be] 33)).below hb1)
    have MB := Lib.hid ((Blk.new (w.alloc (.cells #[.string ⟨al.toArray⟩, .string ⟨ah.toArray⟩, .bool ae] 33)) 33 #[.string ⟨bl.toArray⟩, .string ⟨bh.toArray⟩, .bool be]).below hb1)
    rw [World.size_alloc] at MB
    go_wp2_with (first | (refine wpList_load_row rfl 33 (.tmp 3) rfl w.heap.size rfl 33 _ (0, 0) _ MA.out under33 rfl (by kernel_rfl) ?_) | (refine wpList_load_row rfl 33 (.tmp 4) rfl (w.heap.size + 1) rfl 33 _ (0, 0) _ MB.out under33 rfl (by kernel_rfl) ?_) | (go_at_call 21; refine (few21 _ _ _ _ _ (RngsAt.lit2 _ _ ⟨al, ah, ae⟩ ⟨bl, bh, be⟩) (by decide)).mono ?_; rintro e w2 ⟨rfl, hb2⟩; rw [HF.out]) | (go_at_call 11; refine (short11 _ _ _ _ _ (StrsAt.lit1 _ _ _) (by decide)).mono ?_; rintro e w3 ⟨rfl, hb3⟩; rw [short_one, HK.out]; have NA := Lib.hid ((((MA.out.alloc _).below hb2).alloc _).below hb3); have NB := Lib.hid ((((MB.out.alloc _).below hb2).alloc _).below hb3)) | (refine wpList_load_row rfl 33 (.tmp 3) rfl w.heap.size rfl 33 _ (0, 0) _ NA.out under33 rfl (by kernel_rfl) ?_) | (refine wpList_load_row rfl 33 (.tmp 4) rfl (w.heap.size + 1) rfl 33 _ (0, 0) _ NB.out under33 rfl (by kernel_rfl) ?_) | (go_at_call 25; refine (meet25o _ _ _ _ _ _ _ HM.out).mono ?_; rintro e w4 ⟨rfl, hb4⟩))
    have PA := Lib.hid (NA.out.below hb4)
    have PB := Lib.hid (NB.out.below hb4)
    have QA := Lib.hid (PA.out.alloc (.cells #[.string ⟨ml.toArray⟩, .string ⟨mh.toArray⟩, .bool me] 33))
    have QB := Lib.hid (PB.out.alloc (.cells #[.string ⟨ml.toArray⟩, .string ⟨mh.toArray⟩, .bool me] 33))
    have QM := Lib.hid (Blk.new w4 33 #[.string ⟨ml.toArray⟩, .string ⟨mh.toArray⟩, .bool me])
    obtain ⟨a0, a1, a2⟩ := box_cells QA.out
    obtain ⟨b0, b1, b2⟩ := box_cells QB.out
    obtain ⟨m0, m1, m2⟩ := box_cells QM.out
    refine wp_region_quiet_below (by kernel_rfl) (by kernel_rfl) ?_
    repeat (quiet_step ((first | (go_at_call 23; refine Calls.regrown_of (in23o _ _ _ _ _)) | (go_at_call 24; refine Calls.regrown_of (isEmpty24o _ _ _ _)) | (go_at_call 22; refine Calls.regrown_of (overlap22o _ _ _ _ _ _ _)) | (go_at_call 34; refine Calls.regrown_of (covers34o _ _ _ _ _ _ _)) | (go_at_call 36; refine Calls.regrown_of (point36o _ _)))))
    refine wpQuiet_nil ?_
    intro w5 hw5
    obtain ⟨p, rfl⟩ := hw5
    have hb5 := below_regrown (w4.alloc (.cells #[.string ⟨ml.toArray⟩, .string ⟨mh.toArray⟩, .bool me] 33)) p.d p.os
    clear a0 a1 a2 b0 b1 b2 m0 m1 m2
    generalize grow (redrawn (w4.alloc (.cells #[.string ⟨ml.toArray⟩, .string ⟨mh.toArray⟩, .bool me] 33)) p.d) p.os = w5 at *
    have RA := Lib.hid (QA.out.below hb5)
    have RB := Lib.hid (QB.out.below hb5)
    obtain ⟨ra0, ra1, ra2⟩ := cells3 RA.out
    obtain ⟨rb0, rb1, rb2⟩ := cells3 RB.out
    go_wp2_with (first | (go_at_call 34; refine (covers34o _ _ _ _ _ _ _).mono ?_; rintro e w6 ⟨rfl, hb6⟩; have RA := Lib.hid (RA.out.below hb6); have RB := Lib.hid (RB.out.below hb6); obtain ⟨ra0, ra1, ra2⟩ := cells3 RA.out; obtain ⟨rb0, rb1, rb2⟩ := cells3 RB.out) | (go_at_call 23; refine (in23o _ _ _ _ _).mono ?_; rintro e w6 ⟨rfl, hb6⟩; have RA := Lib.hid (RA.out.below hb6); have RB := Lib.hid (RB.out.below hb6); obtain ⟨ra0, ra1, ra2⟩ := cells3 RA.out; obtain ⟨rb0, rb1, rb2⟩ := cells3 RB.out))
    obtain ⟨a0, a1, a2⟩ := box_cells RA.out
    obtain ⟨b0, b1, b2⟩ := box_cells RB.out
    refine wp_region_quiet_below (by kernel_rfl) (by kernel_rfl) ?_
    repeat (quiet_step ((first | (go_at_call 23; refine Calls.regrown_of (in23o _ _ _ _ _)) | (go_at_call 24; refine Calls.regrown_of (isEmpty24o _ _ _ _)) | (go_at_call 22; refine Calls.regrown_of (overlap22o _ _ _ _ _ _ _)) | (go_at_call 34; refine Calls.regrown_of (covers34o _ _ _ _ _ _ _)) | (go_at_call 36; refine Calls.regrown_of (point36o _ _)))))
    refine wpQuiet_nil ?_
    intro w7 hw7
    obtain ⟨p, rfl⟩ := hw7
    have hb7 := below_regrown w6 p.d p.os
    clear a0 a1 a2 b0 b1 b2
    generalize grow (redrawn w6 p.d) p.os = w7 at *
    go_wp2
    go_ret
    exact ⟨rfl, by repeat (first | exact Below.refl _ _ | refine below_alloc ?_ _ | refine below_drewN ?_ _ | refine below_then ?_ (by assumption))⟩
end Go.Proofs.Ytekjghofkjlnaaa
