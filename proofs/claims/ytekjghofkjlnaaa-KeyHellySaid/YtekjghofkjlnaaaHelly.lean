/- The walk of KeyHelly: it returns true. -/
import Derived.Test.YtekjghofkjlnaaaOpened
import Derived.Test.YtekjghofkjlnaaaHellyPlain
namespace Go.Proofs.Ytekjghofkjlnaaa
open Go.RowKit P16 Go.Sort
attribute [local go_sem] ByteArray.mk_append_mk ByteArray.extract_mk mk_index leq_bs not_lt_bs

theorem run_max3_bs {P : Program} (w : World) (ts : Array TypeId) (t : TypeId) (x y z : Bs) : (Builtin.max_ ts t #[.string ⟨x.toArray⟩, .string ⟨y.toArray⟩, .string ⟨z.toArray⟩]).run P w = .ok (.string ⟨(mx (mx x y) z).toArray⟩) w := by
  cases h : lt x y <;> cases h2 : lt y z <;> cases h3 : lt x z <;> simp [Builtin.max_, Builtin.max2, Op.stringOp, asBool, mx, h, h2, h3]
set_option maxRecDepth 100000 in
set_option maxHeartbeats 4000000 in
theorem helly5_at (al ah : Bs) (ae : Bool) (bl bh : Bs) (be : Bool) (cl ch : Bs) (ce : Bool) (ml mh : Bs) (me : Bool) (nl nh : Bs) (ne : Bool) (low : Bs) (w : World) (hf : [(⟨al, ah, ae⟩ : Rng), ⟨bl, bh, be⟩, ⟨cl, ch, ce⟩].all rngShort = true)
    (hlow : mx (mx al bl) cl = low) (hm : meet ⟨bl, bh, be⟩ ⟨cl, ch, ce⟩ = ⟨ml, mh, me⟩) (hn : meet ⟨al, ah, ae⟩ ⟨ml, mh, me⟩ = ⟨nl, nh, ne⟩)
    (o1 o2 o3 i1 i2 i3 : Bool) (h1 : overlap ⟨al, ah, ae⟩ ⟨bl, bh, be⟩ = o1) (h2 : overlap ⟨bl, bh, be⟩ ⟨cl, ch, ce⟩ = o2) (h3 : overlap ⟨al, ah, ae⟩ ⟨cl, ch, ce⟩ = o3)
    (h4 : inR ⟨al, ah, ae⟩ low = i1) (h5 : inR ⟨bl, bh, be⟩ low = i2) (h6 : inR ⟨cl, ch, ce⟩ low = i3) (h7 : (o1 && o2 && o3) = (i1 && i2 && i3)) (h8 : emp ⟨nl, nh, ne⟩ = !(i1 && i2 && i3)) :
    Calls Try.prog 5 #[rg al ah ae, rg bl bh be, rg cl ch ce] w fun e w' => e = .returned (.bool true) ∧ Below w.heap.size w w' := by
  have hmx := fun w ts t => run_max3_bs (P := Try.prog) w ts t al bl cl
  rw [hlow] at hmx
  have HF := Lib.hid hf
  have HM := Lib.hid hm
  have HN := Lib.hid hn
  clear hf hm hn hlow
  have hP : o1 = false ∨ (o1 = true ∧ o2 = false) ∨ (o1 = true ∧ o2 = true) := by cases o1 <;> cases o2 <;> simp
  have hQ : i1 = false ∨ (i1 = true ∧ i2 = false) ∨ (i1 = true ∧ i2 = true) := by cases i1 <;> cases i2 <;> simp
  rcases hP with rfl | ⟨rfl, rfl⟩ | ⟨rfl, rfl⟩ <;> rcases hQ with rfl | ⟨rfl, rfl⟩ | ⟨rfl, rfl⟩
  all_goals
    simp only [Bool.and_true, Bool.and_false, Bool.false_and, Bool.true_and, Bool.not_false] at h7 h8
    first | subst h7 | skip
  all_goals
    go_enter Try.func5, Try.ntmps5
    go_wp2_with fail
    refine (awake10 _).mono ?_
    rintro e w1 ⟨rfl, hb1⟩
    have RA := Lib.hid ((((Blk.new w 33 #[.string ⟨al.toArray⟩, .string ⟨ah.toArray⟩, .bool ae]).alloc (.cells #[.string ⟨bl.toArray⟩, .string ⟨bh.toArray⟩, .bool be] 33)).alloc (.cells #[.string ⟨cl.toArray⟩, .string ⟨ch.toArray⟩, .bool ce] 33)).below hb1)
    have RB := Lib.hid (((Blk.new (w.alloc (.cells #[.string ⟨al.toArray⟩, .string ⟨ah.toArray⟩, .bool ae] 33)) 33 #[.string ⟨bl.toArray⟩, .string ⟨bh.toArray⟩, .bool be]).alloc (.cells #[.string ⟨cl.toArray⟩, .string ⟨ch.toArray⟩, .bool ce] 33)).below hb1)
    have RC := Lib.hid ((Blk.new ((w.alloc (.cells #[.string ⟨al.toArray⟩, .string ⟨ah.toArray⟩, .bool ae] 33)).alloc (.cells #[.string ⟨bl.toArray⟩, .string ⟨bh.toArray⟩, .bool be] 33)) 33 #[.string ⟨cl.toArray⟩, .string ⟨ch.toArray⟩, .bool ce]).below hb1)
    rw [World.size_alloc] at RB
    rw [World.size_alloc, World.size_alloc] at RC
    obtain ⟨ra0, ra1, ra2⟩ := cells3 RA.out
    obtain ⟨rb0, rb1, rb2⟩ := cells3 RB.out
    obtain ⟨rc0, rc1, rc2⟩ := cells3 RC.out
    go_wp2_with (first | (go_at_call 21; refine (few21 _ _ _ _ _ (RngsAt.lit3 _ _ ⟨al, ah, ae⟩ ⟨bl, bh, be⟩ ⟨cl, ch, ce⟩) (by decide)).mono ?_; rintro e w6 ⟨rfl, hb6⟩; rw [HF.out]; have RA := Lib.hid ((RA.out.alloc _).below hb6); have RB := Lib.hid ((RB.out.alloc _).below hb6); have RC := Lib.hid ((RC.out.alloc _).below hb6); obtain ⟨ra0, ra1, ra2⟩ := cells3 RA.out; obtain ⟨rb0, rb1, rb2⟩ := cells3 RB.out; obtain ⟨rc0, rc1, rc2⟩ := cells3 RC.out) | (go_at_call 22; refine (overlap22o _ _ _ _ _ _ _).mono ?_; rintro e w6 ⟨rfl, hb6⟩; have RA := Lib.hid (RA.out.below hb6); have RB := Lib.hid (RB.out.below hb6); have RC := Lib.hid (RC.out.below hb6); obtain ⟨ra0, ra1, ra2⟩ := cells3 RA.out; obtain ⟨rb0, rb1, rb2⟩ := cells3 RB.out; obtain ⟨rc0, rc1, rc2⟩ := cells3 RC.out) | (go_at_call 23; refine (in23o _ _ _ _ _).mono ?_; rintro e w6 ⟨rfl, hb6⟩; have RA := Lib.hid (RA.out.below hb6); have RB := Lib.hid (RB.out.below hb6); have RC := Lib.hid (RC.out.below hb6); obtain ⟨ra0, ra1, ra2⟩ := cells3 RA.out; obtain ⟨rb0, rb1, rb2⟩ := cells3 RB.out; obtain ⟨rc0, rc1, rc2⟩ := cells3 RC.out))
    obtain ⟨a0, a1, a2⟩ := box_cells RA.out
    obtain ⟨b0, b1, b2⟩ := box_cells RB.out
    obtain ⟨c0, c1, c2⟩ := box_cells RC.out
    refine wp_region_quiet_below (by kernel_rfl) (by kernel_rfl) ?_
    repeat (quiet_step ((first | (go_at_call 24; refine Calls.regrown_of (isEmpty24o _ _ _ _)) | (go_at_call 25; first | with_reducible refine Calls.regrown_of (meet25o _ _ _ _ _ _ _ HM.out) | with_reducible refine Calls.regrown_of (meet25o _ _ _ _ _ _ _ HN.out)))))
    refine wpQuiet_nil ?_
    intro w7 hw7
    obtain ⟨p, rfl⟩ := hw7
    have hb7 := below_regrown w6 p.d p.os
    clear a0 a1 a2 b0 b1 b2 c0 c1 c2
    generalize grow (redrawn w6 p.d) p.os = w7 at *
    go_wp2
    go_ret
    exact ⟨rfl, by repeat (first | exact Below.refl _ _ | refine below_alloc ?_ _ | refine below_drewN ?_ _ | refine below_then ?_ (by assumption))⟩
set_option maxRecDepth 100000 in
set_option maxHeartbeats 1000000 in
theorem helly5_no (al ah : Bs) (ae : Bool) (bl bh : Bs) (be : Bool) (cl ch : Bs) (ce : Bool) (w : World) (hf : [(⟨al, ah, ae⟩ : Rng), ⟨bl, bh, be⟩, ⟨cl, ch, ce⟩].all rngShort = false) :
    Calls Try.prog 5 #[rg al ah ae, rg bl bh be, rg cl ch ce] w fun e w' => e = .returned (.bool true) ∧ Below w.heap.size w w' := by
  have HF := Lib.hid hf
  clear hf
  go_enter Try.func5, Try.ntmps5
  go_wp2_with fail
  refine (awake10 _).mono ?_
  rintro e w1 ⟨rfl, hb1⟩
  have RA := Lib.hid ((((Blk.new w 33 #[.string ⟨al.toArray⟩, .string ⟨ah.toArray⟩, .bool ae]).alloc (.cells #[.string ⟨bl.toArray⟩, .string ⟨bh.toArray⟩, .bool be] 33)).alloc (.cells #[.string ⟨cl.toArray⟩, .string ⟨ch.toArray⟩, .bool ce] 33)).below hb1)
  have RB := Lib.hid (((Blk.new (w.alloc (.cells #[.string ⟨al.toArray⟩, .string ⟨ah.toArray⟩, .bool ae] 33)) 33 #[.string ⟨bl.toArray⟩, .string ⟨bh.toArray⟩, .bool be]).alloc (.cells #[.string ⟨cl.toArray⟩, .string ⟨ch.toArray⟩, .bool ce] 33)).below hb1)
  have RC := Lib.hid ((Blk.new ((w.alloc (.cells #[.string ⟨al.toArray⟩, .string ⟨ah.toArray⟩, .bool ae] 33)).alloc (.cells #[.string ⟨bl.toArray⟩, .string ⟨bh.toArray⟩, .bool be] 33)) 33 #[.string ⟨cl.toArray⟩, .string ⟨ch.toArray⟩, .bool ce]).below hb1)
  rw [World.size_alloc] at RB
  rw [World.size_alloc, World.size_alloc] at RC
  obtain ⟨ra0, ra1, ra2⟩ := cells3 RA.out
  obtain ⟨rb0, rb1, rb2⟩ := cells3 RB.out
  obtain ⟨rc0, rc1, rc2⟩ := cells3 RC.out
  go_wp2_with (go_at_call 21; refine (few21 _ _ _ _ _ (RngsAt.lit3 _ _ ⟨al, ah, ae⟩ ⟨bl, bh, be⟩ ⟨cl, ch, ce⟩) (by decide)).mono ?_; rintro e w6 ⟨rfl, hb6⟩; rw [HF.out])
  go_ret
  exact ⟨rfl, by repeat (first | exact Below.refl _ _ | refine below_alloc ?_ _ | refine below_drewN ?_ _ | refine below_then ?_ (by assumption))⟩
theorem helly5 (a b c : Rng) (w : World) : Calls Try.prog 5 #[rv a, rv b, rv c] w fun e w' => e = .returned (.bool true) ∧ Below w.heap.size w w' := by
  cases hf : [a, b, c].all rngShort
  · exact helly5_no a.low a.high a.e b.low b.high b.e c.low c.high c.e w hf
  · exact helly5_at a.low a.high a.e b.low b.high b.e c.low c.high c.e _ _ _ _ _ _ _ w hf rfl rfl rfl _ _ _ _ _ _ rfl rfl rfl rfl rfl rfl (helly a b c) (helly_emp a b c)
end Go.Proofs.Ytekjghofkjlnaaa
