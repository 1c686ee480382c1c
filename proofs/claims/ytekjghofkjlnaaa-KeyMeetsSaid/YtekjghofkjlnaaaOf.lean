/- The walks of Of. -/
import Derived.Test.YtekjghofkjlnaaaValidB
namespace Go.Proofs.Ytekjghofkjlnaaa
open Go.RowKit P16
attribute [local go_sem] ByteArray.mk_append_mk ByteArray.extract_mk mk_index leq_bs not_lt_bs

/-- The key of a record and the error. -/
def ofB (d : DS) (r : Bs) : Bs × Int :=
  if validB d = false then ([], 1) else if d.org ≠ 3 then ([], 7) else if ¬ (d.kat + d.klen ≤ r.length ∧ (r.length : Int) ≤ d.len) then ([], 2)
  else ((r.drop d.kat.toNat).take d.klen.toNat, 0)
theorem valid_keyed {d : DS} (h : validB d = true) (ho : d.org = 3) : 0 ≤ d.kat ∧ 1 ≤ d.klen ∧ d.kat + d.klen ≤ d.len ∧ d.len ≤ 200 := by
  unfold validB at h
  simp [ho] at h
  omega
theorem valid28' (id org fmt len blk kat klen itv area fint farea base aat alen : Int) (uniq : Bool) (cls : Int) (vol own : Bs) (cre exp : Int) (arch : Bool) (w : World) : Calls Try.prog 28 #[.agg #[.int .i64 id, .int .i64 org, .int .i64 fmt, .int .i64 len, .int .i64 blk, .int .i64 kat, .int .i64 klen, .int .i64 itv, .int .i64 area, .int .i64 fint, .int .i64 farea, .int .i64 base, .int .i64 aat, .int .i64 alen, .bool uniq, .int .i64 cls, .string ⟨vol.toArray⟩, .string ⟨own.toArray⟩, .int .i64 cre, .int .i64 exp, .bool arch]] w fun e w' => e = .returned (.bool (validB ⟨id, org, fmt, len, blk, kat, klen, itv, area, fint, farea, base, aat, alen, uniq, cls, vol, own, cre, exp, arch⟩)) ∧ Below w.heap.size w w' := by
  have h := valid28 ⟨id, org, fmt, len, blk, kat, klen, itv, area, fint, farea, base, aat, alen, uniq, cls, vol, own, cre, exp, arch⟩ w
  simp only [dv] at h
  exact h
theorem refValid29' (id org fmt len blk kat klen itv area fint farea base aat alen : Int) (uniq : Bool) (cls : Int) (vol own : Bs) (cre exp : Int) (arch : Bool) (w : World) : Calls Try.prog 29 #[.agg #[.int .i64 id, .int .i64 org, .int .i64 fmt, .int .i64 len, .int .i64 blk, .int .i64 kat, .int .i64 klen, .int .i64 itv, .int .i64 area, .int .i64 fint, .int .i64 farea, .int .i64 base, .int .i64 aat, .int .i64 alen, .bool uniq, .int .i64 cls, .string ⟨vol.toArray⟩, .string ⟨own.toArray⟩, .int .i64 cre, .int .i64 exp, .bool arch]] w fun e w' => e = .returned (.bool (validB ⟨id, org, fmt, len, blk, kat, klen, itv, area, fint, farea, base, aat, alen, uniq, cls, vol, own, cre, exp, arch⟩)) ∧ Below w.heap.size w w' := by
  have h := refValid29 ⟨id, org, fmt, len, blk, kat, klen, itv, area, fint, farea, base, aat, alen, uniq, cls, vol, own, cre, exp, arch⟩ w
  simp only [dv] at h
  exact h
set_option maxRecDepth 100000 in
set_option maxHeartbeats 1000000 in
theorem of26 (d : DS) (r : Bs) (w : World) (hr : r.length ≤ 301) : Calls Try.prog 26 #[dv d, .string ⟨r.toArray⟩] w fun e w' => e = .returned (.tuple #[.string ⟨(ofB d r).1.toArray⟩, .int .i64 (ofB d r).2]) ∧ Below w.heap.size w w' := by
  cases hv : validB d
  · have he : ofB d r = ([], 1) := by unfold ofB; rw [if_pos hv]
    have HE := Lib.hid he
    have HV := Lib.hid hv
    clear he hv
    obtain ⟨id, org, fmt, len, blk, kat, klen, itv, area, fint, farea, base, aat, alen, uniq, cls, vol, own, cre, exp, arch⟩ := d
    unfold dv
    go_enter Try.func26, Try.ntmps26
    go_wp2_with (refine wpList_load_row rfl 41 (.tmp 2) rfl w.heap.size rfl 41 _ (0, 0) _ (heap_alloc_new _ _) Try.underlying41 rfl (by kernel_rfl) ?_)
    refine (valid28' _ _ _ _ _ _ _ _ _ _ _ _ _ _ _ _ _ _ _ _ _ _).mono ?_
    rintro e w1 ⟨rfl, hb1⟩
    rw [HV.out]
    obtain ⟨hc, -⟩ := bcell hb1
    go_wp2
    go_ret2
    exact ⟨by rw [HE.out]; rfl, below_then_ (by go_grown) hb1⟩
  by_cases ho : d.org = 3
  · have hk := valid_keyed hv ho
    by_cases hl : d.kat + d.klen ≤ r.length ∧ (r.length : Int) ≤ d.len
    · have he : ofB d r = ((r.drop d.kat.toNat).take d.klen.toNat, 0) := by unfold ofB; rw [if_neg (by rw [hv]; decide), if_neg (by omega), if_neg (by simpa using hl)]
      have HE := Lib.hid he
      have HV := Lib.hid hv
      have hw : (decide (d.kat + d.klen ≤ (r.length : Int)) && decide ((r.length : Int) ≤ d.len)) = true := by simpa using hl
      have HW := Lib.hid hw
      clear he hv hw
      obtain ⟨id, org, fmt, len, blk, kat, klen, itv, area, fint, farea, base, aat, alen, uniq, cls, vol, own, cre, exp, arch⟩ := d
      dsimp only at *
      subst ho
      obtain ⟨k0, k1, k2, k3⟩ := hk
      obtain ⟨l0, l1⟩ := hl
      obtain ⟨ka, rfl⟩ := Int.eq_ofNat_of_zero_le k0
      obtain ⟨kl, rfl⟩ := Int.eq_ofNat_of_zero_le (by omega : 0 ≤ klen)
      have m1 : ka ≤ r.length := by omega
      have m2 : ka + kl ≤ r.length := by omega
      unfold dv
      go_enter Try.func26, Try.ntmps26
      go_wp2_with (refine wpList_load_row rfl 41 (.tmp 2) rfl w.heap.size rfl 41 _ (0, 0) _ (heap_alloc_new _ _) Try.underlying41 rfl (by kernel_rfl) ?_)
      refine (valid28' _ _ _ _ _ _ _ _ _ _ _ _ _ _ _ _ _ _ _ _ _ _).mono ?_
      rintro e w1 ⟨rfl, hb1⟩
      rw [HV.out]
      obtain ⟨hc, -⟩ := bcell hb1
      go_wp2_with (go_at_call 39; refine (within39 _ _ _ _).mono ?_; rintro e w' ⟨rfl, rfl⟩; rw [HW.out])
      go_quiet (fail)
      go_wp2
      go_ret2
      refine ⟨?_, below_drewN (below_then_ (by go_grown) hb1) _⟩
      rw [HE.out]
      refine ret2 (strEq ?_) rfl
      rw [List.take_take, Nat.min_eq_left (by omega), Int.toNat_natCast, Int.toNat_natCast]
    · have he : ofB d r = ([], 2) := by unfold ofB; rw [if_neg (by rw [hv]; decide), if_neg (by omega), if_pos hl]
      have HE := Lib.hid he
      have HV := Lib.hid hv
      have hw : (decide (d.kat + d.klen ≤ (r.length : Int)) && decide ((r.length : Int) ≤ d.len)) = false := by simpa using hl
      have HW := Lib.hid hw
      have hl' : (r.length : Int) < d.kat + d.klen ∨ d.len < (r.length : Int) := by omega
      clear he hv hw hl
      obtain ⟨id, org, fmt, len, blk, kat, klen, itv, area, fint, farea, base, aat, alen, uniq, cls, vol, own, cre, exp, arch⟩ := d
      dsimp only at *
      subst ho
      obtain ⟨k0, k1, k2, k3⟩ := hk
      unfold dv
      go_enter Try.func26, Try.ntmps26
      go_wp2_with (refine wpList_load_row rfl 41 (.tmp 2) rfl w.heap.size rfl 41 _ (0, 0) _ (heap_alloc_new _ _) Try.underlying41 rfl (by kernel_rfl) ?_)
      refine (valid28' _ _ _ _ _ _ _ _ _ _ _ _ _ _ _ _ _ _ _ _ _ _).mono ?_
      rintro e w1 ⟨rfl, hb1⟩
      rw [HV.out]
      obtain ⟨hc, -⟩ := bcell hb1
      clear hl'
      go_wp2_with (go_at_call 39; refine (within39 _ _ _ _).mono ?_; rintro e w' ⟨rfl, rfl⟩; rw [HW.out])
      go_ret2
      exact ⟨by rw [HE.out]; rfl, below_then_ (by go_grown) hb1⟩
  · have he : ofB d r = ([], 7) := by unfold ofB; rw [if_neg (by rw [hv]; decide), if_pos ho]
    have HE := Lib.hid he
    have HV := Lib.hid hv
    clear he hv
    obtain ⟨id, org, fmt, len, blk, kat, klen, itv, area, fint, farea, base, aat, alen, uniq, cls, vol, own, cre, exp, arch⟩ := d
    dsimp only at ho
    have hne : (org != 3) = true := bne_of ho
    unfold dv
    go_enter Try.func26, Try.ntmps26
    go_wp2_with (refine wpList_load_row rfl 41 (.tmp 2) rfl w.heap.size rfl 41 _ (0, 0) _ (heap_alloc_new _ _) Try.underlying41 rfl (by kernel_rfl) ?_)
    refine (valid28' _ _ _ _ _ _ _ _ _ _ _ _ _ _ _ _ _ _ _ _ _ _).mono ?_
    rintro e w1 ⟨rfl, hb1⟩
    rw [HV.out]
    obtain ⟨hc, -⟩ := bcell hb1
    go_wp2
    go_ret2
    exact ⟨by rw [HE.out]; rfl, below_then_ (by go_grown) hb1⟩
set_option maxRecDepth 100000 in
set_option maxHeartbeats 1000000 in
theorem refOf27 (d : DS) (r : Bs) (w : World) (hr : r.length ≤ 301) : Calls Try.prog 27 #[dv d, .string ⟨r.toArray⟩] w fun e w' => e = .returned (.tuple #[.string ⟨(ofB d r).1.toArray⟩, .int .i64 (ofB d r).2]) ∧ Below w.heap.size w w' := by
  cases hv : validB d
  · have he : ofB d r = ([], 1) := by unfold ofB; rw [if_pos hv]
    have HE := Lib.hid he
    have HV := Lib.hid hv
    clear he hv
    obtain ⟨id, org, fmt, len, blk, kat, klen, itv, area, fint, farea, base, aat, alen, uniq, cls, vol, own, cre, exp, arch⟩ := d
    unfold dv
    go_enter Try.func27, Try.ntmps27
    go_wp2_with (refine wpList_load_row rfl 41 (.tmp 2) rfl w.heap.size rfl 41 _ (0, 0) _ (heap_alloc_new _ _) Try.underlying41 rfl (by kernel_rfl) ?_)
    refine (refValid29' _ _ _ _ _ _ _ _ _ _ _ _ _ _ _ _ _ _ _ _ _ _).mono ?_
    rintro e w1 ⟨rfl, hb1⟩
    rw [HV.out]
    obtain ⟨hc, -⟩ := bcell hb1
    go_wp2
    go_ret2
    exact ⟨by rw [HE.out]; rfl, below_then_ (by go_grown) hb1⟩
  by_cases ho : d.org = 3
  · have hk := valid_keyed hv ho
    by_cases hl : d.kat + d.klen ≤ r.length ∧ (r.length : Int) ≤ d.len
    · have he : ofB d r = ((r.drop d.kat.toNat).take d.klen.toNat, 0) := by unfold ofB; rw [if_neg (by rw [hv]; decide), if_neg (by omega), if_neg (by simpa using hl)]
      have HE := Lib.hid he
      have HV := Lib.hid hv
      have hw : (decide (d.kat + d.klen ≤ (r.length : Int)) && decide ((r.length : Int) ≤ d.len)) = true := by simpa using hl
      have HW := Lib.hid hw
      clear he hv hw
      obtain ⟨id, org, fmt, len, blk, kat, klen, itv, area, fint, farea, base, aat, alen, uniq, cls, vol, own, cre, exp, arch⟩ := d
      dsimp only at *
      subst ho
      obtain ⟨k0, k1, k2, k3⟩ := hk
      obtain ⟨l0, l1⟩ := hl
      obtain ⟨ka, rfl⟩ := Int.eq_ofNat_of_zero_le k0
      obtain ⟨kl, rfl⟩ := Int.eq_ofNat_of_zero_le (by omega : 0 ≤ klen)
      have m1 : ka ≤ r.length := by omega
      have m2 : ka + kl ≤ r.length := by omega
      unfold dv
      go_enter Try.func27, Try.ntmps27
      go_wp2_with (refine wpList_load_row rfl 41 (.tmp 2) rfl w.heap.size rfl 41 _ (0, 0) _ (heap_alloc_new _ _) Try.underlying41 rfl (by kernel_rfl) ?_)
      refine (refValid29' _ _ _ _ _ _ _ _ _ _ _ _ _ _ _ _ _ _ _ _ _ _).mono ?_
      rintro e w1 ⟨rfl, hb1⟩
      rw [HV.out]
      obtain ⟨hc, -⟩ := bcell hb1
      go_wp2
      go_ret2
      refine ⟨?_, below_then_ (by go_grown) hb1⟩
      rw [HE.out]
      refine ret2 (strEq ?_) rfl
      rw [Nat.add_sub_cancel_left, Int.toNat_natCast, Int.toNat_natCast]
    · have he : ofB d r = ([], 2) := by unfold ofB; rw [if_neg (by rw [hv]; decide), if_neg (by omega), if_pos hl]
      have HE := Lib.hid he
      have HV := Lib.hid hv
      have hw : (decide (d.kat + d.klen ≤ (r.length : Int)) && decide ((r.length : Int) ≤ d.len)) = false := by simpa using hl
      have HW := Lib.hid hw
      have hl' : (r.length : Int) < d.kat + d.klen ∨ d.len < (r.length : Int) := by omega
      clear he hv hw hl
      obtain ⟨id, org, fmt, len, blk, kat, klen, itv, area, fint, farea, base, aat, alen, uniq, cls, vol, own, cre, exp, arch⟩ := d
      dsimp only at *
      subst ho
      obtain ⟨k0, k1, k2, k3⟩ := hk
      unfold dv
      go_enter Try.func27, Try.ntmps27
      go_wp2_with (refine wpList_load_row rfl 41 (.tmp 2) rfl w.heap.size rfl 41 _ (0, 0) _ (heap_alloc_new _ _) Try.underlying41 rfl (by kernel_rfl) ?_)
      refine (refValid29' _ _ _ _ _ _ _ _ _ _ _ _ _ _ _ _ _ _ _ _ _ _).mono ?_
      rintro e w1 ⟨rfl, hb1⟩
      rw [HV.out]
      obtain ⟨hc, -⟩ := bcell hb1
      by_cases hl2 : len < (r.length : Int)
      · clear hl'
        go_wp2
        go_ret2
        exact ⟨by rw [HE.out]; rfl, below_then_ (by go_grown) hb1⟩
      · have hl3 : (r.length : Int) < kat + klen := by omega
        clear hl'
        go_wp2
        go_ret2
        exact ⟨by rw [HE.out]; rfl, below_then_ (by go_grown) hb1⟩
  · have he : ofB d r = ([], 7) := by unfold ofB; rw [if_neg (by rw [hv]; decide), if_pos ho]
    have HE := Lib.hid he
    have HV := Lib.hid hv
    clear he hv
    obtain ⟨id, org, fmt, len, blk, kat, klen, itv, area, fint, farea, base, aat, alen, uniq, cls, vol, own, cre, exp, arch⟩ := d
    dsimp only at ho
    have hne : (org != 3) = true := bne_of ho
    unfold dv
    go_enter Try.func27, Try.ntmps27
    go_wp2_with (refine wpList_load_row rfl 41 (.tmp 2) rfl w.heap.size rfl 41 _ (0, 0) _ (heap_alloc_new _ _) Try.underlying41 rfl (by kernel_rfl) ?_)
    refine (refValid29' _ _ _ _ _ _ _ _ _ _ _ _ _ _ _ _ _ _ _ _ _ _).mono ?_
    rintro e w1 ⟨rfl, hb1⟩
    rw [HV.out]
    obtain ⟨hc, -⟩ := bcell hb1
    go_wp2
    go_ret2
    exact ⟨by rw [HE.out]; rfl, below_then_ (by go_grown) hb1⟩
end Go.Proofs.Ytekjghofkjlnaaa
