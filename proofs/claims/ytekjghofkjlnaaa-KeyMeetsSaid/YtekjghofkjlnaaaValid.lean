/- The walks of Valid and Of. -/
import Derived.Test.YtekjghofkjlnaaaRefSlot
namespace Go.Proofs.Ytekjghofkjlnaaa
open Go.RowKit P16
attribute [local go_sem] ByteArray.mk_append_mk ByteArray.extract_mk mk_index leq_bs not_lt_bs

/-- A description of a data set. -/
structure DS where
  (id org fmt len blk kat klen itv area fint farea base aat alen : Int) (uniq : Bool) (cls : Int) (vol own : Bs) (cre exp : Int) (arch : Bool)
def dv (d : DS) : Value := .agg #[.int .i64 d.id, .int .i64 d.org, .int .i64 d.fmt, .int .i64 d.len, .int .i64 d.blk, .int .i64 d.kat, .int .i64 d.klen, .int .i64 d.itv, .int .i64 d.area, .int .i64 d.fint, .int .i64 d.farea, .int .i64 d.base, .int .i64 d.aat, .int .i64 d.alen, .bool d.uniq, .int .i64 d.cls, .string ⟨d.vol.toArray⟩, .string ⟨d.own.toArray⟩, .int .i64 d.cre, .int .i64 d.exp, .bool d.arch]
def validB (d : DS) : Bool :=
  (decide (d.itv = 128) || decide (d.itv = 256) || decide (d.itv = 512)) && (decide (1 ≤ d.org) && decide (d.org ≤ 3)) && (decide (1 ≤ d.len) && decide (d.len ≤ min 200 (d.itv - 7))) && (decide (d.fmt = 0) && decide (d.blk = 0)) &&
  if d.org = 3 then decide (d.len ≤ d.itv / 2 - 8) && (decide (0 ≤ d.kat) && decide (d.kat ≤ d.len)) && (decide (1 ≤ d.klen) && decide (d.klen ≤ d.itv / 16)) && decide (d.kat + d.klen ≤ d.len) && (decide (2 ≤ d.area) && decide (d.area ≤ 8)) && (decide (0 ≤ d.fint) && decide (d.fint ≤ 90)) && (decide (0 ≤ d.farea) && decide (d.farea ≤ d.area - 1))
  else decide (d.kat = 0) && decide (d.klen = 0) && decide (d.area = 0) && decide (d.fint = 0) && decide (d.farea = 0)

theorem valid_org {d : DS} (h : ¬ (1 ≤ d.org ∧ d.org ≤ 3)) : validB d = false := by
  unfold validB
  have e : (decide (1 ≤ d.org) && decide (d.org ≤ 3)) = false := by simp; omega
  rw [e]
  simp
theorem valid_itv {d : DS} (h1 : d.itv ≠ 128) (h2 : d.itv ≠ 256) (h3 : d.itv ≠ 512) : validB d = false := by
  unfold validB
  simp [h1, h2, h3]

set_option maxRecDepth 100000 in
set_option maxHeartbeats 8000000 in
theorem refValid29_1 (d : DS) (w : World) (h1 : d.org = 1) (h2 : d.itv = 128 ∨ d.itv = 256 ∨ d.itv = 512) : Calls Try.prog 29 #[dv d] w fun e w' => e = .returned (.bool (validB d)) ∧ Below w.heap.size w w' := by
  obtain ⟨id, org, fmt, len, blk, kat, klen, itv, area, fint, farea, base, aat, alen, uniq, cls, vol, own, cre, exp, arch⟩ := d
  dsimp only at h1 h2
  unfold dv
  subst h1
  rcases h2 with rfl | rfl | rfl
  all_goals
    go_enter Try.func29, Try.ntmps29
    go_wp2_with (go_at_call 42; refine (between42 _ _ _ _).mono ?_; rintro e w' ⟨rfl, rfl⟩)
    all_goals
      go_ret
      refine ⟨retBool ?_, by go_grown⟩
      rw [Bool.eq_iff_iff]
      simp only [validB, bne_iff_ne, ne_eq, bne_eq_false_iff_eq] at *
      simp
      try omega
set_option maxRecDepth 100000 in
set_option maxHeartbeats 8000000 in
theorem refValid29_2 (d : DS) (w : World) (h1 : d.org = 2) (h2 : d.itv = 128 ∨ d.itv = 256 ∨ d.itv = 512) : Calls Try.prog 29 #[dv d] w fun e w' => e = .returned (.bool (validB d)) ∧ Below w.heap.size w w' := by
  obtain ⟨id, org, fmt, len, blk, kat, klen, itv, area, fint, farea, base, aat, alen, uniq, cls, vol, own, cre, exp, arch⟩ := d
  dsimp only at h1 h2
  unfold dv
  subst h1
  rcases h2 with rfl | rfl | rfl
  all_goals
    go_enter Try.func29, Try.ntmps29
    go_wp2_with (go_at_call 42; refine (between42 _ _ _ _).mono ?_; rintro e w' ⟨rfl, rfl⟩)
    all_goals
      go_ret
      refine ⟨retBool ?_, by go_grown⟩
      rw [Bool.eq_iff_iff]
      simp only [validB, bne_iff_ne, ne_eq, bne_eq_false_iff_eq] at *
      simp
      try omega
set_option maxRecDepth 100000 in
set_option maxHeartbeats 8000000 in
theorem refValid29_3 (d : DS) (w : World) (h1 : d.org = 3) (h2 : d.itv = 128 ∨ d.itv = 256 ∨ d.itv = 512) : Calls Try.prog 29 #[dv d] w fun e w' => e = .returned (.bool (validB d)) ∧ Below w.heap.size w w' := by
  obtain ⟨id, org, fmt, len, blk, kat, klen, itv, area, fint, farea, base, aat, alen, uniq, cls, vol, own, cre, exp, arch⟩ := d
  dsimp only at h1 h2
  unfold dv
  subst h1
  rcases h2 with rfl | rfl | rfl
  all_goals
    go_enter Try.func29, Try.ntmps29
    go_wp2_with (go_at_call 42; refine (between42 _ _ _ _).mono ?_; rintro e w' ⟨rfl, rfl⟩)
    all_goals
      go_ret
      refine ⟨retBool ?_, by go_grown⟩
      rw [Bool.eq_iff_iff]
      simp only [validB, bne_iff_ne, ne_eq, bne_eq_false_iff_eq] at *
      simp
      try omega
set_option maxRecDepth 100000 in
set_option maxHeartbeats 4000000 in
theorem refValid29_org (d : DS) (w : World) (h : ¬ (1 ≤ d.org ∧ d.org ≤ 3)) : Calls Try.prog 29 #[dv d] w fun e w' => e = .returned (.bool (validB d)) ∧ Below w.heap.size w w' := by
  have hv := Lib.hid (valid_org h)
  obtain ⟨id, org, fmt, len, blk, kat, klen, itv, area, fint, farea, base, aat, alen, uniq, cls, vol, own, cre, exp, arch⟩ := d
  dsimp only at h
  have e1 : (org != 1) = true := bne_of (by omega)
  have e2 : (org != 2) = true := bne_of (by omega)
  have e3 : (org != 3) = true := bne_of (by omega)
  unfold dv
  go_enter Try.func29, Try.ntmps29
  go_wp2
  go_ret
  exact ⟨by rw [hv.out]; rfl, by go_grown⟩
set_option maxRecDepth 100000 in
set_option maxHeartbeats 4000000 in
theorem refValid29_itv (d : DS) (w : World) (h0 : d.org = 1 ∨ d.org = 2 ∨ d.org = 3) (h1 : d.itv ≠ 128) (h2 : d.itv ≠ 256) (h3 : d.itv ≠ 512) : Calls Try.prog 29 #[dv d] w fun e w' => e = .returned (.bool (validB d)) ∧ Below w.heap.size w w' := by
  have hv := Lib.hid (valid_itv h1 h2 h3)
  obtain ⟨id, org, fmt, len, blk, kat, klen, itv, area, fint, farea, base, aat, alen, uniq, cls, vol, own, cre, exp, arch⟩ := d
  dsimp only at h0 h1 h2 h3
  have e1 : (itv != 128) = true := bne_of h1
  have e2 : (itv != 256) = true := bne_of h2
  have e3 : (itv != 512) = true := bne_of h3
  clear h1 h2 h3
  unfold dv
  rcases h0 with rfl | rfl | rfl
  all_goals
    go_enter Try.func29, Try.ntmps29
    go_wp2
    go_ret
    exact ⟨by rw [hv.out]; rfl, by go_grown⟩
theorem refValid29 (d : DS) (w : World) : Calls Try.prog 29 #[dv d] w fun e w' => e = .returned (.bool (validB d)) ∧ Below w.heap.size w w' := by
  by_cases h0 : 1 ≤ d.org ∧ d.org ≤ 3
  · by_cases h2 : d.itv = 128 ∨ d.itv = 256 ∨ d.itv = 512
    · have h : d.org = 1 ∨ d.org = 2 ∨ d.org = 3 := by omega
      rcases h with h | h | h
      · exact refValid29_1 d w h h2
      · exact refValid29_2 d w h h2
      · exact refValid29_3 d w h h2
    · exact refValid29_itv d w (by omega) (by omega) (by omega) (by omega)
  · exact refValid29_org d w h0
end Go.Proofs.Ytekjghofkjlnaaa
