/- The walk of KeyDescriptions: it returns true. -/
import Derived.Test.YtekjghofkjlnaaaAwake
import Derived.Test.YtekjghofkjlnaaaRow
namespace Go.Proofs.Ytekjghofkjlnaaa
open Go.RowKit P16 Go.Sort
attribute [local go_sem] ByteArray.mk_append_mk ByteArray.extract_mk mk_index leq_bs not_lt_bs

theorem of26' (id org fmt len blk kat klen itv area fint farea base aat alen : Int) (uniq : Bool) (cls : Int) (vol own : Bs) (cre exp : Int) (arch : Bool) (r : Bs) (w : World) (hr : r.length ≤ 301) : Calls Try.prog 26 #[.agg #[.int .i64 id, .int .i64 org, .int .i64 fmt, .int .i64 len, .int .i64 blk, .int .i64 kat, .int .i64 klen, .int .i64 itv, .int .i64 area, .int .i64 fint, .int .i64 farea, .int .i64 base, .int .i64 aat, .int .i64 alen, .bool uniq, .int .i64 cls, .string ⟨vol.toArray⟩, .string ⟨own.toArray⟩, .int .i64 cre, .int .i64 exp, .bool arch], .string ⟨r.toArray⟩] w fun e w' => e = .returned (.tuple #[.string ⟨(ofB ⟨id, org, fmt, len, blk, kat, klen, itv, area, fint, farea, base, aat, alen, uniq, cls, vol, own, cre, exp, arch⟩ r).1.toArray⟩, .int .i64 (ofB ⟨id, org, fmt, len, blk, kat, klen, itv, area, fint, farea, base, aat, alen, uniq, cls, vol, own, cre, exp, arch⟩ r).2]) ∧ Below w.heap.size w w' := by
  have h := of26 ⟨id, org, fmt, len, blk, kat, klen, itv, area, fint, farea, base, aat, alen, uniq, cls, vol, own, cre, exp, arch⟩ r w hr
  simp only [dv] at h
  exact h
theorem refOf27' (id org fmt len blk kat klen itv area fint farea base aat alen : Int) (uniq : Bool) (cls : Int) (vol own : Bs) (cre exp : Int) (arch : Bool) (r : Bs) (w : World) (hr : r.length ≤ 301) : Calls Try.prog 27 #[.agg #[.int .i64 id, .int .i64 org, .int .i64 fmt, .int .i64 len, .int .i64 blk, .int .i64 kat, .int .i64 klen, .int .i64 itv, .int .i64 area, .int .i64 fint, .int .i64 farea, .int .i64 base, .int .i64 aat, .int .i64 alen, .bool uniq, .int .i64 cls, .string ⟨vol.toArray⟩, .string ⟨own.toArray⟩, .int .i64 cre, .int .i64 exp, .bool arch], .string ⟨r.toArray⟩] w fun e w' => e = .returned (.tuple #[.string ⟨(ofB ⟨id, org, fmt, len, blk, kat, klen, itv, area, fint, farea, base, aat, alen, uniq, cls, vol, own, cre, exp, arch⟩ r).1.toArray⟩, .int .i64 (ofB ⟨id, org, fmt, len, blk, kat, klen, itv, area, fint, farea, base, aat, alen, uniq, cls, vol, own, cre, exp, arch⟩ r).2]) ∧ Below w.heap.size w w' := by
  have h := refOf27 ⟨id, org, fmt, len, blk, kat, klen, itv, area, fint, farea, base, aat, alen, uniq, cls, vol, own, cre, exp, arch⟩ r w hr
  simp only [dv] at h
  exact h
set_option maxRecDepth 100000 in
set_option maxHeartbeats 1000000 in
theorem descs6 (d : DS) (r : Bs) (w : World) : Calls Try.prog 6 #[dv d, .string ⟨r.toArray⟩] w fun e w' => e = .returned (.bool true) ∧ Below w.heap.size w w' := by
  obtain ⟨id, org, fmt, len, blk, kat, klen, itv, area, fint, farea, base, aat, alen, uniq, cls, vol, own, cre, exp, arch⟩ := d
  unfold dv
  by_cases hr : r.length ≤ 300
  · have hr' : r.length ≤ 301 := by omega
    have C26 := fun w => of26' id org fmt len blk kat klen itv area fint farea base aat alen uniq cls vol own cre exp arch r w hr'
    have C27 := fun w => refOf27' id org fmt len blk kat klen itv area fint farea base aat alen uniq cls vol own cre exp arch r w hr'
    have C28 := fun w => valid28' id org fmt len blk kat klen itv area fint farea base aat alen uniq cls vol own cre exp arch w
    have C29 := fun w => refValid29' id org fmt len blk kat klen itv area fint farea base aat alen uniq cls vol own cre exp arch w
    generalize ofB ⟨id, org, fmt, len, blk, kat, klen, itv, area, fint, farea, base, aat, alen, uniq, cls, vol, own, cre, exp, arch⟩ r = X at C26 C27
    generalize validB ⟨id, org, fmt, len, blk, kat, klen, itv, area, fint, farea, base, aat, alen, uniq, cls, vol, own, cre, exp, arch⟩ = V at C28 C29
    obtain ⟨x1, x2⟩ := X
    dsimp only at C26 C27
    have D26 := Lib.hid C26
    have D27 := Lib.hid C27
    have D28 := Lib.hid C28
    have D29 := Lib.hid C29
    clear C26 C27 C28 C29
    go_enter Try.func6, Try.ntmps6
    go_wp2_with fail
    refine (awake10 _).mono ?_
    rintro e w1 ⟨rfl, hb1⟩
    have M := Lib.hid ((Blk.new w 41 #[.int .i64 id, .int .i64 org, .int .i64 fmt, .int .i64 len, .int .i64 blk, .int .i64 kat, .int .i64 klen, .int .i64 itv, .int .i64 area, .int .i64 fint, .int .i64 farea, .int .i64 base, .int .i64 aat, .int .i64 alen, .bool uniq, .int .i64 cls, .string ⟨vol.toArray⟩, .string ⟨own.toArray⟩, .int .i64 cre, .int .i64 exp, .bool arch]).below hb1)
    go_wp2_with (refine wpList_load_row rfl 41 (.tmp 2) rfl w.heap.size rfl 41 _ (0, 0) _ M.out Try.underlying41 rfl (by kernel_rfl) ?_)
    refine (D26.out _).mono ?_
    rintro e w2 ⟨rfl, hb2⟩
    have M := Lib.hid (M.out.below hb2)
    go_wp2_with (refine wpList_load_row rfl 41 (.tmp 2) rfl w.heap.size rfl 41 _ (0, 0) _ M.out Try.underlying41 rfl (by kernel_rfl) ?_)
    refine (D27.out _).mono ?_
    rintro e w3 ⟨rfl, hb3⟩
    have M := Lib.hid (M.out.below hb3)
    go_wp2
    have MG : ∀ w', (∃ p : Regrown, w' = grow (redrawn w3 p.d) p.os) → w'.heap[w.heap.size]? = some (.cells #[.int .i64 id, .int .i64 org, .int .i64 fmt, .int .i64 len, .int .i64 blk, .int .i64 kat, .int .i64 klen, .int .i64 itv, .int .i64 area, .int .i64 fint, .int .i64 farea, .int .i64 base, .int .i64 aat, .int .i64 alen, .bool uniq, .int .i64 cls, .string ⟨vol.toArray⟩, .string ⟨own.toArray⟩, .int .i64 cre, .int .i64 exp, .bool arch] 41 (0, 0)) := by
      rintro w' ⟨p, rfl⟩
      exact M.out.below (below_regrown w3 p.d p.os)
    refine wp_region_quiet_below (by kernel_rfl) (by kernel_rfl) ?_
    repeat (first | (refine wpQuiet_load_row rfl 41 (.tmp 2) rfl w.heap.size rfl 41 _ (0, 0) _ MG Try.underlying41 rfl (by kernel_rfl) ?_) | quiet_step ((first | (go_at_call 28; refine Calls.regrown_of (D28.out _)) | (go_at_call 29; refine Calls.regrown_of (D29.out _)))))
    refine wpQuiet_nil ?_
    intro w7 hw7
    obtain ⟨p, rfl⟩ := hw7
    have hb7 := below_regrown w3 p.d p.os
    generalize grow (redrawn w3 p.d) p.os = w7 at *
    go_wp2
    go_ret
    exact ⟨rfl, by repeat (first | exact Below.refl _ _ | refine below_alloc ?_ _ | refine below_drewN ?_ _ | refine below_then ?_ (by assumption))⟩
  · go_enter Try.func6, Try.ntmps6
    go_wp2_with fail
    refine (awake10 _).mono ?_
    rintro e w1 ⟨rfl, hb1⟩
    go_wp2
    go_ret
    exact ⟨rfl, by repeat (first | exact Below.refl _ _ | refine below_alloc ?_ _ | refine below_drewN ?_ _ | refine below_then ?_ (by assumption))⟩
end Go.Proofs.Ytekjghofkjlnaaa
