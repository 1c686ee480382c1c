/- The walk of dasdref11.Unpack: it returns what variable.Unpack returns. -/
import Derived.Test.YtogfdodnfeggfaaUnpack
import Derived.Test.YtogfdodnfeggfaaRefPack
namespace Go.Proofs.Ytogfdodnfeggfaa
open Go.RowKit P11 Go.Sort
attribute [local go_sem] ByteArray.mk_append_mk ByteArray.extract_mk mk_index

set_option maxHeartbeats 400000 in
theorem unpack22_bad (L K : Int) (d : Bs) (w : World) (hv : vok L K = false) : Calls Try.prog 22 #[.int .i64 L, .int .i64 K, .string ⟨d.toArray⟩] w (Unpacked L K d w) := by
  have HU := Lib.hid (un_bad (d := d) hv)
  have HV := Lib.hid hv
  clear hv
  go_enter Try.func22, Try.ntmps22
  go_wp2_with (go_at_call 15; refine (valid15 _ _ _).mono ?_; rintro e w' ⟨rfl, rfl⟩; rw [HV.out])
  go_ret2
  exact Unpacked.fail HU.out (Below.refl _ _)

theorem unpack_short {L K : Nat} {d : Bs} (h : d.length < 8) : unpack L K d = none := by
  by_cases h1 : d.length ≤ 4
  · exact head_none (.inl h1)
  · unfold unpack
    split
    · rfl
    · refine recs_stop (fun e => ?_) ?_
      · have := congrArg List.length e
        simp at this
        omega
      · unfold first
        rw [readWord_len (by simp; omega)]
theorem word_head {d : Bs} (h : d.length ≤ 1024) : readWord (d.take 4) = some d.length ↔ d.take 4 = word d.length := by
  constructor
  · intro h1
    exact (readWord_some h1).1.symm
  · intro h1
    rw [h1]
    exact readWord_word (by omega)

set_option maxRecDepth 100000 in
set_option maxHeartbeats 2000000 in
theorem unpack22_ok (L K : Nat) (d : Bs) (w : World) (hL : 1 ≤ L ∧ L ≤ 1000) (hK : L + 8 ≤ K ∧ K ≤ 1024) (hd : d.length ≤ 100000) : Calls Try.prog 22 #[.int .i64 L, .int .i64 K, .string ⟨d.toArray⟩] w (Unpacked L K d w) := by
  have hv : vok (L : Int) (K : Int) = true := by unfold vok; simp; omega
  have HV := Lib.hid hv
  clear hv
  by_cases h1 : d.length < 8
  · have HU := Lib.hid (un_none (L := L) (K := K) (d := d) HV.out (unpack_short h1))
    have h1' : decide ((d.length : Int) < 8) = true := by simp; omega
    go_enter Try.func22, Try.ntmps22
    go_wp2_with (go_at_call 15; refine (valid15 _ _ _).mono ?_; rintro e w' ⟨rfl, rfl⟩; rw [HV.out])
    refine wp_region_quiet_below (by kernel_rfl) (by kernel_rfl) ?_
    repeat (quiet_step (fail))
    refine wpQuiet_nil ?_
    intro w2 hw2
    obtain ⟨p, rfl⟩ := hw2
    go_wp2
    go_ret2
    exact Unpacked.fail HU.out (below_regrown w p.d p.os)
  have h1' : decide ((d.length : Int) < 8) = false := by simp; omega
  by_cases h2 : K < d.length
  · have HU := Lib.hid (un_none (L := L) (K := K) (d := d) HV.out (head_none (.inr (.inl h2))))
    have h2' : decide (K < d.length) = true := by simpa using h2
    go_enter Try.func22, Try.ntmps22
    go_wp2_with (go_at_call 15; refine (valid15 _ _ _).mono ?_; rintro e w' ⟨rfl, rfl⟩; rw [HV.out])
    refine wp_region_quiet_below (by kernel_rfl) (by kernel_rfl) ?_
    repeat (quiet_step (fail))
    refine wpQuiet_nil ?_
    intro w2 hw2
    obtain ⟨p, rfl⟩ := hw2
    go_wp2
    go_ret2
    exact Unpacked.fail HU.out (below_regrown w p.d p.os)
  have h2' : decide (K < d.length) = false := by simp; omega
  by_cases h3 : readWord (d.take 4) = some d.length
  · have HU := Lib.hid (head_some (L := L) (by omega) h2 h3)
    have h3' : (d.take 4 == wordI (d.length : Int)) = true := by
      rw [wordI_nat]
      simpa using (word_head (by omega)).1 h3
    clear h3
    have hle4 : (4 : Int) ≤ (d.length : Int) := by omega
    go_enter Try.func22, Try.ntmps22
    go_wp2_with (go_at_call 15; refine (valid15 _ _ _).mono ?_; rintro e w' ⟨rfl, rfl⟩; rw [HV.out])
    refine wp_region_quiet_below (by kernel_rfl) (by kernel_rfl) ?_
    repeat (quiet_step ((go_at_call 20; refine Calls.regrown_of (word20 _ _))))
    refine wpQuiet_nil ?_
    intro w2 hw2
    obtain ⟨p, rfl⟩ := hw2
    have hb2 := below_regrown w p.d p.os
    generalize grow (redrawn w p.d) p.os = w2 at *
    clear h3' hle4 h1' h2'
    obtain ⟨i0, hi0, hz0, hz1, hz2⟩ := info_parts info9
    have HI := Lib.hid hi0
    have HZ0 := Lib.hid hz0
    have HZ1 := Lib.hid hz1
    have HZ2 := Lib.hid hz2
    clear hi0 hz0 hz1 hz2
    go_wp2
    go_loopw [8, 9] (fun out s wr => ∃ (t : Nat) (xs : List Bs), s = .int .i64 t ∧ t ≤ d.length ∧ Hid (recs L (d.drop 4) = (recs L (d.drop t)).map (xs ++ ·)) ∧ OwnS wr w.heap.size 9 out xs ∧ Below w.heap.size w wr ∧ xs.length ≤ t) (fun _ s _ => d.length - (intOf s).toNat)
    case atStart =>
      refine ⟨4, [], rfl, by omega, ?_, OwnS.empty _ _ _ hb2.size, below_alloc hb2 _, by simp⟩
      show _ = _
      cases recs L (d.drop 4) <;> rfl
    case round =>
      obtain ⟨t, xs, rfl, ht, hrec, hown, hbw, hxl⟩ := hrel
      by_cases hlt : t < d.length
      · have hfl : (d.drop t).length = d.length - t := List.length_drop
        have hf0 : d.drop t ≠ [] := fun e => by rw [e] at hfl; simp at hfl; omega
        by_cases h4 : d.length < t + 4
        · have hfi : first L (d.drop t) = none := by
            unfold first
            rw [readWord_len (by simp; omega)]
          have hu : unpack L K d = none := by
            rw [HU.out, hrec.out, recs_stop hf0 hfi]
            rfl
          have HU2 := Lib.hid (un_none (L := L) (K := K) (d := d) HV.out hu)
          clear hu hfi hf0 hfl
          go_wp2
          go_ret2
          exact Unpacked.fail HU2.out hbw
        · have h4' : decide ((d.length : Int) < (t : Int) + 4) = false := by simp; omega
          cases hrw : readWord ((d.drop t).take 4) with
          | none =>
            have b1 := Lib.hid (show rwB ((d.drop t).take 4) = false from by unfold rwB; rw [hrw]; rfl)
            have hfi : first L (d.drop t) = none := by unfold first; rw [hrw]
            have hu : unpack L K d = none := by
              rw [HU.out, hrec.out, recs_stop hf0 hfi]
              rfl
            have HU2 := Lib.hid (un_none (L := L) (K := K) (d := d) HV.out hu)
            clear hu hfi hf0 hfl hrw
            go_wp2_with (go_at_call 18; refine (readWord18 _ _).mono ?_; rintro e w3 ⟨rfl, hb3⟩; rw [b1.out])
            go_ret2
            exact Unpacked.fail HU2.out (below_then_ hbw hb3)
          | some m =>
            have b1 := Lib.hid (show rwB ((d.drop t).take 4) = true from by unfold rwB; rw [hrw]; rfl)
            have b2 := Lib.hid (show rwI ((d.drop t).take 4) = (m : Int) from by unfold rwI; rw [hrw]; rfl)
            have hm := (readWord_some hrw).2.1
            by_cases c1 : m < 4
            · have hfi : first L (d.drop t) = none := by unfold first; rw [hrw]; simp only; rw [if_pos (by omega)]
              have hu : unpack L K d = none := by
                rw [HU.out, hrec.out, recs_stop hf0 hfi]
                rfl
              have HU2 := Lib.hid (un_none (L := L) (K := K) (d := d) HV.out hu)
              clear hu hfi hf0 hfl hrw
              go_wp2_with (go_at_call 18; refine (readWord18 _ _).mono ?_; rintro e w3 ⟨rfl, hb3⟩; rw [b1.out, b2.out])
              go_ret2
              exact Unpacked.fail HU2.out (below_then_ hbw hb3)
            by_cases c2 : 4 + L < m
            · have hfi : first L (d.drop t) = none := by unfold first; rw [hrw]; simp only; rw [if_pos (by omega)]
              have hu : unpack L K d = none := by
                rw [HU.out, hrec.out, recs_stop hf0 hfi]
                rfl
              have HU2 := Lib.hid (un_none (L := L) (K := K) (d := d) HV.out hu)
              clear hu hfi hf0 hfl hrw
              go_wp2_with (go_at_call 18; refine (readWord18 _ _).mono ?_; rintro e w3 ⟨rfl, hb3⟩; rw [b1.out, b2.out])
              go_ret2
              exact Unpacked.fail HU2.out (below_then_ hbw hb3)
            by_cases c3 : d.length < t + m
            · have hfi : first L (d.drop t) = none := by unfold first; rw [hrw]; simp only; rw [if_pos (by omega)]
              have hu : unpack L K d = none := by
                rw [HU.out, hrec.out, recs_stop hf0 hfi]
                rfl
              have HU2 := Lib.hid (un_none (L := L) (K := K) (d := d) HV.out hu)
              clear hu hfi hf0 hfl hrw
              go_wp2_with (go_at_call 18; refine (readWord18 _ _).mono ?_; rintro e w3 ⟨rfl, hb3⟩; rw [b1.out, b2.out])
              go_ret2
              exact Unpacked.fail HU2.out (below_then_ hbw hb3)
            have hfi : first L (d.drop t) = some (((d.drop t).take m).drop 4, (d.drop t).drop m) := by unfold first; rw [hrw]; simp only; rw [if_neg (by omega)]
            have HR := Lib.hid (recs_step hf0 hfi)
            have hq : (t : Int) + (m : Int) ≤ (d.length : Int) := by omega
            clear hfi hf0 hfl hrw
            go_wp2_with (first | (go_at_call 18; refine (readWord18 _ _).mono ?_; rintro e w3 ⟨rfl, hb3⟩; rw [b1.out, b2.out]; have hsz3 := hb3.size; have hszw := hbw.size) | (at_builtin; refine wpList_append_str rfl (.tmp 72) (.tmp 80) _ rfl w.heap.size 9 i0 _ Try.underlying22 HI.out HZ0.out HZ1.out HZ2.out rfl _ xs rfl ((hown.below hb3).alloc _) _ ⟨w3.heap.size, 0, none⟩ 1 rfl (World.cell?_alloc_mark _ _ 9 (0, 0) 0) (by omega) (by simp; omega) ?_; intro v6 w6 hown6 hb6 _ _))
            go_roundw
            case rel =>
              refine ⟨t + m, _, by go_num, by omega, ?_, hown6, ((below_then_ hbw hb3).alloc (by omega) _).trans hb6, by simp; omega⟩
              show _ = _
              rw [hrec.out, HR.out, List.drop_drop, Option.map_map]
              congr 1
              funext l
              simp [List.drop_take, List.drop_drop]
              omega
            case measure => simp [intOf]; omega
      · have htd : d.drop t = [] := List.drop_of_length_le (by omega)
        have hu : unpack L K d = some xs := by
          rw [HU.out, hrec.out, htd, recs_nil]
          simp
        have HU2 := Lib.hid (un_some (L := L) (K := K) (d := d) HV.out hu)
        clear hu htd
        go_wp2
        go_ret2
        exact ⟨_, by rw [HU2.out.1]; rfl, by rw [HU2.out.2]; exact hown, hbw⟩
  · have HU := Lib.hid (un_none (L := L) (K := K) (d := d) HV.out (head_none (.inr (.inr h3))))
    have h3' : (d.take 4 == wordI (d.length : Int)) = false := by
      rw [wordI_nat]
      simpa using fun e => h3 ((word_head (by omega)).2 e)
    clear h3
    have hle4 : (4 : Int) ≤ (d.length : Int) := by omega
    go_enter Try.func22, Try.ntmps22
    go_wp2_with (go_at_call 15; refine (valid15 _ _ _).mono ?_; rintro e w' ⟨rfl, rfl⟩; rw [HV.out])
    refine wp_region_quiet_below (by kernel_rfl) (by kernel_rfl) ?_
    repeat (quiet_step ((go_at_call 20; refine Calls.regrown_of (word20 _ _))))
    refine wpQuiet_nil ?_
    intro w2 hw2
    obtain ⟨p, rfl⟩ := hw2
    have hb2 := below_regrown w p.d p.os
    generalize grow (redrawn w p.d) p.os = w2 at *
    go_wp2
    go_ret2
    exact Unpacked.fail HU.out hb2

theorem unpack22 (L K : Int) (d : Bs) (w : World) (hd : d.length ≤ 100000) : Calls Try.prog 22 #[.int .i64 L, .int .i64 K, .string ⟨d.toArray⟩] w (Unpacked L K d w) := by
  by_cases hv : vok L K = true
  · obtain ⟨l, k, rfl, rfl, hl, hk⟩ := vok_nat hv
    exact unpack22_ok l k d w hl hk hd
  · exact unpack22_bad L K d w (by simpa using hv)

end Go.Proofs.Ytogfdodnfeggfaa
