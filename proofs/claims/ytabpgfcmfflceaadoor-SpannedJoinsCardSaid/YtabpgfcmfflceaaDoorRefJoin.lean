/- The walk of the reference's Join: it returns what Join returns. -/
import Derived.Test.YtabpgfcmfflceaaDoorJoin
import Derived.Test.YtabpgfcmfflceaaDoorRefPack
namespace Go.Proofs.YtabpgfcmfflceaaDoor
open Go.RowKit P12 Go.Sort
attribute [local go_sem] ByteArray.mk_append_mk ByteArray.extract_mk mk_index

set_option maxRecDepth 100000 in
set_option maxHeartbeats 2000000 in
theorem join26 (L : Int) (A : Option Addr) (n c : Nat) (ls : List Seg) (w : World) (h : SegsAt w A n ls) (hn : n ≤ 100000) (hd : ∀ x ∈ ls, x.d.length ≤ 100000) :
    Calls Tryd.prog 26 #[.int .i64 L, .slice A n c] w (Joined L ls w) := by
  have H := Lib.hid h
  have HD := Lib.hid hd
  have HLN := Lib.hid h.len
  clear h hd
  obtain ⟨i0, hi0, hz0, hz1, hz2⟩ := info_parts info9
  have HI := Lib.hid hi0
  have HZ0 := Lib.hid hz0
  have HZ1 := Lib.hid hz1
  have HZ2 := Lib.hid hz2
  clear hi0 hz0 hz1 hz2
  go_enter Tryd.func26, Tryd.ntmps26
  go_wp2
  go_loopw [6, 7, 8] (fun out op i wr => ∃ (k : Nat) (xs : List Bs) (o : Bool), k ≤ n ∧ i = .int .i64 k ∧ op = .bool o ∧ Hid (joinI L ls = joinGoI L xs o (ls.drop k)) ∧ Hid (o = true → xs ≠ []) ∧ OwnS wr w.heap.size 9 out xs ∧ Below w.heap.size w wr ∧ xs.length ≤ k ∧ Hid (∀ r ∈ xs, r.length ≤ 100000 * k)) (fun _ _ i _ => n - (intOf i).toNat)
  case atStart => exact ⟨0, [], false, Nat.zero_le _, rfl, rfl, rfl, (fun h => by cases h), OwnS.empty _ _ _ (Nat.le_refl _), below_alloc (Below.refl _ _) _, by simp, (fun r hr => by cases hr)⟩
  case round =>
    obtain ⟨k, xs, o, hk, rfl, rfl, hjo, hop, hown, hbw, hxk, hxl⟩ := hrel
    have hz := hbw.size
    by_cases hlt : k < n
    · obtain ⟨b, off, s, rfl, hs, q0, q1, q2⟩ := H.out.at_ hlt
      have hdr := drop_cons hs
      have hsd := HD.out s (List.mem_of_getElem? hs)
      have hbl := World.block_lt_of_cell? w _ q0
      obtain ⟨sb, sa, sd⟩ := s
      dsimp only at q0 q1 q2 hsd
      have m0 := (hbw.cell (p := ⟨b, off + k * 3, none⟩) hbl).trans q0
      have m1 := (hbw.cell (p := ⟨b, off + k * 3 + 1, none⟩) hbl).trans q1
      have m2 := (hbw.cell (p := ⟨b, off + k * 3 + 2, none⟩) hbl).trans q2
      have Q1 := Lib.hid q1
      clear q0 q1 q2
      by_cases hb : sb = o
      · subst hb
        cases sb
        case false =>
          have hj2 : joinI L ls = if L < (sd.length : Int) then none else joinGoI L (xs ++ [sd]) sa (ls.drop (k + 1)) := by rw [hjo.out, hdr]; exact joinGoI_new rfl
          have HJ2 := Lib.hid hj2
          have HO := Lib.hid (hown.alloc (.cells #[.string ⟨sd.toArray⟩] 9))
          have HB := Lib.hid (hbw.alloc hz (.cells #[.string ⟨sd.toArray⟩] 9))
          have HC := Lib.hid (show (wr.alloc (.cells #[.string ⟨sd.toArray⟩] 9)).cell? ⟨wr.heap.size, 0, none⟩ = some (.string ⟨sd.toArray⟩) from by simp)
          have hxk2 : xs.length ≤ 100000 := by omega
          clear hs hdr hj2 hown hbw
          by_cases hgt : L < (sd.length : Int)
          · have HJ3 := Lib.hid (jo_none (show joinI L ls = none by rw [HJ2.out, if_pos hgt]))
            go_wp2_with (at_builtin; refine wpList_append_str rfl (.tmp 41) (.tmp 47) _ rfl w.heap.size 9 i0 _ Tryd.underlying22 HI.out HZ0.out HZ1.out HZ2.out rfl u6 xs rfl HO.out sd ⟨wr.heap.size, 0, none⟩ 1 rfl HC.out (by omega) HB.out.size ?_; intro v5 w5 hown5 hb5 hg5 _; obtain ⟨g5, c5, rfl, hg5', hcell5, -, hm5⟩ := hown5.row (by simp); have hcc := hcell5 xs.length sd (by simp); rw [show (xs ++ [sd]).length = xs.length + 1 from by simp] at hown5 ⊢; have mm1 := ((HB.out.trans hb5).cell (p := ⟨b, off + k * 3 + 1, none⟩) hbl).trans Q1.out; have HO5 := Lib.hid hown5; have HB5 := Lib.hid (HB.out.trans hb5); clear hown5 hcell5 hb5 hg5)
            go_ret2
            exact Joined.fail HJ3.out HB5.out
          · have HJ3 := Lib.hid (show joinI L ls = joinGoI L (xs ++ [sd]) sa (ls.drop (k + 1)) by rw [HJ2.out, if_neg hgt])
            have HXL := Lib.hid (show ∀ r ∈ xs ++ [sd], r.length ≤ 100000 * (k + 1) from fun r hr => by
              rcases List.mem_append.1 hr with hr | hr
              · have := hxl.out r hr; omega
              · simp at hr; subst hr; omega)
            go_wp2_with (at_builtin; refine wpList_append_str rfl (.tmp 41) (.tmp 47) _ rfl w.heap.size 9 i0 _ Tryd.underlying22 HI.out HZ0.out HZ1.out HZ2.out rfl u6 xs rfl HO.out sd ⟨wr.heap.size, 0, none⟩ 1 rfl HC.out (by omega) HB.out.size ?_; intro v5 w5 hown5 hb5 hg5 _; obtain ⟨g5, c5, rfl, hg5', hcell5, -, hm5⟩ := hown5.row (by simp); have hcc := hcell5 xs.length sd (by simp); rw [show (xs ++ [sd]).length = xs.length + 1 from by simp] at hown5 ⊢; have mm1 := ((HB.out.trans hb5).cell (p := ⟨b, off + k * 3 + 1, none⟩) hbl).trans Q1.out; have HO5 := Lib.hid hown5; have HB5 := Lib.hid (HB.out.trans hb5); clear hown5 hcell5 hb5 hg5)
            go_roundw
            case rel => exact ⟨k + 1, xs ++ [sd], sa, by omega, by go_num, rfl, HJ3.out, (fun _ => by simp), HO5.out, HB5.out, by simp; omega, HXL.out⟩
            case measure => simp [intOf]; omega
        case true =>
          obtain ⟨pre, p, rfl⟩ : ∃ pre p, xs = pre ++ [p] := ⟨xs.dropLast, xs.getLast (hop.out rfl), (List.dropLast_concat_getLast _).symm⟩
          have hj2 : joinI L ls = if L < ((p ++ sd).length : Int) then none else joinGoI L (pre ++ [p ++ sd]) sa (ls.drop (k + 1)) := by rw [hjo.out, hdr]; exact joinGoI_more rfl
          have HJ2 := Lib.hid hj2
          have hpl := hxl.out p (by simp)
          obtain ⟨g, c6, rfl, hg, hcells, hfz, -⟩ := hown.row (by simp)
          have hcc : wr.cell? ⟨g, pre.length, none⟩ = some (.string ⟨p.toArray⟩) := hcells _ _ (by simp)
          have HFZ := hfz pre.length
          have hgl := World.block_lt_of_cell? wr _ hcc
          have hbg : ¬ b = g := by simp at hbl; omega
          have hgb : ¬ g = b := by omega
          rw [show (pre ++ [p]).length = pre.length + 1 from by simp] at hown hxk ⊢
          have HS := Lib.hid (show OwnS ((wr.setCell ⟨g, pre.length, none⟩ (.string ⟨(p ++ sd).toArray⟩)).drew) w.heap.size 9 (.slice (some ⟨g, 0, none⟩) (pre.length + 1) c6) (pre ++ [p ++ sd]) from by
            have hs := hown.stored (by simp) pre.length (p ++ sd)
            rw [set_last] at hs
            exact hs.drew)
          have HB5 := Lib.hid ((hbw.setCell (p := ⟨g, pre.length, none⟩) hg (.string ⟨(p ++ sd).toArray⟩)).drew)
          have hp1 : (pre.length : Int) < (pre.length : Int) + 1 := by omega
          have hq : p.length + sd.length ≤ 20000000000 := by omega
          clear hs hdr hj2 hown hbw hcells hfz
          by_cases hgt : L < ((p ++ sd).length : Int)
          · have HJ3 := Lib.hid (jo_none (show joinI L ls = none by rw [HJ2.out, if_pos hgt]))
            rw [List.length_append] at hgt
            go_wp2
            go_region
            go_wp2
            go_ret2
            exact Joined.fail HJ3.out HB5.out
          · have HJ3 := Lib.hid (show joinI L ls = joinGoI L (pre ++ [p ++ sd]) sa (ls.drop (k + 1)) by rw [HJ2.out, if_neg hgt])
            have HXL := Lib.hid (show ∀ r ∈ pre ++ [p ++ sd], r.length ≤ 100000 * (k + 1) from fun r hr => by
              rcases List.mem_append.1 hr with hr | hr
              · have := hxl.out r (by simp [hr]); omega
              · simp only [List.mem_singleton] at hr; subst hr; rw [List.length_append]; omega)
            rw [List.length_append] at hgt
            go_wp2
            go_region
            go_wp2
            go_roundw
            case rel => exact ⟨k + 1, pre ++ [p ++ sd], sa, by omega, by go_num, rfl, HJ3.out, (fun _ => by simp), HS.out, HB5.out, by simp; omega, HXL.out⟩
            case measure => simp [intOf]; omega
      · have HJ3 := Lib.hid (jo_none (show joinI L ls = none by rw [hjo.out, hdr]; exact joinGoI_ne hb))
        have hbe : (sb != o) = true := by simpa using hb
        have HB := Lib.hid hbw
        clear hs hdr hb hbw
        cases sb <;> cases o <;> first | (exfalso; revert hbe; decide) | skip
        all_goals
          go_wp2
          go_ret2
          exact Joined.fail HJ3.out HB.out
    · have hkn : k = n := by omega
      subst hkn
      have hdr : ls.drop k = [] := List.drop_of_length_le (by rw [HLN.out]; exact Nat.le_refl _)
      cases o
      · have HJ3 := Lib.hid (jo_some (show joinI L ls = some xs by rw [hjo.out, hdr]; rfl))
        clear hdr
        go_wp2
        go_ret2
        exact ⟨_, by rw [HJ3.out.1]; rfl, by rw [HJ3.out.2]; exact hown, hbw⟩
      · have HJ3 := Lib.hid (jo_none (show joinI L ls = none by rw [hjo.out, hdr]; rfl))
        clear hdr
        go_wp2
        go_ret2
        exact Joined.fail HJ3.out hbw
end Go.Proofs.YtabpgfcmfflceaaDoor
