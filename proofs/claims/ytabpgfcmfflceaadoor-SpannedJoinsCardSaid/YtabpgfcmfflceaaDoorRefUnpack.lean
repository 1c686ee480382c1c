/- The walk of the reference's Unpack: it returns what Unpack returns. -/
import Derived.Test.YtabpgfcmfflceaaDoorUnpack
import Derived.Test.YtabpgfcmfflceaaDoorRefJoin
import Derived.Test.YtabpgfcmfflceaaDoorRefSeg
namespace Go.Proofs.YtabpgfcmfflceaaDoor
open Go.RowKit P12 Go.Sort
attribute [local go_sem] ByteArray.mk_append_mk ByteArray.extract_mk mk_index

set_option maxHeartbeats 400000 in
theorem unpack28_bad (L K : Int) (A : Option Addr) (n c : Nat) (bs : List Bs) (w : World) (hv : vok L K = false) : Calls Tryd.prog 28 #[.int .i64 L, .int .i64 K, .slice A n c] w (Unpacked L K bs w) := by
  have HU := Lib.hid (un_bad (d := bs) hv)
  have HV := Lib.hid hv
  clear hv
  go_enter Tryd.func28, Tryd.ntmps28
  go_wp2_with (go_at_call 16; refine (valid16 _ _ _).mono ?_; rintro e w' ⟨rfl, rfl⟩; rw [HV.out])
  go_ret2
  exact Unpacked.fail HU.out (Below.refl _ _)

set_option maxRecDepth 100000 in
set_option maxHeartbeats 2000000 in
theorem unpack28_ok (L K : Nat) (A : Option Addr) (n c : Nat) (bs : List Bs) (w : World) (hL : 1 ≤ L ∧ L ≤ 1000) (hK : 9 ≤ K ∧ K ≤ 1024) (h : StrsAt w A n bs) (hT : total bs ≤ 60000) :
    Calls Tryd.prog 28 #[.int .i64 L, .int .i64 K, .slice A n c] w (Unpacked L K bs w) := by
  have HV := Lib.hid (nat_vok hL hK)
  have HN := Lib.hid h.len
  have hn : n ≤ 60000 := by have := length_total bs; have := h.len; omega
  have H := Lib.hid h
  clear h
  obtain ⟨i0, hi0, hz0, hz1, hz2⟩ := info_parts info61
  have HI := Lib.hid hi0
  have HZ0 := Lib.hid hz0
  have HZ1 := Lib.hid hz1
  have HZ2 := Lib.hid hz2
  clear hi0 hz0 hz1 hz2
  go_enter Tryd.func28, Tryd.ntmps28
  go_wp2_with (go_at_call 16; refine (valid16 _ _ _).mono ?_; rintro e w' ⟨rfl, rfl⟩; rw [HV.out])
  go_loopw [8, 9] (fun all i wr => ∃ (j : Nat) (xs : List Seg), j ≤ n ∧ i = .int .i64 j ∧ Hid (allSegs L K (bs.take j) = some xs) ∧ OwnG wr w.heap.size 61 all xs ∧ Below w.heap.size w wr ∧ weight xs ≤ total (bs.take j)) (fun _ i _ => n - (intOf i).toNat)
  case atStart => exact ⟨0, [], Nat.zero_le _, rfl, rfl, OwnG.empty _ _ _ (Nat.le_refl _), below_alloc (Below.refl _ _) _, by simp [weight]⟩
  case round =>
    obtain ⟨j, xs, hj, rfl, hall, hown, hbw, hwt⟩ := hrel
    have hz := hbw.size
    have htj := total_take bs j
    have hxl := weight_len xs
    by_cases hlt : j < n
    · obtain ⟨b, off, s, rfl, hs, hc⟩ := (H.out.below hbw).at_ hlt
      have htt : total (bs.take (j + 1)) = total (bs.take j) + (s.length + 1) := by rw [take_snoc hs, total_snoc]
      have htl := total_take bs (j + 1)
      have hsl : s.length ≤ 60000 := by omega
      have HOWN := Lib.hid hown
      have HBW := Lib.hid hbw
      have hsnoc : allSegs L K (bs.take (j + 1)) = (segs L K s).map (xs ++ ·) := by rw [take_snoc hs, allSegs_snoc, hall.out]; rfl
      cases hsg : segs L K s with
      | none =>
        have HU := Lib.hid (un_none HV.out (unpack_segs_none (allSegs_none hs hsg)))
        have HE := Lib.hid (seg_none HV.out hsg)
        clear hs hsg hown hbw hsnoc htt htl htj hxl hwt
        go_wp2_with (go_at_call 19; refine (segs19 _ _ _ _ (by omega)).mono ?_; rintro e w2 ⟨v2, rfl, hown2, hb2⟩; rw [HE.out.1])
        go_ret2
        exact Unpacked.fail HU.out (HBW.out.trans (hb2.mono hz))
      | some ms =>
        have HE := Lib.hid (seg_some HV.out hsg)
        have hmw := segs_weight hsg
        have hml := weight_len ms
        rw [hsg] at hsnoc
        have HSN := Lib.hid (show allSegs L K (bs.take (j + 1)) = some (xs ++ ms) from hsnoc)
        have hwt2 : weight (xs ++ ms) ≤ total (bs.take (j + 1)) := by rw [weight_append]; omega
        have hll : xs.length + ms.length ≤ 1000000 := by omega
        have HW2 := Lib.hid hwt2
        clear hs hsg hown hbw hsnoc htt htl htj hxl hwt hmw hml hwt2
        go_wp2_with (first | (go_at_call 19; refine (segs19 _ _ _ _ (by omega)).mono ?_; rintro e w2 ⟨v2, rfl, hown2, hb2⟩; rw [HE.out.1]; rw [HE.out.2] at hown2; have HO2 := Lib.hid hown2; have HB2 := Lib.hid (HBW.out.trans (hb2.mono hz)); have HO := Lib.hid (HOWN.out.below hb2); clear hown2 hb2) | (at_builtin; refine wpList_append_segs rfl (.tmp 39) (.tmp 40) _ rfl w.heap.size 61 i0 _ 24 Tryd.underlying35 HI.out HZ0.out HZ1.out HZ2.out rfl (by decide) _ xs rfl HO.out v2 wr.heap.size ms rfl HO2.out hll HB2.out.size ?_; intro v5 w5 hown5 hb5))
        go_roundw
        case rel => exact ⟨j + 1, xs ++ ms, by omega, by go_num, HSN.out, hown5, HB2.out.trans hb5, HW2.out⟩
        case measure => simp [intOf]; omega
    · have hjn : j = n := by omega
      subst hjn
      have hall2 : allSegs L K bs = some xs := by rw [← hall.out, List.take_of_length_le (by rw [HN.out]; exact Nat.le_refl _)]
      obtain ⟨A8, c8, rfl, hs8, hm8⟩ := hown.cells
      have HS8 := Lib.hid hs8
      have HBW := Lib.hid hbw
      have hxw : xs.length ≤ 60000 := by omega
      have HXD := Lib.hid (show ∀ x ∈ xs, x.d.length ≤ 100000 from fun x hx => by have := weight_mem hx; omega)
      have hxs : weight xs ≤ 60000 := by omega
      clear hs8 hbw hown htj hxl hwt
      cases hjo : join L xs with
      | none =>
        have HU := Lib.hid (un_none HV.out (unpack_join_none hall2 hjo))
        have HE := Lib.hid (jo_none (L := (L : Int)) (l := xs) (by rw [joinI_nat]; exact hjo))
        clear hjo hall2
        go_wp2_with fail
        refine (join26 _ _ _ _ _ _ HS8.out (by omega) HXD.out).mono ?_
        rintro e w2 ⟨v2, rfl, hown2, hb2⟩
        rw [HE.out.1]
        rw [HE.out.2] at hown2
        obtain ⟨A2, n2, c2, rfl, hs2, hm2, -⟩ := hown2.strs
        have HS2 := Lib.hid hs2
        have HB2 := Lib.hid (HBW.out.trans (hb2.mono hz))
        clear hown2 hs2 hb2
        go_wp2_with fail
        refine (pack14 _ _ _ _ _ _ _ HS2.out (by decide)).mono ?_
        rintro e w3 ⟨v3, rfl, hown3, hb3⟩
        have HB3 := Lib.hid (HB2.out.trans (hb3.mono HB2.out.size))
        clear hown3 hb3
        go_wp2
        all_goals
          go_ret2
          exact Unpacked.fail HU.out HB3.out
      | some rs =>
        have HU := Lib.hid (unpack_full HV.out hall2 hjo)
        have HE := Lib.hid (jo_some (L := (L : Int)) (l := xs) (by rw [joinI_nat]; exact hjo))
        have hrt : total rs ≤ 60000 := by
          have := join_total xs [] false rs hjo
          have e0 : total [] = 0 := rfl
          have e1 : weight xs = (xs.map fun x => x.d.length + 1).sum := rfl
          omega
        have hrb : bad (L : Int) rs = false := bad_none (n := rs.length) rfl (fun k s _ hs => by have := join_le hjo s (List.mem_of_getElem? hs); omega)
        have HP := Lib.hid (packErr_ok HV.out hrb)
        clear hjo hall2 hrb
        go_wp2_with fail
        refine (join26 _ _ _ _ _ _ HS8.out (by omega) HXD.out).mono ?_
        rintro e w2 ⟨v2, rfl, hown2, hb2⟩
        rw [HE.out.1]
        rw [HE.out.2] at hown2
        obtain ⟨A2, n2, c2, rfl, hs2, hm2, -⟩ := hown2.strs
        have HO2 := Lib.hid hown2
        have HS2 := Lib.hid hs2
        have HB2 := Lib.hid (HBW.out.trans (hb2.mono hz))
        clear hown2 hs2 hb2
        go_wp2_with fail
        refine (pack14 _ _ _ _ _ _ _ HS2.out (by omega)).mono ?_
        rintro e w3 ⟨v3, rfl, hown3, hb3⟩
        rw [HP.out.1]
        rw [HP.out.2] at hown3
        obtain ⟨A3, n3, c3, rfl, hs3, hm3, -⟩ := hown3.strs
        have HS3 := Lib.hid hs3
        have HB3 := Lib.hid (HB2.out.trans (hb3.mono HB2.out.size))
        have HO3 := Lib.hid ((HO2.out.below hb3).base hz)
        clear hown3 hs3 hb3
        by_cases hsame : sameB (packP K rs) bs = true
        · have HU2 := Lib.hid (HU.out.1 hsame)
          have HSM := Lib.hid (show sameB (packP (K : Int).toNat rs) bs = true from hsame)
          clear hsame
          go_wp2_with (go_at_call 17; refine (same17 _ _ _ _ _ _ _ _ _ HS3.out (H.out.below HB3.out) hm3 (by unfold maxLen; omega)).mono ?_; rintro e w4 ⟨rfl, hb4⟩; rw [HSM.out])
          go_ret2
          exact ⟨_, by rw [HU2.out.1]; rfl, by rw [HU2.out.2]; exact HO3.out.below hb4, HB3.out.trans (hb4.mono HB3.out.size)⟩
        · have hsf : sameB (packP K rs) bs = false := by simpa using hsame
          have HU2 := Lib.hid (HU.out.2 hsf)
          have HSM := Lib.hid (show sameB (packP (K : Int).toNat rs) bs = false from hsf)
          clear hsame hsf
          go_wp2_with (go_at_call 17; refine (same17 _ _ _ _ _ _ _ _ _ HS3.out (H.out.below HB3.out) hm3 (by unfold maxLen; omega)).mono ?_; rintro e w4 ⟨rfl, hb4⟩; rw [HSM.out])
          go_ret2
          exact Unpacked.fail HU2.out (HB3.out.trans (hb4.mono HB3.out.size))

theorem unpack28 (L K : Int) (A : Option Addr) (n c : Nat) (bs : List Bs) (w : World) (h : StrsAt w A n bs) (hT : total bs ≤ 60000) :
    Calls Tryd.prog 28 #[.int .i64 L, .int .i64 K, .slice A n c] w (Unpacked L K bs w) := by
  by_cases hv : vok L K = true
  · obtain ⟨l, k, rfl, rfl, hl, hk⟩ := vok_nat hv
    exact unpack28_ok l k A n c bs w hl hk h hT
  · exact unpack28_bad L K A n c bs w (by simpa using hv)
end Go.Proofs.YtabpgfcmfflceaaDoor
