/- Held: the names that an owner holds, sorted. -/
import Derived.Test.YtojbddcbnnbklaaGreatDoorClShare
namespace Go.Proofs.YtojbddcbnnbklaaGreatDoor
open Go.RowKit P43 Go.Maps Go.Sort Go.Shelf
attribute [local go_sem] ByteArray.mk_append_mk ByteArray.extract_mk mk_index

abbrev tNL : TypeId := 51
theorem infoN : (Tryz.prog.info? tNL).map (fun i => (i.zero, i.size, i.bytes)) = some (some (.agg #[.string ⟨#[]⟩, .bool false]), 2, 24) := by kernel_rfl
theorem sorted_names {ns : List (Nm × Bool)} (h : Srt ns) {ss : List Nm} (hn : ss.Nodup) (hm : ∀ s, s ∈ ss ↔ (lk ns s).isSome = true) : (ss.mergeSort fun x y => decide (x ≤ y)) = names ns := by
  have hp : ss.Perm (names ns) := (List.perm_ext_iff_of_nodup hn h.once).2 fun s => by rw [hm, lk_isSome]
  have h1 : ((ss.mergeSort fun x y => decide (x ≤ y))).Pairwise fun a b => decide (a ≤ b) = true :=
    List.pairwise_mergeSort (le := fun x y => decide (x ≤ y)) (fun a b c h k => by simp only [decide_eq_true_eq] at *; exact List.le_trans h k) (fun a b => by simp only [Bool.or_eq_true, decide_eq_true_eq]; exact List.le_total _ _) ss
  have h2 : (names ns).Pairwise fun a b => decide (a ≤ b) = true := List.pairwise_map.2 (h.up.imp fun {a b} hab => hab)
  refine List.Perm.eq_of_pairwise (le := fun a b : Nm => decide (a ≤ b) = true) (fun a b _ _ hab hba => ?_) h1 h2 ((List.mergeSort_perm _ _).trans hp)
  simp only [decide_eq_true_eq] at hab hba
  exact List.le_antisymm hab hba
set_option maxRecDepth 100000 in
set_option maxHeartbeats 4000000 in
theorem clHeld (B p : Nat) (t : T) (F : Nat → Prop) (o : Int) (w : World) (m : TT w B p t F) (hl : t.hs.length + t.ws.length ≤ 100000) (hg : ∀ c ∈ t.hs, GoodC c) :
    Calls Tryz.prog 17 #[.pointer (some ⟨p, 0, none⟩), .int .i64 o] w fun e w' => ∃ v, e = .returned v ∧ OwnN w' w.heap.size tNL v (heldP t o) ∧ Below w.heap.size w w' := by
  obtain ⟨hs, ws, vh, vw, mT, rfl, hF⟩ := m
  have HMT := Lib.hid mT
  have HGC := Lib.hid hg
  have hl1 : hs.length + ws.length ≤ 100000 := by simpa [fstT] using hl
  have hz : ∀ w, (zeroValue 4).run Tryz.prog w = .ok (.bool false) w := fun w => by kernel_rfl
  clear hF mT hl hg
  obtain ⟨Ah, ch, rfl, hh⟩ := HMT.out.clsH
  have HH := Lib.hid hh
  have hc0 := HMT.out.box.cell 0
  simp at hc0
  clear hh
  go_enter Tryz.func17, Tryz.ntmps17
  go_wp2_with fail
  refine (clFind o Ah hs.length ch hs w HH.out.at_ (by omega)).mono ?_
  rintro e w2 ⟨rfl, hb2⟩
  have HB2 := Lib.hid hb2
  have HM2 := Lib.hid (HMT.out.below hb2)
  have hd0 := HM2.out.box.cell 0
  simp at hd0
  have hat := HH.out.at_.below hb2
  rcases fIdx_cases (fun l : Cm => decide (l.1.id = o)) hs with ⟨hj, hno⟩ | ⟨k, x, hj, hx, hid, hjk⟩
  · rw [hj]
    have HE := Lib.hid (held_nil (ws := ws) hno)
    clear hj hno hb2 hc0 hat
    go_wp2
    go_ret
    rw [HE.out]
    exact ⟨_, rfl, OwnN.nil _ _ _, HB2.out⟩
  · rw [hj]
    have hkl : k < hs.length := (List.getElem?_eq_some_iff.1 hx).1
    obtain ⟨b, off, x', rfl, hx', x0, x1⟩ := hat.at_ hkl
    obtain rfl : x = x' := by rw [hx] at hx'; exact Option.some.inj hx'
    have HHE := Lib.hid (held_at (ws := ws) hx (by simpa using hid) hjk)
    have HNX := Lib.hid (HM2.out.maps.ns x (List.mem_append_left _ (List.mem_of_getElem? hx)))
    have hk1 : (k : Int) < (hs.length : Int) := by omega
    have hk2 : (0 : Int) ≤ (k : Int) := by omega
    obtain ⟨n, hn⟩ : ∃ n, hs.length = n := ⟨_, rfl⟩
    have HGX := Lib.hid (HGC.out x.1 (List.mem_map.2 ⟨x, List.mem_of_getElem? hx, rfl⟩))
    have HX1 := Lib.hid x1
    have HD0 := Lib.hid hd0
    rw [hn] at hk1 hkl HD0
    clear hj hx hx' hid hjk hb2 hat hc0 x0
    go_wp2_with (first | (go_at_call 36; refine (clKeys (some x.2) _).mono ?_; rintro e w3 ⟨rfl, rfl⟩) | (go_at_call 35; refine (clSorted x.2 1000 _ w2 HNX.out.1 (by omega)).mono ?_; rintro e w4 ⟨v4, ss, rfl, hsn, hsm, hown, hb4⟩; have HOS := Lib.hid (show OwnS w4 w2.heap.size 9 v4 (names x.1.ns) from (by have e := sorted_names HGX.out.srt hsn hsm; have e2 : ss.length = (names x.1.ns).length := (by rw [← e]; exact (List.mergeSort_perm _ _).length_eq.symm); unfold OwnS; rw [← e2, ← e]; exact hown)); have HB4 := Lib.hid hb4; clear hsn hsm hown hb4; obtain ⟨A4, n4, c4, rfl, hss4, hm4, hn4⟩ := HOS.out.strs; have HSS := Lib.hid hss4; have HN4 := Lib.hid hn4; clear hss4 hn4))
    obtain ⟨ns, hns⟩ : ∃ ns, x.1.ns = ns := ⟨_, rfl⟩
    have HGL := Lib.hid (show ns.length ≤ 12 from by rw [← hns]; exact HGX.out.len)
    have HGN := Lib.hid (show ∀ q ∈ ns, q.1.length ≤ 60 from by rw [← hns]; exact HGX.out.nm)
    have HGS := Lib.hid (show Srt ns from by rw [← hns]; exact HGX.out.srt)
    rw [hns] at HHE HSS HN4
    have HNM := Lib.hid (show NMap w2 Tryz.prog 9 4 x.2 1000 (lk ns) from by rw [← hns]; exact HNX.out.1)
    have HKN := Lib.hid (show Keys ns from HGS.out.once)
    have hn12 : n4 ≤ 12 := by
      have h1 := HGL.out
      have h2 := HN4.out
      unfold names at h2
      rw [List.length_map] at h2
      omega
    have HW4 := Lib.hid (show Below w.heap.size w w4 from HB2.out.trans (HB4.out.mono HB2.out.size))
    obtain ⟨i0, hi0', hz0, hz1, hz2⟩ := info_parts infoN
    have HI0 := Lib.hid hi0'
    have HZ0 := Lib.hid hz0
    have HZ1 := Lib.hid hz1
    have HZ2 := Lib.hid hz2
    have HZ := Lib.hid hz
    clear hns hd0 x1 hi0' hz0 hz1 hz2 hz hm4
    go_loopw [6, 28] (fun ov iv wr => ∃ j : Nat, j ≤ n4 ∧ iv = .int .i64 j ∧ OwnN wr w4.heap.size tNL ov (ns.take j) ∧ Below w4.heap.size w4 wr) (fun _ iv _ => n4 - (intOf iv).toNat)
    case atStart => exact ⟨0, Nat.zero_le _, rfl, OwnN.nil _ _ _, Below.refl _ _⟩
    case round =>
      obtain ⟨j, hj, rfl, ho, hb⟩ := hrel
      have HO := Lib.hid ho
      have HB := Lib.hid hb
      clear ho hb
      by_cases hlt : j < n4
      · obtain ⟨g4, off4, s, rfl, hsj, y0⟩ := (HSS.out.below HB.out).at_ hlt
        obtain ⟨q, hq, hqs⟩ : ∃ q, ns[j]? = some q ∧ q.1 = s := by
          unfold names at hsj
          rw [List.getElem?_map] at hsj
          obtain ⟨q, h1, h2⟩ := Option.map_eq_some_iff.1 hsj
          exact ⟨q, h1, h2⟩
        subst hqs
        have HQ := Lib.hid hq
        have hqm := List.mem_of_getElem? hq
        have hq60 := HGN.out q hqm
        have HLK := Lib.hid ((lk_some HKN.out).2 (show (q.1, q.2) ∈ ns from hqm))
        have hj1 : (j : Int) < (n4 : Int) := by omega
        have hj2 : (0 : Int) ≤ (j : Int) := by omega
        have hW := below_then HB4.out HB.out
        have d0 := (hW.cell (World.block_lt_of_cell? _ _ HD0.out)).trans HD0.out
        have d1 := (hW.cell (World.block_lt_of_cell? _ _ HX1.out)).trans HX1.out
        have HNW := Lib.hid (HNM.out.below hW)
        have HQL := Lib.hid (show q.1.length ≤ maxLen from by unfold maxLen; omega)
        have hzr := HZ.out wr
        have htk : (ns.take j).length ≤ 1000000 := by have := List.length_take_le j ns; have := HGL.out; omega
        have hle : w4.heap.size ≤ wr.heap.size := HB.out.size
        clear hsj hq hqm hW
        go_wp2_with (first | (refine wpList_nm_look rfl (.tmp 41) (.tmp 42) _ rfl Tryz.underlying74 Tryz.underlying9 Tryz.underlying4 hzr rfl HNW.out q.1 HQL.out rfl ?_; rw [HLK.out]; simp only [Option.getD_some]) | (at_builtin; refine wpList_append_nl rfl (.tmp 32) (.tmp 45) _ rfl w4.heap.size tNL i0 _ 24 Tryz.underlying30 HI0.out HZ0.out HZ1.out HZ2.out rfl (by omega) u6 (ns.take j) rfl (HO.out.alloc _) q wr.heap.size 0 1 rfl (NlsAt.lit1 wr tNL q) htk (by simp; omega) ?_; intro v11 w11 hown11 hg11 hat11 _; have HO11 := Lib.hid hown11; have HG11 := Lib.hid hg11; clear hown11 hg11 hat11))
        refine ⟨⟨j + 1, hlt, by simp, by rw [take_snoc HQ.out]; exact HO11.out, ?_⟩, by dsimp only [intOf]; omega⟩
        exact (HB.out.alloc hle _).grown HG11.out (by simp; omega) (fun k e => (HO.out.lt k e).1)
      · have hjn : j = n4 := by omega
        have hj1 : ¬ (j : Int) < (n4 : Int) := by omega
        go_wp2
        go_ret
        have ho := HO.out
        rw [hjn, List.take_of_length_le (by have h2 := HN4.out; unfold names at h2; rw [List.length_map] at h2; omega)] at ho
        rw [HHE.out]
        exact ⟨_, rfl, World.ownsRow.mono ho HW4.out.size, HW4.out.trans (HB.out.mono HW4.out.size)⟩
end Go.Proofs.YtojbddcbnnbklaaGreatDoor
