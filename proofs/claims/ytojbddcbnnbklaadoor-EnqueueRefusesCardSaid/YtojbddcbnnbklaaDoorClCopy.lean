/- Clone: an independent table with the same content. -/
import Derived.Test.YtojbddcbnnbklaaDoorClT
import Derived.Test.YtojbddcbnnbklaaDoorClPlain3
namespace Go.Proofs.YtojbddcbnnbklaaDoor
open Go.RowKit P43 Go.Maps Go.Shelf
attribute [local go_sem] ByteArray.mk_append_mk ByteArray.extract_mk mk_index

/-- maps.Clone at a claim's map. -/
theorem clCloneMap (x : Cm) (w : World) (h : NsAt w x) :
    Calls Tryd.prog 46 #[.map (some x.2)] w fun e w' => e = .returned (.map (some w.heap.size)) ∧ NsAt w' (x.1, w.heap.size) ∧ Below w.heap.size w w' := by
  obtain ⟨D, h1, h2, h3⟩ := h.1.own
  have hcon := AnyW.maps_Clone_owns Tryd.cloneS 9 (plainElem Tryd.prog 4) x.2 1000 D w h1
  change Calls Tryd.prog 46 _ _ _ at hcon
  refine hcon.mono ?_
  rintro e w' ⟨rfl, a1, _, a3⟩
  exact ⟨rfl, ⟨⟨D, a1, h2, h3⟩, h.2⟩, a3⟩
theorem clsTake {ls : List Cm} {k : Nat} {x : Cm} (h : ls[k]? = some x) : (ls.take (k + 1)).map (·.1) = (ls.take k).map (·.1) ++ [x.1] := by
  rw [List.take_add_one, h]
  simp
theorem Claims.snoc {w : World} {B : Nat} {l : List Cm} {x : Cm} (h : Claims w B l) (hx : NsAt w x) (hB : B ≤ x.2) (hn : ∀ y ∈ l, y.2 ≠ x.2) : Claims w B (l ++ [x]) := by
  refine ⟨fun y hy => ?_, fun y hy => ?_, ?_⟩
  · rcases List.mem_append.1 hy with hy | hy
    · exact h.ns y hy
    · rw [List.mem_singleton.1 hy]; exact hx
  · rcases List.mem_append.1 hy with hy | hy
    · exact h.lo y hy
    · rw [List.mem_singleton.1 hy]; exact hB
  · rw [List.map_append, List.nodup_append]
    refine ⟨h.nd, by simp, fun a ha b hb e => ?_⟩
    obtain ⟨y, hy, rfl⟩ := List.mem_map.1 ha
    simp at hb
    exact hn y hy (e.trans hb)
set_option maxRecDepth 100000 in
set_option maxHeartbeats 2000000 in
theorem clCopied (A : Option Addr) (n c : Nat) (ls : List Cm) (w : World) (h : ClsT w.heap.size w A n ls) (hn : n ≤ 100000) :
    Calls Tryd.prog 34 #[.slice A n c] w fun e w' => ∃ v, e = .returned v ∧ (∃ ls', OwnK w' w.heap.size tC v ls' ∧ ls'.map (·.1) = ls.map (·.1) ∧ Claims w' w.heap.size ls') ∧ Below w.heap.size w w' := by
  have hlenC : (Tryd.prog.info? tC).map (·.size) = some 2 := by kernel_rfl
  have HA := Lib.hid h
  have HN := Lib.hid h.len
  obtain ⟨i0, hi0', hz0, hz1, hz2⟩ := info_parts infoC
  have HI0 := Lib.hid hi0'
  have HZ0 := Lib.hid hz0
  have HZ1 := Lib.hid hz1
  have HZ2 := Lib.hid hz2
  clear h hi0' hz0 hz1 hz2
  go_enter Tryd.func34, Tryd.ntmps34
  go_wp2
  go_loopw [3, 8] (fun ov iv wr => ∃ (k : Nat) (ls' : List Cm), k ≤ n ∧ iv = .int .i64 k ∧ OwnK wr w.heap.size tC ov ls' ∧ ls'.map (·.1) = (ls.take k).map (·.1) ∧ Claims wr w.heap.size ls' ∧ Below w.heap.size w wr) (fun _ iv _ => n - (intOf iv).toNat)
  case atStart => exact ⟨0, [], Nat.zero_le _, rfl, OwnK.nil _ _ _, by simp, ⟨fun _ h => (by cases h), fun _ h => (by cases h), by simp⟩, Below.refl _ _⟩
  case round =>
    obtain ⟨k, ls', hk, rfl, ho, hm, hcl, hb⟩ := hrel
    have HO := Lib.hid ho
    have HM := Lib.hid hm
    have HCL := Lib.hid hcl
    have HB := Lib.hid hb
    have hsz := hb.size
    clear ho hm hcl hb
    by_cases hlt : k < n
    · have hs := HA.out.keep (KeepT.of_below HB.out)
      obtain ⟨b, off, x, rfl, hx, x0, x1⟩ := hs.at_.at_ hlt
      have HX := Lib.hid (clsTake hx)
      have hnx := hs.ns x (List.mem_of_getElem? hx)
      have hll : ls'.length ≤ 100000 := by
        have h1 := congrArg List.length HM.out
        simp only [List.length_map, List.length_take] at h1
        omega
      have hk1 : (k : Int) < (n : Int) := by omega
      have hk2 : (0 : Int) ≤ (k : Int) := by omega
      go_upto_region 5 with (fail)
      obtain ⟨w2, q, e1, e2, hb2, hq⟩ := boxes1 wr tC (ca x)
      unfold ca at e1
      rw [show wr.alloc (.cells #[.int .i64 x.1.id, .map (some x.2)] 62) = w2 from e1, e2]
      obtain ⟨a0, a1⟩ := qcells hq
      have HB2 := Lib.hid (HB.out.trans (hb2.mono hsz))
      have hsz2 := HB2.out.size
      have HO2 := Lib.hid (HO.out.below hb2)
      have HCL2 := Lib.hid (HCL.out.below hb2)
      have HNX2 := Lib.hid (hnx.below hb2)
      have HLL := Lib.hid hll
      have HQ2 := Lib.hid hq
      clear e1 e2 hb2 hs hx hnx x0 x1
      have hbd : Below w2.heap.size w2 w2.drew := (Below.refl _ w2).drew
      have HBD := Lib.hid hbd
      obtain ⟨m3, hm3⟩ : ∃ m3, w2.heap.size = m3 := ⟨_, rfl⟩
      have HM3 := Lib.hid hm3
      have hcon : Calls Tryd.prog 46 #[.map (some x.2)] w2.drew fun e w' => e = .returned (.map (some m3)) ∧ NsAt w' (x.1, m3) ∧ Below w2.heap.size w2 w' := by
        refine (clCloneMap x w2.drew (HNX2.out.below hbd)).mono ?_
        rintro e w' ⟨rfl, h1, h2⟩
        rw [show w2.drew.heap.size = m3 from hm3] at h1 ⊢
        exact ⟨rfl, h1, ⟨h2.os, h2.tape, h2.output, h2.size, h2.block⟩⟩
      have HCON := Lib.hid hcon
      have HNM := Lib.hid (show ∀ y ∈ ls', y.2 ≠ m3 from fun y hy e => by
        have h1 := (HCL2.out.ns y hy).lt
        omega)
      clear hbd hm3 hcon
      go_region_law (first | (refine step_append_lies _ (by rfl) _ _ _ (by rfl) w.heap.size tC i0 _ 2 16 Tryd.underlying57 HI0.out HZ0.out HZ1.out HZ2.out rfl (by omega) u3 ls'.length (ccs ls') (by rfl) (HO3.out.alloc _) ⟨w3.heap.size, 0, none⟩ 1 1 (cc (x.1, m3)) (by rfl) (by rfl) (World.news_of_block (cs := ca (x.1, m3)) (t := tC) (fr := (0, 0)) (heap_alloc_new w3 _)) (cc_one (x.1, m3)) (by omega) (by unfold maxLen; omega) (by omega) (by simp; omega) (w3.heap.size + 1) (by simp) ?_; intro gg cap w9 hown9 hgrow hat hlt9; have HO9 := Lib.hid hown9; have HG9 := Lib.hid hgrow; clear hown9 hgrow hat hlt9) | (go_simp; go_at_call 46; refine HCON.out.mono ?_; rintro e w3 ⟨rfl, hn3, hb3⟩; have HN3 := Lib.hid hn3; have HB3 := Lib.hid (HB2.out.trans (hb3.mono hsz2)); have HO3 := Lib.hid (HO2.out.below hb3); have HCL3 := Lib.hid (HCL2.out.below hb3); obtain ⟨z0, z1⟩ := qcells (HQ2.out.below hb3); have hsz3 := HB3.out.size; clear hn3 hb3))
      all_goals
        go_wp2
        go_roundw
        case rel =>
          refine ⟨k + 1, ls' ++ [(x.1, m3)], hlt, by simp, ?_, by rw [HX.out, List.map_append, HM.out]; rfl, ?_, (HB3.out.alloc hsz3 _).grown HG9.out (by simp; omega) (fun k e => (HO3.out.lt k e).1)⟩
          · unfold OwnK
            rw [List.length_append, ccs_append]
            exact HO9.out
          · have h1 := HCL3.out.snoc HN3.out (by have := HM3.out; omega) HNM.out
            have h2 : Claims (w3.alloc (.cells (ca (x.1, m3)) tC)) w.heap.size (ls' ++ [(x.1, m3)]) := h1.below (below_alloc (Below.refl _ _) _)
            exact h2.grown HG9.out (HO3.out.alloc _).own
        case measure => dsimp only [intOf]; omega
    · have hkn : k = n := by omega
      subst hkn
      have hk1 : ¬ (k : Int) < (k : Int) := by omega
      go_wp2
      go_ret
      have h := HM.out
      rw [← HN.out, List.take_length] at h
      exact ⟨_, rfl, ⟨_, HO.out, h, HCL.out⟩, HB.out⟩
theorem copyJoin {w3 w4 : World} {B : Nat} {v3 v4 : Value} {l3 l4 : List Cm} (hB : B ≤ w3.heap.size) (o3 : OwnK w3 B tC v3 l3) (c3 : Claims w3 B l3) (hb : Below w3.heap.size w3 w4) (o4 : OwnK w4 w3.heap.size tC v4 l4) (c4 : Claims w4 w3.heap.size l4) :
    OwnK w4 B tC v3 l3 ∧ OwnK w4 B tC v4 l4 ∧ Claims w4 B (l3 ++ l4) ∧ ∀ k, v3.ownBlock = some k → v4.ownBlock ≠ some k := by
  refine ⟨o3.below hb, World.ownsRow.mono o4 hB, ⟨fun x hx => ?_, fun x hx => ?_, ?_⟩, fun k h1 h2 => ?_⟩
  · rcases List.mem_append.1 hx with hx | hx
    · exact (c3.ns x hx).below hb
    · exact c4.ns x hx
  · rcases List.mem_append.1 hx with hx | hx
    · exact c3.lo x hx
    · exact Nat.le_trans hB (c4.lo x hx)
  · rw [List.map_append, List.nodup_append]
    refine ⟨c3.nd, c4.nd, fun a ha b hb e => ?_⟩
    obtain ⟨x, hx, rfl⟩ := List.mem_map.1 ha
    obtain ⟨y, hy, rfl⟩ := List.mem_map.1 hb
    have h1 := (c3.ns x hx).lt
    have h2 := c4.lo y hy
    omega
  · have := (o3.lt k h1).2
    have := (o4.lt k h2).1
    omega
/-- The new table. -/
theorem copyDone {w4 : World} {B : Nat} {vh vw : Value} {hs ws lh lw : List Cm} (hB : B ≤ w4.heap.size) (oh : OwnK w4 B tC vh lh) (ow : OwnK w4 B tC vw lw) (mh : lh.map (·.1) = hs.map (·.1)) (mw : lw.map (·.1) = ws.map (·.1))
    (cl : Claims w4 B (lh ++ lw)) (ap : ∀ k, vh.ownBlock = some k → vw.ownBlock ≠ some k) : ∃ F, TT (w4.alloc (.cells #[vh, vw] tT)) B w4.heap.size (fstT hs ws) F := by
  refine ⟨_, lh, lw, vh, vw, ⟨⟨Blk.new _ _ _, hB, oh.alloc _, ow.alloc _, ?_⟩, cl.below (below_alloc (Below.refl _ _) _)⟩, by unfold fstT; rw [mh, mw], fun k => Iff.rfl⟩
  cases h : vh.ownBlock with
  | none => exact .inl rfl
  | some k => exact .inr (fun e => ap k h e.symm)
set_option maxRecDepth 100000 in
set_option maxHeartbeats 2000000 in
theorem clClone (B p : Nat) (t : T) (F : Nat → Prop) (w : World) (m : TT w B p t F) (hl : t.hs.length + t.ws.length ≤ 100000) :
    Calls Tryd.prog 21 #[.pointer (some ⟨p, 0, none⟩)] w fun e w' => ∃ q, e = .returned (.pointer (some ⟨q, 0, none⟩)) ∧ (∃ F, TT w' w.heap.size q t F) ∧ Below w.heap.size w w' := by
  obtain ⟨hs, ws, vh, vw, mT, rfl, hF⟩ := m
  have hl1 : hs.length + ws.length ≤ 100000 := by simpa [fstT] using hl
  obtain ⟨Ah, ch, rfl, hh⟩ := mT.clsH
  obtain ⟨Aw, cw, rfl, hw⟩ := mT.clsW
  have HH := Lib.hid (show ∀ wz : World, Below w.heap.size w wz → Calls Tryd.prog 34 #[.slice Ah hs.length ch] wz fun e w' => ∃ v, e = .returned v ∧ (∃ ls', OwnK w' wz.heap.size tC v ls' ∧ ls'.map (·.1) = hs.map (·.1) ∧ Claims w' wz.heap.size ls') ∧ Below wz.heap.size wz w' from
    fun wz hz => clCopied Ah hs.length ch hs wz ((hh.keep (KeepT.of_below hz)).up hz.size) (by omega))
  have HW := Lib.hid (show ∀ wz : World, Below w.heap.size w wz → Calls Tryd.prog 34 #[.slice Aw ws.length cw] wz fun e w' => ∃ v, e = .returned v ∧ (∃ ls', OwnK w' wz.heap.size tC v ls' ∧ ls'.map (·.1) = ws.map (·.1) ∧ Claims w' wz.heap.size ls') ∧ Below wz.heap.size wz w' from
    fun wz hz => clCopied Aw ws.length cw ws wz ((hw.keep (KeepT.of_below hz)).up hz.size) (by omega))
  have HX := Lib.hid mT.box
  have y0 := mT.box.cell 0
  have y1 := mT.box.cell 1
  simp at y0 y1
  have HD := Lib.hid ((Below.refl w.heap.size w).drew)
  clear mT hF hl hh hw
  go_enter Tryd.func21, Tryd.ntmps21
  go_wp2
  go_region_with (first | (go_at_call 34; refine (HW.out w3 HB3.out).mono ?_; rintro e w4 ⟨vW, rfl, ⟨lsW, hoW, hmW, hcW⟩, hb4⟩; obtain ⟨j1, j2, j3, j4⟩ := copyJoin (B := w.heap.size) HB3.out.size HOH.out HCH.out hb4 hoW hcW; obtain ⟨A4, c4, hv4, -, -⟩ := hoW.cells; subst hv4; have HJ1 := Lib.hid j1; have HJ2 := Lib.hid j2; have HJ3 := Lib.hid j3; have HJ4 := Lib.hid j4; have HMW := Lib.hid hmW; have HB4 := Lib.hid (HB3.out.trans (hb4.mono HB3.out.size)); clear hoW hmW hcW hb4 j1 j2 j3 j4) | (go_at_call 34; refine (HH.out w3 HB3.out).mono ?_; rintro e w4 ⟨vH, rfl, ⟨lsH, hoH, hmH, hcH⟩, hb4⟩; obtain ⟨j1, j2, j3, j4⟩ := copyJoin (B := w.heap.size) HB3.out.size HOW.out HCW.out hb4 hoH hcH; obtain ⟨A4, c4, hv4, -, -⟩ := hoH.cells; subst hv4; have HJ1 := Lib.hid j1; have HJ2 := Lib.hid j2; have HJ3 := Lib.hid j3; have HJ4 := Lib.hid j4; have HMH := Lib.hid hmH; have HB4 := Lib.hid (HB3.out.trans (hb4.mono HB3.out.size)); clear hoH hmH hcH hb4 j1 j2 j3 j4) | (go_at_call 34; refine (HH.out w.drew HD.out).mono ?_; rintro e w3 ⟨vH, rfl, ⟨lsH, hoH, hmH, hcH⟩, hb3⟩; have hb3' : Below w.heap.size w w3 := ⟨hb3.os, hb3.tape, hb3.output, hb3.size, hb3.block⟩; have HB3 := Lib.hid hb3'; obtain ⟨A3, c3, hv3, -, -⟩ := hoH.cells; subst hv3; have HOH := Lib.hid (show OwnK w3 w.heap.size tC _ _ from hoH); have HCH := Lib.hid (show Claims w3 w.heap.size _ from hcH); have HMH := Lib.hid hmH; have z0 := (HX.out.below hb3').cell 0; have z1 := (HX.out.below hb3').cell 1; simp at z0 z1; clear hoH hmH hcH hb3 hb3') | (go_at_call 34; refine (HW.out w.drew HD.out).mono ?_; rintro e w3 ⟨vW, rfl, ⟨lsW, hoW, hmW, hcW⟩, hb3⟩; have hb3' : Below w.heap.size w w3 := ⟨hb3.os, hb3.tape, hb3.output, hb3.size, hb3.block⟩; have HB3 := Lib.hid hb3'; obtain ⟨A3, c3, hv3, -, -⟩ := hoW.cells; subst hv3; have HOW := Lib.hid (show OwnK w3 w.heap.size tC _ _ from hoW); have HCW := Lib.hid (show Claims w3 w.heap.size _ from hcW); have HMW := Lib.hid hmW; have z0 := (HX.out.below hb3').cell 0; have z1 := (HX.out.below hb3').cell 1; simp at z0 z1; clear hoW hmW hcW hb3 hb3'))
  all_goals
    go_wp2
    go_ret
    first
      | exact ⟨_, rfl, copyDone HB4.out.size HJ1.out HJ2.out HMH.out HMW.out HJ3.out HJ4.out, below_alloc HB4.out _⟩
      | exact ⟨_, rfl, copyDone HB4.out.size HJ2.out HJ1.out HMH.out HMW.out (HJ3.out.perm List.perm_append_comm) (fun k h e => HJ4.out k e h), below_alloc HB4.out _⟩
end Go.Proofs.YtojbddcbnnbklaaDoor
