/- EnqueueOrder: the law's walk. -/
import Derived.Test.YtojbddcbnnbklaaDoorClLawX
import Derived.Test.YtojbddcbnnbklaaDoorMapV
namespace Go.Proofs.YtojbddcbnnbklaaDoor
open Go.RowKit P43 Go.Maps
attribute [local go_sem] ByteArray.mk_append_mk ByteArray.extract_mk mk_index

theorem clWaitingT (B p : Nat) (t : T) (F : Nat → Prop) (w : World) (m : TT w B p t F) (hl : t.hs.length + t.ws.length ≤ 100000) :
    Calls Tryd.prog 12 #[.pointer (some ⟨p, 0, none⟩)] w fun e w' => ∃ v, e = .returned v ∧ OwnI w' w.heap.size v (ids t.ws) ∧ Below w.heap.size w w' := by
  obtain ⟨hs, ws, vh, vw, mT, rfl, hF⟩ := m
  have := clWaiting B p hs ws vh vw w mT (by simp [fstT] at hl; omega)
  rw [← ids_idsM] at this
  exact this
/-- The owners are numbers of the kind. -/
theorem wf_ids {xs : List OpM} {t : T} (hw : ∀ x ∈ xs, (Lit.int .i64 x.p.owner).wf = true) {l : List OpL} (hl : ∀ o ∈ l, o ∈ opsP xs) (g : P43.Good t l) : ∀ c ∈ t.hs ++ t.ws, (Lit.int .i64 c.id).wf = true := by
  intro c hc
  obtain ⟨o, ho, e⟩ := g.own c hc
  obtain ⟨x, hx, rfl⟩ := List.mem_map.1 (hl o ho)
  rw [← e]
  exact hw x hx
theorem opsP_sub {xs : List OpM} (k : Nat) : ∀ o ∈ opsP (xs.take k), o ∈ opsP xs := by
  intro o ho
  obtain ⟨x, hx, rfl⟩ := List.mem_map.1 ho
  exact List.mem_map.2 ⟨x, List.mem_of_mem_take hx, rfl⟩
theorem mem_blocks {t : T} {o b : Int} (h : b ∈ blocksP t o) : ∃ c ∈ t.hs ++ t.ws, c.id = b := by
  unfold blocksP at h
  cases hc : cutAt t.ws o with
  | none => rw [hc] at h; cases h
  | some p =>
    rw [hc] at h
    simp only at h
    rw [mem_sortZ, ids_append, List.mem_append] at h
    obtain ⟨post, e, _⟩ := cutAt_some hc
    rcases h with h | h
    · obtain ⟨c, hc1, rfl⟩ := List.mem_map.1 h
      exact ⟨c, List.mem_append_left _ (mem_blk.1 hc1).1, rfl⟩
    · obtain ⟨c, hc1, rfl⟩ := List.mem_map.1 h
      exact ⟨c, List.mem_append_right _ (by rw [e]; exact List.mem_append_left _ (mem_blk.1 hc1).1), rfl⟩
theorem MapV.noBlk {w : World} {P : Program} {kt : TypeId} {b n : Nat} {M : Lit → Option Value} (h : MapV w P kt b n M) {t : TypeId} {cs : Array Value} (hb : Blk w b t cs) : False := by
  obtain ⟨D, ⟨es, clock, h0, F, hs, hD⟩, h2, h3⟩ := h.own
  have := hb.symm.trans h0
  simp at this
theorem OwnI.map {w w' : World} {B : Nat} {v : Value} {xs : List Int} {P : Program} {kt : TypeId} {b n : Nat} {M : Lit → Option Value} (h : OwnI w B v xs) (hm : MapV w P kt b n M) (hg : w.grownBy w' (some b)) : OwnI w' B v xs := by
  refine h.kept hg ?_
  rcases hv : v.ownBlock with _ | k
  · exact .inl rfl
  · refine .inr fun e => ?_
    obtain ⟨cs, hb⟩ := h.own k hv
    cases e
    exact hm.noBlk hb
theorem putM_int (M : Lit → Option Value) (a x : Int) (v : Value) : (putM M (.int .i64 a) v (.int .i64 x)).isSome = (decide (x = a) || (M (.int .i64 x)).isSome) := by
  unfold putM
  by_cases e : x = a
  · simp [e, Lit.sameKey]
  · simp [e, Lit.sameKey]
set_option maxRecDepth 100000 in
set_option maxHeartbeats 8000000 in
theorem lawOrder (A : Option Addr) (n c : Nat) (xs : List OpM) (w : World) (hG : GlobM w) (h : OpsAt w A n xs) (hn : n ≤ maxLen) :
    Calls Tryd.prog 5 #[.slice A n c] w fun e w' => e = .returned (.bool true) ∧ Below w.heap.size w w' := by
  have HG := Lib.hid hG
  have HS := Lib.hid h
  have HLN := Lib.hid h.len
  have HWF := Lib.hid (show ∀ x ∈ xs, (Lit.int .i64 x.p.owner).wf = true from fun x hx => (h.ins x hx).wfo)
  have hn63 : n ≤ 9223372036854775807 := by unfold maxLen at hn; omega
  clear hG h hn
  have hlenO : (Tryd.prog.info? tO).map (·.size) = some 4 := by kernel_rfl
  go_enter Tryd.func5, Tryd.ntmps5
  go_wp2_with fail
  refine (clAwake w HG.out).mono ?_
  rintro e w1 ⟨rfl, hb1⟩
  have HB1 := Lib.hid hb1
  have HS1 := Lib.hid (HS.out.below hb1)
  clear hb1
  go_wp2_with fail
  refine (clFew 40 A n c xs w1 HS1.out hn63).mono ?_
  rintro e w1' ⟨rfl, rfl⟩
  cases hf : fewO xs 40 with
  | false =>
    clear hf
    go_wp2
    go_ret
    exact ⟨rfl, HB1.out⟩
  | true =>
    obtain ⟨hsh, hn40⟩ := few_of HLN.out (most := 40) hf
    have HSH := Lib.hid hsh
    clear hf hsh
    go_wp2_with fail
    refine (clNew w1).mono ?_
    rintro e w2 ⟨p, rfl, hm2, hb2⟩
    have HM2 := Lib.hid (show ∃ F, TT w2 w.heap.size p (runP validB (opsP (xs.take 0))) F from ⟨_, TT.up ⟨[], [], _, _, hm2, rfl, fun k => Iff.rfl⟩ HB1.out.size⟩)
    have HB2 := Lib.hid (HB1.out.trans (hb2.mono HB1.out.size))
    clear hm2 hb2
    go_wp2
    go_loopw [21] (fun i wr => ∃ k : Nat, k ≤ n ∧ i = .int .i64 k ∧ (∃ F, TT wr w.heap.size p (runP validB (opsP (xs.take k))) F) ∧ Below w.heap.size w wr) (fun i _ => n - (intOf i).toNat)
    case atStart => exact ⟨0, Nat.zero_le _, rfl, HM2.out, HB2.out⟩
    case round =>
      obtain ⟨k, hk, rfl, ⟨F, hm⟩, hbw⟩ := hrel
      have HM := Lib.hid hm
      have HB := Lib.hid hbw
      have hsz := hbw.size
      clear hm hbw
      by_cases hlt : k < n
      · obtain ⟨b, off, o, rfl, hx⟩ := HS.out.at_ hlt
        have HR := Lib.hid (orow (HS.out.below HB.out) hx)
        have HX := Lib.hid hx
        have HIN := Lib.hid ((HS.out.ins o (List.mem_of_getElem? hx)).below HB.out)
        have HSO := Lib.hid (List.all_eq_true.1 HSH.out o (List.mem_of_getElem? hx))
        clear hx
        go_upto_region 9 with (refine wpList_load_cells rfl tO (.tmp 23) rfl ⟨b, off + k * 4, none⟩ rfl _ _ HR.out Tryd.underlying32 rfl hlenO ?_)
        obtain ⟨w4, g4, e1, e2, hb4, h4⟩ := obox1 wr o
        rw [e1, e2]
        have HM4 := Lib.hid (HM.out.below hb4)
        have HB4 := Lib.hid (HB.out.trans (hb4.mono hsz))
        have HC4 := Lib.hid h4.add
        have HIN4 := Lib.hid (HIN.out.below hb4)
        clear e1 e2 hb4 h4
        have hlen := lens40 HSH.out k
        have hxl := HLN.out
        have HGD := Lib.hid (good_ops (short_take HSH.out k))
        go_wp2_with (refine wpList_load_cells rfl tO (.tmp 5) rfl ⟨g4, 0, none⟩ rfl _ _ HC4.out Tryd.underlying32 rfl hlenO ?_)
        refine (clCall w.heap.size p _ F o _ HM4.out (HG.out.below HB4.out) (by omega) HGD.out.inv.hold HIN4.out HSO.out).mono ?_
        rintro e w5 ⟨⟨v5, rfl, -⟩, F5, hm5, hc5⟩
        have HB5 := Lib.hid (HB4.out.trans (hc5.below (B := w.heap.size) (fun k hk => (HM4.out.ge hk).1) HB4.out.size))
        rw [← runP_take HX.out] at hm5
        have HGD5 := Lib.hid (good_ops (short_take HSH.out (k + 1)))
        have HWI := Lib.hid (wf_ids HWF.out (opsP_sub (k + 1)) HGD5.out)
        have hlen5 := lens40 HSH.out (k + 1)
        obtain ⟨t5, ht5⟩ : ∃ t5, runP validB (opsP (xs.take (k + 1))) = t5 := ⟨_, rfl⟩
        have HT5 := Lib.hid ht5
        rw [ht5] at hm5 HGD5 hlen5 HWI
        have HM5 := Lib.hid hm5
        have hsz5 := HB5.out.size
        have HGH := Lib.hid (show ∀ c ∈ t5.hs, GoodC c from fun c hc => HGD5.out.good c (List.mem_append_left _ hc))
        clear hm5 hc5 ht5 hlen HGD HIN4 HC4 HB4 HM4 HR HIN HSO
        obtain ⟨wo, hwo⟩ : ∃ wo, wr = wo := ⟨_, rfl⟩
        rw [hwo] at HB hsz HM
        clear hwo wr
        have hmm := @run_makeMap Tryd.prog
        go_wp2_with fail
        clear hmm
        obtain ⟨w6, mb, e1, e2, hm6, hb6⟩ : ∃ (w6 : World) (mb : Nat), w5.alloc (.map #[] 0) = w6 ∧ w5.heap.size = mb ∧ MapV w6 Tryd.prog 3 mb 0 (fun _ => none) ∧ Below w5.heap.size w5 w6 := ⟨_, _, rfl, rfl, MapV.made _ _ _, below_alloc (Below.refl _ _) _⟩
        rw [e1, e2]
        have HMB := Lib.hid e2
        refine (clWaitingT w.heap.size p t5 F5 w6 (HM5.out.below hb6) (by omega)).mono ?_
        rintro e w7 ⟨v7, rfl, ho7, hb7⟩
        obtain ⟨A7, c7, rfl, hl7, hat7⟩ := ho7.at_
        have HB7 := Lib.hid (hb6.trans (hb7.mono hb6.size))
        have HO7 := Lib.hid (show OwnI w7 w5.heap.size _ (ids t5.ws) from World.ownsRow.mono ho7 hb6.size)
        have HM7 := Lib.hid (hm6.below hb7)
        obtain ⟨m7, hm7⟩ : ∃ m7, (ids t5.ws).length = m7 := ⟨_, rfl⟩
        rw [hm7] at HO7 hl7 ⊢
        have HL7 := Lib.hid hm7
        have hm63 : m7 ≤ 9223372036854775807 := by unfold maxLen at hl7; omega
        have hm40 : m7 ≤ 40 := by
          rw [← hm7]
          unfold ids
          rw [List.length_map]
          omega
        clear e1 e2 hm6 hb6 hb7 ho7 hat7 hm7 hl7
        go_wp2
        go_loopw [32] (fun i wr => ∃ k2 : Nat, k2 ≤ m7 ∧ i = .int .i64 k2 ∧ (∃ M, MapV wr Tryd.prog 3 mb k2 M ∧ Hid (∀ x, (M (.int .i64 x)).isSome = decide (x ∈ (ids t5.ws).take k2))) ∧ OwnI wr w5.heap.size (.slice A7 m7 c7) (ids t5.ws) ∧ Below w5.heap.size w5 wr) (fun i _ => m7 - (intOf i).toNat)
        case atStart => exact ⟨0, Nat.zero_le _, rfl, ⟨_, HM7.out, Lib.hid (by simp)⟩, HO7.out, HB7.out⟩
        case round =>
          obtain ⟨k2, hk2, rfl, ⟨M, hmv, hMx⟩, ho8, hb8⟩ := hrel
          have HMV := Lib.hid hmv
          have HO8 := Lib.hid ho8
          have HB8 := Lib.hid hb8
          have hsz8 := hb8.size
          clear hmv ho8 hb8
          by_cases hlt2 : k2 < m7
          · obtain ⟨cx, hcx⟩ : ∃ cx, t5.ws[k2]? = some cx := ⟨_, List.getElem?_eq_getElem (by have := HL7.out; unfold ids at this; rw [List.length_map] at this; omega)⟩
            have hid : (ids t5.ws)[k2]? = some cx.id := by unfold ids; rw [List.getElem?_map, hcx]; rfl
            obtain ⟨A8, c8, he8, -, hat8⟩ := HO8.out.at_
            injection he8 with he81 he82 he83
            subst he81
            obtain ⟨b8, hA8, hc8⟩ := hat8 k2 _ hid
            cases hA8
            have hsp := split_at hcx
            obtain ⟨q1, q2, q3⟩ := or_blocks HGD5.out.inv hsp
            have HQ2 := Lib.hid q2
            have HQ3 := Lib.hid q3
            have HQ1 := Lib.hid q1
            have HID := Lib.hid hid
            have hwf := HWI.out cx (List.mem_append_right _ (List.mem_of_getElem? hcx))
            have HWFC := Lib.hid hwf
            have HTI := Lib.hid (show ids (t5.ws.take k2) = (ids t5.ws).take k2 from by unfold ids; rw [List.map_take])
            have hk21 : (k2 : Int) < (m7 : Int) := by omega
            have hk22 : (0 : Int) ≤ (k2 : Int) := by omega
            obtain ⟨nid, hnid⟩ : ∃ nid, cx.id = nid := ⟨_, rfl⟩
            rw [hnid] at hc8 HQ2 HQ3 HQ1 HID HWFC
            clear hid hat8 hsp q1 q2 q3 hwf hnid hcx he82 he83
            go_wp2_with fail
            refine (clHeld w.heap.size p t5 F5 nid wr (HM5.out.below HB8.out) (by omega) HGH.out).mono ?_
            rw [HQ1.out]
            rintro e w9 ⟨v9, rfl, ho9, hb9⟩
            obtain ⟨A9, c9, rfl, -, -⟩ := ho9.cells
            simp only [List.length_nil]
            have HB9 := Lib.hid (HB8.out.trans (hb9.mono HB8.out.size))
            have HMV9 := Lib.hid (HMV.out.below hb9)
            have HO9 := Lib.hid (HO8.out.below hb9)
            clear ho9 hb9 hc8
            go_wp2_with fail
            refine (clBlocks w.heap.size p t5 F5 nid w9 (HM5.out.below HB9.out) (by omega)).mono ?_
            rintro e w10 ⟨v10, rfl, ho10, hb10⟩
            obtain ⟨A10, c10, rfl, -, -⟩ := ho10.at_
            have HB10 := Lib.hid (HB9.out.trans (hb10.mono HB9.out.size))
            have HMV10 := Lib.hid (HMV9.out.below hb10)
            have HO10 := Lib.hid (HO9.out.below hb10)
            have hne : ((blocksP t5 nid).length : Int) ≠ 0 := by
              have := List.length_pos_iff.2 HQ2.out
              omega
            have hne2 : (((blocksP t5 nid).length : Int) == 0) = false := by simpa using hne
            have HNE := Lib.hid hne2
            clear ho10 hb10 hne
            go_wp2_with fail
            refine (clBlocks w.heap.size p t5 F5 nid w10 (HM5.out.below HB10.out) (by omega)).mono ?_
            rintro e w11 ⟨v11, rfl, ho11, hb11⟩
            obtain ⟨A11, c11, rfl, hl11, hat11⟩ := ho11.at_
            have HB11 := Lib.hid (HB10.out.trans (hb11.mono HB10.out.size))
            have HMV11 := Lib.hid (HMV10.out.below hb11)
            have HO11 := Lib.hid (HO10.out.below hb11)
            have HWB := Lib.hid (show ∀ y ∈ blocksP t5 nid, (Lit.int .i64 y).wf = true from fun y hy => by
              obtain ⟨cy, hcy, rfl⟩ := mem_blocks hy
              exact HWI.out cy hcy)
            obtain ⟨bs, hbs⟩ : ∃ bs, blocksP t5 nid = bs := ⟨_, rfl⟩
            rw [hbs] at HQ3 HWB hat11 hl11 ⊢
            have HAT := Lib.hid (show ∀ (j : Nat) (y : Int), bs[j]? = some y → ∃ b, A11 = some ⟨b, 0, none⟩ ∧ w11.cell? ⟨b, j, none⟩ = some (.int .i64 y) from hat11)
            obtain ⟨m11, hm11⟩ : ∃ m11, bs.length = m11 := ⟨_, rfl⟩
            rw [hm11] at hl11 ⊢
            have HL11 := Lib.hid hm11
            have hm163 : m11 ≤ 9223372036854775807 := by unfold maxLen at hl11; omega
            have hsz11 := HB11.out.size
            clear ho11 hb11 hat11 hbs hm11 hl11 hne2 HB10 HB9 HMV9 HMV10 HO9 HO10 HNE
            obtain ⟨wo2, hwo2⟩ : ∃ wo2, wr = wo2 := ⟨_, rfl⟩
            rw [hwo2] at HB8 hsz8 HMV HO8
            clear hwo2 wr
            go_wp2
            go_loopw [53] (fun i wr => ∃ k3 : Nat, k3 ≤ m11 ∧ i = .int .i64 k3 ∧ Below w11.heap.size w11 wr) (fun i _ => m11 - (intOf i).toNat)
            case atStart => exact ⟨0, Nat.zero_le _, rfl, Below.refl _ _⟩
            case round =>
              obtain ⟨k3, hk3, rfl, hb12⟩ := hrel
              have HB12 := Lib.hid hb12
              have hsz12 := hb12.size
              clear hb12
              have hz : (zeroValue 3).run Tryd.prog wr = .ok (.int .i64 0) wr := by kernel_rfl
              by_cases hlt3 : k3 < m11
              · obtain ⟨y, hy⟩ : ∃ y, bs[k3]? = some y := ⟨_, List.getElem?_eq_getElem (by rw [HL11.out]; exact hlt3)⟩
                obtain ⟨b11, hA11, hc11⟩ := HAT.out k3 y hy
                cases hA11
                have hym := List.mem_of_getElem? hy
                have HYQ := Lib.hid (HQ3.out y hym)
                have HYW := Lib.hid (keyOf_int_mk (P := Tryd.prog) (k := 3) Tryd.underlying3 (HWB.out y hym))
                have c12 := (HB12.out.cell (World.block_lt_of_cell? _ _ hc11)).trans hc11
                have hk31 : (k3 : Int) < (m11 : Int) := by omega
                have hk32 : (0 : Int) ≤ (k3 : Int) := by omega
                have HMV12 := Lib.hid (HMV11.out.below HB12.out)
                clear hy hc11 hym
                by_cases hbef : (M (.int .i64 y)).isSome = true
                · go_wp2_with (refine wpList_mapV_ok rfl (.tmp 58) (.tmp 59) _ rfl (int_keyed Tryd.underlying3) Tryd.underlying46 hz rfl HMV12.out _ _ rfl HYW.out ?_; rw [hbef])
                  go_roundw
                  case rel => exact ⟨k3 + 1, hlt3, by simp, HB12.out⟩
                  case measure => dsimp only [intOf]; omega
                · have hbef2 : (M (.int .i64 y)).isSome = false := by simpa using hbef
                  have HHN := Lib.hid (show heldP t5 y ≠ [] from by
                    rcases HYQ.out with h | h
                    · rw [HTI.out] at h
                      have := hMx.out y
                      rw [hbef2, decide_eq_true h] at this
                      cases this
                    · exact h)
                  clear hbef
                  go_wp2_with (refine wpList_mapV_ok rfl (.tmp 58) (.tmp 59) _ rfl (int_keyed Tryd.underlying3) Tryd.underlying46 hz rfl HMV12.out _ _ rfl HYW.out ?_; rw [hbef2])
                  refine (clHeld w.heap.size p t5 F5 y wr (HM5.out.below (HB11.out.trans (HB12.out.mono HB11.out.size))) (by omega) HGH.out).mono ?_
                  rintro e w13 ⟨v13, rfl, ho13, hb13⟩
                  obtain ⟨A13, c13, rfl, -, -⟩ := ho13.cells
                  have HB13 := Lib.hid (HB12.out.trans (hb13.mono HB12.out.size))
                  have hln : (((heldP t5 y).length : Int) == 0) = false := by
                    have := List.length_pos_iff.2 HHN.out
                    simp
                    exact HHN.out
                  clear ho13 hb13
                  go_wp2
                  go_roundw
                  case rel => exact ⟨k3 + 1, hlt3, by simp, HB13.out⟩
                  case measure => dsimp only [intOf]; omega
              · have hkn : k3 = m11 := by omega
                have hk31 : ¬ (k3 : Int) < (m11 : Int) := by omega
                have HMV12 := Lib.hid (HMV11.out.below HB12.out)
                have HO12 := Lib.hid (HO11.out.below HB12.out)
                have HBX := Lib.hid (HB11.out.trans (HB12.out.mono HB11.out.size))
                have hszX := HBX.out.size
                have HKY := Lib.hid (keyOf_int_mk (P := Tryd.prog) (k := 3) Tryd.underlying3 HWFC.out)
                go_wp2_with (refine wpList_mapV_put rfl (.tmp 73) (.tmp 74) (.tmp 76) _ rfl (int_keyed Tryd.underlying3) Tryd.underlying46 rfl HMV12.out (by unfold maxLen; omega) _ _ _ rfl rfl HKY.out ?_; intro w14 hm14 hg14; have HM14 := Lib.hid hm14; have HG14 := Lib.hid hg14; clear hm14 hg14)
                refine ⟨⟨k2 + 1, hlt2, by simp, ⟨_, HM14.out, Lib.hid fun x => ?_⟩, HO12.out.map HMV12.out HG14.out, HBX.out.grown HG14.out hszX (fun k e => by cases e; have := HMB.out; omega)⟩, by dsimp only [intOf]; omega⟩
                rw [putM_int, hMx.out, take_snoc HID.out]
                rw [Bool.eq_iff_iff]
                simp only [Bool.or_eq_true, decide_eq_true_eq, List.mem_append, List.mem_singleton]
                exact Or.comm
          · have hkn : k2 = m7 := by omega
            have hk21 : ¬ (k2 : Int) < (m7 : Int) := by omega
            go_wp2
            go_roundw
            case rel => exact ⟨k + 1, hlt, by simp, ⟨F5, by rw [HT5.out]; exact HM5.out.below HB8.out⟩, HB5.out.trans (HB8.out.mono hsz5)⟩
            case measure => dsimp only [intOf]; omega
      · have hkn : k = n := by omega
        have hk1 : ¬ (k : Int) < (n : Int) := by omega
        go_wp2
        go_ret
        exact ⟨rfl, HB.out⟩
end Go.Proofs.YtojbddcbnnbklaaDoor
