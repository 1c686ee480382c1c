/- EnqueueFair: the law's walk. -/
import Derived.Test.YtojbddcbnnbklaaDoorClLawO
import Derived.Test.YtojbddcbnnbklaaDoorEnqG
namespace Go.Proofs.YtojbddcbnnbklaaDoor
open Go.RowKit P43
attribute [local go_sem] ByteArray.mk_append_mk ByteArray.extract_mk mk_index

theorem TT.notInt {w : World} {B B' p : Nat} {t : T} {F : Nat → Prop} {v : Value} {xs : List Int} (m : TT w B p t F) (h : OwnI w B' v xs) : ∀ k, v.ownBlock = some k → ¬ F k := by
  obtain ⟨hs, ws, vh, vw, mT, e, hF⟩ := m
  intro k hk hf
  obtain ⟨cs, hb⟩ := h.own k hk
  rcases (hF k).1 hf with hf | ⟨x, hx, rfl⟩
  · rcases mT.foot.1 hf with rfl | h1 | h1
    · exact Blk.ne hb mT.box (by decide) rfl
    · obtain ⟨c2, b2⟩ := mT.held.ownC k h1
      exact Blk.ne hb b2 (by decide) rfl
    · obtain ⟨c2, b2⟩ := mT.wait.ownC k h1
      exact Blk.ne hb b2 (by decide) rfl
  · exact (mT.maps.ns x hx).noBlk hb
theorem OwnI.over {w w' : World} {B B' p : Nat} {t : T} {F F' : Nat → Prop} {v : Value} {xs : List Int} (h : OwnI w B' v xs) (m : TT w B p t F) (c : Chg F F' w w') : OwnI w' B' v xs := h.chg c (m.notInt h)
theorem OwnI.cap {w : World} {B : Nat} {A : Option Addr} {n c : Nat} {xs : List Int} (h : OwnI w B (.slice A n c) xs) : n ≤ c := by
  rcases h.2 with ⟨h1, _⟩ | ⟨g, cap, cur, h1, _, _, h2, _⟩
  · cases h1
    exact Nat.le_refl _
  · cases h1
    exact h2
theorem owners_take {xs : List OpM} {k : Nat} {a : OpM} (h : xs[k]? = some a) : (opsP (xs.take (k + 1))).map (·.owner) = (opsP (xs.take k)).map (·.owner) ++ [a.p.owner] := by
  rw [opsP_take h, List.map_append]
  rfl
theorem met_all {xs : List OpM} {t : T} (g : P43.Good t (opsP xs)) : ∀ x ∈ t.hs, x.id ∈ (opsP xs).map (·.owner) := by
  intro x hx
  obtain ⟨o, ho, e⟩ := g.own x (List.mem_append_left _ hx)
  exact List.mem_map.2 ⟨o, ho, e⟩
set_option maxRecDepth 100000 in
set_option maxHeartbeats 8000000 in
theorem lawFair (A : Option Addr) (n c : Nat) (xs : List OpM) (q : Int) (w : World) (hG : GlobM w) (h : OpsAt w A n xs) (hn : n ≤ maxLen) (hq0 : 0 ≤ q) (hq1 : q < 256) :
    Calls Tryd.prog 6 #[.slice A n c, .int .u8 q] w fun e w' => e = .returned (.bool true) ∧ Below w.heap.size w w' := by
  have HG := Lib.hid hG
  have HS := Lib.hid h
  have HLN := Lib.hid h.len
  have hn63 : n ≤ 9223372036854775807 := by unfold maxLen at hn; omega
  clear hG h hn
  have hlenO : (Tryd.prog.info? tO).map (·.size) = some 4 := by kernel_rfl
  go_enter Tryd.func6, Tryd.ntmps6
  go_wp2_with fail
  refine (clAwake w HG.out).mono ?_
  rintro e w1 ⟨rfl, hb1⟩
  have HB1 := Lib.hid hb1
  have HS1 := Lib.hid (HS.out.below hb1)
  clear hb1
  go_wp2_with fail
  refine (clFew 40 A n c xs w1 HS1.out hn63).mono ?_
  rintro e w1' ⟨rfl, rfl⟩
  cases hf : fewO xs 40 with
  | false =>
    clear hf
    go_wp2
    go_ret
    exact ⟨rfl, HB1.out⟩
  | true =>
    obtain ⟨hsh, hn40⟩ := few_of HLN.out (most := 40) hf
    have HSH := Lib.hid hsh
    clear hf hsh
    go_wp2_with fail
    refine (clRun A n c xs w1 HS1.out (by omega) HSH.out (HG.out.below HB1.out)).mono ?_
    rintro e w2 ⟨p, rfl, ⟨F, hm2⟩, hb2⟩
    have HGD := Lib.hid (good_ops HSH.out)
    have hlen2 := Good.lens HGD.out
    have hol : (opsP xs).length = n := by unfold opsP; rw [List.length_map]; exact HLN.out
    obtain ⟨t0, ht0⟩ : ∃ t0, runP validB (opsP xs) = t0 := ⟨_, rfl⟩
    rw [ht0] at hm2 HGD hlen2
    have HM2 := Lib.hid (hm2.up HB1.out.size)
    have HB2 := Lib.hid (HB1.out.trans (hb2.mono HB1.out.size))
    clear hm2 hb2 ht0
    go_wp2_with fail
    refine (clWaitingT w.heap.size p t0 F w2 HM2.out (by omega)).mono ?_
    rintro e w3 ⟨v3, rfl, ho3, hb3⟩
    obtain ⟨A3, c3, rfl, hl3, -⟩ := ho3.at_
    have HB3 := Lib.hid (HB2.out.trans (hb3.mono HB2.out.size))
    have HM3 := Lib.hid (HM2.out.below hb3)
    obtain ⟨m, hm⟩ : ∃ m, (ids t0.ws).length = m := ⟨_, rfl⟩
    rw [hm] at ho3 hl3 ⊢
    have HO3 := Lib.hid (show OwnI w3 w.heap.size (.slice A3 m c3) (ids t0.ws) from World.ownsRow.mono ho3 HB2.out.size)
    have hcap := ho3.cap
    have HL := Lib.hid hm
    have hm63 : m ≤ 9223372036854775807 := by unfold maxLen at hl3; omega
    clear hb3 ho3 hm hl3
    by_cases hm0 : m = 0
    · have hm1 : ((m : Int) == 0) = true := by simp [hm0]
      have HM0 := Lib.hid hm0
      clear hm0
      go_wp2
      go_ret
      exact ⟨rfl, HB3.out⟩
    · have hm1 : ((m : Int) == 0) = false := by simp [hm0]
      obtain ⟨j, hj⟩ : ∃ j : Nat, q % (m : Int) = (j : Int) := ⟨(q % (m : Int)).toNat, by have := Int.emod_nonneg q (show (m : Int) ≠ 0 by omega); omega⟩
      have hjm : j < m := by have := Int.emod_lt_of_pos q (show (0 : Int) < (m : Int) by omega); omega
      have HJ := Lib.hid hj
      have hmp : (0 : Int) < (m : Int) := by omega
      clear hm0
      go_wp2
      rw [hj]
      clear hj
      have HA0 := Lib.hid (FairA.start HGD.out.inv)
      have HI0 := Lib.hid HGD.out.inv
      go_loopw [33] (fun i wr => ∃ k : Nat, k ≤ n ∧ i = .int .i64 k ∧ (∃ t F, TT wr w.heap.size p t F ∧ FairA t0 t ((opsP (xs.take k)).map (·.owner)) ∧ Hid (P43.Good t (opsP xs))) ∧ OwnI wr w.heap.size (.slice A3 m c3) (ids t0.ws) ∧ Below w.heap.size w wr) (fun i _ => n - (intOf i).toNat)
      case atStart => exact ⟨0, Nat.zero_le _, rfl, ⟨t0, F, HM3.out, by simpa [opsP] using HA0.out, HGD.out⟩, HO3.out, HB3.out⟩
      case round =>
        obtain ⟨k, hk, rfl, ⟨t, F4, hm4, hfa, hgd⟩, ho4, hbw⟩ := hrel
        have HM := Lib.hid hm4
        have HFA := Lib.hid hfa
        have HO := Lib.hid ho4
        have HB := Lib.hid hbw
        have hsz := hbw.size
        have hlen := Good.lens hgd.out
        clear hm4 hfa ho4 hbw
        by_cases hlt : k < n
        · obtain ⟨b, off, o, rfl, hx⟩ := HS.out.at_ hlt
          have HR := Lib.hid (orow (HS.out.below HB.out) hx)
          have HX := Lib.hid (owners_take hx)
          clear hx
          go_upto_region 13 with (refine wpList_load_cells rfl tO (.tmp 35) rfl ⟨b, off + k * 4, none⟩ rfl _ _ HR.out Tryd.underlying32 rfl hlenO ?_)
          obtain ⟨w4, g4, e1, e2, hb4, h4⟩ := obox1 wr o
          rw [e1, e2]
          obtain ⟨-, y1, -, -⟩ := obox h4
          have HM4 := Lib.hid (HM.out.below hb4)
          have HO4 := Lib.hid (HO.out.below hb4)
          have HB4 := Lib.hid (HB.out.trans (hb4.mono hsz))
          have H4 := Lib.hid h4
          clear e1 e2 hb4 h4
          go_wp2_with fail
          refine (clHeld w.heap.size p t F4 o.p.owner w4 HM4.out (by omega) (fun c hc => hgd.out.good c (List.mem_append_left _ hc))).mono ?_
          rintro e w5 ⟨v5, rfl, ho5, hb5⟩
          obtain ⟨A5, c5, rfl, -, -⟩ := ho5.cells
          have HM5 := Lib.hid (HM4.out.below hb5)
          have HO5 := Lib.hid (HO4.out.below hb5)
          have HB5 := Lib.hid (HB4.out.trans (hb5.mono HB4.out.size))
          obtain ⟨-, z1, -, -⟩ := obox (H4.out.below hb5)
          clear ho5 hb5 y1
          by_cases hh : heldP t o.p.owner = []
          · have hl0 : ¬ (0 : Int) < ((heldP t o.p.owner).length : Int) := by rw [hh]; simp
            have HH := Lib.hid hh
            clear hh
            go_wp2
            go_roundw
            case rel => exact ⟨k + 1, hlt, by simp, ⟨t, F4, HM5.out, by rw [HX.out]; exact HFA.out.pass HH.out, hgd⟩, HO5.out, HB5.out⟩
            case measure => dsimp only [intOf]; omega
          · have hl0 : (0 : Int) < ((heldP t o.p.owner).length : Int) := by have := List.length_pos_iff.2 hh; omega
            have HH := Lib.hid hh
            clear hh
            go_wp2_with fail
            refine (clRelease w.heap.size p t F4 o.p.owner w5 HM5.out (by omega)).mono ?_
            rintro e w6 ⟨⟨v6, rfl, -⟩, F6, hm6, hc6⟩
            have HM6 := Lib.hid hm6
            have HO6 := Lib.hid (HO5.out.over HM5.out hc6)
            have HB6 := Lib.hid (HB5.out.trans (hc6.below (B := w.heap.size) (fun k hk => (HM5.out.ge hk).1) HB5.out.size))
            clear hm6 hc6
            go_wp2
            go_roundw
            case rel => exact ⟨k + 1, hlt, by simp, ⟨_, F6, HM6.out, by rw [HX.out]; exact HFA.out.free HI0.out HH.out, good_release hgd.out _⟩, HO6.out, HB6.out⟩
            case measure => dsimp only [intOf]; omega
        · have hkn : k = n := by omega
          have hk1 : ¬ (k : Int) < (n : Int) := by omega
          have hjc : (j : Int) ≤ (c3 : Int) := by omega
          have hFB : FairB t0 t 0 := by
            have h1 := HFA.out
            rw [hkn, List.take_of_length_le (by rw [HLN.out]; exact Nat.le_refl _)] at h1
            exact FairB.start h1 (met_all HGD.out)
          have HFB := Lib.hid hFB
          obtain ⟨wo, hwo⟩ : ∃ wo, wr = wo := ⟨_, rfl⟩
          rw [hwo] at HM HO HB hsz ⊢
          clear hwo wr hFB HFA
          go_wp2
          go_loopw [52] (fun i wr => ∃ k2 : Nat, k2 ≤ j ∧ i = .int .i64 k2 ∧ (∃ t F, TT wr w.heap.size p t F ∧ FairB t0 t k2 ∧ Hid (P43.Good t (opsP xs))) ∧ OwnI wr w.heap.size (.slice A3 m c3) (ids t0.ws) ∧ Below w.heap.size w wr) (fun i _ => j - (intOf i).toNat)
          case atStart => exact ⟨0, Nat.zero_le _, rfl, ⟨t, F4, HM.out, HFB.out, hgd⟩, HO.out, HB.out⟩
          case round =>
            obtain ⟨k2, hk2, rfl, ⟨t2, F7, hm7, hfb, hgd2⟩, ho7, hb7⟩ := hrel
            have HM7 := Lib.hid hm7
            have HFB7 := Lib.hid hfb
            have HO7 := Lib.hid ho7
            have HB7 := Lib.hid hb7
            have hsz7 := hb7.size
            have hlen7 := Good.lens hgd2.out
            clear hm7 hfb ho7 hb7
            obtain ⟨cx, hcx⟩ : ∃ cx, t0.ws[j]? = some cx := ⟨_, List.getElem?_eq_getElem (by have := HL.out; unfold ids at this; rw [List.length_map] at this; omega)⟩
            have HCX := Lib.hid hcx
            have HJD := Lib.hid (show (ids t0.ws)[j]? = some cx.id from by unfold ids; rw [List.getElem?_map, hcx]; rfl)
            clear hcx
            by_cases hlt2 : k2 < j
            · obtain ⟨cy, hcy⟩ : ∃ cy, t0.ws[k2]? = some cy := ⟨_, List.getElem?_eq_getElem (by have := HL.out; unfold ids at this; rw [List.length_map] at this; omega)⟩
              have hid : (ids t0.ws)[k2]? = some cy.id := by unfold ids; rw [List.getElem?_map, hcy]; rfl
              have HCY := Lib.hid hcy
              obtain ⟨A8, c8, he8, -, hat8⟩ := HO7.out.at_
              injection he8 with he81 he82 he83
              subst he81
              obtain ⟨b8, hA8, hc8⟩ := hat8 k2 _ hid
              cases hA8
              have hk21 : (k2 : Int) < (j : Int) := by omega
              have hk22 : (0 : Int) ≤ (k2 : Int) := by omega
              clear hid hcy hat8 he82 he83
              go_wp2_with fail
              refine (clRelease w.heap.size p t2 F7 cy.id wr HM7.out (by omega)).mono ?_
              rintro e w9 ⟨⟨v9, rfl, -⟩, F9, hm9, hc9⟩
              have HM9 := Lib.hid hm9
              have HO9 := Lib.hid (HO7.out.over HM7.out hc9)
              have HB9 := Lib.hid (HB7.out.trans (hc9.below (B := w.heap.size) (fun k hk => (HM7.out.ge hk).1) HB7.out.size))
              clear hm9 hc9 hc8
              go_wp2
              go_roundw
              case rel => exact ⟨k2 + 1, hlt2, by simp, ⟨_, F9, HM9.out, HFB7.out.step HI0.out HCY.out, good_release hgd2.out _⟩, HO9.out, HB9.out⟩
              case measure => dsimp only [intOf]; omega
            · have hkj : k2 = j := by omega
              have hk21 : ¬ (k2 : Int) < (j : Int) := by omega
              have HND := Lib.hid (show cx.id ∉ ids t2.ws from by
                have h1 := HFB7.out
                rw [hkj] at h1
                exact h1.done HI0.out HCX.out)
              obtain ⟨wo2, hwo2⟩ : ∃ wo2, wr = wo2 := ⟨_, rfl⟩
              rw [hwo2] at HM7 HO7 HB7 hsz7 ⊢
              clear hwo2 wr
              go_wp2_with fail
              refine (clWaitingT w.heap.size p t2 F7 wo2 HM7.out (by omega)).mono ?_
              rintro e w10 ⟨v10, rfl, ho10, hb10⟩
              obtain ⟨A10, c10, rfl, hl10, hat10⟩ := ho10.at_
              have HB10 := Lib.hid (HB7.out.trans (hb10.mono HB7.out.size))
              have HM10 := Lib.hid (HM7.out.below hb10)
              have ho3 := HO7.out.below hb10
              obtain ⟨A8, c8, he8, -, hat8⟩ := ho3.at_
              injection he8 with he81 he82 he83
              subst he81
              obtain ⟨b8, hA8, hc8⟩ := hat8 j _ HJD.out
              cases hA8
              have HAT := Lib.hid hat10
              obtain ⟨m10, hm10⟩ : ∃ m10, (ids t2.ws).length = m10 := ⟨_, rfl⟩
              rw [hm10] at hl10 ⊢
              have HL10 := Lib.hid hm10
              have hm1063 : m10 ≤ 9223372036854775807 := by unfold maxLen at hl10; omega
              have hjm1 : (j : Int) < (m : Int) := by omega
              have hjm2 : (0 : Int) ≤ (j : Int) := by omega
              clear ho10 hb10 hat10 hat8 he82 he83 ho3 hm10 hl10
              go_wp2
              go_loop [63] (fun i => ∃ k3 : Nat, k3 ≤ m10 ∧ i = .int .i64 k3) (fun i => m10 - (intOf i).toNat)
              case atStart => exact ⟨0, Nat.zero_le _, rfl⟩
              case round =>
                obtain ⟨k3, hk3, rfl⟩ := hrel
                by_cases hlt3 : k3 < m10
                · obtain ⟨y, hy⟩ : ∃ y, (ids t2.ws)[k3]? = some y := ⟨_, List.getElem?_eq_getElem (by rw [HL10.out]; exact hlt3)⟩
                  obtain ⟨b11, hA11, hc11⟩ := HAT.out k3 y hy
                  cases hA11
                  have hne : (y == cx.id) = false := by
                    rw [beq_eq_false_iff_ne]
                    exact fun e => HND.out (e ▸ List.mem_of_getElem? hy)
                  have hk31 : (k3 : Int) < (m10 : Int) := by omega
                  have hk32 : (0 : Int) ≤ (k3 : Int) := by omega
                  clear hy
                  go_wp2
                  go_round
                  case rel => exact ⟨k3 + 1, hlt3, by simp⟩
                  case measure => dsimp only [intOf]; omega
                · have hk3m : k3 = m10 := by omega
                  have hk31 : ¬ (k3 : Int) < (m10 : Int) := by omega
                  go_wp2_with fail
                  refine (clBlocks w.heap.size p t2 F7 cx.id w10 HM10.out (by omega)).mono ?_
                  rw [blocks_none HND.out]
                  rintro e w11 ⟨v11, rfl, ho11, hb11⟩
                  obtain ⟨A11, c11, rfl, -, -⟩ := ho11.at_
                  have HB11 := Lib.hid (HB10.out.trans (hb11.mono HB10.out.size))
                  clear ho11 hb11
                  simp only [List.length_nil]
                  go_wp2
                  go_ret
                  exact ⟨rfl, HB11.out⟩
end Go.Proofs.YtojbddcbnnbklaaDoor
