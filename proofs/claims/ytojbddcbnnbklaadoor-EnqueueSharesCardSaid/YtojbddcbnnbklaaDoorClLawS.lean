/- EnqueueShares: the law's walk. -/
import Derived.Test.YtojbddcbnnbklaaDoorClOff
import Derived.Test.YtojbddcbnnbklaaDoorEnqS
import Derived.Test.YtojbddcbnnbklaaDoorMapR
namespace Go.Proofs.YtojbddcbnnbklaaDoor
open Go.RowKit P43 Go.Maps
attribute [local go_sem] ByteArray.mk_append_mk ByteArray.extract_mk mk_index

/-- How many names an owner holds. -/
def cntH (t : T) (x : Int) : Int := (heldP t x).length
set_option maxRecDepth 100000 in
set_option maxHeartbeats 8000000 in
theorem lawShares (A : Option Addr) (n c : Nat) (xs : List OpM) (u : Int) (s : Nm) (w : World) (hG : GlobM w) (h : OpsAt w A n xs) (hn : n ≤ maxLen) :
    Calls Tryd.prog 7 #[.slice A n c, .int .i64 u, .string ⟨s.toArray⟩] w fun e w' => e = .returned (.bool true) ∧ Below w.heap.size w w' := by
  have HG := Lib.hid hG
  have HS := Lib.hid h
  have HLN := Lib.hid h.len
  have HWF := Lib.hid (show ∀ x ∈ xs, (Lit.int .i64 x.p.owner).wf = true from fun x hx => (h.ins x hx).wfo)
  have hn63 : n ≤ 9223372036854775807 := by unfold maxLen at hn; omega
  clear hG h hn
  have hlenO : (Tryd.prog.info? tO).map (·.size) = some 4 := by kernel_rfl
  go_enter Tryd.func7, Tryd.ntmps7
  go_wp2_with fail
  refine (clAwake w HG.out).mono ?_
  rintro e w1 ⟨rfl, hb1⟩
  have HB1 := Lib.hid hb1
  have HS1 := Lib.hid (HS.out.below hb1)
  clear hb1
  go_wp2_with fail
  refine (clFew 40 A n c xs w1 HS1.out hn63).mono ?_
  rintro e w1' ⟨rfl, rfl⟩
  cases hf : fewO xs 40 with
  | false =>
    clear hf
    go_wp2
    go_ret
    exact ⟨rfl, HB1.out⟩
  | true =>
    obtain ⟨hsh, hn40⟩ := few_of HLN.out (most := 40) hf
    have HSH := Lib.hid hsh
    clear hf hsh
    by_cases hs60 : 60 < s.length
    · have hs60' : (60 : Int) < (s.length : Int) := by omega
      go_wp2
      go_ret
      exact ⟨rfl, HB1.out⟩
    have hs60' : ¬ (60 : Int) < (s.length : Int) := by omega
    go_wp2_with fail
    refine (clRun A n c xs w1 HS1.out (by omega) HSH.out (HG.out.below HB1.out)).mono ?_
    rintro e w2 ⟨p, rfl, ⟨F, hm2⟩, hb2⟩
    have HGD := Lib.hid (good_ops HSH.out)
    have hlen2 := Good.lens HGD.out
    have hol : (opsP xs).length = n := by unfold opsP; rw [List.length_map]; exact HLN.out
    obtain ⟨t0, ht0⟩ : ∃ t0, runP validB (opsP xs) = t0 := ⟨_, rfl⟩
    rw [ht0] at hm2 HGD hlen2
    have HM2 := Lib.hid (hm2.up HB1.out.size)
    have HB2 := Lib.hid (HB1.out.trans (hb2.mono HB1.out.size))
    have hsz2 := HB2.out.size
    have HWI := Lib.hid (wf_ids HWF.out (fun _ h => h) HGD.out)
    clear hm2 hb2 ht0
    have hmm := @run_makeMap Tryd.prog
    go_wp2_with fail
    clear hmm
    obtain ⟨w3, mb, e1, e2, hm3, hb3⟩ : ∃ (w3 : World) (mb : Nat), w2.alloc (.map #[] 0) = w3 ∧ w2.heap.size = mb ∧ SV w3 mb 0 (fun _ => false) ∧ Below w2.heap.size w2 w3 := ⟨_, _, rfl, rfl, by have := MapV.made w2 Tryd.prog 3; rw [setM_none] at this; exact this, below_alloc (Below.refl _ _) _⟩
    rw [e1, e2]
    have HMB := Lib.hid e2
    refine (clWaitingT w.heap.size p t0 F w3 (HM2.out.below hb3) (by omega)).mono ?_
    rintro e w4 ⟨v4, rfl, ho4, hb4⟩
    obtain ⟨A4, c4, rfl, hl4, -⟩ := ho4.at_
    have HB4 := Lib.hid (hb3.trans (hb4.mono hb3.size))
    have HV4 := Lib.hid (hm3.below hb4)
    obtain ⟨m, hm⟩ : ∃ m, (ids t0.ws).length = m := ⟨_, rfl⟩
    rw [hm] at ho4 hl4 ⊢
    have HO4 := Lib.hid (show OwnI w4 w.heap.size (.slice A4 m c4) (ids t0.ws) from World.ownsRow.mono ho4 (Nat.le_trans hsz2 hb3.size))
    have HL := Lib.hid hm
    have hm63 : m ≤ 9223372036854775807 := by unfold maxLen at hl4; omega
    have hm40 : m ≤ 40 := by
      rw [← hm]
      unfold ids
      rw [List.length_map]
      omega
    clear e1 e2 hm3 hb3 hb4 ho4 hm hl4
    go_wp2
    go_loopw [40] (fun i wr => ∃ k : Nat, k ≤ m ∧ i = .int .i64 k ∧ SV wr mb k (fun x => decide (x ∈ (ids t0.ws).take k)) ∧ OwnI wr w.heap.size (.slice A4 m c4) (ids t0.ws) ∧ Below w2.heap.size w2 wr) (fun i _ => m - (intOf i).toNat)
    case atStart => exact ⟨0, Nat.zero_le _, rfl, by simpa using HV4.out, HO4.out, HB4.out⟩
    case round =>
      obtain ⟨k, hk, rfl, hsv, ho5, hb5⟩ := hrel
      have HSV := Lib.hid hsv
      have HO := Lib.hid ho5
      have HB := Lib.hid hb5
      have hsz := hb5.size
      clear hsv ho5 hb5
      by_cases hlt : k < m
      · obtain ⟨cx, hcx⟩ : ∃ cx, t0.ws[k]? = some cx := ⟨_, List.getElem?_eq_getElem (by have := HL.out; unfold ids at this; rw [List.length_map] at this; omega)⟩
        have hid : (ids t0.ws)[k]? = some cx.id := by unfold ids; rw [List.getElem?_map, hcx]; rfl
        obtain ⟨A8, c8, he8, -, hat8⟩ := HO.out.at_
        injection he8 with he81 he82 he83
        subst he81
        obtain ⟨b8, hA8, hc8⟩ := hat8 k _ hid
        cases hA8
        have HID := Lib.hid hid
        have HKY := Lib.hid (keyOf_int_mk (P := Tryd.prog) (k := 3) Tryd.underlying3 (HWI.out cx (List.mem_append_right _ (List.mem_of_getElem? hcx))))
        have hk1 : (k : Int) < (m : Int) := by omega
        have hk2 : (0 : Int) ≤ (k : Int) := by omega
        clear hid hat8 hcx he82 he83
        go_wp2_with (refine wpList_mapV_put rfl (.tmp 44) (.tmp 45) _ _ rfl (int_keyed Tryd.underlying3) Tryd.underlying27 rfl HSV.out (by unfold maxLen; omega) _ _ _ rfl rfl HKY.out ?_; intro w6 hm6 hg6; have HM6 := Lib.hid hm6; have HG6 := Lib.hid hg6; clear hm6 hg6)
        exact ⟨⟨k + 1, hlt, by simp, SV.of_put HM6.out (fun x => by rw [take_snoc HID.out, Bool.eq_iff_iff]; simp), HO.out.map HSV.out HG6.out, HB.out.grown HG6.out hsz (fun k e => by cases e; have := HMB.out; omega)⟩, by dsimp only [intOf]; omega⟩
      · have hkm : k = m := by omega
        have hk1 : ¬ (k : Int) < (m : Int) := by omega
        have hfull : (ids t0.ws).take k = ids t0.ws := by rw [hkm, ← HL.out, List.take_length]
        rw [hfull] at HSV
        obtain ⟨wo, hwo⟩ : ∃ wo, wr = wo := ⟨_, rfl⟩
        rw [hwo] at HSV HB hsz HO ⊢
        clear hwo wr hfull
        have hmm := @run_makeMap Tryd.prog
        go_wp2
        clear hmm
        obtain ⟨w6, mc, e1, e2, hm6, hb6⟩ : ∃ (w6 : World) (mc : Nat), wo.alloc (.map #[] 0) = w6 ∧ wo.heap.size = mc ∧ MapV w6 Tryd.prog 3 mc 0 (gM (cntH t0) []) ∧ Below wo.heap.size wo w6 := ⟨_, _, rfl, rfl, by have := MapV.made wo Tryd.prog 3; rw [gM_nil (cntH t0)] at this; exact this, below_alloc (Below.refl _ _) _⟩
        rw [e1, e2]
        have HMC := Lib.hid e2
        have HC6 := Lib.hid hm6
        have HV6 := Lib.hid (HSV.out.below hb6)
        have HB6 := Lib.hid (HB.out.trans (hb6.mono hsz))
        have hbc : mb < mc := by have := HSV.out.lt; omega
        have HGH := Lib.hid (show ∀ c ∈ t0.hs, GoodC c from fun c hc => HGD.out.good c (List.mem_append_left _ hc))
        clear e1 e2 hm6 hb6
        go_loopw [50] (fun i wr => ∃ k : Nat, k ≤ n ∧ i = .int .i64 k ∧ MapV wr Tryd.prog 3 mc k (gM (cntH t0) ((opsP (xs.take k)).map (·.owner))) ∧ SV wr mb m (fun x => decide (x ∈ ids t0.ws)) ∧ Below w2.heap.size w2 wr) (fun i _ => n - (intOf i).toNat)
        case atStart => exact ⟨0, Nat.zero_le _, rfl, by simpa [opsP] using HC6.out, by rw [← hkm]; exact HV6.out, HB6.out⟩
        case round =>
          obtain ⟨k2, hk2, rfl, hsc, hsv, hb7⟩ := hrel
          have HSC := Lib.hid hsc
          have HSV7 := Lib.hid hsv
          have HB7 := Lib.hid hb7
          have hsz7 := hb7.size
          clear hsc hsv hb7
          by_cases hlt2 : k2 < n
          · obtain ⟨b, off, o, rfl, hx⟩ := HS.out.at_ hlt2
            have HSW := Lib.hid ((HS.out.below HB2.out).below HB7.out)
            have HR := Lib.hid (orow HSW.out hx)
            have HX := Lib.hid (owners_take hx)
            have HKY := Lib.hid (keyOf_int_mk (P := Tryd.prog) (k := 3) Tryd.underlying3 (HWF.out o (List.mem_of_getElem? hx)))
            clear hx
            go_upto_region 16 with (refine wpList_load_cells rfl tO (.tmp 52) rfl ⟨b, off + k2 * 4, none⟩ rfl _ _ HR.out Tryd.underlying32 rfl hlenO ?_)
            obtain ⟨w8, g8, e1, e2, hb8, h8⟩ := obox1 wr o
            rw [e1, e2]
            have HB8 := Lib.hid (HB7.out.trans (hb8.mono hsz7))
            have HSC8 := Lib.hid (HSC.out.below hb8)
            have HSV8 := Lib.hid (HSV7.out.below hb8)
            have H8 := Lib.hid h8
            obtain ⟨-, y1, -, -⟩ := obox h8
            clear e1 e2 hb8 h8
            -- FAST(
            have hcl : ∀ wz : World, Below w8.heap.size w8 wz → Calls Tryd.prog 13 #[.pointer (some ⟨p, 0, none⟩), .int .i64 o.p.owner] wz fun e w' => ∃ v, e = .returned v ∧ OwnN w' wz.heap.size tNL v (heldP t0 o.p.owner) ∧ Below wz.heap.size wz w' := fun wz hz => clHeld w.heap.size p t0 F o.p.owner wz (HM2.out.below (HB8.out.trans (hz.mono HB8.out.size))) (by omega) HGH.out
            have HCL := Lib.hid hcl
            clear hcl
            go_region_with (go_at_call 13; (refine (HCL.out w8.drew ((Below.refl _ _).drew)).mono ?_; rintro e w9 ⟨v9, rfl, ho9, hb9⟩; have hb9' : Below w8.heap.size w8 w9 := ⟨hb9.os, hb9.tape, hb9.output, hb9.size, hb9.block⟩; have HB9 := Lib.hid (HB8.out.trans (hb9'.mono HB8.out.size)); obtain ⟨A9, c9, hv9, -, -⟩ := ho9.cells; subst hv9; have HSC9 := Lib.hid (HSC8.out.below hb9'); have HSV9 := Lib.hid (HSV8.out.below hb9'); have z1 := (obox (H8.out.below hb9')).2.1; obtain ⟨w10, hrun, hm10, hg10⟩ := run_mapV_put (t := 46) (int_keyed Tryd.underlying3) Tryd.underlying46 HSC9.out (by unfold maxLen; omega) (.int .i64 ((heldP t0 o.p.owner).length : Int)) HKY.out; have HM10 := Lib.hid hm10; have HG10 := Lib.hid hg10; clear hb9 hb9' ho9 hm10 hg10))
            all_goals
              go_wp2
              go_roundw
              case rel => exact ⟨k2 + 1, hlt2, by simp, by rw [HX.out, ← gM_put]; exact HM10.out, HSV9.out.kept HG10.out (fun e => by cases e; omega), HB9.out.grown HG10.out HB9.out.size (fun k e => by cases e; have h1 := HMC.out; have h2 := hsz; omega)⟩
              case measure => dsimp only [intOf]; omega
            -- FAST)
          · have hkn : k2 = n := by omega
            have hk21 : ¬ (k2 : Int) < (n : Int) := by omega
            have HCT := Lib.hid (show MapV wr Tryd.prog 3 mc n (gM (cntH t0) ((opsP xs).map (·.owner))) from by
              have h1 := HSC.out
              rw [hkn, List.take_of_length_le (by rw [HLN.out]; exact Nat.le_refl _)] at h1
              exact h1)
            have HTT := Lib.hid (HM2.out.below HB7.out)
            have HBW := Lib.hid (HB2.out.trans (HB7.out.mono hsz2))
            have HNF := Lib.hid (show ¬ F mb from fun h => by have h1 := (HM2.out.ge h).2; have h2 := HMB.out; omega)
            have HNC := Lib.hid (show ¬ F mc from fun h => by have h1 := (HM2.out.ge h).2; have h2 := HMB.out; omega)
            have hmc2 : w.heap.size ≤ mc ∧ w.heap.size ≤ mb := by have h1 := HMC.out; have h2 := HMB.out; omega
            obtain ⟨wo2, hwo2⟩ : ∃ wo2, wr = wo2 := ⟨_, rfl⟩
            rw [hwo2] at HCT HTT HBW HSV7 hsz7 ⊢
            clear hwo2 wr HSC HB7
            go_wp2_with fail
            refine (clShare w.heap.size p t0 F u s wo2 HTT.out (by omega) HGD.out.inv.hold (by omega)).mono ?_
            by_cases hin : s ∈ names (heldP t0 u)
            · obtain ⟨t1, more, hshr, hgd1⟩ := shr HGD.out hin
              have HSH1 := Lib.hid hshr
              have HGD1 := Lib.hid hgd1
              unfold LoPost
              rw [hshr.code]
              rintro e w6' ⟨⟨v6, rfl, ho6⟩, F6, hm6, hc6⟩
              obtain ⟨A6, c6, rfl, hl6, -⟩ := ho6.at_
              have HM6 := Lib.hid hm6
              have HO6 := Lib.hid ho6
              have HSV6 := Lib.hid (HSV7.out.block (hc6.block mb HSV7.out.lt HNF.out))
              have HCT6 := Lib.hid (HCT.out.block (hc6.block mc HCT.out.lt HNC.out))
              have HNF6 := Lib.hid (hc6.out HSV7.out.lt HNF.out)
              have HNC6 := Lib.hid (hc6.out HCT.out.lt HNC.out)
              have HB6' := Lib.hid (HBW.out.trans (hc6.below (B := w.heap.size) (fun k hk => (HTT.out.ge hk).1) HBW.out.size))
              have hlen1 := Good.lens hgd1
              obtain ⟨m6, hm6l⟩ : ∃ m6, more.length = m6 := ⟨_, rfl⟩
              rw [hm6l] at ho6 hl6 HO6 ⊢
              have HL6 := Lib.hid hm6l
              have hm663 : m6 ≤ 9223372036854775807 := by unfold maxLen at hl6; omega
              clear hshr hgd1 ho6 hm6 hc6 hl6 hm6l
              go_wp2
              go_loopw [81] (fun i wr => ∃ j : Nat, j ≤ m6 ∧ i = .int .i64 j ∧ TT wr w.heap.size p t1 F6 ∧ OwnI wr wo2.heap.size (.slice A6 m6 c6) more ∧ SV wr mb m (fun x => decide (x ∈ ids t0.ws) && !decide (x ∈ more.take j)) ∧ MapV wr Tryd.prog 3 mc n (gM (cntH t0) ((opsP xs).map (·.owner))) ∧ Below w.heap.size w wr) (fun i _ => m6 - (intOf i).toNat)
              case atStart => exact ⟨0, Nat.zero_le _, rfl, HM6.out, HO6.out, HSV6.out.ext (fun x => by simp), HCT6.out, HB6'.out⟩
              case round =>
                obtain ⟨j, hj, rfl, htt, hoo, hsv, hct, hbw⟩ := hrel
                have HTL := Lib.hid htt
                have HOO := Lib.hid hoo
                have HSL := Lib.hid hsv
                have HCL := Lib.hid hct
                have HBL := Lib.hid hbw
                have hszL := hbw.size
                clear htt hoo hsv hct hbw
                by_cases hltj : j < m6
                · obtain ⟨y, hy⟩ : ∃ y, more[j]? = some y := ⟨_, List.getElem?_eq_getElem (by rw [HL6.out]; exact hltj)⟩
                  obtain ⟨A8, c8, he8, -, hat8⟩ := HOO.out.at_
                  injection he8 with he81 he82 he83
                  subst he81
                  obtain ⟨b8, hA8, hc8⟩ := hat8 j y hy
                  cases hA8
                  have HY := Lib.hid hy
                  have hyw : y ∈ ids t0.ws := HSH1.out.sub y (List.mem_of_getElem? hy)
                  have HKY := Lib.hid (keyOf_int_mk (P := Tryd.prog) (k := 3) Tryd.underlying3 (show (Lit.int .i64 y).wf = true from by
                    obtain ⟨cy, hcy, e⟩ := List.mem_map.1 hyw
                    rw [← e]
                    exact HWI.out cy (List.mem_append_right _ hcy)))
                  have hlk := sv_look HSL.out HKY.out
                  have hyn : y ∉ more.take j := fun hm => by
                    obtain ⟨i, hi, e⟩ := List.getElem_of_mem hm
                    rw [List.getElem_take] at e
                    rw [List.length_take] at hi
                    have h1 : more[i]? = more[j]? := by rw [hy, List.getElem?_eq_getElem (by omega), e]
                    have h2 := (List.getElem?_inj (by omega) HSH1.out.once).1 h1
                    omega
                  rw [decide_eq_true hyw, decide_eq_false hyn] at hlk
                  have hj1 : (j : Int) < (m6 : Int) := by omega
                  have hj2 : (0 : Int) ≤ (j : Int) := by omega
                  clear hy hat8 he82 he83
                  go_wp2_with (refine wpList_mapV_del rfl (.tmp 89) (.tmp 90) _ rfl (int_keyed Tryd.underlying3) Tryd.underlying27 rfl HSL.out _ _ rfl HKY.out ?_; intro w10 hm10 hg10; have HM10 := Lib.hid hm10; have HG10 := Lib.hid hg10; clear hm10 hg10)
                  exact ⟨⟨j + 1, hltj, by simp, HTL.out.grown HG10.out (fun k e => by cases e; exact HNF6.out), HOO.out.map HSL.out HG10.out, SV.of_del HM10.out (fun x => by rw [take_snoc HY.out, Bool.eq_iff_iff]; simp; exact and_assoc.symm), HCL.out.kept HG10.out (fun e => by cases e; omega), HBL.out.grown HG10.out hszL (fun k e => by cases e; exact hmc2.2)⟩, by dsimp only [intOf]; omega⟩
                · have hjm : j = m6 := by omega
                  have hj1 : ¬ (j : Int) < (m6 : Int) := by omega
                  have HSE := Lib.hid (show SV wr mb m (fun x => decide (x ∈ ids t1.ws)) from HSL.out.ext (fun x => by
                    rw [hjm, ← HL6.out, List.take_length, Bool.eq_iff_iff]
                    simp only [decide_eq_true_eq, Bool.and_eq_true, Bool.not_eq_true', decide_eq_false_iff_not]
                    exact HSH1.out.left x))
                  have HGH1 := Lib.hid (show ∀ c ∈ t1.hs, GoodC c from fun c hc => HGD1.out.good c (List.mem_append_left _ hc))
                  obtain ⟨wo3, hwo3⟩ : ∃ wo3, wr = wo3 := ⟨_, rfl⟩
                  rw [hwo3] at HTL HSE HCL HBL hszL ⊢
                  clear hwo3 wr HOO HSL
                  go_wp2_with (at_range; refine wpList_mapV_range rfl (.tmp 92) _ rfl (int_keyed Tryd.underlying3) Tryd.underlying46 rfl HCL.out ?_; intro w7 cnt7 hr7 hg7 hs7; have HR7 := Lib.hid hr7; have HG7 := Lib.hid hg7; clear hr7 hg7 hs7)
                  obtain ⟨r, hr⟩ : ∃ r, wo3.heap.size = r := ⟨_, rfl⟩
                  rw [hr] at HR7 ⊢
                  have hrB : w.heap.size ≤ r := by omega
                  have HRE := Lib.hid hr
                  have HNR := Lib.hid (show ¬ F6 r from fun h => by have h1 := (HTL.out.ge h).2; omega)
                  have hbr : mb < r := by have := HSE.out.lt; omega
                  have HB7 := Lib.hid (HBL.out.grown HG7.out hszL (fun k e => by cases e))
                  have HT7 := Lib.hid (HTL.out.grown HG7.out (fun k e => by cases e))
                  have HS7 := Lib.hid (HSE.out.kept HG7.out (by simp))
                  clear hr
                  go_loopw [18] (fun _ wx => ∃ cnt, MapR wx Tryd.prog 3 mc r n (gM (cntH t0) ((opsP xs).map (·.owner))) cnt ∧ TT wx w.heap.size p t1 F6 ∧ SV wx mb m (fun x => decide (x ∈ ids t1.ws)) ∧ Below w.heap.size w wx) (fun _ wx => wx.rangeLeft mc r)
                  case atStart => exact ⟨_, HR7.out, HT7.out, HS7.out, HB7.out⟩
                  case round =>
                    obtain ⟨cnt, hmr, htt, hsv, hbw⟩ := hrel
                    have HMR := Lib.hid hmr
                    have HTX := Lib.hid htt
                    have HSX := Lib.hid hsv
                    have HBX := Lib.hid hbw
                    have hszX := hbw.size
                    clear hmr htt hsv hbw
                    go_wp2_with (at_next; refine wpList_gM_next rfl (.tmp 93) rfl Tryd.underlying3 rfl HMR.out ?_ ?_; rotate_left 1; intro x w5 cnt5 hx5 hr5 hc5 hg5 hz5 hen; have HR5 := Lib.hid hr5; have HC5 := Lib.hid hc5; have HT5 := Lib.hid (HTX.out.grown hg5 (fun k e => by cases e; exact HNR.out)); have HS5 := Lib.hid (HSX.out.kept hg5 (fun e => by cases e; omega)); have HB5 := Lib.hid (HBX.out.grown hg5 hszX (fun k e => by cases e; exact hrB)); obtain ⟨kx, hkx⟩ : ∃ kx, (heldP t0 x).length = kx := ⟨_, rfl⟩; have hke : cntH t0 x = (kx : Int) := (by unfold cntH; rw [hkx]); rw [hke] at hen ⊢; have HKX := Lib.hid hkx; clear hr5 hc5 hg5 hz5 hx5 hke hkx; rcases Nat.eq_zero_or_pos kx with h0 | h0; subst h0; rotate_left 1; have h0' : (0 : Int) < (kx : Int) := (by omega))
                    all_goals first
                      | (go_roundw
                         case rel => exact ⟨_, HR5.out, HT5.out, HS5.out, HB5.out⟩
                         case measure => rw [HR5.out.count, HMR.out.count]; exact HC5.out)
                      | (refine (clHeld w.heap.size p t1 F6 x w5 HT5.out (by omega) HGH1.out).mono ?_
                         rintro e w6 ⟨v6, rfl, ho6, hb6⟩
                         obtain ⟨A7, c7, rfl, -, -⟩ := ho6.cells
                         rw [HSH1.out.same x (fun e => by have h1 := HKX.out; rw [e] at h1; simp at h1; omega), HKX.out]
                         have HR6 := Lib.hid (HR5.out.below hb6)
                         have HT6 := Lib.hid (HT5.out.below hb6)
                         have HS6 := Lib.hid (HS5.out.below hb6)
                         have HB6 := Lib.hid (HB5.out.trans (hb6.mono HB5.out.size))
                         clear ho6 hb6
                         go_wp2
                         go_roundw
                         case rel => exact ⟨_, HR6.out, HT6.out, HS6.out, HB6.out⟩
                         case measure => rw [HR6.out.count, HMR.out.count]; exact HC5.out)
                      | skip
                    refine (clHolders w.heap.size p t1 F6 s wr HTX.out (by omega) (by omega)).mono ?_
                    rintro e w9 ⟨v9, rfl, ho9, hb9⟩
                    rw [HSH1.out.alone]
                    have HT9 := Lib.hid (HTX.out.below hb9)
                    have HS9 := Lib.hid (HSX.out.below hb9)
                    have HB9 := Lib.hid (HBX.out.trans (hb9.mono hszX))
                    clear ho9 hb9
                    go_wp2_with fail
                    refine (clShare w.heap.size p t1 F6 u s w9 HT9.out (by omega) HGD1.out.inv.hold (by omega)).mono ?_
                    unfold LoPost
                    rw [HSH1.out.again]
                    rintro e w10 ⟨⟨v10, rfl, ho10⟩, F10, hm10, hc10⟩
                    have HT10 := Lib.hid hm10
                    have HS10 := Lib.hid (HS9.out.block (hc10.block mb HS9.out.lt HNF6.out))
                    have HB10 := Lib.hid (HB9.out.trans (hc10.below (B := w.heap.size) (fun k hk => (HT9.out.ge hk).1) HB9.out.size))
                    clear ho10 hm10 hc10
                    go_wp2_with fail
                    refine (clWaitingT w.heap.size p t1 F10 w10 HT10.out (by omega)).mono ?_
                    rintro e w11 ⟨v11, rfl, ho11, hb11⟩
                    obtain ⟨A11, c11, rfl, -, -⟩ := ho11.at_
                    have HS11 := Lib.hid (HS10.out.below hb11)
                    have HB11 := Lib.hid (HB10.out.trans (hb11.mono HB10.out.size))
                    clear ho11 hb11
                    have hln : ∀ ty, (Builtin.len_ #[27] ty #[.map (some mb)]).run Tryd.prog w11 = .ok (.int .i64 (ids t1.ws).length) w11 := by
                      intro ty
                      obtain ⟨D, h1, h2, h3⟩ := HS11.out.own
                      have h4 := h1.len Tryd.underlying27 ty
                      have h5 := setM_keys (S := fun x => decide (x ∈ ids t1.ws)) (l := ids t1.ws) (fun x => rfl) HGD1.out.inv.wait
                      have h6 := size_keys h1 (int_keyed Tryd.underlying3) h2 h5.1 h5.2
                      rw [List.length_map] at h6
                      rw [h6] at h4
                      exact h4
                    go_wp2
                    go_ret
                    exact ⟨rfl, HB11.out⟩
            · have hc6 : shareP t0 u s = (t0, [], 6) := shr_not hin
              unfold LoPost
              rw [hc6]
              rintro e w6' ⟨⟨v6, rfl, ho6⟩, F6, hm6, hc6⟩
              obtain ⟨A6, c6, rfl, hl6, -⟩ := ho6.at_
              have HB6' := Lib.hid (HBW.out.trans (hc6.below (B := w.heap.size) (fun k hk => (HTT.out.ge hk).1) HBW.out.size))
              clear ho6 hl6 hm6 hc6
              simp only [List.length_nil]
              go_wp2
              go_ret
              exact ⟨rfl, HB6'.out⟩
end Go.Proofs.YtojbddcbnnbklaaDoor
