/- EnqueueMoves: the law's walk. -/
import Derived.Test.YtojbddcbnnbklaaDoorClOff
namespace Go.Proofs.YtojbddcbnnbklaaDoor
open Go.RowKit P43 Go.Maps
attribute [local go_sem] ByteArray.mk_append_mk ByteArray.extract_mk mk_index

theorem wf_run {xs : List OpM} {t : T} (hw : ∀ x ∈ xs, (Lit.int .i64 x.p.owner).wf = true) (g : P43.Good t (opsP xs)) : ∀ c ∈ t.hs ++ t.ws, (Lit.int .i64 c.id).wf = true := wf_ids hw (fun _ h => h) g
theorem nodup_len : ∀ {l m : List Int}, l.Nodup → (∀ x ∈ l, x ∈ m) → l.length ≤ m.length
  | [], m, _, _ => Nat.zero_le _
  | a :: l, m, hn, hs => by
    have h1 := List.nodup_cons.1 hn
    have ha : a ∈ m := hs a List.mem_cons_self
    have h2 : l.length ≤ (m.erase a).length := nodup_len h1.2 (fun x hx => by
      have hxa : x ≠ a := fun e => h1.1 (e ▸ hx)
      exact (List.mem_erase_of_ne hxa).2 (hs x (List.mem_cons_of_mem _ hx)))
    rw [List.length_erase_of_mem ha] at h2
    have h3 := List.length_pos_of_mem ha
    rw [List.length_cons]
    omega

set_option maxRecDepth 100000 in
set_option maxHeartbeats 8000000 in
theorem lawMoves (A : Option Addr) (n c : Nat) (xs : List OpM) (w : World) (hG : GlobM w) (h : OpsAt w A n xs) (hn : n ≤ maxLen) :
    Calls Tryd.prog 3 #[.slice A n c] w fun e w' => e = .returned (.bool true) ∧ Below w.heap.size w w' := by
  have HG := Lib.hid hG
  have HS := Lib.hid h
  have HLN := Lib.hid h.len
  have HWF := Lib.hid (show ∀ x ∈ xs, (Lit.int .i64 x.p.owner).wf = true from fun x hx => (h.ins x hx).wfo)
  have hn63 : n ≤ 9223372036854775807 := by unfold maxLen at hn; omega
  clear hG h hn
  have hlenO : (Tryd.prog.info? tO).map (·.size) = some 4 := by kernel_rfl
  go_enter Tryd.func3, Tryd.ntmps3
  go_wp2_with fail
  refine (clAwake w HG.out).mono ?_
  rintro e w1 ⟨rfl, hb1⟩
  have HB1 := Lib.hid hb1
  have HS1 := Lib.hid (HS.out.below hb1)
  clear hb1
  go_wp2_with fail
  refine (clFew 40 A n c xs w1 HS1.out hn63).mono ?_
  rintro e w1' ⟨rfl, rfl⟩
  cases hf : fewO xs 40 with
  | false =>
    clear hf
    go_wp2
    go_ret
    exact ⟨rfl, HB1.out⟩
  | true =>
    obtain ⟨hsh, hn40⟩ := few_of HLN.out (most := 40) hf
    have HSH := Lib.hid hsh
    clear hf hsh
    go_wp2_with fail
    refine (clRun A n c xs w1 HS1.out (by omega) HSH.out (HG.out.below HB1.out)).mono ?_
    rintro e w2 ⟨p, rfl, ⟨F, hm2⟩, hb2⟩
    have HGD := Lib.hid (good_ops HSH.out)
    have hlen2 := Good.lens HGD.out
    have hol : (opsP xs).length = n := by unfold opsP; rw [List.length_map]; exact HLN.out
    obtain ⟨t0, ht0⟩ : ∃ t0, runP validB (opsP xs) = t0 := ⟨_, rfl⟩
    rw [ht0] at hm2 HGD hlen2
    have HM2 := Lib.hid (hm2.up HB1.out.size)
    have HB2 := Lib.hid (HB1.out.trans (hb2.mono HB1.out.size))
    have hsz2 := HB2.out.size
    have HWI := Lib.hid (wf_run HWF.out HGD.out)
    clear hm2 hb2 ht0
    have hmm := @run_makeMap Tryd.prog
    go_wp2_with fail
    clear hmm
    obtain ⟨w3, mb, e1, e2, hm3, hb3⟩ : ∃ (w3 : World) (mb : Nat), w2.alloc (.map #[] 0) = w3 ∧ w2.heap.size = mb ∧ SV w3 mb 0 (fun _ => false) ∧ Below w2.heap.size w2 w3 := ⟨_, _, rfl, rfl, by have := MapV.made w2 Tryd.prog 3; rw [setM_none] at this; exact this, below_alloc (Below.refl _ _) _⟩
    rw [e1, e2]
    have HMB := Lib.hid e2
    refine (clWaitingT w.heap.size p t0 F w3 (HM2.out.below hb3) (by omega)).mono ?_
    rintro e w4 ⟨v4, rfl, ho4, hb4⟩
    obtain ⟨A4, c4, rfl, hl4, -⟩ := ho4.at_
    have HB4 := Lib.hid (hb3.trans (hb4.mono hb3.size))
    have HV4 := Lib.hid (hm3.below hb4)
    obtain ⟨m, hm⟩ : ∃ m, (ids t0.ws).length = m := ⟨_, rfl⟩
    rw [hm] at ho4 hl4 ⊢
    have HO4 := Lib.hid (show OwnI w4 w.heap.size (.slice A4 m c4) (ids t0.ws) from World.ownsRow.mono ho4 (Nat.le_trans hsz2 hb3.size))
    have HL := Lib.hid hm
    have hm63 : m ≤ 9223372036854775807 := by unfold maxLen at hl4; omega
    have hm40 : m ≤ 40 := by
      rw [← hm]
      unfold ids
      rw [List.length_map]
      omega
    clear e1 e2 hm3 hb3 hb4 ho4 hm hl4
    go_wp2
    go_loopw [27] (fun i wr => ∃ k : Nat, k ≤ m ∧ i = .int .i64 k ∧ SV wr mb k (fun x => decide (x ∈ (ids t0.ws).take k)) ∧ OwnI wr w.heap.size (.slice A4 m c4) (ids t0.ws) ∧ Below w2.heap.size w2 wr) (fun i _ => m - (intOf i).toNat)
    case atStart => exact ⟨0, Nat.zero_le _, rfl, by simpa using HV4.out, HO4.out, HB4.out⟩
    case round =>
      obtain ⟨k, hk, rfl, hsv, ho5, hb5⟩ := hrel
      have HSV := Lib.hid hsv
      have HO := Lib.hid ho5
      have HB := Lib.hid hb5
      have hsz := hb5.size
      clear hsv ho5 hb5
      by_cases hlt : k < m
      · obtain ⟨cx, hcx⟩ : ∃ cx, t0.ws[k]? = some cx := ⟨_, List.getElem?_eq_getElem (by have := HL.out; unfold ids at this; rw [List.length_map] at this; omega)⟩
        have hid : (ids t0.ws)[k]? = some cx.id := by unfold ids; rw [List.getElem?_map, hcx]; rfl
        obtain ⟨A8, c8, he8, -, hat8⟩ := HO.out.at_
        injection he8 with he81 he82 he83
        subst he81
        obtain ⟨b8, hA8, hc8⟩ := hat8 k _ hid
        cases hA8
        have HID := Lib.hid hid
        have HKY := Lib.hid (keyOf_int_mk (P := Tryd.prog) (k := 3) Tryd.underlying3 (HWI.out cx (List.mem_append_right _ (List.mem_of_getElem? hcx))))
        have hk1 : (k : Int) < (m : Int) := by omega
        have hk2 : (0 : Int) ≤ (k : Int) := by omega
        clear hid hat8 hcx he82 he83
        go_wp2_with (refine wpList_mapV_put rfl (.tmp 31) (.tmp 32) _ _ rfl (int_keyed Tryd.underlying3) Tryd.underlying27 rfl HSV.out (by unfold maxLen; omega) _ _ _ rfl rfl HKY.out ?_; intro w6 hm6 hg6; have HM6 := Lib.hid hm6; have HG6 := Lib.hid hg6; clear hm6 hg6)
        exact ⟨⟨k + 1, hlt, by simp, SV.of_put HM6.out (fun x => by rw [take_snoc HID.out, Bool.eq_iff_iff]; simp), HO.out.map HSV.out HG6.out, HB.out.grown HG6.out hsz (fun k e => by cases e; have := HMB.out; omega)⟩, by dsimp only [intOf]; omega⟩
      · have hkm : k = m := by omega
        have hk1 : ¬ (k : Int) < (m : Int) := by omega
        have hfull : (ids t0.ws).take k = ids t0.ws := by rw [hkm, ← HL.out, List.take_length]
        rw [hfull] at HSV
        obtain ⟨wo, hwo⟩ : ∃ wo, wr = wo := ⟨_, rfl⟩
        rw [hwo] at HSV HB hsz HO ⊢
        clear hwo wr hfull
        have hmm := @run_makeMap Tryd.prog
        go_wp2
        clear hmm
        obtain ⟨w6, mc, e1, e2, hm6, hb6⟩ : ∃ (w6 : World) (mc : Nat), wo.alloc (.map #[] 0) = w6 ∧ wo.heap.size = mc ∧ SV w6 mc 0 (fun _ => false) ∧ Below wo.heap.size wo w6 := ⟨_, _, rfl, rfl, by have := MapV.made wo Tryd.prog 3; rw [setM_none] at this; exact this, below_alloc (Below.refl _ _) _⟩
        rw [e1, e2]
        have HMC := Lib.hid e2
        have HC6 := Lib.hid hm6
        have HV6 := Lib.hid (HSV.out.below hb6)
        have HB6 := Lib.hid (HB.out.trans (hb6.mono hsz))
        have hbc : mb < mc := by have := HSV.out.lt; omega
        have HCOL := Lib.hid (Col.start t0)
        obtain ⟨i1, hi1', hy0, hy1, hy2⟩ := info_parts infoI
        have HI1 := Lib.hid hi1'
        have HY0 := Lib.hid hy0
        have HY1 := Lib.hid hy1
        have HY2 := Lib.hid hy2
        have HGH := Lib.hid (show ∀ c ∈ t0.hs, GoodC c from fun c hc => HGD.out.good c (List.mem_append_left _ hc))
        clear e1 e2 hm6 hb6 hi1' hy0 hy1 hy2
        go_loopw [7, 37] (fun nv i wr => ∃ (k : Nat) (next : List Int), k ≤ n ∧ i = .int .i64 k ∧ OwnI wr w2.heap.size nv next ∧ Col t0 ((opsP (xs.take k)).map (·.owner)) next ∧ SV wr mc k (fun x => decide (x ∈ next)) ∧ SV wr mb m (fun x => decide (x ∈ ids t0.ws)) ∧ Below w2.heap.size w2 wr ∧ Hid (next.length ≤ k)) (fun _ i _ => n - (intOf i).toNat)
        case atStart => exact ⟨0, [], Nat.zero_le _, rfl, OwnI.nil _ _, by simpa [opsP] using HCOL.out, by simpa using HC6.out, by rw [← hkm]; exact HV6.out, HB6.out, Lib.hid (by simp)⟩
        case round =>
          obtain ⟨k2, next, hk2, rfl, hon, hcol, hsc, hsv, hb7, hnl⟩ := hrel
          have HON := Lib.hid hon
          have HCL := Lib.hid hcol
          have HSC := Lib.hid hsc
          have HSV7 := Lib.hid hsv
          have HB7 := Lib.hid hb7
          have hsz7 := hb7.size
          clear hon hcol hsc hsv hb7
          by_cases hlt2 : k2 < n
          · obtain ⟨b, off, o, rfl, hx⟩ := HS.out.at_ hlt2
            have HSW := Lib.hid ((HS.out.below HB2.out).below HB7.out)
            have HR := Lib.hid (orow HSW.out hx)
            have HX := Lib.hid (owners_take hx)
            have HKY := Lib.hid (keyOf_int_mk (P := Tryd.prog) (k := 3) Tryd.underlying3 (HWF.out o (List.mem_of_getElem? hx)))
            clear hx
            go_upto_region 17 with (refine wpList_load_cells rfl tO (.tmp 39) rfl ⟨b, off + k2 * 4, none⟩ rfl _ _ HR.out Tryd.underlying32 rfl hlenO ?_)
            obtain ⟨w8, g8, e1, e2, hb8, h8⟩ := obox1 wr o
            rw [e1, e2]
            have HB8 := Lib.hid (HB7.out.trans (hb8.mono hsz7))
            have HON8 := Lib.hid (HON.out.below hb8)
            have HSC8 := Lib.hid (HSC.out.below hb8)
            have HSV8 := Lib.hid (HSV7.out.below hb8)
            have H8 := Lib.hid h8
            obtain ⟨-, y1, -, -⟩ := obox h8
            clear e1 e2 hb8 h8
            go_wp2_with fail
            refine (clHeld w.heap.size p t0 F o.p.owner w8 (HM2.out.below HB8.out) (by omega) HGH.out).mono ?_
            rintro e w9 ⟨v9, rfl, ho9, hb9⟩
            obtain ⟨A9, c9, rfl, -, -⟩ := ho9.cells
            have HB9 := Lib.hid (HB8.out.trans (hb9.mono HB8.out.size))
            have HON9 := Lib.hid (HON8.out.below hb9)
            have HSC9 := Lib.hid (HSC8.out.below hb9)
            have HSV9 := Lib.hid (HSV8.out.below hb9)
            have H9 := Lib.hid (H8.out.below hb9)
            obtain ⟨-, z1, -, -⟩ := obox H9.out
            have hsz9 := HB9.out.size
            clear ho9 hb9 y1
            by_cases hh : heldP t0 o.p.owner = []
            · have hl0 : ¬ (0 : Int) < ((heldP t0 o.p.owner).length : Int) := by rw [hh]; simp
              have HH := Lib.hid hh
              clear hh
              go_wp2
              go_roundw
              case rel => exact ⟨k2 + 1, next, hlt2, by simp, HON9.out, by rw [HX.out]; exact HCL.out.skip (.inl HH.out), HSC9.out.mono (by omega), HSV9.out, HB9.out, Lib.hid (Nat.le_succ_of_le hnl.out)⟩
              case measure => dsimp only [intOf]; omega
            · have hl0 : (0 : Int) < ((heldP t0 o.p.owner).length : Int) := by have := List.length_pos_iff.2 hh; omega
              have hlk := sv_look HSC9.out HKY.out
              have HH := Lib.hid hh
              clear hh
              by_cases hin : o.p.owner ∈ next
              · have hdn : decide (o.p.owner ∈ next) = true := decide_eq_true hin
                have HIN := Lib.hid hin
                rw [hdn] at hlk
                clear hin hdn
                go_wp2
                go_roundw
                case rel => exact ⟨k2 + 1, next, hlt2, by simp, HON9.out, by rw [HX.out]; exact HCL.out.skip (.inr HIN.out), HSC9.out.mono (by omega), HSV9.out, HB9.out, Lib.hid (Nat.le_succ_of_le hnl.out)⟩
                case measure => dsimp only [intOf]; omega
              · have hdn : decide (o.p.owner ∈ next) = false := decide_eq_false hin
                have HIN := Lib.hid hin
                have hnl1 : next.length ≤ 1000000 := by have := hnl.out; omega
                rw [hdn] at hlk
                clear hin hdn
                go_wp2_with (first | (refine wpList_mapV_put rfl (.tmp 54) (.tmp 56) _ _ rfl (int_keyed Tryd.underlying3) Tryd.underlying27 rfl HSC9.out (by unfold maxLen; omega) _ _ _ rfl rfl HKY.out ?_; intro w10 hm10 hg10; have HM10 := Lib.hid hm10; have HG10 := Lib.hid hg10; have HON10 := Lib.hid (HON9.out.map HSC9.out hg10); have HSV10 := Lib.hid (HSV9.out.kept hg10 (fun e => by cases e; omega)); have HB10 := Lib.hid (HB9.out.grown hg10 hsz9 (fun k e => by cases e; have := HMB.out; omega)); have hsz10 := HB10.out.size; have k1 := ((H9.out.grown hg10 (fun e => by cases e; exact HSC9.out.noBlk H9.out)).cell 1); simp [oa] at k1; clear hm10 hg10) | (at_builtin; refine wpList_append_int rfl (.tmp 57) (.tmp 60) _ rfl w2.heap.size i1 _ Tryd.underlying28 HI1.out HY0.out HY1.out HY2.out rfl u7 next rfl (HON10.out.alloc _) o.p.owner w10.heap.size 1 rfl (World.cell?_alloc_mark w10 _ 3 (0, 0) 0) hnl1 (by simp; omega) ?_; intro v11 w11 hown11 hg11 hat11; have HO11 := Lib.hid hown11; have HG11 := Lib.hid hg11; clear hown11 hg11 hat11))
                refine ⟨⟨k2 + 1, next ++ [o.p.owner], hlt2, by simp, HO11.out, by rw [HX.out]; exact HCL.out.take HH.out HIN.out, SV.of_put ((HM10.out.alloc _).kept HG11.out ?_) (fun x => by rw [Bool.eq_iff_iff]; simp), (HSV10.out.alloc _).kept HG11.out ?_, (HB10.out.alloc hsz10 _).grown HG11.out (by simp; omega) (fun k e => (HON10.out.lt k e).1), Lib.hid (by simp; exact hnl.out)⟩, by dsimp only [intOf]; omega⟩
                · intro e
                  obtain ⟨cs, hb⟩ := HON10.out.own mc e.symm
                  exact HM10.out.noBlk hb
                · intro e
                  obtain ⟨cs, hb⟩ := HON10.out.own mb e.symm
                  exact HSV10.out.noBlk hb
          · have hkn : k2 = n := by omega
            have hk21 : ¬ (k2 : Int) < (n : Int) := by omega
            have HMV := Lib.hid (show Mv t0 next from by
              have h1 := HCL.out
              rw [hkn, List.take_of_length_le (by rw [HLN.out]; exact Nat.le_refl _)] at h1
              exact h1.mv HGD.out.inv (met_all HGD.out))
            have HOF := Lib.hid ((HON.out.base hsz2).off)
            have HTT := Lib.hid (HM2.out.below HB7.out)
            have HBW := Lib.hid (HB2.out.trans (HB7.out.mono hsz2))
            have HNF := Lib.hid (show ¬ F mb from fun h => by have h1 := (HM2.out.ge h).2; have h2 := HMB.out; omega)
            have h40 : (t0.hs ++ t0.ws).length ≤ 40 := by rw [List.length_append]; omega
            obtain ⟨wo2, hwo2⟩ : ∃ wo2, wr = wo2 := ⟨_, rfl⟩
            rw [hwo2] at HOF HTT HBW HSV7 hsz7 ⊢
            clear hwo2 wr HON HSC HB7 HCL
            go_wp2
            go_loopw [7, 11] (fun nv iv wr => ∃ (cnt : Nat) (t : T) (F : Nat → Prop) (next : List Int), iv = .int .i64 cnt ∧ TT wr w.heap.size p t F ∧ Mv t next ∧ Hid (P43.Good t (opsP xs)) ∧ OffI wr w.heap.size nv next ∧ SV wr mb m (fun x => decide (x ∈ ids t.ws)) ∧ Hid (¬ F mb) ∧ Below w.heap.size w wr ∧ Hid (cnt + (t.hs ++ t.ws).length ≤ 40)) (fun _ iv _ => 100 - (intOf iv).toNat)
            case atStart => exact ⟨0, t0, F, next, rfl, HTT.out, HMV.out, HGD.out, HOF.out, HSV7.out, HNF.out, HBW.out, Lib.hid (by omega)⟩
            case round =>
              obtain ⟨cnt, t, F7, next7, rfl, htt, hmv, hgd, hof, hsv, hnf, hbw, hcnt⟩ := hrel
              have HT := Lib.hid htt
              have HMV7 := Lib.hid hmv
              have HOF7 := Lib.hid hof
              have HSV8 := Lib.hid hsv
              have HB8 := Lib.hid hbw
              have hsz8 := hbw.size
              have hlen8 := Good.lens hgd.out
              have hc40 : cnt ≤ 40 := by have := hcnt.out; omega
              clear htt hmv hof hsv hbw
              cases next7 with
              | nil =>
                obtain ⟨A9, c9, hv9⟩ : ∃ A9 c9, u7 = .slice A9 0 c9 := by
                  rcases HOF7.out with ⟨h, _⟩ | ⟨g, o, cap, cur, h, _⟩
                  · exact ⟨_, _, h⟩
                  · exact ⟨_, _, h⟩
                subst hv9
                have hws : t.ws = [] := HMV7.out.done
                have HWS := Lib.hid (show ids t.ws = [] from by rw [hws]; rfl)
                clear hws
                go_wp2_with fail
                refine (clWaitingT w.heap.size p t F7 wr HT.out (by omega)).mono ?_
                rw [HWS.out]
                rintro e w10 ⟨v10, rfl, ho10, hb10⟩
                obtain ⟨A10, c10, rfl, -, -⟩ := ho10.at_
                have HB10 := Lib.hid (HB8.out.trans (hb10.mono hsz8))
                have HSV10 := Lib.hid (HSV8.out.below hb10)
                clear ho10 hb10
                simp only [List.length_nil]
                have hln : ∀ ty, (Builtin.len_ #[27] ty #[.map (some mb)]).run Tryd.prog w10 = .ok (.int .i64 0) w10 := by
                  intro ty
                  obtain ⟨D, h1, h2, h3⟩ := HSV10.out.own
                  have h4 := h1.len Tryd.underlying27 ty
                  have h5 := setM_keys (S := fun x => decide (x ∈ ids t.ws)) (l := []) (fun x => by rw [HWS.out]) (by simp)
                  have h6 := size_keys h1 (int_keyed Tryd.underlying3) h2 h5.1 h5.2
                  rw [h6] at h4
                  exact h4
                go_wp2
                go_ret
                exact ⟨rfl, HB10.out⟩
              | cons nid rest =>
                obtain ⟨g, o, cap, cur, hv, hBg, hblk, hcap, hcm, hc0, hoff, hoff1⟩ := HOF7.out.cons
                subst hv
                obtain ⟨e1, e2, e3, e4⟩ := HMV7.out.next
                have HE1 := Lib.hid e1
                have HMV9 := Lib.hid e2
                have HX6 := Lib.hid e3
                have HLT6 := Lib.hid e4
                have HBG := Lib.hid hblk
                have HOFF := Lib.hid hoff
                have HOFF1 := Lib.hid hoff1
                obtain ⟨lr, hlr⟩ : ∃ lr, rest.length = lr := ⟨_, rfl⟩
                have HLR := Lib.hid hlr
                rw [hlr] at hcap HOF7 ⊢
                have hlp : (0 : Int) < ((lr + 1 : Nat) : Int) := by omega
                have hc100 : (cnt : Int) < 100 := by omega
                clear e1 e2 e3 e4 hblk hoff hoff1 hlr
                go_wp2_with fail
                refine (clRelease w.heap.size p t F7 nid wr HT.out (by omega)).mono ?_
                obtain ⟨t6, ht6⟩ : ∃ t6, (releaseP t nid).1 = t6 := ⟨_, rfl⟩
                obtain ⟨more, hmore⟩ : ∃ more, (releaseP t nid).2.1 = more := ⟨_, rfl⟩
                have hgd6 := Lib.hid (good_release hgd.out nid)
                unfold LoPost
                rw [ht6] at HMV9 HX6 HLT6 hgd6 ⊢
                rw [hmore] at HMV9 HX6 ⊢
                rw [HE1.out]
                rintro e w6' ⟨⟨v6, rfl, ho6⟩, F6, hm6, hc6⟩
                obtain ⟨A6, c6, rfl, hl6, -⟩ := ho6.at_
                have HT6 := Lib.hid hm6
                have HBG6 := Lib.hid (show Blk w6' g 3 cur from (hc6.block g HBG.out.lt (HT.out.notBlk HBG.out)).trans HBG.out)
                have HOF6 := Lib.hid (HOF7.out.over HT.out hc6)
                have HSV6 := Lib.hid (HSV8.out.block (hc6.block mb HSV8.out.lt hnf.out))
                have hnf6 := Lib.hid (hc6.out HSV8.out.lt hnf.out)
                have HOA := Lib.hid (show cap ≠ 1 → OffI w6' w.heap.size (.slice (some ⟨g, o + 1, none⟩) rest.length (cap - 1)) rest from fun h => (HOFF.out h).over HT.out hc6)
                have HOB := Lib.hid (show cap = 1 → rest = [] ∧ OffI w6' w.heap.size (.slice (some ⟨g, o, none⟩) 0 0) rest from fun h => ⟨(HOFF1.out h).1, (HOFF1.out h).2.over HT.out hc6⟩)
                have HB6 := Lib.hid (HB8.out.trans (hc6.below (B := w.heap.size) (fun k hk => (HT.out.ge hk).1) hsz8))
                have hsz6 := HB6.out.size
                have HGL := Lib.hid HBG.out.lt
                obtain ⟨w4', hw4'⟩ : ∃ w4', wr = w4' := ⟨_, rfl⟩
                rw [hw4'] at ho6 HT HSV8 HB8 hsz8 HGL HOF7 HBG hc0
                obtain ⟨m6, hm6l⟩ : ∃ m6, more.length = m6 := ⟨_, rfl⟩
                rw [hm6l] at ho6 hl6 ⊢
                have HL6 := Lib.hid hm6l
                have HO6 := Lib.hid ho6
                have hm663 : m6 ≤ 9223372036854775807 := by unfold maxLen at hl6; omega
                have HWM := Lib.hid (show ∀ y ∈ more, (Lit.int .i64 y).wf = true from fun y hy => by
                  have h1 : heldP t6 y ≠ [] := (HMV9.out.all y).1 (List.mem_append_right _ hy)
                  obtain ⟨cy, hcy, rfl, _⟩ := held_some h1
                  exact wf_run HWF.out hgd6.out cy (List.mem_append_left _ hcy))
                have hmlen : rest.length + more.length ≤ 1000000 := by
                  have h1 : (rest ++ more).length ≤ (t6.hs).length := by
                    have h2 : (rest ++ more).Subset (ids t6.hs) := fun y hy => by
                      obtain ⟨cy, hcy, rfl, _⟩ := held_some ((HMV9.out.all y).1 hy)
                      exact mem_ids hcy
                    have h3 := nodup_len HMV9.out.once h2
                    unfold ids at h3
                    rw [List.length_map] at h3
                    exact h3
                  have h4 := Good.lens hgd6.out
                  rw [List.length_append] at h1
                  omega
                have hbB : w.heap.size ≤ w6'.heap.size := hsz6
                clear hm6 hc6 ho6 hm6l hl6 HOFF HOFF1 hw4' wr ht6 hmore hc0
                by_cases hcap1 : cap = 1
                · obtain ⟨hr0, hof0⟩ := HOB.out hcap1
                  have HF0 := Lib.hid (show OffI w6' w.heap.size (.slice (some ⟨g, o, none⟩) 0 0) rest from hof0)
                  have hlr0 : lr = 0 := by rw [← HLR.out, hr0]; rfl
                  have HR0 := Lib.hid hr0
                  have HLR0 := Lib.hid (show (Value.slice (some ⟨g, o, none⟩) 0 0) = .slice (some ⟨g, o, none⟩) rest.length 0 from by rw [hr0]; rfl)
                  subst hlr0
                  subst hcap1
                  clear hr0 hof0 HOA HOB
                  go_wp2_with (at_builtin; refine wpList_append_off rfl (.tmp 83) (.tmp 84) _ rfl i1 _ Tryd.underlying28 HI1.out HY0.out HY1.out HY2.out rfl w.heap.size w4'.heap.size g o 0 rest more _ rfl HLR0.out HF0.out _ rfl HO6.out hmlen hbB ?_; intro v9 w9 ho9 hg9)
                  have HA9 := Lib.hid ho9
                  have HG9 := Lib.hid hg9
                  have HT9 := Lib.hid (HT6.out.grown hg9 (fun k e => by cases e; exact HT6.out.notBlk HBG6.out))
                  have HSV9 := Lib.hid (HSV6.out.kept hg9 (fun e => by cases e; exact HSV6.out.noBlk HBG6.out))
                  have HO9 := Lib.hid (HO6.out.kept hg9 (by
                    rcases hvk : (Value.slice A6 m6 c6).ownBlock with _ | kk
                    · exact .inl rfl
                    · exact .inr (fun e => by have h1 := (HO6.out.lt kk hvk).1; have h2 := HGL.out; cases e; omega)))
                  have HB9 := Lib.hid (HB6.out.grown hg9 hsz6 (fun k e => by cases e; exact hBg))
                  have hsz9 := HB9.out.size
                  clear ho9 hg9
                  go_wp2
                  go_loopw [88] (fun i wr => ∃ j : Nat, j ≤ m6 ∧ i = .int .i64 j ∧ TT wr w.heap.size p t6 F6 ∧ OffI wr w.heap.size v9 (rest ++ more) ∧ OwnI wr w4'.heap.size (.slice A6 m6 c6) more ∧ SV wr mb m (fun x => decide (x ∈ ids t.ws) && !decide (x ∈ more.take j)) ∧ Below w.heap.size w wr) (fun i _ => m6 - (intOf i).toNat)
                  case atStart => exact ⟨0, Nat.zero_le _, rfl, HT9.out, HA9.out, HO9.out, HSV9.out.ext (fun x => by simp), HB9.out⟩
                  case round =>
                    obtain ⟨j, hj, rfl, htt, hof, hoo, hsv, hbw⟩ := hrel
                    have HTL := Lib.hid htt
                    have HOL := Lib.hid hof
                    have HOO := Lib.hid hoo
                    have HSL := Lib.hid hsv
                    have HBL := Lib.hid hbw
                    have hszL := hbw.size
                    clear htt hof hoo hsv hbw
                    by_cases hltj : j < m6
                    · obtain ⟨y, hy⟩ : ∃ y, more[j]? = some y := ⟨_, List.getElem?_eq_getElem (by rw [HL6.out]; exact hltj)⟩
                      obtain ⟨A8, c8, he8, -, hat8⟩ := HOO.out.at_
                      injection he8 with he81 he82 he83
                      subst he81
                      obtain ⟨b8, hA8, hc8⟩ := hat8 j y hy
                      cases hA8
                      have HY := Lib.hid hy
                      have HKY := Lib.hid (keyOf_int_mk (P := Tryd.prog) (k := 3) Tryd.underlying3 (HWM.out y (List.mem_of_getElem? hy)))
                      have hj1 : (j : Int) < (m6 : Int) := by omega
                      have hj2 : (0 : Int) ≤ (j : Int) := by omega
                      clear hy hat8 he82 he83
                      go_wp2_with (refine wpList_mapV_del rfl (.tmp 92) (.tmp 93) _ rfl (int_keyed Tryd.underlying3) Tryd.underlying27 rfl HSL.out _ _ rfl HKY.out ?_; intro w10 hm10 hg10; have HM10 := Lib.hid hm10; have HG10 := Lib.hid hg10; clear hm10 hg10)
                      exact ⟨⟨j + 1, hltj, by simp, HTL.out.grown HG10.out (fun k e => by cases e; exact hnf6.out), HOL.out.map HSL.out HG10.out, HOO.out.map HSL.out HG10.out, SV.of_del HM10.out (fun x => by rw [take_snoc HY.out, Bool.eq_iff_iff]; simp; exact and_assoc.symm), HBL.out.grown HG10.out hszL (fun k e => by cases e; have h1 := HMB.out; have h2 := hsz2; omega)⟩, by dsimp only [intOf]; omega⟩
                    · have hjm : j = m6 := by omega
                      have hj1 : ¬ (j : Int) < (m6 : Int) := by omega
                      have HSE := Lib.hid (show SV wr mb m (fun x => decide (x ∈ ids t6.ws)) from HSL.out.ext (fun x => by
                        rw [hjm, ← HL6.out, List.take_length, Bool.eq_iff_iff]
                        simp only [decide_eq_true_eq, Bool.and_eq_true, Bool.not_eq_true', decide_eq_false_iff_not]
                        exact HX6.out x))
                      go_wp2
                      go_roundw
                      case rel => exact ⟨cnt + 1, t6, F6, rest ++ more, by simp, HTL.out, HMV9.out, hgd6, HOL.out, HSE.out, hnf6, HBL.out, Lib.hid (by have h1 := hcnt.out; have h2 := HLT6.out; omega)⟩
                      case measure => dsimp only [intOf]; omega
                · have hcap2 : ¬ (cap : Int) = 1 := by omega
                  have HF0 := Lib.hid (show OffI w6' w.heap.size (.slice (some ⟨g, o + 1, none⟩) lr (cap - 1)) rest from by rw [← HLR.out]; exact HOA.out hcap1)
                  have HLR0 := Lib.hid (show (Value.slice (some ⟨g, o + 1, none⟩) lr (cap - 1)) = .slice (some ⟨g, o + 1, none⟩) rest.length (cap - 1) from by rw [HLR.out])
                  clear HOA HOB
                  go_wp2_with (at_builtin; refine wpList_append_off rfl (.tmp 83) (.tmp 84) _ rfl i1 _ Tryd.underlying28 HI1.out HY0.out HY1.out HY2.out rfl w.heap.size w4'.heap.size g (o + 1) (cap - 1) rest more _ rfl HLR0.out HF0.out _ rfl HO6.out hmlen hbB ?_; intro v9 w9 ho9 hg9)
                  have HA9 := Lib.hid ho9
                  have HG9 := Lib.hid hg9
                  have HT9 := Lib.hid (HT6.out.grown hg9 (fun k e => by cases e; exact HT6.out.notBlk HBG6.out))
                  have HSV9 := Lib.hid (HSV6.out.kept hg9 (fun e => by cases e; exact HSV6.out.noBlk HBG6.out))
                  have HO9 := Lib.hid (HO6.out.kept hg9 (by
                    rcases hvk : (Value.slice A6 m6 c6).ownBlock with _ | kk
                    · exact .inl rfl
                    · exact .inr (fun e => by have h1 := (HO6.out.lt kk hvk).1; have h2 := HGL.out; cases e; omega)))
                  have HB9 := Lib.hid (HB6.out.grown hg9 hsz6 (fun k e => by cases e; exact hBg))
                  have hsz9 := HB9.out.size
                  clear ho9 hg9
                  go_wp2
                  go_loopw [88] (fun i wr => ∃ j : Nat, j ≤ m6 ∧ i = .int .i64 j ∧ TT wr w.heap.size p t6 F6 ∧ OffI wr w.heap.size v9 (rest ++ more) ∧ OwnI wr w4'.heap.size (.slice A6 m6 c6) more ∧ SV wr mb m (fun x => decide (x ∈ ids t.ws) && !decide (x ∈ more.take j)) ∧ Below w.heap.size w wr) (fun i _ => m6 - (intOf i).toNat)
                  case atStart => exact ⟨0, Nat.zero_le _, rfl, HT9.out, HA9.out, HO9.out, HSV9.out.ext (fun x => by simp), HB9.out⟩
                  case round =>
                    obtain ⟨j, hj, rfl, htt, hof, hoo, hsv, hbw⟩ := hrel
                    have HTL := Lib.hid htt
                    have HOL := Lib.hid hof
                    have HOO := Lib.hid hoo
                    have HSL := Lib.hid hsv
                    have HBL := Lib.hid hbw
                    have hszL := hbw.size
                    clear htt hof hoo hsv hbw
                    by_cases hltj : j < m6
                    · obtain ⟨y, hy⟩ : ∃ y, more[j]? = some y := ⟨_, List.getElem?_eq_getElem (by rw [HL6.out]; exact hltj)⟩
                      obtain ⟨A8, c8, he8, -, hat8⟩ := HOO.out.at_
                      injection he8 with he81 he82 he83
                      subst he81
                      obtain ⟨b8, hA8, hc8⟩ := hat8 j y hy
                      cases hA8
                      have HY := Lib.hid hy
                      have HKY := Lib.hid (keyOf_int_mk (P := Tryd.prog) (k := 3) Tryd.underlying3 (HWM.out y (List.mem_of_getElem? hy)))
                      have hj1 : (j : Int) < (m6 : Int) := by omega
                      have hj2 : (0 : Int) ≤ (j : Int) := by omega
                      clear hy hat8 he82 he83
                      go_wp2_with (refine wpList_mapV_del rfl (.tmp 92) (.tmp 93) _ rfl (int_keyed Tryd.underlying3) Tryd.underlying27 rfl HSL.out _ _ rfl HKY.out ?_; intro w10 hm10 hg10; have HM10 := Lib.hid hm10; have HG10 := Lib.hid hg10; clear hm10 hg10)
                      exact ⟨⟨j + 1, hltj, by simp, HTL.out.grown HG10.out (fun k e => by cases e; exact hnf6.out), HOL.out.map HSL.out HG10.out, HOO.out.map HSL.out HG10.out, SV.of_del HM10.out (fun x => by rw [take_snoc HY.out, Bool.eq_iff_iff]; simp; exact and_assoc.symm), HBL.out.grown HG10.out hszL (fun k e => by cases e; have h1 := HMB.out; have h2 := hsz2; omega)⟩, by dsimp only [intOf]; omega⟩
                    · have hjm : j = m6 := by omega
                      have hj1 : ¬ (j : Int) < (m6 : Int) := by omega
                      have HSE := Lib.hid (show SV wr mb m (fun x => decide (x ∈ ids t6.ws)) from HSL.out.ext (fun x => by
                        rw [hjm, ← HL6.out, List.take_length, Bool.eq_iff_iff]
                        simp only [decide_eq_true_eq, Bool.and_eq_true, Bool.not_eq_true', decide_eq_false_iff_not]
                        exact HX6.out x))
                      go_wp2
                      go_roundw
                      case rel => exact ⟨cnt + 1, t6, F6, rest ++ more, by simp, HTL.out, HMV9.out, hgd6, HOL.out, HSE.out, hnf6, HBL.out, Lib.hid (by have h1 := hcnt.out; have h2 := HLT6.out; omega)⟩
                      case measure => dsimp only [intOf]; omega
end Go.Proofs.YtojbddcbnnbklaaDoor
