/- The reference's Rebuild. A facility beside the reference's state; plain theorems, no function of the program in sight. -/
import Derived.Test.YtjklhiifjnmedaaGreatKmF
import Derived.Test.YtjklhiifjnmedaaGreatLkRef
import Derived.Test.YtjklhiifjnmedaaGreatKmA
namespace Go.Proofs.YtjklhiifjnmedaaGreat
open Go.RowKit P16 P46 Go.Sort
attribute [local go_sem] ByteArray.mk_append_mk ByteArray.extract_mk mk_index
attribute [local irreducible] wpQuiet

theorem okTo_no {F : P52.Fs} {ls : List Lock} {j : Nat} {x : Lock} (hj : ls[j]? = some x) (h : (validL x && P52.pres F x.unit && !((ls.take j).any fun y => conflict x y)) = false) : P52.okTo F ls ls.length = false := by
  have hlt := (List.getElem?_eq_some_iff.1 hj).1
  refine P52.okTo_le (n := j + 1) ?_ (by omega)
  rw [P52.okTo, hj]
  dsimp only
  rw [h, Bool.and_false]
theorem okTo_yes {F : P52.Fs} {ls : List Lock} {j : Nat} {x : Lock} (hj : ls[j]? = some x) (ho : P52.okTo F ls j = true) (hv : validL x = true) (hp : P52.pres F x.unit = true) (hc : ∀ (i : Nat) (y : Lock), i < j → ls[i]? = some y → conflict y x = false) : P52.okTo F ls (j + 1) = true := by
  rw [P52.okTo, hj]
  dsimp only
  rw [ho, hv, hp]
  simp only [Bool.true_and, Bool.not_eq_true', List.any_eq_false, Bool.not_eq_true]
  intro y hy
  obtain ⟨i, hi⟩ := List.mem_iff_getElem?.1 hy
  have hlt := (List.getElem?_eq_some_iff.1 hi).1
  rw [List.length_take] at hlt
  rw [List.getElem?_take] at hi
  rw [if_pos (by omega)] at hi
  rw [conflict_comm]
  exact hc i y (by omega) hi
set_option maxRecDepth 100000 in
set_option maxHeartbeats 8000000 in
theorem roRebuild (F : P52.Fs) (A : Option Addr) (n c : Nat) (ls : List Lock) (X : Nat → Prop) (v1 v2 : Value) (w : World) (ha : LocksAt w A n ls) (hn : n ≤ 80000) (hu : ∀ l ∈ ls, InR l.unit) (hh : SL w X v1 F.s.h) (hq : SL w X v2 F.s.q) (hX : ∀ b, w.heap.size ≤ b → X b) :
    Calls Tryz.prog 29 #[.agg (rcs F v1 v2), .slice A n c] w (SResC w X (P52.rebuild F ls)) := by
  have HH := Lib.hid hh
  have HQ := Lib.hid hq
  have HXX := Lib.hid hX
  have HN := Lib.hid hn
  have HU := Lib.hid hu
  have HA := Lib.hid ha
  have HLN := Lib.hid ha.len
  clear hh hq hX hu ha
  have hlenR : (Tryz.prog.info? tR).map (·.size) = some 12 := by kernel_rfl
  have hlenL : (Tryz.prog.info? 30).map (·.size) = some 6 := by kernel_rfl
  have underR := Tryz.underlying55
  cases hlo : F.lost with
  | false =>
    have HP := Lib.hid (show P52.rebuild F ls = (F, 9) from by unfold P52.rebuild; rw [if_pos hlo])
    have HLO := Lib.hid hlo
    clear hlo
    unfold rcs
    go_enter Tryz.func29, Tryz.ntmps29
    go_upto_region 1 with (fail)
    obtain ⟨w2, p, r, e1, e2, e3, hk⟩ := RB5.start F HH.out HQ.out
    unfold rcs P52.fs0 at e1
    rw [e1, e3, e2]
    have HK := Lib.hid hk
    clear e1 e2 e3 hk
    have d10 := (rcells52 HK.out.box).2.2.2.2.2.2.2.2.2.2.1
    rw [HLO.out] at d10
    go_wp2_with (first | (refine wpList_load_row rfl tR (.tmp 2) rfl p rfl tR _ (0, 0) _ HK.out.box underR rfl (by kernel_rfl) ?_) | (refine wpList_store_row rfl tR (.tmp 4) (.tmp 11) rfl r _ rfl rfl tR _ HK.out.res hlenR rfl (rcs_one HK.out.slices) ?_))
    obtain ⟨w9, e9, h1, h2, h3, h4⟩ := HK.out.end_; rw [e9]; clear e9
    obtain ⟨c0, c1, c2, c3, c4, c5, c6, c7, c8, c9, c10, c11⟩ := rcells52 h1
    rw [HP.out]
    exact bodyPost_ret (v := .tuple #[.agg (rcs F v1 v2), .int .i64 9]) (by simp [results, Tryz.results29, go_sem, c0, c1, c2, c3, c4, c5, c6, c7, c8, c9, c10, c11, rcs]) rfl ⟨_, _, rfl, h2, h3, h4⟩
  | true =>
    have HPB := Lib.hid (show P52.okTo F ls ls.length = false → P52.rebuild F ls = (F, 1) from fun h => by unfold P52.rebuild; rw [if_neg (by rw [hlo]; decide), if_neg (by rw [h]; decide)])
    have HPG := Lib.hid (show P52.okTo F ls ls.length = true → P52.rebuild F ls = (⟨F.ep, F.cn, ⟨newL ls, []⟩, false, F.fast⟩, 0) from fun h => by unfold P52.rebuild; rw [if_neg (by rw [hlo]; decide), if_pos h])
    have HLO := Lib.hid hlo
    clear hlo
    unfold rcs
    go_enter Tryz.func29, Tryz.ntmps29
    go_upto_region 1 with (fail)
    obtain ⟨w2, p, r, e1, e2, e3, hk⟩ := RB5.start F HH.out HQ.out
    unfold rcs P52.fs0 at e1
    rw [e1, e3, e2]
    have HK := Lib.hid hk
    clear e1 e2 e3 hk
    have d10 := (rcells52 HK.out.box).2.2.2.2.2.2.2.2.2.2.1
    rw [HLO.out] at d10
    go_wp2
    clear d10
    go_loopw [6] (fun i wr => ∃ j : Nat, j ≤ n ∧ i = .int .i64 j ∧ Hid (P52.okTo F ls j = true) ∧ RB5 w wr p r X F v1 v2) (fun i _ => n - (intOf i).toNat)
    case atStart => exact ⟨0, Nat.zero_le _, rfl, rfl, HK.out⟩
    case round =>
      obtain ⟨j, hj, rfl, hok, hk5⟩ := hrel
      have HK5 := Lib.hid hk5
      clear hk5
      by_cases hlt : j < n
      · have hs := HA.out.below HK5.out.low
        obtain ⟨b, off, x, rfl, hx, -⟩ := hs.at_ hlt
        have HX := Lib.hid hx
        have HR := Lib.hid (hs.row hx)
        have HUX := Lib.hid (HU.out x (List.mem_iff_getElem?.2 ⟨j, hx⟩))
        have HVL := Lib.hid (fun W => refValid x W)
        have HPR := Lib.hid (fun v1 v2 W => roPresent F v1 v2 x.unit HUX.out W)
        have k0 : (0 : Int) ≤ (j : Int) := by omega
        have k1 : (j : Int) < (n : Int) := by omega
        clear hs hx
        obtain ⟨w0, hw0⟩ : ∃ w0, w0 = wr := ⟨_, rfl⟩
        subst hw0
        go_upto_region 6 with (fail)
        obtain ⟨c0, c1, c2, c3, c4, c5, c6, c7, c8, c9, c10, c11⟩ := rcells52 HK5.out.box
        have RU : ∀ d os, (grow (redrawn w0 d) os).cell? ⟨b, off + j * 6, none⟩ = some (.int .i64 x.unit) := fun d os => cell_regrown (rcells HR.out).1 d os
        have R0 : ∀ d os, (grow (redrawn w0 d) os).cell? ⟨p, 0, none⟩ = some (.int .i64 (F.ep 1)) := fun d os => cell_regrown c0 d os
        have R1 : ∀ d os, (grow (redrawn w0 d) os).cell? ⟨p, 1, none⟩ = some (.int .i64 (F.ep 2)) := fun d os => cell_regrown c1 d os
        have R2 : ∀ d os, (grow (redrawn w0 d) os).cell? ⟨p, 2, none⟩ = some (.int .i64 (F.ep 3)) := fun d os => cell_regrown c2 d os
        have R3 : ∀ d os, (grow (redrawn w0 d) os).cell? ⟨p, 3, none⟩ = some (.int .i64 (F.ep 4)) := fun d os => cell_regrown c3 d os
        have R4 : ∀ d os, (grow (redrawn w0 d) os).cell? ⟨p, 4, none⟩ = some (.bool (F.cn 1)) := fun d os => cell_regrown c4 d os
        have R5 : ∀ d os, (grow (redrawn w0 d) os).cell? ⟨p, 5, none⟩ = some (.bool (F.cn 2)) := fun d os => cell_regrown c5 d os
        have R6 : ∀ d os, (grow (redrawn w0 d) os).cell? ⟨p, 6, none⟩ = some (.bool (F.cn 3)) := fun d os => cell_regrown c6 d os
        have R7 : ∀ d os, (grow (redrawn w0 d) os).cell? ⟨p, 7, none⟩ = some (.bool (F.cn 4)) := fun d os => cell_regrown c7 d os
        have R8 : ∀ d os, (grow (redrawn w0 d) os).cell? ⟨p, 8, none⟩ = some v1 := fun d os => cell_regrown c8 d os
        have R9 : ∀ d os, (grow (redrawn w0 d) os).cell? ⟨p, 9, none⟩ = some v2 := fun d os => cell_regrown c9 d os
        have R10 : ∀ d os, (grow (redrawn w0 d) os).cell? ⟨p, 10, none⟩ = some (.bool F.lost) := fun d os => cell_regrown c10 d os
        have R11 : ∀ d os, (grow (redrawn w0 d) os).cell? ⟨p, 11, none⟩ = some (.int .i64 F.fast) := fun d os => cell_regrown c11 d os
        have MA := Lib.hid (regrown_row HR.out)
        clear c0 c1 c2 c3 c4 c5 c6 c7 c8 c9 c10 c11
        cases hval : validL x
        · rw [hval] at HVL
          have HP := Lib.hid (HPB.out (okTo_no HX.out (by rw [hval]; rfl)))
          clear hval
          refine wp_region_quiet_below (by kernel_rfl) (by kernel_rfl) ?_
          repeat (first | (refine wpQuiet_load_cells rfl 30 (.tmp 20) rfl ⟨b, off + j * 6, none⟩ rfl _ _ MA.out Tryz.underlying30 rfl hlenL ?_) | quiet_step ((first | (go_at_call 63; refine Calls.regrown_of (HVL.out _)) | (go_at_call 62; refine Calls.regrown_of (HPR.out _ _ _)))))
          refine wpQuiet_nil ?_
          intro w7 hw7
          obtain ⟨pp, rfl⟩ := hw7
          have HK7 := Lib.hid (HK5.out.below (below_regrown w0 pp.d pp.os))
          generalize grow (redrawn w0 pp.d) pp.os = w7 at HK7 ⊢
          clear RU R0 R1 R2 R3 R4 R5 R6 R7 R8 R9 R10 R11 MA
          go_wp2_with (first | (refine wpList_load_row rfl tR (.tmp 2) rfl p rfl tR _ (0, 0) _ HK7.out.box underR rfl (by kernel_rfl) ?_) | (refine wpList_store_row rfl tR (.tmp 4) (.tmp 34) rfl r _ rfl rfl tR _ HK7.out.res hlenR rfl (rcs_one HK7.out.slices) ?_))
          obtain ⟨w9, e9, h1, h2, h3, h4⟩ := HK7.out.end_; rw [e9]; clear e9
          obtain ⟨c0, c1, c2, c3, c4, c5, c6, c7, c8, c9, c10, c11⟩ := rcells52 h1
          rw [HP.out]
          exact bodyPost_ret (v := .tuple #[.agg (rcs F v1 v2), .int .i64 1]) (by simp [results, Tryz.results29, go_sem, c0, c1, c2, c3, c4, c5, c6, c7, c8, c9, c10, c11, rcs]) rfl ⟨_, _, rfl, h2, h3, h4⟩
        · rw [hval] at HVL
          cases hpr : P52.pres F x.unit
          · rw [hpr] at HPR
            have HP := Lib.hid (HPB.out (okTo_no HX.out (by rw [hval, hpr]; rfl)))
            clear hval hpr
            refine wp_region_quiet_below (by kernel_rfl) (by kernel_rfl) ?_
            repeat (first | (refine wpQuiet_load_cells rfl 30 (.tmp 20) rfl ⟨b, off + j * 6, none⟩ rfl _ _ MA.out Tryz.underlying30 rfl hlenL ?_) | quiet_step ((first | (go_at_call 63; refine Calls.regrown_of (HVL.out _)) | (go_at_call 62; refine Calls.regrown_of (HPR.out _ _ _)))))
            refine wpQuiet_nil ?_
            intro w7 hw7
            obtain ⟨pp, rfl⟩ := hw7
            have HK7 := Lib.hid (HK5.out.below (below_regrown w0 pp.d pp.os))
            generalize grow (redrawn w0 pp.d) pp.os = w7 at HK7 ⊢
            clear RU R0 R1 R2 R3 R4 R5 R6 R7 R8 R9 R10 R11 MA
            go_wp2_with (first | (refine wpList_load_row rfl tR (.tmp 2) rfl p rfl tR _ (0, 0) _ HK7.out.box underR rfl (by kernel_rfl) ?_) | (refine wpList_store_row rfl tR (.tmp 4) (.tmp 34) rfl r _ rfl rfl tR _ HK7.out.res hlenR rfl (rcs_one HK7.out.slices) ?_))
            obtain ⟨w9, e9, h1, h2, h3, h4⟩ := HK7.out.end_; rw [e9]; clear e9
            obtain ⟨c0, c1, c2, c3, c4, c5, c6, c7, c8, c9, c10, c11⟩ := rcells52 h1
            rw [HP.out]
            exact bodyPost_ret (v := .tuple #[.agg (rcs F v1 v2), .int .i64 1]) (by simp [results, Tryz.results29, go_sem, c0, c1, c2, c3, c4, c5, c6, c7, c8, c9, c10, c11, rcs]) rfl ⟨_, _, rfl, h2, h3, h4⟩
          · rw [hpr] at HPR
            have HVP := Lib.hid (And.intro hval hpr)
            clear hval hpr
            refine wp_region_quiet_below (by kernel_rfl) (by kernel_rfl) ?_
            repeat (first | (refine wpQuiet_load_cells rfl 30 (.tmp 20) rfl ⟨b, off + j * 6, none⟩ rfl _ _ MA.out Tryz.underlying30 rfl hlenL ?_) | quiet_step ((first | (go_at_call 63; refine Calls.regrown_of (HVL.out _)) | (go_at_call 62; refine Calls.regrown_of (HPR.out _ _ _)))))
            refine wpQuiet_nil ?_
            intro w7 hw7
            obtain ⟨pp, rfl⟩ := hw7
            have HK7 := Lib.hid (HK5.out.below (below_regrown w0 pp.d pp.os))
            generalize grow (redrawn w0 pp.d) pp.os = w7 at HK7 ⊢
            clear RU R0 R1 R2 R3 R4 R5 R6 R7 R8 R9 R10 R11 MA
            go_wp2
            go_loopw [7] (fun t wr => ∃ k : Nat, k ≤ j ∧ t = .int .i64 k ∧ Hid (∀ (i : Nat) (y : Lock), i < k → ls[i]? = some y → conflict y x = false) ∧ RB5 w wr p r X F v1 v2) (fun t _ => j - (intOf t).toNat)
            case atStart => exact ⟨0, Nat.zero_le _, rfl, fun i y hi => absurd hi (by omega), HK7.out⟩
            case round =>
              obtain ⟨k, hk, rfl, hall, hk8⟩ := hrel
              have HK8 := Lib.hid hk8
              clear hk8
              by_cases hkj : k < j
              · have hs := HA.out.below HK8.out.low
                obtain ⟨b', off', y, he, hy, -⟩ := hs.at_ (show k < n by omega)
                cases he
                have HY := Lib.hid hy
                have MB := Lib.hid (regrown_row (hs.row hy))
                have MC := Lib.hid (regrown_row (hs.row HX.out))
                have q0 : (0 : Int) ≤ (k : Int) := by omega
                have q1 : (k : Int) < (n : Int) := by omega
                clear hs hy
                go_upto_region 11 with (fail)
                cases hcf : conflict y x
                · have HCF := Lib.hid (show ∀ W, Calls Tryz.prog 64 #[lv y, lv x] W fun e w' => e = .returned (.bool false) ∧ Below W.heap.size W w' from fun W => by have h := refConflict y x W; rwa [hcf] at h)
                  have HCV := Lib.hid hcf
                  clear hcf
                  refine wp_region_quiet_below (by kernel_rfl) (by kernel_rfl) ?_
                  repeat (first | (refine wpQuiet_load_cells rfl 30 (.tmp 42) rfl ⟨b, off + k * 6, none⟩ rfl _ _ MB.out Tryz.underlying30 rfl hlenL ?_) | (refine wpQuiet_load_cells rfl 30 (.tmp 46) rfl ⟨b, off + j * 6, none⟩ rfl _ _ MC.out Tryz.underlying30 rfl hlenL ?_) | quiet_step ((go_at_call 64; refine Calls.regrown_of (HCF.out _))))
                  refine wpQuiet_nil ?_
                  intro w9 hw9
                  obtain ⟨pp, rfl⟩ := hw9
                  have HK9 := Lib.hid (HK8.out.below (below_regrown wr pp.d pp.os))
                  generalize grow (redrawn wr pp.d) pp.os = w9 at HK9 ⊢
                  clear MB MC
                  go_wp2
                  go_roundw
                  case rel =>
                    refine ⟨k + 1, by omega, by go_num, ?_, HK9.out⟩
                    intro i z hi hz
                    by_cases hik : i = k
                    · subst hik
                      have := HY.out.symm.trans hz
                      simp only [Option.some.injEq] at this
                      rw [← this]
                      exact HCV.out
                    · exact hall.out i z (by omega) hz
                  case measure => simp [intOf]; omega
                · have HCF := Lib.hid (show ∀ W, Calls Tryz.prog 64 #[lv y, lv x] W fun e w' => e = .returned (.bool true) ∧ Below W.heap.size W w' from fun W => by have h := refConflict y x W; rwa [hcf] at h)
                  have HP := Lib.hid (HPB.out (okTo_no HX.out (by
                    have h1 : ((ls.take j).any fun z => conflict x z) = true := List.any_eq_true.2 ⟨y, List.mem_iff_getElem?.2 ⟨k, by rw [List.getElem?_take, if_pos hkj]; exact HY.out⟩, by rw [conflict_comm]; exact hcf⟩
                    rw [h1]
                    simp)))
                  clear hcf
                  refine wp_region_quiet_below (by kernel_rfl) (by kernel_rfl) ?_
                  repeat (first | (refine wpQuiet_load_cells rfl 30 (.tmp 42) rfl ⟨b, off + k * 6, none⟩ rfl _ _ MB.out Tryz.underlying30 rfl hlenL ?_) | (refine wpQuiet_load_cells rfl 30 (.tmp 46) rfl ⟨b, off + j * 6, none⟩ rfl _ _ MC.out Tryz.underlying30 rfl hlenL ?_) | quiet_step ((go_at_call 64; refine Calls.regrown_of (HCF.out _))))
                  refine wpQuiet_nil ?_
                  intro w9 hw9
                  obtain ⟨pp, rfl⟩ := hw9
                  have HK9 := Lib.hid (HK8.out.below (below_regrown wr pp.d pp.os))
                  generalize grow (redrawn wr pp.d) pp.os = w9 at HK9 ⊢
                  clear MB MC
                  go_wp2_with (first | (refine wpList_load_row rfl tR (.tmp 2) rfl p rfl tR _ (0, 0) _ HK9.out.box underR rfl (by kernel_rfl) ?_) | (refine wpList_store_row rfl tR (.tmp 4) (.tmp 49) rfl r _ rfl rfl tR _ HK9.out.res hlenR rfl (rcs_one HK9.out.slices) ?_))
                  obtain ⟨w9, e9, h1, h2, h3, h4⟩ := HK9.out.end_; rw [e9]; clear e9
                  obtain ⟨c0, c1, c2, c3, c4, c5, c6, c7, c8, c9, c10, c11⟩ := rcells52 h1
                  rw [HP.out]
                  exact bodyPost_ret (v := .tuple #[.agg (rcs F v1 v2), .int .i64 1]) (by simp [results, Tryz.results29, go_sem, c0, c1, c2, c3, c4, c5, c6, c7, c8, c9, c10, c11, rcs]) rfl ⟨_, _, rfl, h2, h3, h4⟩
              · have hkj2 : k = j := by omega
                subst hkj2
                go_wp2
                go_roundw
                case rel => exact ⟨k + 1, by omega, by go_num, okTo_yes HX.out hok.out HVP.out.1 HVP.out.2 hall.out, HK8.out⟩
                case measure => simp [intOf]; omega
      · have hjn : j = n := by omega
        subst hjn
        have HP := Lib.hid (HPG.out (by rw [HLN.out]; exact hok.out))
        obtain ⟨-, -, -, -, -, -, -, -, d8, d9, d10, -⟩ := rcells52 HK5.out.box
        clear hok
        go_upto_region 14 with (go_at_call 65; refine (refNew A j c ls wr (HA.out.below HK5.out.low) (by omega)).mono ?_; rintro e w6 ⟨vh6, rfl, ho6, hb6⟩; have HO6 := Lib.hid ho6; have HK6 := Lib.hid (HK5.out.below hb6); have HWS := Lib.hid (HK5.out.fresh HXX.out); obtain ⟨-, -, -, -, -, -, -, -, d8, d9, d10, -⟩ := rcells52 HK6.out.box; have hfz := fun i => HK6.out.box.frozen i; have hlp := HK6.out.box.lt; obtain ⟨A6, cc6, hv6, -, -⟩ := ho6.cells; subst hv6; clear ho6 hb6)
        have HK7 := Lib.hid ((HK6.out.both (s := ⟨newL ls, []⟩) (SL.own HO6.out HWS.out) ⟨none, 0, 0, rfl, LocksAt.nil, fun _ => rfl, Nat.le_refl _, fun b off e => by cases e⟩).cell (G := ⟨F.ep, F.cn, ⟨newL ls, []⟩, false, F.fast⟩) 10 (.bool false) (by simp [rcs, P52.withS]) rfl)
        clear d8 d9 d10 hfz hlp
        generalize ((w6.setCell ⟨p, 8, none⟩ (.slice A6 (newL ls).length cc6)).setCell ⟨p, 9, none⟩ (.slice none 0 0)).setCell ⟨p, 10, none⟩ (.bool false) = w7 at HK7 ⊢
        go_wp2_with (first | (refine wpList_load_row rfl tR (.tmp 2) rfl p rfl tR _ (0, 0) _ HK7.out.box underR rfl (by kernel_rfl) ?_) | (refine wpList_store_row rfl tR (.tmp 4) (.tmp 54) rfl r _ rfl rfl tR _ HK7.out.res hlenR rfl (rcs_one HK7.out.slices) ?_))
        obtain ⟨w9, e9, h1, h2, h3, h4⟩ := HK7.out.end_; rw [e9]; clear e9
        obtain ⟨c0, c1, c2, c3, c4, c5, c6, c7, c8, c9, c10, c11⟩ := rcells52 h1
        rw [HP.out]
        exact bodyPost_ret (v := .tuple #[.agg (rcs ⟨F.ep, F.cn, ⟨newL ls, []⟩, false, F.fast⟩ (.slice A6 (newL ls).length cc6) (.slice none 0 0)), .int .i64 0]) (by simp [results, Tryz.results29, go_sem, c0, c1, c2, c3, c4, c5, c6, c7, c8, c9, c10, c11, rcs]) rfl ⟨_, _, rfl, h2, h3, h4⟩
end Go.Proofs.YtjklhiifjnmedaaGreat
namespace Go.Proofs.YtjklhiifjnmedaaGreat
open Go.RowKit P16 P46

/-- The blocks that are not the facility's, nor the one of the state's box. -/
def XS (S : Nat → Prop) (px k : Nat) : Prop := ¬ S k ∧ k ≠ px
/-- A facility F at b and the reference's state G in the box px, side by side. -/
structure K5 (W wr : World) (B b px : Nat) (F G : P52.Fs) (S : Nat → Prop) (v1 v2 : Value) : Prop where
  fac : Fac wr B b F S
  box : Blk wr px tR (rcs G v1 v2)
  held : SL wr (XS S px) v1 G.s.h
  queue : SL wr (XS S px) v2 G.s.q
  out : ¬ S px
  low : Below B W wr
  base : B ≤ wr.heap.size ∧ B ≤ px
theorem grownBy_setRow (w : World) (g : Nat) (cs : Array Value) : w.grownBy (w.setRow g cs) (some g) :=
  ⟨rfl, rfl, rfl, by simp [World.setRow], fun k _ hk => setRow_other w g k cs (fun e => hk (by rw [e]))⟩
theorem grownBy_two (w : World) (g i j : Nat) (u v : Value) : w.grownBy ((w.setCell ⟨g, i, none⟩ u).setCell ⟨g, j, none⟩ v) (some g) := by
  have h1 := grownBy_setCell w g i u
  have h2 := grownBy_setCell (w.setCell ⟨g, i, none⟩ u) g j v
  exact ⟨h2.os.trans h1.os, h2.tape.trans h1.tape, h2.output.trans h1.output, Nat.le_trans h1.size h2.size, fun k hk hn => (h2.block k (Nat.lt_of_lt_of_le hk h1.size) hn).trans (h1.block k hk hn)⟩
section
variable {W wr w' : World} {B b px : Nat} {F F' G G' : P52.Fs} {S S' : Nat → Prop} {v v1 v2 va vb : Value} {ls : List Lock} {xs : List Int}
theorem K5.below (k : K5 W wr B b px F G S v1 v2) (hb : Below wr.heap.size wr w') : K5 W w' B b px F G S v1 v2 :=
  ⟨k.fac.below hb, k.box.below hb, k.held.below hb, k.queue.below hb, k.out, k.low.trans (hb.mono k.base.1), Nat.le_trans k.base.1 hb.size, k.base.2⟩
theorem SL.chg (h : SL wr (XS S px) v ls) (c : Chg S S' wr w') : SL w' (XS S' px) v ls := by
  obtain ⟨A, n, cc, rfl, h1, h2, h3, h4⟩ := h
  refine ⟨A, n, cc, rfl, CellsAt.chg h1 c (fun b off e => (h4 b off e).2.1), h2, h3, fun b off e => ⟨Nat.lt_of_lt_of_le (h4 b off e).1 c.size, fun hs => ?_, (h4 b off e).2.2⟩⟩
  rcases c.sub b hs with h | h
  · exact (h4 b off e).2.1 h
  · have := (h4 b off e).1
    omega
/-- The facility acts. -/
theorem K5.step (k : K5 W wr B b px F G S v1 v2) (f' : Fac w' B b F' S') (c : Chg S S' wr w') : K5 W w' B b px F' G S' v1 v2 :=
  ⟨f', k.box.chg c k.out, k.held.chg c, k.queue.chg c, fun hs => (c.sub px hs).elim k.out (fun h => by have := k.box.lt; omega), k.low.trans (k.fac.below_ c k.base.1), Nat.le_trans k.base.1 c.size, k.base.2⟩
theorem K5.fresh (k : K5 W wr B b px F G S v1 v2) : ∀ z, wr.heap.size ≤ z → XS S px z := fun z hz =>
  ⟨fun hs => by have := (k.fac.ge hs).2; omega, fun e => by have := k.box.lt; omega⟩
theorem Fac.rowed {row : Nat} (f : Fac wr B b F S) (hg : wr.grownBy w' (some row)) (hr : ¬ S row) : Fac w' B b F S := by
  obtain ⟨p, nb, vh, vq, h, hs⟩ := f
  have hn : ∀ x, some row = some x → ¬ FSet wr b p nb x := fun x hx hf => hr ((hs row).2 (by injection hx with hx; rw [hx]; exact hf))
  exact ⟨p, nb, vh, vq, h.rowed hg hn, fun z => (hs z).trans (h.foot_row hg hn z).symm⟩
/-- The reference's answer is written. -/
theorem K5.put (k : K5 W wr B b px F G S v1 v2) (hg : wr.grownBy w' (some px)) (hbox : Blk w' px tR (rcs G' va vb)) (ha : SL wr (XS S px) va G'.s.h) (hb : SL wr (XS S px) vb G'.s.q) : K5 W w' B b px F G' S va vb :=
  ⟨k.fac.rowed hg k.out, hbox, ha.grown hg (fun z hz e => hz.2 (by injection e with e; exact e.symm)), hb.grown hg (fun z hz e => hz.2 (by injection e with e; exact e.symm)), k.out, k.low.grown hg k.base.1 (fun z hz => by injection hz with hz; rw [← hz]; exact k.base.2), Nat.le_trans k.base.1 hg.size, k.base.2⟩
theorem K5.putRow (k : K5 W wr B b px F G S v1 v2) (ha : SL wr (XS S px) va G'.s.h) (hb : SL wr (XS S px) vb G'.s.q) : K5 W (wr.setRow px (rcs G' va vb)) B b px F G' S va vb :=
  k.put (grownBy_setRow wr px _) (k.box.setRow _) ha hb
theorem K5.putTwo {s : St} (k : K5 W wr B b px F G S v1 v2) (ha : SL wr (XS S px) va s.h) (hb : SL wr (XS S px) vb s.q) : K5 W ((wr.setCell ⟨px, 8, none⟩ va).setCell ⟨px, 9, none⟩ vb) B b px F (P52.withS G s) S va vb :=
  k.put (grownBy_two wr px 8 9 va vb) (by simpa [rcs, P52.withS] using (k.box.put 8 va).put 9 vb) ha hb
theorem K5.slices (k : K5 W wr B b px F G S v1 v2) : slices v1 v2 := ⟨k.held.slice, k.queue.slice⟩
/-- Numbers that a call has handed back. -/
def Nums (wr : World) (B : Nat) (S : Nat → Prop) (v : Value) (xs : List Int) : Prop := OwnI wr B v xs ∧ ∀ z, v.ownBlock = some z → ¬ S z
theorem Nums.below {C : Nat} (h : Nums wr C S v xs) (hb : Below wr.heap.size wr w') : Nums w' C S v xs := ⟨h.1.below hb, h.2⟩
theorem Nums.row {C : Nat} (h : Nums wr C S v xs) {cs : Array Value} (hp : Blk wr px tR cs) (ds : Array Value) : Nums (wr.setRow px ds) C S v xs := ⟨h.1.setRowR hp (by decide) ds, h.2⟩
theorem Nums.two {C : Nat} (h : Nums wr C S v xs) {cs : Array Value} (hp : Blk wr px tR cs) (a c : Value) : Nums ((wr.setCell ⟨px, 8, none⟩ a).setCell ⟨px, 9, none⟩ c) C S v xs := ⟨h.1.setP hp (by decide) 8 9 a c, h.2⟩
end
end Go.Proofs.YtjklhiifjnmedaaGreat
