/- The walk of LockRules: Valid, Conflict and New agree with the reference. -/
import Derived.Test.YtkabfjknpjhonaaLkRNew
import Derived.Test.YtkabfjknpjhonaaLkLawC
namespace Go.Proofs.Ytkabfjknpjhonaa
open Go.RowKit P16 P46 Go.Sort
attribute [local go_sem] ByteArray.mk_append_mk ByteArray.extract_mk mk_index
attribute [local irreducible] wpQuiet

theorem run_field0 (A1 A2 : Option Addr) (n1 n2 c1 c2 : Nat) (w : World) : (Instr.field 51 (.agg #[.slice A1 n1 c1, .slice A2 n2 c2]) 0).run Try.prog w = .ok (.slice A1 n1 c1) w := by kernel_rfl
theorem run_field1 (A1 A2 : Option Addr) (n1 n2 c1 c2 : Nat) (w : World) : (Instr.field 51 (.agg #[.slice A1 n1 c1, .slice A2 n2 c2]) 1).run Try.prog w = .ok (.slice A2 n2 c2) w := by kernel_rfl
set_option maxRecDepth 100000 in
set_option maxHeartbeats 4000000 in
theorem lawRules (A : Option Addr) (n c : Nat) (ls : List Lock) (W : World) (ha : LocksAt W A n ls) (hn : n ≤ maxLen) (_hu : ∀ l ∈ ls, (Lit.int .i64 l.unit).wf = true) :
    Calls Try.prog 4 #[.slice A n c] W fun e w' => e = .returned (.bool true) ∧ Below W.heap.size W w' := by
  unfold maxLen at hn
  have HA := Lib.hid ha
  clear ha
  by_cases hm : (20 : Int) < (n : Int)
  · go_enter Try.func4, Try.ntmps4
    go_wp2_with (go_at_call 11; refine (lkAwake _).mono ?_; rintro e w3 ⟨rfl, hb3⟩; have HB3 := Lib.hid hb3; clear hb3)
    go_ret
    exact ⟨rfl, HB3.out⟩
  · have hnp := ptr_nil
    have hlenL : (Try.prog.info? 32).map (·.size) = some 6 := by kernel_rfl
    go_enter Try.func4, Try.ntmps4
    go_wp2
    go_loopw [18] (fun i wr => ∃ k : Nat, k ≤ n ∧ i = .int .i64 k ∧ Below W.heap.size W wr) (fun i _ => n - (intOf i).toNat)
    case atStart => exact ⟨0, Nat.zero_le _, rfl, Below.refl _ _⟩
    case round =>
      obtain ⟨k, hk, rfl, hbw⟩ := hrel
      have HB := Lib.hid hbw
      have hsz := hbw.size
      clear hbw
      by_cases hlt : k < n
      · have hs := HA.out.below HB.out
        obtain ⟨b, off, a, rfl, hx, -⟩ := hs.at_ hlt
        have HR := Lib.hid (hs.row hx)
        clear hs hx
        go_upto_region 6 with (refine wpList_load_cells rfl 32 (.tmp 20) rfl ⟨b, off + k * 6, none⟩ rfl _ _ HR.out Try.underlying32 rfl hlenL ?_)
        obtain ⟨w4, g4, e1, e2, hb4, h4⟩ := boxes1 wr 32 (la a)
        unfold la at e1
        rw [e1, e2]
        have HB4 := Lib.hid (HB.out.trans (hb4.mono hsz))
        obtain ⟨a0, a1, a2, a3, a4, a5⟩ := lcells h4
        clear e1 e2 hb4 h4
        by_cases hs1 : (a.r.low.length : Int) ≤ 40
        · by_cases hs2 : (a.r.high.length : Int) ≤ 40
          · go_wp2
            go_roundw
            case rel => exact ⟨k + 1, by omega, by go_num, HB4.out⟩
            case measure => simp [intOf]; omega
          · go_wp2_with (go_at_call 11; refine (lkAwake _).mono ?_; rintro e w5 ⟨rfl, hb5⟩; have HB5 := Lib.hid (HB4.out.trans (hb5.mono HB4.out.size)); clear hb5)
            go_ret
            exact ⟨rfl, HB5.out⟩
        · go_wp2_with (go_at_call 11; refine (lkAwake _).mono ?_; rintro e w5 ⟨rfl, hb5⟩; have HB5 := Lib.hid (HB4.out.trans (hb5.mono HB4.out.size)); clear hb5)
          go_ret
          exact ⟨rfl, HB5.out⟩
      · have hkn : k = n := by omega
        subst hkn
        go_upto_region 9 with (fail)
        obtain ⟨wo, hwo⟩ : ∃ wo : World, wo = wr := ⟨_, rfl⟩
        clear hwo
        have HB0 := Lib.hid HB.out
        clear HB
        have hk20 : k ≤ 20 := by omega
        go_wp2
        go_loopw [38] (fun i wr => ∃ j : Nat, j ≤ k ∧ i = .int .i64 j ∧ Below W.heap.size W wr) (fun i _ => k - (intOf i).toNat)
        case atStart => exact ⟨0, Nat.zero_le _, rfl, HB0.out⟩
        case round =>
          obtain ⟨j, hj, rfl, hbw⟩ := hrel
          have HB := Lib.hid hbw
          have hsz2 := hbw.size
          clear hbw
          by_cases hlt2 : j < k
          · have hs := HA.out.below HB.out
            obtain ⟨b, off, a, rfl, hx, -⟩ := hs.at_ hlt2
            have HR := Lib.hid (hs.row hx)
            clear hs hx
            go_upto_region 12 with (refine wpList_load_cells rfl 32 (.tmp 40) rfl ⟨b, off + j * 6, none⟩ rfl _ _ HR.out Try.underlying32 rfl hlenL ?_)
            obtain ⟨w4, g4, e1, e2, hb4, h4⟩ := boxes1 wr 32 (la a)
            unfold la at e1
            rw [e1, e2]
            have HB4 := Lib.hid (HB.out.trans (hb4.mono hsz2))
            have HX4 := Lib.hid h4
            clear e1 e2 hb4 h4
            go_wp2
            obtain ⟨wo3, hwo3⟩ : ∃ wo : World, wo = wr := ⟨_, rfl⟩
            clear hwo3
            go_loopw [44] (fun i wr => ∃ j2 : Nat, j2 ≤ k ∧ i = .int .i64 j2 ∧ Below W.heap.size W wr ∧ Below w4.heap.size w4 wr) (fun i _ => k - (intOf i).toNat)
            case atStart => exact ⟨0, Nat.zero_le _, rfl, HB4.out, Below.refl _ _⟩
            case round =>
              obtain ⟨j2, hj2, rfl, hbw, hbw4⟩ := hrel
              have HB5 := Lib.hid hbw
              have HB54 := Lib.hid hbw4
              have hsz3 := hbw.size
              clear hbw hbw4
              by_cases hlt3 : j2 < k
              · have hs := HA.out.below HB5.out
                obtain ⟨b2, off2, a2, he2, hx, -⟩ := hs.at_ hlt3
                cases he2
                have HR2 := Lib.hid (hs.row hx)
                clear hs hx
                go_upto_region 15 with (refine wpList_load_cells rfl 32 (.tmp 46) rfl ⟨b, off + j2 * 6, none⟩ rfl _ _ HR2.out Try.underlying32 rfl hlenL ?_)
                obtain ⟨w6, g6, e1, e2, hb6, h6⟩ := boxes1 wr 32 (la a2)
                unfold la at e1
                rw [e1, e2]
                have HB6 := Lib.hid (HB5.out.trans (hb6.mono hsz3))
                have HB64 := Lib.hid (HB54.out.trans (hb6.mono HB54.out.size))
                have MA := Lib.hid (regrown_row (HX4.out.below HB64.out).add)
                have MB := Lib.hid (regrown_row h6.add)
                clear e1 e2 hb6 h6
                refine wp_region_quiet_below (by kernel_rfl) (by kernel_rfl) ?_
                repeat (first | (refine wpQuiet_load_cells rfl 32 (.tmp 6) rfl ⟨g4, 0, none⟩ rfl _ _ MA.out Try.underlying32 rfl hlenL ?_) | (refine wpQuiet_load_cells rfl 32 (.tmp 8) rfl ⟨g6, 0, none⟩ rfl _ _ MB.out Try.underlying32 rfl hlenL ?_) | quiet_step ((first | (go_at_call 17; refine Calls.regrown_of (lkConflict a a2 _)) | (go_at_call 18; refine Calls.regrown_of (refConflict a a2 _)))))
                refine wpQuiet_nil ?_
                intro w7 hw7
                obtain ⟨pp, rfl⟩ := hw7
                have hbr := below_regrown w6 pp.d pp.os
                have HB7 := Lib.hid (HB6.out.trans (hbr.mono HB6.out.size))
                have HB74 := Lib.hid (HB64.out.trans (hbr.mono HB64.out.size))
                clear hbr
                generalize grow (redrawn w6 pp.d) pp.os = w7 at HB7 HB74 ⊢
                clear MA MB
                go_wp2
                go_roundw
                case rel => exact ⟨j2 + 1, by omega, by go_num, HB7.out, HB74.out⟩
                case measure => simp [intOf]; omega
              · have hjk : j2 = k := by omega
                subst hjk
                go_upto_region 18 with (fail)
                have MA := Lib.hid (regrown_row (HX4.out.below HB54.out).add)
                refine wp_region_quiet_below (by kernel_rfl) (by kernel_rfl) ?_
                repeat (first | (refine wpQuiet_load_cells rfl 32 (.tmp 6) rfl ⟨g4, 0, none⟩ rfl _ _ MA.out Try.underlying32 rfl hlenL ?_) | quiet_step ((first | (go_at_call 19; refine Calls.regrown_of (lkValid a _)) | (go_at_call 20; refine Calls.regrown_of (refValid a _)))))
                refine wpQuiet_nil ?_
                intro w7 hw7
                obtain ⟨pp, rfl⟩ := hw7
                have hbr := below_regrown wr pp.d pp.os
                have HB7 := Lib.hid (HB5.out.trans (hbr.mono HB5.out.size))
                clear hbr
                generalize grow (redrawn wr pp.d) pp.os = w7 at HB7 ⊢
                clear MA
                go_wp2
                go_roundw
                case rel => exact ⟨j + 1, by omega, by go_num, HB7.out⟩
                case measure => simp [intOf]; omega
          · have hjk : j = k := by omega
            subst hjk
            go_wp2_with fail
            refine (lkNew A j c ls wr (HA.out.below HB.out) (by omega)).mono ?_
            rintro e w3 ⟨p, vh3, rfl, hm3, hb3⟩
            have HM3 := Lib.hid hm3
            have HB3 := Lib.hid (HB.out.trans (hb3.mono hsz2))
            have HLN := Lib.hid (show (newL ls).length + ([] : List Lock).length ≤ 1000000 from by
              have := newL_len ls
              have := HA.out.len
              simp
              omega)
            clear hm3 hb3
            go_wp2_with fail
            refine (lkAll wr.heap.size p _ _ vh3 _ _ HM3.out HLN.out).mono ?_
            rintro e w6 ⟨v1, v2, rfl, ho1, ho2, -, hb6⟩
            obtain ⟨A1, c1, rfl, hs1, -⟩ := ho1.cells
            obtain ⟨A2, c2, rfl, -, -⟩ := ho2.cells
            have HB6 := Lib.hid (HB3.out.trans (hb6.mono HB3.out.size))
            have HS1 := Lib.hid hs1
            have HLN2 := Lib.hid (show (newL ls).length ≤ 1000000 from by
              have := HLN.out
              simp at this
              exact this)
            clear hb6 ho1 ho2 hs1
            go_wp2_with fail
            refine (refNew A j c ls w6 (HA.out.below HB6.out) (by omega)).mono ?_
            rintro e w8 ⟨vr, rfl, hor, hb8⟩
            obtain ⟨A3, c3, rfl, hs3, -⟩ := hor.cells
            have HB8 := Lib.hid (HB6.out.trans (hb8.mono HB6.out.size))
            have HS18 := Lib.hid (HS1.out.below hb8)
            have HS3 := Lib.hid hs3
            clear hb8 hor hs3
            have hf0 := run_field0
            go_wp2_with fail
            refine (refLocks _ _ _ _ _ _ (newL ls) (newL ls) _ HS18.out HS3.out HLN2.out).mono ?_
            rintro e w9 ⟨rfl, hb9⟩
            rw [decide_eq_true (rfl : newL ls = newL ls)]
            have HB9 := Lib.hid (HB8.out.trans (hb9.mono HB8.out.size))
            clear hb9
            go_wp2_with (go_at_call 11; refine (lkAwake _).mono ?_; rintro e w10 ⟨rfl, hb10⟩; have HB10 := Lib.hid (HB9.out.trans (hb10.mono HB9.out.size)); clear hb10)
            go_ret
            exact ⟨rfl, HB10.out⟩
end Go.Proofs.Ytkabfjknpjhonaa
