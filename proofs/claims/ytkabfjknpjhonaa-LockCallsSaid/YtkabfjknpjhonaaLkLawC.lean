/- The walk of LockCompatible: no two held locks of different units exclude each other. -/
import Derived.Test.YtkabfjknpjhonaaLkPlay
import Derived.Test.YtkabfjknpjhonaaLkAwake
import Derived.Deep.DeepCutAuto
namespace Go.Proofs.Ytkabfjknpjhonaa
open Go.RowKit P16 P46
attribute [local go_sem] ByteArray.mk_append_mk ByteArray.extract_mk mk_index leq_bs not_lt_bs

theorem few_len {xs : List ActL} {m : Int} (h : fewA xs m = true) : (xs.length : Int) ≤ m := by
  unfold fewA at h
  simp at h
  exact h.1
theorem ptr_nil : ∀ (w : World) (p : Option Addr), (binOp .eql 25 (.pointer p) (.pointer none)).run Try.prog w = .ok (.bool (p.isNone)) w := fun w p => by
  cases p <;> simp [run_eql_pointer_nil w 25 _ (by kernel_rfl : Try.prog.underlying 25 = some (.pointer (Try.prog.pointee 25)))]
/-- The formula of LockCompatible. -/
def clash (a b : Lock) : Bool := decide (a.unit ≠ b.unit) && decide (a.id = b.id) && (a.x || b.x) && (a.r.e || le b.r.low a.r.high) && (b.r.e || le a.r.low b.r.high)
theorem clash_no {s : St} (hg : P46.Good s) (hv : Valids s) {a b : Lock} (ha : a ∈ s.h) (hb : b ∈ s.h) : clash a b = false := by
  have h := hg.compat a ha b hb
  have e := overlap_formula (emp_valid (hv.1 a ha)) (emp_valid (hv.1 b hb))
  unfold conflict at h
  unfold clash
  rw [← e] at h
  rw [Bool.and_assoc]
  exact h
set_option maxRecDepth 100000 in
set_option maxHeartbeats 4000000 in
theorem lawCompatible (A : Option Addr) (n c : Nat) (xs : List ActL) (W : World) (ha : ActsAt W A n xs) (hn : n ≤ maxLen) (_hu : ∀ a ∈ xs, (Lit.int .i64 a.l.unit).wf = true) :
    Calls Try.prog 5 #[.slice A n c] W fun e w' => e = .returned (.bool true) ∧ Below W.heap.size W w' := by

  unfold maxLen at hn
  have HA := Lib.hid ha
  clear ha
  cases hf : fewA xs 50 with
  | false =>
    have HF := Lib.hid hf
    clear hf
    go_enter Try.func5, Try.ntmps5
    go_wp2_with (first | (go_at_call 10; refine (lkFew 50 A n c xs W HA.out hn).mono ?_; rintro e w2 ⟨rfl, hb2⟩; rw [HF.out]; have HB2 := Lib.hid hb2; clear hb2) | (go_at_call 11; refine (lkAwake _).mono ?_; rintro e w3 ⟨rfl, hb3⟩; have HB3 := Lib.hid hb3; clear hb3))
    go_ret
    exact ⟨rfl, below_then HB2.out HB3.out⟩
  | true =>
    have HF := Lib.hid hf
    have hl50 := few_len hf
    rw [HA.out.len] at hl50
    have hnp := ptr_nil
    have hlenA : (Try.prog.info? 34).map (·.size) = some 7 := by kernel_rfl
    have hlenL : (Try.prog.info? 32).map (·.size) = some 6 := by kernel_rfl
    clear hf
    go_enter Try.func5, Try.ntmps5
    go_wp2_with (go_at_call 10; refine (lkFew 50 A n c xs W HA.out hn).mono ?_; rintro e w2 ⟨rfl, hb2⟩; rw [HF.out]; have HB2 := Lib.hid hb2; clear hb2)
    refine (lkNew none 0 0 [] w2 LocksAt.nil (by omega)).mono ?_
    rintro e w3 ⟨p, vh3, rfl, hm3, hb3⟩
    have HM3 := Lib.hid (show Mgr w3 w2.heap.size p (playS (xs.take 0)).h (playS (xs.take 0)).q vh3 (.slice none 0 0) from hm3)
    have HB3 := Lib.hid (below_then HB2.out hb3)
    have HZ := Lib.hid HB2.out.size
    have HB3' := Lib.hid hb3
    clear hm3 hb3
    go_wp2
    go_loopw [21] (fun i wr => ∃ (k : Nat) (vh vq : Value), k ≤ n ∧ i = .int .i64 k ∧ Mgr wr w2.heap.size p (playS (xs.take k)).h (playS (xs.take k)).q vh vq ∧ Below w2.heap.size w2 wr) (fun i _ => n - (intOf i).toNat)
    case atStart => exact ⟨0, _, _, Nat.zero_le _, rfl, HM3.out, HB3'.out⟩
    case round =>
      obtain ⟨k, vh, vq, hk, rfl, hm, hbw⟩ := hrel
      have HM := Lib.hid hm
      have HB := Lib.hid hbw
      have hsz := hbw.size
      clear hm hbw
      by_cases hlt : k < n
      · have hs := HA.out.below (HB2.out.trans (HB.out.mono HZ.out))
        obtain ⟨b, off, a, rfl, hx⟩ := hs.at_ hlt
        have HR := Lib.hid (hs.row hx)
        have HX := Lib.hid (playS_take hx)
        clear hs hx
        go_upto_region 9 with (refine wpList_load_cells rfl 34 (.tmp 23) rfl ⟨b, off + k * 7, none⟩ rfl _ _ HR.out Try.underlying34 rfl hlenA ?_)
        obtain ⟨w4, g4, e1, e2, hb4, h4⟩ := boxes1 wr 34 (aa a)
        unfold aa at e1
        rw [e1, e2]
        have HM4 := Lib.hid (HM.out.below hb4)
        have HB4 := Lib.hid (HB.out.trans (hb4.mono hsz))
        have HC4 := Lib.hid h4.add
        have hk2 : (playS (xs.take k)).h.length + (playS (xs.take k)).q.length ≤ 50 := by
          have h1 := playS_len (xs.take k)
          have h2 := List.length_take_le k xs
          omega
        clear e1 e2 hb4 h4
        go_wp2_with (refine wpList_load_cells rfl 34 (.tmp 5) rfl ⟨g4, 0, none⟩ rfl _ _ HC4.out Try.underlying34 rfl hlenA ?_)
        refine (lkDo a w2.heap.size p _ _ vh vq _ HM4.out (by omega) (playS_good _) (playS_valids _)).mono ?_
        rintro e w5 ⟨v5, vh5, vq5, rfl, -, hm5, hv5, -⟩
        rw [← HX.out] at hm5
        have HM5 := Lib.hid hm5
        have HB5 := Lib.hid (HB4.out.trans (hv5.below (B := w2.heap.size) (fun k hk => (HM4.out.ge hk).1) HB4.out.size))
        have HG5 := Lib.hid (playS_good (xs.take (k + 1)))
        have HV5 := Lib.hid (playS_valids (xs.take (k + 1)))
        have hl5 : (playS (xs.take (k + 1))).h.length + (playS (xs.take (k + 1))).q.length ≤ 50 := by
          have h1 := playS_len (xs.take (k + 1))
          have h2 := List.length_take_le (k + 1) xs
          have h3 : (xs.take (k + 1)).length ≤ xs.length := List.length_take_le' _ _
          have h4 := HA.out.len
          omega
        clear hm5 hv5 hk2
        go_wp2_with fail
        refine (lkAll w2.heap.size p _ _ vh5 vq5 _ HM5.out (by omega)).mono ?_
        rintro e w6 ⟨v1, v2, rfl, ho1, ho2, -, hb6⟩
        obtain ⟨A1, c1, rfl, hs1, -⟩ := ho1.cells
        obtain ⟨m, hm⟩ : ∃ m, (playS (xs.take (k + 1))).h.length = m := ⟨_, rfl⟩
        have hm50 : m ≤ 50 := by omega
        have hcap := ho1.cap
        rw [hm] at hs1 hcap ⊢
        obtain ⟨A2, c2, rfl, -, -⟩ := ho2.cells
        have HS1 := Lib.hid hs1
        have HM6 := Lib.hid (HM5.out.below hb6)
        have HB6 := Lib.hid (HB5.out.trans (hb6.mono HB5.out.size))
        have HMM := Lib.hid hm
        clear hs1 hb6 ho1 ho2 hm hl5
        go_upto_region 12 with (fail)
        obtain ⟨wo, hwo⟩ : ∃ wo : World, wo = wr := ⟨_, rfl⟩
        clear hwo
        go_loopw [35] (fun i wr => ∃ j : Nat, j ≤ m ∧ i = .int .i64 j ∧ Below w6.heap.size w6 wr) (fun i _ => m - (intOf i).toNat)
        case atStart => exact ⟨0, Nat.zero_le _, rfl, Below.refl _ _⟩
        case round =>
          obtain ⟨j, hj, rfl, hbj⟩ := hrel
          have HJ := Lib.hid hbj
          have hszj := hbj.size
          clear hbj
          by_cases hlt2 : j < m
          · have hs2 := HS1.out.below HJ.out
            obtain ⟨b1, off1, x, rfl, hx1, -⟩ := hs2.at_ hlt2
            have HRx := Lib.hid (hs2.row hx1)
            have HX1 := Lib.hid (List.mem_of_getElem? hx1)
            clear hs2 hx1
            go_upto_region 14 with (refine wpList_load_cells rfl 32 (.tmp 38) rfl ⟨b1, off1 + j * 6, none⟩ rfl _ _ HRx.out Try.underlying32 rfl hlenL ?_)
            obtain ⟨w7, g7, e1, e2, hb7, h7⟩ := boxes1 wr 32 (la x)
            unfold la at e1
            rw [e1, e2]
            have HB7 := Lib.hid (HJ.out.trans (hb7.mono hszj))
            have HX7 := Lib.hid h7
            have hg7 := h7.lt
            clear e1 e2 hb7 h7
            have i0 : (0 : Int) ≤ (j : Int) := by omega
            have i1 : (j : Int) ≤ (c1 : Int) := by omega
            go_upto_region 15 with (fail)
            obtain ⟨wo2, hwo2⟩ : ∃ wo : World, wo = wr := ⟨_, rfl⟩
            clear hwo2
            go_loopw [44] (fun i wr => ∃ j2 : Nat, j2 ≤ j ∧ i = .int .i64 j2 ∧ Below w7.heap.size w7 wr) (fun i _ => j - (intOf i).toNat)
            case atStart => exact ⟨0, Nat.zero_le _, rfl, Below.refl _ _⟩
            case round =>
              obtain ⟨j2, hj2, rfl, hbj2⟩ := hrel
              have HJ2 := Lib.hid hbj2
              have hszj2 := hbj2.size
              clear hbj2
              by_cases hlt3 : j2 < j
              · have hs3 := HS1.out.below (HB7.out.trans (HJ2.out.mono HB7.out.size))
                obtain ⟨b2, off2, y, he2, hx2, -⟩ := hs3.at_ (k := j2) (by omega)
                cases he2
                have HRy := Lib.hid (hs3.row hx2)
                have HY1 := Lib.hid (List.mem_of_getElem? hx2)
                clear hs3 hx2
                go_upto_region 17 with (refine wpList_load_cells rfl 32 (.tmp 46) rfl ⟨b1, off1 + j2 * 6, none⟩ rfl _ _ HRy.out Try.underlying32 rfl hlenL ?_)
                obtain ⟨w8, g8, e1, e2, hb8, h8⟩ := boxes1 wr 32 (la y)
                unfold la at e1
                rw [e1, e2]
                have HB8 := Lib.hid (HJ2.out.trans (hb8.mono hszj2))
                obtain ⟨a0, a1, a2, a3, a4, a5⟩ := lcells (HX7.out.below HB8.out)
                obtain ⟨d0, d1, d2, d3, d4, d5⟩ := lcells h8
                have HCL := Lib.hid (clash_no HG5.out HV5.out HX1.out HY1.out)
                clear e1 e2 hb8 h8
                have HCV := Lib.hid (show clash x y = ((x.unit != y.unit) && (x.id == y.id) && (x.x || y.x) && (x.r.e || le y.r.low x.r.high) && (y.r.e || le x.r.low y.r.high)) from by
                  unfold clash
                  rw [show decide (x.unit ≠ y.unit) = (x.unit != y.unit) from by rw [bne, Bool.eq_iff_iff]; simp, show decide (x.id = y.id) = (x.id == y.id) from by rw [Bool.eq_iff_iff]; simp])
                go_cut [95] (fun s wx => s = .bool false ∧ wx = w8)
                case first =>
                  have hv := HCV.out
                  rw [HCL.out] at hv
                  cases hu : (x.unit != y.unit) with
                  | false =>
                    clear hv
                    go_wp2
                    go_meet
                    case rel => exact ⟨rfl, rfl⟩
                  | true =>
                    cases hi : (x.id == y.id) with
                    | false =>
                      clear hv
                      go_wp2
                      go_meet
                      case rel => exact ⟨rfl, rfl⟩
                    | true =>
                      rw [hu, hi] at hv
                      cases hx : (x.x || y.x) with
                      | false =>
                        clear hv
                        simp at hx
                        rw [hx.1] at a5
                        rw [hx.2] at d5
                        clear hx
                        go_wp2
                        go_meet
                        case rel => exact ⟨rfl, rfl⟩
                      | true =>
                        rw [hx] at hv
                        generalize x.r.e = xe at *
                        generalize y.r.e = ye at *
                        generalize x.x = xx at *
                        generalize y.x = yx at *
                        cases xx <;> cases yx <;> first | (cases hx; done) | skip
                        all_goals clear hx
                        all_goals cases xe <;> cases ye
                        all_goals cases hl1 : le y.r.low x.r.high <;> cases hl2 : le x.r.low y.r.high
                        all_goals first | (exfalso; rw [hl1, hl2] at hv; cases hv; done) | skip
                        all_goals clear hv HCV HCL HX1 HY1 HRx HRy
                        all_goals (go_wp2; go_meet; case rel => exact ⟨rfl, rfl⟩)
                case rest =>
                  obtain ⟨rfl, rfl⟩ := hcut
                  clear a0 a1 a2 a3 a4 a5 d0 d1 d2 d3 d4 d5
                  go_wp2
                  go_roundw
                  case rel => exact ⟨j2 + 1, by omega, by go_num, HB8.out⟩
                  case measure => simp [intOf]; omega
              · have hjj : j2 = j := by omega
                subst hjj
                go_wp2
                go_roundw
                case rel => exact ⟨j2 + 1, by omega, by go_num, HB7.out.trans (HJ2.out.mono HB7.out.size)⟩
                case measure => simp [intOf]; omega
          · have hjm : j = m := by omega
            subst hjm
            go_wp2
            go_roundw
            case rel => exact ⟨k + 1, _, _, by omega, by go_num, HM6.out.below HJ.out, HB6.out.trans (HJ.out.mono HB6.out.size)⟩
            case measure => simp [intOf]; omega
      · have hkn : k = n := by omega
        subst hkn
        go_wp2_with (go_at_call 11; refine (lkAwake _).mono ?_; rintro e w9 ⟨rfl, hb9⟩; have HB9 := Lib.hid hb9; clear hb9)
        go_ret
        exact ⟨rfl, (HB2.out.trans (HB.out.mono HZ.out)).trans (HB9.out.mono (Nat.le_trans HZ.out hsz))⟩
end Go.Proofs.Ytkabfjknpjhonaa
