/- The reference's conflicts. -/
import Derived.Test.YtjklhiifjnmedaaGreatLkOf
import Derived.Test.YtjklhiifjnmedaaGreatQuiet
import Derived.Test.YtjklhiifjnmedaaGreatFree
import Derived.Deep.QuietTactic
namespace Go.Proofs.YtjklhiifjnmedaaGreat
open Go.RowKit P16 P46 Go.Sort
attribute [local go_sem] ByteArray.mk_append_mk ByteArray.extract_mk mk_index

theorem regrown_row {wr : World} {ad : Addr} {cs : Array Value} (h : ∀ (j : Nat) (u : Value), cs[j]? = some u → wr.cell? (ad.add j) = some u) : ∀ w', (∃ p : Regrown, w' = grow (redrawn wr p.d) p.os) → ∀ (j : Nat) (u : Value), cs[j]? = some u → w'.cell? (ad.add j) = some u := by
  rintro w' ⟨p, rfl⟩ j u hj
  exact cell_regrown (h j u hj) p.d p.os
set_option maxRecDepth 100000 in
set_option maxHeartbeats 1000000 in
theorem refConflicts (x : Lock) (A : Option Addr) (n c : Nat) (ls : List Lock) (w : World) (h : LocksAt w A n ls) (hn : n ≤ 1000000) :
    Calls Tryz.prog 97 #[.slice A n c, lv x] w fun e w' => e = .returned (.bool (ls.any fun y => conflict y x)) ∧ Below w.heap.size w w' := by
  have H := Lib.hid h
  clear h
  have hlenL : (Tryz.prog.info? 30).map (·.size) = some 6 := by kernel_rfl
  unfold lv
  go_enter Tryz.func97, Tryz.ntmps97
  go_upto_region 1 with (fail)
  obtain ⟨w2, g, e1, e2, hb, h1⟩ := boxes1 w 30 (la x)
  unfold la at e1
  rw [e1, e2]
  have HG := Lib.hid h1
  have HB := Lib.hid hb
  have H2 := Lib.hid (H.out.below hb)
  clear e1 e2 hb h1
  go_wp2
  go_loopw [5] (fun i wr => ∃ k : Nat, k ≤ n ∧ i = .int .i64 k ∧ Hid (∀ (j : Nat), j < k → ∀ l : Lock, ls[j]? = some l → conflict l x = false) ∧ Below w2.heap.size w2 wr) (fun i _ => n - (intOf i).toNat)
  case atStart => exact ⟨0, Nat.zero_le _, rfl, fun j hj => absurd hj (by omega), Below.refl _ _⟩
  case round =>
    obtain ⟨k, hk, rfl, hall, hbw⟩ := hrel
    have hsz := hbw.size
    by_cases hlt : k < n
    · have HW := Lib.hid (H2.out.below hbw)
      obtain ⟨b, off, l, rfl, hl, -⟩ := HW.out.at_ hlt
      have HL := Lib.hid hl
      have HR := HW.out.row hl
      have HX := (HG.out.below hbw).add
      have MR := Lib.hid (regrown_row HR)
      have MX := Lib.hid (regrown_row HX)
      clear HR HX hl
      go_upto_region 4 with (fail)
      refine wp_region_quiet_below (by kernel_rfl) (by kernel_rfl) ?_
      repeat (first | (refine wpQuiet_load_cells rfl 30 (.tmp 14) rfl ⟨b, off + k * 6, none⟩ rfl _ _ MR.out Tryz.underlying30 rfl hlenL ?_) | (refine wpQuiet_load_cells rfl 30 (.tmp 3) rfl ⟨g, 0, none⟩ rfl _ _ MX.out Tryz.underlying30 rfl hlenL ?_) | quiet_step ((go_at_call 64; refine Calls.regrown_of (refConflict l x _))))
      refine wpQuiet_nil ?_
      intro w7 hw7
      obtain ⟨p, rfl⟩ := hw7
      have HB7 := Lib.hid (hbw.trans ((below_regrown wr p.d p.os).mono hsz))
      generalize grow (redrawn wr p.d) p.os = w7 at HB7 ⊢
      clear MR MX
      cases hcf : conflict l x with
      | true =>
        have HO := Lib.hid (show (ls.any fun y => conflict y x) = true from List.any_eq_true.2 ⟨l, List.mem_of_getElem? HL.out, hcf⟩)
        clear hcf
        go_wp2
        go_ret
        exact ⟨retBool HO.out.symm, below_then_ HB.out HB7.out⟩
      | false =>
        have HFL := Lib.hid hcf
        clear hcf
        go_wp2
        go_roundw
        case rel =>
          refine ⟨k + 1, by omega, by go_num, ?_, HB7.out⟩
          intro j hj l2 hl2
          by_cases hjk : j = k
          · subst hjk
            rw [HL.out] at hl2
            injection hl2 with e
            rw [← e]
            exact HFL.out
          · exact hall.out j (by omega) l2 hl2
        case measure => simp [intOf]; omega
    · have HO := Lib.hid (show (ls.any fun y => conflict y x) = false from by
        rw [List.any_eq_false]
        intro l hl
        obtain ⟨j, hj⟩ := List.mem_iff_getElem?.1 hl
        have := hall.out j (by have := H.out.len; have := (List.getElem?_eq_some_iff.1 hj).1; omega) l hj
        rw [this]
        simp)
      go_wp2
      go_ret
      exact ⟨retBool HO.out.symm, below_then_ HB.out hbw⟩
end Go.Proofs.YtjklhiifjnmedaaGreat
