/- The walks of the example of the chapter and of SpannedPacks: both return true. -/
import Derived.Test.YtabpgfcmfflceaaDoorRefPack
namespace Go.Proofs.YtabpgfcmfflceaaDoor
open Go.RowKit P12
attribute [local go_sem] ByteArray.mk_append_mk ByteArray.extract_mk mk_index

/-- The example of the chapter. -/
theorem pack13_awake (A : Option Addr) (c : Nat) (w : World) (C : Codes w) (h : StrsAt w A 1 [[97, 98, 99, 100, 101, 102]]) :
    Calls Tryd.prog 13 #[.int .i64 100, .int .i64 12, .slice A 1 c] w fun e w' => ∃ v, e = .returned (.tuple #[v, .int .i64 0]) ∧ OwnS w' w.heap.size 9 v [[0, 12, 0, 0, 0, 8, 1, 0, 97, 98, 99, 100], [0, 10, 0, 0, 0, 6, 2, 0, 101, 102]] ∧ Below w.heap.size w w' := by
  have e1 : packErr 100 12 [[97, 98, 99, 100, 101, 102]] = 0 := by decide +kernel
  have e2 : packOut 100 12 [[97, 98, 99, 100, 101, 102]] = [[0, 12, 0, 0, 0, 8, 1, 0, 97, 98, 99, 100], [0, 10, 0, 0, 0, 6, 2, 0, 101, 102]] := by decide +kernel
  have := pack13 100 12 A 1 c [[97, 98, 99, 100, 101, 102]] w C h (by decide)
  unfold Packed at this
  rw [e1, e2] at this
  exact this

set_option maxHeartbeats 400000 in
theorem awake11 (w : World) (C : Codes w) : Calls Tryd.prog 11 #[] w fun e w' => e = .returned (.bool true) ∧ Below w.heap.size w w' := by
  go_enter Tryd.func11, Tryd.ntmps11
  go_wp2_with fail
  refine (pack13_awake _ _ _ (C.below (below_alloc (Below.refl _ _) _)) (StrsAt.lit1 _ _ _)).mono ?_
  rintro e w1 ⟨v, rfl, hown, hb1⟩
  obtain ⟨A1, n1, c1, rfl, hs1, hn1, -⟩ := hown.strs
  clear hown
  have HS := Lib.hid hs1
  have HB := Lib.hid hb1
  clear hs1 hb1
  go_wp2_with fail
  refine (same17 _ _ _ _ _ _ _ _ _ (HS.out.below ((Below.refl _ _).alloc (Nat.le_refl _) _)) (StrsAt.lit2 _ _ _ _) hn1 (by unfold maxLen; omega)).mono ?_
  rintro e w3 ⟨rfl, hb3⟩
  rw [sameB_refl]
  go_wp2_with fail
  go_ret
  have h1 := below_then ((Below.refl w.heap.size w).alloc (Nat.le_refl _) _) HB.out
  exact ⟨rfl, below_then (h1.alloc h1.size _) hb3⟩

theorem few_yes {ss : List Bs} {count most : Int} (h : fewB ss count most = true) : (ss.length : Int) ≤ count ∧ ∀ r ∈ ss, (r.length : Int) ≤ most := by
  unfold fewB at h
  simp only [Bool.and_eq_true, decide_eq_true_eq, List.all_eq_true] at h
  exact ⟨h.2, h.1⟩
theorem few_total {ss : List Bs} (h : fewB ss 20 1100 = true) : total ss ≤ 22020 := by
  obtain ⟨h1, h2⟩ := few_yes h
  have := total_le (M := 1100) (fun r hr => by have := h2 r hr; omega)
  omega

set_option maxHeartbeats 1000000 in
theorem packs3 (L K : Int) (A : Option Addr) (n c : Nat) (ss : List Bs) (w : World) (C : Codes w) (h : StrsAt w A n ss) (hn : n ≤ maxLen) :
    Calls Tryd.prog 3 #[.int .i64 L, .int .i64 K, .slice A n c] w fun e w' => e = .returned (.bool true) ∧ Below w.heap.size w w' := by
  have H := Lib.hid h
  clear h
  by_cases hf : fewB ss 20 1100 = true
  · have hn20 : n ≤ 20 := by
      have := hf
      unfold fewB at this
      simp only [Bool.and_eq_true, decide_eq_true_eq] at this
      have := H.out.len
      omega
    have HF := Lib.hid hf
    have htt := few_total hf
    clear hf
    go_enter Tryd.func3, Tryd.ntmps3
    go_wp2_with fail
    refine (awake11 _ C).mono ?_
    rintro e w1 ⟨rfl, hb1⟩
    have HB1 := Lib.hid hb1
    clear hb1
    go_wp2_with fail
    refine (few12 _ _ _ _ _ _ _ (H.out.below HB1.out) hn).mono ?_
    rintro e w2 ⟨rfl, hb2⟩
    rw [HF.out]
    have HB2 := Lib.hid (below_then HB1.out hb2)
    clear hb2
    go_wp2_with fail
    refine (pack13 _ _ _ _ _ _ _ (C.below HB2.out) (H.out.below HB2.out) (by omega)).mono ?_
    rintro e w3 ⟨v3, rfl, hown3, hb3⟩
    have HB3 := Lib.hid (below_then HB2.out hb3)
    have HO3 := Lib.hid hown3
    clear hown3 hb3
    go_wp2_with fail
    refine (pack14 _ _ _ _ _ _ _ (H.out.below HB3.out) (by omega)).mono ?_
    rintro e w4 ⟨v4, rfl, hown4, hb4⟩
    obtain ⟨A3, n3, c3, rfl, hs3, hn3, -⟩ := (HO3.out.below hb4).strs
    obtain ⟨A4, n4, c4, rfl, hs4, hn4, -⟩ := hown4.strs
    have HB4 := Lib.hid (below_then HB3.out hb4)
    have HS3 := Lib.hid hs3
    have HS4 := Lib.hid hs4
    have hee : ((packErr L K ss) == (packErr L K ss)) = true := beq_self_eq_true _
    have hvv : ((vok L K) == (vok L K)) = true := beq_self_eq_true _
    clear hown4 hb4 HO3 hs3 hs4
    go_wp2_with (first | (go_at_call 15; refine (valid15 _ _ _).mono ?_; rintro e w' ⟨rfl, rfl⟩) | (go_at_call 16; refine (valid16 _ _ _).mono ?_; rintro e w' ⟨rfl, rfl⟩) | (go_at_call 17; refine (same17 _ _ _ _ _ _ _ _ _ HS3.out HS4.out hn3 hn4).mono ?_; rintro e w5 ⟨rfl, hb5⟩; rw [sameB_refl]))
    go_ret
    exact ⟨rfl, below_then HB4.out hb5⟩
  · have hf' : fewB ss 20 1100 = false := by simpa using hf
    have HF := Lib.hid hf'
    clear hf hf'
    go_enter Tryd.func3, Tryd.ntmps3
    go_wp2_with fail
    refine (awake11 _ C).mono ?_
    rintro e w1 ⟨rfl, hb1⟩
    have HB1 := Lib.hid hb1
    clear hb1
    go_wp2_with fail
    refine (few12 _ _ _ _ _ _ _ (H.out.below HB1.out) hn).mono ?_
    rintro e w2 ⟨rfl, hb2⟩
    rw [HF.out]
    have HB2 := Lib.hid (below_then HB1.out hb2)
    clear hb2
    go_wp2_with fail
    refine (awake11 _ (C.below HB2.out)).mono ?_
    rintro e w3 ⟨rfl, hb3⟩
    go_wp2_with fail
    go_ret
    exact ⟨rfl, below_then HB2.out hb3⟩
end Go.Proofs.YtabpgfcmfflceaaDoor
