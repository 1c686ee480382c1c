/- The walk of SpannedAppends: it returns true. -/
import Derived.Test.YtabpgfcmfflceaaDoorRefAppend
import Derived.Test.YtabpgfcmfflceaaDoorAwake
namespace Go.Proofs.YtabpgfcmfflceaaDoor
open Go.RowKit P12 Go.Sort
attribute [local go_sem] ByteArray.mk_append_mk ByteArray.extract_mk mk_index

set_option maxHeartbeats 1000000 in
theorem appends6 (L K : Int) (A : Option Addr) (n c : Nat) (ss : List Bs) (r : Bs) (w : World) (C : Codes w) (h : StrsAt w A n ss) (hn : n ≤ maxLen) :
    Calls Tryd.prog 6 #[.int .i64 L, .int .i64 K, .slice A n c, .string ⟨r.toArray⟩] w fun e w' => e = .returned (.bool true) ∧ Below w.heap.size w w' := by
  have H := Lib.hid h
  have HN := Lib.hid h.len
  clear h
  by_cases hf : fewB ss 20 1100 = true
  · have HF := Lib.hid hf
    have hfy := few_yes hf
    have hn20 : n ≤ 20 := by have := HN.out; omega
    have HBS := Lib.hid (show ∀ b ∈ ss, b.length ≤ 60000 from fun b hb => by have := hfy.2 b hb; omega)
    have HBS2 := Lib.hid (show ∀ b ∈ ss, b.length ≤ 100000 from fun b hb => by have := hfy.2 b hb; omega)
    clear hf hfy
    by_cases hr : r.length ≤ 1100
    · have hrI : ¬ (1100 : Int) < (r.length : Int) := by omega
      go_enter Tryd.func6, Tryd.ntmps6
      go_wp2_with fail
      refine (awake11 _ C).mono ?_
      rintro e w1 ⟨rfl, hb1⟩
      have HB1 := Lib.hid (hb1)
      clear hb1
      go_wp2_with fail
      refine (few12 _ _ _ _ _ _ _ (H.out.below HB1.out) hn).mono ?_
      rintro e w2 ⟨rfl, hb2⟩
      rw [HF.out]
      have HB2 := Lib.hid (below_then HB1.out hb2)
      clear hb2
      go_wp2_with fail
      refine (append23 _ _ _ _ _ _ _ _ (C.below HB2.out) (H.out.below HB2.out) (by omega) HBS2.out (by omega)).mono ?_
      rintro e w3 ⟨v3, rfl, hown3, hb3⟩
      obtain ⟨A3, n3, c3, rfl, hs3, hn3, -⟩ := hown3.strs
      have HB3 := Lib.hid (below_then HB2.out hb3)
      have HS3 := Lib.hid hs3
      clear hown3 hb3 hs3
      go_wp2_with fail
      refine (append24 _ _ _ _ _ _ _ _ (H.out.below HB3.out) (by omega) HBS.out (by omega)).mono ?_
      rintro e w4 ⟨A4, n4, c4, rfl, hs4, hn4, hb4⟩
      have HB4 := Lib.hid (below_then HB3.out hb4)
      have HS4 := Lib.hid hs4
      have HS3' := Lib.hid (HS3.out.below hb4)
      have he1 : ((appI L K ss r).1 == (appI L K ss r).1) = true := beq_self_eq_true _
      have he2 : ((appI L K ss r).2.2 == (appI L K ss r).2.2) = true := beq_self_eq_true _
      clear hb4 hs4
      go_wp2_with fail
      refine (same17 _ _ _ _ _ _ _ _ _ HS3'.out HS4.out hn3 hn4).mono ?_
      rintro e w5 ⟨rfl, hb5⟩
      rw [sameB_refl]
      go_wp2
      go_ret
      exact ⟨rfl, below_then HB4.out hb5⟩
    · have hrI : (1100 : Int) < (r.length : Int) := by omega
      go_enter Tryd.func6, Tryd.ntmps6
      go_wp2_with fail
      refine (awake11 _ C).mono ?_
      rintro e w1 ⟨rfl, hb1⟩
      have HB1 := Lib.hid (hb1)
      clear hb1
      go_wp2_with fail
      refine (few12 _ _ _ _ _ _ _ (H.out.below HB1.out) hn).mono ?_
      rintro e w2 ⟨rfl, hb2⟩
      rw [HF.out]
      have HB2 := Lib.hid (below_then HB1.out hb2)
      clear hb2
      go_wp2_with fail
      refine (awake11 _ (C.below HB2.out)).mono ?_
      rintro e w3 ⟨rfl, hb3⟩
      have HB3 := Lib.hid (below_then HB2.out hb3)
      clear hb3
      go_wp2_with fail
      go_ret
      exact ⟨rfl, HB3.out⟩
  · have hf' : fewB ss 20 1100 = false := by simpa using hf
    have HF := Lib.hid hf'
    clear hf hf'
    go_enter Tryd.func6, Tryd.ntmps6
    go_wp2_with fail
    refine (awake11 _ C).mono ?_
    rintro e w1 ⟨rfl, hb1⟩
    have HB1 := Lib.hid (hb1)
    clear hb1
    go_wp2_with fail
    refine (few12 _ _ _ _ _ _ _ (H.out.below HB1.out) hn).mono ?_
    rintro e w2 ⟨rfl, hb2⟩
    rw [HF.out]
    have HB2 := Lib.hid (below_then HB1.out hb2)
    clear hb2
    go_wp2_with fail
    refine (awake11 _ (C.below HB2.out)).mono ?_
    rintro e w3 ⟨rfl, hb3⟩
    have HB3 := Lib.hid (below_then HB2.out hb3)
    clear hb3
    go_wp2_with fail
    go_ret
    exact ⟨rfl, HB3.out⟩
end Go.Proofs.YtabpgfcmfflceaaDoor
