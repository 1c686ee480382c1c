/- The walk of VariablePacks: it returns true. -/
import Derived.Test.YtogfdodnfeggfaaAwake
import Derived.Test.YtogfdodnfeggfaaRefPack
namespace Go.Proofs.Ytogfdodnfeggfaa
open Go.RowKit P11
attribute [local go_sem] ByteArray.mk_append_mk ByteArray.extract_mk mk_index

theorem few_yes {ss : List Bs} {count most : Int} (h : fewB ss count most = true) : (ss.length : Int) ≤ count ∧ ∀ r ∈ ss, (r.length : Int) ≤ most := by
  unfold fewB at h
  simp only [Bool.and_eq_true, decide_eq_true_eq, List.all_eq_true] at h
  exact ⟨h.2, h.1⟩

set_option maxHeartbeats 1000000 in
theorem packs3 (L K : Int) (A : Option Addr) (n c : Nat) (rs : List Bs) (w : World) (h : StrsAt w A n rs) (hn : n ≤ maxLen) :
    Calls Try.prog 3 #[.int .i64 L, .int .i64 K, .slice A n c] w fun e w' => e = .returned (.bool true) ∧ Below w.heap.size w w' := by
  have H := Lib.hid h
  clear h
  cases hf : fewB rs 40 1100 with
  | false =>
    have HF := Lib.hid hf
    clear hf
    go_enter Try.func3, Try.ntmps3
    go_wp2_with (first | (go_at_call 10; refine (awake10 _).mono ?_; rintro e w1 ⟨rfl, hb1⟩) | (go_at_call 11; refine (few11 _ _ _ rs _ _ _ (H.out.below hb1) hn).mono ?_; rintro e w2 ⟨rfl, hb2⟩; rw [HF.out]))
    go_ret
    exact ⟨rfl, by repeat (first | exact Below.refl _ _ | refine below_alloc ?_ _ | refine below_drewN ?_ _ | refine below_then ?_ (by assumption))⟩
  | true =>
    have hn40 : n ≤ 40 := by
      have := (few_yes hf).1
      have := H.out.len
      omega
    have HF := Lib.hid hf
    clear hf
    have HO := Lib.hid (packOut_eq L K rs)
    go_enter Try.func3, Try.ntmps3
    go_wp2_with fail
    refine (awake10 _).mono ?_
    rintro e w1 ⟨rfl, hb1⟩
    go_wp2_with fail
    refine (few11 _ _ _ rs _ _ _ (H.out.below hb1) hn).mono ?_
    rintro e w2 ⟨rfl, hb2⟩
    rw [HF.out]
    have hb02 := below_then hb1 hb2
    go_wp2_with fail
    refine (pack12 _ _ _ _ _ rs _ (H.out.below hb02) (by omega)).mono ?_
    rintro e w3 ⟨v3, rfl, hown3, hb3⟩
    have hb03 := below_then hb02 hb3
    obtain ⟨A3, n3, c3, rfl, hs3, hm3, -⟩ := hown3.strs
    have HS3 := Lib.hid hs3
    clear hs3 hown3
    go_wp2_with fail
    refine (pack13 _ _ _ _ _ rs _ (H.out.below hb03) hn40).mono ?_
    rintro e w4 ⟨v4, rfl, hown4, hb4⟩
    have hb04 := below_then hb03 hb4
    rw [HO.out] at hown4
    obtain ⟨A4, n4, c4, rfl, hs4, hm4, -⟩ := hown4.strs
    have HS4 := Lib.hid hs4
    clear hs4 hown4
    go_wp2_with (first | (go_at_call 14; refine (valid14 _ _ _).mono ?_; rintro e w' ⟨rfl, rfl⟩) | (go_at_call 15; refine (valid15 _ _ _).mono ?_; rintro e w' ⟨rfl, rfl⟩) | (go_at_call 16; refine (same16 _ _ _ _ _ _ _ _ _ (HS3.out.below hb4) HS4.out hm3 hm4).mono ?_; rintro e w5 ⟨rfl, hb5⟩; rw [sameB_refl]))
    go_ret
    exact ⟨rfl, below_then hb04 hb5⟩
end Go.Proofs.Ytogfdodnfeggfaa
