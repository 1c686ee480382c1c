/- The walk of KeySeparators: it returns true. -/
import Derived.Test.YtekjghofkjlnaaaAwake
namespace Go.Proofs.Ytekjghofkjlnaaa
open Go.RowKit P16
attribute [local go_sem] ByteArray.mk_append_mk ByteArray.extract_mk mk_index leq_bs not_lt_bs

set_option maxRecDepth 100000 in
set_option maxHeartbeats 1000000 in
theorem seps4 (a b : Bs) (w : World) : Calls Try.prog 4 #[.string ⟨a.toArray⟩, .string ⟨b.toArray⟩] w fun e w' => e = .returned (.bool true) ∧ Below w.heap.size w w' := by
  cases hs : shortB [a, b] 10 100
  · have HS := Lib.hid hs
    clear hs
    go_enter Try.func4, Try.ntmps4
    go_wp2_with (first | (go_at_call 10; refine (awake10 _).mono ?_; rintro e w1 ⟨rfl, hb1⟩) | (go_at_call 11; refine (short11 _ _ _ _ _ (StrsAt.lit2 _ _ _ _) (by decide)).mono ?_; rintro e w2 ⟨rfl, hb2⟩; rw [HS.out]))
    go_ret
    exact ⟨rfl, by repeat (first | exact Below.refl _ _ | refine below_alloc ?_ _ | refine below_drewN ?_ _ | refine below_then ?_ (by assumption))⟩
  have HS := Lib.hid hs
  have hl := short_two a b
  rw [hs] at hl
  simp only [Bool.true_eq, Bool.and_eq_true, decide_eq_true_eq] at hl
  obtain ⟨ha, hb⟩ := hl
  clear hs
  have lb : b.length ≤ 101 := by omega
  have hfl : front a b ≤ 101 := Nat.le_trans (front_le a b).2 lb
  cases h : lt a b
  · have h1 : le b a = true := by unfold le; rw [h]; rfl
    have hv := sep_no h
    have H := Lib.hid h
    clear h
    go_enter Try.func4, Try.ntmps4
    go_wp2_with (first | (go_at_call 10; refine (awake10 _).mono ?_; rintro e w1 ⟨rfl, hb1⟩) | (go_at_call 11; refine (short11 _ _ _ _ _ (StrsAt.lit2 _ _ _ _) (by decide)).mono ?_; rintro e w2 ⟨rfl, hb2⟩; rw [HS.out]) | (go_at_call 16; refine (sep16 _ _ _ ha lb).mono ?_; rintro e w3 ⟨rfl, hb3⟩) | (go_at_call 17; refine (front17 _ _ _ ha lb).mono ?_; rintro e w4 ⟨rfl, hb4⟩) | (go_at_call 18; refine (refSep18 _ _ _ ha lb).mono ?_; rintro e w5 ⟨rfl, rfl⟩) | (go_at_call 19; refine (refFront19 _ _ _ ha lb).mono ?_; rintro e w6 ⟨rfl, hb6⟩) | (go_at_call 20; refine (succ20 _ _ ha).mono ?_; rintro e w7 ⟨rfl, rfl⟩))
    all_goals
      go_ret
      exact ⟨rfl, by repeat (first | exact Below.refl _ _ | refine below_alloc ?_ _ | refine below_drewN ?_ _ | refine below_then ?_ (by assumption))⟩
  · have h1 : le b a = false := by unfold le; rw [h]; rfl
    obtain ⟨s1, s2, s3⟩ := sep_law h
    have s4 : (((sep a b).length : Int) == (front a b : Int) + 1) = true := beq_of (by omega)
    have H := Lib.hid h
    have S3 := Lib.hid s3
    clear h s3
    go_enter Try.func4, Try.ntmps4
    go_wp2_with (first | (go_at_call 10; refine (awake10 _).mono ?_; rintro e w1 ⟨rfl, hb1⟩) | (go_at_call 11; refine (short11 _ _ _ _ _ (StrsAt.lit2 _ _ _ _) (by decide)).mono ?_; rintro e w2 ⟨rfl, hb2⟩; rw [HS.out]) | (go_at_call 16; refine (sep16 _ _ _ ha lb).mono ?_; rintro e w3 ⟨rfl, hb3⟩) | (go_at_call 17; refine (front17 _ _ _ ha lb).mono ?_; rintro e w4 ⟨rfl, hb4⟩) | (go_at_call 18; refine (refSep18 _ _ _ ha lb).mono ?_; rintro e w5 ⟨rfl, rfl⟩) | (go_at_call 19; refine (refFront19 _ _ _ ha lb).mono ?_; rintro e w6 ⟨rfl, hb6⟩) | (go_at_call 20; refine (succ20 _ _ ha).mono ?_; rintro e w7 ⟨rfl, rfl⟩))
    all_goals
      go_ret
      exact ⟨retBool (by simp [S3.out]), by repeat (first | exact Below.refl _ _ | refine below_alloc ?_ _ | refine below_drewN ?_ _ | refine below_then ?_ (by assumption))⟩
end Go.Proofs.Ytekjghofkjlnaaa
