/- The walk of KeyNumbers: it returns true. -/
import Derived.Test.YtekjghofkjlnaaaAwake
namespace Go.Proofs.Ytekjghofkjlnaaa
open Go.RowKit P16
attribute [local go_sem] ByteArray.mk_append_mk ByteArray.extract_mk mk_index leq_bs not_lt_bs

theorem short_one (s : Bs) : shortB [s] 10 100 = decide (s.length ≤ 100) := by
  have e (x : Bs) : decide ((x.length : Int) ≤ 100) = decide (x.length ≤ 100) := by rw [decide_eq_decide]; omega
  simp [shortB, e]
set_option maxRecDepth 100000 in
set_option maxHeartbeats 1000000 in
theorem numbers3 (n m : Int) (s : Bs) (w : World) : Calls Try.prog 3 #[.int .i64 n, .int .i64 m, .string ⟨s.toArray⟩] w fun e w' => e = .returned (.bool true) ∧ Below w.heap.size w w' := by
  by_cases hs : s.length ≤ 100
  · have HS := Lib.hid (show shortB [s] 10 100 = true by rw [short_one]; simpa using hs)
    have hsl : (number s).2 = true → slot (number s).1 = s := slot_number
    by_cases hn : slot n = []
    · go_enter Try.func3, Try.ntmps3
      go_wp2_with (first | (go_at_call 10; refine (awake10 _).mono ?_; rintro e w1 ⟨rfl, hb1⟩) | (go_at_call 11; refine (short11 _ _ _ _ _ (StrsAt.lit1 _ _ _) (by decide)).mono ?_; rintro e w2 ⟨rfl, hb2⟩; rw [HS.out]) | (go_at_call 12; refine (number12 _ _).mono ?_; rintro e w3 ⟨rfl, hb3⟩) | (go_at_call 13; refine (refNumber13 _ _).mono ?_; rintro e w4 ⟨rfl, rfl⟩) | (go_at_call 14; refine (slot14 _ _).mono ?_; rintro e w5 ⟨rfl, hb5⟩) | (go_at_call 15; refine (refSlot15 _ _).mono ?_; rintro e w6 ⟨rfl, hb6⟩))
      all_goals
        go_ret
        exact ⟨rfl, by repeat (first | exact Below.refl _ _ | refine below_alloc ?_ _ | refine below_drewN ?_ _ | refine below_then ?_ (by assumption))⟩
    by_cases hm : slot m = []
    · go_enter Try.func3, Try.ntmps3
      go_wp2_with (first | (go_at_call 10; refine (awake10 _).mono ?_; rintro e w1 ⟨rfl, hb1⟩) | (go_at_call 11; refine (short11 _ _ _ _ _ (StrsAt.lit1 _ _ _) (by decide)).mono ?_; rintro e w2 ⟨rfl, hb2⟩; rw [HS.out]) | (go_at_call 12; refine (number12 _ _).mono ?_; rintro e w3 ⟨rfl, hb3⟩) | (go_at_call 13; refine (refNumber13 _ _).mono ?_; rintro e w4 ⟨rfl, rfl⟩) | (go_at_call 14; refine (slot14 _ _).mono ?_; rintro e w5 ⟨rfl, hb5⟩) | (go_at_call 15; refine (refSlot15 _ _).mono ?_; rintro e w6 ⟨rfl, hb6⟩))
      all_goals
        go_ret
        exact ⟨rfl, by repeat (first | exact Below.refl _ _ | refine below_alloc ?_ _ | refine below_drewN ?_ _ | refine below_then ?_ (by assumption))⟩
    have hlt : Op.bytesLess (slot n) (slot m) = decide (n < m) := slot_lt hn hm
    have heq : (slot n = slot m) = (n = m) := propext (slot_eq hn hm)
    have HBQ : Hid ((slot n == slot m) = (n == m)) := by
      have h : (slot n == slot m) = (n == m) := by rw [Bool.eq_iff_iff]; simp [slot_eq hn hm]
      exact Lib.hid h
    by_cases h1 : n < m
    · have h2 : ¬ n = m := by omega
      go_enter Try.func3, Try.ntmps3
      go_wp2_with (first | (go_at_call 10; refine (awake10 _).mono ?_; rintro e w1 ⟨rfl, hb1⟩) | (go_at_call 11; refine (short11 _ _ _ _ _ (StrsAt.lit1 _ _ _) (by decide)).mono ?_; rintro e w2 ⟨rfl, hb2⟩; rw [HS.out]) | (go_at_call 12; refine (number12 _ _).mono ?_; rintro e w3 ⟨rfl, hb3⟩) | (go_at_call 13; refine (refNumber13 _ _).mono ?_; rintro e w4 ⟨rfl, rfl⟩) | (go_at_call 14; refine (slot14 _ _).mono ?_; rintro e w5 ⟨rfl, hb5⟩) | (go_at_call 15; refine (refSlot15 _ _).mono ?_; rintro e w6 ⟨rfl, hb6⟩))
      all_goals
        go_ret
        exact ⟨retBool (by simp [HBQ.out, le_refl]), by repeat (first | exact Below.refl _ _ | refine below_alloc ?_ _ | refine below_drewN ?_ _ | refine below_then ?_ (by assumption))⟩
    by_cases h2 : n = m
    · subst h2
      have hll := le_refl (slot n)
      go_enter Try.func3, Try.ntmps3
      go_wp2_with (first | (go_at_call 10; refine (awake10 _).mono ?_; rintro e w1 ⟨rfl, hb1⟩) | (go_at_call 11; refine (short11 _ _ _ _ _ (StrsAt.lit1 _ _ _) (by decide)).mono ?_; rintro e w2 ⟨rfl, hb2⟩; rw [HS.out]) | (go_at_call 12; refine (number12 _ _).mono ?_; rintro e w3 ⟨rfl, hb3⟩) | (go_at_call 13; refine (refNumber13 _ _).mono ?_; rintro e w4 ⟨rfl, rfl⟩) | (go_at_call 14; refine (slot14 _ _).mono ?_; rintro e w5 ⟨rfl, hb5⟩) | (go_at_call 15; refine (refSlot15 _ _).mono ?_; rintro e w6 ⟨rfl, hb6⟩))
      all_goals
        go_ret
        exact ⟨retBool (by simp [HBQ.out, le_refl]), by repeat (first | exact Below.refl _ _ | refine below_alloc ?_ _ | refine below_drewN ?_ _ | refine below_then ?_ (by assumption))⟩
    go_enter Try.func3, Try.ntmps3
    go_wp2_with (first | (go_at_call 10; refine (awake10 _).mono ?_; rintro e w1 ⟨rfl, hb1⟩) | (go_at_call 11; refine (short11 _ _ _ _ _ (StrsAt.lit1 _ _ _) (by decide)).mono ?_; rintro e w2 ⟨rfl, hb2⟩; rw [HS.out]) | (go_at_call 12; refine (number12 _ _).mono ?_; rintro e w3 ⟨rfl, hb3⟩) | (go_at_call 13; refine (refNumber13 _ _).mono ?_; rintro e w4 ⟨rfl, rfl⟩) | (go_at_call 14; refine (slot14 _ _).mono ?_; rintro e w5 ⟨rfl, hb5⟩) | (go_at_call 15; refine (refSlot15 _ _).mono ?_; rintro e w6 ⟨rfl, hb6⟩))
    all_goals
      go_ret
      exact ⟨retBool (by simp [HBQ.out, le_refl]), by repeat (first | exact Below.refl _ _ | refine below_alloc ?_ _ | refine below_drewN ?_ _ | refine below_then ?_ (by assumption))⟩
  · have HS := Lib.hid (show shortB [s] 10 100 = false by rw [short_one]; simpa using hs)
    go_enter Try.func3, Try.ntmps3
    go_wp2_with (first | (go_at_call 10; refine (awake10 _).mono ?_; rintro e w1 ⟨rfl, hb1⟩) | (go_at_call 11; refine (short11 _ _ _ _ _ (StrsAt.lit1 _ _ _) (by decide)).mono ?_; rintro e w2 ⟨rfl, hb2⟩; rw [HS.out]) | (go_at_call 12; refine (number12 _ _).mono ?_; rintro e w3 ⟨rfl, hb3⟩) | (go_at_call 13; refine (refNumber13 _ _).mono ?_; rintro e w4 ⟨rfl, rfl⟩) | (go_at_call 14; refine (slot14 _ _).mono ?_; rintro e w5 ⟨rfl, hb5⟩) | (go_at_call 15; refine (refSlot15 _ _).mono ?_; rintro e w6 ⟨rfl, hb6⟩))
    all_goals
      go_ret
      exact ⟨rfl, by repeat (first | exact Below.refl _ _ | refine below_alloc ?_ _ | refine below_drewN ?_ _ | refine below_then ?_ (by assumption))⟩
end Go.Proofs.Ytekjghofkjlnaaa
