/- The walk of VariableWords: it returns true. -/
import Derived.Test.YtogfdodnfeggfaaAwake
namespace Go.Proofs.Ytogfdodnfeggfaa
open Go.RowKit P11
attribute [local go_sem] ByteArray.mk_append_mk ByteArray.extract_mk mk_index

theorem word_back {s : Bs} (h : rwB s = true) : wordI (rwI s) = s := by
  unfold rwB at h
  unfold rwI
  cases hr : readWord s with
  | none => rw [hr] at h; cases h
  | some n =>
    rw [Option.getD_some, wordI_nat]
    exact (readWord_some hr).1
theorem read_word_in {n : Int} (h : 0 ≤ n ∧ n ≤ 65535) : rwB (wordI n) = true ∧ rwI (wordI n) = n := by
  obtain ⟨m, rfl⟩ := Int.eq_ofNat_of_zero_le h.1
  rw [wordI_nat]
  unfold rwB rwI
  rw [readWord_word (by omega)]
  exact ⟨rfl, rfl⟩
theorem read_word_out {n : Int} (h : ¬ (0 ≤ n ∧ n ≤ 65535)) : rwB (wordI n) = false ∧ rwI (wordI n) = 0 := by
  unfold wordI
  rw [if_pos (by omega)]
  exact ⟨rfl, rfl⟩

set_option maxHeartbeats 1000000 in
theorem words4 (n : Int) (s : Bs) (w : World) : Calls Try.prog 4 #[.int .i64 n, .string ⟨s.toArray⟩] w fun e w' => e = .returned (.bool true) ∧ Below w.heap.size w w' := by
  by_cases hl : 20 < s.length
  · go_enter Try.func4, Try.ntmps4
    go_wp2_with (go_at_call 10; refine (awake10 _).mono ?_; rintro e w1 ⟨rfl, hb1⟩)
    go_ret
    exact ⟨rfl, by repeat (first | exact Below.refl _ _ | refine below_alloc ?_ _ | refine below_drewN ?_ _ | refine below_then ?_ (by assumption))⟩
  · by_cases hn : 0 ≤ n ∧ n ≤ 65535
    · obtain ⟨k1, k2⟩ := read_word_in hn
      obtain ⟨hn0, hn1⟩ := hn
      have K1 := Lib.hid k1
      have K2 := Lib.hid k2
      clear k1 k2
      cases hb : rwB s with
      | true =>
        have hq : (wordI (rwI s) == s) = true := by simpa using word_back hb
        have HB := Lib.hid hb
        clear hb
        go_enter Try.func4, Try.ntmps4
        go_wp2_with (first | (go_at_call 10; refine (awake10 _).mono ?_; rintro e w1 ⟨rfl, hb1⟩) | (go_at_call 17; refine (readWord17 _ _).mono ?_; rintro e w1 ⟨rfl, hb1⟩; first | rw [HB.out] | rw [K1.out, K2.out]) | (go_at_call 18; refine (readWord18 _ _).mono ?_; rintro e w1 ⟨rfl, hb1⟩; rw [HB.out]) | (go_at_call 19; refine (word19 _ _).mono ?_; rintro e w1 ⟨rfl, hb1⟩) | (go_at_call 20; refine (word20 _ _).mono ?_; rintro e w1 ⟨rfl, hb1⟩))
        go_ret
        exact ⟨rfl, by repeat (first | exact Below.refl _ _ | refine below_alloc ?_ _ | refine below_drewN ?_ _ | refine below_then ?_ (by assumption))⟩
      | false =>
        have HB := Lib.hid hb
        clear hb
        go_enter Try.func4, Try.ntmps4
        go_wp2_with (first | (go_at_call 10; refine (awake10 _).mono ?_; rintro e w1 ⟨rfl, hb1⟩) | (go_at_call 17; refine (readWord17 _ _).mono ?_; rintro e w1 ⟨rfl, hb1⟩; first | rw [HB.out] | rw [K1.out, K2.out]) | (go_at_call 18; refine (readWord18 _ _).mono ?_; rintro e w1 ⟨rfl, hb1⟩; rw [HB.out]) | (go_at_call 19; refine (word19 _ _).mono ?_; rintro e w1 ⟨rfl, hb1⟩) | (go_at_call 20; refine (word20 _ _).mono ?_; rintro e w1 ⟨rfl, hb1⟩))
        go_ret
        exact ⟨rfl, by repeat (first | exact Below.refl _ _ | refine below_alloc ?_ _ | refine below_drewN ?_ _ | refine below_then ?_ (by assumption))⟩
    · obtain ⟨k1, k2⟩ := read_word_out hn
      have K1 := Lib.hid k1
      have K2 := Lib.hid k2
      clear k1 k2
      by_cases hn0 : n < 0
      · clear hn
        cases hb : rwB s with
        | true =>
          have hq : (wordI (rwI s) == s) = true := by simpa using word_back hb
          have HB := Lib.hid hb
          clear hb
          go_enter Try.func4, Try.ntmps4
          go_wp2_with (first | (go_at_call 10; refine (awake10 _).mono ?_; rintro e w1 ⟨rfl, hb1⟩) | (go_at_call 17; refine (readWord17 _ _).mono ?_; rintro e w1 ⟨rfl, hb1⟩; first | rw [HB.out] | rw [K1.out, K2.out]) | (go_at_call 18; refine (readWord18 _ _).mono ?_; rintro e w1 ⟨rfl, hb1⟩; rw [HB.out]) | (go_at_call 19; refine (word19 _ _).mono ?_; rintro e w1 ⟨rfl, hb1⟩) | (go_at_call 20; refine (word20 _ _).mono ?_; rintro e w1 ⟨rfl, hb1⟩))
          go_ret
          exact ⟨rfl, by repeat (first | exact Below.refl _ _ | refine below_alloc ?_ _ | refine below_drewN ?_ _ | refine below_then ?_ (by assumption))⟩
        | false =>
          have HB := Lib.hid hb
          clear hb
          go_enter Try.func4, Try.ntmps4
          go_wp2_with (first | (go_at_call 10; refine (awake10 _).mono ?_; rintro e w1 ⟨rfl, hb1⟩) | (go_at_call 17; refine (readWord17 _ _).mono ?_; rintro e w1 ⟨rfl, hb1⟩; first | rw [HB.out] | rw [K1.out, K2.out]) | (go_at_call 18; refine (readWord18 _ _).mono ?_; rintro e w1 ⟨rfl, hb1⟩; rw [HB.out]) | (go_at_call 19; refine (word19 _ _).mono ?_; rintro e w1 ⟨rfl, hb1⟩) | (go_at_call 20; refine (word20 _ _).mono ?_; rintro e w1 ⟨rfl, hb1⟩))
          go_ret
          exact ⟨rfl, by repeat (first | exact Below.refl _ _ | refine below_alloc ?_ _ | refine below_drewN ?_ _ | refine below_then ?_ (by assumption))⟩
      · have hn1 : 65535 < n := by omega
        clear hn
        cases hb : rwB s with
        | true =>
          have hq : (wordI (rwI s) == s) = true := by simpa using word_back hb
          have HB := Lib.hid hb
          clear hb
          go_enter Try.func4, Try.ntmps4
          go_wp2_with (first | (go_at_call 10; refine (awake10 _).mono ?_; rintro e w1 ⟨rfl, hb1⟩) | (go_at_call 17; refine (readWord17 _ _).mono ?_; rintro e w1 ⟨rfl, hb1⟩; first | rw [HB.out] | rw [K1.out, K2.out]) | (go_at_call 18; refine (readWord18 _ _).mono ?_; rintro e w1 ⟨rfl, hb1⟩; rw [HB.out]) | (go_at_call 19; refine (word19 _ _).mono ?_; rintro e w1 ⟨rfl, hb1⟩) | (go_at_call 20; refine (word20 _ _).mono ?_; rintro e w1 ⟨rfl, hb1⟩))
          go_ret
          exact ⟨retBool (by simp; omega), by repeat (first | exact Below.refl _ _ | refine below_alloc ?_ _ | refine below_drewN ?_ _ | refine below_then ?_ (by assumption))⟩
        | false =>
          have HB := Lib.hid hb
          clear hb
          go_enter Try.func4, Try.ntmps4
          go_wp2_with (first | (go_at_call 10; refine (awake10 _).mono ?_; rintro e w1 ⟨rfl, hb1⟩) | (go_at_call 17; refine (readWord17 _ _).mono ?_; rintro e w1 ⟨rfl, hb1⟩; first | rw [HB.out] | rw [K1.out, K2.out]) | (go_at_call 18; refine (readWord18 _ _).mono ?_; rintro e w1 ⟨rfl, hb1⟩; rw [HB.out]) | (go_at_call 19; refine (word19 _ _).mono ?_; rintro e w1 ⟨rfl, hb1⟩) | (go_at_call 20; refine (word20 _ _).mono ?_; rintro e w1 ⟨rfl, hb1⟩))
          go_ret
          exact ⟨retBool (by simp; omega), by repeat (first | exact Below.refl _ _ | refine below_alloc ?_ _ | refine below_drewN ?_ _ | refine below_then ?_ (by assumption))⟩

end Go.Proofs.Ytogfdodnfeggfaa
