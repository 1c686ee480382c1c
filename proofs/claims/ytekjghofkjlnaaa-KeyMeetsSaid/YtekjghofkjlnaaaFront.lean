/- The walks of Front, Separator, Successor, within, between, zeros. -/
import Derived.Test.YtekjghofkjlnaaaLeaf
import Derived.Test.YtekjghofkjlnaaaPlainB
namespace Go.Proofs.Ytekjghofkjlnaaa
open Go.RowKit P16
attribute [local go_sem] ByteArray.mk_append_mk ByteArray.extract_mk mk_index leq_bs not_lt_bs

set_option maxHeartbeats 400000 in
theorem front17 (a b : Bs) (w : World) (ha : a.length ≤ 100) (hb : b.length ≤ 101) : Calls Try.prog 17 #[.string ⟨a.toArray⟩, .string ⟨b.toArray⟩] w fun e w' => e = .returned (.int .i64 (front a b)) ∧ Below w.heap.size w w' := by
  go_enter Try.func17, Try.ntmps17
  go_wp2
  go_loopw [5] (fun i wr => ∃ k : Nat, k ≤ front a b ∧ k ≤ a.length ∧ k ≤ b.length ∧ i = .int .i64 k ∧ Below w.heap.size w wr) (fun i _ => a.length - (intOf i).toNat)
  case atStart => exact ⟨0, Nat.zero_le _, Nat.zero_le _, Nat.zero_le _, rfl, Below.refl _ _⟩
  case round =>
    obtain ⟨k, hk, hka, hkb, rfl, hbw⟩ := hrel
    by_cases h1 : k < a.length
    · by_cases h2 : k < b.length
      · have hs := front_step a b k a[k] b[k] hk (List.getElem?_eq_getElem h1) (List.getElem?_eq_getElem h2)
        have HS := Lib.hid hs
        clear hs
        by_cases h3 : a[k] = b[k]
        · have h4 := HS.out.1 h3
          have h5 : ((a[k].toNat : Int) == (b[k].toNat : Int)) = true := by rw [h3]; exact beq_self_eq_true _
          have H3 := Lib.hid h3
          clear h3
          go_wp2
          go_quiet (fail)
          go_wp2
          go_roundw
          case rel => exact ⟨k + 1, h4, by omega, by omega, by go_num, below_drewN hbw _⟩
          case measure => simp [intOf]; omega
        · have h4 := Lib.hid (HS.out.2 h3)
          have h5 : ((a[k].toNat : Int) == (b[k].toNat : Int)) = false := beq_not fun e => h3 (UInt8.toNat_inj.1 (by omega))
          clear h3
          go_wp2
          go_quiet (fail)
          go_wp2
          go_ret
          exact ⟨by rw [h4.out]; rfl, below_drewN hbw _⟩
      · have h3 : decide (k < b.length) = false := by simpa using h2
        have h4 := Lib.hid (front_end hk (.inr (by omega)))
        go_wp2
        go_quiet (fail)
        go_wp2
        go_ret
        exact ⟨by rw [h4.out]; rfl, below_drewN hbw _⟩
    · have h3 : decide (k < a.length) = false := by simpa using h1
      have h4 := Lib.hid (front_end hk (.inl (by omega)))
      go_wp2
      go_quiet (fail)
      go_wp2
      go_ret
      exact ⟨by rw [h4.out]; rfl, below_drewN hbw _⟩
set_option maxHeartbeats 400000 in
theorem refFront19 (a b : Bs) (w : World) (ha : a.length ≤ 100) (hb : b.length ≤ 101) : Calls Try.prog 19 #[.string ⟨a.toArray⟩, .string ⟨b.toArray⟩] w fun e w' => e = .returned (.int .i64 (front a b)) ∧ Below w.heap.size w w' := by
  go_enter Try.func19, Try.ntmps19
  go_wp2
  go_loopw [5] (fun i wr => ∃ k : Nat, k ≤ front a b ∧ k ≤ a.length ∧ k ≤ b.length ∧ i = .int .i64 k ∧ Below w.heap.size w wr) (fun i _ => a.length - (intOf i).toNat)
  case atStart => exact ⟨0, Nat.zero_le _, Nat.zero_le _, Nat.zero_le _, rfl, Below.refl _ _⟩
  case round =>
    obtain ⟨k, hk, hka, hkb, rfl, hbw⟩ := hrel
    by_cases h1 : k < a.length
    · by_cases h2 : k < b.length
      · have hs := front_step a b k a[k] b[k] hk (List.getElem?_eq_getElem h1) (List.getElem?_eq_getElem h2)
        have HS := Lib.hid hs
        clear hs
        by_cases h3 : a[k] = b[k]
        · have h4 := HS.out.1 h3
          have h5 : ((a[k].toNat : Int) == (b[k].toNat : Int)) = true := by rw [h3]; exact beq_self_eq_true _
          have H3 := Lib.hid h3
          clear h3
          go_wp2
          go_quiet (fail)
          go_wp2
          go_roundw
          case rel => exact ⟨k + 1, h4, by omega, by omega, by go_num, below_drewN hbw _⟩
          case measure => simp [intOf]; omega
        · have h4 := Lib.hid (HS.out.2 h3)
          have h5 : ((a[k].toNat : Int) == (b[k].toNat : Int)) = false := beq_not fun e => h3 (UInt8.toNat_inj.1 (by omega))
          clear h3
          go_wp2
          go_quiet (fail)
          go_wp2
          go_ret
          exact ⟨by rw [h4.out]; rfl, below_drewN hbw _⟩
      · have h3 : decide (k < b.length) = false := by simpa using h2
        have h4 := Lib.hid (front_end hk (.inr (by omega)))
        go_wp2
        go_quiet (fail)
        go_wp2
        go_ret
        exact ⟨by rw [h4.out]; rfl, below_drewN hbw _⟩
    · have h3 : decide (k < a.length) = false := by simpa using h1
      have h4 := Lib.hid (front_end hk (.inl (by omega)))
      go_wp2
      go_quiet (fail)
      go_wp2
      go_ret
      exact ⟨by rw [h4.out]; rfl, below_drewN hbw _⟩
set_option maxHeartbeats 400000 in
theorem succ20 (a : Bs) (w : World) (ha : a.length ≤ 100) : Calls Try.prog 20 #[.string ⟨a.toArray⟩] w fun e w' => e = .returned (.string ⟨(a ++ [0]).toArray⟩) ∧ w = w' := by
  go_enter Try.func20, Try.ntmps20
  go_wp2
  go_ret
  exact ⟨by simp, rfl⟩
set_option maxHeartbeats 400000 in
theorem sep16 (a b : Bs) (w : World) (ha : a.length ≤ 100) (hb : b.length ≤ 101) : Calls Try.prog 16 #[.string ⟨a.toArray⟩, .string ⟨b.toArray⟩] w fun e w' => e = .returned (.string ⟨(sep a b).toArray⟩) ∧ Below w.heap.size w w' := by
  cases h : lt a b
  · have h1 : le b a = true := by unfold le; rw [h]; rfl
    have hv := Lib.hid (sep_no h)
    clear h
    go_enter Try.func16, Try.ntmps16
    go_wp2
    go_ret
    exact ⟨retStr hv.out.symm, Below.refl _ _⟩
  · have h1 : le b a = false := by unfold le; rw [h]; rfl
    have hf := (lt_take_more a b h).1
    have hv : sep a b = b.take (front a b + 1) := if_pos h
    have HV := Lib.hid hv
    clear h hv
    go_enter Try.func16, Try.ntmps16
    go_wp2_with (go_at_call 17; refine (front17 _ _ _ ha hb).mono ?_; rintro e w1 ⟨rfl, hb1⟩)
    go_ret
    refine ⟨retStr ?_, hb1⟩
    rw [HV.out]
set_option maxHeartbeats 400000 in
theorem refSep18 (a b : Bs) (w : World) (ha : a.length ≤ 100) (hb : b.length ≤ 101) : Calls Try.prog 18 #[.string ⟨a.toArray⟩, .string ⟨b.toArray⟩] w fun e w' => e = .returned (.string ⟨(sep a b).toArray⟩) ∧ w = w' := by
  cases h : lt a b
  · have hv := Lib.hid (sep_no h)
    have hn := Lib.hid (lt_take_no h)
    clear h
    go_enter Try.func18, Try.ntmps18
    go_wp2
    go_loop [5] (fun i => ∃ k : Nat, k ≤ b.length + 1 ∧ i = .int .i64 k) (fun i => b.length + 1 - (intOf i).toNat)
    case atStart => exact ⟨0, Nat.zero_le _, rfl⟩
    case round =>
      obtain ⟨k, hk, rfl⟩ := hrel
      by_cases hlt : k ≤ b.length
      · have h1 : le (b.take k) a = true := by unfold le; rw [hn.out k]; rfl
        go_wp2
        go_round
        case rel => exact ⟨k + 1, by omega, by go_num⟩
        case measure => simp [intOf]; omega
      · go_wp2
        go_ret
        exact ⟨retStr hv.out.symm, rfl⟩
  · have hf := lt_take_more a b h
    have hv : sep a b = b.take (front a b + 1) := if_pos h
    have HV := Lib.hid hv
    have hf1 := hf.1
    have HF := Lib.hid hf.2
    clear h hv hf
    go_enter Try.func18, Try.ntmps18
    go_wp2
    go_loop [5] (fun i => ∃ k : Nat, k ≤ front a b + 1 ∧ i = .int .i64 k) (fun i => b.length + 1 - (intOf i).toNat)
    case atStart => exact ⟨0, Nat.zero_le _, rfl⟩
    case round =>
      obtain ⟨k, hk, rfl⟩ := hrel
      by_cases hlt : k ≤ front a b
      · have h1 : le (b.take k) a = true := by unfold le; rw [lt_take_front a b k hlt]; rfl
        go_wp2
        go_round
        case rel => exact ⟨k + 1, by omega, by go_num⟩
        case measure => simp [intOf]; omega
      · obtain rfl : k = front a b + 1 := by omega
        have h1 : le (b.take (front a b + 1)) a = false := by unfold le; rw [HF.out]; rfl
        go_wp2
        go_ret
        exact ⟨retStr HV.out.symm, rfl⟩
set_option maxHeartbeats 400000 in
theorem within39 (n l m : Int) (w : World) : Calls Try.prog 39 #[.int .i64 n, .int .i64 l, .int .i64 m] w fun e w' => e = .returned (.bool (decide (l ≤ n) && decide (n ≤ m))) ∧ w = w' := by
  by_cases h1 : l ≤ n <;> by_cases h2 : n ≤ m
  all_goals
    go_enter Try.func39, Try.ntmps39
    go_wp2
    go_ret
    exact ⟨retBool (by simp [h1, h2]), rfl⟩
set_option maxHeartbeats 400000 in
theorem between42 (n l m : Int) (w : World) : Calls Try.prog 42 #[.int .i64 n, .int .i64 l, .int .i64 m] w fun e w' => e = .returned (.bool (decide (l ≤ n) && decide (n ≤ m))) ∧ w = w' := by
  by_cases h1 : l ≤ n <;> by_cases h2 : n ≤ m
  all_goals
    go_enter Try.func42, Try.ntmps42
    go_wp2
    go_ret
    exact ⟨retBool (by simp [h1, h2]), rfl⟩
end Go.Proofs.Ytekjghofkjlnaaa
