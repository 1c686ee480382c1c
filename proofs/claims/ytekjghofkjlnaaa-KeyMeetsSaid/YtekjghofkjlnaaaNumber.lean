/- The walks of Number and Slot. -/
import Derived.Test.YtekjghofkjlnaaaFront
import Derived.IntWalk
namespace Go.Proofs.Ytekjghofkjlnaaa
open Go.RowKit P16
attribute [local go_sem] ByteArray.mk_append_mk ByteArray.extract_mk mk_index leq_bs not_lt_bs

theorem or_u64 (n : Nat) (c : UInt8) (h : n < 72057594037927936) : bits .or .u64 ((n : Int) * 256) (c.toNat : Int) = ((n * 256 + c.toNat : Nat) : Int) := by
  have hc := c.toNat_lt
  rw [show ((n : Int) * 256) = ((n * 256 : Nat) : Int) from by omega, u64_or_nat _ _ (by omega) (by omega), nat_join 8 _ _ (by omega) (by omega)]
theorem wrap_u64_byte (c : UInt8) : IntKind.u64.wrap (c.toNat : Int) = c.toNat := by
  have hc := c.toNat_lt
  simp only [IntKind.wrap, IntKind.bits, IntKind.signed]
  simp
  omega
theorem num_take (s : Bs) (k : Nat) (hk : k < s.length) : num (s.take (k + 1)) = num (s.take k) * 256 + s[k].toNat := by
  rw [List.take_succ_eq_append_getElem hk, num_snoc]
theorem num_take_lt (s : Bs) (k : Nat) (hk : k ≤ 7) : num (s.take k) < 72057594037927936 := by
  have h := num_lt (s.take k)
  have h1 : (s.take k).length ≤ k := List.length_take_le _ _
  have h2 : 256 ^ (s.take k).length ≤ 256 ^ 7 := Nat.pow_le_pow_right (by decide) (by omega)
  have h3 : (256 : Nat) ^ 7 = 72057594037927936 := by decide
  omega
theorem bytes_cell (w : World) (s : Bs) (cap : Nat) (e : TypeId) (fr : Nat × Nat) (k : Nat) (hk : k < s.length) :
    (w.alloc (.cells (bytesRow ⟨s.toArray⟩ cap) e fr)).cell? ⟨w.heap.size, k, none⟩ = some (.int .u8 s[k].toNat) := by
  rw [World.cell?_alloc_mark w (bytesRow ⟨s.toArray⟩ cap) e fr k]
  unfold bytesRow
  rw [Array.getElem?_append_left (by simpa using hk)]
  simp [hk]

theorem number_len {s : Bs} (h : s.length ≠ 8) : number s = (0, false) := by
  unfold number
  rw [if_neg (fun e => h e.1)]

set_option maxHeartbeats 400000 in
theorem number12 (s : Bs) (w : World) : Calls Try.prog 12 #[.string ⟨s.toArray⟩] w fun e w' => e = .returned (.tuple #[.int .i64 (number s).1, .bool (number s).2]) ∧ Below w.heap.size w w' := by
  by_cases h8 : s.length = 8
  · have HL := Lib.hid h8
    have h8 : ((s.length : Int) != 8) = false := by rw [h8]; rfl
    have hl1 : s.length ≤ 8 := by have := HL.out; omega
    have hl2 : 8 ≤ s.length := by have := HL.out; omega
    have hconv := fun (w : World) => run_bytes_of_string (P := Try.prog) w 9 47 5 ⟨s.toArray⟩ Try.underlying9 Try.underlying47 Try.underlying5
    have hnum := num_take_lt s
    have HN := Lib.hid hnum
    have HT := Lib.hid (num_take s)
    have HC := Lib.hid (bytes_cell w s)
    clear hnum
    go_enter Try.func12, Try.ntmps12
    go_wp2
    go_loop [4, 13] (fun v i => ∃ k : Nat, k ≤ 8 ∧ i = .int .i64 k ∧ v = .int .u64 (num (s.take k))) (fun _ i => 8 - (intOf i).toNat)
    case atStart => exact ⟨0, Nat.zero_le _, rfl, rfl⟩
    case round =>
      obtain ⟨k, hk, rfl, rfl⟩ := hrel
      by_cases hlt : k < s.length
      · have hc := HC.out (grownCap w 8 0 5) 5 ((bytesRow { data := List.toArray s } (grownCap w 8 0 5)).size, (bytesRow { data := List.toArray s } (grownCap w 8 0 5)).size + 1) k hlt
        have h56 := HN.out k (by omega)
        have HB := Lib.hid (or_u64 (num (s.take k)) s[k] h56)
        go_wp2
        go_round
        case rel => exact ⟨k + 1, by omega, by go_num, by rw [wrap_u64_byte, HB.out, HT.out k hlt]⟩
        case measure => simp [intOf]; omega
      · obtain rfl : k = 8 := by omega
        have ht : num (s.take 8) = num s := by rw [List.take_of_length_le hl1]
        have hlt8 := num_lt s
        have h64 : num s < 18446744073709551616 := by
          rw [HL.out] at hlt8
          have h3 : (256 : Nat) ^ 8 = 18446744073709551616 := by decide
          omega
        by_cases hm : (num s : Int) ≤ maxNumber
        · have hv : number s = (((num s : Nat) : Int), true) := by unfold number; rw [if_pos ⟨HL.out, hm⟩]
          have HV := Lib.hid hv
          have hgt : ¬ 1099511627776 < num s := by unfold maxNumber at hm; omega
          have HM := Lib.hid hm
          clear hv hm hlt8 h64
          go_wp2
          go_ret2
          refine ⟨?_, below_drewN (below_alloc (Below.refl _ _) _) 1⟩
          rw [HV.out]
          rfl
        · have hv : number s = (0, false) := by unfold number; rw [if_neg (fun e => hm e.2)]
          have HV := Lib.hid hv
          have hgt : 1099511627776 < num s := by unfold maxNumber at hm; omega
          have HM := Lib.hid hm
          clear hv hm hlt8 h64
          go_wp2
          go_ret2
          refine ⟨?_, below_drewN (below_alloc (Below.refl _ _) _) 1⟩
          rw [HV.out]
          rfl
  · have hv := Lib.hid (number_len h8)
    have h8 : ((s.length : Int) != 8) = true := bne_of (by omega)
    go_enter Try.func12, Try.ntmps12
    go_wp2
    go_ret2
    exact ⟨by rw [hv.out]; rfl, Below.refl _ _⟩

theorem num_head {s : Bs} (h : s.length = 8) (h' : 0 < (s[0]'(by omega)).toNat ∨ 0 < (s[1]'(by omega)).toNat) : number s = (0, false) := by
  match s, h, h' with
  | a :: b :: r, h, h' =>
    have hr : r.length = 6 := by simpa using h
    have e : num (a :: b :: r) = a.toNat * 72057594037927936 + (b.toNat * 281474976710656 + num r) := by
      rw [num_cons, num_cons, List.length_cons, hr]
    unfold number
    rw [if_neg]
    rintro ⟨_, hm⟩
    unfold maxNumber at hm
    simp only [List.getElem_cons_zero, List.getElem_cons_succ] at h'
    omega
theorem num_small {s : Bs} (h : s.length = 8) (h0 : (s[0]'(by omega)).toNat = 0) (h1 : (s[1]'(by omega)).toNat = 0) : num s < 281474976710656 := by
  match s, h, h0, h1 with
  | a :: b :: r, h, h0, h1 =>
    have hr : r.length = 6 := by simpa using h
    simp only [List.getElem_cons_zero, List.getElem_cons_succ] at h0 h1
    have e : num (a :: b :: r) = a.toNat * 72057594037927936 + (b.toNat * 281474976710656 + num r) := by
      rw [num_cons, num_cons, List.length_cons, hr]
    have := num_lt r
    rw [hr] at this
    omega
theorem num_append_le (l r : Bs) : num l ≤ num (l ++ r) := by
  induction r using snoc_ind with
  | h0 => simp
  | h1 r c ih =>
    rw [← List.append_assoc, num_snoc]
    omega
theorem num_take_le (s : Bs) (k : Nat) : num (s.take k) ≤ num s := by
  have := num_append_le (s.take k) (s.drop k)
  rwa [List.take_append_drop] at this
set_option maxHeartbeats 400000 in
theorem refNumber13 (s : Bs) (w : World) : Calls Try.prog 13 #[.string ⟨s.toArray⟩] w fun e w' => e = .returned (.tuple #[.int .i64 (number s).1, .bool (number s).2]) ∧ w = w' := by
  by_cases h8e : s.length = 8
  · have HL := Lib.hid h8e
    have h8 : ((s.length : Int) != 8) = false := by rw [h8e]; rfl
    have hl1 : s.length ≤ 8 := by have := HL.out; omega
    have hl2 : 8 ≤ s.length := by have := HL.out; omega
    have p0 : 0 < s.length := by omega
    have p1 : 1 < s.length := by omega
    by_cases h0 : 0 < (s[0]'p0).toNat
    · have hv := Lib.hid (num_head h8e (.inl h0))
      clear h8e
      go_enter Try.func13, Try.ntmps13
      go_wp2
      go_ret2
      exact ⟨by rw [hv.out]; rfl, rfl⟩
    by_cases h1 : 0 < (s[1]'p1).toNat
    · have hv := Lib.hid (num_head h8e (.inr h1))
      clear h8e
      go_enter Try.func13, Try.ntmps13
      go_wp2
      go_ret2
      exact ⟨by rw [hv.out]; rfl, rfl⟩
    have hsm := num_small h8e (by omega) (by omega)
    have HT := Lib.hid (num_take s)
    have HN := Lib.hid (num_take_le s)
    clear h8e
    go_enter Try.func13, Try.ntmps13
    go_wp2
    go_loop [4, 5] (fun v i => ∃ k : Nat, k ≤ 8 ∧ i = .int .i64 k ∧ v = .int .i64 (num (s.take k))) (fun _ i => 8 - (intOf i).toNat)
    case atStart => exact ⟨0, Nat.zero_le _, rfl, rfl⟩
    case round =>
      obtain ⟨k, hk, rfl, rfl⟩ := hrel
      by_cases hlt : k < s.length
      · have hb : num (s.take k) < 281474976710656 := Nat.lt_of_le_of_lt (HN.out k) hsm
        have hc := s[k].toNat_lt
        go_wp2
        go_round
        case rel => exact ⟨k + 1, by omega, by go_num, by rw [HT.out k hlt]; go_num⟩
        case measure => simp [intOf]; omega
      · obtain rfl : k = 8 := by omega
        have ht : num (s.take 8) = num s := by rw [List.take_of_length_le hl1]
        by_cases hm : (num s : Int) ≤ maxNumber
        · have hv : number s = (((num s : Nat) : Int), true) := by unfold number; rw [if_pos ⟨HL.out, hm⟩]
          have HV := Lib.hid hv
          have hgt : ¬ 1099511627776 < num s := by unfold maxNumber at hm; omega
          have HM := Lib.hid hm
          clear hv hm
          go_wp2
          go_ret2
          refine ⟨?_, rfl⟩
          rw [HV.out]
          rfl
        · have hv : number s = (0, false) := by unfold number; rw [if_neg (fun e => hm e.2)]
          have HV := Lib.hid hv
          have hgt : 1099511627776 < num s := by unfold maxNumber at hm; omega
          have HM := Lib.hid hm
          clear hv hm
          go_wp2
          go_ret2
          refine ⟨?_, rfl⟩
          rw [HV.out]
          rfl
  · have hv := Lib.hid (number_len h8e)
    have h8 : ((s.length : Int) != 8) = true := bne_of (by omega)
    clear h8e
    go_enter Try.func13, Try.ntmps13
    go_wp2
    go_ret2
    exact ⟨by rw [hv.out]; rfl, rfl⟩
end Go.Proofs.Ytekjghofkjlnaaa
