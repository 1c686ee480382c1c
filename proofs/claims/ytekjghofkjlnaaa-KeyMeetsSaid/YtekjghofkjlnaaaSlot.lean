/- The walks of Slot. -/
import Derived.Test.YtekjghofkjlnaaaNumber
namespace Go.Proofs.Ytekjghofkjlnaaa
open Go.RowKit P16
attribute [local go_sem] ByteArray.mk_append_mk ByteArray.extract_mk mk_index leq_bs not_lt_bs

def byteV (n k j : Nat) : Value := .int .u8 (if j < k then ((n / 256 ^ j % 256 : Nat) : Int) else 0)
def slotCells (n k : Nat) : Array Value := #[byteV n k 7, byteV n k 6, byteV n k 5, byteV n k 4, byteV n k 3, byteV n k 2, byteV n k 1, byteV n k 0]
theorem slotCells_start (n : Nat) : slotCells n 0 = #[.int .u8 0, .int .u8 0, .int .u8 0, .int .u8 0, .int .u8 0, .int .u8 0, .int .u8 0, .int .u8 0] := rfl

theorem slot_put (n k : Nat) (hk : k < 8) : slotCells n (k + 1) = (slotCells n k).setIfInBounds (7 - k) (byteV n (k + 1) k) := by
  match k, hk with
  | 0, _ => rfl
  | 1, _ => rfl
  | 2, _ => rfl
  | 3, _ => rfl
  | 4, _ => rfl
  | 5, _ => rfl
  | 6, _ => rfl
  | 7, _ => rfl
theorem slot_step {wr : World} {g n k : Nat} {v : Value} (h : Blk wr g 56 (slotCells n k)) (hk : k < 8) (hv : v = byteV n (k + 1) k) : Blk (wr.setCell ⟨g, 7 - k, none⟩ v) g 56 (slotCells n (k + 1)) := by
  rw [slot_put n k hk, hv]
  exact h.put _ _
theorem byteV_at (m j : Nat) (p : Int) (hp : p = (256 ^ j : Nat)) : .int .u8 ((m : Int) / p % 256) = byteV m (j + 1) j := by
  unfold byteV
  rw [if_pos (by omega), hp]
  simp
theorem byteV_zero (m : Nat) : .int .u8 ((m : Int) % 256) = byteV m (0 + 1) 0 := by
  unfold byteV
  rw [if_pos (by omega)]
  simp
theorem slot_bytes (n j : Nat) (hj : j < (bytesOf 8 n).length) : (slotCells n 8)[j]? = some (.int .u8 ((bytesOf 8 n)[j].toNat : Int)) := by
  have e : bytesOf 8 n = [UInt8.ofNat (n / 256 / 256 / 256 / 256 / 256 / 256 / 256), UInt8.ofNat (n / 256 / 256 / 256 / 256 / 256 / 256), UInt8.ofNat (n / 256 / 256 / 256 / 256 / 256), UInt8.ofNat (n / 256 / 256 / 256 / 256), UInt8.ofNat (n / 256 / 256 / 256), UInt8.ofNat (n / 256 / 256), UInt8.ofNat (n / 256), UInt8.ofNat n] := rfl
  have b (j : Nat) (hj : j < 8) (x : Nat) (hx : x = n / 256 ^ j) : byteV n 8 j = .int .u8 ((UInt8.ofNat x).toNat : Int) := by
    unfold byteV
    rw [if_pos hj, hx, UInt8.toNat_ofNat']
  rw [bytesOf_length] at hj
  have h' : ∀ l : Bs, bytesOf 8 n = l → ∀ h : j < l.length, (slotCells n 8)[j]? = some (.int .u8 (l[j].toNat : Int)) → ∀ h' : j < (bytesOf 8 n).length, (slotCells n 8)[j]? = some (.int .u8 ((bytesOf 8 n)[j].toNat : Int)) := by
    intro l hl
    subst hl
    exact fun _ h _ => h
  refine h' _ e (by simpa using hj) ?_ _
  match j, hj with
  | 0, _ => exact congrArg some (b 7 (by decide) _ (by simp [Nat.div_div_eq_div_mul]))
  | 1, _ => exact congrArg some (b 6 (by decide) _ (by simp [Nat.div_div_eq_div_mul]))
  | 2, _ => exact congrArg some (b 5 (by decide) _ (by simp [Nat.div_div_eq_div_mul]))
  | 3, _ => exact congrArg some (b 4 (by decide) _ (by simp [Nat.div_div_eq_div_mul]))
  | 4, _ => exact congrArg some (b 3 (by decide) _ (by simp [Nat.div_div_eq_div_mul]))
  | 5, _ => exact congrArg some (b 2 (by decide) _ (by simp [Nat.div_div_eq_div_mul]))
  | 6, _ => exact congrArg some (b 1 (by decide) _ (by simp))
  | 7, _ => exact congrArg some (b 0 (by decide) _ (by simp))
set_option maxHeartbeats 1000000 in
theorem slot14 (n : Int) (w : World) : Calls Try.prog 14 #[.int .i64 n] w fun e w' => e = .returned (.string ⟨(slot n).toArray⟩) ∧ Below w.heap.size w w' := by
  by_cases h0 : 0 ≤ n
  · by_cases h1 : n ≤ maxNumber
    · have hv : slot n = bytesOf 8 n.toNat := by unfold slot; rw [if_pos ⟨h0, h1⟩]
      have HV := Lib.hid hv
      have h2 : n ≤ 1099511627776 := h1
      have hw : (decide ((0:Int) ≤ n) && decide (n ≤ 1099511627776)) = true := by simp [h0, h2]
      have HW := Lib.hid hw
      obtain ⟨m, rfl⟩ := Int.eq_ofNat_of_zero_le h0
      clear hv hw h1
      go_enter Try.func14, Try.ntmps14
      go_wp2_with (go_at_call 39; refine (within39 _ _ _ _).mono ?_; rintro e w' ⟨rfl, rfl⟩; rw [HW.out])
      go_loopw [4, 8] (fun _ i wr => ∃ k : Nat, k ≤ 8 ∧ i = .int .i64 k ∧ Blk wr w.heap.size 56 (slotCells m k) ∧ Below w.heap.size w wr) (fun _ i _ => 8 - (intOf i).toNat)
      case atStart => exact ⟨0, Nat.zero_le _, rfl, Blk.new _ _ _, by go_grown⟩
      case round =>
        obtain ⟨k, hk, rfl, hB, hbw⟩ := hrel
        by_cases h8 : k = 8
        · subst h8
          have hcv := run_convert_bytes_back (P := Try.prog) wr 47 9 5 ⟨w.heap.size, 0, none⟩ 8 (bytesOf 8 m) Try.underlying47 Try.underlying5 Try.underlying9 (fun j hj => by
            rw [Addr.add_lit, Nat.zero_add, hB.cell j]
            exact slot_bytes m j hj)
          rw [bytesOf_length] at hcv
          go_wp2
          go_ret
          refine ⟨retStr ?_, hbw⟩
          rw [HV.out, Int.toNat_natCast]
        have hk' : k = 0 ∨ k = 1 ∨ k = 2 ∨ k = 3 ∨ k = 4 ∨ k = 5 ∨ k = 6 ∨ k = 7 := by omega
        rcases hk' with rfl | rfl | rfl | rfl | rfl | rfl | rfl | rfl
        · have hc := hB.cell 7
          have hf := hB.frozen 7
          rw [show (slotCells m 0)[7]? = some (byteV m 0 0) from rfl] at hc
          go_wp2
          exact ⟨⟨0 + 1, by omega, rfl, slot_step hB (by decide) (byteV_zero m), hbw.setCell (by simp) _⟩, by simp [intOf]⟩
        · have hc := hB.cell 6
          have hf := hB.frozen 6
          rw [show (slotCells m 1)[6]? = some (byteV m 1 1) from rfl] at hc
          go_wp2
          exact ⟨⟨1 + 1, by omega, rfl, slot_step hB (by decide) (byteV_at m 1 256 (by simp)), hbw.setCell (by simp) _⟩, by simp [intOf]⟩
        · have hc := hB.cell 5
          have hf := hB.frozen 5
          rw [show (slotCells m 2)[5]? = some (byteV m 2 2) from rfl] at hc
          go_wp2
          exact ⟨⟨2 + 1, by omega, rfl, slot_step hB (by decide) (byteV_at m 2 65536 (by simp)), hbw.setCell (by simp) _⟩, by simp [intOf]⟩
        · have hc := hB.cell 4
          have hf := hB.frozen 4
          rw [show (slotCells m 3)[4]? = some (byteV m 3 3) from rfl] at hc
          go_wp2
          exact ⟨⟨3 + 1, by omega, rfl, slot_step hB (by decide) (byteV_at m 3 16777216 (by simp)), hbw.setCell (by simp) _⟩, by simp [intOf]⟩
        · have hc := hB.cell 3
          have hf := hB.frozen 3
          rw [show (slotCells m 4)[3]? = some (byteV m 4 4) from rfl] at hc
          go_wp2
          exact ⟨⟨4 + 1, by omega, rfl, slot_step hB (by decide) (byteV_at m 4 4294967296 (by simp)), hbw.setCell (by simp) _⟩, by simp [intOf]⟩
        · have hc := hB.cell 2
          have hf := hB.frozen 2
          rw [show (slotCells m 5)[2]? = some (byteV m 5 5) from rfl] at hc
          go_wp2
          exact ⟨⟨5 + 1, by omega, rfl, slot_step hB (by decide) (by rw [← byteV_at m 5 1099511627776 (by simp), Int.emod_eq_of_lt (by omega) (by omega)]), hbw.setCell (by simp) _⟩, by simp [intOf]⟩
        · have hc := hB.cell 1
          have hf := hB.frozen 1
          rw [show (slotCells m 6)[1]? = some (byteV m 6 6) from rfl] at hc
          go_wp2
          exact ⟨⟨6 + 1, by omega, rfl, slot_step hB (by decide) (by rw [← byteV_at m 6 281474976710656 (by simp), Int.emod_eq_of_lt (by omega) (by omega)]), hbw.setCell (by simp) _⟩, by simp [intOf]⟩
        · have hc := hB.cell 0
          have hf := hB.frozen 0
          rw [show (slotCells m 7)[0]? = some (byteV m 7 7) from rfl] at hc
          go_wp2
          exact ⟨⟨7 + 1, by omega, rfl, slot_step hB (by decide) (by rw [← byteV_at m 7 72057594037927936 (by simp), Int.emod_eq_of_lt (by omega) (by omega)]), hbw.setCell (by simp) _⟩, by simp [intOf]⟩
    · have hv := Lib.hid (slot_nil (n := n) (fun e => h1 e.2))
      have h2 : ¬ n ≤ 1099511627776 := h1
      have hw : (decide ((0:Int) ≤ n) && decide (n ≤ 1099511627776)) = false := by simp [h2]
      have HW := Lib.hid hw
      clear hw h1 h2
      go_enter Try.func14, Try.ntmps14
      go_wp2_with (go_at_call 39; refine (within39 _ _ _ _).mono ?_; rintro e w' ⟨rfl, rfl⟩; rw [HW.out])
      go_ret
      exact ⟨by rw [hv.out]; rfl, Below.refl _ _⟩
  · have hv := Lib.hid (slot_nil (n := n) (fun e => h0 e.1))
    have hw : (decide ((0:Int) ≤ n) && decide (n ≤ 1099511627776)) = false := by simp [h0]
    have HW := Lib.hid hw
    clear hw h0
    go_enter Try.func14, Try.ntmps14
    go_wp2_with (go_at_call 39; refine (within39 _ _ _ _).mono ?_; rintro e w' ⟨rfl, rfl⟩; rw [HW.out])
    go_ret
    exact ⟨by rw [hv.out]; rfl, Below.refl _ _⟩
end Go.Proofs.Ytekjghofkjlnaaa
