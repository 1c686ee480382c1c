/- The walk of the reference's Slot. -/
import Derived.Test.YtekjghofkjlnaaaSlot
namespace Go.Proofs.Ytekjghofkjlnaaa
open Go.RowKit P16
attribute [local go_sem] ByteArray.mk_append_mk ByteArray.extract_mk mk_index leq_bs not_lt_bs

theorem info5 : (Try.prog.info? 5).map (fun i => (i.zero, i.size, i.bytes)) = some (some (.int .u8 0), 1, 1) := by kernel_rfl
theorem bytesOf_cons : ∀ (k n : Nat), bytesOf (k + 1) n = UInt8.ofNat (n / 256 ^ k) :: bytesOf k n
  | 0, n => by simp [bytesOf]
  | k + 1, n => by
    have ih := bytesOf_cons k (n / 256)
    rw [bytesOf, ih, Nat.div_div_eq_div_mul, Nat.pow_succ, Nat.mul_comm 256]
    rfl
/-- The slice v of n bytes of a block of the call's own reads as l. -/
def BytesAt (w : World) (v : Value) (l : Bs) : Prop := ∃ g c, v = .slice (some ⟨g, 0, none⟩) l.length c ∧ ∀ j u, (l.map fun b => Value.int .u8 b.toNat)[j]? = some u → w.cell? ((⟨g, 0, none⟩ : Addr).add j) = some u
theorem BytesAt.of_own {w : World} {base : Nat} {e : TypeId} {v : Value} {n : Nat} {l : Bs} {xs : List Value} (h : w.ownsRow base e 1 v n xs) (hx : xs = l.map fun b => Value.int .u8 b.toNat) (hn : n ≠ 0) : BytesAt w v l := by
  subst hx
  have hl : l.length = n := by have := h.1; simpa using this
  subst hl
  rcases h.2 with ⟨_, h0⟩ | ⟨g, cap, cur, rfl, _, _, _⟩
  · exact absurd h0 hn
  · exact ⟨g, cap, rfl, h.cells (g := g) rfl⟩
theorem BytesAt.below {w w' : World} {v : Value} {l : Bs} (h : BytesAt w v l) (hb : Below w.heap.size w w') : BytesAt w' v l := by
  obtain ⟨g, c, h1, h2⟩ := h
  exact ⟨g, c, h1, fun j u hj => by
    have := h2 j u hj
    rw [hb.cell (World.block_lt_of_cell? w _ this)]
    exact this⟩
set_option maxHeartbeats 1000000 in
theorem refSlot15 (n : Int) (w : World) : Calls Try.prog 15 #[.int .i64 n] w fun e w' => e = .returned (.string ⟨(slot n).toArray⟩) ∧ Below w.heap.size w w' := by
  by_cases h0 : 0 ≤ n
  · by_cases h1 : n ≤ maxNumber
    · have hv : slot n = bytesOf 8 n.toNat := by unfold slot; rw [if_pos ⟨h0, h1⟩]
      have HV := Lib.hid hv
      have h2 : n ≤ 1099511627776 := h1
      obtain ⟨m, rfl⟩ := Int.eq_ofNat_of_zero_le h0
      clear hv h1
      obtain ⟨i0, hi0, hz0, hz1, hz2⟩ := info_parts info5
      have HI := Lib.hid hi0
      have HZ0 := Lib.hid hz0
      have HZ1 := Lib.hid hz1
      have HZ2 := Lib.hid hz2
      clear hi0 hz0 hz1 hz2
      go_enter Try.func15, Try.ntmps15
      go_wp2
      go_loopw [0, 3, 4] (fun x v i wr => ∃ k : Nat, k ≤ 8 ∧ i = .int .i64 k ∧ x = .int .i64 (m / 256 ^ k : Nat) ∧ BytesAt wr v (bytesOf k m) ∧ Below w.heap.size w wr) (fun _ _ i _ => 8 - (intOf i).toNat)
      case atStart => exact ⟨0, Nat.zero_le _, rfl, by simp, ⟨_, _, rfl, by simp [bytesOf]⟩, by go_grown⟩
      case round =>
        obtain ⟨k, hk, rfl, rfl, hB, hbw⟩ := hrel
        have hq : m / 256 ^ k ≤ m := Nat.div_le_self _ _
        have HQ := Lib.hid (bytesOf_cons k m)
        have HD : Hid (m / 256 ^ (k + 1) = m / 256 ^ k / 256) := by
          have : m / 256 ^ (k + 1) = m / 256 ^ k / 256 := by rw [Nat.pow_succ, Nat.div_div_eq_div_mul]
          exact this
        generalize hqq : m / 256 ^ k = q at *
        clear hqq
        by_cases hlt : k < 8
        · obtain ⟨g, c, rfl, hcell⟩ := hB
          have HC := Lib.hid hcell
          have HL := Lib.hid (bytesOf_length k m)
          clear hcell
          have hown : (wr.alloc (.cells #[.int .u8 ((q : Int) % 256)] 5)).ownsRow w.heap.size 5 1 (.slice (some ⟨wr.heap.size, 0, none⟩) 1 1) 1 [.int .u8 ((q : Int) % 256)] :=
            ⟨rfl, .inr ⟨wr.heap.size, 1, #[.int .u8 ((q : Int) % 256)], rfl, hbw.size, heap_alloc_new _ _, Nat.le_refl _, by decide, rfl, rfl⟩⟩
          have hcell : ∀ j u, ((bytesOf k m).map fun b => Value.int .u8 b.toNat)[j]? = some u → (wr.alloc (.cells #[.int .u8 ((q : Int) % 256)] 5)).cell? ((⟨g, 0, none⟩ : Addr).add j) = some u := fun j u hj => by
            have h1 := HC.out j u hj
            rw [((Below.refl wr.heap.size wr).alloc (Nat.le_refl _) (.cells #[.int .u8 ((q : Int) % 256)] 5)).cell (World.block_lt_of_cell? wr _ h1)]
            exact h1
          have HOwn := Lib.hid hown
          have HC' := Lib.hid hcell
          clear hown hcell
          go_wp2_with (at_builtin; refine wpList_append_own_at _ rfl (.tmp 19) (.tmp 20) _ rfl w.heap.size 5 i0 _ 1 1 Try.underlying47 HI.out HZ0.out HZ1.out HZ2.out rfl (by decide) _ 1 _ rfl HOwn.out ⟨g, 0, none⟩ (bytesOf k m).length c ((bytesOf k m).map fun b => Value.int .u8 b.toNat) rfl (by simp) HC'.out (by simp [Value.oneCell']) (by rw [HL.out]; unfold maxLen; omega) (by rw [HL.out]; omega) (by have := hbw.size; simp; omega) ?_; intro v' w1 hown1 hgrow _ _)
          go_roundw
          case rel =>
            refine ⟨k + 1, by omega, by go_num, by rw [HD.out]; simp, ?_, ?_⟩
            · refine BytesAt.of_own hown1 ?_ (by omega)
              rw [HQ.out]
              simp
            · exact ((hbw.alloc hbw.size _).trans ((Below.refl _ _).grown hgrow (by have := hbw.size; simp; omega) (fun k hk => (HOwn.out.lt k hk).1)))
          case measure => simp [intOf]; omega
        · obtain rfl : k = 8 := by omega
          obtain ⟨g, c, rfl, hcell⟩ := hB
          have hcv := run_convert_bytes_back (P := Try.prog) wr 47 9 5 ⟨g, 0, none⟩ c (bytesOf 8 m) Try.underlying47 Try.underlying5 Try.underlying9 (fun j hj => hcell _ _ (by simp [hj]))
          clear hcell
          go_wp2
          go_ret
          refine ⟨retStr ?_, hbw⟩
          rw [HV.out, Int.toNat_natCast]
    · have hv := Lib.hid (slot_nil (n := n) (fun e => h1 e.2))
      have h2 : 1099511627776 < n := by unfold maxNumber at h1; omega
      clear h1
      go_enter Try.func15, Try.ntmps15
      go_wp2
      go_ret
      exact ⟨by rw [hv.out]; rfl, Below.refl _ _⟩
  · have hv := Lib.hid (slot_nil (n := n) (fun e => h0 e.1))
    go_enter Try.func15, Try.ntmps15
    go_wp2
    go_ret
    exact ⟨by rw [hv.out]; rfl, Below.refl _ _⟩
end Go.Proofs.Ytekjghofkjlnaaa
