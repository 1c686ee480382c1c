/- The walk of the program's Valid. -/
import Derived.Test.YtekjghofkjlnaaaValid
namespace Go.Proofs.Ytekjghofkjlnaaa
open Go.RowKit P16
attribute [local go_sem] ByteArray.mk_append_mk ByteArray.extract_mk mk_index leq_bs not_lt_bs

/-- The slice '.slice A n c' reads as the integers 'ns'. -/
def IntsAt (w : World) (A : Option Addr) (n : Nat) (ns : List Int) : Prop :=
  ns.length = n ∧ ∀ k x, ns[k]? = some x → ∃ b off, A = some ⟨b, off, none⟩ ∧ w.cell? ⟨b, off + k, none⟩ = some (.int .i64 x)
theorem IntsAt.at_ {w : World} {A : Option Addr} {n : Nat} {ns : List Int} (h : IntsAt w A n ns) {k : Nat} (hk : k < n) : ∃ b off x, A = some ⟨b, off, none⟩ ∧ ns[k]? = some x ∧ w.cell? ⟨b, off + k, none⟩ = some (.int .i64 x) := by
  have hl : k < ns.length := by have := h.1; omega
  obtain ⟨b, off, h1, h2⟩ := h.2 k ns[k] (List.getElem?_eq_getElem hl)
  exact ⟨b, off, ns[k], h1, List.getElem?_eq_getElem hl, h2⟩
theorem IntsAt.lit (w : World) (e : TypeId) (ns : List Int) : IntsAt (w.alloc (.cells (ns.map (Value.int .i64)).toArray e)) (some ⟨w.heap.size, 0, none⟩) ns.length ns := by
  refine ⟨rfl, fun k x hk => ⟨_, _, rfl, ?_⟩⟩
  rw [Nat.zero_add, World.cell?_alloc_mark w _ e (0, 0) k]
  simp [hk]
theorem IntsAt.lit2 (w : World) (e : TypeId) (a b : Int) : IntsAt (w.alloc (.cells #[.int .i64 a, .int .i64 b] e)) (some ⟨w.heap.size, 0, none⟩) 2 [a, b] := IntsAt.lit w e [a, b]
theorem IntsAt.lit5 (w : World) (e : TypeId) (a b c d f : Int) : IntsAt (w.alloc (.cells #[.int .i64 a, .int .i64 b, .int .i64 c, .int .i64 d, .int .i64 f] e)) (some ⟨w.heap.size, 0, none⟩) 5 [a, b, c, d, f] := IntsAt.lit w e [a, b, c, d, f]
def zerosB (ns : List Int) : Bool := ns.all (fun n => decide (n = 0))
set_option maxHeartbeats 400000 in
theorem zeros41 (A : Option Addr) (n c : Nat) (ns : List Int) (w : World) (h : IntsAt w A n ns) (hn : n ≤ 1000) :
    Calls Try.prog 41 #[.slice A n c] w fun e w' => e = .returned (.bool (zerosB ns)) ∧ w = w' := by
  have H := Lib.hid h
  have HL := Lib.hid h.1
  clear h
  go_enter Try.func41, Try.ntmps41
  go_wp2
  go_loop [7] (fun i => ∃ k : Nat, k ≤ n ∧ i = .int .i64 k ∧ Hid (∀ j s, j < k → ns[j]? = some s → s = 0)) (fun i => n - (intOf i).toNat)
  case atStart => exact ⟨0, Nat.zero_le _, rfl, fun j s hj => absurd hj (by omega)⟩
  case round =>
    obtain ⟨k, hk, rfl, hall⟩ := hrel
    by_cases hlt : k < n
    · obtain ⟨b, off, s, rfl, hs, hc⟩ := H.out.at_ hlt
      have HS := Lib.hid hs
      clear hs
      by_cases hgt : s = 0
      · subst hgt
        go_wp2
        go_round
        case rel =>
          refine ⟨k + 1, by omega, by go_num, ?_⟩
          intro j s' hj hs'
          by_cases hjk : j = k
          · subst hjk
            have := HS.out.symm.trans hs'
            simp only [Option.some.injEq] at this
            omega
          · exact hall.out j s' (by omega) hs'
        case measure => simp [intOf]; omega
      · have hv : zerosB ns = false := by
          unfold zerosB
          rw [List.all_eq_false]
          exact ⟨s, List.mem_of_getElem? HS.out, by simpa using hgt⟩
        have HV := Lib.hid hv
        have hne : (s != 0) = true := bne_of hgt
        clear hv hgt
        go_wp2
        go_ret
        exact ⟨retBool HV.out.symm, rfl⟩
    · have hkn : k = n := by omega
      subst hkn
      go_wp2
      go_ret
      refine ⟨retBool ?_, rfl⟩
      symm
      unfold zerosB
      rw [List.all_eq_true]
      intro s hs
      obtain ⟨j, hj⟩ := List.mem_iff_getElem?.1 hs
      simpa using hall.out j s (by have := (List.getElem?_eq_some_iff.1 hj).1; have := HL.out; omega) hj
theorem zeros41_2 {w : World} {g : Nat} {e : TypeId} {a b : Int} {c : Nat} (hg : g = w.heap.size) : Calls Try.prog 41 #[.slice (some ⟨g, 0, none⟩) 2 c] (w.alloc (.cells #[.int .i64 a, .int .i64 b] e)) fun r w' => r = .returned (.bool (zerosB [a, b])) ∧ (w.alloc (.cells #[.int .i64 a, .int .i64 b] e)) = w' := by
  subst hg; exact zeros41 _ _ _ _ _ (IntsAt.lit2 w e a b) (by decide)
theorem zeros41_5 {w : World} {g : Nat} {e : TypeId} {a b c d f : Int} {n : Nat} (hg : g = w.heap.size) : Calls Try.prog 41 #[.slice (some ⟨g, 0, none⟩) 5 n] (w.alloc (.cells #[.int .i64 a, .int .i64 b, .int .i64 c, .int .i64 d, .int .i64 f] e)) fun r w' => r = .returned (.bool (zerosB [a, b, c, d, f])) ∧ (w.alloc (.cells #[.int .i64 a, .int .i64 b, .int .i64 c, .int .i64 d, .int .i64 f] e)) = w' := by
  subst hg; exact zeros41 _ _ _ _ _ (IntsAt.lit5 w e a b c d f) (by decide)
def kn (itv : Int) (k : Nat) : Bool := (decide (0 < k) && itv == 128) || (decide (1 < k) && itv == 256) || (decide (2 < k) && itv == 512)
theorem kn_no {itv : Int} (h1 : itv ≠ 128) (h2 : itv ≠ 256) (h3 : itv ≠ 512) (k : Nat) : kn itv k = false := by
  unfold kn
  simp [h1, h2, h3]
set_option maxRecDepth 100000 in
set_option maxHeartbeats 1000000 in
theorem valid28_yes (d : DS) (w : World) (h2 : d.itv = 128 ∨ d.itv = 256 ∨ d.itv = 512) : Calls Try.prog 28 #[dv d] w fun e w' => e = .returned (.bool (validB d)) ∧ Below w.heap.size w w' := by
  obtain ⟨id, org, fmt, len, blk, kat, klen, itv, area, fint, farea, base, aat, alen, uniq, cls, vol, own, cre, exp, arch⟩ := d
  dsimp only at h2
  unfold dv
  have i0 : ∀ w, (Instr.index 58 (.agg #[.int .i64 128, .int .i64 256, .int .i64 512]) (.int .i64 0)).run Try.prog w = .ok (.int .i64 128) w := fun _ => by kernel_rfl
  have i1 : ∀ w, (Instr.index 58 (.agg #[.int .i64 128, .int .i64 256, .int .i64 512]) (.int .i64 1)).run Try.prog w = .ok (.int .i64 256) w := fun _ => by kernel_rfl
  have i2 : ∀ w, (Instr.index 58 (.agg #[.int .i64 128, .int .i64 256, .int .i64 512]) (.int .i64 2)).run Try.prog w = .ok (.int .i64 512) w := fun _ => by kernel_rfl
  go_enter Try.func28, Try.ntmps28
  go_wp2
  go_loop [4, 9] (fun v i => ∃ k : Nat, k ≤ 3 ∧ i = .int .i64 k ∧ v = .bool (kn itv k)) (fun _ i => 3 - (intOf i).toNat)
  case atStart => exact ⟨0, by omega, rfl, by simp [kn]⟩
  case round =>
    obtain ⟨k, hk, rfl, rfl⟩ := hrel
    have hk' : k = 0 ∨ k = 1 ∨ k = 2 ∨ k = 3 := by omega
    rcases hk' with rfl | rfl | rfl | rfl
    · have e1 : kn itv 0 = false := by simp [kn]
      rcases h2 with rfl | rfl | rfl
      all_goals
        go_wp2
        go_round
        case rel => exact ⟨1, by omega, rfl, rfl⟩
        case measure => simp [intOf]
    · rcases h2 with rfl | rfl | rfl
      all_goals
        first | have e1 : kn 128 1 = true := rfl | skip
        first | have e1 : kn 256 1 = false := rfl | skip
        first | have e1 : kn 512 1 = false := rfl | skip
        go_wp2
        go_round
        case rel => exact ⟨2, by omega, rfl, rfl⟩
        case measure => simp [intOf]
    · rcases h2 with rfl | rfl | rfl
      all_goals
        have e1 : kn 128 2 = true := rfl
        have e2 : kn 256 2 = true := rfl
        have e3 : kn 512 2 = false := rfl
        go_wp2
        go_round
        case rel => exact ⟨3, by omega, rfl, rfl⟩
        case measure => simp [intOf]
    · rcases h2 with rfl | rfl | rfl
      all_goals
        have e1 : kn 128 3 = true := rfl
        have e2 : kn 256 3 = true := rfl
        have e3 : kn 512 3 = true := rfl
        go_wp2_with (first | (go_at_call 39; refine (within39 _ _ _ _).mono ?_; rintro e w' ⟨rfl, rfl⟩) | (go_at_call 41; first | (with_reducible refine (zeros41_2 (by simp)).mono ?_; rintro e w' ⟨rfl, rfl⟩) | (with_reducible refine (zeros41_5 (by simp)).mono ?_; rintro e w' ⟨rfl, rfl⟩)))
        all_goals
          go_ret
          refine ⟨retBool ?_, by go_grown⟩
          rw [Bool.eq_iff_iff]
          simp only [validB, bne_iff_ne, ne_eq, bne_eq_false_iff_eq, zerosB] at *
          simp at * <;> first | omega | (by_cases ho : org = 3 <;> simp [ho] at * <;> omega)
set_option maxRecDepth 100000 in
set_option maxHeartbeats 1000000 in
theorem valid28_no (d : DS) (w : World) (h1 : d.itv ≠ 128) (h2 : d.itv ≠ 256) (h3 : d.itv ≠ 512) : Calls Try.prog 28 #[dv d] w fun e w' => e = .returned (.bool (validB d)) ∧ Below w.heap.size w w' := by
  have hv := Lib.hid (valid_itv h1 h2 h3)
  obtain ⟨id, org, fmt, len, blk, kat, klen, itv, area, fint, farea, base, aat, alen, uniq, cls, vol, own, cre, exp, arch⟩ := d
  dsimp only at h1 h2 h3
  unfold dv
  have i0 : ∀ w, (Instr.index 58 (.agg #[.int .i64 128, .int .i64 256, .int .i64 512]) (.int .i64 0)).run Try.prog w = .ok (.int .i64 128) w := fun _ => by kernel_rfl
  have i1 : ∀ w, (Instr.index 58 (.agg #[.int .i64 128, .int .i64 256, .int .i64 512]) (.int .i64 1)).run Try.prog w = .ok (.int .i64 256) w := fun _ => by kernel_rfl
  have i2 : ∀ w, (Instr.index 58 (.agg #[.int .i64 128, .int .i64 256, .int .i64 512]) (.int .i64 2)).run Try.prog w = .ok (.int .i64 512) w := fun _ => by kernel_rfl
  have e1 : (itv == 128) = false := beq_not h1
  have e2 : (itv == 256) = false := beq_not h2
  have e3 : (itv == 512) = false := beq_not h3
  clear h1 h2 h3
  go_enter Try.func28, Try.ntmps28
  go_wp2
  go_loop [4, 9] (fun v i => ∃ k : Nat, k ≤ 3 ∧ i = .int .i64 k ∧ v = .bool false) (fun _ i => 3 - (intOf i).toNat)
  case atStart => exact ⟨0, by omega, rfl, rfl⟩
  case round =>
    obtain ⟨k, hk, rfl, rfl⟩ := hrel
    have hk' : k = 0 ∨ k = 1 ∨ k = 2 ∨ k = 3 := by omega
    rcases hk' with rfl | rfl | rfl | rfl
    · go_wp2
      go_round
      case rel => exact ⟨1, by omega, rfl, rfl⟩
      case measure => simp [intOf]
    · go_wp2
      go_round
      case rel => exact ⟨2, by omega, rfl, rfl⟩
      case measure => simp [intOf]
    · go_wp2
      go_round
      case rel => exact ⟨3, by omega, rfl, rfl⟩
      case measure => simp [intOf]
    · go_wp2
      go_ret
      exact ⟨by rw [hv.out]; rfl, by go_grown⟩
theorem valid28 (d : DS) (w : World) : Calls Try.prog 28 #[dv d] w fun e w' => e = .returned (.bool (validB d)) ∧ Below w.heap.size w w' := by
  by_cases h2 : d.itv = 128 ∨ d.itv = 256 ∨ d.itv = 512
  · exact valid28_yes d w h2
  · exact valid28_no d w (by omega) (by omega) (by omega)
end Go.Proofs.Ytekjghofkjlnaaa
