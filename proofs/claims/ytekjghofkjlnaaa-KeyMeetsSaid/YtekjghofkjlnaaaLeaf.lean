/- The walks of Short, few, within, zeros, between and the functions on beginnings of strings. -/
import Derived.Test.YtekjghofkjlnaaaRanges
import Derived.StillTailTactics
namespace Go.Proofs.Ytekjghofkjlnaaa
open Go.RowKit P16
attribute [local go_sem] ByteArray.mk_append_mk ByteArray.extract_mk mk_index leq_bs not_lt_bs

def shortB (ss : List Bs) (most len : Int) : Bool := decide ((ss.length : Int) ≤ most) && ss.all (fun s => decide ((s.length : Int) ≤ len))
theorem short_no {ss : List Bs} {most len : Int} {k : Nat} {s : Bs} (h : ss[k]? = some s) (hl : len < (s.length : Int)) : shortB ss most len = false := by
  have hm : s ∈ ss := List.mem_of_getElem? h
  have : ss.all (fun s => decide ((s.length : Int) ≤ len)) = false := by
    rw [List.all_eq_false]
    exact ⟨s, hm, by simp; omega⟩
  unfold shortB
  rw [this, Bool.and_false]
theorem short_end {ss : List Bs} {most len : Int} {n : Nat} (hn : ss.length = n) (hm : (n : Int) ≤ most) (h : ∀ j s, j < n → ss[j]? = some s → (s.length : Int) ≤ len) : shortB ss most len = true := by
  have : ss.all (fun s => decide ((s.length : Int) ≤ len)) = true := by
    rw [List.all_eq_true]
    intro s hs
    obtain ⟨j, hj⟩ := List.mem_iff_getElem?.1 hs
    have hlt : j < n := by have := (List.getElem?_eq_some_iff.1 hj).1; omega
    simpa using h j s hlt hj
  unfold shortB
  rw [this, hn, Bool.and_true]
  simpa using hm
theorem short_many {ss : List Bs} {most len : Int} {n : Nat} (hn : ss.length = n) (hm : most < (n : Int)) : shortB ss most len = false := by
  unfold shortB
  rw [hn, decide_eq_false (by omega), Bool.false_and]

set_option maxHeartbeats 400000 in
theorem refShort38 (A : Option Addr) (n c : Nat) (ss : List Bs) (most len : Int) (w : World) (h : StrsAt w A n ss) (hn : n ≤ maxLen) :
    Calls Try.prog 38 #[.slice A n c, .int .i64 most, .int .i64 len] w fun e w' => e = .returned (.bool (shortB ss most len)) ∧ Below w.heap.size w w' := by
  unfold maxLen at hn
  have H := Lib.hid h
  have HL := Lib.hid h.len
  clear h
  by_cases hm : most < (n : Int)
  · go_enter Try.func38, Try.ntmps38
    go_wp2
    go_ret
    exact ⟨retBool (short_many HL.out hm).symm, Below.refl _ _⟩
  go_enter Try.func38, Try.ntmps38
  go_wp2
  go_loop [7] (fun i => ∃ k : Nat, k ≤ n ∧ i = .int .i64 k ∧ Hid (∀ j s, j < k → ss[j]? = some s → (s.length : Int) ≤ len)) (fun i => n - (intOf i).toNat)
  case atStart => exact ⟨0, Nat.zero_le _, rfl, fun j s hj => absurd hj (by omega)⟩
  case round =>
    obtain ⟨k, hk, rfl, hall⟩ := hrel
    by_cases hlt : k < n
    · obtain ⟨b, off, s, rfl, hs, hc⟩ := H.out.at_ hlt
      have HS := Lib.hid hs
      clear hs
      by_cases hgt : len < (s.length : Int)
      · go_wp2
        go_ret
        exact ⟨retBool (short_no HS.out hgt).symm, Below.refl _ _⟩
      · go_wp2
        go_round
        case rel =>
          refine ⟨k + 1, by omega, by go_num, ?_⟩
          intro j s' hj hs'
          by_cases hjk : j = k
          · subst hjk
            have := HS.out.symm.trans hs'
            simp only [Option.some.injEq] at this
            subst this
            omega
          · exact hall.out j s' (by omega) hs'
        case measure => simp [intOf]; omega
    · have hkn : k = n := by omega
      subst hkn
      go_wp2
      go_ret
      exact ⟨retBool (short_end HL.out (by omega) hall.out).symm, Below.refl _ _⟩
set_option maxHeartbeats 400000 in
theorem short11 (A : Option Addr) (n c : Nat) (ss : List Bs) (w : World) (h : StrsAt w A n ss) (hn : n ≤ maxLen) :
    Calls Try.prog 11 #[.slice A n c] w fun e w' => e = .returned (.bool (shortB ss 10 100)) ∧ Below w.heap.size w w' := by
  have H := Lib.hid h
  clear h
  go_enter Try.func11, Try.ntmps11
  go_wp2_with fail
  refine (refShort38 _ _ _ ss _ _ _ H.out hn).mono ?_
  rintro e w1 ⟨rfl, hb⟩
  go_wp2
  go_ret
  exact ⟨rfl, hb⟩

/-- The slice '.slice A n c' reads as the ranges 'rs'. -/
def RngsAt (w : World) (A : Option Addr) (n : Nat) (rs : List Rng) : Prop :=
  rs.length = n ∧ ∀ k r, rs[k]? = some r → ∃ b off, A = some ⟨b, off, none⟩ ∧ w.cell? ⟨b, off + k * 3, none⟩ = some (.string ⟨r.low.toArray⟩) ∧ w.cell? ⟨b, off + k * 3 + 1, none⟩ = some (.string ⟨r.high.toArray⟩)
theorem RngsAt.at_ {w : World} {A : Option Addr} {n : Nat} {rs : List Rng} (h : RngsAt w A n rs) {k : Nat} (hk : k < n) : ∃ b off r, A = some ⟨b, off, none⟩ ∧ rs[k]? = some r ∧ w.cell? ⟨b, off + k * 3, none⟩ = some (.string ⟨r.low.toArray⟩) ∧ w.cell? ⟨b, off + k * 3 + 1, none⟩ = some (.string ⟨r.high.toArray⟩) := by
  have hl : k < rs.length := by have := h.1; omega
  obtain ⟨b, off, h1, h2⟩ := h.2 k rs[k] (List.getElem?_eq_getElem hl)
  exact ⟨b, off, rs[k], h1, List.getElem?_eq_getElem hl, h2⟩
theorem RngsAt.below {w w' : World} {A : Option Addr} {n : Nat} {rs : List Rng} (h : RngsAt w A n rs) (hb : Below w.heap.size w w') : RngsAt w' A n rs :=
  ⟨h.1, fun k s hs => by
    obtain ⟨b, off, h1, h2, h3⟩ := h.2 k s hs
    exact ⟨b, off, h1, by rw [hb.cell (p := ⟨b, off + k * 3, none⟩) (World.block_lt_of_cell? w _ h2)]; exact h2, by rw [hb.cell (p := ⟨b, off + k * 3 + 1, none⟩) (World.block_lt_of_cell? w _ h3)]; exact h3⟩⟩
def rngShort (r : Rng) : Bool := decide (r.low.length ≤ 100) && decide (r.high.length ≤ 100)
theorem short_two (s t : Bs) : shortB [s, t] 10 100 = (decide (s.length ≤ 100) && decide (t.length ≤ 100)) := by
  have e (x : Bs) : decide ((x.length : Int) ≤ 100) = decide (x.length ≤ 100) := by rw [decide_eq_decide]; omega
  simp [shortB, e]

theorem StrsAt.drew {w : World} {A : Option Addr} {n : Nat} {ss : List Bs} (h : StrsAt w A n ss) : StrsAt w.drew A n ss := h
set_option maxHeartbeats 400000 in
theorem few21 (A : Option Addr) (n c : Nat) (rs : List Rng) (w : World) (h : RngsAt w A n rs) (hn : n ≤ maxLen) :
    Calls Try.prog 21 #[.slice A n c] w fun e w' => e = .returned (.bool (rs.all rngShort)) ∧ Below w.heap.size w w' := by
  unfold maxLen at hn
  have H := Lib.hid h
  have HL := Lib.hid h.1
  clear h
  go_enter Try.func21, Try.ntmps21
  go_wp2
  go_loopw [3] (fun i wr => ∃ k : Nat, k ≤ n ∧ i = .int .i64 k ∧ Hid (∀ j s, j < k → rs[j]? = some s → rngShort s = true) ∧ Below w.heap.size w wr) (fun i _ => n - (intOf i).toNat)
  case atStart => exact ⟨0, Nat.zero_le _, rfl, fun j s hj => absurd hj (by omega), Below.refl _ _⟩
  case round =>
    obtain ⟨k, hk, rfl, hall, hbw⟩ := hrel
    by_cases hlt : k < n
    · obtain ⟨b, off, s, rfl, hs, hc1, hc2⟩ := (H.out.below hbw).at_ hlt
      have HS := Lib.hid hs
      clear hs
      cases hr : rngShort s
      · have hout : rs.all rngShort = false := by
          rw [List.all_eq_false]
          exact ⟨s, List.mem_of_getElem? HS.out, by rw [hr]; exact Bool.false_ne_true⟩
        have HO := Lib.hid hout
        have HR := Lib.hid hr
        clear hr hout
        go_wp2
        go_still_tail 10, (by kernel_rfl)
        go_wp2_with (go_at_call 11; refine (short11 _ _ _ [s.low, s.high] _ (StrsAt.lit2 _ _ _ _).drew (by decide)).mono ?_; rintro e w2 ⟨rfl, hb2⟩; rw [short_two, ← rngShort, HR.out])
        go_ret
        exact ⟨retBool HO.out.symm, below_then_ (below_drewN (hbw.alloc hbw.size _) 1) hb2⟩
      · have HR := Lib.hid hr
        clear hr
        go_wp2
        go_still_tail 10, (by kernel_rfl)
        go_wp2_with (go_at_call 11; refine (short11 _ _ _ [s.low, s.high] _ (StrsAt.lit2 _ _ _ _).drew (by decide)).mono ?_; rintro e w2 ⟨rfl, hb2⟩; rw [short_two, ← rngShort, HR.out])
        go_roundw
        case rel =>
          refine ⟨k + 1, by omega, by go_num, ?_, below_then_ (below_drewN (hbw.alloc hbw.size _) 1) hb2⟩
          intro j s' hj hs'
          by_cases hjk : j = k
          · subst hjk
            have := HS.out.symm.trans hs'
            simp only [Option.some.injEq] at this
            subst this
            exact HR.out
          · exact hall.out j s' (by omega) hs'
        case measure => simp [intOf]; omega
    · have hkn : k = n := by omega
      subst hkn
      go_wp2
      go_ret
      refine ⟨retBool ?_, hbw⟩
      symm
      rw [List.all_eq_true]
      intro s hs
      obtain ⟨j, hj⟩ := List.mem_iff_getElem?.1 hs
      exact hall.out j s (by have := (List.getElem?_eq_some_iff.1 hj).1; have := HL.out; omega) hj
end Go.Proofs.Ytekjghofkjlnaaa
