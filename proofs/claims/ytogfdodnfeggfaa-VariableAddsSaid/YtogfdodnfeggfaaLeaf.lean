/- The walks of the leaf functions of chapter 11: Valid, Word, ReadWord, form, whole, first, Few, Same: each returns what its plain function says. -/
import Derived.Test.YtogfdodnfeggfaaRows
import Derived.Test.YtogfdodnfeggfaaKit
import Derived.Test.YtogfdodnfeggfaaPlain
namespace Go.Proofs.Ytogfdodnfeggfaa
open Go.RowKit P11
attribute [local go_sem] ByteArray.mk_append_mk ByteArray.extract_mk mk_index

def vok (L K : Int) : Bool := decide (1 ≤ L) && (decide (L ≤ 1000) && (decide (L + 8 ≤ K) && decide (K ≤ 1024)))

set_option maxHeartbeats 400000 in
theorem valid14 (L K : Int) (w : World) : Calls Try.prog 14 #[.int .i64 L, .int .i64 K] w fun e w' => e = .returned (.bool (vok L K)) ∧ w = w' := by
  by_cases h1 : 1 ≤ L <;> by_cases h2 : L ≤ 1000 <;> by_cases h3 : L + 8 ≤ K <;> by_cases h4 : K ≤ 1024
  all_goals
    have hv : vok L K = (decide (1 ≤ L) && (decide (L ≤ 1000) && (decide (L + 8 ≤ K) && decide (K ≤ 1024)))) := rfl
    simp only [h1, h2, h3, h4, decide_true, decide_false, Bool.and_true, Bool.and_false] at hv
    have HV := Lib.hid hv
    clear hv
    go_enter Try.func14, Try.ntmps14
    go_wp2
    go_ret
    rw [HV.out]
    exact ⟨rfl, rfl⟩
set_option maxHeartbeats 400000 in
theorem valid15 (L K : Int) (w : World) : Calls Try.prog 15 #[.int .i64 L, .int .i64 K] w fun e w' => e = .returned (.bool (vok L K)) ∧ w = w' := by
  by_cases h1 : 1 ≤ L <;> by_cases h2 : L ≤ 1000 <;> by_cases h3 : L + 8 ≤ K <;> by_cases h4 : K ≤ 1024
  all_goals
    have hv : vok L K = (decide (1 ≤ L) && (decide (L ≤ 1000) && (decide (L + 8 ≤ K) && decide (K ≤ 1024)))) := rfl
    simp only [h1, h2, h3, h4, decide_true, decide_false, Bool.and_true, Bool.and_false] at hv
    have HV := Lib.hid hv
    clear hv
    go_enter Try.func15, Try.ntmps15
    go_wp2
    go_ret
    rw [HV.out]
    exact ⟨rfl, rfl⟩

/-- The word of a number, whatever its size. -/
def wordI (n : Int) : Bs := if n < 0 ∨ 65535 < n then [] else word n.toNat

set_option maxHeartbeats 400000 in
theorem word19 (n : Int) (w : World) : Calls Try.prog 19 #[.int .i64 n] w fun e w' => e = .returned (.string ⟨(wordI n).toArray⟩) ∧ Below w.heap.size w w' := by
  by_cases h1 : n < 0
  · have hv : wordI n = [] := by unfold wordI; rw [if_pos (.inl h1)]
    have HV := Lib.hid hv
    clear hv
    go_enter Try.func19, Try.ntmps19
    go_wp2
    go_ret
    rw [HV.out]
    exact ⟨rfl, Below.refl _ _⟩
  by_cases h2 : 65535 < n
  · have hv : wordI n = [] := by unfold wordI; rw [if_pos (.inr h2)]
    have HV := Lib.hid hv
    clear hv
    go_enter Try.func19, Try.ntmps19
    go_wp2
    go_ret
    rw [HV.out]
    exact ⟨rfl, Below.refl _ _⟩
  have hv : wordI n = [UInt8.ofNat (n / 256).toNat, UInt8.ofNat (n % 256).toNat, UInt8.ofNat (0 : Int).toNat, UInt8.ofNat (0 : Int).toNat] := by
    unfold wordI
    rw [if_neg (by omega), word_small (by omega), show n.toNat / 256 = (n / 256).toNat from by omega, show n.toNat % 256 = (n % 256).toNat from by omega]
    rfl
  have HV := Lib.hid hv
  clear hv
  have hc := run_bytes4 (P := Try.prog) w 46 9 5 Try.underlying46 Try.underlying5 Try.underlying9 (n / 256) (n % 256) 0 0 (by omega) (by omega) (by omega) (by omega)
  go_enter Try.func19, Try.ntmps19
  go_wp2
  go_ret
  rw [HV.out]
  exact ⟨rfl, (Below.refl _ _).alloc (Nat.le_refl _) _⟩
set_option maxHeartbeats 400000 in
theorem word20 (n : Int) (w : World) : Calls Try.prog 20 #[.int .i64 n] w fun e w' => e = .returned (.string ⟨(wordI n).toArray⟩) ∧ Below w.heap.size w w' := by
  by_cases h1 : n < 0
  · have hv : wordI n = [] := by unfold wordI; rw [if_pos (.inl h1)]
    have HV := Lib.hid hv
    clear hv
    go_enter Try.func20, Try.ntmps20
    go_wp2
    go_ret
    rw [HV.out]
    exact ⟨rfl, Below.refl _ _⟩
  by_cases h2 : 65535 < n
  · have hv : wordI n = [] := by unfold wordI; rw [if_pos (.inr h2)]
    have HV := Lib.hid hv
    clear hv
    go_enter Try.func20, Try.ntmps20
    go_wp2
    go_ret
    rw [HV.out]
    exact ⟨rfl, Below.refl _ _⟩
  have hv : wordI n = [UInt8.ofNat (n / 256).toNat, UInt8.ofNat (n % 256).toNat, UInt8.ofNat (0 : Int).toNat, UInt8.ofNat (0 : Int).toNat] := by
    unfold wordI
    rw [if_neg (by omega), word_small (by omega), show n.toNat / 256 = (n / 256).toNat from by omega, show n.toNat % 256 = (n % 256).toNat from by omega]
    rfl
  have HV := Lib.hid hv
  clear hv
  have hc := run_bytes4 (P := Try.prog) w 46 9 5 Try.underlying46 Try.underlying5 Try.underlying9 (n / 256) (n % 256) 0 0 (by omega) (by omega) (by omega) (by omega)
  go_enter Try.func20, Try.ntmps20
  go_wp2
  go_ret
  rw [HV.out]
  exact ⟨rfl, (Below.refl _ _).alloc (Nat.le_refl _) _⟩

def rwI (s : Bs) : Int := ((readWord s).getD 0 : Nat)
def rwB (s : Bs) : Bool := (readWord s).isSome

set_option maxHeartbeats 400000 in
theorem readWord17 (s : Bs) (w : World) : Calls Try.prog 17 #[.string ⟨s.toArray⟩] w fun e w' => e = .returned (.tuple #[.int .i64 (rwI s), .bool (rwB s)]) ∧ Below w.heap.size w w' := by
  by_cases hl : s.length = 4
  · match s, hl with
    | [a, b, c, d], _ =>
      by_cases hc : c = 0
      · by_cases hd : d = 0
        · subst hc hd
          have ha := a.toNat_lt
          have hb := b.toNat_lt
          have e1 : rwI [a, b, 0, 0] = 256 * (a.toNat : Int) + b.toNat := by simp [rwI, readWord]
          have e2 : rwB [a, b, 0, 0] = true := by simp [rwB, readWord]
          have E1 := Lib.hid e1
          have E2 := Lib.hid e2
          clear e1 e2
          go_enter Try.func17, Try.ntmps17
          go_wp2
          go_quiet (fail)
          go_wp2
          go_ret2
          rw [E1.out, E2.out]
          exact ⟨ret2 (congrArg (Value.int .i64) (or_bytes a b)) rfl, below_drewN (Below.refl _ _) _⟩
        · have e1 : rwI [a, b, c, d] = 0 := by simp [rwI, readWord, hd]
          have e2 : rwB [a, b, c, d] = false := by simp [rwB, readWord, hd]
          have E1 := Lib.hid e1
          have E2 := Lib.hid e2
          have hd' := byte_ne hd
          clear e1 e2 hd
          subst hc
          go_enter Try.func17, Try.ntmps17
          go_wp2
          go_ret2
          rw [E1.out, E2.out]
          exact ⟨rfl, Below.refl _ _⟩
      · have e1 : rwI [a, b, c, d] = 0 := by simp [rwI, readWord, hc]
        have e2 : rwB [a, b, c, d] = false := by simp [rwB, readWord, hc]
        have E1 := Lib.hid e1
        have E2 := Lib.hid e2
        have hd' := byte_ne hc
        clear e1 e2 hc
        go_enter Try.func17, Try.ntmps17
        go_wp2
        go_ret2
        rw [E1.out, E2.out]
        exact ⟨rfl, Below.refl _ _⟩
  · have e1 : rwI s = 0 := by unfold rwI; rw [readWord_len hl]; rfl
    have e2 : rwB s = false := by unfold rwB; rw [readWord_len hl]; rfl
    have E1 := Lib.hid e1
    have E2 := Lib.hid e2
    have hd' : ((s.length : Int) != 4) = true := bne_of (by omega)
    clear e1 e2
    go_enter Try.func17, Try.ntmps17
    go_wp2
    go_ret2
    rw [E1.out, E2.out]
    exact ⟨rfl, Below.refl _ _⟩
set_option maxHeartbeats 400000 in
theorem readWord18 (s : Bs) (w : World) : Calls Try.prog 18 #[.string ⟨s.toArray⟩] w fun e w' => e = .returned (.tuple #[.int .i64 (rwI s), .bool (rwB s)]) ∧ Below w.heap.size w w' := by
  by_cases hl : s.length = 4
  · match s, hl with
    | [a, b, c, d], _ =>
      by_cases hc : c = 0
      · by_cases hd : d = 0
        · subst hc hd
          have ha := a.toNat_lt
          have hb := b.toNat_lt
          have e1 : rwI [a, b, 0, 0] = 256 * (a.toNat : Int) + b.toNat := by simp [rwI, readWord]
          have e2 : rwB [a, b, 0, 0] = true := by simp [rwB, readWord]
          have E1 := Lib.hid e1
          have E2 := Lib.hid e2
          clear e1 e2
          go_enter Try.func18, Try.ntmps18
          go_wp2
          go_quiet (fail)
          go_wp2
          go_ret2
          rw [E1.out, E2.out]
          exact ⟨rfl, below_drewN (Below.refl _ _) _⟩
        · have e1 : rwI [a, b, c, d] = 0 := by simp [rwI, readWord, hd]
          have e2 : rwB [a, b, c, d] = false := by simp [rwB, readWord, hd]
          have E1 := Lib.hid e1
          have E2 := Lib.hid e2
          have hd' := byte_ne hd
          clear e1 e2 hd
          subst hc
          go_enter Try.func18, Try.ntmps18
          go_wp2
          go_ret2
          rw [E1.out, E2.out]
          exact ⟨rfl, Below.refl _ _⟩
      · have e1 : rwI [a, b, c, d] = 0 := by simp [rwI, readWord, hc]
        have e2 : rwB [a, b, c, d] = false := by simp [rwB, readWord, hc]
        have E1 := Lib.hid e1
        have E2 := Lib.hid e2
        have hd' := byte_ne hc
        clear e1 e2 hc
        go_enter Try.func18, Try.ntmps18
        go_wp2
        go_ret2
        rw [E1.out, E2.out]
        exact ⟨rfl, Below.refl _ _⟩
  · have e1 : rwI s = 0 := by unfold rwI; rw [readWord_len hl]; rfl
    have e2 : rwB s = false := by unfold rwB; rw [readWord_len hl]; rfl
    have E1 := Lib.hid e1
    have E2 := Lib.hid e2
    have hd' : ((s.length : Int) != 4) = true := bne_of (by omega)
    clear e1 e2
    go_enter Try.func18, Try.ntmps18
    go_wp2
    go_ret2
    rw [E1.out, E2.out]
    exact ⟨rfl, Below.refl _ _⟩

theorem length_wordI {n : Int} (h : 0 ≤ n ∧ n ≤ 65535) : (wordI n).length = 4 := by
  unfold wordI
  rw [if_neg (by omega), length_word (by omega)]
theorem wordI_nat (n : Nat) : wordI (n : Int) = word n := by
  unfold wordI
  by_cases h : 65535 < n
  · rw [if_pos (.inr (by omega))]
    unfold word
    rw [if_pos h]
  · rw [if_neg (by omega)]
    rfl

theorem wordI_len (n : Nat) : wordI (4 + (n : Int)) = word (4 + n) := by
  rw [show (4 + (n : Int)) = ((4 + n : Nat) : Int) from by omega, wordI_nat]

set_option maxHeartbeats 400000 in
theorem form28 (r : Bs) (hr : r.length ≤ 100000) (w : World) : Calls Try.prog 28 #[.string ⟨r.toArray⟩] w fun e w' => e = .returned (.string ⟨(form r).toArray⟩) ∧ Below w.heap.size w w' := by
  have hw : (wordI (4 + (r.length : Int))).length ≤ 4 := by
    rw [wordI_len]
    exact length_word_le _
  have HV := Lib.hid (show form r = wordI (4 + (r.length : Int)) ++ r from by rw [wordI_len]; rfl)
  go_enter Try.func28, Try.ntmps28
  go_wp2_with (go_at_call 19; refine (word19 _ _).mono ?_; rintro e w1 ⟨rfl, hb1⟩)
  go_ret
  rw [HV.out]
  exact ⟨rfl, hb1⟩
set_option maxHeartbeats 400000 in
theorem whole29 (r : Bs) (hr : r.length ≤ 100000) (w : World) : Calls Try.prog 29 #[.string ⟨r.toArray⟩] w fun e w' => e = .returned (.string ⟨(whole r).toArray⟩) ∧ Below w.heap.size w w' := by
  have hw : (wordI (4 + (r.length : Int))).length ≤ 4 := by
    rw [wordI_len]
    exact length_word_le _
  have HV := Lib.hid (show whole r = wordI (4 + (r.length : Int)) ++ r from by rw [wordI_len]; rfl)
  go_enter Try.func29, Try.ntmps29
  go_wp2_with (go_at_call 19; refine (word19 _ _).mono ?_; rintro e w1 ⟨rfl, hb1⟩)
  go_ret
  rw [HV.out]
  exact ⟨rfl, hb1⟩

/-- What 'first' returns. -/
def fiR (L : Nat) (f : Bs) : Bs := match first L f with | some (r, _) => r | none => []
def fiS (L : Nat) (f : Bs) : Bs := match first L f with | some (_, s) => s | none => []
def fiB (L : Nat) (f : Bs) : Bool := (first L f).isSome

theorem first_none {L : Nat} {f : Bs} (h : first L f = none) : fiR L f = [] ∧ fiS L f = [] ∧ fiB L f = false := by
  unfold fiR fiS fiB
  rw [h]
  exact ⟨rfl, rfl, rfl⟩

set_option maxHeartbeats 400000 in
theorem first32 (L : Nat) (_hL : L ≤ 1000) (f : Bs) (hf : f.length ≤ 100000) (w : World) :
    Calls Try.prog 32 #[.int .i64 L, .string ⟨f.toArray⟩] w fun e w' => e = .returned (.tuple #[.string ⟨(fiR L f).toArray⟩, .string ⟨(fiS L f).toArray⟩, .bool (fiB L f)]) ∧ Below w.heap.size w w' := by
  by_cases h4 : f.length < 4
  · have hn : first L f = none := by
      unfold first
      rw [readWord_len (by simp; omega)]
    obtain ⟨e1, e2, e3⟩ := first_none hn
    rw [e1, e2, e3]
    clear e1 e2 e3 hn
    go_enter Try.func32, Try.ntmps32
    go_wp2
    go_ret3
    exact ⟨rfl, Below.refl _ _⟩
  · cases hrw : readWord (f.take 4) with
    | none =>
      have hn : first L f = none := by unfold first; rw [hrw]
      obtain ⟨e1, e2, e3⟩ := first_none hn
      rw [e1, e2, e3]
      have b1 := Lib.hid (show rwB (f.take 4) = false from by unfold rwB; rw [hrw]; rfl)
      clear e1 e2 e3 hn hrw
      go_enter Try.func32, Try.ntmps32
      go_wp2_with (go_at_call 17; refine (readWord17 _ _).mono ?_; rintro e w1 ⟨rfl, hb1⟩; rw [b1.out])
      go_ret3
      exact ⟨rfl, hb1⟩
    | some n =>
      have b1 := Lib.hid (show rwB (f.take 4) = true from by unfold rwB; rw [hrw]; rfl)
      have b2 := Lib.hid (show rwI (f.take 4) = (n : Int) from by unfold rwI; rw [hrw]; rfl)
      have hnn : n ≤ 65535 := (readWord_some hrw).2.1
      by_cases hc : n < 4 ∨ f.length < n ∨ L < n - 4
      · have hn : first L f = none := by unfold first; rw [hrw]; simp only; rw [if_pos hc]
        obtain ⟨e1, e2, e3⟩ := first_none hn
        rw [e1, e2, e3]
        clear e1 e2 e3 hn hrw
        by_cases hc1 : n < 4
        · go_enter Try.func32, Try.ntmps32
          go_wp2_with (go_at_call 17; refine (readWord17 _ _).mono ?_; rintro e w1 ⟨rfl, hb1⟩; rw [b1.out, b2.out])
          go_ret3
          exact ⟨rfl, hb1⟩
        · by_cases hc2 : f.length < n
          · go_enter Try.func32, Try.ntmps32
            go_wp2_with (go_at_call 17; refine (readWord17 _ _).mono ?_; rintro e w1 ⟨rfl, hb1⟩; rw [b1.out, b2.out])
            go_ret3
            exact ⟨rfl, hb1⟩
          · have hc3 : L < n - 4 := by omega
            go_enter Try.func32, Try.ntmps32
            go_wp2_with (go_at_call 17; refine (readWord17 _ _).mono ?_; rintro e w1 ⟨rfl, hb1⟩; rw [b1.out, b2.out])
            go_ret3
            exact ⟨rfl, hb1⟩
      · have hs : first L f = some ((f.take n).drop 4, f.drop n) := by unfold first; rw [hrw]; simp only; rw [if_neg hc]
        have E1 := Lib.hid (show fiR L f = (f.take n).drop 4 from by unfold fiR; rw [hs])
        have E2 := Lib.hid (show fiS L f = f.drop n from by unfold fiS; rw [hs])
        have E3 := Lib.hid (show fiB L f = true from by unfold fiB; rw [hs]; rfl)
        have hc1 : ¬ n < 4 := fun h => hc (.inl h)
        have hc2 : ¬ f.length < n := fun h => hc (.inr (.inl h))
        have hc3 : ¬ L < n - 4 := fun h => hc (.inr (.inr h))
        clear hs hrw hc
        go_enter Try.func32, Try.ntmps32
        go_wp2_with (go_at_call 17; refine (readWord17 _ _).mono ?_; rintro e w1 ⟨rfl, hb1⟩; rw [b1.out, b2.out])
        go_quiet (fail)
        go_wp2
        go_ret3
        rw [E1.out, E2.out, E3.out]
        exact ⟨ret3 (strEq List.drop_take.symm) (strEq (List.take_of_length_le (by simp))) rfl, below_drewN hb1 _⟩

end Go.Proofs.Ytogfdodnfeggfaa
