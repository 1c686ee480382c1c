/- The walks of the leaf functions of chapter 12: Valid, Word, ReadWord, whole, Few, Same: each returns what its plain function says. -/
import Derived.Test.YtabpgfcmfflceaaDoorRows
import Derived.Test.YtabpgfcmfflceaaDoorSegs
namespace Go.Proofs.YtabpgfcmfflceaaDoor
open Go.RowKit P12
attribute [local go_sem] ByteArray.mk_append_mk ByteArray.extract_mk mk_index

def vok (L K : Int) : Bool := decide (1 ≤ L) && (decide (L ≤ 1000) && (decide (9 ≤ K) && decide (K ≤ 1024)))

set_option maxHeartbeats 400000 in
theorem valid15 (L K : Int) (w : World) : Calls Tryd.prog 15 #[.int .i64 L, .int .i64 K] w fun e w' => e = .returned (.bool (vok L K)) ∧ w = w' := by
  by_cases h1 : 1 ≤ L <;> by_cases h2 : L ≤ 1000 <;> by_cases h3 : 9 ≤ K <;> by_cases h4 : K ≤ 1024
  all_goals
    have hv : vok L K = (decide (1 ≤ L) && (decide (L ≤ 1000) && (decide (9 ≤ K) && decide (K ≤ 1024)))) := rfl
    simp only [h1, h2, h3, h4, decide_true, decide_false, Bool.and_true, Bool.and_false] at hv
    have HV := Lib.hid hv
    clear hv
    go_enter Tryd.func15, Tryd.ntmps15
    go_wp2
    go_ret
    rw [HV.out]
    exact ⟨rfl, rfl⟩
set_option maxHeartbeats 400000 in
theorem valid16 (L K : Int) (w : World) : Calls Tryd.prog 16 #[.int .i64 L, .int .i64 K] w fun e w' => e = .returned (.bool (vok L K)) ∧ w = w' := by
  by_cases h1 : 1 ≤ L <;> by_cases h2 : L ≤ 1000 <;> by_cases h3 : 9 ≤ K <;> by_cases h4 : K ≤ 1024
  all_goals
    have hv : vok L K = (decide (1 ≤ L) && (decide (L ≤ 1000) && (decide (9 ≤ K) && decide (K ≤ 1024)))) := rfl
    simp only [h1, h2, h3, h4, decide_true, decide_false, Bool.and_true, Bool.and_false] at hv
    have HV := Lib.hid hv
    clear hv
    go_enter Tryd.func16, Tryd.ntmps16
    go_wp2
    go_ret
    rw [HV.out]
    exact ⟨rfl, rfl⟩
/-- The word of a number, whatever its size. -/
def wordI (n : Int) : Bs := if n < 0 ∨ 65535 < n then [] else word n.toNat

set_option maxHeartbeats 400000 in
theorem word42 (n : Int) (w : World) : Calls Tryd.prog 42 #[.int .i64 n] w fun e w' => e = .returned (.string ⟨(wordI n).toArray⟩) ∧ Below w.heap.size w w' := by
  by_cases h1 : n < 0
  · have hv : wordI n = [] := by unfold wordI; rw [if_pos (.inl h1)]
    have HV := Lib.hid hv
    clear hv
    go_enter Tryd.func42, Tryd.ntmps42
    go_wp2
    go_ret
    rw [HV.out]
    exact ⟨rfl, Below.refl _ _⟩
  by_cases h2 : 65535 < n
  · have hv : wordI n = [] := by unfold wordI; rw [if_pos (.inr h2)]
    have HV := Lib.hid hv
    clear hv
    go_enter Tryd.func42, Tryd.ntmps42
    go_wp2
    go_ret
    rw [HV.out]
    exact ⟨rfl, Below.refl _ _⟩
  have hv : wordI n = [UInt8.ofNat (n / 256).toNat, UInt8.ofNat (n % 256).toNat, UInt8.ofNat (0 : Int).toNat, UInt8.ofNat (0 : Int).toNat] := by
    unfold wordI
    rw [if_neg (by omega), word_small (by omega), show n.toNat / 256 = (n / 256).toNat from by omega, show n.toNat % 256 = (n % 256).toNat from by omega]
    rfl
  have HV := Lib.hid hv
  clear hv
  have hc := run_bytes4 (P := Tryd.prog) w 69 9 5 Tryd.underlying69 Tryd.underlying5 Tryd.underlying9 (n / 256) (n % 256) 0 0 (by omega) (by omega) (by omega) (by omega)
  go_enter Tryd.func42, Tryd.ntmps42
  go_wp2
  go_ret
  rw [HV.out]
  exact ⟨rfl, (Below.refl _ _).alloc (Nat.le_refl _) _⟩
set_option maxHeartbeats 400000 in
theorem word34 (n : Int) (w : World) : Calls Tryd.prog 34 #[.int .i64 n] w fun e w' => e = .returned (.string ⟨(wordI n).toArray⟩) ∧ Below w.heap.size w w' := by
  by_cases h1 : n < 0
  · have hv : wordI n = [] := by unfold wordI; rw [if_pos (.inl h1)]
    have HV := Lib.hid hv
    clear hv
    go_enter Tryd.func34, Tryd.ntmps34
    go_wp2
    go_ret
    rw [HV.out]
    exact ⟨rfl, Below.refl _ _⟩
  by_cases h2 : 65535 < n
  · have hv : wordI n = [] := by unfold wordI; rw [if_pos (.inr h2)]
    have HV := Lib.hid hv
    clear hv
    go_enter Tryd.func34, Tryd.ntmps34
    go_wp2
    go_ret
    rw [HV.out]
    exact ⟨rfl, Below.refl _ _⟩
  have hv : wordI n = [UInt8.ofNat (n / 256).toNat, UInt8.ofNat (n % 256).toNat, UInt8.ofNat (0 : Int).toNat, UInt8.ofNat (0 : Int).toNat] := by
    unfold wordI
    rw [if_neg (by omega), word_small (by omega), show n.toNat / 256 = (n / 256).toNat from by omega, show n.toNat % 256 = (n % 256).toNat from by omega]
    rfl
  have HV := Lib.hid hv
  clear hv
  have hc := run_bytes4 (P := Tryd.prog) w 69 9 5 Tryd.underlying69 Tryd.underlying5 Tryd.underlying9 (n / 256) (n % 256) 0 0 (by omega) (by omega) (by omega) (by omega)
  go_enter Tryd.func34, Tryd.ntmps34
  go_wp2
  go_ret
  rw [HV.out]
  exact ⟨rfl, (Below.refl _ _).alloc (Nat.le_refl _) _⟩

def rwI (s : Bs) : Int := ((readWord s).getD 0 : Nat)
def rwB (s : Bs) : Bool := (readWord s).isSome

set_option maxHeartbeats 400000 in
theorem readWord33 (s : Bs) (w : World) : Calls Tryd.prog 33 #[.string ⟨s.toArray⟩] w fun e w' => e = .returned (.tuple #[.int .i64 (rwI s), .bool (rwB s)]) ∧ Below w.heap.size w w' := by
  by_cases hl : s.length = 4
  · match s, hl with
    | [a, b, c, d], _ =>
      by_cases hc : c = 0
      · by_cases hd : d = 0
        · subst hc hd
          have ha := a.toNat_lt
          have hb := b.toNat_lt
          have e1 : rwI [a, b, 0, 0] = 256 * (a.toNat : Int) + b.toNat := by simp [rwI, readWord]
          have e2 : rwB [a, b, 0, 0] = true := by simp [rwB, readWord]
          have E1 := Lib.hid e1
          have E2 := Lib.hid e2
          clear e1 e2
          go_enter Tryd.func33, Tryd.ntmps33
          go_wp2
          go_quiet (fail)
          go_wp2
          go_ret2
          rw [E1.out, E2.out]
          exact ⟨ret2 (congrArg (Value.int .i64) (or_bytes a b)) rfl, below_drewN (Below.refl _ _) _⟩
        · have e1 : rwI [a, b, c, d] = 0 := by simp [rwI, readWord, hd]
          have e2 : rwB [a, b, c, d] = false := by simp [rwB, readWord, hd]
          have E1 := Lib.hid e1
          have E2 := Lib.hid e2
          have hd' := byte_ne hd
          clear e1 e2 hd
          subst hc
          go_enter Tryd.func33, Tryd.ntmps33
          go_wp2
          go_ret2
          rw [E1.out, E2.out]
          exact ⟨rfl, Below.refl _ _⟩
      · have e1 : rwI [a, b, c, d] = 0 := by simp [rwI, readWord, hc]
        have e2 : rwB [a, b, c, d] = false := by simp [rwB, readWord, hc]
        have E1 := Lib.hid e1
        have E2 := Lib.hid e2
        have hd' := byte_ne hc
        clear e1 e2 hc
        go_enter Tryd.func33, Tryd.ntmps33
        go_wp2
        go_ret2
        rw [E1.out, E2.out]
        exact ⟨rfl, Below.refl _ _⟩
  · have e1 : rwI s = 0 := by unfold rwI; rw [readWord_len hl]; rfl
    have e2 : rwB s = false := by unfold rwB; rw [readWord_len hl]; rfl
    have E1 := Lib.hid e1
    have E2 := Lib.hid e2
    have hd' : ((s.length : Int) != 4) = true := bne_of (by omega)
    clear e1 e2
    go_enter Tryd.func33, Tryd.ntmps33
    go_wp2
    go_ret2
    rw [E1.out, E2.out]
    exact ⟨rfl, Below.refl _ _⟩
theorem length_wordI {n : Int} (h : 0 ≤ n ∧ n ≤ 65535) : (wordI n).length = 4 := by
  unfold wordI
  rw [if_neg (by omega), length_word (by omega)]
theorem wordI_nat (n : Nat) : wordI (n : Int) = word n := by
  unfold wordI
  by_cases h : 65535 < n
  · rw [if_pos (.inr (by omega))]
    unfold word
    rw [if_pos h]
  · rw [if_neg (by omega)]
    rfl

theorem wordI_len (n : Nat) : wordI (4 + (n : Int)) = word (4 + n) := by
  rw [show (4 + (n : Int)) = ((4 + n : Nat) : Int) from by omega, wordI_nat]

set_option maxHeartbeats 400000 in
theorem whole38 (r : Bs) (hr : r.length ≤ 100000) (w : World) : Calls Tryd.prog 38 #[.string ⟨r.toArray⟩] w fun e w' => e = .returned (.string ⟨(whole r).toArray⟩) ∧ Below w.heap.size w w' := by
  have hw : (wordI (4 + (r.length : Int))).length ≤ 4 := by
    rw [wordI_len]
    exact length_word_le _
  have HV := Lib.hid (show whole r = wordI (4 + (r.length : Int)) ++ r from by rw [wordI_len]; rfl)
  go_enter Tryd.func38, Tryd.ntmps38
  go_wp2_with (go_at_call 42; refine (word42 _ _).mono ?_; rintro e w1 ⟨rfl, hb1⟩)
  go_ret
  rw [HV.out]
  exact ⟨rfl, hb1⟩

/-- What 'first' returns. -/
def fewB (ss : List Bs) (count most : Int) : Bool := ss.all (fun s => decide ((s.length : Int) ≤ most)) && decide ((ss.length : Int) ≤ count)

theorem few_no {ss : List Bs} {count most : Int} {k : Nat} {s : Bs} (h : ss[k]? = some s) (hl : most < (s.length : Int)) : fewB ss count most = false := by
  have hm : s ∈ ss := List.mem_of_getElem? h
  have : ss.all (fun s => decide ((s.length : Int) ≤ most)) = false := by
    rw [List.all_eq_false]
    exact ⟨s, hm, by simp; omega⟩
  unfold fewB
  rw [this]
  rfl
theorem few_end {ss : List Bs} {count most : Int} {n : Nat} (hn : ss.length = n) (h : ∀ j s, j < n → ss[j]? = some s → (s.length : Int) ≤ most) : fewB ss count most = decide ((n : Int) ≤ count) := by
  have : ss.all (fun s => decide ((s.length : Int) ≤ most)) = true := by
    rw [List.all_eq_true]
    intro s hs
    obtain ⟨j, hj⟩ := List.mem_iff_getElem?.1 hs
    have hlt : j < n := by have := (List.getElem?_eq_some_iff.1 hj).1; omega
    simpa using h j s hlt hj
  unfold fewB
  rw [this, hn]
  rfl

set_option maxHeartbeats 400000 in
theorem few12 (A : Option Addr) (n c : Nat) (ss : List Bs) (count most : Int) (w : World) (h : StrsAt w A n ss) (hn : n ≤ maxLen) :
    Calls Tryd.prog 12 #[.slice A n c, .int .i64 count, .int .i64 most] w fun e w' => e = .returned (.bool (fewB ss count most)) ∧ Below w.heap.size w w' := by
  unfold maxLen at hn
  have H := Lib.hid h
  have HL := Lib.hid h.len
  clear h
  go_enter Tryd.func12, Tryd.ntmps12
  go_wp2
  go_loop [7] (fun i => ∃ k : Nat, k ≤ n ∧ i = .int .i64 k ∧ Hid (∀ j s, j < k → ss[j]? = some s → (s.length : Int) ≤ most)) (fun i => n - (intOf i).toNat)
  case atStart => exact ⟨0, Nat.zero_le _, rfl, fun j s hj => absurd hj (by omega)⟩
  case round =>
    obtain ⟨k, hk, rfl, hall⟩ := hrel
    by_cases hlt : k < n
    · obtain ⟨b, off, s, rfl, hs, hc⟩ := H.out.at_ hlt
      have HS := Lib.hid hs
      clear hs
      by_cases hgt : most < (s.length : Int)
      · go_wp2
        go_ret
        exact ⟨retBool (few_no HS.out hgt).symm, Below.refl _ _⟩
      · go_wp2
        go_round
        case rel =>
          refine ⟨k + 1, by omega, by go_num, ?_⟩
          intro j s' hj hs'
          by_cases hjk : j = k
          · subst hjk
            have := HS.out.symm.trans hs'
            simp only [Option.some.injEq] at this
            subst this
            omega
          · exact hall.out j s' (by omega) hs'
        case measure => simp [intOf]; omega
    · have hkn : k = n := by omega
      subst hkn
      by_cases hcnt : (k : Int) ≤ count
      · go_wp2
        go_ret
        exact ⟨retBool (by rw [few_end HL.out hall.out]; simp [hcnt]), Below.refl _ _⟩
      · go_wp2
        go_ret
        exact ⟨retBool (by rw [few_end HL.out hall.out]; simp [hcnt]), Below.refl _ _⟩

def sameB (ss tt : List Bs) : Bool := decide (ss = tt)
theorem sameB_refl (ss : List Bs) : sameB ss ss = true := decide_eq_true rfl
theorem sameB_iff {ss tt : List Bs} : sameB ss tt = true ↔ ss = tt := decide_eq_true_iff
theorem list_eq_of {α : Type} {l l' : List α} {n : Nat} (h1 : l.length = n) (h2 : l'.length = n) (h : ∀ j, j < n → l[j]? = l'[j]?) : l = l' := by
  apply List.ext_getElem?
  intro j
  by_cases hj : j < n
  · exact h j hj
  · rw [List.getElem?_eq_none (by omega), List.getElem?_eq_none (by omega)]

set_option maxHeartbeats 400000 in
theorem same17 (A A' : Option Addr) (n c n' c' : Nat) (ss tt : List Bs) (w : World) (h : StrsAt w A n ss) (h' : StrsAt w A' n' tt) (hn : n ≤ maxLen) (hn' : n' ≤ maxLen) :
    Calls Tryd.prog 17 #[.slice A n c, .slice A' n' c'] w fun e w' => e = .returned (.bool (sameB ss tt)) ∧ Below w.heap.size w w' := by
  unfold maxLen at hn hn'
  by_cases hne : n = n'
  · subst hne
    have H := Lib.hid h
    have H' := Lib.hid h'
    clear h h'
    have hnn : ((n : Int) != (n : Int)) = false := by simp
    go_enter Tryd.func17, Tryd.ntmps17
    go_wp2
    go_loopw [5] (fun i wr => ∃ k : Nat, k ≤ n ∧ i = .int .i64 k ∧ Hid (∀ j, j < k → ss[j]? = tt[j]?) ∧ Below w.heap.size w wr) (fun i _ => n - (intOf i).toNat)
    case atStart => exact ⟨0, Nat.zero_le _, rfl, fun j hj => absurd hj (by omega), Below.refl _ _⟩
    case round =>
      obtain ⟨k, hk, rfl, hall, hbw⟩ := hrel
      by_cases hlt : k < n
      · obtain ⟨b, off, s, rfl, hs, hc⟩ := (H.out.below hbw).at_ hlt
        obtain ⟨b', off', s', rfl, hs', hc'⟩ := (H'.out.below hbw).at_ hlt
        have HS := Lib.hid hs
        have HS' := Lib.hid hs'
        clear hs hs'
        by_cases he : s = s'
        · subst he
          go_wp2
          go_quiet (fail)
          go_wp2
          go_roundw
          case rel =>
            refine ⟨k + 1, by omega, by go_num, ?_, below_drewN hbw _⟩
            intro j hj
            by_cases hjk : j = k
            · subst hjk
              exact HS.out.trans HS'.out.symm
            · exact hall.out j (by omega)
          case measure => simp [intOf]; omega
        · have hbe : (s == s') = false := by simpa using he
          have hout : sameB ss tt = false := by
            apply decide_eq_false
            intro e
            subst e
            have := HS.out.symm.trans HS'.out
            simp only [Option.some.injEq] at this
            exact he this
          have HO := Lib.hid hout
          clear hout he
          go_wp2
          go_quiet (fail)
          go_wp2
          go_ret
          exact ⟨retBool HO.out.symm, below_drewN hbw _⟩
      · have hkn : k = n := by omega
        subst hkn
        have HO := Lib.hid (sameB_iff.2 (list_eq_of H.out.len H'.out.len hall.out))
        go_wp2
        go_ret
        exact ⟨retBool HO.out.symm, hbw⟩
  · have hout : sameB ss tt = false := by
      apply decide_eq_false
      intro e
      subst e
      exact hne (h.len.symm.trans h'.len)
    have HO := Lib.hid hout
    clear hout h h'
    have hnn : ((n : Int) != (n' : Int)) = true := bne_of (by omega)
    go_enter Tryd.func17, Tryd.ntmps17
    go_wp2
    go_ret
    exact ⟨retBool HO.out.symm, Below.refl _ _⟩


end Go.Proofs.YtabpgfcmfflceaaDoor
