/- The walks of Few, Same and Block: the loops of chapter 11 that only read memory. -/
import Derived.Test.YtogfdodnfeggfaaLeaf
namespace Go.Proofs.Ytogfdodnfeggfaa
open Go.RowKit P11
attribute [local go_sem] ByteArray.mk_append_mk ByteArray.extract_mk mk_index

def fewB (ss : List Bs) (count most : Int) : Bool := ss.all (fun s => decide ((s.length : Int) ≤ most)) && decide ((ss.length : Int) ≤ count)

theorem few_no {ss : List Bs} {count most : Int} {k : Nat} {s : Bs} (h : ss[k]? = some s) (hl : most < (s.length : Int)) : fewB ss count most = false := by
  have hm : s ∈ ss := List.mem_of_getElem? h
  have : ss.all (fun s => decide ((s.length : Int) ≤ most)) = false := by
    rw [List.all_eq_false]
    exact ⟨s, hm, by simp; omega⟩
  unfold fewB
  rw [this]
  rfl
theorem few_end {ss : List Bs} {count most : Int} {n : Nat} (hn : ss.length = n) (h : ∀ j s, j < n → ss[j]? = some s → (s.length : Int) ≤ most) : fewB ss count most = decide ((n : Int) ≤ count) := by
  have : ss.all (fun s => decide ((s.length : Int) ≤ most)) = true := by
    rw [List.all_eq_true]
    intro s hs
    obtain ⟨j, hj⟩ := List.mem_iff_getElem?.1 hs
    have hlt : j < n := by have := (List.getElem?_eq_some_iff.1 hj).1; omega
    simpa using h j s hlt hj
  unfold fewB
  rw [this, hn]
  rfl

set_option maxHeartbeats 400000 in
theorem few11 (A : Option Addr) (n c : Nat) (ss : List Bs) (count most : Int) (w : World) (h : StrsAt w A n ss) (hn : n ≤ maxLen) :
    Calls Try.prog 11 #[.slice A n c, .int .i64 count, .int .i64 most] w fun e w' => e = .returned (.bool (fewB ss count most)) ∧ Below w.heap.size w w' := by
  unfold maxLen at hn
  have H := Lib.hid h
  have HL := Lib.hid h.len
  clear h
  go_enter Try.func11, Try.ntmps11
  go_wp2
  go_loop [7] (fun i => ∃ k : Nat, k ≤ n ∧ i = .int .i64 k ∧ Hid (∀ j s, j < k → ss[j]? = some s → (s.length : Int) ≤ most)) (fun i => n - (intOf i).toNat)
  case atStart => exact ⟨0, Nat.zero_le _, rfl, fun j s hj => absurd hj (by omega)⟩
  case round =>
    obtain ⟨k, hk, rfl, hall⟩ := hrel
    by_cases hlt : k < n
    · obtain ⟨b, off, s, rfl, hs, hc⟩ := H.out.at_ hlt
      have HS := Lib.hid hs
      clear hs
      by_cases hgt : most < (s.length : Int)
      · go_wp2
        go_ret
        exact ⟨retBool (few_no HS.out hgt).symm, Below.refl _ _⟩
      · go_wp2
        go_round
        case rel =>
          refine ⟨k + 1, by omega, by go_num, ?_⟩
          intro j s' hj hs'
          by_cases hjk : j = k
          · subst hjk
            have := HS.out.symm.trans hs'
            simp only [Option.some.injEq] at this
            subst this
            omega
          · exact hall.out j s' (by omega) hs'
        case measure => simp [intOf]; omega
    · have hkn : k = n := by omega
      subst hkn
      by_cases hcnt : (k : Int) ≤ count
      · go_wp2
        go_ret
        exact ⟨retBool (by rw [few_end HL.out hall.out]; simp [hcnt]), Below.refl _ _⟩
      · go_wp2
        go_ret
        exact ⟨retBool (by rw [few_end HL.out hall.out]; simp [hcnt]), Below.refl _ _⟩

def sameB (ss tt : List Bs) : Bool := decide (ss = tt)
theorem sameB_refl (ss : List Bs) : sameB ss ss = true := decide_eq_true rfl
theorem sameB_iff {ss tt : List Bs} : sameB ss tt = true ↔ ss = tt := decide_eq_true_iff
theorem list_eq_of {α : Type} {l l' : List α} {n : Nat} (h1 : l.length = n) (h2 : l'.length = n) (h : ∀ j, j < n → l[j]? = l'[j]?) : l = l' := by
  apply List.ext_getElem?
  intro j
  by_cases hj : j < n
  · exact h j hj
  · rw [List.getElem?_eq_none (by omega), List.getElem?_eq_none (by omega)]

set_option maxHeartbeats 400000 in
theorem same16 (A A' : Option Addr) (n c n' c' : Nat) (ss tt : List Bs) (w : World) (h : StrsAt w A n ss) (h' : StrsAt w A' n' tt) (hn : n ≤ maxLen) (hn' : n' ≤ maxLen) :
    Calls Try.prog 16 #[.slice A n c, .slice A' n' c'] w fun e w' => e = .returned (.bool (sameB ss tt)) ∧ Below w.heap.size w w' := by
  unfold maxLen at hn hn'
  by_cases hne : n = n'
  · subst hne
    have H := Lib.hid h
    have H' := Lib.hid h'
    clear h h'
    have hnn : ((n : Int) != (n : Int)) = false := by simp
    go_enter Try.func16, Try.ntmps16
    go_wp2
    go_loopw [5] (fun i wr => ∃ k : Nat, k ≤ n ∧ i = .int .i64 k ∧ Hid (∀ j, j < k → ss[j]? = tt[j]?) ∧ Below w.heap.size w wr) (fun i _ => n - (intOf i).toNat)
    case atStart => exact ⟨0, Nat.zero_le _, rfl, fun j hj => absurd hj (by omega), Below.refl _ _⟩
    case round =>
      obtain ⟨k, hk, rfl, hall, hbw⟩ := hrel
      by_cases hlt : k < n
      · obtain ⟨b, off, s, rfl, hs, hc⟩ := (H.out.below hbw).at_ hlt
        obtain ⟨b', off', s', rfl, hs', hc'⟩ := (H'.out.below hbw).at_ hlt
        have HS := Lib.hid hs
        have HS' := Lib.hid hs'
        clear hs hs'
        by_cases he : s = s'
        · subst he
          go_wp2
          go_quiet (fail)
          go_wp2
          go_roundw
          case rel =>
            refine ⟨k + 1, by omega, by go_num, ?_, below_drewN hbw _⟩
            intro j hj
            by_cases hjk : j = k
            · subst hjk
              exact HS.out.trans HS'.out.symm
            · exact hall.out j (by omega)
          case measure => simp [intOf]; omega
        · have hbe : (s == s') = false := by simpa using he
          have hout : sameB ss tt = false := by
            apply decide_eq_false
            intro e
            subst e
            have := HS.out.symm.trans HS'.out
            simp only [Option.some.injEq] at this
            exact he this
          have HO := Lib.hid hout
          clear hout he
          go_wp2
          go_quiet (fail)
          go_wp2
          go_ret
          exact ⟨retBool HO.out.symm, below_drewN hbw _⟩
      · have hkn : k = n := by omega
        subst hkn
        have HO := Lib.hid (sameB_iff.2 (list_eq_of H.out.len H'.out.len hall.out))
        go_wp2
        go_ret
        exact ⟨retBool HO.out.symm, hbw⟩
  · have hout : sameB ss tt = false := by
      apply decide_eq_false
      intro e
      subst e
      exact hne (h.len.symm.trans h'.len)
    have HO := Lib.hid hout
    clear hout h h'
    have hnn : ((n : Int) != (n' : Int)) = true := bne_of (by omega)
    go_enter Try.func16, Try.ntmps16
    go_wp2
    go_ret
    exact ⟨retBool HO.out.symm, Below.refl _ _⟩

end Go.Proofs.Ytogfdodnfeggfaa
