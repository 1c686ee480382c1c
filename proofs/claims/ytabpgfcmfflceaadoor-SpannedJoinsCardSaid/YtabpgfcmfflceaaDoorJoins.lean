/- The walk of SpannedJoins: it returns true. -/
import Derived.Test.YtabpgfcmfflceaaDoorRefUnpack
import Derived.Test.YtabpgfcmfflceaaDoorSegLaw
namespace Go.Proofs.YtabpgfcmfflceaaDoor
open Go.RowKit P12 Go.Sort
attribute [local go_sem] ByteArray.mk_append_mk ByteArray.extract_mk mk_index

set_option maxHeartbeats 2000000 in
theorem joins8 (L K : Int) (A : Option Addr) (n c : Nat) (ls : List Seg) (A' : Option Addr) (n' c' : Nat) (ss : List Bs) (w : World) (C : Codes w) (h : SegsAt w A n ls) (hn : n ≤ maxLen) (h' : StrsAt w A' n' ss) (hn' : n' ≤ maxLen) :
    Calls Tryd.prog 8 #[.int .i64 L, .int .i64 K, .slice A n c, .slice A' n' c'] w fun e w' => e = .returned (.bool true) ∧ Below w.heap.size w w' := by
  have H := Lib.hid h
  have H' := Lib.hid h'
  have HLN := Lib.hid h.len
  clear h h'
  by_cases hn20 : n ≤ 20
  · have hnI : ¬ (20 : Int) < (n : Int) := by omega
    by_cases hf : fewB ss 20 1100 = true
    · have htt := few_total hf
      have HF := Lib.hid hf
      clear hf
      go_enter Tryd.func8, Tryd.ntmps8
      go_wp2_with fail
      refine (awake11 _ C).mono ?_
      rintro e w1 ⟨rfl, hb1⟩
      have HB1 := Lib.hid hb1
      clear hb1
      go_wp2_with fail
      refine (few12 _ _ _ _ _ _ _ (H'.out.below HB1.out) hn').mono ?_
      rintro e w2 ⟨rfl, hb2⟩
      rw [HF.out]
      have HB2 := Lib.hid (below_then HB1.out hb2)
      clear hb2
      go_wp2_with fail
      go_loopw [34] (fun i wr => ∃ k : Nat, k ≤ n ∧ i = .int .i64 k ∧ Hid (∀ j s, j < k → ls[j]? = some s → s.d.length ≤ 1100) ∧ Below w.heap.size w wr) (fun i _ => n - (intOf i).toNat)
      case atStart => exact ⟨0, Nat.zero_le _, rfl, fun j s hj => absurd hj (by omega), HB2.out⟩
      case round =>
        obtain ⟨k, hk, rfl, hall, hbw⟩ := hrel
        have hz := hbw.size
        by_cases hlt : k < n
        · obtain ⟨b, off, s, rfl, hs, m0, m1, m2⟩ := (H.out.below hbw).at_ hlt
          have HS := Lib.hid hs
          have HBX := Lib.hid (hbw.alloc hz (.cells #[.bool s.b, .bool s.a, .string ⟨s.d.toArray⟩] 43))
          clear hs hbw
          by_cases hgt : s.d.length ≤ 1100
          · have hgI : ¬ (1100 : Int) < (s.d.length : Int) := by omega
            go_wp2
            go_roundw
            case rel =>
              refine ⟨k + 1, by omega, by go_num, ?_, HBX.out⟩
              intro j s' hj hs'
              by_cases hjk : j = k
              · subst hjk
                have := HS.out.symm.trans hs'
                simp only [Option.some.injEq] at this
                subst this
                exact hgt
              · exact hall.out j s' (by omega) hs'
            case measure => simp [intOf]; omega
          · have hgI : (1100 : Int) < (s.d.length : Int) := by omega
            go_wp2
            go_ret
            exact ⟨rfl, HBX.out⟩
        · have hkn : k = n := by omega
          subst hkn
          have HD := Lib.hid (show ∀ x ∈ ls, x.d.length ≤ 100000 from fun x hx => by
            obtain ⟨j, hj⟩ := List.mem_iff_getElem?.1 hx
            have := hall.out j x (by have := (List.getElem?_eq_some_iff.1 hj).1; have := HLN.out; omega) hj
            omega)
          have HB3 := Lib.hid hbw
          clear hbw
          go_wp2_with fail
          refine (join25 _ _ _ _ _ _ (H.out.below HB3.out) (by omega) HD.out).mono ?_
          rintro e w4 ⟨v4, rfl, hown4, hb4⟩
          obtain ⟨A4, n4, c4, rfl, hs4, hn4, -⟩ := hown4.strs
          have HB4 := Lib.hid (below_then_ HB3.out hb4)
          have HS4 := Lib.hid hs4
          clear hown4 hb4 hs4
          go_wp2_with fail
          refine (segments21 _ _ _ _ _ (H.out.below HB4.out) (by omega)).mono ?_
          rintro e w5 ⟨v5, rfl, hown5, hb5⟩
          obtain ⟨A5, c5, rfl, hs5, hn5⟩ := hown5.cells
          have HB5 := Lib.hid (below_then_ HB4.out hb5)
          have HS5 := Lib.hid hs5
          have HS4' := Lib.hid (HS4.out.below hb5)
          rw [HLN.out] at HS5
          rw [HLN.out]
          clear hown5 hb5 hs5 HS4
          go_wp2_with fail
          refine (join26 _ _ _ _ _ _ HS5.out (by omega) HD.out).mono ?_
          rintro e w6 ⟨v6, rfl, hown6, hb6⟩
          obtain ⟨A6, n6, c6, rfl, hs6, hn6, -⟩ := hown6.strs
          have HB6 := Lib.hid (below_then_ HB5.out hb6)
          have HS6 := Lib.hid hs6
          have HS4 := Lib.hid (HS4'.out.below hb6)
          clear hown6 hb6 hs6 HS4'
          go_wp2_with fail
          refine (unpack27 _ _ _ _ _ _ _ (C.below HB6.out) (H'.out.below HB6.out) (by omega)).mono ?_
          rintro e w7 ⟨v7, rfl, hown7, hb7⟩
          obtain ⟨A7, n7, c7, rfl, hs7, hn7, -⟩ := hown7.strs
          have HB7 := Lib.hid (below_then_ HB6.out hb7)
          have HS7 := Lib.hid hs7
          have HS4' := Lib.hid (HS4.out.below hb7)
          have HS6' := Lib.hid (HS6.out.below hb7)
          clear hown7 hb7 hs7 HS4 HS6
          go_wp2_with fail
          refine (unpack28 _ _ _ _ _ _ _ (H'.out.below HB7.out) (by omega)).mono ?_
          rintro e w8 ⟨v8, rfl, hown8, hb8⟩
          obtain ⟨A8, n8, c8, rfl, hs8, hn8, -⟩ := hown8.strs
          have HB8 := Lib.hid (below_then_ HB7.out hb8)
          have HS8 := Lib.hid hs8
          have HS4 := Lib.hid (HS4'.out.below hb8)
          have HS6 := Lib.hid (HS6'.out.below hb8)
          have HS7' := Lib.hid (HS7.out.below hb8)
          have he1 : ((joErr L ls) == (joErr L ls)) = true := beq_self_eq_true _
          have he2 : ((unErr L K ss) == (unErr L K ss)) = true := beq_self_eq_true _
          clear hown8 hb8 hs8 HS4' HS6' HS7
          go_wp2_with fail
          refine (same17 _ _ _ _ _ _ _ _ _ HS4.out HS6.out hn4 hn6).mono ?_
          rintro e w9 ⟨rfl, hb9⟩
          rw [sameB_refl]
          have HB9 := Lib.hid (below_then_ HB8.out hb9)
          have HS7 := Lib.hid (HS7'.out.below hb9)
          have HS8' := Lib.hid (HS8.out.below hb9)
          clear hb9 HS7' HS8
          go_wp2_with fail
          refine (same17 _ _ _ _ _ _ _ _ _ HS7.out HS8'.out hn7 hn8).mono ?_
          rintro e w10 ⟨rfl, hb10⟩
          rw [sameB_refl]
          go_wp2
          go_ret
          exact ⟨rfl, below_then_ HB9.out hb10⟩
    · have hf' : fewB ss 20 1100 = false := by simpa using hf
      have HF := Lib.hid hf'
      clear hf hf'
      go_enter Tryd.func8, Tryd.ntmps8
      go_wp2_with fail
      refine (awake11 _ C).mono ?_
      rintro e w1 ⟨rfl, hb1⟩
      have HB1 := Lib.hid hb1
      clear hb1
      go_wp2_with fail
      refine (few12 _ _ _ _ _ _ _ (H'.out.below HB1.out) hn').mono ?_
      rintro e w2 ⟨rfl, hb2⟩
      rw [HF.out]
      have HB2 := Lib.hid (below_then HB1.out hb2)
      clear hb2
      go_wp2_with fail
      refine (awake11 _ (C.below HB2.out)).mono ?_
      rintro e w3 ⟨rfl, hb3⟩
      go_wp2_with fail
      go_ret
      exact ⟨rfl, below_then HB2.out hb3⟩
  · have hnI : (20 : Int) < (n : Int) := by omega
    go_enter Tryd.func8, Tryd.ntmps8
    go_wp2_with fail
    refine (awake11 _ C).mono ?_
    rintro e w1 ⟨rfl, hb1⟩
    have HB1 := Lib.hid hb1
    clear hb1
    go_wp2_with fail
    refine (awake11 _ (C.below HB1.out)).mono ?_
    rintro e w3 ⟨rfl, hb3⟩
    go_wp2_with fail
    go_ret
    exact ⟨rfl, below_then HB1.out hb3⟩
end Go.Proofs.YtabpgfcmfflceaaDoor
