/- The walk of SpannedStrict: it returns true. -/
import Derived.Test.YtabpgfcmfflceaaDoorUnpack
import Derived.Test.YtabpgfcmfflceaaDoorAwake
namespace Go.Proofs.YtabpgfcmfflceaaDoor
open Go.RowKit P12 Go.Sort
attribute [local go_sem] ByteArray.mk_append_mk ByteArray.extract_mk mk_index

/-- What is unpacked packs to the same blocks. -/
theorem un_pack {L K : Int} {bs : List Bs} (hv : vok L K = true) (h : unErr L K bs = 0) : packErr L K (unOut L K bs) = 0 ∧ packOut L K (unOut L K bs) = bs := by
  obtain ⟨l, k, rfl, rfl, hl, hk⟩ := vok_nat hv
  cases hu : unpack l k bs with
  | none =>
    rw [(un_none hv hu).1] at h
    cases h
  | some rs =>
    rw [(un_some hv hu).2]
    have hle : ∀ r ∈ rs, r.length ≤ l := by
      unfold unpack at hu
      split at hu
      · cases hu
      · split at hu
        · cases hu
        · rename_i hj
          split at hu
          · simp only [Option.some.injEq] at hu
            subst hu
            exact join_le hj
          · cases hu
    have hb : bad (l : Int) rs = false := bad_none (n := rs.length) rfl (fun j s _ hs => by have := hle s (List.mem_of_getElem? hs); omega)
    obtain ⟨e1, e2⟩ := packErr_ok hv hb
    exact ⟨e1, e2.trans (unpack_some hu)⟩
theorem un_err {L K : Int} {bs : List Bs} (h : unErr L K bs ≠ 0) : unOut L K bs = [] ∧ ((unErr L K bs == 1) == !vok L K) = true := by
  by_cases hv : vok L K = true
  · obtain ⟨l, k, rfl, rfl, hl, hk⟩ := vok_nat hv
    cases hu : unpack l k bs with
    | none =>
      obtain ⟨e1, e2⟩ := un_none hv hu
      rw [e1, e2, hv]
      exact ⟨rfl, rfl⟩
    | some rs => exact absurd (un_some hv hu).1 h
  · have hv' : vok L K = false := by simpa using hv
    obtain ⟨e1, e2⟩ := un_bad (d := bs) hv'
    rw [e1, e2, hv']
    exact ⟨rfl, rfl⟩
theorem un_total {L K : Int} {bs : List Bs} (h : total bs ≤ 60000) : total (unOut L K bs) ≤ 60000 := by
  by_cases hv : vok L K = true
  · obtain ⟨l, k, rfl, rfl, hl, hk⟩ := vok_nat hv
    cases hu : unpack l k bs with
    | none => rw [(un_none hv hu).2]; simp [total]
    | some rs =>
      rw [(un_some hv hu).2]
      unfold unpack at hu
      split at hu
      · cases hu
      · rename_i ls hall
        split at hu
        · cases hu
        · rename_i hj
          split at hu
          · simp only [Option.some.injEq] at hu
            subst hu
            have h1 := join_total ls [] false _ hj
            have h2 : weight ls ≤ total bs := by
              have key : ∀ (bs : List Bs) (ls : List Seg), allSegs l k bs = some ls → weight ls ≤ total bs := by
                intro bs
                induction bs with
                | nil => intro ls h; simp only [allSegs, Option.some.injEq] at h; subst h; simp [weight]
                | cons b bs ih =>
                  intro ls h
                  rw [allSegs] at h
                  split at h
                  · cases h
                  · rename_i m hm
                    obtain ⟨q, hq, rfl⟩ := Option.map_eq_some_iff.1 h
                    have := ih q hq
                    have := segs_weight hm
                    rw [weight_append]
                    simp only [total, List.map_cons, List.sum_cons] at *
                    omega
              exact key bs ls hall
            have e0 : total [] = 0 := rfl
            have e1 : weight ls = (ls.map fun x => x.d.length + 1).sum := rfl
            omega
          · cases hu
  · rw [(un_bad (d := bs) (by simpa using hv)).2]; simp [total]

set_option maxHeartbeats 1000000 in
theorem strict10 (L K : Int) (A : Option Addr) (n c : Nat) (ss : List Bs) (w : World) (C : Codes w) (h : StrsAt w A n ss) (hn : n ≤ maxLen) :
    Calls Tryd.prog 10 #[.int .i64 L, .int .i64 K, .slice A n c] w fun e w' => e = .returned (.bool true) ∧ Below w.heap.size w w' := by
  have H := Lib.hid h
  clear h
  by_cases hf : fewB ss 20 1100 = true
  · have htt := few_total hf
    have HF := Lib.hid hf
    have htu := un_total (L := L) (K := K) (show total ss ≤ 60000 by omega)
    clear hf
    by_cases h0 : unErr L K ss = 0
    · have hv : vok L K = true := by
        by_cases hv : vok L K = true
        · exact hv
        · rw [(un_bad (d := ss) (by simpa using hv)).1] at h0; cases h0
      have HP := Lib.hid (un_pack hv h0)
      have H0 := Lib.hid h0
      clear hv h0
      go_enter Tryd.func10, Tryd.ntmps10
      go_wp2_with fail
      refine (awake11 _ C).mono ?_
      rintro e w1 ⟨rfl, hb1⟩
      have HB1 := Lib.hid hb1
      clear hb1
      go_wp2_with fail
      refine (few12 _ _ _ _ _ _ _ (H.out.below HB1.out) hn).mono ?_
      rintro e w2 ⟨rfl, hb2⟩
      rw [HF.out]
      have HB2 := Lib.hid (below_then HB1.out hb2)
      clear hb2
      go_wp2_with fail
      refine (unpack27 _ _ _ _ _ _ _ (C.below HB2.out) (H.out.below HB2.out) (by omega)).mono ?_
      rintro e w3 ⟨v3, rfl, hown3, hb3⟩
      rw [H0.out]
      obtain ⟨A3, n3, c3, rfl, hs3, hn3, -⟩ := hown3.strs
      have HB3 := Lib.hid (below_then HB2.out hb3)
      have HS3 := Lib.hid hs3
      clear hown3 hb3 hs3
      go_wp2_with fail
      refine (pack13 _ _ _ _ _ _ _ (C.below HB3.out) HS3.out (by omega)).mono ?_
      rintro e w4 ⟨v4, rfl, hown4, hb4⟩
      rw [HP.out.1]
      rw [HP.out.2] at hown4
      obtain ⟨A4, n4, c4, rfl, hs4, hn4, -⟩ := hown4.strs
      have HB4 := Lib.hid (below_then HB3.out hb4)
      have HS4 := Lib.hid hs4
      clear hown4 hb4 hs4
      go_wp2_with (go_at_call 17; refine (same17 _ _ _ _ _ _ _ _ _ HS4.out (H.out.below HB4.out) hn4 hn).mono ?_; rintro e w5 ⟨rfl, hb5⟩; rw [sameB_refl])
      go_ret
      exact ⟨rfl, below_then HB4.out hb5⟩
    · have HE := Lib.hid (un_err h0)
      have hne : (unErr L K ss != 0) = true := bne_of h0
      have hbb := (un_err h0).2
      clear h0
      go_enter Tryd.func10, Tryd.ntmps10
      go_wp2_with fail
      refine (awake11 _ C).mono ?_
      rintro e w1 ⟨rfl, hb1⟩
      have HB1 := Lib.hid hb1
      clear hb1
      go_wp2_with fail
      refine (few12 _ _ _ _ _ _ _ (H.out.below HB1.out) hn).mono ?_
      rintro e w2 ⟨rfl, hb2⟩
      rw [HF.out]
      have HB2 := Lib.hid (below_then HB1.out hb2)
      clear hb2
      go_wp2_with fail
      refine (unpack27 _ _ _ _ _ _ _ (C.below HB2.out) (H.out.below HB2.out) (by omega)).mono ?_
      rintro e w3 ⟨v3, rfl, hown3, hb3⟩
      rw [HE.out.1] at hown3
      obtain ⟨A3, n3, c3, rfl, -, -, h30⟩ := hown3.strs
      obtain rfl : n3 = 0 := h30
      have HB3 := Lib.hid (below_then HB2.out hb3)
      clear hown3 hb3
      go_wp2_with (go_at_call 15; refine (valid15 _ _ _).mono ?_; rintro e w' ⟨rfl, rfl⟩)
      go_ret
      exact ⟨rfl, HB3.out⟩
  · have hf' : fewB ss 20 1100 = false := by simpa using hf
    have HF := Lib.hid hf'
    clear hf hf'
    go_enter Tryd.func10, Tryd.ntmps10
    go_wp2_with fail
    refine (awake11 _ C).mono ?_
    rintro e w1 ⟨rfl, hb1⟩
    have HB1 := Lib.hid hb1
    clear hb1
    go_wp2_with fail
    refine (few12 _ _ _ _ _ _ _ (H.out.below HB1.out) hn).mono ?_
    rintro e w2 ⟨rfl, hb2⟩
    rw [HF.out]
    have HB2 := Lib.hid (below_then HB1.out hb2)
    clear hb2
    go_wp2_with fail
    refine (awake11 _ (C.below HB2.out)).mono ?_
    rintro e w3 ⟨rfl, hb3⟩
    go_wp2_with fail
    go_ret
    exact ⟨rfl, below_then HB2.out hb3⟩
end Go.Proofs.YtabpgfcmfflceaaDoor
