/- The walk of SpannedBuilds: it returns true. -/
import Derived.Test.YtabpgfcmfflceaaDoorReturns
import Derived.Test.YtabpgfcmfflceaaDoorAppend
import Derived.Test.YtabpgfcmfflceaaDoorRefAppend
import Derived.Test.YtabpgfcmfflceaaDoorMore
namespace P12
theorem dropLast_last {l : List Bs} {x : Bs} (h : l.getLast? = some x) : l.dropLast ++ [x] = l := by
  rcases List.eq_nil_or_concat l with rfl | ⟨m, y, rfl⟩
  · simp at h
  · simp at h
    subst h
    simp
theorem app_pack {L K : Nat} (hL : L ≤ 1000) (hK : 9 ≤ K ∧ K ≤ 1024) {rs : List Bs} (h : ∀ r ∈ rs, r.length ≤ L) {s : Bs} (hs : s.length ≤ L) :
    ∃ (keep : Nat) (more : List Bs), appR L K (packP K rs) s = ((keep : Int), more, 0) ∧ keep ≤ (packP K rs).length ∧ (packP K rs).length ≤ keep + 1 ∧ (packP K rs).take keep ++ more = packP K (rs ++ [s]) := by
  rw [packP_snoc]
  have he := packP_eq hK rs h
  have hinv := packS_inv (L := L) hK.1 h
  unfold appR stepP
  rw [if_neg (by omega)]
  cases hl : (packP K rs).getLast? with
  | none =>
    have h0 : packP K rs = [] := by simpa using hl
    refine ⟨0, tl K false s, rfl, Nat.zero_le _, by rw [h0]; simp, ?_⟩
    rw [h0]
    simp [putP, addP]
  | some last =>
    rw [he, List.getLast?_map] at hl
    obtain ⟨g, hg, rfl⟩ := Option.map_eq_some_iff.1 hl
    have hgr := hinv.group g (List.mem_of_getLast? hg)
    obtain ⟨hsg, hbl⟩ := hgr.segs hL hK.2
    have hla : ¬ (g.getLast?.map (·.a)) = some true := by
      intro e
      obtain ⟨y, hy, ha⟩ := Option.map_eq_some_iff.1 e
      have := hinv.last g hg y hy
      rw [ha] at this
      cases this
    have hdl : (packP K rs).dropLast ++ [block g] = packP K rs := by
      rw [he]
      have : ((packS K rs).map block).getLast? = some (block g) := by rw [List.getLast?_map, hg]; rfl
      exact dropLast_last this
    have hlen : (packP K rs).length = (packP K rs).dropLast.length + 1 := by
      have := congrArg List.length hdl
      simp at this
      simp
      omega
    have hne : block g ≠ [] := fun e => by
      have h8 := (packP_blocks (L := L) hK h (block g) (by rw [← hdl]; simp)).1
      rw [e] at h8
      simp at h8
    dsimp only
    rw [hsg]
    dsimp only
    rw [if_neg hla]
    by_cases hc : (addP K (block g) s).1 = []
    · rw [if_pos hc]
      refine ⟨_, _, rfl, Nat.le_refl _, by omega, ?_⟩
      rw [List.take_length, show (some (block g)).getD [] = block g from rfl, putP_stay hne hc]
      conv => lhs; rw [← hdl]
      simp
    · rw [if_neg hc]
      refine ⟨(packP K rs).dropLast.length, (addP K (block g) s).1 :: (addP K (block g) s).2, by rw [hlen]; simp, by omega, by omega, ?_⟩
      rw [show (some (block g)).getD [] = block g from rfl, putP_changed hc]
      congr 1
      conv => lhs; rw [← hdl]
      simp
end P12
namespace Go.Proofs.YtabpgfcmfflceaaDoor
open Go.RowKit P12 Go.Sort
attribute [local go_sem] ByteArray.mk_append_mk ByteArray.extract_mk mk_index

theorem total_take (fs : List Bs) (j : Nat) : total (fs.take j) ≤ total fs := by
  have := total_append (fs.take j) (fs.drop j)
  rw [List.take_append_drop] at this
  omega
theorem prefix_facts {L K : Nat} (hL : 1 ≤ L ∧ L ≤ 1000) (hK : 9 ≤ K ∧ K ≤ 1024) {fs : List Bs} (hle : ∀ r ∈ fs, (r.length : Int) ≤ (L : Int)) (hT : total fs ≤ 6020) (j : Nat) :
    (packP K (fs.take j)).length ≤ 90000 ∧ ∀ b ∈ packP K (fs.take j), b.length ≤ 100000 := by
  have hle' : ∀ r ∈ fs.take j, r.length ≤ L := fun r hr => by have := hle r (List.mem_of_mem_take hr); omega
  have h1 := total_packP hK hL.2 (fs.take j) hle'
  have h2 := total_take fs j
  have h3 := length_total (packP K (fs.take j))
  refine ⟨by omega, fun b hb => ?_⟩
  have := (packP_blocks (L := L) hK hle' b hb).2
  omega
theorem build_facts {L K : Nat} (hL : 1 ≤ L ∧ L ≤ 1000) (hK : 9 ≤ K ∧ K ≤ 1024) {fs : List Bs} (hle : ∀ r ∈ fs, (r.length : Int) ≤ (L : Int)) {j : Nat} {s : Bs} (hs : fs[j]? = some s) :
    ∃ (keep : Nat) (more : List Bs), appI (L : Int) (K : Int) (packP K (fs.take j)) s = ((keep : Int), more, 0) ∧ keep ≤ (packP K (fs.take j)).length ∧ (packP K (fs.take j)).length ≤ keep + 1 ∧ (packP K (fs.take j)).take keep ++ more = packP K (fs.take (j + 1)) ∧ packP K (fs.take (j + 1)) ≠ [] := by
  have hle' : ∀ r ∈ fs.take j, r.length ≤ L := fun r hr => by have := hle r (List.mem_of_mem_take hr); omega
  have hsl : s.length ≤ L := by have := hle s (List.mem_of_getElem? hs); omega
  obtain ⟨keep, more, h1, h2, h3, h4⟩ := app_pack hL.2 hK hle' hsl
  refine ⟨keep, more, by rw [appI_ok (nat_vok hL hK)]; exact h1, h2, h3, by rw [take_snoc hs]; exact h4, ?_⟩
  rw [take_snoc hs, packP_snoc]
  exact stepP_ne _ _ _
theorem StrsAt.take {w : World} {A : Option Addr} {n : Nat} {ss : List Bs} (h : StrsAt w A n ss) {k : Nat} (hk : k ≤ n) : StrsAt w A k (ss.take k) := by
  refine ⟨by rw [List.length_take, h.len]; omega, fun j s hj => ?_⟩
  apply h.2 j s
  rw [List.getElem?_take] at hj
  split at hj
  · exact hj
  · cases hj

theorem OwnS.capmax {w : World} {B : Nat} {e : TypeId} {g n c : Nat} {ss : List Bs} (h : OwnS w B e (.slice (some ⟨g, 0, none⟩) n c) ss) : c ≤ maxLen := by
  rcases h.2 with ⟨h0, _⟩ | ⟨g', cap, cur, hv, hb, hg, h1, h2, h3, h4⟩
  · cases h0
  · injection hv with e1 e2 e3
    subst e3
    exact h2

set_option maxRecDepth 100000 in
set_option maxHeartbeats 4000000 in
theorem builds7 (L K : Int) (A : Option Addr) (n c : Nat) (ss : List Bs) (w : World) (C : Codes w) (h : StrsAt w A n ss) (hn : n ≤ maxLen) :
    Calls Tryd.prog 7 #[.int .i64 L, .int .i64 K, .slice A n c] w fun e w' => e = .returned (.bool true) ∧ Below w.heap.size w w' := by
  have H := Lib.hid h
  have HN := Lib.hid h.len
  clear h
  by_cases hf : fewB ss 20 300 = true
  · have HF := Lib.hid hf
    have hn20 : n ≤ 20 := by have := (few_yes hf).1; have := HN.out; omega
    have hft := fair_total (L := L) hf
    clear hf
    by_cases hv : vok L K = true
    · have HV := Lib.hid hv
      obtain ⟨l, k, rfl, rfl, hl, hk⟩ := vok_nat hv
      have HG := Lib.hid (fair_facts hl hk (fun r hr => fair_le hr) hft)
      have HPE := Lib.hid (packP_eq (L := l) hk (fairL (l : Int) ss) (fun r hr => by have := fair_le hr; omega))
      have HPF := Lib.hid (prefix_facts hl hk (fun r hr => fair_le hr) hft)
      have HBF := Lib.hid (fun (j : Nat) (s : Bs) (hs : (fairL (l : Int) ss)[j]? = some s) => build_facts hl hk (fun r hr => fair_le hr) hs)
      have HM := Lib.hid (show ∀ s ∈ fairL (l : Int) ss, s.length ≤ 100000 from fun s hs => by have := fair_le hs; omega)
      have htt := HG.out.tot
      have hgl : (packS k (fairL (l : Int) ss)).length ≤ 90000 := by have := length_total ((packS k (fairL (l : Int) ss)).map block); simp at this; omega
      clear hv
      obtain ⟨i0, hi0, hz0, hz1, hz2⟩ := info_parts info9
      have HI := Lib.hid hi0
      have HZ0 := Lib.hid hz0
      have HZ1 := Lib.hid hz1
      have HZ2 := Lib.hid hz2
      clear hi0 hz0 hz1 hz2
      go_enter Tryd.func7, Tryd.ntmps7
      go_wp2_with fail
      refine (awake11 _ C).mono ?_
      rintro e w1 ⟨rfl, hb1⟩
      have HB1 := Lib.hid (hb1)
      clear hb1
      go_wp2_with fail
      refine (few12 _ _ _ _ _ _ _ (H.out.below HB1.out) hn).mono ?_
      rintro e w2 ⟨rfl, hb2⟩
      rw [HF.out]
      have HB2 := Lib.hid (below_then HB1.out hb2)
      clear hb2
      go_wp2_with (first | (go_at_call 15; refine (valid15 _ _ _).mono ?_; rintro e w' ⟨rfl, rfl⟩; rw [HV.out]) | (go_at_call 22; fail))
      refine (fair22 _ _ _ _ _ _ (H.out.below HB2.out) (by omega)).mono ?_
      rintro e w3 ⟨v3, rfl, hown3, hb3⟩
      obtain ⟨A3, n3, c3, rfl, hs3, hn3, h3l⟩ := hown3.strs
      have HB3 := Lib.hid (below_then HB2.out hb3)
      have HS3 := Lib.hid hs3
      have HN3 := Lib.hid h3l
      have hn3' : n3 ≤ 1000000 := by unfold maxLen at *; have : (fairL (l : Int) ss).length ≤ ss.length := List.length_filter_le _ _; have := HN.out; omega
      clear hown3 hb3 hs3 h3l
      go_wp2
      go_loopw [8, 36] (fun bl i wr => ∃ (j b8 o8 n8 c8 : Nat) (bs : List Bs), j ≤ n3 ∧ i = .int .i64 j ∧ bl = .slice (some ⟨b8, o8, none⟩) n8 c8 ∧ Hid (bs = packP k ((fairL (l : Int) ss).take j)) ∧ StrsAt wr (some ⟨b8, o8, none⟩) n8 bs ∧ n8 ≤ c8 ∧ c8 ≤ maxLen ∧ Below w3.heap.size w3 wr) (fun _ i _ => n3 - (intOf i).toNat)
      case atStart => exact ⟨0, w3.heap.size, 0, 0, 0, [], Nat.zero_le _, rfl, rfl, rfl, ⟨rfl, fun j s hj => by simp at hj⟩, Nat.le_refl _, Nat.zero_le _, below_alloc (Below.refl _ _) _⟩
      case round =>
        obtain ⟨j, b8, o8, n8, c8, bs, hj, rfl, rfl, hbs, hs8, hc8, hm8, hbw⟩ := hrel
        have hz := hbw.size
        have CW := Lib.hid ((C.below HB3.out).below hbw)
        have hbs2 := hbs.out
        subst hbs2
        clear hbs
        have hn8 := hs8.len
        have hn8' : n8 ≤ 90000 := by have := (HPF.out j).1; omega
        have HBL := Lib.hid (HPF.out j).2
        unfold maxLen at hm8
        have HN8 := Lib.hid hn8
        clear hn8
        have HS8 := Lib.hid hs8
        clear hs8
        by_cases hlt : j < n3
        · obtain ⟨b, off, s, rfl, hs, hc⟩ := (HS3.out.below hbw).at_ hlt
          obtain ⟨keep, more, ha, hk1, hk2, hk3, hk4⟩ := HBF.out j s hs
          have hs1 : s.length ≤ 100000 := HM.out s (List.mem_of_getElem? hs)
          have HA := Lib.hid ha
          have HK3 := Lib.hid hk3
          have HK4 := Lib.hid hk4
          have hkn : keep ≤ n8 := by have := HN8.out; omega
          have hkn2 : n8 ≤ keep + 1 := by have := HN8.out; omega
          have hml := congrArg List.length hk3
          have hpl := (HPF.out (j + 1)).1
          have hmore : keep + more.length ≤ 90000 := by have := HN8.out; simp at hml; omega
          have HBW := Lib.hid hbw
          clear ha hk1 hk2 hk3 hk4 hs hml hpl hbw
          have hq1 : ¬ ((keep : Int) < (n8 : Int) - 1) := by omega
          have hq2 : ¬ ((n8 : Int) < (keep : Int)) := by omega
          have hq3 : ¬ ((keep : Int) < 0) := by omega
          have hq4 : (keep : Int) ≤ (c8 : Int) := by omega
          go_wp2_with fail
          refine (append23 _ _ _ _ _ _ _ _ CW.out HS8.out (by omega) HBL.out hs1).mono ?_
          rintro e w6 ⟨v6, rfl, hown6, hb6⟩
          rw [HA.out]
          rw [HA.out] at hown6
          have HO6 := Lib.hid hown6
          have HS6 := Lib.hid ((HS8.out.take hkn).below hb6)
          have HB6 := Lib.hid (HBW.out.trans (hb6.mono hz))
          have hz6 := HB6.out.size
          clear hown6 hb6
          dsimp only
          go_wp2_with (first | (at_builtin; refine wpList_append_strs rfl (.tmp 68) (.tmp 71) _ rfl w6.heap.size 9 i0 _ Tryd.underlying22 HI.out HZ0.out HZ1.out HZ2.out rfl _ [] rfl (OwnS.empty _ _ _ (Nat.le_refl _)) _ b8 o8 keep c8 rfl (HS6.out.below (below_alloc (Below.refl _ _) _)) (by simp; omega) (by rw [World.size_alloc]; omega) ?_; intro v7 w7 hown7 hb7 _ _; have HO7 := Lib.hid hown7; have HB7 := Lib.hid ((below_alloc (Below.refl w6.heap.size w6) _).trans hb7); clear hown7 hb7) | (at_builtin; refine wpList_append_owns rfl (.tmp 72) (.tmp 73) _ rfl w6.heap.size 9 i0 _ Tryd.underlying22 HI.out HZ0.out HZ1.out HZ2.out rfl _ _ rfl HO7.out _ _ more rfl (HO6.out.below HB7.out) (by simp; omega) HB7.out.size ?_; intro v8 w8 hown8 hb8 _ _))
          rw [List.nil_append, HK3.out] at hown8
          obtain ⟨g8, c9, rfl, -, -, -, hm9⟩ := hown8.row HK4.out
          have hcp := hown8.cap rfl
          go_roundw
          case rel => exact ⟨j + 1, g8, 0, _, c9, _, by omega, by go_num, rfl, rfl, StrsAt.of_own hown8, hcp, hown8.capmax, HB6.out.trans ((HB7.out.trans hb8).mono hz6)⟩
          case measure => simp [intOf]; omega
        · have hjn : j = n3 := by omega
          subst hjn
          have HTK := Lib.hid (show packP k ((fairL (l : Int) ss).take j) = (packS k (fairL (l : Int) ss)).map block from by rw [List.take_of_length_le (by have := HN3.out; omega)]; exact HPE.out)
          have HB4 := Lib.hid (below_then_ HB3.out hbw)
          have HS4 := Lib.hid (HS3.out.below hbw)
          clear hbw
          go_wp2_with fail
          refine (pack13 _ _ _ _ _ _ _ (C.below HB4.out) HS4.out (by omega)).mono ?_
          rintro e w5 ⟨v5, rfl, hown5, hb5⟩
          rw [HG.out.perr]
          rw [HG.out.pout] at hown5
          obtain ⟨A5, n5, c5, rfl, hs5, hn5, h5l⟩ := hown5.strs
          have HB5 := Lib.hid (below_then HB4.out hb5)
          have HS5 := Lib.hid hs5
          have HS9 := Lib.hid (HS8.out.below hb5)
          rw [HTK.out] at HS9
          have hn8m : n8 ≤ maxLen := by unfold maxLen; omega
          clear hown5 hb5 hs5 h5l
          go_wp2_with (go_at_call 17; refine (same17 _ _ _ _ _ _ _ _ _ HS9.out HS5.out hn8m hn5).mono ?_; rintro e w10 ⟨rfl, hb10⟩; rw [sameB_refl])
          go_ret
          exact ⟨rfl, below_then HB5.out hb10⟩
    · have hv' : vok L K = false := by simpa using hv
      have HV := Lib.hid hv'
      clear hv hv'
      go_enter Tryd.func7, Tryd.ntmps7
      go_wp2_with fail
      refine (awake11 _ C).mono ?_
      rintro e w1 ⟨rfl, hb1⟩
      have HB1 := Lib.hid (hb1)
      clear hb1
      go_wp2_with fail
      refine (few12 _ _ _ _ _ _ _ (H.out.below HB1.out) hn).mono ?_
      rintro e w2 ⟨rfl, hb2⟩
      rw [HF.out]
      have HB2 := Lib.hid (below_then HB1.out hb2)
      clear hb2
      go_wp2_with (first | (go_at_call 15; refine (valid15 _ _ _).mono ?_; rintro e w' ⟨rfl, rfl⟩; rw [HV.out]) | (go_at_call 11; fail))
      refine (awake11 _ (C.below HB2.out)).mono ?_
      rintro e w3 ⟨rfl, hb3⟩
      have HB3 := Lib.hid (below_then HB2.out hb3)
      go_wp2_with fail
      go_ret
      exact ⟨rfl, HB3.out⟩
  · have hf' : fewB ss 20 300 = false := by simpa using hf
    have HF := Lib.hid hf'
    clear hf hf'
    go_enter Tryd.func7, Tryd.ntmps7
    go_wp2_with fail
    refine (awake11 _ C).mono ?_
    rintro e w1 ⟨rfl, hb1⟩
    have HB1 := Lib.hid (hb1)
    clear hb1
    go_wp2_with fail
    refine (few12 _ _ _ _ _ _ _ (H.out.below HB1.out) hn).mono ?_
    rintro e w2 ⟨rfl, hb2⟩
    rw [HF.out]
    have HB2 := Lib.hid (below_then HB1.out hb2)
    clear hb2
    go_wp2_with fail
    refine (awake11 _ (C.below HB2.out)).mono ?_
    rintro e w3 ⟨rfl, hb3⟩
    have HB3 := Lib.hid (below_then HB2.out hb3)
    clear hb3
    go_wp2_with fail
    go_ret
    exact ⟨rfl, HB3.out⟩
end Go.Proofs.YtabpgfcmfflceaaDoor
