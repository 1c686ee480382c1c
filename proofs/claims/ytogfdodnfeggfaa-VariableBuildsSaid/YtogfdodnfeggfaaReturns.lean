/- The walks of fair and of VariableReturns: it returns true. -/
import Derived.Test.YtogfdodnfeggfaaAwake
import Derived.Test.YtogfdodnfeggfaaPacks
import Derived.Test.YtogfdodnfeggfaaUnpack
namespace Go.Proofs.Ytogfdodnfeggfaa
open Go.RowKit P11
attribute [local go_sem] ByteArray.mk_append_mk ByteArray.extract_mk mk_index

def fairL (L : Int) (ss : List Bs) : List Bs := ss.filter fun s => decide ((s.length : Int) ≤ L)
theorem fair_take {L : Int} {ss : List Bs} {k : Nat} {s : Bs} (h : ss[k]? = some s) : fairL L (ss.take (k + 1)) = if (s.length : Int) ≤ L then fairL L (ss.take k) ++ [s] else fairL L (ss.take k) := by
  unfold fairL
  rw [take_snoc h, List.filter_append]
  by_cases hl : (s.length : Int) ≤ L <;> simp [hl]
theorem fair_len (L : Int) (ss : List Bs) : (fairL L ss).length ≤ ss.length := List.length_filter_le _ _
theorem fair_le {L : Int} {ss : List Bs} {r : Bs} (h : r ∈ fairL L ss) : (r.length : Int) ≤ L := by
  have := List.mem_filter.1 h
  simpa using this.2
theorem fair_mem {L : Int} {ss : List Bs} {r : Bs} (h : r ∈ fairL L ss) : r ∈ ss := (List.mem_filter.1 h).1

set_option maxHeartbeats 1000000 in
theorem fair23 (L : Int) (A : Option Addr) (n c : Nat) (ss : List Bs) (w : World) (h : StrsAt w A n ss) (hn : n ≤ 1000000) :
    Calls Try.prog 23 #[.int .i64 L, .slice A n c] w fun e w' => ∃ v, e = .returned v ∧ OwnS w' w.heap.size 9 v (fairL L ss) ∧ Below w.heap.size w w' := by
  have H := Lib.hid h
  clear h
  obtain ⟨i0, hi0, hz0, hz1, hz2⟩ := info_parts info9
  have HI := Lib.hid hi0
  have HZ0 := Lib.hid hz0
  have HZ1 := Lib.hid hz1
  have HZ2 := Lib.hid hz2
  clear hi0 hz0 hz1 hz2
  go_enter Try.func23, Try.ntmps23
  go_wp2
  go_loopw [5, 11] (fun out i wr => ∃ (k : Nat) (xs : List Bs), k ≤ n ∧ i = .int .i64 k ∧ Hid (xs = fairL L (ss.take k)) ∧ OwnS wr w.heap.size 9 out xs ∧ Below w.heap.size w wr ∧ xs.length ≤ k) (fun _ i _ => n - (intOf i).toNat)
  case atStart => exact ⟨0, [], Nat.zero_le _, rfl, rfl, OwnS.empty _ _ _ (Nat.le_refl _), below_alloc (Below.refl _ _) _, by simp⟩
  case round =>
    obtain ⟨k, xs, hk, rfl, hx, hown, hbw, hxl⟩ := hrel
    have hsz := hbw.size
    by_cases hlt : k < n
    · obtain ⟨b, off, s, rfl, hs, hc⟩ := (H.out.below hbw).at_ hlt
      have HF := Lib.hid (fair_take (L := L) hs)
      clear hs
      by_cases hl : (s.length : Int) ≤ L
      · go_wp2_with (at_builtin; refine wpList_append_str rfl (.tmp 19) (.tmp 21) _ rfl w.heap.size 9 i0 _ Try.underlying22 HI.out HZ0.out HZ1.out HZ2.out rfl _ xs rfl (hown.alloc _) s ⟨wr.heap.size, 0, none⟩ 1 rfl (by simp) (by omega) (by simp; omega) ?_; intro v3 w3 hown3 hb3 _ _)
        go_roundw
        case rel =>
          refine ⟨k + 1, xs ++ [s], by omega, by go_num, ?_, hown3, (hbw.alloc hsz _).trans hb3, by simp; omega⟩
          show _ = _
          rw [HF.out, if_pos hl, hx.out]
        case measure => simp [intOf]; omega
      · go_wp2
        go_roundw
        case rel =>
          refine ⟨k + 1, xs, by omega, by go_num, ?_, hown, hbw, by omega⟩
          show _ = _
          rw [HF.out, if_neg hl, hx.out]
        case measure => simp [intOf]; omega
    · have hkn : k = n := by omega
      subst hkn
      have hx2 : xs = fairL L ss := by rw [hx.out, List.take_of_length_le (by have := H.out.len; omega)]
      go_wp2
      go_ret
      exact ⟨_, rfl, by rw [← hx2]; exact hown, hbw⟩

/-- What the fair records pack to. -/
theorem packed_fair {L K : Nat} (hL : 1 ≤ L ∧ L ≤ 1000) (hK : L + 8 ≤ K ∧ K ≤ 1024) {rs : List Bs} (h : ∀ r ∈ rs, (r.length : Int) ≤ (L : Int)) :
    ∃ gs : List (List Bs), packErr L K rs = 0 ∧ packOut L K rs = gs.map block ∧ gs.flatten = rs ∧ (∀ g ∈ gs, g ≠ [] ∧ (block g).length ≤ K ∧ (∀ r ∈ g, r.length ≤ L) ∧ unErr L K (block g) = 0 ∧ unOut L K (block g) = g) ∧ gs.length ≤ rs.length ∧
      ∀ (i : Nat) (g g' : List Bs) (r : Bs), gs[i]? = some g → gs[i + 1]? = some g' → g'.head? = some r → K < (block g).length + 4 + r.length := by
  have hv : vok (L : Int) (K : Int) = true := by unfold vok; simp; omega
  have h' : ∀ r ∈ rs, r.length ≤ L := fun r hr => by have := h r hr; omega
  obtain ⟨gs, e1, _, e3, e4, e5⟩ := packed hL hK h'
  have h0 : packErr L K rs = 0 := by
    unfold packErr
    rw [if_pos hv, if_pos (List.all_eq_true.2 (fun r hr => by simpa using h r hr))]
  have hbl : ∀ g ∈ gs, (block g).length = 4 + (fm g).length := fun g hg => by
    unfold block
    rw [length_whole (by have := (e4 g hg).2.1; omega)]
  refine ⟨gs, h0, ?_, e3, fun g hg => ?_, ?_, fun i g g' r h1 h2 h3 => ?_⟩
  · unfold packOut
    rw [if_pos h0]
    exact e1
  · obtain ⟨a1, a2, a3⟩ := e4 g hg
    have hu := unpack_block hL.2 hK.2 a3 a1 a2
    obtain ⟨u1, u2⟩ := un_some (L := L) (K := K) hv hu
    exact ⟨a1, by rw [hbl g hg]; exact a2, a3, u1, u2⟩
  · rw [← e3]
    have : ∀ l : List (List Bs), (∀ g ∈ l, g ≠ []) → l.length ≤ l.flatten.length := by
      intro l
      induction l with
      | nil => intro _; simp
      | cons g l ih =>
        intro hl
        have h1 := List.length_pos_iff.2 (hl g (by simp))
        have h2 := ih (fun x hx => hl x (by simp [hx]))
        rw [List.flatten_cons, List.length_append, List.length_cons]
        omega
    exact this gs (fun g hg => (e4 g hg).1)
  · have := e5 i g g' r h1 h2 h3
    rw [hbl g (List.mem_of_getElem? h1)]
    exact this

set_option maxRecDepth 100000 in
set_option maxHeartbeats 2000000 in
theorem returns6 (L K : Int) (A : Option Addr) (n c : Nat) (rs : List Bs) (w : World) (h : StrsAt w A n rs) (hn : n ≤ maxLen) :
    Calls Try.prog 6 #[.int .i64 L, .int .i64 K, .slice A n c] w fun e w' => e = .returned (.bool true) ∧ Below w.heap.size w w' := by
  have H := Lib.hid h
  clear h
  cases hf : fewB rs 40 300 with
  | false =>
    have HF := Lib.hid hf
    clear hf
    go_enter Try.func6, Try.ntmps6
    go_wp2_with (first | (go_at_call 10; refine (awake10 _).mono ?_; rintro e w1 ⟨rfl, hb1⟩) | (go_at_call 11; refine (few11 _ _ _ rs _ _ _ (H.out.below hb1) hn).mono ?_; rintro e w2 ⟨rfl, hb2⟩; rw [HF.out]))
    go_ret
    exact ⟨rfl, by repeat (first | exact Below.refl _ _ | refine below_alloc ?_ _ | refine below_drewN ?_ _ | refine below_then ?_ (by assumption))⟩
  | true =>
    have hn40 : n ≤ 40 := by
      have := (few_yes hf).1
      have := H.out.len
      omega
    have HF := Lib.hid hf
    clear hf
    cases hv : vok L K with
    | false =>
      have HV := Lib.hid hv
      clear hv
      go_enter Try.func6, Try.ntmps6
      go_wp2_with (first | (go_at_call 10; refine (awake10 _).mono ?_; rintro e w1 ⟨rfl, hb1⟩) | (go_at_call 11; refine (few11 _ _ _ rs _ _ _ (H.out.below hb1) hn).mono ?_; rintro e w2 ⟨rfl, hb2⟩; rw [HF.out]) | (go_at_call 14; refine (valid14 _ _ _).mono ?_; rintro e w' ⟨rfl, rfl⟩; rw [HV.out]))
      go_ret
      exact ⟨rfl, by repeat (first | exact Below.refl _ _ | refine below_alloc ?_ _ | refine below_drewN ?_ _ | refine below_then ?_ (by assumption))⟩
    | true =>
      obtain ⟨l, k, rfl, rfl, hl, hk⟩ := vok_nat hv
      obtain ⟨gs, p1, p2, p3, p4, p5, p6⟩ := packed_fair hl hk (rs := fairL (l : Int) rs) (fun r hr => fair_le hr)
      have hgl : gs.length ≤ 40 := by
        have := fair_len (l : Int) rs
        have := H.out.len
        omega
      have HV := Lib.hid hv
      have P1 := Lib.hid p1
      have P2 := Lib.hid p2
      have P3 := Lib.hid p3
      have P4 := Lib.hid p4
      have P6 := Lib.hid p6
      clear hv p1 p2 p3 p4 p5 p6
      obtain ⟨i0, hi0, hz0, hz1, hz2⟩ := info_parts info9
      have HI := Lib.hid hi0
      have HZ0 := Lib.hid hz0
      have HZ1 := Lib.hid hz1
      have HZ2 := Lib.hid hz2
      clear hi0 hz0 hz1 hz2
      go_enter Try.func6, Try.ntmps6
      go_wp2_with fail
      refine (awake10 _).mono ?_
      rintro e w1 ⟨rfl, hb1⟩
      go_wp2_with fail
      refine (few11 _ _ _ rs _ _ _ (H.out.below hb1) hn).mono ?_
      rintro e w2 ⟨rfl, hb2⟩
      rw [HF.out]
      have hb02 := below_then hb1 hb2
      go_wp2_with (go_at_call 14; refine (valid14 _ _ _).mono ?_; rintro e w' ⟨rfl, rfl⟩; rw [HV.out])
      refine (fair23 _ _ _ _ rs _ (H.out.below hb02) (by omega)).mono ?_
      rintro e w3 ⟨v3, rfl, hown3, hb3⟩
      have hb03 := below_then hb02 hb3
      obtain ⟨A3, n3, c3, rfl, hs3, hm3, hn3⟩ := hown3.strs
      have hn3' : n3 ≤ 40 := by
        have := fair_len (l : Int) rs
        have := H.out.len
        omega
      have HS3 := Lib.hid hs3
      clear hs3 hown3 hn3
      go_wp2_with fail
      refine (pack12 _ _ _ _ _ _ _ HS3.out (by omega)).mono ?_
      rintro e w4 ⟨v4, rfl, hown4, hb4⟩
      rw [P1.out]
      rw [P2.out] at hown4
      have hb04 := below_then hb03 hb4
      obtain ⟨A4, n4, c4, rfl, hs4, hm4, hn4⟩ := hown4.strs
      have hn4' : n4 ≤ 40 := by rw [hn4, List.length_map]; exact hgl
      have HN4 := Lib.hid (show n4 = gs.length from by rw [hn4, List.length_map])
      have HS4 := Lib.hid hs4
      have HS3' := Lib.hid (HS3.out.below hb4)
      clear hs4 hown4 hn4
      have hz4 := hb04.size
      go_wp2_with fail
      go_loopw [10, 11, 45] (fun out bf i wr => ∃ (j : Nat) (xs : List Bs) (q : Int), j ≤ n4 ∧ i = .int .i64 j ∧ bf = .int .i64 q ∧ Hid (xs = (gs.take j).flatten) ∧ OwnS wr w4.heap.size 9 out xs ∧ Below w4.heap.size w4 wr ∧ xs.length ≤ 1024 * j ∧ (j = 0 → q = -1) ∧ Hid (∀ g, 0 < j → gs[j - 1]? = some g → q = ((block g).length : Int)) ∧ q ≤ 1024 ∧ -1 ≤ q ∧ (0 < j → 0 ≤ q)) (fun _ _ i _ => n4 - (intOf i).toNat)
      case atStart => exact ⟨0, [], -1, Nat.zero_le _, rfl, rfl, rfl, OwnS.empty _ _ _ (Nat.le_refl _), below_alloc (Below.refl _ _) _, by simp, fun _ => rfl, fun g h => absurd h (by omega), by omega, by omega, fun h => absurd h (by omega)⟩
      case round =>
        obtain ⟨j, xs, q, hj, rfl, rfl, hx, hown, hbw, hxl, hq0, hqj, hq1, hq2, hq3⟩ := hrel
        have hsz := hbw.size
        by_cases hlt : j < n4
        · obtain ⟨b, off, s, rfl, hs, hc⟩ := (HS4.out.below hbw).at_ hlt
          rw [List.getElem?_map] at hs
          obtain ⟨g, hg, hbs⟩ := Option.map_eq_some_iff.1 hs
          obtain ⟨a1, a2, a3, a4, a5⟩ := P4.out g (List.mem_of_getElem? hg)
          rw [hbs] at a2 a4 a5
          have U1 := Lib.hid a4
          have U2 := Lib.hid a5
          have U5 := Lib.hid (List.length_pos_iff.2 a1)
          have U6 : Hid (g.length ≤ 1024) := by
            have h1 := length_fm_ge (ls := g) (fun r hr => by have := a3 r hr; omega)
            have h2 : (block g).length = 4 + (fm g).length := length_whole (by
              have h3 := length_fm_le (ls := g) (fun r hr => by have := a3 r hr; omega)
              have h4 : (block g).length ≤ 1024 := by rw [hbs]; omega
              unfold block whole at h4
              rw [List.length_append] at h4
              omega)
            rw [hbs] at h2
            show _ ≤ _
            omega
          have U7 : Hid (∀ r ∈ g, r.length ≤ 1000) := fun r hr => by have := a3 r hr; omega
          have HG := Lib.hid hg
          have HB := Lib.hid hbs
          have hsk : s.length ≤ 1024 := by omega
          have hxl2 : xs.length + 1024 ≤ 1000000 := by omega
          clear hs hg hbs a1 a3 a4 a5
          by_cases hj0 : j = 0
          · obtain rfl : q = -1 := hq0 hj0
            have HJ0 := Lib.hid hj0
            clear hq0 hq1 hq2 hq3 hqj hj0
            go_wp2_with (first | (go_at_call 21; refine (unpack21 _ _ s _ (by omega)).mono ?_; rintro e w6 ⟨v6, rfl, hown6, hb6⟩; rw [U1.out]; rw [U2.out] at hown6; obtain ⟨A6, n6, c6, rfl, hs6, hm6, hn6⟩ := hown6.strs; have hn6' : n6 = g.length := hn6; have hgp : 0 < n6 := (by rw [hn6']; exact U5.out); obtain ⟨b6, off6, r0, rfl, hr0, hc6⟩ := hs6.at_ (k := 0) hgp; simp only [Nat.add_zero] at hc6; have hr0l := U7.out r0 (List.mem_of_getElem? hr0); have HS6 := Lib.hid hs6; have hn6b : n6 ≤ 1024 := (by rw [hn6']; exact U6.out); have hz6 := hb6.size; have hn60 : ((n6 : Int) == 0) = false := beq_not (by omega); clear hs6 hown6 hn6 hn6' hr0) | (at_builtin; refine wpList_append_strs rfl (.tmp 84) (.tmp 85) _ rfl w4.heap.size 9 i0 _ Try.underlying22 HI.out HZ0.out HZ1.out HZ2.out rfl _ xs rfl (hown.below hb6) g b6 off6 n6 c6 rfl HS6.out (by omega) (by omega) ?_; intro v7 w7 hown7 hb7 _ _))
            go_roundw
            case rel =>
              refine ⟨j + 1, xs ++ g, s.length, by omega, by go_num, rfl, ?_, hown7, (below_then_ hbw hb6).trans hb7, by rw [List.length_append]; have := U6.out; omega, fun h => absurd h (by omega), ?_, by omega, by omega, fun _ => by omega⟩
              · show _ = _
                rw [List.take_add_one, HG.out, hx.out]
                simp
              · intro g' _ hg'
                rw [Nat.add_sub_cancel, HG.out] at hg'
                cases hg'
                rw [HB.out]
            case measure => simp [intOf]; omega
          · have hq4 := hq3 (by omega)
            have HQJ : Hid (q = ((block (gs.getD (j - 1) [])).length : Int)) := by
              show _ = _
              have hjl : j - 1 < gs.length := by rw [← HN4.out]; omega
              refine hqj.out _ (by omega) ?_
              rw [List.getElem?_eq_getElem hjl]
              simp [List.getD, hjl]
            have HP : Hid (∀ r0, g.head? = some r0 → (k : Int) < q + 4 + (r0.length : Int)) := by
              intro r0 hr0
              have hjl : j - 1 < gs.length := by rw [← HN4.out]; omega
              have h1 := P6.out (j - 1) (gs.getD (j - 1) []) g r0 (by rw [List.getElem?_eq_getElem hjl]; simp [List.getD, hjl]) (by rw [show j - 1 + 1 = j from by omega]; exact HG.out) hr0
              rw [HQJ.out]
              omega
            clear hq0 hq3 hqj
            go_wp2_with (first | (go_at_call 21; refine (unpack21 _ _ s _ (by omega)).mono ?_; rintro e w6 ⟨v6, rfl, hown6, hb6⟩; rw [U1.out]; rw [U2.out] at hown6; obtain ⟨A6, n6, c6, rfl, hs6, hm6, hn6⟩ := hown6.strs; have hn6' : n6 = g.length := hn6; have hgp : 0 < n6 := (by rw [hn6']; exact U5.out); obtain ⟨b6, off6, r0, rfl, hr0, hc6⟩ := hs6.at_ (k := 0) hgp; simp only [Nat.add_zero] at hc6; have hr0l := U7.out r0 (List.mem_of_getElem? hr0); have HS6 := Lib.hid hs6; have hn6b : n6 ≤ 1024 := (by rw [hn6']; exact U6.out); have hqr := HP.out r0 (by rw [← hr0]; exact List.head?_eq_getElem?); have hz6 := hb6.size; have hn60 : ((n6 : Int) == 0) = false := beq_not (by omega); clear hs6 hown6 hn6 hn6' hr0) | (at_builtin; refine wpList_append_strs rfl (.tmp 84) (.tmp 85) _ rfl w4.heap.size 9 i0 _ Try.underlying22 HI.out HZ0.out HZ1.out HZ2.out rfl _ xs rfl (hown.below hb6) g b6 off6 n6 c6 rfl HS6.out (by omega) (by omega) ?_; intro v7 w7 hown7 hb7 _ _))
            go_roundw
            case rel =>
              refine ⟨j + 1, xs ++ g, s.length, by omega, by go_num, rfl, ?_, hown7, (below_then_ hbw hb6).trans hb7, by rw [List.length_append]; have := U6.out; omega, fun h => absurd h (by omega), ?_, by omega, by omega, fun _ => by omega⟩
              · show _ = _
                rw [List.take_add_one, HG.out, hx.out]
                simp
              · intro g' _ hg'
                rw [Nat.add_sub_cancel, HG.out] at hg'
                cases hg'
                rw [HB.out]
            case measure => simp [intOf]; omega
        · have hjn : j = n4 := by omega
          subst hjn
          have hx2 : xs = fairL (l : Int) rs := by rw [hx.out, List.take_of_length_le (by rw [← HN4.out]; omega), P3.out]
          have HX2 := Lib.hid hx2
          clear hx2
          obtain ⟨A5, n5, c5, rfl, hs5, hm5, -⟩ := hown.strs
          have HS5 := Lib.hid hs5
          clear hs5
          go_wp2_with (go_at_call 16; refine (same16 _ _ _ _ _ _ _ _ _ HS5.out (HS3'.out.below hbw) hm5 hm3).mono ?_; rintro e w6 ⟨rfl, hb6⟩; rw [HX2.out, sameB_refl])
          go_ret
          exact ⟨rfl, below_then (hb04.trans (hbw.mono hz4)) hb6⟩

end Go.Proofs.Ytogfdodnfeggfaa
