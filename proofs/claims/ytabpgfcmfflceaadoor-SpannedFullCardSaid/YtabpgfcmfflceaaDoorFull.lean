/- The walk of SpannedFull: it returns true. -/
import Derived.Test.YtabpgfcmfflceaaDoorReturns
import Derived.Test.YtabpgfcmfflceaaDoorAppend
namespace Go.Proofs.YtabpgfcmfflceaaDoor
open Go.RowKit P12 Go.Sort
attribute [local go_sem] ByteArray.mk_append_mk ByteArray.extract_mk mk_index

def fullL (L : Int) (ss : List Bs) : List Bs := (fairL L ss).filter fun s => !s.isEmpty
theorem full_take {ts : List Bs} {k : Nat} {s : Bs} (h : ts[k]? = some s) : (ts.take (k + 1)).filter (fun s => !s.isEmpty) = if s = [] then (ts.take k).filter (fun s => !s.isEmpty) else (ts.take k).filter (fun s => !s.isEmpty) ++ [s] := by
  rw [take_snoc h, List.filter_append]
  by_cases hl : s = [] <;> simp [hl]
theorem full_le {L : Int} {ss : List Bs} {r : Bs} (h : r ∈ fullL L ss) : (r.length : Int) ≤ L := fair_le (List.mem_filter.1 h).1
theorem full_total {L : Int} {ss : List Bs} (h : fewB ss 20 300 = true) : total (fullL L ss) ≤ 6020 := by
  obtain ⟨h1, h2⟩ := few_yes h
  have := total_le (rs := fullL L ss) (M := 300) (fun r hr => by have := h2 r (fair_mem (List.mem_filter.1 hr).1); omega)
  have hl : (fullL L ss).length ≤ (fairL L ss).length := List.length_filter_le _ _
  have hl2 : (fairL L ss).length ≤ ss.length := List.length_filter_le _ _
  have : 301 * (fullL L ss).length ≤ 301 * 20 := Nat.mul_le_mul_left _ (by omega)
  omega

theorem full_mid {L K : Nat} {gs : List (List Seg)} {rs : List Bs} (h : Inv L K gs rs) {i : Nat} {g : List Seg} (hg : gs[i]? = some g) {n : Nat} (hn : gs.length = n) (hi : i < n - 1) : K ≤ size g + 4 := by
  apply h.full g
  rw [List.mem_iff_getElem?]
  refine ⟨i, ?_⟩
  rw [List.getElem?_dropLast, if_pos (by omega)]
  exact hg
theorem full_last {L K : Nat} {gs : List (List Seg)} {rs : List Bs} (h : Inv L K gs rs) {i : Nat} {g : List Seg} (hg : gs[i]? = some g) {n : Nat} (hn : gs.length = n) {y : Seg} (hy : g.getLast? = some y) (ha : y.a = true) : size g = K ∧ i < n - 1 := by
  refine ⟨(h.group g (List.mem_of_getElem? hg)).last y hy ha, ?_⟩
  have hi : i < gs.length := (List.getElem?_eq_some_iff.1 hg).1
  by_cases e : i < n - 1
  · exact e
  · have hl : gs.getLast? = some g := by rw [List.getLast?_eq_getElem?, show gs.length - 1 = i by omega]; exact hg
    have := h.last g hl y hy
    rw [ha] at this
    cases this

theorem len_size (g : List Seg) : g.length ≤ size g := by
  unfold size
  suffices h : g.length ≤ (fm g).length by omega
  induction g with
  | nil => simp
  | cons x g ih =>
    have : fm (x :: g) = form x ++ fm g := rfl
    rw [this, List.length_append]
    simp [form]
    omega
def Sep (v u : Value) : Prop := v.ownBlock = none ∨ v.ownBlock ≠ u.ownBlock
theorem Sep.step {w : World} {B : Nat} {e : TypeId} {v u u' : Value} {ss : List Bs} {m : Nat} (h : Sep v u) (ho : OwnS w B e v ss) (hm : w.heap.size ≤ m) (hu : u'.ownBlock = u.ownBlock ∨ u'.ownBlock = some m) : Sep v u' := by
  rcases h with h | h
  · exact .inl h
  · rcases hu with hu | hu
    · exact .inr (by rw [hu]; exact h)
    · cases hv : v.ownBlock with
      | none => exact .inl hv
      | some k =>
        have := (ho.lt k hv).2
        refine .inr ?_
        rw [hu, hv]
        intro e
        injection e with e
        omega
theorem OwnS.strs_ {w : World} {B n c : Nat} {A : Option Addr} {e : TypeId} {ss : List Bs} (h : OwnS w B e (.slice A n c) ss) : StrsAt w A n ss := by
  obtain ⟨A', n', c', he, h1, -⟩ := h.strs
  injection he with e1 e2 e3
  subst e1 e2
  exact h1
theorem Sep.start {w : World} {B : Nat} {e : TypeId} {v u : Value} {ss : List Bs} {m : Nat} (ho : OwnS w B e v ss) (hm : m < B) (hu : u.ownBlock = some m) : Sep v u := by
  cases hv : v.ownBlock with
  | none => exact .inl hv
  | some k =>
    have := (ho.lt k hv).1
    refine .inr ?_
    rw [hu, hv]
    intro e
    injection e with e
    omega

set_option maxRecDepth 100000 in
set_option maxHeartbeats 4000000 in
theorem full5 (L K : Int) (A : Option Addr) (n c : Nat) (ss : List Bs) (w : World) (C : Codes w) (h : StrsAt w A n ss) (hn : n ≤ maxLen) :
    Calls Tryd.prog 5 #[.int .i64 L, .int .i64 K, .slice A n c] w fun e w' => e = .returned (.bool true) ∧ Below w.heap.size w w' := by
  have H := Lib.hid h
  have HN := Lib.hid h.len
  clear h
  by_cases hf : fewB ss 20 300 = true
  · have HF := Lib.hid hf
    have hn20 : n ≤ 20 := by have := (few_yes hf).1; have := HN.out; omega
    have hft := full_total (L := L) hf
    have hfl : (fairL L ss).length ≤ 20 := by have := HN.out; have : (fairL L ss).length ≤ ss.length := List.length_filter_le _ _; omega
    clear hf
    by_cases hv : vok L K = true
    · have HV := Lib.hid hv
      obtain ⟨l, k, rfl, rfl, hl, hk⟩ := vok_nat hv
      have HG := Lib.hid (fair_facts hl hk (fun r hr => full_le hr) hft)
      obtain ⟨gs, hgs⟩ : ∃ gs, gs = packS k (fullL (l : Int) ss) := ⟨_, rfl⟩
      rw [← hgs] at HG
      have htt := HG.out.tot
      have hgl : gs.length ≤ 90000 := by have := length_total (gs.map block); simp at this; omega
      clear hv hgs
      obtain ⟨i0, hi0, hz0, hz1, hz2⟩ := info_parts info9
      have HI := Lib.hid hi0
      have HZ0 := Lib.hid hz0
      have HZ1 := Lib.hid hz1
      have HZ2 := Lib.hid hz2
      clear hi0 hz0 hz1 hz2
      go_enter Tryd.func5, Tryd.ntmps5
      go_wp2_with fail
      refine (awake11 _ C).mono ?_
      rintro e w1 ⟨rfl, hb1⟩
      have HB1 := Lib.hid (hb1)
      clear hb1
      go_wp2_with fail
      refine (few12 _ _ _ _ _ _ _ (H.out.below HB1.out) hn).mono ?_
      rintro e w2 ⟨rfl, hb2⟩
      rw [HF.out]
      have HB2 := Lib.hid (below_then HB1.out hb2)
      clear hb2
      go_wp2_with (first | (go_at_call 15; refine (valid15 _ _ _).mono ?_; rintro e w' ⟨rfl, rfl⟩; rw [HV.out]) | (go_at_call 22; fail))
      have hz2 := HB2.out.size
      refine (fair22 _ _ _ _ _ _ (H.out.below (HB2.out.alloc hz2 (.cells #[] 9) |> fun hb => hb)) (by omega)).mono ?_
      rintro e w3 ⟨v3, rfl, hown3, hb3⟩
      have hown3' := hown3
      obtain ⟨A3, n3, c3, rfl, hs3, hn3, h3l⟩ := hown3'.strs
      have HB3 := Lib.hid (below_then (HB2.out.alloc hz2 (.cells #[] 9)) hb3)
      have HS3 := Lib.hid hs3
      have HR3 := Lib.hid hown3
      have HO0 := Lib.hid ((OwnS.empty w2 w.heap.size 9 hz2).below hb3)
      have HN3 := Lib.hid h3l
      have hn3' : n3 ≤ 20 := by omega
      clear hown3' hown3 hb3 hs3 h3l
      go_wp2
      go_loopw [7, 35] (fun out i wr => ∃ (j : Nat) (xs : List Bs), j ≤ n3 ∧ i = .int .i64 j ∧ Hid (xs = ((fairL (l : Int) ss).take j).filter fun s => !s.isEmpty) ∧ OwnS wr w.heap.size 9 out xs ∧ (OwnS wr (w2.alloc (.cells #[] 9)).heap.size 9 (.slice A3 n3 c3) (fairL (l : Int) ss) ∧ Sep (.slice A3 n3 c3) out) ∧ Below w.heap.size w wr ∧ xs.length ≤ j) (fun _ i _ => n3 - (intOf i).toNat)
      case atStart => exact ⟨0, [], Nat.zero_le _, rfl, rfl, HO0.out, ⟨HR3.out, Sep.start HR3.out (by rw [World.size_alloc]; exact Nat.lt_succ_self _) rfl⟩, HB3.out, by simp⟩
      case round =>
        obtain ⟨j, xs, hj, rfl, hxs, hown, hbw3, hbw, hxl⟩ := hrel
        have hz := hbw.size
        by_cases hlt : j < n3
        · obtain ⟨b, off, s, rfl, hs, hc⟩ := hbw3.1.strs_.at_ hlt
          have HT := Lib.hid (full_take hs)
          clear hs
          by_cases hl0 : s = []
          · subst hl0
            go_wp2
            go_roundw
            case rel =>
              refine ⟨j + 1, xs, by omega, by go_num, ?_, hown, hbw3, hbw, by omega⟩
              show _ = _
              rw [HT.out, if_pos rfl, hxs.out]
            case measure => simp [intOf]; omega
          · have hse : (s == ([] : Bs)) = false := by simpa using hl0
            go_wp2_with (at_builtin; refine wpList_append_str rfl (.tmp 41) (.tmp 43) _ rfl w.heap.size 9 i0 _ Tryd.underlying22 HI.out HZ0.out HZ1.out HZ2.out rfl _ xs rfl (hown.alloc _) s ⟨wr.heap.size, 0, none⟩ 1 rfl (by simp) (by omega) (by simp; omega) ?_; intro v5 w5 hown5 hb5 hb5b hb5c)
            go_roundw
            case rel =>
              refine ⟨j + 1, xs ++ [s], by omega, by go_num, ?_, hown5, ?_, (hbw.alloc hz _).trans hb5, by simp; omega⟩
              · show _ = _
                rw [HT.out, if_neg hl0, hxs.out]
              · exact ⟨(hbw3.1.alloc _).kept hb5b hbw3.2, hbw3.2.step hbw3.1 (by rw [World.size_alloc]; omega) hb5c⟩
            case measure => simp [intOf]; omega
        · have hjn : j = n3 := by omega
          subst hjn
          have hx2 : xs = fullL (l : Int) ss := by rw [hxs.out, List.take_of_length_le (by have := HN3.out; omega)]; rfl
          subst hx2
          obtain ⟨A4, n4, c4, rfl, hs4, hn4, -⟩ := hown.strs
          have HB4 := Lib.hid hbw
          have HS4 := Lib.hid hs4
          clear hown hbw3 hbw hs4 hxs HO0 HR3
          go_wp2_with fail
          refine (pack13 _ _ _ _ _ _ _ (C.below HB4.out) HS4.out (by omega)).mono ?_
          rintro e w5 ⟨v5, rfl, hown5, hb5⟩
          rw [HG.out.perr]
          rw [HG.out.pout] at hown5
          obtain ⟨A5, n5, c5, rfl, hs5, hn5, h5l⟩ := hown5.strs
          have HB5 := Lib.hid (below_then HB4.out hb5)
          have HS5 := Lib.hid hs5
          have hn5' : n5 ≤ 90000 := by simp at h5l; omega
          have HL5 := Lib.hid (show gs.length = n5 from by simp at h5l; omega)
          clear hown5 hb5 hs5 h5l
          go_wp2
          go_loopw [57] (fun i wr => ∃ j : Nat, j ≤ n5 ∧ i = .int .i64 j ∧ Below w5.heap.size w5 wr) (fun i _ => n5 - (intOf i).toNat)
          case atStart => exact ⟨0, Nat.zero_le _, rfl, Below.refl _ _⟩
          case round =>
            obtain ⟨i, hi, rfl, hbw⟩ := hrel
            have hz := hbw.size
            have CW := Lib.hid ((C.below HB5.out).below hbw)
            by_cases hlt : i < n5
            · obtain ⟨b, off, s, rfl, hs, hc⟩ := (HS5.out.below hbw).at_ hlt
              rw [List.getElem?_map] at hs
              obtain ⟨g, hg, rfl⟩ := Option.map_eq_some_iff.1 hs
              have hgr := HG.out.inv.group g (List.mem_of_getElem? hg)
              obtain ⟨hsg, hbl⟩ := hgr.segs hl.2 hk.2
              have hsm := hgr.small
              have hgp : 0 < g.length := List.length_pos_iff.2 hgr.ne
              have hg0 : ((g.length : Int) == 0) = false := beq_not (by omega)
              have HE := Lib.hid (seg_some HV.out hsg)
              obtain ⟨y, hy⟩ : ∃ y, g.getLast? = some y := ⟨_, List.getLast?_eq_some_getLast hgr.ne⟩
              have HY := Lib.hid hy
              have HF1 := Lib.hid (full_mid HG.out.inv hg (by rw [HL5.out]))
              have HF2 := Lib.hid (full_last HG.out.inv hg (by rw [HL5.out]) hy)
              have hb1024 : (block g).length ≤ 100000 := by omega
              have hbk : (block g).length ≤ k := by omega
              rw [← hbl] at HF1 HF2
              have hc_ := hc
              have hgl2 : g.length ≤ 9000000 := by have := len_size g; omega
              have hw1 : IntKind.i64.wrap ((g.length : Int) - 1) = (g.length : Int) - 1 := IntWalk.i64_in _ (by omega)
              have hw2 : IntKind.i64.wrap ((n5 : Int) - 1) = (n5 : Int) - 1 := IntWalk.i64_in _ (by omega)
              have hx1 : (1 : Int) ≤ (g.length : Int) := by omega
              have hx2 : (g.length : Int) - 1 < (g.length : Int) := by omega
              have hx3 : ((g.length : Int) - 1).toNat = g.length - 1 := by omega
              by_cases hmid : i < n5 - 1
              · have hmI : (i : Int) < (n5 : Int) - 1 := by omega
                have hK4 : ¬ (((block g).length : Int) < (k : Int) - 4) := by have := HF1.out hmid; omega
                have hmd : decide ((i : Int) < (n5 : Int) - 1) = true := decide_eq_true hmI
                by_cases hya : y.a = true
                · have HA := Lib.hid hya
                  have hlk : (block g).length = k := (HF2.out hya).1
                  have hlkb : (((block g).length : Int) == (k : Int)) = true := by rw [hlk]; exact beq_self_eq_true _
                  have hlkn : (((block g).length : Int) != (k : Int)) = false := by rw [bne, hlkb]; rfl
                  clear hlk
                  clear hs hg hsg hbl hsm hgr hy hc_
                  go_wp2_with (go_at_call 18; refine (segs18 _ _ _ _ CW.out hb1024).mono ?_; rintro e w7 ⟨v7, rfl, hown7, hb7⟩; rw [HE.out.1]; rw [HE.out.2] at hown7; obtain ⟨g7, c7, rfl, hp7, hm7, hc7⟩ := last_row hown7 HY.out; rw [HA.out] at hc7; unfold maxLen at hm7; have HB7 := Lib.hid (hbw.trans (hb7.mono hz)); clear hown7 hb7)
                  go_quiet (fail)
                  go_wp2
                  go_roundw
                  case rel => exact ⟨i + 1, by omega, by go_num, below_drewN HB7.out _⟩
                  case measure => simp [intOf]; omega
                · have hyf : y.a = false := by simpa using hya
                  have HA := Lib.hid hyf
                  by_cases hlk : (block g).length = k
                  · have hlkb : (((block g).length : Int) == (k : Int)) = true := by rw [hlk]; exact beq_self_eq_true _
                    have hlkn : (((block g).length : Int) != (k : Int)) = false := by rw [bne, hlkb]; rfl
                    clear hlk
                    clear hs hg hsg hbl hsm hgr hy hc_
                    go_wp2_with (go_at_call 18; refine (segs18 _ _ _ _ CW.out hb1024).mono ?_; rintro e w7 ⟨v7, rfl, hown7, hb7⟩; rw [HE.out.1]; rw [HE.out.2] at hown7; obtain ⟨g7, c7, rfl, hp7, hm7, hc7⟩ := last_row hown7 HY.out; rw [HA.out] at hc7; unfold maxLen at hm7; have HB7 := Lib.hid (hbw.trans (hb7.mono hz)); clear hown7 hb7)
                    go_quiet (fail)
                    go_wp2
                    go_roundw
                    case rel => exact ⟨i + 1, by omega, by go_num, below_drewN HB7.out _⟩
                    case measure => simp [intOf]; omega
                  · have hlkb : (((block g).length : Int) == (k : Int)) = false := beq_not (by omega)
                    have hlkn : (((block g).length : Int) != (k : Int)) = true := by rw [bne, hlkb]; rfl
                    clear hlk
                    clear hs hg hsg hbl hsm hgr hy hc_
                    go_wp2_with (go_at_call 18; refine (segs18 _ _ _ _ CW.out hb1024).mono ?_; rintro e w7 ⟨v7, rfl, hown7, hb7⟩; rw [HE.out.1]; rw [HE.out.2] at hown7; obtain ⟨g7, c7, rfl, hp7, hm7, hc7⟩ := last_row hown7 HY.out; rw [HA.out] at hc7; unfold maxLen at hm7; have HB7 := Lib.hid (hbw.trans (hb7.mono hz)); clear hown7 hb7)
                    go_quiet (fail)
                    go_wp2
                    go_roundw
                    case rel => exact ⟨i + 1, by omega, by go_num, below_drewN HB7.out _⟩
                    case measure => simp [intOf]; omega
              · have hmI : ¬ (i : Int) < (n5 : Int) - 1 := by omega
                have hmd : decide ((i : Int) < (n5 : Int) - 1) = false := decide_eq_false hmI
                have hyf : y.a = false := by
                  cases hya : y.a with
                  | false => rfl
                  | true => exact absurd (HF2.out hya).2 hmid
                have HA := Lib.hid hyf
                clear hs hg hsg hbl hsm hgr hy hc_
                go_wp2_with (go_at_call 18; refine (segs18 _ _ _ _ CW.out hb1024).mono ?_; rintro e w7 ⟨v7, rfl, hown7, hb7⟩; rw [HE.out.1]; rw [HE.out.2] at hown7; obtain ⟨g7, c7, rfl, hp7, hm7, hc7⟩ := last_row hown7 HY.out; rw [HA.out] at hc7; unfold maxLen at hm7; have HB7 := Lib.hid (hbw.trans (hb7.mono hz)); clear hown7 hb7)
                go_quiet (fail)
                go_wp2
                go_roundw
                case rel => exact ⟨i + 1, by omega, by go_num, below_drewN HB7.out _⟩
                case measure => simp [intOf]; omega
            · have hin : i = n5 := by omega
              subst hin
              go_wp2
              go_ret
              exact ⟨rfl, below_then_ HB5.out hbw⟩
    · have hv' : vok L K = false := by simpa using hv
      have HV := Lib.hid hv'
      clear hv hv'
      go_enter Tryd.func5, Tryd.ntmps5
      go_wp2_with fail
      refine (awake11 _ C).mono ?_
      rintro e w1 ⟨rfl, hb1⟩
      have HB1 := Lib.hid (hb1)
      clear hb1
      go_wp2_with fail
      refine (few12 _ _ _ _ _ _ _ (H.out.below HB1.out) hn).mono ?_
      rintro e w2 ⟨rfl, hb2⟩
      rw [HF.out]
      have HB2 := Lib.hid (below_then HB1.out hb2)
      clear hb2
      go_wp2_with (first | (go_at_call 15; refine (valid15 _ _ _).mono ?_; rintro e w' ⟨rfl, rfl⟩; rw [HV.out]) | (go_at_call 11; fail))
      refine (awake11 _ (C.below HB2.out)).mono ?_
      rintro e w3 ⟨rfl, hb3⟩
      have HB3 := Lib.hid (below_then HB2.out hb3)
      go_wp2_with fail
      go_ret
      exact ⟨rfl, HB3.out⟩
  · have hf' : fewB ss 20 300 = false := by simpa using hf
    have HF := Lib.hid hf'
    clear hf hf'
    go_enter Tryd.func5, Tryd.ntmps5
    go_wp2_with fail
    refine (awake11 _ C).mono ?_
    rintro e w1 ⟨rfl, hb1⟩
    have HB1 := Lib.hid (hb1)
    clear hb1
    go_wp2_with fail
    refine (few12 _ _ _ _ _ _ _ (H.out.below HB1.out) hn).mono ?_
    rintro e w2 ⟨rfl, hb2⟩
    rw [HF.out]
    have HB2 := Lib.hid (below_then HB1.out hb2)
    clear hb2
    go_wp2_with fail
    refine (awake11 _ (C.below HB2.out)).mono ?_
    rintro e w3 ⟨rfl, hb3⟩
    have HB3 := Lib.hid (below_then HB2.out hb3)
    clear hb3
    go_wp2_with fail
    go_ret
    exact ⟨rfl, HB3.out⟩
end Go.Proofs.YtabpgfcmfflceaaDoor
