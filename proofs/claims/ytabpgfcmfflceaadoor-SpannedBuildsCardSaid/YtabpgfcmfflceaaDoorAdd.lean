/- The walk of add: the changed block and the new ones, as 'addP' says. -/
import Derived.Test.YtabpgfcmfflceaaDoorParts
import Derived.Deep.LoopGhost
import Derived.Deep.DeepCutAuto
namespace Go.Proofs.YtabpgfcmfflceaaDoor
open Go.RowKit P12 Go.Sort
attribute [local go_sem] ByteArray.mk_append_mk ByteArray.extract_mk mk_index

theorem info9 : (Tryd.prog.info? 9).map (fun i => (i.zero, i.size, i.bytes)) = some (some (.string ⟨#[]⟩), 1, 16) := by kernel_rfl
theorem whole_form (x : Seg) : whole (form x) = block [x] := by simp [block, fm]

/-- What add leaves. -/
def Added (K : Nat) (last r : Bs) (w : World) (e : Ending) (w' : World) : Prop :=
  ∃ v, e = .returned (.tuple #[.string ⟨(addP K last r).1.toArray⟩, v]) ∧ OwnS w' w.heap.size 9 v (addP K last r).2 ∧ Below w.heap.size w w'

/-- What is still to come: nothing, or the blocks of what is left. -/
def toCome (K : Nat) (d b : Bool) (r : Bs) : List Bs := if d then [] else tl K b r

/-- Whether a part of the record goes into the last block. -/
def tb (K : Nat) (last r : Bs) : Bool := decide (last ≠ []) && (decide (last.length + 4 + r.length ≤ K) || decide (last.length + 4 < K))

theorem tb_room {K : Nat} {last r : Bs} (h : tb K last r = true) : last ≠ [] ∧ (last.length + 4 + r.length ≤ K ∨ last.length + 4 < K) := by
  unfold tb at h
  simpa using h
theorem addP_no {K : Nat} {last r : Bs} (h : tb K last r = false) : addP K last r = ([], toCome K false false r) := by
  unfold addP
  by_cases h0 : last = []
  · rw [if_pos h0]; rfl
  · unfold tb at h
    simp only [ne_eq, h0, not_false_eq_true, decide_true, Bool.true_and, Bool.or_eq_false_iff, decide_eq_false_iff_not] at h
    rw [if_neg h0, if_neg h.1, if_neg h.2]
    rfl
theorem addP_yes {K n : Nat} {last r : Bs} (h : tb K last r = true) (hn : n = K - (last.length + 4)) :
    addP K last r = (whole (last.drop 4 ++ form ⟨false, decide (n < r.length), r.take n⟩), toCome K (decide (r.length ≤ n)) true (r.drop n)) := by
  obtain ⟨h0, h1⟩ := tb_room h
  unfold addP
  rw [if_neg h0]
  by_cases h2 : last.length + 4 + r.length ≤ K
  · rw [if_pos h2, decide_eq_false (by omega), decide_eq_true (by omega), List.take_of_length_le (by omega)]
    rfl
  · rw [if_neg h2, if_pos (by omega), decide_eq_true (by omega), decide_eq_false (by omega), hn]
    rfl

theorem load_regrown {w : World} {g : Nat} {t : TypeId} {cs : Array Value} (M : Blk w g t cs) (w' : World) (hw : ∃ p : Regrown, w' = grow (redrawn w p.d) p.os) : w'.heap[g]? = some (.cells cs t (0, 0)) := by
  obtain ⟨p, rfl⟩ := hw
  exact M.below (below_regrown w p.d p.os)

theorem next41E (m : Int) (n : Nat) (g : Nat) (r : Bs) (b : Bool) (w : World) (hm : m = n) (h : NextSt w g r b false) (hn : n ≤ 100000) :
    Calls Tryd.prog 41 #[.int .i64 m, .pointer (some ⟨g + 2, 0, none⟩), .pointer (some ⟨g, 0, none⟩), .pointer (some ⟨g + 1, 0, none⟩)] w (N41 n g r b w) := by
  rw [hm]
  exact next41 n g r b w h hn
theorem next41K (K : Nat) (g : Nat) (r : Bs) (b : Bool) (w : World) (h : NextSt w g r b false) (hK : 9 ≤ K ∧ K ≤ 1024) :
    Calls Tryd.prog 41 #[.int .i64 ((K : Int) - 8), .pointer (some ⟨g + 2, 0, none⟩), .pointer (some ⟨g, 0, none⟩), .pointer (some ⟨g + 1, 0, none⟩)] w (N41 (K - 8) g r b w) := by
  rw [show (K : Int) - 8 = ((K - 8 : Nat) : Int) from by omega]
  exact next41 (K - 8) g r b w h (by omega)
theorem toCome_step {K : Nat} (hK : 9 ≤ K) (b : Bool) (r : Bs) : toCome K false b r = whole (form ⟨b, decide (K - 8 < r.length), r.take (K - 8)⟩) :: toCome K (decide (r.length ≤ K - 8)) true (r.drop (K - 8)) := by
  rw [whole_form]
  show tl K b r = _
  unfold tl
  by_cases h : r.length ≤ K - 8
  · rw [parts_one h, decide_eq_false (by omega), decide_eq_true h, List.take_of_length_le h]
    rfl
  · rw [parts_more hK (by omega), decide_eq_true (by omega), decide_eq_false h]
    rfl
theorem OwnS.base {w : World} {B B' : Nat} {e : TypeId} {v : Value} {ss : List Bs} (h : OwnS w B e v ss) (hB : B' ≤ B) : OwnS w B' e v ss := by
  refine ⟨h.1, ?_⟩
  rcases h.2 with h1 | ⟨g, cap, cur, a1, a2, a3⟩
  · exact .inl h1
  · exact .inr ⟨g, cap, cur, a1, by omega, a3⟩

/-- What holds when the last block has had its part. -/
def Begun (K : Nat) (last r : Bs) (w : World) (v : Value) (wx : World) : Prop :=
  ∃ (ch rest : Bs) (b d : Bool), v = .string ⟨ch.toArray⟩ ∧ NextSt wx w.heap.size rest b d ∧ addP K last r = (ch, toCome K d b rest) ∧ Below w.heap.size w wx ∧ rest.length ≤ r.length

set_option maxRecDepth 100000 in
set_option maxHeartbeats 2000000 in
theorem add31 (K : Nat) (last r : Bs) (w : World) (C : Codes w) (hK : 9 ≤ K ∧ K ≤ 1024) (hl : last = [] ∨ 4 ≤ last.length) (hl2 : last.length ≤ 30000) (hr : r.length ≤ 30000) :
    Calls Tryd.prog 31 #[.int .i64 K, .string ⟨last.toArray⟩, .string ⟨r.toArray⟩] w (Added K last r w) := by
  obtain ⟨i0, hi0, hz0, hz1, hz2⟩ := info_parts info9
  have HI := Lib.hid hi0
  have HZ0 := Lib.hid hz0
  have HZ1 := Lib.hid hz1
  have HZ2 := Lib.hid hz2
  clear hi0 hz0 hz1 hz2
  go_enter Tryd.func31, Tryd.ntmps31
  go_upto_region 3 with (go_at_call 37; refine (parts37 _ _).mono ?_; rintro e w1 ⟨rfl, hst, hb1⟩)
  have HST := Lib.hid hst
  have HB1 := Lib.hid hb1
  clear hst hb1
  unfold nextFn
  go_upto_region 4 with fail
  go_cut [34] (fun s34 wx => s34 = .bool (tb K last r) ∧ wx = w1)
  case first =>
    by_cases h0 : last = []
    · have HT := Lib.hid (show tb K last r = false from by unfold tb; rw [h0]; rfl)
      have he : last.isEmpty = true := by simpa using h0
      clear h0
      go_wp2
      all_goals (go_meet; case rel => exact ⟨by rw [HT.out], rfl⟩)
    · have he : last.isEmpty = false := by simpa using h0
      have HT := Lib.hid (show tb K last r = (decide (last.length + 4 + r.length ≤ K) || decide (last.length + 4 < K)) from by unfold tb; rw [decide_eq_true h0]; rfl)
      clear h0
      by_cases h1 : last.length + 4 + r.length ≤ K
      · have HT2 := Lib.hid (show tb K last r = true from by rw [HT.out, decide_eq_true h1]; rfl)
        go_wp2
        all_goals (go_meet; case rel => exact ⟨by rw [HT2.out], rfl⟩)
      · by_cases h2 : last.length + 4 < K
        · have HT2 := Lib.hid (show tb K last r = true from by rw [HT.out, decide_eq_true h2]; simp)
          go_wp2
          all_goals (go_meet; case rel => exact ⟨by rw [HT2.out]; simp; omega, rfl⟩)
        · have HT2 := Lib.hid (show tb K last r = false from by rw [HT.out, decide_eq_false h1, decide_eq_false h2]; rfl)
          go_wp2
          all_goals (go_meet; case rel => exact ⟨by rw [HT2.out]; simp; omega, rfl⟩)
  case rest =>
    obtain ⟨rfl, rfl⟩ := hcut
    go_upto_if 34 with fail
    go_cut [9] (fun s9 wx => Begun K last r w s9 wx)
    case first =>
      by_cases ht : tb K last r = false
      · have HA := Lib.hid (addP_no ht)
        rw [ht]
        clear ht
        go_wp2
        all_goals (go_meet; case rel => exact ⟨[], r, false, false, rfl, HST.out, HA.out, HB1.out, Nat.le_refl _⟩)
      · have ht' : tb K last r = true := by simpa using ht
        clear ht
        have hroom := tb_room ht'
        obtain ⟨n, hn⟩ : ∃ n : Nat, (K : Int) - last.length - 4 = n := ⟨K - last.length - 4, by omega⟩
        have HN := Lib.hid hn
        have h4 : 4 ≤ last.length := by rcases hl with rfl | h; exact absurd hroom.1 (by simp); exact h
        have HA := Lib.hid (addP_yes (n := n) ht' (by omega))
        have hn1 : n ≤ 1024 := by omega
        rw [ht']
        clear hn hroom hl ht'
        go_upto_region 6 with (go_at_call 41; refine (next41E _ n _ _ _ _ HN.out HST.out (by omega)).mono ?_; rintro e w2 ⟨rfl, hN⟩)
        have hz := hN.below.size
        have hb2 := Lib.hid (HB1.out.trans (hN.below.mono (Nat.le_refl _)))
        have HN2 := Lib.hid hN
        clear hN
        have MR := Lib.hid (load_regrown (Blk.new w2 43 #[.bool false, .bool (decide (n < r.length)), .string ⟨(r.take n).toArray⟩]))
        have hlen : (r.take n).length ≤ 60000 := by simp; omega
        have h4I : (4 : Int) ≤ (last.length : Int) := by omega
        have hfl := length_form ⟨false, decide (n < r.length), r.take n⟩
        have hq : ¬ 9223372036854775807 < last.length - 4 + (form ⟨false, decide (n < r.length), r.take n⟩).length := by rw [hfl]; dsimp only; omega
        clear hfl
        refine wp_region_quiet_below (by kernel_rfl) (by kernel_rfl) ?_
        repeat (first | (refine wpQuiet_load_row rfl 43 (.tmp 11) rfl _ rfl 43 _ (0, 0) _ MR.out Tryd.underlying43 rfl (by kernel_rfl) ?_) | quiet_step ((first | (go_at_call 39; refine Calls.regrown_of (form39 _ _ _ hlen _ (Codes.below (Codes.below C (hb2.out.alloc hb2.out.size _)) (below_regrown _ _ _)))) | (go_at_call 38; refine Calls.regrown_of (whole38 _ (by simp [length_form]; omega) _)))))
        refine wpQuiet_nil ?_
        intro w7 hw7
        obtain ⟨p, rfl⟩ := hw7
        have hb7 := below_regrown (w2.alloc (.cells #[.bool false, .bool (decide (n < r.length)), .string ⟨(r.take n).toArray⟩] 43)) p.d p.os
        generalize grow (redrawn (w2.alloc (.cells #[.bool false, .bool (decide (n < r.length)), .string ⟨(r.take n).toArray⟩] 43)) p.d) p.os = w7 at *
        have HX := Lib.hid (show whole (last.drop 4 ++ form ⟨false, decide (n < r.length), r.take n⟩) = whole (List.take (last.length - 4) (List.drop 4 last) ++ form ⟨false, decide (n < r.length), r.take n⟩) from by rw [List.take_of_length_le (l := List.drop 4 last) (i := last.length - 4) (by simp)])
        clear hq h4I hlen
        go_wp2
        go_meet
        case rel => exact ⟨_, r.drop n, true, decide (r.length ≤ n), rfl, (HN2.out.st.below (below_alloc (Below.refl _ _) _)).below hb7, by rw [← HX.out]; exact HA.out, below_then_ (hb2.out.alloc hb2.out.size _) hb7, by simp⟩
    case rest =>
      obtain ⟨ch, rest, b, d, rfl, hst, hadd, hbw, hlen⟩ := hcut
      have HADD := Lib.hid hadd
      clear hadd HST HB1 hl hl2
      go_wp2
      go_loopg [13] (if d then 0 else rest.length + 1) (fun k s13 wr => ∃ (xs : List Bs) (rest : Bs) (b d : Bool), k = (if d then 0 else rest.length + 1) ∧ Hid ((addP K last r).2 = xs ++ toCome K d b rest) ∧ NextSt wr w.heap.size rest b d ∧ OwnS wr (w.heap.size + 3) 9 s13 xs ∧ Below w.heap.size w wr ∧ xs.length + k ≤ 30001 ∧ rest.length ≤ 30000)
      case atStart => exact ⟨[], rest, b, d, rfl, by rw [HADD.out]; rfl, hst, OwnS.nil _ _ _, hbw, by cases d <;> simp <;> omega, by omega⟩
      case round =>
        clear hst hbw hlen
        obtain ⟨xs, rest, b, d, hk, htot, hst, hown, hbw, hlen, hrl⟩ := hrel
        have HK := Lib.hid hk
        have HST := Lib.hid hst
        have HOWN := Lib.hid hown
        have HBW := Lib.hid hbw
        clear hk hst hown hbw
        cases d
        case true =>
          go_wp2_with (go_at_call 41; refine (next41_done _ _ _ _ _ HST.out).mono ?_; rintro e w2 ⟨rfl, hN⟩)
          go_ret2
          have h2 : (addP K last r).2 = xs := by rw [htot.out]; exact List.append_nil _
          exact ⟨_, ret2 (strEq (by rw [HADD.out])) rfl, by rw [h2]; exact ((hN.rows _ _ _ _ (Nat.le_refl _) HOWN.out).alloc _).base (by omega), (HBW.out.trans hN.below).alloc (HBW.out.trans hN.below).size _⟩
        case false =>
          have hfl := length_form ⟨b, decide (K - 8 < rest.length), rest.take (K - 8)⟩
          have hfl2 : (form ⟨b, decide (K - 8 < rest.length), rest.take (K - 8)⟩).length ≤ 100000 := by rw [hfl]; simp; omega
          have hxl : xs.length ≤ 30001 := by omega
          clear hfl
          go_wp2_with (first | (go_at_call 41; refine (next41K _ _ _ _ _ HST.out ⟨by omega, by omega⟩).mono ?_; rintro e w2 ⟨rfl, hN⟩; have hb2 := HBW.out.trans hN.below; have hz2 := hb2.size; have CW := Lib.hid (Codes.below C (hb2.alloc hz2 (.cells #[.bool b, .bool (decide (K - 8 < rest.length)), .string ⟨(rest.take (K - 8)).toArray⟩] 43))); have HO2 := Lib.hid ((hN.rows _ _ _ _ (Nat.le_refl _) HOWN.out).alloc (.cells #[.bool b, .bool (decide (K - 8 < rest.length)), .string ⟨(rest.take (K - 8)).toArray⟩] 43)); have HS2 := Lib.hid (hN.st.below (below_alloc (Below.refl _ _) (.cells #[.bool b, .bool (decide (K - 8 < rest.length)), .string ⟨(rest.take (K - 8)).toArray⟩] 43))); have HB2 := Lib.hid (hb2.alloc hz2 (.cells #[.bool b, .bool (decide (K - 8 < rest.length)), .string ⟨(rest.take (K - 8)).toArray⟩] 43)); clear hN hb2) | (go_at_call 39; refine (form39 _ _ _ (by simp; omega) _ CW.out).mono ?_; rintro e w3 ⟨rfl, hb3⟩) | (go_at_call 38; refine (whole38 _ hfl2 _).mono ?_; rintro e w4 ⟨rfl, hb4⟩; have hz3 := hb3.size; have hz4 := hb4.size; simp only [World.size_alloc] at hz3; have hg4 := HS2.out.done.lt; simp only [World.size_alloc] at hg4; have HO4 := Lib.hid (((HO2.out.below hb3).below hb4).alloc (.cells #[.string ⟨(whole (form ⟨b, decide (K - 8 < rest.length), rest.take (K - 8)⟩)).toArray⟩] 9)); have HS4 := Lib.hid (((HS2.out.below hb3).below hb4).below (below_alloc (Below.refl _ _) (.cells #[.string ⟨(whole (form ⟨b, decide (K - 8 < rest.length), rest.take (K - 8)⟩)).toArray⟩] 9))); have HB4 := Lib.hid (below_then_ (below_then_ (below_then_ HB2.out hb3) hb4) (below_alloc (Below.refl _ _) (.cells #[.string ⟨(whole (form ⟨b, decide (K - 8 < rest.length), rest.take (K - 8)⟩)).toArray⟩] 9))); clear hb3 hb4) | (at_builtin; refine wpList_append_str rfl (.tmp 58) (.tmp 62) _ rfl (w.heap.size + 3) 9 i0 _ Tryd.underlying22 HI.out HZ0.out HZ1.out HZ2.out rfl u13 xs rfl HO4.out (whole (form ⟨b, decide (K - 8 < rest.length), rest.take (K - 8)⟩)) ⟨w4.heap.size, 0, none⟩ 1 rfl (by simp) (by omega) (by simp; omega) ?_; intro v5 w5 hown5 hb5 hg5 _))
          have hk : gk = rest.length + 1 := HK.out
          go_roundg (if decide (rest.length ≤ K - 8) then 0 else (rest.drop (K - 8)).length + 1)
          case rel =>
            refine ⟨_, _, _, _, rfl, ?_, HS4.out.kept hg5 (fun k hk => (HO4.out.lt k hk).1), hown5, HB4.out.trans (hb5.mono (by omega)), ?_, by simp; omega⟩
            · show _ = _
              rw [htot.out, toCome_step hK.1, List.append_assoc]
              rfl
            · by_cases hf : rest.length ≤ K - 8 <;> simp [hf] <;> omega
          case measure => by_cases hf : rest.length ≤ K - 8 <;> simp [hf] <;> omega
end Go.Proofs.YtabpgfcmfflceaaDoor
