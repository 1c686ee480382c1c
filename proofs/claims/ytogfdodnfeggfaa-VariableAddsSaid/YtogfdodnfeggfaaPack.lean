/- The walk of variable.Pack: it returns the blocks of the records as 'packA' packs them, or an error. -/
import Derived.Test.YtogfdodnfeggfaaLoops
namespace Go.Proofs.Ytogfdodnfeggfaa
open Go.RowKit P11
attribute [local go_sem] ByteArray.mk_append_mk ByteArray.extract_mk mk_index

theorem info9 : (Try.prog.info? 9).map (fun i => (i.zero, i.size, i.bytes)) = some (some (.string ⟨#[]⟩), 1, 16) := by kernel_rfl

theorem take_snoc {rs : List Bs} {k : Nat} {r : Bs} (h : rs[k]? = some r) : rs.take (k + 1) = rs.take k ++ [r] := by
  rw [List.take_add_one, h]
  rfl

/-- The state of the packing behind k records. -/
def stA (K : Nat) (rs : List Bs) (k : Nat) : List Bs × Bs := (rs.take k).foldl (stepA K) ([], [])
theorem stA_zero (K : Nat) (rs : List Bs) : stA K rs 0 = ([], []) := rfl
theorem stA_succ {K : Nat} {rs : List Bs} {k : Nat} {r : Bs} (h : rs[k]? = some r) : stA K rs (k + 1) = stepA K (stA K rs k) r := by
  unfold stA
  rw [take_snoc h, List.foldl_append]
  rfl
theorem stA_all {K : Nat} {rs : List Bs} {n : Nat} (h : rs.length = n) : finA (stA K rs n) = packA K rs := by
  unfold stA packA
  rw [List.take_of_length_le (by omega)]
theorem stA_flush {K : Nat} {rs : List Bs} {k : Nat} {r f : Bs} {out : List Bs} (h : rs[k]? = some r) (hs : stA K rs k = (out, f)) (hf : f ≠ []) (hk : K < 4 + f.length + (form r).length) : stA K rs (k + 1) = (out ++ [whole f], form r) := by
  rw [stA_succ h, hs]
  unfold stepA
  rw [if_pos ⟨hf, hk⟩]
theorem stA_more {K : Nat} {rs : List Bs} {k : Nat} {r f : Bs} {out : List Bs} (h : rs[k]? = some r) (hs : stA K rs k = (out, f)) (hk : f = [] ∨ ¬ K < 4 + f.length + (form r).length) : stA K rs (k + 1) = (out, f ++ form r) := by
  rw [stA_succ h, hs]
  unfold stepA
  rw [if_neg (fun hh => hk.elim hh.1 (fun h2 => h2 hh.2))]

set_option maxHeartbeats 400000 in
theorem pack12_bad (L K : Int) (A : Option Addr) (n c : Nat) (w : World) (hv : vok L K = false) :
    Calls Try.prog 12 #[.int .i64 L, .int .i64 K, .slice A n c] w fun e w' => e = .returned (.tuple #[.slice none 0 0, .int .i64 1]) ∧ Below w.heap.size w w' := by
  have HV := Lib.hid hv
  clear hv
  go_enter Try.func12, Try.ntmps12
  go_wp2_with (go_at_call 14; refine (valid14 _ _ _).mono ?_; rintro e w' ⟨rfl, rfl⟩; rw [HV.out])
  go_ret2
  exact ⟨rfl, Below.refl _ _⟩

set_option maxHeartbeats 400000 in
theorem pack12_range (L K : Int) (A : Option Addr) (n c : Nat) (rs : List Bs) (w : World) (hv : vok L K = true) (h : StrsAt w A n rs) (hn : n ≤ maxLen) (hbad : ∃ r ∈ rs, L < (r.length : Int)) :
    Calls Try.prog 12 #[.int .i64 L, .int .i64 K, .slice A n c] w fun e w' => e = .returned (.tuple #[.slice none 0 0, .int .i64 2]) ∧ Below w.heap.size w w' := by
  unfold maxLen at hn
  have HV := Lib.hid hv
  have H := Lib.hid h
  have HB := Lib.hid hbad
  clear hv h hbad
  go_enter Try.func12, Try.ntmps12
  go_wp2_with (go_at_call 14; refine (valid14 _ _ _).mono ?_; rintro e w' ⟨rfl, rfl⟩; rw [HV.out])
  go_loop [21] (fun i => ∃ k : Nat, k ≤ n ∧ i = .int .i64 k ∧ Hid (∀ j s, j < k → rs[j]? = some s → (s.length : Int) ≤ L)) (fun i => n - (intOf i).toNat)
  case atStart => exact ⟨0, Nat.zero_le _, rfl, fun j s hj => absurd hj (by omega)⟩
  case round =>
    obtain ⟨k, hk, rfl, hall⟩ := hrel
    by_cases hlt : k < n
    · obtain ⟨b, off, s, rfl, hs, hc⟩ := H.out.at_ hlt
      have HS := Lib.hid hs
      clear hs
      by_cases hgt : L < (s.length : Int)
      · go_wp2
        go_ret2
        exact ⟨rfl, Below.refl _ _⟩
      · go_wp2
        go_round
        case rel =>
          refine ⟨k + 1, by omega, by go_num, ?_⟩
          intro j s' hj hs'
          by_cases hjk : j = k
          · subst hjk
            have := HS.out.symm.trans hs'
            simp only [Option.some.injEq] at this
            subst this
            omega
          · exact hall.out j s' (by omega) hs'
        case measure => simp [intOf]; omega
    · exfalso
      obtain ⟨r, hr, hl⟩ := HB.out
      obtain ⟨j, hj⟩ := List.mem_iff_getElem?.1 hr
      have hlt' : j < n := by have := (List.getElem?_eq_some_iff.1 hj).1; have := H.out.len; omega
      have := hall.out j r (by omega) hj
      omega

set_option maxRecDepth 100000 in
set_option maxHeartbeats 1000000 in
theorem pack12_ok (L K : Nat) (A : Option Addr) (n c : Nat) (rs : List Bs) (w : World) (hL : 1 ≤ L ∧ L ≤ 1000) (hK : L + 8 ≤ K ∧ K ≤ 1024) (h : StrsAt w A n rs) (hn : n ≤ 1000000) (hall : ∀ r ∈ rs, r.length ≤ L) :
    Calls Try.prog 12 #[.int .i64 L, .int .i64 K, .slice A n c] w fun e w' => ∃ v, e = .returned (.tuple #[v, .int .i64 0]) ∧ OwnS w' w.heap.size 9 v (packA K rs) ∧ Below w.heap.size w w' := by
  have hv : vok (L : Int) (K : Int) = true := by unfold vok; simp; omega
  have HV := Lib.hid hv
  have H := Lib.hid h
  have HA := Lib.hid hall
  clear hv h hall
  obtain ⟨i0, hi0, hz0, hz1, hz2⟩ := info_parts info9
  have HI := Lib.hid hi0
  have HZ0 := Lib.hid hz0
  have HZ1 := Lib.hid hz1
  have HZ2 := Lib.hid hz2
  clear hi0 hz0 hz1 hz2
  go_enter Try.func12, Try.ntmps12
  go_wp2_with (go_at_call 14; refine (valid14 _ _ _).mono ?_; rintro e w' ⟨rfl, rfl⟩; rw [HV.out])
  go_loop [21] (fun i => ∃ k : Nat, k ≤ n ∧ i = .int .i64 k) (fun i => n - (intOf i).toNat)
  case atStart => exact ⟨0, Nat.zero_le _, rfl⟩
  case round =>
    obtain ⟨k, hk, rfl⟩ := hrel
    by_cases hlt : k < n
    · obtain ⟨b, off, s, rfl, hs, hc⟩ := H.out.at_ hlt
      have hsl : s.length ≤ L := HA.out s (List.mem_of_getElem? hs)
      clear hs
      go_wp2
      go_round
      case rel => exact ⟨k + 1, by omega, by go_num⟩
      case measure => simp [intOf]; omega
    · have hkn : k = n := by omega
      subst hkn
      go_wp2
      go_loopw [10, 11, 32] (fun out forms i wr => ∃ (j : Nat) (st1 : List Bs) (st2 : Bs), j ≤ k ∧ i = .int .i64 j ∧ Hid (stA K rs j = (st1, st2)) ∧ forms = .string ⟨st2.toArray⟩ ∧ OwnS wr w.heap.size 9 out st1 ∧ Below w.heap.size w wr ∧ st1.length ≤ j ∧ st2.length ≤ 1024) (fun _ _ i _ => k - (intOf i).toNat)
      case atStart => exact ⟨0, [], [], Nat.zero_le _, rfl, stA_zero K rs, rfl, OwnS.nil _ _ _, Below.refl _ _, Nat.le_refl _, by simp⟩
      case round =>
        obtain ⟨j, st1, st2, hj, rfl, hst, rfl, hown, hbw, hl1, hl2⟩ := hrel
        by_cases hlt2 : j < k
        · obtain ⟨b, off, s, rfl, hs, hc⟩ := (H.out.below hbw).at_ hlt2
          have hsl : s.length ≤ L := HA.out s (List.mem_of_getElem? hs)
          have hfl : (form s).length = 4 + s.length := length_form (by omega)
          have HS := Lib.hid hs
          have HF := Lib.hid hfl
          clear hs
          have hfl1 : (form s).length ≤ 4 + s.length := by omega
          clear hfl
          by_cases hf0 : st2 = []
          · subst hf0
            go_wp2_with (go_at_call 28; refine (form28 _ (by omega) _).mono ?_; rintro e w1 ⟨rfl, hb1⟩)
            go_roundw
            case rel => exact ⟨j + 1, st1, form s, by omega, by go_num, stA_more HS.out hst.out (.inl rfl), rfl, hown.below hb1, below_then_ hbw hb1, by omega, by omega⟩
            case measure => simp [intOf]; omega
          · have hfe : st2.isEmpty = false := by simpa using hf0
            by_cases hlong : K < 4 + st2.length + (form s).length
            · have HL := Lib.hid hlong
              go_wp2_with (first | (go_at_call 28; refine (form28 _ (by omega) _).mono ?_; rintro e w1 ⟨rfl, hb1⟩) | (go_at_call 29; refine (whole29 _ (by omega) _).mono ?_; rintro e w2 ⟨rfl, hb2⟩) | (at_builtin; refine wpList_append_str rfl (.tmp 50) (.tmp 53) _ rfl w.heap.size 9 i0 _ Try.underlying22 HI.out HZ0.out HZ1.out HZ2.out rfl _ st1 rfl (((hown.below hb1).below hb2).alloc _) (whole st2) ⟨w2.heap.size, 0, none⟩ 1 rfl (by simp) (by omega) (by have := hbw.size; have := hb1.size; have := hb2.size; simp; omega) ?_; intro v3 w3 hown3 hb3 _ _))
              go_roundw
              case rel => exact ⟨j + 1, st1 ++ [whole st2], form s, by omega, by go_num, stA_flush HS.out hst.out hf0 HL.out, rfl, hown3, (((below_then_ hbw hb1).trans (hb2.mono (by have := hbw.size; have := hb1.size; omega))).alloc (by have := hbw.size; have := hb1.size; have := hb2.size; omega) _).trans hb3, by simp; omega, by omega⟩
              case measure => simp [intOf]; omega
            · have HL := Lib.hid hlong
              go_wp2_with (first | (go_at_call 28; refine (form28 _ (by omega) _).mono ?_; rintro e w1 ⟨rfl, hb1⟩))
              go_roundw
              case rel => exact ⟨j + 1, st1, st2 ++ form s, by omega, by go_num, stA_more HS.out hst.out (.inr HL.out), rfl, hown.below hb1, below_then_ hbw hb1, by omega, by simp; omega⟩
              case measure => simp [intOf]; omega
        · have hjk : j = k := by omega
          subst hjk
          have HR := Lib.hid (show packA K rs = finA (st1, st2) from by rw [← hst.out]; exact (stA_all H.out.len).symm)
          by_cases hf0 : st2 = []
          · subst hf0
            go_wp2
            go_ret2
            exact ⟨_, rfl, by rw [HR.out]; exact hown, hbw⟩
          · have hfe : st2.isEmpty = false := by simpa using hf0
            go_wp2_with (first | (go_at_call 29; refine (whole29 _ (by omega) _).mono ?_; rintro e w2 ⟨rfl, hb2⟩) | (at_builtin; refine wpList_append_str rfl (.tmp 61) (.tmp 64) _ rfl w.heap.size 9 i0 _ Try.underlying22 HI.out HZ0.out HZ1.out HZ2.out rfl _ st1 rfl ((hown.below hb2).alloc _) (whole st2) ⟨w2.heap.size, 0, none⟩ 1 rfl (by simp) (by omega) (by have := hbw.size; have := hb2.size; simp; omega) ?_; intro v3 w3 hown3 hb3 _ _))
            go_ret2
            refine ⟨_, rfl, ?_, ((hbw.trans (hb2.mono hbw.size)).alloc (by have := hbw.size; have := hb2.size; omega) _).trans hb3⟩
            rw [HR.out]
            unfold finA
            rw [if_neg hf0]
            exact hown3

/-- The error of a packing. -/
def packErr (L K : Int) (rs : List Bs) : Int := if vok L K then (if rs.all (fun r => decide ((r.length : Int) ≤ L)) then 0 else 2) else 1
/-- The blocks of a packing. -/
def packOut (L K : Int) (rs : List Bs) : List Bs := if packErr L K rs = 0 then packA K.toNat rs else []

theorem vok_nat {L K : Int} (h : vok L K = true) : ∃ l k : Nat, L = l ∧ K = k ∧ (1 ≤ l ∧ l ≤ 1000) ∧ (l + 8 ≤ k ∧ k ≤ 1024) := by
  unfold vok at h
  simp only [Bool.and_eq_true, decide_eq_true_eq] at h
  exact ⟨L.toNat, K.toNat, by omega, by omega, by omega, by omega⟩

theorem pack12 (L K : Int) (A : Option Addr) (n c : Nat) (rs : List Bs) (w : World) (h : StrsAt w A n rs) (hn : n ≤ 1000000) :
    Calls Try.prog 12 #[.int .i64 L, .int .i64 K, .slice A n c] w fun e w' => ∃ v, e = .returned (.tuple #[v, .int .i64 (packErr L K rs)]) ∧ OwnS w' w.heap.size 9 v (packOut L K rs) ∧ Below w.heap.size w w' := by
  by_cases hv : vok L K = true
  · by_cases hall : rs.all (fun r => decide ((r.length : Int) ≤ L)) = true
    · have he : packErr L K rs = 0 := by unfold packErr; rw [if_pos hv, if_pos hall]
      obtain ⟨l, k, rfl, rfl, hl, hk⟩ := vok_nat hv
      have ho : packOut l k rs = packA k rs := by unfold packOut; rw [if_pos he]; rfl
      rw [he, ho]
      exact pack12_ok l k A n c rs w hl hk h hn (fun r hr => by have := List.all_eq_true.1 hall r hr; simp only [decide_eq_true_eq] at this; omega)
    · have he : packErr L K rs = 2 := by unfold packErr; rw [if_pos hv, if_neg hall]
      have ho : packOut L K rs = [] := by unfold packOut; rw [he]; rfl
      rw [he, ho]
      refine (pack12_range L K A n c rs w hv h (by unfold maxLen; omega) ?_).mono fun e w' ⟨h1, h2⟩ => ⟨_, h1, OwnS.nil _ _ _, h2⟩
      have : rs.all (fun r => decide ((r.length : Int) ≤ L)) = false := by simpa using hall
      obtain ⟨r, hr, hl⟩ := List.all_eq_false.1 this
      exact ⟨r, hr, by simp only [decide_eq_true_eq] at hl; omega⟩
  · have he : packErr L K rs = 1 := by unfold packErr; rw [if_neg hv]
    have ho : packOut L K rs = [] := by unfold packOut; rw [he]; rfl
    rw [he, ho]
    exact (pack12_bad L K A n c w (by simpa using hv)).mono fun e w' ⟨h1, h2⟩ => ⟨_, h1, OwnS.nil _ _ _, h2⟩

/-- The example of the chapter. -/
theorem pack12_awake (A : Option Addr) (c : Nat) (w : World) (h : StrsAt w A 2 [[97, 98], []]) :
    Calls Try.prog 12 #[.int .i64 20, .int .i64 100, .slice A 2 c] w fun e w' => ∃ v, e = .returned (.tuple #[v, .int .i64 0]) ∧ OwnS w' w.heap.size 9 v [[0, 14, 0, 0, 0, 6, 0, 0, 97, 98, 0, 4, 0, 0]] ∧ Below w.heap.size w w' := by
  have e1 : packErr 20 100 [[97, 98], []] = 0 := by decide +kernel
  have e2 : packOut 20 100 [[97, 98], []] = [[0, 14, 0, 0, 0, 6, 0, 0, 97, 98, 0, 4, 0, 0]] := by decide +kernel
  have := pack12 20 100 A 2 c [[97, 98], []] w h (by omega)
  rw [e1, e2] at this
  exact this

end Go.Proofs.Ytogfdodnfeggfaa
