/- The walk of VariableStrict: it returns true. -/
import Derived.Test.YtogfdodnfeggfaaUnpacks
namespace Go.Proofs.Ytogfdodnfeggfaa
open Go.RowKit P11
attribute [local go_sem] ByteArray.mk_append_mk ByteArray.extract_mk mk_index

/-- What unpacks is packed as it was. -/
theorem strict_ok {L K : Int} {d : Bs} (h : unErr L K d = 0) : packErr L K (unOut L K d) = 0 ∧ packOut L K (unOut L K d) = [d] ∧ (d.length ≤ 1024 → (unOut L K d).length ≤ 1024) := by
  unfold unErr at h
  by_cases hv : vok L K = true
  · rw [if_pos hv] at h
    cases hu : unpack L.toNat K.toNat d with
    | none => rw [hu] at h; cases h
    | some ls =>
      obtain ⟨l, k, rfl, rfl, hl, hk⟩ := vok_nat hv
      have e1 : unOut l k d = ls := (un_some hv hu).2
      have hr := (unpack_some hu).2.1
      have e2 : packErr l k ls = 0 := by
        unfold packErr
        rw [if_pos hv, if_pos (List.all_eq_true.2 (fun r hr' => by have := hr r hr'; simpa using this))]
      rw [e1]
      refine ⟨e2, ?_, fun hd => ?_⟩
      · unfold packOut
        rw [if_pos e2]
        exact packA_unpack (by omega) hu
      · have h1 := length_fm_ge (ls := ls) (fun r hr' => by have := hr r hr'; simp only [Int.toNat_natCast] at this; omega)
        have h2 := (unpack_some hu).2.2.2.1
        omega
  · rw [if_neg hv] at h
    cases h
theorem strict_no {L K : Int} {d : Bs} (h : unErr L K d ≠ 0) : unOut L K d = [] ∧ (unErr L K d = 1 ↔ vok L K = false) := by
  by_cases hv : vok L K = true
  · cases hu : unpack L.toNat K.toNat d with
    | none =>
      obtain ⟨h1, h2⟩ := un_none hv hu
      rw [h1, h2]
      refine ⟨rfl, ?_⟩
      rw [hv]
      simp
    | some ls => exact absurd (un_some hv hu).1 h
  · have hv' : vok L K = false := by simpa using hv
    obtain ⟨h1, h2⟩ := un_bad (d := d) hv'
    rw [h1, h2]
    exact ⟨rfl, by simp [hv']⟩

set_option maxHeartbeats 1000000 in
theorem strict7 (L K : Int) (d : Bs) (w : World) :
    Calls Try.prog 7 #[.int .i64 L, .int .i64 K, .string ⟨d.toArray⟩] w fun e w' => e = .returned (.bool true) ∧ Below w.heap.size w w' := by
  by_cases hd : 1100 < d.length
  · go_enter Try.func7, Try.ntmps7
    go_wp2_with (go_at_call 10; refine (awake10 _).mono ?_; rintro e w1 ⟨rfl, hb1⟩)
    go_ret
    exact ⟨rfl, by repeat (first | exact Below.refl _ _ | refine below_alloc ?_ _ | refine below_drewN ?_ _ | refine below_then ?_ (by assumption))⟩
  have hdl : d.length ≤ 100000 := by omega
  by_cases he : unErr L K d = 0
  · obtain ⟨e2, e3, e4⟩ := strict_ok he
    have hlen : (unOut L K d).length ≤ 1000000 := by
      by_cases hd2 : d.length ≤ 1024
      · have := e4 hd2
        omega
      · have hbig : unErr L K d ≠ 0 := by
          unfold unErr
          by_cases hv : vok L K = true
          · rw [if_pos hv]
            have : K.toNat ≤ 1024 := by
              obtain ⟨l, k, rfl, rfl, hl, hk⟩ := vok_nat hv
              exact hk.2
            rw [head_none (.inr (.inl (by omega)))]
            simp
          · rw [if_neg hv]
            omega
        exact absurd he hbig
    have HE := Lib.hid he
    have HE2 := Lib.hid e2
    have HE3 := Lib.hid e3
    clear he e2 e3 e4
    go_enter Try.func7, Try.ntmps7
    go_wp2_with fail
    refine (awake10 _).mono ?_
    rintro e w1 ⟨rfl, hb1⟩
    go_wp2_with fail
    refine (unpack21 _ _ d _ hdl).mono ?_
    rintro e w3 ⟨v3, rfl, hown3, hb3⟩
    rw [HE.out]
    have hb03 := below_then hb1 hb3
    obtain ⟨A3, n3, c3, rfl, hs3, hm3, hn3⟩ := hown3.strs
    have hn3' : n3 ≤ 1000000 := by omega
    have HS3 := Lib.hid hs3
    clear hs3 hown3 hn3
    go_wp2_with fail
    refine (pack12 _ _ _ _ _ _ _ HS3.out hn3').mono ?_
    rintro e w4 ⟨v4, rfl, hown4, hb4⟩
    rw [HE2.out]
    rw [HE3.out] at hown4
    have hb04 := below_then hb03 hb4
    obtain ⟨A4, n4, c4, rfl, hs4, hm4, -⟩ := hown4.strs
    have HS4 := Lib.hid hs4
    clear hs4 hown4
    go_wp2_with (first | (go_at_call 16; refine (same16 _ _ _ _ _ _ _ _ _ (HS4.out.below (below_alloc (Below.refl _ _) _)) (StrsAt.lit1 _ _ _) hm4 (by unfold maxLen; omega)).mono ?_; rintro e w5 ⟨rfl, hb5⟩; rw [sameB_refl]))
    go_ret
    exact ⟨rfl, below_then (below_alloc hb04 _) hb5⟩
  · obtain ⟨e2, e3⟩ := strict_no he
    have HE2 := Lib.hid e2
    have hne : (unErr L K d == 0) = false := by simpa using he
    have hne2 : (unErr L K d != 0) = true := by simpa using he
    clear e2
    cases hv : vok L K with
    | true =>
      have hb : (unErr L K d == 1) = false := by
        have : ¬ unErr L K d = 1 := fun h => by rw [hv] at e3; simp [h] at e3
        simpa using this
      have HV := Lib.hid hv
      clear hv e3 he
      go_enter Try.func7, Try.ntmps7
      go_wp2_with fail
      refine (awake10 _).mono ?_
      rintro e w1 ⟨rfl, hb1⟩
      go_wp2_with fail
      refine (unpack21 _ _ d _ hdl).mono ?_
      rintro e w3 ⟨v3, rfl, hown3, hb3⟩
      rw [HE2.out] at hown3
      have hb03 := below_then hb1 hb3
      obtain ⟨A3, n3, c3, rfl, -, -, hn3⟩ := hown3.strs
      obtain rfl : n3 = 0 := hn3
      clear hown3
      go_wp2_with (first | (go_at_call 14; refine (valid14 _ _ _).mono ?_; rintro e w' ⟨rfl, rfl⟩; rw [HV.out]))
      go_ret
      exact ⟨rfl, hb03⟩
    | false =>
      have hb : (unErr L K d == 1) = true := by
        have : unErr L K d = 1 := by rw [hv] at e3; simpa using e3
        simpa using this
      have HV := Lib.hid hv
      clear hv e3 he
      go_enter Try.func7, Try.ntmps7
      go_wp2_with fail
      refine (awake10 _).mono ?_
      rintro e w1 ⟨rfl, hb1⟩
      go_wp2_with fail
      refine (unpack21 _ _ d _ hdl).mono ?_
      rintro e w3 ⟨v3, rfl, hown3, hb3⟩
      rw [HE2.out] at hown3
      have hb03 := below_then hb1 hb3
      obtain ⟨A3, n3, c3, rfl, -, -, hn3⟩ := hown3.strs
      obtain rfl : n3 = 0 := hn3
      clear hown3
      go_wp2_with (first | (go_at_call 14; refine (valid14 _ _ _).mono ?_; rintro e w' ⟨rfl, rfl⟩; rw [HV.out]))
      go_ret
      exact ⟨rfl, hb03⟩
end Go.Proofs.Ytogfdodnfeggfaa
