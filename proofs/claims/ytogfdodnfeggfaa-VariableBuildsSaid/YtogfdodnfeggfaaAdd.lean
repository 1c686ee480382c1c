/- The walks of Room and Add, of the program and of the reference. -/
import Derived.Test.YtogfdodnfeggfaaRefUnpack
namespace Go.Proofs.Ytogfdodnfeggfaa
open Go.RowKit P11
attribute [local go_sem] ByteArray.mk_append_mk ByteArray.extract_mk mk_index

/-- The greatest length of a further record. -/
def roomI (L K : Int) (d : Bs) : Int :=
  if vok L K then (if d = [] then L else if unErr L K d = 0 then (if K - (d.length : Int) - 4 < -1 then -1 else if L < K - (d.length : Int) - 4 then L else K - (d.length : Int) - 4) else -1) else -1
theorem room_bad {L K : Int} {d : Bs} (hv : vok L K = false) : roomI L K d = -1 := by unfold roomI; rw [if_neg (by rw [hv]; simp)]
theorem room_nil {L K : Int} (hv : vok L K = true) : roomI L K [] = L := by unfold roomI; rw [if_pos hv, if_pos rfl]
theorem room_no {L K : Int} {d : Bs} (hv : vok L K = true) (hd : d ≠ []) (he : unErr L K d ≠ 0) : roomI L K d = -1 := by unfold roomI; rw [if_pos hv, if_neg hd, if_neg he]
theorem room_yes {L K : Int} {d : Bs} (hv : vok L K = true) (hd : d ≠ []) (he : unErr L K d = 0) :
    roomI L K d = (if K - (d.length : Int) - 4 < -1 then -1 else if L < K - (d.length : Int) - 4 then L else K - (d.length : Int) - 4) := by unfold roomI; rw [if_pos hv, if_neg hd, if_pos he]

set_option maxHeartbeats 1000000 in
theorem room26 (L K : Int) (d : Bs) (w : World) (hd : d.length ≤ 100000) : Calls Try.prog 26 #[.int .i64 L, .int .i64 K, .string ⟨d.toArray⟩] w fun e w' => e = .returned (.int .i64 (roomI L K d)) ∧ Below w.heap.size w w' := by
  by_cases hv : vok L K = true
  · have HV := Lib.hid hv
    by_cases hd0 : d = []
    · subst hd0
      have HR := Lib.hid (room_nil hv)
      clear hv
      go_enter Try.func26, Try.ntmps26
      go_wp2_with (go_at_call 14; refine (valid14 _ _ _).mono ?_; rintro e w' ⟨rfl, rfl⟩; rw [HV.out])
      go_ret
      exact ⟨retInt HR.out.symm, Below.refl _ _⟩
    · have hde : d.isEmpty = false := by simpa using hd0
      by_cases he : unErr L K d = 0
      · have HR := Lib.hid (room_yes hv hd0 he)
        have HE := Lib.hid he
        obtain ⟨l, k, rfl, rfl, hl, hk⟩ := vok_nat hv
        clear hv he hd0
        by_cases c1 : (k : Int) - (d.length : Int) - 4 < -1
        · have HR2 := Lib.hid (show roomI l k d = -1 from by rw [HR.out, if_pos c1])
          go_enter Try.func26, Try.ntmps26
          go_wp2_with (first | (go_at_call 14; refine (valid14 _ _ _).mono ?_; rintro e w' ⟨rfl, rfl⟩; rw [HV.out]) | (go_at_call 21; refine (unpack21 _ _ d _ hd).mono ?_; rintro e w3 ⟨v3, rfl, hown3, hb3⟩; rw [HE.out]))
          all_goals
            go_ret
            exact ⟨retInt (by have h := HR2.out; first | exact h.symm | omega | (split <;> first | omega | (split <;> omega))), hb3⟩
        · by_cases c2 : (l : Int) < (k : Int) - (d.length : Int) - 4
          · have HR2 := Lib.hid (show roomI l k d = l from by rw [HR.out, if_neg c1, if_pos c2])
            go_enter Try.func26, Try.ntmps26
            go_wp2_with (first | (go_at_call 14; refine (valid14 _ _ _).mono ?_; rintro e w' ⟨rfl, rfl⟩; rw [HV.out]) | (go_at_call 21; refine (unpack21 _ _ d _ hd).mono ?_; rintro e w3 ⟨v3, rfl, hown3, hb3⟩; rw [HE.out]))
            all_goals
              go_ret
              exact ⟨retInt (by have h := HR2.out; first | exact h.symm | omega | (split <;> first | omega | (split <;> omega))), hb3⟩
          · have HR2 := Lib.hid (show roomI l k d = (k : Int) - (d.length : Int) - 4 from by rw [HR.out, if_neg c1, if_neg c2])
            go_enter Try.func26, Try.ntmps26
            go_wp2_with (first | (go_at_call 14; refine (valid14 _ _ _).mono ?_; rintro e w' ⟨rfl, rfl⟩; rw [HV.out]) | (go_at_call 21; refine (unpack21 _ _ d _ hd).mono ?_; rintro e w3 ⟨v3, rfl, hown3, hb3⟩; rw [HE.out]))
            all_goals
              go_ret
              exact ⟨retInt (by have h := HR2.out; first | exact h.symm | omega | (split <;> first | omega | (split <;> omega))), hb3⟩
      · have HR := Lib.hid (room_no hv hd0 he)
        have hne : (unErr L K d != 0) = true := by simpa using he
        clear hv he hd0
        go_enter Try.func26, Try.ntmps26
        go_wp2_with (first | (go_at_call 14; refine (valid14 _ _ _).mono ?_; rintro e w' ⟨rfl, rfl⟩; rw [HV.out]) | (go_at_call 21; refine (unpack21 _ _ d _ hd).mono ?_; rintro e w3 ⟨v3, rfl, hown3, hb3⟩))
        go_ret
        exact ⟨retInt HR.out.symm, hb3⟩
  · have hv' : vok L K = false := by simpa using hv
    have HV := Lib.hid hv'
    have HR := Lib.hid (room_bad (d := d) hv')
    clear hv hv'
    go_enter Try.func26, Try.ntmps26
    go_wp2_with (go_at_call 14; refine (valid14 _ _ _).mono ?_; rintro e w' ⟨rfl, rfl⟩; rw [HV.out])
    go_ret
    exact ⟨retInt HR.out.symm, Below.refl _ _⟩

set_option maxHeartbeats 1000000 in
theorem room27 (L K : Int) (d : Bs) (w : World) (hd : d.length ≤ 100000) : Calls Try.prog 27 #[.int .i64 L, .int .i64 K, .string ⟨d.toArray⟩] w fun e w' => e = .returned (.int .i64 (roomI L K d)) ∧ Below w.heap.size w w' := by
  by_cases hv : vok L K = true
  · have HV := Lib.hid hv
    by_cases hd0 : d = []
    · subst hd0
      have HR := Lib.hid (room_nil hv)
      clear hv
      go_enter Try.func27, Try.ntmps27
      go_wp2_with (first | (go_at_call 15; refine (valid15 _ _ _).mono ?_; rintro e w' ⟨rfl, rfl⟩; rw [HV.out]) | (go_at_call 22; refine (unpack22 _ _ [] _ hd).mono ?_; rintro e w3 ⟨v3, rfl, hown3, hb3⟩))
      go_ret
      exact ⟨retInt HR.out.symm, hb3⟩
    · have hde : d.isEmpty = false := by simpa using hd0
      by_cases he : unErr L K d = 0
      · have HR := Lib.hid (room_yes hv hd0 he)
        have HE := Lib.hid he
        obtain ⟨l, k, rfl, rfl, hl, hk⟩ := vok_nat hv
        clear hv he hd0
        by_cases c1 : (k : Int) - (d.length : Int) - 4 < -1
        · have HR2 := Lib.hid (show roomI l k d = -1 from by rw [HR.out, if_pos c1])
          go_enter Try.func27, Try.ntmps27
          go_wp2_with (first | (go_at_call 15; refine (valid15 _ _ _).mono ?_; rintro e w' ⟨rfl, rfl⟩; rw [HV.out]) | (go_at_call 22; refine (unpack22 _ _ d _ hd).mono ?_; rintro e w3 ⟨v3, rfl, hown3, hb3⟩; rw [HE.out]))
          all_goals
            go_ret
            exact ⟨retInt (by have h := HR2.out; first | exact h.symm | omega | (split <;> first | omega | (split <;> omega))), hb3⟩
        · by_cases c2 : (l : Int) < (k : Int) - (d.length : Int) - 4
          · have HR2 := Lib.hid (show roomI l k d = l from by rw [HR.out, if_neg c1, if_pos c2])
            go_enter Try.func27, Try.ntmps27
            go_wp2_with (first | (go_at_call 15; refine (valid15 _ _ _).mono ?_; rintro e w' ⟨rfl, rfl⟩; rw [HV.out]) | (go_at_call 22; refine (unpack22 _ _ d _ hd).mono ?_; rintro e w3 ⟨v3, rfl, hown3, hb3⟩; rw [HE.out]))
            all_goals
              go_ret
              exact ⟨retInt (by have h := HR2.out; first | exact h.symm | omega | (split <;> first | omega | (split <;> omega))), hb3⟩
          · have HR2 := Lib.hid (show roomI l k d = (k : Int) - (d.length : Int) - 4 from by rw [HR.out, if_neg c1, if_neg c2])
            go_enter Try.func27, Try.ntmps27
            go_wp2_with (first | (go_at_call 15; refine (valid15 _ _ _).mono ?_; rintro e w' ⟨rfl, rfl⟩; rw [HV.out]) | (go_at_call 22; refine (unpack22 _ _ d _ hd).mono ?_; rintro e w3 ⟨v3, rfl, hown3, hb3⟩; rw [HE.out]))
            all_goals
              go_ret
              exact ⟨retInt (by have h := HR2.out; first | exact h.symm | omega | (split <;> first | omega | (split <;> omega))), hb3⟩
      · have HR := Lib.hid (room_no hv hd0 he)
        have hne : (unErr L K d != 0) = true := by simpa using he
        clear hv he hd0
        go_enter Try.func27, Try.ntmps27
        go_wp2_with (first | (go_at_call 15; refine (valid15 _ _ _).mono ?_; rintro e w' ⟨rfl, rfl⟩; rw [HV.out]) | (go_at_call 22; refine (unpack22 _ _ d _ hd).mono ?_; rintro e w3 ⟨v3, rfl, hown3, hb3⟩))
        go_ret
        exact ⟨retInt HR.out.symm, hb3⟩
  · have hv' : vok L K = false := by simpa using hv
    have HV := Lib.hid hv'
    have HR := Lib.hid (room_bad (d := d) hv')
    clear hv hv'
    go_enter Try.func27, Try.ntmps27
    go_wp2_with (first | (go_at_call 15; refine (valid15 _ _ _).mono ?_; rintro e w' ⟨rfl, rfl⟩; rw [HV.out]) | (go_at_call 22; refine (unpack22 _ _ d _ hd).mono ?_; rintro e w3 ⟨v3, rfl, hown3, hb3⟩))
    go_ret
    exact ⟨retInt HR.out.symm, hb3⟩

def addB (L K : Int) (d r : Bs) : Bool := !decide (roomI L K d < (r.length : Int))
def addO (L K : Int) (d r : Bs) : Bs := if roomI L K d < (r.length : Int) then [] else whole (d.drop 4 ++ form r)

set_option maxHeartbeats 1000000 in
theorem add24 (L K : Int) (d r : Bs) (w : World) (hd : d.length ≤ 50000) (hr : r.length ≤ 1100) : Calls Try.prog 24 #[.int .i64 L, .int .i64 K, .string ⟨d.toArray⟩, .string ⟨r.toArray⟩] w fun e w' => e = .returned (.tuple #[.string ⟨(addO L K d r).toArray⟩, .bool (addB L K d r)]) ∧ Below w.heap.size w w' := by
  have hfr : (form r).length = 4 + r.length := length_form hr
  have hfl : (form r).length ≤ 1104 := by omega
  by_cases hc : roomI L K d < (r.length : Int)
  · have e1 := Lib.hid (show addO L K d r = [] from by unfold addO; rw [if_pos hc])
    have e2 := Lib.hid (show addB L K d r = false from by unfold addB; simp [hc])
    clear hfr
    go_enter Try.func24, Try.ntmps24
    go_wp2_with (first | (go_at_call 26; refine (room26 _ _ d _ (by omega)).mono ?_; rintro e w3 ⟨rfl, hb3⟩))
    go_ret2
    exact ⟨ret2 (strEq e1.out.symm) (by rw [e2.out]; rfl), hb3⟩
  · have e1 := Lib.hid (show addO L K d r = whole (d.drop 4 ++ form r) from by unfold addO; rw [if_neg hc])
    have e2 := Lib.hid (show addB L K d r = true from by unfold addB; simp [hc])
    have hc' : decide (roomI L K d < (r.length : Int)) = false := by simpa using hc
    clear hfr
    by_cases hd0 : d = []
    · subst hd0
      go_enter Try.func24, Try.ntmps24
      go_wp2_with (first | (go_at_call 26; refine (room26 _ _ [] _ (by omega)).mono ?_; rintro e w3 ⟨rfl, hb3⟩) | (go_at_call 28; refine (form28 r (by omega) _).mono ?_; rintro e w4 ⟨rfl, hb4⟩) | (go_at_call 29; refine (whole29 _ (by first | omega | (simp; omega)) _).mono ?_; rintro e w5 ⟨rfl, hb5⟩))
      go_ret2
      exact ⟨ret2 (strEq (by rw [e1.out]; rfl)) (by rw [e2.out]; rfl), below_then (below_then hb3 hb4) hb5⟩
    · have hde : d.isEmpty = false := by simpa using hd0
      have hd4 : 4 < d.length := by
        rcases Nat.lt_or_ge 4 d.length with h | h
        · exact h
        · exfalso
          apply hc
          by_cases hv : vok L K = true
          · have he : unErr L K d ≠ 0 := by
              rw [(un_none hv (head_none (.inl h))).1]
              omega
            rw [room_no hv hd0 he]
            omega
          · rw [room_bad (by simpa using hv)]
            omega
      clear hc hd0
      go_enter Try.func24, Try.ntmps24
      go_wp2_with (first | (go_at_call 26; refine (room26 _ _ d _ (by omega)).mono ?_; rintro e w3 ⟨rfl, hb3⟩) | (go_at_call 28; refine (form28 r (by omega) _).mono ?_; rintro e w4 ⟨rfl, hb4⟩) | (go_at_call 29; refine (whole29 _ (by first | omega | (simp; omega)) _).mono ?_; rintro e w5 ⟨rfl, hb5⟩))
      go_ret2
      exact ⟨ret2 (strEq (by rw [e1.out, List.take_of_length_le (by simp)])) (by rw [e2.out]; rfl), below_then (below_then hb3 hb4) hb5⟩

/-- Where a further record fits: what stands behind the block's word is the forms of its records. -/
theorem add_forms {L K : Int} {d r : Bs} (hc : ¬ roomI L K d < (r.length : Int)) : fm (unOut L K d) = d.drop 4 ∧ (unOut L K d).length ≤ 1024 ∧ (fm (unOut L K d)).length ≤ 1024 ∧ ∀ x ∈ unOut L K d, x.length ≤ 1000 := by
  by_cases hv : vok L K = true
  · by_cases hd0 : d = []
    · subst hd0
      have hn : unpack L.toNat K.toNat [] = none := head_none (.inl (by simp))
      rw [(un_none hv hn).2]
      exact ⟨rfl, by simp, by simp [fm], fun x hx => by cases hx⟩
    · cases hu : unpack L.toNat K.toNat d with
      | none =>
        exfalso
        apply hc
        rw [room_no hv hd0 (by rw [(un_none hv hu).1]; omega)]
        omega
      | some ls =>
        rw [(un_some hv hu).2]
        obtain ⟨l, k, rfl, rfl, hl, hk⟩ := vok_nat hv
        obtain ⟨e1, e2, e3, e4, e5⟩ := unpack_some hu
        simp only [Int.toNat_natCast] at e2 e5
        have h1 : ∀ r ∈ ls, r.length ≤ 1100 := fun r hr => by have := e2 r hr; omega
        have h2 := length_fm_ge h1
        refine ⟨?_, by omega, by omega, fun x hx => by have := e2 x hx; omega⟩
        rw [e1]
        unfold block
        rw [drop4_whole (by omega)]
  · exfalso
    apply hc
    rw [room_bad (by simpa using hv)]
    omega

set_option maxHeartbeats 1000000 in
theorem add25 (L K : Int) (d r : Bs) (w : World) (hd : d.length ≤ 50000) (hr : r.length ≤ 1100) : Calls Try.prog 25 #[.int .i64 L, .int .i64 K, .string ⟨d.toArray⟩, .string ⟨r.toArray⟩] w fun e w' => e = .returned (.tuple #[.string ⟨(addO L K d r).toArray⟩, .bool (addB L K d r)]) ∧ Below w.heap.size w w' := by
  by_cases hc : roomI L K d < (r.length : Int)
  · have e1 := Lib.hid (show addO L K d r = [] from by unfold addO; rw [if_pos hc])
    have e2 := Lib.hid (show addB L K d r = false from by unfold addB; simp [hc])
    go_enter Try.func25, Try.ntmps25
    go_wp2_with (first | (go_at_call 27; refine (room27 _ _ d _ (by omega)).mono ?_; rintro e w3 ⟨rfl, hb3⟩))
    go_ret2
    exact ⟨ret2 (strEq e1.out.symm) (by rw [e2.out]; rfl), hb3⟩
  · obtain ⟨f1, f2, f3, f4⟩ := add_forms hc
    have e1 := Lib.hid (show addO L K d r = block (unOut L K d ++ [r]) from by unfold addO; rw [if_neg hc]; unfold block; rw [fm_snoc, f1])
    have e2 := Lib.hid (show addB L K d r = true from by unfold addB; simp [hc])
    have hc' : decide (roomI L K d < (r.length : Int)) = false := by simpa using hc
    have hfr : (form r).length = 4 + r.length := length_form hr
    have HT := Lib.hid (show (fm (unOut L K d ++ [r])).length ≤ 60000 from by rw [fm_snoc, List.length_append]; omega)
    have HS := Lib.hid (show ∀ x ∈ unOut L K d ++ [r], x.length ≤ 1100 from by
      intro x hx
      rcases List.mem_append.1 hx with hx | hx
      · have := f4 x hx
        omega
      · simp at hx
        subst hx
        exact hr)
    clear hc f1 f3 f4 hfr
    obtain ⟨i0, hi0, hz0, hz1, hz2⟩ := info_parts info9
    have HI := Lib.hid hi0
    have HZ0 := Lib.hid hz0
    have HZ1 := Lib.hid hz1
    have HZ2 := Lib.hid hz2
    clear hi0 hz0 hz1 hz2
    go_enter Try.func25, Try.ntmps25
    go_wp2_with fail
    refine (room27 _ _ d _ (by omega)).mono ?_
    rintro e w1 ⟨rfl, hb1⟩
    go_wp2_with fail
    refine (unpack22 _ _ d _ (by omega)).mono ?_
    rintro e w2 ⟨v2, rfl, hown2, hb2⟩
    have hsz := hb2.size
    go_wp2_with (at_builtin; refine wpList_append_str rfl (.tmp 26) (.tmp 28) _ rfl w1.heap.size 9 i0 _ Try.underlying22 HI.out HZ0.out HZ1.out HZ2.out rfl _ (unOut L K d) rfl (hown2.alloc _) r ⟨w2.heap.size, 0, none⟩ 1 rfl (by simp) (by omega) (by simp; omega) ?_; intro v3 w3 hown3 hb3 _ _; obtain ⟨A3, n3, c3, rfl, hs3, hm3, hn3⟩ := hown3.strs; have hn3' : n3 ≤ 1000000 := (by rw [hn3]; simp; omega); have HS3 := Lib.hid hs3; clear hs3 hn3)
    refine (block30' _ _ _ _ _ HS3.out hn3' HT.out HS.out).mono ?_
    rintro e w4 ⟨rfl, hb4⟩
    go_wp2_with fail
    go_ret2
    have hbx := below_then hb1 hb2
    have hby : Below w.heap.size w w3 := (below_alloc hbx _).trans (hb3.mono hb1.size)
    exact ⟨ret2 (strEq e1.out.symm) (by rw [e2.out]; rfl), below_then hby hb4⟩

end Go.Proofs.Ytogfdodnfeggfaa
