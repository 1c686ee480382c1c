/- The walk of VariableBuilds: it returns true. -/
import Derived.Test.YtogfdodnfeggfaaReturns
import Derived.Test.YtogfdodnfeggfaaAdd
namespace Go.Proofs.Ytogfdodnfeggfaa
open Go.RowKit P11
attribute [local go_sem] ByteArray.mk_append_mk ByteArray.extract_mk mk_index

/-- The last block by its forms. -/
def lastOf (f : Bs) : Bs := if f = [] then [] else whole f
theorem lastOf_nil : lastOf [] = [] := rfl
theorem lastOf_ne {f : Bs} (h : f ≠ []) : lastOf f = whole f := by unfold lastOf; rw [if_neg h]

/-- What is known of the open forms behind k records. -/
theorem stA_open {l k : Nat} (hl : 1 ≤ l ∧ l ≤ 1000) (hk : l + 8 ≤ k ∧ k ≤ 1024) {rs : List Bs} (h : ∀ r ∈ rs, r.length ≤ l) (j : Nat) :
    ∃ cur, (stA k rs j).2 = fm cur ∧ (∀ r ∈ cur, r.length ≤ l) ∧ 4 + (fm cur).length ≤ k := by
  obtain ⟨gs, cur, hp, ea, _⟩ := Packed.all hl hk (rs.take j) [] [] [] (Packed.start l k hk.1) (fun r hr => h r (List.mem_of_mem_take hr))
  refine ⟨cur, ?_, fun r hr => hp.small r (by rw [← hp.flat]; simp [hr]), hp.open_⟩
  unfold stA
  simp only [List.map_nil, fm_nil] at ea
  rw [ea]

theorem room_last {l k : Nat} (hl : 1 ≤ l ∧ l ≤ 1000) (hk : l + 8 ≤ k ∧ k ≤ 1024) {cur : List Bs} (hc : ∀ r ∈ cur, r.length ≤ l) (ho : 4 + (fm cur).length ≤ k) {s : Bs} (hs : s.length ≤ l) :
    ((s.length : Int) ≤ roomI l k (lastOf (fm cur)) ↔ (fm cur = [] ∨ ¬ k < 4 + (fm cur).length + (form s).length)) := by
  have hv : vok (l : Int) (k : Int) = true := by unfold vok; simp; omega
  have hf : (form s).length = 4 + s.length := length_form (by omega)
  by_cases h0 : fm cur = []
  · rw [h0, lastOf_nil, room_nil hv]
    exact ⟨fun _ => .inl rfl, fun _ => by omega⟩
  · have hcne : cur ≠ [] := fun e => h0 (by rw [e]; rfl)
    have hu := unpack_block hl.2 hk.2 hc hcne ho
    have hun := un_some (L := l) (K := k) hv hu
    have hwl : (whole (fm cur)).length = 4 + (fm cur).length := length_whole (by omega)
    have hne : whole (fm cur) ≠ [] := fun e => by rw [e] at hwl; simp at hwl; omega
    rw [lastOf_ne h0, room_yes hv hne hun.1, hwl, hf]
    constructor
    · intro h
      refine .inr ?_
      split at h
      · omega
      · split at h <;> omega
    · intro h
      have h := h.resolve_left h0
      split
      · omega
      · split <;> omega

theorem add_fits {l k : Nat} (hl : 1 ≤ l ∧ l ≤ 1000) (hk : l + 8 ≤ k ∧ k ≤ 1024) {f : Bs} (hfo : ∃ cur, f = fm cur ∧ (∀ r ∈ cur, r.length ≤ l) ∧ 4 + (fm cur).length ≤ k) {s : Bs} (hs : s.length ≤ l) (h : f = [] ∨ ¬ k < 4 + f.length + (form s).length) :
    (s.length : Int) ≤ roomI l k (lastOf f) ∧ addB l k (lastOf f) s = true ∧ addO l k (lastOf f) s = lastOf (f ++ form s) := by
  obtain ⟨cur, rfl, hc, ho⟩ := hfo
  have hf : (form s).length = 4 + s.length := length_form (by omega)
  have hr := (room_last hl hk hc ho hs).2 h
  have hnl : ¬ roomI l k (lastOf (fm cur)) < (s.length : Int) := by omega
  have hfe : fm cur ++ form s ≠ [] := fun e => by
    have h2 : (fm cur ++ form s).length = 0 := by rw [e]; rfl
    rw [List.length_append] at h2
    omega
  refine ⟨hr, by unfold addB; simp [hnl], ?_⟩
  unfold addO
  rw [if_neg hnl, lastOf_ne hfe]
  congr 2
  by_cases h0 : fm cur = []
  · rw [h0]
    rfl
  · rw [lastOf_ne h0, drop4_whole (by omega)]
theorem add_full {l k : Nat} (hl : 1 ≤ l ∧ l ≤ 1000) (hk : l + 8 ≤ k ∧ k ≤ 1024) {f : Bs} (hfo : ∃ cur, f = fm cur ∧ (∀ r ∈ cur, r.length ≤ l) ∧ 4 + (fm cur).length ≤ k) {s : Bs} (hs : s.length ≤ l) (h0 : f ≠ []) (h : k < 4 + f.length + (form s).length) :
    roomI l k (lastOf f) < (s.length : Int) ∧ addB l k (lastOf f) s = false ∧ addB l k [] s = true ∧ addO l k [] s = lastOf (form s) := by
  obtain ⟨cur, rfl, hc, ho⟩ := hfo
  have hr : ¬ (s.length : Int) ≤ roomI l k (lastOf (fm cur)) := fun h1 => by
    rcases (room_last hl hk hc ho hs).1 h1 with h2 | h2
    · exact h0 h2
    · exact h2 h
  have hn := add_fits hl hk (f := []) ⟨[], rfl, by simp, by simp [fm]; omega⟩ hs (.inl rfl)
  have hlt : roomI l k (lastOf (fm cur)) < (s.length : Int) := by omega
  refine ⟨hlt, by unfold addB; simp [hlt], ?_, ?_⟩
  · simpa [lastOf_nil] using hn.2.1
  · simpa [lastOf_nil] using hn.2.2

set_option maxRecDepth 100000 in
set_option maxHeartbeats 2000000 in
theorem builds9 (L K : Int) (A : Option Addr) (n c : Nat) (rs : List Bs) (w : World) (h : StrsAt w A n rs) (hn : n ≤ maxLen) :
    Calls Try.prog 9 #[.int .i64 L, .int .i64 K, .slice A n c] w fun e w' => e = .returned (.bool true) ∧ Below w.heap.size w w' := by
  have H := Lib.hid h
  clear h
  cases hf : fewB rs 40 300 with
  | false =>
    have HF := Lib.hid hf
    clear hf
    go_enter Try.func9, Try.ntmps9
    go_wp2_with (first | (go_at_call 10; refine (awake10 _).mono ?_; rintro e w1 ⟨rfl, hb1⟩) | (go_at_call 11; refine (few11 _ _ _ rs _ _ _ (H.out.below hb1) hn).mono ?_; rintro e w2 ⟨rfl, hb2⟩; rw [HF.out]))
    go_ret
    exact ⟨rfl, by repeat (first | exact Below.refl _ _ | refine below_alloc ?_ _ | refine below_drewN ?_ _ | refine below_then ?_ (by assumption))⟩
  | true =>
    have hn40 : n ≤ 40 := by
      have := (few_yes hf).1
      have := H.out.len
      omega
    have HF := Lib.hid hf
    clear hf
    cases hv : vok L K with
    | false =>
      have HV := Lib.hid hv
      clear hv
      go_enter Try.func9, Try.ntmps9
      go_wp2_with (first | (go_at_call 10; refine (awake10 _).mono ?_; rintro e w1 ⟨rfl, hb1⟩) | (go_at_call 11; refine (few11 _ _ _ rs _ _ _ (H.out.below hb1) hn).mono ?_; rintro e w2 ⟨rfl, hb2⟩; rw [HF.out]) | (go_at_call 14; refine (valid14 _ _ _).mono ?_; rintro e w' ⟨rfl, rfl⟩; rw [HV.out]))
      go_ret
      exact ⟨rfl, by repeat (first | exact Below.refl _ _ | refine below_alloc ?_ _ | refine below_drewN ?_ _ | refine below_then ?_ (by assumption))⟩
    | true =>
      obtain ⟨l, k, rfl, rfl, hl, hk⟩ := vok_nat hv
      obtain ⟨lst, hlst⟩ : ∃ lst, lst = fairL (l : Int) rs := ⟨_, rfl⟩
      have hall : ∀ r ∈ lst, r.length ≤ l := fun r hr => by
        rw [hlst] at hr
        have := fair_le hr
        omega
      have hp : packErr l k lst = 0 ∧ packOut l k lst = packA k lst := by
        have h0 : packErr l k lst = 0 := by
          unfold packErr
          rw [if_pos hv, if_pos (List.all_eq_true.2 (fun r hr => by simpa using hall r hr))]
        exact ⟨h0, by unfold packOut; rw [if_pos h0]; rfl⟩
      have hll : lst.length ≤ 40 := by
        rw [hlst]
        have := fair_len (l : Int) rs
        have := H.out.len
        omega
      have HV := Lib.hid hv
      have HLST := Lib.hid hlst.symm
      have HALL := Lib.hid hall
      have HP := Lib.hid hp
      have HOP := Lib.hid (stA_open hl hk hall)
      clear hv hlst hall hp
      obtain ⟨i0, hi0, hz0, hz1, hz2⟩ := info_parts info9
      have HI := Lib.hid hi0
      have HZ0 := Lib.hid hz0
      have HZ1 := Lib.hid hz1
      have HZ2 := Lib.hid hz2
      clear hi0 hz0 hz1 hz2
      go_enter Try.func9, Try.ntmps9
      go_wp2_with fail
      refine (awake10 _).mono ?_
      rintro e w1 ⟨rfl, hb1⟩
      go_wp2_with fail
      refine (few11 _ _ _ rs _ _ _ (H.out.below hb1) hn).mono ?_
      rintro e w2 ⟨rfl, hb2⟩
      rw [HF.out]
      have hb02 := below_then hb1 hb2
      go_wp2_with (go_at_call 14; refine (valid14 _ _ _).mono ?_; rintro e w' ⟨rfl, rfl⟩; rw [HV.out])
      refine (fair23 _ _ _ _ rs _ (H.out.below hb02) (by omega)).mono ?_
      rintro e w3 ⟨v3, rfl, hown3, hb3⟩
      rw [HLST.out] at hown3
      have hb03 := below_then hb02 hb3
      obtain ⟨A3, n3, c3, rfl, hs3, hm3, hn3⟩ := hown3.strs
      have hn3' : n3 ≤ 40 := by rw [hn3]; exact hll
      have HS3 := Lib.hid hs3
      clear hs3 hown3 hn3
      have hz3 := hb03.size
      go_wp2_with fail
      go_loopw [8, 9, 36] (fun out la i wr => ∃ (j : Nat) (o : List Bs) (f z : Bs), j ≤ n3 ∧ i = .int .i64 j ∧ la = .string ⟨z.toArray⟩ ∧ Hid (stA k lst j = (o, f)) ∧ Hid (z = lastOf f) ∧ OwnS wr w3.heap.size 9 out o ∧ Below w3.heap.size w3 wr ∧ o.length ≤ j ∧ z.length ≤ 3000) (fun _ _ i _ => n3 - (intOf i).toNat)
      case atStart => exact ⟨0, [], [], [], Nat.zero_le _, rfl, rfl, rfl, rfl, OwnS.empty _ _ _ (Nat.le_refl _), below_alloc (Below.refl _ _) _, by simp, by simp⟩
      case round =>
        obtain ⟨j, o, f, z, hj, rfl, rfl, hst, hz, hown, hbw, hol, hzl⟩ := hrel
        have hsz := hbw.size
        by_cases hlt : j < n3
        · obtain ⟨b, off, s, rfl, hs, hc⟩ := (HS3.out.below hbw).at_ hlt
          have hsl : s.length ≤ l := HALL.out s (List.mem_of_getElem? hs)
          have hfo : ∃ cur, f = fm cur ∧ (∀ r ∈ cur, r.length ≤ l) ∧ 4 + (fm cur).length ≤ k := by
            obtain ⟨cur, h1, h2, h3⟩ := HOP.out j
            rw [hst.out] at h1
            exact ⟨cur, h1, h2, h3⟩
          have HFL : Hid (f.length ≤ 1024) := by
            obtain ⟨cur, h1, _, h3⟩ := hfo
            rw [h1]
            show _ ≤ _
            omega
          have HFS := Lib.hid (length_form (r := s) (by omega))
          have HG := Lib.hid hs
          clear hs
          by_cases hfit : f = [] ∨ ¬ k < 4 + f.length + (form s).length
          · obtain ⟨f1, f2, f3⟩ := add_fits hl hk hfo hsl hfit
            rw [← hz.out] at f1 f2 f3
            have F2 := Lib.hid f2
            have F3 := Lib.hid f3
            have HM := Lib.hid (stA_more HG.out hst.out hfit)
            have HNL : Hid ((lastOf (f ++ form s)).length ≤ 3000) := by
              have h1 := HFL.out
              have h2 := HFS.out
              show _ ≤ _
              unfold lastOf
              split
              · simp
              · rw [length_whole (by simp; omega)]
                simp
                omega
            clear f2 f3 hfo hfit
            go_wp2_with fail
            refine (add24 _ _ z s _ (by omega) (by omega)).mono ?_
            rintro e w4 ⟨rfl, hb4⟩
            rw [F2.out, F3.out]
            go_wp2_with (go_at_call 26; refine (room26 _ _ z _ (by omega)).mono ?_; rintro e w5 ⟨rfl, hb5⟩)
            go_roundw
            case rel =>
              refine ⟨j + 1, o, f ++ form s, _, by omega, by go_num, rfl, HM, rfl, (hown.below hb4).below hb5, below_then_ (below_then_ hbw hb4) hb5, by omega, HNL.out⟩
            case measure => simp [intOf]; omega
          · have hf0 : f ≠ [] := fun e => hfit (.inl e)
            have hlong : k < 4 + f.length + (form s).length := by
              rcases Nat.lt_or_ge k (4 + f.length + (form s).length) with h1 | h1
              · exact h1
              · exact absurd (.inr (by omega)) hfit
            obtain ⟨f1, f2, f3, f4⟩ := add_full hl hk hfo hsl hf0 hlong
            rw [← hz.out] at f1 f2
            have F2 := Lib.hid f2
            have F3 := Lib.hid f3
            have F4 := Lib.hid f4
            have HM := Lib.hid (stA_flush HG.out hst.out hf0 hlong)
            have HZ := Lib.hid (show whole f = z from by rw [hz.out, lastOf_ne hf0])
            have HNL : Hid ((lastOf (form s)).length ≤ 3000) := by
              have h2 := HFS.out
              show _ ≤ _
              unfold lastOf
              split
              · simp
              · rw [length_whole (by omega)]
                omega
            clear f2 f3 f4 hfo hfit hf0 hlong
            go_wp2_with fail
            refine (add24 _ _ z s _ (by omega) (by omega)).mono ?_
            rintro e w4 ⟨rfl, hb4⟩
            rw [F2.out]
            go_wp2_with (first | (go_at_call 26; refine (room26 _ _ z _ (by omega)).mono ?_; rintro e w5 ⟨rfl, hb5⟩; have hz4 := hb4.size; have hz5 := hb5.size) | (at_builtin; refine wpList_append_str rfl (.tmp 59) (.tmp 61) _ rfl w3.heap.size 9 i0 _ Try.underlying22 HI.out HZ0.out HZ1.out HZ2.out rfl _ o rfl (((hown.below hb4).below hb5).alloc _) z ⟨w5.heap.size, 0, none⟩ 1 rfl (by simp) (by omega) (by simp; omega) ?_; intro v6 w6 hown6 hb6 _ _))
            refine (add24 _ _ [] s _ (by simp) (by omega)).mono ?_
            rintro e w7 ⟨rfl, hb7⟩
            rw [F3.out, F4.out]
            go_wp2_with fail
            go_roundw
            case rel =>
              refine ⟨j + 1, o ++ [z], form s, _, by omega, by go_num, rfl, ?_, rfl, hown6.below hb7, below_then_ (((below_then_ (below_then_ hbw hb4) hb5).alloc (by omega) _).trans hb6) hb7 (by omega), by simp; omega, HNL.out⟩
              show _ = _
              rw [HM.out, HZ.out]
            case measure => simp [intOf]; omega
        · have hjn : j = n3 := by omega
          subst hjn
          have HR := Lib.hid (show packA k lst = finA (o, f) from by rw [← hst.out]; exact (stA_all HS3.out.len).symm)
          by_cases hf0 : f = []
          · have hz0 : z = [] := by rw [hz.out, hf0]; rfl
            have HR2 := Lib.hid (show packOut l k lst = o from by rw [HP.out.2, HR.out]; unfold finA; rw [if_pos hf0])
            clear hf0
            subst hz0
            go_wp2_with fail
            refine (pack12 _ _ _ _ _ _ _ (HS3.out.below hbw) (by omega)).mono ?_
            rintro e w8 ⟨v8, rfl, hown8, hb8⟩
            rw [HP.out.1]
            rw [HR2.out] at hown8
            obtain ⟨A8, n8, c8, rfl, hs8, hm8, -⟩ := hown8.strs
            obtain ⟨A9, n9, c9, rfl, hs9, hm9, -⟩ := hown.strs
            have HS8 := Lib.hid hs8
            have HS9 := Lib.hid (hs9.below hb8)
            clear hs8 hs9
            go_wp2_with (go_at_call 16; refine (same16 _ _ _ _ _ _ _ _ _ HS9.out HS8.out hm9 hm8).mono ?_; rintro e w9 ⟨rfl, hb9⟩; rw [sameB_refl])
            go_ret
            exact ⟨rfl, below_then (below_then (hb03.trans (hbw.mono hz3)) hb8) hb9⟩
          · have hzf : z = whole f := by rw [hz.out, lastOf_ne hf0]
            have HZE := Lib.hid (show z.isEmpty = false from by
              rw [hzf]
              have h1 := List.length_pos_iff.2 hf0
              cases hw : whole f with
              | nil =>
                unfold whole at hw
                have := congrArg List.length hw
                simp at this
                exact absurd this.2 hf0
              | cons a t => rfl)
            have HR2 := Lib.hid (show packOut l k lst = o ++ [z] from by rw [HP.out.2, HR.out, hzf]; unfold finA; rw [if_neg hf0])
            clear hf0 hzf
            have hze := HZE.out
            go_wp2_with (at_builtin; refine wpList_append_str rfl (.tmp 76) (.tmp 78) _ rfl w3.heap.size 9 i0 _ Try.underlying22 HI.out HZ0.out HZ1.out HZ2.out rfl _ o rfl (hown.alloc _) z ⟨wr.heap.size, 0, none⟩ 1 rfl (by simp) (by omega) (by simp; omega) ?_; intro v6 w6 hown6 hb6 _ _; obtain ⟨A9, n9, c9, rfl, hs9, hm9, -⟩ := hown6.strs)
            have hbw6 := (hbw.alloc hsz (.cells #[.string ⟨z.toArray⟩] 9)).trans hb6
            refine (pack12 _ _ _ _ _ _ _ (HS3.out.below hbw6) (by omega)).mono ?_
            rintro e w8 ⟨v8, rfl, hown8, hb8⟩
            rw [HP.out.1]
            rw [HR2.out] at hown8
            obtain ⟨A8, n8, c8, rfl, hs8, hm8, -⟩ := hown8.strs
            have HS8 := Lib.hid hs8
            have HS9 := Lib.hid (hs9.below hb8)
            clear hs8 hs9
            go_wp2_with (go_at_call 16; refine (same16 _ _ _ _ _ _ _ _ _ HS9.out HS8.out hm9 hm8).mono ?_; rintro e w9 ⟨rfl, hb9⟩; rw [sameB_refl])
            go_ret
            exact ⟨rfl, below_then (below_then (hb03.trans (hbw6.mono hz3)) hb8) hb9⟩

end Go.Proofs.Ytogfdodnfeggfaa
