/- The walk of the reference's Append: it returns what Append returns. -/
import Derived.Test.YtabpgfcmfflceaaDoorAppend
import Derived.Test.YtabpgfcmfflceaaDoorRefSeg
import Derived.Test.YtabpgfcmfflceaaDoorRefPack
namespace P12
theorem addP_longer {K : Nat} {last r : Bs} (h8 : 8 ≤ last.length) (hl : last.length ≤ 1024) (hr : r.length ≤ 1000) (hc : (addP K last r).1 ≠ []) : last.length < (addP K last r).1.length := by
  have hne : last ≠ [] := fun e => by rw [e] at h8; simp at h8
  unfold addP at hc ⊢
  rw [if_neg hne] at hc ⊢
  by_cases h1 : last.length + 4 + r.length ≤ K
  · rw [if_pos h1] at hc ⊢
    dsimp only
    rw [length_whole (by rw [List.length_append, length_form]; simp; omega), List.length_append, length_form]
    simp
    omega
  · rw [if_neg h1] at hc ⊢
    by_cases h2 : last.length + 4 < K
    · rw [if_pos h2] at hc ⊢
      dsimp only
      rw [length_whole (by rw [List.length_append, length_form]; simp; omega), List.length_append, length_form]
      simp
      omega
    · rw [if_neg h2] at hc
      exact absurd rfl hc
theorem putP_stay {K : Nat} {last r : Bs} (hl : last ≠ []) (hc : (addP K last r).1 = []) : putP K last r = last :: (addP K last r).2 := by
  unfold putP
  rw [if_pos hc, if_neg hl]
  rfl
theorem putP_changed {K : Nat} {last r : Bs} (hc : (addP K last r).1 ≠ []) : putP K last r = (addP K last r).1 :: (addP K last r).2 := by
  unfold putP
  rw [if_neg hc]
  rfl
end P12
namespace Go.Proofs.YtabpgfcmfflceaaDoor
open Go.RowKit P12 Go.Sort
attribute [local go_sem] ByteArray.mk_append_mk ByteArray.extract_mk mk_index

def RefAppended (L K : Int) (bs : List Bs) (r : Bs) (w : World) (en : Ending) (w' : World) : Prop :=
  ∃ A n c, en = .returned (.tuple #[.int .i64 (appI L K bs r).1, .slice A n c, .int .i64 (appI L K bs r).2.2]) ∧ StrsAt w' A n (appI L K bs r).2.1 ∧ n ≤ maxLen ∧ Below w.heap.size w w'
theorem RefAppended.fail {L K : Int} {bs : List Bs} {r : Bs} {w w' : World} {x : Int} (h : appI L K bs r = (0, [], x)) (hb : Below w.heap.size w w') : RefAppended L K bs r w (.returned (.tuple #[.int .i64 0, .slice none 0 0, .int .i64 x])) w' :=
  ⟨none, 0, 0, by rw [h], by rw [h]; exact StrsAt.nil, Nat.zero_le _, hb⟩
theorem RefAppended.own {L K : Int} {bs : List Bs} {r : Bs} {w w' : World} {v : Value} {B : Nat} {x : Int} {ss : List Bs} {y : Int} (h : appI L K bs r = (x, ss, y)) (ho : OwnS w' B 9 v ss) (hb : Below w.heap.size w w') : RefAppended L K bs r w (.returned (.tuple #[.int .i64 x, v, .int .i64 y])) w' := by
  obtain ⟨A, n, c, rfl, hs, hm, -⟩ := ho.strs
  exact ⟨A, n, c, by rw [h], by rw [h]; exact hs, hm, hb⟩
/-- All but the first. -/
theorem StrsAt.tail {w : World} {g : Nat} {n : Nat} {x : Bs} {ss : List Bs} (h : StrsAt w (some ⟨g, 0, none⟩) (n + 1) (x :: ss)) : StrsAt w (some ⟨g, 1, none⟩) n ss := by
  refine ⟨by have := h.1; simpa using this, fun k s hk => ?_⟩
  obtain ⟨b, off, he, hc⟩ := h.2 (k + 1) s (by simpa using hk)
  injection he with he
  injection he with e1 e2
  subst e1 e2
  exact ⟨_, _, rfl, by rw [show 1 + k = 0 + (k + 1) from by omega]; exact hc⟩

set_option maxHeartbeats 400000 in
theorem append24_bad (L K : Int) (A : Option Addr) (n c : Nat) (bs : List Bs) (r : Bs) (w : World) (hv : vok L K = false) : Calls Tryd.prog 24 #[.int .i64 L, .int .i64 K, .slice A n c, .string ⟨r.toArray⟩] w (RefAppended L K bs r w) := by
  have HU := Lib.hid (appI_bad (bs := bs) (r := r) hv)
  have HV := Lib.hid hv
  clear hv
  go_enter Tryd.func24, Tryd.ntmps24
  go_wp2_with (go_at_call 16; refine (valid16 _ _ _).mono ?_; rintro e w' ⟨rfl, rfl⟩; rw [HV.out])
  go_ret3
  exact RefAppended.fail HU.out (Below.refl _ _)

set_option maxRecDepth 100000 in
set_option maxHeartbeats 2000000 in
theorem append24_ok (L K : Nat) (A : Option Addr) (n c : Nat) (bs : List Bs) (r : Bs) (w : World) (hL : 1 ≤ L ∧ L ≤ 1000) (hK : 9 ≤ K ∧ K ≤ 1024) (h : StrsAt w A n bs) (hn : n ≤ 100000) (hb : ∀ b ∈ bs, b.length ≤ 60000) (hr : r.length ≤ 100000) :
    Calls Tryd.prog 24 #[.int .i64 L, .int .i64 K, .slice A n c, .string ⟨r.toArray⟩] w (RefAppended L K bs r w) := by
  have HV := Lib.hid (nat_vok hL hK)
  have HA := Lib.hid (appI_ok (bs := bs) (r := r) HV.out)
  have HN := Lib.hid h.len
  have H := Lib.hid h
  have HBL := Lib.hid hb
  clear h hb
  by_cases hlr : L < r.length
  · have HU := Lib.hid (show appI L K bs r = (0, [], 2) from by rw [HA.out]; unfold appR; rw [if_pos hlr])
    go_enter Tryd.func24, Tryd.ntmps24
    go_wp2_with (go_at_call 16; refine (valid16 _ _ _).mono ?_; rintro e w' ⟨rfl, rfl⟩; rw [HV.out])
    go_ret3
    exact RefAppended.fail HU.out (Below.refl _ _)
  have hrl : r.length ≤ 1000 := by omega
  cases hlast : bs.getLast? with
  | none =>
    have h0 : bs = [] := List.getLast?_eq_none_iff.1 hlast
    obtain rfl : n = 0 := by rw [← HN.out, h0]; rfl
    have HU := Lib.hid (show appI L K bs r = (0, putP K [] r, 0) from by rw [HA.out]; unfold appR; rw [if_neg hlr, hlast]; unfold putP addP; simp)
    clear h0 hlast
    go_enter Tryd.func24, Tryd.ntmps24
    go_wp2_with (first | (go_at_call 16; refine (valid16 _ _ _).mono ?_; rintro e w' ⟨rfl, rfl⟩; rw [HV.out]) | (go_at_call 32; refine (put32 K [] r _ hK (.inl rfl) (by simp) (by omega)).mono ?_; rintro e w2 ⟨v2, rfl, hown2, hb2⟩))
    go_ret3
    exact RefAppended.own HU.out hown2 hb2
  | some last =>
    have hne : bs ≠ [] := fun e => by rw [e] at hlast; cases hlast
    have hpos : 0 < n := by rw [← HN.out]; exact List.length_pos_iff.2 hne
    have hmem := List.mem_of_getLast? hlast
    have hbl := HBL.out last hmem
    obtain ⟨b, off, s, rfl, hs, hc⟩ := H.out.at_ (k := n - 1) (by omega)
    have hsl : s = last := by
      rw [List.getLast?_eq_getElem?, HN.out] at hlast
      rw [hlast] at hs
      exact (Option.some.inj hs).symm
    subst hsl
    have hn0 : ((n : Int) == 0) = false := beq_not (by omega)
    cases hsg : segs L K s with
    | none =>
      have HU := Lib.hid (show appI L K bs r = (0, [], 11) from by rw [HA.out]; unfold appR; rw [if_neg hlr, hlast]; dsimp only; rw [hsg])
      have HE := Lib.hid (seg_none HV.out hsg)
      clear hsg hlast hs hne
      go_enter Tryd.func24, Tryd.ntmps24
      go_wp2_with (first | (go_at_call 16; refine (valid16 _ _ _).mono ?_; rintro e w' ⟨rfl, rfl⟩; rw [HV.out]) | (go_at_call 19; refine (segs19 _ _ _ _ (by omega)).mono ?_; rintro e w2 ⟨v2, rfl, hown2, hb2⟩; rw [HE.out.1]))
      go_ret3
      exact RefAppended.fail HU.out hb2
    | some ls =>
      obtain ⟨hlne, h8, hsK⟩ := segs_facts hsg
      have HE := Lib.hid (seg_some HV.out hsg)
      obtain ⟨l, hl⟩ : ∃ l, ls.getLast? = some l := ⟨_, List.getLast?_eq_some_getLast hlne⟩
      have HL := Lib.hid hl
      by_cases hla : l.a = true
      · have HU := Lib.hid (show appI L K bs r = (0, [], 11) from by rw [HA.out]; unfold appR; rw [if_neg hlr, hlast]; dsimp only; rw [hsg]; dsimp only; rw [hl]; simp [hla])
        have HLA := Lib.hid hla
        clear hsg hlast hs hne hl hlne hla
        go_enter Tryd.func24, Tryd.ntmps24
        go_wp2_with (first | (go_at_call 16; refine (valid16 _ _ _).mono ?_; rintro e w' ⟨rfl, rfl⟩; rw [HV.out]) | (go_at_call 19; refine (segs19 _ _ _ _ (by omega)).mono ?_; rintro e w2 ⟨v2, rfl, hown2, hb2⟩; rw [HE.out.1]; rw [HE.out.2] at hown2; obtain ⟨g2, c2, rfl, hp2, hm2, hc2⟩ := last_row hown2 HL.out; rw [HLA.out] at hc2; unfold maxLen at hm2; clear hown2))
        go_ret3
        exact RefAppended.fail HU.out hb2
      · have hlf : l.a = false := by simpa using hla
        have HLA := Lib.hid hlf
        have hal := length_addP K s r
        have hsne : s ≠ [] := fun e => by rw [e] at h8; simp at h8
        by_cases hch : (addP K s r).1 = []
        · have HU := Lib.hid (show appI L K bs r = ((bs.length : Int), (addP K s r).2, 0) from by rw [HA.out]; unfold appR; rw [if_neg hlr, hlast]; dsimp only; rw [hsg]; dsimp only; rw [hl, if_neg (by simp [hlf]), if_pos hch])
          have HP := Lib.hid (putP_stay hsne hch)
          obtain ⟨more, hmore⟩ : ∃ more, more = (addP K s r).2 := ⟨_, rfl⟩
          rw [← hmore] at HU HP
          clear hsg hlast hs hne hl hlne hla hlf hch hsne hal hmore
          have hss : (s == s) = true := beq_self_eq_true _
          go_enter Tryd.func24, Tryd.ntmps24
          go_wp2_with (first | (go_at_call 16; refine (valid16 _ _ _).mono ?_; rintro e w' ⟨rfl, rfl⟩; rw [HV.out]) | (go_at_call 19; refine (segs19 _ _ _ _ (by omega)).mono ?_; rintro e w2 ⟨v2, rfl, hown2, hb2⟩; rw [HE.out.1]; rw [HE.out.2] at hown2; obtain ⟨g2, c2, rfl, hp2, hm2, hc2⟩ := last_row hown2 HL.out; rw [HLA.out] at hc2; unfold maxLen at hm2; have HB2 := Lib.hid hb2; clear hown2 hb2) | (go_at_call 32; refine (put32 K s r _ hK (.inr (by omega)) (by omega) (by omega)).mono ?_; rintro e w3 ⟨v3, rfl, hown3, hb3⟩; rw [HP.out] at hown3; have hcap := hown3; obtain ⟨g3, c3, rfl, -, hcells, -, hm3⟩ := hown3.row (by simp); have hcp := hcap.cap rfl; have h0c := hcells 0 s (by simp); have HST := Lib.hid (StrsAt.of_own hcap); have HB3 := Lib.hid (below_then HB2.out hb3); simp only [List.length_cons] at hm3 hcp ⊢; unfold maxLen at hm3; clear hcap hown3 hcells hb3))
          rw [HN.out] at HU
          simp only [List.length_cons] at HST
          by_cases hc1 : c3 = 1
          · obtain rfl : more = [] := List.eq_nil_of_length_eq_zero (by omega)
            subst hc1
            clear hm3 hcp
            go_quiet (fail)
            go_wp2
            go_ret3
            exact ⟨_, 0, 0, by rw [HU.out]; rfl, by rw [HU.out]; exact StrsAt.nil, Nat.zero_le _, below_drewN HB3.out _⟩
          · have hl1 : (1 : Int) ≤ (more.length : Int) + 1 := by omega
            have hl2 : 1 ≤ more.length + 1 := by omega
            have hcI : (more.length : Int) + 1 ≤ (c3 : Int) := by omega
            go_quiet (fail)
            go_wp2
            go_ret3
            exact ⟨_, more.length, c3 - 1, by rw [HU.out]; rfl, by rw [HU.out]; exact (StrsAt.tail HST.out).below (below_drewN (Below.refl _ _) _), by unfold maxLen; omega, below_drewN HB3.out _⟩
        · have HU := Lib.hid (show appI L K bs r = ((bs.length : Int) - 1, (addP K s r).1 :: (addP K s r).2, 0) from by rw [HA.out]; unfold appR; rw [if_neg hlr, hlast]; dsimp only; rw [hsg]; dsimp only; rw [hl, if_neg (by simp [hlf]), if_neg hch])
          have HP := Lib.hid (putP_changed hch)
          have hlong := addP_longer h8 (by omega) hrl hch
          have hse : ((addP K s r).1 == s) = false := by
            simp only [beq_eq_false_iff_ne, ne_eq]
            intro e
            rw [e] at hlong
            omega
          clear hsg hlast hs hne hl hlne hla hlf hch hsne hlong
          go_enter Tryd.func24, Tryd.ntmps24
          go_wp2_with (first | (go_at_call 16; refine (valid16 _ _ _).mono ?_; rintro e w' ⟨rfl, rfl⟩; rw [HV.out]) | (go_at_call 19; refine (segs19 _ _ _ _ (by omega)).mono ?_; rintro e w2 ⟨v2, rfl, hown2, hb2⟩; rw [HE.out.1]; rw [HE.out.2] at hown2; obtain ⟨g2, c2, rfl, hp2, hm2, hc2⟩ := last_row hown2 HL.out; rw [HLA.out] at hc2; unfold maxLen at hm2; have HB2 := Lib.hid hb2; clear hown2 hb2) | (go_at_call 32; refine (put32 K s r _ hK (.inr (by omega)) (by omega) (by omega)).mono ?_; rintro e w3 ⟨v3, rfl, hown3, hb3⟩; rw [HP.out] at hown3; have HO3 := Lib.hid hown3; obtain ⟨g3, c3, rfl, -, hcells, -, hm3⟩ := hown3.row (by simp); have h0c := hcells 0 (addP K s r).1 (by simp); have HB3 := Lib.hid (below_then HB2.out hb3); simp only [List.length_cons] at hm3 ⊢; unfold maxLen at hm3; clear hown3 hcells hb3))
          go_ret3
          rw [HN.out] at HU
          exact RefAppended.own HU.out HO3.out HB3.out

theorem append24 (L K : Int) (A : Option Addr) (n c : Nat) (bs : List Bs) (r : Bs) (w : World) (h : StrsAt w A n bs) (hn : n ≤ 100000) (hb : ∀ b ∈ bs, b.length ≤ 60000) (hr : r.length ≤ 100000) :
    Calls Tryd.prog 24 #[.int .i64 L, .int .i64 K, .slice A n c, .string ⟨r.toArray⟩] w (RefAppended L K bs r w) := by
  by_cases hv : vok L K = true
  · obtain ⟨l, k, rfl, rfl, hl, hk⟩ := vok_nat hv
    exact append24_ok l k A n c bs r w hl hk h hn hb hr
  · exact append24_bad L K A n c bs r w (by simpa using hv)
end Go.Proofs.YtabpgfcmfflceaaDoor
