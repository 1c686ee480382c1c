/- The walk of Append: where the new blocks begin, the blocks, or an error. -/
import Derived.Test.YtabpgfcmfflceaaDoorSegWalk
import Derived.Test.YtabpgfcmfflceaaDoorRefPut
namespace P12
theorem recs_ne {L : Nat} {full fst : Bool} {f : Bs} {ls : List Seg} (hf : f ≠ []) (h : recs L full fst f = some ls) : ls ≠ [] := by
  cases hh : head L f with
  | none => rw [recs_stop hf hh] at h; cases h
  | some x =>
    obtain ⟨x, rest⟩ := x
    rw [recs_step hf hh] at h
    split at h
    · cases h
    · obtain ⟨ms, hm, rfl⟩ := Option.map_eq_some_iff.1 h
      simp
theorem segs_facts {L K : Nat} {d : Bs} {ls : List Seg} (h : segs L K d = some ls) : ls ≠ [] ∧ 8 ≤ d.length ∧ d.length ≤ K := by
  rw [segs_eq] at h
  split at h
  · cases h
  · rename_i hc
    have h8 : 8 ≤ d.length := by omega
    refine ⟨recs_ne (fun e => ?_) h, h8, by omega⟩
    have := congrArg List.length e
    simp at this
    omega
/-- What Append returns: where the new blocks begin, the blocks, the error. -/
def appR (L K : Nat) (bs : List Bs) (r : Bs) : Int × List Bs × Int :=
  if L < r.length then (0, [], 2)
  else match bs.getLast? with
    | none => (0, tl K false r, 0)
    | some last => match segs L K last with
      | none => (0, [], 11)
      | some ls => if (ls.getLast?.map (·.a)) = some true then (0, [], 11)
        else if (addP K last r).1 = [] then (bs.length, (addP K last r).2, 0)
        else ((bs.length : Int) - 1, (addP K last r).1 :: (addP K last r).2, 0)
end P12
namespace Go.Proofs.YtabpgfcmfflceaaDoor
open Go.RowKit P12 Go.Sort
attribute [local go_sem] ByteArray.mk_append_mk ByteArray.extract_mk mk_index

def appI (L K : Int) (bs : List Bs) (r : Bs) : Int × List Bs × Int := if vok L K then appR L.toNat K.toNat bs r else (0, [], 1)
theorem appI_bad {L K : Int} {bs : List Bs} {r : Bs} (hv : vok L K = false) : appI L K bs r = (0, [], 1) := by unfold appI; rw [hv]; rfl
theorem appI_ok {L K : Nat} {bs : List Bs} {r : Bs} (hv : vok (L : Int) (K : Int) = true) : appI L K bs r = appR L K bs r := by unfold appI; rw [hv]; rfl
def Appended (L K : Int) (bs : List Bs) (r : Bs) (w : World) (en : Ending) (w' : World) : Prop :=
  ∃ v, en = .returned (.tuple #[.int .i64 (appI L K bs r).1, v, .int .i64 (appI L K bs r).2.2]) ∧ OwnS w' w.heap.size 9 v (appI L K bs r).2.1 ∧ Below w.heap.size w w'
theorem Appended.fail {L K : Int} {bs : List Bs} {r : Bs} {w w' : World} {x : Int} (h : appI L K bs r = (0, [], x)) (hb : Below w.heap.size w w') : Appended L K bs r w (.returned (.tuple #[.int .i64 0, .slice none 0 0, .int .i64 x])) w' :=
  ⟨_, by rw [h], by rw [h]; exact OwnS.nil _ _ _, hb⟩
theorem last_row {w : World} {B : Nat} {e : TypeId} {v : Value} {ls : List Seg} {l : Seg} (h : OwnG w B e v ls) (hl : ls.getLast? = some l) :
    ∃ g c, v = .slice (some ⟨g, 0, none⟩) ls.length c ∧ 0 < ls.length ∧ ls.length ≤ maxLen ∧ w.cell? ⟨g, (ls.length - 1) * 3 + 1, none⟩ = some (.bool l.a) := by
  have hne : ls ≠ [] := fun e => by rw [e] at hl; cases hl
  have hpos : 0 < ls.length := List.length_pos_iff.2 hne
  obtain ⟨A, c, rfl, hs, hm⟩ := h.cells
  rcases h.2 with ⟨h0, h1⟩ | ⟨g, cap, cur, h0, _, hg, h1, h2, _⟩
  · omega
  · injection h0 with e1 e2 e3
    subst e1
    obtain ⟨b, off, s, hA, hk, -, h1, -⟩ := hs.at_ (k := ls.length - 1) (by omega)
    injection hA with hA
    injection hA with hA1 hA2
    subst hA1 hA2
    rw [List.getLast?_eq_getElem?] at hl
    rw [hl] at hk
    simp only [Option.some.injEq] at hk
    subst hk
    rw [Nat.zero_add] at h1
    exact ⟨_, c, rfl, hpos, hm, h1⟩

set_option maxHeartbeats 400000 in
theorem append23_bad (L K : Int) (A : Option Addr) (n c : Nat) (bs : List Bs) (r : Bs) (w : World) (hv : vok L K = false) : Calls Tryd.prog 23 #[.int .i64 L, .int .i64 K, .slice A n c, .string ⟨r.toArray⟩] w (Appended L K bs r w) := by
  have HU := Lib.hid (appI_bad (bs := bs) (r := r) hv)
  have HV := Lib.hid hv
  clear hv
  go_enter Tryd.func23, Tryd.ntmps23
  go_wp2_with (go_at_call 15; refine (valid15 _ _ _).mono ?_; rintro e w' ⟨rfl, rfl⟩; rw [HV.out])
  go_ret3
  exact Appended.fail HU.out (Below.refl _ _)

set_option maxRecDepth 100000 in
set_option maxHeartbeats 2000000 in
theorem append23_ok (L K : Nat) (A : Option Addr) (n c : Nat) (bs : List Bs) (r : Bs) (w : World) (C : Codes w) (hL : 1 ≤ L ∧ L ≤ 1000) (hK : 9 ≤ K ∧ K ≤ 1024) (h : StrsAt w A n bs) (hn : n ≤ 100000) (hb : ∀ b ∈ bs, b.length ≤ 100000) (hr : r.length ≤ 100000) :
    Calls Tryd.prog 23 #[.int .i64 L, .int .i64 K, .slice A n c, .string ⟨r.toArray⟩] w (Appended L K bs r w) := by
  have HV := Lib.hid (nat_vok hL hK)
  have HA := Lib.hid (appI_ok (bs := bs) (r := r) HV.out)
  have HN := Lib.hid h.len
  have H := Lib.hid h
  have HBL := Lib.hid hb
  clear h hb
  obtain ⟨i0, hi0, hz0, hz1, hz2⟩ := info_parts info9
  have HI := Lib.hid hi0
  have HZ0 := Lib.hid hz0
  have HZ1 := Lib.hid hz1
  have HZ2 := Lib.hid hz2
  clear hi0 hz0 hz1 hz2
  by_cases hlr : L < r.length
  · have HU := Lib.hid (show appI L K bs r = (0, [], 2) from by rw [HA.out]; unfold appR; rw [if_pos hlr])
    go_enter Tryd.func23, Tryd.ntmps23
    go_wp2_with (go_at_call 15; refine (valid15 _ _ _).mono ?_; rintro e w' ⟨rfl, rfl⟩; rw [HV.out])
    go_ret3
    exact Appended.fail HU.out (Below.refl _ _)
  have hrl : r.length ≤ 1000 := by omega
  cases hlast : bs.getLast? with
  | none =>
    have h0 : bs = [] := List.getLast?_eq_none_iff.1 hlast
    obtain rfl : n = 0 := by rw [← HN.out, h0]; rfl
    have HU := Lib.hid (show appI L K bs r = (0, tl K false r, 0) from by rw [HA.out]; unfold appR; rw [if_neg hlr, hlast])
    have HD := Lib.hid (show (addP K [] r).2 = tl K false r from by unfold addP; rw [if_pos rfl])
    have HC := Lib.hid (addP_nil K r)
    clear h0 hlast
    go_enter Tryd.func23, Tryd.ntmps23
    go_wp2_with (first | (go_at_call 15; refine (valid15 _ _ _).mono ?_; rintro e w' ⟨rfl, rfl⟩; rw [HV.out]) | (go_at_call 31; refine (add31 K [] r _ C hK (.inl rfl) (by simp) (by omega)).mono ?_; rintro e w2 ⟨v2, rfl, hown2, hb2⟩; rw [HC.out]; rw [HD.out] at hown2))
    go_ret3
    exact ⟨_, by rw [HU.out]; rfl, by rw [HU.out]; exact hown2, hb2⟩
  | some last =>
    have hne : bs ≠ [] := fun e => by rw [e] at hlast; cases hlast
    have hpos : 0 < n := by rw [← HN.out]; exact List.length_pos_iff.2 hne
    have hmem := List.mem_of_getLast? hlast
    have hbl := HBL.out last hmem
    obtain ⟨b, off, s, rfl, hs, hc⟩ := H.out.at_ (k := n - 1) (by omega)
    have hsl : s = last := by
      rw [List.getLast?_eq_getElem?, HN.out] at hlast
      rw [hlast] at hs
      exact (Option.some.inj hs).symm
    subst hsl
    cases hsg : segs L K s with
    | none =>
      have HU := Lib.hid (show appI L K bs r = (0, [], 11) from by rw [HA.out]; unfold appR; rw [if_neg hlr, hlast]; dsimp only; rw [hsg])
      have HE := Lib.hid (seg_none HV.out hsg)
      clear hsg hlast hs hne
      go_enter Tryd.func23, Tryd.ntmps23
      go_wp2_with (first | (go_at_call 15; refine (valid15 _ _ _).mono ?_; rintro e w' ⟨rfl, rfl⟩; rw [HV.out]) | (go_at_call 18; refine (segs18 _ _ _ _ C (by omega)).mono ?_; rintro e w2 ⟨v2, rfl, hown2, hb2⟩; rw [HE.out.1]))
      go_ret3
      exact Appended.fail HU.out hb2
    | some ls =>
      obtain ⟨hlne, h8, hsK⟩ := segs_facts hsg
      have HE := Lib.hid (seg_some HV.out hsg)
      obtain ⟨l, hl⟩ : ∃ l, ls.getLast? = some l := ⟨_, List.getLast?_eq_some_getLast hlne⟩
      have HL := Lib.hid hl
      by_cases hla : l.a = true
      · have HU := Lib.hid (show appI L K bs r = (0, [], 11) from by rw [HA.out]; unfold appR; rw [if_neg hlr, hlast]; dsimp only; rw [hsg]; dsimp only; rw [hl]; simp [hla])
        have HLA := Lib.hid hla
        clear hsg hlast hs hne hl hlne hla
        go_enter Tryd.func23, Tryd.ntmps23
        go_wp2_with (first | (go_at_call 15; refine (valid15 _ _ _).mono ?_; rintro e w' ⟨rfl, rfl⟩; rw [HV.out]) | (go_at_call 18; refine (segs18 _ _ _ _ C (by omega)).mono ?_; rintro e w2 ⟨v2, rfl, hown2, hb2⟩; rw [HE.out.1]; rw [HE.out.2] at hown2; obtain ⟨g2, c2, rfl, hp2, hm2, hc2⟩ := last_row hown2 HL.out; rw [HLA.out] at hc2; unfold maxLen at hm2; clear hown2))
        go_ret3
        exact Appended.fail HU.out hb2
      · have hlf : l.a = false := by simpa using hla
        have HLA := Lib.hid hlf
        have hal := length_addP K s r
        by_cases hch : (addP K s r).1 = []
        · have HU := Lib.hid (show appI L K bs r = ((bs.length : Int), (addP K s r).2, 0) from by rw [HA.out]; unfold appR; rw [if_neg hlr, hlast]; dsimp only; rw [hsg]; dsimp only; rw [hl, if_neg (by simp [hlf]), if_pos hch])
          have HC := Lib.hid hch
          clear hsg hlast hs hne hl hlne hla hlf hch
          go_enter Tryd.func23, Tryd.ntmps23
          go_wp2_with (first | (go_at_call 15; refine (valid15 _ _ _).mono ?_; rintro e w' ⟨rfl, rfl⟩; rw [HV.out]) | (go_at_call 18; refine (segs18 _ _ _ _ C (by omega)).mono ?_; rintro e w2 ⟨v2, rfl, hown2, hb2⟩; rw [HE.out.1]; rw [HE.out.2] at hown2; obtain ⟨g2, c2, rfl, hp2, hm2, hc2⟩ := last_row hown2 HL.out; rw [HLA.out] at hc2; unfold maxLen at hm2; have CW := Lib.hid (C.below hb2); have HB2 := Lib.hid hb2; clear hown2 hb2) | (go_at_call 31; refine (add31 K s r _ CW.out hK (.inr (by omega)) (by omega) (by omega)).mono ?_; rintro e w3 ⟨v3, rfl, hown3, hb3⟩; rw [HC.out]))
          go_ret3
          exact ⟨_, by rw [HU.out, HN.out]; rfl, by rw [HU.out]; exact hown3.base HB2.out.size, below_then HB2.out hb3⟩
        · have HU := Lib.hid (show appI L K bs r = ((bs.length : Int) - 1, (addP K s r).1 :: (addP K s r).2, 0) from by rw [HA.out]; unfold appR; rw [if_neg hlr, hlast]; dsimp only; rw [hsg]; dsimp only; rw [hl, if_neg (by simp [hlf]), if_neg hch])
          have hce : (addP K s r).1.isEmpty = false := by simpa using hch
          clear hsg hlast hs hne hl hlne hla hlf hch
          go_enter Tryd.func23, Tryd.ntmps23
          go_wp2_with (first | (go_at_call 15; refine (valid15 _ _ _).mono ?_; rintro e w' ⟨rfl, rfl⟩; rw [HV.out]) | (go_at_call 18; refine (segs18 _ _ _ _ C (by omega)).mono ?_; rintro e w2 ⟨v2, rfl, hown2, hb2⟩; rw [HE.out.1]; rw [HE.out.2] at hown2; obtain ⟨g2, c2, rfl, hp2, hm2, hc2⟩ := last_row hown2 HL.out; rw [HLA.out] at hc2; unfold maxLen at hm2; have CW := Lib.hid (C.below hb2); have HB2 := Lib.hid hb2; clear hown2 hb2) | (go_at_call 31; refine (add31 K s r _ CW.out hK (.inr (by omega)) (by omega) (by omega)).mono ?_; rintro e w3 ⟨v3, rfl, hown3, hb3⟩; have HB3 := Lib.hid (below_then HB2.out hb3); have HO3 := Lib.hid ((hown3.base HB2.out.size).alloc (.cells #[.string ⟨(addP K s r).1.toArray⟩] 9)); have HO1 := Lib.hid (OwnS.lit1 w3 w.heap.size 9 (addP K s r).1 HB3.out.size); have HZ3 := Lib.hid (show w.heap.size ≤ (w3.alloc (.cells #[.string ⟨(addP K s r).1.toArray⟩] 9)).heap.size from by have := HB3.out.size; simp; omega); clear hown3 hb3) | (at_builtin; refine wpList_append_owns rfl (.tmp 65) (.tmp 66) _ rfl w.heap.size 9 i0 _ Tryd.underlying22 HI.out HZ0.out HZ1.out HZ2.out rfl _ [(addP K s r).1] rfl HO1.out v3 w.heap.size _ rfl HO3.out (by simp; omega) HZ3.out ?_; intro v5 w5 hown5 hb5 _ _))
          go_ret3
          exact ⟨_, by rw [HU.out, HN.out]; rfl, by rw [HU.out]; exact hown5, (below_alloc HB3.out _).trans hb5⟩

theorem append23 (L K : Int) (A : Option Addr) (n c : Nat) (bs : List Bs) (r : Bs) (w : World) (C : Codes w) (h : StrsAt w A n bs) (hn : n ≤ 100000) (hb : ∀ b ∈ bs, b.length ≤ 100000) (hr : r.length ≤ 100000) :
    Calls Tryd.prog 23 #[.int .i64 L, .int .i64 K, .slice A n c, .string ⟨r.toArray⟩] w (Appended L K bs r w) := by
  by_cases hv : vok L K = true
  · obtain ⟨l, k, rfl, rfl, hl, hk⟩ := vok_nat hv
    exact append23_ok l k A n c bs r w C hl hk h hn hb hr
  · exact append23_bad L K A n c bs r w (by simpa using hv)
end Go.Proofs.YtabpgfcmfflceaaDoor
