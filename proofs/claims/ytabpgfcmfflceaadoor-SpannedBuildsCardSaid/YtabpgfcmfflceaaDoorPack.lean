/- The walk of Pack and of what it calls: it returns the blocks of the records as 'packP' packs them, or an error. -/
import Derived.Test.YtabpgfcmfflceaaDoorMore
namespace Go.Proofs.YtabpgfcmfflceaaDoor
open Go.RowKit P12 Go.Sort
attribute [local go_sem] ByteArray.mk_append_mk ByteArray.extract_mk mk_index

set_option maxHeartbeats 400000 in
theorem longer30 (s : Bs) (gl : Nat) (L : Int) (w : World) (h : w.cell? ⟨gl, 0, none⟩ = some (.int .i64 L)) :
    Calls Tryd.prog 30 #[.string ⟨s.toArray⟩, .pointer (some ⟨gl, 0, none⟩)] w fun e w' => e = .returned (.bool (decide (L < (s.length : Int)))) ∧ w = w' := by
  by_cases hlt : L < (s.length : Int)
  · have hd : decide (L < (s.length : Int)) = true := decide_eq_true hlt
    go_enter Tryd.func30, Tryd.ntmps30
    go_wp2
    go_ret
    exact ⟨retBool (by first | exact hd.symm | rfl), rfl⟩
  · have hd : decide (L < (s.length : Int)) = false := decide_eq_false hlt
    go_enter Tryd.func30, Tryd.ntmps30
    go_wp2
    go_ret
    exact ⟨retBool (by first | exact hd.symm | rfl), rfl⟩

/-- Whether some record is too long. -/
def bad (L : Int) (ss : List Bs) : Bool := ss.any fun s => decide (L < (s.length : Int))
theorem bad_at {L : Int} {ss : List Bs} {k : Nat} {s : Bs} (h : ss[k]? = some s) (hl : L < (s.length : Int)) : bad L ss = true := by
  unfold bad
  rw [List.any_eq_true]
  exact ⟨s, List.mem_of_getElem? h, by simpa using hl⟩
theorem bad_none {L : Int} {ss : List Bs} {n : Nat} (hn : ss.length = n) (h : ∀ j s, j < n → ss[j]? = some s → (s.length : Int) ≤ L) : bad L ss = false := by
  unfold bad
  rw [List.any_eq_false]
  intro s hs
  obtain ⟨j, hj⟩ := List.mem_iff_getElem?.1 hs
  have := h j s (by have := (List.getElem?_eq_some_iff.1 hj).1; omega) hj
  simp; omega
theorem bad_false {L : Int} {ss : List Bs} (h : bad L ss = false) : ∀ s ∈ ss, (s.length : Int) ≤ L := by
  intro s hs
  unfold bad at h
  have := List.any_eq_false.1 h s hs
  simpa using this

def Index36 (L : Int) (ss : List Bs) (w : World) (e : Ending) (w' : World) : Prop := ∃ r : Int, e = .returned (.int .i64 r) ∧ decide (0 ≤ r) = bad L ss ∧ w = w'

set_option maxHeartbeats 400000 in
theorem index36 (A : Option Addr) (n c : Nat) (ss : List Bs) (gl : Nat) (L : Int) (w : World) (h : StrsAt w A n ss) (hn : n ≤ maxLen) (hg : w.cell? ⟨gl, 0, none⟩ = some (.int .i64 L)) :
    Calls Tryd.prog 36 #[.slice A n c, .func (.func 30) #[] #[.pointer (some ⟨gl, 0, none⟩)]] w (Index36 L ss w) := by
  unfold maxLen at hn
  have H := Lib.hid h
  have HG := Lib.hid hg
  clear h hg
  go_enter Tryd.func36, Tryd.ntmps36
  go_wp2
  go_loop [8] (fun i => ∃ k : Nat, k ≤ n ∧ i = .int .i64 k ∧ Hid (∀ j s, j < k → ss[j]? = some s → (s.length : Int) ≤ L)) (fun i => n - (intOf i).toNat)
  case atStart => exact ⟨0, Nat.zero_le _, rfl, fun j s hj => absurd hj (by omega)⟩
  case round =>
    obtain ⟨k, hk, rfl, hall⟩ := hrel
    by_cases hlt : k < n
    · obtain ⟨b, off, s, rfl, hs, hc⟩ := H.out.at_ hlt
      have HS := Lib.hid hs
      clear hs
      by_cases hgt : L < (s.length : Int)
      · have hd : decide (L < (s.length : Int)) = true := decide_eq_true hgt
        go_wp2_with (go_at_call 30; refine (longer30 _ _ _ _ HG.out).mono ?_; rintro e w' ⟨rfl, rfl⟩)
        go_ret
        exact ⟨k, rfl, by rw [bad_at HS.out hgt]; simp, rfl⟩
      · have hd : decide (L < (s.length : Int)) = false := decide_eq_false hgt
        go_wp2_with (go_at_call 30; refine (longer30 _ _ _ _ HG.out).mono ?_; rintro e w' ⟨rfl, rfl⟩)
        go_round
        case rel =>
          refine ⟨k + 1, by omega, by go_num, ?_⟩
          intro j s' hj hs'
          by_cases hjk : j = k
          · subst hjk
            have := HS.out.symm.trans hs'
            simp only [Option.some.injEq] at this
            subst this
            omega
          · exact hall.out j s' (by omega) hs'
        case measure => simp [intOf]; omega
    · have hkn : k = n := by omega
      subst hkn
      go_wp2
      go_ret
      exact ⟨-1, rfl, by rw [bad_none H.out.len hall.out]; decide, rfl⟩

set_option maxHeartbeats 400000 in
theorem contains29 (A : Option Addr) (n c : Nat) (ss : List Bs) (gl : Nat) (L : Int) (w : World) (h : StrsAt w A n ss) (hn : n ≤ maxLen) (hg : w.cell? ⟨gl, 0, none⟩ = some (.int .i64 L)) :
    Calls Tryd.prog 29 #[.slice A n c, .func (.func 30) #[] #[.pointer (some ⟨gl, 0, none⟩)]] w fun e w' => e = .returned (.bool (bad L ss)) ∧ w = w' := by
  have H := Lib.hid h
  clear h
  go_enter Tryd.func29, Tryd.ntmps29
  go_wp2_with (go_at_call 36; refine (index36 _ _ _ _ _ _ _ H.out hn hg).mono ?_; rintro e w' ⟨r, rfl, hr, rfl⟩; have HR := Lib.hid hr; clear hr)
  go_ret
  exact ⟨retBool (by rw [← HR.out]), rfl⟩

/-- The error of a packing. -/
def packErr (L K : Int) (rs : List Bs) : Int := if vok L K then (if bad L rs then 2 else 0) else 1
/-- The blocks of a packing. -/
def packOut (L K : Int) (rs : List Bs) : List Bs := if packErr L K rs = 0 then packP K.toNat rs else []
theorem vok_nat {L K : Int} (h : vok L K = true) : ∃ l k : Nat, L = l ∧ K = k ∧ (1 ≤ l ∧ l ≤ 1000) ∧ (9 ≤ k ∧ k ≤ 1024) := by
  unfold vok at h
  simp only [Bool.and_eq_true, decide_eq_true_eq] at h
  exact ⟨L.toNat, K.toNat, by omega, by omega, by omega, by omega⟩
theorem nat_vok {l k : Nat} (hl : 1 ≤ l ∧ l ≤ 1000) (hk : 9 ≤ k ∧ k ≤ 1024) : vok l k = true := by unfold vok; simp; omega
theorem packErr_bad {L K : Int} {rs : List Bs} (hv : vok L K = false) : packErr L K rs = 1 ∧ packOut L K rs = [] := by
  have h0 : packErr L K rs = 1 := by unfold packErr; rw [if_neg (by rw [hv]; simp)]
  exact ⟨h0, by unfold packOut; rw [h0]; rfl⟩
theorem packErr_long {L K : Int} {rs : List Bs} (hv : vok L K = true) (hb : bad L rs = true) : packErr L K rs = 2 ∧ packOut L K rs = [] := by
  have h0 : packErr L K rs = 2 := by unfold packErr; rw [if_pos hv, if_pos hb]
  exact ⟨h0, by unfold packOut; rw [h0]; rfl⟩
theorem packErr_ok {L K : Int} {rs : List Bs} (hv : vok L K = true) (hb : bad L rs = false) : packErr L K rs = 0 ∧ packOut L K rs = packP K.toNat rs := by
  have h0 : packErr L K rs = 0 := by unfold packErr; rw [if_pos hv, if_neg (by rw [hb]; simp)]
  exact ⟨h0, by unfold packOut; rw [if_pos h0]⟩

/-- What the call leaves. -/
def Packed (L K : Int) (rs : List Bs) (w : World) (e : Ending) (w' : World) : Prop :=
  ∃ v, e = .returned (.tuple #[v, .int .i64 (packErr L K rs)]) ∧ OwnS w' w.heap.size 9 v (packOut L K rs) ∧ Below w.heap.size w w'

set_option maxHeartbeats 400000 in
theorem pack13_bad (L K : Int) (A : Option Addr) (n c : Nat) (rs : List Bs) (w : World) (hv : vok L K = false) :
    Calls Tryd.prog 13 #[.int .i64 L, .int .i64 K, .slice A n c] w (Packed L K rs w) := by
  have HP := Lib.hid (packErr_bad (rs := rs) hv)
  have HV := Lib.hid hv
  clear hv
  go_enter Tryd.func13, Tryd.ntmps13
  go_wp2_with (go_at_call 15; refine (valid15 _ _ _).mono ?_; rintro e w' ⟨rfl, rfl⟩; rw [HV.out])
  go_ret2
  exact ⟨_, by rw [HP.out.1]; rfl, by rw [HP.out.2]; exact OwnS.nil _ _ _, below_alloc (Below.refl _ _) _⟩

set_option maxHeartbeats 400000 in
theorem pack13_long (L K : Int) (A : Option Addr) (n c : Nat) (rs : List Bs) (w : World) (hv : vok L K = true) (hb : bad L rs = true) (h : StrsAt w A n rs) (hn : n ≤ maxLen) :
    Calls Tryd.prog 13 #[.int .i64 L, .int .i64 K, .slice A n c] w (Packed L K rs w) := by
  have hmf : ∀ (fn : Fn) (first cap : Array Value) (w : World), (Instr.makeFunc fn first cap).run Tryd.prog w = .ok (.func fn first cap) w := fun _ _ _ _ => rfl
  have HP := Lib.hid (packErr_long hv hb)
  have HV := Lib.hid hv
  have HB := Lib.hid hb
  have H1 := Lib.hid (h.below (below_alloc (Below.refl _ _) (.cells #[.int .i64 L] 3)))
  have hc : (w.alloc (.cells #[.int .i64 L] 3)).cell? ⟨w.heap.size, 0, none⟩ = some (.int .i64 L) := (Blk.new w 3 #[.int .i64 L]).cell 0
  have HC := Lib.hid hc
  clear hv hb h hc
  go_enter Tryd.func13, Tryd.ntmps13
  go_wp2_with (first | (go_at_call 15; refine (valid15 _ _ _).mono ?_; rintro e w' ⟨rfl, rfl⟩; rw [HV.out]) | (go_at_call 29; refine (contains29 _ _ _ _ _ _ _ H1.out hn HC.out).mono ?_; rintro e w' ⟨rfl, rfl⟩; rw [HB.out]))
  go_ret2
  exact ⟨_, by rw [HP.out.1]; rfl, by rw [HP.out.2]; exact OwnS.nil _ _ _, below_alloc (Below.refl _ _) _⟩

set_option maxRecDepth 100000 in
set_option maxHeartbeats 2000000 in
theorem pack13_ok (L K : Nat) (A : Option Addr) (n c : Nat) (rs : List Bs) (w : World) (C : Codes w) (hL : 1 ≤ L ∧ L ≤ 1000) (hK : 9 ≤ K ∧ K ≤ 1024) (hb : bad L rs = false) (h : StrsAt w A n rs) (hT : total rs ≤ 900000) :
    Calls Tryd.prog 13 #[.int .i64 L, .int .i64 K, .slice A n c] w (Packed L K rs w) := by
  have hmf : ∀ (fn : Fn) (first cap : Array Value) (w : World), (Instr.makeFunc fn first cap).run Tryd.prog w = .ok (.func fn first cap) w := fun _ _ _ _ => rfl
  have HV := Lib.hid (nat_vok hL hK)
  have HP := Lib.hid (packErr_ok HV.out hb)
  have hrl : ∀ s ∈ rs, s.length ≤ L := fun s hs => by have := bad_false hb s hs; omega
  have HRL := Lib.hid hrl
  have HB := Lib.hid hb
  have HN := Lib.hid h.len
  have hn : n ≤ 900000 := by have := length_total rs; have := h.len; omega
  have hbx := below_alloc (Below.refl w.heap.size w) (.cells #[.int .i64 (L : Int)] 3)
  have H1 := Lib.hid (h.below hbx)
  have hc : (w.alloc (.cells #[.int .i64 (L : Int)] 3)).cell? ⟨w.heap.size, 0, none⟩ = some (.int .i64 L) := (Blk.new w 3 #[.int .i64 (L : Int)]).cell 0
  have HC := Lib.hid hc
  have H := Lib.hid h
  have HBX := Lib.hid hbx
  clear hb hc hrl h hbx
  obtain ⟨i0, hi0, hz0, hz1, hz2⟩ := info_parts info9
  have HI := Lib.hid hi0
  have HZ0 := Lib.hid hz0
  have HZ1 := Lib.hid hz1
  have HZ2 := Lib.hid hz2
  clear hi0 hz0 hz1 hz2
  go_enter Tryd.func13, Tryd.ntmps13
  go_wp2_with (first | (go_at_call 15; refine (valid15 _ _ _).mono ?_; rintro e w' ⟨rfl, rfl⟩; rw [HV.out]) | (go_at_call 29; refine (contains29 _ _ _ _ _ _ _ H1.out (by unfold maxLen; omega) HC.out).mono ?_; rintro e w' ⟨rfl, rfl⟩; rw [HB.out]))
  go_loopw [8, 23] (fun out i wr => ∃ (j : Nat) (ss : List Bs), j ≤ n ∧ i = .int .i64 j ∧ Hid (ss = packP K (rs.take j)) ∧ OwnS wr w.heap.size 9 out ss ∧ Below w.heap.size w wr ∧ ss.length ≤ total (rs.take j) ∧ Hid (∀ b ∈ ss, 8 ≤ b.length ∧ b.length ≤ 1024)) (fun _ i _ => n - (intOf i).toNat)
  case atStart => exact ⟨0, [], Nat.zero_le _, rfl, rfl, OwnS.nil _ _ _, HBX.out, by simp, (fun b hb => by cases hb)⟩
  case round =>
    obtain ⟨j, ss, hj, rfl, hss, hown, hbw, hsl, hbl⟩ := hrel
    have hz := hbw.size
    by_cases hlt : j < n
    · obtain ⟨b, off, s, rfl, hs, hc⟩ := (H.out.below hbw).at_ hlt
      have hsL : s.length ≤ 1000 := by have := HRL.out s (List.mem_of_getElem? hs); omega
      have hnext : packP K (rs.take (j + 1)) = stepP K ss s := by rw [take_snoc hs, packP_snoc, hss.out]
      have htt : total (rs.take (j + 1)) = total (rs.take j) + (s.length + 1) := by rw [take_snoc hs, total_snoc]
      have htl := total_take rs (j + 1)
      have hnl : (packP K (rs.take (j + 1))).length ≤ total (rs.take (j + 1)) := by
        have := length_stepP K ss s
        rw [hnext]
        omega
      have hs9 : ss.length + (s.length + 1) ≤ 900000 := by omega
      clear htt htl
      have hnb : ∀ b ∈ packP K (rs.take (j + 1)), 8 ≤ b.length ∧ b.length ≤ 1024 := fun b hb => by
        have := packP_blocks (L := L) hK (rs := rs.take (j + 1)) (fun r hr => HRL.out r (List.mem_of_mem_take hr)) b hb
        omega
      have HNX := Lib.hid hnext
      have HNL := Lib.hid hnl
      have HNB := Lib.hid hnb
      have CW := Lib.hid (C.below hbw)
      have HOWN := Lib.hid hown
      have HBW := Lib.hid hbw
      clear hs hnext hnl hnb hown hbw
      by_cases h0 : ss = []
      · have HA := Lib.hid (addP_nil K s)
        have HSN := Lib.hid (show stepP K ss s = ss ++ (addP K [] s).2 from by rw [h0]; exact stepP_nil K s)
        have hal := length_addP K [] s
        obtain ⟨A8, n8, c8, rfl, -, hm8, hn8⟩ := HOWN.out.strs
        have h08 : n8 = 0 := by rw [hn8, h0]; rfl
        clear h0 hn8
        subst h08
        go_wp2_with (first | (go_at_call 31; refine (add31 K [] s _ CW.out hK (.inl rfl) (by simp) (by omega)).mono ?_; rintro e w2 ⟨v2, rfl, hown2, hb2⟩; rw [HA.out]; have HO2 := Lib.hid hown2; have HB2 := Lib.hid hb2; clear hown2 hb2) | (at_builtin; refine wpList_append_owns rfl (.tmp 51) (.tmp 52) _ rfl w.heap.size 9 i0 _ Tryd.underlying22 HI.out HZ0.out HZ1.out HZ2.out rfl _ ss rfl (HOWN.out.below HB2.out) v2 wr.heap.size _ rfl HO2.out (by omega) (by have := HB2.out.size; omega) ?_; intro v3 w3 hown3 hb3 _ _))
        go_roundw
        case rel => exact ⟨j + 1, _, by omega, by go_num, (by rw [HNX.out, HSN.out] : ss ++ (addP K [] s).2 = _), hown3, (HBW.out.trans (HB2.out.mono hz)).trans hb3, (by rw [← HSN.out, ← HNX.out]; exact HNL.out), (by rw [← HSN.out, ← HNX.out]; exact HNB.out)⟩
        case measure => simp [intOf]; omega
      · obtain ⟨g8, c8, rfl, hg8, hcells, hfz, hm8⟩ := HOWN.out.row h0
        have hpos : 0 < ss.length := List.length_pos_iff.2 h0
        obtain ⟨last, hlast⟩ : ∃ last, ss.getLast? = some last := ⟨_, List.getLast?_eq_some_getLast h0⟩
        have hlb := hbl.out last (List.mem_of_getLast? hlast)
        have hlne : last ≠ [] := fun e => by rw [e] at hlb; simp at hlb
        have hcl : wr.cell? ⟨g8, ss.length - 1, none⟩ = some (.string ⟨last.toArray⟩) := hcells _ _ (by rw [← List.getLast?_eq_getElem?]; exact hlast)
        have hal := length_addP K last s
        have HFZ := Lib.hid (hfz (ss.length - 1))
        unfold maxLen at hm8
        clear hcells hfz h0
        by_cases hch : (addP K last s).1 = []
        · have HSN := Lib.hid (stepP_stay hlast hlne hch)
          have HCH := Lib.hid hch
          clear hch hlast hlne
          go_wp2_with (first | (go_at_call 31; refine (add31 K last s _ CW.out hK (.inr (by omega)) (by omega) (by omega)).mono ?_; rintro e w2 ⟨v2, rfl, hown2, hb2⟩; rw [HCH.out]; have HO2 := Lib.hid hown2; have HB2 := Lib.hid hb2; clear hown2 hb2) | (at_builtin; refine wpList_append_owns rfl (.tmp 51) (.tmp 52) _ rfl w.heap.size 9 i0 _ Tryd.underlying22 HI.out HZ0.out HZ1.out HZ2.out rfl _ ss rfl (HOWN.out.below HB2.out) v2 wr.heap.size _ rfl HO2.out (by omega) (by have := HB2.out.size; omega) ?_; intro v3 w3 hown3 hb3 _ _))
          go_roundw
          case rel => exact ⟨j + 1, _, by omega, by go_num, (by rw [HNX.out, HSN.out] : ss ++ (addP K last s).2 = _), hown3, (HBW.out.trans (HB2.out.mono hz)).trans hb3, (by rw [← HSN.out, ← HNX.out]; exact HNL.out), (by rw [← HSN.out, ← HNX.out]; exact HNB.out)⟩
          case measure => simp [intOf]; omega
        · have HSN := Lib.hid (stepP_set hlast hch)
          have hce : (addP K last s).1.isEmpty = false := by simpa using hch
          clear hch hlast hlne
          go_wp2_with (first | (go_at_call 31; refine (add31 K last s _ CW.out hK (.inr (by omega)) (by omega) (by omega)).mono ?_; rintro e w2 ⟨v2, rfl, hown2, hb2⟩; have HO2 := Lib.hid hown2; have HB2 := Lib.hid hb2; have hcl2 := (hb2.cell (p := ⟨g8, ss.length - 1, none⟩) (World.block_lt_of_cell? wr _ hcl)).trans hcl; have hfz2 := (hb2.frozen (p := ⟨g8, ss.length - 1, none⟩) (World.block_lt_of_cell? wr _ hcl)).trans HFZ.out; clear hown2 hb2) | (at_builtin; refine wpList_append_owns rfl (.tmp 51) (.tmp 52) _ rfl w.heap.size 9 i0 _ Tryd.underlying22 HI.out HZ0.out HZ1.out HZ2.out rfl _ (ss.set (ss.length - 1) (addP K last s).1) rfl ((HOWN.out.below HB2.out).stored rfl (ss.length - 1) _) v2 wr.heap.size _ rfl (HO2.out.setCell (fun e => by have := (HO2.out.lt _ e).1; have := (HOWN.out.lt g8 rfl).2; simp at *; omega) _) (by simp; omega) (by have := HB2.out.size; simp; omega) ?_; intro v3 w3 hown3 hb3 _ _))
          go_roundw
          case rel => exact ⟨j + 1, _, by omega, by go_num, (by rw [HNX.out, HSN.out] : ss.set (ss.length - 1) (addP K last s).1 ++ (addP K last s).2 = _), hown3, ((HBW.out.trans (HB2.out.mono hz)).setCell hg8 _).trans hb3, (by rw [← HSN.out, ← HNX.out]; exact HNL.out), (by rw [← HSN.out, ← HNX.out]; exact HNB.out)⟩
          case measure => simp [intOf]; omega
    · have hjn : j = n := by omega
      subst hjn
      have HE := Lib.hid (show packOut L K rs = ss from by rw [HP.out.2, hss.out, List.take_of_length_le (by rw [HN.out]; exact Nat.le_refl _)]; rfl)
      go_wp2
      go_ret2
      exact ⟨_, by rw [HP.out.1]; rfl, by rw [HE.out]; exact hown, hbw⟩

theorem pack13 (L K : Int) (A : Option Addr) (n c : Nat) (rs : List Bs) (w : World) (C : Codes w) (h : StrsAt w A n rs) (hT : total rs ≤ 900000) :
    Calls Tryd.prog 13 #[.int .i64 L, .int .i64 K, .slice A n c] w (Packed L K rs w) := by
  by_cases hv : vok L K = true
  · obtain ⟨l, k, rfl, rfl, hl, hk⟩ := vok_nat hv
    by_cases hb : bad l rs = true
    · exact pack13_long l k A n c rs w hv hb h (by have := length_total rs; have := h.len; unfold maxLen; omega)
    · exact pack13_ok l k A n c rs w C hl hk (by simpa using hb) h hT
  · exact pack13_bad L K A n c rs w (by simpa using hv)
end Go.Proofs.YtabpgfcmfflceaaDoor
