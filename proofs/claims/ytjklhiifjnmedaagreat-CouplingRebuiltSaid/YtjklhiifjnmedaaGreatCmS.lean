/- exports, Rebuild: a facility is given the locks that systems know. Rebuild: a facility that has lost its locks is given those that systems know. do: an act on a facility. -/
import Derived.Test.YtjklhiifjnmedaaGreatCmF
import Derived.Test.YtjklhiifjnmedaaGreatLkWf
import Derived.Test.YtjklhiifjnmedaaGreatCmG
namespace Go.Proofs.YtjklhiifjnmedaaGreat
open Go.RowKit Go.Maps P16 P46
attribute [local go_sem] ByteArray.mk_append_mk ByteArray.extract_mk mk_index

def expTo (F : P52.Fs) : Nat → List Lock
  | 0 => []
  | k + 1 => expTo F k ++ P52.exportL F ((k : Int) + 1)
theorem expTo_all (F : P52.Fs) : expTo F 4 = P52.exportsL F := by
  unfold P52.exportsL
  simp [expTo]
theorem expTo_len (F : P52.Fs) : ∀ k, (expTo F k).length ≤ k * F.s.h.length
  | 0 => by simp [expTo]
  | k + 1 => by
    have h1 := expTo_len F k
    have h2 : (P52.exportL F ((k : Int) + 1)).length ≤ F.s.h.length := List.length_filter_le _ _
    rw [expTo, List.length_append, Nat.succ_mul]
    omega
set_option maxRecDepth 100000 in
set_option maxHeartbeats 1000000 in
theorem cfExports (B b : Nat) (F : P52.Fs) (S : Nat → Prop) (w : World) (n : Nat) (hf : Fac w B b F S) (ok : P52.Ok F n) (hn : n < 90000) :
    Calls Tryz.prog 19 #[.pointer (some ⟨b, 0, none⟩)] w fun e w' => ∃ v, e = .returned v ∧ OwnL w' w.heap.size 30 v (P52.exportsL F) ∧ Below w.heap.size w w' := by
  have HF := Lib.hid hf
  have HOK := Lib.hid ok
  obtain ⟨i0, hi0, hz0, hz1, hz2⟩ := info_parts infoL
  have HI := Lib.hid hi0
  have HZ0 := Lib.hid hz0
  have HZ1 := Lib.hid hz1
  have HZ2 := Lib.hid hz2
  have HN := Lib.hid hn
  clear hi0 hz0 hz1 hz2 hf ok hn
  go_enter Tryz.func19, Tryz.ntmps19
  go_wp2
  go_loopw [3, 4] (fun v i wr => ∃ k : Nat, k ≤ 4 ∧ i = .int .i64 (k + 1) ∧ OwnL wr w.heap.size 30 v (expTo F k) ∧ Below w.heap.size w wr) (fun _ i _ => 6 - (intOf i).toNat)
  case atStart => exact ⟨0, by omega, by simp, OwnL.nil _ _ _, Below.refl _ _⟩
  case round =>
    obtain ⟨k, hk, rfl, ho, hbw⟩ := hrel
    have HO := Lib.hid ho
    have HB := Lib.hid hbw
    clear ho hbw
    by_cases hlt : k < 4
    · have HLN := Lib.hid (show (expTo F k).length + (P52.exportL F ((k : Int) + 1)).length ≤ 1000000 from by
        have h1 := expTo_len F k
        have h2 : (P52.exportL F ((k : Int) + 1)).length ≤ F.s.h.length := List.length_filter_le _ _
        have h3 := HOK.out.len
        have h4 := HN.out
        have h5 : k * F.s.h.length ≤ 4 * F.s.h.length := Nat.mul_le_mul_right _ hk
        omega)
      have HX := Lib.hid (show expTo F (k + 1) = expTo F k ++ P52.exportL F ((k : Int) + 1) from rfl)
      obtain ⟨A9, c9, rfl, -, -⟩ := HO.out.cells
      go_wp2_with (first | (go_at_call 34; refine (cfExport ((k : Int) + 1) B b F S wr n (HF.out.below HB.out) HOK.out HN.out).mono ?_; rintro e w2 ⟨v2, rfl, ho2, hb2⟩; have HO2 := Lib.hid (HO.out.below hb2); have HB2 := Lib.hid (HB.out.trans (hb2.mono HB.out.size)); obtain ⟨A2, c2, rfl, hs2, -⟩ := ho2.cells; have HS2 := Lib.hid hs2; have HL2 := Lib.hid ho2.nilLen; clear ho2 hb2 hs2) | (at_builtin; refine wpList_append_locks rfl (.tmp 9) (.tmp 12) _ rfl w.heap.size 30 i0 _ 64 Tryz.underlying41 HI.out HZ0.out HZ1.out HZ2.out rfl (by omega) _ (expTo F k) rfl HO2.out _ A2 _ c2 rfl HL2.out HS2.out HLN.out HB2.out.size ?_; intro v3 w3 hown3 hg3 hat3; have HO3 := Lib.hid hown3; have HB3 := Lib.hid (HB2.out.grown hg3 HB2.out.size (fun x hx => (HO2.out.lt x hx).1)); clear hown3 hg3 hat3))
      go_roundw
      case rel => exact ⟨k + 1, by omega, by go_num, by rw [HX.out]; exact HO3.out, HB3.out⟩
      case measure => simp [intOf]; omega
    · have hk4 : k = 4 := by omega
      subst hk4
      go_wp2
      go_ret
      exact ⟨_, rfl, by rw [← expTo_all]; exact HO.out, HB.out⟩
end Go.Proofs.YtjklhiifjnmedaaGreat
namespace Go.Proofs.YtjklhiifjnmedaaGreat
open Go.RowKit Go.Maps P16 P46
attribute [local go_sem] ByteArray.mk_append_mk ByteArray.extract_mk mk_index

set_option maxRecDepth 100000 in
theorem cfReb1 (x y : Lock) (g : Nat) (w : World) (h : Blk w g 30 (la x)) :
    Calls Tryz.prog 56 #[lv y, .pointer (some ⟨g, 0, none⟩)] w fun e w' => e = .returned (.bool (conflict x y)) ∧ Below w.heap.size w w' := by
  have HX := Lib.hid h
  clear h
  have hlenL : (Tryz.prog.info? 30).map (·.size) = some 6 := by kernel_rfl
  unfold lv
  go_enter Tryz.func56, Tryz.ntmps56
  go_upto_region 1 with (fail)
  obtain ⟨w1, g1, e1, e2, hb, hx⟩ := boxes1 w 30 (la y)
  unfold la at e1
  rw [e1, e2]
  have HB := Lib.hid hb
  have HR1 := Lib.hid (HX.out.below hb).add
  have HR2 := Lib.hid hx.add
  clear e1 e2 hb hx
  go_wp2_with (first | (refine wpList_load_cells rfl 30 (.tmp 1) rfl ⟨g, 0, none⟩ rfl _ _ HR1.out Tryz.underlying30 rfl hlenL ?_) | (refine wpList_load_cells rfl 30 (.tmp 2) rfl ⟨g1, 0, none⟩ rfl _ _ HR2.out Tryz.underlying30 rfl hlenL ?_) | (go_at_call 57; refine (lkConflict x y _).mono ?_; rintro e w2 ⟨rfl, hb2⟩; have HB2 := Lib.hid (below_then HB.out hb2); clear hb2))
  go_ret
  exact ⟨rfl, HB2.out⟩
theorem asksReb (x : Lock) (g : Nat) (w : World) (h : Blk w g 30 (la x)) : Asks 56 g (fun y => conflict x y) w where
  known := fun args W => by kernel_rfl
  ask := fun y W hW => cfReb1 x y g W (h.below hW)
theorem fcs_reb (F : P52.Fs) (s : St) (p p2 nb : Nat) : ((fcs F p nb).setIfInBounds 10 (.pointer (some ⟨p2, 0, none⟩))).setIfInBounds 12 (.bool false) = fcs ⟨F.ep, F.cn, s, false, F.fast⟩ p2 nb := by simp [fcs]
theorem okTo_step {F : P52.Fs} {ls : List Lock} {k : Nat} {x : Lock} (h : P52.okTo F ls k = true) (hx : ls[k]? = some x) : P52.okTo F ls (k + 1) = (validL x && P52.pres F x.unit && !((ls.take k).any fun y => conflict x y)) := by
  rw [P52.okTo, h, hx, Bool.true_and]
set_option maxRecDepth 100000 in
set_option maxHeartbeats 4000000 in
theorem cfRebuild (A : Option Addr) (m c : Nat) (ls : List Lock) (B b : Nat) (F : P52.Fs) (S : Nat → Prop) (w : World) (hf : Fac w B b F S) (ha : LocksAt w A m ls) (hm : m ≤ 100000) (hc : m ≤ c) (hu : ∀ l ∈ ls, InR l.unit) :
    Calls Tryz.prog 20 #[.pointer (some ⟨b, 0, none⟩), .slice A m c] w (CPost w B b S (P52.rebuild F ls).1 (P52.rebuild F ls).2) := by
  have HFA := Lib.hid hf
  obtain ⟨p, nb, vh, vq, h, hs⟩ := hf
  have HF := Lib.hid h
  have HS := Lib.hid hs
  have HA := Lib.hid ha
  have HU := Lib.hid hu
  have hlenL : (Tryz.prog.info? 30).map (·.size) = some 6 := by kernel_rfl
  have hc12 := h.box.cell 12
  simp [fcs] at hc12
  clear h hs ha hu
  have HP0 := Lib.hid (show F.lost = false → P52.rebuild F ls = (F, 9) from fun e => by unfold P52.rebuild; rw [if_pos e])
  have HP1 := Lib.hid (show F.lost = true → P52.okTo F ls ls.length = true → P52.rebuild F ls = (⟨F.ep, F.cn, ⟨newL ls, []⟩, false, F.fast⟩, 0) from fun e h => by unfold P52.rebuild; rw [if_neg (by rw [e]; decide), if_pos h])
  have HP2 := Lib.hid (show F.lost = true → P52.okTo F ls ls.length = false → P52.rebuild F ls = (F, 1) from fun e h => by unfold P52.rebuild; rw [if_neg (by rw [e]; decide), if_neg (by rw [h]; decide)])
  generalize P52.rebuild F ls = rb at HP0 HP1 HP2 ⊢
  obtain ⟨lo, hlo⟩ : ∃ lo, F.lost = lo := ⟨_, rfl⟩
  rw [hlo] at hc12
  have HLO := Lib.hid hlo
  clear hlo
  cases lo with
  | false =>
    go_enter Tryz.func20, Tryz.ntmps20
    go_wp2
    go_ret
    rw [HP0.out HLO.out]
    exact CPost.still HFA.out (Below.refl _ _)
  | true =>
    go_enter Tryz.func20, Tryz.ntmps20
    go_wp2
    clear hc12
    go_loopw [16] (fun i wr => ∃ k : Nat, k ≤ m ∧ i = .int .i64 k ∧ P52.okTo F ls k = true ∧ Below w.heap.size w wr) (fun i _ => m - (intOf i).toNat)
    case atStart => exact ⟨0, Nat.zero_le _, rfl, rfl, Below.refl _ _⟩
    case round =>
      obtain ⟨k, hk, rfl, hok, hbw⟩ := hrel
      have HOK := Lib.hid hok
      have HB := Lib.hid hbw
      clear hok hbw
      by_cases hlt : k < m
      · have hs4 := HA.out.below HB.out
        obtain ⟨bk, off, x, rfl, hx, -⟩ := hs4.at_ hlt
        have HR := Lib.hid (hs4.row hx)
        have HUX := Lib.hid (HU.out x (List.mem_iff_getElem?.2 ⟨k, hx⟩))
        have HST := Lib.hid (okTo_step HOK.out hx)
        have HBAD := Lib.hid (show P52.okTo F ls (k + 1) = false → P52.okTo F ls ls.length = false from fun hb => P52.okTo_le hb (by rw [HA.out.len]; omega))
        have HTK := Lib.hid (HA.out.take (k := k) (by omega))
        obtain ⟨v, hv⟩ : ∃ v, validL x = v := ⟨_, rfl⟩
        obtain ⟨q, hq⟩ : ∃ q, P52.pres F x.unit = q := ⟨_, rfl⟩
        obtain ⟨an, han⟩ : ∃ an, ((ls.take k).any fun y => conflict x y) = an := ⟨_, rfl⟩
        rw [hv, hq, han] at HST
        have HV := Lib.hid hv
        have HQ := Lib.hid hq
        have HAN := Lib.hid han
        clear hs4 hx hv hq han
        go_upto_region 6 with (refine wpList_load_cells rfl 30 (.tmp 19) rfl ⟨bk, off + k * 6, none⟩ rfl _ _ HR.out Tryz.underlying30 rfl hlenL ?_)
        obtain ⟨w4, g4, e1, e2, hb4, h4⟩ := boxes1 wr 30 (la x)
        unfold la at e1
        rw [e1, e2]
        have HB4 := Lib.hid (HB.out.trans (hb4.mono HB.out.size))
        have HX4 := Lib.hid h4
        obtain ⟨a0, -, -, -, -, -⟩ := lcells h4
        clear e1 e2 hb4 h4
        go_upto_region 7 with (go_at_call 51; refine (cfSystem x.unit HUX.out b p nb F _ (HF.out.below HB4.out).box).mono ?_; rintro e w5 ⟨rfl, hb5⟩; rw [HQ.out]; have HB5 := Lib.hid (HB4.out.trans (hb5.mono HB4.out.size)); have HX5 := Lib.hid (HX4.out.below hb5); clear hb5 a0)
        have HR5 := Lib.hid HX5.out.add
        cases v with
        | false =>
          have HOKF := Lib.hid (HP2.out HLO.out (HBAD.out (by rw [HST.out]; rfl)))
          go_wp2_with (first | (refine wpList_load_cells rfl 30 (.tmp 6) rfl ⟨g4, 0, none⟩ rfl _ _ HR5.out Tryz.underlying30 rfl hlenL ?_) | (go_at_call 52; refine (lkValid x w5).mono ?_; rintro e w6 ⟨rfl, hb6⟩; rw [HV.out]; have HB6 := Lib.hid (HB5.out.trans (hb6.mono HB5.out.size)); clear hb6))
          go_ret
          rw [HOKF.out]
          exact CPost.still HFA.out HB6.out
        | true =>
          cases q with
          | false =>
            have HOKF := Lib.hid (HP2.out HLO.out (HBAD.out (by rw [HST.out]; rfl)))
            go_wp2_with (first | (refine wpList_load_cells rfl 30 (.tmp 6) rfl ⟨g4, 0, none⟩ rfl _ _ HR5.out Tryz.underlying30 rfl hlenL ?_) | (go_at_call 52; refine (lkValid x w5).mono ?_; rintro e w6 ⟨rfl, hb6⟩; rw [HV.out]; have HB6 := Lib.hid (HB5.out.trans (hb6.mono HB5.out.size)); clear hb6))
            go_ret
            rw [HOKF.out]
            exact CPost.still HFA.out HB6.out
          | true =>
            cases an with
            | false =>
              have HNX := Lib.hid (show P52.okTo F ls (k + 1) = true from by rw [HST.out]; rfl)
              go_wp2_with (first | (refine wpList_load_cells rfl 30 (.tmp 6) rfl ⟨g4, 0, none⟩ rfl _ _ HR5.out Tryz.underlying30 rfl hlenL ?_) | (go_at_call 52; refine (lkValid x w5).mono ?_; rintro e w6 ⟨rfl, hb6⟩; rw [HV.out]; have HB6 := Lib.hid (HB5.out.trans (hb6.mono HB5.out.size)); have HX6 := Lib.hid (HX5.out.below hb6); clear hb6) | (go_at_call 55; refine (lkContainsFunc 56 g4 (fun y => conflict x y) _ k _ _ w6 (HTK.out.below HB6.out) (by omega) (asksReb x g4 w6 HX6.out)).mono ?_; rintro e w7 ⟨rfl, hb7⟩; rw [HAN.out]; have HB7 := Lib.hid (HB6.out.trans (hb7.mono HB6.out.size)); clear hb7))
              go_roundw
              case rel => exact ⟨k + 1, by omega, by go_num, HNX.out, HB7.out⟩
              case measure => simp [intOf]; omega
            | true =>
              have HOKF := Lib.hid (HP2.out HLO.out (HBAD.out (by rw [HST.out]; rfl)))
              go_wp2_with (first | (refine wpList_load_cells rfl 30 (.tmp 6) rfl ⟨g4, 0, none⟩ rfl _ _ HR5.out Tryz.underlying30 rfl hlenL ?_) | (go_at_call 52; refine (lkValid x w5).mono ?_; rintro e w6 ⟨rfl, hb6⟩; rw [HV.out]; have HB6 := Lib.hid (HB5.out.trans (hb6.mono HB5.out.size)); have HX6 := Lib.hid (HX5.out.below hb6); clear hb6) | (go_at_call 55; refine (lkContainsFunc 56 g4 (fun y => conflict x y) _ k _ _ w6 (HTK.out.below HB6.out) (by omega) (asksReb x g4 w6 HX6.out)).mono ?_; rintro e w7 ⟨rfl, hb7⟩; rw [HAN.out]; have HB7 := Lib.hid (HB6.out.trans (hb7.mono HB6.out.size)); clear hb7))
              go_ret
              rw [HOKF.out]
              exact CPost.still HFA.out HB7.out
      · have hkm : k = m := by omega
        subst hkm
        have HOK2 := Lib.hid (show P52.okTo F ls ls.length = true from by rw [HA.out.len]; exact HOK.out)
        go_wp2_with (go_at_call 37; refine (lkNew A k c ls wr (HA.out.below HB.out) (by omega)).mono ?_; rintro e w1 ⟨p2, vh2, rfl, hmg, hb1⟩; have HM := Lib.hid hmg; have HB1 := Lib.hid hb1; have HFR := Lib.hid (HF.out.below HB.out); have hx := h1_box HFR.out hb1; obtain ⟨x1, x2, x3, x4⟩ := hx; clear hmg hb1)
        have hg := grown_trans (grownBy_setCell w1 b 10 (.pointer (some ⟨p2, 0, none⟩))) (grownBy_setCell _ b 12 (.bool false))
        have hb := ((HFR.out.box.below HB1.out).put 10 (.pointer (some ⟨p2, 0, none⟩))).put 12 (.bool false)
        rw [fcs_reb F ⟨newL ls, []⟩] at hb
        obtain ⟨hf2, hc2⟩ := HFR.out.renew HB1.out HM.out hg hb rfl
        have HF2 := Lib.hid hf2
        have HC2 := Lib.hid (((Chg.of_below (S := FSet w b p nb) HB.out).congr HS.out (fun x => HF.out.foot_below HB.out x)).trans hc2)
        clear hg hb hf2 hc2
        go_ret
        rw [HP1.out HLO.out HOK2.out]
        exact ⟨_, rfl, HF2.out.fac, HC2.out⟩
end Go.Proofs.YtjklhiifjnmedaaGreat
namespace Go.Proofs.YtjklhiifjnmedaaGreat
open Go.RowKit Go.Maps P16 P46
attribute [local go_sem] ByteArray.mk_append_mk ByteArray.extract_mk mk_index

theorem OwnL.len_cap {w : World} {B : Nat} {e : TypeId} {v : Value} {ls : List Lock} (h : OwnL w B e v ls) : ∀ A n c, v = .slice A n c → ls.length ≤ c := by
  intro A n c hv
  rcases h.2 with ⟨h1, h0⟩ | ⟨g, cap, cur, h1, _, _, h2, _⟩
  · omega
  · rw [hv] at h1
    injection h1 with _ _ h3
    omega
theorem exports_held {F : P52.Fs} {l : Lock} (h : l ∈ P52.exportsL F) : l ∈ F.s.h := by
  unfold P52.exportsL P52.exportL at h
  simp only [List.mem_append, List.mem_filter] at h
  rcases h with ((h | h) | h) | h <;> exact h.1
theorem Blk.addFrom {w : World} {p : Nat} {t : TypeId} {cs : Array Value} (h : Blk w p t cs) (i : Nat) : ∀ j u, (cs.toList.drop i)[j]? = some u → w.cell? ((⟨p, i, none⟩ : Addr).add j) = some u := by
  intro j u hj
  rw [Addr.add_lit, h.cell]
  simpa using hj
/-- What an act leaves. -/
def DPost (w : World) (B b : Nat) (S : Nat → Prop) (r : P52.Fs × Int × List Int) (e : Ending) (w' : World) : Prop := ∃ v S', e = .returned (.tuple #[.int .i64 r.2.1, v]) ∧ OwnI w' w.heap.size v r.2.2 ∧ Fac w' B b r.1 S' ∧ Chg S S' w w' ∧ (∀ k, v.ownBlock = some k → ¬ S' k)
set_option maxRecDepth 100000 in
set_option maxHeartbeats 4000000 in
theorem cfDo (a : ActL) (hu : InR a.l.unit) (B b : Nat) (F : P52.Fs) (S : Nat → Prop) (w : World) (n : Nat) (hf : Fac w B b F S) (ok : P52.Ok F n) (hn : n < 90000) :
    Calls Tryz.prog 9 #[.pointer (some ⟨b, 0, none⟩), av a] w (DPost w B b S (P52.act F a)) := by
  have HU := Lib.hid hu
  have HF := Lib.hid hf
  have HOK := Lib.hid ok
  have HN := Lib.hid hn
  clear hu hf ok hn
  have hlenL : (Tryz.prog.info? 30).map (·.size) = some 6 := by kernel_rfl
  obtain ⟨kd, hkd⟩ : ∃ kd, a.kind.tmod 11 = kd := ⟨_, rfl⟩
  by_cases k4 : kd = 4
  · have HA := Lib.hid (show P52.act F a = ((P52.cancel F a.l.unit).1, 0, (P52.cancel F a.l.unit).2) from by unfold P52.act; rw [if_pos (by rw [hkd]; exact k4)])
    have b4 : (a.kind.tmod 11 == 4) = true := by rw [hkd]; exact beq_of k4
    clear hkd k4
    unfold av
    go_enter Tryz.func9, Tryz.ntmps9
    go_upto_region 1 with (fail)
    obtain ⟨w2, g, e1, e2, hb, h1⟩ := boxes1 w 32 (aa a)
    unfold aa at e1
    rw [e1, e2]
    obtain ⟨a0, a1, a2, a3, a4, a5, a6, a7, a8⟩ := acells h1
    have HB := Lib.hid hb
    have HF2 := Lib.hid (HF.out.below hb)
    have HR := Lib.hid (show ∀ j u, (la a.l)[j]? = some u → w2.cell? ((⟨g, 3, none⟩ : Addr).add j) = some u from fun j u hj => h1.addFrom 3 j u (by simpa [aa, la] using hj))
    clear e1 e2 hb h1
    go_wp2_with (go_at_call 18; refine (cfCancel a.l.unit B b F S _ n HF2.out HOK.out HN.out).mono ?_; rintro e w3 ⟨v, S3, rfl, ho, hf3, hc3, hn3⟩; have HO := Lib.hid ho; have HF3 := Lib.hid hf3; have HC3 := Lib.hid hc3; have HN3 := Lib.hid hn3; clear ho hf3 hc3 hn3)
    go_ret2
    rw [HA.out]
    exact ⟨_, S3, rfl, HO.out.base HB.out.size, HF3.out, (Chg.of_below HB.out).trans HC3.out, HN3.out⟩
  · skip
    by_cases k5 : kd = 5
    · have HA := Lib.hid (show P52.act F a = ((P52.release F a.l.unit).1, 0, (P52.release F a.l.unit).2) from by unfold P52.act; rw [if_neg (by rw [hkd]; exact k4), if_pos (by rw [hkd]; exact k5)])
      have b4 : (a.kind.tmod 11 == 4) = false := by rw [hkd]; exact beq_not k4
      have b5 : (a.kind.tmod 11 == 5) = true := by rw [hkd]; exact beq_of k5
      clear hkd k4 k5
      unfold av
      go_enter Tryz.func9, Tryz.ntmps9
      go_upto_region 1 with (fail)
      obtain ⟨w2, g, e1, e2, hb, h1⟩ := boxes1 w 32 (aa a)
      unfold aa at e1
      rw [e1, e2]
      obtain ⟨a0, a1, a2, a3, a4, a5, a6, a7, a8⟩ := acells h1
      have HB := Lib.hid hb
      have HF2 := Lib.hid (HF.out.below hb)
      have HR := Lib.hid (show ∀ j u, (la a.l)[j]? = some u → w2.cell? ((⟨g, 3, none⟩ : Addr).add j) = some u from fun j u hj => h1.addFrom 3 j u (by simpa [aa, la] using hj))
      clear e1 e2 hb h1
      go_wp2_with (go_at_call 39; refine (cfRelease a.l.unit B b F S _ n HF2.out HOK.out HN.out).mono ?_; rintro e w3 ⟨v, S3, rfl, ho, hf3, hc3, hn3⟩; have HO := Lib.hid ho; have HF3 := Lib.hid hf3; have HC3 := Lib.hid hc3; have HN3 := Lib.hid hn3; clear ho hf3 hc3 hn3)
      go_ret2
      rw [HA.out]
      exact ⟨_, S3, rfl, HO.out.base HB.out.size, HF3.out, (Chg.of_below HB.out).trans HC3.out, HN3.out⟩
    · skip
      by_cases k6 : kd = 6
      · have HA := Lib.hid (show P52.act F a = ((P52.connect F a.a a.b).1, (P52.connect F a.a a.b).2, []) from by unfold P52.act; rw [if_neg (by rw [hkd]; exact k4), if_neg (by rw [hkd]; exact k5), if_pos (by rw [hkd]; exact k6)])
        have b4 : (a.kind.tmod 11 == 4) = false := by rw [hkd]; exact beq_not k4
        have b5 : (a.kind.tmod 11 == 5) = false := by rw [hkd]; exact beq_not k5
        have b6 : (a.kind.tmod 11 == 6) = true := by rw [hkd]; exact beq_of k6
        clear hkd k4 k5 k6
        unfold av
        go_enter Tryz.func9, Tryz.ntmps9
        go_upto_region 1 with (fail)
        obtain ⟨w2, g, e1, e2, hb, h1⟩ := boxes1 w 32 (aa a)
        unfold aa at e1
        rw [e1, e2]
        obtain ⟨a0, a1, a2, a3, a4, a5, a6, a7, a8⟩ := acells h1
        have HB := Lib.hid hb
        have HF2 := Lib.hid (HF.out.below hb)
        have HR := Lib.hid (show ∀ j u, (la a.l)[j]? = some u → w2.cell? ((⟨g, 3, none⟩ : Addr).add j) = some u from fun j u hj => h1.addFrom 3 j u (by simpa [aa, la] using hj))
        clear e1 e2 hb h1
        go_wp2_with (go_at_call 15; refine (cfConnect a.a a.b B b F S _ HF2.out).mono ?_; rintro e w3 ⟨S3, rfl, hf3, hc3⟩; have HF3 := Lib.hid hf3; have HC3 := Lib.hid hc3; clear hf3 hc3)
        go_ret2
        rw [HA.out]
        exact ⟨_, S3, rfl, OwnI.nil _ _, HF3.out, (Chg.of_below HB.out).trans HC3.out, fun k hk => by simp [Value.ownBlock] at hk⟩
      · skip
        by_cases k7 : kd = 7
        · have HA := Lib.hid (show P52.act F a = (P52.fail F a.a, 0, []) from by unfold P52.act; rw [if_neg (by rw [hkd]; exact k4), if_neg (by rw [hkd]; exact k5), if_neg (by rw [hkd]; exact k6), if_pos (by rw [hkd]; exact k7)])
          have b4 : (a.kind.tmod 11 == 4) = false := by rw [hkd]; exact beq_not k4
          have b5 : (a.kind.tmod 11 == 5) = false := by rw [hkd]; exact beq_not k5
          have b6 : (a.kind.tmod 11 == 6) = false := by rw [hkd]; exact beq_not k6
          have b7 : (a.kind.tmod 11 == 7) = true := by rw [hkd]; exact beq_of k7
          clear hkd k4 k5 k6 k7
          unfold av
          go_enter Tryz.func9, Tryz.ntmps9
          go_upto_region 1 with (fail)
          obtain ⟨w2, g, e1, e2, hb, h1⟩ := boxes1 w 32 (aa a)
          unfold aa at e1
          rw [e1, e2]
          obtain ⟨a0, a1, a2, a3, a4, a5, a6, a7, a8⟩ := acells h1
          have HB := Lib.hid hb
          have HF2 := Lib.hid (HF.out.below hb)
          have HR := Lib.hid (show ∀ j u, (la a.l)[j]? = some u → w2.cell? ((⟨g, 3, none⟩ : Addr).add j) = some u from fun j u hj => h1.addFrom 3 j u (by simpa [aa, la] using hj))
          clear e1 e2 hb h1
          go_wp2_with (go_at_call 11; refine (cfFail a.a B b F S _ n HF2.out HOK.out HN.out).mono ?_; rintro e w3 ⟨S3, rfl, hf3, hc3⟩; have HF3 := Lib.hid hf3; have HC3 := Lib.hid hc3; clear hf3 hc3)
          go_ret2
          rw [HA.out]
          exact ⟨_, S3, rfl, OwnI.nil _ _, HF3.out, (Chg.of_below HB.out).trans HC3.out, fun k hk => by simp [Value.ownBlock] at hk⟩
        · skip
          by_cases k8 : kd = 8
          · have HA := Lib.hid (show P52.act F a = ((P52.free F a.a).1, 0, (P52.free F a.a).2) from by unfold P52.act; rw [if_neg (by rw [hkd]; exact k4), if_neg (by rw [hkd]; exact k5), if_neg (by rw [hkd]; exact k6), if_neg (by rw [hkd]; exact k7), if_pos (by rw [hkd]; exact k8)])
            have b4 : (a.kind.tmod 11 == 4) = false := by rw [hkd]; exact beq_not k4
            have b5 : (a.kind.tmod 11 == 5) = false := by rw [hkd]; exact beq_not k5
            have b6 : (a.kind.tmod 11 == 6) = false := by rw [hkd]; exact beq_not k6
            have b7 : (a.kind.tmod 11 == 7) = false := by rw [hkd]; exact beq_not k7
            have b8 : (a.kind.tmod 11 == 8) = true := by rw [hkd]; exact beq_of k8
            clear hkd k4 k5 k6 k7 k8
            unfold av
            go_enter Tryz.func9, Tryz.ntmps9
            go_upto_region 1 with (fail)
            obtain ⟨w2, g, e1, e2, hb, h1⟩ := boxes1 w 32 (aa a)
            unfold aa at e1
            rw [e1, e2]
            obtain ⟨a0, a1, a2, a3, a4, a5, a6, a7, a8⟩ := acells h1
            have HB := Lib.hid hb
            have HF2 := Lib.hid (HF.out.below hb)
            have HR := Lib.hid (show ∀ j u, (la a.l)[j]? = some u → w2.cell? ((⟨g, 3, none⟩ : Addr).add j) = some u from fun j u hj => h1.addFrom 3 j u (by simpa [aa, la] using hj))
            clear e1 e2 hb h1
            go_wp2_with (go_at_call 12; refine (cfFree a.a B b F S _ n HF2.out HOK.out HN.out).mono ?_; rintro e w3 ⟨v, S3, rfl, ho, hf3, hc3, hn3⟩; have HO := Lib.hid ho; have HF3 := Lib.hid hf3; have HC3 := Lib.hid hc3; have HN3 := Lib.hid hn3; clear ho hf3 hc3 hn3)
            go_ret2
            rw [HA.out]
            exact ⟨_, S3, rfl, HO.out.base HB.out.size, HF3.out, (Chg.of_below HB.out).trans HC3.out, HN3.out⟩
          · skip
            by_cases k9 : kd = 9
            · have HA := Lib.hid (show P52.act F a = (P52.lose F, 0, []) from by unfold P52.act; rw [if_neg (by rw [hkd]; exact k4), if_neg (by rw [hkd]; exact k5), if_neg (by rw [hkd]; exact k6), if_neg (by rw [hkd]; exact k7), if_neg (by rw [hkd]; exact k8), if_pos (by rw [hkd]; exact k9)])
              have b4 : (a.kind.tmod 11 == 4) = false := by rw [hkd]; exact beq_not k4
              have b5 : (a.kind.tmod 11 == 5) = false := by rw [hkd]; exact beq_not k5
              have b6 : (a.kind.tmod 11 == 6) = false := by rw [hkd]; exact beq_not k6
              have b7 : (a.kind.tmod 11 == 7) = false := by rw [hkd]; exact beq_not k7
              have b8 : (a.kind.tmod 11 == 8) = false := by rw [hkd]; exact beq_not k8
              have b9 : (a.kind.tmod 11 == 9) = true := by rw [hkd]; exact beq_of k9
              clear hkd k4 k5 k6 k7 k8 k9
              unfold av
              go_enter Tryz.func9, Tryz.ntmps9
              go_upto_region 1 with (fail)
              obtain ⟨w2, g, e1, e2, hb, h1⟩ := boxes1 w 32 (aa a)
              unfold aa at e1
              rw [e1, e2]
              obtain ⟨a0, a1, a2, a3, a4, a5, a6, a7, a8⟩ := acells h1
              have HB := Lib.hid hb
              have HF2 := Lib.hid (HF.out.below hb)
              have HR := Lib.hid (show ∀ j u, (la a.l)[j]? = some u → w2.cell? ((⟨g, 3, none⟩ : Addr).add j) = some u from fun j u hj => h1.addFrom 3 j u (by simpa [aa, la] using hj))
              clear e1 e2 hb h1
              go_wp2_with (go_at_call 21; refine (cfLose B b F S _ HF2.out).mono ?_; rintro e w3 ⟨S3, rfl, hf3, hc3⟩; have HF3 := Lib.hid hf3; have HC3 := Lib.hid hc3; clear hf3 hc3)
              go_ret2
              rw [HA.out]
              exact ⟨_, S3, rfl, OwnI.nil _ _, HF3.out, (Chg.of_below HB.out).trans HC3.out, fun k hk => by simp [Value.ownBlock] at hk⟩
            · skip
              by_cases k10 : kd = 10
              · have HA := Lib.hid (show P52.act F a = ((P52.rebuild F (P52.exportsL F)).1, (P52.rebuild F (P52.exportsL F)).2, []) from by unfold P52.act; rw [if_neg (by rw [hkd]; exact k4), if_neg (by rw [hkd]; exact k5), if_neg (by rw [hkd]; exact k6), if_neg (by rw [hkd]; exact k7), if_neg (by rw [hkd]; exact k8), if_neg (by rw [hkd]; exact k9), if_pos (by rw [hkd]; exact k10)])
                have b4 : (a.kind.tmod 11 == 4) = false := by rw [hkd]; exact beq_not k4
                have b5 : (a.kind.tmod 11 == 5) = false := by rw [hkd]; exact beq_not k5
                have b6 : (a.kind.tmod 11 == 6) = false := by rw [hkd]; exact beq_not k6
                have b7 : (a.kind.tmod 11 == 7) = false := by rw [hkd]; exact beq_not k7
                have b8 : (a.kind.tmod 11 == 8) = false := by rw [hkd]; exact beq_not k8
                have b9 : (a.kind.tmod 11 == 9) = false := by rw [hkd]; exact beq_not k9
                have b10 : (a.kind.tmod 11 == 10) = true := by rw [hkd]; exact beq_of k10
                clear hkd k4 k5 k6 k7 k8 k9 k10
                unfold av
                go_enter Tryz.func9, Tryz.ntmps9
                go_upto_region 1 with (fail)
                obtain ⟨w2, g, e1, e2, hb, h1⟩ := boxes1 w 32 (aa a)
                unfold aa at e1
                rw [e1, e2]
                obtain ⟨a0, a1, a2, a3, a4, a5, a6, a7, a8⟩ := acells h1
                have HB := Lib.hid hb
                have HF2 := Lib.hid (HF.out.below hb)
                have HR := Lib.hid (show ∀ j u, (la a.l)[j]? = some u → w2.cell? ((⟨g, 3, none⟩ : Addr).add j) = some u from fun j u hj => h1.addFrom 3 j u (by simpa [aa, la] using hj))
                clear e1 e2 hb h1
                go_wp2_with (first | (go_at_call 19; refine (cfExports B b F S _ n HF2.out HOK.out HN.out).mono ?_; rintro e w3 ⟨v3, rfl, ho3, hb3⟩; have HF3 := Lib.hid (HF2.out.below hb3); have HB3 := Lib.hid (HB.out.trans (hb3.mono HB.out.size)); have hcp := ho3.len_cap; obtain ⟨A3, c3, rfl, hs3, -⟩ := ho3.cells; have HS3 := Lib.hid hs3; have HCP := Lib.hid (hcp _ _ _ rfl); clear ho3 hb3 hs3 hcp) | (go_at_call 20; refine (cfRebuild A3 _ c3 (P52.exportsL F) B b F S w3 HF3.out HS3.out (by have h1 := P52.exportsL_len F; have h2 := HOK.out.len; have h3 := HN.out; omega) HCP.out (fun l hl => InR.num (valid_num (HOK.out.valids.1 l (exports_held hl))))).mono ?_; rintro e w4 ⟨S4, rfl, hf4, hc4⟩; have HF4 := Lib.hid hf4; have HC4 := Lib.hid hc4; clear hf4 hc4))
                go_ret2
                rw [HA.out]
                exact ⟨_, S4, rfl, OwnI.nil _ _, HF4.out, (Chg.of_below HB3.out).trans HC4.out, fun k hk => by simp [Value.ownBlock] at hk⟩
              · skip
                have HA := Lib.hid (show P52.act F a = ((P52.request F a.l).1, (P52.request F a.l).2, []) from by unfold P52.act; rw [if_neg (by rw [hkd]; exact k4), if_neg (by rw [hkd]; exact k5), if_neg (by rw [hkd]; exact k6), if_neg (by rw [hkd]; exact k7), if_neg (by rw [hkd]; exact k8), if_neg (by rw [hkd]; exact k9), if_neg (by rw [hkd]; exact k10)])
                have b4 : (a.kind.tmod 11 == 4) = false := by rw [hkd]; exact beq_not k4
                have b5 : (a.kind.tmod 11 == 5) = false := by rw [hkd]; exact beq_not k5
                have b6 : (a.kind.tmod 11 == 6) = false := by rw [hkd]; exact beq_not k6
                have b7 : (a.kind.tmod 11 == 7) = false := by rw [hkd]; exact beq_not k7
                have b8 : (a.kind.tmod 11 == 8) = false := by rw [hkd]; exact beq_not k8
                have b9 : (a.kind.tmod 11 == 9) = false := by rw [hkd]; exact beq_not k9
                have b10 : (a.kind.tmod 11 == 10) = false := by rw [hkd]; exact beq_not k10
                clear hkd k4 k5 k6 k7 k8 k9 k10
                unfold av
                go_enter Tryz.func9, Tryz.ntmps9
                go_upto_region 1 with (fail)
                obtain ⟨w2, g, e1, e2, hb, h1⟩ := boxes1 w 32 (aa a)
                unfold aa at e1
                rw [e1, e2]
                obtain ⟨a0, a1, a2, a3, a4, a5, a6, a7, a8⟩ := acells h1
                have HB := Lib.hid hb
                have HF2 := Lib.hid (HF.out.below hb)
                have HR := Lib.hid (show ∀ j u, (la a.l)[j]? = some u → w2.cell? ((⟨g, 3, none⟩ : Addr).add j) = some u from fun j u hj => h1.addFrom 3 j u (by simpa [aa, la] using hj))
                clear e1 e2 hb h1
                go_wp2_with (first | (refine wpList_load_cells rfl 30 (.tmp 54) rfl ⟨g, 3, none⟩ rfl (la a.l) _ HR.out Tryz.underlying30 rfl hlenL ?_) | (go_at_call 16; refine (cfRequest a.l HU.out B b F S _ n HF2.out HOK.out HN.out).mono ?_; rintro e w3 ⟨S3, rfl, hf3, hc3⟩; have HF3 := Lib.hid hf3; have HC3 := Lib.hid hc3; clear hf3 hc3))
                go_ret2
                rw [HA.out]
                exact ⟨_, S3, rfl, OwnI.nil _ _, HF3.out, (Chg.of_below HB.out).trans HC3.out, fun k hk => by simp [Value.ownBlock] at hk⟩
end Go.Proofs.YtjklhiifjnmedaaGreat
