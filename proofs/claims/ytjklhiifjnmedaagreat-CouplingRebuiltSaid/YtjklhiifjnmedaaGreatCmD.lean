/- Request: a unit of a connected system asks for a lock. The short calls of a facility: New, Connect, Epoch, Cancel, Release, Lost, Fast, Names, Lose. Epoch, Connect, Lose. -/
import Derived.Test.YtjklhiifjnmedaaGreatCmC
import Derived.Test.YtjklhiifjnmedaaGreatLkReqB
import Derived.Test.YtjklhiifjnmedaaGreatLkCancel
import Derived.StillTailTactics
import Derived.Test.YtjklhiifjnmedaaGreatLkNew
import Derived.Deep.RegionWith
import Derived.RegionTactic
import Derived.ChangeAlike
namespace Go.Proofs.YtjklhiifjnmedaaGreat
open Go.RowKit Go.Maps P16 P46
attribute [local go_sem] ByteArray.mk_append_mk ByteArray.extract_mk mk_index

/-- What a call on the facility leaves: its answer's code, and the facility. -/
def CPost (w : World) (B b : Nat) (S : Nat → Prop) (F : P52.Fs) (code : Int) (e : Ending) (w' : World) : Prop := ∃ S', e = .returned (.int .i64 code) ∧ Fac w' B b F S' ∧ Chg S S' w w'
theorem CPost.still {w w' : World} {B b : Nat} {S : Nat → Prop} {F : P52.Fs} {code : Int} (h : Fac w B b F S) (hb : Below w.heap.size w w') : CPost w B b S F code (.returned (.int .i64 code)) w' :=
  ⟨S, rfl, h.below hb, Chg.of_below hb⟩
theorem Chg.of_drew {w : World} {B b p nb : Nat} {F : P52.Fs} {vh vq : Value} (h : FacP w B b p nb F vh vq) : Chg (FSet w b p nb) (FSet (w.drewN 1) b p nb) w (w.drewN 1) :=
  (Chg.of_below (S := FSet w b p nb) (below_drewN (Below.refl _ _) 1)).congr (fun _ => Iff.rfl) (fun k => h.foot_below (below_drewN (Below.refl _ _) 1) k)
theorem CPost.fin {w w5 w6 : World} {B b p nb : Nat} {G : P52.Fs} {vh vq vh' vq' : Value} {s : St} {code : Int} (hf : FacP w5 B b p nb G vh vq) (hc : Chg (FSet w b p nb) (FSet w5 b p nb) w w5) (m : Mgr w6 B p s.h s.q vh' vq') (mv : Moved p w5 w6) :
    CPost w B b (FSet w b p nb) (P52.withS G s) code (.returned (.int .i64 code)) w6 :=
  ⟨FSet w6 b p nb, rfl, (hf.moved m mv).fac, hc.trans (FacP.chg mv)⟩
def fastUp (F : P52.Fs) : P52.Fs := ⟨F.ep, F.cn, F.s, F.lost, F.fast + 1⟩
theorem fcs_fast (F : P52.Fs) (p nb : Nat) : (fcs F p nb).setIfInBounds 13 (.int .i64 (F.fast + 1)) = fcs (fastUp F) p nb := by simp [fcs, fastUp]
set_option maxRecDepth 100000 in
set_option maxHeartbeats 4000000 in
theorem cfRequest_bad (l : Lock) (B b p nb : Nat) (F : P52.Fs) (vh vq : Value) (w : World) (hu : InR l.unit) (hf : FacP w B b p nb F vh vq) (code : Int) (hb : (validL l = false ∨ P52.sysOf l.unit = 0) ∧ code = 1 ∨ (validL l = true ∧ P52.sysOf l.unit ≠ 0 ∧ P52.pres F l.unit = false ∧ code = 13) ∨ (validL l = true ∧ P52.sysOf l.unit ≠ 0 ∧ P52.pres F l.unit = true ∧ F.lost = true ∧ code = 9)) :
    Calls Tryz.prog 16 #[.pointer (some ⟨b, 0, none⟩), lv l] w fun e w' => e = .returned (.int .i64 code) ∧ Below w.heap.size w w' := by
  have HF := Lib.hid hf
  have HU := Lib.hid hu
  clear hf hu
  have hlenL : (Tryz.prog.info? 30).map (·.size) = some 6 := by kernel_rfl
  obtain ⟨v, hv⟩ : ∃ v, validL l = v := ⟨_, rfl⟩
  obtain ⟨s, hs⟩ : ∃ s, P52.sysOf l.unit = s := ⟨_, rfl⟩
  obtain ⟨q, hq⟩ : ∃ q, P52.pres F l.unit = q := ⟨_, rfl⟩
  obtain ⟨lo, hlo⟩ : ∃ lo, F.lost = lo := ⟨_, rfl⟩
  rw [hv, hs, hq, hlo] at hb
  have HV := Lib.hid hv
  have HS := Lib.hid (And.intro hs hq)
  have HLO := Lib.hid hlo
  have HBD := Lib.hid hb
  clear hv hs hq hlo hb
  unfold lv
  cases v <;> by_cases h0 : s = 0 <;> cases q <;> cases lo
  all_goals
    first | (have b0 := beq_of h0) | (have b0 := beq_not h0)
    have HZ := Lib.hid h0
    clear h0
    first
      | (have hno : False := by have h := HBD.out; have z := HZ.out; simp [z] at h
         exact hno.elim)
      | (have HCODE := Lib.hid (show code = _ from by have h := HBD.out; have z := HZ.out; simp [z] at h; exact h)
         go_enter Tryz.func16, Tryz.ntmps16
         go_upto_region 1 with (fail)
         obtain ⟨w1, g, e1, e2, hbx, h1⟩ := boxes1 w 30 (la l)
         unfold la at e1
         rw [e1, e2]
         have HB1 := Lib.hid hbx
         have HF1 := Lib.hid (HF.out.below hbx)
         have HX1 := Lib.hid h1
         obtain ⟨a0, a1, a2, a3, a4, a5⟩ := lcells h1
         clear e1 e2 hbx h1 a1 a2 a3 a4 a5
         go_upto_region 2 with (go_at_call 51; refine (cfSystem l.unit HU.out b p nb F _ HF1.out.box).mono ?_; rintro e w2 ⟨rfl, hb2⟩; rw [HS.out.1, HS.out.2]; have HB2 := Lib.hid (below_then HB1.out hb2); have HF2 := Lib.hid (HF1.out.below hb2); have HX2 := Lib.hid (HX1.out.below hb2); clear hb2 a0)
         have HR2 := Lib.hid HX2.out.add
         have hc12 := HF2.out.box.cell 12
         simp [fcs, HLO.out] at hc12
         go_wp2_with (first | (refine wpList_load_cells rfl 30 (.tmp 3) rfl ⟨g, 0, none⟩ rfl _ _ HR2.out Tryz.underlying30 rfl hlenL ?_) | (go_at_call 52; refine (lkValid l w2).mono ?_; rintro e w3 ⟨rfl, hb3⟩; rw [HV.out]; have HB3 := Lib.hid (below_then HB2.out hb3); have HF3 := Lib.hid (HF2.out.below hb3); have hc3 := HF3.out.box.cell 12; simp [fcs, HLO.out] at hc3; clear hb3 hc12))
         go_ret
         rw [HCODE.out]
         exact ⟨rfl, HB3.out⟩)
set_option maxRecDepth 100000 in
set_option maxHeartbeats 4000000 in
theorem cfRequest_ok (l : Lock) (B b p nb : Nat) (F : P52.Fs) (vh vq : Value) (w : World) (n : Nat) (hu : InR l.unit) (hf : FacP w B b p nb F vh vq) (ok : P52.Ok F n) (hn : n < 90000) (hv : validL l = true) (hs : P52.sysOf l.unit ≠ 0) (hp : P52.pres F l.unit = true) (hlo : F.lost = false) :
    Calls Tryz.prog 16 #[.pointer (some ⟨b, 0, none⟩), lv l] w (CPost w B b (FSet w b p nb) ⟨F.ep, F.cn, (P46.request F.s l).1, F.lost, if P52.aloneB (F.s.h ++ F.s.q) l (P52.sysOf l.unit) = true then F.fast + 1 else F.fast⟩ (P46.request F.s l).2) := by
  have HF := Lib.hid hf
  have HU := Lib.hid hu
  have HV := Lib.hid hv
  have HP := Lib.hid hp
  have HLO := Lib.hid hlo
  have HOK := Lib.hid ok
  have hlenL : (Tryz.prog.info? 30).map (·.size) = some 6 := by kernel_rfl
  obtain ⟨s, hss⟩ : ∃ s, P52.sysOf l.unit = s := ⟨_, rfl⟩
  rw [hss] at hs ⊢
  have HS := Lib.hid hss
  have b0 := beq_not hs
  clear hf hu hv hp hlo ok hs hss
  obtain ⟨al, hal⟩ : ∃ al, P52.aloneB (F.s.h ++ F.s.q) l s = al := ⟨_, rfl⟩
  rw [hal]
  have HAL := Lib.hid hal
  clear hal
  obtain ⟨ft, hft⟩ : ∃ ft, F.fast = ft := ⟨_, rfl⟩
  have hft0 : 0 ≤ ft ∧ ft ≤ 90000 := by have h1 := HOK.out.fast0; have h2 := HOK.out.fast; omega
  have HFT := Lib.hid hft
  clear hft
  unfold lv
  cases al
  · go_enter Tryz.func16, Tryz.ntmps16
    go_upto_region 1 with (fail)
    obtain ⟨w1, g, e1, e2, hbx, h1⟩ := boxes1 w 30 (la l)
    unfold la at e1
    rw [e1, e2]
    have HB1 := Lib.hid hbx
    have HF1 := Lib.hid (HF.out.below hbx)
    have HX1 := Lib.hid h1
    have HGW := Lib.hid (show w.heap.size ≤ g from by omega)
    obtain ⟨a0, a1, a2, a3, a4, a5⟩ := lcells h1
    clear e1 e2 hbx h1 a1 a2 a3 a4 a5
    go_upto_region 2 with (go_at_call 51; refine (cfSystem l.unit HU.out b p nb F _ HF1.out.box).mono ?_; rintro e w2 ⟨rfl, hb2⟩; rw [HS.out, HP.out]; have HB2 := Lib.hid (below_then HB1.out hb2); have HF2 := Lib.hid (HF1.out.below hb2); have HX2 := Lib.hid (HX1.out.below hb2); clear hb2 a0)
    have HR2 := Lib.hid HX2.out.add
    go_upto_region 6 with (first | (refine wpList_load_cells rfl 30 (.tmp 3) rfl ⟨g, 0, none⟩ rfl _ _ HR2.out Tryz.underlying30 rfl hlenL ?_) | (go_at_call 52; refine (lkValid l w2).mono ?_; rintro e w3 ⟨rfl, hb3⟩; rw [HV.out]; have HB3 := Lib.hid (below_then HB2.out hb3); have HF3 := Lib.hid (HF2.out.below hb3); have HX3 := Lib.hid (HX2.out.below hb3); clear hb3))
    have HR3 := Lib.hid HX3.out.add
    have hc12 := HF3.out.box.cell 12
    simp [fcs, HLO.out] at hc12
    go_upto_region 10 with (first | (refine wpList_load_cells rfl 30 (.tmp 3) rfl ⟨g, 0, none⟩ rfl _ _ HR3.out Tryz.underlying30 rfl hlenL ?_) | (go_at_call 53; refine (cfAlone B b p nb F vh vq w3 HF3.out HOK.out.valids (by have h := HOK.out.len; omega) l (LockIn.of_valid HV.out) s).mono ?_; rintro e w4 ⟨rfl, hb4⟩; rw [HAL.out]; have HB4 := Lib.hid (below_then HB3.out hb4); have HF4 := Lib.hid (HF3.out.below hb4); have HX4 := Lib.hid (HX3.out.below hb4); clear hb4 hc12))
    have HF5 := Lib.hid HF4.out
    have HX5 := Lib.hid HX4.out
    have HC5 := Lib.hid (show Chg (FSet w b p nb) (FSet w4 b p nb) w w4 from (Chg.of_below (w' := w4) HB4.out).congr (fun _ => Iff.rfl) (fun k => HF.out.foot_below HB4.out k))
    have HR5 := Lib.hid HX5.out.add
    have hc10 := HF5.out.box.cell 10
    simp [fcs] at hc10
    go_still_tail 5, (by kernel_rfl)
    refine wpStill_load_cells (by kernel_rfl) 30 (.tmp 3) rfl ⟨g, 0, none⟩ rfl _ _ HR5.out Tryz.underlying30 rfl hlenL ?_
    try refine wpStill_nil ?_
    go_wp2_with fail
    refine (lkRequest l B p _ _ vh vq _ (HF5.out.mgr.below (below_drewN (Below.refl _ _) 1)) (by have h := HOK.out.len; show F.s.h.length + F.s.q.length < 100000; omega) HOK.out.good HOK.out.valids).mono ?_
    rintro e w6 ⟨vh6, vq6, rfl, hm6, hv6⟩
    have HM6 := Lib.hid hm6
    have HV6 := Lib.hid hv6
    clear hm6 hv6
    go_wp2
    go_ret
    exact CPost.fin (G := F) (HF5.out.below (below_drewN (Below.refl _ _) 1)) (HC5.out.trans (Chg.of_drew (HF5.out))) HM6.out HV6.out
  · go_enter Tryz.func16, Tryz.ntmps16
    go_upto_region 1 with (fail)
    obtain ⟨w1, g, e1, e2, hbx, h1⟩ := boxes1 w 30 (la l)
    unfold la at e1
    rw [e1, e2]
    have HB1 := Lib.hid hbx
    have HF1 := Lib.hid (HF.out.below hbx)
    have HX1 := Lib.hid h1
    have HGW := Lib.hid (show w.heap.size ≤ g from by omega)
    obtain ⟨a0, a1, a2, a3, a4, a5⟩ := lcells h1
    clear e1 e2 hbx h1 a1 a2 a3 a4 a5
    go_upto_region 2 with (go_at_call 51; refine (cfSystem l.unit HU.out b p nb F _ HF1.out.box).mono ?_; rintro e w2 ⟨rfl, hb2⟩; rw [HS.out, HP.out]; have HB2 := Lib.hid (below_then HB1.out hb2); have HF2 := Lib.hid (HF1.out.below hb2); have HX2 := Lib.hid (HX1.out.below hb2); clear hb2 a0)
    have HR2 := Lib.hid HX2.out.add
    go_upto_region 6 with (first | (refine wpList_load_cells rfl 30 (.tmp 3) rfl ⟨g, 0, none⟩ rfl _ _ HR2.out Tryz.underlying30 rfl hlenL ?_) | (go_at_call 52; refine (lkValid l w2).mono ?_; rintro e w3 ⟨rfl, hb3⟩; rw [HV.out]; have HB3 := Lib.hid (below_then HB2.out hb3); have HF3 := Lib.hid (HF2.out.below hb3); have HX3 := Lib.hid (HX2.out.below hb3); clear hb3))
    have HR3 := Lib.hid HX3.out.add
    have hc12 := HF3.out.box.cell 12
    simp [fcs, HLO.out] at hc12
    go_upto_region 9 with (first | (refine wpList_load_cells rfl 30 (.tmp 3) rfl ⟨g, 0, none⟩ rfl _ _ HR3.out Tryz.underlying30 rfl hlenL ?_) | (go_at_call 53; refine (cfAlone B b p nb F vh vq w3 HF3.out HOK.out.valids (by have h := HOK.out.len; omega) l (LockIn.of_valid HV.out) s).mono ?_; rintro e w4 ⟨rfl, hb4⟩; rw [HAL.out]; have HB4 := Lib.hid (below_then HB3.out hb4); have HF4 := Lib.hid (HF3.out.below hb4); have HX4 := Lib.hid (HX3.out.below hb4); clear hb4 hc12))
    have hc13 := HF4.out.box.cell 13
    have hf13 := HF4.out.box.frozen 13
    simp [fcs, HFT.out] at hc13
    have hlt4 := HF4.out.box.lt
    go_upto_region 10 with (fail)
    have hg5 := grownBy_setCell w4 b 13 (.int .i64 (ft + 1))
    have hb5 := HF4.out.box.put 13 (.int .i64 (ft + 1))
    rw [show (fcs F p nb).setIfInBounds 13 (.int .i64 (ft + 1)) = fcs (fastUp F) p nb from by rw [← HFT.out]; exact fcs_fast F p nb] at hb5
    have HF5 := Lib.hid (HF4.out.grown hg5 hb5 rfl)
    have HX5 := Lib.hid (HX4.out.grown hg5 (fun e => by have h := HF.out.box.lt; have h2 := HGW.out; injection e with e; omega))
    have HC5 := Lib.hid (((Chg.of_below (S := FSet w b p nb) (w' := w4) HB4.out).congr (fun _ => Iff.rfl) (fun k => HF.out.foot_below HB4.out k)).trans (HF4.out.chg_box hg5))
    clear hg5 hb5 hc13 hf13 hlt4
    generalize w4.setCell _ _ = w5 at HF5 HX5 HC5 ⊢
    have HR5 := Lib.hid HX5.out.add
    have hc10 := HF5.out.box.cell 10
    simp [fcs] at hc10
    go_still_tail 5, (by kernel_rfl)
    refine wpStill_load_cells (by kernel_rfl) 30 (.tmp 3) rfl ⟨g, 0, none⟩ rfl _ _ HR5.out Tryz.underlying30 rfl hlenL ?_
    try refine wpStill_nil ?_
    go_wp2_with fail
    refine (lkRequest l B p _ _ vh vq _ (HF5.out.mgr.below (below_drewN (Below.refl _ _) 1)) (by have h := HOK.out.len; show F.s.h.length + F.s.q.length < 100000; omega) HOK.out.good HOK.out.valids).mono ?_
    rintro e w6 ⟨vh6, vq6, rfl, hm6, hv6⟩
    have HM6 := Lib.hid hm6
    have HV6 := Lib.hid hv6
    clear hm6 hv6
    go_wp2
    go_ret
    exact CPost.fin (G := fastUp F) (HF5.out.below (below_drewN (Below.refl _ _) 1)) (HC5.out.trans (Chg.of_drew (HF5.out))) HM6.out HV6.out
theorem CPost.congr {w : World} {B b : Nat} {S T : Nat → Prop} {F : P52.Fs} {code : Int} {e : Ending} {w' : World} (h : CPost w B b S F code e w') (k : ∀ x, T x ↔ S x) : CPost w B b T F code e w' := by
  obtain ⟨S', h1, h2, h3⟩ := h
  exact ⟨S', h1, h2, h3.congr k (fun _ => Iff.rfl)⟩
theorem cfRequest (l : Lock) (hu : InR l.unit) (B b : Nat) (F : P52.Fs) (S : Nat → Prop) (w : World) (n : Nat) (hf : Fac w B b F S) (ok : P52.Ok F n) (hn : n < 90000) :
    Calls Tryz.prog 16 #[.pointer (some ⟨b, 0, none⟩), lv l] w (CPost w B b S (P52.request F l).1 (P52.request F l).2) := by
  obtain ⟨p, nb, vh, vq, h, hs⟩ := id hf
  unfold P52.request
  by_cases h1 : validL l = false ∨ P52.sysOf l.unit = 0
  · rw [if_pos h1]
    refine (cfRequest_bad l B b p nb F vh vq w hu h 1 (.inl ⟨h1, rfl⟩)).mono ?_
    rintro e w' ⟨rfl, hb⟩
    exact CPost.still hf hb
  · rw [if_neg h1]
    have hv : validL l = true := by cases hv : validL l <;> simp_all
    have h0 : P52.sysOf l.unit ≠ 0 := fun e => h1 (.inr e)
    by_cases h2 : P52.pres F l.unit = false
    · rw [if_pos h2]
      refine (cfRequest_bad l B b p nb F vh vq w hu h 13 (.inr (.inl ⟨hv, h0, h2, rfl⟩))).mono ?_
      rintro e w' ⟨rfl, hb⟩
      exact CPost.still hf hb
    · rw [if_neg h2]
      have hp : P52.pres F l.unit = true := by simpa using h2
      by_cases h3 : F.lost = true
      · rw [if_pos h3]
        refine (cfRequest_bad l B b p nb F vh vq w hu h 9 (.inr (.inr ⟨hv, h0, hp, h3, rfl⟩))).mono ?_
        rintro e w' ⟨rfl, hb⟩
        exact CPost.still hf hb
      · rw [if_neg h3]
        refine (cfRequest_ok l B b p nb F vh vq w n hu h ok hn hv h0 hp (by simpa using h3)).mono ?_
        intro e w' hc
        exact hc.congr hs
end Go.Proofs.YtjklhiifjnmedaaGreat
namespace Go.Proofs.YtjklhiifjnmedaaGreat
open Go.RowKit Go.Maps P16 P46
attribute [local go_sem] ByteArray.mk_append_mk ByteArray.extract_mk mk_index

/-- What a call that answers units leaves. -/
def IPost (w : World) (B b : Nat) (S : Nat → Prop) (F : P52.Fs) (outs : List Int) (e : Ending) (w' : World) : Prop := ∃ v S', e = .returned v ∧ OwnI w' w.heap.size v outs ∧ Fac w' B b F S' ∧ Chg S S' w w' ∧ (∀ k, v.ownBlock = some k → ¬ S' k)
theorem foot_not {w w' : World} {B b p nb : Nat} {F : P52.Fs} {vh vq v : Value} {outs : List Int} (hf : FacP w B b p nb F vh vq) (ho : OwnI w' w.heap.size v outs) (hn : ∀ k, v.ownBlock = some k → ¬ Foot w' p k) : ∀ k, v.ownBlock = some k → ¬ FSet w' b p nb k := by
  rintro k hk (h | h | h)
  · have h1 := (ho.lt k hk).1
    have h2 := hf.box.lt
    omega
  · have h1 := (ho.lt k hk).1
    have h2 := hf.nm.lt
    omega
  · exact hn k hk h
set_option maxRecDepth 100000 in
theorem cfCancel (u : Int) (B b : Nat) (F : P52.Fs) (S : Nat → Prop) (w : World) (n : Nat) (hf : Fac w B b F S) (ok : P52.Ok F n) (hn : n < 90000) :
    Calls Tryz.prog 18 #[.pointer (some ⟨b, 0, none⟩), .int .i64 u] w (IPost w B b S (P52.cancel F u).1 (P52.cancel F u).2) := by
  obtain ⟨p, nb, vh, vq, h, hs⟩ := hf
  have HF := Lib.hid h
  have HS := Lib.hid hs
  have HOK := Lib.hid ok
  have hc10 := h.box.cell 10
  simp [fcs] at hc10
  clear h hs ok
  go_enter Tryz.func18, Tryz.ntmps18
  go_wp2_with (go_at_call 44; refine (lkCancel u B p _ _ vh vq w HF.out.mgr (by have h := HOK.out.len; omega) HOK.out.valids).mono ?_; rintro e w2 ⟨v, vh2, vq2, rfl, ho, hm, hv, ha⟩; have HO := Lib.hid ho; have HM := Lib.hid hm; have HV := Lib.hid hv; have HA := Lib.hid ha; clear ho hm hv ha)
  go_ret
  exact ⟨v, FSet w2 b p nb, rfl, HO.out, (HF.out.moved (s := (P46.cancel F.s u).1) HM.out HV.out).fac, (FacP.chg HV.out).congr HS.out (fun _ => Iff.rfl), foot_not HF.out HO.out HA.out⟩
set_option maxRecDepth 100000 in
theorem cfRelease (u : Int) (B b : Nat) (F : P52.Fs) (S : Nat → Prop) (w : World) (n : Nat) (hf : Fac w B b F S) (ok : P52.Ok F n) (hn : n < 90000) :
    Calls Tryz.prog 39 #[.pointer (some ⟨b, 0, none⟩), .int .i64 u] w (IPost w B b S (P52.release F u).1 (P52.release F u).2) := by
  obtain ⟨p, nb, vh, vq, h, hs⟩ := hf
  have HF := Lib.hid h
  have HS := Lib.hid hs
  have HOK := Lib.hid ok
  have hc10 := h.box.cell 10
  simp [fcs] at hc10
  clear h hs ok
  go_enter Tryz.func39, Tryz.ntmps39
  go_wp2_with (go_at_call 47; refine (lkRelease u B p _ _ vh vq w HF.out.mgr (by have h := HOK.out.len; omega) HOK.out.valids).mono ?_; rintro e w2 ⟨v, vh2, vq2, rfl, ho, hm, hv, ha⟩; have HO := Lib.hid ho; have HM := Lib.hid hm; have HV := Lib.hid hv; have HA := Lib.hid ha; clear ho hm hv ha)
  go_ret
  exact ⟨v, FSet w2 b p nb, rfl, HO.out, (HF.out.moved (s := (P46.release F.s u).1) HM.out HV.out).fac, (FacP.chg HV.out).congr HS.out (fun _ => Iff.rfl), foot_not HF.out HO.out HA.out⟩
theorem cfLost (B b : Nat) (F : P52.Fs) (S : Nat → Prop) (w : World) (hf : Fac w B b F S) : Calls Tryz.prog 10 #[.pointer (some ⟨b, 0, none⟩)] w fun e w' => e = .returned (.bool F.lost) ∧ w = w' := by
  obtain ⟨p, nb, h⟩ := hf.box
  have hc := h.cell 12
  simp [fcs] at hc
  go_enter Tryz.func10, Tryz.ntmps10
  go_wp2
  go_ret
  exact ⟨rfl, rfl⟩
theorem cfFast (B b : Nat) (F : P52.Fs) (S : Nat → Prop) (w : World) (hf : Fac w B b F S) : Calls Tryz.prog 32 #[.pointer (some ⟨b, 0, none⟩)] w fun e w' => e = .returned (.int .i64 F.fast) ∧ w = w' := by
  obtain ⟨p, nb, h⟩ := hf.box
  have hc := h.cell 13
  simp [fcs] at hc
  go_enter Tryz.func32, Tryz.ntmps32
  go_wp2
  go_ret
  exact ⟨rfl, rfl⟩
theorem cfNames (B b : Nat) (F : P52.Fs) (S : Nat → Prop) (w : World) (hf : Fac w B b F S) : Calls Tryz.prog 36 #[.pointer (some ⟨b, 0, none⟩)] w fun e w' => ∃ nb, e = .returned (.pointer (some ⟨nb, 0, none⟩)) ∧ w = w' := by
  obtain ⟨p, nb, h⟩ := hf.box
  have hc := h.cell 11
  simp [fcs] at hc
  go_enter Tryz.func36, Tryz.ntmps36
  go_wp2
  go_ret
  exact ⟨nb, rfl, rfl⟩
set_option maxRecDepth 100000 in
theorem enqNew (w : World) : Calls Tryz.prog 38 #[] w fun e w' => ∃ nb, e = .returned (.pointer (some ⟨nb, 0, none⟩)) ∧ w.heap.size ≤ nb ∧ Blk w' nb tT #[.slice none 0 0, .slice none 0 0] ∧ Below w.heap.size w w' := by
  go_enter Tryz.func38, Tryz.ntmps38
  go_wp2
  go_ret
  exact ⟨_, rfl, Nat.le_refl _, Blk.new _ _ _, (Below.refl _ _).alloc (Nat.le_refl _) _⟩
set_option maxRecDepth 100000 in
set_option maxHeartbeats 1000000 in
theorem cfNew (w : World) : Calls Tryz.prog 8 #[] w fun e w' => ∃ b S, e = .returned (.pointer (some ⟨b, 0, none⟩)) ∧ Fac w' w.heap.size b P52.fs0 S ∧ Below w.heap.size w w' := by
  go_enter Tryz.func8, Tryz.ntmps8
  go_wp2_with (first | (go_at_call 37; refine (lkNew none 0 0 [] w LocksAt.nil (by omega)).mono ?_; rintro e w1 ⟨p, vh, rfl, hm, hb1⟩; have HM := Lib.hid hm; have HB1 := Lib.hid hb1; clear hm hb1) | (go_at_call 38; refine (enqNew w1).mono ?_; rintro e w2 ⟨nb, rfl, hnb, hn, hb2⟩; have HN := Lib.hid hn; have HNB := Lib.hid (Nat.le_trans HB1.out.size hnb); have HM2 := Lib.hid (HM.out.below hb2); have HB2 := Lib.hid (below_then HB1.out hb2); clear hn hb2 hnb))
  go_ret
  have hx := Blk.new w2 tF (fcs P52.fs0 p nb)
  have hb := below_alloc (Below.refl w2.heap.size w2) (.cells (fcs P52.fs0 p nb) tF)
  exact ⟨_, _, rfl, (FacP.fac ⟨hx, HM2.out.below hb, HN.out.below hb, HB2.out.size, HNB.out⟩), HB2.out.alloc HB2.out.size _⟩
end Go.Proofs.YtjklhiifjnmedaaGreat
namespace Go.Proofs.YtjklhiifjnmedaaGreat
open Go.RowKit Go.Maps P16 P46
attribute [local go_sem] ByteArray.mk_append_mk ByteArray.extract_mk mk_index

theorem okS_iff {k : Int} : P52.okS k = true ↔ 1 ≤ k ∧ k ≤ 4 := by unfold P52.okS; simp
/-- What Epoch answers. -/
def epochP (F : P52.Fs) (k : Int) : Int := if P52.okS k = true then F.ep k.toNat else 0
def onP (F : P52.Fs) (k : Int) : Bool := P52.okS k && F.cn k.toNat
set_option maxRecDepth 100000 in
set_option maxHeartbeats 1000000 in
theorem cfEpoch (k : Int) (B b : Nat) (F : P52.Fs) (S : Nat → Prop) (w : World) (hf : Fac w B b F S) : Calls Tryz.prog 13 #[.pointer (some ⟨b, 0, none⟩), .int .i64 k] w fun e w' => e = .returned (.tuple #[.int .i64 (epochP F k), .bool (onP F k)]) ∧ Below w.heap.size w w' := by
  obtain ⟨p, nb, h⟩ := hf.box
  obtain ⟨ok, hok⟩ : ∃ ok, P52.okS k = ok := ⟨_, rfl⟩
  have HP := Lib.hid (show epochP F k = (if ok = true then F.ep k.toNat else 0) ∧ onP F k = (ok && F.cn k.toNat) from by unfold epochP onP; rw [hok]; exact ⟨rfl, rfl⟩)
  have HE := Lib.hid (cfExists k w)
  have HOK := Lib.hid hok
  clear hf
  cases ok with
  | false =>
    clear h hok
    go_enter Tryz.func13, Tryz.ntmps13
    go_wp2_with (go_at_call 40; refine HE.out.mono ?_; rintro e w2 ⟨rfl, rfl⟩; rw [HOK.out])
    go_ret2
    rw [HP.out.1, HP.out.2]
    exact ⟨rfl, Below.refl _ _⟩
  | true =>
    have hk := okS_iff.1 hok
    have hc := cn_cell h (by omega) hk.2
    have he := ep_cell h (by omega) hk.2
    clear h hok
    go_enter Tryz.func13, Tryz.ntmps13
    go_upto_region 3 with (go_at_call 40; refine HE.out.mono ?_; rintro e w2 ⟨rfl, rfl⟩; rw [HOK.out])
    go_quiet (fail)
    try go_wp2
    go_ret2
    rw [HP.out.1, HP.out.2]
    exact ⟨rfl, below_drewN (Below.refl _ _) _⟩
/-- A new manager laid into the box. -/
theorem FacP.renew {w w1 w2 : World} {B b p p2 nb : Nat} {F G : P52.Fs} {vh vq vh2 : Value} {h2 : List Lock} (h : FacP w B b p nb F vh vq) (hb : Below w.heap.size w w1) (m : Mgr w1 w.heap.size p2 h2 [] vh2 (.slice none 0 0)) (hg : w1.grownBy w2 (some b)) (hx : Blk w2 b tF (fcs G p2 nb)) (hs : G.s = ⟨h2, []⟩) :
    FacP w2 B b p2 nb G vh2 (.slice none 0 0) ∧ Chg (FSet w b p nb) (FSet w2 b p2 nb) w w2 := by
  have hB : B ≤ w.heap.size := by have h1 := h.base; have h2 := h.box.lt; omega
  have hm2 := m.farB hg (m.nofoot (h.box.below hb) (by decide) (by decide))
  refine ⟨⟨hx, ⟨by rw [hs] at *; exact hm2.box, Nat.le_trans hB hm2.base, by rw [hs]; exact hm2.held.base hB, by rw [hs]; exact hm2.queue.base hB, hm2.apart⟩, (h.nm.below hb).grown hg (fun e => h.bn (by injection e with e; exact e.symm)), h.base, h.nbase⟩, ?_⟩
  refine ⟨hg.os.trans hb.os, hg.tape.trans hb.tape, hg.output.trans hb.output, Nat.le_trans hb.size hg.size, fun k hk hn => ?_, fun k hk => ?_⟩
  · rw [hg.block k (Nat.lt_of_lt_of_le hk hb.size) (fun e => hn (.inl (by injection e)))]
    exact hb.block k hk
  · rcases hk with h1 | h1 | h1
    · exact .inl (.inl h1)
    · exact .inl (.inr (.inl h1))
    · exact .inr (hm2.ge h1).1
/-- What a call without an answer leaves. -/
def NPost (w : World) (B b : Nat) (S : Nat → Prop) (F : P52.Fs) (e : Ending) (w' : World) : Prop := ∃ S', e = .returned (.tuple #[]) ∧ Fac w' B b F S' ∧ Chg S S' w w'
theorem h1_box {w w1 : World} {B b p nb : Nat} {F : P52.Fs} {vh vq : Value} (h : FacP w B b p nb F vh vq) (hb : Below w.heap.size w w1) :
    w1.cell? ⟨b, 10, none⟩ = some (.pointer (some ⟨p, 0, none⟩)) ∧ w1.frozen? ⟨b, 10, none⟩ = false ∧ w1.cell? ⟨b, 12, none⟩ = some (.bool F.lost) ∧ w1.frozen? ⟨b, 12, none⟩ = false :=
  ⟨(h.box.below hb).cell 10, (h.box.below hb).frozen 10, (h.box.below hb).cell 12, (h.box.below hb).frozen 12⟩
theorem fcs_lose (F : P52.Fs) (p p2 nb : Nat) : ((fcs F p nb).setIfInBounds 10 (.pointer (some ⟨p2, 0, none⟩))).setIfInBounds 12 (.bool true) = fcs (P52.lose F) p2 nb := by simp [fcs, P52.lose]
set_option maxRecDepth 100000 in
set_option maxHeartbeats 1000000 in
theorem cfLose (B b : Nat) (F : P52.Fs) (S : Nat → Prop) (w : World) (hf : Fac w B b F S) : Calls Tryz.prog 21 #[.pointer (some ⟨b, 0, none⟩)] w (NPost w B b S (P52.lose F)) := by
  obtain ⟨p, nb, vh, vq, h, hs⟩ := hf
  have HF := Lib.hid h
  have HS := Lib.hid hs
  clear h hs
  go_enter Tryz.func21, Tryz.ntmps21
  go_wp2_with (go_at_call 37; refine (lkNew none 0 0 [] w LocksAt.nil (by omega)).mono ?_; rintro e w1 ⟨p2, vh2, rfl, hm, hb1⟩; have HM := Lib.hid hm; have HB1 := Lib.hid hb1; have hx := h1_box HF.out hb1; obtain ⟨x1, x2, x3, x4⟩ := hx; clear hm hb1)
  have hg := grown_trans (grownBy_setCell w1 b 10 (.pointer (some ⟨p2, 0, none⟩))) (grownBy_setCell _ b 12 (.bool true))
  have hb := ((HF.out.box.below HB1.out).put 10 (.pointer (some ⟨p2, 0, none⟩))).put 12 (.bool true)
  rw [fcs_lose] at hb
  obtain ⟨hf2, hc2⟩ := HF.out.renew HB1.out HM.out hg hb rfl
  have HF2 := Lib.hid hf2
  have HC2 := Lib.hid hc2
  clear hg hb hf2 hc2
  go_end0
  exact ⟨_, rfl, HF2.out.fac, HC2.out.congr HS.out (fun _ => Iff.rfl)⟩
set_option maxRecDepth 100000 in
set_option maxHeartbeats 1000000 in
theorem cfConnect_bad (k e : Int) (b : Nat) (w : World) (h : P52.okS k = false ∨ e < 1 ∨ 65535 < e) : Calls Tryz.prog 15 #[.pointer (some ⟨b, 0, none⟩), .int .i64 k, .int .i64 e] w fun x w' => x = .returned (.int .i64 2) ∧ w = w' := by
  have HE := Lib.hid (cfExists k w)
  obtain ⟨ok, hok⟩ : ∃ ok, P52.okS k = ok := ⟨_, rfl⟩
  have HOK := Lib.hid hok
  rw [hok] at h
  clear hok
  cases ok
  · clear h
    go_enter Tryz.func15, Tryz.ntmps15
    go_wp2_with (go_at_call 40; refine HE.out.mono ?_; rintro x w2 ⟨rfl, rfl⟩; rw [HOK.out])
    go_ret
    exact ⟨rfl, rfl⟩
  · by_cases h1 : e < 1
    · clear h
      go_enter Tryz.func15, Tryz.ntmps15
      go_wp2_with (go_at_call 40; refine HE.out.mono ?_; rintro x w2 ⟨rfl, rfl⟩; rw [HOK.out])
      go_ret
      exact ⟨rfl, rfl⟩
    · have h2 : 65535 < e := by
        rcases h with h | h | h
        · cases h
        · exact absurd h h1
        · exact h
      clear h
      go_enter Tryz.func15, Tryz.ntmps15
      go_wp2_with (go_at_call 40; refine HE.out.mono ?_; rintro x w2 ⟨rfl, rfl⟩; rw [HOK.out])
      go_ret
      exact ⟨rfl, rfl⟩
theorem grown_drew_ {w w' : World} {r : Option Nat} (h : w.grownBy w' r) : w.grownBy w'.drew r := ⟨h.os, h.tape, h.output, h.size, h.block⟩
theorem CPost.box {w w' : World} {B b p nb : Nat} {S : Nat → Prop} {F G : P52.Fs} {vh vq : Value} {code : Int} (h : FacP w B b p nb F vh vq) (hs : ∀ k, S k ↔ FSet w b p nb k) (hg : w.grownBy w' (some b)) (hb : Blk w' b tF (fcs G p nb)) (e : G.s = F.s) : CPost w B b S G code (.returned (.int .i64 code)) w' :=
  ⟨FSet w' b p nb, rfl, (h.grown hg hb e).fac, (h.chg_box hg).congr hs (fun _ => Iff.rfl)⟩
/-- The box behind a connection, whichever of its two cells was written first. -/
theorem connected {w : World} {b p nb : Nat} {F : P52.Fs} (h : Blk w b tF (fcs F p nb)) {k : Int} (hk : 1 ≤ k ∧ k ≤ 4) (e : Int) : Blk ((w.setCell ⟨b, k.toNat, none⟩ (.int .i64 e)).setCell ⟨b, 5 + k.toNat, none⟩ (.bool true)) b tF (fcs ⟨P52.setAt F.ep k.toNat e, P52.setAt F.cn k.toNat true, F.s, F.lost, F.fast⟩ p nb)
    ∧ Blk ((w.setCell ⟨b, 5 + k.toNat, none⟩ (.bool true)).setCell ⟨b, k.toNat, none⟩ (.int .i64 e)) b tF (fcs ⟨P52.setAt F.ep k.toNat e, P52.setAt F.cn k.toNat true, F.s, F.lost, F.fast⟩ p nb) := by
  have h1 := (h.put k.toNat (.int .i64 e)).put (5 + k.toNat) (.bool true)
  have h2 := (h.put (5 + k.toNat) (.bool true)).put k.toNat (.int .i64 e)
  have hk' : k = 1 ∨ k = 2 ∨ k = 3 ∨ k = 4 := by omega
  rcases hk' with rfl | rfl | rfl | rfl
  all_goals exact ⟨by simpa [fcs, P52.setAt] using h1, by simpa [fcs, P52.setAt] using h2⟩
set_option maxRecDepth 100000 in
set_option maxHeartbeats 4000000 in
theorem cfConnect (k e : Int) (B b : Nat) (F : P52.Fs) (S : Nat → Prop) (w : World) (hf : Fac w B b F S) : Calls Tryz.prog 15 #[.pointer (some ⟨b, 0, none⟩), .int .i64 k, .int .i64 e] w (CPost w B b S (P52.connect F k e).1 (P52.connect F k e).2) := by
  unfold P52.connect
  by_cases h1 : P52.okS k = false ∨ e < 1 ∨ 65535 < e
  · rw [if_pos h1]
    refine (cfConnect_bad k e b w h1).mono ?_
    rintro x w' ⟨rfl, rfl⟩
    exact CPost.still hf (Below.refl _ _)
  · rw [if_neg h1]
    have hok : P52.okS k = true := by cases h : P52.okS k <;> simp_all
    have hk := okS_iff.1 hok
    have he0 : 1 ≤ e ∧ e ≤ 65535 := by
      constructor
      · have : ¬ e < 1 := fun h => h1 (.inr (.inl h)); omega
      · have : ¬ 65535 < e := fun h => h1 (.inr (.inr h)); omega
    obtain ⟨p, nb, vh, vq, h, hs⟩ := id hf
    have hc := cn_cell h.box (by omega) hk.2
    have he := ep_cell h.box (by omega) hk.2
    have HE := Lib.hid (cfExists k w)
    have HOK := Lib.hid hok
    have HFA := Lib.hid hf
    have HF := Lib.hid h
    have HS := Lib.hid hs
    obtain ⟨c, hcn⟩ : ∃ c, F.cn k.toNat = c := ⟨_, rfl⟩
    obtain ⟨ep, hep⟩ : ∃ ep, F.ep k.toNat = ep := ⟨_, rfl⟩
    rw [hcn] at hc ⊢
    rw [hep] at he ⊢
    have hfz := fun i => h.box.frozen i
    have hlt := h.box.lt
    clear h1 hok hf h hs hcn hep
    cases c
    · rw [if_neg (by decide)]
      by_cases hle : e ≤ ep
      · rw [if_pos hle]
        go_enter Tryz.func15, Tryz.ntmps15
        go_wp2_with (go_at_call 40; refine HE.out.mono ?_; rintro x w2 ⟨rfl, rfl⟩; rw [HOK.out])
        go_ret
        exact CPost.still HFA.out (Below.refl _ _)
      · rw [if_neg hle]
        go_enter Tryz.func15, Tryz.ntmps15
        go_upto_region 7 with (go_at_call 40; refine HE.out.mono ?_; rintro x w2 ⟨rfl, rfl⟩; rw [HOK.out])
        go_region
        all_goals
          go_wp2
          go_ret
          first
            | exact CPost.box HF.out HS.out (grown_drew_ (grown_trans (grownBy_setCell _ _ _ _) (grownBy_setCell _ _ _ _))) (connected HF.out.box hk e).1.drew rfl
            | exact CPost.box HF.out HS.out (grown_drew_ (grown_trans (grownBy_setCell _ _ _ _) (grownBy_setCell _ _ _ _))) (connected HF.out.box hk e).2.drew rfl
    · rw [if_pos rfl]
      go_enter Tryz.func15, Tryz.ntmps15
      go_wp2_with (go_at_call 40; refine HE.out.mono ?_; rintro x w2 ⟨rfl, rfl⟩; rw [HOK.out])
      go_ret
      exact CPost.still HFA.out (Below.refl _ _)
end Go.Proofs.YtjklhiifjnmedaaGreat
