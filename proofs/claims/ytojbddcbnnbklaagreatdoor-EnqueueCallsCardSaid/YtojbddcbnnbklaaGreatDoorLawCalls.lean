/- EnqueueCalls: the law's walk. EnqueueCalls holds for every input: its walk joined to the row's own form. -/
import Derived.Test.YtojbddcbnnbklaaGreatDoorRoGe
import Derived.Test.YtojbddcbnnbklaaGreatDoorRoGc
import Derived.Deep.CutBlock
import Derived.Deep.DeepCutAuto
import Derived.Test.YtojbddcbnnbklaaGreatDoorClOpen
import Derived.Test.YtojbddcbnnbklaaGreatDoorClDoor
import Derived.Test.YtojbddcbnnbklaaGreatDoorTie
import Derived.Test.YtojbddcbnnbklaaGreatDoorCards
import Derived.ProofKit
import Derived.OpenShut
import Derived.ShutString
import Derived.SevenTiedAt
namespace Go.Proofs.YtojbddcbnnbklaaGreatDoor
open Go.RowKit P43
attribute [local go_sem] ByteArray.mk_append_mk ByteArray.extract_mk mk_index

theorem row_sl {w : World} {B s n : Nat} {t : TypeId} {us : List Value} {v : Value} (h : RowAt w B t s n us v) : ∃ A c, v = .slice A n c := by
  rcases h.2 with ⟨rfl, rfl⟩ | ⟨g, cap, cur, rfl, _⟩
  · exact ⟨none, 0, rfl⟩
  · exact ⟨_, _, rfl⟩
theorem lit1_row (w : World) (q : Nm × Bool) : (w.alloc (.cells #[.string ⟨q.1.toArray⟩, .bool q.2] tNL)).ownsRow w.heap.size tNL 2 (.slice (some ⟨w.heap.size, 0, none⟩) 1 1) 1 (nc q) :=
  ⟨rfl, .inr ⟨w.heap.size, 1, _, rfl, Nat.le_refl _, heap_alloc_new w _, Nat.le_refl _, by decide, rfl, rfl⟩⟩
/-- The two tables side by side, at t. -/
def KRe (W wr : World) (p px : Nat) (t : T) : Prop := ∃ F va vb, KR W wr W.heap.size p px t t F va vb
/-- .. the program's footprint known. -/
def KRf (W wr : World) (p px : Nat) (t : T) (F : Nat → Prop) : Prop := ∃ va vb, KR W wr W.heap.size p px t t F va vb
set_option maxRecDepth 100000 in
set_option maxHeartbeats 16000000 in
theorem lawCalls (A : Option Addr) (n c : Nat) (xs : List OpM) (w : World) (hG : GlobM w) (h : OpsAt w A n xs) (hn : n ≤ maxLen) :
    Calls Tryz.prog 3 #[.slice A n c] w fun e w' => e = .returned (.bool true) ∧ Below w.heap.size w w' := by
  have HG := Lib.hid hG
  have HS := Lib.hid h
  have HLN := Lib.hid h.len
  have hn63 : n ≤ 9223372036854775807 := by unfold maxLen at hn; omega
  clear hG h hn
  have hlenO : (Tryz.prog.info? tO).map (·.size) = some 4 := by kernel_rfl
  have hlenN : (Tryz.prog.info? tNL).map (·.size) = some 2 := by kernel_rfl
  have hlenT : (Tryz.prog.info? tTb).map (·.size) = some 2 := by kernel_rfl
  obtain ⟨i0, hi0, hz0, hz1', hz2⟩ := info_parts infoN
  have HI := Lib.hid hi0
  have HZ0 := Lib.hid hz0
  have HZ1 := Lib.hid hz1'
  have HZ2 := Lib.hid hz2
  clear hi0 hz0 hz1' hz2
  go_enter Tryz.func3, Tryz.ntmps3
  go_wp2_with fail
  refine (clAwake w HG.out).mono ?_
  rintro e w1 ⟨rfl, hb1⟩
  have HB1 := Lib.hid hb1
  have HS1 := Lib.hid (HS.out.below hb1)
  clear hb1
  go_wp2_with fail
  refine (clFew 40 A n c xs w1 HS1.out hn63).mono ?_
  rintro e w1' ⟨rfl, rfl⟩
  cases hf : fewO xs 40 with
  | false =>
    clear hf
    go_wp2
    go_ret
    exact ⟨rfl, HB1.out⟩
  | true =>
    obtain ⟨hsh, hn40⟩ := few_of HLN.out (most := 40) hf
    have HSH := Lib.hid hsh
    clear hf hsh
    go_wp2_with fail
    refine (clNew w1).mono ?_
    rintro e w2 ⟨p, rfl, hm2, hb2⟩
    have HM2 := Lib.hid (show ∃ F, TT w2 w.heap.size p (runP validB (opsP (xs.take 0))) F from ⟨_, TT.up ⟨[], [], _, _, hm2, rfl, fun k => Iff.rfl⟩ HB1.out.size⟩)
    have HB2 := Lib.hid (HB1.out.trans (hb2.mono HB1.out.size))
    clear hm2 hb2
    go_upto_region 6 with (fail)
    obtain ⟨w3, px, e1, e2, hb3, h3⟩ := boxes1 w2 tTb #[.slice none 0 0, .slice none 0 0]
    rw [e1, e2]
    have HK0 := Lib.hid (show KRe w w3 p px (runP validB (opsP (xs.take 0))) from by
      obtain ⟨F, hm⟩ := HM2.out
      have hsz := HB2.out.size
      exact ⟨F, _, _, hm.below hb3, h3, rtt_nil w3, HB2.out.trans (hb3.mono hsz), Nat.le_trans hsz hb3.size, by omega⟩)
    clear e1 e2 hb3 h3 HM2 HB2 HB1 HS1
    go_wp2
    go_loopw [28] (fun i wr => ∃ k : Nat, k ≤ n ∧ i = .int .i64 k ∧ KRe w wr p px (runP validB (opsP (xs.take k)))) (fun i _ => n - (intOf i).toNat)
    case atStart => exact ⟨0, Nat.zero_le _, rfl, HK0.out⟩
    case round =>
      clear HK0
      obtain ⟨k, hk, rfl, F, va, vb, hkr⟩ := hrel
      have HK := Lib.hid hkr
      have HB := Lib.hid hkr.low
      have hsz := hkr.base.1
      clear hkr
      by_cases hlt : k < n
      · obtain ⟨b, off, o, rfl, hx⟩ := HS.out.at_ hlt
        have HR := Lib.hid (orow (HS.out.below HB.out) hx)
        have HX := Lib.hid hx
        have HSO := Lib.hid (List.all_eq_true.1 HSH.out o (List.mem_of_getElem? hx))
        have HINW := Lib.hid (HS.out.ins o (List.mem_of_getElem? hx))
        clear hx
        go_upto_region 9 with (refine wpList_load_cells rfl tO (.tmp 30) rfl ⟨b, off + k * 4, none⟩ rfl _ _ HR.out Tryz.underlying32 rfl hlenO ?_)
        obtain ⟨w4, g4, e1, e2, hb4, h4⟩ := obox1 wr o
        rw [e1, e2]
        have HK4 := Lib.hid (HK.out.below hb4)
        have HC4 := Lib.hid h4
        have HC4A := Lib.hid (show ∀ (j : Nat) (u : Value), (#[.int .i64 o.p.kind, .int .i64 o.p.owner, .slice o.A o.n o.c, .string ⟨o.p.name.toArray⟩] : Array Value)[j]? = some u → w4.cell? ((⟨g4, 0, none⟩ : Addr).add j) = some u from h4.add)
        clear e1 e2 hb4 h4
        have hlen := lens40 HSH.out k
        have hxl := HLN.out
        have HGD := Lib.hid (good_ops (short_take HSH.out k))
        have HGD5 := Lib.hid (good_ops (short_take HSH.out (k + 1)))
        have hlen5 := lens40 HSH.out (k + 1)
        rw [runP_take HX.out] at hlen5
        have HGD5' := HGD5.out
        rw [runP_take HX.out] at HGD5'
        have HG5 := Lib.hid HGD5'
        obtain ⟨t, ht⟩ : ∃ t, runP validB (opsP (xs.take k)) = t := ⟨_, rfl⟩
        have HTK := Lib.hid (runP_take HX.out)
        rw [ht] at HK4 HGD hlen hlen5 HG5 HTK
        obtain ⟨t5, bb, outs, ee, hr⟩ : ∃ t5 bb outs ee, callP validB t o.p = (t5, bb, outs, ee) := ⟨_, _, _, _, rfl⟩
        have HCP := Lib.hid hr
        rw [hr] at hlen5 HG5 HTK
        simp only at hlen5
        clear HGD5' HGD5 ht HK hr
        go_upto_region 10 with (first | (refine wpList_load_cells rfl tO (.tmp 6) rfl ⟨g4, 0, none⟩ rfl _ _ HC4A.out Tryz.underlying32 rfl hlenO ?_) | (go_at_call 7; refine (clCall w.heap.size p t F o _ HK4.out.mgr (HG.out.below HK4.out.low) (by omega) HGD.out.inv.hold (HINW.out.below HK4.out.low) HSO.out).mono ?_; rintro e w5 ⟨⟨v5, rfl, ho5⟩, F5, hm5, hc5⟩; rw [HCP.out] at ho5 hm5 ⊢; have HK5 := Lib.hid (HK4.out.call hm5 hc5); have HO5 := Lib.hid (ho5.base HK4.out.base.1); have HC5 := Lib.hid ((KpF.of_chg HK4.out.mgr hc5).blk g4 tO _ HC4.out (by decide) (by decide)); clear ho5 hm5 hc5))
        obtain ⟨q0, q1, q2, q3⟩ := obox HC5.out
        obtain ⟨A5, c5, hv5, -, -⟩ := HO5.out.zcells
        subst hv5
        obtain ⟨m5, hm5⟩ : ∃ m5, outs.length = m5 := ⟨_, rfl⟩
        rw [hm5] at HO5 ⊢
        have HM5 := Lib.hid hm5
        obtain ⟨Aa, nv, ca, Ab, nb, cb, hva, hvb⟩ := HK5.out.slices
        subst hva hvb
        clear hm5 HC4 HC4A HK4 HR
        have HSO2 := HSO.out
        unfold shortO at HSO2
        simp only [Bool.and_eq_true, decide_eq_true_eq, List.all_eq_true] at HSO2
        have HSQ := Lib.hid (show ∀ q ∈ o.p.l, q.1.length ≤ 1000 from fun q hq => by have := HSO2.2 q hq; omega)
        have hol : o.n ≤ 12 := by have h1 := HINW.out.at_.len; have h2 := HSO2.1.1; omega
        have honm : o.p.name.length ≤ 1000 := by have := HSO2.1.2; omega
        have HOL := Lib.hid hol
        have HPL := Lib.hid (show ∀ (j : Nat) (u : Value), (#[.slice Aa nv ca, .slice Ab nb cb] : Array Value)[j]? = some u → w5.cell? ((⟨px, 0, none⟩ : Addr).add j) = some u from HK5.out.box.add)
        have hgx : g4 ≠ px := Blk.ne HC5.out HK5.out.box (by decide)
        clear HSO2
        go_upto_block 2 with (fail)
        go_cut [10, 11, 12] (fun cv dv ev wx => cv = .bool bb ∧ OwnI wx w.heap.size dv outs ∧ ev = .int .i64 ee ∧ OwnI wx w.heap.size (.slice A5 m5 c5) outs ∧ Blk wx g4 tO (oa o) ∧ KRf w wx p px t5 F5)
        case first =>
          by_cases h0 : o.p.kind = 0
          · have hb0 : (o.p.kind == 0) = true := by simp [h0]
            have HC0 := Lib.hid (show ((requestP validB t o.p.owner o.p.l).1, (requestP validB t o.p.owner o.p.l).2.1, [], (requestP validB t o.p.owner o.p.l).2.2) = (t5, bb, outs, ee) from by rw [← HCP.out]; unfold callP; rw [if_pos h0])
            clear h0
            go_wp2_with (first | (refine wpList_load_cells rfl tTb (.tmp 4) rfl ⟨px, 0, none⟩ rfl _ _ HPL.out Tryz.underlying29 rfl hlenT ?_) | (go_at_call 8; refine (refRequest _ _ t o.p.owner o.A o.n o.c o.p.l w5 HK5.out.ref (by omega) (HINW.out.below HK5.out.low).at_ (by omega) HSQ.out).mono ?_; rintro e w8 ⟨a8, b8, rfl, hrt8, hb8⟩; obtain ⟨Ac, nc, cc, Ad, nd, cd, hva, hvb⟩ := hrt8.slices; subst hva hvb; have HX8 := Lib.hid (HK5.out.box.below hb8); have HO8 := Lib.hid (((HO5.out.below hb8).setC (q := ⟨px, 0, none⟩) ((HO5.out.below hb8).neB HX8.out (by decide)) (.slice Ac nc cc)).setC (q := ⟨px, 1, none⟩) ((HO5.out.below hb8).neB HX8.out (by decide)) (.slice Ad nd cd)); have HG8 := Lib.hid (((HC5.out.below hb8).far (p := ⟨px, 0, none⟩) hgx (.slice Ac nc cc)).far (p := ⟨px, 1, none⟩) hgx (.slice Ad nd cd)); have HP8 := Lib.hid (HK5.out.put hb8 hrt8); have hc0 := HX8.out.cell 0; have hc1 := HX8.out.cell 1; have hf0 := HX8.out.frozen 0; have hf1 := HX8.out.frozen 1; have hlp := HX8.out.lt; simp at hc0 hc1; clear hb8 hrt8))
            go_meet
            case rel =>
              have h := HC0.out
              injection h with h1 h
              injection h with h2 h
              injection h with h3 h4
              subst h1 h2 h3 h4
              exact ⟨rfl, OwnI.nil _ _, rfl, HO8.out, HG8.out, _, _, HP8.out⟩
          · have hb0 : (o.p.kind == 0) = false := by simp [h0]
            by_cases h1 : o.p.kind = 1
            · have hb1 : (o.p.kind == 1) = true := by simp [h1]
              have HC0 := Lib.hid (show ((releaseP t o.p.owner).1, false, (releaseP t o.p.owner).2.1, (releaseP t o.p.owner).2.2) = (t5, bb, outs, ee) from by rw [← HCP.out]; unfold callP; rw [if_neg h0, if_pos h1])
              clear h0 h1
              go_wp2_with (first | (refine wpList_load_cells rfl tTb (.tmp 4) rfl ⟨px, 0, none⟩ rfl _ _ HPL.out Tryz.underlying29 rfl hlenT ?_) | (go_at_call 9; refine (refRelease _ _ t o.p.owner w5 HK5.out.ref (by omega)).mono ?_; rintro e w8 ⟨a8, b8, vo8, rfl, hrt8, hov8, hb8⟩; have HV8 := Lib.hid (hov8.base HK5.out.base.1); clear hov8; obtain ⟨Ac, nc, cc, Ad, nd, cd, hva, hvb⟩ := hrt8.slices; subst hva hvb; have HX8 := Lib.hid (HK5.out.box.below hb8); have HO8 := Lib.hid (((HO5.out.below hb8).setC (q := ⟨px, 0, none⟩) ((HO5.out.below hb8).neB HX8.out (by decide)) (.slice Ac nc cc)).setC (q := ⟨px, 1, none⟩) ((HO5.out.below hb8).neB HX8.out (by decide)) (.slice Ad nd cd)); have HG8 := Lib.hid (((HC5.out.below hb8).far (p := ⟨px, 0, none⟩) hgx (.slice Ac nc cc)).far (p := ⟨px, 1, none⟩) hgx (.slice Ad nd cd)); have HP8 := Lib.hid (HK5.out.put hb8 hrt8); have hc0 := HX8.out.cell 0; have hc1 := HX8.out.cell 1; have hf0 := HX8.out.frozen 0; have hf1 := HX8.out.frozen 1; have hlp := HX8.out.lt; simp at hc0 hc1; clear hb8 hrt8))
              go_meet
              case rel =>
                have h := HC0.out
                injection h with h1 h
                injection h with h2 h
                injection h with h3 h4
                subst h1 h2 h3 h4
                exact ⟨rfl, (HV8.out.setC (q := ⟨px, 0, none⟩) (HV8.out.neB HX8.out (by decide)) _).setC (q := ⟨px, 1, none⟩) (HV8.out.neB HX8.out (by decide)) _, rfl, HO8.out, HG8.out, _, _, HP8.out⟩
            · have hb1 : (o.p.kind == 1) = false := by simp [h1]
              have HC0 := Lib.hid (show ((shareP t o.p.owner o.p.name).1, false, (shareP t o.p.owner o.p.name).2.1, (shareP t o.p.owner o.p.name).2.2) = (t5, bb, outs, ee) from by rw [← HCP.out]; unfold callP; rw [if_neg h0, if_neg h1])
              clear h0 h1
              go_wp2_with (first | (refine wpList_load_cells rfl tTb (.tmp 4) rfl ⟨px, 0, none⟩ rfl _ _ HPL.out Tryz.underlying29 rfl hlenT ?_) | (go_at_call 10; refine (refShare _ _ t o.p.owner o.p.name w5 HK5.out.ref (by omega) HGD.out.inv.hold).mono ?_; rintro e w8 ⟨a8, b8, vo8, rfl, hrt8, hov8, hb8⟩; have HV8 := Lib.hid (hov8.base HK5.out.base.1); clear hov8; obtain ⟨Ac, nc, cc, Ad, nd, cd, hva, hvb⟩ := hrt8.slices; subst hva hvb; have HX8 := Lib.hid (HK5.out.box.below hb8); have HO8 := Lib.hid (((HO5.out.below hb8).setC (q := ⟨px, 0, none⟩) ((HO5.out.below hb8).neB HX8.out (by decide)) (.slice Ac nc cc)).setC (q := ⟨px, 1, none⟩) ((HO5.out.below hb8).neB HX8.out (by decide)) (.slice Ad nd cd)); have HG8 := Lib.hid (((HC5.out.below hb8).far (p := ⟨px, 0, none⟩) hgx (.slice Ac nc cc)).far (p := ⟨px, 1, none⟩) hgx (.slice Ad nd cd)); have HP8 := Lib.hid (HK5.out.put hb8 hrt8); have hc0 := HX8.out.cell 0; have hc1 := HX8.out.cell 1; have hf0 := HX8.out.frozen 0; have hf1 := HX8.out.frozen 1; have hlp := HX8.out.lt; simp at hc0 hc1; clear hb8 hrt8))
              go_meet
              case rel =>
                have h := HC0.out
                injection h with h1 h
                injection h with h2 h
                injection h with h3 h4
                subst h1 h2 h3 h4
                exact ⟨rfl, (HV8.out.setC (q := ⟨px, 0, none⟩) (HV8.out.neB HX8.out (by decide)) _).setC (q := ⟨px, 1, none⟩) (HV8.out.neB HX8.out (by decide)) _, rfl, HO8.out, HG8.out, _, _, HP8.out⟩
        case rest =>
          obtain ⟨rfl, hdv, rfl, hov, hgb, ve, vf, hkr⟩ := hcut
          skip
          obtain ⟨hsR, wsR, ⟨Ae, ne, ce, rfl, hr1, hr1c, -⟩, ⟨Af, nf, cf, rfl, hr2, hr2c, -⟩, hrW, hrT⟩ := id hkr.ref
          obtain ⟨A6, c6, hd6, -, -⟩ := hdv.zcells
          subst hd6
          rw [HM5.out] at hdv ⊢
          have HK17 := Lib.hid hkr
          have HO17 := Lib.hid hov
          have HD17 := Lib.hid hdv
          have HG17 := Lib.hid hgb
          have HR1 := Lib.hid hr1
          have HR2 := Lib.hid hr2
          have HRW := Lib.hid hrW
          have hne : ne = t5.hs.length := by rw [← hr1.len, ← hrT.perm.length_eq, List.length_map]
          have hnf : nf = t5.ws.length := by rw [← hr2.len, ← hrT.wait, List.length_map]
          have HQ1 := Lib.hid (obox hgb).2.1
          have HQ3 := Lib.hid (obox hgb).2.2.2
          have HQ2 := Lib.hid (obox hgb).2.2.1
          have HNDH := Lib.hid HG5.out.inv.hold
          have HGH := Lib.hid (show ∀ c ∈ t5.hs, GoodC c from fun c hc => HG5.out.good c (List.mem_append_left _ hc))
          have HIDW := Lib.hid (show idsR wsR = ids t5.ws from by rw [idsR_fst, ← hrT.wait])
          have HIDO := Lib.hid (show sortZ (idsR (hsR ++ wsR)) = sortZ (ids (t5.hs ++ t5.ws)) from by rw [← hrT.owners, idsR_fst, List.map_append])
          have HIDH := Lib.hid (show ∀ x, heldR x hsR = heldP t5 x from fun x => heldR_eq hrT HNDH.out x)
          have HIDB := Lib.hid (show ∀ x, blocksP ⟨hsR.map (·.1), wsR.map (·.1)⟩ x = blocksP t5 x from fun x => hrT.blocks x)
          have HIDN := Lib.hid (show ∀ s, holdsR (hsR.map (·.1)) s = (holdersP t5 s).1 ∧ aloneR (hsR.map (·.1)) s = (holdersP t5 s).2 from fun s => hrT.holders (fun x hx => (HGH.out x hx).srt.once) s)
          have HNE := Lib.hid hne
          have HNF := Lib.hid hnf
          have h40 : ne + nf ≤ 40 := by omega
          clear hov hdv hgb hr1 hr2 hrW hrT hkr hne hnf HK5 HO5 HC5 HPL q0 q1 q2 q3
          go_upto_region 17 with (fail)
          refine wp_region_frame (F := ?FA) 53 (by kernel_rfl) (by kernel_rfl) (fun w1 => Below wc.heap.size wc w1)
            (fun i v w1 => match i with
              | 0 => v = .bool bb
              | 1 => v = .bool bb
              | 2 => v = .bool false
              | 3 => v = .bool false
              | 4 => v = .slice A5 m5 c5
              | 5 => v = .slice A6 m5 c6
              | 6 => v = .bool true
              | 7 => v = .bool false
              | 8 => v = .bool false
              | 9 => v = .bool false
              | 10 => v = .int .i64 ee
              | 11 => v = .int .i64 ee
              | 12 => v = .bool false
              | 13 => v = .bool false
              | 14 => v = .bool false
              | 15 => v = .pointer (some ⟨p, 0, none⟩)
              | 16 => OwnI w1 wc.heap.size v (ids t5.ws)
              | 17 => v = .agg #[.slice Ae ne ce, .slice Af nf cf]
              | 18 => OwnI w1 wc.heap.size v (ids t5.ws)
              | 19 => v = .bool true
              | 20 => v = .bool false
              | 21 => v = .bool false
              | 22 => v = .bool false
              | 23 => v = .pointer (some ⟨p, 0, none⟩)
              | 24 => OwnI w1 wc.heap.size v (sortZ (ids (t5.hs ++ t5.ws)))
              | 25 => v = .agg #[.slice Ae ne ce, .slice Af nf cf]
              | 26 => OwnI w1 wc.heap.size v (sortZ (ids (t5.hs ++ t5.ws)))
              | 27 => v = .bool true
              | 28 => v = .bool false
              | 29 => v = .bool false
              | 30 => v = .bool false
              | 31 => v = .pointer (some ⟨p, 0, none⟩)
              | 32 => v = .pointer (some ⟨g4, 1, none⟩)
              | 33 => v = .int .i64 o.p.owner
              | 34 => OwnN w1 wc.heap.size tNL v (heldP t5 o.p.owner)
              | 35 => v = .agg #[.slice Ae ne ce, .slice Af nf cf]
              | 36 => v = .pointer (some ⟨g4, 1, none⟩)
              | 37 => v = .int .i64 o.p.owner
              | 38 => HeldV w1 (heldP t5 o.p.owner) v
              | 39 => v = .bool true
              | 40 => v = .bool false
              | 41 => v = .bool false
              | 42 => v = .bool false
              | 43 => v = .pointer (some ⟨p, 0, none⟩)
              | 44 => v = .pointer (some ⟨g4, 1, none⟩)
              | 45 => v = .int .i64 o.p.owner
              | 46 => OwnI w1 wc.heap.size v (blocksP t5 o.p.owner)
              | 47 => v = .agg #[.slice Ae ne ce, .slice Af nf cf]
              | 48 => v = .pointer (some ⟨g4, 1, none⟩)
              | 49 => v = .int .i64 o.p.owner
              | 50 => OwnI w1 wc.heap.size v (blocksP t5 o.p.owner)
              | 51 => v = .bool true
              | 52 => v = .bool false
              | _ => True) (fun _ _ h1 h2 => h1.trans (h2.mono h1.size)) ?hFR ((Below.refl _ _).drew) ?hF ?hops ?hQ
          case hF =>
            intro u_
            rewrite [putAll_mid u_ _ _ 0 73 (by kernel_rfl) (of_decide_eq_true (by kernel_rfl))]
            rewrite [show ((List.range' 0 _).map u_) = [u_ 0, u_ 1, u_ 2, u_ 3, u_ 4, u_ 5, u_ 6, u_ 7, u_ 8, u_ 9, u_ 10, u_ 11, u_ 12, u_ 13, u_ 14, u_ 15, u_ 16, u_ 17, u_ 18, u_ 19, u_ 20, u_ 21, u_ 22, u_ 23, u_ 24, u_ 25, u_ 26, u_ 27, u_ 28, u_ 29, u_ 30, u_ 31, u_ 32, u_ 33, u_ 34, u_ 35, u_ 36, u_ 37, u_ 38, u_ 39, u_ 40, u_ 41, u_ 42, u_ 43, u_ 44, u_ 45, u_ 46, u_ 47, u_ 48, u_ 49, u_ 50, u_ 51, u_ 52] from by kernel_rfl]
            simp only [List.take_succ_cons, List.take_zero, List.drop_succ_cons, List.drop_zero, List.cons_append, List.nil_append, List.length_cons, List.length_nil, Nat.zero_add, Nat.reduceAdd]
            exact rfl
          case hFR =>
            intro ii vv w1 w2 hf hR
            match ii, hf with
            | 0, hf => exact hf
            | 1, hf => exact hf
            | 2, hf => exact hf
            | 3, hf => exact hf
            | 4, hf => exact hf
            | 5, hf => exact hf
            | 6, hf => exact hf
            | 7, hf => exact hf
            | 8, hf => exact hf
            | 9, hf => exact hf
            | 10, hf => exact hf
            | 11, hf => exact hf
            | 12, hf => exact hf
            | 13, hf => exact hf
            | 14, hf => exact hf
            | 15, hf => exact hf
            | 16, hf => exact OwnI.below hf hR
            | 17, hf => exact hf
            | 18, hf => exact OwnI.below hf hR
            | 19, hf => exact hf
            | 20, hf => exact hf
            | 21, hf => exact hf
            | 22, hf => exact hf
            | 23, hf => exact hf
            | 24, hf => exact OwnI.below hf hR
            | 25, hf => exact hf
            | 26, hf => exact OwnI.below hf hR
            | 27, hf => exact hf
            | 28, hf => exact hf
            | 29, hf => exact hf
            | 30, hf => exact hf
            | 31, hf => exact hf
            | 32, hf => exact hf
            | 33, hf => exact hf
            | 34, hf => exact OwnN.below hf hR
            | 35, hf => exact hf
            | 36, hf => exact hf
            | 37, hf => exact hf
            | 38, hf => exact HeldV.below hf hR
            | 39, hf => exact hf
            | 40, hf => exact hf
            | 41, hf => exact hf
            | 42, hf => exact hf
            | 43, hf => exact hf
            | 44, hf => exact hf
            | 45, hf => exact hf
            | 46, hf => exact OwnI.below hf hR
            | 47, hf => exact hf
            | 48, hf => exact hf
            | 49, hf => exact hf
            | 50, hf => exact OwnI.below hf hR
            | 51, hf => exact hf
            | 52, hf => exact hf
            | n + 53, _ => trivial
          case hops =>
            refine allOps_cons ?_ (allOps_cons ?_ (allOps_cons ?_ (allOps_cons ?_ (allOps_cons ?_ (allOps_cons ?_ (allOps_cons ?_ (allOps_cons ?_ (allOps_cons ?_ (allOps_cons ?_ (allOps_cons ?_ (allOps_cons ?_ (allOps_cons ?_ (allOps_cons ?_ (allOps_cons ?_ (allOps_cons ?_ (allOps_cons ?_ (allOps_cons ?_ (allOps_cons ?_ (allOps_cons ?_ (allOps_cons ?_ (allOps_cons ?_ (allOps_cons ?_ (allOps_cons ?_ (allOps_cons ?_ (allOps_cons ?_ (allOps_cons ?_ (allOps_cons ?_ (allOps_cons ?_ (allOps_cons ?_ (allOps_cons ?_ (allOps_cons ?_ (allOps_cons ?_ (allOps_cons ?_ (allOps_cons ?_ (allOps_cons ?_ (allOps_cons ?_ (allOps_cons ?_ (allOps_cons ?_ (allOps_cons ?_ (allOps_cons ?_ (allOps_cons ?_ (allOps_cons ?_ (allOps_cons ?_ (allOps_cons ?_ (allOps_cons ?_ (allOps_cons ?_ (allOps_cons ?_ (allOps_cons ?_ (allOps_cons ?_ (allOps_cons ?_ (allOps_cons ?_ (allOps_cons ?_ allOps_nil))))))))))))))))))))))))))))))))))))))))))))))))))))
            · intro u_ w1 hC hd K hK
              try dsimp only at hK ⊢
              simp only [Act.put, List.setIfInBounds_toArray, List.set_cons_succ, List.set_cons_zero] at hK
              go_simp
              exact hK _ _ (Below.refl _ _) rfl
            · intro u_ w1 hC hd K hK
              try dsimp only at hK ⊢
              simp only [Act.put, List.setIfInBounds_toArray, List.set_cons_succ, List.set_cons_zero] at hK
              go_simp
              exact hK _ _ (Below.refl _ _) rfl
            · intro u_ w1 hC hd K hK
              have h0 : u_ 0 = .bool bb := hd 0 rfl
              have h1 : u_ 1 = .bool bb := hd 1 rfl
              simp only [h0, h1] at hK ⊢
              simp only [Act.put, List.setIfInBounds_toArray, List.set_cons_succ, List.set_cons_zero] at hK
              go_simp
              exact hK _ _ (Below.refl _ _) rfl
            · intro u_ w1 hC hd K hK
              have h2 : u_ 2 = .bool false := hd 2 rfl
              simp only [h2] at hK ⊢
              simp only [Act.put, List.setIfInBounds_toArray, List.set_cons_succ, List.set_cons_zero] at hK
              go_simp
              exact hK _ _ (Below.refl _ _) rfl
            · intro u_ w1 hC hd K hK
              have h3 : u_ 3 = .bool false := hd 3 rfl
              simp only [h3] at hK ⊢
              simp only [Act.put, List.setIfInBounds_toArray, List.set_cons_succ, List.set_cons_zero] at hK
              go_simp
              exact hK _ _ (Below.refl _ _) rfl
            · intro u_ w1 hC hd K hK
              have h3 : u_ 3 = .bool false := hd 3 rfl
              simp only [h3] at hK ⊢
              simp only [Act.put, List.setIfInBounds_toArray, List.set_cons_succ, List.set_cons_zero] at hK
              go_simp
              exact hK _ _ (Below.refl _ _) rfl
            · intro u_ w1 hC hd K hK
              have h3 : u_ 3 = .bool false := hd 3 rfl
              have h4 : u_ 4 = .slice A5 m5 c5 := hd 4 rfl
              have h5 : u_ 5 = .slice A6 m5 c6 := hd 5 rfl
              simp only [h3, h4, h5] at hK ⊢
              simp only [Act.put, List.setIfInBounds_toArray, List.set_cons_succ, List.set_cons_zero] at hK
              rw [if_pos (show Region.wanted _ _ = true from rfl)]
              go_simp
              refine (sameInts w.heap.size w.heap.size _ _ outs w1 (HO17.out.below hC) (HD17.out.below hC)).mono ?_
              rintro e w' ⟨rfl, hb⟩
              exact hK _ w' hb rfl
            · intro u_ w1 hC hd K hK
              have h3 : u_ 3 = .bool false := hd 3 rfl
              have h6 : u_ 6 = .bool true := hd 6 rfl
              simp only [h3, h6] at hK ⊢
              simp only [Act.put, List.setIfInBounds_toArray, List.set_cons_succ, List.set_cons_zero] at hK
              go_simp
              exact hK _ _ (Below.refl _ _) rfl
            · intro u_ w1 hC hd K hK
              have h3 : u_ 3 = .bool false := hd 3 rfl
              have h7 : u_ 7 = .bool false := hd 7 rfl
              simp only [h3, h7] at hK ⊢
              simp only [Act.put, List.setIfInBounds_toArray, List.set_cons_succ, List.set_cons_zero] at hK
              go_simp
              exact hK _ _ (Below.refl _ _) rfl
            · intro u_ w1 hC hd K hK
              have h8 : u_ 8 = .bool false := hd 8 rfl
              simp only [h8] at hK ⊢
              simp only [Act.put, List.setIfInBounds_toArray, List.set_cons_succ, List.set_cons_zero] at hK
              go_simp
              exact hK _ _ (Below.refl _ _) rfl
            · intro u_ w1 hC hd K hK
              have h9 : u_ 9 = .bool false := hd 9 rfl
              simp only [h9] at hK ⊢
              simp only [Act.put, List.setIfInBounds_toArray, List.set_cons_succ, List.set_cons_zero] at hK
              go_simp
              exact hK _ _ (Below.refl _ _) rfl
            · intro u_ w1 hC hd K hK
              have h9 : u_ 9 = .bool false := hd 9 rfl
              simp only [h9] at hK ⊢
              simp only [Act.put, List.setIfInBounds_toArray, List.set_cons_succ, List.set_cons_zero] at hK
              go_simp
              exact hK _ _ (Below.refl _ _) rfl
            · intro u_ w1 hC hd K hK
              have h9 : u_ 9 = .bool false := hd 9 rfl
              have h10 : u_ 10 = .int .i64 ee := hd 10 rfl
              have h11 : u_ 11 = .int .i64 ee := hd 11 rfl
              simp only [h9, h10, h11] at hK ⊢
              simp only [Act.put, List.setIfInBounds_toArray, List.set_cons_succ, List.set_cons_zero] at hK
              go_simp
              exact hK _ _ (Below.refl _ _) rfl
            · intro u_ w1 hC hd K hK
              have h9 : u_ 9 = .bool false := hd 9 rfl
              have h12 : u_ 12 = .bool false := hd 12 rfl
              simp only [h9, h12] at hK ⊢
              simp only [Act.put, List.setIfInBounds_toArray, List.set_cons_succ, List.set_cons_zero] at hK
              go_simp
              exact hK _ _ (Below.refl _ _) rfl
            · intro u_ w1 hC hd K hK
              have h13 : u_ 13 = .bool false := hd 13 rfl
              simp only [h13] at hK ⊢
              simp only [Act.put, List.setIfInBounds_toArray, List.set_cons_succ, List.set_cons_zero] at hK
              go_simp
              exact hK _ _ (Below.refl _ _) rfl
            · intro u_ w1 hC hd K hK
              have h14 : u_ 14 = .bool false := hd 14 rfl
              simp only [h14] at hK ⊢
              simp only [Act.put, List.setIfInBounds_toArray, List.set_cons_succ, List.set_cons_zero] at hK
              go_simp
              exact hK _ _ (Below.refl _ _) rfl
            · intro u_ w1 hC hd K hK
              have h14 : u_ 14 = .bool false := hd 14 rfl
              have h15 : u_ 15 = .pointer (some ⟨p, 0, none⟩) := hd 15 rfl
              simp only [h14, h15] at hK ⊢
              simp only [Act.put, List.setIfInBounds_toArray, List.set_cons_succ, List.set_cons_zero] at hK
              rw [if_pos (show Region.wanted _ _ = true from rfl)]
              go_simp
              refine (clWaitT w.heap.size p t5 F5 w1 (HK17.out.mgr.below hC) (by omega)).mono ?_
              rintro e w' ⟨v, rfl, ho, hb⟩
              exact hK v w' hb (ho.base hC.size)
            · intro u_ w1 hC hd K hK
              have h14 : u_ 14 = .bool false := hd 14 rfl
              simp only [h14] at hK ⊢
              simp only [Act.put, List.setIfInBounds_toArray, List.set_cons_succ, List.set_cons_zero] at hK
              rw [if_pos (show Region.wanted _ _ = true from rfl)]
              exact wp_load_cells tTb (.tmp 4) rfl ⟨px, 0, none⟩ rfl (#[.slice Ae ne ce, .slice Af nf cf]) _ ((HK17.out.box.below hC).add) Tryz.underlying29 rfl hlenT (hK _ _ (Below.refl _ _) rfl)
            · intro u_ w1 hC hd K hK
              have h14 : u_ 14 = .bool false := hd 14 rfl
              have h17 : u_ 17 = .agg #[.slice Ae ne ce, .slice Af nf cf] := hd 17 rfl
              simp only [h14, h17] at hK ⊢
              simp only [Act.put, List.setIfInBounds_toArray, List.set_cons_succ, List.set_cons_zero] at hK
              rw [if_pos (show Region.wanted _ _ = true from rfl)]
              go_simp
              refine (refWaiting Ae Af ne ce nf cf wsR w1 (HR2.out.below hC) (by omega)).mono ?_
              rw [HIDW.out]
              rintro e w' ⟨v, rfl, ho, hb⟩
              exact hK v w' hb (ho.base hC.size)
            · intro u_ w1 hC hd K hK
              have h14 : u_ 14 = .bool false := hd 14 rfl
              have h16 : OwnI w1 wc.heap.size (u_ 16) (ids t5.ws) := hd 16 rfl
              have h18 : OwnI w1 wc.heap.size (u_ 18) (ids t5.ws) := hd 18 rfl
              simp only [h14] at hK ⊢
              simp only [Act.put, List.setIfInBounds_toArray, List.set_cons_succ, List.set_cons_zero] at hK
              rw [if_pos (show Region.wanted _ _ = true from rfl)]
              go_simp
              refine (sameInts _ _ (u_ 16) (u_ 18) _ w1 h16 h18).mono ?_
              rintro e w' ⟨rfl, hb⟩
              exact hK _ w' hb rfl
            · intro u_ w1 hC hd K hK
              have h14 : u_ 14 = .bool false := hd 14 rfl
              have h19 : u_ 19 = .bool true := hd 19 rfl
              simp only [h14, h19] at hK ⊢
              simp only [Act.put, List.setIfInBounds_toArray, List.set_cons_succ, List.set_cons_zero] at hK
              go_simp
              exact hK _ _ (Below.refl _ _) rfl
            · intro u_ w1 hC hd K hK
              have h14 : u_ 14 = .bool false := hd 14 rfl
              have h20 : u_ 20 = .bool false := hd 20 rfl
              simp only [h14, h20] at hK ⊢
              simp only [Act.put, List.setIfInBounds_toArray, List.set_cons_succ, List.set_cons_zero] at hK
              go_simp
              exact hK _ _ (Below.refl _ _) rfl
            · intro u_ w1 hC hd K hK
              have h21 : u_ 21 = .bool false := hd 21 rfl
              simp only [h21] at hK ⊢
              simp only [Act.put, List.setIfInBounds_toArray, List.set_cons_succ, List.set_cons_zero] at hK
              go_simp
              exact hK _ _ (Below.refl _ _) rfl
            · intro u_ w1 hC hd K hK
              have h22 : u_ 22 = .bool false := hd 22 rfl
              simp only [h22] at hK ⊢
              simp only [Act.put, List.setIfInBounds_toArray, List.set_cons_succ, List.set_cons_zero] at hK
              go_simp
              exact hK _ _ (Below.refl _ _) rfl
            · intro u_ w1 hC hd K hK
              have h22 : u_ 22 = .bool false := hd 22 rfl
              have h23 : u_ 23 = .pointer (some ⟨p, 0, none⟩) := hd 23 rfl
              simp only [h22, h23] at hK ⊢
              simp only [Act.put, List.setIfInBounds_toArray, List.set_cons_succ, List.set_cons_zero] at hK
              rw [if_pos (show Region.wanted _ _ = true from rfl)]
              go_simp
              refine (clOwners w.heap.size p t5 F5 w1 (HK17.out.mgr.below hC) (by omega)).mono ?_
              rintro e w' ⟨v, rfl, ho, hb⟩
              exact hK v w' hb (ho.base hC.size)
            · intro u_ w1 hC hd K hK
              have h22 : u_ 22 = .bool false := hd 22 rfl
              simp only [h22] at hK ⊢
              simp only [Act.put, List.setIfInBounds_toArray, List.set_cons_succ, List.set_cons_zero] at hK
              rw [if_pos (show Region.wanted _ _ = true from rfl)]
              exact wp_load_cells tTb (.tmp 4) rfl ⟨px, 0, none⟩ rfl (#[.slice Ae ne ce, .slice Af nf cf]) _ ((HK17.out.box.below hC).add) Tryz.underlying29 rfl hlenT (hK _ _ (Below.refl _ _) rfl)
            · intro u_ w1 hC hd K hK
              have h22 : u_ 22 = .bool false := hd 22 rfl
              have h25 : u_ 25 = .agg #[.slice Ae ne ce, .slice Af nf cf] := hd 25 rfl
              simp only [h22, h25] at hK ⊢
              simp only [Act.put, List.setIfInBounds_toArray, List.set_cons_succ, List.set_cons_zero] at hK
              rw [if_pos (show Region.wanted _ _ = true from rfl)]
              go_simp
              refine (refOwners Ae Af ne ce nf cf hsR wsR w1 (HR1.out.below hC) (HR2.out.below hC) (by omega)).mono ?_
              rw [HIDO.out]
              rintro e w' ⟨v, rfl, ho, hb⟩
              exact hK v w' hb (ho.base hC.size)
            · intro u_ w1 hC hd K hK
              have h22 : u_ 22 = .bool false := hd 22 rfl
              have h24 : OwnI w1 wc.heap.size (u_ 24) (sortZ (ids (t5.hs ++ t5.ws))) := hd 24 rfl
              have h26 : OwnI w1 wc.heap.size (u_ 26) (sortZ (ids (t5.hs ++ t5.ws))) := hd 26 rfl
              simp only [h22] at hK ⊢
              simp only [Act.put, List.setIfInBounds_toArray, List.set_cons_succ, List.set_cons_zero] at hK
              rw [if_pos (show Region.wanted _ _ = true from rfl)]
              go_simp
              refine (sameInts _ _ (u_ 24) (u_ 26) _ w1 h24 h26).mono ?_
              rintro e w' ⟨rfl, hb⟩
              exact hK _ w' hb rfl
            · intro u_ w1 hC hd K hK
              have h22 : u_ 22 = .bool false := hd 22 rfl
              have h27 : u_ 27 = .bool true := hd 27 rfl
              simp only [h22, h27] at hK ⊢
              simp only [Act.put, List.setIfInBounds_toArray, List.set_cons_succ, List.set_cons_zero] at hK
              go_simp
              exact hK _ _ (Below.refl _ _) rfl
            · intro u_ w1 hC hd K hK
              have h22 : u_ 22 = .bool false := hd 22 rfl
              have h28 : u_ 28 = .bool false := hd 28 rfl
              simp only [h22, h28] at hK ⊢
              simp only [Act.put, List.setIfInBounds_toArray, List.set_cons_succ, List.set_cons_zero] at hK
              go_simp
              exact hK _ _ (Below.refl _ _) rfl
            · intro u_ w1 hC hd K hK
              have h29 : u_ 29 = .bool false := hd 29 rfl
              simp only [h29] at hK ⊢
              simp only [Act.put, List.setIfInBounds_toArray, List.set_cons_succ, List.set_cons_zero] at hK
              go_simp
              exact hK _ _ (Below.refl _ _) rfl
            · intro u_ w1 hC hd K hK
              have h30 : u_ 30 = .bool false := hd 30 rfl
              simp only [h30] at hK ⊢
              simp only [Act.put, List.setIfInBounds_toArray, List.set_cons_succ, List.set_cons_zero] at hK
              go_simp
              exact hK _ _ (Below.refl _ _) rfl
            · intro u_ w1 hC hd K hK
              have h30 : u_ 30 = .bool false := hd 30 rfl
              simp only [h30] at hK ⊢
              simp only [Act.put, List.setIfInBounds_toArray, List.set_cons_succ, List.set_cons_zero] at hK
              go_simp
              exact hK _ _ (Below.refl _ _) rfl
            · intro u_ w1 hC hd K hK
              have h30 : u_ 30 = .bool false := hd 30 rfl
              have h32 : u_ 32 = .pointer (some ⟨g4, 1, none⟩) := hd 32 rfl
              have hc1 : w1.cell? ⟨g4, 1, none⟩ = some (.int .i64 o.p.owner) := by rw [hC.cell (p := ⟨g4, 1, none⟩) (World.block_lt_of_cell? wc _ HQ1.out)]; exact HQ1.out
              simp only [h30, h32] at hK ⊢
              simp only [Act.put, List.setIfInBounds_toArray, List.set_cons_succ, List.set_cons_zero] at hK
              go_simp
              exact hK _ _ (Below.refl _ _) rfl
            · intro u_ w1 hC hd K hK
              have h30 : u_ 30 = .bool false := hd 30 rfl
              have h31 : u_ 31 = .pointer (some ⟨p, 0, none⟩) := hd 31 rfl
              have h33 : u_ 33 = .int .i64 o.p.owner := hd 33 rfl
              simp only [h30, h31, h33] at hK ⊢
              simp only [Act.put, List.setIfInBounds_toArray, List.set_cons_succ, List.set_cons_zero] at hK
              rw [if_pos (show Region.wanted _ _ = true from rfl)]
              go_simp
              refine (clHeld w.heap.size p t5 F5 o.p.owner w1 (HK17.out.mgr.below hC) (by omega) HGH.out).mono ?_
              rintro e w' ⟨v, rfl, ho, hb⟩
              exact hK v w' hb (World.ownsRow.mono ho hC.size)
            · intro u_ w1 hC hd K hK
              have h30 : u_ 30 = .bool false := hd 30 rfl
              simp only [h30] at hK ⊢
              simp only [Act.put, List.setIfInBounds_toArray, List.set_cons_succ, List.set_cons_zero] at hK
              rw [if_pos (show Region.wanted _ _ = true from rfl)]
              exact wp_load_cells tTb (.tmp 4) rfl ⟨px, 0, none⟩ rfl (#[.slice Ae ne ce, .slice Af nf cf]) _ ((HK17.out.box.below hC).add) Tryz.underlying29 rfl hlenT (hK _ _ (Below.refl _ _) rfl)
            · intro u_ w1 hC hd K hK
              have h30 : u_ 30 = .bool false := hd 30 rfl
              simp only [h30] at hK ⊢
              simp only [Act.put, List.setIfInBounds_toArray, List.set_cons_succ, List.set_cons_zero] at hK
              go_simp
              exact hK _ _ (Below.refl _ _) rfl
            · intro u_ w1 hC hd K hK
              have h30 : u_ 30 = .bool false := hd 30 rfl
              have h36 : u_ 36 = .pointer (some ⟨g4, 1, none⟩) := hd 36 rfl
              have hc1 : w1.cell? ⟨g4, 1, none⟩ = some (.int .i64 o.p.owner) := by rw [hC.cell (p := ⟨g4, 1, none⟩) (World.block_lt_of_cell? wc _ HQ1.out)]; exact HQ1.out
              simp only [h30, h36] at hK ⊢
              simp only [Act.put, List.setIfInBounds_toArray, List.set_cons_succ, List.set_cons_zero] at hK
              go_simp
              exact hK _ _ (Below.refl _ _) rfl
            · intro u_ w1 hC hd K hK
              have h30 : u_ 30 = .bool false := hd 30 rfl
              have h35 : u_ 35 = .agg #[.slice Ae ne ce, .slice Af nf cf] := hd 35 rfl
              have h37 : u_ 37 = .int .i64 o.p.owner := hd 37 rfl
              simp only [h30, h35, h37] at hK ⊢
              simp only [Act.put, List.setIfInBounds_toArray, List.set_cons_succ, List.set_cons_zero] at hK
              rw [if_pos (show Region.wanted _ _ = true from rfl)]
              go_simp
              refine (refHeld Ae Af ne ce nf cf o.p.owner hsR w1 (HR1.out.below hC) (fun x hx => (HRW.out x (List.mem_append_left _ hx)).1.below hC) (by omega)).mono ?_
              rw [HIDH.out]
              rintro e w' ⟨v, rfl, ho, hb⟩
              exact hK v w' hb ho
            · intro u_ w1 hC hd K hK
              have h30 : u_ 30 = .bool false := hd 30 rfl
              have h34 : OwnN w1 wc.heap.size tNL (u_ 34) (heldP t5 o.p.owner) := hd 34 rfl
              have h38 : HeldV w1 (heldP t5 o.p.owner) (u_ 38) := hd 38 rfl
              obtain ⟨A34, c34, e34, hs34, -⟩ := h34.cap
              obtain ⟨A38, n38, c38, e38, hs38, hn38⟩ := h38
              have hnn : (heldP t5 o.p.owner).length = n38 := hs38.len
              rw [hnn] at e34 hs34
              simp only [e34, e38] at hK ⊢
              simp only [h30] at hK ⊢
              simp only [Act.put, List.setIfInBounds_toArray, List.set_cons_succ, List.set_cons_zero] at hK
              rw [if_pos (show Region.wanted _ _ = true from rfl)]
              go_simp
              refine (sameLocksN A34 A38 c34 c38 n38 _ w1 hs34 hs38 (by omega)).mono ?_
              rintro e w' ⟨rfl, hb⟩
              exact hK _ w' hb rfl
            · intro u_ w1 hC hd K hK
              have h30 : u_ 30 = .bool false := hd 30 rfl
              have h39 : u_ 39 = .bool true := hd 39 rfl
              simp only [h30, h39] at hK ⊢
              simp only [Act.put, List.setIfInBounds_toArray, List.set_cons_succ, List.set_cons_zero] at hK
              go_simp
              exact hK _ _ (Below.refl _ _) rfl
            · intro u_ w1 hC hd K hK
              have h30 : u_ 30 = .bool false := hd 30 rfl
              have h40 : u_ 40 = .bool false := hd 40 rfl
              simp only [h30, h40] at hK ⊢
              simp only [Act.put, List.setIfInBounds_toArray, List.set_cons_succ, List.set_cons_zero] at hK
              go_simp
              exact hK _ _ (Below.refl _ _) rfl
            · intro u_ w1 hC hd K hK
              have h41 : u_ 41 = .bool false := hd 41 rfl
              simp only [h41] at hK ⊢
              simp only [Act.put, List.setIfInBounds_toArray, List.set_cons_succ, List.set_cons_zero] at hK
              go_simp
              exact hK _ _ (Below.refl _ _) rfl
            · intro u_ w1 hC hd K hK
              have h42 : u_ 42 = .bool false := hd 42 rfl
              simp only [h42] at hK ⊢
              simp only [Act.put, List.setIfInBounds_toArray, List.set_cons_succ, List.set_cons_zero] at hK
              go_simp
              exact hK _ _ (Below.refl _ _) rfl
            · intro u_ w1 hC hd K hK
              have h42 : u_ 42 = .bool false := hd 42 rfl
              simp only [h42] at hK ⊢
              simp only [Act.put, List.setIfInBounds_toArray, List.set_cons_succ, List.set_cons_zero] at hK
              go_simp
              exact hK _ _ (Below.refl _ _) rfl
            · intro u_ w1 hC hd K hK
              have h42 : u_ 42 = .bool false := hd 42 rfl
              have h44 : u_ 44 = .pointer (some ⟨g4, 1, none⟩) := hd 44 rfl
              have hc1 : w1.cell? ⟨g4, 1, none⟩ = some (.int .i64 o.p.owner) := by rw [hC.cell (p := ⟨g4, 1, none⟩) (World.block_lt_of_cell? wc _ HQ1.out)]; exact HQ1.out
              simp only [h42, h44] at hK ⊢
              simp only [Act.put, List.setIfInBounds_toArray, List.set_cons_succ, List.set_cons_zero] at hK
              go_simp
              exact hK _ _ (Below.refl _ _) rfl
            · intro u_ w1 hC hd K hK
              have h42 : u_ 42 = .bool false := hd 42 rfl
              have h43 : u_ 43 = .pointer (some ⟨p, 0, none⟩) := hd 43 rfl
              have h45 : u_ 45 = .int .i64 o.p.owner := hd 45 rfl
              simp only [h42, h43, h45] at hK ⊢
              simp only [Act.put, List.setIfInBounds_toArray, List.set_cons_succ, List.set_cons_zero] at hK
              rw [if_pos (show Region.wanted _ _ = true from rfl)]
              go_simp
              refine (clBlocks w.heap.size p t5 F5 o.p.owner w1 (HK17.out.mgr.below hC) (by omega)).mono ?_
              rintro e w' ⟨v, rfl, ho, hb⟩
              exact hK v w' hb (ho.base hC.size)
            · intro u_ w1 hC hd K hK
              have h42 : u_ 42 = .bool false := hd 42 rfl
              simp only [h42] at hK ⊢
              simp only [Act.put, List.setIfInBounds_toArray, List.set_cons_succ, List.set_cons_zero] at hK
              rw [if_pos (show Region.wanted _ _ = true from rfl)]
              exact wp_load_cells tTb (.tmp 4) rfl ⟨px, 0, none⟩ rfl (#[.slice Ae ne ce, .slice Af nf cf]) _ ((HK17.out.box.below hC).add) Tryz.underlying29 rfl hlenT (hK _ _ (Below.refl _ _) rfl)
            · intro u_ w1 hC hd K hK
              have h42 : u_ 42 = .bool false := hd 42 rfl
              simp only [h42] at hK ⊢
              simp only [Act.put, List.setIfInBounds_toArray, List.set_cons_succ, List.set_cons_zero] at hK
              go_simp
              exact hK _ _ (Below.refl _ _) rfl
            · intro u_ w1 hC hd K hK
              have h42 : u_ 42 = .bool false := hd 42 rfl
              have h48 : u_ 48 = .pointer (some ⟨g4, 1, none⟩) := hd 48 rfl
              have hc1 : w1.cell? ⟨g4, 1, none⟩ = some (.int .i64 o.p.owner) := by rw [hC.cell (p := ⟨g4, 1, none⟩) (World.block_lt_of_cell? wc _ HQ1.out)]; exact HQ1.out
              simp only [h42, h48] at hK ⊢
              simp only [Act.put, List.setIfInBounds_toArray, List.set_cons_succ, List.set_cons_zero] at hK
              go_simp
              exact hK _ _ (Below.refl _ _) rfl
            · intro u_ w1 hC hd K hK
              have h42 : u_ 42 = .bool false := hd 42 rfl
              have h47 : u_ 47 = .agg #[.slice Ae ne ce, .slice Af nf cf] := hd 47 rfl
              have h49 : u_ 49 = .int .i64 o.p.owner := hd 49 rfl
              simp only [h42, h47, h49] at hK ⊢
              simp only [Act.put, List.setIfInBounds_toArray, List.set_cons_succ, List.set_cons_zero] at hK
              rw [if_pos (show Region.wanted _ _ = true from rfl)]
              go_simp
              refine (refBlocks Ae Af ne ce nf cf o.p.owner hsR wsR w1 (HR1.out.below hC) (HR2.out.below hC) (fun x hx => (HRW.out x hx).1.below hC) (by omega) hr2c).mono ?_
              rw [HIDB.out]
              rintro e w' ⟨v, rfl, ho, hb⟩
              exact hK v w' hb (ho.base hC.size)
            · intro u_ w1 hC hd K hK
              have h42 : u_ 42 = .bool false := hd 42 rfl
              have h46 : OwnI w1 wc.heap.size (u_ 46) (blocksP t5 o.p.owner) := hd 46 rfl
              have h50 : OwnI w1 wc.heap.size (u_ 50) (blocksP t5 o.p.owner) := hd 50 rfl
              simp only [h42] at hK ⊢
              simp only [Act.put, List.setIfInBounds_toArray, List.set_cons_succ, List.set_cons_zero] at hK
              rw [if_pos (show Region.wanted _ _ = true from rfl)]
              go_simp
              refine (sameInts _ _ (u_ 46) (u_ 50) _ w1 h46 h50).mono ?_
              rintro e w' ⟨rfl, hb⟩
              exact hK _ w' hb rfl
            · intro u_ w1 hC hd K hK
              have h42 : u_ 42 = .bool false := hd 42 rfl
              have h51 : u_ 51 = .bool true := hd 51 rfl
              simp only [h42, h51] at hK ⊢
              simp only [Act.put, List.setIfInBounds_toArray, List.set_cons_succ, List.set_cons_zero] at hK
              go_simp
              exact hK _ _ (Below.refl _ _) rfl
          case hQ =>
            intro u_ wt hC hf
            have h42 : u_ 42 = .bool false := hf 42 (by omega)
            have h52 : u_ 52 = .bool false := hf 52 (by omega)
            have HBT := Lib.hid hC
            have HKT := Lib.hid (HK17.out.below hC)
            have HBT2 := Lib.hid hC
            have HGT := Lib.hid (HG17.out.below hC)
            have HW17 := Lib.hid HK17.out.low
            clear hC hf
            simp only [List.drop_succ_cons, List.drop_zero, h42, h52]
            clear h42 h52
            have q2 := (obox HGT.out).2.2.1
            have q3 := (obox HGT.out).2.2.2
            have za : ∀ ob : Obj, (wt.alloc ob).cell? ⟨g4, 2, none⟩ = some (.slice o.A o.n o.c) := fun ob => (obox (HGT.out.alloc ob)).2.2.1
            have HNLW := Lib.hid ((HINW.out.below HW17.out).below HBT.out).at_
            have HNN := Lib.hid (CellsAt.none_ HNLW.out (by omega))
            obtain ⟨n9, hn9⟩ : ∃ n9, 1 + o.n = n9 := ⟨_, rfl⟩
            have hn13 : n9 ≤ 13 := by omega
            have HN9P := Lib.hid hn9
            clear hn9
            go_wp2_with (at_builtin; refine wpList_append_own2 rfl (.tmp 130) (.tmp 132) 30 rfl wt.heap.size tNL i0 _ 2 24 Tryz.underlying30 HI.out HZ0.out HZ1.out HZ2.out rfl (by omega) (.slice (some ⟨wt.heap.size, 0, none⟩) 1 1) 1 (nc (o.p.name, false)) rfl (lit1_row wt (o.p.name, false)) o.A o.n o.c (ncs o.p.l) rfl HNN.out (HNLW.out.below (below_alloc (Below.refl _ _) _)) (ncs_one _) (by unfold maxLen; omega) (by omega) (by simp) ?_; intro v9 w9 ho9 hg9; obtain ⟨A9, c9, hv9⟩ := row_sl ho9; rw [HN9P.out] at hv9; subst hv9; have HO9 := Lib.hid ho9; have HG9 := Lib.hid hg9; clear ho9 hg9)
            have HN9 := Lib.hid (show OwnN w9 wt.heap.size tNL (.slice A9 n9 c9) ((o.p.name, false) :: o.p.l) from by
              unfold OwnN
              rw [List.length_cons, Nat.add_comm, HNLW.out.len, ncs_cons]
              exact HO9.out)
            have HBN := Lib.hid (show Below wt.heap.size wt w9 from (below_alloc (Below.refl _ wt) _).grown HG9.out (by simp) (fun j hj => by injection hj with hj; simp only at hj; omega))
            have HS9 := Lib.hid (show NlsAt w9 A9 n9 ((o.p.name, false) :: o.p.l) from by
              obtain ⟨A', c', e, h1, -⟩ := HN9.out.cap
              injection e with e1 e2 e3
              subst e1
              rw [e2]
              exact h1)
            have HLQ := Lib.hid (show ∀ q ∈ (o.p.name, false) :: o.p.l, q.1.length ≤ 1000 from fun q hq => by
              rcases List.mem_cons.1 hq with rfl | hq
              · exact honm
              · exact HSQ.out q hq)
            have HK9 := Lib.hid (HKT.out.below HBN.out)
            have HBX := Lib.hid (HBT2.out.trans (HBN.out.mono HBT2.out.size))
            obtain ⟨ls9, hls9⟩ : ∃ ls9, (o.p.name, false) :: o.p.l = ls9 := ⟨_, rfl⟩
            rw [hls9] at HS9 HLQ
            clear hls9 HO9 HG9 HN9 HBN HKT HNLW HNN za q2 q3
            go_loopw [135] (fun i wr => ∃ j : Nat, j ≤ n9 ∧ i = .int .i64 j ∧ Below w9.heap.size w9 wr) (fun i _ => n9 - (intOf i).toNat)
            case atStart => exact ⟨0, Nat.zero_le _, rfl, Below.refl _ _⟩
            case round =>
              obtain ⟨j, hj, rfl, hb10⟩ := hrel
              have HB10 := Lib.hid hb10
              have hsz10 := hb10.size
              clear hb10
              by_cases hlj : j < n9
              · obtain ⟨b2, off2, q, rfl, hq, y0, y1⟩ := (HS9.out.below HB10.out).at_ hlj
                have HRQ := Lib.hid ((HS9.out.below HB10.out).row hq)
                have hq1 := HLQ.out q (List.mem_of_getElem? hq)
                have hj1 : (j : Int) < (n9 : Int) := by omega
                have hj2 : (0 : Int) ≤ (j : Int) := by omega
                clear hq y0 y1
                go_upto_region 22 with (refine wpList_load_cells rfl tNL (.tmp 137) rfl ⟨b2, off2 + j * 2, none⟩ rfl _ _ HRQ.out Tryz.underlying51 rfl hlenN ?_)
                obtain ⟨w11, g11, e1, e2, hb11, h11⟩ := nbox1 wr q
                rw [e1, e2]
                have HB11 := Lib.hid (HB10.out.trans (hb11.mono hsz10))
                have HK11 := Lib.hid (HK9.out.below HB11.out)
                have HX11 := Lib.hid h11
                have y0 := h11.cell 0
                simp [na] at y0
                obtain ⟨hh1, hh2⟩ := HIDN.out q.1
                obtain ⟨HP, hHP⟩ : ∃ HP, (holdersP t5 q.1).1 = HP := ⟨_, rfl⟩
                obtain ⟨E, hE⟩ : ∃ E, (holdersP t5 q.1).2 = E := ⟨_, rfl⟩
                have HHP := Lib.hid hHP
                have HE := Lib.hid hE
                rw [hHP] at hh1
                rw [hE] at hh2
                have HH1 := Lib.hid hh1
                have HH2 := Lib.hid hh2
                clear e1 e2 hb11 h11 hh1 hh2 hHP hE
                go_upto_region 24 with (first | (refine wpList_load_cells rfl tTb (.tmp 4) rfl ⟨px, 0, none⟩ rfl _ _ HPX.out Tryz.underlying29 rfl hlenT ?_) | (go_at_call 21; refine (clHolders w.heap.size p t5 F5 q.1 w11 HK11.out.mgr (by omega) hq1).mono ?_; rintro e w12 ⟨v12, rfl, ho12, hb12⟩; rw [HE.out]; rw [HHP.out] at ho12; have HO12 := Lib.hid ho12; have HB12 := Lib.hid (HB11.out.trans (hb12.mono HB11.out.size)); have HK12 := Lib.hid (HK11.out.below hb12); have HPX := Lib.hid (show ∀ (j : Nat) (u : Value), (#[.slice Ae ne ce, .slice Af nf cf] : Array Value)[j]? = some u → w12.cell? ((⟨px, 0, none⟩ : Addr).add j) = some u from HK12.out.box.add); have y0 := (HX11.out.below hb12).cell 0; simp [na] at y0; clear ho12 hb12) | (go_at_call 22; refine (refHolders Ae Af ne ce nf cf q.1 hsR w12 (HR1.out.below ((HBX.out.trans (HB12.out.mono HBX.out.size)))) (fun x hx => (HRW.out x (List.mem_append_left _ hx)).1.below ((HBX.out.trans (HB12.out.mono HBX.out.size)))) (by omega)).mono ?_; rintro e w13 ⟨v13, rfl, ho13, hb13⟩; rw [HH2.out]; rw [HH1.out] at ho13; have HO13 := Lib.hid ho13; have HB13 := Lib.hid (HB12.out.trans (hb13.mono HB12.out.size)); have HO12' := Lib.hid (HO12.out.below hb13); clear ho13 hb13))
                cases E
                all_goals
                  go_wp2_with (go_at_call 11; refine (sameInts _ _ _ _ HP w13 HO12'.out HO13.out).mono ?_; rintro e w14 ⟨rfl, hb14⟩; have HB14 := Lib.hid (HB13.out.trans (hb14.mono HB13.out.size)); clear hb14)
                  refine ⟨⟨j + 1, hlj, by simp, HB14.out⟩, by dsimp only [intOf]; omega⟩
              · have hjn : j = n9 := by omega
                have hj1 : ¬ (j : Int) < (n9 : Int) := by omega
                go_wp2
                refine ⟨⟨k + 1, hlt, by simp, ?_⟩, by dsimp only [intOf]; omega⟩
                rw [HTK.out]
                exact ⟨_, _, _, HK9.out.below HB10.out⟩
      · have hkn : k = n := by omega
        subst hkn
        have hk1 : ¬ (k : Int) < (k : Int) := by omega
        go_wp2
        go_ret
        exact ⟨rfl, HB.out⟩
end Go.Proofs.YtojbddcbnnbklaaGreatDoor
namespace Go.Proofs.YtojbddcbnnbklaaGreatDoor.enqueueCalls
open Go.ChangeShapes Go.WideShapes Go.ChangeAt Go.RowKit
open Go.ChangeMaps (open_string shut_string)

set_option maxRecDepth 100000 in
theorem lifted (os : Os) (started : os.Started) (H : Type) (enc : TypeId × Value → H) :
    ReturnsInHanded {} Tryz.checked os 3 .any (fun w args => (Rows.enqueueCallsSpec.pre enc Tryz.prog Tryz.f3 [] false w args ∧ laidMetH Tryz.prog laidL w) ∧ sizedMet enc Tryz.prog Tryz.f3 (OpenSpec.ofChange Rows.enqueueCallsSpec) false w args)
      (Rows.enqueueCallsSpec.post enc Tryz.prog Tryz.f3 false true false false) := by
  refine handed_shaped (C := Tryz.checked) (X := fun w _ => laidMetH Tryz.prog laidL w) (fun _ _ _ hh h => h.of_heap hh) own started (by kernel_rfl) Tryz.func3
    (ChangeSpec.witness_shaped (enc := enc) (C := Tryz.checked) (os := os) (X := fun w _ => laidMetH Tryz.prog laidL w) false (laidWorld os) #[.slice none 0 0] 8 rfl (World.shaped_of_RefB (by kernel_rfl) (by kernel_rfl)) (by kernel_rfl) (by kernel_rfl) (by kernel_rfl) (door_met os _)) ?_
  intro W base args ds gs before hval0 hW _ _ _ hsh _
  have C := glob_of_shape hsh
  have hval : ∀ (j : Nat) t v, Tryz.f3.params[j]? = some t → args[j]? = some v → Value.okWide Tryz.prog W .any base t v := hval0
  have hW' := hW
  obtain ⟨p, q, hA0, hV, rfl, hfz, hnd⟩ := hW
  have hA : DataW.TrodAll enc Tryz.prog W 0 (fun _ => true) true Tryz.f3.params.toList args.toList ds p := hA0
  rw [Tryz.params3] at hA hval
  obtain ⟨v0, vs0, d0, ds0, p0, q0, hargs, rfl, rfl, h0, r0⟩ := trodAll_cons hA
  obtain ⟨rfl, rfl, rfl⟩ := trodAll_nil r0
  obtain rfl : args = #[v0] := by cases args; simp_all
  obtain ⟨rfl, rfl⟩ := trodVars_none hV
  have k0 := h0
  have lt0 : ∀ x ∈ p0, x.block < W.heap.size := by obtain ⟨m, hm⟩ := k0; exact DataW.trod_lt m _ _ _ hm
  obtain ⟨A0, n0, c0, rfl⟩ := okWide_slice Tryz.underlying22 (hval 0 22 v0 rfl rfl)
  obtain ⟨z0, w0, y0⟩ := open_ops_at Tryz.underlying22 h0
  clear hA0 hval0
  refine (lawCalls A0 n0 c0 z0 W C w0 y0).mono fun e W' ⟨he, bel⟩ => ?_
  subst he
  exact ⟨_, rfl, _, _, _, [], _, [], hW', trodAll_mk1 (shut_bool Tryz.underlying4 _), (trodAll_cons_mk (Below.trod laidOut (by kernel_rfl) (of_decide_eq_true (by kernel_rfl)) k0 bel lt0) trodAll_mk0), rfl, bel.frame _, fun h => by cases h⟩

theorem holds : Rows.EnqueueCallsSaid :=
  OpenClaim.holds_of_wide 3 Tryz.f3 rfl rfl rfl rfl rfl rfl rfl ⟨rfl, rfl, rfl, rfl, rfl⟩ rfl rfl rfl rfl rfl (by kernel_rfl) Tryz.func3 (by kernel_rfl)
    (of_decide_eq_true (by kernel_rfl)) (by unfold Func.isWrapper; first | (rw [if_pos (by decide +kernel)]; kernel_rfl) | (rw [if_neg (by decide +kernel)]; exact ⟨rfl, rfl⟩))
    (fun os started H enc _ => lifted os started H enc)

theorem proved : Rows.EnqueueCallsCardSaid :=
  Claim7.holds_tied_plain_at .later [] [.data, .pinned] true (true, "3b83ec89b145770b2710db68af960928a768e3d69f4d79b868b30e368ca6e945") false
    holds (fun _ h => by cases h) (by kernel_rfl) (fun _ h => by cases h) enqueueCalls_row_tie rfl ⟨rfl, rfl⟩ (by kernel_rfl) rfl
    (fun f fn hf hfn => by
      obtain rfl : f = 3 := Option.some.inj ((show Tryz.prog.funcNamed "dasd/dasdlaw43.EnqueueCalls" = some 3 by kernel_rfl).symm.trans hf) |>.symm
      obtain rfl : fn = Tryz.f3 := (Option.some.inj (Tryz.func3.symm.trans hfn)).symm
      exact ⟨by kernel_rfl, fun j t ht => by
        rw [Tryz.params3] at ht
        have hm : t ∈ [22] := by simpa using Array.mem_of_getElem? ht
        have hall : ([22].all fun u => !Tryz.prog.wantsStandIn u) = true := by kernel_rfl
        exact (show Tryz.prog.wantsStandIn t = false by simpa using List.all_eq_true.1 hall t hm)⟩)
    (by kernel_rfl)
end Go.Proofs.YtojbddcbnnbklaaGreatDoor.enqueueCalls
