/- The reference's Request. The reference's Free: the retained locks of a system are released; the units whose locks are granted by it. -/
import Derived.Test.YtjklhiifjnmedaaGreatKmE
import Derived.Test.YtjklhiifjnmedaaGreatKmC
import Derived.Test.YtjklhiifjnmedaaGreatKmB
import Derived.Test.YtjklhiifjnmedaaGreatCmE
namespace Go.Proofs.YtjklhiifjnmedaaGreat
open Go.RowKit P16 P46
attribute [local go_sem] ByteArray.mk_append_mk ByteArray.extract_mk mk_index

/-- What a call leaves that hands back a state and a code. -/
def SResC (w : World) (X : Nat → Prop) (r : P52.Fs × Int) (e : Ending) (w' : World) : Prop :=
  ∃ v1 v2, e = .returned (.tuple #[.agg (rcs r.1 v1 v2), .int .i64 r.2]) ∧ SL w' X v1 r.1.s.h ∧ SL w' X v2 r.1.s.q ∧ Below w.heap.size w w'
/-- A call's boxes, a lock's among them. -/
theorem RB5.startL {w : World} {X : Nat → Prop} {v1 v2 : Value} (F : P52.Fs) (l : Lock) (hh : SL w X v1 F.s.h) (hq : SL w X v2 F.s.q) : ∃ w2 p g r, ((w.alloc (.cells (rcs F v1 v2) tR)).alloc (.cells (la l) tL)).alloc (.cells (rcs P52.fs0 (.slice none 0 0) (.slice none 0 0)) tR) = w2 ∧ w.heap.size = p ∧ w.heap.size + 1 = g ∧ w.heap.size + 1 + 1 = r ∧ RB5 w w2 p r X F v1 v2 ∧ Blk w2 g tL (la l) := by
  have hb : Below w.heap.size w (((w.alloc (.cells (rcs F v1 v2) tR)).alloc (.cells (la l) tL)).alloc (.cells (rcs P52.fs0 (.slice none 0 0) (.slice none 0 0)) tR)) := below_alloc (below_alloc (below_alloc (Below.refl _ _) _) _) _
  refine ⟨_, _, _, _, rfl, rfl, rfl, rfl, ⟨((Blk.new w tR _).alloc _).alloc _, ?_, ⟨by omega, by omega, by omega⟩, (hh.mono (fun b hb hx => ⟨hx, by omega, by omega⟩)).below hb, (hq.mono (fun b hb hx => ⟨hx, by omega, by omega⟩)).below hb, hb⟩, ?_⟩
  · have := Blk.new ((w.alloc (.cells (rcs F v1 v2) tR)).alloc (.cells (la l) tL)) tR (rcs P52.fs0 (.slice none 0 0) (.slice none 0 0))
    rwa [World.size_alloc, World.size_alloc] at this
  · have := (Blk.new (w.alloc (.cells (rcs F v1 v2) tR)) tL (la l)).alloc (.cells (rcs P52.fs0 (.slice none 0 0) (.slice none 0 0)) tR)
    rwa [World.size_alloc] at this
set_option maxRecDepth 100000 in
set_option maxHeartbeats 8000000 in
theorem roRequest (F : P52.Fs) (l : Lock) (X : Nat → Prop) (v1 v2 : Value) (w : World) (hu : InR l.unit) (hh : SL w X v1 F.s.h) (hq : SL w X v2 F.s.q) (hX : ∀ b, w.heap.size ≤ b → X b) (hn : F.s.h.length + F.s.q.length ≤ 80000) (hg : P46.Good F.s) (hv : Valids F.s) (hf0 : 0 ≤ F.fast) (hf1 : F.fast ≤ 1000000) :
    Calls Tryz.prog 30 #[.agg (rcs F v1 v2), lv l] w (SResC w X (P52.request F l)) := by
  have HH := Lib.hid hh
  have HQ := Lib.hid hq
  have HXX := Lib.hid hX
  have HN := Lib.hid hn
  have HV := Lib.hid hv
  have HG := Lib.hid hg
  have HU := Lib.hid hu
  have HF := Lib.hid (And.intro hf0 hf1)
  have HC := Lib.hid (fun W => roParts l.unit hu W)
  clear hh hq hX hn hv hg hu hf0 hf1
  have hlenR : (Tryz.prog.info? tR).map (·.size) = some 12 := by kernel_rfl
  have hlenS : (Tryz.prog.info? tS).map (·.size) = some 2 := by kernel_rfl
  have hlenL : (Tryz.prog.info? 30).map (·.size) = some 6 := by kernel_rfl
  have underR := Tryz.underlying55
  obtain ⟨s, hs⟩ : ∃ s, P52.sysOf l.unit = s := ⟨_, rfl⟩
  obtain ⟨ep, he⟩ : ∃ ep, P52.epOf l.unit = ep := ⟨_, rfl⟩
  have hle := P52.sysOf_le l.unit
  rw [hs] at hle
  rw [hs, he] at HC
  have HS := Lib.hid hs
  clear hs he
  have HVL := Lib.hid (fun W => refValid l W)
  by_cases h0 : s = 0
  · have HP := Lib.hid (show P52.request F l = (F, 1) from by unfold P52.request; rw [if_pos (.inr (by rw [HS.out]; exact h0))])
    subst h0
    clear hle
    unfold rcs lv
    go_enter Tryz.func30, Tryz.ntmps30
    go_upto_region 1 with (fail)
    obtain ⟨w2, p, g, r, e1, e2, e3, e4, hk, hl⟩ := RB5.startL F l HH.out HQ.out
    unfold rcs la P52.fs0 at e1
    rw [e1, e4, e3, e2]
    have HK := Lib.hid hk
    have HL := Lib.hid hl
    obtain ⟨a0, a1, a2, a3, a4, a5⟩ := lcells hl
    clear e1 e2 e3 e4 hk hl
    go_wp2_with (first | (go_at_call 66; refine (HC.out _).mono ?_; rintro e w3 ⟨rfl, rfl⟩) | (refine wpList_load_row rfl tR (.tmp 2) rfl p rfl tR _ (0, 0) _ HK.out.box underR rfl (by kernel_rfl) ?_) | (refine wpList_store_row rfl tR (.tmp 4) (.tmp 23) rfl r _ rfl rfl tR _ HK.out.res hlenR rfl (rcs_one HK.out.slices) ?_))
    obtain ⟨w9, e9, h1, h2, h3, h4⟩ := HK.out.end_; rw [e9]; clear e9
    obtain ⟨c0, c1, c2, c3, c4, c5, c6, c7, c8, c9, c10, c11⟩ := rcells52 h1
    rw [HP.out]
    exact bodyPost_ret (v := .tuple #[.agg (rcs F v1 v2), .int .i64 1]) (by simp [results, Tryz.results30, go_sem, c0, c1, c2, c3, c4, c5, c6, c7, c8, c9, c10, c11, rcs]) rfl ⟨_, _, rfl, h2, h3, h4⟩
  · have b0 : (s == 0) = false := beq_not h0
    have HS0 := Lib.hid h0
    clear h0 hle
    cases hval : validL l with
    | false =>
      have HP := Lib.hid (show P52.request F l = (F, 1) from by unfold P52.request; rw [if_pos (.inl hval)])
      rw [hval] at HVL
      clear hval
      unfold rcs lv
      go_enter Tryz.func30, Tryz.ntmps30
      go_upto_region 1 with (fail)
      obtain ⟨w2, p, g, r, e1, e2, e3, e4, hk, hl⟩ := RB5.startL F l HH.out HQ.out
      unfold rcs la P52.fs0 at e1
      rw [e1, e4, e3, e2]
      have HK := Lib.hid hk
      have HL := Lib.hid hl
      obtain ⟨a0, a1, a2, a3, a4, a5⟩ := lcells hl
      clear e1 e2 e3 e4 hk hl
      go_wp2_with (first | (go_at_call 66; refine (HC.out _).mono ?_; rintro e w3 ⟨rfl, rfl⟩) | (go_at_call 63; refine (HVL.out _).mono ?_; rintro e w4 ⟨rfl, hb4⟩; have HK4 := Lib.hid (HK.out.below hb4); have HL4 := Lib.hid (HL.out.below hb4); clear hb4) | (refine wpList_load_row rfl tR (.tmp 2) rfl p rfl tR _ (0, 0) _ HK4.out.box underR rfl (by kernel_rfl) ?_) | (refine wpList_store_row rfl tR (.tmp 4) (.tmp 23) rfl r _ rfl rfl tR _ HK4.out.res hlenR rfl (rcs_one HK4.out.slices) ?_))
      obtain ⟨w9, e9, h1, h2, h3, h4⟩ := HK4.out.end_; rw [e9]; clear e9
      obtain ⟨c0, c1, c2, c3, c4, c5, c6, c7, c8, c9, c10, c11⟩ := rcells52 h1
      rw [HP.out]
      exact bodyPost_ret (v := .tuple #[.agg (rcs F v1 v2), .int .i64 1]) (by simp [results, Tryz.results30, go_sem, c0, c1, c2, c3, c4, c5, c6, c7, c8, c9, c10, c11, rcs]) rfl ⟨_, _, rfl, h2, h3, h4⟩
    | true =>
      have HVV := Lib.hid hval
      rw [hval] at HVL
      clear hval
      have HPR := Lib.hid (fun v1 v2 W => roPresent F v1 v2 l.unit HU.out W)
      cases hpr : P52.pres F l.unit with
      | false =>
        have HP := Lib.hid (show P52.request F l = (F, 13) from by unfold P52.request; rw [if_neg (fun e => e.elim (fun e => by rw [HVV.out] at e; cases e) (fun e => HS0.out (by rw [← HS.out]; exact e))), if_pos hpr])
        rw [hpr] at HPR
        clear hpr
        unfold rcs lv
        go_enter Tryz.func30, Tryz.ntmps30
        go_upto_region 1 with (fail)
        obtain ⟨w2, p, g, r, e1, e2, e3, e4, hk, hl⟩ := RB5.startL F l HH.out HQ.out
        unfold rcs la P52.fs0 at e1
        rw [e1, e4, e3, e2]
        have HK := Lib.hid hk
        have HL := Lib.hid hl
        obtain ⟨a0, a1, a2, a3, a4, a5⟩ := lcells hl
        clear e1 e2 e3 e4 hk hl
        go_upto_region 4 with (first | (go_at_call 66; refine (HC.out _).mono ?_; rintro e w3 ⟨rfl, rfl⟩) | (go_at_call 63; refine (HVL.out _).mono ?_; rintro e w4 ⟨rfl, hb4⟩; have HK4 := Lib.hid (HK.out.below hb4); have HL4 := Lib.hid (HL.out.below hb4); clear hb4))
        clear a0 a1 a2 a3 a4 a5
        obtain ⟨a0, -, -, -, -, -⟩ := lcells HL4.out
        go_wp2_with (first | (refine wpList_load_row rfl tR (.tmp 2) rfl p rfl tR _ (0, 0) _ HK4.out.box underR rfl (by kernel_rfl) ?_) | (go_at_call 62; refine (HPR.out _ _ _).mono ?_; rintro e w5 ⟨rfl, hb5⟩; have HK5 := Lib.hid (HK4.out.below hb5); have HL5 := Lib.hid (HL4.out.below hb5); clear hb5) | (refine wpList_load_row rfl tR (.tmp 2) rfl p rfl tR _ (0, 0) _ HK5.out.box underR rfl (by kernel_rfl) ?_) | (refine wpList_store_row rfl tR (.tmp 4) (.tmp 29) rfl r _ rfl rfl tR _ HK5.out.res hlenR rfl (rcs_one HK5.out.slices) ?_))
        obtain ⟨w9, e9, h1, h2, h3, h4⟩ := HK5.out.end_; rw [e9]; clear e9
        obtain ⟨c0, c1, c2, c3, c4, c5, c6, c7, c8, c9, c10, c11⟩ := rcells52 h1
        rw [HP.out]
        exact bodyPost_ret (v := .tuple #[.agg (rcs F v1 v2), .int .i64 13]) (by simp [results, Tryz.results30, go_sem, c0, c1, c2, c3, c4, c5, c6, c7, c8, c9, c10, c11, rcs]) rfl ⟨_, _, rfl, h2, h3, h4⟩
      | true =>
        have HPV := Lib.hid hpr
        rw [hpr] at HPR
        clear hpr
        cases hlo : F.lost with
        | true =>
          have HP := Lib.hid (show P52.request F l = (F, 9) from by unfold P52.request; rw [if_neg (fun e => e.elim (fun e => by rw [HVV.out] at e; cases e) (fun e => HS0.out (by rw [← HS.out]; exact e))), if_neg (by rw [HPV.out]; decide), if_pos hlo])
          have HLO := Lib.hid hlo
          clear hlo
          unfold rcs lv
          go_enter Tryz.func30, Tryz.ntmps30
          go_upto_region 1 with (fail)
          obtain ⟨w2, p, g, r, e1, e2, e3, e4, hk, hl⟩ := RB5.startL F l HH.out HQ.out
          unfold rcs la P52.fs0 at e1
          rw [e1, e4, e3, e2]
          have HK := Lib.hid hk
          have HL := Lib.hid hl
          obtain ⟨a0, a1, a2, a3, a4, a5⟩ := lcells hl
          clear e1 e2 e3 e4 hk hl
          go_upto_region 4 with (first | (go_at_call 66; refine (HC.out _).mono ?_; rintro e w3 ⟨rfl, rfl⟩) | (go_at_call 63; refine (HVL.out _).mono ?_; rintro e w4 ⟨rfl, hb4⟩; have HK4 := Lib.hid (HK.out.below hb4); have HL4 := Lib.hid (HL.out.below hb4); clear hb4))
          clear a0 a1 a2 a3 a4 a5
          obtain ⟨a0, -, -, -, -, -⟩ := lcells HL4.out
          go_upto_region 6 with (first | (refine wpList_load_row rfl tR (.tmp 2) rfl p rfl tR _ (0, 0) _ HK4.out.box underR rfl (by kernel_rfl) ?_) | (go_at_call 62; refine (HPR.out _ _ _).mono ?_; rintro e w5 ⟨rfl, hb5⟩; have HK5 := Lib.hid (HK4.out.below hb5); have HL5 := Lib.hid (HL4.out.below hb5); clear hb5))
          have d10 := (rcells52 HK5.out.box).2.2.2.2.2.2.2.2.2.2.1
          rw [HLO.out] at d10
          go_wp2_with (first | (refine wpList_load_row rfl tR (.tmp 2) rfl p rfl tR _ (0, 0) _ HK5.out.box underR rfl (by kernel_rfl) ?_) | (refine wpList_store_row rfl tR (.tmp 4) (.tmp 32) rfl r _ rfl rfl tR _ HK5.out.res hlenR rfl (rcs_one HK5.out.slices) ?_))
          obtain ⟨w9, e9, h1, h2, h3, h4⟩ := HK5.out.end_; rw [e9]; clear e9
          obtain ⟨c0, c1, c2, c3, c4, c5, c6, c7, c8, c9, c10, c11⟩ := rcells52 h1
          rw [HP.out]
          exact bodyPost_ret (v := .tuple #[.agg (rcs F v1 v2), .int .i64 9]) (by simp [results, Tryz.results30, go_sem, c0, c1, c2, c3, c4, c5, c6, c7, c8, c9, c10, c11, rcs]) rfl ⟨_, _, rfl, h2, h3, h4⟩
        | false =>
          have HP := Lib.hid (show P52.request F l = (⟨F.ep, F.cn, (P46.request F.s l).1, F.lost, if P52.aloneB (F.s.h ++ F.s.q) l (P52.sysOf l.unit) = true then F.fast + 1 else F.fast⟩, (P46.request F.s l).2) from by unfold P52.request; rw [if_neg (fun e => e.elim (fun e => by rw [HVV.out] at e; cases e) (fun e => HS0.out (by rw [← HS.out]; exact e))), if_neg (by rw [HPV.out]; decide), if_neg (by rw [hlo]; decide)])
          have HLO := Lib.hid hlo
          clear hlo
          have HAL := Lib.hid (show ∀ (A1 A2 : Option Addr) (n1 n2 c1 c2 : Nat) (W : World), LocksAt W A1 n1 F.s.h → LocksAt W A2 n2 F.s.q → (A2 = none → n2 = 0) → Calls Tryz.prog 67 #[.agg (rcs F (.slice A1 n1 c1) (.slice A2 n2 c2)), lv l] W fun e w' => e = .returned (.bool (P52.aloneB (F.s.h ++ F.s.q) l (P52.sysOf l.unit))) ∧ Below W.heap.size W w' from fun A1 A2 n1 n2 c1 c2 W hA hB hz => roAlone F A1 A2 n1 n2 c1 c2 l W hA hB hz (by have h1 := hA.len; have h2 := hB.len; have h3 := HN.out; omega) HVV.out (by rw [HS.out]; exact HS0.out) (fun x hx => (List.mem_append.1 hx).elim (HV.out.1 x) (HV.out.2 x)))
          obtain ⟨al, hal⟩ : ∃ al, P52.aloneB (F.s.h ++ F.s.q) l (P52.sysOf l.unit) = al := ⟨_, rfl⟩
          rw [hal] at HAL HP
          clear hal
          cases al with
          | true =>
            rw [if_pos rfl] at HP
            unfold rcs lv
            go_enter Tryz.func30, Tryz.ntmps30
            go_upto_region 1 with (fail)
            obtain ⟨w2, p, g, r, e1, e2, e3, e4, hk, hl⟩ := RB5.startL F l HH.out HQ.out
            unfold rcs la P52.fs0 at e1
            rw [e1, e4, e3, e2]
            have HK := Lib.hid hk
            have HL := Lib.hid hl
            obtain ⟨a0, a1, a2, a3, a4, a5⟩ := lcells hl
            clear e1 e2 e3 e4 hk hl
            go_upto_region 4 with (first | (go_at_call 66; refine (HC.out _).mono ?_; rintro e w3 ⟨rfl, rfl⟩) | (go_at_call 63; refine (HVL.out _).mono ?_; rintro e w4 ⟨rfl, hb4⟩; have HK4 := Lib.hid (HK.out.below hb4); have HL4 := Lib.hid (HL.out.below hb4); clear hb4))
            clear a0 a1 a2 a3 a4 a5
            obtain ⟨a0, -, -, -, -, -⟩ := lcells HL4.out
            go_upto_region 6 with (first | (refine wpList_load_row rfl tR (.tmp 2) rfl p rfl tR _ (0, 0) _ HK4.out.box underR rfl (by kernel_rfl) ?_) | (go_at_call 62; refine (HPR.out _ _ _).mono ?_; rintro e w5 ⟨rfl, hb5⟩; have HK5 := Lib.hid (HK4.out.below hb5); have HL5 := Lib.hid (HL4.out.below hb5); clear hb5))
            have d10 := (rcells52 HK5.out.box).2.2.2.2.2.2.2.2.2.2.1
            rw [HLO.out] at d10
            obtain ⟨A1, n1, c1, hva, hh1, -, -, -⟩ := id HK5.out.held
            obtain ⟨A2, n2, c2, hvb, hq1, hq2, -, -⟩ := id HK5.out.queue
            have HH5 := Lib.hid (show LocksAt w5 A1 n1 F.s.h from hh1)
            have HQ5 := Lib.hid (show LocksAt w5 A2 n2 F.s.q from hq1)
            have HZ5 := Lib.hid hq2
            subst hva
            subst hvb
            clear hh1 hq1 hq2
            go_upto_region 9 with (first | (refine wpList_load_row rfl tR (.tmp 2) rfl p rfl tR _ (0, 0) _ HK5.out.box underR rfl (by kernel_rfl) ?_) | (refine wpList_load_cells rfl 30 (.tmp 3) rfl ⟨g, 0, none⟩ rfl _ _ HL5.out.add Tryz.underlying30 rfl hlenL ?_) | (go_at_call 67; refine (HAL.out A1 A2 n1 n2 c1 c2 _ HH5.out HQ5.out HZ5.out).mono ?_; rintro e w6 ⟨rfl, hb6⟩; have HK6 := Lib.hid (HK5.out.below hb6); have HL6 := Lib.hid (HL5.out.below hb6); clear hb6))
            have d11 := (rcells52 HK6.out.box).2.2.2.2.2.2.2.2.2.2.2
            have hfz := fun i => HK6.out.box.frozen i
            have hlt := HK6.out.box.lt
            obtain ⟨hf0, hf1⟩ := HF.out
            clear d10
            go_upto_region 10 with (fail)
            have HK7 := Lib.hid (HK6.out.cell (G := ⟨F.ep, F.cn, F.s, F.lost, F.fast + 1⟩) 11 (.int .i64 (F.fast + 1)) (by simp [rcs]) rfl)
            have HL7 := Lib.hid (HL6.out.far (p := ⟨p, 11, none⟩) (Blk.ne HL6.out HK6.out.box (by decide)) (.int .i64 (F.fast + 1)))
            clear d11 hfz hlt hf0 hf1
            generalize w6.setCell ⟨p, 11, none⟩ (.int .i64 (F.fast + 1)) = w7 at HK7 HL7 ⊢
            obtain ⟨fa, hfa⟩ : ∃ fa, F.fast + 1 = fa := ⟨_, rfl⟩
            rw [hfa] at HK7 HP
            clear hfa
            obtain ⟨-, -, -, -, -, -, -, -, d8, d9, -, -⟩ := rcells52 HK7.out.box
            -- REQ
            go_upto_region 11 with (first | (refine wpList_load_cells rfl 30 (.tmp 3) rfl ⟨g, 0, none⟩ rfl _ _ HL7.out.add Tryz.underlying30 rfl hlenL ?_) | (go_at_call 68; refine (refRequest l (fun b => X b ∧ b ≠ p ∧ b ≠ r) _ _ F.s.h F.s.q w7 HK7.out.held HK7.out.queue (HK7.out.fresh HXX.out) HN.out HG.out).mono ?_; rintro e w8 ⟨va, vb, rfl, ha8, hb8, hbe8⟩; have HA8 := Lib.hid ha8; have HB8 := Lib.hid hb8; have HK8 := Lib.hid (HK7.out.below hbe8); obtain ⟨Aa, na, ca, hva, -⟩ := id ha8; obtain ⟨Ab, nb, cb, hvb, -⟩ := id hb8; subst hva; subst hvb; clear ha8 hb8 hbe8 d8 d9))
            have hw := below_alloc (Below.refl w8.heap.size w8) (.cells #[.slice Aa na ca, .slice Ab nb cb] tS)
            have HK9 := Lib.hid (HK8.out.below hw)
            have HA9 := Lib.hid (HA8.out.below hw)
            have HB9 := Lib.hid (HB8.out.below hw)
            have HG9 := Lib.hid (Blk.new w8 tS #[.slice Aa na ca, .slice Ab nb cb])
            clear hw
            generalize w8.heap.size = g9 at HG9 ⊢
            generalize w8.alloc (.cells #[.slice Aa na ca, .slice Ab nb cb] tS) = w9 at HK9 HA9 HB9 HG9 ⊢
            obtain ⟨-, -, -, -, -, -, -, -, d8, d9, -, -⟩ := rcells52 HK9.out.box
            have e0 := HG9.out.cell 0
            have e1 := HG9.out.cell 1
            have hfz := fun i => HK9.out.box.frozen i
            have hlp := HK9.out.box.lt
            simp at e0 e1
            go_upto_region 12 with (refine wpList_load_cells rfl tS (.tmp 8) rfl ⟨g9, 0, none⟩ rfl _ _ HG9.out.add Tryz.underlying53 rfl hlenS ?_)
            have HKX := Lib.hid (show RB5 w _ p r X ⟨F.ep, F.cn, (P46.request F.s l).1, F.lost, fa⟩ (.slice Aa na ca) (.slice Ab nb cb) from HK9.out.both (s := (P46.request F.s l).1) HA9.out HB9.out)
            clear d8 d9 e0 e1 hfz hlp
            generalize (w9.setCell ⟨p, 8, none⟩ (.slice Aa na ca)).setCell ⟨p, 9, none⟩ (.slice Ab nb cb) = w10 at HKX ⊢
            go_wp2_with (first | (refine wpList_load_row rfl tR (.tmp 2) rfl p rfl tR _ (0, 0) _ HKX.out.box underR rfl (by kernel_rfl) ?_) | (refine wpList_store_row rfl tR (.tmp 4) (.tmp 49) rfl r _ rfl rfl tR _ HKX.out.res hlenR rfl (rcs_one HKX.out.slices) ?_))
            obtain ⟨w9, e9, h1, h2, h3, h4⟩ := HKX.out.end_; rw [e9]; clear e9
            obtain ⟨c0, c1, c2, c3, c4, c5, c6, c7, c8, c9, c10, c11⟩ := rcells52 h1
            rw [HP.out]
            exact bodyPost_ret (v := .tuple #[.agg (rcs ⟨F.ep, F.cn, (P46.request F.s l).1, F.lost, fa⟩ (.slice Aa na ca) (.slice Ab nb cb)), .int .i64 (P46.request F.s l).2]) (by simp [results, Tryz.results30, go_sem, c0, c1, c2, c3, c4, c5, c6, c7, c8, c9, c10, c11, rcs]) rfl ⟨_, _, rfl, h2, h3, h4⟩
          | false =>
            rw [if_neg (by decide)] at HP
            unfold rcs lv
            go_enter Tryz.func30, Tryz.ntmps30
            go_upto_region 1 with (fail)
            obtain ⟨w2, p, g, r, e1, e2, e3, e4, hk, hl⟩ := RB5.startL F l HH.out HQ.out
            unfold rcs la P52.fs0 at e1
            rw [e1, e4, e3, e2]
            have HK := Lib.hid hk
            have HL := Lib.hid hl
            obtain ⟨a0, a1, a2, a3, a4, a5⟩ := lcells hl
            clear e1 e2 e3 e4 hk hl
            go_upto_region 4 with (first | (go_at_call 66; refine (HC.out _).mono ?_; rintro e w3 ⟨rfl, rfl⟩) | (go_at_call 63; refine (HVL.out _).mono ?_; rintro e w4 ⟨rfl, hb4⟩; have HK4 := Lib.hid (HK.out.below hb4); have HL4 := Lib.hid (HL.out.below hb4); clear hb4))
            clear a0 a1 a2 a3 a4 a5
            obtain ⟨a0, -, -, -, -, -⟩ := lcells HL4.out
            go_upto_region 6 with (first | (refine wpList_load_row rfl tR (.tmp 2) rfl p rfl tR _ (0, 0) _ HK4.out.box underR rfl (by kernel_rfl) ?_) | (go_at_call 62; refine (HPR.out _ _ _).mono ?_; rintro e w5 ⟨rfl, hb5⟩; have HK5 := Lib.hid (HK4.out.below hb5); have HL5 := Lib.hid (HL4.out.below hb5); clear hb5))
            have d10 := (rcells52 HK5.out.box).2.2.2.2.2.2.2.2.2.2.1
            rw [HLO.out] at d10
            obtain ⟨A1, n1, c1, hva, hh1, -, -, -⟩ := id HK5.out.held
            obtain ⟨A2, n2, c2, hvb, hq1, hq2, -, -⟩ := id HK5.out.queue
            have HH5 := Lib.hid (show LocksAt w5 A1 n1 F.s.h from hh1)
            have HQ5 := Lib.hid (show LocksAt w5 A2 n2 F.s.q from hq1)
            have HZ5 := Lib.hid hq2
            subst hva
            subst hvb
            clear hh1 hq1 hq2
            go_upto_region 10 with (first | (refine wpList_load_row rfl tR (.tmp 2) rfl p rfl tR _ (0, 0) _ HK5.out.box underR rfl (by kernel_rfl) ?_) | (refine wpList_load_cells rfl 30 (.tmp 3) rfl ⟨g, 0, none⟩ rfl _ _ HL5.out.add Tryz.underlying30 rfl hlenL ?_) | (go_at_call 67; refine (HAL.out A1 A2 n1 n2 c1 c2 _ HH5.out HQ5.out HZ5.out).mono ?_; rintro e w6 ⟨rfl, hb6⟩; have HK6 := Lib.hid (HK5.out.below hb6); have HL6 := Lib.hid (HL5.out.below hb6); clear hb6))
            have HK7 := Lib.hid (show RB5 w w6 p r X ⟨F.ep, F.cn, F.s, F.lost, F.fast⟩ (.slice A1 n1 c1) (.slice A2 n2 c2) from HK6.out)
            have HL7 := HL6
            clear d10
            obtain ⟨w7, hw7⟩ : ∃ w7, w6 = w7 := ⟨_, rfl⟩
            rw [hw7] at HK7 HL7 ⊢
            clear hw7
            obtain ⟨fa, hfa⟩ : ∃ fa, F.fast = fa := ⟨_, rfl⟩
            rw [hfa] at HK7 HP
            clear hfa
            obtain ⟨-, -, -, -, -, -, -, -, d8, d9, -, -⟩ := rcells52 HK7.out.box
            -- REQ
            go_upto_region 11 with (first | (refine wpList_load_cells rfl 30 (.tmp 3) rfl ⟨g, 0, none⟩ rfl _ _ HL7.out.add Tryz.underlying30 rfl hlenL ?_) | (go_at_call 68; refine (refRequest l (fun b => X b ∧ b ≠ p ∧ b ≠ r) _ _ F.s.h F.s.q w7 HK7.out.held HK7.out.queue (HK7.out.fresh HXX.out) HN.out HG.out).mono ?_; rintro e w8 ⟨va, vb, rfl, ha8, hb8, hbe8⟩; have HA8 := Lib.hid ha8; have HB8 := Lib.hid hb8; have HK8 := Lib.hid (HK7.out.below hbe8); obtain ⟨Aa, na, ca, hva, -⟩ := id ha8; obtain ⟨Ab, nb, cb, hvb, -⟩ := id hb8; subst hva; subst hvb; clear ha8 hb8 hbe8 d8 d9))
            have hw := below_alloc (Below.refl w8.heap.size w8) (.cells #[.slice Aa na ca, .slice Ab nb cb] tS)
            have HK9 := Lib.hid (HK8.out.below hw)
            have HA9 := Lib.hid (HA8.out.below hw)
            have HB9 := Lib.hid (HB8.out.below hw)
            have HG9 := Lib.hid (Blk.new w8 tS #[.slice Aa na ca, .slice Ab nb cb])
            clear hw
            generalize w8.heap.size = g9 at HG9 ⊢
            generalize w8.alloc (.cells #[.slice Aa na ca, .slice Ab nb cb] tS) = w9 at HK9 HA9 HB9 HG9 ⊢
            obtain ⟨-, -, -, -, -, -, -, -, d8, d9, -, -⟩ := rcells52 HK9.out.box
            have e0 := HG9.out.cell 0
            have e1 := HG9.out.cell 1
            have hfz := fun i => HK9.out.box.frozen i
            have hlp := HK9.out.box.lt
            simp at e0 e1
            go_upto_region 12 with (refine wpList_load_cells rfl tS (.tmp 8) rfl ⟨g9, 0, none⟩ rfl _ _ HG9.out.add Tryz.underlying53 rfl hlenS ?_)
            have HKX := Lib.hid (show RB5 w _ p r X ⟨F.ep, F.cn, (P46.request F.s l).1, F.lost, fa⟩ (.slice Aa na ca) (.slice Ab nb cb) from HK9.out.both (s := (P46.request F.s l).1) HA9.out HB9.out)
            clear d8 d9 e0 e1 hfz hlp
            generalize (w9.setCell ⟨p, 8, none⟩ (.slice Aa na ca)).setCell ⟨p, 9, none⟩ (.slice Ab nb cb) = w10 at HKX ⊢
            go_wp2_with (first | (refine wpList_load_row rfl tR (.tmp 2) rfl p rfl tR _ (0, 0) _ HKX.out.box underR rfl (by kernel_rfl) ?_) | (refine wpList_store_row rfl tR (.tmp 4) (.tmp 49) rfl r _ rfl rfl tR _ HKX.out.res hlenR rfl (rcs_one HKX.out.slices) ?_))
            obtain ⟨w9, e9, h1, h2, h3, h4⟩ := HKX.out.end_; rw [e9]; clear e9
            obtain ⟨c0, c1, c2, c3, c4, c5, c6, c7, c8, c9, c10, c11⟩ := rcells52 h1
            rw [HP.out]
            exact bodyPost_ret (v := .tuple #[.agg (rcs ⟨F.ep, F.cn, (P46.request F.s l).1, F.lost, fa⟩ (.slice Aa na ca) (.slice Ab nb cb)), .int .i64 (P46.request F.s l).2]) (by simp [results, Tryz.results30, go_sem, c0, c1, c2, c3, c4, c5, c6, c7, c8, c9, c10, c11, rcs]) rfl ⟨_, _, rfl, h2, h3, h4⟩
end Go.Proofs.YtjklhiifjnmedaaGreat
namespace Go.Proofs.YtjklhiifjnmedaaGreat
open Go.RowKit P16 P46
attribute [local go_sem] ByteArray.mk_append_mk ByteArray.extract_mk mk_index

/-- What a call leaves that hands back a state and numbers. -/
def SRes2 (w : World) (X : Nat → Prop) (F : P52.Fs) (outs : List Int) (e : Ending) (w' : World) : Prop :=
  ∃ v1 v2 vo, e = .returned (.tuple #[.agg (rcs F v1 v2), vo]) ∧ SL w' X v1 F.s.h ∧ SL w' X v2 F.s.q ∧ OwnI w' w.heap.size vo outs ∧ Below w.heap.size w w'
section
variable {w wx w' : World} {p r : Nat} {X Y : Nat → Prop} {v v1 v2 u va vb : Value} {F G : P52.Fs} {ls : List Lock}
theorem SL.grown (h : SL w X v ls) {row : Option Nat} (hg : w.grownBy w' row) (hr : ∀ b, X b → row ≠ some b) : SL w' X v ls := by
  obtain ⟨A, n, c, rfl, h1, h2, h3, h4⟩ := h
  refine ⟨A, n, c, rfl, ⟨h1.1, fun j u hj => ?_⟩, h2, h3, fun b off e => ⟨Nat.lt_of_lt_of_le (h4 b off e).1 hg.size, (h4 b off e).2⟩⟩
  obtain ⟨b, off, e1, e2⟩ := h1.2 j u hj
  refine ⟨b, off, e1, ?_⟩
  have e := hg.block b (h4 b off e1).1 (fun e => hr b (h4 b off e1).2 e.symm)
  unfold World.cell? at e2 ⊢
  rw [e]
  exact e2
theorem OwnI.setRowR {B : Nat} {xs : List Int} {t : TypeId} {cs : Array Value} (h : OwnI w B v xs) (hb : Blk w r t cs) (ht : t ≠ 3) (ds : Array Value) : OwnI (w.setRow r ds) B v xs := by
  refine ⟨h.1, ?_⟩
  rcases h.2 with h1 | ⟨g, cap, cur, rfl, a2, a3, a4⟩
  · exact .inl h1
  · exact .inr ⟨g, cap, cur, rfl, a2, (setRow_other w r g ds (Blk.ne a3 hb (Ne.symm ht))).trans a3, a4⟩
theorem RB5.mono (k : RB5 w wx p r X F v1 v2) (h : ∀ b, b < wx.heap.size → X b → Y b) : RB5 w wx p r Y F v1 v2 :=
  ⟨k.box, k.res, k.pb, k.held.mono (fun b hb hx => ⟨h b hb hx.1, hx.2⟩), k.queue.mono (fun b hb hx => ⟨h b hb hx.1, hx.2⟩), k.low⟩
theorem RB5.grown {B : Nat} {xs : List Int} (k : RB5 w wx p r X F v1 v2) (ho : OwnI wx B v xs) (hB : w.heap.size ≤ B) (hg : wx.grownBy w' v.ownBlock) (hX : ∀ b, X b → v.ownBlock ≠ some b) : RB5 w w' p r X F v1 v2 :=
  ⟨k.box.grown hg (ownI_ne ho k.box (by decide)), k.res.grown hg (ownI_ne ho k.res (by decide)), k.pb, k.held.grown hg (fun b hb => hX b hb.1), k.queue.grown hg (fun b hb => hX b hb.1), k.low.grown hg k.low.size (fun j hj => Nat.le_trans hB (ho.lt j hj).1)⟩
end
/-- Behind a release: the locks in a box of their own. -/
def FM (w : World) (p r B : Nat) (X : Nat → Prop) (F : P52.Fs) (s : St) (va vb v u : Value) (xs us outs : List Int) (s9 s10 : Value) (w6 : World) : Prop :=
  ∃ g A1 n1 c1 A2 n2 c2 Ao co, s9 = .pointer (some ⟨g, 0, none⟩) ∧ s10 = .slice Ao outs.length co ∧ RB5 w w6 p r (fun z => X z ∧ v.ownBlock ≠ some z) F va vb ∧ Blk w6 g tS #[.slice A1 n1 c1, .slice A2 n2 c2] ∧ SL w6 (fun z => (X z ∧ v.ownBlock ≠ some z) ∧ z ≠ p ∧ z ≠ r) (.slice A1 n1 c1) s.h ∧ SL w6 (fun z => (X z ∧ v.ownBlock ≠ some z) ∧ z ≠ p ∧ z ≠ r) (.slice A2 n2 c2) s.q ∧ OwnI w6 w.heap.size v xs ∧ OwnI w6 B u us ∧ OwnI w6 w.heap.size s10 outs
section
variable {w w5 : World} {p r g B C : Nat} {X : Nat → Prop} {va vb v u a b o x y : Value} {F : P52.Fs} {s : St} {xs us outs : List Int} {A1 A2 Ao : Option Addr} {n1 c1 n2 c2 co : Nat}
theorem FM.one (k : RB5 w w5 p r (fun z => X z ∧ v.ownBlock ≠ some z) F va vb) (ha : SL w5 (fun z => ((X z ∧ v.ownBlock ≠ some z) ∧ z ≠ p ∧ z ≠ r) ∧ z ≠ g) (.slice A1 n1 c1) s.h) (hb : SL w5 (fun z => ((X z ∧ v.ownBlock ≠ some z) ∧ z ≠ p ∧ z ≠ r) ∧ z ≠ g) (.slice A2 n2 c2) s.q) (hv : OwnI w5 w.heap.size v xs) (hu : OwnI w5 B u us) (ho : OwnI w5 C (.slice Ao outs.length co) outs) (hC : w.heap.size ≤ C) :
    FM w p r B X F s va vb v u xs us outs (.pointer (some ⟨w5.heap.size, 0, none⟩)) (.slice Ao outs.length co) (w5.alloc (.cells #[.slice A1 n1 c1, .slice A2 n2 c2] tS)) := by
  have hw := below_alloc (Below.refl w5.heap.size w5) (.cells #[.slice A1 n1 c1, .slice A2 n2 c2] tS)
  exact ⟨_, A1, n1, c1, A2, n2, c2, Ao, co, rfl, rfl, k.below hw, Blk.new _ _ _, (ha.below hw).mono (fun _ _ h => h.1), (hb.below hw).mono (fun _ _ h => h.1), hv.below hw, hu.below hw, (ho.below hw).base hC⟩
theorem FM.two (hg : Blk w5 g tS #[x, y]) (hg0 : w.heap.size ≤ g) (k : RB5 w w5 p r (fun z => X z ∧ v.ownBlock ≠ some z) F va vb) (hk : RB5 w w5 p r (fun z => (X z ∧ v.ownBlock ≠ some z) ∧ z ≠ g) F va vb) (ha : SL w5 (fun z => ((X z ∧ v.ownBlock ≠ some z) ∧ z ≠ p ∧ z ≠ r) ∧ z ≠ g) (.slice A1 n1 c1) s.h) (hb : SL w5 (fun z => ((X z ∧ v.ownBlock ≠ some z) ∧ z ≠ p ∧ z ≠ r) ∧ z ≠ g) (.slice A2 n2 c2) s.q) (hv : OwnI w5 w.heap.size v xs) (hu : OwnI w5 B u us) (ho : OwnI w5 C (.slice Ao outs.length co) outs) (hC : w.heap.size ≤ C) :
    FM w p r B X F s va vb v u xs us outs (.pointer (some ⟨g, 0, none⟩)) (.slice Ao outs.length co) ((w5.setCell ⟨g, 0, none⟩ (.slice A1 n1 c1)).setCell ⟨g, 1, none⟩ (.slice A2 n2 c2)) := by
  have hp : p ≠ g := Blk.ne k.box hg (by decide)
  have hr : r ≠ g := Blk.ne k.res hg (by decide)
  refine ⟨g, A1, n1, c1, A2, n2, c2, Ao, co, rfl, rfl, ⟨(k.box.far (p := ⟨g, 0, none⟩) hp _).far (p := ⟨g, 1, none⟩) hp _, (k.res.far (p := ⟨g, 0, none⟩) hr _).far (p := ⟨g, 1, none⟩) hr _, k.pb, ?_, ?_, (k.low.setCell hg0 _).setCell hg0 _⟩, by simpa using (hg.put 0 (.slice A1 n1 c1)).put 1 (.slice A2 n2 c2), ?_, ?_, hv.setP hg (by decide) 0 1 _ _, hu.setP hg (by decide) 0 1 _ _, (ho.setP hg (by decide) 0 1 _ _).base hC⟩
  · exact ((hk.held.setCell (p := ⟨g, 0, none⟩) (fun _ h => h.1.2) _).setCell (p := ⟨g, 1, none⟩) (fun _ h => h.1.2) _).mono (fun _ _ h => ⟨h.1.1, h.2⟩)
  · exact ((hk.queue.setCell (p := ⟨g, 0, none⟩) (fun _ h => h.1.2) _).setCell (p := ⟨g, 1, none⟩) (fun _ h => h.1.2) _).mono (fun _ _ h => ⟨h.1.1, h.2⟩)
  · exact ((ha.setCell (p := ⟨g, 0, none⟩) (fun _ h => h.2) _).setCell (p := ⟨g, 1, none⟩) (fun _ h => h.2) _).mono (fun _ _ h => h.1)
  · exact ((hb.setCell (p := ⟨g, 0, none⟩) (fun _ h => h.2) _).setCell (p := ⟨g, 1, none⟩) (fun _ h => h.2) _).mono (fun _ _ h => h.1)
end
theorem frees_len : ∀ (us : List Int) (r : St × List Int), (us.foldl P52.freeStep r).1.h.length + (us.foldl P52.freeStep r).1.q.length ≤ r.1.h.length + r.1.q.length
  | [], _ => Nat.le_refl _
  | u :: us, r => Nat.le_trans (frees_len us (P52.freeStep r u)) (P52.release_len r.1 u)
set_option maxRecDepth 100000 in
set_option maxHeartbeats 8000000 in
theorem roFree (F : P52.Fs) (k : Int) (X : Nat → Prop) (v1 v2 : Value) (w : World) (hh : SL w X v1 F.s.h) (hq : SL w X v2 F.s.q) (hX : ∀ b, w.heap.size ≤ b → X b) (hn : F.s.h.length + F.s.q.length ≤ 90000) (hv : Valids F.s) :
    Calls Tryz.prog 26 #[.agg (rcs F v1 v2), .int .i64 k] w (SRes2 w X (P52.free F k).1 (P52.free F k).2) := by
  have HH := Lib.hid hh
  have HQ := Lib.hid hq
  have HXX := Lib.hid hX
  have HN := Lib.hid hn
  have HV := Lib.hid hv
  clear hh hq hX hn hv
  have hlenR : (Tryz.prog.info? tR).map (·.size) = some 12 := by kernel_rfl
  have hlenS : (Tryz.prog.info? tS).map (·.size) = some 2 := by kernel_rfl
  have underR := Tryz.underlying55
  obtain ⟨i1, hi1, hy0, hy1, hy2⟩ := info_parts infoI
  have HI1 := Lib.hid hi1
  have HY0 := Lib.hid hy0
  have HY1 := Lib.hid hy1
  have HY2 := Lib.hid hy2
  clear hi1 hy0 hy1 hy2
  have HP := Lib.hid (show P52.free F k = (P52.withS F ((P52.unitsL (P52.retained F k)).foldl P52.freeStep (F.s, [])).1, ((P52.unitsL (P52.retained F k)).foldl P52.freeStep (F.s, [])).2) from rfl)
  obtain ⟨ret, hret⟩ : ∃ ret, P52.retained F k = ret := ⟨_, rfl⟩
  have HRN := Lib.hid (show ret.length ≤ 90000 from by
    have h1 : (P52.retained F k).length ≤ F.s.h.length := List.length_filter_le _ _
    have h2 := HN.out
    rw [hret] at h1
    omega)
  have HUR := Lib.hid (show ∀ u ∈ P52.unitsL ret, InR u from fun u hu => unitsr_num HV.out (by rw [hret]; exact hu))
  have HRT := Lib.hid (show ∀ (A : Option Addr) (n c : Nat) (v2 : Value) (W : World), LocksAt W A n F.s.h → Calls Tryz.prog 33 #[.agg (rcs F (.slice A n c) v2), .int .i64 k] W fun e w' => ∃ v, e = .returned v ∧ OwnL w' W.heap.size 30 v ret ∧ Below W.heap.size W w' from fun A n c v2 W hW => by
    have h := roRetained F A n c v2 k W hW (by have h1 := hW.len; have h2 := HN.out; omega) (fun l hl => InR.num (valid_num (HV.out.1 l hl)))
    rwa [hret] at h)
  rw [hret] at HP
  clear hret
  unfold rcs
  go_enter Tryz.func26, Tryz.ntmps26
  go_upto_region 1 with (fail)
  obtain ⟨w2, p, r, e1, e2, e3, hk⟩ := RB5.start F HH.out HQ.out
  unfold rcs P52.fs0 at e1
  rw [e1, e3, e2]
  have HKa := Lib.hid hk
  clear e1 e2 e3 hk
  go_upto_region 2 with (fail)
  have HOa := Lib.hid (OwnI.empty w2 w.heap.size HKa.out.low.size)
  have HK2 := Lib.hid ((HKa.out.mono (Y := fun b => X b ∧ (Value.slice (some ⟨w2.heap.size, 0, none⟩) 0 0).ownBlock ≠ some b) (fun b hb hx => ⟨hx, fun e => by simp [Value.ownBlock] at e; omega⟩)).below (below_alloc (Below.refl _ w2) (.cells #[] 3)))
  have HLT := Lib.hid (show w2.heap.size < (w2.alloc (.cells #[] 3)).heap.size from by simp)
  generalize (Value.slice (some ⟨w2.heap.size, 0, none⟩) 0 0) = vo at HOa HK2 ⊢
  obtain ⟨w2', hw2'⟩ : ∃ z, w2.alloc (.cells #[] 3) = z := ⟨_, rfl⟩
  rw [hw2'] at HOa HK2 HLT ⊢
  clear hw2'
  obtain ⟨A1, n1, c1, rfl, hh1, -, -, -⟩ := id HK2.out.held
  have HH2 := Lib.hid (show LocksAt w2' A1 n1 F.s.h from hh1)
  clear hh1
  go_upto_region 3 with (first | (refine wpList_load_row rfl tR (.tmp 2) rfl p rfl tR _ (0, 0) _ HK2.out.box underR rfl (by kernel_rfl) ?_) | (go_at_call 33; refine (HRT.out A1 n1 c1 v2 w2' HH2.out).mono ?_; rintro e w3 ⟨v3, rfl, ho3, hb3⟩; have HK3 := Lib.hid (HK2.out.below hb3); have HO3 := Lib.hid (HOa.out.below hb3); obtain ⟨A3, c3, rfl, hs3, -⟩ := ho3.cells; have HS3 := Lib.hid hs3; clear ho3 hb3 hs3) | (go_at_call 60; refine (roUnits A3 _ c3 ret w3 HS3.out (by have h := HRN.out; omega)).mono ?_; rintro e w4 ⟨v4, rfl, ho4, hb4⟩; have HO4 := Lib.hid ho4; have HK4 := Lib.hid (HK3.out.below hb4); have HV4 := Lib.hid (HO3.out.below hb4); have HAP := Lib.hid (show ∀ x, v4.ownBlock = some x → vo.ownBlock ≠ some x from fun x hx e => by have h1 := (ho4.lt x hx).1; have h2 := (HO3.out.lt x e).2; omega); obtain ⟨A4, c4, rfl, -, -⟩ := ho4.cells; clear ho4 hb4))
  obtain ⟨us, hus⟩ : ∃ us, P52.unitsL ret = us := ⟨_, rfl⟩
  obtain ⟨m, hm⟩ : ∃ m, us.length = m := ⟨_, rfl⟩
  have hm9 : m ≤ 90000 := by
    have h1 := units_len ret
    have h2 := HRN.out
    rw [hus, hm] at h1
    omega
  rw [hus] at HO4 HAP HP HUR ⊢
  rw [hm] at HO4 HAP ⊢
  have HM := Lib.hid hm
  clear hus hm
  go_wp2
  go_loopw [6, 8] (fun v i wr => ∃ (j : Nat) (va vb : Value), j ≤ m ∧ i = .int .i64 j ∧ RB5 w wr p r (fun b => X b ∧ v.ownBlock ≠ some b) (P52.withS F ((us.take j).foldl P52.freeStep (F.s, [])).1) va vb ∧ OwnI wr w.heap.size v ((us.take j).foldl P52.freeStep (F.s, [])).2 ∧ OwnI wr w3.heap.size (.slice A4 m c4) us ∧ ∀ x, (Value.slice A4 m c4).ownBlock = some x → v.ownBlock ≠ some x) (fun _ i _ => m - (intOf i).toNat)
  case atStart => exact ⟨0, _, _, Nat.zero_le _, rfl, HK4.out, HV4.out, HO4.out, HAP.out⟩
  case round =>
    obtain ⟨j, va, vb, hj, rfl, hk5, hv5, ho5, hap5⟩ := hrel
    have HK5 := Lib.hid hk5
    have HV5 := Lib.hid hv5
    have HO5 := Lib.hid ho5
    have HA5 := Lib.hid hap5
    clear hk5 hv5 ho5 hap5
    by_cases hlt : j < m
    · obtain ⟨b4, o4, u, rfl, hu, hcu⟩ := HO5.out.reads52.1.at_ hlt
      have HT := Lib.hid (fold_take P52.freeStep (F.s, ([] : List Int)) hu)
      have HFO := Lib.hid (frees_out (us.take j) (F.s, ([] : List Int)) 90000 (by have h := HN.out; simp; omega))
      have HLE0 := Lib.hid (Nat.le_trans (frees_len (us.take j) (F.s, ([] : List Int))) HN.out)
      generalize (us.take j).foldl P52.freeStep (F.s, ([] : List Int)) = r4 at HK5 HV5 HT HFO HLE0
      obtain ⟨⟨sh, sq⟩, out4⟩ := r4
      dsimp only at HK5 HV5 HT HFO
      clear hu
      obtain ⟨-, -, -, -, -, -, -, -, d8, d9, -, -⟩ := rcells52 HK5.out.box
      go_upto_region 6 with (fail)
      have HLE := Lib.hid (show sh.length + sq.length ≤ 90000 from HLE0.out)
      have HXD := Lib.hid (show ∀ b, wr.heap.size ≤ b → X b ∧ u6.ownBlock ≠ some b from fun b hb => ⟨HXX.out b (Nat.le_trans HK5.out.low.size hb), fun e => by have h := (HV5.out.lt b e).2; omega⟩)
      have HCA := Lib.hid (show ∀ (W : World) (g : Nat), Below wr.heap.size wr W → g < W.heap.size → (wr.heap.size ≤ g ∨ g = p) → Calls Tryz.prog 23 #[.agg #[va, vb], .int .i64 u] W (GRes W (fun b => ((X b ∧ u6.ownBlock ≠ some b) ∧ b ≠ p ∧ b ≠ r) ∧ b ≠ g) (P46.release ⟨sh, sq⟩ u).1 (P46.release ⟨sh, sq⟩ u).2) from fun W g hW hg hgp => by
        have hk := HK5.out.below hW
        have hne : ∀ b, b < wr.heap.size → ((X b ∧ u6.ownBlock ≠ some b) ∧ b ≠ p ∧ b ≠ r) → ((X b ∧ u6.ownBlock ≠ some b) ∧ b ≠ p ∧ b ≠ r) ∧ b ≠ g := fun b hb hx => ⟨hx, fun e => by rcases hgp with h | h; omega; exact hx.2.1 (e.trans h)⟩
        refine refRelease u _ va vb sh sq W ((HK5.out.held.mono hne).below hW) ((HK5.out.queue.mono hne).below hW) (fun b hb => ?_) HLE.out
        have h1 := HK5.out.box.lt
        have h2 := HK5.out.res.lt
        have h3 := hW.size
        exact ⟨⟨HXD.out b (by omega), fun e => by omega, fun e => by omega⟩, fun e => by omega⟩)
      have HGB := Lib.hid (Blk.new wr tS #[.slice none 0 0, .slice none 0 0])
      have HPL := Lib.hid (And.intro HK5.out.box.lt HK5.out.res.lt)
      have hcuA : ∀ ob, (wr.alloc ob).cell? ⟨b4, o4 + j, none⟩ = some (.int .i64 u) := fun ob => by rw [(below_alloc (Below.refl wr.heap.size wr) ob).cell (p := ⟨b4, o4 + j, none⟩) (World.block_lt_of_cell? wr _ hcu)]; exact hcu
      have d8A : ∀ ob, (wr.alloc ob).cell? ⟨p, 8, none⟩ = some va := fun ob => by rw [(below_alloc (Below.refl wr.heap.size wr) ob).cell (p := ⟨p, 8, none⟩) (World.block_lt_of_cell? wr _ d8)]; exact d8
      have d9A : ∀ ob, (wr.alloc ob).cell? ⟨p, 9, none⟩ = some vb := fun ob => by rw [(below_alloc (Below.refl wr.heap.size wr) ob).cell (p := ⟨p, 9, none⟩) (World.block_lt_of_cell? wr _ d9)]; exact d9
      -- DRAWN
      go_cut [9, 10] (fun s9 s10 wx => FM w p r w3.heap.size X (P52.withS F ⟨sh, sq⟩) (P46.release ⟨sh, sq⟩ u).1 va vb u6 (.slice (some ⟨b4, o4, none⟩) m c4) out4 us (P46.release ⟨sh, sq⟩ u).2 s9 s10 wx)
      case first =>
        -- FAST(
        go_region_with (go_at_call 23; first
          | (refine (HCA.out wr.drew p (below_drewN (Below.refl wr.heap.size wr) 1) HPL.out.1 (.inr rfl)).mono ?_; rintro e w5 ⟨va5, vb5, vo5, rfl, ha5, hb5, ho5, hbe5⟩; have HBE := Lib.hid ((below_drewN (Below.refl wr.heap.size wr) 1).trans hbe5); have HA5 := Lib.hid ha5; have HB5 := Lib.hid hb5; have HR5 := Lib.hid ho5; obtain ⟨Aa, na, ca, hva, -⟩ := id ha5; obtain ⟨Ab, nb, cb, hvb, -⟩ := id hb5; obtain ⟨Ao, co, hvo, -, -⟩ := ho5.cells; subst hva; subst hvb; subst hvo; clear ha5 hb5 ho5 hbe5)
          | (refine (HCA.out (wr.alloc (.cells #[.slice none 0 0, .slice none 0 0] tS)).drew wr.heap.size ((below_alloc (Below.refl wr.heap.size wr) _).drew) (by simp) (.inl (Nat.le_refl _))).mono ?_; rintro e w5 ⟨va5, vb5, vo5, rfl, ha5, hb5, ho5, hbe5⟩; have HBE := Lib.hid (((below_alloc (Below.refl wr.heap.size wr) (.cells #[.slice none 0 0, .slice none 0 0] tS)).drew).trans (hbe5.mono (by simp))); have hgb := (HGB.out.drew).below hbe5; have HGB5 := Lib.hid hgb; have hg0 := hgb.cell 0; have hg1 := hgb.cell 1; have hgf := fun i => hgb.frozen i; have hgl := hgb.lt; simp at hg0 hg1; have HA5 := Lib.hid ha5; have HB5 := Lib.hid hb5; have HR5 := Lib.hid ho5; obtain ⟨Aa, na, ca, hva, -⟩ := id ha5; obtain ⟨Ab, nb, cb, hvb, -⟩ := id hb5; obtain ⟨Ao, co, hvo, -, -⟩ := ho5.cells; subst hva; subst hvb; subst hvo; clear ha5 hb5 ho5 hbe5 hgb))
        all_goals
          have HK6 := Lib.hid (HK5.out.below HBE.out)
          have HV6 := Lib.hid (HV5.out.below HBE.out)
          have HO6 := Lib.hid (HO5.out.below HBE.out)
          have HWS := Lib.hid (Nat.le_trans HK5.out.low.size HBE.out.size)
          clear d8 d9 d8A d9A hcu hcuA
          try clear hg0 hg1 hgf hgl
          go_wp2
          go_meet
          case rel =>
            first
            | exact FM.one HK6.out HA5.out HB5.out HV6.out HO6.out HR5.out HK5.out.low.size
            | exact FM.two HGB5.out HK5.out.low.size HK6.out ((HK5.out.mono (fun b hb hx => ⟨hx, fun e => by omega⟩)).below HBE.out) HA5.out HB5.out HV6.out HO6.out HR5.out (Nat.le_trans HK5.out.low.size (by simp))
        -- FAST)
      case rest =>
        obtain ⟨g6, A5, n5, c5, A6, n6, c6, Ao, co, rfl, rfl, hk6, hg6, ha6, hb6, hv6, hu6, ho6⟩ := hcut
        have HK6 := Lib.hid hk6
        have HG6 := Lib.hid hg6
        have HA6 := Lib.hid ha6
        have HB6 := Lib.hid hb6
        have HV6 := Lib.hid hv6
        have HU6 := Lib.hid hu6
        have HR6 := Lib.hid ho6
        clear hk6 hg6 ha6 hb6 hv6 hu6 ho6 d8 d9 d8A d9A hcu hcuA
        -- SEVEN
        have HT2 := Lib.hid (show (us.take (j + 1)).foldl P52.freeStep (F.s, ([] : List Int)) = ((P46.release ⟨sh, sq⟩ u).1, out4 ++ (P46.release ⟨sh, sq⟩ u).2) from HT.out)
        have HLN := Lib.hid (show out4.length + (P46.release ⟨sh, sq⟩ u).2.length ≤ 1000000 from by have h1 : out4.length + sq.length ≤ 90000 := HFO.out; have h2 : (P46.release ⟨sh, sq⟩ u).2.length + (P46.release ⟨sh, sq⟩ u).1.q.length ≤ sq.length := release_out ⟨sh, sq⟩ u; omega)
        obtain ⟨rs, hrs⟩ : ∃ rs, P46.release ⟨sh, sq⟩ u = rs := ⟨_, rfl⟩
        rw [hrs] at HA6 HB6 HR6 HT2 HLN ⊢
        clear hrs
        obtain ⟨-, -, -, -, -, -, -, -, d8, d9, -, -⟩ := rcells52 HK6.out.box
        have e0 := HG6.out.cell 0
        have e1 := HG6.out.cell 1
        have hfz := fun i => HK6.out.box.frozen i
        have hlp := HK6.out.box.lt
        simp at e0 e1
        go_upto_region 8 with (refine wpList_load_cells rfl tS (.tmp 9) rfl ⟨g6, 0, none⟩ rfl _ _ HG6.out.add Tryz.underlying53 rfl hlenS ?_)
        have HK7 := Lib.hid (HK6.out.both (s := rs.1) HA6.out HB6.out)
        have HV7 := Lib.hid (HV6.out.setP HK6.out.box (by decide) 8 9 (.slice A5 n5 c5) (.slice A6 n6 c6))
        have HU7 := Lib.hid (HU6.out.setP HK6.out.box (by decide) 8 9 (.slice A5 n5 c5) (.slice A6 n6 c6))
        have HR7 := Lib.hid (HR6.out.setP HK6.out.box (by decide) 8 9 (.slice A5 n5 c5) (.slice A6 n6 c6))
        clear d8 d9 e0 e1 hfz hlp
        generalize (wc.setCell ⟨p, 8, none⟩ (.slice A5 n5 c5)).setCell ⟨p, 9, none⟩ (.slice A6 n6 c6) = w7 at HK7 HV7 HU7 HR7 ⊢
        have HS7 := Lib.hid HR7.out.reads52.1
        have HL7 := Lib.hid HR7.out.nilLen
        go_wp2_with (at_builtin; refine wpList_append_ints rfl (.tmp 34) (.tmp 35) _ rfl w.heap.size i1 _ Tryz.underlying34 HI1.out HY0.out HY1.out HY2.out rfl _ out4 rfl HV7.out _ Ao _ co rfl HL7.out HS7.out HLN.out HK7.out.low.size ?_; intro v8 w8 hown8 hg8 hat8; have hat8 : v8.ownBlock = u6.ownBlock ∨ v8.ownBlock = some w7.heap.size := hat8; have hg8 : w7.grownBy w8 u6.ownBlock := hg8; have HV8 := Lib.hid hown8; have HK8 := Lib.hid (((HK7.out.mono (Y := fun z => X z ∧ u6.ownBlock ≠ some z ∧ v8.ownBlock ≠ some z) (fun b hb hx => ⟨hx.1, hx.2, by rcases hat8 with e | e; (rw [e]; exact hx.2); (rw [e]; intro h; injection h with h; omega)⟩)).grown HV7.out (Nat.le_refl _) hg8 (fun b hb => hb.2.1)).mono (Y := fun z => X z ∧ v8.ownBlock ≠ some z) (fun b _ h => ⟨h.1, h.2.2⟩)); have HU8 := Lib.hid (OwnI.kept HU7.out hg8 (by rcases e : (Value.slice (some ⟨b4, o4, none⟩) m c4).ownBlock with _ | z; (exact .inl rfl); (exact .inr (fun e2 => HA5.out z e e2.symm)))); have HA8 := Lib.hid (show ∀ x, (Value.slice (some ⟨b4, o4, none⟩) m c4).ownBlock = some x → v8.ownBlock ≠ some x from fun x hx e2 => by rcases hat8 with e | e; (exact HA5.out x hx (by rw [← e]; exact e2)); (rw [e] at e2; injection e2 with e2; have h1 := (HU7.out.lt x hx).2; omega)); clear hown8 hg8 hat8)
        go_roundw
        case rel => exact ⟨j + 1, _, _, by omega, by go_num, by rw [HT2.out]; exact HK8.out, by rw [HT2.out]; exact HV8.out, HU8.out, HA8.out⟩
        case measure => simp [intOf]; omega
    · have hjm : j = m := by omega
      subst hjm
      have e1 : us.take j = us := List.take_of_length_le (by rw [HM.out]; exact Nat.le_refl _)
      rw [e1] at HK5 HV5
      have HK6 := Lib.hid (show RB5 w wr p r X (P52.free F k).1 va vb from by rw [HP.out]; exact HK5.out.mono (fun b _ h => h.1))
      have HV6 := Lib.hid (show OwnI wr w.heap.size u6 (P52.free F k).2 from by rw [HP.out]; exact HV5.out)
      clear HK5 HV5 e1
      -- END
      go_wp2_with (first | (refine wpList_load_row rfl tR (.tmp 2) rfl p rfl tR _ (0, 0) _ HK6.out.box underR rfl (by kernel_rfl) ?_) | (refine wpList_store_row rfl tR (.tmp 4) (.tmp 37) rfl r _ rfl rfl tR _ HK6.out.res hlenR rfl (rcs_one HK6.out.slices) ?_))
      obtain ⟨w9, e9, h1, h2, h3, h4⟩ := HK6.out.end_; rw [e9]
      have HV9 := Lib.hid (show OwnI w9 w.heap.size u6 (P52.free F k).2 from by rw [← e9]; exact HV6.out.setRowR HK6.out.res (by decide) _)
      clear e9
      obtain ⟨c0, c1, c2, c3, c4, c5, c6, c7, c8, c9, c10, c11⟩ := rcells52 h1
      exact bodyPost_ret (v := .tuple #[.agg (rcs (P52.free F k).1 va vb), u6]) (by simp [results, Tryz.results26, go_sem, c0, c1, c2, c3, c4, c5, c6, c7, c8, c9, c10, c11, rcs]) rfl ⟨_, _, _, rfl, h2, h3, HV9.out, h4⟩
end Go.Proofs.YtjklhiifjnmedaaGreat
