/- A facility whose table of names is not empty, in memory; plain theorems, no function of the program in sight. Names, Lose, Retained, Fail and Free of a facility without locks whose table of names is not empty. CouplingNames: the names that jobs hold survive the loss of the locks; the law's walk. -/
import Derived.Test.YtjklhiifjnmedaaGreatDoorNmC
import Derived.Test.YtjklhiifjnmedaaGreatDoorNmI
import Derived.Test.YtjklhiifjnmedaaGreatDoorNmE
import Derived.Test.YtjklhiifjnmedaaGreatDoorNmD
import Derived.Test.YtjklhiifjnmedaaGreatDoorNmK
import Derived.Test.YtjklhiifjnmedaaGreatDoorNmJ
import Derived.Test.YtjklhiifjnmedaaGreatDoorNmF
import Derived.Test.YtjklhiifjnmedaaGreatDoorLkSame
namespace Go.Proofs.YtjklhiifjnmedaaGreatDoor
open Go.RowKit P46

/-- The facility's box is b, its manager p, its table nb, which is t; F are the table's blocks. -/
structure FN (w : World) (B b p nb : Nat) (G : P52.Fs) (t : P43.T) (F : Nat → Prop) (vh vq : Value) : Prop where
  box : Blk w b tF (fcs G p nb)
  mgr : Mgr w B p G.s.h G.s.q vh vq
  tb : TT w B nb t F
  base : B ≤ b
  out : ¬ F b
  apart : ∀ k, F k → ¬ Foot w p k
section
variable {w w1 w' : World} {B b p p2 nb : Nat} {G G' : P52.Fs} {t t' : P43.T} {F F' : Nat → Prop} {vh vq vh2 : Value}
theorem FN.below (h : FN w B b p nb G t F vh vq) (hb : Below w.heap.size w w') : FN w' B b p nb G t F vh vq :=
  ⟨h.box.below hb, h.mgr.below hb, h.tb.below hb, h.base, h.out, fun k hk hf => h.apart k hk (h.mgr.foot.2 ((h.mgr.below hb).foot.1 hf))⟩
theorem FN.hB (h : FN w B b p nb G t F vh vq) : B ≤ w.heap.size := by
  have h1 := h.base
  have h2 := h.box.lt
  omega
/-- The table moved. -/
theorem FN.tab (h : FN w B b p nb G t F vh vq) (m : TT w' B nb t' F') (c : Chg F F' w w') : FN w' B b p nb G t' F' vh vq := by
  have hm : Mgr w' B p G.s.h G.s.q vh vq := ⟨h.mgr.box.chg c (fun hs => h.apart p hs (h.mgr.foot.2 (.inl rfl))), h.mgr.base, own_chg h.mgr.held c (fun k hk hs => h.apart k hs (h.mgr.foot.2 (.inr (.inl hk)))), own_chg h.mgr.queue c (fun k hk hs => h.apart k hs (h.mgr.foot.2 (.inr (.inr hk)))), h.mgr.apart⟩
  refine ⟨h.box.chg c h.out, hm, m, h.base, fun hb => (c.sub b hb).elim h.out (fun e => by have := h.box.lt; omega), fun k hk hf => ?_⟩
  have hf' : Foot w p k := h.mgr.foot.2 (hm.foot.1 hf)
  rcases c.sub k hk with h1 | h1
  · exact h.apart k h1 hf'
  · have := (h.mgr.ge hf').2
    omega
theorem FN.tabLow (h : FN w B b p nb G t F vh vq) (c : Chg F F' w w') : Below B w w' := c.below (fun _ hk => (h.tb.ge hk).1) h.hB
/-- The facility's box is written. -/
theorem FN.wrote (h : FN w B b p nb G t F vh vq) (hg : w.grownBy w' (some b)) (hb : Blk w' b tF (fcs G' p nb)) (hs : G'.s = G.s) : FN w' B b p nb G' t F vh vq := by
  have hm := h.mgr.farB hg (h.mgr.nofoot h.box (by decide) (by decide))
  exact ⟨hb, by rw [hs]; exact hm, h.tb.grown hg (fun k e hf => h.out (by injection e with e; rw [e]; exact hf)), h.base, h.out, fun k hk hf => h.apart k hk (h.mgr.foot.2 (hm.foot.1 hf))⟩
theorem FN.wroteLow (h : FN w B b p nb G t F vh vq) (hg : w.grownBy w' (some b)) : Below B w w' := (Below.refl B w).grown hg h.hB (fun _ e => by injection e with e; rw [← e]; exact h.base)
/-- A new manager is laid into the box. -/
theorem FN.renew (h : FN w B b p nb G t F vh vq) (hb : Below w.heap.size w w1) (m : Mgr w1 w.heap.size p2 [] [] vh2 (.slice none 0 0)) (hg : w1.grownBy w' (some b)) (hx : Blk w' b tF (fcs G' p2 nb)) (hs : G'.s = ⟨[], []⟩) : FN w' B b p2 nb G' t F vh2 (.slice none 0 0) := by
  have hB := h.hB
  have hm2 := m.farB hg (m.nofoot (h.box.below hb) (by decide) (by decide))
  refine ⟨hx, ?_, (h.tb.below hb).grown hg (fun k e hf => h.out (by injection e with e; rw [e]; exact hf)), h.base, h.out, fun k hk hf => ?_⟩
  · rw [hs]
    exact ⟨hm2.box, Nat.le_trans hB hm2.base, hm2.held.base hB, hm2.queue.base hB, hm2.apart⟩
  · have h1 := (h.tb.ge hk).2
    have h2 := (hm2.ge hf).1
    omega
/-- A facility whose table is empty. -/
theorem FacP.names (h : FacP w B b p nb G vh vq) : FN w B b p nb G ⟨[], []⟩ (fun k => k = nb) vh vq := by
  have hT : Tbl w B nb [] [] (.slice none 0 0) (.slice none 0 0) := ⟨⟨h.nm, h.nbase, OwnK.nil _ _ _, OwnK.nil _ _ _, .inl rfl⟩, ⟨(fun x hx => by cases hx), (fun x hx => by cases hx), by simp⟩⟩
  refine ⟨h.box, h.mgr, ⟨[], [], _, _, hT, rfl, fun k => ?_⟩, h.base, fun e => h.bn e, fun k hk hf => h.nn (by rw [← hk]; exact hf)⟩
  rw [hT.foot]
  simp [Value.ownBlock]
end
end Go.Proofs.YtjklhiifjnmedaaGreatDoor
namespace Go.Proofs.YtjklhiifjnmedaaGreatDoor
open Go.RowKit Go.Maps P46
attribute [local go_sem] ByteArray.mk_append_mk ByteArray.extract_mk mk_index

theorem units_nil : P52.unitsL [] = [] := rfl
theorem h1_boxN {w w1 : World} {b p nb : Nat} {G : P52.Fs} (h : Blk w b tF (fcs G p nb)) (hb : Below w.heap.size w w1) :
    w1.cell? ⟨b, 10, none⟩ = some (.pointer (some ⟨p, 0, none⟩)) ∧ w1.frozen? ⟨b, 10, none⟩ = false ∧ w1.cell? ⟨b, 12, none⟩ = some (.bool G.lost) ∧ w1.frozen? ⟨b, 12, none⟩ = false :=
  ⟨(h.below hb).cell 10, (h.below hb).frozen 10, (h.below hb).cell 12, (h.below hb).frozen 12⟩
theorem fnNames (b p nb : Nat) (G : P52.Fs) (w : World) (h : Blk w b tF (fcs G p nb)) : Calls Tryz.prog 7 #[.pointer (some ⟨b, 0, none⟩)] w fun e w' => e = .returned (.pointer (some ⟨nb, 0, none⟩)) ∧ w = w' := by
  have hc := h.cell 11
  simp [fcs] at hc
  go_enter Tryz.func7, Tryz.ntmps7
  go_wp2
  go_ret
  exact ⟨rfl, rfl⟩
set_option maxRecDepth 100000 in
set_option maxHeartbeats 1000000 in
theorem fnLose (B b p nb : Nat) (G : P52.Fs) (t : P43.T) (F : Nat → Prop) (vh vq : Value) (w : World) (h : FN w B b p nb G t F vh vq) :
    Calls Tryz.prog 10 #[.pointer (some ⟨b, 0, none⟩)] w fun e w' => ∃ p2 vh2, e = .returned (.tuple #[]) ∧ FN w' B b p2 nb (P52.lose G) t F vh2 (.slice none 0 0) ∧ Below B w w' := by
  have HF := Lib.hid h
  clear h
  go_enter Tryz.func10, Tryz.ntmps10
  go_wp2_with (go_at_call 21; refine (lkNew none 0 0 [] w LocksAt.nil (by omega)).mono ?_; rintro e w1 ⟨p2, vh2, rfl, hm, hb1⟩; have HM := Lib.hid hm; have HB1 := Lib.hid hb1; have hx := h1_boxN HF.out.box hb1; obtain ⟨x1, x2, x3, x4⟩ := hx; clear hm hb1)
  have hg := grown_trans (grownBy_setCell w1 b 10 (.pointer (some ⟨p2, 0, none⟩))) (grownBy_setCell _ b 12 (.bool true))
  have hb := ((HF.out.box.below HB1.out).put 10 (.pointer (some ⟨p2, 0, none⟩))).put 12 (.bool true)
  rw [fcs_lose] at hb
  have HF2 := Lib.hid (HF.out.renew (G' := P52.lose G) HB1.out HM.out hg hb rfl)
  have HL2 := Lib.hid ((HB1.out.mono HF.out.hB).grown hg (Nat.le_trans HF.out.hB HB1.out.size) (fun k e => by injection e with e; rw [← e]; exact HF.out.base))
  clear hg hb
  go_end0
  exact ⟨_, _, rfl, HF2.out, HL2.out⟩
set_option maxRecDepth 100000 in
set_option maxHeartbeats 1000000 in
theorem fnRetained (k : Int) (B b p nb : Nat) (F : P52.Fs) (t : P43.T) (X : Nat → Prop) (vh vq : Value) (w : World) (h : FN w B b p nb F t X vh vq) (hl : F.s.h.length + F.s.q.length ≤ 90000) (hv : ∀ l ∈ F.s.h, InR l.unit) :
    Calls Tryz.prog 20 #[.pointer (some ⟨b, 0, none⟩), .int .i64 k] w fun e w' => ∃ v, e = .returned v ∧ OwnL w' w.heap.size 46 v (P52.retained F k) ∧ Below w.heap.size w w' := by
  have HF := Lib.hid h
  have HN := Lib.hid hl
  have HV := Lib.hid hv
  have HK := Lib.hid (show kept (fun l => !P52.gone F l.unit k) F.s.h = P52.retained F k from by unfold kept P52.retained; simp)
  clear h hl hv
  go_enter Tryz.func20, Tryz.ntmps20
  go_upto_region 1 with (fail)
  obtain ⟨w1, gb, gk, e1, e2, e3, hb, h1, h2⟩ := boxesT w 24 3 #[.pointer (some ⟨b, 0, none⟩)] #[.int .i64 k]
  rw [e1, e3, e2]
  have HB1 := Lib.hid hb
  have HF1 := Lib.hid (HF.out.below hb)
  have HG1 := Lib.hid (And.intro h1 h2)
  have HGE := Lib.hid (show gb < w1.heap.size ∧ gk < w1.heap.size ∧ b < w1.heap.size from ⟨h1.lt, h2.lt, (HF.out.below hb).box.lt⟩)
  have hc0 := h1.cell 0
  simp at hc0
  have hc10 := HF1.out.box.cell 10
  simp [fcs] at hc10
  clear e1 e2 e3 hb h1 h2
  go_wp2_with (first | (go_at_call 28; refine (lkAll B p _ _ vh vq w1 HF1.out.mgr (by have h2 := HN.out; omega)).mono ?_; rintro e w2 ⟨v1, v2, rfl, ho1, -, -, hb2⟩; have HO1 := Lib.hid ho1; have HB2 := Lib.hid (below_then HB1.out hb2); have HF2 := Lib.hid (HF1.out.below hb2); have HG2 := Lib.hid (And.intro (HG1.out.1.below hb2) (HG1.out.2.below hb2)); clear ho1 hb2 hc0 hc10) | (go_at_call 43; refine (cfDeleteFunc 44 gb gk (fun l => !P52.gone F l.unit k) w1.heap.size v1 F.s.h w2 HO1.out (by have h2 := HN.out; omega) (asksRetained F.s.h HV.out k b p nb gb gk F w2 _ HF2.out.box HG2.out.1 HG2.out.2 (fun x hx => by have h1 := (HO1.out.lt x hx).1; have h2 := HGE.out; omega))).mono ?_; rintro e w3 ⟨v3, rfl, ho3, hg3, -⟩; have HO3 := Lib.hid ho3; have HB3 := Lib.hid (HB2.out.grown hg3 HB2.out.size (fun x hx => Nat.le_trans HB1.out.size (HO1.out.lt x hx).1)); clear ho3 hg3))
  go_ret
  refine ⟨v3, rfl, ?_, HB3.out⟩
  have ho := HO3.out
  rw [HK.out] at ho
  exact ho.base HB1.out.size
set_option maxRecDepth 100000 in
set_option maxHeartbeats 4000000 in
theorem fnFail (B b p nb : Nat) (G : P52.Fs) (t : P43.T) (F : Nat → Prop) (vh vq : Value) (w : World) (h : FN w B b p nb G t F vh vq) (hs : G.s = ⟨[], []⟩) (hl : t.hs.length + t.ws.length ≤ 100000) (hr : ∀ u ∈ P43.ids t.ws, InR u) :
    Calls Tryz.prog 11 #[.pointer (some ⟨b, 0, none⟩), .int .i64 1] w fun e w' => ∃ F', e = .returned (.tuple #[]) ∧ FN w' B b p nb (P52.off G 1) ((P43.ids t.ws).foldl (P43.relStep fun u => P52.gone (P52.off G 1) u 1) t) F' vh vq ∧ Below B w w' := by
  have HE := Lib.hid (cfExists 1 w)
  have HF := Lib.hid h
  have HS := Lib.hid hs
  have HR := Lib.hid hr
  have hc := h.box.cell 6
  simp [fcs] at hc
  have hfz := fun i => h.box.frozen i
  have hlt := h.box.lt
  clear h hs hr
  go_enter Tryz.func11, Tryz.ntmps11
  go_upto_region 2 with (go_at_call 23; refine HE.out.mono ?_; rintro x w2 ⟨rfl, rfl⟩; rw [show P52.okS 1 = true from rfl])
  have hg1 := grownBy_setCell w b 6 (.bool false)
  have HF1 := Lib.hid (HF.out.wrote (G' := P52.off G 1) hg1 (show Blk (w.setCell ⟨b, 6, none⟩ (.bool false)) b tF (fcs (P52.off G 1) p nb) from offed HF.out.box (k := 1) (by decide)) rfl)
  have HL1 := Lib.hid (HF.out.wroteLow hg1)
  clear hg1 hc hfz hlt
  generalize w.setCell _ _ = w1 at HF1 HL1 ⊢
  have hc10 := HF1.out.box.cell 10
  simp [fcs] at hc10
  have HM1 := Lib.hid (show Mgr w1 B p [] [] vh vq from by
    have h := HF1.out.mgr
    rw [show (P52.off G 1).s = ⟨[], []⟩ from HS.out] at h
    exact h)
  go_wp2_with (first | (go_at_call 28; refine (lkAll B p [] [] vh vq w1 HM1.out (by simp)).mono ?_; rintro e w2 ⟨v1, v2, rfl, -, ho2, -, hb2⟩; obtain ⟨A2, c2, rfl, hs2, -⟩ := ho2.cells; rw [List.length_nil] at hs2 ⊢; have HS2 := Lib.hid hs2; have HF2 := Lib.hid (HF1.out.below hb2); have HL2 := Lib.hid (HL1.out.trans (hb2.mono HF1.out.hB)); clear ho2 hs2 hb2 hc10) | (go_at_call 29; refine (cfUnits A2 0 c2 [] w2 HS2.out (by omega)).mono ?_; rintro e w3 ⟨v3, rfl, ho3, hb3⟩; have HF3 := Lib.hid (HF2.out.below hb3); have HL3 := Lib.hid (HL2.out.trans (hb3.mono HF2.out.hB)); rw [units_nil] at ho3; obtain ⟨A3, c3, rfl, -, -⟩ := ho3.cells; rw [List.length_nil]; clear ho3 hb3))
  go_loopw [29] (fun i wr => i = .int .i64 0 ∧ w3 = wr) (fun _ _ => 0)
  case atStart => exact ⟨rfl, rfl⟩
  case round =>
    obtain ⟨rfl, rfl⟩ := hrel
    have hc11 := HF3.out.box.cell 11
    simp [fcs] at hc11
    obtain ⟨us, hus⟩ : ∃ us, P43.ids t.ws = us := ⟨_, rfl⟩
    have HUS := Lib.hid hus
    have HUR := Lib.hid (show ∀ u ∈ us, InR u from by rw [← hus]; exact HR.out)
    obtain ⟨m, hm⟩ : ∃ m, us.length = m := ⟨_, rfl⟩
    have hm9 : m ≤ 100000 := by
      rw [← hm, ← HUS.out]
      show (List.map _ _).length ≤ _; rw [List.length_map]; omega
    go_wp2_with (go_at_call 12; refine (clWaitT B nb t F _ HF3.out.tb hl).mono ?_; rintro e w4 ⟨v4, rfl, ho4, hb4⟩; rw [hus] at ho4; obtain ⟨A4, c4, rfl, -, -⟩ := ho4.cells; rw [hm] at ho4 ⊢; have HO4 := Lib.hid ho4; have HF4 := Lib.hid (HF3.out.below hb4); have HL4 := Lib.hid (HL3.out.trans (hb4.mono HF3.out.hB)); clear ho4 hb4 hc11)
    clear hus
    have HM := Lib.hid hm
    have HN4 := Lib.hid (show ∀ x, (Value.slice A4 m c4).ownBlock = some x → ¬ F x from fun x hx hf => by
      have h1 := (HO4.out.lt x hx).1
      have h2 := (HF3.out.tb.ge hf).2
      omega)
    clear hm
    go_loopw [50] (fun i wr => ∃ (j : Nat) (F' : Nat → Prop), j ≤ m ∧ i = .int .i64 j ∧ FN wr B b p nb (P52.off G 1) ((us.take j).foldl (P43.relStep fun u => P52.gone (P52.off G 1) u 1) t) F' vh vq ∧ Below B w wr ∧ OwnI wr w3.heap.size (.slice A4 m c4) us ∧ (∀ x, (Value.slice A4 m c4).ownBlock = some x → ¬ F' x)) (fun i _ => m - (intOf i).toNat)
    case atStart => exact ⟨0, F, Nat.zero_le _, rfl, HF4.out, HL4.out, HO4.out, HN4.out⟩
    case round =>
      obtain ⟨j, F5, hj, rfl, hf5, hl5, ho5, hn5⟩ := hrel
      have HF5 := Lib.hid hf5
      have HL5 := Lib.hid hl5
      have HO5 := Lib.hid ho5
      have HN5 := Lib.hid hn5
      clear hf5 hl5 ho5 hn5
      by_cases hlt5 : j < m
      · obtain ⟨b5, o5, u, rfl, hu, hcu⟩ := HO5.out.reads52.1.at_ hlt5
        have HT := Lib.hid (fold_take (P43.relStep fun u => P52.gone (P52.off G 1) u 1) t hu)
        have HUR5 := Lib.hid (HUR.out u (List.mem_iff_getElem?.2 ⟨j, hu⟩))
        have HLN := Lib.hid (P43.rels_len (fun u => P52.gone (P52.off G 1) u 1) (us.take j) t)
        generalize (us.take j).foldl (P43.relStep fun u => P52.gone (P52.off G 1) u 1) t = t5 at HF5 HT HLN
        clear hu
        cases hg : P52.gone (P52.off G 1) u 1 with
        | true =>
          have HG := Lib.hid (show ∀ W, Blk W b tF (fcs (P52.off G 1) p nb) → Calls Tryz.prog 30 #[.pointer (some ⟨b, 0, none⟩), .int .i64 u, .int .i64 1] W fun e w' => e = .returned (.bool true) ∧ Below W.heap.size W w' from fun W hW => by
            have h := cfGone u 1 HUR5.out b p nb _ W hW
            rwa [hg] at h)
          have HST := Lib.hid (show P43.relStep (fun u => P52.gone (P52.off G 1) u 1) t5 u = (P43.releaseP t5 u).1 from if_pos hg)
          clear hg
          go_wp2_with (first | (go_at_call 30; refine (HG.out _ HF5.out.box).mono ?_; rintro e w6 ⟨rfl, hb6⟩; have HF6 := Lib.hid (HF5.out.below hb6); have HL6 := Lib.hid (HL5.out.trans (hb6.mono HF5.out.hB)); have HO6 := Lib.hid (HO5.out.below hb6); have hc6 := HF6.out.box.cell 11; simp [fcs] at hc6; clear hb6 hcu) | (go_at_call 32; refine (clRelease B nb t5 F5 u w6 HF6.out.tb (by have h := HLN.out; omega)).mono ?_; rintro e w7 ⟨⟨v7, rfl, ho7⟩, F7, hm7, hc7⟩; have HF7 := Lib.hid (HF6.out.tab hm7 hc7); have HL7 := Lib.hid (HL6.out.trans (HF6.out.tabLow hc7)); have HO7 := Lib.hid (OwnI.chg HO6.out hc7 HN5.out); have HN7 := Lib.hid (show ∀ x, (Value.slice (some ⟨b5, o5, none⟩) m c4).ownBlock = some x → ¬ F7 x from fun x hx => Chg.out hc7 (HO6.out.lt x hx).2 (HN5.out x hx)); clear ho7 hm7 hc7 hc6))
          go_roundw
          case rel => exact ⟨j + 1, F7, by omega, by go_num, by rw [HT.out, HST.out]; exact HF7.out, HL7.out, HO7.out, HN7.out⟩
          case measure => simp [intOf]; omega
        | false =>
          have HG := Lib.hid (show ∀ W, Blk W b tF (fcs (P52.off G 1) p nb) → Calls Tryz.prog 30 #[.pointer (some ⟨b, 0, none⟩), .int .i64 u, .int .i64 1] W fun e w' => e = .returned (.bool false) ∧ Below W.heap.size W w' from fun W hW => by
            have h := cfGone u 1 HUR5.out b p nb _ W hW
            rwa [hg] at h)
          have HST := Lib.hid (show P43.relStep (fun u => P52.gone (P52.off G 1) u 1) t5 u = t5 from if_neg (by simp [hg]))
          clear hg
          go_wp2_with (go_at_call 30; refine (HG.out _ HF5.out.box).mono ?_; rintro e w6 ⟨rfl, hb6⟩; have HF6 := Lib.hid (HF5.out.below hb6); have HL6 := Lib.hid (HL5.out.trans (hb6.mono HF5.out.hB)); have HO6 := Lib.hid (HO5.out.below hb6); clear hb6 hcu)
          go_roundw
          case rel => exact ⟨j + 1, F5, by omega, by go_num, by rw [HT.out, HST.out]; exact HF6.out, HL6.out, HO6.out, HN5.out⟩
          case measure => simp [intOf]; omega
      · have hjm : j = m := by omega
        subst hjm
        have e1 : us.take j = us := List.take_of_length_le (by rw [HM.out]; exact Nat.le_refl _)
        rw [e1, ← HUS.out] at HF5
        clear e1
        go_wp2
        go_end0
        exact ⟨F5, rfl, HF5.out, HL5.out⟩
set_option maxRecDepth 100000 in
set_option maxHeartbeats 4000000 in
theorem fnFree (B b p nb : Nat) (G : P52.Fs) (t : P43.T) (F : Nat → Prop) (vh vq : Value) (w : World) (h : FN w B b p nb G t F vh vq) (hs : G.s = ⟨[], []⟩) (hl : t.hs.length + t.ws.length ≤ 100000) (hr : ∀ u ∈ P43.sortZ (P43.ids (t.hs ++ t.ws)), InR u) :
    Calls Tryz.prog 15 #[.pointer (some ⟨b, 0, none⟩), .int .i64 1] w fun e w' => ∃ F', e = .returned (.slice none 0 0) ∧ FN w' B b p nb G ((P43.sortZ (P43.ids (t.hs ++ t.ws))).foldl (P43.relStep fun u => P52.gone G u 1) t) F' vh vq ∧ Below B w w' := by
  have HF := Lib.hid h
  have HR := Lib.hid hr
  have HRT := Lib.hid (fnRetained 1 B b p nb G t F vh vq w h (by rw [hs]; simp) (by rw [hs]; intro l hl; cases hl))
  have HRN := Lib.hid (show P52.retained G 1 = [] from by unfold P52.retained; rw [hs]; rfl)
  clear h hs hr
  go_enter Tryz.func15, Tryz.ntmps15
  go_wp2_with (first | (go_at_call 20; refine HRT.out.mono ?_; rintro e w1 ⟨v1, rfl, ho1, hb1⟩; rw [HRN.out] at ho1; obtain ⟨A1, c1, rfl, hs1, -⟩ := ho1.cells; rw [List.length_nil] at hs1 ⊢; have HS1 := Lib.hid hs1; have HF2 := Lib.hid (HF.out.below hb1); have HL2 := Lib.hid (hb1.mono HF.out.hB); clear ho1 hs1 hb1) | (go_at_call 29; refine (cfUnits A1 0 c1 [] w1 HS1.out (by omega)).mono ?_; rintro e w3 ⟨v3, rfl, ho3, hb3⟩; have HF3 := Lib.hid (HF2.out.below hb3); have HL3 := Lib.hid (HL2.out.trans (hb3.mono HF2.out.hB)); rw [units_nil] at ho3; obtain ⟨A3, c3, rfl, -, -⟩ := ho3.cells; rw [List.length_nil]; clear ho3 hb3))
  go_loopw [5, 15] (fun v i wr => v = .slice none 0 0 ∧ i = .int .i64 0 ∧ w3 = wr) (fun _ _ _ => 0)
  case atStart => exact ⟨rfl, rfl, rfl⟩
  case round =>
    obtain ⟨rfl, rfl, rfl⟩ := hrel
    have hc11 := HF3.out.box.cell 11
    simp [fcs] at hc11
    obtain ⟨us, hus⟩ : ∃ us, P43.sortZ (P43.ids (t.hs ++ t.ws)) = us := ⟨_, rfl⟩
    have HUS := Lib.hid hus
    have HUR := Lib.hid (show ∀ u ∈ us, InR u from by rw [← hus]; exact HR.out)
    obtain ⟨m, hm⟩ : ∃ m, us.length = m := ⟨_, rfl⟩
    have hm9 : m ≤ 100000 := by
      rw [← hm, ← HUS.out]
      rw [P43.len_sortZ]; show (List.map _ _).length ≤ _; rw [List.length_map, List.length_append]; omega
    go_wp2_with (go_at_call 36; refine (clOwners B nb t F _ HF3.out.tb hl).mono ?_; rintro e w4 ⟨v4, rfl, ho4, hb4⟩; rw [hus] at ho4; obtain ⟨A4, c4, rfl, -, -⟩ := ho4.cells; rw [hm] at ho4 ⊢; have HO4 := Lib.hid ho4; have HF4 := Lib.hid (HF3.out.below hb4); have HL4 := Lib.hid (HL3.out.trans (hb4.mono HF3.out.hB)); clear ho4 hb4 hc11)
    clear hus
    have HM := Lib.hid hm
    have HN4 := Lib.hid (show ∀ x, (Value.slice A4 m c4).ownBlock = some x → ¬ F x from fun x hx hf => by
      have h1 := (HO4.out.lt x hx).1
      have h2 := (HF3.out.tb.ge hf).2
      omega)
    clear hm
    go_loopw [34] (fun i wr => ∃ (j : Nat) (F' : Nat → Prop), j ≤ m ∧ i = .int .i64 j ∧ FN wr B b p nb G ((us.take j).foldl (P43.relStep fun u => P52.gone (G) u 1) t) F' vh vq ∧ Below B w wr ∧ OwnI wr w3.heap.size (.slice A4 m c4) us ∧ (∀ x, (Value.slice A4 m c4).ownBlock = some x → ¬ F' x)) (fun i _ => m - (intOf i).toNat)
    case atStart => exact ⟨0, F, Nat.zero_le _, rfl, HF4.out, HL4.out, HO4.out, HN4.out⟩
    case round =>
      obtain ⟨j, F5, hj, rfl, hf5, hl5, ho5, hn5⟩ := hrel
      have HF5 := Lib.hid hf5
      have HL5 := Lib.hid hl5
      have HO5 := Lib.hid ho5
      have HN5 := Lib.hid hn5
      clear hf5 hl5 ho5 hn5
      by_cases hlt5 : j < m
      · obtain ⟨b5, o5, u, rfl, hu, hcu⟩ := HO5.out.reads52.1.at_ hlt5
        have HT := Lib.hid (fold_take (P43.relStep fun u => P52.gone (G) u 1) t hu)
        have HUR5 := Lib.hid (HUR.out u (List.mem_iff_getElem?.2 ⟨j, hu⟩))
        have HLN := Lib.hid (P43.rels_len (fun u => P52.gone (G) u 1) (us.take j) t)
        generalize (us.take j).foldl (P43.relStep fun u => P52.gone (G) u 1) t = t5 at HF5 HT HLN
        clear hu
        cases hg : P52.gone (G) u 1 with
        | true =>
          have HG := Lib.hid (show ∀ W, Blk W b tF (fcs (G) p nb) → Calls Tryz.prog 30 #[.pointer (some ⟨b, 0, none⟩), .int .i64 u, .int .i64 1] W fun e w' => e = .returned (.bool true) ∧ Below W.heap.size W w' from fun W hW => by
            have h := cfGone u 1 HUR5.out b p nb _ W hW
            rwa [hg] at h)
          have HST := Lib.hid (show P43.relStep (fun u => P52.gone (G) u 1) t5 u = (P43.releaseP t5 u).1 from if_pos hg)
          clear hg
          go_wp2_with (first | (go_at_call 30; refine (HG.out _ HF5.out.box).mono ?_; rintro e w6 ⟨rfl, hb6⟩; have HF6 := Lib.hid (HF5.out.below hb6); have HL6 := Lib.hid (HL5.out.trans (hb6.mono HF5.out.hB)); have HO6 := Lib.hid (HO5.out.below hb6); have hc6 := HF6.out.box.cell 11; simp [fcs] at hc6; clear hb6 hcu) | (go_at_call 32; refine (clRelease B nb t5 F5 u w6 HF6.out.tb (by have h := HLN.out; omega)).mono ?_; rintro e w7 ⟨⟨v7, rfl, ho7⟩, F7, hm7, hc7⟩; have HF7 := Lib.hid (HF6.out.tab hm7 hc7); have HL7 := Lib.hid (HL6.out.trans (HF6.out.tabLow hc7)); have HO7 := Lib.hid (OwnI.chg HO6.out hc7 HN5.out); have HN7 := Lib.hid (show ∀ x, (Value.slice (some ⟨b5, o5, none⟩) m c4).ownBlock = some x → ¬ F7 x from fun x hx => Chg.out hc7 (HO6.out.lt x hx).2 (HN5.out x hx)); clear ho7 hm7 hc7 hc6))
          go_roundw
          case rel => exact ⟨j + 1, F7, by omega, by go_num, by rw [HT.out, HST.out]; exact HF7.out, HL7.out, HO7.out, HN7.out⟩
          case measure => simp [intOf]; omega
        | false =>
          have HG := Lib.hid (show ∀ W, Blk W b tF (fcs (G) p nb) → Calls Tryz.prog 30 #[.pointer (some ⟨b, 0, none⟩), .int .i64 u, .int .i64 1] W fun e w' => e = .returned (.bool false) ∧ Below W.heap.size W w' from fun W hW => by
            have h := cfGone u 1 HUR5.out b p nb _ W hW
            rwa [hg] at h)
          have HST := Lib.hid (show P43.relStep (fun u => P52.gone (G) u 1) t5 u = t5 from if_neg (by simp [hg]))
          clear hg
          go_wp2_with (go_at_call 30; refine (HG.out _ HF5.out.box).mono ?_; rintro e w6 ⟨rfl, hb6⟩; have HF6 := Lib.hid (HF5.out.below hb6); have HL6 := Lib.hid (HL5.out.trans (hb6.mono HF5.out.hB)); have HO6 := Lib.hid (HO5.out.below hb6); clear hb6 hcu)
          go_roundw
          case rel => exact ⟨j + 1, F5, by omega, by go_num, by rw [HT.out, HST.out]; exact HF6.out, HL6.out, HO6.out, HN5.out⟩
          case measure => simp [intOf]; omega
      · have hjm : j = m := by omega
        subst hjm
        have e1 : us.take j = us := List.take_of_length_le (by rw [HM.out]; exact Nat.le_refl _)
        rw [e1, ← HUS.out] at HF5
        clear e1
        go_wp2
        go_ret
        exact ⟨F5, rfl, HF5.out, HL5.out⟩
end Go.Proofs.YtjklhiifjnmedaaGreatDoor
namespace Go.Proofs.YtjklhiifjnmedaaGreatDoor
open Go.RowKit Go.Maps P46
attribute [local go_sem] ByteArray.mk_append_mk ByteArray.extract_mk mk_index

/-- The facility b behind W, its table nb at t. -/
def NY (W wr : World) (b nb : Nat) (G : P52.Fs) (t : P43.T) : Prop := ∃ p F vh vq, FN wr W.heap.size b p nb G t F vh vq ∧ Below W.heap.size W wr
/-- .. and a wish of one name in memory. -/
def NX (W wr : World) (b nb : Nat) (G : P52.Fs) (t : P43.T) (A : Option Addr) (s : P43.Nm) : Prop :=
  NlsAt wr A 1 [(s, true)] ∧ ∃ p F vh vq, FN wr W.heap.size b p nb G t F vh vq ∧ Below W.heap.size W wr ∧ ∀ bb off, A = some ⟨bb, off, none⟩ → ¬ F bb ∧ bb < wr.heap.size
section
variable {W wr w' : World} {b nb : Nat} {G : P52.Fs} {t t' : P43.T} {A : Option Addr} {s : P43.Nm}
theorem NX.ny (h : NX W wr b nb G t A s) : NY W wr b nb G t := by
  obtain ⟨-, p, F, vh, vq, h1, h2, -⟩ := h
  exact ⟨p, F, vh, vq, h1, h2⟩
theorem NY.box (h : NY W wr b nb G t) : ∃ p, Blk wr b tF (fcs G p nb) := by
  obtain ⟨p, F, vh, vq, h1, -⟩ := h
  exact ⟨p, h1.box⟩
theorem NY.low (h : NY W wr b nb G t) : Below W.heap.size W wr := by
  obtain ⟨p, F, vh, vq, -, h2⟩ := h
  exact h2
theorem NY.below (h : NY W wr b nb G t) (hb : Below wr.heap.size wr w') : NY W w' b nb G t := by
  obtain ⟨p, F, vh, vq, h1, h2⟩ := h
  exact ⟨p, F, vh, vq, h1.below hb, h2.trans (hb.mono h2.size)⟩
theorem NY.names (h : NY W wr b nb G t) : Calls Tryz.prog 7 #[.pointer (some ⟨b, 0, none⟩)] wr fun e w' => e = .returned (.pointer (some ⟨nb, 0, none⟩)) ∧ wr = w' := by
  obtain ⟨p, hb⟩ := h.box
  exact fnNames b p nb G wr hb
theorem NX.req {o : Int} {c : Nat} {r : Bool} (h : NX W wr b nb G t A s) (hG : GlobM W) (hl : t.hs.length + t.ws.length ≤ 100000) (hs : s.length ≤ 1000) (e : P43.requestP validB t o [(s, true)] = (t', r, 0)) :
    Calls Tryz.prog 9 #[.pointer (some ⟨nb, 0, none⟩), .int .i64 o, .slice A 1 c] wr fun x w' => x = .returned (.tuple #[.bool r, .int .i64 0]) ∧ NX W w' b nb G t' A s := by
  obtain ⟨hw, p, F, vh, vq, h1, h2, h3⟩ := h
  refine (clRequest W.heap.size nb t F o A 1 c [(s, true)] wr h1.tb (hG.below h2) hl hw (by omega) (fun q hq => by simp at hq; subst hq; exact hs)).mono ?_
  rintro x w' ⟨rfl, F', hm, hc⟩
  rw [e] at hm ⊢
  refine ⟨rfl, CellsAt.chg hw hc (fun bb off e => (h3 bb off e).1), p, F', vh, vq, h1.tab hm hc, h2.trans (h1.tabLow hc), fun bb off e => ⟨Chg.out hc (h3 bb off e).2 (h3 bb off e).1, Nat.lt_of_lt_of_le (h3 bb off e).2 hc.size⟩⟩
theorem NY.lose (h : NY W wr b nb G t) : Calls Tryz.prog 10 #[.pointer (some ⟨b, 0, none⟩)] wr fun e w' => e = .returned (.tuple #[]) ∧ NY W w' b nb (P52.lose G) t := by
  obtain ⟨p, F, vh, vq, h1, h2⟩ := h
  refine (fnLose W.heap.size b p nb G t F vh vq wr h1).mono ?_
  rintro e w' ⟨p2, vh2, rfl, h3, h4⟩
  exact ⟨rfl, p2, F, vh2, _, h3, h2.trans h4⟩
theorem NY.fail (h : NY W wr b nb G t) (hs : G.s = ⟨[], []⟩) (hl : t.hs.length + t.ws.length ≤ 100000) (hr : ∀ u ∈ P43.ids t.ws, InR u) (e : (P43.ids t.ws).foldl (P43.relStep fun u => P52.gone (P52.off G 1) u 1) t = t') :
    Calls Tryz.prog 11 #[.pointer (some ⟨b, 0, none⟩), .int .i64 1] wr fun e w' => e = .returned (.tuple #[]) ∧ NY W w' b nb (P52.off G 1) t' := by
  obtain ⟨p, F, vh, vq, h1, h2⟩ := h
  refine (fnFail W.heap.size b p nb G t F vh vq wr h1 hs hl hr).mono ?_
  rintro x w' ⟨F', rfl, h3, h4⟩
  rw [e] at h3
  exact ⟨rfl, p, F', vh, vq, h3, h2.trans h4⟩
theorem NY.free (h : NY W wr b nb G t) (hs : G.s = ⟨[], []⟩) (hl : t.hs.length + t.ws.length ≤ 100000) (hr : ∀ u ∈ P43.sortZ (P43.ids (t.hs ++ t.ws)), InR u) (e : (P43.sortZ (P43.ids (t.hs ++ t.ws))).foldl (P43.relStep fun u => P52.gone G u 1) t = t') :
    Calls Tryz.prog 15 #[.pointer (some ⟨b, 0, none⟩), .int .i64 1] wr fun e w' => e = .returned (.slice none 0 0) ∧ NY W w' b nb G t' := by
  obtain ⟨p, F, vh, vq, h1, h2⟩ := h
  refine (fnFree W.heap.size b p nb G t F vh vq wr h1 hs hl hr).mono ?_
  rintro x w' ⟨F', rfl, h3, h4⟩
  rw [e] at h3
  exact ⟨rfl, p, F', vh, vq, h3, h2.trans h4⟩
theorem NY.waiting {us : List Int} {m : Nat} (h : NY W wr b nb G t) (hl : t.hs.length + t.ws.length ≤ 100000) (e : P43.ids t.ws = us) (hm : us.length = m) :
    Calls Tryz.prog 12 #[.pointer (some ⟨nb, 0, none⟩)] wr fun x w' => ∃ A c, x = .returned (.slice A m c) ∧ IntsAt w' A m us ∧ NY W w' b nb G t := by
  obtain ⟨p, F, vh, vq, h1, h2⟩ := id h
  refine (clWaitT W.heap.size nb t F wr h1.tb hl).mono ?_
  rintro x w' ⟨v, rfl, ho, hb⟩
  rw [e] at ho
  obtain ⟨A, c, rfl, hi, -⟩ := ho.cells
  rw [hm] at hi ⊢
  exact ⟨A, c, rfl, hi, h.below hb⟩
theorem NY.held {o : Int} {n : Nat} (h : NY W wr b nb G t) (hl : t.hs.length + t.ws.length ≤ 100000) (hg : ∀ c ∈ t.hs, P43.GoodC c) (e : (P43.heldP t o).length = n) :
    Calls Tryz.prog 14 #[.pointer (some ⟨nb, 0, none⟩), .int .i64 o] wr fun x w' => ∃ A c, x = .returned (.slice A n c) ∧ NY W w' b nb G t := by
  obtain ⟨p, F, vh, vq, h1, h2⟩ := id h
  refine (clHeld W.heap.size nb t F o wr h1.tb hl hg).mono ?_
  rintro x w' ⟨v, rfl, ho, hb⟩
  obtain ⟨A, c, rfl, -, -⟩ := ho.cells
  exact ⟨A, c, by rw [e], h.below hb⟩
theorem NX.start (h : FW W wr b f2) : ∃ nb, NX W (wr.alloc (.cells #[.string ⟨s.toArray⟩, .bool true] tNL)) b nb f2 ⟨[], []⟩ (some ⟨wr.heap.size, 0, none⟩) s := by
  obtain ⟨S, ⟨p, nb, vh, vq, hf, hs⟩, hbw⟩ := h
  have hb := below_alloc (Below.refl wr.heap.size wr) (.cells #[.string ⟨s.toArray⟩, .bool true] tNL)
  have hbk := Blk.new wr tNL #[.string ⟨s.toArray⟩, .bool true]
  refine ⟨nb, ⟨by simp [ncs, nc], fun j u hj => ⟨wr.heap.size, 0, rfl, ?_⟩⟩, p, _, vh, vq, hf.names.below hb, hbw.trans (hb.mono hbw.size), fun bb off e => ?_⟩
  · match j, hj with
    | 0, hj =>
      simp [ncs, nc] at hj
      subst hj
      exact hbk.cell 0
    | 1, hj =>
      simp [ncs, nc] at hj
      subst hj
      exact hbk.cell 1
    | j + 2, hj => simp [ncs, nc] at hj
  · injection e with e
    injection e with e1 e2
    subst e1
    have h1 := hf.nm.lt
    exact ⟨fun e => by omega, by simp⟩
end
/-- The three owners: two of system 1, one of system 2. -/
theorem sys_a {n : Int} (h0 : 0 ≤ n) (h1 : n < 256) : P52.sysOf (262145 + n) = 1 := by
  unfold P52.sysOf
  rw [if_neg (by omega)]
  omega
theorem sys_b {n : Int} (h0 : 0 ≤ n) (h1 : n < 256) : P52.sysOf (327681 + n) = 2 := by
  unfold P52.sysOf
  rw [if_neg (by omega)]
  omega
theorem sys_c {n : Int} (h0 : 0 ≤ n) (h1 : n < 256) : P52.sysOf (262644 + n) = 1 := by
  unfold P52.sysOf
  rw [if_neg (by omega)]
  omega
theorem gone_1 (G : P52.Fs) {u : Int} (h : P52.sysOf u = 1) : P52.gone (P52.off G 1) u 1 = true := by
  unfold P52.gone P52.pres
  rw [h]
  simp [P52.off, P52.setAt]
theorem gone_2 (G : P52.Fs) {u : Int} (h : P52.sysOf u = 2) : P52.gone (P52.off G 1) u 1 = false := by
  unfold P52.gone
  rw [h]
  simp
theorem fold_fail {g : Int → Bool} {s : P43.Nm} {a b c : Int} (hb : g b = false) (hc : g c = true) (hca : c ≠ a) (hcb : c ≠ b) :
    (P43.ids [P43.one s b, P43.one s c]).foldl (P43.relStep g) ⟨[P43.one s a], [P43.one s b, P43.one s c]⟩ = ⟨[P43.one s a], [P43.one s b]⟩ := by
  show P43.relStep g (P43.relStep g _ b) c = _
  unfold P43.relStep
  rw [if_neg (show ¬ g b = true from by simp [hb]), if_pos hc, P43.one_rel3 hca hcb]
theorem ids_two (s : P43.Nm) {a b : Int} (hab : a < b) : P43.sortZ (P43.ids ([P43.one s a] ++ [P43.one s b])) = [a, b] := by
  show P43.sortZ [a, b] = [a, b]
  exact P43.sortZ_asc_eq (by simp; omega)
theorem fold_free {g : Int → Bool} {s : P43.Nm} {a b : Int} (ha : g a = true) (hb : g b = false) (hab : a < b) :
    (P43.sortZ (P43.ids ([P43.one s a] ++ [P43.one s b]))).foldl (P43.relStep g) ⟨[P43.one s a], [P43.one s b]⟩ = ⟨[P43.one s b], []⟩ := by
  rw [ids_two s hab]
  show P43.relStep g (P43.relStep g _ a) b = _
  unfold P43.relStep
  rw [if_pos ha, P43.one_rel4 (by omega), if_neg (by simp [hb])]
theorem inr_n {n k : Int} (h0 : 0 ≤ n) (h1 : n < 256) (k0 : 0 ≤ k) (k1 : k < 1000000) : InR (k + n) := by
  unfold InR
  omega
set_option maxRecDepth 100000 in
set_option maxHeartbeats 8000000 in
theorem lawNames (l : List UInt8) (n : Int) (w : World) (hG : GlobM w) (hn0 : 0 ≤ n) (hn1 : n < 256) :
    Calls Tryz.prog 3 #[.string ⟨l.toArray⟩, .int .u8 n] w fun e w' => e = .returned (.bool true) ∧ Below w.heap.size w w' := by
  have hnp : ∀ (w : World) (p : Option Addr), (binOp .eql 24 (.pointer p) (.pointer none)).run Tryz.prog w = .ok (.bool (p.isNone)) w := fun w p => by cases p <;> simp [run_eql_pointer_nil w 24 _ (by kernel_rfl : Tryz.prog.underlying 24 = some (.pointer (Tryz.prog.pointee 24)))]
  have hnt : ∀ (w : World) (p : Option Addr), (binOp .eql 26 (.pointer p) (.pointer none)).run Tryz.prog w = .ok (.bool (p.isNone)) w := fun w p => by cases p <;> simp [run_eql_pointer_nil w 26 _ (by kernel_rfl : Tryz.prog.underlying 26 = some (.pointer (Tryz.prog.pointee 26)))]
  have HG := Lib.hid hG
  clear hG
  by_cases h30 : 30 < l.length
  · go_enter Tryz.func3, Tryz.ntmps3
    go_wp2_with (go_at_call 5; refine (cfAwake _).mono ?_; rintro e w2 ⟨rfl, hb2⟩; have HB2 := Lib.hid hb2; clear hb2)
    go_ret
    exact ⟨rfl, HB2.out⟩
  · have hl30 : l.length ≤ 30 := by omega
    have HL := Lib.hid hl30
    clear h30
    cases hv : validB l with
    | false =>
      have HV := Lib.hid hv
      clear hv
      go_enter Tryz.func3, Tryz.ntmps3
      go_wp2_with (first | (go_at_call 4; refine (refValid l w (by have h := HL.out; omega)).mono ?_; rintro e w1 ⟨rfl, hb1⟩; rw [HV.out]; have HB1 := Lib.hid hb1; clear hb1) | (go_at_call 5; refine (cfAwake _).mono ?_; rintro e w2 ⟨rfl, hb2⟩; have HB2 := Lib.hid (below_then HB1.out hb2); clear hb2))
      go_ret
      exact ⟨rfl, HB2.out⟩
    | true =>
      have HV := Lib.hid hv
      clear hv
      go_enter Tryz.func3, Tryz.ntmps3
      go_wp2_with fail
      refine (refValid l w (by have h := HL.out; omega)).mono ?_
      rintro e w1 ⟨rfl, hb1⟩
      rw [HV.out]
      have HB1 := Lib.hid hb1
      have HG1 := Lib.hid (HG.out.below hb1)
      clear hb1
      go_wp2_with fail
      refine (cfNew w1).mono ?_
      rintro e w2 ⟨b, S, rfl, hf2, hb2⟩
      have HW := Lib.hid (show FW w1 w2 b P52.fs0 from ⟨S, hf2, hb2⟩)
      clear hf2 hb2
      go_wp2_with fail
      refine (FW.names HW.out).mono ?_
      rintro e wk ⟨nb0, rfl, hk⟩
      replace HW := Lib.hid hk
      clear hk
      go_wp2_with fail
      refine (FW.conn HW.out fr1).mono ?_
      rintro e wk ⟨rfl, hk⟩
      replace HW := Lib.hid hk
      clear hk
      go_wp2_with fail
      refine (FW.conn HW.out fr2).mono ?_
      rintro e w5 ⟨rfl, hk⟩
      replace HW := Lib.hid hk
      clear hk
      go_upto_region 8 with (fail)
      obtain ⟨nb, hx⟩ := NX.start (s := l) HW.out
      have HX := Lib.hid hx
      clear hx
      generalize w5.alloc _ = w6 at HX ⊢
      have HN := Lib.hid (And.intro hn0 hn1)
      go_wp2_with fail
      refine (HX.out.ny.names).mono ?_
      rintro e wk ⟨rfl, rfl⟩
      go_wp2_with fail
      refine (HX.out.req (o := 262145 + n) HG1.out (by simp) (by have h := HL.out; omega) (P43.one_req1 HV.out (by omega) (by omega))).mono ?_
      rintro e wk ⟨rfl, hk⟩
      replace HX := Lib.hid hk
      clear hk
      go_wp2_with fail
      refine (HX.out.ny.names).mono ?_
      rintro e wk ⟨rfl, rfl⟩
      go_wp2_with fail
      refine (HX.out.req (o := 327681 + n) HG1.out (by simp) (by have h := HL.out; omega) (P43.one_req2 HV.out (by omega) (by omega) (by omega))).mono ?_
      rintro e wk ⟨rfl, hk⟩
      replace HX := Lib.hid hk
      clear hk
      go_wp2_with fail
      refine (HX.out.ny.names).mono ?_
      rintro e wk ⟨rfl, rfl⟩
      go_wp2_with fail
      refine (HX.out.req (o := 262644 + n) HG1.out (by simp) (by have h := HL.out; omega) (P43.one_req3 HV.out (by omega) (by omega) (by omega) (by omega))).mono ?_
      rintro e wk ⟨rfl, hk⟩
      replace HX := Lib.hid hk
      clear hk
      have HY := Lib.hid HX.out.ny
      clear HX
      go_wp2_with fail
      refine HY.out.lose.mono ?_
      rintro e wk ⟨rfl, hk⟩
      replace HY := Lib.hid hk
      clear hk
      go_wp2_with fail
      refine (HY.out.fail rfl (by simp) (fun u hu => by simp [P43.ids, P43.one] at hu; rcases hu with rfl | rfl <;> exact inr_n HN.out.1 HN.out.2 (by decide) (by decide)) (fold_fail (gone_2 _ (sys_b HN.out.1 HN.out.2)) (gone_1 _ (sys_c HN.out.1 HN.out.2)) (by omega) (by omega))).mono ?_
      rintro e wk ⟨rfl, hk⟩
      replace HY := Lib.hid hk
      clear hk
      go_wp2_with fail
      refine (HY.out.names).mono ?_
      rintro e wk ⟨rfl, rfl⟩
      go_wp2_with fail
      refine (HY.out.waiting (us := [327681 + n]) (m := 1) (by simp) rfl rfl).mono ?_
      rintro e w7 ⟨A7, c7, rfl, hi7, hk⟩
      replace HY := Lib.hid hk
      have HI7 := Lib.hid hi7
      clear hk hi7
      go_wp2_with fail
      refine (refInts A7 _ 1 1 c7 _ [327681 + n] [327681 + n] _ (HI7.out.below (below_alloc (Below.refl _ _) _)) (OwnI.lit1 w7 (327681 + n) (Nat.le_refl _)).reads52.1 (by omega)).mono ?_
      rintro e w8 ⟨rfl, hk⟩
      rw [decide_eq_true rfl]
      replace HY := Lib.hid ((HY.out.below (below_alloc (Below.refl _ _) (.cells #[.int .i64 (327681 + n)] 3))).below hk)
      clear hk
      go_wp2_with fail
      refine (HY.out.names).mono ?_
      rintro e wk ⟨rfl, rfl⟩
      go_wp2_with fail
      refine (HY.out.held (o := 262145 + n) (n := 1) (by simp) (fun c hc => by simp at hc; subst hc; exact P43.one_good (by have h := HL.out; omega) _) (by rw [P43.one_held]; rfl)).mono ?_
      rintro e wk ⟨Ak, ck, rfl, hk⟩
      replace HY := Lib.hid hk
      clear hk
      go_wp2_with fail
      refine (HY.out.free rfl (by simp) (fun u hu => by rw [ids_two l (by omega)] at hu; simp at hu; rcases hu with rfl | rfl <;> exact inr_n HN.out.1 HN.out.2 (by decide) (by decide)) (fold_free (gone_1 _ (sys_a HN.out.1 HN.out.2)) (gone_2 _ (sys_b HN.out.1 HN.out.2)) (by omega))).mono ?_
      rintro e wk ⟨rfl, hk⟩
      replace HY := Lib.hid hk
      clear hk
      go_wp2_with fail
      refine (HY.out.names).mono ?_
      rintro e wk ⟨rfl, rfl⟩
      go_wp2_with fail
      refine (HY.out.held (o := 262145 + n) (n := 0) (by simp) (fun c hc => by simp at hc; subst hc; exact P43.one_good (by have h := HL.out; omega) _) (by rw [P43.one_not l _ (by omega)]; rfl)).mono ?_
      rintro e wk ⟨Ak, ck, rfl, hk⟩
      replace HY := Lib.hid hk
      clear hk
      go_wp2_with fail
      refine (HY.out.names).mono ?_
      rintro e wk ⟨rfl, rfl⟩
      go_wp2_with fail
      refine (HY.out.held (o := 327681 + n) (n := 1) (by simp) (fun c hc => by simp at hc; subst hc; exact P43.one_good (by have h := HL.out; omega) _) (by rw [P43.one_held]; rfl)).mono ?_
      rintro e wk ⟨Ak, ck, rfl, hk⟩
      replace HY := Lib.hid hk
      clear hk
      go_wp2_with fail
      refine (HY.out.names).mono ?_
      rintro e wk ⟨rfl, rfl⟩
      go_wp2_with fail
      refine (HY.out.waiting (us := []) (m := 0) (by simp) rfl rfl).mono ?_
      rintro e w9 ⟨A9, c9, rfl, -, hk⟩
      replace HY := Lib.hid hk
      clear hk
      go_wp2_with fail
      refine (cfAwake _).mono ?_
      rintro e wz ⟨rfl, hk⟩
      have HZ := Lib.hid (below_then HB1.out (HY.out.low.trans (hk.mono HY.out.low.size)))
      clear hk
      go_wp2
      go_ret
      exact ⟨rfl, HZ.out⟩
end Go.Proofs.YtjklhiifjnmedaaGreatDoor
