/- Request: the lock is waited for already; and the rest. -/
import Derived.Test.YtjklhiifjnmedaaGreatDoorLkReq
import Derived.Test.YtjklhiifjnmedaaGreatDoorLkEq
import Derived.Test.YtjklhiifjnmedaaGreatDoorLkReach
import Derived.Deep.QuietTactic
import Derived.BigQuiet
import Derived.StillTailTactics
import Derived.Deep.RegionLaw
import Derived.Deep.DeepCutAuto
namespace Go.Proofs.YtjklhiifjnmedaaGreatDoor
open Go.RowKit P16 P46
attribute [local go_sem] ByteArray.mk_append_mk ByteArray.extract_mk mk_index

theorem idx_at {q : List Lock} {u : Int} {i : Nat} (h : idx q u = some i) : i < q.length := by
  obtain ⟨l, h1, _⟩ := idx_some h
  exact (List.getElem?_eq_some_iff.1 h1).1
theorem cancel_len (s : St) (u : Int) : (cancel s u).1.h.length + (cancel s u).1.q.length ≤ s.h.length + s.q.length := by
  have key : ∀ (rest h pre : List Lock) (out : List Int), (grantGo h pre rest out).1.h.length + (grantGo h pre rest out).1.q.length = h.length + pre.length + rest.length := by
    intro rest
    induction rest with
    | nil => intro h pre out; simp [grantGo]
    | cons l rest ih =>
      intro h pre out
      rw [grantGo]
      split
      · rw [ih]; simp; omega
      · rw [ih]; simp; omega
  have := key (drop s.q u) s.h [] []
  have h2 := drop_len s.q u
  show (grantGo s.h [] (drop s.q u) []).1.h.length + (grantGo s.h [] (drop s.q u) []).1.q.length ≤ _
  rw [this]
  simp
  exact h2
/-- Where the asking begins. -/
def RMid (w : World) (B p g : Nat) (s : St) (l : Lock) (wx : World) : Prop := ∃ s2 vh2 vq2, request s l = P46.ask s2 l ∧ Mgr wx B p s2.h s2.q vh2 vq2 ∧ Moved p w wx ∧ Blk wx g 46 (la l) ∧ P46.Good s2 ∧ Valids s2 ∧ s2.h.length + s2.q.length < 100000 ∧ ¬ Foot wx p g
set_option maxRecDepth 100000 in
set_option maxHeartbeats 4000000 in
theorem lkRequest_main (l : Lock) (B p : Nat) (h q : List Lock) (vh vq : Value) (w : World) (m : Mgr w B p h q vh vq) (hl : h.length + q.length < 100000) (hgood : P46.Good ⟨h, q⟩) (hvs : Valids ⟨h, q⟩) (hv : validL l = true) (hcv : covered h l = false) :
    Calls Tryz.prog 42 #[.pointer (some ⟨p, 0, none⟩), lv l] w (RPost w B p (request ⟨h, q⟩ l).1 (request ⟨h, q⟩ l).2) := by
  have HM := Lib.hid m
  have hlenL : (Tryz.prog.info? 46).map (·.size) = some 6 := by kernel_rfl
  have HV := Lib.hid hv
  have HCV := Lib.hid hcv
  have HL := Lib.hid hl
  have HGOOD := Lib.hid hgood
  have HVS := Lib.hid hvs
  have HRQ := Lib.hid (show request ⟨h, q⟩ l = (match idx q l.unit with | some i => if q[i]? = some l then ((⟨h, q⟩ : St), (15 : Int)) else P46.ask (cancel ⟨h, q⟩ l.unit).1 l | none => P46.ask ⟨h, q⟩ l) from by
    unfold request
    rw [if_neg (by rw [hv]; simp), if_neg (by rw [hcv]; simp)]
    rfl)
  clear m hv hcv hl hgood hvs
  obtain ⟨A, c, hvq, hs, -⟩ := HM.out.queue.cells
  subst hvq
  obtain ⟨n, hn⟩ : ∃ n, q.length = n := ⟨_, rfl⟩
  have HN := Lib.hid hn
  have HS := Lib.hid hs
  clear hs hn
  unfold lv
  go_enter Tryz.func42, Tryz.ntmps42
  go_upto_region 1 with (fail)
  obtain ⟨w2, g, e1, e2, hb, h1⟩ := boxes1 w 46 (la l)
  unfold la at e1
  rw [e1, e2]
  have hgw : w.heap.size ≤ g := by omega
  have HC := Lib.hid h1.add
  have HX := Lib.hid h1
  have HB := Lib.hid hb
  clear e1 e2 hb h1
  go_wp2_with (refine wpList_load_cells rfl 46 (.tmp 3) rfl ⟨g, 0, none⟩ rfl _ _ HC.out Tryz.underlying46 rfl hlenL ?_)
  refine (lkValid l _).mono ?_
  rintro e w3 ⟨rfl, hb3⟩
  rw [HV.out]
  have HX3 := Lib.hid (HX.out.below hb3)
  have HC3 := Lib.hid HX3.out.add
  have HB3 := Lib.hid (below_then HB.out hb3)
  clear hb3
  go_wp2_with (refine wpList_load_cells rfl 46 (.tmp 3) rfl ⟨g, 0, none⟩ rfl _ _ HC3.out Tryz.underlying46 rfl hlenL ?_)
  refine (lkCovered l B p h q vh _ _ (HM.out.below HB3.out) (by have := HL.out; omega)).mono ?_
  rintro e w4 ⟨rfl, hb4⟩
  rw [HCV.out]
  have HX4 := Lib.hid (HX3.out.below hb4)
  have hb04 := HX4.out.cell 0
  simp [la] at hb04
  have HB4 := Lib.hid (HB3.out.trans (hb4.mono HB3.out.size))
  clear hb4
  go_wp2_with fail
  refine (lkWaiting l.unit B p h q vh _ _ (HM.out.below HB4.out) (by have := HL.out; omega)).mono ?_
  rintro e w5 ⟨rfl, hb5⟩
  have HX5 := Lib.hid (HX4.out.below hb5)
  have HB5 := Lib.hid (HB4.out.trans (hb5.mono HB4.out.size))
  have HM5 := Lib.hid (HM.out.below HB5.out)
  have hnf : ¬ Foot w5 p g := fun hf => by
    have h1 := HM5.out.foot.1 hf
    have h2 := (HM.out.ge (HM.out.foot.2 h1)).2
    omega
  have HNF := Lib.hid hnf
  clear hb5 hb04 hnf
  go_upto_if 18 with (fail)
  go_cut [5] (fun _ wx => RMid w B p g ⟨h, q⟩ l wx)
  case first =>
    cases hi : idx q l.unit with
    | none =>
      have HI := Lib.hid (show fIdx (fun y => decide (y.unit = l.unit)) q = -1 from by rw [fIdx_idx, hi])
      have HE := Lib.hid (show request ⟨h, q⟩ l = P46.ask ⟨h, q⟩ l from by rw [HRQ.out, hi])
      clear hi
      rw [HI.out]
      go_wp2
      go_meet
      case rel => exact ⟨⟨h, q⟩, _, _, HE.out, HM5.out, Moved.of_below HB5.out HM.out.box.lt, HX5.out, HGOOD.out, HVS.out, HL.out, HNF.out⟩
    | some i =>
      have HI := Lib.hid (show fIdx (fun y => decide (y.unit = l.unit)) q = i from by rw [fIdx_idx, hi])
      have hlt := idx_at hi
      rw [HN.out] at hlt
      have HE := Lib.hid (show request ⟨h, q⟩ l = if q[i]? = some l then ((⟨h, q⟩ : St), (15 : Int)) else P46.ask (cancel ⟨h, q⟩ l.unit).1 l from by rw [HRQ.out, hi])
      clear hi
      rw [HI.out]
      have hs5 := HS.out.below HB5.out
      rw [HN.out] at hs5
      obtain ⟨b, off, y, rfl, hy, y0, y1, y2, y3, y4, y5⟩ := hs5.at_ hlt
      have HY := Lib.hid hy
      obtain ⟨x0, x1, x2, x3, x4, x5⟩ := lcells HX5.out
      have hc5 := HM5.out.box.cell 1
      simp [HN.out] at hc5
      have hi0 : (0 : Int) ≤ (i : Int) := by omega
      have hi1 : (i : Int) < (n : Int) := by omega
      have heq := fun w => run_eql_lock w y l
      have hgd := fun w op a b => run_eqGuard_lock w op a b y l
      unfold lv at heq hgd
      clear hs5 hy
      go_upto_region 7 with (fail)
      go_quiet (fail)
      have HB6 := Lib.hid (HB5.out.trans ((below_drewN (Below.refl w5.heap.size w5) nq).mono HB5.out.size))
      have HX6 := Lib.hid (HX5.out.below (below_drewN (Below.refl w5.heap.size w5) nq))
      generalize w5.drewN nq = w6 at HB6 HX6 ⊢
      clear y0 y1 y2 y3 y4 y5 x0 x1 x2 x3 x4 x5 hc5 heq hgd hi0 hi1
      by_cases hyl : y = l
      · have HE2 := Lib.hid (show request ⟨h, q⟩ l = ((⟨h, q⟩ : St), (15 : Int)) from by rw [HE.out, if_pos (by rw [HY.out, hyl])])
        have hd : decide (y = l) = true := decide_eq_true hyl
        rw [hd]
        clear hyl hd
        go_wp2
        go_ret
        rw [HE2.out]
        exact ⟨vh, _, rfl, HM.out.below HB6.out, Moved.of_below HB6.out HM.out.box.lt⟩
      · have HE2 := Lib.hid (show request ⟨h, q⟩ l = P46.ask (cancel ⟨h, q⟩ l.unit).1 l from by
          rw [HE.out, if_neg]
          rw [HY.out]
          intro e
          injection e with e
          exact hyl e)
        have hd : decide (y = l) = false := decide_eq_false hyl
        rw [hd]
        clear hyl hd
        have x0 := HX6.out.cell 0
        simp [la] at x0
        have HM6 := Lib.hid (HM.out.below HB6.out)
        go_wp2_with fail
        refine (lkCancel l.unit B p h q vh _ _ HM6.out (by have := HL.out; omega) HVS.out).mono ?_
        rintro e w7 ⟨v7, vh7, vq7, rfl, hown7, hm7, hv7, ha7⟩
        have hnf6 : ¬ Foot w6 p g := fun hf => by
          have h1 := HM6.out.foot.1 hf
          have h2 := (HM.out.ge (HM.out.foot.2 h1)).2
          omega
        have HR := Lib.hid (show RMid w B p g ⟨h, q⟩ l w7 from ⟨(cancel ⟨h, q⟩ l.unit).1, vh7, vq7, HE2.out, hm7, (Moved.of_below HB6.out HM.out.box.lt).trans hv7, HX6.out.moved hv7 hnf6, cancel_good HGOOD.out _, cancel_valids HVS.out _, by have := cancel_len ⟨h, q⟩ l.unit; have h2 := HL.out; simp only at this; omega, fun hf => by
          rcases hv7.foot g hf with hf | hf
          · exact hnf6 hf
          · have := HX6.out.lt
            omega⟩)
        clear hown7 hm7 hv7 ha7 hnf6 x0
        go_wp2
        go_meet
        case rel => exact HR.out
  case rest =>
    obtain ⟨⟨h2, q2⟩, vh2, vq2, he, hm, hv, hx, hgo, hva, hle, hnf⟩ := hcut
    have HE := Lib.hid he
    have HM2 := Lib.hid hm
    have HV2 := Lib.hid hv
    have HX2 := Lib.hid hx
    have HGO := Lib.hid hgo
    have HVA := Lib.hid hva
    have HLE := Lib.hid (show h2.length + q2.length < 100000 from hle)
    have HNF2 := Lib.hid hnf
    clear he hm hv hx hgo hva hle hnf
    obtain ⟨A2, c2, hvq2, hs2, -⟩ := HM2.out.queue.cells
    subst hvq2
    have HS2 := Lib.hid hs2
    have hc1 := HM2.out.box.cell 1
    simp at hc1
    clear hs2
    have hgc := HX2.out.lt
    go_upto_region 10 with (fail)
    go_still_tail 6, (by kernel_rfl)
    refine wpStill_load_cells rfl 46 (.tmp 3) rfl ⟨g, 0, none⟩ rfl (la l) _ (by exact HX2.out.add) Tryz.underlying46 rfl hlenL ?_
    repeat still_step
    try refine wpStill_nil ?_
    go_wp2_with fail
    refine (lkBlockers l _ _ _ q2 B p h2 _ vh2 _ _ (HM2.out.below (below_drewN (Below.refl _ _) 1)) (by have := HLE.out; omega) (HS2.out.below (below_drewN (Below.refl _ _) 1)) (by have := HLE.out; omega) HVA.out.1 HVA.out.2).mono ?_
    rintro e w8 ⟨bm, k8, rfl, hs8, hk8, hb8, hlo⟩
    have HB8 := Lib.hid (below_then (below_drewN (Below.refl wc.heap.size wc) 1) hb8)
    have HM8 := Lib.hid (HM2.out.below HB8.out)
    have HX8 := Lib.hid (HX2.out.below HB8.out)
    have HS8 := Lib.hid hs8
    have hp8 := HM8.out.box.lt
    have hB8 : B ≤ w8.heap.size := Nat.le_trans HM8.out.base (Nat.le_of_lt hp8)
    have hg8 := HX8.out.lt
    have hgne : g ≠ p := fun e => HNF2.out (.inl e)
    have hlen8 : h2.length + q2.length ≤ 100000 := by have := HLE.out; omega
    obtain ⟨hn1p, hn2p⟩ := HM8.out.box_ne
    clear hs8 hb8 hlo hk8 hc1
    cases hbl : blks h2 q2 l with
    | nil =>
      have HK := Lib.hid (show P46.ask ⟨h2, q2⟩ l = (⟨h2 ++ [l], q2⟩, 0) from by unfold P46.ask; rw [if_pos hbl])
      have HBL := Lib.hid hbl
      have hc8 := HM8.out.box.cell 0
      have hf8 := HM8.out.box.frozen 0
      simp at hc8
      obtain ⟨a0, a1, a2, a3, a4, a5⟩ := lcells HX8.out
      have hne1 : some p ≠ vh2.ownBlock := fun e => hn1p e.symm
      clear hbl hn1p hn2p
      obtain ⟨i0, hi0', hz0, hz1, hz2⟩ := info_parts infoL
      have HI0 := Lib.hid hi0'
      have HZ0 := Lib.hid hz0
      have HZ1 := Lib.hid hz1
      have HZ2 := Lib.hid hz2
      clear hi0' hz0 hz1 hz2
      go_upto_region 12 with (refine wpList_set_len rfl (.tmp 40) _ rfl Tryz.underlying113 Tryz.underlying3 rfl HS8.out ?_; intro kk hkk hk0; obtain rfl : kk = 0 := hk0.2 (fun a => by rw [HBL.out]; simp [inL]); clear hk0 hkk)
      go_region_law ((refine step_append_lies _ (by rfl) _ _ _ (by rfl) B 46 i0 _ 6 64 Tryz.underlying50 HI0.out HZ0.out HZ1.out HZ2.out rfl (by omega) vh2 h2.length (lcs h2) (by rfl) ((HM8.out.held.alloc _).drew) ⟨w8.heap.size, 0, none⟩ 1 1 (lc l) (by rfl) (by rfl) (World.news_of_block (cs := la l) (t := 46) (fr := (0, 0)) (heap_alloc_new w8 _)) (lc_one l) (by omega) (by unfold maxLen; omega) (by omega) (by simp; omega) (w8.heap.size + 1) (by simp) ?_; intro gg cap w9 hown9 hgrow hat hlt9; have hb9 := ((((HM8.out.box.alloc _).drew).grown hgrow hne1)); have hc9 := hb9.cell 0; have hf9 := hb9.frozen 0; simp at hc9; have HP9 := Lib.hid (HM8.out.push0 hgrow hown9 hat); clear hb9 hown9 hat hgrow hlt9))
      all_goals
        go_wp2
        go_ret
        rw [HE.out, HK.out]
        exact ⟨_, _, rfl, HP9.out.1, (HV2.out.trans (Moved.of_below HB8.out HM2.out.box.lt)).trans HP9.out.2⟩
    | cons v vs =>
      have hne : blks h2 q2 l ≠ [] := by rw [hbl]; simp
      have HV8 := Lib.hid (show inL (blks h2 q2 l) v = true from inL_true (by rw [hbl]; simp))
      have hx8 := HX8.out.cell 0
      simp [la] at hx8
      clear hbl
      go_wp2_with (refine wpList_set_len rfl (.tmp 40) _ rfl Tryz.underlying113 Tryz.underlying3 rfl HS8.out ?_; intro kk hkk hk0; have hpos : ((kk : Int) == 0) = false := beq_not (by have : kk ≠ 0 := (fun e => by have := hk0.1 e v; rw [HV8.out] at this; cases this); omega); clear hk0 hkk)
      refine (lkReaches B p h2 q2 vh2 _ l.unit bm k8 (blks h2 q2 l) _ HM8.out (by omega) (by omega) HVA.out HGO.out.ones HS8.out (fun x hx => blks_units (s := ⟨h2, q2⟩) (fun y hy => hy) hx)).mono ?_
      rintro e w10 ⟨rfl, hb10⟩
      have HB10 := Lib.hid (HB8.out.trans (hb10.mono HB8.out.size))
      have HM10 := Lib.hid (HM8.out.below hb10)
      have HX10 := Lib.hid (HX8.out.below hb10)
      have hz10 := hb10.size
      clear hb10 hx8
      cases hr : reaches ⟨h2, q2⟩ (blks h2 q2 l) l.unit with
      | true =>
        have HK := Lib.hid (show P46.ask ⟨h2, q2⟩ l = (⟨h2, q2⟩, 16) from by unfold P46.ask; rw [if_neg hne, if_pos hr])
        clear hr hne
        go_wp2
        go_ret
        rw [HE.out, HK.out]
        exact ⟨_, _, rfl, HM10.out, HV2.out.trans (Moved.of_below HB10.out HM2.out.box.lt)⟩
      | false =>
        have HK := Lib.hid (show P46.ask ⟨h2, q2⟩ l = (⟨h2, q2 ++ [l]⟩, 15) from by unfold P46.ask; rw [if_neg hne, if_neg (by rw [hr]; simp)])
        clear hr hne
        have hc10 := HM10.out.box.cell 1
        have hf10 := HM10.out.box.frozen 1
        simp at hc10
        obtain ⟨a0, a1, a2, a3, a4, a5⟩ := lcells HX10.out
        have hp10 := HM10.out.box.lt
        have hB10 : B ≤ w10.heap.size := Nat.le_trans hB8 hz10
        have hg10 := HX10.out.lt
        have hne2 : some p ≠ (Value.slice A2 q2.length c2).ownBlock := fun e => hn2p e.symm
        clear hn1p hn2p
        obtain ⟨i0, hi0', hz0, hz1, hz2⟩ := info_parts infoL
        have HI0 := Lib.hid hi0'
        have HZ0 := Lib.hid hz0
        have HZ1 := Lib.hid hz1
        have HZ2 := Lib.hid hz2
        clear hi0' hz0 hz1 hz2
        go_upto_region 16 with (fail)
        go_region_law ((refine step_append_lies _ (by rfl) _ _ _ (by rfl) B 46 i0 _ 6 64 Tryz.underlying50 HI0.out HZ0.out HZ1.out HZ2.out rfl (by omega) (.slice A2 q2.length c2) q2.length (lcs q2) (by rfl) ((HM10.out.queue.alloc _).drew) ⟨w10.heap.size, 0, none⟩ 1 1 (lc l) (by rfl) (by rfl) (World.news_of_block (cs := la l) (t := 46) (fr := (0, 0)) (heap_alloc_new w10 _)) (lc_one l) (by omega) (by unfold maxLen; omega) (by omega) (by simp; omega) (w10.heap.size + 1) (by simp) ?_; intro gg cap w9 hown9 hgrow hat hlt9; have hb9 := ((((HM10.out.box.alloc _).drew).grown hgrow hne2)); have hc9 := hb9.cell 1; have hf9 := hb9.frozen 1; simp at hc9; have HP9 := Lib.hid (HM10.out.push1 hgrow hown9 hat); clear hb9 hown9 hat hgrow hlt9))
        all_goals
          go_wp2
          go_ret
          rw [HE.out, HK.out]
          exact ⟨_, _, rfl, HP9.out.1, (HV2.out.trans (Moved.of_below HB10.out HM2.out.box.lt)).trans HP9.out.2⟩
/-- Request, whatever is asked for. -/
theorem lkRequest (l : Lock) (B p : Nat) (h q : List Lock) (vh vq : Value) (w : World) (m : Mgr w B p h q vh vq) (hl : h.length + q.length < 100000) (hgood : P46.Good ⟨h, q⟩) (hvs : Valids ⟨h, q⟩) :
    Calls Tryz.prog 42 #[.pointer (some ⟨p, 0, none⟩), lv l] w (RPost w B p (request ⟨h, q⟩ l).1 (request ⟨h, q⟩ l).2) := by
  cases hv : validL l with
  | false =>
    have e : request ⟨h, q⟩ l = (⟨h, q⟩, 1) := by unfold request; rw [if_pos hv]
    rw [e]
    exact lkRequest_bad l B p h q vh vq w m hv
  | true =>
    cases hc : covered h l with
    | true =>
      have e : request ⟨h, q⟩ l = (⟨h, q⟩, 0) := request_covered hv hc
      rw [e]
      exact lkRequest_covered l B p h q vh vq w m (by omega) hv hc
    | false => exact lkRequest_main l B p h q vh vq w m hl hgood hvs hv hc
end Go.Proofs.YtjklhiifjnmedaaGreatDoor
