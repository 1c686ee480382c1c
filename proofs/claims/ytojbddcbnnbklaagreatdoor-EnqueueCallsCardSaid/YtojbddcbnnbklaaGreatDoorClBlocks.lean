/- Blocks: the owners for which an owner waits. -/
import Derived.Test.YtojbddcbnnbklaaGreatDoorClHold
import Derived.Maps.AppendAt
import Derived.OwnWalkIn
namespace Go.Proofs.YtojbddcbnnbklaaGreatDoor
open Go.RowKit P43 Go.Maps Go.Sort Go.Shelf
attribute [local go_sem] Oper.semAt_some ByteArray.mk_append_mk ByteArray.extract_mk mk_index

theorem cut_none {hs ws : List Cm} {o : Int} (h : ∀ x ∈ ws, decide (x.1.id = o) = false) : blocksP (fstT hs ws) o = [] := by
  unfold blocksP
  rw [cutAt_none]
  intro hm
  obtain ⟨c, hc, e⟩ := List.mem_map.1 hm
  obtain ⟨x, hx, rfl⟩ := List.mem_map.1 hc
  have := h x hx
  rw [decide_eq_false_iff_not] at this
  exact this e
theorem ids_idsM (l : List Cm) : ids (l.map (·.1)) = idsM l := by
  unfold ids idsM
  rw [List.map_map]
  rfl
theorem cut_some {hs ws : List Cm} {o : Int} {k : Nat} {x : Cm} (hx : ws[k]? = some x) (hid : x.1.id = o) (hj : ∀ j, j < k → ∀ l, ws[j]? = some l → decide (l.1.id = o) = false) : blocksP (fstT hs ws) o = sortZ (idsM (blkC hs x ++ blkC (ws.take k) x)) := by
  have hsp := split_at hx
  have hn : x.1.id ∉ ids ((ws.take k).map (·.1)) := by
    intro hm
    rw [ids_idsM] at hm
    obtain ⟨y, hy, e⟩ := List.mem_map.1 hm
    obtain ⟨j, hj1⟩ := List.mem_iff_getElem?.1 hy
    have hjk : j < k := by
      have := (List.getElem?_eq_some_iff.1 hj1).1
      rw [List.length_take] at this
      omega
    rw [List.getElem?_take_of_lt hjk] at hj1
    have := hj j hjk y hj1
    rw [decide_eq_false_iff_not] at this
    exact this (e.trans hid)
  have hc : cutAt (fstT hs ws).ws o = some ((ws.take k).map (·.1), x.1) := by
    show cutAt (ws.map (·.1)) o = _
    have e : ws.map (·.1) = (ws.take k).map (·.1) ++ x.1 :: (ws.drop (k + 1)).map (·.1) := by
      have := congrArg (List.map fun y : Cm => y.1) hsp
      rwa [List.map_append, List.map_cons] at this
    rw [e, ← hid]
    exact cutAt_at hn
  unfold blocksP
  rw [hc]
  show sortZ (ids (blk (hs.map (·.1)) x.1 ++ blk ((ws.take k).map (·.1)) x.1)) = _
  rw [← blkC_fst, ← blkC_fst, ← List.map_append, ids_idsM]
theorem ClsAt.front {w : World} {A : Option Addr} {n k : Nat} {ls : List Cm} (h : ClsAt w A n ls) (hk : k ≤ n) : ClsAt w A k (ls.take k) := by
  have hl := h.len
  refine ⟨by rw [ccs_length, List.length_take]; omega, fun j u hj => h.2 j u ?_⟩
  have e : ccs ls = ccs (ls.take k) ++ ccs (ls.drop k) := by rw [← ccs_append, List.take_append_drop]
  rw [e, List.getElem?_append_left (List.getElem?_eq_some_iff.1 hj).1]
  exact hj
theorem ClsT.front {B : Nat} {w : World} {A : Option Addr} {n k : Nat} {ls : List Cm} (h : ClsT B w A n ls) (hk : k ≤ n) : ClsT B w A k (ls.take k) :=
  ⟨h.at_.front hk, h.row, fun m hm => h.ns m (List.mem_of_mem_take hm), fun m hm => h.lt m (List.mem_of_mem_take hm)⟩
theorem keepT_grown {B : Nat} {W W' : World} {row : Option Nat} (hg : W.grownBy W' row) (hr : ∀ r, row = some r → ∃ t cs, Blk W r t cs ∧ (t == tC || t == tSl) = false) : KeepT B W W' := by
  refine ⟨hg.size, fun k o he hk => ?_⟩
  by_cases e : some k = row
  · obtain ⟨t, cs, hb, ht⟩ := hr k e.symm
    have : o = .cells cs t (0, 0) := by
      have := he.symm.trans hb
      simpa using this
    rw [this] at hk
    simp [keepT] at hk
    simp at ht
    rcases hk with h | h
    · exact absurd h ht.1
    · exact absurd h ht.2
  · exact (hg.block k (Array.getElem?_eq_some_iff.1 he).1 e).trans he
theorem ownI_blk {W : World} {n₀ k : Nat} {v : Value} {xs : List Value} (h : W.ownsRow n₀ 3 1 v k xs) : ∀ r, v.ownBlock = some r → ∃ cs, Blk W r 3 cs := by
  intro r hr
  rcases h.2 with ⟨rfl, _⟩ | ⟨g, cap, cur, rfl, _, hg, _⟩
  · simp [Value.ownBlock] at hr
  · simp [Value.ownBlock] at hr
    subst hr
    exact ⟨_, hg⟩
set_option maxRecDepth 100000 in
set_option maxHeartbeats 4000000 in
theorem clBlocks (B p : Nat) (t : T) (F : Nat → Prop) (o : Int) (w : World) (m : TT w B p t F) (hl : t.hs.length + t.ws.length ≤ 100000) :
    Calls Tryz.prog 19 #[.pointer (some ⟨p, 0, none⟩), .int .i64 o] w fun e w' => ∃ v, e = .returned v ∧ OwnI w' w.heap.size v (blocksP t o) ∧ Below w.heap.size w w' := by
  obtain ⟨hs, ws, vh, vw, mT, rfl, hF⟩ := m
  have HMT := Lib.hid mT
  have hl1 : hs.length + ws.length ≤ 100000 := by simpa [fstT] using hl
  clear hF mT hl
  obtain ⟨Aw, cw, rfl, hw⟩ := HMT.out.clsW
  have HW := Lib.hid hw
  have hc1 := HMT.out.box.cell 1
  simp at hc1
  clear hw
  refine (callsIn_wide (n := 3)).1 ?_
  refine callsIn_of_wp_marks Tryz.func19 rfl trivial ?_ rfl
  simp only [Tryz.ntmps19, List.size_toArray, List.length_cons, List.length_nil, Nat.reduceAdd, Nat.reduceSub, Array.replicate_succ, Array.replicate_zero, List.push_toArray, List.append_toArray, List.nil_append, List.cons_append]
  refine wpIn_wide.2 ?_
  go_wp2_with fail
  refine (clFind o Aw ws.length cw ws w HW.out.at_ (by omega)).mono ?_
  rintro e w2 ⟨rfl, hb2⟩
  have HB2 := Lib.hid hb2
  have HM2 := Lib.hid (HMT.out.below hb2)
  rcases fIdx_cases (fun l : Cm => decide (l.1.id = o)) ws with ⟨hj, hno⟩ | ⟨k, x, hj, hx, hid, hjk⟩
  · rw [hj]
    have HE := Lib.hid (cut_none (hs := hs) hno)
    clear hj hno hb2 hc1
    go_wp2
    exact ⟨_, results_tmp rfl _ _ _, _, rfl, by rw [HE.out]; exact OwnI.nil _ _, HB2.out⟩
  · rw [hj]
    obtain ⟨Ah, ch, rfl, hh⟩ := HMT.out.clsH
    have hkl : k < ws.length := (List.getElem?_eq_some_iff.1 hx).1
    have HWB := Lib.hid (HW.out.keep (KeepT.of_below hb2))
    obtain ⟨b, off, x', rfl, hx', x0, x1⟩ := HWB.out.at_.at_ hkl
    obtain rfl : x = x' := by rw [hx] at hx'; exact Option.some.inj hx'
    have HE := Lib.hid (cut_some (hs := hs) hx (by simpa using hid) hjk)
    have HX := Lib.hid hx
    have HHB := Lib.hid (hh.keep (KeepT.of_below hb2))
    have hd0 := HM2.out.box.cell 0
    have hd1 := HM2.out.box.cell 1
    simp at hd0 hd1
    have hk1 : (k : Int) < (ws.length : Int) := by omega
    have hk2 : (0 : Int) ≤ (k : Int) := by omega
    clear hj hx hx' hid hjk hb2 hc1 hh
    have hcw : ws.length ≤ cw := HM2.out.wait.cap
    have hk3 : (k : Int) ≤ (cw : Int) := by omega
    have hlenC : (Tryz.prog.info? tC).map (·.size) = some 2 := by kernel_rfl
    go_upto_region 5 with (fail)
    obtain ⟨w3, g, e1, e2, hb3, hg⟩ := boxes1 w2 33 #[.slice none 0 0]
    rw [e1, e2]
    have HR := Lib.hid (show ∀ j u, (ca x)[j]? = some u → w3.cell? ((⟨b, off + k * 2, none⟩ : Addr).add j) = some u from by
      have h2 := HWB.out.keep (KeepT.of_below hb3)
      simpa [ca] using h2.at_.row HX.out)
    have HG := Lib.hid hg
    have HW3 := Lib.hid (HWB.out.keep (KeepT.of_below hb3))
    have HH3 := Lib.hid (HHB.out.keep (KeepT.of_below hb3))
    have HB3 := Lib.hid (HB2.out.trans (hb3.mono HB2.out.size))
    have HM3 := Lib.hid (HM2.out.below hb3)
    have HGE := Lib.hid (show w.heap.size ≤ g from by have := HB2.out.size; omega)
    have c0 := HM3.out.box.cell 0
    have c1 := HM3.out.box.cell 1
    simp at c0 c1
    clear e1 e2 hb3 hg hd0 hd1 x0 x1
    go_still_tail 17, (by kernel_rfl)
    repeat (first | (refine wpStill_load_cells rfl tC (.tmp 21) rfl ⟨b, off + k * 2, none⟩ rfl (ca x) _ (by exact HR.out) Tryz.underlying76 rfl hlenC ?_) | still_step)
    try refine wpStill_nil ?_
    go_wp2_with fail
    have hdb : Below w3.heap.size w3 w3.drew := (Below.refl _ w3).drew
    have hkd : KeepT w3.heap.size w3 w3.drew := KeepT.of_below hdb
    have hcall := clBlocked x hs (ws.take k) hs.length ch k cw Ah (some ⟨b, off, none⟩) w3.drew (hkd.ns (HM3.out.maps.ns x (List.mem_append_right _ (List.mem_of_getElem? HX.out))) (HM3.out.mapLt (List.mem_append_right _ (List.mem_of_getElem? HX.out)))) (HM3.out.mapLt (List.mem_append_right _ (List.mem_of_getElem? HX.out))) ((HH3.out.keep (KeepT.of_below hdb)).up (show w.heap.size ≤ w3.heap.size from HB3.out.size)) (((HW3.out.front (Nat.le_of_lt hkl)).keep (KeepT.of_below hdb)).up (show w.heap.size ≤ w3.heap.size from HB3.out.size)) (by omega) (by omega)
    unfold cv at hcall
    refine hcall.mono ?_
    rintro e w4 ⟨hb4, lb, rfl, hs4⟩
    obtain ⟨L, hL⟩ : ∃ L, blkC hs x ++ blkC (ws.take k) x = L := ⟨_, rfl⟩
    rw [hL] at HE hs4
    have hb34 := below_then hdb hb4
    have HS := Lib.hid hs4
    have HG4 := Lib.hid (HG.out.below hb34)
    have HB4 := Lib.hid (HB3.out.trans (hb34.mono HB3.out.size))
    have HLL := Lib.hid (show L.length ≤ 200000 from by
      rw [← hL]
      have h1 : (blkC hs x).length ≤ hs.length := List.length_filter_le _ _
      have h2 : (blkC (ws.take k) x).length ≤ (ws.take k).length := List.length_filter_le _ _
      have h3 := List.length_take_le' k ws
      simp only [List.length_append]
      omega)
    have hgl := HG4.out.lt
    have hB4s := HB4.out.size
    clear hcall hb4 hs4 hdb hkd hb34 hL c0 c1 hk1 hk3 HR HG HW3 HH3 HM3 HB3 HHB HX HWB HM2 HMT HW hlenC
    go_wp2
    refine (wpIn_wide (n := 3)).1 ?_
    obtain ⟨i1, hi1', hy0, hy1, hy2⟩ := info_parts infoI
    have HI1 := Lib.hid hi1'
    have HY0 := Lib.hid hy0
    have HY1 := Lib.hid hy1
    have HY2 := Lib.hid hy2
    clear hi1' hy0 hy1 hy2
    have hge := HGE.out
    refine wpIn_rangeFunc_ownH rfl (by omega) (gf := 52) (lb := lb) rfl trivial (enters_of Tryz.func52 (by kernel_rfl) rfl)
      (HS.out (3 - 1) (by omega)) (fun h k => h.trans k) (fun W l o o' hl h hc _ => keepT_put hl h hc) (Below.refl _ _) (fun _ => rfl)
      (fun pre W => (∃ v, Boxed W g 33 v ∧ W.ownsRow w.heap.size 3 1 v pre.length ((idsM pre).map (Value.int .i64)) ∧ True) ∧ Below w.heap.size w W)
      (fun _ _ _ => False)
      (OwnFrom.and (Own.from (holdsRow_own w.heap.size g 33 3 1 (fun pre => pre.length) (fun pre : List Cm => (idsM pre).map (Value.int .i64)) (fun _ _ => True)) _) (ownFrom_below (Nat.le_refl _) hB4s))
      (fun _ _ _ _ _ hs _ _ => hs)
      ⟨⟨_, HG4.out, World.ownsRow_nil _ _ _ _, trivial⟩, HB4.out⟩
      (fun y a' W => ∃ q, Blk W q tC (ca y) ∧ a' = { tmps := #[.pointer (some ⟨p, 0, none⟩), .int .i64 o, undef, undef, .slice none 0 0, .int .i64 k, .pointer (some ⟨g, 0, none⟩), .pointer (some ⟨q, 0, none⟩), .pointer (some ⟨p, 0, none⟩), .pointer (some ⟨p, 0, none⟩), .pointer (some ⟨p, 1, none⟩), .slice (some ⟨b, off, none⟩) ws.length cw, .int .i64 o, .int .i64 k, .int .i64 k, .bool (decide ((k : Int) < 0)), .pointer (some ⟨p, 0, none⟩), .pointer (some ⟨p, 0, none⟩), .pointer (some ⟨p, 1, none⟩), .slice (some ⟨b, off, none⟩) ws.length cw, .int .i64 k, .pointer (some ⟨b, off + k * 2, none⟩), .agg (ca x), .pointer (some ⟨p, 0, none⟩), .pointer (some ⟨p, 0, none⟩), .pointer (some ⟨p, 0, none⟩), .slice Ah hs.length ch, .pointer (some ⟨p, 0, none⟩), .pointer (some ⟨p, 0, none⟩), .pointer (some ⟨p, 1, none⟩), .slice (some ⟨b, off, none⟩) ws.length cw, .int .i64 k, .slice (some ⟨b, off, none⟩) k cw, .func (.func 52) #[] lb, cv y, undef, undef, undef, undef, undef, undef, undef, undef], defers := [] })
      (fun y a' => Own.from (fun _ X Y row ⟨q, hq, e⟩ hg hr => ⟨q, hq.grown hg (fun e2 => by obtain ⟨o, ho, hc⟩ := hr q e2.symm; rw [show X.heap[q]? = _ from hq] at ho; cases ho; cases hc), e⟩) _) ?assign ?body ?done ?stop
    case assign =>
      rintro l pre y W K ⟨⟨v, hv, hrow, -⟩, hB⟩ hK
      unfold cv
      gi_wp2
      refine hK _ _ ((KeepsOthers.alloc W (.cells (ca y) tC)).from _) (KeepT.of_below (below_alloc (Below.refl _ W) (.cells (ca y) tC))) ⟨⟨v, hv.alloc _, hrow.alloc _, trivial⟩, hB.alloc hB.size _⟩ ⟨W.heap.size, Blk.new W tC (ca y), rfl⟩
    case body =>
      rintro l pre y a' W hl ⟨r, hr⟩ ⟨⟨v, hv, hrow, -⟩, hB⟩ ⟨q, hq, rfl⟩ hlt
      have q0 := hq.cell 0
      simp [ca] at q0
      have v0 := hv.cell
      have HV := Lib.hid hv
      have HROW := Lib.hid hrow
      have HBW := Lib.hid hB
      have hlen : pre.length ≤ 200000 := by have := HLL.out; omega
      have hBs := hB.size
      have h63 : pre.length + 1 ≤ maxLen := by unfold maxLen; omega
      have hby : (pre.length + 1) * 8 ≤ 140737488355328 := by omega
      have hbs : w.heap.size ≤ (W.alloc (.cells #[.int .i64 y.1.id] 3)).heap.size := by simp; omega
      clear hv hrow hB hr hq
      gi_wp2_with (gi_at_builtin; refine wpListIn_append_own _ rfl _ _ 33 rfl w.heap.size 3 i1 (.int .i64 0) 1 8 Tryz.underlying33 HI1.out HY0.out HY1.out HY2.out rfl (by decide) _ _ _ rfl (HROW.out.alloc _) ⟨W.heap.size, 0, none⟩ 1 1 [.int .i64 y.1.id] rfl rfl (cell_one_new _ _ _) (by simp [Value.oneCell']) h63 hby hbs ?_; intro v' w1 hown' hgrow _; obtain ⟨g', cap', rfl⟩ := ownsRow_succ hown'; have happ := HV.out.appended (by decide) HROW.out hBs hge hown' hgrow; have HAPP := Lib.hid happ; have HGR := Lib.hid hgrow; have hc1 := happ.1.cell; have hf1 := happ.1.frozen; clear happ hown' hgrow)
      obtain ⟨_, p2, p3, p4, p5⟩ := HAPP.out
      refine ⟨p4.from _, ?_, ⟨_, p2, ?_, trivial⟩, HBW.out.trans p5⟩
      · have hg1 : (W.alloc (.cells #[.int .i64 y.1.id] 3)).grownBy w1 v.ownBlock := HGR.out
        refine ((KeepT.of_below (below_alloc (Below.refl _ W) _)).trans (keepT_grown hg1 fun r e => ?_)).trans (keepT_grown (grownBy_setCell' w1 g _) fun r e => ?_)
        · obtain ⟨cs, hb⟩ := ownI_blk HROW.out r e
          exact ⟨_, cs, hb.alloc _, rfl⟩
        · cases e
          exact ⟨_, _, HAPP.out.1, rfl⟩
      · have e1 : (pre ++ [y]).length = pre.length + 1 := by simp
        have e2 : (idsM (pre ++ [y])).map (Value.int .i64) = (idsM pre).map (Value.int .i64) ++ [.int .i64 y.1.id] := by simp [idsM]
        rw [e1, e2]
        exact p3
    case done =>
      rintro D ys W hD rfl ⟨⟨v, hv, hrow, -⟩, hB⟩ hK
      have HV := Lib.hid hv
      have HROW := Lib.hid (show OwnI W w.heap.size v (idsM ys) from by unfold OwnI; rw [show (idsM ys).length = ys.length from by simp [idsM]]; exact hrow)
      have HBW := Lib.hid hB
      have v0 := hv.cell
      have HK := Lib.hid hK
      have hnr := hv.not_row (e := 3) (by decide) hrow
      clear hv hrow hB hK
      go_wp2_with fail
      refine (clSortI w.heap.size v (idsM ys) W HROW.out (by simp [idsM]; have := HLL.out; omega)).mono ?_
      rintro e w6 ⟨rfl, ho6, hg6⟩
      have HO6 := Lib.hid ho6
      have HG6 := Lib.hid hg6
      have hv6 := HV.out.kept hg6 hnr
      have v6 := hv6.cell
      have hK6 : w6.heap[D]? = some (.deferred (some [])) := (hg6.block D (Array.getElem?_eq_some_iff.1 HK.out).1 (fun e => by
        obtain ⟨cs, hb⟩ := ownI_blk HROW.out D e.symm
        have := hb.symm.trans HK.out
        simp at this)).trans HK.out
      have HK6 := Lib.hid hK6
      clear ho6 hg6 hv6 hK6 v0 hnr
      go_wp2
      refine ⟨by simp, .inl ⟨_, _, rfl, run_takeDeferred HK6.out, ?_⟩⟩
      refine ⟨_, results_tmp rfl _ _ _, v, rfl, ?_, ?_⟩
      · rw [HE.out]
        exact ownsRow_putObj HO6.out _ HK6.out rfl
      · exact (HBW.out.grown HG6.out HBW.out.size (fun r e => (HROW.out.lt r e).1)).trans (belowK_b (w := w) (Nat.le_refl _) w6 D _ _ (by omega) HK6.out rfl rfl)
    case stop =>
      rintro D c pre W hD hpre h _
      exact h.elim
end Go.Proofs.YtojbddcbnnbklaaGreatDoor
