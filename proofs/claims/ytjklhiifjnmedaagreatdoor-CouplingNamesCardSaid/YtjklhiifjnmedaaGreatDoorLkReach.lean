/- reaches: whether one of some units is a unit, or waits for it, directly or indirectly. -/
import Derived.Test.YtjklhiifjnmedaaGreatDoorLkVisit
import Derived.Laws.EntriesVeiled
namespace Go.Proofs.YtjklhiifjnmedaaGreatDoor
open Go.RowKit P16 P46
attribute [local go_sem] ByteArray.mk_append_mk ByteArray.extract_mk mk_index

/-- The loop over the units. -/
structure RLoop (w wr : World) (bs bm r km : Nat) (us : List Int) (s : St) (unit : Int) (C : List Int) (sr : List Int) (left : Int → Bool) (cnt : Nat) : Prop where
  rng : SetR wr Tryz.prog 3 4 bm r km (inL C) left cnt
  set : SetM wr Tryz.prog 3 4 bs sr.length (inL sr)
  nodup : sr.Nodup
  us : ∀ x ∈ sr, x ∈ us
  grown : w.grownBy wr (some bs)
  done : ∀ y ∈ C, left y = false → y ∈ sr
  closed : ∀ x ∈ sr, x ≠ unit ∧ ∀ y ∈ blockers s x, y ∈ sr
section
variable {w wr w5 w6 : World} {bs bm r km : Nat} {us : List Int} {s : St} {unit : Int} {C : List Int} {sr sr' : List Int} {left : Int → Bool} {cnt cnt' : Nat} {x : Int}
theorem RLoop.no (v : RLoop w wr bs bm r km us s unit C sr left cnt) (ho : Ones s.q) (hl : ∀ x, left x = false) : reaches s C unit = false := by
  cases h : reaches s C unit
  · rfl
  · obtain ⟨b, hb, hr⟩ := reaches_iff.1 h
    exact absurd rfl (closed_no v.closed ((path_reach ho).2 hr) (v.done b hb (hl b)))
theorem RLoop.yes (v : RLoop w wr bs bm r km us s unit C sr left cnt) (ho : Ones s.q) (hx : left x = true) (o : VOut w5 w6 bs us s unit sr x true sr') : reaches s C unit = true := by
  refine reaches_iff.2 ⟨x, ?_, (path_reach ho).1 (o.path rfl)⟩
  have := v.rng.sub hx
  unfold inL at this
  simpa using this
theorem RLoop.more (v : RLoop w wr bs bm r km us s unit C sr left cnt) (hr : SetR w5 Tryz.prog 3 4 bm r km (inL C) (fun y => left y && decide (y ≠ x)) cnt') (hg : w.grownBy w5 (some bs)) (o : VOut w5 w6 bs us s unit sr x false sr') (h1 : bm ≠ bs) (h2 : r ≠ bs) :
    RLoop w w6 bs bm r km us s unit C sr' (fun y => left y && decide (y ≠ x)) cnt' := by
  obtain ⟨hx, hcl⟩ := o.found.no rfl
  refine ⟨hr.kept o.grown (by simp; omega) (by simp; omega), o.set, o.nodup, o.us, grown_trans hg o.grown, fun y hy hl => ?_, fun y hy => ?_⟩
  · by_cases hyx : y = x
    · rw [hyx]; exact hx
    · refine o.found.sub y (v.done y hy ?_)
      simpa [hyx] using hl
  · rcases hcl y hy with h | h
    · obtain ⟨h3, h4⟩ := v.closed y h
      exact ⟨h3, fun z hz => o.found.sub z (h4 z hz)⟩
    · exact h
end
theorem madeVE (w : World) {B p : Nat} {h q : List Lock} {vh vq : Value} (m : Mgr w B p h q vh vq) (unit : Int) : ∃ (W : World) (gm gu bs gs gv : Nat),
    (((((w.alloc (Obj.cells #[.pointer (some ⟨p, 0, none⟩)] 52)).alloc (Obj.cells #[.int .i64 unit] 3)).alloc (Obj.map #[] 0)).alloc (Obj.cells #[.map (some (w.heap.size + 1 + 1))] 113)).alloc (Obj.cells #[.func (.func 97) #[] #[.pointer (some ⟨w.heap.size + 1, 0, none⟩), .pointer (some ⟨w.heap.size + 1 + 1 + 1, 0, none⟩), .pointer (some ⟨w.heap.size, 0, none⟩), .pointer (some ⟨w.heap.size + 1 + 1 + 1 + 1, 0, none⟩)]] 58)) = W ∧
    w.heap.size + 1 + 1 + 1 + 1 = gv ∧ w.heap.size + 1 + 1 + 1 = gs ∧ w.heap.size + 1 + 1 = bs ∧ w.heap.size + 1 = gu ∧ w.heap.size = gm ∧ VE W B p h q vh vq gu gs gm gv bs unit ∧ SetM W Tryz.prog 3 4 bs 0 (inL []) ∧ Below w.heap.size w W ∧ bs < W.heap.size := by
  have hp := m.box.lt
  have h1 := fun k hk => (m.held.lt k hk).2
  have h2 := fun k hk => (m.queue.lt k hk).2
  have z0 := Blk.new w 52 #[.pointer (some ⟨p, 0, none⟩)]
  have z1 := Blk.new (w.alloc (Obj.cells #[.pointer (some ⟨p, 0, none⟩)] 52)) 3 #[.int .i64 unit]
  have z2 := SetM.made ((w.alloc (Obj.cells #[.pointer (some ⟨p, 0, none⟩)] 52)).alloc (Obj.cells #[.int .i64 unit] 3)) Tryz.prog 3 4
  have z3 := Blk.new (((w.alloc (Obj.cells #[.pointer (some ⟨p, 0, none⟩)] 52)).alloc (Obj.cells #[.int .i64 unit] 3)).alloc (Obj.map #[] 0)) 113 #[.map (some (w.heap.size + 1 + 1))]
  have z4 := Blk.new ((((w.alloc (Obj.cells #[.pointer (some ⟨p, 0, none⟩)] 52)).alloc (Obj.cells #[.int .i64 unit] 3)).alloc (Obj.map #[] 0)).alloc (Obj.cells #[.map (some (w.heap.size + 1 + 1))] 113)) 58 #[vf (w.heap.size + 1) (w.heap.size + 1 + 1 + 1) w.heap.size (w.heap.size + 1 + 1 + 1 + 1)]
  simp only [World.size_alloc] at z1 z2 z3 z4
  have hb : Below w.heap.size w _ := below_alloc (below_alloc (below_alloc (below_alloc (below_alloc (Below.refl _ w) (Obj.cells #[.pointer (some ⟨p, 0, none⟩)] 52)) (Obj.cells #[.int .i64 unit] 3)) (Obj.map #[] 0)) (Obj.cells #[.map (some (w.heap.size + 1 + 1))] 113)) (Obj.cells #[vf (w.heap.size + 1) (w.heap.size + 1 + 1 + 1) w.heap.size (w.heap.size + 1 + 1 + 1 + 1)] 58)
  refine ⟨_, _, _, _, _, _, rfl, rfl, rfl, rfl, rfl, rfl, ⟨m.below hb, ((z1.alloc _).alloc _).alloc _, z3.alloc _, (((z0.alloc _).alloc _).alloc _).alloc _, z4, by omega, ?_, ?_, by omega, by omega, by omega, by omega⟩, ?_, hb, by simp⟩
  · intro e
    have := h1 _ e
    omega
  · intro e
    have := h2 _ e
    omega
  · rw [inL_nil]
    exact (z2.alloc _).alloc _
set_option maxRecDepth 100000 in
set_option maxHeartbeats 2000000 in
theorem lkReaches (B p : Nat) (h q : List Lock) (vh vq : Value) (unit : Int) (bm km : Nat) (C : List Int) (w : World) (m : Mgr w B p h q vh vq) (hh : h.length ≤ 1000000) (hq : q.length ≤ 1000000) (hv : Valids ⟨h, q⟩) (ho : Ones q) (hs : SetM w Tryz.prog 3 4 bm km (inL C)) (hC : ∀ x ∈ C, x ∈ unitsOf ⟨h, q⟩) :
    Calls Tryz.prog 78 #[.pointer (some ⟨p, 0, none⟩), .map (some bm), .int .i64 unit] w fun e w' => e = .returned (.bool (reaches ⟨h, q⟩ C unit)) ∧ Below w.heap.size w w' := by
  have HM := Lib.hid m
  have HHH := Lib.hid hh
  have HQQ := Lib.hid hq
  have HVV := Lib.hid hv
  have HO := Lib.hid ho
  have HS := Lib.hid hs
  have HC := Lib.hid hC
  clear m hh hq hv ho hs hC
  have hmm := @run_makeMap Tryz.prog
  have hmf : ∀ (fn : Fn) (first cap : Array Value) (w : World), (Instr.makeFunc fn first cap).run Tryz.prog w = .ok (.func fn first cap) w := fun _ _ _ _ => rfl
  go_enter Tryz.func78, Tryz.ntmps78
  go_upto_region 4 with (fail)
  obtain ⟨W, gm, gu, bs, gs, gv, e1, e2, e3, e4, e5, e6, hve, hse, hb, hlt⟩ := madeVE w HM.out unit
  rw [e1, e2, e3, e4, e5, e6]
  have hbw : w.heap.size ≤ bs := by omega
  have hbm := HS.out.lt
  have HVE := Lib.hid hve
  have HSE := Lib.hid hse
  have HB := Lib.hid hb
  have HSW := Lib.hid (HS.out.below hb)
  clear e1 e2 e3 e4 e5 e6 hve hse hb
  go_wp2_with (at_range; refine wpList_set_range rfl (.tmp 12) _ rfl Tryz.underlying113 Tryz.underlying3 rfl HSW.out ?_; intro w4 cnt hr4 hg4 hz4)
  go_frame
  have HL0 := Lib.hid (show RLoop W w4 bs bm W.heap.size km (unitsOf ⟨h, q⟩) ⟨h, q⟩ unit C [] (inL C) cnt from by
    refine ⟨hr4, HSE.out.kept hg4 (by simp), by simp, by simp, ⟨hg4.os, hg4.tape, hg4.output, hg4.size, fun k hk hne => hg4.block k hk (by simp)⟩, ?_, by simp⟩
    intro y hy hl
    unfold inL at hl
    simp at hl
    exact absurd hy hl)
  clear hr4 hg4 hz4
  obtain ⟨r, hr⟩ : ∃ r, W.heap.size = r := ⟨_, rfl⟩
  rw [hr] at HL0 hlt ⊢
  have HR := Lib.hid hr
  clear hr
  go_loopw [9] (fun _ wr => ∃ sr left cnt, RLoop W wr bs bm r km (unitsOf ⟨h, q⟩) ⟨h, q⟩ unit C sr left cnt) (fun _ wr => wr.rangeLeft bm r)
  case atStart => exact ⟨_, _, _, HL0.out⟩
  case round =>
    obtain ⟨sr, left, cnt, hv⟩ := hrel
    have HV := Lib.hid hv
    have HVB := Lib.hid (show Below w.heap.size w wr from HB.out.trans ⟨hv.grown.os, hv.grown.tape, hv.grown.output, hv.grown.size, fun k hk => hv.grown.block k (Nat.lt_of_lt_of_le hk HB.out.size) (by simp; omega)⟩)
    clear hv
    go_wp2_with (at_next; refine wpList_set_next rfl (.tmp 13) rfl Tryz.underlying3 Tryz.underlying4 rfl HV.out.rng ?_ ?_; intro hdone; have HD := Lib.hid hdone; clear hdone; rotate_left 1; intro x w5 cnt5 hwx hlx hr5 hc5 hg5 hz5 hen; have HG5 := Lib.hid (grown_new HV.out.grown hg5 (by rw [HR.out]; exact Nat.le_refl _)); have c4 := (HVE.out.grown HG5.out).cv.cell 0; simp [vf] at c4; have HR5 := Lib.hid hr5; have HX := Lib.hid hlx; have HC5 := Lib.hid hc5; have HS5 := Lib.hid (HV.out.set.kept hg5 (by simp; omega)); clear hr5 hlx hc5 hg5 hz5; rotate_left 1)
    · go_ret
      exact ⟨retBool (HV.out.no HO.out HD.out).symm, HVB.out⟩
    · have hmem : x ∈ C := by
        have := HV.out.rng.sub HX.out
        unfold inL at this
        simpa using this
      refine (lkVisit B p h q vh vq gu gs gm gv bs unit HHH.out HQQ.out HVV.out (unitsOf ⟨h, q⟩).length x sr w5 (HVE.out.grown HG5.out) HS5.out HV.out.nodup HV.out.us (HC.out x hmem) (by omega)).mono ?_
      rintro e w6 ⟨yes, sr', rfl, ho⟩
      have HOUT := Lib.hid ho
      have HG6 := Lib.hid (grown_trans HG5.out ho.grown)
      have HB6 := Lib.hid (show Below w.heap.size w w6 from HB.out.trans ⟨HG6.out.os, HG6.out.tape, HG6.out.output, HG6.out.size, fun k hk => HG6.out.block k (Nat.lt_of_lt_of_le hk HB.out.size) (by simp; omega)⟩)
      clear ho hmem c4 hen
      cases yes with
      | true =>
        have HY := Lib.hid (HV.out.yes HO.out HX.out HOUT.out)
        go_wp2
        go_ret
        exact ⟨retBool HY.out.symm, HB6.out⟩
      | false =>
        have HN := Lib.hid (HV.out.more HR5.out HG5.out HOUT.out (by omega) (by omega))
        go_wp2
        go_roundw
        case rel => exact ⟨_, _, _, HN.out⟩
        case measure =>
          rw [HN.out.rng.count, HV.out.rng.count]
          exact HC5.out
end Go.Proofs.YtjklhiifjnmedaaGreatDoor
