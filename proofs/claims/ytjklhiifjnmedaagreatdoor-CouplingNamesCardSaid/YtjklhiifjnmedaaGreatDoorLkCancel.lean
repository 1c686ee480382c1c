/- Cancel and Release. -/
import Derived.Test.YtjklhiifjnmedaaGreatDoorLkGrant
namespace Go.Proofs.YtjklhiifjnmedaaGreatDoor
open Go.RowKit P16 P46
attribute [local go_sem] ByteArray.mk_append_mk ByteArray.extract_mk mk_index

theorem OwnI.base {w : World} {B C : Nat} {v : Value} {xs : List Int} (h : OwnI w B v xs) (hc : C ≤ B) : OwnI w C v xs := by
  refine ⟨h.1, ?_⟩
  rcases h.2 with h1 | ⟨g, cap, cur, rfl, a2, a3⟩
  · exact .inl h1
  · exact .inr ⟨g, cap, cur, rfl, Nat.le_trans hc a2, a3⟩
theorem GPost.from {w w1 w' : World} {B p : Nat} {s : St} {outs : List Int} {e : Ending} (h : GPost w1 B p s outs e w') (m : Moved p w w1) : GPost w B p s outs e w' := by
  obtain ⟨v, vh, vq, h1, h2, h3, h4, h5⟩ := h
  exact ⟨v, vh, vq, h1, h2.base m.size, h3, m.trans h4, h5⟩
theorem kept_drop (q : List Lock) (u : Int) : kept (fun l => decide (l.unit = u)) q = drop q u := by
  unfold kept drop
  congr 1
  funext l
  simp
theorem drop_len (q : List Lock) (u : Int) : (drop q u).length ≤ q.length := List.length_filter_le _ _
theorem drop_valid {q : List Lock} {u : Int} (h : ∀ l ∈ q, validL l = true) : ∀ l ∈ drop q u, validL l = true := fun l hl => h l (List.mem_filter.1 hl).1
theorem ofAsksG {g : Nat} {u : Int} {w : World} (hb : Blk w g 3 #[.int .i64 u]) {row : Option Nat} (hr : row ≠ some g) : AsksG 87 g (fun l => decide (l.unit = u)) w row :=
  ⟨fun args W => (lkOfAsk g u w hb).known args W, fun l W hW => (lkOfAsk g u W (hb.grown hW (Ne.symm hr))).ask l W (Below.refl _ _)⟩
set_option maxRecDepth 100000 in
set_option maxHeartbeats 2000000 in
theorem lkCancel (u : Int) (B p : Nat) (h q : List Lock) (vh vq : Value) (w : World) (m : Mgr w B p h q vh vq) (hl : h.length + q.length ≤ 100000) (hv : Valids ⟨h, q⟩) :
    Calls Tryz.prog 31 #[.pointer (some ⟨p, 0, none⟩), .int .i64 u] w (GPost w B p (cancel ⟨h, q⟩ u).1 (cancel ⟨h, q⟩ u).2) := by
  have HM := Lib.hid m
  have HL := Lib.hid hl
  have HV := Lib.hid hv
  have hc := m.box.cell 1
  simp at hc
  clear m hl hv
  go_enter Tryz.func31, Tryz.ntmps31
  go_upto_region 1 with (fail)
  go_cut [12] (fun _ wx => ∃ v, Mgr wx B p h (drop q u) vh v ∧ Moved p w wx)
  case first =>
    go_region_with (first | (go_at_call 58; refine (lkOfFn u _).mono ?_; rintro e w2 ⟨g, rfl, hblk, hb2, hle⟩; have HB2 := Lib.hid hblk; have HM2 := Lib.hid (HM.out.below ((below_drewN (Below.refl w.heap.size w) 1).trans hb2)); have HV2 := Lib.hid (Moved.of_below ((below_drewN (Below.refl w.heap.size w) 1).trans hb2) HM.out.box.lt); have HGE := Lib.hid (show w.heap.size ≤ g from hle); have hc2 := HM2.out.box.cell 1; simp at hc2; clear hblk hb2 hle) | (go_at_call 43; refine (lkDeleteFunc _ _ (fun l => decide (l.unit = u)) B vq q _ HM2.out.queue (by have := HL.out; omega) (ofAsksG HB2.out (fun e => by have := (HM.out.queue.lt _ e).2; have := HGE.out; omega))).mono ?_; rintro e w3 ⟨v3, rfl, ho3, hg3, he3⟩; rw [kept_drop] at ho3; obtain ⟨A3, c3, hv3, -, -⟩ := ho3.cells; subst hv3; have HP3 := Lib.hid (HM2.out.put1 hg3 ho3 (.inr (.inl he3))); have hb3 := HM2.out.box.grown hg3 (fun e => HM2.out.box_ne.2 e.symm); have hd3 := hb3.cell 1; have hf3 := hb3.frozen 1; simp at hd3; clear ho3 hg3 he3 hb3))
    all_goals (go_wp2; go_meet; case rel => exact ⟨_, HP3.out.1, HV2.out.trans HP3.out.2⟩)
  case rest =>
    obtain ⟨v, hm, hmv⟩ := hcut
    have HMX := Lib.hid hm
    have HVX := Lib.hid hmv
    clear hm hmv hc
    have hd := drop_len q u
    have HC := Lib.hid (lkGrant B p h (drop q u) vh v wc HMX.out (by have := HL.out; omega) ⟨HV.out.1, drop_valid HV.out.2⟩)
    go_wp2_with fail
    refine HC.out.mono ?_
    rintro e w5 ⟨v5, vh5, vq5, rfl, h5⟩
    have H5 := Lib.hid h5
    clear h5 HC
    go_wp2
    go_ret
    exact GPost.from ⟨v5, vh5, vq5, rfl, H5.out⟩ HVX.out
set_option maxRecDepth 100000 in
set_option maxHeartbeats 2000000 in
theorem lkRelease (u : Int) (B p : Nat) (h q : List Lock) (vh vq : Value) (w : World) (m : Mgr w B p h q vh vq) (hl : h.length + q.length ≤ 100000) (hv : Valids ⟨h, q⟩) :
    Calls Tryz.prog 35 #[.pointer (some ⟨p, 0, none⟩), .int .i64 u] w (GPost w B p (release ⟨h, q⟩ u).1 (release ⟨h, q⟩ u).2) := by
  have HM := Lib.hid m
  have HL := Lib.hid hl
  have HV := Lib.hid hv
  have hc := m.box.cell 0
  simp at hc
  clear m hl hv
  go_enter Tryz.func35, Tryz.ntmps35
  go_upto_region 1 with (fail)
  go_cut [12] (fun _ wx => ∃ v, Mgr wx B p (drop h u) q v vq ∧ Moved p w wx)
  case first =>
    go_region_with (first | (go_at_call 58; refine (lkOfFn u _).mono ?_; rintro e w2 ⟨g, rfl, hblk, hb2, hle⟩; have HB2 := Lib.hid hblk; have HM2 := Lib.hid (HM.out.below ((below_drewN (Below.refl w.heap.size w) 1).trans hb2)); have HV2 := Lib.hid (Moved.of_below ((below_drewN (Below.refl w.heap.size w) 1).trans hb2) HM.out.box.lt); have HGE := Lib.hid (show w.heap.size ≤ g from hle); have hc2 := HM2.out.box.cell 0; simp at hc2; clear hblk hb2 hle) | (go_at_call 43; refine (lkDeleteFunc _ _ (fun l => decide (l.unit = u)) B vh h _ HM2.out.held (by have := HL.out; omega) (ofAsksG HB2.out (fun e => by have := (HM.out.held.lt _ e).2; have := HGE.out; omega))).mono ?_; rintro e w3 ⟨v3, rfl, ho3, hg3, he3⟩; rw [kept_drop] at ho3; obtain ⟨A3, c3, hv3, -, -⟩ := ho3.cells; subst hv3; have HP3 := Lib.hid (HM2.out.put0 hg3 ho3 (.inr (.inl he3))); have hb3 := HM2.out.box.grown hg3 (fun e => HM2.out.box_ne.1 e.symm); have hd3 := hb3.cell 0; have hf3 := hb3.frozen 0; simp at hd3; clear ho3 hg3 he3 hb3))
    all_goals (go_wp2; go_meet; case rel => exact ⟨_, HP3.out.1, HV2.out.trans HP3.out.2⟩)
  case rest =>
    obtain ⟨v, hm, hmv⟩ := hcut
    have HMX := Lib.hid hm
    have HVX := Lib.hid hmv
    clear hm hmv hc
    have hd := drop_len h u
    have HC := Lib.hid (lkCancel u B p (drop h u) q v vq wc HMX.out (by have := HL.out; omega) ⟨drop_valid HV.out.1, HV.out.2⟩)
    go_wp2_with fail
    refine HC.out.mono ?_
    rintro e w5 ⟨v5, vh5, vq5, rfl, h5⟩
    have H5 := Lib.hid h5
    clear h5 HC
    go_wp2
    go_ret
    exact GPost.from ⟨v5, vh5, vq5, rfl, H5.out⟩ HVX.out
end Go.Proofs.YtjklhiifjnmedaaGreatDoor
