/- slices.Clone at locks, and All: all held and all waiting locks, in new memory. -/
import Derived.Test.YtjklhiifjnmedaaGreatDoorLkRead
import Derived.Test.YtjklhiifjnmedaaGreatDoorLkOf
import Derived.Deep.RegionWith
import Derived.Deep.DeepCutAuto
import Derived.Deep.Onto
namespace Go.Proofs.YtjklhiifjnmedaaGreatDoor
open Go.RowKit P16 P46
attribute [local go_sem] ByteArray.mk_append_mk ByteArray.extract_mk mk_index

set_option maxRecDepth 100000 in
set_option maxHeartbeats 1000000 in
theorem lkClone (A : Option Addr) (n c : Nat) (ls : List Lock) (w : World) (h : LocksAt w A n ls) (hn : n ≤ 1000000) (hz : A = none → n = 0) :
    Calls Tryz.prog 55 #[.slice A n c] w fun e w' => ∃ v, e = .returned v ∧ OwnL w' w.heap.size 46 v ls ∧ Below w.heap.size w w' := by
  have HS := Lib.hid h
  have hl := h.len
  clear h
  obtain ⟨i0, hi0, hz0, hz1, hz2⟩ := info_parts infoL
  have HI := Lib.hid hi0
  have HZ0 := Lib.hid hz0
  have HZ1 := Lib.hid hz1
  have HZ2 := Lib.hid hz2
  clear hi0 hz0 hz1 hz2
  cases A with
  | none =>
    have h0 := hz rfl
    subst h0
    have hls : ls = [] := List.eq_nil_of_length_eq_zero hl
    subst hls
    have hnl := fun (w : World) (c : Nat) => Lib.run_eql_slice_nil (P := Tryz.prog) w 50 46 none 0 c 0 0 Tryz.underlying50
    go_enter Tryz.func55, Tryz.ntmps55
    go_wp2
    go_ret
    exact ⟨_, rfl, OwnL.nil _ _ _, Below.refl _ _⟩
  | some ad =>
    have hnl := fun (w : World) => Lib.run_eql_slice_nil (P := Tryz.prog) w 50 46 (some ad) n c 0 0 Tryz.underlying50
    go_enter Tryz.func55, Tryz.ntmps55
    go_wp2_with (at_builtin; refine wpList_plain rfl (fun K hK => ?_); refine wp_append_empty _ (.tmp 5) (.tmp 6) _ rfl 46 i0 _ 6 64 Tryz.underlying50 HI.out HZ0.out HZ1.out HZ2.out rfl (by omega) w.heap.size w.heap.size rfl (Nat.le_refl _) (heap_alloc_new w _) (some ad) n c (lcs ls) rfl (HS.out.below (below_alloc (Below.refl _ _) _)) (lcs_one _) (by unfold maxLen; omega) (by omega) ?_; intro v' w' hown hb; refine hK _ _ ?_; clear hK K)
    go_ret
    exact ⟨v', rfl, by unfold OwnL; rw [hl]; exact hown, below_then_ (below_alloc (Below.refl _ _) _) hb⟩
theorem OwnL.nilLen {w : World} {B : Nat} {e : TypeId} {A : Option Addr} {n c : Nat} {ls : List Lock} (h : OwnL w B e (.slice A n c) ls) : A = none → n = 0 := by
  intro e
  subst e
  rcases h.2 with ⟨h1, _⟩ | ⟨g, cap, cur, h1, _⟩
  · injection h1
  · injection h1 with h1
    cases h1
theorem OwnL.base {w : World} {B C : Nat} {e : TypeId} {v : Value} {ls : List Lock} (h : OwnL w B e v ls) (hc : C ≤ B) : OwnL w C e v ls := World.ownsRow.mono h hc
theorem own_apart {w w' : World} {B : Nat} {e e' : TypeId} {v v' : Value} {ls ls' : List Lock} (h : OwnL w B e v ls) (h' : OwnL w' w.heap.size e' v' ls') : v.ownBlock = none ∨ v.ownBlock ≠ v'.ownBlock := by
  rcases hv : v.ownBlock with _ | k
  · exact .inl rfl
  · refine .inr (fun e => ?_)
    have h1 := (h.lt k hv).2
    have h2 := (h'.lt k e.symm).1
    omega
theorem own_apart' {w w' : World} {B : Nat} {e e' : TypeId} {v v' : Value} {ls ls' : List Lock} (h : OwnL w B e v ls) (h' : OwnL w' w.heap.size e' v' ls') : v'.ownBlock = none ∨ v'.ownBlock ≠ v.ownBlock := by
  rcases hv : v'.ownBlock with _ | k
  · exact .inl rfl
  · refine .inr (fun e => ?_)
    have h2 := (h'.lt k hv).1
    have h1 := (h.lt k e.symm).2
    omega
set_option maxRecDepth 100000 in
set_option maxHeartbeats 2000000 in
theorem lkAll (B p : Nat) (h q : List Lock) (vh vq : Value) (w : World) (m : Mgr w B p h q vh vq) (hl : h.length + q.length ≤ 1000000) :
    Calls Tryz.prog 28 #[.pointer (some ⟨p, 0, none⟩)] w fun e w' => ∃ v1 v2, e = .returned (.tuple #[v1, v2]) ∧ OwnL w' w.heap.size 46 v1 h ∧ OwnL w' w.heap.size 46 v2 q ∧ (v1.ownBlock = none ∨ v1.ownBlock ≠ v2.ownBlock) ∧ Below w.heap.size w w' := by
  obtain ⟨A1, c1, hvh, hs1, -⟩ := m.held.cells
  obtain ⟨A2, c2, hvq, hs2, -⟩ := m.queue.cells
  subst hvh hvq
  have z1 := m.held.nilLen
  have z2 := m.queue.nilLen
  have CH := Lib.hid (show ∀ W, Below w.heap.size w W → Calls Tryz.prog 55 #[.slice A1 h.length c1] W fun e w' => ∃ v, e = .returned v ∧ OwnL w' W.heap.size 46 v h ∧ Below W.heap.size W w' from fun W hW => lkClone A1 _ c1 h W (hs1.below hW) (by omega) z1)
  have CQ := Lib.hid (show ∀ W, Below w.heap.size w W → Calls Tryz.prog 55 #[.slice A2 q.length c2] W fun e w' => ∃ v, e = .returned v ∧ OwnL w' W.heap.size 46 v q ∧ Below W.heap.size W w' from fun W hW => lkClone A2 _ c2 q W (hs2.below hW) (by omega) z2)
  have HM := Lib.hid m
  have hc0 := m.box.cell 0
  have hc1 := m.box.cell 1
  simp at hc0 hc1
  clear m hs1 hs2 z1 z2
  go_enter Tryz.func28, Tryz.ntmps28
  go_upto_region 1 with (fail)
  go_cut [2, 3] (fun s2 s3 wx => ∃ v1 v2, s2 = v1 ∧ s3 = v2 ∧ OwnL wx w.heap.size 46 v1 h ∧ OwnL wx w.heap.size 46 v2 q ∧ (v1.ownBlock = none ∨ v1.ownBlock ≠ v2.ownBlock) ∧ Below w.heap.size w wx)
  case first =>
    go_region_with ((go_at_call 55; first | (refine (CQ.out _ HB1.out).mono ?_; rintro e wb ⟨vb, rfl, hob, hbb⟩; have HOB := Lib.hid hob; have HOA2 := Lib.hid (HOA.out.below hbb); have HB2 := Lib.hid (HB1.out.trans (hbb.mono HB1.out.size)); clear hob hbb) | (refine (CH.out _ HB1.out).mono ?_; rintro e wb ⟨vb, rfl, hob, hbb⟩; have HOD := Lib.hid hob; have HOC2 := Lib.hid (HOC.out.below hbb); have HB2 := Lib.hid (HB1.out.trans (hbb.mono HB1.out.size)); clear hob hbb) | (refine (CH.out _ (below_drewN (Below.refl w.heap.size w) 1)).mono ?_; rintro e wa ⟨va, rfl, hoa, hba⟩; have HB1 := Lib.hid ((below_drewN (Below.refl w.heap.size w) 1).trans hba); have ca0 := (HM.out.below HB1.out).box.cell 0; have ca1 := (HM.out.below HB1.out).box.cell 1; simp at ca0 ca1; have HOA := Lib.hid (show OwnL wa w.heap.size 46 va h from hoa); clear hoa hba) | (refine (CQ.out _ (below_drewN (Below.refl w.heap.size w) 1)).mono ?_; rintro e wa ⟨va, rfl, hoa, hba⟩; have HB1 := Lib.hid ((below_drewN (Below.refl w.heap.size w) 1).trans hba); have ca0 := (HM.out.below HB1.out).box.cell 0; have ca1 := (HM.out.below HB1.out).box.cell 1; simp at ca0 ca1; have HOC := Lib.hid (show OwnL wa w.heap.size 46 va q from hoa); clear hoa hba)))
    all_goals (go_wp2; go_meet)
    all_goals first
      | (case rel => exact ⟨va, vb, rfl, rfl, HOA2.out, HOB.out.base HB1.out.size, own_apart HOA.out HOB.out, HB2.out⟩)
      | (case rel => exact ⟨vb, va, rfl, rfl, HOD.out.base HB1.out.size, HOC2.out, own_apart' HOC.out HOD.out, HB2.out⟩)
  case rest =>
    obtain ⟨v1, v2, rfl, rfl, h1, h2, h3, h4⟩ := hcut
    go_wp2
    go_ret2
    exact ⟨_, _, rfl, h1, h2, h3, h4⟩
end Go.Proofs.YtjklhiifjnmedaaGreatDoor
