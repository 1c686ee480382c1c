/- Request: a lock is asked for. -/
import Derived.Test.YtjklhiifjnmedaaGreatDoorLkCancel
import Derived.Test.YtjklhiifjnmedaaGreatDoorLkValid
import Derived.Test.YtjklhiifjnmedaaGreatDoorEq
import Derived.Deep.QuietTactic
import Derived.BigQuiet
namespace Go.Proofs.YtjklhiifjnmedaaGreatDoor
open Go.RowKit P16 P46
attribute [local go_sem] ByteArray.mk_append_mk ByteArray.extract_mk mk_index

/-- What a request leaves. -/
def RPost (w : World) (B p : Nat) (s : St) (code : Int) (e : Ending) (w' : World) : Prop := ∃ vh vq, e = .returned (.int .i64 code) ∧ Mgr w' B p s.h s.q vh vq ∧ Moved p w w'
set_option maxRecDepth 100000 in
set_option maxHeartbeats 2000000 in
theorem lkRequest_bad (l : Lock) (B p : Nat) (h q : List Lock) (vh vq : Value) (w : World) (m : Mgr w B p h q vh vq) (hv : validL l = false) :
    Calls Tryz.prog 42 #[.pointer (some ⟨p, 0, none⟩), lv l] w (RPost w B p ⟨h, q⟩ 1) := by
  have HM := Lib.hid m
  have hlenL : (Tryz.prog.info? 46).map (·.size) = some 6 := by kernel_rfl
  have HV := Lib.hid hv
  clear m hv
  unfold lv
  go_enter Tryz.func42, Tryz.ntmps42
  go_upto_region 1 with (fail)
  obtain ⟨w2, g, e1, e2, hb, h1⟩ := boxes1 w 46 (la l)
  unfold la at e1
  rw [e1, e2]
  have HC := Lib.hid h1.add
  have HB := Lib.hid hb
  clear e1 e2 hb h1
  go_wp2_with (first | (refine wpList_load_cells rfl 46 (.tmp 3) rfl ⟨g, 0, none⟩ rfl _ _ HC.out Tryz.underlying46 rfl hlenL ?_) | (go_at_call 40; refine (lkValid l _).mono ?_; rintro e w3 ⟨rfl, hb3⟩; rw [HV.out]; have HB3 := Lib.hid (below_then HB.out hb3); clear hb3))
  go_ret
  exact ⟨vh, vq, rfl, HM.out.below HB3.out, Moved.of_below HB3.out HM.out.box.lt⟩
set_option maxRecDepth 100000 in
set_option maxHeartbeats 2000000 in
theorem lkRequest_covered (l : Lock) (B p : Nat) (h q : List Lock) (vh vq : Value) (w : World) (m : Mgr w B p h q vh vq) (hl : h.length + q.length ≤ 100000) (hv : validL l = true) (hcv : covered h l = true) :
    Calls Tryz.prog 42 #[.pointer (some ⟨p, 0, none⟩), lv l] w (RPost w B p ⟨h, q⟩ 0) := by
  have HM := Lib.hid m
  have hlenL : (Tryz.prog.info? 46).map (·.size) = some 6 := by kernel_rfl
  have HV := Lib.hid hv
  have HCV := Lib.hid hcv
  have HL := Lib.hid hl
  clear m hv hcv hl
  unfold lv
  go_enter Tryz.func42, Tryz.ntmps42
  go_upto_region 1 with (fail)
  obtain ⟨w2, g, e1, e2, hb, h1⟩ := boxes1 w 46 (la l)
  unfold la at e1
  rw [e1, e2]
  have HC := Lib.hid h1.add
  have HX := Lib.hid h1
  have HB := Lib.hid hb
  clear e1 e2 hb h1
  go_wp2_with (refine wpList_load_cells rfl 46 (.tmp 3) rfl ⟨g, 0, none⟩ rfl _ _ HC.out Tryz.underlying46 rfl hlenL ?_)
  refine (lkValid l _).mono ?_
  rintro e w3 ⟨rfl, hb3⟩
  rw [HV.out]
  have HC3 := Lib.hid (HX.out.below hb3).add
  have HB3 := Lib.hid (below_then HB.out hb3)
  clear hb3
  go_wp2_with (first | (refine wpList_load_cells rfl 46 (.tmp 3) rfl ⟨g, 0, none⟩ rfl _ _ HC3.out Tryz.underlying46 rfl hlenL ?_) | (go_at_call 75; refine (lkCovered l B p h q vh vq _ (HM.out.below HB3.out) (by have := HL.out; omega)).mono ?_; rintro e w4 ⟨rfl, hb4⟩; rw [HCV.out]; have HB4 := Lib.hid (HB3.out.trans (hb4.mono HB3.out.size)); clear hb4))
  go_ret
  exact ⟨vh, vq, rfl, HM.out.below HB4.out, Moved.of_below HB4.out HM.out.box.lt⟩
end Go.Proofs.YtjklhiifjnmedaaGreatDoor
