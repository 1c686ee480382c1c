/- The walk of form: a record's bytes. -/
import Derived.Test.YtabpgfcmfflceaaDoorForm
namespace Go.Proofs.YtabpgfcmfflceaaDoor
open Go.RowKit P12 Go.Sort
attribute [local go_sem] ByteArray.mk_append_mk ByteArray.extract_mk mk_index

set_option maxHeartbeats 1000000 in
theorem form39 (b a : Bool) (d : Bs) (hd : d.length ≤ 60000) (w : World) (C : Codes w) : Calls Tryd.prog 39 #[.agg #[.bool b, .bool a, .string ⟨d.toArray⟩]] w fun e w' => e = .returned (.string ⟨(form ⟨b, a, d⟩).toArray⟩) ∧ Below w.heap.size w w' := by
  have hix : ixN b a ≤ 3 := by unfold ixN; cases b <;> cases a <;> simp
  have hv : form ⟨b, a, d⟩ = [UInt8.ofNat (((d.length : Int) + 4) / 256).toNat, UInt8.ofNat (((d.length : Int) + 4) % 256).toNat, UInt8.ofNat ((ixN b a : Nat) : Int).toNat, UInt8.ofNat (0 : Int).toNat] ++ d := by
    unfold form
    rw [show (4 + d.length) / 256 = (((d.length : Int) + 4) / 256).toNat from by omega, show (4 + d.length) % 256 = (((d.length : Int) + 4) % 256).toNat from by omega]
    cases b <;> cases a <;> rfl
  have HV := Lib.hid hv
  clear hv
  go_enter Tryd.func39, Tryd.ntmps39
  go_wp2
  have M := Lib.hid (Blk.new w 43 #[.bool b, .bool a, .string ⟨d.toArray⟩])
  have CW := Lib.hid (C.below ((Below.refl w.heap.size w).alloc (Nat.le_refl _) (.cells #[.bool b, .bool a, .string ⟨d.toArray⟩] 43)))
  have f0 : ∀ D os, (grow (redrawn (w.alloc (.cells #[.bool b, .bool a, .string ⟨d.toArray⟩] 43)) D) os).cell? ⟨w.heap.size, 0, none⟩ = some (.bool b) := fun D os => (M.out.below (below_regrown _ D os)).cell 0
  have f1 : ∀ D os, (grow (redrawn (w.alloc (.cells #[.bool b, .bool a, .string ⟨d.toArray⟩] 43)) D) os).cell? ⟨w.heap.size, 1, none⟩ = some (.bool a) := fun D os => (M.out.below (below_regrown _ D os)).cell 1
  refine wp_region_quiet_below (by kernel_rfl) (by kernel_rfl) ?_
  repeat (quiet_step ((go_at_call 43; refine Calls.regrown_of (index43 _ _ _ (CW.out.below (below_regrown _ _ _))))))
  refine wpQuiet_nil ?_
  intro w7 hw7
  obtain ⟨p, rfl⟩ := hw7
  have hb7 := below_regrown (w.alloc (.cells #[.bool b, .bool a, .string ⟨d.toArray⟩] 43)) p.d p.os
  have M := Lib.hid (M.out.below hb7)
  generalize grow (redrawn (w.alloc (.cells #[.bool b, .bool a, .string ⟨d.toArray⟩] 43)) p.d) p.os = w7 at *
  have m2 : w7.cell? ⟨w.heap.size, 2, none⟩ = some (.string ⟨d.toArray⟩) := M.out.cell 2
  have hz := M.out.lt
  have hc := run_bytes4 (P := Tryd.prog) w7 69 9 5 Tryd.underlying69 Tryd.underlying5 Tryd.underlying9 (((d.length : Int) + 4) / 256) (((d.length : Int) + 4) % 256) (ixN b a : Nat) 0 (by omega) (by omega) (by omega) (by omega)
  go_wp2
  go_ret
  rw [HV.out]
  exact ⟨rfl, below_then_ ((Below.refl _ _).alloc (Nat.le_refl _) _) (below_then hb7 (below_alloc (Below.refl _ _) _))⟩
end Go.Proofs.YtabpgfcmfflceaaDoor
