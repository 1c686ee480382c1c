/- units: the units of acts, in increasing order, each once. -/
import Derived.Test.YtkabfjknpjhonaaLkSet
import Derived.Test.YtkabfjknpjhonaaLkPlay
namespace Go.Proofs.Ytkabfjknpjhonaa
open Go.RowKit P16 P46
attribute [local go_sem] ByteArray.mk_append_mk ByteArray.extract_mk mk_index

def unitsA (xs : List ActL) : List Int := xs.map (·.l.unit)
theorem unitsA_take {xs : List ActL} {k : Nat} {a : ActL} (h : xs[k]? = some a) : unitsA (xs.take (k + 1)) = unitsA (xs.take k) ++ [a.l.unit] := by
  unfold unitsA
  rw [take_snoc h, List.map_append]
  rfl
set_option maxRecDepth 100000 in
set_option maxHeartbeats 2000000 in
theorem lkUnits (A : Option Addr) (n c : Nat) (xs : List ActL) (w : World) (ha : ActsAt w A n xs) (hn : n ≤ 90000) :
    Calls Try.prog 13 #[.slice A n c] w fun e w' => ∃ v, e = .returned v ∧ OwnI w' w.heap.size v (setL (unitsA xs)) ∧ Below w.heap.size w w' := by
  have HA := Lib.hid ha
  clear ha
  obtain ⟨i1, hi1, hy0, hy1, hy2⟩ := info_parts infoI
  have HI1 := Lib.hid hi1
  have HY0 := Lib.hid hy0
  have HY1 := Lib.hid hy1
  have HY2 := Lib.hid hy2
  clear hi1 hy0 hy1 hy2
  have hlenA : (Try.prog.info? 34).map (·.size) = some 7 := by kernel_rfl
  go_enter Try.func13, Try.ntmps13
  go_wp2
  go_loopw [3, 8] (fun v i wr => ∃ k : Nat, k ≤ n ∧ i = .int .i64 k ∧ OwnI wr w.heap.size v (unitsA (xs.take k)) ∧ Below w.heap.size w wr) (fun _ i _ => n - (intOf i).toNat)
  case atStart => exact ⟨0, Nat.zero_le _, rfl, OwnI.nil _ _, Below.refl _ _⟩
  case round =>
    obtain ⟨k, hk, rfl, ho, hbw⟩ := hrel
    have HO := Lib.hid ho
    have HB := Lib.hid hbw
    have hsz := hbw.size
    clear ho hbw
    by_cases hlt : k < n
    · have hs := HA.out.below HB.out
      obtain ⟨b, off, a, rfl, hx⟩ := hs.at_ hlt
      have HR := Lib.hid (hs.row hx)
      have HX := Lib.hid (unitsA_take hx)
      have hul : (unitsA (xs.take k)).length ≤ k := by
        unfold unitsA
        rw [List.length_map]
        exact List.length_take_le _ _
      generalize unitsA (xs.take k) = us at HO HX hul
      clear hs hx
      go_upto_region 5 with (refine wpList_load_cells rfl 34 (.tmp 10) rfl ⟨b, off + k * 7, none⟩ rfl _ _ HR.out Try.underlying34 rfl hlenA ?_)
      obtain ⟨w4, g4, e1, e2, hb4, h4⟩ := boxes1 wr 34 (aa a)
      unfold aa at e1
      rw [e1, e2]
      have HB4 := Lib.hid (HB.out.trans (hb4.mono hsz))
      have HO4 := Lib.hid (HO.out.below hb4)
      obtain ⟨-, a1, -, -, -, -, -⟩ := acells h4
      have hz4 := HB4.out.size
      clear e1 e2 hb4 h4
      obtain ⟨A3, c3, rfl, -, -⟩ := HO4.out.cells
      go_wp2_with (at_builtin; refine wpList_append_int rfl (.tmp 12) (.tmp 16) _ rfl w.heap.size i1 _ Try.underlying27 HI1.out HY0.out HY1.out HY2.out rfl _ us rfl (HO4.out.alloc _) a.l.unit w4.heap.size 1 rfl (World.cell?_alloc_mark w4 _ 3 (0, 0) 0) (by omega) (by simp; omega) ?_; intro v11 w11 hown11 hg11 hat11; have HO11 := Lib.hid hown11; have HB11 := Lib.hid ((HB4.out.alloc hz4 _).grown hg11 (by rw [World.size_alloc]; omega) (fun k hk => (HO4.out.lt k hk).1)); clear hown11 hg11 hat11)
      go_roundw
      case rel => exact ⟨k + 1, by omega, by go_num, by rw [HX.out]; exact HO11.out, HB11.out⟩
      case measure => simp [intOf]; omega
    · have hkn : k = n := by omega
      subst hkn
      have ho := HO.out
      rw [List.take_of_length_le (by rw [HA.out.len]; exact Nat.le_refl _)] at ho
      have hul : (unitsA xs).length = k := by
        unfold unitsA
        rw [List.length_map]
        exact HA.out.len
      obtain ⟨A3, c3, rfl, hs3, -⟩ := ho.cells
      have HS3 := Lib.hid hs3
      have HU := Lib.hid hul
      clear ho hs3 hul HO
      go_wp2_with fail
      refine (refSet A3 _ c3 (unitsA xs) wr HS3.out (by rw [HU.out]; omega)).mono ?_
      rintro e w5 ⟨v5, rfl, ho5, hb5⟩
      have HO5 := Lib.hid (ho5.base hsz)
      have HB5 := Lib.hid (HB.out.trans (hb5.mono hsz))
      clear ho5 hb5
      go_wp2
      go_ret
      exact ⟨_, rfl, HO5.out, HB5.out⟩
end Go.Proofs.Ytkabfjknpjhonaa
