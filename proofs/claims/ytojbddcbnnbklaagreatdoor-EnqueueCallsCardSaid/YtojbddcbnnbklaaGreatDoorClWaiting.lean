/- Waiting: the owners that wait. -/
import Derived.Test.YtojbddcbnnbklaaGreatDoorClPut
namespace Go.Proofs.YtojbddcbnnbklaaGreatDoor
open Go.RowKit P43
attribute [local go_sem] ByteArray.mk_append_mk ByteArray.extract_mk mk_index

/-- The owners of a list of claims. -/
def idsM (l : List Cm) : List Int := l.map (·.1.id)
theorem idsM_take {l : List Cm} {k : Nat} {x : Cm} (h : l[k]? = some x) : idsM (l.take (k + 1)) = idsM (l.take k) ++ [x.1.id] := by
  unfold idsM
  rw [List.take_add_one, h]
  simp
set_option maxRecDepth 100000 in
set_option maxHeartbeats 2000000 in
theorem clWaiting (B p : Nat) (hs ws : List Cm) (vh vw : Value) (w : World) (m : Tbl w B p hs ws vh vw) (hl : ws.length ≤ 100000) :
    Calls Tryz.prog 12 #[.pointer (some ⟨p, 0, none⟩)] w fun e w' => ∃ v, e = .returned v ∧ OwnI w' w.heap.size v (idsM ws) ∧ Below w.heap.size w w' := by
  have hlenC : (Tryz.prog.info? tC).map (·.size) = some 2 := by kernel_rfl
  obtain ⟨A, c, rfl, hA⟩ := m.clsW
  have hc := m.box.cell 1
  simp at hc
  obtain ⟨n, hn⟩ : ∃ n, ws.length = n := ⟨_, rfl⟩
  rw [hn] at hc hl hA
  have HA := Lib.hid hA
  have HN := Lib.hid hn
  obtain ⟨i1, hi1', hy0, hy1, hy2⟩ := info_parts infoI
  have HI1 := Lib.hid hi1'
  have HY0 := Lib.hid hy0
  have HY1 := Lib.hid hy1
  have HY2 := Lib.hid hy2
  clear m hA hn hi1' hy0 hy1 hy2
  go_enter Tryz.func12, Tryz.ntmps12
  go_wp2
  go_loopw [3, 11] (fun ov iv wr => ∃ k : Nat, k ≤ n ∧ iv = .int .i64 k ∧ OwnI wr w.heap.size ov (idsM (ws.take k)) ∧ Below w.heap.size w wr) (fun _ iv _ => n - (intOf iv).toNat)
  case atStart => exact ⟨0, Nat.zero_le _, rfl, OwnI.nil _ _, Below.refl _ _⟩
  case round =>
    obtain ⟨k, hk, rfl, ho, hb⟩ := hrel
    have HO := Lib.hid ho
    have HB := Lib.hid hb
    have hsz := hb.size
    clear ho hb
    by_cases hlt : k < n
    · have hs := HA.out.at_.below HB.out
      obtain ⟨b, off, x, rfl, hx, x0, x1⟩ := hs.at_ hlt
      have HX := Lib.hid (idsM_take hx)
      have hlk : (idsM (ws.take k)).length ≤ 1000000 := by
        have := List.length_take_le k ws
        simp only [idsM, List.length_map]
        omega
      have HLK := Lib.hid hlk
      have hk1 : (k : Int) < (n : Int) := by omega
      have hk2 : (0 : Int) ≤ (k : Int) := by omega
      clear hs hx hlk
      go_upto_region 5 with (fail)
      obtain ⟨w2, q, e1, e2, hb2, hq⟩ := boxes1 wr tC (ca x)
      unfold ca at e1
      rw [show wr.alloc (.cells #[.int .i64 x.1.id, .map (some x.2)] 76) = w2 from e1, e2]
      have hq0 := hq.cell 0
      simp [ca] at hq0
      have hb02 := HB.out.trans (hb2.mono hsz)
      have HB2 := Lib.hid hb02
      have hsz2 := hb02.size
      have HO2 := Lib.hid (HO.out.below hb2)
      clear e1 e2 hb2 hq x0 x1 hb02 hc
      go_wp2_with (at_builtin; refine wpList_append_int rfl (.tmp 15) (.tmp 18) _ rfl w.heap.size i1 _ Tryz.underlying33 HI1.out HY0.out HY1.out HY2.out rfl _ (idsM (ws.take k)) rfl (HO2.out.alloc _) x.1.id w2.heap.size 1 rfl (World.cell?_alloc_mark w2 _ 3 (0, 0) 0) HLK.out (by simp; omega) ?_; intro v3 w3 hown3 hg3 hat3; have HO3 := Lib.hid hown3; have HG3 := Lib.hid hg3; clear hown3 hg3 hat3)
      refine ⟨⟨k + 1, hlt, by simp, by rw [HX.out]; exact HO3.out, ?_⟩, by dsimp only [intOf]; omega⟩
      exact (HB2.out.alloc hsz2 _).grown HG3.out (by simp; omega) (fun k e => (HO2.out.lt k e).1)
    · have hkn : k = n := by omega
      subst hkn
      have hk1 : ¬ (k : Int) < (k : Int) := by omega
      go_wp2
      go_ret
      have h := HO.out
      rw [← HN.out, List.take_length] at h
      exact ⟨_, rfl, h, HB.out⟩
end Go.Proofs.YtojbddcbnnbklaaGreatDoor
