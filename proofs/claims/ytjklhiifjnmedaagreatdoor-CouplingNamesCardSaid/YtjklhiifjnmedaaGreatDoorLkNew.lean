/- New: a manager with held locks. -/
import Derived.Test.YtjklhiifjnmedaaGreatDoorLkGrant
import Derived.Test.YtjklhiifjnmedaaGreatDoorLkValid
import Derived.Test.YtjklhiifjnmedaaGreatDoorLkRef
namespace Go.Proofs.YtjklhiifjnmedaaGreatDoor
open Go.RowKit P16 P46 Go.Sort
attribute [local go_sem] ByteArray.mk_append_mk ByteArray.extract_mk mk_index

def newOk (hs : List Lock) (l : Lock) : Bool := validL l && !(hs.any fun y => conflict y l)
theorem newL_take {ls : List Lock} {k : Nat} {l : Lock} (h : ls[k]? = some l) : newL (ls.take (k + 1)) = if newOk (newL (ls.take k)) l = true then newL (ls.take k) ++ [l] else newL (ls.take k) := by
  unfold newL newOk
  rw [take_snoc h, List.foldl_append]
  rfl
theorem newL_len (ls : List Lock) : (newL ls).length ≤ ls.length := by
  have key : ∀ (ls h : List Lock), (ls.foldl (fun h l => if validL l && !(h.any fun y => conflict y l) then h ++ [l] else h) h).length ≤ h.length + ls.length := by
    intro ls
    induction ls with
    | nil => intro h; simp
    | cons l ls ih =>
      intro h
      rw [List.foldl_cons]
      refine Nat.le_trans (ih _) ?_
      split
      · simp; omega
      · simp
  have := key ls []
  simpa [newL] using this
set_option maxRecDepth 100000 in
set_option maxHeartbeats 2000000 in
theorem lkNew (A : Option Addr) (n c : Nat) (ls : List Lock) (w : World) (ha : LocksAt w A n ls) (hn : n ≤ 100000) :
    Calls Tryz.prog 21 #[.slice A n c] w fun e w' => ∃ p vh, e = .returned (.pointer (some ⟨p, 0, none⟩)) ∧ Mgr w' w.heap.size p (newL ls) [] vh (.slice none 0 0) ∧ Below w.heap.size w w' := by
  have HA := Lib.hid ha
  clear ha
  have hlenL : (Tryz.prog.info? 46).map (·.size) = some 6 := by kernel_rfl
  go_enter Tryz.func21, Tryz.ntmps21
  go_upto_region 3 with (fail)
  obtain ⟨w1, p, e1, e2, hb1, h1⟩ := boxes1 w tM #[.slice none 0 0, .slice none 0 0]
  rw [e1, e2]
  have HM1 := Lib.hid (show Mgr w1 w.heap.size p (newL (ls.take 0)) [] (.slice none 0 0) (.slice none 0 0) from ⟨h1, by omega, OwnL.nil _ _ _, OwnL.nil _ _ _, .inl rfl⟩)
  have HB1 := Lib.hid hb1
  clear e1 e2 hb1 h1
  go_loopw [10] (fun i wr => ∃ (k : Nat) (vh : Value), k ≤ n ∧ i = .int .i64 k ∧ Mgr wr w.heap.size p (newL (ls.take k)) [] vh (.slice none 0 0) ∧ Below w.heap.size w wr) (fun i _ => n - (intOf i).toNat)
  case atStart => exact ⟨0, _, Nat.zero_le _, rfl, HM1.out, HB1.out⟩
  case round =>
    obtain ⟨k, vh, hk, rfl, hm, hbw⟩ := hrel
    have HM := Lib.hid hm
    have HB := Lib.hid hbw
    have hsz := hbw.size
    clear hm hbw
    by_cases hlt : k < n
    · have hs := HA.out.below HB.out
      obtain ⟨b, off, l, rfl, hl, -⟩ := hs.at_ hlt
      have HR := Lib.hid (hs.row hl)
      have HF := Lib.hid (newL_take hl)
      have hnl : (newL (ls.take k)).length ≤ k := Nat.le_trans (newL_len _) (List.length_take_le _ _)
      clear hs hl
      go_upto_region 5 with (refine wpList_load_cells rfl 46 (.tmp 12) rfl ⟨b, off + k * 6, none⟩ rfl _ _ HR.out Tryz.underlying46 rfl hlenL ?_)
      obtain ⟨w4, g4, e1, e2, hb4, h4⟩ := boxes1 wr 46 (la l)
      unfold la at e1
      rw [e1, e2]
      have hg4 : wr.heap.size ≤ g4 := by omega
      have hg4' := h4.lt
      obtain ⟨A1, c1, hvh, hs1, -⟩ := HM.out.held.cells
      subst hvh
      obtain ⟨n1, hn1⟩ : ∃ n1, (newL (ls.take k)).length = n1 := ⟨_, rfl⟩
      have HM4 := Lib.hid (HM.out.below hb4)
      have HB4 := Lib.hid (HB.out.trans (hb4.mono hsz))
      have HBX := Lib.hid h4
      have HS4 := Lib.hid (hs1.below hb4)
      have MR := Lib.hid (regrown_row h4.add)
      have hc4 := HM4.out.box.cell 0
      simp only [hn1] at hc4 HS4
      simp at hc4
      have HN1 := Lib.hid hn1
      have hn1' : n1 ≤ 1000000 := by omega
      have hcR : ∀ d os, (grow (redrawn w4 d) os).cell? ⟨p, 0, none⟩ = some (.slice A1 n1 c1) := fun d os => cell_regrown hc4 d os
      cases hval : validL l with
      | false =>
        have cV : ∀ W, Calls Tryz.prog 40 #[lv l] W fun e w' => e = .returned (.bool false) ∧ Below W.heap.size W w' := fun W => by
          have := lkValid l W
          rw [hval] at this
          exact this
        have CV := Lib.hid cV
        have HOK := Lib.hid (show newOk (newL (ls.take k)) l = false from by unfold newOk; rw [hval]; rfl)
        clear e1 e2 hb4 h4 hs1 hn1 hc4 cV hval
        refine wp_region_quiet_below (by kernel_rfl) (by kernel_rfl) ?_
        repeat (first | (refine wpQuiet_load_cells rfl 46 (.tmp 5) rfl ⟨g4, 0, none⟩ rfl _ _ MR.out Tryz.underlying46 rfl hlenL ?_) | quiet_step ((go_at_call 40; refine Calls.regrown_of (CV.out _))))
        refine wpQuiet_nil ?_
        intro w7 hw7
        obtain ⟨pp, rfl⟩ := hw7
        have HM7 := Lib.hid (HM4.out.below (below_regrown w4 pp.d pp.os))
        have HB7 := Lib.hid (HB4.out.trans ((below_regrown w4 pp.d pp.os).mono HB4.out.size))
        generalize grow (redrawn w4 pp.d) pp.os = w7 at HM7 HB7 ⊢
        clear hcR MR
        go_wp2
        go_roundw
        case rel => exact ⟨k + 1, _, by omega, by go_num, by rw [HF.out, if_neg (by rw [HOK.out]; simp)]; exact HM7.out, HB7.out⟩
        case measure => simp [intOf]; omega
      | true =>
        have cV : ∀ W, Calls Tryz.prog 40 #[lv l] W fun e w' => e = .returned (.bool true) ∧ Below W.heap.size W w' := fun W => by
          have := lkValid l W
          rw [hval] at this
          exact this
        have CV := Lib.hid cV
        have HVL := Lib.hid hval
        clear e1 e2 hb4 h4 hs1 hn1 hc4 cV hval
        refine wp_region_quiet_below (by kernel_rfl) (by kernel_rfl) ?_
        repeat (first | (refine wpQuiet_load_cells rfl 46 (.tmp 5) rfl ⟨g4, 0, none⟩ rfl _ _ MR.out Tryz.underlying46 rfl hlenL ?_) | quiet_step ((first | (go_at_call 40; refine Calls.regrown_of (CV.out _)) | (go_at_call 45; refine Calls.regrown_of (lkConflicts l _ _ _ _ _ (HS4.out.below (below_regrown _ _ _)) hn1')))))
        refine wpQuiet_nil ?_
        intro w7 hw7
        obtain ⟨pp, rfl⟩ := hw7
        have hbr := below_regrown w4 pp.d pp.os
        have HM7 := Lib.hid (HM4.out.below hbr)
        have HB7 := Lib.hid (HB4.out.trans (hbr.mono HB4.out.size))
        have HBX7 := Lib.hid (HBX.out.below hbr)
        have hz7 := hbr.size
        clear hbr
        generalize grow (redrawn w4 pp.d) pp.os = w8 at HM7 HB7 HBX7 hz7 ⊢
        clear hcR MR
        cases hany : (newL (ls.take k)).any fun y => conflict y l with
        | true =>
          have HOK := Lib.hid (show newOk (newL (ls.take k)) l = false from by unfold newOk; rw [hany]; simp)
          clear hany
          go_wp2
          go_roundw
          case rel => exact ⟨k + 1, _, by omega, by go_num, by rw [HF.out, if_neg (by rw [HOK.out]; simp)]; exact HM7.out, HB7.out⟩
          case measure => simp [intOf]; omega
        | false =>
          have HOK := Lib.hid (show newOk (newL (ls.take k)) l = true from by unfold newOk; rw [hany, HVL.out]; rfl)
          clear hany
          generalize newL (ls.take k) = hs at *
          have hc8 := HM7.out.box.cell 0
          have hf8 := HM7.out.box.frozen 0
          simp only [HN1.out] at hc8
          simp at hc8
          obtain ⟨a0, a1, a2, a3, a4, a5⟩ := lcells HBX7.out
          have hp8 := HM7.out.box.lt
          have hB8 : w.heap.size ≤ w8.heap.size := HB7.out.size
          have hg8 := HBX7.out.lt
          obtain ⟨i0, hi0', hz0, hz1, hz2⟩ := info_parts infoL
          have HI0 := Lib.hid hi0'
          have HZ0 := Lib.hid hz0
          have HZ1 := Lib.hid hz1
          have HZ2 := Lib.hid hz2
          have HN1' := Lib.hid (show hs.length = n1 from HN1.out)
          have HM8 := Lib.hid (show Mgr w8 w.heap.size p hs [] (.slice A1 n1 c1) (.slice none 0 0) from by
            have := HM7.out
            rw [HN1.out] at this
            exact this)
          have hne1 : some p ≠ (Value.slice A1 n1 c1).ownBlock := fun e => HM8.out.box_ne.1 e.symm
          clear hi0' hz0 hz1 hz2
          go_upto_region 6 with (fail)
          go_region_law ((refine step_append_lies _ (by rfl) _ _ _ (by rfl) w.heap.size 46 i0 _ 6 64 Tryz.underlying50 HI0.out HZ0.out HZ1.out HZ2.out rfl (by omega) (.slice A1 n1 c1) hs.length (lcs hs) (by rfl) ((HM8.out.held.alloc _).drew) ⟨w8.heap.size, 0, none⟩ 1 1 (lc l) (by rfl) (by rfl) (World.news_of_block (cs := la l) (t := 46) (fr := (0, 0)) (heap_alloc_new w8 _)) (lc_one l) (by omega) (by unfold maxLen; rw [HN1'.out]; omega) (by rw [HN1'.out]; omega) (by simp; omega) (w8.heap.size + 1) (by simp) ?_; intro gg cap w9 hown9 hgrow hat hlt9; have hb9 := ((((HM8.out.box.alloc _).drew).grown hgrow hne1)); have hc9 := hb9.cell 0; have hf9 := hb9.frozen 0; simp at hc9; have HP9 := Lib.hid (HM8.out.push0 hgrow hown9 hat); have HB9 := Lib.hid (HB7.out.trans (HP9.out.2.below (B := w.heap.size) (fun k hk => (HM8.out.ge hk).1) hB8)); clear hb9 hown9 hat hgrow hlt9))
          all_goals
            go_wp2
            go_roundw
            case rel => exact ⟨k + 1, _, by omega, by go_num, by rw [HF.out, if_pos HOK.out]; exact HP9.out.1, HB9.out⟩
            case measure => simp [intOf]; omega
    · have hkn : k = n := by omega
      subst hkn
      go_wp2
      go_ret
      have hm := HM.out
      rw [List.take_of_length_le (by rw [HA.out.len]; exact Nat.le_refl _)] at hm
      exact ⟨p, vh, rfl, hm, HB.out⟩
end Go.Proofs.YtjklhiifjnmedaaGreatDoor
