/- The reference's New: the locks of a list that can be held together. -/
import Derived.Test.YtkabfjknpjhonaaLkNew
import Derived.Test.YtkabfjknpjhonaaLkWaits
import Derived.Deep.RegionLawGrows
namespace Go.Proofs.Ytkabfjknpjhonaa
open Go.RowKit P16 P46 Go.Sort
attribute [local go_sem] ByteArray.mk_append_mk ByteArray.extract_mk mk_index
attribute [local irreducible] wpQuiet

abbrev tS : TypeId := 51
/-- A state in the making at block p: its held locks are 'h'; it has no queue. -/
structure RSt (w : World) (B p : Nat) (h : List Lock) (vh : Value) : Prop where
  box : Blk w p tS #[vh, .slice none 0 0]
  base : B ≤ p
  held : OwnL w B tL vh h
section
variable {w w' : World} {B p : Nat} {h : List Lock} {vh : Value}
theorem own_ne {e : TypeId} {v : Value} {ls : List Lock} {g : Nat} {t : TypeId} {cs : Array Value} (ho : OwnL w B e v ls) (hb : Blk w g t cs) (hne : t ≠ e) : v.ownBlock ≠ some g := by
  intro e1
  rcases ho.2 with ⟨rfl, _⟩ | ⟨g', cap, cur, rfl, _, hg, _⟩
  · simp [Value.ownBlock] at e1
  · simp [Value.ownBlock] at e1
    subst e1
    exact Blk.ne hb hg hne rfl
theorem RSt.below (m : RSt w B p h vh) (hb : Below w.heap.size w w') : RSt w' B p h vh := ⟨m.box.below hb, m.base, m.held.below hb⟩
theorem RSt.box_ne (m : RSt w B p h vh) : vh.ownBlock ≠ some p := by
  intro e
  rcases m.held.2 with ⟨rfl, _⟩ | ⟨g, cap, cur, rfl, _, hg, _⟩
  · simp [Value.ownBlock] at e
  · simp [Value.ownBlock] at e
    subst e
    exact Blk.ne m.box hg (by decide) rfl
/-- 'x.Held = append(x.Held, l)'. -/
theorem RSt.push {w8 w9 : World} (m : RSt w8 B p h vh) (hB : B ≤ w8.heap.size) {l : Lock} {o : Obj} {gg cap : Nat} (hg : ((w8.alloc o).drew).grownBy w9 vh.ownBlock)
    (hown : w9.ownsRow B tL 6 (.slice (some ⟨gg, 0, none⟩) (h.length + 1) cap) (h.length + 1) (lcs h ++ lc l)) (hat : vh.ownBlock = some gg ∨ gg = w8.heap.size + 1) :
    RSt (w9.setCell ⟨p, 0, none⟩ (.slice (some ⟨gg, 0, none⟩) (h.length + 1) cap)) B p (h ++ [l]) (.slice (some ⟨gg, 0, none⟩) (h.length + 1) cap) ∧ Below B w8 (w9.setCell ⟨p, 0, none⟩ (.slice (some ⟨gg, 0, none⟩) (h.length + 1) cap)) := by
  have hb : Below w8.heap.size w8 (w8.alloc o).drew := ((Below.refl _ w8).alloc (Nat.le_refl _) o).drew
  have ho : OwnL w9 B tL (.slice (some ⟨gg, 0, none⟩) (h.length + 1) cap) (h ++ [l]) := by
    unfold OwnL
    rw [List.length_append, lcs_append]
    simpa [lcs] using hown
  have hne := m.box_ne
  have hp := m.box.lt
  have hbx : Blk w9 p tS #[vh, .slice none 0 0] := (m.box.below hb).grown hg (fun e => hne e.symm)
  have hgp : (Value.slice (some ⟨gg, 0, none⟩) (h.length + 1) cap).ownBlock ≠ some p := by
    rcases hat with e | e
    · rw [← show vh.ownBlock = (Value.slice (some ⟨gg, 0, none⟩) (h.length + 1) cap).ownBlock from e]
      exact hne
    · simp [Value.ownBlock]
      omega
  refine ⟨⟨by simpa using hbx.put 0 _, m.base, ho.setCell hgp _⟩, ?_⟩
  have hgb : Below B w8 w9 := (hb.mono hB).trans ⟨hg.os, hg.tape, hg.output, hg.size, fun k hk => hg.block k (by have := hb.size; omega) (fun e => by have := (m.held.lt k e.symm).1; omega)⟩
  exact hgb.trans ⟨rfl, rfl, rfl, by simp, fun k hk => Below.heap_setCell _ _ _ _ (fun e => by have := m.base; simp only at e; omega)⟩
/-- .. and another block. -/
theorem RSt.keeps {w8 w9 : World} (m : RSt w8 B p h vh) {g : Nat} {cs : Array Value} (hG : Blk w8 g tS cs) (hgp : g < p) {o : Obj} (hg : ((w8.alloc o).drew).grownBy w9 vh.ownBlock) (u : Value) :
    Blk (w9.setCell ⟨p, 0, none⟩ u) g tS cs := by
  have hb : Below w8.heap.size w8 (w8.alloc o).drew := ((Below.refl _ w8).alloc (Nat.le_refl _) o).drew
  have hne : some g ≠ vh.ownBlock := by
    intro e
    rcases m.held.2 with ⟨rfl, _⟩ | ⟨g', cap', cur, rfl, _, hg', _⟩
    · simp [Value.ownBlock] at e
    · simp [Value.ownBlock] at e
      subst e
      exact Blk.ne hG hg' (by decide) rfl
  exact ((hG.below hb).grown hg hne).far (by simp only; omega) u
end
theorem rcells {w : World} {b o : Nat} {l : Lock} (h : ∀ (j : Nat) (u : Value), (#[.int .i64 l.unit, .int .i64 l.id, .string ⟨l.r.low.toArray⟩, .string ⟨l.r.high.toArray⟩, .bool l.r.e, .bool l.x] : Array Value)[j]? = some u → w.cell? ((⟨b, o, none⟩ : Addr).add j) = some u) :
    w.cell? ⟨b, o, none⟩ = some (.int .i64 l.unit) ∧ w.cell? ⟨b, o + 1, none⟩ = some (.int .i64 l.id) ∧ w.cell? ⟨b, o + 2, none⟩ = some (.string ⟨l.r.low.toArray⟩) ∧ w.cell? ⟨b, o + 3, none⟩ = some (.string ⟨l.r.high.toArray⟩) ∧ w.cell? ⟨b, o + 4, none⟩ = some (.bool l.r.e) ∧ w.cell? ⟨b, o + 5, none⟩ = some (.bool l.x) := by
  have k0 := h 0 _ rfl
  have k1 := h 1 _ rfl
  have k2 := h 2 _ rfl
  have k3 := h 3 _ rfl
  have k4 := h 4 _ rfl
  have k5 := h 5 _ rfl
  rw [Addr.add_lit] at k0 k1 k2 k3 k4 k5
  exact ⟨k0, k1, k2, k3, k4, k5⟩
set_option maxRecDepth 100000 in
set_option maxHeartbeats 2000000 in
theorem refNew (A : Option Addr) (n c : Nat) (ls : List Lock) (w : World) (ha : LocksAt w A n ls) (hn : n ≤ 100000) :
    Calls Try.prog 23 #[.slice A n c] w fun e w' => ∃ vh, e = .returned (.agg #[vh, .slice none 0 0]) ∧ OwnL w' w.heap.size tL vh (newL ls) ∧ Below w.heap.size w w' := by
  have HA := Lib.hid ha
  clear ha
  have hlenL : (Try.prog.info? 32).map (·.size) = some 6 := by kernel_rfl
  go_enter Try.func23, Try.ntmps23
  go_upto_region 2 with (fail)
  obtain ⟨w1, g, p, e1, e2, e3, hb1, h1, h2⟩ := boxes2 w tS #[.slice none 0 0, .slice none 0 0] #[.slice none 0 0, .slice none 0 0]
  rw [e1, e3, e2]
  have hg0 : w.heap.size ≤ g := by omega
  have hp0 : w.heap.size ≤ p := by omega
  have hgp : g < p := by omega
  have HM1 := Lib.hid (show RSt w1 w.heap.size p (newL (ls.take 0)) (.slice none 0 0) from ⟨h2, by omega, OwnL.nil _ _ _⟩)
  have HG1 := Lib.hid h1
  have HB1 := Lib.hid hb1
  clear e1 e2 e3 hb1 h1 h2
  go_wp2
  go_loopw [4] (fun i wr => ∃ (k : Nat) (vh : Value), k ≤ n ∧ i = .int .i64 k ∧ RSt wr w.heap.size p (newL (ls.take k)) vh ∧ Blk wr g tS #[.slice none 0 0, .slice none 0 0] ∧ Below w.heap.size w wr) (fun i _ => n - (intOf i).toNat)
  case atStart => exact ⟨0, _, Nat.zero_le _, rfl, HM1.out, HG1.out, HB1.out⟩
  case round =>
    obtain ⟨k, vh, hk, rfl, hm, hg, hbw⟩ := hrel
    have HM := Lib.hid hm
    have HB := Lib.hid hbw
    have HG := Lib.hid hg
    have hsz := hbw.size
    clear hm hbw hg
    by_cases hlt : k < n
    · have hs := HA.out.below HB.out
      obtain ⟨b, off, l, rfl, hl, -⟩ := hs.at_ hlt
      have hr := hs.row hl
      have HR := Lib.hid hr
      have HF := Lib.hid (newL_take hl)
      have hnl : (newL (ls.take k)).length ≤ k := Nat.le_trans (newL_len _) (List.length_take_le _ _)
      clear hs hl
      obtain ⟨A1, c1, hvh, hs1, -⟩ := HM.out.held.cells
      subst hvh
      obtain ⟨n1, hn1⟩ : ∃ n1, (newL (ls.take k)).length = n1 := ⟨_, rfl⟩
      have MR := Lib.hid (regrown_row hr)
      have hc4 := HM.out.box.cell 0
      have HS4 := Lib.hid hs1
      simp only [hn1] at hc4 HS4
      simp at hc4
      have HN1 := Lib.hid hn1
      have hn1' : n1 ≤ 1000000 := by omega
      have hcR : ∀ d os, (grow (redrawn wr d) os).cell? ⟨p, 0, none⟩ = some (.slice A1 n1 c1) := fun d os => cell_regrown hc4 d os
      have i0 : (0 : Int) ≤ (k : Int) := by omega
      have i1 : (k : Int) < (n : Int) := by omega
      cases hval : validL l with
      | false =>
        have cV : ∀ W, Calls Try.prog 20 #[lv l] W fun e w' => e = .returned (.bool false) ∧ Below W.heap.size W w' := fun W => by
          have := refValid l W
          rw [hval] at this
          exact this
        have CV := Lib.hid cV
        have HOK := Lib.hid (show newOk (newL (ls.take k)) l = false from by unfold newOk; rw [hval]; rfl)
        clear hr hs1 hn1 hc4 cV hval
        go_upto_region 5 with (fail)
        refine wp_region_quiet_below (by kernel_rfl) (by kernel_rfl) ?_
        repeat (first | (refine wpQuiet_load_cells rfl 32 (.tmp 14) rfl ⟨b, off + k * 6, none⟩ rfl _ _ MR.out Try.underlying32 rfl hlenL ?_) | quiet_step ((go_at_call 20; refine Calls.regrown_of (CV.out _))))
        refine wpQuiet_nil ?_
        intro w7 hw7
        obtain ⟨pp, rfl⟩ := hw7
        have hbr := below_regrown wr pp.d pp.os
        have HM7 := Lib.hid (HM.out.below hbr)
        have HG7 := Lib.hid (HG.out.below hbr)
        have HB7 := Lib.hid (HB.out.trans (hbr.mono hsz))
        clear hbr
        generalize grow (redrawn wr pp.d) pp.os = w7 at HM7 HB7 HG7 ⊢
        clear hcR MR
        go_wp2
        go_roundw
        case rel => exact ⟨k + 1, _, by omega, by go_num, by rw [HF.out, if_neg (by rw [HOK.out]; simp)]; exact HM7.out, HG7.out, HB7.out⟩
        case measure => simp [intOf]; omega
      | true =>
        have cV : ∀ W, Calls Try.prog 20 #[lv l] W fun e w' => e = .returned (.bool true) ∧ Below W.heap.size W w' := fun W => by
          have := refValid l W
          rw [hval] at this
          exact this
        have CV := Lib.hid cV
        have HVL := Lib.hid hval
        clear hr hs1 hn1 hc4 cV hval
        go_upto_region 5 with (fail)
        refine wp_region_quiet_below (by kernel_rfl) (by kernel_rfl) ?_
        repeat (first | (refine wpQuiet_load_cells rfl 32 (.tmp 14) rfl ⟨b, off + k * 6, none⟩ rfl _ _ MR.out Try.underlying32 rfl hlenL ?_) | (refine wpQuiet_load_cells rfl 32 (.tmp 22) rfl ⟨b, off + k * 6, none⟩ rfl _ _ MR.out Try.underlying32 rfl hlenL ?_) | quiet_step ((first | (go_at_call 20; refine Calls.regrown_of (CV.out _)) | (go_at_call 48; refine Calls.regrown_of (refConflicts l _ _ _ _ _ (HS4.out.below (below_regrown _ _ _)) hn1')))))
        refine wpQuiet_nil ?_
        intro w7 hw7
        obtain ⟨pp, rfl⟩ := hw7
        have hbr := below_regrown wr pp.d pp.os
        have HM7 := Lib.hid (HM.out.below hbr)
        have HG7 := Lib.hid (HG.out.below hbr)
        have HB7 := Lib.hid (HB.out.trans (hbr.mono hsz))
        have HR7 := Lib.hid (MR.out _ ⟨pp, rfl⟩)
        have hz7 := hbr.size
        clear hbr
        generalize grow (redrawn wr pp.d) pp.os = w8 at HM7 HB7 HG7 HR7 hz7 ⊢
        clear hcR MR
        cases hany : (newL (ls.take k)).any fun y => conflict y l with
        | true =>
          have HOK := Lib.hid (show newOk (newL (ls.take k)) l = false from by unfold newOk; rw [hany]; simp)
          clear hany
          go_wp2
          go_roundw
          case rel => exact ⟨k + 1, _, by omega, by go_num, by rw [HF.out, if_neg (by rw [HOK.out]; simp)]; exact HM7.out, HG7.out, HB7.out⟩
          case measure => simp [intOf]; omega
        | false =>
          have HOK := Lib.hid (show newOk (newL (ls.take k)) l = true from by unfold newOk; rw [hany, HVL.out]; rfl)
          clear hany
          generalize newL (ls.take k) = hs at *
          have hc8 := HM7.out.box.cell 0
          have hf8 := HM7.out.box.frozen 0
          simp only [HN1.out] at hc8
          simp at hc8
          obtain ⟨a0, a1, a2, a3, a4, a5⟩ := rcells HR7.out
          have hp8 := HM7.out.box.lt
          have hB8 : w.heap.size ≤ w8.heap.size := HB7.out.size
          obtain ⟨i0', hi0', hz0, hz1, hz2⟩ := info_parts infoL
          have HI0 := Lib.hid hi0'
          have HZ0 := Lib.hid hz0
          have HZ1 := Lib.hid hz1
          have HZ2 := Lib.hid hz2
          have HN1' := Lib.hid (show hs.length = n1 from HN1.out)
          have HM8 := Lib.hid (show RSt w8 w.heap.size p hs (.slice A1 n1 c1) from by
            have := HM7.out
            rw [HN1.out] at this
            exact this)
          have hne1 : some p ≠ (Value.slice A1 n1 c1).ownBlock := fun e => HM8.out.box_ne e.symm
          clear hi0' hz0 hz1 hz2
          go_upto_region 6 with (fail)
          go_region_law ((refine step_append_lies _ (by rfl) _ _ _ (by rfl) w.heap.size 32 i0' _ 6 64 Try.underlying44 HI0.out HZ0.out HZ1.out HZ2.out rfl (by omega) (.slice A1 n1 c1) hs.length (lcs hs) (by rfl) ((HM8.out.held.alloc _).drew) ⟨w8.heap.size, 0, none⟩ 1 1 (lc l) (by rfl) (by rfl) (World.news_of_block (cs := la l) (t := 32) (fr := (0, 0)) (heap_alloc_new w8 _)) (lc_one l) (by omega) (by unfold maxLen; rw [HN1'.out]; omega) (by rw [HN1'.out]; omega) (by simp; omega) (w8.heap.size + 1) (by simp) ?_; intro gg cap w9 hown9 hgrow hat hlt9; have hb9 := ((((HM8.out.box.alloc _).drew).grown hgrow hne1)); have hc9 := hb9.cell 0; have hf9 := hb9.frozen 0; simp at hc9; have HP9 := Lib.hid (HM8.out.push hB8 hgrow hown9 hat); have HG9 := Lib.hid (HM8.out.keeps HG7.out hgp hgrow (.slice (some ⟨gg, 0, none⟩) (hs.length + 1) cap)); have HB9 := Lib.hid (HB7.out.trans HP9.out.2); clear hb9 hown9 hat hgrow hlt9))
          all_goals
            go_wp2
            go_roundw
            case rel => exact ⟨k + 1, _, by omega, by go_num, by rw [HF.out, if_pos HOK.out]; exact HP9.out.1, HG9.out, HB9.out⟩
            case measure => simp [intOf]; omega
    · have hkn : k = n := by omega
      subst hkn
      have hm := HM.out
      rw [List.take_of_length_le (by rw [HA.out.len]; exact Nat.le_refl _)] at hm
      have HL := Lib.hid hm
      have c0 := hm.box.cell 0
      have c1 := hm.box.cell 1
      have hg2 := HG.out.lt
      have hp2 := hm.box.lt
      have f0 := HG.out.frozen 0
      have f1 := HG.out.frozen 1
      have d0 := HG.out.cell 0
      have d1 := HG.out.cell 1
      simp at c0 c1 d0 d1
      obtain ⟨A1, e1, rfl, -, -⟩ := hm.held.cells
      clear hm
      go_wp2
      have hv1 : (Value.slice A1 (newL ls).length e1).ownBlock ≠ some g := own_ne HL.out.held HG.out (by decide)
      refine bodyPost_ret (v := .agg #[.slice A1 (newL ls).length e1, .slice none 0 0]) (by simp [results, Try.results23, go_sem, d0, d1]) rfl ⟨_, rfl, (HL.out.held.setCell hv1 _).setCell hv1 _, ?_⟩
      exact ((HB.out.setCell hg0 _).setCell hg0 _)
end Go.Proofs.Ytkabfjknpjhonaa
