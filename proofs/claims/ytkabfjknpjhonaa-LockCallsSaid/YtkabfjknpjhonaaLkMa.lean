/- The reference's Blocks and Blockers: for whom a lock, or a unit, waits. The reference's has, Blockers and Covered. The wide search in plain Lean: who is reached, level after level; no program in sight. The reference's Reaches: the wide search. -/
import Derived.Test.YtkabfjknpjhonaaLkSet
import Derived.Test.YtkabfjknpjhonaaLkRNew
import Derived.Test.YtkabfjknpjhonaaLkAll
import Derived.Deep.DeepCutAuto
import Derived.Test.YtkabfjknpjhonaaLocks
import Derived.Test.YtkabfjknpjhonaaLkApp
namespace Go.Proofs.Ytkabfjknpjhonaa
open Go.RowKit P16 P46 Go.Sort
attribute [local go_sem] ByteArray.mk_append_mk ByteArray.extract_mk mk_index
attribute [local irreducible] wpQuiet

/-- The units of the held locks that conflict; of the waiting ones. -/
def blkH (hs : List Lock) (l : Lock) : List Int := (hs.filter fun y => conflict y l).map (·.unit)
def blkQ (o qs : List Lock) (l : Lock) : List Int := (qs.filter (waitsOn o l)).map (·.unit)
theorem blks_parts (h q : List Lock) (l : Lock) : blks h q l = blkH h l ++ blkQ (own h l.unit) q l := rfl
theorem blkH_take {hs : List Lock} {k : Nat} {y : Lock} (l : Lock) (h : hs[k]? = some y) : blkH (hs.take (k + 1)) l = if conflict y l = true then blkH (hs.take k) l ++ [y.unit] else blkH (hs.take k) l := by
  unfold blkH
  rw [take_snoc h, List.filter_append]
  by_cases e : conflict y l = true <;> simp [e]
theorem blkQ_take {o qs : List Lock} {k : Nat} {y : Lock} (l : Lock) (h : qs[k]? = some y) : blkQ o (qs.take (k + 1)) l = if waitsOn o l y = true then blkQ o (qs.take k) l ++ [y.unit] else blkQ o (qs.take k) l := by
  unfold blkQ
  rw [take_snoc h, List.filter_append]
  by_cases e : waitsOn o l y = true <;> simp [e]
theorem blkH_len (hs : List Lock) (l : Lock) : (blkH hs l).length ≤ hs.length := by
  unfold blkH
  rw [List.length_map]
  exact List.length_filter_le _ _
theorem blkQ_len (o qs : List Lock) (l : Lock) : (blkQ o qs l).length ≤ qs.length := by
  unfold blkQ
  rw [List.length_map]
  exact List.length_filter_le _ _
theorem own_apartI {w : World} {B1 B2 : Nat} {vL vI : Value} {ls : List Lock} {xs : List Int} (h1 : OwnL w B1 tL vL ls) (h2 : OwnI w B2 vI xs) : vL.ownBlock = none ∨ vL.ownBlock ≠ vI.ownBlock := by
  rcases h1.2 with ⟨rfl, _⟩ | ⟨g, cap, cur, rfl, _, hg, _⟩
  · exact .inl rfl
  · refine .inr fun e => ?_
    rcases h2.2 with ⟨rfl, _⟩ | ⟨g', cap', cur', rfl, _, hg', _⟩
    · simp [Value.ownBlock] at e
    · simp [Value.ownBlock] at e
      subst e
      exact Blk.ne hg hg' (by decide) rfl
theorem ownI_ne {w : World} {B : Nat} {v : Value} {xs : List Int} {g : Nat} {t : TypeId} {cs : Array Value} (ho : OwnI w B v xs) (hb : Blk w g t cs) (hne : t ≠ 3) : some g ≠ v.ownBlock := by
  intro e1
  rcases ho.2 with ⟨rfl, _⟩ | ⟨g', cap, cur, rfl, _, hg, _⟩
  · simp [Value.ownBlock] at e1
  · simp [Value.ownBlock] at e1
    subst e1
    exact Blk.ne hb hg hne rfl
theorem OwnL.reads3 {w : World} {B : Nat} {e : TypeId} {A : Option Addr} {n c : Nat} {ls : List Lock} (h : OwnL w B e (.slice A n c) ls) : LocksAt w A n ls ∧ ls.length = n := by
  obtain ⟨A9, c9, h9, hq9, -⟩ := h.cells
  injection h9 with h91 h92 h93
  subst h91
  exact ⟨by rw [h92]; exact hq9, h92.symm⟩
/-- Blocks at work: the state's box, the lock's box, the unit's own locks, the numbers found. -/
structure RB (w wr : World) (p g : Nat) (cs : Array Value) (l : Lock) (v3 : Value) (o : List Lock) (out : Value) (xs : List Int) : Prop where
  st : Blk wr p tS cs
  lk : Blk wr g tL (la l)
  own : OwnL wr w.heap.size tL v3 o
  out : OwnI wr w.heap.size out xs
  low : Below w.heap.size w wr
section
variable {w wr w' : World} {p g : Nat} {cs : Array Value} {l : Lock} {v3 out out' : Value} {o : List Lock} {xs xs' : List Int}
theorem RB.below (k : RB w wr p g cs l v3 o out xs) (hb : Below wr.heap.size wr w') : RB w w' p g cs l v3 o out xs :=
  ⟨k.st.below hb, k.lk.below hb, k.own.below hb, k.out.below hb, k.low.trans (hb.mono k.low.size)⟩
theorem RB.push {ob : Obj} (k : RB w wr p g cs l v3 o out xs) (hg : (wr.alloc ob).grownBy w' out.ownBlock) (ho : OwnI w' w.heap.size out' xs') (hpl : some g ≠ out.ownBlock) : RB w w' p g cs l v3 o out' xs' :=
  ⟨(k.st.alloc ob).grown hg (ownI_ne k.out k.st (by decide)), (k.lk.alloc ob).grown hg hpl, (k.own.alloc ob).kept hg (own_apartI k.own k.out), ho, by
    have hz := k.low.size
    exact (k.low.alloc hz _).grown hg (by rw [World.size_alloc]; omega) (fun j hj => (k.out.lt j hj).1)⟩
end
set_option maxRecDepth 100000 in
set_option maxHeartbeats 4000000 in
theorem refBlocks (l : Lock) (A1 A2 : Option Addr) (n1 c1 n2 c2 m : Nat) (h q : List Lock) (w : World) (hh : LocksAt w A1 n1 h) (hq : LocksAt w A2 n2 q) (hn1 : n1 ≤ 100000) (hn2 : n2 ≤ 100000) (hm : m ≤ n2) :
    Calls Try.prog 58 #[.agg #[.slice A1 n1 c1, .slice A2 n2 c2], lv l, .int .i64 m] w fun e w' => ∃ v, e = .returned v ∧ OwnI w' w.heap.size v (blks h (q.take m) l) ∧ Below w.heap.size w w' := by
  have HH := Lib.hid hh
  have HQ := Lib.hid hq
  clear hh hq
  have hlenL : (Try.prog.info? 32).map (·.size) = some 6 := by kernel_rfl
  obtain ⟨i1, hi1, hy0, hy1, hy2⟩ := info_parts infoI
  have HI1 := Lib.hid hi1
  have HY0 := Lib.hid hy0
  have HY1 := Lib.hid hy1
  have HY2 := Lib.hid hy2
  clear hi1 hy0 hy1 hy2
  unfold lv
  go_enter Try.func58, Try.ntmps58
  go_upto_region 1 with (fail)
  obtain ⟨w1, p, g, e1, e2, e3, hb1, h1, h2⟩ : ∃ (w2 : World) (p q : Nat), (w.alloc (.cells #[.slice A1 n1 c1, .slice A2 n2 c2] tS)).alloc (.cells (la l) tL) = w2 ∧ w.heap.size = p ∧ w.heap.size + 1 = q ∧ Below w.heap.size w w2 ∧ Blk w2 p tS #[.slice A1 n1 c1, .slice A2 n2 c2] ∧ Blk w2 q tL (la l) := by
    refine ⟨_, _, _, rfl, rfl, rfl, below_alloc (below_alloc (Below.refl _ _) _) _, (Blk.new w tS _).alloc _, ?_⟩
    have := Blk.new (w.alloc (.cells #[.slice A1 n1 c1, .slice A2 n2 c2] tS)) tL (la l)
    rwa [World.size_alloc] at this
  unfold la at e1
  rw [e1, e3, e2]
  have HH1 := Lib.hid (HH.out.below hb1)
  have HB1 := Lib.hid hb1
  have HS1 := Lib.hid h1
  have HL1 := Lib.hid h2
  have hcp := (h1.alloc (.cells #[] 3)).cell 0
  have hcl := (h2.alloc (.cells #[] 3)).cell 0
  simp at hcp
  unfold la at hcl
  simp at hcl
  have hz1 := hb1.size
  clear e1 e2 e3 hb1 h1 h2
  go_wp2_with (go_at_call 32; refine (refOf l.unit A1 n1 c1 h _ (HH1.out.below (below_alloc (Below.refl _ _) _)) (by omega)).mono ?_; rintro e w3 ⟨v3, rfl, ho3, hb3⟩; have HO3 := Lib.hid ho3; have HB3 := Lib.hid hb3; clear ho3 hb3)
  have hz2 : (w1.alloc (.cells #[] 3)).heap.size = w1.heap.size + 1 := World.size_alloc _ _
  have hbz := below_alloc (Below.refl _ w1) (.cells #[] 3)
  obtain ⟨A3, c3, rfl, hs3, -⟩ := HO3.out.cells
  have HK3 := Lib.hid (show RB w w3 p g #[.slice A1 n1 c1, .slice A2 n2 c2] l (.slice A3 (own h l.unit).length c3) (own h l.unit) (.slice (some ⟨w1.heap.size, 0, none⟩) 0 0) (blkH (h.take 0) l) from
    ⟨(HS1.out.below hbz).below HB3.out, (HL1.out.below hbz).below HB3.out, HO3.out.base (by omega), (OwnI.empty w1 w.heap.size hz1).below HB3.out, (HB1.out.trans (hbz.mono hz1)).trans (HB3.out.mono (by omega))⟩)
  have hl3 : (own h l.unit).length ≤ n1 := by rw [← HH.out.len]; exact List.length_filter_le _ _
  clear hcp hcl hs3 hbz hz2
  generalize (own h l.unit).length = n3 at *
  go_wp2
  go_loopw [7, 9] (fun out i wr => ∃ k : Nat, k ≤ n1 ∧ i = .int .i64 k ∧ RB w wr p g #[.slice A1 n1 c1, .slice A2 n2 c2] l (.slice A3 n3 c3) (own h l.unit) out (blkH (h.take k) l)) (fun _ i _ => n1 - (intOf i).toNat)
  case atStart => exact ⟨0, Nat.zero_le _, rfl, HK3.out⟩
  case round =>
    obtain ⟨k, hk, rfl, hkb⟩ := hrel
    have HK := Lib.hid hkb
    have HHa := Lib.hid (HH.out.below hkb.low)
    clear hkb
    by_cases hlt : k < n1
    · obtain ⟨b, off, y, rfl, hy, -⟩ := HHa.out.at_ hlt
      have hr := HHa.out.row hy
      have HR := Lib.hid hr
      have HF := Lib.hid (blkH_take l hy)
      have hlen := blkH_len (h.take k) l
      have hlt2 := List.length_take_le k h
      generalize blkH (h.take k) l = us at HK HF hlen
      have MR := Lib.hid (regrown_row hr)
      have hlk := HK.out.lk.add
      unfold la at hlk
      have MX := Lib.hid (regrown_row hlk)
      clear hlk
      have hc0 := HK.out.st.cell 0
      simp at hc0
      have HC0 := Lib.hid hc0
      have hcR : ∀ d os, (grow (redrawn wr d) os).cell? ⟨p, 0, none⟩ = some (.slice (some ⟨b, off, none⟩) n1 c1) := fun d os => cell_regrown HC0.out d os
      have i0 : (0 : Int) ≤ (k : Int) := by omega
      have i1' : (k : Int) < (n1 : Int) := by omega
      clear hr hy
      go_upto_region 6 with (fail)
      refine wp_region_quiet_below (by kernel_rfl) (by kernel_rfl) ?_
      repeat (first | (refine wpQuiet_load_cells rfl 32 (.tmp 27) rfl ⟨b, off + k * 6, none⟩ rfl _ _ MR.out Try.underlying32 rfl hlenL ?_) | (refine wpQuiet_load_cells rfl 32 (.tmp 4) rfl ⟨g, 0, none⟩ rfl _ _ MX.out Try.underlying32 rfl hlenL ?_) | quiet_step ((go_at_call 18; refine Calls.regrown_of (refConflict y l _))))
      refine wpQuiet_nil ?_
      intro w7 hw7
      obtain ⟨pp, rfl⟩ := hw7
      have hbr := below_regrown wr pp.d pp.os
      have HK7 := Lib.hid (HK.out.below hbr)
      have HR7 := Lib.hid (MR.out _ ⟨pp, rfl⟩)
      clear hbr
      generalize grow (redrawn wr pp.d) pp.os = w7 at HK7 HR7 ⊢
      clear hcR MR MX HC0 hc0
      cases hcf : conflict y l with
      | false =>
        have HCF := Lib.hid hcf
        clear hcf
        go_wp2
        go_roundw
        case rel => exact ⟨k + 1, by omega, by go_num, by rw [HF.out, if_neg (by rw [HCF.out]; simp)]; exact HK7.out⟩
        case measure => simp [intOf]; omega
      | true =>
        have HCF := Lib.hid hcf
        clear hcf
        have hc7 := HK7.out.st.cell 0
        simp at hc7
        obtain ⟨a0, -, -, -, -, -⟩ := rcells HR7.out
        have hz7 := HK7.out.low.size
        obtain ⟨A7, c7, rfl, -, -⟩ := HK7.out.out.cells
        go_wp2_with (at_builtin; refine wpList_append_int rfl (.tmp 31) (.tmp 38) _ rfl w.heap.size i1 _ Try.underlying27 HI1.out HY0.out HY1.out HY2.out rfl _ us rfl (HK7.out.out.alloc _) y.unit w7.heap.size 1 rfl (World.cell?_alloc_mark w7 _ 3 (0, 0) 0) (by omega) (by simp; omega) ?_; intro v11 w11 hown11 hg11 hat11; have HK11 := Lib.hid (HK7.out.push hg11 hown11 (ownI_ne HK7.out.out HK7.out.lk (by decide))); clear hown11 hg11 hat11)
        go_roundw
        case rel => exact ⟨k + 1, by omega, by go_num, by rw [HF.out, if_pos HCF.out]; exact HK11.out⟩
        case measure => simp [intOf]; omega
    · have hkn : k = n1 := by omega
      subst hkn
      have hkb := HK.out
      rw [List.take_of_length_le (by rw [HH.out.len]; exact Nat.le_refl _)] at hkb
      have HKA := Lib.hid hkb
      have hlen := blkH_len h l
      rw [HH.out.len] at hlen
      have hc0 := HKA.out.st.cell 0
      simp at hc0
      clear hkb HK
      go_wp2
      obtain ⟨wo, hwo⟩ : ∃ wo : World, wo = wr := ⟨_, rfl⟩
      rw [← hwo] at HKA ⊢
      clear hwo HHa hc0 wr
      go_loopw [7, 10] (fun out i wr => ∃ j : Nat, j ≤ m ∧ i = .int .i64 j ∧ RB w wr p g #[.slice A1 k c1, .slice A2 n2 c2] l (.slice A3 n3 c3) (own h l.unit) out (blkH h l ++ blkQ (own h l.unit) (q.take j) l)) (fun _ i _ => m - (intOf i).toNat)
      case atStart => exact ⟨0, Nat.zero_le _, rfl, by simpa [blkQ] using HKA.out⟩
      case round =>
        obtain ⟨j, hj, rfl, hkb⟩ := hrel
        have HK := Lib.hid hkb
        have HQa := Lib.hid (HQ.out.below hkb.low)
        clear hkb HKA
        by_cases hlt2 : j < m
        · obtain ⟨b, off, y, rfl, hy, -⟩ := HQa.out.at_ (show j < n2 by omega)
          have hr := HQa.out.row hy
          have HF := Lib.hid (blkQ_take (o := own h l.unit) l hy)
          have hlen2 := blkQ_len (own h l.unit) (q.take j) l
          have hlt3 := List.length_take_le j q
          have hus : (blkH h l ++ blkQ (own h l.unit) (q.take j) l).length ≤ 1000000 := by rw [List.length_append]; omega
          have HF2 := Lib.hid (show blkH h l ++ blkQ (own h l.unit) (q.take (j + 1)) l = if waitsOn (own h l.unit) l y = true then (blkH h l ++ blkQ (own h l.unit) (q.take j) l) ++ [y.unit] else blkH h l ++ blkQ (own h l.unit) (q.take j) l from by
            rw [HF.out]
            split
            · rw [List.append_assoc]
            · rfl)
          generalize blkH h l ++ blkQ (own h l.unit) (q.take j) l = us at HK HF2 hus
          have MR := Lib.hid (regrown_row hr)
          have hlk := HK.out.lk.add
          unfold la at hlk
          have MX := Lib.hid (regrown_row hlk)
          clear hlk
          have hc0 := HK.out.st.cell 1
          simp at hc0
          have HC0 := Lib.hid hc0
          have hcR : ∀ d os, (grow (redrawn wr d) os).cell? ⟨p, 1, none⟩ = some (.slice (some ⟨b, off, none⟩) n2 c2) := fun d os => cell_regrown HC0.out d os
          obtain ⟨hs3, h3l⟩ := HK.out.own.reads3
          have HS3 := Lib.hid hs3
          have i0 : (0 : Int) ≤ (j : Int) := by omega
          have i1' : (j : Int) < (n2 : Int) := by omega
          have i2' : (j : Int) < (m : Int) := by omega
          clear hr hy HF hs3 h3l
          cases hcf : conflict y l with
          | false =>
            have cV : ∀ W, Calls Try.prog 18 #[lv y, lv l] W fun e w' => e = .returned (.bool false) ∧ Below W.heap.size W w' := fun W => by
              have := refConflict y l W
              rw [hcf] at this
              exact this
            have CV := Lib.hid cV
            have HOK := Lib.hid (show waitsOn (own h l.unit) l y = false from by unfold waitsOn; rw [hcf]; rfl)
            clear cV hcf
            go_upto_region 11 with (fail)
            refine wp_region_quiet_below (by kernel_rfl) (by kernel_rfl) ?_
            repeat (first | (refine wpQuiet_load_cells rfl 32 (.tmp 55) rfl ⟨b, off + j * 6, none⟩ rfl _ _ MR.out Try.underlying32 rfl hlenL ?_) | (refine wpQuiet_load_cells rfl 32 (.tmp 4) rfl ⟨g, 0, none⟩ rfl _ _ MX.out Try.underlying32 rfl hlenL ?_) | quiet_step ((go_at_call 18; refine Calls.regrown_of (CV.out _))))
            refine wpQuiet_nil ?_
            intro w7 hw7
            obtain ⟨pp, rfl⟩ := hw7
            have HK7 := Lib.hid (HK.out.below (below_regrown wr pp.d pp.os))
            generalize grow (redrawn wr pp.d) pp.os = w7 at HK7 ⊢
            clear hcR MR MX HC0 hc0
            go_wp2
            go_roundw
            case rel => exact ⟨j + 1, by omega, by go_num, by rw [HF2.out, if_neg (by rw [HOK.out]; simp)]; exact HK7.out⟩
            case measure => simp [intOf]; omega
          | true =>
            have cV : ∀ W, Calls Try.prog 18 #[lv y, lv l] W fun e w' => e = .returned (.bool true) ∧ Below W.heap.size W w' := fun W => by
              have := refConflict y l W
              rw [hcf] at this
              exact this
            have CV := Lib.hid cV
            have HCF := Lib.hid hcf
            clear cV hcf
            go_upto_region 11 with (fail)
            refine wp_region_quiet_below (by kernel_rfl) (by kernel_rfl) ?_
            repeat (first | (refine wpQuiet_load_cells rfl 32 (.tmp 55) rfl ⟨b, off + j * 6, none⟩ rfl _ _ MR.out Try.underlying32 rfl hlenL ?_) | (refine wpQuiet_load_cells rfl 32 (.tmp 64) rfl ⟨b, off + j * 6, none⟩ rfl _ _ MR.out Try.underlying32 rfl hlenL ?_) | (refine wpQuiet_load_cells rfl 32 (.tmp 4) rfl ⟨g, 0, none⟩ rfl _ _ MX.out Try.underlying32 rfl hlenL ?_) | quiet_step ((first | (go_at_call 18; refine Calls.regrown_of (CV.out _)) | (go_at_call 48; refine Calls.regrown_of (refConflicts y _ _ _ _ _ (HS3.out.below (below_regrown _ _ _)) (by omega))))))
            refine wpQuiet_nil ?_
            intro w7 hw7
            obtain ⟨pp, rfl⟩ := hw7
            have hbr := below_regrown wr pp.d pp.os
            have HK7 := Lib.hid (HK.out.below hbr)
            have HR7 := Lib.hid (MR.out _ ⟨pp, rfl⟩)
            clear hbr
            generalize grow (redrawn wr pp.d) pp.os = w7 at HK7 HR7 ⊢
            clear hcR MR MX HC0 hc0
            cases hany : (own h l.unit).any fun z => conflict z y with
            | true =>
              have HOK := Lib.hid (show waitsOn (own h l.unit) l y = false from by unfold waitsOn; rw [hany]; simp)
              clear hany
              go_wp2
              go_roundw
              case rel => exact ⟨j + 1, by omega, by go_num, by rw [HF2.out, if_neg (by rw [HOK.out]; simp)]; exact HK7.out⟩
              case measure => simp [intOf]; omega
            | false =>
              have HOK := Lib.hid (show waitsOn (own h l.unit) l y = true from by unfold waitsOn; rw [hany, HCF.out]; rfl)
              clear hany
              have hc7 := HK7.out.st.cell 1
              simp at hc7
              obtain ⟨a0, -, -, -, -, -⟩ := rcells HR7.out
              have hz7 := HK7.out.low.size
              obtain ⟨A7, c7, rfl, -, -⟩ := HK7.out.out.cells
              go_wp2_with (at_builtin; refine wpList_append_int rfl (.tmp 69) (.tmp 76) _ rfl w.heap.size i1 _ Try.underlying27 HI1.out HY0.out HY1.out HY2.out rfl _ us rfl (HK7.out.out.alloc _) y.unit w7.heap.size 1 rfl (World.cell?_alloc_mark w7 _ 3 (0, 0) 0) (by omega) (by simp; omega) ?_; intro v11 w11 hown11 hg11 hat11; have HK11 := Lib.hid (HK7.out.push hg11 hown11 (ownI_ne HK7.out.out HK7.out.lk (by decide))); clear hown11 hg11 hat11)
              go_roundw
              case rel => exact ⟨j + 1, by omega, by go_num, by rw [HF2.out, if_pos HOK.out]; exact HK11.out⟩
              case measure => simp [intOf]; omega
        · have hjm : j = m := by omega
          subst hjm
          have hkb := HK.out
          have HKZ := Lib.hid hkb
          clear hkb HK
          have i1' : ¬ (j : Int) < (j : Int) := by omega
          go_wp2
          go_ret
          exact ⟨_, rfl, by rw [blks_parts]; exact HKZ.out.out, HKZ.out.low⟩
end Go.Proofs.Ytkabfjknpjhonaa
namespace Go.Proofs.Ytkabfjknpjhonaa
open Go.RowKit P16 P46 Go.Sort
attribute [local go_sem] ByteArray.mk_append_mk ByteArray.extract_mk mk_index
attribute [local irreducible] wpQuiet

set_option maxRecDepth 100000 in
set_option maxHeartbeats 2000000 in
theorem refHas (A : Option Addr) (n c : Nat) (xs : List Int) (u : Int) (w : World) (h : IntsAt w A n xs) (hn : n ≤ 1000000) :
    Calls Try.prog 76 #[.slice A n c, .int .i64 u] w fun e w' => e = .returned (.bool (decide (u ∈ xs))) ∧ Below w.heap.size w w' := by
  have H := Lib.hid h
  clear h
  go_enter Try.func76, Try.ntmps76
  go_wp2
  go_loopw [5] (fun i wr => ∃ k : Nat, k ≤ n ∧ i = .int .i64 k ∧ Hid (∀ (j : Nat), j < k → ∀ y, xs[j]? = some y → y ≠ u) ∧ Below w.heap.size w wr) (fun i _ => n - (intOf i).toNat)
  case atStart => exact ⟨0, Nat.zero_le _, rfl, fun j hj => absurd hj (by omega), Below.refl _ _⟩
  case round =>
    obtain ⟨k, hk, rfl, hall, hbw⟩ := hrel
    have HB := Lib.hid hbw
    clear hbw
    by_cases hlt : k < n
    · obtain ⟨b, off, x, rfl, hx, x0⟩ := (H.out.below HB.out).at_ hlt
      have HX := Lib.hid hx
      clear hx
      have i0 : (0 : Int) ≤ (k : Int) := by omega
      have i1 : (k : Int) < (n : Int) := by omega
      by_cases hxu : x = u
      · have hb : (x == u) = true := by simp [hxu]
        have HO := Lib.hid (show decide (u ∈ xs) = true from decide_eq_true (hxu ▸ List.mem_of_getElem? HX.out))
        clear hxu
        go_wp2
        go_ret
        exact ⟨retBool HO.out.symm, HB.out⟩
      · have hb : (x == u) = false := by simp [hxu]
        have HU := Lib.hid hxu
        clear hxu
        go_wp2
        go_roundw
        case rel =>
          refine ⟨k + 1, by omega, by go_num, ?_, HB.out⟩
          intro j hj y hy
          by_cases hjk : j = k
          · subst hjk
            rw [HX.out] at hy
            obtain rfl := Option.some.inj hy
            exact HU.out
          · exact hall.out j (by omega) y hy
        case measure => simp [intOf]; omega
    · have hkn : k = n := by omega
      subst hkn
      have HO := Lib.hid (show decide (u ∈ xs) = false from by
        rw [decide_eq_false_iff_not]
        intro hu
        obtain ⟨j, hj⟩ := List.mem_iff_getElem?.1 hu
        exact hall.out j (by have := H.out.len; have := (List.getElem?_eq_some_iff.1 hj).1; omega) u hj rfl)
      go_wp2
      go_ret
      exact ⟨retBool HO.out.symm, HB.out⟩
theorem idx_eq {q : List Lock} {u : Int} {k : Nat} {l : Lock} (hl : q[k]? = some l) (hu : l.unit = u) (h : ∀ (j : Nat), j < k → ∀ y : Lock, q[j]? = some y → y.unit ≠ u) : idx q u = some k := by
  unfold idx
  rw [List.findIdx?_eq_some_iff_getElem]
  obtain ⟨hk, rfl⟩ := List.getElem?_eq_some_iff.1 hl
  exact ⟨hk, by simpa using hu, fun j hj => by simpa using h j hj _ (List.getElem?_eq_getElem (by omega))⟩
set_option maxRecDepth 100000 in
set_option maxHeartbeats 4000000 in
theorem refBlockers (u : Int) (A1 A2 : Option Addr) (n1 c1 n2 c2 : Nat) (h q : List Lock) (w : World) (hh : LocksAt w A1 n1 h) (hq : LocksAt w A2 n2 q) (hn1 : n1 ≤ 100000) (hn2 : n2 ≤ 100000) :
    Calls Try.prog 34 #[.agg #[.slice A1 n1 c1, .slice A2 n2 c2], .int .i64 u] w fun e w' => ∃ v, e = .returned v ∧ OwnI w' w.heap.size v (blockers ⟨h, q⟩ u) ∧ Below w.heap.size w w' := by
  have HH := Lib.hid hh
  have HQ := Lib.hid hq
  clear hh hq
  have hlenL : (Try.prog.info? 32).map (·.size) = some 6 := by kernel_rfl
  have hlenS : (Try.prog.info? tS).map (·.size) = some 2 := by kernel_rfl
  go_enter Try.func34, Try.ntmps34
  go_upto_region 1 with (fail)
  obtain ⟨w1, p, e1, e2, hb1, h1⟩ := boxes1 w tS #[.slice A1 n1 c1, .slice A2 n2 c2]
  rw [e1, e2]
  have HS1 := Lib.hid h1
  have HB1 := Lib.hid hb1
  clear e1 e2 hb1 h1
  go_wp2
  go_loopw [5] (fun i wr => ∃ k : Nat, k ≤ n2 ∧ i = .int .i64 k ∧ Hid (∀ (j : Nat), j < k → ∀ y : Lock, q[j]? = some y → y.unit ≠ u) ∧ w1 = wr) (fun i _ => n2 - (intOf i).toNat)
  case atStart => exact ⟨0, Nat.zero_le _, rfl, fun j hj => absurd hj (by omega), rfl⟩
  case round =>
    obtain ⟨k, hk, rfl, hall, rfl⟩ := hrel
    have hc0 := HS1.out.cell 1
    simp at hc0
    have HC0 := Lib.hid hc0
    have HQa := Lib.hid (HQ.out.below HB1.out)
    have HHa := Lib.hid (HH.out.below HB1.out)
    by_cases hlt : k < n2
    · obtain ⟨b, off, y, rfl, hy, x0, -⟩ := HQa.out.at_ hlt
      have HY := Lib.hid hy
      have hr := HQa.out.row hy
      have HR := Lib.hid hr
      clear hr hy
      have i0 : (0 : Int) ≤ (k : Int) := by omega
      have i1 : (k : Int) < (n2 : Int) := by omega
      by_cases hxu : y.unit = u
      · have hb : (y.unit == u) = true := by simp [hxu]
        have HIX := Lib.hid (idx_eq HY.out hxu hall.out)
        clear hxu
        have HB := Lib.hid (blockers_some (s := ⟨h, q⟩) HIX.out HY.out)
        go_upto_region 5 with (fail)
        go_still_tail 7, (by kernel_rfl)
        refine wpStill_load_cells rfl tS (.tmp 2) rfl ⟨p, 0, none⟩ rfl #[.slice A1 n1 c1, .slice (some ⟨b, off, none⟩) n2 c2] _ (by exact HS1.out.add) Try.underlying51 rfl hlenS ?_
        repeat still_step
        refine wpStill_load_cells rfl 32 (.tmp 25) rfl ⟨b, off + k * 6, none⟩ rfl (la y) _ (by exact HR.out) Try.underlying32 rfl hlenL ?_
        repeat still_step
        try refine wpStill_nil ?_
        have hbd := below_drewN (Below.refl w1.heap.size w1) 1
        go_wp2_with (go_at_call 58; refine (refBlocks y A1 _ n1 c1 n2 c2 k h q _ (HHa.out.below hbd) (HQa.out.below hbd) hn1 hn2 (by omega)).mono ?_; rintro e w5 ⟨v5, rfl, ho5, hb5⟩; have HO5 := Lib.hid ho5; have HB5 := Lib.hid ((HB1.out.trans (hbd.mono HB1.out.size)).trans (hb5.mono HB1.out.size)); clear ho5 hb5)
        go_ret
        exact ⟨_, rfl, by rw [HB.out]; exact HO5.out.base HB1.out.size, HB5.out⟩
      · have hb : (y.unit == u) = false := by simp [hxu]
        have HU := Lib.hid hxu
        clear hxu
        go_wp2
        go_roundw
        case rel =>
          refine ⟨k + 1, by omega, by go_num, ?_, trivial⟩
          intro j hj z hz
          by_cases hjk : j = k
          · subst hjk
            rw [HY.out] at hz
            obtain rfl := Option.some.inj hz
            exact HU.out
          · exact hall.out j (by omega) z hz
        case measure => simp [intOf]; omega
    · have hkn : k = n2 := by omega
      subst hkn
      have HO := Lib.hid (show blockers ⟨h, q⟩ u = [] from blockers_none (idx_none.2 (fun l hl => by
        obtain ⟨j, hj⟩ := List.mem_iff_getElem?.1 hl
        have hl2 := HQ.out.len
        have hj2 := (List.getElem?_eq_some_iff.1 (show q[j]? = some l from hj)).1
        exact hall.out j (by omega) l hj)))
      go_wp2
      go_ret
      exact ⟨_, rfl, by rw [HO.out]; exact OwnI.nil _ _, HB1.out⟩
/-- One lock covers another one. -/
def cov1 (y x : Lock) : Bool := decide (y.unit = x.unit) && decide (y.id = x.id) && (y.x || !x.x) && covers y.r x.r
theorem covered_any (h : List Lock) (x : Lock) : covered h x = h.any fun y => cov1 y x := rfl
set_option maxRecDepth 100000 in
set_option maxHeartbeats 4000000 in
theorem refCovered (l : Lock) (A1 A2 : Option Addr) (n1 c1 n2 c2 : Nat) (h : List Lock) (w : World) (hh : LocksAt w A1 n1 h) (hn1 : n1 ≤ 100000) :
    Calls Try.prog 57 #[.agg #[.slice A1 n1 c1, .slice A2 n2 c2], lv l] w fun e w' => e = .returned (.bool (covered h l)) ∧ Below w.heap.size w w' := by
  have HH := Lib.hid hh
  clear hh
  have hlenL : (Try.prog.info? 32).map (·.size) = some 6 := by kernel_rfl
  unfold lv
  go_enter Try.func57, Try.ntmps57
  go_upto_region 1 with (fail)
  obtain ⟨w1, p, g, e1, e2, e3, hb1, h1, h2⟩ : ∃ (w2 : World) (p q : Nat), (w.alloc (.cells #[.slice A1 n1 c1, .slice A2 n2 c2] tS)).alloc (.cells (la l) tL) = w2 ∧ w.heap.size = p ∧ w.heap.size + 1 = q ∧ Below w.heap.size w w2 ∧ Blk w2 p tS #[.slice A1 n1 c1, .slice A2 n2 c2] ∧ Blk w2 q tL (la l) := by
    refine ⟨_, _, _, rfl, rfl, rfl, below_alloc (below_alloc (Below.refl _ _) _) _, (Blk.new w tS _).alloc _, ?_⟩
    have := Blk.new (w.alloc (.cells #[.slice A1 n1 c1, .slice A2 n2 c2] tS)) tL (la l)
    rwa [World.size_alloc] at this
  unfold la at e1
  rw [e1, e3, e2]
  have HH1 := Lib.hid (HH.out.below hb1)
  have HB1 := Lib.hid hb1
  have HS1 := Lib.hid h1
  have HL1 := Lib.hid h2
  clear e1 e2 e3 hb1 h1 h2
  go_wp2
  go_loopw [5] (fun i wr => ∃ k : Nat, k ≤ n1 ∧ i = .int .i64 k ∧ Hid (∀ (j : Nat), j < k → ∀ y : Lock, h[j]? = some y → cov1 y l = false) ∧ Below w1.heap.size w1 wr) (fun i _ => n1 - (intOf i).toNat)
  case atStart => exact ⟨0, Nat.zero_le _, rfl, fun j hj => absurd hj (by omega), Below.refl _ _⟩
  case round =>
    obtain ⟨k, hk, rfl, hall, hbw⟩ := hrel
    have HB := Lib.hid hbw
    have hsz := hbw.size
    clear hbw
    have hc0 := (HS1.out.below HB.out).cell 0
    simp at hc0
    by_cases hlt : k < n1
    · obtain ⟨b, off, y, rfl, hy, -⟩ := (HH1.out.below HB.out).at_ hlt
      have HY := Lib.hid hy
      have HR := Lib.hid ((HH1.out.below HB.out).row hy)
      clear hy
      go_upto_region 5 with (refine wpList_load_cells rfl 32 (.tmp 17) rfl ⟨b, off + k * 6, none⟩ rfl _ _ HR.out Try.underlying32 rfl hlenL ?_)
      obtain ⟨w4, g4, e1, e2, hb4, h4⟩ := boxes1 wr 32 (la y)
      unfold la at e1
      rw [e1, e2]
      have HB4 := Lib.hid (HB.out.trans (hb4.mono hsz))
      obtain ⟨a0, a1, a2, a3, a4, a5⟩ := lcells h4
      obtain ⟨b0, b1, b2, b3, b4, b5⟩ := lcells (HL1.out.below HB4.out)
      clear e1 e2 hb4 h4 hc0
      go_cut [46] (fun s wx => s = .bool (cov1 y l) ∧ Below w4.heap.size w4 wx)
      case first =>
        have HV := Lib.hid (show cov1 y l = ((y.unit == l.unit) && (y.id == l.id) && (y.x || !l.x) && covers y.r l.r) from by
          unfold cov1
          rw [show decide (y.unit = l.unit) = (y.unit == l.unit) from by rw [Bool.eq_iff_iff]; simp, show decide (y.id = l.id) = (y.id == l.id) from by rw [Bool.eq_iff_iff]; simp])
        generalize hyx : y.x = yx at *
        generalize hlx : l.x = lx at *
        cases hu : (y.unit == l.unit) <;> cases hi : (y.id == l.id) <;> cases yx <;> cases lx
        all_goals
          have hv := HV.out
          rw [hu, hi] at hv
          have HV2 := Lib.hid hv
          clear hv HV hyx hlx
          go_wp2_with (go_at_call 75; refine (refCovers35 y.r l.r _).mono ?_; rintro e w' ⟨rfl, hb2⟩; have HB22 := Lib.hid hb2; clear hb2)
          go_meet
          case rel => exact ⟨by rw [HV2.out]; simp, by first | exact HB22.out | exact Below.refl _ _⟩
      case rest =>
        obtain ⟨rfl, hbc⟩ := hcut
        have HBC := Lib.hid (HB4.out.trans (hbc.mono HB4.out.size))
        clear hbc a0 a1 a2 a3 a4 a5 b0 b1 b2 b3 b4 b5
        cases hcv : cov1 y l with
        | true =>
          have HO := Lib.hid (show covered h l = true from by rw [covered_any]; exact List.any_eq_true.2 ⟨y, List.mem_of_getElem? HY.out, hcv⟩)
          clear hcv
          go_wp2
          go_ret
          exact ⟨retBool HO.out.symm, HB1.out.trans (HBC.out.mono HB1.out.size)⟩
        | false =>
          have HCV := Lib.hid hcv
          clear hcv
          go_wp2
          go_roundw
          case rel =>
            refine ⟨k + 1, by omega, by go_num, ?_, HBC.out⟩
            intro j hj z hz
            by_cases hjk : j = k
            · subst hjk
              rw [HY.out] at hz
              obtain rfl := Option.some.inj hz
              exact HCV.out
            · exact hall.out j (by omega) z hz
          case measure => simp [intOf]; omega
    · have hkn : k = n1 := by omega
      subst hkn
      have HO := Lib.hid (show covered h l = false from by
        rw [covered_any, List.any_eq_false]
        intro y hy
        obtain ⟨j, hj⟩ := List.mem_iff_getElem?.1 hy
        have hl2 := HH.out.len
        have hj2 := (List.getElem?_eq_some_iff.1 hj).1
        rw [hall.out j (by omega) y hj]
        simp)
      go_wp2
      go_ret
      exact ⟨retBool HO.out.symm, HB1.out.trans (HB.out.mono HB1.out.size)⟩
end Go.Proofs.Ytkabfjknpjhonaa
namespace P46
open P16
/-- A number at the end of a list, if it is not in it. -/
def addNew (l : List Int) (x : Int) : List Int := if x ∈ l then l else l ++ [x]
def addAll (l xs : List Int) : List Int := xs.foldl addNew l
theorem addAll_take {l xs : List Int} {k : Nat} {x : Int} (h : xs[k]? = some x) : addAll l (xs.take (k + 1)) = addNew (addAll l (xs.take k)) x := by
  unfold addAll
  rw [List.take_add_one, h, List.foldl_append]
  rfl
/-- What the search has seen: the first ones, and behind them others, each once, all of 'us'. -/
def Seen (bs us seen : List Int) : Prop := ∃ ex, seen = bs ++ ex ∧ ex.Nodup ∧ (∀ v ∈ ex, v ∈ us) ∧ ∀ v ∈ ex, v ∉ bs
theorem Seen.nil (bs us : List Int) : Seen bs us bs := ⟨[], by simp, by simp, by simp, by simp⟩
theorem Seen.add {bs us seen : List Int} (h : Seen bs us seen) {x : Int} (hx : x ∈ us) : Seen bs us (addNew seen x) := by
  unfold addNew
  split
  · exact h
  · rename_i hn
    obtain ⟨ex, rfl, h1, h2, h3⟩ := h
    refine ⟨ex ++ [x], by simp, ?_, ?_, ?_⟩
    · rw [List.nodup_append]
      refine ⟨h1, by simp, ?_⟩
      intro a ha b hb e
      rw [List.mem_singleton.1 hb] at e
      subst e
      exact hn (List.mem_append_right _ ha)
    · intro v hv
      rcases List.mem_append.1 hv with hv | hv
      · exact h2 v hv
      · rw [List.mem_singleton.1 hv]
        exact hx
    · intro v hv
      rcases List.mem_append.1 hv with hv | hv
      · exact h3 v hv
      · rw [List.mem_singleton.1 hv]
        exact fun hb => hn (List.mem_append_left _ hb)
theorem Seen.len {bs us seen : List Int} (h : Seen bs us seen) : seen.length ≤ bs.length + us.length := by
  obtain ⟨ex, rfl, h1, h2, _⟩ := h
  have := nodup_len ex us h1 h2
  rw [List.length_append]
  omega
theorem mem_addNew {l : List Int} {x v : Int} : v ∈ addNew l x ↔ v ∈ l ∨ v = x := by
  unfold addNew
  split
  · rename_i h
    exact ⟨.inl, fun h' => h'.elim id (fun e => e ▸ h)⟩
  · simp
theorem mem_addAll : ∀ {xs l : List Int} {v : Int}, v ∈ addAll l xs ↔ v ∈ l ∨ v ∈ xs
  | [], l, v => by simp [addAll]
  | x :: xs, l, v => by
    have := mem_addAll (xs := xs) (l := addNew l x) (v := v)
    unfold addAll at this ⊢
    rw [List.foldl_cons, this, mem_addNew, List.mem_cons, or_assoc]
theorem Seen.all {bs us : List Int} : ∀ {xs seen : List Int}, Seen bs us seen → (∀ x ∈ xs, x ∈ us) → Seen bs us (addAll seen xs)
  | [], _, h, _ => h
  | x :: xs, _, h, hx => Seen.all (xs := xs) (h.add (hx x (by simp))) (fun y hy => hx y (List.mem_cons_of_mem _ hy))
theorem addNew_get {l : List Int} {x : Int} {j : Nat} {v : Int} (h : l[j]? = some v) : (addNew l x)[j]? = some v := by
  unfold addNew
  split
  · exact h
  · rw [List.getElem?_append_left (List.getElem?_eq_some_iff.1 h).1]
    exact h
theorem addAll_get : ∀ {xs l : List Int} {j : Nat} {v : Int}, l[j]? = some v → (addAll l xs)[j]? = some v
  | [], _, _, _, h => h
  | _ :: xs, _, _, _, h => addAll_get (xs := xs) (addNew_get h)
/-- The search has come to place i: those before it are not the unit, and whom they wait for is seen. -/
structure Wide (s : St) (bs : List Int) (u : Int) (i : Nat) (seen : List Int) : Prop where
  once : Seen bs ((s.h ++ s.q).map (·.unit)) seen
  from_ : ∀ v ∈ seen, ∃ b ∈ bs, Reach s b v
  done : ∀ j, j < i → ∀ v, seen[j]? = some v → v ≠ u ∧ ∀ w ∈ blockers s v, w ∈ seen
theorem reach_trans {s : St} {a b c : Int} (h : Reach s a b) (k : Reach s b c) : Reach s a c := by
  induction h with
  | refl => exact k
  | step e _ ih => exact .step e (ih k)
theorem Wide.start (s : St) (bs : List Int) (u : Int) : Wide s bs u 0 bs :=
  ⟨Seen.nil _ _, fun v hv => ⟨v, hv, .refl v⟩, fun j hj => absurd hj (by omega)⟩
theorem blocker_unit {s : St} {u v : Int} (h : v ∈ blockers s u) : v ∈ (s.h ++ s.q).map (·.unit) := by
  unfold blockers at h
  cases hi : idx s.q u with
  | none => rw [hi] at h; cases h
  | some i =>
    rw [hi] at h
    dsimp only at h
    obtain ⟨l, h1, _⟩ := idx_some hi
    rw [h1] at h
    dsimp only at h
    rcases mem_blks.1 h with ⟨y, hy, rfl, _⟩ | ⟨y, hy, rfl, _⟩
    · exact List.mem_map.2 ⟨y, List.mem_append_left _ hy, rfl⟩
    · exact List.mem_map.2 ⟨y, List.mem_append_right _ (List.mem_of_mem_take hy), rfl⟩
theorem Wide.next {s : St} (ho : Ones s.q) {bs : List Int} {u : Int} {i : Nat} {seen : List Int} (w : Wide s bs u i seen) {v : Int} (hv : seen[i]? = some v) (hne : v ≠ u) : Wide s bs u (i + 1) (addAll seen (blockers s v)) := by
  refine ⟨w.once.all (fun x hx => blocker_unit hx), ?_, ?_⟩
  · intro x hx
    rcases mem_addAll.1 hx with hx | hx
    · exact w.from_ x hx
    · obtain ⟨b, hb, hr⟩ := w.from_ v (List.mem_of_getElem? hv)
      exact ⟨b, hb, reach_trans hr (.step ((edge_blockers ho).2 hx) (.refl _))⟩
  · intro j hj x hx
    have hlt : j < seen.length := by
      have := (List.getElem?_eq_some_iff.1 hv).1
      omega
    obtain ⟨y, hy⟩ : ∃ y, seen[j]? = some y := ⟨_, List.getElem?_eq_getElem hlt⟩
    have h2 := addAll_get (xs := blockers s v) hy
    rw [hx] at h2
    obtain rfl := Option.some.inj h2
    by_cases hji : j = i
    · subst hji
      rw [hv] at hy
      obtain rfl := Option.some.inj hy
      exact ⟨hne, fun w' hw => mem_addAll.2 (.inr hw)⟩
    · obtain ⟨h3, h4⟩ := w.done j (by omega) x hy
      exact ⟨h3, fun w' hw => mem_addAll.2 (.inl (h4 w' hw))⟩
theorem Wide.yes {s : St} {bs : List Int} {u : Int} {i : Nat} {seen : List Int} (w : Wide s bs u i seen) (hv : seen[i]? = some u) : reaches s bs u = true :=
  reaches_iff.2 (w.from_ u (List.mem_of_getElem? hv))
theorem Wide.no {s : St} (ho : Ones s.q) {bs : List Int} {u : Int} {i : Nat} {seen : List Int} (w : Wide s bs u i seen) (hi : seen.length ≤ i) : reaches s bs u = false := by
  cases h : reaches s bs u with
  | false => rfl
  | true =>
    exfalso
    obtain ⟨b, hb, hr⟩ := reaches_iff.1 h
    have hcl : ∀ x ∈ seen, x ≠ u ∧ ∀ y ∈ blockers s x, y ∈ seen := by
      intro x hx
      obtain ⟨j, hj⟩ := List.mem_iff_getElem?.1 hx
      exact w.done j (by have := (List.getElem?_eq_some_iff.1 hj).1; omega) x hj
    have hbs : b ∈ seen := by
      obtain ⟨ex, rfl, _⟩ := w.once
      exact List.mem_append_left _ hb
    exact closed_no hcl ((path_reach ho).2 hr) hbs rfl
end P46
namespace Go.Proofs.Ytkabfjknpjhonaa
open Go.RowKit P16 P46 Go.Sort
attribute [local go_sem] ByteArray.mk_append_mk ByteArray.extract_mk mk_index
attribute [local irreducible] wpQuiet

/-- The wide search at work: the state's box, whom it has seen, whom the one in hand waits for. -/
structure RR (w wr : World) (p : Nat) (cs : Array Value) (vs : Value) (seen : List Int) (vb : Value) (bl : List Int) : Prop where
  st : Blk wr p tS cs
  seen : OwnI wr w.heap.size vs seen
  next : OwnI wr w.heap.size vb bl
  apart : vb.ownBlock = none ∨ vb.ownBlock ≠ vs.ownBlock
  low : Below w.heap.size w wr
section
variable {w wr w' : World} {p : Nat} {cs : Array Value} {vs vs' vb : Value} {seen seen' bl : List Int}
theorem RR.below (k : RR w wr p cs vs seen vb bl) (hb : Below wr.heap.size wr w') : RR w w' p cs vs seen vb bl :=
  ⟨k.st.below hb, k.seen.below hb, k.next.below hb, k.apart, k.low.trans (hb.mono k.low.size)⟩
theorem RR.push {ob : Obj} (k : RR w wr p cs vs seen vb bl) (hg : (wr.alloc ob).grownBy w' vs.ownBlock) (ho : OwnI w' w.heap.size vs' seen') (hat : vs'.ownBlock = vs.ownBlock ∨ vs'.ownBlock = some (wr.alloc ob).heap.size) : RR w w' p cs vs' seen' vb bl := by
  have hz := k.low.size
  refine ⟨(k.st.alloc ob).grown hg (ownI_ne k.seen k.st (by decide)), ho, (k.next.alloc ob).kept hg k.apart, ?_, (k.low.alloc hz _).grown hg (by rw [World.size_alloc]; omega) (fun j hj => (k.seen.lt j hj).1)⟩
  rcases hat with e | e
  · rw [e]
    exact k.apart
  · rw [e]
    refine .inr fun e2 => ?_
    have := (k.next.lt _ e2).2
    rw [World.size_alloc] at this
    omega
theorem RR.fresh (k : RR w wr p cs vs seen vb bl) {vb' : Value} {bl' : List Int} (hb : Below wr.heap.size wr w') (ho : OwnI w' wr.heap.size vb' bl') : RR w w' p cs vs seen vb' bl' := by
  refine ⟨k.st.below hb, k.seen.below hb, ho.base k.low.size, ?_, k.low.trans (hb.mono k.low.size)⟩
  cases h : vb'.ownBlock with
  | none => exact .inl rfl
  | some g =>
    refine .inr fun e => ?_
    have h1 := (ho.lt g h).1
    have h2 := (k.seen.lt g e.symm).2
    omega
end
theorem OwnI.reads3 {w : World} {B : Nat} {A : Option Addr} {n c : Nat} {xs : List Int} (h : OwnI w B (.slice A n c) xs) : IntsAt w A n xs ∧ xs.length = n := by
  obtain ⟨A9, c9, h9, hq9, -⟩ := h.cells
  injection h9 with h91 h92 h93
  subst h91
  exact ⟨by rw [h92]; exact hq9, h92.symm⟩
theorem blockers_len (s : St) (u : Int) : (blockers s u).length ≤ s.h.length + s.q.length := by
  unfold blockers
  split
  · simp
  · split
    · simp
    · rename_i i _ _ l _
      rw [blks_parts, List.length_append]
      have h1 := blkH_len s.h l
      have h2 := blkQ_len (own s.h l.unit) (s.q.take i) l
      have h3 := List.length_take_le' i s.q
      omega
theorem addAll_len (l xs : List Int) : l.length ≤ (addAll l xs).length := by
  unfold addAll
  induction xs generalizing l with
  | nil => exact Nat.le_refl _
  | cons x xs ih =>
    refine Nat.le_trans ?_ (ih (addNew l x))
    unfold addNew
    split
    · exact Nat.le_refl _
    · simp
theorem addAll_take_len (l xs : List Int) (j : Nat) : (addAll l (xs.take j)).length ≤ (addAll l xs).length := by
  have e : addAll l xs = addAll (addAll l (xs.take j)) (xs.drop j) := by
    unfold addAll
    rw [← List.foldl_append, List.take_append_drop]
  rw [e]
  exact addAll_len _ _
set_option maxRecDepth 100000 in
set_option maxHeartbeats 4000000 in
theorem refReaches (u : Int) (A1 A2 A3 : Option Addr) (n1 c1 n2 c2 n3 c3 : Nat) (h q : List Lock) (bs : List Int) (w : World) (hh : LocksAt w A1 n1 h) (hq : LocksAt w A2 n2 q) (hb : IntsAt w A3 n3 bs) (hnil : A3 = none → n3 = 0) (hn1 : n1 ≤ 100000) (hn2 : n2 ≤ 100000) (hn3 : n3 ≤ 100000) (ho : Ones q) :
    Calls Try.prog 59 #[.agg #[.slice A1 n1 c1, .slice A2 n2 c2], .slice A3 n3 c3, .int .i64 u] w fun e w' => e = .returned (.bool (reaches ⟨h, q⟩ bs u)) ∧ Below w.heap.size w w' := by
  have HH := Lib.hid hh
  have HQ := Lib.hid hq
  have HBS := Lib.hid hb
  have HNI := Lib.hid hnil
  have HON := Lib.hid (show Ones (St.mk h q).q from ho)
  clear hh hq hb hnil ho
  have hlenS : (Try.prog.info? tS).map (·.size) = some 2 := by kernel_rfl
  obtain ⟨i1, hi1, hy0, hy1, hy2⟩ := info_parts infoI
  have HI1 := Lib.hid hi1
  have HY0 := Lib.hid hy0
  have HY1 := Lib.hid hy1
  have HY2 := Lib.hid hy2
  clear hi1 hy0 hy1 hy2
  go_enter Try.func59, Try.ntmps59
  go_upto_region 1 with (fail)
  obtain ⟨w1, p, e1, e2, hb1, h1⟩ := boxes1 w tS #[.slice A1 n1 c1, .slice A2 n2 c2]
  rw [e1, e2]
  have HS1 := Lib.hid h1
  have HB1 := Lib.hid hb1
  have HI3 := Lib.hid (HBS.out.below hb1)
  have hz1 := hb1.size
  clear e1 e2 hb1 h1
  go_wp2_with (at_builtin; refine wpList_append_cells rfl (.tmp 11) (.tmp 12) _ rfl w.heap.size 3 i1 _ 1 8 Try.underlying27 HI1.out HY0.out HY1.out HY2.out rfl (by omega) (by omega) _ 0 0 [] rfl (by omega) (OwnI.empty w1 w.heap.size hz1) (bs.map (.int .i64)) A3 n3 c3 rfl HNI.out (HI3.out.below (below_alloc (Below.refl _ _) _)) (ints_one _) (by omega) (by simp; omega) ?_; intro v11 w11 hown11 hg11; have HO11 := Lib.hid hown11; have HG11 := Lib.hid hg11; clear hown11 hg11)
  have hp1 := HS1.out.lt
  have HR0 := Lib.hid (show RR w w11 p #[.slice A1 n1 c1, .slice A2 n2 c2] v11 bs (.slice none 0 0) [] from by
    have hl := HBS.out.len
    refine ⟨(HS1.out.alloc _).grown HG11.out (by simp [Value.ownBlock]; omega), ?_, OwnI.nil _ _, .inl rfl, (HB1.out.alloc hz1 _).grown HG11.out (by rw [World.size_alloc]; omega) (fun j hj => by simp [Value.ownBlock] at hj; omega)⟩
    have := HO11.out
    rw [Nat.zero_add, List.nil_append, ← hl] at this
    exact this)
  clear HO11 HG11 HI3
  obtain ⟨M, hM⟩ : ∃ M, bs.length + ((h ++ q).map (·.unit)).length = M := ⟨_, rfl⟩
  have hMb : M ≤ 300000 := by
    have hl := HBS.out.len
    have hl1 := HH.out.len
    have hl2 := HQ.out.len
    simp at hM
    omega
  have HMM := Lib.hid hM
  clear hM
  go_loopw [7, 8] (fun v i wr => ∃ (k : Nat) (seen : List Int), i = .int .i64 k ∧ k ≤ seen.length ∧ seen.length ≤ M ∧ Hid (Wide ⟨h, q⟩ bs u k seen) ∧ RR w wr p #[.slice A1 n1 c1, .slice A2 n2 c2] v seen (.slice none 0 0) []) (fun _ i _ => M - (intOf i).toNat)
  case atStart => exact ⟨0, bs, rfl, Nat.zero_le _, by have := HMM.out; omega, Wide.start _ _ _, HR0.out⟩
  case round =>
    obtain ⟨k, seen, rfl, hks, hsM, hwd, hr⟩ := hrel
    have HR := Lib.hid hr
    obtain ⟨A5, c5, rfl, hs5, -⟩ := hr.seen.cells
    have HS5 := Lib.hid hs5
    obtain ⟨m, hm⟩ : ∃ m, seen.length = m := ⟨_, rfl⟩
    have HLM := Lib.hid hm
    rw [hm] at hks hsM HS5 HR ⊢
    clear hr hs5 hm
    by_cases hlt : k < m
    · obtain ⟨b, off, x, rfl, hx, x0⟩ := HS5.out.at_ hlt
      have HX := Lib.hid hx
      clear hx
      have i0 : (0 : Int) ≤ (k : Int) := by omega
      have i1' : (k : Int) < (m : Int) := by omega
      by_cases hxu : x = u
      · have hb : (x == u) = true := by simp [hxu]
        have HY := Lib.hid (show reaches ⟨h, q⟩ bs u = true from hwd.out.yes (by rw [← hxu]; exact HX.out))
        clear hxu
        go_wp2
        go_ret
        exact ⟨retBool HY.out.symm, HR.out.low⟩
      · have hb : (x == u) = false := by simp [hxu]
        have HW := Lib.hid (hwd.out.next HON.out HX.out hxu)
        have hnew := HW.out.once.len
        rw [HMM.out] at hnew
        clear hxu
        have hHw := Lib.hid (HH.out.below HR.out.low)
        have hQw := Lib.hid (HQ.out.below HR.out.low)
        go_upto_region 7 with (fail)
        go_still_tail 5, (by kernel_rfl)
        refine wpStill_load_cells rfl tS (.tmp 3) rfl ⟨p, 0, none⟩ rfl #[.slice A1 n1 c1, .slice A2 n2 c2] _ (by exact HR.out.st.add) Try.underlying51 rfl hlenS ?_
        repeat still_step
        try refine wpStill_nil ?_
        have hbd := below_drewN (Below.refl wr.heap.size wr) 1
        have HRd := Lib.hid (HR.out.below hbd)
        go_wp2_with (go_at_call 34; refine (refBlockers x A1 A2 n1 c1 n2 c2 h q _ (hHw.out.below hbd) (hQw.out.below hbd) hn1 hn2).mono ?_; rintro e w5 ⟨v5, rfl, ho5, hb5⟩; have HRF := Lib.hid (HRd.out.fresh hb5 ho5); clear ho5 hb5)
        obtain ⟨A6, c6, rfl, hs6, -⟩ := HRF.out.next.cells
        have hl6 := blockers_len ⟨h, q⟩ x
        simp only [HH.out.len, HQ.out.len] at hl6
        generalize blockers ⟨h, q⟩ x = bl at *
        obtain ⟨m6, hm6⟩ : ∃ m6, bl.length = m6 := ⟨_, rfl⟩
        rw [hm6] at HRF ⊢
        have HL6 := Lib.hid hm6
        have HMN := Lib.hid hnew
        clear hs6 hm6 HRd hbd hHw hQw x0 HS5 HR hwd hnew
        obtain ⟨wo, hwo⟩ : ∃ wo : World, wo = wr := ⟨_, rfl⟩
        clear hwo
        rw [HL6.out] at hl6
        go_loopw [7, 10] (fun v i wr => ∃ (j : Nat) (se : List Int), i = .int .i64 j ∧ j ≤ m6 ∧ Hid (se = addAll seen (bl.take j)) ∧ RR w wr p #[.slice A1 n1 c1, .slice A2 n2 c2] v se (.slice A6 m6 c6) bl) (fun _ i _ => m6 - (intOf i).toNat)
        case atStart => exact ⟨0, seen, rfl, Nat.zero_le _, rfl, HRF.out⟩
        case round =>
          obtain ⟨j, se, rfl, hj, hse, hr⟩ := hrel
          have HR := Lib.hid hr
          obtain ⟨A5, c5, rfl, hs5, -⟩ := hr.seen.cells
          have HS5 := Lib.hid hs5
          obtain ⟨hs6, -⟩ := hr.next.reads3
          have HS6 := Lib.hid hs6
          clear hr hs5 hs6
          by_cases hlt6 : j < m6
          · obtain ⟨b6, off6, y, rfl, hy, y0⟩ := HS6.out.at_ hlt6
            have HY := Lib.hid (addAll_take (l := seen) hy)
            have hsl : se.length ≤ M := by
              rw [hse.out]
              exact Nat.le_trans (addAll_take_len _ _ _) HMN.out
            obtain ⟨ms, hms⟩ : ∃ ms, se.length = ms := ⟨_, rfl⟩
            rw [hms] at HR HS5 hsl ⊢
            have HMS := Lib.hid hms
            have j0 : (0 : Int) ≤ (j : Int) := by omega
            have j1 : (j : Int) < (m6 : Int) := by omega
            clear hms hy
            by_cases hme : y ∈ se
            · have HME := Lib.hid (decide_eq_true hme)
              have HAD := Lib.hid (show addAll seen (bl.take (j + 1)) = se from by rw [HY.out, ← hse.out]; unfold addNew; rw [if_pos hme])
              clear hme
              go_wp2_with (go_at_call 76; refine (refHas A5 ms c5 se y _ HS5.out (by omega)).mono ?_; rintro e w8 ⟨rfl, hb8⟩; rw [HME.out]; have HR8 := Lib.hid (HR.out.below hb8); have y8 : w8.cell? ⟨b6, off6 + j, none⟩ = some (.int .i64 y) := (by rw [hb8.cell (p := ⟨b6, off6 + j, none⟩) (World.block_lt_of_cell? wr _ y0)]; exact y0); have hz8 := HR8.out.low.size; clear hb8)
              go_roundw
              case rel => exact ⟨j + 1, se, by go_num, by omega, by rw [HAD.out]; rfl, HR8.out⟩
              case measure => simp [intOf]; omega
            · have HME := Lib.hid (decide_eq_false hme)
              have HAD := Lib.hid (show addAll seen (bl.take (j + 1)) = se ++ [y] from by rw [HY.out, ← hse.out]; unfold addNew; rw [if_neg hme])
              clear hme
              go_wp2_with (first | (go_at_call 76; refine (refHas A5 ms c5 se y _ HS5.out (by omega)).mono ?_; rintro e w8 ⟨rfl, hb8⟩; rw [HME.out]; have HR8 := Lib.hid (HR.out.below hb8); have y8 : w8.cell? ⟨b6, off6 + j, none⟩ = some (.int .i64 y) := (by rw [hb8.cell (p := ⟨b6, off6 + j, none⟩) (World.block_lt_of_cell? wr _ y0)]; exact y0); have hz8 := HR8.out.low.size; clear hb8) | (at_builtin; refine wpList_append_int rfl (.tmp 45) (.tmp 50) _ rfl w.heap.size i1 _ Try.underlying27 HI1.out HY0.out HY1.out HY2.out rfl _ se rfl (HR8.out.seen.alloc _) y w8.heap.size 1 rfl (World.cell?_alloc_mark w8 _ 3 (0, 0) 0) (by rw [HMS.out]; omega) (by simp; omega) ?_; intro v11 w11 hown11 hg11 hat11; have HR11 := Lib.hid (HR8.out.push hg11 hown11 hat11); clear hown11 hg11 hat11))
              go_roundw
              case rel => exact ⟨j + 1, se ++ [y], by go_num, by omega, by rw [HAD.out]; rfl, HR11.out⟩
              case measure => simp [intOf]; omega
          · have hjm : j = m6 := by omega
            subst hjm
            have he : bl.take j = bl := List.take_of_length_le (by rw [HL6.out]; exact Nat.le_refl _)
            rw [he] at hse
            have HW9 := Lib.hid (show Wide ⟨h, q⟩ bs u (k + 1) se from by rw [hse.out]; exact HW.out)
            have HM9 := Lib.hid (show se.length ≤ M from by rw [hse.out]; exact HMN.out)
            have HK9 := Lib.hid (show k + 1 ≤ se.length from by
              have h1 := addAll_len seen bl
              rw [← hse.out, HLM.out] at h1
              omega)
            clear he hse
            go_wp2
            go_roundw
            case rel => exact ⟨k + 1, se, by go_num, HK9.out, HM9.out, HW9.out, ⟨HR.out.st, HR.out.seen, OwnI.nil _ _, .inl rfl, HR.out.low⟩⟩
            case measure => simp [intOf]; omega
    · have hkm : k = m := by omega
      have HN := Lib.hid (show reaches ⟨h, q⟩ bs u = false from hwd.out.no HON.out (by rw [HLM.out]; omega))
      subst hkm
      go_wp2
      go_ret
      exact ⟨retBool HN.out.symm, HR.out.low⟩
end Go.Proofs.Ytkabfjknpjhonaa
