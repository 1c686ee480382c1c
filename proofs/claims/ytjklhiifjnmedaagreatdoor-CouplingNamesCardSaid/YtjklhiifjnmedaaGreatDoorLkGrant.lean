/- grant: the waiting locks that wait for nobody are granted, from the front of the queue. -/
import Derived.Test.YtjklhiifjnmedaaGreatDoorLkPut
import Derived.Test.YtjklhiifjnmedaaGreatDoorLkReach
import Derived.Test.YtjklhiifjnmedaaGreatDoorLkDelG
import Derived.Deep.RegionLaw
import Derived.Deep.DeepCutAuto
import Derived.Deep.AppendLies
import Derived.StillTailTactics
namespace Go.Proofs.YtjklhiifjnmedaaGreatDoor
open Go.RowKit P16 P46
attribute [local go_sem] ByteArray.mk_append_mk ByteArray.extract_mk mk_index

theorem World.frozen_drew_alloc (w : World) (o : Obj) (a : Addr) (h : a.block < w.heap.size) : (w.alloc o).drew.frozen? a = w.frozen? a := Below.frozen (Below.alloc (Below.refl _ w) (Nat.le_refl _) o) h
/-- What holds at each round. -/
structure GInv (w wr : World) (B p : Nat) (h q h' pre rest : List Lock) (vh vq outv : Value) (outs : List Int) : Prop where
  mgr : Mgr wr B p h' (pre ++ rest) vh vq
  out : OwnI wr w.heap.size outv outs
  moved : Moved p w wr
  apart : ∀ k, outv.ownBlock = some k → ¬ Foot wr p k
  valids : Valids ⟨h', pre ++ rest⟩
  len : h'.length + (pre ++ rest).length = h.length + q.length
  olen : outs.length + rest.length ≤ q.length
  go : grantGo h' pre rest outs = grantGo h [] q []
theorem GInv.next {w wr w' : World} {B p : Nat} {h q h' pre rest : List Lock} {vh vq outv : Value} {outs : List Int} (g : GInv w wr B p h q h' pre rest vh vq outv outs) (hb : Below wr.heap.size wr w') : GInv w w' B p h q h' pre rest vh vq outv outs := by
  have hm := Moved.of_below hb g.mgr.box.lt
  exact ⟨g.mgr.below hb, g.out.below hb, g.moved.trans hm, hm.out (fun k hk => (g.out.lt k hk).2) g.apart, g.valids, g.len, g.olen, g.go⟩
theorem GInv.wait {w wr : World} {B p : Nat} {h q h' pre rest : List Lock} {l : Lock} {vh vq outv : Value} {outs : List Int} (g : GInv w wr B p h q h' pre (l :: rest) vh vq outv outs) (hb : blks h' pre l ≠ []) : GInv w wr B p h q h' (pre ++ [l]) rest vh vq outv outs := by
  have e : pre ++ [l] ++ rest = pre ++ l :: rest := by simp
  refine ⟨by rw [e]; exact g.mgr, g.out, g.moved, g.apart, by rw [e]; exact g.valids, by rw [e]; exact g.len, by have := g.olen; simp at this; omega, ?_⟩
  have := g.go
  rw [grantGo, if_neg hb] at this
  exact this
theorem GInv.give {w w5 wc w11 : World} {B p : Nat} {h q h' pre rest : List Lock} {l : Lock} {vh vq vh2 vq2 outv outv' : Value} {outs : List Int} {o : Obj} (g : GInv w w5 B p h q h' pre (l :: rest) vh vq outv outs) (hb : blks h' pre l = []) (mc : Mgr wc B p (h' ++ [l]) (pre ++ rest) vh2 vq2) (mv : Moved p w5 wc)
    (hg : (wc.alloc o).grownBy w11 outv.ownBlock) (ho : OwnI w11 w.heap.size outv' (outs ++ [l.unit])) (hat : outv'.ownBlock = outv.ownBlock ∨ outv'.ownBlock = some (wc.alloc o).heap.size) : GInv w w11 B p h q (h' ++ [l]) pre rest vh2 vq2 outv' (outs ++ [l.unit]) := by
  have hb1 : Below wc.heap.size wc (wc.alloc o) := below_alloc (Below.refl _ _) o
  have mc1 := mc.below hb1
  have mv1 := (g.moved.trans mv).trans (Moved.of_below hb1 mc.box.lt)
  have hap : ∀ k, outv.ownBlock = some k → ¬ Foot (wc.alloc o) p k := ((mv.trans (Moved.of_below hb1 mc.box.lt)).out (fun k hk => (g.out.lt k hk).2) g.apart)
  have mc2 := mc1.far hg hap
  refine ⟨mc2, ho, mv1.grown mc1 hg (fun k hk => ⟨(g.out.lt k hk).1, hap k hk⟩), ?_, ⟨fun y hy => ?_, fun y hy => ?_⟩, ?_, ?_, ?_⟩
  · intro k hk hf
    have hf1 : Foot (wc.alloc o) p k := mc1.foot.2 (mc2.foot.1 hf)
    rcases hat with e | e
    · exact hap k (by rw [← e]; exact hk) hf1
    · rw [e] at hk
      cases hk
      have := (mc1.ge hf1).2
      omega
  · rcases List.mem_append.1 hy with hy | hy
    · exact g.valids.1 y hy
    · rw [List.mem_singleton.1 hy]
      exact g.valids.2 l (by simp)
  · refine g.valids.2 y ?_
    rcases List.mem_append.1 hy with hy | hy <;> simp [hy]
  · have := g.len
    simp at this ⊢
    omega
  · have := g.olen
    simp at this ⊢
    omega
  · have := g.go
    rw [grantGo, if_pos hb] at this
    exact this
/-- What granting leaves. -/
def GPost (w : World) (B p : Nat) (s : St) (outs : List Int) (e : Ending) (w' : World) : Prop := ∃ v vh vq, e = .returned v ∧ OwnI w' w.heap.size v outs ∧ Mgr w' B p s.h s.q vh vq ∧ Moved p w w' ∧ (∀ k, v.ownBlock = some k → ¬ Foot w' p k)
set_option maxRecDepth 100000 in
set_option maxHeartbeats 4000000 in
theorem lkGrant (B p : Nat) (h q : List Lock) (vh0 vq0 : Value) (w : World) (m : Mgr w B p h q vh0 vq0) (hl : h.length + q.length ≤ 100000) (hv : Valids ⟨h, q⟩) :
    Calls Tryz.prog 59 #[.pointer (some ⟨p, 0, none⟩)] w (GPost w B p (grant ⟨h, q⟩).1 (grant ⟨h, q⟩).2) := by
  have HG0 := Lib.hid (show GInv w w B p h q h [] q vh0 vq0 (.slice none 0 0) [] from ⟨m, OwnI.nil _ _, Moved.refl _ _, fun k hk => by simp [Value.ownBlock] at hk, hv, rfl, by simp, rfl⟩)
  have HL := Lib.hid hl
  clear m hl hv
  have hlenL : (Tryz.prog.info? 46).map (·.size) = some 6 := by kernel_rfl
  go_enter Tryz.func59, Tryz.ntmps59
  go_wp2
  go_loopw [3, 4] (fun ov iv wr => ∃ h' pre rest vh vq outs, iv = .int .i64 pre.length ∧ GInv w wr B p h q h' pre rest vh vq ov outs) (fun _ iv wr => (match wr.cell? ⟨p, 1, none⟩ with | some (.slice _ n _) => n | _ => 0) - (intOf iv).toNat)
  case atStart => exact ⟨h, [], q, vh0, vq0, [], rfl, HG0.out⟩
  case round =>
    obtain ⟨h', pre, rest, vh, vq, outs, rfl, hin⟩ := hrel
    have HIN := Lib.hid hin
    clear hin
    cases rest with
    | nil =>
      obtain ⟨A, c, hvq, hs, -⟩ := HIN.out.mgr.queue.cells
      subst hvq
      have hc := HIN.out.mgr.box.cell 1
      simp at hc
      have hn1 : pre.length ≤ 100000 := by
        have := HIN.out.len
        have := HL.out
        simp at *
        omega
      clear hs
      obtain ⟨i, hi⟩ : ∃ i, pre.length = i := ⟨_, rfl⟩
      rw [hi] at hc hn1 ⊢
      clear hi
      go_wp2
      go_ret
      have hgo := HIN.out.go
      rw [grantGo] at hgo
      have e : grant ⟨h, q⟩ = (⟨h', pre⟩, outs) := hgo.symm
      rw [e]
      have hm := HIN.out.mgr
      rw [List.append_nil] at hm
      exact ⟨_, _, _, rfl, HIN.out.out, hm, HIN.out.moved, HIN.out.apart⟩
    | cons l rest =>
      obtain ⟨gq, c, hvq⟩ : ∃ gq c, vq = .slice (some ⟨gq, 0, none⟩) (pre ++ l :: rest).length c := by
        rcases HIN.out.mgr.queue.val with ⟨_, h0⟩ | ⟨g, cap, hv⟩
        · simp at h0
        · exact ⟨g, cap, hv⟩
      subst hvq
      have hc0 := HIN.out.mgr.queue.cap
      have hs : LocksAt wr (some ⟨gq, 0, none⟩) (pre ++ l :: rest).length (pre ++ l :: rest) := by
        obtain ⟨A9, c9, h9, hq9, -⟩ := HIN.out.mgr.queue.cells
        injection h9 with h91 h92 h93
        subst h91
        exact hq9
      obtain ⟨i, hi⟩ : ∃ i, pre.length = i := ⟨_, rfl⟩
      obtain ⟨m, hm⟩ : ∃ m, rest.length = m := ⟨_, rfl⟩
      have hn : (pre ++ l :: rest).length = i + 1 + m := by simp [hi, hm]; omega
      have hc := HIN.out.mgr.box.cell 1
      simp only [hn] at hc hs hc0
      simp at hc
      rw [hi]
      have HI := Lib.hid hi
      have HM := Lib.hid hm
      have HN := Lib.hid hn
      have hn1 : i + 1 + m ≤ 100000 := by
        have := HIN.out.len
        have := HL.out
        omega
      clear hi hm
      have hl2 : (pre ++ l :: rest)[i]? = some l := by
        rw [List.getElem?_append_right (by rw [HI.out]; exact Nat.le_refl _), HI.out, Nat.sub_self]
        rfl
      have HR := Lib.hid (show ∀ (k : Nat) (u : Value), (#[.int .i64 l.unit, .int .i64 l.id, .string ⟨l.r.low.toArray⟩, .string ⟨l.r.high.toArray⟩, .bool l.r.e, .bool l.x] : Array Value)[k]? = some u → wr.cell? ((⟨gq, i * 6, none⟩ : Addr).add k) = some u from by simpa using hs.row hl2)
      have HT := Lib.hid (show LocksAt wr (some ⟨gq, 0, none⟩) i pre from by
        have := hs.take (k := i) (by omega)
        rw [List.take_append_of_le_length (by rw [HI.out]; exact Nat.le_refl _), List.take_of_length_le (by rw [HI.out]; exact Nat.le_refl _)] at this
        exact this)
      clear hs hl2 hn
      go_upto_region 5 with (refine wpList_load_cells rfl 46 (.tmp 18) rfl ⟨gq, i * 6, none⟩ rfl _ _ HR.out Tryz.underlying46 rfl hlenL ?_)
      obtain ⟨w4, g5, e1, e2, hb4, h4⟩ := boxes1 wr 46 (la l)
      unfold la at e1
      rw [e1, e2]
      have hg5 : wr.heap.size ≤ g5 := by omega
      have HIN4 := Lib.hid (HIN.out.next hb4)
      have HC4 := Lib.hid h4.add
      have HB4 := Lib.hid h4
      have HT4 := Lib.hid (HT.out.below hb4)
      have hc4 := HIN4.out.mgr.box.cell 1
      simp [HN.out] at hc4
      clear e1 e2 hb4 h4 hc
      have hi0 : (0 : Int) ≤ (i : Int) := by omega
      have hi1 : (i : Int) ≤ (c : Int) := by omega
      go_still_tail 8, (by kernel_rfl)
      refine wpStill_load_cells rfl 46 (.tmp 5) rfl ⟨g5, 0, none⟩ rfl (la l) _ (by exact HC4.out) Tryz.underlying46 rfl hlenL ?_
      repeat still_step
      try refine wpStill_nil ?_
      go_wp2_with fail
      refine (lkBlockers l _ i _ pre B p h' _ vh _ _ (HIN4.out.mgr.below (below_drewN (Below.refl _ _) 1)) (by have := HIN4.out.len; have := HL.out; omega) (HT4.out.below (below_drewN (Below.refl _ _) 1)) (by omega) HIN4.out.valids.1 (fun y hy => HIN4.out.valids.2 y (List.mem_append_left _ hy))).mono ?_
      rintro e w5 ⟨bm, k5, rfl, hs5, hk5, hb5, hlo⟩
      have HIN5 := Lib.hid (HIN4.out.next (below_then (below_drewN (Below.refl _ _) 1) hb5))
      have HB5 := Lib.hid (HB4.out.below (below_then (below_drewN (Below.refl _ _) 1) hb5))
      have HS5 := Lib.hid hs5
      have hc5 := HIN5.out.mgr.box.cell 1
      simp [HN.out] at hc5
      clear hs5 hb5 hlo hc4
      cases hbl : blks h' pre l with
      | cons v vs =>
        have HW := Lib.hid (HIN5.out.wait (by rw [hbl]; simp))
        have HV := Lib.hid (show inL (blks h' pre l) v = true from inL_true (by rw [hbl]; simp))
        clear hbl
        go_wp2_with (refine wpList_set_len rfl (.tmp 28) _ rfl Tryz.underlying113 Tryz.underlying3 rfl HS5.out ?_; intro kk hkk hk0; have hpos : (0 : Int) < (kk : Int) := (by have : kk ≠ 0 := (fun e => by have := hk0.1 e v; rw [HV.out] at this; cases this); omega); clear hk0 hkk)
        go_roundw
        case rel => exact ⟨h', pre ++ [l], rest, vh, _, outs, by rw [List.length_append, HI.out]; go_num, HW.out⟩
        case measure =>
          have hcr := HIN.out.mgr.box.cell 1
          simp [HN.out] at hcr
          simp [intOf, hc5, hcr]
          show m < i + 1 + m - i
          omega
      | nil =>
        have HBL := Lib.hid hbl
        clear hbl
        have HDEL := Lib.hid (lkDelete B gq c pre rest l w5 (by
          have := HIN5.out.mgr.queue
          rw [HN.out] at this
          rw [HI.out, HM.out]
          exact this) (by
          obtain ⟨cur, _, _, _, _, h5, _⟩ := HIN5.out.mgr.queue.blk
          exact h5))
        rw [HI.out, HM.out] at HDEL
        go_wp2_with (refine wpList_set_len rfl (.tmp 28) _ rfl Tryz.underlying113 Tryz.underlying3 rfl HS5.out ?_; intro kk hkk hk0; obtain rfl : kk = 0 := hk0.2 (fun a => by rw [HBL.out]; simp [inL]); clear hk0 hkk)
        refine HDEL.out.mono ?_
        rintro e w6 ⟨rfl, ho6, hg6⟩
        have HO6 := Lib.hid ho6
        have HG6 := Lib.hid hg6
        have HP6 := Lib.hid (HIN5.out.mgr.put1 hg6 ho6 (.inr (.inl rfl)))
        obtain ⟨hn1p, hn2p⟩ := HIN5.out.mgr.box_ne
        have hb6 := HIN5.out.mgr.box.grown hg6 (fun e => hn2p (show some gq = some p from e.symm))
        have hc6 := hb6.cell 1
        have hf6 := hb6.frozen 1
        simp at hc6
        clear ho6 hg6 hb6 hc5
        go_upto_region 8 with (fail)
        have hgqw : gq < wr.heap.size := (HIN.out.mgr.queue.lt gq rfl).2
        have hpw := HIN.out.mgr.box.lt
        have HB8 := Lib.hid ((HB5.out.grown HG6.out (by simp; omega)).far (p := ⟨p, 1, none⟩) (by show g5 ≠ p; omega) (.slice (some ⟨gq, 0, none⟩) (i + m) c))
        clear hc6 hf6
        generalize w6.setCell ⟨p, 1, none⟩ (.slice (some ⟨gq, 0, none⟩) (i + m) c) = w8 at HP6 HB8 ⊢
        obtain ⟨hm8, hv8⟩ := HP6.out
        have HM8 := Lib.hid hm8
        have HV8 := Lib.hid hv8
        have hc8 := hm8.box.cell 0
        have hf8 := hm8.box.frozen 0
        simp at hc8
        obtain ⟨a0, a1, a2, a3, a4, a5⟩ := lcells HB8.out
        have hp8 := hm8.box.lt
        have hB8 : B ≤ w8.heap.size := Nat.le_trans hm8.base (Nat.le_of_lt hp8)
        have hg8 := HB8.out.lt
        obtain ⟨i0, hi0', hz0, hz1, hz2⟩ := info_parts infoL
        have HI0 := Lib.hid hi0'
        have HZ0 := Lib.hid hz0
        have HZ1 := Lib.hid hz1
        have HZ2 := Lib.hid hz2
        have hne1 : some p ≠ vh.ownBlock := fun e => hn1p e.symm
        have hne2 : some g5 ≠ vh.ownBlock := fun e => by have := (HIN.out.mgr.held.lt g5 e.symm).2; omega
        have hlen8 : h'.length ≤ 100000 := by
          have := HIN.out.len
          have := HL.out
          omega
        clear hm8 hv8 hi0' hz0 hz1 hz2 HP6 HDEL hlenL
        go_cut [51] (fun _ wx => ∃ v, Mgr wx B p (h' ++ [l]) (pre ++ rest) v (.slice (some ⟨gq, 0, none⟩) (i + m) c) ∧ Moved p w8 wx)
        case first =>
          go_region_law ((refine step_append_lies _ (by rfl) _ _ _ (by rfl) B 46 i0 _ 6 64 Tryz.underlying50 HI0.out HZ0.out HZ1.out HZ2.out rfl (by omega) vh h'.length (lcs h') (by rfl) ((HM8.out.held.alloc _).drew) ⟨w8.heap.size, 0, none⟩ 1 1 (lc l) (by rfl) (by rfl) (World.news_of_block (cs := la l) (t := 46) (fr := (0, 0)) (heap_alloc_new w8 _)) (lc_one l) (by omega) (by unfold maxLen; omega) (by omega) (by simp; omega) (w8.heap.size + 1) (by simp) ?_; intro gg cap w9 hown9 hgrow hat hlt9; have hb9 := ((((HM8.out.box.alloc _).drew).grown hgrow hne1)); have hc9 := hb9.cell 0; have hf9 := hb9.frozen 0; simp at hc9; have HP9 := Lib.hid (HM8.out.push0 hgrow hown9 hat); clear hb9 hown9 hat hgrow hlt9))
          all_goals (go_wp2; go_meet; case rel => exact ⟨_, HP9.out⟩)
        case rest =>
          obtain ⟨v8, hm9, hv9⟩ := hcut
          have hnf : ¬ Foot w8 p g5 := fun hf => by
            rcases HM8.out.foot.1 hf with e | e | e
            · omega
            · exact hne2 e.symm
            · have e2 : some gq = some g5 := e
              injection e2 with e2
              omega
          have HB9 := Lib.hid (HB8.out.moved hv9 hnf)
          have b0 := HB9.out.cell 0
          simp [la] at b0
          have HO9 := Lib.hid (HIN5.out.out.moved (HV8.out.trans hv9) HIN5.out.apart)
          have HM9 := Lib.hid hm9
          have HV9 := Lib.hid (HV8.out.trans hv9)
          have hwle : w.heap.size ≤ wc.heap.size := Nat.le_trans HIN5.out.moved.size HV9.out.size
          have hol : outs.length ≤ 100000 := by
            have := HIN5.out.olen
            have := HL.out
            simp at *
            omega
          obtain ⟨i1, hi1', hy0, hy1, hy2⟩ := info_parts infoI
          have HI1 := Lib.hid hi1'
          have HY0 := Lib.hid hy0
          have HY1 := Lib.hid hy1
          have HY2 := Lib.hid hy2
          clear hm9 hv9 hnf hi1' hy0 hy1 hy2 a0 a1 a2 a3 a4 a5 hc8 hf8
          go_wp2_with (at_builtin; refine wpList_append_int rfl (.tmp 54) (.tmp 57) _ rfl w.heap.size i1 _ Tryz.underlying36 HI1.out HY0.out HY1.out HY2.out rfl _ outs rfl (HO9.out.alloc _) l.unit wc.heap.size 1 rfl (World.cell?_alloc_mark wc _ 3 (0, 0) 0) (by omega) (by simp; omega) ?_; intro v11 w11 hown11 hg11 hat11; have HGV := Lib.hid (HIN5.out.give HBL.out HM9.out HV9.out hg11 hown11 hat11); clear hown11 hg11 hat11)
          go_roundw
          case rel => exact ⟨h' ++ [l], pre, rest, _, _, _, by rw [HI.out], HGV.out⟩
          case measure =>
            have hcr := HIN.out.mgr.box.cell 1
            have hc11 := HGV.out.mgr.box.cell 1
            simp [HN.out] at hcr hc11
            simp only [hc11, hcr, intOf]
            show i + m - (i : Int).toNat < i + 1 + m - (i : Int).toNat
            omega
end Go.Proofs.YtjklhiifjnmedaaGreatDoor
