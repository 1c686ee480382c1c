/- look: the walk (under way, does not build clean yet). -/
import Derived.Test.YtojbddcbnnbklaaGreatDoorClLookI
import Derived.StillTailTactics
import Derived.Deep.RegionLaw
import Derived.Deep.DeepCutAuto
import Derived.Deep.AppendLies
namespace Go.Proofs.YtojbddcbnnbklaaGreatDoor
open Go.RowKit P43
attribute [local go_sem] ByteArray.mk_append_mk ByteArray.extract_mk mk_index

theorem wpStill_load_cells {P : Program} {ops : Array Oper} {w : World} {Q : Act → Prop} {rest : List Oper} {o : Oper} {a : Act} (hw : Region.wanted o (yielded ops a.tmps) = true) (ty : TypeId) (x : Operand) (ho : o.op = .load ty x)
    (ad : Addr) (hx : a.eval x = .pointer (some ad)) (cs : Array Value) (d : TypeDesc) (hc : ∀ j u, cs[j]? = some u → w.cell? (ad.add j) = some u)
    (hu : P.underlying ty = some d) (hd : (match d with | .struct _ | .array _ _ => true | _ => false) = true) (hi : (P.info? ty).map (·.size) = some cs.size)
    (h : wpStill P ops w Q rest (a.put o.dst (.agg cs))) : wpStill P ops w Q (o :: rest) a := by
  refine wpStill_step (fun K hK => ?_)
  rw [if_pos hw]
  unfold Oper.still execOp
  simp only [ho, hx, Instr.loadAt, Instr.sureAddr, Sem.run_bind, Sem.run_pure, Result.andThen_ok, run_loadVar_cells w ad ty cs d hc hu hd hi]
  exact ⟨rfl, hK _ h⟩
theorem infoC : (Tryz.prog.info? tC).map (fun i => (i.zero, i.size, i.bytes)) = some (some (.agg #[.int .i64 0, .map none]), 2, 16) := by kernel_rfl
theorem qcells {w : World} {q : Nat} {x : Cm} (h : Blk w q tC (ca x)) : w.cell? ⟨q, 0, none⟩ = some (.int .i64 x.1.id) ∧ w.cell? ⟨q, 1, none⟩ = some (.map (some x.2)) := by
  have h0 := h.cell 0
  have h1 := h.cell 1
  simp [ca] at h0 h1
  exact ⟨h0, h1⟩
/-- What look leaves. -/
def LPost (w : World) (B p : Nat) (r : TM) (outs : List Int) (e : Ending) (w' : World) : Prop := ∃ v vh vw, e = .returned v ∧ OwnI w' w.heap.size v outs ∧ Tbl w' B p r.hs r.ws vh vw ∧ Moved p NoM w w' ∧ (∀ k, v.ownBlock = some k → ¬ Foot w' p k)
set_option maxRecDepth 100000 in
set_option maxHeartbeats 4000000 in
theorem clLook (B p : Nat) (hs ws : List Cm) (vh vw : Value) (w : World) (m : Tbl w B p hs ws vh vw) (hl : hs.length + ws.length ≤ 100000) :
    Calls Tryz.prog 42 #[.pointer (some ⟨p, 0, none⟩)] w (LPost w B p (lookM hs [] ws []).1 (lookM hs [] ws []).2) := by
  have hlenC : (Tryz.prog.info? tC).map (·.size) = some 2 := by kernel_rfl
  obtain ⟨A, c, rfl, hA⟩ := m.clsW
  have hc := m.box.cell 1
  simp at hc
  have HBB := Lib.hid (show B ≤ w.heap.size from by have h1 := m.box.lt; have h2 := m.base; omega)
  have HG0 := Lib.hid (LInv.start m)
  have HL := Lib.hid hl
  obtain ⟨n, hn⟩ : ∃ n, ws.length = n := ⟨_, rfl⟩
  rw [hn] at hc hA HG0
  have HA := Lib.hid hA
  have HN := Lib.hid hn
  have hn1 : n ≤ 100000 := by omega
  clear m hl hA hn
  go_enter Tryz.func42, Tryz.ntmps42
  go_wp2
  clear hc
  go_loopw [3, 4, 12] (fun ov sv iv wr => ∃ h' st pre rest vh outs, iv = .int .i64 pre.length ∧ LInv w wr B p hs ws h' st pre rest vh (.slice A n c) ov sv outs) (fun _ _ iv _ => n - (intOf iv).toNat)
  case atStart => exact ⟨_, _, _, _, _, _, rfl, HG0.out⟩
  case round =>
    obtain ⟨h', st, pre, rest, vh2, outs, rfl, hin⟩ := hrel
    have HIN := Lib.hid hin
    have hsp := hin.split
    clear hin
    cases rest with
    | nil =>
      have hpn : pre.length = n := by rw [← HN.out, hsp, List.append_nil]
      rw [hpn]
      clear hpn hsp
      have hj : ¬ (n : Int) < (n : Int) := by omega
      obtain ⟨As, cs, rfl, hst⟩ := clsT_of HIN.out.still (fun x hx => HIN.out.cl.ns x (by simp [hx]))
      clear hst
      have hc0 := HIN.out.tab.box.cell 1
      simp at hc0
      have hf0 := HIN.out.tab.box.frozen 1
      go_wp2
      go_ret
      obtain ⟨t1, t2, t3, t4⟩ := HIN.out.done HBB.out
      have hgo := HIN.out.go
      rw [lookM] at hgo
      rw [← hgo]
      exact ⟨_, _, _, rfl, t3, t1, t2, t4⟩
    | cons x rest =>
      have hlt : pre.length < n := by rw [← HN.out, hsp]; simp
      obtain ⟨i, hi⟩ : ∃ i, pre.length = i := ⟨_, rfl⟩
      have hx : ws[i]? = some x := by rw [hsp, ← hi]; simp
      obtain ⟨A9, c9, h9, hq9, -⟩ := HIN.out.tab.wait.cells
      injection h9 with h91 h92 h93
      subst h91
      rw [HN.out] at hq9
      rw [hi] at hlt ⊢
      obtain ⟨b, off, x', rfl, hx', x0, x1⟩ := hq9.at_ hlt
      obtain rfl : x = x' := by rw [hx] at hx'; exact Option.some.inj hx'
      have HX := Lib.hid hx
      have HSP := Lib.hid hsp
      have HI := Lib.hid hi
      have hi1 : (i : Int) < (n : Int) := by omega
      have hi2 : (0 : Int) ≤ (i : Int) := by omega
      clear hx hx' hsp hi hq9 h92 h93
      go_upto_region 6 with (fail)
      obtain ⟨w2, q, e1, e2, hb2, hq⟩ := boxes1 wr tC (ca x)
      unfold ca at e1
      rw [show wr.alloc (.cells #[.int .i64 x.1.id, .map (some x.2)] 76) = w2 from e1, e2]
      have HIN2 := Lib.hid (HIN.out.next hb2)
      have HQ := Lib.hid hq
      have HQE := Lib.hid e2
      clear e1 e2 hb2 hq x0 x1
      have hcl := HIN2.out.cl
      obtain ⟨Ah, ch, rfl, hh⟩ := clsT_of HIN2.out.tab.held (fun y hy => hcl.ns y (by simp [hy]))
      obtain ⟨As, cs, rfl, hst⟩ := clsT_of HIN2.out.still (fun y hy => hcl.ns y (by simp [hy]))
      have hnx := hcl.ns x (by simp)
      have HNX := Lib.hid hnx
      have HH := Lib.hid hh
      have HS := Lib.hid hst
      have hc0 := HIN2.out.tab.box.cell 0
      simp at hc0
      clear hh hst hnx hcl
      go_still_tail 6, (by kernel_rfl)
      refine wpStill_load_cells rfl tC (.tmp 6) rfl ⟨q, 0, none⟩ rfl (ca x) _ (by exact HQ.out.add) Tryz.underlying76 rfl hlenC ?_
      repeat still_step
      try refine wpStill_nil ?_
      go_wp2_with fail
      have hdb : Below w2.heap.size w2 w2.drew := (Below.refl _ w2).drew
      have hkd : KeepT w2.heap.size w2 w2.drew := KeepT.of_below hdb
      have HIND := Lib.hid (HIN2.out.next hdb)
      have hlen := HL.out
      have hcall := clBlocked x h' st h'.length ch st.length cs Ah As w2.drew (hkd.ns HNX.out HNX.out.lt) HNX.out.lt (HH.out.keep hkd) (HS.out.keep hkd) (by have := HIND.out.sizes; omega) (by have := HIND.out.sizes; omega)
      unfold cv at hcall
      refine hcall.mono ?_
      rintro e w3 ⟨hb3, lb, rfl, hs3⟩
      have HIN3 := Lib.hid (HIND.out.next hb3)
      have HQ3 := Lib.hid ((HQ.out.below hdb).below hb3)
      have HSQ := Lib.hid hs3
      clear hcall hb3 hs3 hdb hkd hc0
      go_wp2_with fail
      refine (clFree lb _ w3 HSQ.out).mono ?_
      rintro e w4 ⟨rfl, hb4⟩
      have HIN4 := Lib.hid (HIN3.out.next hb4)
      have HQ4 := Lib.hid (HQ3.out.below hb4)
      clear hb4
      have hsz := HIN4.out.sizes
      simp only [List.length_cons] at hsz
      by_cases hbl : blkC (h' ++ st) x = []
      · have hbl2 : decide (blkC h' x ++ blkC st x = []) = true := by rw [← blkC_append]; simpa using hbl
        have HBL := Lib.hid hbl
        rw [hbl2]
        clear hbl hbl2
        go_upto_region 7 with (fail)
        obtain ⟨hn1p, hn2p⟩ := HIN4.out.tab.box_ne
        obtain ⟨a0, a1⟩ := qcells HQ4.out
        have hc8 := HIN4.out.tab.box.cell 0
        have hf8 := HIN4.out.tab.box.frozen 0
        simp at hc8
        obtain ⟨i0, hi0', hz0, hz1, hz2⟩ := info_parts infoC
        have HI0 := Lib.hid hi0'
        have HZ0 := Lib.hid hz0
        have HZ1 := Lib.hid hz1
        have HZ2 := Lib.hid hz2
        obtain ⟨vh5, hvh5⟩ : ∃ vh5, (Value.slice Ah h'.length ch) = vh5 := ⟨_, rfl⟩
        have HVH := Lib.hid hvh5
        have hB8 : B ≤ w4.heap.size := by have h1 := HIN4.out.tab.box.lt; have h2 := HIN4.out.tab.base; omega
        have hq4 := HQ4.out.lt
        have hp4 := HIN4.out.tab.box.lt
        rw [hvh5] at HIN4 hn1p hc8 ⊢
        have hne1 : some p ≠ vh5.ownBlock := fun e => hn1p e.symm
        have hnf : ¬ Foot w4 p q := fun hf => by
          have hq := HQE.out
          rcases HIN4.out.tab.foot.1 hf with e | e | e
          · have := HIN.out.tab.box.lt; omega
          · have := (HIN.out.tab.held.lt q (by rw [HVH.out]; exact e)).2; omega
          · have := (HIN.out.tab.wait.lt q e).2; omega
        have HNF := Lib.hid hnf
        clear hnf hvh5 hi0' hz0 hz1 hz2 hlenC HIN3 HIND HIN2 HIN HSQ HQ3 HH HS hn2p
        go_cut [31] (fun _ wx => ∃ v, Tab wx B p (h' ++ [x]) ws v (.slice (some ⟨b, off, none⟩) n c) ∧ Moved p NoM w4 wx)
        case first =>
          go_region_law ((refine step_append_lies _ (by rfl) _ _ _ (by rfl) B tC i0 _ 2 16 Tryz.underlying60 HI0.out HZ0.out HZ1.out HZ2.out rfl (by omega) vh5 h'.length (ccs h') (by rfl) ((HIN4.out.tab.held.alloc _).drew) ⟨w4.heap.size, 0, none⟩ 1 1 (cc x) (by rfl) (by rfl) (World.news_of_block (cs := ca x) (t := tC) (fr := (0, 0)) (heap_alloc_new w4 _)) (cc_one x) (by omega) (by unfold maxLen; omega) (by omega) (by simp; omega) (w4.heap.size + 1) (by simp) ?_; intro gg cap w9 hown9 hgrow hat hlt9; have hb9 := ((((HIN4.out.tab.box.alloc _).drew).grown hgrow hne1)); have hc9 := hb9.cell 0; have hf9 := hb9.frozen 0; simp at hc9; have HP9 := Lib.hid (HIN4.out.tab.push0 (M := NoM) hgrow hown9 hat); clear hb9 hown9 hat hgrow hlt9))
          all_goals (go_wp2; go_meet; case rel => exact ⟨_, HP9.out⟩)
        case rest =>
          obtain ⟨v8, hm9, hv9⟩ := hcut
          have HQ9 := Lib.hid (HQ4.out.moved hv9 HNF.out (fun h => h))
          have b0 := HQ9.out.cell 0
          simp [ca] at b0
          have HM9 := Lib.hid hm9
          have HV9 := Lib.hid hv9
          have hwle : w.heap.size ≤ wc.heap.size := Nat.le_trans HIN4.out.moved.size hv9.size
          have HOX := Lib.hid (show OwnI wc w.heap.size u3 outs from HIN4.out.out.moved hv9 HIN4.out.apo (fun _ _ h => h))
          have hol : outs.length ≤ 1000000 := by omega
          obtain ⟨i1, hi1', hy0, hy1, hy2⟩ := info_parts infoI
          have HI1 := Lib.hid hi1'
          have HY0 := Lib.hid hy0
          have HY1 := Lib.hid hy1
          have HY2 := Lib.hid hy2
          clear hm9 hv9 hi1' hy0 hy1 hy2 a0 a1 hc8 hf8
          go_wp2_with (at_builtin; refine wpList_append_int rfl (.tmp 34) (.tmp 37) _ rfl w.heap.size i1 _ Tryz.underlying33 HI1.out HY0.out HY1.out HY2.out rfl _ outs rfl (HOX.out.alloc _) x.1.id wc.heap.size 1 rfl (World.cell?_alloc_mark wc _ 3 (0, 0) 0) hol (by simp; omega) ?_; intro v11 w11 hown11 hg11 hat11; have HGV := Lib.hid (HIN4.out.give HBL.out HM9.out HV9.out hg11 hown11 hat11); clear hown11 hg11 hat11)
          go_roundw
          case rel => exact ⟨_, _, pre ++ [x], _, _, _, by rw [List.length_append, HI.out]; go_num, HGV.out⟩
          case measure => simp only [intOf]; omega
      · have hbl2 : decide (blkC h' x ++ blkC st x = []) = false := by rw [← blkC_append]; simpa using hbl
        have HBL := Lib.hid hbl
        rw [hbl2]
        clear hbl hbl2
        obtain ⟨i0, hi0', hz0, hz1, hz2⟩ := info_parts infoC
        have HI0 := Lib.hid hi0'
        have HZ0 := Lib.hid hz0
        have HZ1 := Lib.hid hz1
        have HZ2 := Lib.hid hz2
        have hst4 : st.length ≤ 1000000 := by omega
        have hsw : w.heap.size ≤ w4.heap.size := HIN4.out.moved.size
        obtain ⟨sv5, hsv5⟩ : ∃ sv5, (Value.slice As st.length cs) = sv5 := ⟨_, rfl⟩
        rw [hsv5] at HIN4 ⊢
        obtain ⟨a0, a1⟩ := qcells HQ4.out
        clear hsv5 hi0' hz0 hz1 hz2 hlenC
        go_wp2_with (at_builtin; refine wpList_append_lock rfl (.tmp 39) (.tmp 41) _ rfl w.heap.size tC i0 _ 16 Tryz.underlying60 HI0.out HZ0.out HZ1.out HZ2.out rfl (by omega) _ st rfl (HIN4.out.still.alloc _) x w4.heap.size 0 1 rfl (ClsAt.lit1 w4 tC x) hst4 (by simp; omega) ?_; intro v11 w11 hown11 hg11 hat11 _; have HGV := Lib.hid (HIN4.out.wait HBL.out hg11 hown11 hat11); clear hown11 hg11 hat11)
        go_roundw
        case rel => exact ⟨_, _, pre ++ [x], _, _, _, by rw [List.length_append, HI.out]; go_num, HGV.out⟩
        case measure => simp only [intOf]; omega
end Go.Proofs.YtojbddcbnnbklaaGreatDoor
